/- '==' of structs and arrays of plain values is '==' of their cells. -/
import Derived.Test.YtjlalepbhcekoaaAbOps2
import Derived.Laws.StructEq
import Derived.ChangeKeysEq
import Derived.Laws.Strings
set_option linter.unusedVariables false
set_option linter.unusedSimpArgs false
namespace Go.Ab
open Go Go.RowKit
def valEq:Value→Value→Option Bool
 | .int k a,.int k' b=>if k=k' then some (a==b) else none
 | .bool a,.bool b=>some (a==b)
 | .string a,.string b=>some (a.data.toList==b.data.toList)
 | _,_=>none
def valsEq:List Value→List Value→Option Bool
 | [],[]=>some true
 | a::x,b::y=>(valEq a b).bind fun p=>(valsEq x y).map fun q=>p && q
 | _,_=>none
theorem valsEq_len:∀ (x y:List Value) {q:Bool},valsEq x y=some q→x.length=y.length
 | [],[],_,_=>rfl
 | [],_::_,_,h=>by simp [valsEq] at h
 | _::_,[],_,h=>by simp [valsEq] at h
 | a::x,b::y,q,h=>by
  simp only [valsEq] at h
  obtain ⟨p,_,h⟩:=Option.bind_eq_some_iff.1 h
  obtain ⟨r,h,_⟩:=Option.map_eq_some_iff.1 h
  simp [valsEq_len x y h]
theorem valsEq_split:∀ (k:Nat) (x y:List Value) {q:Bool},valsEq x y=some q→k≤x.length →
  ∃ a b,valsEq (x.take k) (y.take k)=some a∧valsEq (x.drop k) (y.drop k)=some b∧q=(a && b)
 | 0,x,y,q,h,_=>⟨true,q,by simp [valsEq],by simpa using h,by simp⟩
 | k + 1,[],y,q,h,hk=>by simp at hk
 | k + 1,a::x,[],q,h,hk=>by simp [valsEq] at h
 | k + 1,a::x,b::y,q,h,hk=>by
  simp only [valsEq] at h
  obtain ⟨p,h1,h⟩:=Option.bind_eq_some_iff.1 h
  obtain ⟨r,h,e⟩:=Option.map_eq_some_iff.1 h
  obtain ⟨c,d,h2,h3,e2⟩:=valsEq_split k x y h (by simpa using hk)
  exact ⟨p && c,d,by simp [valsEq,h1,h2],by simpa using h3,by rw [← e,e2,Bool.and_assoc]⟩
theorem ba_toList (b:ByteArray):b.toList=b.data.toList:=ByteArray.toList_eq b
section
variable {P:Program} {w:World}
def Fit (P:Program) (t:TypeId) (x:Value):Prop:=x.cells.size=P.cellsOf t∧if Program.cellsAgg P t=true then ∃ cs,x = .agg cs else x.cells = #[x]
theorem run_part_fit {t:TypeId} (hk:okT P t=true) (cs:Array Value) (off:Nat) (h:off + P.cellsOf t≤cs.size) (h1:∀ v ∈ cs.toList,v.cells = #[v]) :
  ∃ x,(part t cs off).run P w = .ok x w∧Fit P t x∧x.cells.toList=(cs.toList.drop off).take (P.cellsOf t)∨(∃ x,(part t cs off).run P w = .ok x w∧Program.cellsAgg P t=false∧P.cellsOf t≠1):=by
 obtain ⟨d,i,hd,hi,hz,h0⟩:=okT_spec hk
 have ha:=run_isAgg hd w
 have hs:=run_sizeOf hi w
 cases hq:Program.cellsAgg P t with
 | true=>
  rw [hq] at ha
  refine ⟨.agg (cs.extract off (off + P.cellsOf t)),.inl ⟨by simp [part,Sem.run_bind,ha,hs,hz],⟨by simp [Value.cells]; omega,by rw [if_pos hq]; exact ⟨_,rfl⟩⟩,?_⟩⟩
  simp [Value.cells,Array.toList_extract,List.extract]
 | false=>
  rw [hq] at ha
  have hlt:off < cs.size:=by omega
  by_cases h1z:P.cellsOf t=1
  ·have hm:cs[off] ∈ cs.toList:=by simp
   have hc:=h1 _ hm
   refine ⟨cs[off],.inl ⟨by simp [part,Sem.run_bind,ha,hlt],⟨by rw [hc,h1z]; rfl,by rw [hq]; simpa using hc⟩,?_⟩⟩
   rw [hc,h1z]
   apply List.ext_getElem?
   intro k
   cases k with
   | zero=>simp [List.getElem?_drop,hlt]
   | succ k=>simp [List.getElem?_take]
  ·exact ⟨cs[off],.inr ⟨cs[off],by simp [part,Sem.run_bind,ha,hlt],rfl,h1z⟩⟩
def vshape:Value→Nat
 | .int ..=>0
 | .bool _=>1
 | .string _=>2
 | _=>3
def EqOk (P:Program) (dd m:Nat) (t:TypeId):Prop:=∀ (w:World) (x y:Value) (q:Bool),Fit P t x→Fit P t y→x.cells.toList.map vshape=flatTy P m t→valsEq x.cells.toList y.cells.toList=some q→(Op.equalIn dd t x y).run P w = .ok q w
theorem valEq_cell {a b:Value} {q:Bool} (h:valEq a b=some q):a.cells = #[a]∧b.cells = #[b]:=by
 unfold valEq at h
 split at h <;> first | exact ⟨rfl,rfl⟩ | cases h
theorem valsEq_cells:∀ (x y:List Value) {q:Bool},valsEq x y=some q→(∀ v ∈ x,v.cells = #[v])∧(∀ v ∈ y,v.cells = #[v])
 | [],[],_,_=>by simp
 | [],_::_,_,h=>by simp [valsEq] at h
 | _::_,[],_,h=>by simp [valsEq] at h
 | a::x,b::y,q,h=>by
  simp only [valsEq] at h
  obtain ⟨p,h1,h⟩:=Option.bind_eq_some_iff.1 h
  obtain ⟨r,h,_⟩:=Option.map_eq_some_iff.1 h
  obtain ⟨g1,g2⟩:=valsEq_cells x y h
  obtain ⟨k1,k2⟩:=valEq_cell h1
  refine ⟨fun v hv=>?_,fun v hv=>?_⟩
  ·rcases List.mem_cons.1 hv with hv | hv
   ·rw [hv]; exact k1
   ·exact g1 v hv
  ·rcases List.mem_cons.1 hv with hv | hv
   ·rw [hv]; exact k2
   ·exact g2 v hv
theorem run_parts {dd m:Nat} {t:TypeId} (IH:EqOk P dd m t) (hk:okT P t=true) (h1:Program.cellsAgg P t=true∨P.cellsOf t=1) {xs ys:Array Value} {off:Nat} {q:Bool}
  (hsh:((xs.toList.drop off).take (P.cellsOf t)).map vshape=flatTy P m t)
  (hv:valsEq ((xs.toList.drop off).take (P.cellsOf t)) ((ys.toList.drop off).take (P.cellsOf t))=some q) (hx:off + P.cellsOf t≤xs.size) (hy:off + P.cellsOf t≤ys.size)
  (cx:∀ v ∈ xs.toList,v.cells = #[v]) (cy:∀ v ∈ ys.toList,v.cells = #[v]) :
  ∃ a b,(part t xs off).run P w = .ok a w∧(part t ys off).run P w = .ok b w∧(Op.equalIn dd t a b).run P w = .ok q w:=by
 obtain ⟨a,⟨a1,a2,a3⟩ | ⟨_,_,a2,a3⟩⟩:=run_part_fit (w:=w) hk xs off hx cx
 ·obtain ⟨b,⟨b1,b2,b3⟩ | ⟨_,_,b2,b3⟩⟩:=run_part_fit (w:=w) hk ys off hy cy
  ·exact ⟨a,b,a1,b1,IH w a b q a2 b2 (by rw [a3]; exact hsh) (by rw [a3,b3]; exact hv)⟩
  ·rcases h1 with h1 | h1
   ·rw [h1] at b2; cases b2
   ·exact absurd h1 b3
 ·rcases h1 with h1 | h1
  ·rw [h1] at a2; cases a2
  ·exact absurd h1 a3
theorem plain_size {m:Nat} {t:TypeId} (h:plainT P m t=true):(flatTy P m t).length=P.cellsOf t∧(Program.cellsAgg P t=true∨P.cellsOf t=1):=by
 cases m with
 | zero=>simp [plainT] at h
 | succ m=>
  unfold plainT at h
  rw [Bool.and_eq_true] at h
  obtain ⟨h1,h⟩:=h
  have h1':(flatTy P (m + 1) t).length=P.cellsOf t:=by simpa using h1
  refine ⟨h1',?_⟩
  unfold Program.cellsAgg
  cases hd:P.underlying t with
  | none=>simp [hd] at h
  | some d=>
   rw [hd] at h
   unfold flatTy at h1'
   rw [hd] at h1'
   cases d <;> simp at h h1' ⊢ <;> omega
theorem run_eqFields_plain {dd m:Nat} {xs ys:Array Value} (cx:∀ v ∈ xs.toList,v.cells = #[v]) (cy:∀ v ∈ ys.toList,v.cells = #[v]) (hxy:ys.size=xs.size) :
  ∀ (fs : List Field) (off : Nat) (q : Bool), (∀ f ∈ fs, f.name ≠ "_" ∧ EqOk P dd m f.type ∧ okT P f.type = true ∧ (flatTy P m f.type).length = P.cellsOf f.type ∧ (Program.cellsAgg P f.type = true ∨ P.cellsOf f.type = 1)) →
   plainT.laid P off fs xs.size=true→(xs.toList.drop off).map vshape=fs.flatMap (fun f=>flatTy P m f.type)→valsEq (xs.toList.drop off) (ys.toList.drop off)=some q→(Op.eqFields dd xs ys fs).run P w = .ok q w
 | [],off,q,_,hl,_,hv=>by
  have hl':off=xs.size:=by simpa [plainT.laid] using hl
  have h1:xs.toList.drop off=[]:=List.drop_of_length_le (by simp [hl'])
  have h2:ys.toList.drop off=[]:=List.drop_of_length_le (by simp [hl',hxy])
  rw [h1,h2] at hv
  simp [valsEq] at hv
  simp [Op.eqFields,← hv]
 | f::fs,off,q,hall,hl,hs,hv=>by
  simp only [plainT.laid,Bool.and_eq_true] at hl
  obtain ⟨ho,hl⟩:=hl
  have ho':f.offset=off:=by simpa using ho
  obtain ⟨hn,hp,hk,hfl,h1⟩:=hall f (by simp)
  have hle:off + P.cellsOf f.type≤xs.size:=laid_le fs _ hl
  rw [List.flatMap_cons] at hs
  have hs1:((xs.toList.drop off).take (P.cellsOf f.type)).map vshape=flatTy P m f.type:=by
   rw [List.map_take,hs,← hfl]; exact List.take_left
  have hs2:(xs.toList.drop (off + P.cellsOf f.type)).map vshape=fs.flatMap (fun f=>flatTy P m f.type):=by
   rw [← List.drop_drop,List.map_drop,hs,← hfl]; exact List.drop_left
  obtain ⟨a,b,ha,hb,hq⟩:=valsEq_split (P.cellsOf f.type) _ _ hv (by simp; omega)
  rw [List.drop_drop,List.drop_drop] at hb
  obtain ⟨u,v,p1,p2,p3⟩:=run_parts (w:=w) hp hk h1 (xs:=xs) (ys:=ys) (off:=off) hs1 ha hle (by omega) cx cy
  have ih:=run_eqFields_plain cx cy hxy fs (off + P.cellsOf f.type) b (fun g hg=>hall g (by simp [hg])) hl hs2 hb
  simp only [Op.eqFields,hn,ne_eq,not_false_eq_true,if_true,Sem.run_bind,ho',p1,p2,p3,Result.andThen_ok]
  subst hq
  cases a
  ·simp
  ·simpa using ih
where laid_le:∀ (fs:List Field) (o:Nat) {n:Nat},plainT.laid P o fs n=true→o≤n
  | [],o,n,h=>by simp [plainT.laid] at h; omega
  | f::fs,o,n,h=>by
   simp only [plainT.laid,Bool.and_eq_true] at h
   have:=laid_le fs _ h.2
   omega
theorem run_eqItems_plain' {dd m:Nat} {e:TypeId} (IH:EqOk P dd m e) (hk:okT P e=true) (hfl:(flatTy P m e).length=P.cellsOf e) (h1:Program.cellsAgg P e=true∨P.cellsOf e=1) {xs ys:Array Value} (cx:∀ v ∈ xs.toList,v.cells = #[v]) (cy:∀ v ∈ ys.toList,v.cells = #[v]) (hxy:ys.size=xs.size) :
  ∀ (n i:Nat) (q:Bool),xs.size=(i + n) * P.cellsOf e→(xs.toList.drop (i * P.cellsOf e)).map vshape=(List.replicate n (flatTy P m e)).flatten→valsEq (xs.toList.drop (i * P.cellsOf e)) (ys.toList.drop (i * P.cellsOf e))=some q→(Op.eqItems dd e (P.cellsOf e) xs ys (List.range' i n)).run P w = .ok q w
 | 0,i,q,hz,_,hv=>by
  have h1:xs.toList.drop (i * P.cellsOf e)=[]:=List.drop_of_length_le (by simp [hz])
  have h2:ys.toList.drop (i * P.cellsOf e)=[]:=List.drop_of_length_le (by simp [hz,hxy])
  rw [h1,h2] at hv
  simp [valsEq] at hv
  simp [Op.eqItems,← hv]
 | n + 1,i,q,hz,hs,hv=>by
  have hle:i * P.cellsOf e + P.cellsOf e≤xs.size:=by
   rw [hz,← Nat.succ_mul]; exact Nat.mul_le_mul_right _ (by omega)
  rw [List.replicate_succ,List.flatten_cons] at hs
  have hs1:((xs.toList.drop (i * P.cellsOf e)).take (P.cellsOf e)).map vshape=flatTy P m e:=by
   rw [List.map_take,hs,← hfl]; exact List.take_left
  have hs2:(xs.toList.drop ((i + 1) * P.cellsOf e)).map vshape=(List.replicate n (flatTy P m e)).flatten:=by
   rw [Nat.succ_mul,← List.drop_drop,List.map_drop,hs]
   have:=List.drop_left (l₁:=flatTy P m e) (l₂:=(List.replicate n (flatTy P m e)).flatten)
   rwa [hfl] at this
  obtain ⟨a,b,ha,hb,hq⟩:=valsEq_split (P.cellsOf e) _ _ hv (by simp; omega)
  rw [List.drop_drop,List.drop_drop,← Nat.succ_mul] at hb
  obtain ⟨u,v,p1,p2,p3⟩:=run_parts (w:=w) IH hk h1 (xs:=xs) (ys:=ys) (off:=i * P.cellsOf e) hs1 ha hle (by omega) cx cy
  have ih:=run_eqItems_plain' IH hk hfl h1 cx cy hxy n (i + 1) b (by rw [hz]; congr 1; omega) hs2 hb
  rw [List.range'_succ]
  simp only [Op.eqItems,Sem.run_bind,p1,p2,p3,Result.andThen_ok]
  subst hq
  cases a
  ·simp
  ·simpa using ih
theorem equalIn_plain (d:Nat):∀ (m:Nat) (t:TypeId),plainT P m t=true→okT P t=true→EqOk P (d + m) m t
 | 0,_,h,_=>by simp [plainT] at h
 | m + 1,t,h,hk=>by
  intro w x y q fx fy hs hv
  obtain ⟨hfl,hsz⟩:=plain_size h
  have hh:=h
  unfold plainT at h
  rw [Bool.and_eq_true] at h
  obtain ⟨_,h⟩:=h
  cases hd:P.underlying t with
  | none=>simp [hd] at h
  | some kd=>
   rw [hd] at h
   have scalar:Program.cellsAgg P t=false→valEq x y=some q∧[vshape x]=flatTy P (m + 1) t:=by
    intro hc
    have f1:=fx.2
    have f2:=fy.2
    rw [hc] at f1 f2
    simp only [Bool.false_eq_true,if_false] at f1 f2
    rw [f1,f2] at hv
    rw [f1] at hs
    simp only [valsEq] at hv
    obtain ⟨p,hp,hv⟩:=Option.bind_eq_some_iff.1 hv
    simp at hv
    exact ⟨by rw [hp,hv],by simpa using hs⟩
   cases kd
   case bool=>
    obtain ⟨he,hsh⟩:=scalar (by simp [Program.cellsAgg,hd])
    simp only [flatTy,hd,List.cons.injEq,and_true] at hsh
    unfold valEq at he
    split at he
    ·simp [vshape] at hsh
    ·obtain rfl:=Option.some.inj he
     exact run_equalIn_bool w (d + m) t _ _ hd
    ·simp [vshape] at hsh
    ·cases he
   case int k=>
    obtain ⟨he,hsh⟩:=scalar (by simp [Program.cellsAgg,hd])
    simp only [flatTy,hd,List.cons.injEq,and_true] at hsh
    unfold valEq at he
    split at he
    ·split at he
     ·rename_i hkk
      subst hkk
      obtain rfl:=Option.some.inj he
      exact run_equalIn_int w (d + m) t _ _ _ _ hd
     ·cases he
    ·simp [vshape] at hsh
    ·simp [vshape] at hsh
    ·cases he
   case string=>
    obtain ⟨he,hsh⟩:=scalar (by simp [Program.cellsAgg,hd])
    simp only [flatTy,hd,List.cons.injEq,and_true] at hsh
    unfold valEq at he
    split at he
    ·simp [vshape] at hsh
    ·simp [vshape] at hsh
    ·rename_i a b
     obtain rfl:=Option.some.inj he
     have:=Go.run_equalIn_string w (d + m) t a b hd
     rw [ba_toList,ba_toList] at this
     exact this
    ·cases he
   case array n e=>
    simp only [Bool.and_eq_true] at h
    obtain ⟨⟨h1,h2⟩,h3⟩:=h
    have h3':P.cellsOf t=n * P.cellsOf e:=by simpa using h3
    have hc:Program.cellsAgg P t=true:=by simp [Program.cellsAgg,hd]
    have f1:=fx.2
    have f2:=fy.2
    rw [if_pos hc] at f1 f2
    obtain ⟨xs,rfl⟩:=f1
    obtain ⟨ys,rfl⟩:=f2
    obtain ⟨d',i,hd',hi,hz,h0⟩:=okT_spec h2
    have s1:xs.size=P.cellsOf t:=fx.1
    have s2:ys.size=P.cellsOf t:=fy.1
    have hv':valsEq xs.toList ys.toList=some q:=hv
    have hs':xs.toList.map vshape=(List.replicate n (flatTy P m e)).flatten:=by
     have:xs.toList.map vshape=flatTy P (m + 1) t:=hs
     rw [this]; simp [flatTy,hd]
    obtain ⟨cx,cy⟩:=valsEq_cells _ _ hv'
    have:=run_eqItems_plain' (P:=P) (w:=w) (equalIn_plain d m e h1 h2) h2 (plain_size h1).1 (plain_size h1).2 (xs:=xs) (ys:=ys) cx cy (by omega) n 0 q (by rw [s1,h3',Nat.zero_add]) (by simpa using hs') (by simpa using hv')
    rw [show d + (m + 1)=(d + m) + 1 from rfl,run_equalIn_array w (d + m) xs ys hd hi,List.range_eq_range']
    exact this
   case struct fs=>
    simp only [Bool.and_eq_true,List.all_eq_true] at h
    obtain ⟨⟨h1,h2⟩,h3⟩:=h
    have hc:Program.cellsAgg P t=true:=by simp [Program.cellsAgg,hd]
    have f1:=fx.2
    have f2:=fy.2
    rw [if_pos hc] at f1 f2
    obtain ⟨xs,rfl⟩:=f1
    obtain ⟨ys,rfl⟩:=f2
    have s1:xs.size=P.cellsOf t:=fx.1
    have s2:ys.size=P.cellsOf t:=fy.1
    have hv':valsEq xs.toList ys.toList=some q:=hv
    have hs':xs.toList.map vshape=fs.toList.flatMap (fun f=>flatTy P m f.type):=by
     have:xs.toList.map vshape=flatTy P (m + 1) t:=hs
     rw [this]; simp [flatTy,hd]
    obtain ⟨cx,cy⟩:=valsEq_cells _ _ hv'
    have hf:P.fieldsOf t=fs:=by simp [Program.fieldsOf,hd]
    have:=run_eqFields_plain (P:=P) (w:=w) (dd:=d + m) (m:=m) (xs:=xs) (ys:=ys) cx cy (by omega) fs.toList 0 q (fun f hf=>by
     obtain ⟨⟨g1,g2⟩,g3⟩:=h2 f hf
     exact ⟨by simpa using g1,equalIn_plain d m f.type g2 g3,g3,(plain_size g2).1,(plain_size g2).2⟩) (by rw [s1]; exact h3) (by simpa using hs') (by simpa using hv')
    rw [show d + (m + 1)=(d + m) + 1 from rfl,run_equalIn_struct w (d + m) t xs ys (by rw [hf]; exact hd) (by simpa using h1),hf]
    exact this
   all_goals simp at h
end
end Go.Ab

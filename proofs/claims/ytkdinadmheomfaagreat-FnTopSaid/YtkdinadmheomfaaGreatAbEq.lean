/- '==' of structs and arrays of plain values is '==' of their cells. -/
import Derived.Test.YtkdinadmheomfaaGreatAbOps2
import Derived.Laws.StructEq
import Derived.ChangeKeysEq
import Derived.Laws.Strings
set_option linter.unusedVariables false
set_option linter.unusedSimpArgs false
namespace Go.Ab
open Go Go.RowKit
def wI:Value->Value->Option Bool
 | .int k a,.int k' b=>if k=k' then some (a==b) else none
 | .bool a,.bool b=>some (a==b)
 | .string a,.string b=>some (a.data.toList==b.data.toList)
 | _,_=>none
def fS:List Value->List Value->Option Bool
 | [],[]=>some true
 | a::x,b::y=>(wI a b).bind fun p=>(fS x y).map fun q=>p && q
 | _,_=>none
theorem zl:∀ (x y:List Value) {q:Bool},fS x y=some q->x.length=y.length
 | [],[],_,_=>rfl
 | [],_::_,_,h=>by simp [fS] at h
 | _::_,[],_,h=>by simp [fS] at h
 | a::x,b::y,q,h=>by
  simp only [fS] at h
  obtain ⟨p,_,h⟩:=Option.bind_eq_some_iff.1 h
  obtain ⟨r,h,_⟩:=Option.map_eq_some_iff.1 h
  simp [zl x y h]
theorem sQ:∀ (k:Nat) (x y:List Value) {q:Bool},fS x y=some q->k<=x.length ->
  ∃ a b,fS (x.take k) (y.take k)=some a/\fS (x.drop k) (y.drop k)=some b/\q=(a && b)
 | 0,x,y,q,h,_=>⟨true,q,by simp [fS],by simpa using h,by simp⟩
 | k + 1,[],y,q,h,hk=>by simp at hk
 | k + 1,a::x,[],q,h,hk=>by simp [fS] at h
 | k + 1,a::x,b::y,q,h,hk=>by
  simp only [fS] at h
  obtain ⟨p,F,h⟩:=Option.bind_eq_some_iff.1 h
  obtain ⟨r,h,e⟩:=Option.map_eq_some_iff.1 h
  obtain ⟨c,d,G,I,D⟩:=sQ k x y h (by simpa using hk)
  exact ⟨p && c,d,by simp [fS,F,G],by simpa using I,by rw [<- e,D,Bool.and_assoc]⟩
theorem uw (b:ByteArray):b.toList=b.data.toList:=ByteArray.toList_eq b
section
variable {P:Program} {w:World}
def Ox (P:Program) (t:TypeId) (x:Value):Prop:=x.cells.size=P.cellsOf t/\if Program.cellsAgg P t=true then ∃ cs,x = .agg cs else x.cells = #[x]
theorem w9 {t:TypeId} (O:qo P t=true) (cs:Array Value) (off:Nat) (h:off + P.cellsOf t<=cs.size) (I:∀ v ∈ cs.toList,v.cells = #[v]) :
  ∃ x,(part t cs off).run P w = .ok x w/\Ox P t x/\x.cells.toList=(cs.toList.drop off).take (P.cellsOf t)∨(∃ x,(part t cs off).run P w = .ok x w/\Program.cellsAgg P t=false/\P.cellsOf t≠1):=by
 obtain ⟨d,i,J,N,Y,Z⟩:=ee O
 have D:=rQ J w
 have X:=ss N w
 cases hq:Program.cellsAgg P t with
 | true=>
  rw [hq] at D
  refine ⟨.agg (cs.extract off (off + P.cellsOf t)),.inl ⟨by simp [part,Sem.run_bind,D,X,Y],⟨by simp [Value.cells]; omega,by rw [if_pos hq]; exact ⟨_,rfl⟩⟩,?_⟩⟩
  simp [Value.cells,Array.toList_extract,List.extract]
 | false=>
  rw [hq] at D
  have G:off < cs.size:=by omega
  by_cases h1z:P.cellsOf t=1
  ·have U:cs[off] ∈ cs.toList:=by simp
   have F:=I _ U
   refine ⟨cs[off],.inl ⟨by simp [part,Sem.run_bind,D,G],⟨by rw [F,h1z]; rfl,by rw [hq]; simpa using F⟩,?_⟩⟩
   rw [F,h1z]
   apply List.ext_getElem?
   intro k
   cases k with
   | zero=>simp [List.getElem?_drop,G]
   | succ k=>simp [List.getElem?_take]
  ·exact ⟨cs[off],.inr ⟨cs[off],by simp [part,Sem.run_bind,D,G],rfl,h1z⟩⟩
def i6:Value->Nat
 | .int ..=>0
 | .bool _=>1
 | .string _=>2
 | _=>3
def JU (P:Program) (dd m:Nat) (t:TypeId):Prop:=∀ (w:World) (x y:Value) (q:Bool),Ox P t x->Ox P t y->x.cells.toList.map i6=ek P m t->fS x.cells.toList y.cells.toList=some q->(Op.equalIn dd t x y).run P w = .ok q w
theorem D7 {a b:Value} {q:Bool} (h:wI a b=some q):a.cells = #[a]/\b.cells = #[b]:=by
 unfold wI at h
 split at h <;> first | exact ⟨rfl,rfl⟩ | cases h
theorem sJ:∀ (x y:List Value) {q:Bool},fS x y=some q->(∀ v ∈ x,v.cells = #[v])/\(∀ v ∈ y,v.cells = #[v])
 | [],[],_,_=>by simp
 | [],_::_,_,h=>by simp [fS] at h
 | _::_,[],_,h=>by simp [fS] at h
 | a::x,b::y,q,h=>by
  simp only [fS] at h
  obtain ⟨p,I,h⟩:=Option.bind_eq_some_iff.1 h
  obtain ⟨r,h,_⟩:=Option.map_eq_some_iff.1 h
  obtain ⟨F,G⟩:=sJ x y h
  obtain ⟨J,N⟩:=D7 I
  refine ⟨fun v D=>?_,fun v D=>?_⟩
  ·rcases List.mem_cons.1 D with D | D
   ·rw [D]; exact J
   ·exact F v D
  ·rcases List.mem_cons.1 D with D | D
   ·rw [D]; exact N
   ·exact G v D
theorem AL {dd m:Nat} {t:TypeId} (O:JU P dd m t) (N:qo P t=true) (D:Program.cellsAgg P t=true∨P.cellsOf t=1) {xs ys:Array Value} {off:Nat} {q:Bool}
  (Z:((xs.toList.drop off).take (P.cellsOf t)).map i6=ek P m t)
  (aa:fS ((xs.toList.drop off).take (P.cellsOf t)) ((ys.toList.drop off).take (P.cellsOf t))=some q) (ab:off + P.cellsOf t<=xs.size) (ac:off + P.cellsOf t<=ys.size)
  (cx:∀ v ∈ xs.toList,v.cells = #[v]) (Y:∀ v ∈ ys.toList,v.cells = #[v]) :
  ∃ a b,(part t xs off).run P w = .ok a w/\(part t ys off).run P w = .ok b w/\(Op.equalIn dd t a b).run P w = .ok q w:=by
 obtain ⟨a,⟨U,F,G⟩ | ⟨_,_,F,G⟩⟩:=w9 (w:=w) N xs off ab cx
 ·obtain ⟨b,⟨X,I,J⟩ | ⟨_,_,I,J⟩⟩:=w9 (w:=w) N ys off ac Y
  ·exact ⟨a,b,U,X,O w a b q F I (by rw [G]; exact Z) (by rw [G,J]; exact aa)⟩
  ·rcases D with D | D
   ·rw [D] at I; cases I
   ·exact absurd D J
 ·rcases D with D | D
  ·rw [D] at F; cases F
  ·exact absurd D G
theorem og {m:Nat} {t:TypeId} (h:iq P m t=true):(ek P m t).length=P.cellsOf t/\(Program.cellsAgg P t=true∨P.cellsOf t=1):=by
 cases m with
 | zero=>simp [iq] at h
 | succ m=>
  unfold iq at h
  rw [Bool.and_eq_true] at h
  obtain ⟨F,h⟩:=h
  have D:(ek P (m + 1) t).length=P.cellsOf t:=by simpa using F
  refine ⟨D,?_⟩
  unfold Program.cellsAgg
  cases hd:P.underlying t with
  | none=>simp [hd] at h
  | some d=>
   rw [hd] at h
   unfold ek at D
   rw [hd] at D
   cases d <;> simp at h D ⊢ <;> omega
theorem qm {dd m:Nat} {xs ys:Array Value} (cx:∀ v ∈ xs.toList,v.cells = #[v]) (I:∀ v ∈ ys.toList,v.cells = #[v]) (U:ys.size=xs.size) :
  ∀ (D : List Field) (off : Nat) (q : Bool), (∀ f ∈ D, f.name ≠ "_" /\ JU P dd m f.type /\ qo P f.type = true /\ (ek P m f.type).length = P.cellsOf f.type /\ (Program.cellsAgg P f.type = true ∨ P.cellsOf f.type = 1)) ->
   iq.laid P off D xs.size=true->(xs.toList.drop off).map i6=D.flatMap (fun f=>ek P m f.type)->fS (xs.toList.drop off) (ys.toList.drop off)=some q->(Op.eqFields dd xs ys D).run P w = .ok q w
 | [],off,q,_,F,_,hv=>by
  have O:off=xs.size:=by simpa [iq.laid] using F
  have G:xs.toList.drop off=[]:=List.drop_of_length_le (by simp [O])
  have X:ys.toList.drop off=[]:=List.drop_of_length_le (by simp [O,U])
  rw [G,X] at hv
  simp [fS] at hv
  simp [Op.eqFields,<- hv]
 | f::D,off,q,hall,F,hs,hv=>by
  simp only [iq.laid,Bool.and_eq_true] at F
  obtain ⟨ad,F⟩:=F
  have ae:f.offset=off:=by simpa using ad
  obtain ⟨ac,af,aa,N,G⟩:=hall f (by simp)
  have ab:off + P.cellsOf f.type<=xs.size:=wH D _ F
  rw [List.flatMap_cons] at hs
  have ai:((xs.toList.drop off).take (P.cellsOf f.type)).map i6=ek P m f.type:=by
   rw [List.map_take,hs,<- N]; exact List.take_left
  have aj:(xs.toList.drop (off + P.cellsOf f.type)).map i6=D.flatMap (fun f=>ek P m f.type):=by
   rw [<- List.drop_drop,List.map_drop,hs,<- N]; exact List.drop_left
  obtain ⟨a,b,Y,J,ah⟩:=sQ (P.cellsOf f.type) _ _ hv (by simp; omega)
  rw [List.drop_drop,List.drop_drop] at J
  obtain ⟨u,v,am,an,ao⟩:=AL (w:=w) af aa G (xs:=xs) (ys:=ys) (off:=off) ai Y ab (by omega) cx I
  have ak:=qm cx I U D (off + P.cellsOf f.type) b (fun g Z=>hall g (by simp [Z])) F aj J
  simp only [Op.eqFields,ac,ne_eq,not_false_eq_true,if_true,Sem.run_bind,ae,am,an,ao,Result.andThen_ok]
  subst ah
  cases a
  ·simp
  ·simpa using ak
where wH:∀ (D:List Field) (o:Nat) {n:Nat},iq.laid P o D n=true->o<=n
  | [],o,n,h=>by simp [iq.laid] at h; omega
  | f::D,o,n,h=>by
   simp only [iq.laid,Bool.and_eq_true] at h
   have:=wH D _ h.2
   omega
theorem pY {dd m:Nat} {e:TypeId} (G:JU P dd m e) (N:qo P e=true) (F:(ek P m e).length=P.cellsOf e) (D:Program.cellsAgg P e=true∨P.cellsOf e=1) {xs ys:Array Value} (cx:∀ v ∈ xs.toList,v.cells = #[v]) (I:∀ v ∈ ys.toList,v.cells = #[v]) (O:ys.size=xs.size) :
  ∀ (n i:Nat) (q:Bool),xs.size=(i + n) * P.cellsOf e->(xs.toList.drop (i * P.cellsOf e)).map i6=(List.replicate n (ek P m e)).flatten->fS (xs.toList.drop (i * P.cellsOf e)) (ys.toList.drop (i * P.cellsOf e))=some q->(Op.eqItems dd e (P.cellsOf e) xs ys (List.range' i n)).run P w = .ok q w
 | 0,i,q,hz,_,hv=>by
  have D:xs.toList.drop (i * P.cellsOf e)=[]:=List.drop_of_length_le (by simp [hz])
  have U:ys.toList.drop (i * P.cellsOf e)=[]:=List.drop_of_length_le (by simp [hz,O])
  rw [D,U] at hv
  simp [fS] at hv
  simp [Op.eqItems,<- hv]
 | n + 1,i,q,hz,hs,hv=>by
  have Y:i * P.cellsOf e + P.cellsOf e<=xs.size:=by
   rw [hz,<- Nat.succ_mul]; exact Nat.mul_le_mul_right _ (by omega)
  rw [List.replicate_succ,List.flatten_cons] at hs
  have aa:((xs.toList.drop (i * P.cellsOf e)).take (P.cellsOf e)).map i6=ek P m e:=by
   rw [List.map_take,hs,<- F]; exact List.take_left
  have ab:(xs.toList.drop ((i + 1) * P.cellsOf e)).map i6=(List.replicate n (ek P m e)).flatten:=by
   rw [Nat.succ_mul,<- List.drop_drop,List.map_drop,hs]
   have:=List.drop_left (l₁:=ek P m e) (l₂:=(List.replicate n (ek P m e)).flatten)
   rwa [F] at this
  obtain ⟨a,b,X,J,Z⟩:=sQ (P.cellsOf e) _ _ hv (by simp; omega)
  rw [List.drop_drop,List.drop_drop,<- Nat.succ_mul] at J
  obtain ⟨u,v,ad,ae,af⟩:=AL (w:=w) G N D (xs:=xs) (ys:=ys) (off:=i * P.cellsOf e) aa X Y (by omega) cx I
  have ac:=pY G N F D cx I O n (i + 1) b (by rw [hz]; congr 1; omega) ab J
  rw [List.range'_succ]
  simp only [Op.eqItems,Sem.run_bind,ad,ae,af,Result.andThen_ok]
  subst Z
  cases a
  ·simp
  ·simpa using ac
theorem q8 (d:Nat):∀ (m:Nat) (t:TypeId),iq P m t=true->qo P t=true->JU P (d + m) m t
 | 0,_,h,_=>by simp [iq] at h
 | m + 1,t,h,hk=>by
  intro w x y q N O ab J
  obtain ⟨au,aw⟩:=og h
  have av:=h
  unfold iq at h
  rw [Bool.and_eq_true] at h
  obtain ⟨_,h⟩:=h
  cases hd:P.underlying t with
  | none=>simp [hd] at h
  | some kd=>
   rw [hd] at h
   have ah:Program.cellsAgg P t=false->wI x y=some q/\[i6 x]=ek P (m + 1) t:=by
    intro Y
    have G:=N.2
    have I:=O.2
    rw [Y] at G I
    simp only [Bool.false_eq_true,if_false] at G I
    rw [G,I] at J
    rw [G] at ab
    simp only [fS] at J
    obtain ⟨p,an,J⟩:=Option.bind_eq_some_iff.1 J
    simp at J
    exact ⟨by rw [an,J],by simpa using ab⟩
   cases kd
   case bool=>
    obtain ⟨D,F⟩:=ah (by simp [Program.cellsAgg,hd])
    simp only [ek,hd,List.cons.injEq,and_true] at F
    unfold wI at D
    split at D
    ·simp [i6] at F
    ·obtain rfl:=Option.some.inj D
     exact run_equalIn_bool w (d + m) t _ _ hd
    ·simp [i6] at F
    ·cases D
   case int k=>
    obtain ⟨D,F⟩:=ah (by simp [Program.cellsAgg,hd])
    simp only [ek,hd,List.cons.injEq,and_true] at F
    unfold wI at D
    split at D
    ·split at D
     ·rename_i am
      subst am
      obtain rfl:=Option.some.inj D
      exact run_equalIn_int w (d + m) t _ _ _ _ hd
     ·cases D
    ·simp [i6] at F
    ·simp [i6] at F
    ·cases D
   case string=>
    obtain ⟨D,F⟩:=ah (by simp [Program.cellsAgg,hd])
    simp only [ek,hd,List.cons.injEq,and_true] at F
    unfold wI at D
    split at D
    ·simp [i6] at F
    ·simp [i6] at F
    ·rename_i a b
     obtain rfl:=Option.some.inj D
     have:=Go.run_equalIn_string w (d + m) t a b hd
     rw [uw,uw] at this
     exact this
    ·cases D
   case array n e=>
    simp only [Bool.and_eq_true] at h
    obtain ⟨⟨U,X⟩,h3⟩:=h
    have aj:P.cellsOf t=n * P.cellsOf e:=by simpa using h3
    have Y:Program.cellsAgg P t=true:=by simp [Program.cellsAgg,hd]
    have G:=N.2
    have I:=O.2
    rw [if_pos Y] at G I
    obtain ⟨xs,rfl⟩:=G
    obtain ⟨ys,rfl⟩:=I
    obtain ⟨ap,i,ar,ak,ax,aq⟩:=ee X
    have af:xs.size=P.cellsOf t:=N.1
    have ao:ys.size=P.cellsOf t:=O.1
    have Z:fS xs.toList ys.toList=some q:=J
    have ae:xs.toList.map i6=(List.replicate n (ek P m e)).flatten:=by
     have:xs.toList.map i6=ek P (m + 1) t:=ab
     rw [this]; simp [ek,hd]
    obtain ⟨cx,ac⟩:=sJ _ _ Z
    have:=pY (P:=P) (w:=w) (q8 d m e U X) X (og U).1 (og U).2 (xs:=xs) (ys:=ys) cx ac (by omega) n 0 q (by rw [af,aj,Nat.zero_add]) (by simpa using ae) (by simpa using Z)
    rw [show d + (m + 1)=(d + m) + 1 from rfl,run_equalIn_array w (d + m) xs ys hd ak,List.range_eq_range']
    exact this
   case struct fs=>
    simp only [Bool.and_eq_true,List.all_eq_true] at h
    obtain ⟨⟨U,X⟩,h3⟩:=h
    have Y:Program.cellsAgg P t=true:=by simp [Program.cellsAgg,hd]
    have G:=N.2
    have I:=O.2
    rw [if_pos Y] at G I
    obtain ⟨xs,rfl⟩:=G
    obtain ⟨ys,rfl⟩:=I
    have af:xs.size=P.cellsOf t:=N.1
    have ao:ys.size=P.cellsOf t:=O.1
    have Z:fS xs.toList ys.toList=some q:=J
    have ae:xs.toList.map i6=fs.toList.flatMap (fun f=>ek P m f.type):=by
     have:xs.toList.map i6=ek P (m + 1) t:=ab
     rw [this]; simp [ek,hd]
    obtain ⟨cx,ac⟩:=sJ _ _ Z
    have aa:P.fieldsOf t=fs:=by simp [Program.fieldsOf,hd]
    have:=qm (P:=P) (w:=w) (dd:=d + m) (m:=m) (xs:=xs) (ys:=ys) cx ac (by omega) fs.toList 0 q (fun f aa=>by
     obtain ⟨⟨ai,ad⟩,g3⟩:=X f aa
     exact ⟨by simpa using ai,q8 d m f.type ad g3,g3,(og ad).1,(og ad).2⟩) (by rw [af]; exact h3) (by simpa using ae) (by simpa using Z)
    rw [show d + (m + 1)=(d + m) + 1 from rfl,run_equalIn_struct w (d + m) t xs ys (by rw [aa]; exact hd) (by simpa using U),aa]
    exact this
   all_goals simp at h
end
end Go.Ab

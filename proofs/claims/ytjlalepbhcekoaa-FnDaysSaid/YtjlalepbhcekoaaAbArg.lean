/- What a law's arguments are: trees. -/
import Derived.Test.YtjlalepbhcekoaaAbCode
import Derived.OpenShut
import Derived.ChangeShapes
import Derived.WideShapes
import Derived.SizedLaws
set_option linter.unusedVariables false
set_option linter.unusedSimpArgs false
namespace Go.Ab
open Go Go.RowKit Go.ChangeShapes Go.WideShapes
def plainA (P:Program):Nat→TypeId→Bool
 | 0,_=>false
 | d + 1,t=>match P.underlying t with
  | some .bool | some (.int _) | some .string=>true
  | some (.slice e)=>plainA P d e && decide (0 < P.cellsOf e)
  | some (.struct fs)=>fs.toList.all (fun f=>plainA P d f.type) && plainT.laid P 0 fs.toList (P.cellsOf t)
  | some (.array n e)=>plainA P d e && Nat.beq (P.cellsOf t) (n * P.cellsOf e)
  | _=>false
def TyFs (T:TypeId→List AV→Prop):List Field→List AV→Prop
 | [],xs=>xs=[]
 | f::r,xs=>∃ a b,xs=a++b∧T f.type a∧TyFs T r b
def TyN (T:List AV→Prop):Nat→List AV→Prop
 | 0,xs=>xs=[]
 | n + 1,xs=>∃ a b,xs=a++b∧T a∧TyN T n b
def Ty (P:Program):Nat→TypeId→List AV→Prop
 | 0,_,_=>False
 | d + 1,t,xs=>match P.underlying t with
  | some .bool=>∃ b,xs=[.bool b]
  | some (.int k)=>∃ n,xs=[.int k n]∧(Lit.int k n).wf=true
  | some .string=>∃ s,xs=[.str s]∧s.length≤reachBytes
  | some (.slice e)=>∃ es,xs=[.sl none es]∧es.length≤maxLen∧es.length * P.bytesOf e≤reachBytes∧∀ c ∈ es,Ty P d e c
  | some (.struct fs)=>TyFs (Ty P d) fs.toList xs
  | some (.array n e)=>TyN (Ty P d e) n xs
  | _=>False
theorem mapM_get {α β:Type} {f:α→Option β}:∀ {l:List α} {r:List β},l.mapM f=some r→r.length=l.length∧∀ (j:Nat) x,l[j]? = some x→f x=r[j]?
 | [],r,h=>by simp at h; subst h; simp
 | a::l,r,h=>by
  rw [List.mapM_cons] at h
  cases ha:f a with
  | none=>simp [ha] at h
  | some b=>
   cases hl:l.mapM f with
   | none=>simp [ha,hl] at h
   | some q=>
    simp [ha,hl] at h
    subst h
    obtain ⟨h1,h2⟩:=mapM_get hl
    refine ⟨by simp [h1],fun j x hj=>?_⟩
    cases j with
    | zero=>simp at hj; subst hj; simpa using ha
    | succ j=>simpa using h2 j x (by simpa using hj)
theorem weights_all {H:Type} {P:Program} {e:TypeId}:∀ {l:List (DataW H)} {x:DataW H},x ∈ l→∀ n ∈ x.weights P e,n ∈ DataW.weightsAll P e l
 | y::l,x,h,n,hn=>by
  simp only [DataW.weightsAll,List.mem_append]
  rcases List.mem_cons.1 h with rfl | h
  ·exact .inl hn
  ·exact .inr (weights_all h n hn)
section
variable {H:Type} {enc:TypeId×Value→H} {P:Program} {W:World} {B:Nat} {R:RefF} {base:Nat} {held:Bool} {spare:Nat→Bool}
def Told1 (P:Program) (W:World) (B:Nat) (R:RefF) (T:List AV→Prop) (cs:List Value):Prop:=
 ∃ xs,T xs∧xs.length=cs.length∧(∀ x ∈ xs,treeOk x=true)∧∀ (i:Nat) x v,xs[i]? = some x→cs[i]? = some v→RC P.cellsOf (fun b=>W.heap[b]?) B R x v
theorem laid_le:∀ {fs:List Field} {off sz:Nat},plainT.laid P off fs sz=true→off≤sz
 | [],off,sz,h=>by simp only [plainT.laid] at h; exact Nat.le_of_eq (Nat.eq_of_beq_eq_true h)
 | f::r,off,sz,h=>by
  simp only [plainT.laid,Bool.and_eq_true] at h
  have:=laid_le h.2
  omega
theorem tyFs_told {T:TypeId→List AV→Prop} {cs:List Value}:∀ (fs:List Field) (off:Nat),plainT.laid P off fs cs.length=true→(∀ f ∈ fs,Told1 P W B R (T f.type) ((cs.drop f.offset).take (P.cellsOf f.type)))→Told1 P W B R (TyFs T fs) (cs.drop off)
 | [],off,hl,h=>by
  simp only [plainT.laid] at hl
  have:=Nat.eq_of_beq_eq_true hl
  exact ⟨[],rfl,by simp [this],by simp,by simp⟩
 | f::r,off,hl,h=>by
  simp only [plainT.laid,Bool.and_eq_true] at hl
  have hoff:=Nat.eq_of_beq_eq_true hl.1
  have hle:=laid_le hl.2
  obtain ⟨a,a1,a2,a3,a4⟩:=h f (by simp)
  obtain ⟨b,b1,b2,b3,b4⟩:=tyFs_told r (off + P.cellsOf f.type) hl.2 (fun f hf=>h f (by simp [hf]))
  rw [hoff] at a2 a4
  have hal:a.length=P.cellsOf f.type:=by rw [a2]; simp; omega
  refine ⟨a++b,⟨a,b,rfl,a1,b1⟩,by simp [hal,b2]; omega,fun x hx=>(List.mem_append.1 hx).elim (a3 x) (b3 x),fun i x v h1 h2=>?_⟩
  rw [List.getElem?_drop] at h2
  by_cases hi:i < a.length
  ·rw [List.getElem?_append_left hi] at h1
   refine a4 i x v h1 ?_
   rw [List.getElem?_take,if_pos (by omega),List.getElem?_drop]; exact h2
  ·rw [List.getElem?_append_right (by omega)] at h1
   refine b4 (i - a.length) x v h1 ?_
   rw [List.getElem?_drop,show off + P.cellsOf f.type + (i - a.length)=off + i by omega]; exact h2
theorem tyN_told {T:List AV→Prop} {cs:List Value} {sz:Nat}:∀ (n i0:Nat),cs.length=(i0 + n) * sz→(∀ i,i0≤i→i < i0 + n→Told1 P W B R T ((cs.drop (i * sz)).take sz))→Told1 P W B R (TyN T n) (cs.drop (i0 * sz))
 | 0,i0,hl,h=>⟨[],rfl,by simp at hl ⊢; omega,by simp,by simp⟩
 | n + 1,i0,hl,h=>by
  have hl2:cs.length=(i0 + 1 + n) * sz:=by rw [hl]; congr 1; omega
  obtain ⟨a,a1,a2,a3,a4⟩:=h i0 (Nat.le_refl _) (by omega)
  obtain ⟨b,b1,b2,b3,b4⟩:=tyN_told n (i0 + 1) hl2 (fun i h1 h2=>h i (by omega) (by omega))
  have hm:(i0 + 1) * sz≤cs.length:=by rw [hl2]; exact Nat.mul_le_mul_right _ (by omega)
  rw [Nat.succ_mul] at hm
  have hal:a.length=sz:=by rw [a2]; simp; omega
  rw [Nat.succ_mul] at b2 b4
  refine ⟨a++b,⟨a,b,rfl,a1,b1⟩,by simp [hal,b2]; omega,fun x hx=>(List.mem_append.1 hx).elim (a3 x) (b3 x),fun i x v h1 h2=>?_⟩
  rw [List.getElem?_drop] at h2
  by_cases hi:i < a.length
  ·rw [List.getElem?_append_left hi] at h1
   refine a4 i x v h1 ?_
   rw [List.getElem?_take,if_pos (by omega),List.getElem?_drop]; exact h2
  ·rw [List.getElem?_append_right (by omega)] at h1
   refine b4 (i - a.length) x v h1 ?_
   rw [List.getElem?_drop,show i0 * sz + sz + (i - a.length)=i0 * sz + i by omega]; exact h2
theorem cell_view0 {b k:Nat}:cellV (fun b=>W.heap[b]?) b k=W.cell? ⟨b,k,none⟩:=by
 unfold cellV World.cell?
 simp only
 cases W.heap[b]? with
 | none=>rfl
 | some o=>cases o <;> rfl
theorem open_tree:∀ (d:Nat) (t:TypeId) (cs:List Value) (fuel:Nat) (y:DataW H×List MemPlace),plainA P d t=true→DataW.trod enc P W base spare held fuel t cs=some y→(∀ n ∈ y.1.weights P t,n≤reachBytes)→Told1 P W B R (Ty P d t) cs
 | 0,t,cs,fuel,y,hp,_,_=>by simp [plainA] at hp
 | d + 1,t,cs,fuel,y,hp,h,hw=>by
  unfold plainA at hp
  have one:∀ (x:AV) (v:Value),cs=[v]→Ty P (d + 1) t [x]→treeOk x=true→RC P.cellsOf (fun b=>W.heap[b]?) B R x v→Told1 P W B R (Ty P (d + 1) t) cs:=by
   intro x v hc h1 h2 h3
   refine ⟨[x],h1,by simp [hc],by simpa using h2,fun i x' v' g1 g2=>?_⟩
   rw [hc] at g2
   cases i with
   | zero=>simp at g1 g2; subst g1; subst g2; exact h3
   | succ i=>simp at g1
  split at hp
  ·rename_i hu
   obtain ⟨b,hc,_⟩:=DataW.trod_bool hu h
   exact one (.bool b) _ hc (by simp only [Ty,hu]; exact ⟨b,rfl⟩) rfl (.bool b)
  ·rename_i k hu
   obtain ⟨n,hc,_,hwf⟩:=DataW.trod_int hu h
   exact one (.int k n) _ hc (by simp only [Ty,hu]; exact ⟨n,rfl,hwf⟩) rfl (.int k n)
  ·rename_i hu
   obtain ⟨s,hc,rfl,hm⟩:=DataW.trod_string hu h
   refine one (.str s.data.toList) _ hc ?_ rfl (.str _ s rfl)
   simp only [Ty,hu]
   exact ⟨_,rfl,hw _ (by simp [DataW.weights])⟩
  ·rename_i e hu
   simp only [Bool.and_eq_true,decide_eq_true_eq] at hp
   obtain ⟨hpe,hs⟩:=hp
   rcases DataW.trod_slice hu h with ⟨hc,_⟩ | ⟨a,len,cap,elems,rest,n,_,hc,rfl,_,hle,hm,hlen,hel,_⟩
   ·refine one (.sl none []) _ hc ?_ rfl (.slN none 0 (fun _=>rfl))
    simp only [Ty,hu]
    exact ⟨[],rfl,by simp,by simp,by simp⟩
   ·have hwt:(elems.length + rest.length) * P.bytesOf e≤reachBytes:=hw _ (by simp [DataW.weights,hu])
    have hbytes:len * P.bytesOf e≤reachBytes:=Nat.le_trans (Nat.mul_le_mul_right _ (by omega)) hwt
    have each:∀ i,i < len→∃ csi:List Value,csi.length=P.cellsOf e∧(∀ j,j < P.cellsOf e→W.cell? ((a.add (i * P.cellsOf e)).add j)=csi[j]?)∧Told1 P W B R (Ty P d e) csi:=by
     intro i hi
     have h1:=hel i hi
     have h2:elems[i]? = some elems[i]:=List.getElem?_eq_getElem (by omega)
     rw [h2] at h1
     obtain ⟨csi,h3,h4⟩:=Option.bind_eq_some_iff.1 h1
     unfold World.cells? at h3
     split at h3
     ·obtain ⟨h5,h6⟩:=mapM_get h3
      refine ⟨csi,by simpa using h5,fun j hj=>h6 j j (by simp [hj]),open_tree d e csi n _ hpe h4 (fun m hm=>hw m ?_)⟩
      simp only [DataW.weights,hu]
      exact List.mem_cons_of_mem _ (List.mem_append_left _ (weights_all (List.mem_map.2 ⟨_,List.getElem_mem (by omega),rfl⟩) m hm))
     ·cases h3
    by_cases h0:len=0
    ·subst h0
     refine one (.sl none []) _ hc ?_ rfl (.slN (some a) cap (fun h=>by cases h))
     simp only [Ty,hu]
     exact ⟨[],rfl,by simp,by simp,by simp⟩
    ·obtain ⟨b,off,spot⟩:=a
     have hspot:spot=none:=by
      obtain ⟨csi,k1,k2,_⟩:=each 0 (by omega)
      have:=k2 0 hs
      rw [Nat.zero_mul] at this
      simp only [Addr.add,if_true] at this
      rw [List.getElem?_eq_getElem (by omega)] at this
      unfold World.cell? at this
      simp only at this
      cases hh:W.heap[b]? with
      | none=>rw [hh] at this; cases this
      | some o=>
       rw [hh] at this
       cases o <;> simp only at this <;> try (cases this; done)
       cases spot with
       | none=>rfl
       | some s=>simp at this
     subst hspot
     let el:Nat→List AV:=fun i=>if hi:i < len then Classical.choose (Classical.choose_spec (each i hi)).2.2 else []
     have hE:∀ i (hi:i < len),∃ csi:List Value,csi.length=P.cellsOf e∧(∀ j,j < P.cellsOf e→W.cell? ⟨b,off + (i * P.cellsOf e + j),none⟩=csi[j]?)∧Ty P d e (el i)∧(el i).length=csi.length∧(∀ x ∈ el i,treeOk x=true)∧∀ (j:Nat) x v,(el i)[j]? = some x→csi[j]? = some v→RC P.cellsOf (fun b=>W.heap[b]?) B R x v:=by
      intro i hi
      have hsp:=Classical.choose_spec (each i hi)
      have hsp2:=Classical.choose_spec hsp.2.2
      have hel':el i=Classical.choose hsp.2.2:=dif_pos hi
      refine ⟨_,hsp.1,fun j hj=>?_,?_⟩
      ·have:=hsp.2.1 j hj
       have hadd:((⟨b,off,none⟩:Addr).add (i * P.cellsOf e)).add j=⟨b,off + (i * P.cellsOf e + j),none⟩:=by rw [Addr.add_mid,Addr.add_mid,Nat.add_assoc]
       exact (congrArg W.cell? hadd).symm.trans this
      ·rw [hel']; exact hsp2
     have hlen2:((List.range len).map el).length=len:=by simp
     have hrc:=RC.slB (S:=P.cellsOf) (V:=fun b=>W.heap[b]?) (B:=B) (R:=R) ((List.range len).map el) b off cap (P.cellsOf e) (fun i j=>(W.cell? ⟨b,off + (i * P.cellsOf e + j),none⟩).getD Go.undef) (by intro he; have:=congrArg List.length he; simp at this; omega) hs
      (fun c hc'=>by
       obtain ⟨i,hi,rfl⟩:=List.mem_map.1 hc'
       obtain ⟨csi,k1,_,_,k4,_⟩:=hE i (by simpa using hi)
       rw [k4,k1])
      (fun i j hi hj=>by
       obtain ⟨csi,k1,k2,_⟩:=hE i (by simpa using hi)
       rw [cell_view0,k2 j hj,List.getElem?_eq_getElem (by omega)]; rfl)
      (fun i j c x h1 h2=>by
       rw [List.getElem?_map] at h1
       obtain ⟨i',h3,rfl⟩:=Option.map_eq_some_iff.1 h1
       obtain ⟨h4,h5⟩:=List.getElem?_eq_some_iff.1 h3
       simp at h4 h5
       subst h5
       obtain ⟨csi,k1,k2,_,k4,_,k6⟩:=hE i h4
       have hj:=(List.getElem?_eq_some_iff.1 h2).1
       have hget:csi[j]? = some csi[j]:=List.getElem?_eq_getElem (by omega)
       rw [k2 j (by omega),hget]
       exact k6 j x _ h2 hget)
      (by simpa using hle)
      (fun c hc'=>by
       obtain ⟨i,hi,rfl⟩:=List.mem_map.1 hc'
       obtain ⟨csi,_,_,_,_,k5,_⟩:=hE i (by simpa using hi)
       exact k5)
     rw [hlen2] at hrc
     refine one (.sl none ((List.range len).map el)) _ hc ?_ rfl hrc
     simp only [Ty,hu]
     refine ⟨_,rfl,by simp; omega,by simpa using hbytes,fun c hc'=>?_⟩
     obtain ⟨i,hi,rfl⟩:=List.mem_map.1 hc'
     exact (hE i (by simpa using hi)).choose_spec.2.2.1
  ·rename_i fs hu
   simp only [Bool.and_eq_true] at hp
   obtain ⟨xs,n,_,rfl,hl,hxl,hx⟩:=DataW.trod_struct hu h
   have:Told1 P W B R (TyFs (Ty P d) fs.toList) (cs.drop 0):=tyFs_told fs.toList 0 (by rw [hl]; exact hp.2) (fun f hf=>by
    obtain ⟨i,hi⟩:=List.getElem?_of_mem hf
    have hlt:=(List.getElem?_eq_some_iff.1 hi).1
    have h1:=hx i f (by simpa using hi)
    have h2:xs[i]? = some (xs[i]'(by rw [hxl]; simpa using hlt)):=List.getElem?_eq_getElem _
    rw [h2] at h1
    refine open_tree d f.type _ n _ (List.all_eq_true.1 hp.1 f hf) h1 (fun m hm=>hw m ?_)
    simp only [DataW.weights,hu]
    exact DataW.weights_mem_each (j:=i) (by rw [List.getElem?_map,hi]; rfl) (by rw [List.getElem?_map,h2]; rfl) m hm)
   rw [List.drop_zero] at this
   obtain ⟨ys,q1,q2⟩:=this
   exact ⟨ys,by simp only [Ty,hu]; exact q1,q2⟩
  ·rename_i n e hu
   simp only [Bool.and_eq_true] at hp
   obtain ⟨xs,m,_,rfl,hl,hxl,hx⟩:=DataW.trod_array hu h
   have:=tyN_told (P:=P) (W:=W) (B:=B) (R:=R) (T:=Ty P d e) (cs:=cs) (sz:=P.cellsOf e) n 0 (by rw [hl,Nat.eq_of_beq_eq_true hp.2,Nat.zero_add]) (fun i _ hi=>by
    have h1:=hx i (by omega)
    have h2:xs[i]? = some (xs[i]'(by omega)):=List.getElem?_eq_getElem _
    rw [h2] at h1
    refine open_tree d e _ m _ hp.1 h1 (fun q hq=>hw q ?_)
    simp only [DataW.weights,hu]
    exact weights_all (List.mem_map.2 ⟨_,List.getElem_mem (by omega),rfl⟩) q hq)
   rw [Nat.zero_mul,List.drop_zero] at this
   obtain ⟨ys,q1,q2⟩:=this
   exact ⟨ys,by simp only [Ty,hu]; exact q1,q2⟩
  ·cases hp
def TyV (P:Program) (d:Nat) (t:TypeId) (x:AV):Prop:=if Program.cellsAgg P t=true then ∃ xs,x = .agg xs∧Ty P d t xs else Ty P d t [x]
theorem open_arg {d:Nat} {t:TypeId} {v:Value} {x:DataW H} {ps:List MemPlace} {b0:Nat} (hp:plainA P d t=true) (hv:Value.okWide P W .any b0 t v) (h:DataW.Trod enc P W base spare held t v x ps) (hw:∀ n ∈ x.weights P t,n≤reachBytes) :
  ∃ y,TyV P d t y∧RC P.cellsOf (fun b=>W.heap[b]?) B R y v:=by
 obtain ⟨fuel,hf⟩:=h
 obtain ⟨xs,h1,h2,h3,h4⟩:=open_tree (B:=B) (R:=R) d t _ fuel _ hp hf hw
 cases d with
 | zero=>simp [plainA] at hp
 | succ d=>
  have single:Program.cellsAgg P t=false→v.cells = #[v]→∃ y,TyV P (d + 1) t y∧RC P.cellsOf (fun b=>W.heap[b]?) B R y v:=by
   intro ha hc
   rw [hc] at h2 h4
   obtain ⟨y,rfl⟩:∃ y,xs=[y]:=by
    match xs,h2 with
    | [y],_=>exact ⟨y,rfl⟩
   exact ⟨y,by unfold TyV; rw [if_neg (by rw [ha]; simp)]; exact h1,h4 0 y v rfl rfl⟩
  unfold plainA at hp
  split at hp
  ·rename_i hu
   obtain ⟨b,hc,_⟩:=DataW.trod_bool hu hf
   have hv':∃ b,v = .bool b:=by
    simp only [Value.okWide,hu,Cell.okWide] at hv
    cases v <;> simp_all [Cell.ok]
   obtain ⟨b',rfl⟩:=hv'
   exact single (by simp [Program.cellsAgg,hu]) rfl
  ·rename_i k hu
   obtain ⟨n,rfl⟩:=okWide_int hu hv
   exact single (by simp [Program.cellsAgg,hu]) rfl
  ·rename_i hu
   obtain ⟨s,rfl⟩:=okWide_string hu hv
   exact single (by simp [Program.cellsAgg,hu]) rfl
  ·rename_i e hu
   obtain ⟨a,len,cap,rfl⟩:=okWide_slice hu hv
   exact single (by simp [Program.cellsAgg,hu]) rfl
  ·rename_i fs hu
   simp only [Value.okWide,hu] at hv
   obtain ⟨cs,rfl,_,_⟩:=hv
   refine ⟨.agg xs,by unfold TyV; rw [if_pos (by simp [Program.cellsAgg,hu])]; exact ⟨xs,rfl,h1⟩,.agg xs cs (by simpa [Value.cells] using h2) (fun i x v g1 g2=>h4 i x v g1 (by simpa [Value.cells] using g2))⟩
  ·rename_i n e hu
   simp only [Value.okWide,hu] at hv
   obtain ⟨cs,rfl,_,_⟩:=hv
   refine ⟨.agg xs,by unfold TyV; rw [if_pos (by simp [Program.cellsAgg,hu])]; exact ⟨xs,rfl,h1⟩,.agg xs cs (by simpa [Value.cells] using h2) (fun i x v g1 g2=>h4 i x v g1 (by simpa [Value.cells] using g2))⟩
  ·cases hp
theorem callN_calls {c:Cx} {an:Nat→Option Ann} {prim:Nat→List AV→Mem→Option (AV×Mem)} {isPrim:Nat→Bool} (hmix:c.P.follows .mixedOrders=true) (hprim:PrimOk c.P prim isPrim) {n f:Nat} {args:List AV} {M M':Mem} {out:AV}
  (h:callN c an prim isPrim (n + 1) f args M=some (out,M')) (hp:isPrim f=false) {w:World} {ρ:Pm} {vals:Array Value} (hM:MR c.P.cellsOf B w M ρ) (hl:args.length=vals.size) (hv:∀ (i:Nat) x v,args[i]? = some x→vals[i]? = some v→RV c.P.cellsOf B w M ρ x v) :
  Calls c.P f vals w (fun e w'=>∃ v ρ',e = .returned v∧Step w M ρ w' M' ρ'∧MR c.P.cellsOf B w' M' ρ'∧RV c.P.cellsOf B w' M' ρ' out v):=by
 simp only [callN,hp,Bool.false_eq_true,if_false] at h
 split at h
 ·rename_i fn an' hf ha
  split at h
  ·rename_i b hb
   split at h
   ·rename_i hc
    unfold bFun at h
    obtain ⟨⟨x,e1,M1⟩,h1,h2⟩:=Option.bind_eq_some_iff.1 h
    have hs0:SR c.P.cellsOf B fn.ntmps { tmps:=vals++Array.replicate (fn.ntmps - vals.size) undef,defers:=[] } w (argEnv 0 args) M ρ:=by
     refine ⟨hM,fun t=>?_,by simp; omega,rfl⟩
     rw [argEnv_get,if_pos (Nat.zero_le _),Nat.sub_zero]
     cases hat:args[t]? with
     | none=>exact .undef _
     | some x=>
      have hlt:=(List.getElem?_eq_some_iff.1 hat).1
      have hv':vals[t]? = some vals[t]:=Array.getElem?_eq_getElem (by omega)
      rw [Array.getD_eq_getD_getElem?,Array.getElem?_append_left (by omega),hv']
      exact hv t x _ hat hv'
    refine calls_of_wp hf hb (exec_sound (callN_sound hmix hprim n) hmix an' n b _ _ _ _ _ h1 ρ _ w _ hs0 (fun a' w' ρ' s1 s2=>?_))
    have hfin:∀ ys,resAll c.P e1 M1 fn.results.toList=some ys→out=oneOr ys→M'=M1→a'.defers=[]∧∃ v,(results fn a'.tmps).run c.P w' = .ok v w'∧∃ v' ρ',Ending.returned v = .returned v'∧Step w M ρ w' M' ρ'∧MR c.P.cellsOf B w' M' ρ'∧RV c.P.cellsOf B w' M' ρ' out v':=by
     intro ys h3 e2 e3
     subst e2
     subst e3
     obtain ⟨v,k1,k2⟩:=res_sound s2 h3
     exact ⟨s2.defers,v,k1,v,ρ',rfl,s1,s2.mr,k2⟩
    cases x with
    | nrm=>
     obtain ⟨ys,h3,h4⟩:=Option.map_eq_some_iff.1 h2
     injection h4 with e2 e3
     exact hfin ys h3 e2.symm e3.symm
    | ret=>
     obtain ⟨ys,h3,h4⟩:=Option.map_eq_some_iff.1 h2
     injection h4 with e2 e3
     exact hfin ys h3 e2.symm e3.symm
    | ext id=>cases h2
   ·cases h
  ·cases h
 ·cases h
theorem law_calls {c:Cx} {an:Nat→Option Ann} {prim:Nat→List AV→Mem→Option (AV×Mem)} {isPrim:Nat→Bool} (hmix:c.P.follows .mixedOrders=true) (hprim:PrimOk c.P prim isPrim) {n f:Nat} {args:List AV} {M':Mem}
  (h:callN c an prim isPrim (n + 1) f args []=some (.bool true,M')) (hp:isPrim f=false) {vals:Array Value} (hl:args.length=vals.size) (hv:∀ (i:Nat) x v,args[i]? = some x→vals[i]? = some v→RC c.P.cellsOf (fun b=>W.heap[b]?) W.heap.size (fun _ _=>none) x v) (hfx:FxOk W.heap.size W) :
  Calls c.P f vals W (fun e W'=>e = .returned (.bool true)∧Below W.heap.size W W'):=by
 have hM0:MR c.P.cellsOf W.heap.size W [] ⟨fun _=>none,fun _=>False⟩:=⟨fun id o h=>by simp at h,fun id id' o o' b c c' h=>by simp at h,fun b h=>h.elim,⟨Nat.le_refl _,fun id o b c h=>by simp at h⟩,hfx⟩
 have hnh:∀ b,¬ Held [] (⟨fun _=>none,fun _=>False⟩:Pm) b:=by rintro b ⟨id,o,c,h,_⟩; simp at h
 have hview:View W [] ⟨fun _=>none,fun _=>False⟩=fun b=>W.heap[b]? := funext fun b=>View.of_not (hnh b) (fun h=>h)
 have href:Ref [] (⟨fun _=>none,fun _=>False⟩:Pm)=fun _ _=>none:=by funext id L; simp [Ref]
 refine (callN_calls (B:=W.heap.size) hmix hprim h hp hM0 hl (fun i x v h1 h2=>by rw [RV,hview,href]; exact hv i x v h1 h2)).mono (fun e W' hr=>?_)
 obtain ⟨v,ρ',rfl,s1,_,s3⟩:=hr
 cases s3
 exact ⟨rfl,s1.os,s1.tape,s1.output,s1.size,fun b hb=>s1.block b hb (hnh b)⟩
theorem prim_none:PrimOk P (fun _ _ _=>none) (fun _=>false):=fun f args M out M' h=>by simp at h
end
end Go.Ab

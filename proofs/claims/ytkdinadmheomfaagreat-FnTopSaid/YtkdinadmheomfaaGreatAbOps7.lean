/- Literals and make; stores and appends. -/
import Derived.Test.YtkdinadmheomfaaGreatAbOps6
set_option linter.unusedVariables false
set_option linter.unusedSimpArgs false
namespace Go.Ab
open Go Go.RowKit
theorem Cb {α:Type} {s:Nat}:∀ (D:List (List α)) (i j:Nat),(∀ l ∈ D,l.length=s)->j < s->D.flatten[i * s + j]? = (D[i]?).bind fun l=>l[j]?
 | [],i,j,_,_=>by simp
 | l::D,i,j,h,hj=>by
  have F:=h l (by simp)
  cases i with
  | zero=>rw [List.flatten_cons,Nat.zero_mul,Nat.zero_add,List.getElem?_append_left (by omega)]; rfl
  | succ i=>
   rw [List.flatten_cons,List.getElem?_append_right (by rw [F,Nat.succ_mul]; omega),F,show (i + 1) * s + j - s=i * s + j by rw [Nat.succ_mul]; omega,Cb D i j (fun l F=>h l (by simp [F])) hj]
   simp
theorem getD_some {α:Type} {l:List α} {k:Nat} (d:α) (h:k < l.length):l[k]? = some (l.getD k d):=by
 rw [List.getD_eq_getElem?_getD,List.getElem?_eq_getElem h]; rfl
theorem Cz {α:Type} {s:Nat}:∀ (D:List (List α)),(∀ l ∈ D,l.length=s)->D.flatten.length=D.length * s
 | [],_=>by simp
 | l::D,h=>by
  rw [List.flatten_cons,List.length_append,Cz D (fun l F=>h l (by simp [F])),h l (by simp),List.length_cons,Nat.succ_mul]; omega
section
variable {P:Program} {S:TypeId->Nat} {B:Nat} {w w':World} {M A:bs} {ρ:Pm}
theorem E3 {t el:TypeId} (O:P.underlying t=some (.slice el)) (G:qo P el=true) (U:((P.info? el).bind (·.zero)).isSome=true) (aa:(b5 P el).length=P.cellsOf el) {len:Nat} {D:Array (Nat×Value)} (N:D.size=len) (ae:len * P.cellsOf el<=16777216)
  (Y:∀ (k:Nat) p,D[k]? = some p->p.1=k/\p.2.cells.size=P.cellsOf el) :
  (Instr.buildSlice t len D).run P w = .ok (.slice (some ⟨w.heap.size,0,none⟩) len len) (w.alloc (.cells ((D.toList.map fun p=>p.2.cells.toList).flatten).toArray el)):=by
 obtain ⟨d,i,ad,F,I,ac⟩:=ee G
 rw [F] at U
 obtain ⟨z,ab⟩:=Option.isSome_iff_exists.1 U
 have X:i.zero=some z:=by simpa using ab
 have af:z.cells.size=i.size:=by rw [<- I,<- aa]; simp [b5,F,X]
 by_cases h0l:len=0
 ·subst h0l
  have Z:D = #[]:=Array.eq_empty_of_size_eq_zero N
  subst Z
  simp [Instr.buildSlice,run_underlying O,sizeOf,typeInfo,F,Instr.fill,newRow,show Array.range 0 = #[] from rfl]
 ·have J:=Ca i.size D.toList 0 ((Array.range (len * i.size)).map (z.cells[· % z.cells.size]!)) (fun k p G=>by
   obtain ⟨a,b⟩:=Y k p (by simpa using G)
   exact ⟨by omega,by rw [b,I]⟩) (by simp [N])
  simp only [Nat.zero_mul,List.take_zero,List.nil_append] at J
  exact run_buildSlice w t el len D _ i z O F X (by rw [<- I]; omega) (by intro e; rcases Nat.mul_eq_zero.1 e with e | e <;> omega) J
theorem Ba (an:fN M A) {kp:Bool} {vs:List AV} {us:List Value} {sz:Nat} (aj:vs.length=us.length) (I:∀ v ∈ vs,(ec kp v).length=sz/\(ec kp v).all (okC M)=true) (ao:∀ (k:Nat) v u,vs[k]? = some v->us[k]? = some u->RV S B w A ρ v u) :
  (∀ u ∈ us,u.cells.size=sz)/\(∀ e ∈ vs.map (ec kp),e.length=sz)/\(∀ e ∈ vs.map (ec kp),∀ x ∈ e,gB x=true)/\((us.map fun u=>u.cells.toList).flatten).length=vs.length * sz /\
  ∀ (i j:Nat) e x v,(vs.map (ec kp))[i]? = some e->e[j]? = some x->((us.map fun u=>u.cells.toList).flatten)[i * sz + j]? = some v->RV S B w A ρ x v:=by
 have N:∀ (k:Nat) v u,vs[k]? = some v->us[k]? = some u->u.cells.size=sz/\∀ (j:Nat) a b,(ec kp v)[j]? = some a->u.cells[j]? = some b->RV S B w A ρ a b:=by
  intro k v u O ah
  obtain ⟨ae,af⟩:=I v (List.mem_of_getElem? O)
  obtain ⟨ac,ap,ad⟩:=Bf an af (ao k v u O ah)
  exact ⟨by rw [ac,ae],ad⟩
 have Z:∀ u ∈ us,u.cells.size=sz:=by
  intro u G
  obtain ⟨k,X⟩:=List.getElem?_of_mem G
  have aq:=(List.getElem?_eq_some_iff.1 X).1
  exact (N k vs[k] u (by simp [show k < vs.length by omega]) X).1
 have U:∀ l ∈ us.map (fun u=>u.cells.toList),l.length=sz:=by
  intro l ak
  obtain ⟨u,G,rfl⟩:=List.mem_map.1 ak
  simpa using Z u G
 refine ⟨Z,fun e D=>?_,fun e D x J=>?_,?_,fun i j e x v D J F=>?_⟩
 ·obtain ⟨v,F,rfl⟩:=List.mem_map.1 D; exact (I v F).1
 ·obtain ⟨v,F,rfl⟩:=List.mem_map.1 D; exact mq (List.all_eq_true.1 (I v F).2 x J)
 ·rw [Cz _ U]; simp [aj]
 ·rw [List.getElem?_map] at D
  obtain ⟨ab,aa,rfl⟩:=Option.map_eq_some_iff.1 D
  have ai:j < sz:=by
   have:=(List.getElem?_eq_some_iff.1 J).1
   rw [(I ab (List.mem_of_getElem? aa)).1] at this; exact this
  rw [Cb _ i j U ai] at F
  obtain ⟨l,Y,am⟩:=Option.bind_eq_some_iff.1 F
  rw [List.getElem?_map] at Y
  obtain ⟨u,G,rfl⟩:=Option.map_eq_some_iff.1 Y
  exact (N i ab u aa G).2 j x v J (by simpa using am)
theorem KB (aj:fN M A) (hA:MR P.cellsOf B w A ρ) (ae:B<=w.heap.size) {t el:TypeId} (ar:P.underlying t=some (.slice el)) (ai:qo P el=true) (av:((P.info? el).bind (·.zero)).isSome=true) (aw:(b5 P el).length=P.cellsOf el)
  {vs:List AV} {D:Array (Nat×Value)} {y:AV} (Z:D.size=vs.length) (aq:vs.length * P.cellsOf el<=16777216) (h:eX el (P.cellsOf el) vs M=some y) (am:∀ (k:Nat) p,D[k]? = some p->p.1=k)
  (ao:∀ (k:Nat) v p,vs[k]? = some v->D[k]? = some p->RV P.cellsOf B w A ρ v p.2) :
  we P.cellsOf B w A ρ ((Instr.buildSlice t vs.length D).run P w) A y:=by
 unfold eX at h
 obtain ⟨es,F,h⟩:=Option.bind_eq_some_iff.1 h
 split at h
 ·rename_i I
  obtain rfl:=Option.some.inj h
  obtain ⟨rfl,au⟩:=t0 F
  obtain ⟨ac,O,ay,G,U⟩:=Ba (S:=P.cellsOf) (B:=B) (w:=w) (ρ:=ρ) aj (vs:=vs) (us:=D.toList.map (·.2)) (by simp [Z]) au (fun k v u ad X=>by
   rw [List.getElem?_map] at X
   obtain ⟨p,an,rfl⟩:=Option.map_eq_some_iff.1 X
   exact ao k v p ad (by simpa using an))
  have ap:=E3 (w:=w) ar ai av aw Z aq (fun k p Y=>⟨am k p Y,ac p.2 (by simp only [List.mem_map]; exact ⟨p,by simpa using Array.mem_of_getElem? Y,rfl⟩)⟩)
  obtain ⟨ab,ax,az⟩:=AM hA ((D.toList.map fun p=>p.2.cells.toList).flatten).toArray el
  have ak:(D.toList.map (·.2)).map (fun u=>u.cells.toList)=D.toList.map fun p=>p.2.cells.toList:=by rw [List.map_map]; rfl
  rw [ak] at G U
  have af:(vs.map (ec false)).length=vs.length:=by simp
  refine ⟨_,_,ρ,ap,ab,ax,?_⟩
  have aa:=RC.lit (S:=P.cellsOf) (V:=dc (w.alloc (.cells ((D.toList.map fun p=>p.2.cells.toList).flatten).toArray el)) A ρ) (B:=B) (R:=jK A ρ) el (vs.map (ec false)) w.heap.size _ (fun i j=>((D.toList.map fun p=>p.2.cells.toList).flatten).getD (i * P.cellsOf el + j) Go.undef)
   (Da hA _) ae (by simp [G]) I.2 (by simp; unfold maxLen; have:=I.2; have:vs.length<=vs.length * P.cellsOf el:=Nat.le_mul_of_pos_right _ I.2; omega) O
   (fun i j N ah=>by
    have:i * P.cellsOf el + j < ((D.toList.map fun p=>p.2.cells.toList).flatten).length:=by
     rw [G]
     calc i * P.cellsOf el + j < i * P.cellsOf el + P.cellsOf el:=by omega
      _=(i + 1) * P.cellsOf el:=by rw [Nat.succ_mul]
      _<=vs.length * P.cellsOf el:=Nat.mul_le_mul_right _ (by simp at N; omega)
    rw [List.getElem?_toArray]; exact getD_some _ this)
   (fun i j e x F J=>ab.rv (U i j e x _ F J (by
    have N:=(List.getElem?_eq_some_iff.1 F).1
    have ah:j < P.cellsOf el:=by
     have:=(List.getElem?_eq_some_iff.1 J).1
     rw [O e (List.mem_of_getElem? F)] at this; exact this
    have:i * P.cellsOf el + j < ((D.toList.map fun p=>p.2.cells.toList).flatten).length:=by
     rw [G]
     calc i * P.cellsOf el + j < i * P.cellsOf el + P.cellsOf el:=by omega
      _=(i + 1) * P.cellsOf el:=by rw [Nat.succ_mul]
      _<=vs.length * P.cellsOf el:=Nat.mul_le_mul_right _ (by simp at N; omega)
    exact getD_some _ this)))
   (fun e F x J=>List.all_eq_true.1 (List.all_eq_true.1 I.1 e F) x J)
  rw [af] at aa
  exact aa
 ·cases h
theorem KQ (ah:fN M A) (hA:MR P.cellsOf B w A ρ) {kp:Bool} {n:Nat} (Z:A[n]? = some .pend) {t el:TypeId} (aq:P.underlying t=some (.slice el)) (af:qo P el=true) (aw:((P.info? el).bind (·.zero)).isSome=true) (ax:(b5 P el).length=P.cellsOf el)
  {vs:List AV} {D:Array (Nat×Value)} {y:AV} {J:Eff} (Y:D.size=vs.length) (ap:vs.length * P.cellsOf el<=16777216) (h:o8 kp n el (P.cellsOf el) vs M=some (y,J)) (ak:∀ (k:Nat) p,D[k]? = some p->p.1=k)
  (an:∀ (k:Nat) v p,vs[k]? = some v->D[k]? = some p->RV P.cellsOf B w A ρ v p.2) :
  we P.cellsOf B w A ρ ((Instr.buildSlice t vs.length D).run P w) (qq A n J) y:=by
 unfold o8 at h
 obtain ⟨es,F,h⟩:=Option.bind_eq_some_iff.1 h
 split at h
 ·rename_i O
  injection h with h
  injection h with e1 e2
  subst e1; subst e2
  obtain ⟨rfl,ar⟩:=t0 F
  obtain ⟨aa,ab,ac,G,I⟩:=Ba (S:=P.cellsOf) (B:=B) (w:=w) (ρ:=ρ) ah (vs:=vs) (us:=D.toList.map (·.2)) (by simp [Y]) ar (fun k v u ad N=>by
   rw [List.getElem?_map] at N
   obtain ⟨p,am,rfl⟩:=Option.map_eq_some_iff.1 N
   exact an k v p ad (by simpa using am))
  have ao:=E3 (w:=w) aq af aw ax Y ap (fun k p U=>⟨ak k p U,aa p.2 (by simp only [List.mem_map]; exact ⟨p,by simpa using Array.mem_of_getElem? U,rfl⟩)⟩)
  have ai:(D.toList.map (·.2)).map (fun u=>u.cells.toList)=D.toList.map fun p=>p.2.cells.toList:=by rw [List.map_map]; rfl
  rw [ai] at G I
  have ae:(vs.map (ec kp)).length=vs.length:=by simp
  have aj:vs.length<=maxLen:=by unfold maxLen; have:vs.length<=vs.length * P.cellsOf el:=Nat.le_mul_of_pos_right _ O; omega
  obtain ⟨ay,az⟩:=ry hA Z .grow el (vs.map (ec kp)) ((D.toList.map fun p=>p.2.cells.toList).flatten).toArray _ (m6 w _) w.heap.size vs.length (Nat.le_refl _) (heap_alloc_new w _) O (by simp [G]) (by simp) aj (by simp) ab ac
   (fun i j e x v F av au=>I i j e x v F av (by simpa using au))
  have X:=zc (S:=P.cellsOf) (B:=B) (ρ:=ρ) (w':=w.alloc (.cells ((D.toList.map fun p=>p.2.cells.toList).flatten).toArray el)) (b:=w.heap.size) (cap:=vs.length) (ob:=⟨.grow,el,P.cellsOf el,vs.map (ec kp)⟩) Z
  simp only [ae] at X ⊢
  exact ⟨_,_,_,ao,ay,az,X⟩
 ·cases h
end
end Go.Ab

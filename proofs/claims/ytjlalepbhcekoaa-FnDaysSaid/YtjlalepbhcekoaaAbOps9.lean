/- Stores, make and appends. -/
import Derived.Test.YtjlalepbhcekoaaAbOps8
set_option linter.unusedVariables false
set_option linter.unusedSimpArgs false
namespace Go.Ab
open Go Go.RowKit
theorem splice_get {α:Type} {l vs:List α} {o n k:Nat} (hv:vs.length=n) (hl:o + n≤l.length) :
  (l.take o++vs++l.drop (o + n))[k]? = if k < o then l[k]? else if k < o + n then vs[k - o]? else l[k]? := by
 have h1:(l.take o).length=o:=by simp; omega
 by_cases hk:k < o
 ·rw [if_pos hk,List.append_assoc,List.getElem?_append_left (by omega),List.getElem?_take,if_pos hk]
 ·rw [if_neg hk,List.append_assoc,List.getElem?_append_right (by omega),h1]
  by_cases hk':k < o + n
  ·rw [if_pos hk',List.getElem?_append_left (by omega)]
  ·rw [if_neg hk',List.getElem?_append_right (by omega),List.getElem?_drop,hv]
   congr 1
   omega
section
variable {P:Program} {S:TypeId→Nat} {B:Nat} {w w':World} {M A A':Mem} {ρ ρ':Pm}
theorem rput_self (ρ:Pm) (id:Nat):rput ρ id (ρ id)=ρ:=by
 cases ρ with
 | mk g h=>
  unfold rput
  congr 1
  funext i
  split
  ·rename_i h; rw [h]
  ·rfl
theorem store_rc (hA:MR P.cellsOf B w M ρ) {t:TypeId} (hk:okT P t=true) {x y:AV} {vx vy:Value} {M':Mem} {kp:Bool} (h:aStore kp (P.cellsOf t) x y M=some M') (hx:RV P.cellsOf B w M ρ x vx) (hy:RV P.cellsOf B w M ρ y vy) :
  ∃ w',(Instr.storeAt t vx vy).run P w = .ok () w'∧Step w M ρ w' M' ρ∧MR P.cellsOf B w' M' ρ:=by
 obtain ⟨d,ti,hd,hi,hz,h0⟩:=okT_spec hk
 unfold aStore at h
 cases x with
 | loc id L i j=>
  simp only at h
  obtain ⟨o,ho,h⟩:=Option.bind_eq_some_iff.1 h
  obtain ⟨cs,hcs,h⟩:=Option.bind_eq_some_iff.1 h
  split at h
  ·rename_i hc
   obtain ⟨c1,c2,c3⟩:=hc
   obtain rfl:=Option.some.inj h
   obtain ⟨g1,g2⟩:=getOb_some ho
   obtain ⟨b,cap,hp,hiL,rfl⟩:=loc_inv (MExt.refl M) hx ho
   obtain ⟨cells,k1,k2,k3,k4,k5,k6,k7⟩:=obj_row hA g1 hp
   obtain ⟨v1,v2,v3⟩:=kcells_rc (MExt.refl M) c3 hy
   have hcsl:cs.length=o.s:=k7.2.1 cs (List.mem_of_getElem? hcs)
   have hie:i < o.es.length:=by omega
   have hmul:i * o.s + o.s≤o.es.length * o.s:=by
    have:=Nat.mul_le_mul_right o.s (show i + 1≤o.es.length by omega)
    rw [Nat.succ_mul] at this; exact this
   have hmul2:o.es.length * o.s≤cap * o.s:=Nat.mul_le_mul_right _ k3
   have hfit:i * o.s + j + P.cellsOf t≤cells.toList.length:=by simp; omega
   have hst:=run_storeCells_at P b (i * o.s + j) o.t vy.cells.toList 0 cells w k1 (by simp; simp at hfit; omega) v2
   simp only [Nat.add_zero] at hst
   have hrun:(Instr.storeAt t (.pointer (some ⟨b,i * o.s + j,none⟩)) vy).run P w = .ok () (w.setRow b (cells.toList.take (i * o.s + j)++vy.cells.toList++cells.toList.drop (i * o.s + j + vy.cells.toList.length)).toArray):=by
    simp [Instr.storeAt,storeVar,sizeOf,typeInfo,hi,v1,c1,hz] at hst ⊢
    exact hst
   have hvl:vy.cells.toList.length=P.cellsOf t:=by simp [v1,c1]
   rw [hvl] at hrun
   refine ⟨_,hrun,?_⟩
   have hlen:(o.es.set i (cs.take j++kcells kp y++cs.drop (j + P.cellsOf t))).length=o.es.length:=by simp
   have hg:w.grownBy (w.setRow b (cells.toList.take (i * o.s + j)++vy.cells.toList++cells.toList.drop (i * o.s + j + P.cellsOf t)).toArray) (Pl.block (ρ id)):=by
    rw [hp]; exact set_row_grown w b _
   have hpp:∀ b' c,ρ id=some (b',c)→Pl.block (ρ id)=some b'∨w.heap.size≤b':=fun b' c e=>.inl (by rw [e]; rfl)
   have hen:(Ent.live { o with es:=o.es.set i (cs.take j++kcells kp y++cs.drop (j + P.cellsOf t)) }) = .dead∨∃ es',(Ent.live { o with es:=o.es.set i (cs.take j++kcells kp y++cs.drop (j + P.cellsOf t)) }) = .live { o with es:=es' }∧((o.kn = .grow∧o.es.length < es'.length)∨(es'.length=o.es.length∧ρ id=ρ id)):=
    .inr ⟨_,rfl,.inr ⟨hlen,rfl⟩⟩
   have s1:=row_step hA g1 hg hen hpp
   have s2:=row_mr hA g1 hg hen hpp (fun hst ob hob=>by
    injection hob with hob
    subst hob
    obtain ⟨a1,a2,a3,a4,a5⟩:=hA.obj id o g1
    rw [hp] at hst ⊢
    have hnl:(cs.take j++kcells kp y++cs.drop (j + P.cellsOf t)).length=o.s:=by simp; omega
    refine obr_of_row a1 a2 (fun e he a ha=>?_) (setRow_heap w b cells _ o.t _ k1) (by simp; omega) (by simpa using k3) k4 (fun hb=>?_) ⟨?_,fun e he=>?_,fun i' j' e a v he ha hv=>?_⟩
    ·rcases List.mem_or_eq_of_mem_set he with he | rfl
     ·exact a4 e he a ha
     ·rcases List.mem_append.1 ha with ha | ha
      ·rcases List.mem_append.1 ha with ha | ha
       ·exact a4 cs (List.mem_of_getElem? hcs) a (List.mem_of_mem_take ha)
       ·exact okC_cellOk (List.all_eq_true.1 c3 a ha)
      ·exact a4 cs (List.mem_of_getElem? hcs) a (List.mem_of_mem_drop ha)
    ·rw [hp] at a5
     obtain ⟨_,_,_,_,_,_,q,_⟩:=a5
     simpa using q hb
    ·simp; omega
    ·rcases List.mem_or_eq_of_mem_set he with he | rfl
     ·exact k7.2.1 e he
     ·exact hnl
    ·have hj':j' < o.s:=by
      have hlt:=(List.getElem?_eq_some_iff.1 ha).1
      rcases List.mem_or_eq_of_mem_set (List.mem_of_getElem? he) with he' | rfl
      ·rw [k7.2.1 e he'] at hlt; exact hlt
      ·omega
     dsimp only at he hv
     rw [List.getElem?_take] at hv
     split at hv
     ·rw [splice_get hvl hfit] at hv
      have hlt':i' < o.es.length:=by have:=(List.getElem?_eq_some_iff.1 he).1; simpa using this
      have old:∀ e',o.es[i']? = some e'→e'[j']? = some a→cells.toList[i' * o.s + j']? = some v→RV P.cellsOf B _ _ _ a v:=fun e' q1 q2 q3=>hst.rv (k7.2.2 i' j' e' a v q1 q2 (by
       have hm:=Nat.mul_le_mul_right o.s (show i' + 1≤o.es.length by omega)
       rw [Nat.succ_mul] at hm
       rw [List.getElem?_take,if_pos (by omega)]; exact q3))
      by_cases hii:i'=i
      ·subst hii
       rw [List.getElem?_set_self hie] at he
       obtain rfl:=Option.some.inj he
       rw [splice_get c1 c2] at ha
       by_cases q1:j' < j
       ·rw [if_pos q1] at ha
        rw [if_pos (by omega)] at hv
        exact old cs hcs ha hv
       ·by_cases q2:j' < j + P.cellsOf t
        ·rw [if_neg q1,if_pos (by omega)] at ha
         rw [if_neg (by omega),if_pos (by omega)] at hv
         exact hst.rv (v3 (j' - j) a v ha (by rw [show i' * o.s + j' - (i' * o.s + j)=j' - j by omega] at hv; simpa using hv))
        ·rw [if_neg q1,if_neg (by omega)] at ha
         rw [if_neg (by omega),if_neg (by omega)] at hv
         exact old cs hcs ha hv
      ·rw [List.getElem?_set_ne (Ne.symm hii)] at he
       rcases Nat.lt_or_gt_of_ne hii with hlt | hgt
       ·have hm:=Nat.mul_le_mul_right o.s (show i' + 1≤i by omega)
        rw [Nat.succ_mul] at hm
        rw [if_pos (by omega)] at hv
        exact old e he ha hv
       ·have hm:=Nat.mul_le_mul_right o.s (show i + 1≤i' by omega)
        rw [Nat.succ_mul] at hm
        rw [if_neg (by omega),if_neg (by omega)] at hv
        exact old e he ha hv
     ·cases hv)
   rw [rput_self] at s1 s2
   exact ⟨s1,s2⟩
  ·cases h
 | _=>simp at h
theorem make_rc (hm:MExt M A) (hA:MR P.cellsOf B w A ρ) {n:Nat} (hn:A[n]? = some .pend) {t el:TypeId} (ht:P.underlying t=some (.slice el)) (hk:okT P el=true) (hz0:((P.info? el).bind (·.zero)).isSome=true)
  {l k y:AV} {vl vk:Value} {eff:Eff} (h:aMakeO n el (P.cellsOf el) (P.bytesOf el) (zeroOf P el) l k=some (y,eff)) (hl:RV P.cellsOf B w A ρ l vl) (hk':RV P.cellsOf B w A ρ k vk) :
  Done P.cellsOf B w A ρ ((Instr.makeSlice t vl vk).run P w) (effP A n eff) y:=by
 obtain ⟨d,i,hd,hi,hz,h0⟩:=okT_spec hk
 rw [hi] at hz0
 obtain ⟨z,hzz⟩:=Option.isSome_iff_exists.1 hz0
 have hzz':i.zero=some z:=by simpa using hzz
 obtain ⟨e1,e2⟩:=zeroOf_rc (S:=P.cellsOf) (B:=B) (V:=View w A ρ) (R:=Ref A ρ) hi hzz'
 unfold aMakeO at h
 cases l with
 | int ka a=>
  cases k with
  | int kb b=>
   simp only at h
   cases hl
   cases hk'
   split at h
   ·rename_i hc
    obtain ⟨rfl,c1,c2,c3,c4,c5,c6⟩:=hc
    injection h with h
    injection h with q1 q2
    subst q1; subst q2
    have hby:P.bytesOf el=i.bytes:=by simp [Program.bytesOf,hi]
    rw [hby] at c2
    have hai:((a.toNat:Nat):Int)=a:=by omega
    have hcm:(i.bytes:Int) * a≤281474976710656:=by
     rw [← hai]
     have:((a.toNat * i.bytes:Nat):Int)≤140737488355328:=by omega
     rw [Int.natCast_mul] at this
     rw [Int.mul_comm]; omega
    have hr:=run_make (P:=P) w t el i z ht hi hzz' ka kb a a c1 (Int.le_refl _) hcm (by omega)
    have hsz:z.cells.size=P.cellsOf el:=by rw [← c4,e1]; simp
    obtain ⟨s1,s2⟩:=push_row hA hn .grow el (List.replicate a.toNat (zeroOf P el)) (madeCells z.cells (a.toNat * i.size)) _ (below_alloc1 w _) w.heap.size a.toNat (Nat.le_refl _) (heap_alloc_new w _) c6 (by rw [size_madeCells,hz]) (by simp) (by unfold maxLen; omega) (by simp)
     (fun e he=>by rw [(List.mem_replicate.1 he).2]; exact c4)
     (fun e he x hx=>by rw [(List.mem_replicate.1 he).2] at hx; exact List.all_eq_true.1 c5 x hx)
     (fun i' j e x v he hx hv=>by
      have hee:e=zeroOf P el:=by
       have:=List.mem_of_getElem? he
       exact (List.mem_replicate.1 this).2
      subst hee
      have hj:=(List.getElem?_eq_some_iff.1 hx).1
      rw [c4] at hj
      refine e2 j x v hx ?_
      have:(madeCells z.cells (a.toNat * i.size))[i' * P.cellsOf el + j]? = some v:=hv
      have hlt:=(Array.getElem?_eq_some_iff.1 this).1
      simp only [madeCells] at this
      rw [Array.getElem?_map] at this
      obtain ⟨q,hq,hv'⟩:=Option.map_eq_some_iff.1 this
      rw [Array.getElem?_range] at hq
      split at hq
      ·obtain rfl:=Option.some.inj hq
       rw [hsz,Nat.mul_comm i' _,Nat.mul_add_mod,Nat.mod_eq_of_lt hj] at hv'
       rw [← hv',getElem!_def]
       have:j < z.cells.size:=by omega
       simp [this]
      ·cases hq)
    have hlast:=lsl_new (S:=P.cellsOf) (B:=B) (ρ:=ρ) (w':=w.alloc (.cells (madeCells z.cells (a.toNat * i.size)) el)) (b:=w.heap.size) (cap:=a.toNat) (ob:=⟨.grow,el,P.cellsOf el,List.replicate a.toNat (zeroOf P el)⟩) hn
    simp only [List.length_replicate] at hlast
    exact ⟨_,_,_,hr,s1,s2,hlast⟩
   ·cases h
  | _=>simp at h
 | _=>simp at h
end
end Go.Ab

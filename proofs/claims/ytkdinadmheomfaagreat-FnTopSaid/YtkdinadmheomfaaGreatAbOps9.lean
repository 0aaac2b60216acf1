/- Stores, make and appends. -/
import Derived.Test.YtkdinadmheomfaaGreatAbOps8
set_option linter.unusedVariables false
set_option linter.unusedSimpArgs false
namespace Go.Ab
open Go Go.RowKit
theorem sp {α:Type} {l vs:List α} {o n k:Nat} (F:vs.length=n) (G:o + n<=l.length) :
  (l.take o++vs++l.drop (o + n))[k]? = if k < o then l[k]? else if k < o + n then vs[k - o]? else l[k]? := by
 have D:(l.take o).length=o:=by simp; omega
 by_cases hk:k < o
 ·rw [if_pos hk,List.append_assoc,List.getElem?_append_left (by omega),List.getElem?_take,if_pos hk]
 ·rw [if_neg hk,List.append_assoc,List.getElem?_append_right (by omega),D]
  by_cases hk':k < o + n
  ·rw [if_pos hk',List.getElem?_append_left (by omega)]
  ·rw [if_neg hk',List.getElem?_append_right (by omega),List.getElem?_drop,F]
   congr 1
   omega
section
variable {P:Program} {S:TypeId->Nat} {B:Nat} {w w':World} {M A A':bs} {ρ ρ':Pm}
theorem rZ (ρ:Pm) (id:Nat):fJ ρ id (ρ id)=ρ:=by
 cases ρ with
 | mk g h=>
  unfold fJ
  congr 1
  funext i
  split
  ·rename_i h; rw [h]
  ·rfl
theorem CZ (hA:MR P.cellsOf B w M ρ) {t:TypeId} (aK:qo P t=true) {x y:AV} {aC N:Value} {M':bs} {kp:Bool} (h:ri kp (P.cellsOf t) x y M=some M') (aN:RV P.cellsOf B w M ρ x aC) (aO:RV P.cellsOf B w M ρ y N) :
  ∃ w',(Instr.storeAt t aC N).run P w = .ok () w'/\Step w M ρ w' M' ρ/\MR P.cellsOf B w' M' ρ:=by
 obtain ⟨d,a7,aY,aI,aP,aW⟩:=ee aK
 unfold ri at h
 cases x with
 | loc id L i j=>
  simp only at h
  obtain ⟨o,aq,h⟩:=Option.bind_eq_some_iff.1 h
  obtain ⟨cs,U,h⟩:=Option.bind_eq_some_iff.1 h
  split at h
  ·rename_i aH
   obtain ⟨ah,aF,am⟩:=aH
   obtain rfl:=Option.some.inj h
   obtain ⟨ab,aV⟩:=eo aq
   obtain ⟨b,cap,ac,aZ,rfl⟩:=qG (fN.refl M) aN aq
   obtain ⟨cells,aw,a4,ax,aQ,a5,a6,ad⟩:=po hA ab ac
   obtain ⟨aB,aS,aT⟩:=Bf (fN.refl M) am aO
   have aX:cs.length=o.s:=ad.2.1 cs (List.mem_of_getElem? U)
   have aJ:i < o.es.length:=by omega
   have a2:i * o.s + o.s<=o.es.length * o.s:=by
    have:=Nat.mul_le_mul_right o.s (show i + 1<=o.es.length by omega)
    rw [Nat.succ_mul] at this; exact this
   have a3:o.es.length * o.s<=cap * o.s:=Nat.mul_le_mul_right _ ax
   have ao:i * o.s + j + P.cellsOf t<=cells.toList.length:=by simp; omega
   have O:=run_storeCells_at P b (i * o.s + j) o.t N.cells.toList 0 cells w aw (by simp; simp at ao; omega) aS
   simp only [Nat.add_zero] at O
   have au:(Instr.storeAt t (.pointer (some ⟨b,i * o.s + j,none⟩)) N).run P w = .ok () (w.setRow b (cells.toList.take (i * o.s + j)++N.cells.toList++cells.toList.drop (i * o.s + j + N.cells.toList.length)).toArray):=by
    simp [Instr.storeAt,storeVar,sizeOf,typeInfo,aI,aB,ah,aP] at O ⊢
    exact O
   have av:N.cells.toList.length=P.cellsOf t:=by simp [aB,ah]
   rw [av] at au
   refine ⟨_,au,?_⟩
   have aL:(o.es.set i (cs.take j++ec kp y++cs.drop (j + P.cellsOf t))).length=o.es.length:=by simp
   have ap:w.grownBy (w.setRow b (cells.toList.take (i * o.s + j)++N.cells.toList++cells.toList.drop (i * o.s + j + P.cellsOf t)).toArray) (Pl.block (ρ id)):=by
    rw [ac]; exact qT w b _
   have ar:∀ Z c,ρ id=some (Z,c)->Pl.block (ρ id)=some Z∨w.heap.size<=Z:=fun Z c e=>.inl (by rw [e]; rfl)
   have an:(Ent.live { o with es:=o.es.set i (cs.take j++ec kp y++cs.drop (j + P.cellsOf t)) }) = .dead∨∃ es',(Ent.live { o with es:=o.es.set i (cs.take j++ec kp y++cs.drop (j + P.cellsOf t)) }) = .live { o with es:=es' }/\((o.kn = .grow/\o.es.length < es'.length)∨(es'.length=o.es.length/\ρ id=ρ id)):=
    .inr ⟨_,rfl,.inr ⟨aL,rfl⟩⟩
   have az:=lP hA ab ap an ar
   have aA:=sk hA ab ap an ar (fun O ob aj=>by
    injection aj with aj
    subst aj
    obtain ⟨aD,aE,aU,af,ak⟩:=hA.obj id o ab
    rw [ac] at O ⊢
    have aM:(cs.take j++ec kp y++cs.drop (j + P.cellsOf t)).length=o.s:=by simp; omega
    refine sT aD aE (fun e F a D=>?_) (setRow_heap w b cells _ o.t _ aw) (by simp; omega) (by simpa using ax) aQ (fun aG=>?_) ⟨?_,fun e F=>?_,fun I J e a v F D G=>?_⟩
    ·rcases List.mem_or_eq_of_mem_set F with F | rfl
     ·exact af e F a D
     ·rcases List.mem_append.1 D with D | D
      ·rcases List.mem_append.1 D with D | D
       ·exact af cs (List.mem_of_getElem? U) a (List.mem_of_mem_take D)
       ·exact mq (List.all_eq_true.1 am a D)
      ·exact af cs (List.mem_of_getElem? U) a (List.mem_of_mem_drop D)
    ·rw [ac] at ak
     obtain ⟨_,_,_,_,_,_,q,_⟩:=ak
     simpa using q aG
    ·simp; omega
    ·rcases List.mem_or_eq_of_mem_set F with F | rfl
     ·exact ad.2.1 e F
     ·exact aM
    ·have a0:J < o.s:=by
      have ai:=(List.getElem?_eq_some_iff.1 D).1
      rcases List.mem_or_eq_of_mem_set (List.mem_of_getElem? F) with he' | rfl
      ·rw [ad.2.1 e he'] at ai; exact ai
      ·omega
     dsimp only at F G
     rw [List.getElem?_take] at G
     split at G
     ·rw [sp av ao] at G
      have a1:I < o.es.length:=by have:=(List.getElem?_eq_some_iff.1 F).1; simpa using this
      have ae:∀ aa,o.es[I]? = some aa->aa[J]? = some a->cells.toList[I * o.s + J]? = some v->RV P.cellsOf B _ _ _ a v:=fun aa Y ay aR=>O.rv (ad.2.2 I J aa a v Y ay (by
       have X:=Nat.mul_le_mul_right o.s (show I + 1<=o.es.length by omega)
       rw [Nat.succ_mul] at X
       rw [List.getElem?_take,if_pos (by omega)]; exact aR))
      by_cases hii:I=i
      ·subst hii
       rw [List.getElem?_set_self aJ] at F
       obtain rfl:=Option.some.inj F
       rw [sp ah aF] at D
       by_cases Y:J < j
       ·rw [if_pos Y] at D
        rw [if_pos (by omega)] at G
        exact ae cs U D G
       ·by_cases ay:J < j + P.cellsOf t
        ·rw [if_neg Y,if_pos (by omega)] at D
         rw [if_neg (by omega),if_pos (by omega)] at G
         exact O.rv (aT (J - j) a v D (by rw [show I * o.s + J - (I * o.s + j)=J - j by omega] at G; simpa using G))
        ·rw [if_neg Y,if_neg (by omega)] at D
         rw [if_neg (by omega),if_neg (by omega)] at G
         exact ae cs U D G
      ·rw [List.getElem?_set_ne (Ne.symm hii)] at F
       rcases Nat.lt_or_gt_of_ne hii with ai | hgt
       ·have X:=Nat.mul_le_mul_right o.s (show I + 1<=i by omega)
        rw [Nat.succ_mul] at X
        rw [if_pos (by omega)] at G
        exact ae e F D G
       ·have X:=Nat.mul_le_mul_right o.s (show i + 1<=I by omega)
        rw [Nat.succ_mul] at X
        rw [if_neg (by omega),if_neg (by omega)] at G
        exact ae e F D G
     ·cases G)
   rw [rZ] at az aA
   exact ⟨az,aA⟩
  ·cases h
 | _=>simp at h
theorem J7 (aK:fN M A) (hA:MR P.cellsOf B w A ρ) {n:Nat} (X:A[n]? = some .pend) {t el:TypeId} (ay:P.underlying t=some (.slice el)) (ar:qo P el=true) (Z:((P.info? el).bind (·.zero)).isSome=true)
  {l k y:AV} {ad ac:Value} {N:Eff} (h:v9 n el (P.cellsOf el) (P.bytesOf el) (b5 P el) l k=some (y,N)) (av:RV P.cellsOf B w A ρ l ad) (au:RV P.cellsOf B w A ρ k ac) :
  we P.cellsOf B w A ρ ((Instr.makeSlice t ad ac).run P w) (qq A n N) y:=by
 obtain ⟨d,i,aI,G,aA,aH⟩:=ee ar
 rw [G] at Z
 obtain ⟨z,aB⟩:=Option.isSome_iff_exists.1 Z
 have aa:i.zero=some z:=by simpa using aB
 obtain ⟨aj,ak⟩:=xv (S:=P.cellsOf) (B:=B) (V:=dc w A ρ) (R:=jK A ρ) G aa
 unfold v9 at h
 cases l with
 | int aC a=>
  cases k with
  | int aD b=>
   simp only at h
   cases av
   cases au
   split at h
   ·rename_i ao
    obtain ⟨rfl,ae,af,aG,J,ah,ai⟩:=ao
    injection h with h
    injection h with q1 q2
    subst q1; subst q2
    have an:P.bytesOf el=i.bytes:=by simp [Program.bytesOf,G]
    rw [an] at af
    have am:((a.toNat:Nat):Int)=a:=by omega
    have ap:(i.bytes:Int) * a<=281474976710656:=by
     rw [<- am]
     have:((a.toNat * i.bytes:Nat):Int)<=140737488355328:=by omega
     rw [Int.natCast_mul] at this
     rw [Int.mul_comm]; omega
    have aw:=run_make (P:=P) w t el i z ay G aa aC aD a a ae (Int.le_refl _) ap (by omega)
    have ax:z.cells.size=P.cellsOf el:=by rw [<- J,aj]; simp
    obtain ⟨aE,aF⟩:=ry hA X .grow el (List.replicate a.toNat (b5 P el)) (madeCells z.cells (a.toNat * i.size)) _ (m6 w _) w.heap.size a.toNat (Nat.le_refl _) (heap_alloc_new w _) ai (by rw [size_madeCells,aA]) (by simp) (by unfold maxLen; omega) (by simp)
     (fun e D=>by rw [(List.mem_replicate.1 D).2]; exact J)
     (fun e D x F=>by rw [(List.mem_replicate.1 D).2] at F; exact List.all_eq_true.1 ah x F)
     (fun ab j e x v D F az=>by
      have aq:e=b5 P el:=by
       have:=List.mem_of_getElem? D
       exact (List.mem_replicate.1 this).2
      subst aq
      have O:=(List.getElem?_eq_some_iff.1 F).1
      rw [J] at O
      refine ak j x v F ?_
      have:(madeCells z.cells (a.toNat * i.size))[ab * P.cellsOf el + j]? = some v:=az
      have aJ:=(Array.getElem?_eq_some_iff.1 this).1
      simp only [madeCells] at this
      rw [Array.getElem?_map] at this
      obtain ⟨q,I,Y⟩:=Option.map_eq_some_iff.1 this
      rw [Array.getElem?_range] at I
      split at I
      ·obtain rfl:=Option.some.inj I
       rw [ax,Nat.mul_comm ab _,Nat.mul_add_mod,Nat.mod_eq_of_lt O] at Y
       rw [<- Y,getElem!_def]
       have:j < z.cells.size:=by omega
       simp [this]
      ·cases I)
    have U:=zc (S:=P.cellsOf) (B:=B) (ρ:=ρ) (w':=w.alloc (.cells (madeCells z.cells (a.toNat * i.size)) el)) (b:=w.heap.size) (cap:=a.toNat) (ob:=⟨.grow,el,P.cellsOf el,List.replicate a.toNat (b5 P el)⟩) X
    simp only [List.length_replicate] at U
    exact ⟨_,_,_,aw,aE,aF,U⟩
   ·cases h
  | _=>simp at h
 | _=>simp at h
end
end Go.Ab

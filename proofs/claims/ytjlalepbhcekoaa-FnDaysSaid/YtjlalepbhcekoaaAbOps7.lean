/- Literals and make; stores and appends. -/
import Derived.Test.YtjlalepbhcekoaaAbOps6
set_option linter.unusedVariables false
set_option linter.unusedSimpArgs false
namespace Go.Ab
open Go Go.RowKit
theorem flat_get {α:Type} {s:Nat}:∀ (ls:List (List α)) (i j:Nat),(∀ l ∈ ls,l.length=s)→j < s→ls.flatten[i * s + j]? = (ls[i]?).bind fun l=>l[j]?
 | [],i,j,_,_=>by simp
 | l::ls,i,j,h,hj=>by
  have hl:=h l (by simp)
  cases i with
  | zero=>rw [List.flatten_cons,Nat.zero_mul,Nat.zero_add,List.getElem?_append_left (by omega)]; rfl
  | succ i=>
   rw [List.flatten_cons,List.getElem?_append_right (by rw [hl,Nat.succ_mul]; omega),hl,show (i + 1) * s + j - s=i * s + j by rw [Nat.succ_mul]; omega,flat_get ls i j (fun l hl=>h l (by simp [hl])) hj]
   simp
theorem getD_some {α:Type} {l:List α} {k:Nat} (d:α) (h:k < l.length):l[k]? = some (l.getD k d):=by
 rw [List.getD_eq_getElem?_getD,List.getElem?_eq_getElem h]; rfl
theorem flat_len {α:Type} {s:Nat}:∀ (ls:List (List α)),(∀ l ∈ ls,l.length=s)→ls.flatten.length=ls.length * s
 | [],_=>by simp
 | l::ls,h=>by
  rw [List.flatten_cons,List.length_append,flat_len ls (fun l hl=>h l (by simp [hl])),h l (by simp),List.length_cons,Nat.succ_mul]; omega
section
variable {P:Program} {S:TypeId→Nat} {B:Nat} {w w':World} {M A:Mem} {ρ:Pm}
theorem run_lit {t el:TypeId} (ht:P.underlying t=some (.slice el)) (hk:okT P el=true) (hz0:((P.info? el).bind (·.zero)).isSome=true) (hzl:(zeroOf P el).length=P.cellsOf el) {len:Nat} {parts:Array (Nat×Value)} (hlen:parts.size=len) (hsm:len * P.cellsOf el≤16777216)
  (hp:∀ (k:Nat) p,parts[k]? = some p→p.1=k∧p.2.cells.size=P.cellsOf el) :
  (Instr.buildSlice t len parts).run P w = .ok (.slice (some ⟨w.heap.size,0,none⟩) len len) (w.alloc (.cells ((parts.toList.map fun p=>p.2.cells.toList).flatten).toArray el)):=by
 obtain ⟨d,i,hd,hi,hz,h0⟩:=okT_spec hk
 rw [hi] at hz0
 obtain ⟨z,hzz⟩:=Option.isSome_iff_exists.1 hz0
 have hzz':i.zero=some z:=by simpa using hzz
 have hzs:z.cells.size=i.size:=by rw [← hz,← hzl]; simp [zeroOf,hi,hzz']
 by_cases h0l:len=0
 ·subst h0l
  have hpe:parts = #[]:=Array.eq_empty_of_size_eq_zero hlen
  subst hpe
  simp [Instr.buildSlice,run_underlying ht,sizeOf,typeInfo,hi,Instr.fill,newRow,show Array.range 0 = #[] from rfl]
 ·have hf:=fill_all i.size parts.toList 0 ((Array.range (len * i.size)).map (z.cells[· % z.cells.size]!)) (fun k p hk=>by
   obtain ⟨a,b⟩:=hp k p (by simpa using hk)
   exact ⟨by omega,by rw [b,hz]⟩) (by simp [hlen])
  simp only [Nat.zero_mul,List.take_zero,List.nil_append] at hf
  exact run_buildSlice w t el len parts _ i z ht hi hzz' (by rw [← hz]; omega) (by intro e; rcases Nat.mul_eq_zero.1 e with e | e <;> omega) hf
theorem lit_cells (hm:MExt M A) {kp:Bool} {vs:List AV} {us:List Value} {sz:Nat} (hl:vs.length=us.length) (hv:∀ v ∈ vs,(kcells kp v).length=sz∧(kcells kp v).all (okC M)=true) (hr:∀ (k:Nat) v u,vs[k]? = some v→us[k]? = some u→RV S B w A ρ v u) :
  (∀ u ∈ us,u.cells.size=sz)∧(∀ e ∈ vs.map (kcells kp),e.length=sz)∧(∀ e ∈ vs.map (kcells kp),∀ x ∈ e,cellOk x=true)∧((us.map fun u=>u.cells.toList).flatten).length=vs.length * sz ∧
  ∀ (i j:Nat) e x v,(vs.map (kcells kp))[i]? = some e→e[j]? = some x→((us.map fun u=>u.cells.toList).flatten)[i * sz + j]? = some v→RV S B w A ρ x v:=by
 have h1:∀ (k:Nat) v u,vs[k]? = some v→us[k]? = some u→u.cells.size=sz∧∀ (j:Nat) a b,(kcells kp v)[j]? = some a→u.cells[j]? = some b→RV S B w A ρ a b:=by
  intro k v u h2 h3
  obtain ⟨g1,g2⟩:=hv v (List.mem_of_getElem? h2)
  obtain ⟨c1,c2,c3⟩:=kcells_rc hm g2 (hr k v u h2 h3)
  exact ⟨by rw [c1,g1],c3⟩
 have hus:∀ u ∈ us,u.cells.size=sz:=by
  intro u hu
  obtain ⟨k,hk⟩:=List.getElem?_of_mem hu
  have hlt:=(List.getElem?_eq_some_iff.1 hk).1
  exact (h1 k vs[k] u (by simp [show k < vs.length by omega]) hk).1
 have hall:∀ l ∈ us.map (fun u=>u.cells.toList),l.length=sz:=by
  intro l hl'
  obtain ⟨u,hu,rfl⟩:=List.mem_map.1 hl'
  simpa using hus u hu
 refine ⟨hus,fun e he=>?_,fun e he x hx=>?_,?_,fun i j e x v he hx hv'=>?_⟩
 ·obtain ⟨v,hv',rfl⟩:=List.mem_map.1 he; exact (hv v hv').1
 ·obtain ⟨v,hv',rfl⟩:=List.mem_map.1 he; exact okC_cellOk (List.all_eq_true.1 (hv v hv').2 x hx)
 ·rw [flat_len _ hall]; simp [hl]
 ·rw [List.getElem?_map] at he
  obtain ⟨v0,hv0,rfl⟩:=Option.map_eq_some_iff.1 he
  have hj:j < sz:=by
   have:=(List.getElem?_eq_some_iff.1 hx).1
   rw [(hv v0 (List.mem_of_getElem? hv0)).1] at this; exact this
  rw [flat_get _ i j hall hj] at hv'
  obtain ⟨l,hl1,hl2⟩:=Option.bind_eq_some_iff.1 hv'
  rw [List.getElem?_map] at hl1
  obtain ⟨u,hu,rfl⟩:=Option.map_eq_some_iff.1 hl1
  exact (h1 i v0 u hv0 hu).2 j x v hx (by simpa using hl2)
theorem litI_rc (hm:MExt M A) (hA:MR P.cellsOf B w A ρ) (hB:B≤w.heap.size) {t el:TypeId} (ht:P.underlying t=some (.slice el)) (hk:okT P el=true) (hz0:((P.info? el).bind (·.zero)).isSome=true) (hzl:(zeroOf P el).length=P.cellsOf el)
  {vs:List AV} {parts:Array (Nat×Value)} {y:AV} (hlen:parts.size=vs.length) (hsm:vs.length * P.cellsOf el≤16777216) (h:aLitI el (P.cellsOf el) vs M=some y) (hp:∀ (k:Nat) p,parts[k]? = some p→p.1=k)
  (hr:∀ (k:Nat) v p,vs[k]? = some v→parts[k]? = some p→RV P.cellsOf B w A ρ v p.2) :
  Done P.cellsOf B w A ρ ((Instr.buildSlice t vs.length parts).run P w) A y:=by
 unfold aLitI at h
 obtain ⟨es,he,h⟩:=Option.bind_eq_some_iff.1 h
 split at h
 ·rename_i hc
  obtain rfl:=Option.some.inj h
  obtain ⟨rfl,hv⟩:=aParts_spec he
  obtain ⟨c1,c2,c3,c4,c5⟩:=lit_cells (S:=P.cellsOf) (B:=B) (w:=w) (ρ:=ρ) hm (vs:=vs) (us:=parts.toList.map (·.2)) (by simp [hlen]) hv (fun k v u h1 h2=>by
   rw [List.getElem?_map] at h2
   obtain ⟨p,hp',rfl⟩:=Option.map_eq_some_iff.1 h2
   exact hr k v p h1 (by simpa using hp'))
  have hrun:=run_lit (w:=w) ht hk hz0 hzl hlen hsm (fun k p hk'=>⟨hp k p hk',c1 p.2 (by simp only [List.mem_map]; exact ⟨p,by simpa using Array.mem_of_getElem? hk',rfl⟩)⟩)
  obtain ⟨s1,s2,s3⟩:=alloc_imm hA ((parts.toList.map fun p=>p.2.cells.toList).flatten).toArray el
  have hmap:(parts.toList.map (·.2)).map (fun u=>u.cells.toList)=parts.toList.map fun p=>p.2.cells.toList:=by rw [List.map_map]; rfl
  rw [hmap] at c4 c5
  have hes:(vs.map (kcells false)).length=vs.length:=by simp
  refine ⟨_,_,ρ,hrun,s1,s2,?_⟩
  have hlit:=RC.lit (S:=P.cellsOf) (V:=View (w.alloc (.cells ((parts.toList.map fun p=>p.2.cells.toList).flatten).toArray el)) A ρ) (B:=B) (R:=Ref A ρ) el (vs.map (kcells false)) w.heap.size _ (fun i j=>((parts.toList.map fun p=>p.2.cells.toList).flatten).getD (i * P.cellsOf el + j) Go.undef)
   (view_new hA _) hB (by simp [c4]) hc.2 (by simp; unfold maxLen; have:=hc.2; have:vs.length≤vs.length * P.cellsOf el:=Nat.le_mul_of_pos_right _ hc.2; omega) c2
   (fun i j hi hj=>by
    have:i * P.cellsOf el + j < ((parts.toList.map fun p=>p.2.cells.toList).flatten).length:=by
     rw [c4]
     calc i * P.cellsOf el + j < i * P.cellsOf el + P.cellsOf el:=by omega
      _=(i + 1) * P.cellsOf el:=by rw [Nat.succ_mul]
      _≤vs.length * P.cellsOf el:=Nat.mul_le_mul_right _ (by simp at hi; omega)
    rw [List.getElem?_toArray]; exact getD_some _ this)
   (fun i j e x he hx=>s1.rv (c5 i j e x _ he hx (by
    have hi:=(List.getElem?_eq_some_iff.1 he).1
    have hj:j < P.cellsOf el:=by
     have:=(List.getElem?_eq_some_iff.1 hx).1
     rw [c2 e (List.mem_of_getElem? he)] at this; exact this
    have:i * P.cellsOf el + j < ((parts.toList.map fun p=>p.2.cells.toList).flatten).length:=by
     rw [c4]
     calc i * P.cellsOf el + j < i * P.cellsOf el + P.cellsOf el:=by omega
      _=(i + 1) * P.cellsOf el:=by rw [Nat.succ_mul]
      _≤vs.length * P.cellsOf el:=Nat.mul_le_mul_right _ (by simp at hi; omega)
    exact getD_some _ this)))
   (fun e he x hx=>List.all_eq_true.1 (List.all_eq_true.1 hc.1 e he) x hx)
  rw [hes] at hlit
  exact hlit
 ·cases h
theorem litO_rc (hm:MExt M A) (hA:MR P.cellsOf B w A ρ) {kp:Bool} {n:Nat} (hn:A[n]? = some .pend) {t el:TypeId} (ht:P.underlying t=some (.slice el)) (hk:okT P el=true) (hz0:((P.info? el).bind (·.zero)).isSome=true) (hzl:(zeroOf P el).length=P.cellsOf el)
  {vs:List AV} {parts:Array (Nat×Value)} {y:AV} {eff:Eff} (hlen:parts.size=vs.length) (hsm:vs.length * P.cellsOf el≤16777216) (h:aLitO kp n el (P.cellsOf el) vs M=some (y,eff)) (hp:∀ (k:Nat) p,parts[k]? = some p→p.1=k)
  (hr:∀ (k:Nat) v p,vs[k]? = some v→parts[k]? = some p→RV P.cellsOf B w A ρ v p.2) :
  Done P.cellsOf B w A ρ ((Instr.buildSlice t vs.length parts).run P w) (effP A n eff) y:=by
 unfold aLitO at h
 obtain ⟨es,he,h⟩:=Option.bind_eq_some_iff.1 h
 split at h
 ·rename_i hc
  injection h with h
  injection h with e1 e2
  subst e1; subst e2
  obtain ⟨rfl,hv⟩:=aParts_spec he
  obtain ⟨c1,c2,c3,c4,c5⟩:=lit_cells (S:=P.cellsOf) (B:=B) (w:=w) (ρ:=ρ) hm (vs:=vs) (us:=parts.toList.map (·.2)) (by simp [hlen]) hv (fun k v u h1 h2=>by
   rw [List.getElem?_map] at h2
   obtain ⟨p,hp',rfl⟩:=Option.map_eq_some_iff.1 h2
   exact hr k v p h1 (by simpa using hp'))
  have hrun:=run_lit (w:=w) ht hk hz0 hzl hlen hsm (fun k p hk'=>⟨hp k p hk',c1 p.2 (by simp only [List.mem_map]; exact ⟨p,by simpa using Array.mem_of_getElem? hk',rfl⟩)⟩)
  have hmap:(parts.toList.map (·.2)).map (fun u=>u.cells.toList)=parts.toList.map fun p=>p.2.cells.toList:=by rw [List.map_map]; rfl
  rw [hmap] at c4 c5
  have hes:(vs.map (kcells kp)).length=vs.length:=by simp
  have hml:vs.length≤maxLen:=by unfold maxLen; have:vs.length≤vs.length * P.cellsOf el:=Nat.le_mul_of_pos_right _ hc; omega
  obtain ⟨s1,s2⟩:=push_row hA hn .grow el (vs.map (kcells kp)) ((parts.toList.map fun p=>p.2.cells.toList).flatten).toArray _ (below_alloc1 w _) w.heap.size vs.length (Nat.le_refl _) (heap_alloc_new w _) hc (by simp [c4]) (by simp) hml (by simp) c2 c3
   (fun i j e x v he hx hv'=>c5 i j e x v he hx (by simpa using hv'))
  have hlast:=lsl_new (S:=P.cellsOf) (B:=B) (ρ:=ρ) (w':=w.alloc (.cells ((parts.toList.map fun p=>p.2.cells.toList).flatten).toArray el)) (b:=w.heap.size) (cap:=vs.length) (ob:=⟨.grow,el,P.cellsOf el,vs.map (kcells kp)⟩) hn
  simp only [hes] at hlast ⊢
  exact ⟨_,_,_,hrun,s1,s2,hlast⟩
 ·cases h
end
end Go.Ab

/- Halves and chains: equal, copied, weighed. -/
import Derived.Test.YthkbjnbbahmpkabPInShortWay
set_option linter.unusedVariables false
set_option linter.unusedSimpArgs false
namespace Go.Proofs.Ythkbjnbbahmpkab
open Go Go.Ab
theorem notch_eq {x y : Notch} : x = y ↔ x.Kind = y.Kind ∧ x.At = y.At := by cases x; cases y; simp
theorem mark_eq {x y : Mark} : x = y ↔ x.Holder = y.Holder ∧ x.Seal = y.Seal := by cases x; cases y; simp
theorem half_eq {x y : Half} : x = y ↔ x.Stock = y.Stock ∧ x.Notches = y.Notches ∧ x.Grain = y.Grain := by cases x; cases y; simp
theorem chain_eq {x y : Chain} : x = y ↔ x.Debtor = y.Debtor ∧ x.Stock = y.Stock ∧ x.Marks = y.Marks := by cases x; cases y; simp
theorem eqNotch_eq (x y : Notch) : laws_eqNotch x y = some (decide (x = y)) := by
  unfold laws_eqNotch
  simp only [notch_eq, bne_iff_ne, ne_eq, ite_not]
  repeat' split
  all_goals simp_all
theorem eqMark_eq (x y : Mark) : laws_eqMark x y = some (decide (x = y)) := by
  unfold laws_eqMark
  simp only [mark_eq, bne_iff_ne, ne_eq, ite_not]
  repeat' split
  all_goals simp_all
theorem eqNotchS_eq (a b : List Notch) (h : a.length ≤ 4611686018427387904) : laws_eqNotchS a b = some (decide (a = b)) := by
  unfold laws_eqNotchS
  by_cases hl : a.length = b.length
  · rw [if_neg (by simp [hl]), eqS_loop a b h hl (fun i h1 h2 => by
      simp only [laws_eqNotchS_b1, rd_coe, List.getElem?_eq_getElem h1, List.getElem?_eq_getElem h2, Option.bind_some, eqNotch_eq]
      by_cases he : a[i] = b[i] <;> simp [he, h1]) (by simp [laws_eqNotchS_b1])]
    by_cases he : a = b <;> simp [he]
  · rw [if_pos (by simp; omega)]
    have : a ≠ b := fun h => hl (by rw [h])
    simp [this]
theorem eqMarkS_eq (a b : List Mark) (h : a.length ≤ 4611686018427387904) : laws_eqMarkS a b = some (decide (a = b)) := by
  unfold laws_eqMarkS
  by_cases hl : a.length = b.length
  · rw [if_neg (by simp [hl]), eqS_loop a b h hl (fun i h1 h2 => by
      simp only [laws_eqMarkS_b1, rd_coe, List.getElem?_eq_getElem h1, List.getElem?_eq_getElem h2, Option.bind_some, eqMark_eq]
      by_cases he : a[i] = b[i] <;> simp [he, h1]) (by simp [laws_eqMarkS_b1])]
    by_cases he : a = b <;> simp [he]
  · rw [if_pos (by simp; omega)]
    have : a ≠ b := fun h => hl (by rw [h])
    simp [this]
theorem eqGrain_eq (a b : Ar 16 Int) : laws_eqGrain a b = some (decide (a = b)) := by
  unfold laws_eqGrain
  have ha := a.h
  have hb := b.h
  rw [eqS_loop a.l b.l (by omega) (by omega) (fun i h1 h2 => by
      simp only [laws_eqGrain_b1, rdA_coe a i (by omega), rdA_coe b i (by omega), Option.bind_some]
      have h16 : (i : Int) < 16 := by omega
      by_cases he : a.l[i] = b.l[i] <;> simp [he, h16]) (by simp [laws_eqGrain_b1, ha])]
  by_cases he : a.l = b.l
  · simp [he, ar_ext]
  · simp [he, ar_ext]
theorem toGrain_eq (a : Ar 16 Int) : laws_toGrain a = some a := by
  unfold laws_toGrain
  rw [ar_copy a (Ar.rep 16 0) (fun i h y => by
    have h16 : (i : Int) < 16 := by omega
    simp [laws_toGrain_b1, h16, rdA_coe a i h, rdA_coe y i h, w64s (show i < 16 by omega) (by omega)]) (fun y => by simp [laws_toGrain_b1])]
  rfl
theorem toNotchS_eq (a : List Notch) (h : a.length * 4 ≤ 140737488351232) : laws_toNotchS a = some a := by
  unfold laws_toNotchS
  have key := copy_loop (tb := laws_toNotchS_b1 a) a (List.replicate a.length ⟨0, 0⟩) (by omega) (by simp)
    (by intro i zs hi hz; simp [laws_toNotchS_b1, laws_toNotch, rd_coe, hi, hz]) (by intro zs hz; simp [laws_toNotchS_b1])
  rw [mkS_some h (by omega), Option.bind_some, key, Option.bind_some]
theorem toMarkS_eq (a : List Mark) (h : a.length * 24 ≤ 140737488351232) : laws_toMarkS a = some a := by
  unfold laws_toMarkS
  have key := copy_loop (tb := laws_toMarkS_b1 a) a (List.replicate a.length ⟨[], 0⟩) (by omega) (by simp)
    (by intro i zs hi hz; simp [laws_toMarkS_b1, laws_toMark, rd_coe, hi, hz]) (by intro zs hz; simp [laws_toMarkS_b1])
  rw [mkS_some h (by omega), Option.bind_some, key, Option.bind_some]
theorem ok_notches {c : Chain} (h : c.ok) : c.Stock.Notches.length * 4 ≤ 140737488351232 := h.2.1.2.1.2.1
theorem ok_marks {c : Chain} (h : c.ok) : c.Marks.length * 24 ≤ 140737488351232 := h.2.2.2.1
theorem ok_debtor {c : Chain} (h : c.ok) : c.Debtor.length ≤ 140737488351232 := h.1
theorem ok_mark {c : Chain} (h : c.ok) (m : Mark) (hm : m ∈ c.Marks) : m.Holder.length ≤ 140737488351232 := (h.2.2.2.2 m hm).1
theorem toChain_eq (c : Chain) (h : c.ok) : laws_toChain c = some (c.Debtor, c.Stock.Stock, c.Stock.Notches, c.Stock.Grain, c.Marks) := by
  unfold laws_toChain laws_toHalf
  rw [toNotchS_eq _ (ok_notches h), toGrain_eq, toMarkS_eq _ (ok_marks h)]
  rfl
theorem eqHalf_eq (x y : Half) (h : x.Notches.length ≤ 4611686018427387904) : laws_eqHalf x y = some (decide (x = y)) := by
  unfold laws_eqHalf
  rw [eqNotchS_eq _ _ h, eqGrain_eq]
  by_cases e1 : x.Stock = y.Stock <;> by_cases e2 : x.Notches = y.Notches <;> by_cases e3 : x.Grain = y.Grain <;> simp [half_eq, e1, e2, e3]
theorem eqChain_eq (x y : Chain) (h1 : x.Stock.Notches.length ≤ 4611686018427387904) (h2 : x.Marks.length ≤ 4611686018427387904) : laws_eqChain x y = some (decide (x = y)) := by
  unfold laws_eqChain
  rw [eqHalf_eq _ _ h1, eqMarkS_eq _ _ h2]
  by_cases e1 : x.Debtor = y.Debtor <;> by_cases e2 : x.Stock = y.Stock <;> by_cases e3 : x.Marks = y.Marks <;> simp [chain_eq, e1, e2, e3]
theorem szMarkS_some (xs : List Mark) (n : Int) (hn : xs.length ≤ 4611686018427387904) : ∃ r, laws_szMarkS xs n = some r := by
  unfold laws_szMarkS
  split
  · exact ⟨_, rfl⟩
  obtain ⟨r, hr⟩ := sz_loop (tb := laws_szMarkS_b1 xs) xs.length (fun a i hi => by
    have w := w64s hi hn
    by_cases h0 : IntKind.i64.wrap (a - (xs[i].Holder.length : Int)) < 0
    · exact .inr (by simp [laws_szMarkS_b1, rd_coe, hi, laws_szMark, h0])
    · exact .inl ⟨_, by simp [laws_szMarkS_b1, rd_coe, hi, laws_szMark, h0, w]; rfl⟩) (fun a => by simp [laws_szMarkS_b1]) (IntKind.i64.wrap (n - (xs.length : Int)))
  rw [hr, Option.bind_some]
  rcases r with r | r <;> exact ⟨_, rfl⟩
theorem szNotchS_some (xs : List Notch) (n : Int) : ∃ r, laws_szNotchS xs n = some r := by
  unfold laws_szNotchS; split <;> exact ⟨_, rfl⟩
theorem szChain_some (c : Chain) (n : Int) (h : c.ok) : ∃ r, laws_szChain c n = some r := by
  have hm := ok_marks h
  unfold laws_szChain
  split
  · exact ⟨_, rfl⟩
  unfold laws_szHalf
  obtain ⟨r, hr⟩ := szNotchS_some c.Stock.Notches (IntKind.i64.wrap (n - (c.Debtor.length : Int)))
  rw [hr]
  obtain ⟨q, hq⟩ := szMarkS_some c.Marks r (by omega)
  simp only [Option.bind_some]
  by_cases h0 : r < 0
  · exact ⟨-1, by simp [h0]⟩
  · simp only [h0, decide_false, Bool.false_eq_true, if_false, Option.bind_some, hq]
    split <;> exact ⟨_, rfl⟩
end Go.Proofs.Ythkbjnbbahmpkab

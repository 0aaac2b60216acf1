/- The program's HoldsNow and the reference's. -/
import Derived.Test.YtfabokkhdalbeabPMarkBookHoldsNow
set_option linter.unusedVariables false
set_option linter.unusedSimpArgs false
namespace Go.Proofs.Ytfabokkhdalbeab.Pure
open Go Go.Ab
theorem holds_loop (b : Book) (p : Int) (hn : b.Tallies.length ≤ 1048576) : ∃ o, Lw (impl_HoldsNow_b1 b p) (0, []) = some o ∧ Lw (spec_HoldsNow_b1 b p) (0, []) = some o ∧ o.length ≤ b.Tallies.length := by
  have := Lw_sim (tb := impl_HoldsNow_b1 b p) (tb2 := spec_HoldsNow_b1 b p) (fun s => b.Tallies.length - s.1.toNat)
    (fun s s2 => s = s2 ∧ ∃ i : Nat, i ≤ b.Tallies.length ∧ s.1 = i ∧ s.2.length ≤ i) (fun r r2 => r = r2 ∧ r.length ≤ b.Tallies.length) (by
      rintro ⟨i', o⟩ s2 ⟨rfl, i, hi, rfl, ho⟩
      simp only at ho
      by_cases hlt : i < b.Tallies.length
      · left
        have ap : app 8 o [(i : Int)] = some (o ++ [(i : Int)]) := app_some (by simp; omega) (by omega)
        have w := w64s hlt (show b.Tallies.length ≤ 4611686018427387904 by omega)
        by_cases h1 : (b.Tallies[i].Holder == p) = true
        · by_cases h2 : b.Tallies[i].Left > 0
          · refine ⟨(((i + 1 : Nat) : Int), o ++ [(i : Int)]), _, ?_, ?_, ⟨rfl, i + 1, by omega, rfl, by simp; omega⟩, by simp; omega⟩
            · simp only [impl_HoldsNow_b1, rd_coe, List.getElem?_eq_getElem hlt, Option.bind_some, ap, w]
              simp [hlt, h1, h2]
            · simp only [spec_HoldsNow_b1, rd_coe, List.getElem?_eq_getElem hlt, Option.bind_some, ap, w]
              simp [hlt, h1, h2]
          · refine ⟨(((i + 1 : Nat) : Int), o), _, ?_, ?_, ⟨rfl, i + 1, by omega, rfl, by simp; omega⟩, by simp; omega⟩
            · simp only [impl_HoldsNow_b1, rd_coe, List.getElem?_eq_getElem hlt, Option.bind_some, ap, w]
              simp [hlt, h1, h2]
            · simp only [spec_HoldsNow_b1, rd_coe, List.getElem?_eq_getElem hlt, Option.bind_some, ap, w]
              simp [hlt, h1, h2]
        · refine ⟨(((i + 1 : Nat) : Int), o), _, ?_, ?_, ⟨rfl, i + 1, by omega, rfl, by simp; omega⟩, by simp; omega⟩
          · simp only [impl_HoldsNow_b1, rd_coe, List.getElem?_eq_getElem hlt, Option.bind_some, ap, w]
            simp [hlt, h1]
          · simp only [spec_HoldsNow_b1, rd_coe, List.getElem?_eq_getElem hlt, Option.bind_some, ap, w]
            simp [hlt, h1]
      · right
        have : i = b.Tallies.length := by omega
        subst this
        exact ⟨o, o, by simp [impl_HoldsNow_b1], by simp [spec_HoldsNow_b1], rfl, ho⟩) _ (0, []) (0, []) rfl ⟨rfl, 0, by omega, rfl, by simp⟩
  obtain ⟨r, r2, h1, h2, rfl, h3⟩ := this
  exact ⟨r, h1, h2, h3⟩
theorem FnExactHoldsNow (a0 : Book) (h0 : Book.ok a0) (a1 : Int) (h1 : (InR .i64) a1) : laws_FnExactHoldsNow a0 a1 = some true := by
  have hc := ok_cash h0
  have ht := ok_tallies h0
  unfold laws_FnExactHoldsNow
  obtain ⟨r, hr⟩ := szBook_some a0 1048576
  rw [hr, Option.bind_some]
  by_cases hr0 : r < 0
  · rw [if_pos (by simpa using hr0)]
  rw [if_neg (by simpa using hr0)]
  obtain ⟨b1, b2⟩ := szBook_bound a0 h0 r _ hr hr0 (by omega) (by omega)
  have hm0 := markBook_eq a0.Day a0.Cash a0.Tallies 1 (by omega) (by omega) (by omega) (by omega)
  have c0 : decide ((1 : Int) + (a0.Cash.length : Int) + ((5 * a0.Tallies.length : Nat) : Int) < 0) = false := by rw [decide_eq_false_iff_not]; omega
  have h00 : laws_heldInt64S [] 1 = some 1 := heldInt64S_eq 0 1 (by omega) (by omega) (by omega)
  have t0 := toBook_eq a0 h0
  have e0 : (⟨a0.Day, a0.Cash, a0.Tallies⟩ : Book) = a0 := rfl
  have s0 := eqBook_eq a0 a0 h0
  have he : ∀ x y : List Int, x.length ≤ 1048576 → laws_eqInt64S x y = some (decide (x = y)) := fun x y hx => eqInt64S_eq x y (by omega)
  by_cases h : oneCode a0 a1 = 0
  · obtain ⟨o, l1, l2, l3⟩ := holds_loop a0 a1 (by omega)
    have e1 : impl_HoldsNow a0 a1 = some (.inr o) := by
      unfold impl_HoldsNow
      rw [personCode_eq _ _ (by omega) (by omega), l1]; simp [h]
    have e2 : spec_HoldsNow a0 a1 = some (o, 0) := by
      unfold spec_HoldsNow
      rw [l07One_eq _ _ (by omega) (by omega), l2]; simp [h]
    have hm : laws_markInt64S_l o 1 = some (1 + (o.length : Int), iota 1 o.length) := markInt64S_eq o 1 (by omega) (by omega) (by omega)
    have hh : laws_heldInt64S (iota 1 o.length) 1 = some (1 + (o.length : Int)) := heldInt64S_eq o.length 1 (by omega) (by omega) (by omega)
    have c1 : decide ((1 : Int) + (o.length : Int) < 0) = false := by rw [decide_eq_false_iff_not]; omega
    simp only [t0, e0, e1, e2, s0, he o _ (by omega), hm0, hm, hh, Option.bind_some, decide_true, if_true, bne_self_eq_false, Bool.false_eq_true, if_false, c0, c1]
  · have e1 : impl_HoldsNow a0 a1 = some (.inl (oneCode a0 a1)) := by
      unfold impl_HoldsNow
      rw [personCode_eq _ _ (by omega) (by omega)]; simp [h]
    have e2 : spec_HoldsNow a0 a1 = some ([], oneCode a0 a1) := by
      unfold spec_HoldsNow
      rw [l07One_eq _ _ (by omega) (by omega)]; simp [h]
    have c1 : decide ((1 : Int) < 0) = false := by decide
    simp only [t0, e0, e1, e2, s0, he [] _ (by simp), hm0, markInt64S_2_eq, h00, Option.bind_some, decide_true, if_true, bne_self_eq_false, Bool.false_eq_true, if_false, c0, c1]
end Go.Proofs.Ytfabokkhdalbeab.Pure

/- The program's DoDeal and the reference's. -/
import Derived.Test.YtfabokkhdalbeadPDoDoDeal
set_option linter.unusedVariables false
set_option linter.unusedSimpArgs false
namespace Go.Proofs.Ytfabokkhdalbead.Pure
open Go Go.Ab
theorem toDeal_eq' (d : Deal) : laws_toDeal d = some (d.Day, d.Kind, d.Tally, d.From, d.To, d.Amount) := rfl
theorem eqBook_len (x y : Book) (h1 : x.Cash.length ≤ 1048576) (h2 : x.Tallies.length ≤ 1048576) : laws_eqBook x y = some (decide (x = y)) := by
  unfold laws_eqBook
  rw [eqInt64S_eq _ _ (by omega), eqTallyS_eq _ _ (by omega)]
  by_cases e1 : x.Day = y.Day <;> by_cases e2 : x.Cash = y.Cash <;> by_cases e3 : x.Tallies = y.Tallies <;> simp [book_eq, e1, e2, e3]
theorem doDeal_same (b : Book) (d : Deal) (hc : b.Cash.length ≤ 4611686018427387904) (ht : b.Tallies.length ≤ 4611686018427387904) :
    ∃ r : DoR, impl_DoDeal b d = some r ∧ spec_DoDeal b d = some r ∧ ∀ x c t, r = .inr (x, c, t) → c.length ≤ 16 ∧ t.length ≤ 40 := by
  by_cases hb : bookB b = true
  · by_cases hd : dealB d = true
    · obtain ⟨r, e1, e2, e3⟩ := do_same b d (.of hb) hd
      refine ⟨r, ?_, ?_, fun x c t h => ⟨(e3 x c t h).1.cn, (e3 x c t h).1.tn⟩⟩
      · unfold impl_DoDeal
        rw [validBook_eq b hc ht, validDeal_eq, e1]
        rcases r with r | ⟨x, c, t⟩ <;> simp [hb, hd]
      · unfold spec_DoDeal
        rw [l07Ok_eq b hc ht, l07Deal_eq, e2]
        rcases r with r | ⟨x, c, t⟩ <;> simp [hb, hd]
    · exact ⟨.inl 1, by unfold impl_DoDeal; rw [validBook_eq b hc ht, validDeal_eq]; simp [hb, hd], by unfold spec_DoDeal; rw [l07Ok_eq b hc ht, l07Deal_eq]; simp [hb, hd], fun _ _ _ h => by cases h⟩
  · exact ⟨.inl 1, by unfold impl_DoDeal; rw [validBook_eq b hc ht]; simp [hb], by unfold spec_DoDeal; rw [l07Ok_eq b hc ht]; simp [hb], fun _ _ _ h => by cases h⟩
theorem FnExactDoDeal (a0 : Book) (h0 : Book.ok a0) (a1 : Deal) (h1 : Deal.ok a1) : laws_FnExactDoDeal a0 a1 = some true := by
  have hc := ok_cash h0
  have ht := ok_tallies h0
  unfold laws_FnExactDoDeal
  obtain ⟨r, hr⟩ := szBook_some a0 1048576
  rw [hr, Option.bind_some]
  by_cases hr0 : r < 0
  · rw [if_pos (by simpa using hr0)]
  rw [if_neg (by simpa using hr0)]
  obtain ⟨b1, b2⟩ := szBook_bound a0 h0 r _ hr hr0 (by omega) (by omega)
  have hm0 := markBook_eq a0.Day a0.Cash a0.Tallies 1 (by omega) (by omega) (by omega) (by omega)
  have c0 : decide ((1 : Int) + (a0.Cash.length : Int) + ((5 * a0.Tallies.length : Nat) : Int) < 0) = false := by rw [decide_eq_false_iff_not]; omega
  have t0 := toBook_eq a0 h0
  have t1 := toDeal_eq' a1
  have e0 : (⟨a0.Day, a0.Cash, a0.Tallies⟩ : Book) = a0 := rfl
  have e1 : (⟨a1.Day, a1.Kind, a1.Tally, a1.From, a1.To, a1.Amount⟩ : Deal) = a1 := rfl
  have s0 := eqBook_eq a0 a0 h0
  obtain ⟨q, q1, q2, q3⟩ := doDeal_same a0 a1 (by omega) (by omega)
  rcases q with q | ⟨x, c, t⟩
  · have z := eqBook_len ⟨0, [], []⟩ ⟨0, [], []⟩ (by simp) (by simp)
    have mn : laws_markBook_nn 0 1 = some 1 := by unfold laws_markBook_nn; simp [markInt64S_2_eq, markTallyS0]
    have hh : laws_heldBook ⟨0, [], []⟩ 1 = some 1 := heldBook_eq 0 1 0 0 (by omega) (by omega) (by omega) (by omega)
    have c1 : decide ((1 : Int) < 0) = false := by decide
    simp only [t0, t1, e0, e1, q1, q2, s0, z, hm0, mn, hh, Option.bind_some, decide_true, if_true, bne_self_eq_false, Bool.false_eq_true, if_false, c0, c1]
  · obtain ⟨l1, l2⟩ := q3 x c t rfl
    have z := eqBook_len ⟨x, c, t⟩ ⟨x, c, t⟩ (by simp only; omega) (by simp only; omega)
    have m1 := markBook_eq x c t 1 (by omega) (by omega) (by omega) (by omega)
    have hh := heldBook_eq x 1 c.length t.length (by omega) (by omega) (by omega) (by omega)
    have c1 : decide ((1 : Int) + (c.length : Int) + ((5 * t.length : Nat) : Int) < 0) = false := by rw [decide_eq_false_iff_not]; omega
    simp only [t0, t1, e0, e1, q1, q2, s0, z, hm0, m1, hh, Option.bind_some, decide_true, if_true, bne_self_eq_false, Bool.false_eq_true, if_false, c0, c1]
end Go.Proofs.Ytfabokkhdalbead.Pure

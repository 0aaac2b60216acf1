/- The program's DoDeals and the reference's. -/
import Derived.Test.YtpdmcpnabjifhaaPsDoDeals
set_option linter.unusedVariables false
set_option linter.unusedSimpArgs false
namespace Go.Proofs.Ytpdmcpnabjifhaa.Pure
open Go Go.Ab
theorem eqBook_len (x y : Book) (h1 : x.Cash.length ≤ 1048576) (h2 : x.Tallies.length ≤ 1048576) : laws_eqBook x y = some (decide (x = y)) := by
  unfold laws_eqBook
  rw [eqInt64S_eq _ _ (by omega), eqTallyS_eq _ _ (by omega)]
  by_cases e1 : x.Day = y.Day <;> by_cases e2 : x.Cash = y.Cash <;> by_cases e3 : x.Tallies = y.Tallies <;> simp [book_eq, e1, e2, e3]
theorem doDeals_same (b : Book) (xs : List Deal) (hc : b.Cash.length ≤ 4611686018427387904) (ht : b.Tallies.length ≤ 4611686018427387904) (hx : xs.length ≤ 4611686018427387904) :
    ∃ r : DoR, impl_DoDeals b xs = some r ∧ spec_DoDeals b xs = some r ∧ ∀ x c t, r = .inr (x, c, t) → c.length ≤ 16 ∧ t.length ≤ 40 := by
  unfold impl_DoDeals spec_DoDeals
  rw [dealsCode_eq b xs hc ht hx, l07Asked_eq b xs hc ht hx, Option.bind_some, Option.bind_some]
  by_cases h0 : askC b xs = 0
  · obtain ⟨g1, g2, g3⟩ := asked h0
    rcases behind_same xs b g1 g2 g3 with ⟨c, k, c0, e1, e2⟩ | ⟨s, out, k1, k2, e1, e2, e3, e4⟩
    · exact ⟨.inl c, by simp [h0, e1], by simp [h0, e2, c0], fun _ _ _ h => by cases h⟩
    · refine ⟨.inr (s.Day, s.Cash, s.Tallies), by simp [h0, e1], ?_, fun _ _ _ h => by cases h; exact ⟨k1.cn, k1.tn⟩⟩
      rcases e4 with ⟨rfl, rfl⟩ | h
      · simp [h0, e2, l07Copy_eq s g1]
      · have n0 : out ≠ [] := fun e => by subst e; cases h
        have hr := rd_last h (by omega)
        simp [h0, e2, n0, hr, l07Copy_eq s k1]
  · exact ⟨.inl (askC b xs), by simp [h0], by simp [h0], fun _ _ _ h => by cases h⟩
theorem FnExactDoDeals (a0 : Book) (h0 : Book.ok a0) (a1 : List Deal) (h1 : (okLs 48 Deal.ok) a1) : laws_FnExactDoDeals a0 a1 = some true := by
  have hc := ok_cash h0
  have ht := ok_tallies h0
  have hn := h1.2.1
  unfold laws_FnExactDoDeals
  obtain ⟨r, hr⟩ := szBook_some a0 1048576
  rw [hr, Option.bind_some]
  by_cases hr0 : r < 0
  · rw [if_pos (by simpa using hr0)]
  rw [if_neg (by simpa using hr0)]
  obtain ⟨b1, b2⟩ := szBook_bound a0 h0 r _ hr hr0 (by omega) (by omega)
  obtain ⟨r2, hr2⟩ := szDealS_some a1 r
  rw [hr2, Option.bind_some]
  by_cases hr3 : r2 < 0
  · rw [if_pos (by simpa using hr3)]
  rw [if_neg (by simpa using hr3)]
  obtain ⟨c1, c2⟩ := szDealS_bound a1 r r2 hr2 hr3 (by omega) (by omega) (by omega)
  have hm0 := markBook_eq a0.Day a0.Cash a0.Tallies 1 (by omega) (by omega) (by omega) (by omega)
  have m1 := markDealS_eq a1 (1 + (a0.Cash.length : Int) + ((5 * a0.Tallies.length : Nat) : Int)) (by omega) (by omega) (by omega)
  have c0 : decide ((1 : Int) + (a0.Cash.length : Int) + ((5 * a0.Tallies.length : Nat) : Int) + ((6 * a1.length : Nat) : Int) < 0) = false := by rw [decide_eq_false_iff_not]; omega
  have t0 := toBook_eq a0 h0
  have t1 := toDealS_eq a1 (by omega)
  have e0 : (⟨a0.Day, a0.Cash, a0.Tallies⟩ : Book) = a0 := rfl
  have s0 := eqBook_eq a0 a0 h0
  have s1 := eqDealS_eq a1 a1 (by omega)
  obtain ⟨q, q1, q2, q3⟩ := doDeals_same a0 a1 (by omega) (by omega) (by omega)
  rcases q with q | ⟨x, c, t⟩
  · have z := eqBook_len ⟨0, [], []⟩ ⟨0, [], []⟩ (by simp) (by simp)
    have mn : laws_markBook_nn 0 1 = some 1 := by unfold laws_markBook_nn; simp [markInt64S_2_eq, markTallyS0]
    have hh : laws_heldBook ⟨0, [], []⟩ 1 = some 1 := heldBook_eq 0 1 0 0 (by omega) (by omega) (by omega) (by omega)
    have c1 : decide ((1 : Int) < 0) = false := by decide
    simp only [t0, t1, e0, q1, q2, s0, s1, z, hm0, m1, mn, hh, Option.bind_some, decide_true, if_true, bne_self_eq_false, Bool.false_eq_true, if_false, c0, c1]
  · obtain ⟨l1, l2⟩ := q3 x c t rfl
    have z := eqBook_len ⟨x, c, t⟩ ⟨x, c, t⟩ (by simp only; omega) (by simp only; omega)
    have mm := markBook_eq x c t 1 (by omega) (by omega) (by omega) (by omega)
    have hh := heldBook_eq x 1 c.length t.length (by omega) (by omega) (by omega) (by omega)
    have c1 : decide ((1 : Int) + (c.length : Int) + ((5 * t.length : Nat) : Int) < 0) = false := by rw [decide_eq_false_iff_not]; omega
    simp only [t0, t1, e0, q1, q2, s0, s1, z, hm0, m1, mm, hh, Option.bind_some, decide_true, if_true, bne_self_eq_false, Bool.false_eq_true, if_false, c0, c1]
end Go.Proofs.Ytpdmcpnabjifhaa.Pure

/- The program's StateOn and the reference's. -/
import Derived.Test.YtpdmcpnabjifhaaPsStateOn
set_option linter.unusedVariables false
set_option linter.unusedSimpArgs false
namespace Go.Proofs.Ytpdmcpnabjifhaa.Pure
open Go Go.Ab
theorem eqBook_len (x y : Book) (h1 : x.Cash.length ≤ 1048576) (h2 : x.Tallies.length ≤ 1048576) : laws_eqBook x y = some (decide (x = y)) := by
  unfold laws_eqBook
  rw [eqInt64S_eq _ _ (by omega), eqTallyS_eq _ _ (by omega)]
  by_cases e1 : x.Day = y.Day <;> by_cases e2 : x.Cash = y.Cash <;> by_cases e3 : x.Tallies = y.Tallies <;> simp [book_eq, e1, e2, e3]
theorem FnExactStateOn (a0 : Book) (h0 : Book.ok a0) (a1 : List Deal) (h1 : (okLs 48 Deal.ok) a1) (a2 : Int) (h2 : (InR .i64) a2) : laws_FnExactStateOn a0 a1 a2 = some true := by
  have hc := ok_cash h0
  have ht := ok_tallies h0
  have hn := h1.2.1
  unfold laws_FnExactStateOn
  obtain ⟨r, hr⟩ := szBook_some a0 1048576
  rw [hr, Option.bind_some]
  by_cases hr0 : r < 0
  · rw [if_pos (by simpa using hr0)]
  rw [if_neg (by simpa using hr0)]
  obtain ⟨b1, b2⟩ := szBook_bound a0 h0 r _ hr hr0 (by omega) (by omega)
  obtain ⟨r2, hr2⟩ := szDealS_some a1 r
  rw [hr2, Option.bind_some]
  by_cases hr3 : r2 < 0
  · rw [if_pos (by simpa using hr3)]
  rw [if_neg (by simpa using hr3)]
  obtain ⟨c1, c2⟩ := szDealS_bound a1 r r2 hr2 hr3 (by omega) (by omega) (by omega)
  have hm0 := markBook_eq a0.Day a0.Cash a0.Tallies 1 (by omega) (by omega) (by omega) (by omega)
  have m1 := markDealS_eq a1 (1 + (a0.Cash.length : Int) + ((5 * a0.Tallies.length : Nat) : Int)) (by omega) (by omega) (by omega)
  have c0 : decide ((1 : Int) + (a0.Cash.length : Int) + ((5 * a0.Tallies.length : Nat) : Int) + ((6 * a1.length : Nat) : Int) < 0) = false := by rw [decide_eq_false_iff_not]; omega
  have t0 := toBook_eq a0 h0
  have t1 := toDealS_eq a1 (by omega)
  have e0 : (⟨a0.Day, a0.Cash, a0.Tallies⟩ : Book) = a0 := rfl
  have s0 := eqBook_eq a0 a0 h0
  have s1 := eqDealS_eq a1 a1 (by omega)
  rcases stateOn_same a0 a1 a2 (by omega) (by omega) (by omega) with ⟨c, c0', q1, q2⟩ | ⟨s, k1, k2, q1, q2⟩
  · have z := eqBook_len ⟨0, [], []⟩ ⟨0, [], []⟩ (by simp) (by simp)
    have mn : laws_markBook_nn 0 1 = some 1 := by unfold laws_markBook_nn; simp [markInt64S_2_eq, markTallyS0]
    have hh : laws_heldBook ⟨0, [], []⟩ 1 = some 1 := heldBook_eq 0 1 0 0 (by omega) (by omega) (by omega) (by omega)
    have c1 : decide ((1 : Int) < 0) = false := by decide
    simp only [t0, t1, e0, q1, q2, s0, s1, z, hm0, m1, mn, hh, Option.bind_some, decide_true, if_true, bne_self_eq_false, Bool.false_eq_true, if_false, c0, c1]
  · have l1 := k1.cn
    have l2 := k1.tn
    have z := eqBook_len ⟨a2, s.Cash, s.Tallies⟩ ⟨a2, s.Cash, s.Tallies⟩ (by simp only; omega) (by simp only; omega)
    have mm := markBook_eq a2 s.Cash s.Tallies 1 (by omega) (by omega) (by omega) (by omega)
    have hh := heldBook_eq a2 1 s.Cash.length s.Tallies.length (by omega) (by omega) (by omega) (by omega)
    have c1 : decide ((1 : Int) + (s.Cash.length : Int) + ((5 * s.Tallies.length : Nat) : Int) < 0) = false := by rw [decide_eq_false_iff_not]; omega
    simp only [t0, t1, e0, q1, q2, s0, s1, z, hm0, m1, mm, hh, Option.bind_some, decide_true, if_true, bne_self_eq_false, Bool.false_eq_true, if_false, c0, c1]
end Go.Proofs.Ytpdmcpnabjifhaa.Pure

/- The program's WorthsOn and the reference's. -/
import Derived.Test.YtpdmcpnabjifhaaPsWorthsOn
set_option linter.unusedVariables false
set_option linter.unusedSimpArgs false
namespace Go.Proofs.Ytpdmcpnabjifhaa.Pure
open Go Go.Ab
theorem FnExactWorthsOn (a0 : Book) (h0 : Book.ok a0) (a1 : List Deal) (h1 : (okLs 48 Deal.ok) a1) (a2 : Int) (h2 : (InR .i64) a2) (a3 : List Int) (h3 : (okLs 8 (InR .i64)) a3) : laws_FnExactWorthsOn a0 a1 a2 a3 = some true := by
  have hc := ok_cash h0
  have ht := ok_tallies h0
  have hn := h1.2.1
  have hn3 := h3.2.1
  unfold laws_FnExactWorthsOn
  by_cases hb : (a3.length : Int) > 1048576
  · rw [if_pos (by simpa using hb)]
  rw [if_neg (by simpa using hb)]
  obtain ⟨r, hr⟩ := szBook_some a0 1048576
  rw [hr, Option.bind_some]
  by_cases hr0 : r < 0
  · rw [if_pos (by simpa using hr0)]
  rw [if_neg (by simpa using hr0)]
  obtain ⟨b1, b2⟩ := szBook_bound a0 h0 r _ hr hr0 (by omega) (by omega)
  obtain ⟨r2, hr2⟩ := szDealS_some a1 r
  rw [hr2, Option.bind_some]
  by_cases hr3 : r2 < 0
  · rw [if_pos (by simpa using hr3)]
  rw [if_neg (by simpa using hr3)]
  obtain ⟨c1, c2⟩ := szDealS_bound a1 r r2 hr2 hr3 (by omega) (by omega) (by omega)
  have t0 := toBook_eq a0 h0
  have t1 := toDealS_eq a1 (by omega)
  have t3 := toInt64S_eq a3 hn3
  have e0 : (⟨a0.Day, a0.Cash, a0.Tallies⟩ : Book) = a0 := rfl
  have s0 := eqBook_eq a0 a0 h0
  have s1 := eqDealS_eq a1 a1 (by omega)
  have s3 := eqInt64S_eq a3 a3 (by omega)
  have m0 := markBook_eq a0.Day a0.Cash a0.Tallies 1 (by omega) (by omega) (by omega) (by omega)
  have m1 := markDealS_eq a1 (1 + (a0.Cash.length : Int) + ((5 * a0.Tallies.length : Nat) : Int)) (by omega) (by omega) (by omega)
  have m2 := markInt64S_eq a3 (1 + (a0.Cash.length : Int) + ((5 * a0.Tallies.length : Nat) : Int) + ((6 * a1.length : Nat) : Int)) (by omega) (by omega) (by omega)
  have d0 : decide (1 + (a0.Cash.length : Int) + ((5 * a0.Tallies.length : Nat) : Int) + ((6 * a1.length : Nat) : Int) + (a3.length : Int) < 0) = false := by rw [decide_eq_false_iff_not]; omega
  rcases worths_same a0 a1 a2 a3 (by omega) (by omega) (by omega) with ⟨c, q1, q2⟩ | ⟨o, q1, q2, q3⟩
  · have z := eqInt64S_eq ([] : List Int) [] (by simp)
    have mn := markInt64S_2_eq 1
    have hh : laws_heldInt64S [] 1 = some 1 := heldInt64S_eq 0 1 (by omega) (by omega) (by omega)
    have c1 : decide ((1 : Int) < 0) = false := by decide
    simp only [t0, t1, t3, e0, q1, q2, s0, s1, s3, m0, m1, m2, d0, z, mn, hh, Option.bind_some, decide_true, if_true, bne_self_eq_false, Bool.false_eq_true, if_false, c1]
  · have z := eqInt64S_eq o o (by omega)
    have mm := markInt64S_eq o 1 (by omega) (by omega) (by omega)
    have hh := heldInt64S_eq o.length 1 (by omega) (by omega) (by omega)
    have c1 : decide ((1 : Int) + (o.length : Int) < 0) = false := by rw [decide_eq_false_iff_not]; omega
    simp only [t0, t1, t3, e0, q1, q2, s0, s1, s3, m0, m1, m2, d0, z, mm, hh, Option.bind_some, decide_true, if_true, bne_self_eq_false, Bool.false_eq_true, if_false, c1]
end Go.Proofs.Ytpdmcpnabjifhaa.Pure

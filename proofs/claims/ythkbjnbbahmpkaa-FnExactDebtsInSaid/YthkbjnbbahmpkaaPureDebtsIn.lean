/- The program's DebtsIn and the reference's. -/
import Derived.Test.YthkbjnbbahmpkaaPsDebtsIn
set_option linter.unusedVariables false
set_option linter.unusedSimpArgs false
namespace Go.Proofs.Ythkbjnbbahmpkaa.Pure
open Go Go.Ab
theorem FnExactDebtsIn (a0 : Book) (h0 : Book.ok a0) : laws_FnExactDebtsIn a0 = some true := by
  have hc := ok_cash h0
  have ht := ok_tallies h0
  unfold laws_FnExactDebtsIn
  obtain ⟨r, hr⟩ := szBook_some a0 1048576
  rw [hr, Option.bind_some]
  by_cases hr0 : r < 0
  · rw [if_pos (by simpa using hr0)]
  rw [if_neg (by simpa using hr0)]
  obtain ⟨b1, b2⟩ := szBook_bound a0 h0 r _ hr hr0 (by omega) (by omega)
  have t0 := toBook_eq a0 h0
  have e0 : (⟨a0.Day, a0.Cash, a0.Tallies⟩ : Book) = a0 := rfl
  have s0 := eqBook_eq a0 a0 h0
  have m0 := markBook_eq a0.Day a0.Cash a0.Tallies 1 (by omega) (by omega) (by omega) (by omega)
  have d0 : decide (1 + (a0.Cash.length : Int) + ((5 * a0.Tallies.length : Nat) : Int) < 0) = false := by rw [decide_eq_false_iff_not]; omega
  rcases debtsIn_same a0 (by omega) (by omega) with ⟨c, q1, q2⟩ | ⟨o, q1, q2, q3⟩
  · have z := eqDebtS_eq [] [] (by simp)
    have mn := markDebtS0 1
    have hh : laws_heldDebtS [] 1 = some 1 := heldDebtS_eq 0 1 (by omega) (by omega) (by omega)
    have c1 : decide ((1 : Int) < 0) = false := by decide
    simp only [t0, e0, q1, q2, s0, m0, d0, z, mn, hh, Option.bind_some, decide_true, if_true, bne_self_eq_false, Bool.false_eq_true, if_false, c1]
  · have z := eqDebtS_eq o o (by omega)
    have mm := markDebtS_eq o 1 (by omega) (by omega) (by omega)
    have hh := heldDebtS_eq o.length 1 (by omega) (by omega) (by omega)
    have c1 : decide ((1 : Int) + ((3 * o.length : Nat) : Int) < 0) = false := by rw [decide_eq_false_iff_not]; omega
    simp only [t0, e0, q1, q2, s0, m0, d0, z, mm, hh, Option.bind_some, decide_true, if_true, bne_self_eq_false, Bool.false_eq_true, if_false, c1]
end Go.Proofs.Ythkbjnbbahmpkaa.Pure

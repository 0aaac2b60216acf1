/- The program's CommonMarks and the reference's. -/
import Derived.Test.YthkbjnbbahmpkaaPCommonCommonMarks
set_option linter.unusedVariables false
set_option linter.unusedSimpArgs false
namespace Go.Proofs.Ythkbjnbbahmpkaa.Pure
open Go Go.Ab
theorem FnExactCommonMarks (a0 : Chain) (h0 : Chain.ok a0) (a1 : Chain) (h1 : Chain.ok a1) : laws_FnExactCommonMarks a0 a1 = some true := by
  have n0 := ok_notches h0
  have m0 := ok_marks h0
  have n1 := ok_notches h1
  have m1 := ok_marks h1
  unfold laws_FnExactCommonMarks
  obtain ⟨r, hr⟩ := szChain_some a0 1048576 h0
  rw [hr, Option.bind_some]
  by_cases hr0 : r < 0
  · rw [if_pos (by simpa using hr0)]
  rw [if_neg (by simpa using hr0)]
  obtain ⟨q, hq⟩ := szChain_some a1 r h1
  rw [hq, Option.bind_some]
  by_cases hq0 : q < 0
  · rw [if_pos (by simpa using hq0)]
  rw [if_neg (by simpa using hq0)]
  have e0 : (⟨a0.Debtor, ⟨a0.Stock.Stock, a0.Stock.Notches, a0.Stock.Grain⟩, a0.Marks⟩ : Chain) = a0 := rfl
  have e1 : (⟨a1.Debtor, ⟨a1.Stock.Stock, a1.Stock.Notches, a1.Stock.Grain⟩, a1.Marks⟩ : Chain) = a1 := rfl
  have s0 := eqChain_eq a0 a0 (by omega) (by omega)
  have s1 := eqChain_eq a1 a1 (by omega) (by omega)
  obtain ⟨x, y, i1, i2', _⟩ := common_same a0 a1 h0 h1
  have i2 : spec_CommonMarks a0 a1 = some (x, y) := by unfold spec_CommonMarks; rw [i2']; rfl
  simp only [toChain_eq _ h0, toChain_eq _ h1, Option.bind_some, e0, e1, i1, i2, s0, s1, decide_true, if_true, beq_self_eq_true, bne_self_eq_false, Bool.false_eq_true, if_false]
end Go.Proofs.Ythkbjnbbahmpkaa.Pure

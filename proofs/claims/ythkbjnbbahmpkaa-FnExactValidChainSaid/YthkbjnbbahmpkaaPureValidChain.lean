/- The program's ValidChain and the reference's. -/
import Derived.Test.YthkbjnbbahmpkaaPValidValidChain
set_option linter.unusedVariables false
set_option linter.unusedSimpArgs false
namespace Go.Proofs.Ythkbjnbbahmpkaa.Pure
open Go Go.Ab
theorem FnExactValidChain (a0 : Chain) (h0 : Chain.ok a0) : laws_FnExactValidChain a0 = some true := by
  have n0 := ok_notches h0
  have m0 := ok_marks h0
  unfold laws_FnExactValidChain
  obtain ⟨r, hr⟩ := szChain_some a0 1048576 h0
  rw [hr, Option.bind_some]
  by_cases hr0 : r < 0
  · rw [if_pos (by simpa using hr0)]
  rw [if_neg (by simpa using hr0)]
  have e0 : (⟨a0.Debtor, ⟨a0.Stock.Stock, a0.Stock.Notches, a0.Stock.Grain⟩, a0.Marks⟩ : Chain) = a0 := rfl
  have s0 := eqChain_eq a0 a0 (by omega) (by omega)
  obtain ⟨b, i1, i2, _⟩ := validChain_same a0 h0
  simp only [toChain_eq _ h0, Option.bind_some, e0, i1, i2, spec_ValidChain, s0, decide_true, if_true, beq_self_eq_true]
end Go.Proofs.Ythkbjnbbahmpkaa.Pure

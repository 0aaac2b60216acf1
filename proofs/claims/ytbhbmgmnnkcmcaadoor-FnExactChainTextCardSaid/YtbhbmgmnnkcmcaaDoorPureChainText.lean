/- The program's ChainText and the reference's. -/
import Derived.Test.YtbhbmgmnnkcmcaaDoorPsChainText
set_option linter.unusedVariables false
set_option linter.unusedSimpArgs false
namespace Go.Proofs.YtbhbmgmnnkcmcaaDoor.Pure
open Go Go.Ab
theorem FnExactChainText (a0 : Chain) (h0 : Chain.ok a0) : laws_FnExactChainText a0 = some true := by
  have hnn := ok_notches h0
  have hmm := ok_marks h0
  unfold laws_FnExactChainText
  obtain ⟨r2, hr2⟩ := szChain_some a0 1048576 h0
  rw [hr2, Option.bind_some]
  by_cases hr3 : r2 < 0
  · rw [if_pos (by simpa using hr3)]
  rw [if_neg (by simpa using hr3)]
  have t1 := toChain_eq a0 h0
  have e1 : (⟨a0.Debtor, ⟨a0.Stock.Stock, a0.Stock.Notches, a0.Stock.Grain⟩, a0.Marks⟩ : Chain) = a0 := rfl
  have s1 := eqChain_eq a0 a0 (by omega) (by omega)
  obtain ⟨t, q1, q2⟩ := chainText_same a0 h0
  simp only [t1, e1, q1, q2, s1, Option.bind_some, decide_true, if_true, beq_self_eq_true]
end Go.Proofs.YtbhbmgmnnkcmcaaDoor.Pure

/- The program's RollText and the reference's. -/
import Derived.Test.YtbhbmgmnnkcmcaaDoorPsRollText
set_option linter.unusedVariables false
set_option linter.unusedSimpArgs false
namespace Go.Proofs.YtbhbmgmnnkcmcaaDoor.Pure
open Go Go.Ab
theorem FnExactRollText (a0 : Roll) (h0 : Roll.ok a0) : laws_FnExactRollText a0 = some true := by
  unfold laws_FnExactRollText
  obtain ⟨r, hr⟩ := szRoll_some a0 1048576 h0
  rw [hr, Option.bind_some]
  by_cases hr0 : r < 0
  · rw [if_pos (by simpa using hr0)]
  rw [if_neg (by simpa using hr0)]
  have e0 : (⟨a0.Accounts, a0.Owed⟩ : Roll) = a0 := rfl
  have s0 := eqRoll_eq a0 a0 h0
  obtain ⟨t, t1, t2⟩ := rollText_same a0 h0
  simp only [toRoll_eq _ h0, Option.bind_some, e0, t1, t2, s0, decide_true, if_true, beq_self_eq_true]
end Go.Proofs.YtbhbmgmnnkcmcaaDoor.Pure

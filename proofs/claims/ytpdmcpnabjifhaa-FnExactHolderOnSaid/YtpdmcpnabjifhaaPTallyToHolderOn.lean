/- Tallies: copied. -/
import Derived.Test.YtpdmcpnabjifhaaPTallyEqHolderOn
set_option linter.unusedVariables false
set_option linter.unusedSimpArgs false
namespace Go.Proofs.Ytpdmcpnabjifhaa
open Go Go.Ab
theorem toTallyS_eq (a : List Tally) (h : a.length * 40 ≤ 140737488351232) : laws_toTallyS a = some a := by
  unfold laws_toTallyS
  have key := copy_loop (tb := laws_toTallyS_b1 a) a (List.replicate a.length ⟨0, 0, 0, 0, 0⟩) (by omega) (by simp)
    (by intro i zs hi hz; simp [laws_toTallyS_b1, laws_toTally, rd_coe, hi, hz]) (by intro zs hz; simp [laws_toTallyS_b1])
  rw [mkS_some h (by omega), Option.bind_some, key, Option.bind_some]
end Go.Proofs.Ytpdmcpnabjifhaa

/- Amounts. -/
import Derived.Test.YtonpeobfmgdamaaPInWorstDebtor
set_option linter.unusedVariables false
namespace Go.Proofs.Ytonpeobfmgdamaa
open Go Go.Ab
theorem l01Amount_eq (n : Int) : spec_l01Amount n = some (inB n 0 100000000) := by
  unfold spec_l01Amount; rw [l00In_eq, Option.bind_some]
theorem isAmount_eq (n : Int) : impl_isAmount n = some (inB n 0 100000000) := by
  unfold impl_isAmount inB; by_cases h : 0 ≤ n <;> simp [h]
end Go.Proofs.Ytonpeobfmgdamaa

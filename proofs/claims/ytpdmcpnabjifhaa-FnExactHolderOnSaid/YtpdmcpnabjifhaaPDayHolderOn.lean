/- Days. -/
import Derived.Test.YtpdmcpnabjifhaaPInHolderOn
namespace Go.Proofs.Ytpdmcpnabjifhaa
open Go Go.Ab
theorem l07Day_eq (n : Int) : spec_l07Day n = some (inB n 0 100000) := by
  unfold spec_l07Day; simp only [l00In_eq, Option.bind_some]
theorem isBookDay_eq (n : Int) : impl_isBookDay n = some (inB n 0 100000) := by
  unfold impl_isBookDay inB; by_cases h : 0 ≤ n <;> simp [h]
end Go.Proofs.Ytpdmcpnabjifhaa

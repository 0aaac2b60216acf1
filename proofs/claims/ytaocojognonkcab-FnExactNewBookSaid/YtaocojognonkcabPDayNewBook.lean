/- Days. -/
import Derived.Test.YtaocojognonkcabPInNewBook
namespace Go.Proofs.Ytaocojognonkcab
open Go Go.Ab
theorem isBookDay_eq (n : Int) : impl_isBookDay n = some (inB n 0 100000) := by
  unfold impl_isBookDay inB; by_cases h : 0 ≤ n <;> simp [h]
end Go.Proofs.Ytaocojognonkcab

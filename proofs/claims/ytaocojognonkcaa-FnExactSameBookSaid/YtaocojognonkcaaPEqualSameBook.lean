/- slices.Equal of numbers. -/
import Derived.Test.YtaocojognonkcaaPSameSameBook
namespace Go.Proofs.Ytaocojognonkcaa
open Go Go.Ab
theorem equalI_eq (a b : List Int) (h : a.length ≤ 4611686018427387904) : slices_Equal_int64 a b = some (decide (a = b)) := by
  rw [← eqInt64S_eq a b h]; rfl
end Go.Proofs.Ytaocojognonkcaa

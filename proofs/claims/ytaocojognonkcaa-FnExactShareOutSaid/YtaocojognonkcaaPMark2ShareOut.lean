/- Marks put into nothing. -/
import Derived.Test.YtaocojognonkcaaPMarkShareOut
namespace Go.Proofs.Ytaocojognonkcaa
open Go Go.Ab
theorem markInt64S_2_eq (k : Int) : laws_markInt64S_2 k = some k := by
  unfold laws_markInt64S_2
  rw [Lw_stop (r := k) (by simp [laws_markInt64S_2_b1]), Option.bind_some]
end Go.Proofs.Ytaocojognonkcaa

/- Marks put into nothing. -/
import Derived.Test.YtfabokkhdalbeadPMarkDoDeal
namespace Go.Proofs.Ytfabokkhdalbead
open Go Go.Ab
theorem markInt64S_2_eq (k : Int) : laws_markInt64S_n k = some k := by
  unfold laws_markInt64S_n
  rw [Lw_stop (r := k) (by simp [laws_markInt64S_n_b1]), Option.bind_some]
end Go.Proofs.Ytfabokkhdalbead

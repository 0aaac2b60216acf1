/- What is known of a law's arguments. -/
import Derived.Test.YtaocojognonkcabLnkNewBook
set_option linter.unusedVariables false
namespace Go.Proofs.Ytaocojognonkcab
open Go Go.Ab
theorem ty2 : ∀ d xs, Ty Try.prog d 2 xs → ∃ x, xs = (cI .i64) x ∧ (InR .i64) x := ty_int Try.underlying2
theorem ty22 : ∀ d xs, Ty Try.prog d 22 xs → ∃ x, xs = (cL (cI .i64)) x ∧ (okLs 8 (InR .i64)) x := ty_sl (b := 8) Try.underlying22 (by kernel_rfl) ty2
end Go.Proofs.Ytaocojognonkcab

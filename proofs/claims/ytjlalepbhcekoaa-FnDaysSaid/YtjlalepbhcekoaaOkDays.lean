/- What is known of a law's arguments. -/
import Derived.Test.YtjlalepbhcekoaaLnkDays
set_option linter.unusedVariables false
namespace Go.Proofs.Ytjlalepbhcekoaa
open Go Go.Ab
theorem ty5 : ∀ d xs, Ty Try.prog d 5 xs → ∃ x, xs = (cI .u8) x ∧ (InR .u8) x := ty_int Try.underlying5
theorem ty22 : ∀ d xs, Ty Try.prog d 22 xs → ∃ x, xs = (cL (cI .u8)) x ∧ (okLs 1 (InR .u8)) x := ty_sl (b := 1) Try.underlying22 (by kernel_rfl) ty5
end Go.Proofs.Ytjlalepbhcekoaa

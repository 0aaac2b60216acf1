/- What is known of a law's arguments. -/
import Derived.Test.YtjlalepbhcekoaaDoorLnkRolls
set_option linter.unusedVariables false
namespace Go.Proofs.YtjlalepbhcekoaaDoor
open Go Go.Ab
theorem ty5 : ∀ d xs, Ty Tryd.prog d 5 xs → ∃ x, xs = (cI .u8) x ∧ (InR .u8) x := ty_int Tryd.underlying5
theorem ty22 : ∀ d xs, Ty Tryd.prog d 22 xs → ∃ x, xs = (cL (cI .u8)) x ∧ (okLs 1 (InR .u8)) x := ty_sl (b := 1) Tryd.underlying22 (by kernel_rfl) ty5
end Go.Proofs.YtjlalepbhcekoaaDoor

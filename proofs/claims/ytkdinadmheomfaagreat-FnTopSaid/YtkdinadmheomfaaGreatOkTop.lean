/- What is known of a law's arguments. -/
import Derived.Test.YtkdinadmheomfaaGreatLnkTop
set_option linter.unusedVariables false
namespace Go.Proofs.YtkdinadmheomfaaGreat
open Go Go.Ab
theorem O1 : ∀ d xs, Ty Tryz.prog d 5 xs -> ∃ x, xs = (cI .u8) x /\ (Ly .u8) x := Ni Tryz.underlying5
theorem N9 : ∀ d xs, Ty Tryz.prog d 22 xs -> ∃ x, xs = (cL (cI .u8)) x /\ (Hk 1 (Ly .u8)) x := NW (b := 1) Tryz.underlying22 (by kernel_rfl) O1
end Go.Proofs.YtkdinadmheomfaaGreat

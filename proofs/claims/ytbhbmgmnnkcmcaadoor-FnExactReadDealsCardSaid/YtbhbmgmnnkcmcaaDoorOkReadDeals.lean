/- What is known of a law's arguments. -/
import Derived.Test.YtbhbmgmnnkcmcaaDoorLnkReadDeals
set_option linter.unusedVariables false
namespace Go.Proofs.YtbhbmgmnnkcmcaaDoor
open Go Go.Ab
theorem ty9 : ∀ d xs, Ty Tryd.prog d 9 xs → ∃ x, xs = cS x ∧ okS x := ty_str Tryd.underlying9
end Go.Proofs.YtbhbmgmnnkcmcaaDoor

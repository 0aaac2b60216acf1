/- The program's ValidDeal and the reference's: both are `dealB`. -/
import Derived.Test.YtaocojognonkcaaPDealValidDeal
namespace Go.Proofs.Ytaocojognonkcaa.Pure
open Go Go.Ab
theorem FnExactValidDeal (a0 : Deal) (h0 : Deal.ok a0) : laws_FnExactValidDeal a0 = some true := by
  unfold laws_FnExactValidDeal laws_toDeal spec_ValidDeal
  simp [l07Deal_eq, validDeal_eq]
end Go.Proofs.Ytaocojognonkcaa.Pure

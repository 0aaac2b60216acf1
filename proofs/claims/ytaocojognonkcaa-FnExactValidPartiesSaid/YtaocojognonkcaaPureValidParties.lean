/- The program's ValidParties and the reference's. -/
import Derived.Test.YtaocojognonkcaaPFindValidParties
set_option linter.unusedVariables false
set_option linter.unusedSimpArgs false
namespace Go.Proofs.Ytaocojognonkcaa.Pure
open Go Go.Ab
theorem FnExactValidParties (a0 : List Party) (h0 : (okLs 24 Party.ok) a0) : laws_FnExactValidParties a0 = some true := by
  have hn := h0.2.1
  have hs : ∀ p ∈ a0, p.Name.length ≤ 4611686018427387904 := fun p hp => Nat.le_trans (h0.2.2 p hp).1 (by omega)
  unfold laws_FnExactValidParties
  obtain ⟨r, hr⟩ := szPartyS_some a0 1048576 (by omega)
  rw [hr, Option.bind_some]
  split
  · rfl
  simp [toPartyS_eq _ hn, spec_ValidParties, implParties_eq a0 (by omega) hs, specParties_eq a0 (by omega) hs, eqPartyS_eq a0 a0 (by omega)]
end Go.Proofs.Ytaocojognonkcaa.Pure

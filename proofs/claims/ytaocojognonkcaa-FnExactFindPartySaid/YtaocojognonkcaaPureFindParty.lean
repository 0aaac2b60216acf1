/- The program's FindParty and the reference's. -/
import Derived.Test.YtaocojognonkcaaPFindFindParty
set_option linter.unusedVariables false
set_option linter.unusedSimpArgs false
namespace Go.Proofs.Ytaocojognonkcaa.Pure
open Go Go.Ab
theorem FnExactFindParty (a0 : List Party) (h0 : (okLs 24 Party.ok) a0) (a1 : List UInt8) (h1 : okS a1) : laws_FnExactFindParty a0 a1 = some true := by
  have hn := h0.2.1
  have hs : ∀ p ∈ a0, p.Name.length ≤ 4611686018427387904 := fun p hp => Nat.le_trans (h0.2.2 p hp).1 (by omega)
  unfold laws_FnExactFindParty
  split
  · rfl
  obtain ⟨r, hr⟩ := szPartyS_some a0 1048576 (by omega)
  rw [hr, Option.bind_some]
  split
  · rfl
  have e1 : spec_FindParty a0 a1 = impl_FindParty a0 a1 := by
    unfold spec_FindParty impl_FindParty
    rw [implParties_eq a0 (by omega) hs, specParties_eq a0 (by omega) hs, implFind_eq a0 a1 (by omega), specFind_eq a0 a1 (by omega)]
  have e2 : ∃ x y, impl_FindParty a0 a1 = some (x, y) := by
    unfold impl_FindParty
    rw [implParties_eq a0 (by omega) hs, implFind_eq a0 a1 (by omega)]
    simp only [Option.bind_some]
    repeat' split
    all_goals exact ⟨_, _, rfl⟩
  obtain ⟨x, y, e2⟩ := e2
  simp [toPartyS_eq _ hn, e1, e2, eqPartyS_eq a0 a0 (by omega)]
end Go.Proofs.Ytaocojognonkcaa.Pure

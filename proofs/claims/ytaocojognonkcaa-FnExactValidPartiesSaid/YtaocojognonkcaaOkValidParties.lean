/- What is known of a law's arguments. -/
import Derived.Test.YtaocojognonkcaaLnkValidParties
set_option linter.unusedVariables false
namespace Go.Proofs.Ytaocojognonkcaa
open Go Go.Ab
theorem ty9 : ∀ d xs, Ty Try.prog d 9 xs → ∃ x, xs = cS x ∧ okS x := ty_str Try.underlying9
theorem ty66 : ∀ d xs, Ty Try.prog d 66 xs → ∃ x, xs = (cI .u32) x ∧ (InR .u32) x := ty_int Try.underlying66
def Party.ok (x : Party) : Prop := okS x.Name ∧ (InR .u32) x.Secret
theorem ty68 : ∀ d xs, Ty Try.prog d 68 xs → ∃ x : Party, xs = Party.c x ∧ Party.ok x := by
  intro d xs h
  cases d with
  | zero => exact h.elim
  | succ d =>
    simp only [Ty, Try.underlying68] at h
    obtain ⟨x0, y0, rfl, g0, f0⟩ := tyFs_cons h
    obtain ⟨v0, rfl, k0⟩ := ty9 _ _ g0
    obtain ⟨x1, y1, rfl, g1, f1⟩ := tyFs_cons f0
    obtain ⟨v1, rfl, k1⟩ := ty66 _ _ g1
    obtain rfl := tyFs_nil f1
    exact ⟨⟨v0, v1⟩, rfl, k0, k1⟩
theorem ty36 : ∀ d xs, Ty Try.prog d 36 xs → ∃ x, xs = (cL Party.c) x ∧ (okLs 24 Party.ok) x := ty_sl (b := 24) Try.underlying36 (by kernel_rfl) ty68
end Go.Proofs.Ytaocojognonkcaa

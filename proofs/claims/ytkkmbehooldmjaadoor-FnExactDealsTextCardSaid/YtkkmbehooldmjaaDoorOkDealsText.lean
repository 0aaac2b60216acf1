/- What is known of a law's arguments. -/
import Derived.Test.YtkkmbehooldmjaaDoorLnkDealsText
set_option linter.unusedVariables false
namespace Go.Proofs.YtkkmbehooldmjaaDoor
open Go Go.Ab
theorem ty2 : ∀ d xs, Ty Tryd.prog d 2 xs → ∃ x, xs = (cI .i64) x ∧ (InR .i64) x := ty_int Tryd.underlying2
theorem ty30 : ∀ d xs, Ty Tryd.prog d 30 xs → ∃ x, xs = (cI .i8) x ∧ (InR .i8) x := ty_int Tryd.underlying30
def Deal.ok (x : Deal) : Prop := (InR .i64) x.Day ∧ (InR .i8) x.Kind ∧ (InR .i64) x.Tally ∧ (InR .i64) x.From ∧ (InR .i64) x.To ∧ (InR .i64) x.Amount
theorem ty34 : ∀ d xs, Ty Tryd.prog d 34 xs → ∃ x : Deal, xs = Deal.c x ∧ Deal.ok x := by
  intro d xs h
  cases d with
  | zero => exact h.elim
  | succ d =>
    simp only [Ty, Tryd.underlying34] at h
    obtain ⟨x0, y0, rfl, g0, f0⟩ := tyFs_cons h
    obtain ⟨v0, rfl, k0⟩ := ty2 _ _ g0
    obtain ⟨x1, y1, rfl, g1, f1⟩ := tyFs_cons f0
    obtain ⟨v1, rfl, k1⟩ := ty30 _ _ g1
    obtain ⟨x2, y2, rfl, g2, f2⟩ := tyFs_cons f1
    obtain ⟨v2, rfl, k2⟩ := ty2 _ _ g2
    obtain ⟨x3, y3, rfl, g3, f3⟩ := tyFs_cons f2
    obtain ⟨v3, rfl, k3⟩ := ty2 _ _ g3
    obtain ⟨x4, y4, rfl, g4, f4⟩ := tyFs_cons f3
    obtain ⟨v4, rfl, k4⟩ := ty2 _ _ g4
    obtain ⟨x5, y5, rfl, g5, f5⟩ := tyFs_cons f4
    obtain ⟨v5, rfl, k5⟩ := ty2 _ _ g5
    obtain rfl := tyFs_nil f5
    exact ⟨⟨v0, v1, v2, v3, v4, v5⟩, rfl, k0, k1, k2, k3, k4, k5⟩
theorem ty22 : ∀ d xs, Ty Tryd.prog d 22 xs → ∃ x, xs = (cL Deal.c) x ∧ (okLs 48 Deal.ok) x := ty_sl (b := 48) Tryd.underlying22 (by kernel_rfl) ty34
end Go.Proofs.YtkkmbehooldmjaaDoor

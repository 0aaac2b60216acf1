/- What is known of a law's arguments. -/
import Derived.Test.YthkbjnbbahmpkaaLnkDebtsIn
set_option linter.unusedVariables false
namespace Go.Proofs.Ythkbjnbbahmpkaa
open Go Go.Ab
theorem ty2 : ∀ d xs, Ty Try.prog d 2 xs → ∃ x, xs = (cI .i64) x ∧ (InR .i64) x := ty_int Try.underlying2
theorem ty49 : ∀ d xs, Ty Try.prog d 49 xs → ∃ x, xs = (cL (cI .i64)) x ∧ (okLs 8 (InR .i64)) x := ty_sl (b := 8) Try.underlying49 (by kernel_rfl) ty2
def Tally.ok (x : Tally) : Prop := (InR .i64) x.Debtor ∧ (InR .i64) x.Holder ∧ (InR .i64) x.Cut ∧ (InR .i64) x.Amount ∧ (InR .i64) x.Left
theorem ty130 : ∀ d xs, Ty Try.prog d 130 xs → ∃ x : Tally, xs = Tally.c x ∧ Tally.ok x := by
  intro d xs h
  cases d with
  | zero => exact h.elim
  | succ d =>
    simp only [Ty, Try.underlying130] at h
    obtain ⟨x0, y0, rfl, g0, f0⟩ := tyFs_cons h
    obtain ⟨v0, rfl, k0⟩ := ty2 _ _ g0
    obtain ⟨x1, y1, rfl, g1, f1⟩ := tyFs_cons f0
    obtain ⟨v1, rfl, k1⟩ := ty2 _ _ g1
    obtain ⟨x2, y2, rfl, g2, f2⟩ := tyFs_cons f1
    obtain ⟨v2, rfl, k2⟩ := ty2 _ _ g2
    obtain ⟨x3, y3, rfl, g3, f3⟩ := tyFs_cons f2
    obtain ⟨v3, rfl, k3⟩ := ty2 _ _ g3
    obtain ⟨x4, y4, rfl, g4, f4⟩ := tyFs_cons f3
    obtain ⟨v4, rfl, k4⟩ := ty2 _ _ g4
    obtain rfl := tyFs_nil f4
    exact ⟨⟨v0, v1, v2, v3, v4⟩, rfl, k0, k1, k2, k3, k4⟩
theorem ty50 : ∀ d xs, Ty Try.prog d 50 xs → ∃ x, xs = (cL Tally.c) x ∧ (okLs 40 Tally.ok) x := ty_sl (b := 40) Try.underlying50 (by kernel_rfl) ty130
def Book.ok (x : Book) : Prop := (InR .i64) x.Day ∧ (okLs 8 (InR .i64)) x.Cash ∧ (okLs 40 Tally.ok) x.Tallies
theorem ty52 : ∀ d xs, Ty Try.prog d 52 xs → ∃ x : Book, xs = Book.c x ∧ Book.ok x := by
  intro d xs h
  cases d with
  | zero => exact h.elim
  | succ d =>
    simp only [Ty, Try.underlying52] at h
    obtain ⟨x0, y0, rfl, g0, f0⟩ := tyFs_cons h
    obtain ⟨v0, rfl, k0⟩ := ty2 _ _ g0
    obtain ⟨x1, y1, rfl, g1, f1⟩ := tyFs_cons f0
    obtain ⟨v1, rfl, k1⟩ := ty49 _ _ g1
    obtain ⟨x2, y2, rfl, g2, f2⟩ := tyFs_cons f1
    obtain ⟨v2, rfl, k2⟩ := ty50 _ _ g2
    obtain rfl := tyFs_nil f2
    exact ⟨⟨v0, v1, v2⟩, rfl, k0, k1, k2⟩
end Go.Proofs.Ythkbjnbbahmpkaa

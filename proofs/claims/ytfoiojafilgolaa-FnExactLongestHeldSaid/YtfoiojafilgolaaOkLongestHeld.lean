/- What is known of a law's arguments. -/
import Derived.Test.YtfoiojafilgolaaLnkLongestHeld
set_option linter.unusedVariables false
namespace Go.Proofs.Ytfoiojafilgolaa
open Go Go.Ab
theorem ty2 : ∀ d xs, Ty Try.prog d 2 xs → ∃ x, xs = (cI .i64) x ∧ (InR .i64) x := ty_int Try.underlying2
theorem ty24 : ∀ d xs, Ty Try.prog d 24 xs → ∃ x, xs = (cL (cI .i64)) x ∧ (okLs 8 (InR .i64)) x := ty_sl (b := 8) Try.underlying24 (by kernel_rfl) ty2
def Tally.ok (x : Tally) : Prop := (InR .i64) x.Debtor ∧ (InR .i64) x.Holder ∧ (InR .i64) x.Cut ∧ (InR .i64) x.Amount ∧ (InR .i64) x.Left
theorem ty154 : ∀ d xs, Ty Try.prog d 154 xs → ∃ x : Tally, xs = Tally.c x ∧ Tally.ok x := by
  intro d xs h
  cases d with
  | zero => exact h.elim
  | succ d =>
    simp only [Ty, Try.underlying154] at h
    obtain ⟨x0, y0, rfl, g0, f0⟩ := tyFs_cons h
    obtain ⟨v0, rfl, k0⟩ := ty2 _ _ g0
    obtain ⟨x1, y1, rfl, g1, f1⟩ := tyFs_cons f0
    obtain ⟨v1, rfl, k1⟩ := ty2 _ _ g1
    obtain ⟨x2, y2, rfl, g2, f2⟩ := tyFs_cons f1
    obtain ⟨v2, rfl, k2⟩ := ty2 _ _ g2
    obtain ⟨x3, y3, rfl, g3, f3⟩ := tyFs_cons f2
    obtain ⟨v3, rfl, k3⟩ := ty2 _ _ g3
    obtain ⟨x4, y4, rfl, g4, f4⟩ := tyFs_cons f3
    obtain ⟨v4, rfl, k4⟩ := ty2 _ _ g4
    obtain rfl := tyFs_nil f4
    exact ⟨⟨v0, v1, v2, v3, v4⟩, rfl, k0, k1, k2, k3, k4⟩
theorem ty40 : ∀ d xs, Ty Try.prog d 40 xs → ∃ x, xs = (cL Tally.c) x ∧ (okLs 40 Tally.ok) x := ty_sl (b := 40) Try.underlying40 (by kernel_rfl) ty154
def Book.ok (x : Book) : Prop := (InR .i64) x.Day ∧ (okLs 8 (InR .i64)) x.Cash ∧ (okLs 40 Tally.ok) x.Tallies
theorem ty42 : ∀ d xs, Ty Try.prog d 42 xs → ∃ x : Book, xs = Book.c x ∧ Book.ok x := by
  intro d xs h
  cases d with
  | zero => exact h.elim
  | succ d =>
    simp only [Ty, Try.underlying42] at h
    obtain ⟨x0, y0, rfl, g0, f0⟩ := tyFs_cons h
    obtain ⟨v0, rfl, k0⟩ := ty2 _ _ g0
    obtain ⟨x1, y1, rfl, g1, f1⟩ := tyFs_cons f0
    obtain ⟨v1, rfl, k1⟩ := ty24 _ _ g1
    obtain ⟨x2, y2, rfl, g2, f2⟩ := tyFs_cons f1
    obtain ⟨v2, rfl, k2⟩ := ty40 _ _ g2
    obtain rfl := tyFs_nil f2
    exact ⟨⟨v0, v1, v2⟩, rfl, k0, k1, k2⟩
theorem ty58 : ∀ d xs, Ty Try.prog d 58 xs → ∃ x, xs = (cI .i8) x ∧ (InR .i8) x := ty_int Try.underlying58
def Deal.ok (x : Deal) : Prop := (InR .i64) x.Day ∧ (InR .i8) x.Kind ∧ (InR .i64) x.Tally ∧ (InR .i64) x.From ∧ (InR .i64) x.To ∧ (InR .i64) x.Amount
theorem ty116 : ∀ d xs, Ty Try.prog d 116 xs → ∃ x : Deal, xs = Deal.c x ∧ Deal.ok x := by
  intro d xs h
  cases d with
  | zero => exact h.elim
  | succ d =>
    simp only [Ty, Try.underlying116] at h
    obtain ⟨x0, y0, rfl, g0, f0⟩ := tyFs_cons h
    obtain ⟨v0, rfl, k0⟩ := ty2 _ _ g0
    obtain ⟨x1, y1, rfl, g1, f1⟩ := tyFs_cons f0
    obtain ⟨v1, rfl, k1⟩ := ty58 _ _ g1
    obtain ⟨x2, y2, rfl, g2, f2⟩ := tyFs_cons f1
    obtain ⟨v2, rfl, k2⟩ := ty2 _ _ g2
    obtain ⟨x3, y3, rfl, g3, f3⟩ := tyFs_cons f2
    obtain ⟨v3, rfl, k3⟩ := ty2 _ _ g3
    obtain ⟨x4, y4, rfl, g4, f4⟩ := tyFs_cons f3
    obtain ⟨v4, rfl, k4⟩ := ty2 _ _ g4
    obtain ⟨x5, y5, rfl, g5, f5⟩ := tyFs_cons f4
    obtain ⟨v5, rfl, k5⟩ := ty2 _ _ g5
    obtain rfl := tyFs_nil f5
    exact ⟨⟨v0, v1, v2, v3, v4, v5⟩, rfl, k0, k1, k2, k3, k4, k5⟩
theorem ty43 : ∀ d xs, Ty Try.prog d 43 xs → ∃ x, xs = (cL Deal.c) x ∧ (okLs 48 Deal.ok) x := ty_sl (b := 48) Try.underlying43 (by kernel_rfl) ty116
end Go.Proofs.Ytfoiojafilgolaa

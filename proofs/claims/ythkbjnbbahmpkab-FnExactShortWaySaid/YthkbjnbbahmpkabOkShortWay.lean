/- What is known of a law's arguments. -/
import Derived.Test.YthkbjnbbahmpkabLnkShortWay
set_option linter.unusedVariables false
namespace Go.Proofs.Ythkbjnbbahmpkab
open Go Go.Ab
theorem ty9 : ∀ d xs, Ty Try.prog d 9 xs → ∃ x, xs = cS x ∧ okS x := ty_str Try.underlying9
theorem ty4 : ∀ d xs, Ty Try.prog d 4 xs → ∃ x, xs = cB x ∧ okB x := ty_bool Try.underlying4
theorem ty23 : ∀ d xs, Ty Try.prog d 23 xs → ∃ x, xs = (cI .i8) x ∧ (InR .i8) x := ty_int Try.underlying23
theorem ty88 : ∀ d xs, Ty Try.prog d 88 xs → ∃ x, xs = (cI .i16) x ∧ (InR .i16) x := ty_int Try.underlying88
def Notch.ok (x : Notch) : Prop := (InR .i8) x.Kind ∧ (InR .i16) x.At
theorem ty92 : ∀ d xs, Ty Try.prog d 92 xs → ∃ x : Notch, xs = Notch.c x ∧ Notch.ok x := by
  intro d xs h
  cases d with
  | zero => exact h.elim
  | succ d =>
    simp only [Ty, Try.underlying92] at h
    obtain ⟨x0, y0, rfl, g0, f0⟩ := tyFs_cons h
    obtain ⟨v0, rfl, k0⟩ := ty23 _ _ g0
    obtain ⟨x1, y1, rfl, g1, f1⟩ := tyFs_cons f0
    obtain ⟨v1, rfl, k1⟩ := ty88 _ _ g1
    obtain rfl := tyFs_nil f1
    exact ⟨⟨v0, v1⟩, rfl, k0, k1⟩
theorem ty22 : ∀ d xs, Ty Try.prog d 22 xs → ∃ x, xs = (cL Notch.c) x ∧ (okLs 4 Notch.ok) x := ty_sl (b := 4) Try.underlying22 (by kernel_rfl) ty92
theorem ty24 : ∀ d xs, Ty Try.prog d 24 xs → ∃ x, xs = (arC (n := 16) (cI .i8) 0) x ∧ (okAr (InR .i8)) x := ty_arr Try.underlying24 ty23 0
def Half.ok (x : Half) : Prop := okB x.Stock ∧ (okLs 4 Notch.ok) x.Notches ∧ (okAr (InR .i8)) x.Grain
theorem ty26 : ∀ d xs, Ty Try.prog d 26 xs → ∃ x : Half, xs = Half.c x ∧ Half.ok x := by
  intro d xs h
  cases d with
  | zero => exact h.elim
  | succ d =>
    simp only [Ty, Try.underlying26] at h
    obtain ⟨x0, y0, rfl, g0, f0⟩ := tyFs_cons h
    obtain ⟨v0, rfl, k0⟩ := ty4 _ _ g0
    obtain ⟨x1, y1, rfl, g1, f1⟩ := tyFs_cons f0
    obtain ⟨v1, rfl, k1⟩ := ty22 _ _ g1
    obtain ⟨x2, y2, rfl, g2, f2⟩ := tyFs_cons f1
    obtain ⟨v2, rfl, k2⟩ := ty24 _ _ g2
    obtain rfl := tyFs_nil f2
    exact ⟨⟨v0, v1, v2⟩, rfl, k0, k1, k2⟩
theorem ty55 : ∀ d xs, Ty Try.prog d 55 xs → ∃ x, xs = (cI .u32) x ∧ (InR .u32) x := ty_int Try.underlying55
def Mark.ok (x : Mark) : Prop := okS x.Holder ∧ (InR .u32) x.Seal
theorem ty72 : ∀ d xs, Ty Try.prog d 72 xs → ∃ x : Mark, xs = Mark.c x ∧ Mark.ok x := by
  intro d xs h
  cases d with
  | zero => exact h.elim
  | succ d =>
    simp only [Ty, Try.underlying72] at h
    obtain ⟨x0, y0, rfl, g0, f0⟩ := tyFs_cons h
    obtain ⟨v0, rfl, k0⟩ := ty9 _ _ g0
    obtain ⟨x1, y1, rfl, g1, f1⟩ := tyFs_cons f0
    obtain ⟨v1, rfl, k1⟩ := ty55 _ _ g1
    obtain rfl := tyFs_nil f1
    exact ⟨⟨v0, v1⟩, rfl, k0, k1⟩
theorem ty27 : ∀ d xs, Ty Try.prog d 27 xs → ∃ x, xs = (cL Mark.c) x ∧ (okLs 24 Mark.ok) x := ty_sl (b := 24) Try.underlying27 (by kernel_rfl) ty72
def Chain.ok (x : Chain) : Prop := okS x.Debtor ∧ Half.ok x.Stock ∧ (okLs 24 Mark.ok) x.Marks
theorem ty29 : ∀ d xs, Ty Try.prog d 29 xs → ∃ x : Chain, xs = Chain.c x ∧ Chain.ok x := by
  intro d xs h
  cases d with
  | zero => exact h.elim
  | succ d =>
    simp only [Ty, Try.underlying29] at h
    obtain ⟨x0, y0, rfl, g0, f0⟩ := tyFs_cons h
    obtain ⟨v0, rfl, k0⟩ := ty9 _ _ g0
    obtain ⟨x1, y1, rfl, g1, f1⟩ := tyFs_cons f0
    obtain ⟨v1, rfl, k1⟩ := ty26 _ _ g1
    obtain ⟨x2, y2, rfl, g2, f2⟩ := tyFs_cons f1
    obtain ⟨v2, rfl, k2⟩ := ty27 _ _ g2
    obtain rfl := tyFs_nil f2
    exact ⟨⟨v0, v1, v2⟩, rfl, k0, k1, k2⟩
end Go.Proofs.Ythkbjnbbahmpkab

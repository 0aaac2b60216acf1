/- What is known of a law's arguments. -/
import Derived.Test.YtonpeobfmgdamabDoorLnkPassOn
set_option linter.unusedVariables false
namespace Go.Proofs.YtonpeobfmgdamabDoor
open Go Go.Ab
theorem ty9 : ∀ d xs, Ty Tryd.prog d 9 xs → ∃ x, xs = cS x ∧ okS x := ty_str Tryd.underlying9
theorem ty4 : ∀ d xs, Ty Tryd.prog d 4 xs → ∃ x, xs = cB x ∧ okB x := ty_bool Tryd.underlying4
theorem ty27 : ∀ d xs, Ty Tryd.prog d 27 xs → ∃ x, xs = (cI .i8) x ∧ (InR .i8) x := ty_int Tryd.underlying27
theorem ty105 : ∀ d xs, Ty Tryd.prog d 105 xs → ∃ x, xs = (cI .i16) x ∧ (InR .i16) x := ty_int Tryd.underlying105
def Notch.ok (x : Notch) : Prop := (InR .i8) x.Kind ∧ (InR .i16) x.At
theorem ty142 : ∀ d xs, Ty Tryd.prog d 142 xs → ∃ x : Notch, xs = Notch.c x ∧ Notch.ok x := by
  intro d xs h
  cases d with
  | zero => exact h.elim
  | succ d =>
    simp only [Ty, Tryd.underlying142] at h
    obtain ⟨x0, y0, rfl, g0, f0⟩ := tyFs_cons h
    obtain ⟨v0, rfl, k0⟩ := ty27 _ _ g0
    obtain ⟨x1, y1, rfl, g1, f1⟩ := tyFs_cons f0
    obtain ⟨v1, rfl, k1⟩ := ty105 _ _ g1
    obtain rfl := tyFs_nil f1
    exact ⟨⟨v0, v1⟩, rfl, k0, k1⟩
theorem ty52 : ∀ d xs, Ty Tryd.prog d 52 xs → ∃ x, xs = (cL Notch.c) x ∧ (okLs 4 Notch.ok) x := ty_sl (b := 4) Tryd.underlying52 (by kernel_rfl) ty142
theorem ty28 : ∀ d xs, Ty Tryd.prog d 28 xs → ∃ x, xs = (arC (n := 16) (cI .i8) 0) x ∧ (okAr (InR .i8)) x := ty_arr Tryd.underlying28 ty27 0
def Half.ok (x : Half) : Prop := okB x.Stock ∧ (okLs 4 Notch.ok) x.Notches ∧ (okAr (InR .i8)) x.Grain
theorem ty54 : ∀ d xs, Ty Tryd.prog d 54 xs → ∃ x : Half, xs = Half.c x ∧ Half.ok x := by
  intro d xs h
  cases d with
  | zero => exact h.elim
  | succ d =>
    simp only [Ty, Tryd.underlying54] at h
    obtain ⟨x0, y0, rfl, g0, f0⟩ := tyFs_cons h
    obtain ⟨v0, rfl, k0⟩ := ty4 _ _ g0
    obtain ⟨x1, y1, rfl, g1, f1⟩ := tyFs_cons f0
    obtain ⟨v1, rfl, k1⟩ := ty52 _ _ g1
    obtain ⟨x2, y2, rfl, g2, f2⟩ := tyFs_cons f1
    obtain ⟨v2, rfl, k2⟩ := ty28 _ _ g2
    obtain rfl := tyFs_nil f2
    exact ⟨⟨v0, v1, v2⟩, rfl, k0, k1, k2⟩
theorem ty37 : ∀ d xs, Ty Tryd.prog d 37 xs → ∃ x, xs = (cI .u32) x ∧ (InR .u32) x := ty_int Tryd.underlying37
def Mark.ok (x : Mark) : Prop := okS x.Holder ∧ (InR .u32) x.Seal
theorem ty119 : ∀ d xs, Ty Tryd.prog d 119 xs → ∃ x : Mark, xs = Mark.c x ∧ Mark.ok x := by
  intro d xs h
  cases d with
  | zero => exact h.elim
  | succ d =>
    simp only [Ty, Tryd.underlying119] at h
    obtain ⟨x0, y0, rfl, g0, f0⟩ := tyFs_cons h
    obtain ⟨v0, rfl, k0⟩ := ty9 _ _ g0
    obtain ⟨x1, y1, rfl, g1, f1⟩ := tyFs_cons f0
    obtain ⟨v1, rfl, k1⟩ := ty37 _ _ g1
    obtain rfl := tyFs_nil f1
    exact ⟨⟨v0, v1⟩, rfl, k0, k1⟩
theorem ty55 : ∀ d xs, Ty Tryd.prog d 55 xs → ∃ x, xs = (cL Mark.c) x ∧ (okLs 24 Mark.ok) x := ty_sl (b := 24) Tryd.underlying55 (by kernel_rfl) ty119
def Chain.ok (x : Chain) : Prop := okS x.Debtor ∧ Half.ok x.Stock ∧ (okLs 24 Mark.ok) x.Marks
theorem ty57 : ∀ d xs, Ty Tryd.prog d 57 xs → ∃ x : Chain, xs = Chain.c x ∧ Chain.ok x := by
  intro d xs h
  cases d with
  | zero => exact h.elim
  | succ d =>
    simp only [Ty, Tryd.underlying57] at h
    obtain ⟨x0, y0, rfl, g0, f0⟩ := tyFs_cons h
    obtain ⟨v0, rfl, k0⟩ := ty9 _ _ g0
    obtain ⟨x1, y1, rfl, g1, f1⟩ := tyFs_cons f0
    obtain ⟨v1, rfl, k1⟩ := ty54 _ _ g1
    obtain ⟨x2, y2, rfl, g2, f2⟩ := tyFs_cons f1
    obtain ⟨v2, rfl, k2⟩ := ty55 _ _ g2
    obtain rfl := tyFs_nil f2
    exact ⟨⟨v0, v1, v2⟩, rfl, k0, k1, k2⟩
def Party.ok (x : Party) : Prop := okS x.Name ∧ (InR .u32) x.Secret
theorem ty58 : ∀ d xs, Ty Tryd.prog d 58 xs → ∃ x : Party, xs = Party.c x ∧ Party.ok x := by
  intro d xs h
  cases d with
  | zero => exact h.elim
  | succ d =>
    simp only [Ty, Tryd.underlying58] at h
    obtain ⟨x0, y0, rfl, g0, f0⟩ := tyFs_cons h
    obtain ⟨v0, rfl, k0⟩ := ty9 _ _ g0
    obtain ⟨x1, y1, rfl, g1, f1⟩ := tyFs_cons f0
    obtain ⟨v1, rfl, k1⟩ := ty37 _ _ g1
    obtain rfl := tyFs_nil f1
    exact ⟨⟨v0, v1⟩, rfl, k0, k1⟩
end Go.Proofs.YtonpeobfmgdamabDoor

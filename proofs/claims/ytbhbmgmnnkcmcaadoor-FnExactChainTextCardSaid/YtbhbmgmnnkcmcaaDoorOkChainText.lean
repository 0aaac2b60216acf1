/- What is known of a law's arguments. -/
import Derived.Test.YtbhbmgmnnkcmcaaDoorLnkChainText
set_option linter.unusedVariables false
namespace Go.Proofs.YtbhbmgmnnkcmcaaDoor
open Go Go.Ab
theorem ty9 : ∀ d xs, Ty Tryd.prog d 9 xs → ∃ x, xs = cS x ∧ okS x := ty_str Tryd.underlying9
theorem ty4 : ∀ d xs, Ty Tryd.prog d 4 xs → ∃ x, xs = cB x ∧ okB x := ty_bool Tryd.underlying4
theorem ty45 : ∀ d xs, Ty Tryd.prog d 45 xs → ∃ x, xs = (cI .i8) x ∧ (InR .i8) x := ty_int Tryd.underlying45
theorem ty154 : ∀ d xs, Ty Tryd.prog d 154 xs → ∃ x, xs = (cI .i16) x ∧ (InR .i16) x := ty_int Tryd.underlying154
def Notch.ok (x : Notch) : Prop := (InR .i8) x.Kind ∧ (InR .i16) x.At
theorem ty199 : ∀ d xs, Ty Tryd.prog d 199 xs → ∃ x : Notch, xs = Notch.c x ∧ Notch.ok x := by
  intro d xs h
  cases d with
  | zero => exact h.elim
  | succ d =>
    simp only [Ty, Tryd.underlying199] at h
    obtain ⟨x0, y0, rfl, g0, f0⟩ := tyFs_cons h
    obtain ⟨v0, rfl, k0⟩ := ty45 _ _ g0
    obtain ⟨x1, y1, rfl, g1, f1⟩ := tyFs_cons f0
    obtain ⟨v1, rfl, k1⟩ := ty154 _ _ g1
    obtain rfl := tyFs_nil f1
    exact ⟨⟨v0, v1⟩, rfl, k0, k1⟩
theorem ty44 : ∀ d xs, Ty Tryd.prog d 44 xs → ∃ x, xs = (cL Notch.c) x ∧ (okLs 4 Notch.ok) x := ty_sl (b := 4) Tryd.underlying44 (by kernel_rfl) ty199
theorem ty46 : ∀ d xs, Ty Tryd.prog d 46 xs → ∃ x, xs = (arC (n := 16) (cI .i8) 0) x ∧ (okAr (InR .i8)) x := ty_arr Tryd.underlying46 ty45 0
def Half.ok (x : Half) : Prop := okB x.Stock ∧ (okLs 4 Notch.ok) x.Notches ∧ (okAr (InR .i8)) x.Grain
theorem ty48 : ∀ d xs, Ty Tryd.prog d 48 xs → ∃ x : Half, xs = Half.c x ∧ Half.ok x := by
  intro d xs h
  cases d with
  | zero => exact h.elim
  | succ d =>
    simp only [Ty, Tryd.underlying48] at h
    obtain ⟨x0, y0, rfl, g0, f0⟩ := tyFs_cons h
    obtain ⟨v0, rfl, k0⟩ := ty4 _ _ g0
    obtain ⟨x1, y1, rfl, g1, f1⟩ := tyFs_cons f0
    obtain ⟨v1, rfl, k1⟩ := ty44 _ _ g1
    obtain ⟨x2, y2, rfl, g2, f2⟩ := tyFs_cons f1
    obtain ⟨v2, rfl, k2⟩ := ty46 _ _ g2
    obtain rfl := tyFs_nil f2
    exact ⟨⟨v0, v1, v2⟩, rfl, k0, k1, k2⟩
theorem ty105 : ∀ d xs, Ty Tryd.prog d 105 xs → ∃ x, xs = (cI .u32) x ∧ (InR .u32) x := ty_int Tryd.underlying105
def Mark.ok (x : Mark) : Prop := okS x.Holder ∧ (InR .u32) x.Seal
theorem ty145 : ∀ d xs, Ty Tryd.prog d 145 xs → ∃ x : Mark, xs = Mark.c x ∧ Mark.ok x := by
  intro d xs h
  cases d with
  | zero => exact h.elim
  | succ d =>
    simp only [Ty, Tryd.underlying145] at h
    obtain ⟨x0, y0, rfl, g0, f0⟩ := tyFs_cons h
    obtain ⟨v0, rfl, k0⟩ := ty9 _ _ g0
    obtain ⟨x1, y1, rfl, g1, f1⟩ := tyFs_cons f0
    obtain ⟨v1, rfl, k1⟩ := ty105 _ _ g1
    obtain rfl := tyFs_nil f1
    exact ⟨⟨v0, v1⟩, rfl, k0, k1⟩
theorem ty49 : ∀ d xs, Ty Tryd.prog d 49 xs → ∃ x, xs = (cL Mark.c) x ∧ (okLs 24 Mark.ok) x := ty_sl (b := 24) Tryd.underlying49 (by kernel_rfl) ty145
def Chain.ok (x : Chain) : Prop := okS x.Debtor ∧ Half.ok x.Stock ∧ (okLs 24 Mark.ok) x.Marks
theorem ty51 : ∀ d xs, Ty Tryd.prog d 51 xs → ∃ x : Chain, xs = Chain.c x ∧ Chain.ok x := by
  intro d xs h
  cases d with
  | zero => exact h.elim
  | succ d =>
    simp only [Ty, Tryd.underlying51] at h
    obtain ⟨x0, y0, rfl, g0, f0⟩ := tyFs_cons h
    obtain ⟨v0, rfl, k0⟩ := ty9 _ _ g0
    obtain ⟨x1, y1, rfl, g1, f1⟩ := tyFs_cons f0
    obtain ⟨v1, rfl, k1⟩ := ty48 _ _ g1
    obtain ⟨x2, y2, rfl, g2, f2⟩ := tyFs_cons f1
    obtain ⟨v2, rfl, k2⟩ := ty49 _ _ g2
    obtain rfl := tyFs_nil f2
    exact ⟨⟨v0, v1, v2⟩, rfl, k0, k1, k2⟩
end Go.Proofs.YtbhbmgmnnkcmcaaDoor

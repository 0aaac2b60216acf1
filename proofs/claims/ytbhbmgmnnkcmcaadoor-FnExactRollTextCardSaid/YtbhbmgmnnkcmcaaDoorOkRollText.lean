/- What is known of a law's arguments. -/
import Derived.Test.YtbhbmgmnnkcmcaaDoorLnkRollText
set_option linter.unusedVariables false
namespace Go.Proofs.YtbhbmgmnnkcmcaaDoor
open Go Go.Ab
theorem ty9 : ∀ d xs, Ty Tryd.prog d 9 xs → ∃ x, xs = cS x ∧ okS x := ty_str Tryd.underlying9
theorem ty45 : ∀ d xs, Ty Tryd.prog d 45 xs → ∃ x, xs = (cI .i8) x ∧ (InR .i8) x := ty_int Tryd.underlying45
theorem ty2 : ∀ d xs, Ty Tryd.prog d 2 xs → ∃ x, xs = (cI .i64) x ∧ (InR .i64) x := ty_int Tryd.underlying2
def Item.ok (x : Item) : Prop := (InR .i8) x.Kind ∧ (InR .i64) x.Amount
theorem ty132 : ∀ d xs, Ty Tryd.prog d 132 xs → ∃ x : Item, xs = Item.c x ∧ Item.ok x := by
  intro d xs h
  cases d with
  | zero => exact h.elim
  | succ d =>
    simp only [Ty, Tryd.underlying132] at h
    obtain ⟨x0, y0, rfl, g0, f0⟩ := tyFs_cons h
    obtain ⟨v0, rfl, k0⟩ := ty45 _ _ g0
    obtain ⟨x1, y1, rfl, g1, f1⟩ := tyFs_cons f0
    obtain ⟨v1, rfl, k1⟩ := ty2 _ _ g1
    obtain rfl := tyFs_nil f1
    exact ⟨⟨v0, v1⟩, rfl, k0, k1⟩
theorem ty22 : ∀ d xs, Ty Tryd.prog d 22 xs → ∃ x, xs = (cL Item.c) x ∧ (okLs 16 Item.ok) x := ty_sl (b := 16) Tryd.underlying22 (by kernel_rfl) ty132
def Account.ok (x : Account) : Prop := okS x.Title ∧ (okLs 16 Item.ok) x.Items ∧ (InR .i64) x.Balance
theorem ty24 : ∀ d xs, Ty Tryd.prog d 24 xs → ∃ x : Account, xs = Account.c x ∧ Account.ok x := by
  intro d xs h
  cases d with
  | zero => exact h.elim
  | succ d =>
    simp only [Ty, Tryd.underlying24] at h
    obtain ⟨x0, y0, rfl, g0, f0⟩ := tyFs_cons h
    obtain ⟨v0, rfl, k0⟩ := ty9 _ _ g0
    obtain ⟨x1, y1, rfl, g1, f1⟩ := tyFs_cons f0
    obtain ⟨v1, rfl, k1⟩ := ty22 _ _ g1
    obtain ⟨x2, y2, rfl, g2, f2⟩ := tyFs_cons f1
    obtain ⟨v2, rfl, k2⟩ := ty2 _ _ g2
    obtain rfl := tyFs_nil f2
    exact ⟨⟨v0, v1, v2⟩, rfl, k0, k1, k2⟩
theorem ty33 : ∀ d xs, Ty Tryd.prog d 33 xs → ∃ x, xs = (cL Account.c) x ∧ (okLs 48 Account.ok) x := ty_sl (b := 48) Tryd.underlying33 (by kernel_rfl) ty24
def Roll.ok (x : Roll) : Prop := (okLs 48 Account.ok) x.Accounts ∧ (InR .i64) x.Owed
theorem ty35 : ∀ d xs, Ty Tryd.prog d 35 xs → ∃ x : Roll, xs = Roll.c x ∧ Roll.ok x := by
  intro d xs h
  cases d with
  | zero => exact h.elim
  | succ d =>
    simp only [Ty, Tryd.underlying35] at h
    obtain ⟨x0, y0, rfl, g0, f0⟩ := tyFs_cons h
    obtain ⟨v0, rfl, k0⟩ := ty33 _ _ g0
    obtain ⟨x1, y1, rfl, g1, f1⟩ := tyFs_cons f0
    obtain ⟨v1, rfl, k1⟩ := ty2 _ _ g1
    obtain rfl := tyFs_nil f1
    exact ⟨⟨v0, v1⟩, rfl, k0, k1⟩
end Go.Proofs.YtbhbmgmnnkcmcaaDoor

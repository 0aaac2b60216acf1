/- What is known of a law's arguments. -/
import Derived.Test.YtonpeobfmgdamaaLnkWorstDebtor
set_option linter.unusedVariables false
namespace Go.Proofs.Ytonpeobfmgdamaa
open Go Go.Ab
theorem ty9 : ∀ d xs, Ty Try.prog d 9 xs → ∃ x, xs = cS x ∧ okS x := ty_str Try.underlying9
theorem ty59 : ∀ d xs, Ty Try.prog d 59 xs → ∃ x, xs = (cI .i8) x ∧ (InR .i8) x := ty_int Try.underlying59
theorem ty2 : ∀ d xs, Ty Try.prog d 2 xs → ∃ x, xs = (cI .i64) x ∧ (InR .i64) x := ty_int Try.underlying2
def Item.ok (x : Item) : Prop := (InR .i8) x.Kind ∧ (InR .i64) x.Amount
theorem ty163 : ∀ d xs, Ty Try.prog d 163 xs → ∃ x : Item, xs = Item.c x ∧ Item.ok x := by
  intro d xs h
  cases d with
  | zero => exact h.elim
  | succ d =>
    simp only [Ty, Try.underlying163] at h
    obtain ⟨x0, y0, rfl, g0, f0⟩ := tyFs_cons h
    obtain ⟨v0, rfl, k0⟩ := ty59 _ _ g0
    obtain ⟨x1, y1, rfl, g1, f1⟩ := tyFs_cons f0
    obtain ⟨v1, rfl, k1⟩ := ty2 _ _ g1
    obtain rfl := tyFs_nil f1
    exact ⟨⟨v0, v1⟩, rfl, k0, k1⟩
theorem ty78 : ∀ d xs, Ty Try.prog d 78 xs → ∃ x, xs = (cL Item.c) x ∧ (okLs 16 Item.ok) x := ty_sl (b := 16) Try.underlying78 (by kernel_rfl) ty163
def Account.ok (x : Account) : Prop := okS x.Title ∧ (okLs 16 Item.ok) x.Items ∧ (InR .i64) x.Balance
theorem ty80 : ∀ d xs, Ty Try.prog d 80 xs → ∃ x : Account, xs = Account.c x ∧ Account.ok x := by
  intro d xs h
  cases d with
  | zero => exact h.elim
  | succ d =>
    simp only [Ty, Try.underlying80] at h
    obtain ⟨x0, y0, rfl, g0, f0⟩ := tyFs_cons h
    obtain ⟨v0, rfl, k0⟩ := ty9 _ _ g0
    obtain ⟨x1, y1, rfl, g1, f1⟩ := tyFs_cons f0
    obtain ⟨v1, rfl, k1⟩ := ty78 _ _ g1
    obtain ⟨x2, y2, rfl, g2, f2⟩ := tyFs_cons f1
    obtain ⟨v2, rfl, k2⟩ := ty2 _ _ g2
    obtain rfl := tyFs_nil f2
    exact ⟨⟨v0, v1, v2⟩, rfl, k0, k1, k2⟩
theorem ty22 : ∀ d xs, Ty Try.prog d 22 xs → ∃ x, xs = (cL Account.c) x ∧ (okLs 48 Account.ok) x := ty_sl (b := 48) Try.underlying22 (by kernel_rfl) ty80
def Roll.ok (x : Roll) : Prop := (okLs 48 Account.ok) x.Accounts ∧ (InR .i64) x.Owed
theorem ty24 : ∀ d xs, Ty Try.prog d 24 xs → ∃ x : Roll, xs = Roll.c x ∧ Roll.ok x := by
  intro d xs h
  cases d with
  | zero => exact h.elim
  | succ d =>
    simp only [Ty, Try.underlying24] at h
    obtain ⟨x0, y0, rfl, g0, f0⟩ := tyFs_cons h
    obtain ⟨v0, rfl, k0⟩ := ty22 _ _ g0
    obtain ⟨x1, y1, rfl, g1, f1⟩ := tyFs_cons f0
    obtain ⟨v1, rfl, k1⟩ := ty2 _ _ g1
    obtain rfl := tyFs_nil f1
    exact ⟨⟨v0, v1⟩, rfl, k0, k1⟩
end Go.Proofs.Ytonpeobfmgdamaa

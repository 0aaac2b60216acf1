/- What is known of a law's arguments. -/
import Derived.Test.YtonpeobfmgdamaaDoorLnkStartChain
set_option linter.unusedVariables false
namespace Go.Proofs.YtonpeobfmgdamaaDoor
open Go Go.Ab
theorem ty4 : ∀ d xs, Ty Tryd.prog d 4 xs → ∃ x, xs = cB x ∧ okB x := ty_bool Tryd.underlying4
theorem ty23 : ∀ d xs, Ty Tryd.prog d 23 xs → ∃ x, xs = (cI .i8) x ∧ (InR .i8) x := ty_int Tryd.underlying23
theorem ty97 : ∀ d xs, Ty Tryd.prog d 97 xs → ∃ x, xs = (cI .i16) x ∧ (InR .i16) x := ty_int Tryd.underlying97
def Notch.ok (x : Notch) : Prop := (InR .i8) x.Kind ∧ (InR .i16) x.At
theorem ty101 : ∀ d xs, Ty Tryd.prog d 101 xs → ∃ x : Notch, xs = Notch.c x ∧ Notch.ok x := by
  intro d xs h
  cases d with
  | zero => exact h.elim
  | succ d =>
    simp only [Ty, Tryd.underlying101] at h
    obtain ⟨x0, y0, rfl, g0, f0⟩ := tyFs_cons h
    obtain ⟨v0, rfl, k0⟩ := ty23 _ _ g0
    obtain ⟨x1, y1, rfl, g1, f1⟩ := tyFs_cons f0
    obtain ⟨v1, rfl, k1⟩ := ty97 _ _ g1
    obtain rfl := tyFs_nil f1
    exact ⟨⟨v0, v1⟩, rfl, k0, k1⟩
theorem ty22 : ∀ d xs, Ty Tryd.prog d 22 xs → ∃ x, xs = (cL Notch.c) x ∧ (okLs 4 Notch.ok) x := ty_sl (b := 4) Tryd.underlying22 (by kernel_rfl) ty101
theorem ty24 : ∀ d xs, Ty Tryd.prog d 24 xs → ∃ x, xs = (arC (n := 16) (cI .i8) 0) x ∧ (okAr (InR .i8)) x := ty_arr Tryd.underlying24 ty23 0
def Half.ok (x : Half) : Prop := okB x.Stock ∧ (okLs 4 Notch.ok) x.Notches ∧ (okAr (InR .i8)) x.Grain
theorem ty26 : ∀ d xs, Ty Tryd.prog d 26 xs → ∃ x : Half, xs = Half.c x ∧ Half.ok x := by
  intro d xs h
  cases d with
  | zero => exact h.elim
  | succ d =>
    simp only [Ty, Tryd.underlying26] at h
    obtain ⟨x0, y0, rfl, g0, f0⟩ := tyFs_cons h
    obtain ⟨v0, rfl, k0⟩ := ty4 _ _ g0
    obtain ⟨x1, y1, rfl, g1, f1⟩ := tyFs_cons f0
    obtain ⟨v1, rfl, k1⟩ := ty22 _ _ g1
    obtain ⟨x2, y2, rfl, g2, f2⟩ := tyFs_cons f1
    obtain ⟨v2, rfl, k2⟩ := ty24 _ _ g2
    obtain rfl := tyFs_nil f2
    exact ⟨⟨v0, v1, v2⟩, rfl, k0, k1, k2⟩
theorem ty9 : ∀ d xs, Ty Tryd.prog d 9 xs → ∃ x, xs = cS x ∧ okS x := ty_str Tryd.underlying9
theorem ty27 : ∀ d xs, Ty Tryd.prog d 27 xs → ∃ x, xs = (cI .u32) x ∧ (InR .u32) x := ty_int Tryd.underlying27
def Party.ok (x : Party) : Prop := okS x.Name ∧ (InR .u32) x.Secret
theorem ty39 : ∀ d xs, Ty Tryd.prog d 39 xs → ∃ x : Party, xs = Party.c x ∧ Party.ok x := by
  intro d xs h
  cases d with
  | zero => exact h.elim
  | succ d =>
    simp only [Ty, Tryd.underlying39] at h
    obtain ⟨x0, y0, rfl, g0, f0⟩ := tyFs_cons h
    obtain ⟨v0, rfl, k0⟩ := ty9 _ _ g0
    obtain ⟨x1, y1, rfl, g1, f1⟩ := tyFs_cons f0
    obtain ⟨v1, rfl, k1⟩ := ty27 _ _ g1
    obtain rfl := tyFs_nil f1
    exact ⟨⟨v0, v1⟩, rfl, k0, k1⟩
end Go.Proofs.YtonpeobfmgdamaaDoor

/- What is known of a law's arguments. -/
import Derived.Test.YtjlalepbhcekoaaDoorLnkTwice
set_option linter.unusedVariables false
namespace Go.Proofs.YtjlalepbhcekoaaDoor
open Go Go.Ab
theorem ty5 : ∀ d xs, Ty Tryd.prog d 5 xs → ∃ x, xs = (cI .u8) x ∧ (InR .u8) x := ty_int Tryd.underlying5
theorem ty22 : ∀ d xs, Ty Tryd.prog d 22 xs → ∃ x, xs = (cL (cI .u8)) x ∧ (okLs 1 (InR .u8)) x := ty_sl (b := 1) Tryd.underlying22 (by kernel_rfl) ty5
def Notch.ok (x : Notch) : Prop := (InR .i8) x.Kind ∧ (InR .i16) x.At
def Half.ok (x : Half) : Prop := okB x.Stock ∧ (okLs 4 Notch.ok) x.Notches ∧ (okAr (InR .i8)) x.Grain
def Mark.ok (x : Mark) : Prop := okS x.Holder ∧ (InR .u32) x.Seal
def Chain.ok (x : Chain) : Prop := okS x.Debtor ∧ Half.ok x.Stock ∧ (okLs 24 Mark.ok) x.Marks
def Party.ok (x : Party) : Prop := okS x.Name ∧ (InR .u32) x.Secret
end Go.Proofs.YtjlalepbhcekoaaDoor

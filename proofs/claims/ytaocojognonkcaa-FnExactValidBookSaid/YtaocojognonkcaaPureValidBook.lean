/- The program's ValidBook and the reference's: both are `bookB`. -/
import Derived.Test.YtaocojognonkcaaPBookOkValidBook
set_option linter.unusedVariables false
set_option linter.unusedSimpArgs false
namespace Go.Proofs.Ytaocojognonkcaa.Pure
open Go Go.Ab
theorem FnExactValidBook (a0 : Book) (h0 : Book.ok a0) : laws_FnExactValidBook a0 = some true := by
  have hc := ok_cash h0
  have ht := ok_tallies h0
  unfold laws_FnExactValidBook
  obtain ⟨r, hr⟩ := szBook_some a0 1048576
  rw [hr, Option.bind_some]
  split
  · rfl
  have e0 : (⟨a0.Day, a0.Cash, a0.Tallies⟩ : Book) = a0 := rfl
  simp only [toBook_eq _ h0, Option.bind_some, e0, spec_ValidBook, l07Ok_eq a0 (by omega) (by omega), validBook_eq a0 (by omega) (by omega), eqBook_eq _ _ h0]
  simp
end Go.Proofs.Ytaocojognonkcaa.Pure

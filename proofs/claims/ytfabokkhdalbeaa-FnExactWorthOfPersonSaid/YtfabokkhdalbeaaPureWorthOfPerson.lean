/- The program's WorthOfPerson and the reference's. -/
import Derived.Test.YtfabokkhdalbeaaPWorthWorthOfPerson
set_option linter.unusedVariables false
set_option linter.unusedSimpArgs false
namespace Go.Proofs.Ytfabokkhdalbeaa.Pure
open Go Go.Ab
theorem FnExactWorthOfPerson (a0 : Book) (h0 : Book.ok a0) (a1 : Int) (h1 : (InR .i64) a1) : laws_FnExactWorthOfPerson a0 a1 = some true := by
  have hc := ok_cash h0
  have ht := ok_tallies h0
  unfold laws_FnExactWorthOfPerson
  obtain ⟨r, hr⟩ := szBook_some a0 1048576
  rw [hr, Option.bind_some]
  split
  · rfl
  have e0 : (⟨a0.Day, a0.Cash, a0.Tallies⟩ : Book) = a0 := rfl
  have e1 : spec_WorthOfPerson a0 a1 = impl_WorthOfPerson a0 a1 := by
    unfold impl_WorthOfPerson spec_WorthOfPerson impl_worthOf spec_l07Worth
    rw [personCode_eq _ _ (by omega) (by omega), l07One_eq _ _ (by omega) (by omega), getsAndOwes_eq _ _ (by omega), l07Owed_eq _ _ (by omega), l07Owes_eq _ _ (by omega)]
    simp only [Option.bind_some]
  have e2 : ∃ x y, impl_WorthOfPerson a0 a1 = some (x, y) := by
    unfold impl_WorthOfPerson impl_worthOf
    rw [personCode_eq _ _ (by omega) (by omega), getsAndOwes_eq _ _ (by omega)]
    simp only [Option.bind_some]
    by_cases h : oneCode a0 a1 = 0
    · obtain ⟨_, g0, g1⟩ := oneCode_zero h
      rw [rd_in g0 g1]
      simp [h]
    · simp [h]
  obtain ⟨x, y, e2⟩ := e2
  simp [toBook_eq _ h0, e0, e1, e2, eqBook_eq _ _ h0]
end Go.Proofs.Ytfabokkhdalbeaa.Pure

/- The program's OwesInAll and the reference's. -/
import Derived.Test.YtfabokkhdalbeaaPWorthOwesInAll
set_option linter.unusedVariables false
set_option linter.unusedSimpArgs false
namespace Go.Proofs.Ytfabokkhdalbeaa.Pure
open Go Go.Ab
theorem FnExactOwesInAll (a0 : Book) (h0 : Book.ok a0) (a1 : Int) (h1 : (InR .i64) a1) : laws_FnExactOwesInAll a0 a1 = some true := by
  have hc := ok_cash h0
  have ht := ok_tallies h0
  unfold laws_FnExactOwesInAll
  obtain ⟨r, hr⟩ := szBook_some a0 1048576
  rw [hr, Option.bind_some]
  split
  · rfl
  have e0 : (⟨a0.Day, a0.Cash, a0.Tallies⟩ : Book) = a0 := rfl
  have e1 : impl_OwesInAll a0 a1 = some (if oneCode a0 a1 = 0 then owesIn a0 a1 else 0, oneCode a0 a1) := by
    unfold impl_OwesInAll
    rw [personCode_eq _ _ (by omega) (by omega), getsAndOwes_eq _ _ (by omega)]
    simp only [Option.bind_some]
    by_cases h : oneCode a0 a1 = 0 <;> simp [h]
  have e2 : spec_OwesInAll a0 a1 = some (if oneCode a0 a1 = 0 then owesIn a0 a1 else 0, oneCode a0 a1) := by
    unfold spec_OwesInAll
    rw [l07One_eq _ _ (by omega) (by omega), l07Owes_eq _ _ (by omega)]
    simp only [Option.bind_some]
    by_cases h : oneCode a0 a1 = 0 <;> simp [h]
  simp [toBook_eq _ h0, e0, e1, e2, eqBook_eq _ _ h0]
end Go.Proofs.Ytfabokkhdalbeaa.Pure

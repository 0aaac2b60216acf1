/- The program's SameBook and the reference's: both tell equality. -/
import Derived.Test.YtaocojognonkcaaPBookSameBook
set_option linter.unusedVariables false
set_option linter.unusedSimpArgs false
namespace Go.Proofs.Ytaocojognonkcaa.Pure
open Go Go.Ab
theorem l07Same_eq (x y : Book) (h : x.ok) : spec_l07Same x y = some (decide (x = y)) := by
  have h1 := (ok_cash h)
  have h2 := (ok_tallies h)
  unfold spec_l07Same
  rw [l00Same_eq _ _ (by omega), Option.bind_some]
  by_cases hl : x.Tallies.length = y.Tallies.length
  · have key := scan_all (tb := spec_l07Same_b1 x y) x.Tallies.length (by omega) (fun i => decide (x.Tallies[i]? = y.Tallies[i]?)) () ()
      (by
        intro i hi
        have hi2 : i < y.Tallies.length := by omega
        simp only [spec_l07Same_b1, rd_coe, List.getElem?_eq_getElem hi, List.getElem?_eq_getElem hi2, Option.bind_some]
        by_cases he : x.Tallies[i] = y.Tallies[i]
        · simp [he, hi]
        · have := mt tally_eq.2 he
          simp [he, hi]
          intros; simp_all)
      (by simp [spec_l07Same_b1])
    rw [key, all_eq hl]
    by_cases e1 : x.Day = y.Day <;> by_cases e2 : x.Cash = y.Cash <;> by_cases e3 : x.Tallies = y.Tallies <;> simp [book_eq, e1, e2, e3, hl]
  · have e3 : x.Tallies ≠ y.Tallies := fun h => hl (by rw [h])
    have hl2 : (x.Tallies.length : Int) ≠ y.Tallies.length := by omega
    by_cases e1 : x.Day = y.Day <;> by_cases e2 : x.Cash = y.Cash <;> simp [book_eq, e1, e2, e3, hl2]
theorem equalT_eq (a b : List Tally) (h : a.length ≤ 4611686018427387904) : slices_Equal_Tally a b = some (decide (a = b)) := by
  unfold slices_Equal_Tally
  by_cases hl : a.length = b.length
  · have key := scan_all (tb := slices_Equal_Tally_b1 a b) a.length h (fun i => decide (a[i]? = b[i]?)) () ()
      (by
        intro i hi
        have hi2 : i < b.length := by omega
        simp only [slices_Equal_Tally_b1, rd_coe, List.getElem?_eq_getElem hi, List.getElem?_eq_getElem hi2, Option.bind_some]
        by_cases he : a[i] = b[i]
        · simp [he, hi]
        · have := mt tally_eq.2 he
          simp [he, hi]
          intros; simp_all)
      (by simp [slices_Equal_Tally_b1])
    rw [if_neg (by simp [hl]), key, all_eq hl]
    by_cases he : a = b <;> simp [he]
  · rw [if_pos (by simp; omega)]
    have : a ≠ b := fun h => hl (by rw [h])
    simp [this]
theorem sameBook_eq (x y : Book) (h : x.ok) : impl_SameBook x y = some (decide (x = y)) := by
  have h1 := (ok_cash h)
  have h2 := (ok_tallies h)
  unfold impl_SameBook
  rw [equalI_eq _ _ (by omega), equalT_eq _ _ (by omega)]
  by_cases e1 : x.Day = y.Day <;> by_cases e2 : x.Cash = y.Cash <;> by_cases e3 : x.Tallies = y.Tallies <;> simp [book_eq, e1, e2, e3]
theorem FnExactSameBook (a0 : Book) (h0 : Book.ok a0) (a1 : Book) (h1 : Book.ok a1) : laws_FnExactSameBook a0 a1 = some true := by
  unfold laws_FnExactSameBook
  obtain ⟨r, hr⟩ := szBook_some a0 1048576
  rw [hr, Option.bind_some]
  split
  · rfl
  obtain ⟨q, hq⟩ := szBook_some a1 r
  rw [hq, Option.bind_some]
  split
  · rfl
  have e0 : (⟨a0.Day, a0.Cash, a0.Tallies⟩ : Book) = a0 := rfl
  have e1 : (⟨a1.Day, a1.Cash, a1.Tallies⟩ : Book) = a1 := rfl
  simp only [toBook_eq _ h0, toBook_eq _ h1, Option.bind_some, e0, e1, spec_SameBook, l07Same_eq _ _ h0, sameBook_eq _ _ h0, eqBook_eq _ _ h0, eqBook_eq _ _ h1]
  simp
end Go.Proofs.Ytaocojognonkcaa.Pure

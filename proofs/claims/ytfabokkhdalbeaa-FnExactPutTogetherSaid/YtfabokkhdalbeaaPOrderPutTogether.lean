/- Deals in order of their days. -/
import Derived.Test.YtfabokkhdalbeaaPDealsPutTogether
set_option linter.unusedVariables false
set_option linter.unusedSimpArgs false
namespace Go.Proofs.Ytfabokkhdalbeaa
open Go Go.Ab
/-- no deal is of a day before that of the one before it -/
def Sorted (xs : List Deal) : Prop := ∀ i (h : i + 1 < xs.length), xs[i].Day ≤ xs[i + 1].Day
open Classical in
noncomputable def sortedB (xs : List Deal) : Bool := decide (Sorted xs)
theorem l07Ordered_eq (xs : List Deal) (hn : xs.length ≤ 4611686018427387904) : spec_l07Ordered xs = some (sortedB xs) := by
  unfold spec_l07Ordered sortedB
  have step : ∀ i, 0 < i → (hi : i < xs.length) → spec_l07Ordered_b1 xs (i : Int) = some (if xs[i - 1].Day ≤ xs[i].Day then .inl ((i + 1 : Nat) : Int) else .inr (.inl ())) := by
    intro i h0 hi
    have e : IntKind.i64.wrap ((i : Int) - 1) = ((i - 1 : Nat) : Int) := by rw [w64 (by omega)]; omega
    simp only [spec_l07Ordered_b1, e, rd_coe, List.getElem?_eq_getElem hi, List.getElem?_eq_getElem (show i - 1 < xs.length by omega), Option.bind_some, w64s hi hn]
    rw [if_pos (by simpa using hi)]
    by_cases h : xs[i - 1].Day ≤ xs[i].Day
    · rw [if_neg (by simp; omega), if_pos h]
    · rw [if_pos (by simp; omega), if_neg h]
  have fin : ∀ i, xs.length ≤ i → spec_l07Ordered_b1 xs (i : Int) = some (.inr (.inr ())) := by
    intro i hi
    simp only [spec_l07Ordered_b1]
    rw [if_neg (by simp; omega)]
  by_cases hS : Sorted xs
  · have key := Lw_run (tb := spec_l07Ordered_b1 xs) (fun j => ((j + 1 : Nat) : Int)) (xs.length - 1) (r := .inr ())
      (by
        intro j hj
        have := hS j (by omega)
        rw [step (j + 1) (by omega) (by omega)]
        simp only [Nat.add_sub_cancel]
        rw [if_pos this])
      (fin _ (by omega))
    have e : (((0 + 1 : Nat)) : Int) = 1 := rfl
    simp only [e] at key
    rw [key]; simp [hS]
  · have hex : ∃ m, ∃ (h : m + 1 < xs.length), ¬ xs[m].Day ≤ xs[m + 1].Day := by
      apply Classical.byContradiction
      intro hno
      exact hS (fun i h => Classical.byContradiction fun hh => hno ⟨i, h, hh⟩)
    obtain ⟨m, ⟨hm, hm2⟩, hmin⟩ := least hex
    have key := Lw_run (tb := spec_l07Ordered_b1 xs) (fun j => ((j + 1 : Nat) : Int)) m (r := .inl ())
      (by
        intro j hj
        have : xs[j].Day ≤ xs[j + 1].Day := Classical.byContradiction fun hh => by have := hmin j ⟨by omega, hh⟩; omega
        rw [step (j + 1) (by omega) (by omega)]
        simp only [Nat.add_sub_cancel]
        rw [if_pos this])
      (by
        rw [step (m + 1) (by omega) (by omega)]
        simp only [Nat.add_sub_cancel]
        rw [if_neg hm2])
    have e : (((0 + 1 : Nat)) : Int) = 1 := rfl
    simp only [e] at key
    rw [key]; simp [hS]
theorem inOrder_eq (xs : List Deal) (hn : xs.length ≤ 4611686018427387904) (hd : ∀ d ∈ xs, 0 ≤ d.Day ∧ d.Day ≤ 100000) : impl_inOrder xs = some (sortedB xs) := by
  unfold impl_inOrder slices_IsSortedFunc_Deal__impl_inOrder_1 sortedB
  have step : ∀ i, 0 < i → (hi : i < xs.length) → slices_IsSortedFunc_Deal__impl_inOrder_1_b1 xs (i : Int) = some (if xs[i - 1].Day ≤ xs[i].Day then .inl ((i - 1 : Nat) : Int) else .inr (.inl ())) := by
    intro i h0 hi
    have e : IntKind.i64.wrap ((i : Int) - 1) = ((i - 1 : Nat) : Int) := by rw [w64 (by omega)]; omega
    have d1 := hd _ (List.getElem_mem hi)
    have d2 := hd _ (List.getElem_mem (show i - 1 < xs.length by omega))
    simp only [slices_IsSortedFunc_Deal__impl_inOrder_1_b1, impl_inOrder_1, e, rd_coe, List.getElem?_eq_getElem hi, List.getElem?_eq_getElem (show i - 1 < xs.length by omega), Option.bind_some]
    rw [if_pos (by simp; omega), w64 (n := xs[i].Day - xs[i - 1].Day) (by omega)]
    by_cases h : xs[i - 1].Day ≤ xs[i].Day
    · rw [if_neg (by simp; omega), if_pos h]
    · rw [if_pos (by simp; omega), if_neg h]
  have fin : ∀ n : Int, n ≤ 0 → slices_IsSortedFunc_Deal__impl_inOrder_1_b1 xs n = some (.inr (.inr ())) := by
    intro n hn
    simp only [slices_IsSortedFunc_Deal__impl_inOrder_1_b1]
    rw [if_neg (by simp; omega)]
  by_cases he : xs.length = 0
  · have : xs = [] := List.length_eq_zero_iff.1 he
    subst this
    rw [Lw_stop (r := .inr ()) (by rw [fin _ (by simp [w64])])]
    have : Sorted [] := fun i h => by simp at h
    simp [this]
  have e0 : IntKind.i64.wrap ((xs.length : Int) - 1) = ((xs.length - 1 - 0 : Nat) : Int) := by rw [w64 (by omega)]; omega
  rw [e0]
  by_cases hS : Sorted xs
  · have key := Lw_run (tb := slices_IsSortedFunc_Deal__impl_inOrder_1_b1 xs) (fun j => ((xs.length - 1 - j : Nat) : Int)) (xs.length - 1) (r := .inr ())
      (by
        intro j hj
        have := hS (xs.length - 1 - j - 1) (by omega)
        have e : xs.length - 1 - j - 1 + 1 = xs.length - 1 - j := by omega
        simp only [e] at this
        rw [step (xs.length - 1 - j) (by omega) (by omega), if_pos this]
        rfl)
      (fin _ (by omega))
    rw [key]; simp [hS]
  · have hex : ∃ m, ∃ (h0 : m + 1 < xs.length), ¬ xs[xs.length - 1 - m - 1].Day ≤ xs[xs.length - 1 - m].Day := by
      apply Classical.byContradiction
      intro hno
      refine hS (fun i h => Classical.byContradiction fun hh => hno ⟨xs.length - 1 - (i + 1), by omega, ?_⟩)
      have e1 : xs.length - 1 - (xs.length - 1 - (i + 1)) = i + 1 := by omega
      simp only [e1, Nat.add_sub_cancel]; exact hh
    obtain ⟨m, ⟨hm, hm2⟩, hmin⟩ := least hex
    have key := Lw_run (tb := slices_IsSortedFunc_Deal__impl_inOrder_1_b1 xs) (fun j => ((xs.length - 1 - j : Nat) : Int)) m (r := .inl ())
      (by
        intro j hj
        have : xs[xs.length - 1 - j - 1].Day ≤ xs[xs.length - 1 - j].Day := Classical.byContradiction fun hh => by have := hmin j ⟨by omega, hh⟩; omega
        rw [step (xs.length - 1 - j) (by omega) (by omega), if_pos this]
        rfl)
      (by rw [step (xs.length - 1 - m) (by omega) (by omega), if_neg hm2])
    rw [key]; simp [hS]
end Go.Proofs.Ytfabokkhdalbeaa

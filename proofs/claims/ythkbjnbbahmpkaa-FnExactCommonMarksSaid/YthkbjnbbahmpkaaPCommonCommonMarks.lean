/- Marks in common. -/
import Derived.Test.YthkbjnbbahmpkaaPValidCommonMarks
set_option linter.unusedVariables false
set_option linter.unusedSimpArgs false
namespace Go.Proofs.Ythkbjnbbahmpkaa
open Go Go.Ab
theorem common_loop (x y : Chain) (hx : x.Marks.length ≤ 30) (hy : y.Marks.length ≤ 30) :
    ∃ r : Int, Lw (impl_common_b1 x y) 0 = some r ∧ Lw (spec_l06Common_b1 x y) 0 = some r ∧ 0 ≤ r ∧ r ≤ x.Marks.length ∧ r ≤ y.Marks.length := by
  have e : Lw (spec_l06Common_b1 x y) 0 = Lw (impl_common_b1 x y) 0 := rfl
  rw [e]
  have : ∃ r r2 : Int, Lw (impl_common_b1 x y) 0 = some r ∧ Lw (impl_common_b1 x y) 0 = some r2 ∧ r = r2 ∧ 0 ≤ r ∧ r ≤ x.Marks.length ∧ r ≤ y.Marks.length := by
    refine Lw_sim (tb := impl_common_b1 x y) (tb2 := impl_common_b1 x y) (fun s => x.Marks.length - s.toNat) (fun s s2 => s = s2 ∧ ∃ i : Nat, s = i ∧ i ≤ x.Marks.length ∧ i ≤ y.Marks.length) _ ?_ _ _ _ rfl ⟨rfl, 0, rfl, by omega, by omega⟩
    rintro s s2 ⟨rfl, i, rfl, hix, hiy⟩
    by_cases h1 : i < x.Marks.length
    · by_cases h2 : i < y.Marks.length
      · have w := w64s h1 (by omega)
        by_cases e1 : x.Marks[i].Holder = y.Marks[i].Holder
        · by_cases e2 : x.Marks[i].Seal = y.Marks[i].Seal
          · have : impl_common_b1 x y (i : Int) = some (.inl ((i + 1 : Nat) : Int)) := by simp [impl_common_b1, rd_coe, h1, h2, e1, e2, w]
            exact .inl ⟨_, _, this, this, ⟨rfl, i + 1, rfl, by omega, by omega⟩, by simp; omega⟩
          · have : impl_common_b1 x y (i : Int) = some (.inr (i : Int)) := by simp [impl_common_b1, rd_coe, h1, h2, e1, e2]
            exact .inr ⟨_, _, this, this, rfl, by omega, by omega, by omega⟩
        · have : impl_common_b1 x y (i : Int) = some (.inr (i : Int)) := by simp [impl_common_b1, rd_coe, h1, h2, e1]
          exact .inr ⟨_, _, this, this, rfl, by omega, by omega, by omega⟩
      · have : impl_common_b1 x y (i : Int) = some (.inr (i : Int)) := by simp [impl_common_b1, h1, h2]
        exact .inr ⟨_, _, this, this, rfl, by omega, by omega, by omega⟩
    · have : impl_common_b1 x y (i : Int) = some (.inr (i : Int)) := by simp [impl_common_b1, h1]
      exact .inr ⟨_, _, this, this, rfl, by omega, by omega, by omega⟩
  obtain ⟨r, _, e1, _, _, h⟩ := this
  exact ⟨r, e1, e1, h⟩
theorem common_same (x y : Chain) (hx : x.ok) (hy : y.ok) : ∃ r c, impl_CommonMarks x y = some (r, c) ∧ spec_l06Common x y = some (r, c) ∧ (c = 0 → ChI x ∧ ChI y ∧ 0 ≤ r ∧ r ≤ x.Marks.length ∧ r ≤ y.Marks.length) := by
  obtain ⟨b, i1, i2, i3⟩ := validChain_same x hx
  obtain ⟨b', j1, j2, j3⟩ := validChain_same y hy
  have n0 := ok_notches hx
  unfold impl_CommonMarks spec_l06Common
  rw [i1, i2, j1, j2, sameHalf_eq _ _ (by omega), l01Same_eq _ _ (by omega)]
  cases b with
  | false => exact ⟨0, 1, by simp, by simp, fun h => by cases h⟩
  | true =>
    cases b' with
    | false => exact ⟨0, 1, by simp, by simp, fun h => by cases h⟩
    | true =>
      by_cases e1 : x.Debtor = y.Debtor
      · by_cases e2 : x.Stock = y.Stock
        · obtain ⟨r, q1, q2, q3⟩ := common_loop x y (i3 rfl).2.1 (j3 rfl).2.1
          exact ⟨r, 0, by simp [e1, e2, impl_common, q1], by simp [e1, e2, q2], fun _ => ⟨i3 rfl, j3 rfl, q3⟩⟩
        · exact ⟨0, 4, by simp [e1, e2], by simp [e1, e2], fun h => by cases h⟩
      · exact ⟨0, 4, by simp [e1], by simp [e1], fun h => by cases h⟩
end Go.Proofs.Ythkbjnbbahmpkaa

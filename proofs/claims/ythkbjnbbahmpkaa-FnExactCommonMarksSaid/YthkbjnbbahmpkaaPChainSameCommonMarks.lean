/- Two chains are the same: the program's word and the reference's. -/
import Derived.Test.YthkbjnbbahmpkaaPChainCommonMarks
set_option linter.unusedVariables false
set_option linter.unusedSimpArgs false
namespace Go.Proofs.Ythkbjnbbahmpkaa
open Go Go.Ab
theorem equalN_eq (a b : List Notch) (h : a.length ≤ 4611686018427387904) : slices_Equal_Notch a b = some (decide (a = b)) := by
  unfold slices_Equal_Notch
  by_cases hl : a.length = b.length
  · rw [if_neg (by simp [hl]), eqS_loop a b h hl (fun i h1 h2 => by
      simp only [slices_Equal_Notch_b1, rd_coe, List.getElem?_eq_getElem h1, List.getElem?_eq_getElem h2, Option.bind_some, notch_eq]
      have h1' : (i : Int) < a.length := by omega
      by_cases e1 : a[i].Kind = b[i].Kind <;> by_cases e2 : a[i].At = b[i].At <;> simp [e1, e2, h1]) (by simp [slices_Equal_Notch_b1])]
    by_cases he : a = b <;> simp [he]
  · rw [if_pos (by simp; omega)]
    have : a ≠ b := fun h => hl (by rw [h])
    simp [this]
theorem sameNotches_eq (a b : List Notch) (h : a.length ≤ 4611686018427387904) : spec_l01SameNotches a b = some (decide (a = b)) := equalN_eq a b h
theorem sameHalf_eq (x y : Half) (h : x.Notches.length ≤ 4611686018427387904) : impl_SameHalf x y = some (decide (x = y)) := by
  unfold impl_SameHalf
  rw [equalN_eq _ _ h, arB_eq]
  by_cases e1 : x.Stock = y.Stock <;> by_cases e2 : x.Notches = y.Notches <;> by_cases e3 : x.Grain = y.Grain <;> simp [half_eq, e1, e2, e3]
theorem l01Same_eq (x y : Half) (h : x.Notches.length ≤ 4611686018427387904) : spec_l01Same x y = some (decide (x = y)) := by
  unfold spec_l01Same
  rw [sameNotches_eq _ _ h, arB_eq]
  by_cases e1 : x.Stock = y.Stock <;> by_cases e2 : x.Notches = y.Notches <;> by_cases e3 : x.Grain = y.Grain <;> simp [half_eq, e1, e2, e3]
end Go.Proofs.Ythkbjnbbahmpkaa

/- Lists of numbers: equal, copied. -/
import Derived.Test.YtpdmcpnabjifhaaOkHolderOn
set_option linter.unusedVariables false
set_option linter.unusedSimpArgs false
namespace Go.Proofs.Ytpdmcpnabjifhaa
open Go Go.Ab
theorem toInt64S_eq (a : List Int) (h : a.length * 8 ≤ 140737488351232) : laws_toInt64S a = some a := by
  unfold laws_toInt64S
  have key := copy_loop (tb := laws_toInt64S_b1 a) a (List.replicate a.length 0) (by omega) (by simp)
    (by intro i zs hi hz; simp [laws_toInt64S_b1, rd_coe, hi, hz]) (by intro zs hz; simp [laws_toInt64S_b1])
  rw [mkS_some h (by omega), Option.bind_some, key, Option.bind_some]
theorem eqInt64S_eq (a b : List Int) (h : a.length ≤ 4611686018427387904) : laws_eqInt64S a b = some (decide (a = b)) := by
  unfold laws_eqInt64S
  by_cases hl : a.length = b.length
  · have key := scan_all (tb := laws_eqInt64S_b1 a b) a.length h (fun i => decide (a[i]? = b[i]?)) () ()
      (by
        intro i hi
        have hi2 : i < b.length := by omega
        simp only [laws_eqInt64S_b1, rd_coe, List.getElem?_eq_getElem hi, List.getElem?_eq_getElem hi2, Option.bind_some]
        by_cases he : a[i] = b[i] <;> simp [he, hi])
      (by simp [laws_eqInt64S_b1])
    rw [if_neg (by simp [hl]), key, all_eq hl]
    by_cases he : a = b <;> simp [he]
  · rw [if_pos (by simp; omega)]
    have : a ≠ b := fun h => hl (by rw [h])
    simp [this]
end Go.Proofs.Ytpdmcpnabjifhaa

/- Tallies: equal, copied. -/
import Derived.Test.YtpdmcpnabjifhaaPSameHolderOn
set_option linter.unusedVariables false
set_option linter.unusedSimpArgs false
namespace Go.Proofs.Ytpdmcpnabjifhaa
open Go Go.Ab
theorem tally_eq {x y : Tally} : x = y ↔ x.Debtor = y.Debtor ∧ x.Holder = y.Holder ∧ x.Cut = y.Cut ∧ x.Amount = y.Amount ∧ x.Left = y.Left := by
  cases x; cases y; simp
theorem eqTally_eq (x y : Tally) : laws_eqTally x y = some (decide (x = y)) := by
  unfold laws_eqTally
  simp only [tally_eq, bne_iff_ne, ne_eq, ite_not]
  repeat' split
  all_goals simp_all
theorem eqTallyS_eq (a b : List Tally) (h : a.length ≤ 4611686018427387904) : laws_eqTallyS a b = some (decide (a = b)) := by
  unfold laws_eqTallyS
  by_cases hl : a.length = b.length
  · have key := scan_all (tb := laws_eqTallyS_b1 a b) a.length h (fun i => decide (a[i]? = b[i]?)) () ()
      (by
        intro i hi
        have hi2 : i < b.length := by omega
        simp only [laws_eqTallyS_b1, rd_coe, List.getElem?_eq_getElem hi, List.getElem?_eq_getElem hi2, Option.bind_some, eqTally_eq]
        by_cases he : a[i] = b[i] <;> simp [he, hi])
      (by simp [laws_eqTallyS_b1])
    rw [if_neg (by simp [hl]), key, all_eq hl]
    by_cases he : a = b <;> simp [he]
  · rw [if_pos (by simp; omega)]
    have : a ≠ b := fun h => hl (by rw [h])
    simp [this]
end Go.Proofs.Ytpdmcpnabjifhaa

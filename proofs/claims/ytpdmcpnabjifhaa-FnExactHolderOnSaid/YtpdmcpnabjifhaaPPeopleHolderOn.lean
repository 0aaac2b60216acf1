/- People. -/
import Derived.Test.YtpdmcpnabjifhaaPAmountHolderOn
set_option linter.unusedVariables false
set_option linter.unusedSimpArgs false
namespace Go.Proofs.Ytpdmcpnabjifhaa
open Go Go.Ab
def personB (n x : Int) : Bool := decide (0 ≤ x) && decide (x < n)
theorem personB_iff {n x : Int} : personB n x = true ↔ 0 ≤ x ∧ x < n := by simp [personB]
theorem l02Person_eq (n x : Int) (h : -9223372036854775807 ≤ n ∧ n ≤ 9223372036854775807) : spec_l02Person n x = some (personB n x) := by
  unfold spec_l02Person
  rw [l00In_eq, w64 (by omega), Option.bind_some]
  congr 1
  rw [Bool.eq_iff_iff, inB_iff, personB_iff]; omega
theorem arePeople_eq (n : Int) (xs : List Int) (hn : xs.length ≤ 4611686018427387904) : impl_arePeople n xs = some (xs.all (personB n)) := by
  unfold impl_arePeople
  have key := scan_all (tb := impl_arePeople_b1 n xs) xs.length hn (fun i => (xs[i]?).all (personB n)) () ()
    (by
      intro i hi
      simp only [impl_arePeople_b1, rd_coe, List.getElem?_eq_getElem hi, Option.bind_some, Option.all_some]
      rw [if_pos (by simpa using hi)]
      by_cases h1 : xs[i] < 0
      · rw [if_pos (by simpa using h1), if_neg (by simp [personB]; omega)]
      · by_cases h2 : xs[i] ≥ n
        · rw [if_neg (by simpa using h1), if_pos (by simpa using h2), if_neg (by simp [personB]; omega)]
        · rw [if_neg (by simpa using h1), if_neg (by simpa using h2), if_pos (by simp [personB]; omega)])
    (by simp [impl_arePeople_b1])
  rw [key, all_get]
  cases xs.all (personB n) <;> simp
end Go.Proofs.Ytpdmcpnabjifhaa

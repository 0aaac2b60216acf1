/- Numbers within bounds. -/
import Derived.Test.YthkbjnbbahmpkabPGenShortWay
set_option linter.unusedVariables false
namespace Go.Proofs.Ythkbjnbbahmpkab
open Go Go.Ab
def inB (n lo hi : Int) : Bool := decide (lo ≤ n) && decide (n ≤ hi)
theorem inB_iff {n lo hi : Int} : inB n lo hi = true ↔ lo ≤ n ∧ n ≤ hi := by simp [inB]
theorem inB_not {n lo hi : Int} : inB n lo hi = false ↔ n < lo ∨ hi < n := by rw [← Bool.not_eq_true, inB_iff]; omega
theorem l00In_eq (n lo hi : Int) : spec_l00In n lo hi = some (inB n lo hi) := by
  unfold spec_l00In inB; by_cases h : lo ≤ n <;> simp [h]
theorem some_ite {α : Type} (c : Bool) (a b : α) : (if c = true then some a else some b) = some (if c = true then a else b) := by cases c <;> rfl
theorem ite_false_b (c b : Bool) : (if c = true then b else false) = (c && b) := by cases c <;> simp
theorem ite_true_b (c b : Bool) : (if c = true then true else b) = (c || b) := by cases c <;> simp
end Go.Proofs.Ythkbjnbbahmpkab

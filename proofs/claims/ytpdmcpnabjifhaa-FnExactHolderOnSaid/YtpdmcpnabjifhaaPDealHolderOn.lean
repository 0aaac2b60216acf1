/- Valid deals. -/
import Derived.Test.YtpdmcpnabjifhaaPWorthHolderOn
set_option linter.unusedVariables false
set_option linter.unusedSimpArgs false
namespace Go.Proofs.Ytpdmcpnabjifhaa
open Go Go.Ab
def dealB (d : Deal) : Bool :=
  inB d.Day 0 100000 &&
  ((d.Kind == 1 && d.Tally == 0 && inB d.From 0 15 && inB d.To 0 15 && inB d.Amount 1 100000000) ||
   (d.Kind == 2 && inB d.Tally 0 39 && inB d.From 0 15 && inB d.To 0 15 && d.Amount == 0) ||
   (d.Kind == 3 && inB d.Tally 0 39 && d.From == 0 && d.To == 0 && inB d.Amount 1 100000000) ||
   (d.Kind == 4 && inB d.Tally 0 39 && inB d.From 0 15 && d.To == 0 && d.Amount == 0))
theorem l07Deal_eq (d : Deal) : spec_l07Deal d = some (dealB d) := by
  unfold spec_l07Deal dealB
  simp only [l00In_eq, l07Day_eq, Option.bind_some, some_ite, ite_false_b]
  cases inB d.Day 0 100000 with
  | false => simp
  | true =>
    by_cases h1 : d.Kind = 1
    · simp [h1, Bool.and_assoc]
    by_cases h2 : d.Kind = 2
    · simp [h2, Bool.and_assoc]
    by_cases h3 : d.Kind = 3
    · simp [h3, Bool.and_assoc]
    by_cases h4 : d.Kind = 4
    · simp [h4, Bool.and_assoc]
    have e1 : (d.Kind == 1) = false := by simpa using h1
    have e2 : (d.Kind == 2) = false := by simpa using h2
    have e3 : (d.Kind == 3) = false := by simpa using h3
    have e4 : (d.Kind == 4) = false := by simpa using h4
    simp [e1, e2, e3, e4]
theorem in_eq (u : Bool) (n lo hi : Int) : impl_ValidDeal_1 u n lo hi = some (if u = true then inB n lo hi else n == 0) := by
  unfold impl_ValidDeal_1 inB; cases u <;> by_cases h : lo ≤ n <;> by_cases h' : n ≤ hi <;> simp [h, h']
theorem validDeal_eq (d : Deal) : impl_ValidDeal d = some (dealB d) := by
  unfold impl_ValidDeal dealB impl_uses
  simp only [isBookDay_eq, in_eq, Option.bind_some, some_ite, ite_false_b]
  cases inB d.Day 0 100000 with
  | false => simp
  | true =>
    by_cases h1 : d.Kind = 1
    · simp [h1, Bool.and_assoc]
    by_cases h2 : d.Kind = 2
    · simp [h2, Bool.and_assoc]
    by_cases h3 : d.Kind = 3
    · simp [h3, Bool.and_assoc]
    by_cases h4 : d.Kind = 4
    · simp [h4, Bool.and_assoc]
    have e1 : (d.Kind == 1) = false := by simpa using h1
    have e2 : (d.Kind == 2) = false := by simpa using h2
    have e3 : (d.Kind == 3) = false := by simpa using h3
    have e4 : (d.Kind == 4) = false := by simpa using h4
    have : d.Kind < 1 ∨ d.Kind > 4 := by omega
    rcases this with h | h <;> simp [e1, e2, e3, e4, h]
end Go.Proofs.Ytpdmcpnabjifhaa

/- What one gets, owes and is worth. -/
import Derived.Test.YtpdmcpnabjifhaaPBookOkHolderOn
set_option linter.unusedVariables false
set_option linter.unusedSimpArgs false
namespace Go.Proofs.Ytpdmcpnabjifhaa
open Go Go.Ab
def getsF (p : Int) (a : Int) (t : Tally) : Int := if (t.Holder == p) = true then IntKind.i64.wrap (a + t.Left) else a
def owesF (p : Int) (a : Int) (t : Tally) : Int := if (t.Debtor == p) = true then IntKind.i64.wrap (a + t.Left) else a
def getsIn (b : Book) (p : Int) : Int := b.Tallies.foldl (getsF p) 0
def owesIn (b : Book) (p : Int) : Int := b.Tallies.foldl (owesF p) 0
theorem foldl_pair {α β τ : Type} (f : α → τ → α) (g : β → τ → β) (xs : List τ) : ∀ (a : α) (b : β), xs.foldl (fun p x => (f p.1 x, g p.2 x)) (a, b) = (xs.foldl f a, xs.foldl g b) := by
  induction xs with
  | nil => intro a b; rfl
  | cons x xs ih => intro a b; exact ih _ _
/-- the code of a book and one of its people -/
def oneCode (b : Book) (p : Int) : Int := if bookB b = true then (if personB b.Cash.length p = true then 0 else 2) else 1
theorem oneCode_zero {b : Book} {p : Int} (h : oneCode b p = 0) : bookB b = true ∧ 0 ≤ p ∧ p < b.Cash.length := by
  unfold oneCode at h
  split at h
  · rename_i h1
    split at h
    · rename_i h2
      exact ⟨h1, personB_iff.1 h2⟩
    · cases h
  · cases h
end Go.Proofs.Ytpdmcpnabjifhaa

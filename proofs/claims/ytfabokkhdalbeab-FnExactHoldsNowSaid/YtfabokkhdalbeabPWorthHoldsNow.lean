/- What one gets, owes and is worth. -/
import Derived.Test.YtfabokkhdalbeabPBookOkHoldsNow
set_option linter.unusedVariables false
set_option linter.unusedSimpArgs false
namespace Go.Proofs.Ytfabokkhdalbeab
open Go Go.Ab
def getsF (p : Int) (a : Int) (t : Tally) : Int := if (t.Holder == p) = true then IntKind.i64.wrap (a + t.Left) else a
def owesF (p : Int) (a : Int) (t : Tally) : Int := if (t.Debtor == p) = true then IntKind.i64.wrap (a + t.Left) else a
def getsIn (b : Book) (p : Int) : Int := b.Tallies.foldl (getsF p) 0
def owesIn (b : Book) (p : Int) : Int := b.Tallies.foldl (owesF p) 0
theorem foldl_pair {α β τ : Type} (f : α → τ → α) (g : β → τ → β) (xs : List τ) : ∀ (a : α) (b : β), xs.foldl (fun p x => (f p.1 x, g p.2 x)) (a, b) = (xs.foldl f a, xs.foldl g b) := by
  induction xs with
  | nil => intro a b; rfl
  | cons x xs ih => intro a b; exact ih _ _
/-- the code of a book and one of its people -/
def oneCode (b : Book) (p : Int) : Int := if bookB b = true then (if personB b.Cash.length p = true then 0 else 2) else 1
theorem personCode_eq (b : Book) (p : Int) (hc : b.Cash.length ≤ 4611686018427387904) (hn : b.Tallies.length ≤ 4611686018427387904) : impl_personCode b p = some (oneCode b p) := by
  unfold impl_personCode oneCode
  rw [validBook_eq b hc hn, arePeople_eq _ _ (by simp)]
  simp only [Option.bind_some, List.all_cons, List.all_nil, Bool.and_true]
  cases bookB b <;> cases personB b.Cash.length p <;> simp
theorem l07One_eq (b : Book) (p : Int) (hc : b.Cash.length ≤ 4611686018427387904) (hn : b.Tallies.length ≤ 4611686018427387904) : spec_l07One b p = some (oneCode b p) := by
  unfold spec_l07One oneCode
  rw [l07Ok_eq b hc hn, l02Person_eq _ _ (by omega)]
  simp only [Option.bind_some]
  cases bookB b <;> cases personB b.Cash.length p <;> simp
theorem oneCode_zero {b : Book} {p : Int} (h : oneCode b p = 0) : bookB b = true ∧ 0 ≤ p ∧ p < b.Cash.length := by
  unfold oneCode at h
  split at h
  · rename_i h1
    split at h
    · rename_i h2
      exact ⟨h1, personB_iff.1 h2⟩
    · cases h
  · cases h
end Go.Proofs.Ytfabokkhdalbeab

/- What one gets, owes and is worth. -/
import Derived.Test.YtfabokkhdalbeaaPBookOkWorthOfPerson
set_option linter.unusedVariables false
set_option linter.unusedSimpArgs false
namespace Go.Proofs.Ytfabokkhdalbeaa
open Go Go.Ab
def getsF (p : Int) (a : Int) (t : Tally) : Int := if (t.Holder == p) = true then IntKind.i64.wrap (a + t.Left) else a
def owesF (p : Int) (a : Int) (t : Tally) : Int := if (t.Debtor == p) = true then IntKind.i64.wrap (a + t.Left) else a
def getsIn (b : Book) (p : Int) : Int := b.Tallies.foldl (getsF p) 0
def owesIn (b : Book) (p : Int) : Int := b.Tallies.foldl (owesF p) 0
theorem l07Owed_eq (b : Book) (p : Int) (hn : b.Tallies.length ≤ 4611686018427387904) : spec_l07Owed b p = some (getsIn b p) := by
  unfold spec_l07Owed getsIn
  have key := Lw_fold (tb := spec_l07Owed_b1 b p) b.Tallies (getsF p) (fun a i => (a, (i : Int))) id
    (by
      intro i hi a
      simp only [spec_l07Owed_b1, rd_coe, List.getElem?_eq_getElem hi, Option.bind_some, getsF]
      rw [if_pos (by simpa using hi), w64s hi hn]
      split <;> simp_all)
    (by intro a; simp [spec_l07Owed_b1]) 0
  have e : ((0 : Int), ((0 : Nat) : Int)) = (0, 0) := rfl
  rw [e] at key
  rw [key]; rfl
theorem l07Owes_eq (b : Book) (p : Int) (hn : b.Tallies.length ≤ 4611686018427387904) : spec_l07Owes b p = some (owesIn b p) := by
  unfold spec_l07Owes owesIn
  have key := Lw_fold (tb := spec_l07Owes_b1 b p) b.Tallies (owesF p) (fun a i => (a, (i : Int))) id
    (by
      intro i hi a
      simp only [spec_l07Owes_b1, rd_coe, List.getElem?_eq_getElem hi, Option.bind_some, owesF]
      rw [if_pos (by simpa using hi), w64s hi hn]
      split <;> simp_all)
    (by intro a; simp [spec_l07Owes_b1]) 0
  have e : ((0 : Int), ((0 : Nat) : Int)) = (0, 0) := rfl
  rw [e] at key
  rw [key]; rfl
theorem foldl_pair {α β τ : Type} (f : α → τ → α) (g : β → τ → β) (xs : List τ) : ∀ (a : α) (b : β), xs.foldl (fun p x => (f p.1 x, g p.2 x)) (a, b) = (xs.foldl f a, xs.foldl g b) := by
  induction xs with
  | nil => intro a b; rfl
  | cons x xs ih => intro a b; exact ih _ _
theorem getsAndOwes_eq (b : Book) (p : Int) (hn : b.Tallies.length ≤ 4611686018427387904) : impl_getsAndOwes b p = some (getsIn b p, owesIn b p) := by
  unfold impl_getsAndOwes getsIn owesIn
  have key := Lw_fold (tb := impl_getsAndOwes_b1 b p) b.Tallies (fun q t => (getsF p q.1 t, owesF p q.2 t)) (fun q i => (q.1, q.2, (i : Int))) id
    (by
      intro i hi a
      simp only [impl_getsAndOwes_b1, rd_coe, List.getElem?_eq_getElem hi, Option.bind_some, getsF, owesF]
      rw [if_pos (by simpa using hi), w64s hi hn]
      by_cases h1 : (b.Tallies[i].Holder == p) = true <;> by_cases h2 : (b.Tallies[i].Debtor == p) = true <;> simp [h1, h2])
    (by intro a; simp [impl_getsAndOwes_b1]) (0, 0)
  rw [foldl_pair] at key
  have e : ((0 : Int), (0 : Int), ((0 : Nat) : Int)) = (0, 0, 0) := rfl
  simp only [e] at key
  rw [key]; rfl
/-- the code of a book and one of its people -/
def oneCode (b : Book) (p : Int) : Int := if bookB b = true then (if personB b.Cash.length p = true then 0 else 2) else 1
theorem personCode_eq (b : Book) (p : Int) (hc : b.Cash.length ≤ 4611686018427387904) (hn : b.Tallies.length ≤ 4611686018427387904) : impl_personCode b p = some (oneCode b p) := by
  unfold impl_personCode oneCode
  rw [validBook_eq b hc hn, arePeople_eq _ _ (by simp)]
  simp only [Option.bind_some, List.all_cons, List.all_nil, Bool.and_true]
  cases bookB b <;> cases personB b.Cash.length p <;> simp
theorem l07One_eq (b : Book) (p : Int) (hc : b.Cash.length ≤ 4611686018427387904) (hn : b.Tallies.length ≤ 4611686018427387904) : spec_l07One b p = some (oneCode b p) := by
  unfold spec_l07One oneCode
  rw [l07Ok_eq b hc hn, l02Person_eq _ _ (by omega)]
  simp only [Option.bind_some]
  cases bookB b <;> cases personB b.Cash.length p <;> simp
theorem oneCode_zero {b : Book} {p : Int} (h : oneCode b p = 0) : bookB b = true ∧ 0 ≤ p ∧ p < b.Cash.length := by
  unfold oneCode at h
  split at h
  · rename_i h1
    split at h
    · rename_i h2
      exact ⟨h1, personB_iff.1 h2⟩
    · cases h
  · cases h
end Go.Proofs.Ytfabokkhdalbeaa

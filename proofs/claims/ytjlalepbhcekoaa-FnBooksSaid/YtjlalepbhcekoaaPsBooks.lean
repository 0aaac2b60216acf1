/- Plain lemmas. -/
import Derived.Test.YtjlalepbhcekoaaOkBooks
set_option linter.unusedVariables false
set_option linter.unusedSimpArgs false
namespace Go.Proofs.Ytjlalepbhcekoaa
open Go Go.Ab
end Go.Proofs.Ytjlalepbhcekoaa
namespace Go.Proofs.Ytjlalepbhcekoaa
open Go Go.Ab
end Go.Proofs.Ytjlalepbhcekoaa
namespace Go.Proofs.Ytjlalepbhcekoaa
open Go Go.Ab
end Go.Proofs.Ytjlalepbhcekoaa
namespace Go.Proofs.Ytjlalepbhcekoaa
open Go Go.Ab
end Go.Proofs.Ytjlalepbhcekoaa
namespace Go.Proofs.Ytjlalepbhcekoaa
open Go Go.Ab
end Go.Proofs.Ytjlalepbhcekoaa
namespace Go.Proofs.Ytjlalepbhcekoaa
open Go Go.Ab
end Go.Proofs.Ytjlalepbhcekoaa
namespace Go.Proofs.Ytjlalepbhcekoaa
open Go Go.Ab
def inB (n lo hi : Int) : Bool := decide (lo ≤ n) && decide (n ≤ hi)
theorem inB_iff {n lo hi : Int} : inB n lo hi = true ↔ lo ≤ n ∧ n ≤ hi := by simp [inB]
theorem inB_not {n lo hi : Int} : inB n lo hi = false ↔ n < lo ∨ hi < n := by rw [← Bool.not_eq_true, inB_iff]; omega
theorem l00In_eq (n lo hi : Int) : spec_l00In n lo hi = some (inB n lo hi) := by
  unfold spec_l00In inB; by_cases h : lo ≤ n <;> simp [h]
theorem some_ite {α : Type} (c : Bool) (a b : α) : (if c = true then some a else some b) = some (if c = true then a else b) := by cases c <;> rfl
theorem ite_false_b (c b : Bool) : (if c = true then b else false) = (c && b) := by cases c <;> simp
end Go.Proofs.Ytjlalepbhcekoaa
namespace Go.Proofs.Ytjlalepbhcekoaa
open Go Go.Ab
theorem l07Day_eq (n : Int) : spec_l07Day n = some (inB n 0 100000) := by
  unfold spec_l07Day; simp only [l00In_eq, Option.bind_some]
theorem isBookDay_eq (n : Int) : impl_isBookDay n = some (inB n 0 100000) := by
  unfold impl_isBookDay inB; by_cases h : 0 ≤ n <;> simp [h]
end Go.Proofs.Ytjlalepbhcekoaa
namespace Go.Proofs.Ytjlalepbhcekoaa
open Go Go.Ab
theorem l01Amount_eq (n : Int) : spec_l01Amount n = some (inB n 0 100000000) := by
  unfold spec_l01Amount; rw [l00In_eq, Option.bind_some]
theorem isAmount_eq (n : Int) : impl_isAmount n = some (inB n 0 100000000) := by
  unfold impl_isAmount inB; by_cases h : 0 ≤ n <;> simp [h]
end Go.Proofs.Ytjlalepbhcekoaa
namespace Go.Proofs.Ytjlalepbhcekoaa
open Go Go.Ab
def personB (n x : Int) : Bool := decide (0 ≤ x) && decide (x < n)
theorem personB_iff {n x : Int} : personB n x = true ↔ 0 ≤ x ∧ x < n := by simp [personB]
theorem l02Person_eq (n x : Int) (h : -9223372036854775807 ≤ n ∧ n ≤ 9223372036854775807) : spec_l02Person n x = some (personB n x) := by
  unfold spec_l02Person
  rw [l00In_eq, w64 (by omega), Option.bind_some]
  congr 1
  rw [Bool.eq_iff_iff, inB_iff, personB_iff]; omega
theorem arePeople_eq (n : Int) (xs : List Int) (hn : xs.length ≤ 4611686018427387904) : impl_arePeople n xs = some (xs.all (personB n)) := by
  unfold impl_arePeople
  have key := scan_all (tb := impl_arePeople_b1 n xs) xs.length hn (fun i => (xs[i]?).all (personB n)) () ()
    (by
      intro i hi
      simp only [impl_arePeople_b1, rd_coe, List.getElem?_eq_getElem hi, Option.bind_some, Option.all_some]
      rw [if_pos (by simpa using hi)]
      by_cases h1 : xs[i] < 0
      · rw [if_pos (by simpa using h1), if_neg (by simp [personB]; omega)]
      · by_cases h2 : xs[i] ≥ n
        · rw [if_neg (by simpa using h1), if_pos (by simpa using h2), if_neg (by simp [personB]; omega)]
        · rw [if_neg (by simpa using h1), if_neg (by simpa using h2), if_pos (by simp [personB]; omega)])
    (by simp [impl_arePeople_b1])
  rw [key, all_get]
  cases xs.all (personB n) <;> simp
end Go.Proofs.Ytjlalepbhcekoaa
namespace Go.Proofs.Ytjlalepbhcekoaa
open Go Go.Ab
def amB (n : Int) : Bool := inB n 0 100000000
def prevCut (b : Book) (i : Nat) : Int := if i = 0 then 0 else ((b.Tallies[i - 1]?).map (·.Cut)).getD 0
def tallyB (b : Book) (i : Nat) (t : Tally) : Bool :=
  personB b.Cash.length t.Debtor && (personB b.Cash.length t.Holder && (inB t.Cut 0 b.Day && (inB t.Amount 1 100000000 && (inB t.Left 0 t.Amount && (!(t.Debtor == t.Holder && t.Left != 0) && decide (prevCut b i ≤ t.Cut))))))
def talliesB (b : Book) : Bool := (List.range b.Tallies.length).all fun i => (b.Tallies[i]?).all (tallyB b i)
def bookB (b : Book) : Bool := inB b.Day 0 100000 && (b.Cash.all amB && inB b.Cash.length 1 16 && (decide (b.Tallies.length ≤ 40) && talliesB b))
theorem cash_spec (a : List Int) (hn : a.length ≤ 4611686018427387904) : spec_l07Cash a = some (a.all amB && inB a.length 1 16) := by
  unfold spec_l07Cash
  have key := scan_all (tb := spec_l07Cash_b1 a) a.length hn (fun i => (a[i]?).all amB) () ()
    (by
      intro i hi
      simp only [spec_l07Cash_b1, rd_coe, List.getElem?_eq_getElem hi, Option.bind_some, l01Amount_eq, Option.all_some]
      rw [if_pos (by simpa using hi)]
      cases h : amB a[i] <;> simp [amB] at h <;> simp [h])
    (by simp [spec_l07Cash_b1])
  rw [key, all_get]
  cases a.all amB <;> simp [l00In_eq]
theorem cash_impl (b : Book) (hn : b.Cash.length ≤ 4611686018427387904) : Lw (impl_ValidBook_b1 b) 0 = some (if b.Cash.all amB = true then .inr () else .inl ()) := by
  have key := scan_all (tb := impl_ValidBook_b1 b) b.Cash.length hn (fun i => (b.Cash[i]?).all amB) () ()
    (by
      intro i hi
      simp only [impl_ValidBook_b1, rd_coe, List.getElem?_eq_getElem hi, Option.bind_some, isAmount_eq, Option.all_some]
      rw [if_pos (by simpa using hi)]
      cases h : amB b.Cash[i] <;> simp [amB] at h <;> simp [h])
    (by simp [impl_ValidBook_b1])
  rw [key, all_get]
theorem tallies_spec (b : Book) (hc : b.Cash.length ≤ 4611686018427387904) (hn : b.Tallies.length ≤ 4611686018427387904) : Lw (spec_l07Ok_b1 b) 0 = some (if talliesB b = true then .inr () else .inl ()) := by
  refine scan_all (tb := spec_l07Ok_b1 b) b.Tallies.length hn (fun i => (b.Tallies[i]?).all (tallyB b i)) () () (fun i hi => ?_) (by simp [spec_l07Ok_b1])
  simp only [spec_l07Ok_b1, rd_coe, List.getElem?_eq_getElem hi, Option.bind_some, Option.all_some, l02Person_eq _ _ (show -9223372036854775807 ≤ (b.Cash.length : Int) ∧ (b.Cash.length : Int) ≤ 9223372036854775807 by omega), l00In_eq]
  rw [if_pos (by simpa using hi)]
  unfold tallyB
  generalize b.Tallies[i] = t
  cases personB b.Cash.length t.Debtor with
  | false => simp
  | true =>
  cases personB b.Cash.length t.Holder with
  | false => simp
  | true =>
  cases hcut : inB t.Cut 0 b.Day with
  | false => simp
  | true =>
  cases inB t.Amount 1 100000000 with
  | false => simp
  | true =>
  cases inB t.Left 0 t.Amount with
  | false => simp
  | true =>
  obtain ⟨hc0, _⟩ := inB_iff.1 hcut
  have tail : (if decide ((i : Int) > 0) = true then (rd b.Tallies (IntKind.i64.wrap ((i : Int) - 1))).bind fun x92 => if decide (t.Cut < x92.Cut) = true then some (Sum.inr (Sum.inl ())) else some (Sum.inl (IntKind.i64.wrap ((i : Int) + 1))) else some (Sum.inl (IntKind.i64.wrap ((i : Int) + 1)))) = (some (if decide (prevCut b i ≤ t.Cut) = true then Sum.inl (IntKind.i64.wrap ((i : Int) + 1)) else Sum.inr (Sum.inl ())) : Option (Int ⊕ (Unit ⊕ Unit))) := by
    by_cases h0 : i = 0
    · subst h0; simp [prevCut, hc0]
    · have h1 : i - 1 < b.Tallies.length := by omega
      have e : IntKind.i64.wrap ((i : Int) - 1) = ((i - 1 : Nat) : Int) := by rw [w64 (by omega)]; omega
      rw [if_pos (by simp; omega), e, rd_coe, List.getElem?_eq_getElem h1, Option.bind_some]
      have e2 : prevCut b i = b.Tallies[i - 1].Cut := by simp [prevCut, h0, h1]
      rw [e2]
      by_cases h2 : t.Cut < b.Tallies[i - 1].Cut
      · rw [if_pos (by simpa using h2), if_neg (by simpa using h2)]
      · rw [if_neg (by simpa using h2), if_pos (by simpa using h2)]
  simp only [if_true, Bool.true_and, tail]
  cases h1 : (t.Debtor == t.Holder) with
  | false => simp
  | true => cases h2 : (t.Left != 0) <;> simp
theorem tallies_impl (b : Book) (hc : b.Cash.length ≤ 4611686018427387904) (hn : b.Tallies.length ≤ 4611686018427387904) : Lw (impl_ValidBook_b2 b) (0, 0) = some (if talliesB b = true then .inr () else .inl ()) := by
  refine scan_st (tb := impl_ValidBook_b2 b) (fun i => (prevCut b i, (i : Int))) b.Tallies.length (fun i => (b.Tallies[i]?).all (tallyB b i)) (.inl ()) (.inr ()) (fun i hi hall => ?_) (fun _ => by simp [impl_ValidBook_b2])
  have hp : 0 ≤ prevCut b i := by
    by_cases h0 : i = 0
    · simp [prevCut, h0]
    · have h1 : i - 1 < b.Tallies.length := by omega
      have := hall (i - 1) (by omega)
      rw [List.getElem?_eq_getElem h1, Option.all_some] at this
      unfold tallyB at this
      simp only [Bool.and_eq_true] at this
      have h3 := (inB_iff.1 this.2.2.1).1
      simp [prevCut, h0, h1, h3]
  have hs : prevCut b (i + 1) = b.Tallies[i].Cut := by simp [prevCut, hi]
  simp only [impl_ValidBook_b2, rd_coe, List.getElem?_eq_getElem hi, Option.bind_some, Option.all_some, arePeople_eq _ _ (show ([b.Tallies[i].Debtor, b.Tallies[i].Holder] : List Int).length ≤ 4611686018427387904 by simp), hs]
  rw [if_pos (by simpa using hi), w64s hi hn]
  unfold tallyB
  generalize b.Tallies[i] = t
  simp only [List.all_cons, List.all_nil, Bool.and_true]
  cases personB b.Cash.length t.Debtor with
  | false => simp
  | true =>
  cases personB b.Cash.length t.Holder with
  | false => simp
  | true =>
  simp only [Bool.true_and, if_true]
  by_cases c1 : t.Cut < prevCut b i
  · have : decide (prevCut b i ≤ t.Cut) = false := by simpa using c1
    simp [c1, this]
  · have e1 : decide (prevCut b i ≤ t.Cut) = true := by simpa using c1
    have c0 : 0 ≤ t.Cut := by omega
    simp only [c1, decide_false, Bool.false_eq_true, if_false, e1, Bool.and_true]
    by_cases c2 : t.Cut > b.Day
    · simp [c2, inB]; omega
    · have e2 : inB t.Cut 0 b.Day = true := inB_iff.2 ⟨c0, by omega⟩
      simp only [c2, decide_false, Bool.false_eq_true, if_false, e2, Bool.true_and]
      by_cases c3 : t.Amount < 1
      · simp [c3, inB]; omega
      · by_cases c4 : t.Amount > 100000000
        · simp [c3, c4, inB]; omega
        · have e3 : inB t.Amount 1 100000000 = true := inB_iff.2 ⟨by omega, by omega⟩
          simp only [c3, c4, decide_false, Bool.false_eq_true, if_false, e3, Bool.true_and]
          by_cases c5 : t.Left < 0
          · simp [c5, inB]; omega
          · by_cases c6 : t.Left > t.Amount
            · simp [c5, c6, inB]; omega
            · have e4 : inB t.Left 0 t.Amount = true := inB_iff.2 ⟨by omega, by omega⟩
              simp only [c5, c6, decide_false, Bool.false_eq_true, if_false, e4, Bool.true_and]
              cases h1 : (t.Debtor == t.Holder) with
              | false => simp
              | true => cases h2 : (t.Left != 0) <;> simp
theorem validBook_eq (b : Book) (hc : b.Cash.length ≤ 4611686018427387904) (hn : b.Tallies.length ≤ 4611686018427387904) : impl_ValidBook b = some (bookB b) := by
  unfold impl_ValidBook bookB
  rw [isBookDay_eq, cash_impl b hc, tallies_impl b hc hn]
  simp only [Option.bind_some]
  cases inB b.Day 0 100000 with
  | false => simp
  | true =>
    simp only [if_true, Bool.true_and]
    by_cases c1 : (b.Cash.length : Int) < 1
    · have : inB b.Cash.length 1 16 = false := inB_not.2 (.inl c1)
      simp [c1, this]
    · by_cases c2 : (b.Cash.length : Int) > 16
      · have : inB b.Cash.length 1 16 = false := inB_not.2 (.inr c2)
        simp [c1, c2, this]
      · have e1 : inB b.Cash.length 1 16 = true := inB_iff.2 ⟨by omega, by omega⟩
        simp only [c1, c2, e1, decide_false, Bool.false_eq_true, if_false, Bool.and_true]
        by_cases c3 : (b.Tallies.length : Int) > 40
        · have : ¬ b.Tallies.length ≤ 40 := by omega
          simp [c3, this]
        · have e2 : b.Tallies.length ≤ 40 := by omega
          simp only [c3, e2, decide_false, decide_true, Bool.false_eq_true, if_false, Bool.true_and]
          cases b.Cash.all amB <;> cases talliesB b <;> simp
theorem l07Ok_eq (b : Book) (hc : b.Cash.length ≤ 4611686018427387904) (hn : b.Tallies.length ≤ 4611686018427387904) : spec_l07Ok b = some (bookB b) := by
  unfold spec_l07Ok bookB
  rw [l07Day_eq, cash_spec _ hc, tallies_spec b hc hn]
  simp only [Option.bind_some]
  cases inB b.Day 0 100000 with
  | false => simp
  | true =>
    simp only [if_true, Bool.true_and]
    cases (b.Cash.all amB && inB b.Cash.length 1 16) with
    | false => simp
    | true =>
      by_cases c3 : (b.Tallies.length : Int) > 40
      · have : ¬ b.Tallies.length ≤ 40 := by omega
        simp [c3, this]
      · have e2 : b.Tallies.length ≤ 40 := by omega
        simp only [c3, e2, decide_false, decide_true, Bool.false_eq_true, if_false, Bool.true_and, if_true]
        cases talliesB b <;> simp
end Go.Proofs.Ytjlalepbhcekoaa
namespace Go.Proofs.Ytjlalepbhcekoaa
open Go Go.Ab
def getsF (p : Int) (a : Int) (t : Tally) : Int := if (t.Holder == p) = true then IntKind.i64.wrap (a + t.Left) else a
def owesF (p : Int) (a : Int) (t : Tally) : Int := if (t.Debtor == p) = true then IntKind.i64.wrap (a + t.Left) else a
def getsIn (b : Book) (p : Int) : Int := b.Tallies.foldl (getsF p) 0
def owesIn (b : Book) (p : Int) : Int := b.Tallies.foldl (owesF p) 0
theorem foldl_pair {α β τ : Type} (f : α → τ → α) (g : β → τ → β) (xs : List τ) : ∀ (a : α) (b : β), xs.foldl (fun p x => (f p.1 x, g p.2 x)) (a, b) = (xs.foldl f a, xs.foldl g b) := by
  induction xs with
  | nil => intro a b; rfl
  | cons x xs ih => intro a b; exact ih _ _
theorem getsAndOwes_eq (b : Book) (p : Int) (hn : b.Tallies.length ≤ 4611686018427387904) : impl_getsAndOwes b p = some (getsIn b p, owesIn b p) := by
  unfold impl_getsAndOwes getsIn owesIn
  have key := Lw_fold (tb := impl_getsAndOwes_b1 b p) b.Tallies (fun q t => (getsF p q.1 t, owesF p q.2 t)) (fun q i => (q.1, q.2, (i : Int))) id
    (by
      intro i hi a
      simp only [impl_getsAndOwes_b1, rd_coe, List.getElem?_eq_getElem hi, Option.bind_some, getsF, owesF]
      rw [if_pos (by simpa using hi), w64s hi hn]
      by_cases h1 : (b.Tallies[i].Holder == p) = true <;> by_cases h2 : (b.Tallies[i].Debtor == p) = true <;> simp [h1, h2])
    (by intro a; simp [impl_getsAndOwes_b1]) (0, 0)
  rw [foldl_pair] at key
  have e : ((0 : Int), (0 : Int), ((0 : Nat) : Int)) = (0, 0, 0) := rfl
  simp only [e] at key
  rw [key]; rfl
def oneCode (b : Book) (p : Int) : Int := if bookB b = true then (if personB b.Cash.length p = true then 0 else 2) else 1
theorem personCode_eq (b : Book) (p : Int) (hc : b.Cash.length ≤ 4611686018427387904) (hn : b.Tallies.length ≤ 4611686018427387904) : impl_personCode b p = some (oneCode b p) := by
  unfold impl_personCode oneCode
  rw [validBook_eq b hc hn, arePeople_eq _ _ (by simp)]
  simp only [Option.bind_some, List.all_cons, List.all_nil, Bool.and_true]
  cases bookB b <;> cases personB b.Cash.length p <;> simp
end Go.Proofs.Ytjlalepbhcekoaa
namespace Go.Proofs.Ytjlalepbhcekoaa
open Go Go.Ab
def dealB (d : Deal) : Bool :=
  inB d.Day 0 100000 &&
  ((d.Kind == 1 && d.Tally == 0 && inB d.From 0 15 && inB d.To 0 15 && inB d.Amount 1 100000000) ||
   (d.Kind == 2 && inB d.Tally 0 39 && inB d.From 0 15 && inB d.To 0 15 && d.Amount == 0) ||
   (d.Kind == 3 && inB d.Tally 0 39 && d.From == 0 && d.To == 0 && inB d.Amount 1 100000000) ||
   (d.Kind == 4 && inB d.Tally 0 39 && inB d.From 0 15 && d.To == 0 && d.Amount == 0))
theorem l07Deal_eq (d : Deal) : spec_l07Deal d = some (dealB d) := by
  unfold spec_l07Deal dealB
  simp only [l00In_eq, l07Day_eq, Option.bind_some, some_ite, ite_false_b]
  cases inB d.Day 0 100000 with
  | false => simp
  | true =>
    by_cases h1 : d.Kind = 1
    · simp [h1, Bool.and_assoc]
    by_cases h2 : d.Kind = 2
    · simp [h2, Bool.and_assoc]
    by_cases h3 : d.Kind = 3
    · simp [h3, Bool.and_assoc]
    by_cases h4 : d.Kind = 4
    · simp [h4, Bool.and_assoc]
    have e1 : (d.Kind == 1) = false := by simpa using h1
    have e2 : (d.Kind == 2) = false := by simpa using h2
    have e3 : (d.Kind == 3) = false := by simpa using h3
    have e4 : (d.Kind == 4) = false := by simpa using h4
    simp [e1, e2, e3, e4]
theorem in_eq (u : Bool) (n lo hi : Int) : impl_ValidDeal_1 u n lo hi = some (if u = true then inB n lo hi else n == 0) := by
  unfold impl_ValidDeal_1 inB; cases u <;> by_cases h : lo ≤ n <;> by_cases h' : n ≤ hi <;> simp [h, h']
theorem validDeal_eq (d : Deal) : impl_ValidDeal d = some (dealB d) := by
  unfold impl_ValidDeal dealB impl_uses
  simp only [isBookDay_eq, in_eq, Option.bind_some, some_ite, ite_false_b]
  cases inB d.Day 0 100000 with
  | false => simp
  | true =>
    by_cases h1 : d.Kind = 1
    · simp [h1, Bool.and_assoc]
    by_cases h2 : d.Kind = 2
    · simp [h2, Bool.and_assoc]
    by_cases h3 : d.Kind = 3
    · simp [h3, Bool.and_assoc]
    by_cases h4 : d.Kind = 4
    · simp [h4, Bool.and_assoc]
    have e1 : (d.Kind == 1) = false := by simpa using h1
    have e2 : (d.Kind == 2) = false := by simpa using h2
    have e3 : (d.Kind == 3) = false := by simpa using h3
    have e4 : (d.Kind == 4) = false := by simpa using h4
    have : d.Kind < 1 ∨ d.Kind > 4 := by omega
    rcases this with h | h <;> simp [e1, e2, e3, e4, h]
end Go.Proofs.Ytjlalepbhcekoaa
namespace Go.Proofs.Ytjlalepbhcekoaa
open Go Go.Ab
theorem areDeals_eq (xs : List Deal) (hn : xs.length ≤ 4611686018427387904) : impl_areDeals xs = some (xs.all dealB) := by
  unfold impl_areDeals
  have key := scan_all (tb := impl_areDeals_b1 xs) xs.length hn (fun i => (xs[i]?).all dealB) () ()
    (by
      intro i hi
      simp only [impl_areDeals_b1, rd_coe, List.getElem?_eq_getElem hi, Option.bind_some, validDeal_eq, Option.all_some]
      rw [if_pos (by simpa using hi)]
      cases dealB xs[i] <;> simp)
    (by simp [impl_areDeals_b1])
  rw [key, all_get]
  cases xs.all dealB <;> simp
theorem l07Deals_eq (xs : List Deal) (hn : xs.length ≤ 4611686018427387904) : spec_l07Deals xs = some (xs.all dealB) := by
  unfold spec_l07Deals
  have key := scan_all (tb := spec_l07Deals_b1 xs) xs.length hn (fun i => (xs[i]?).all dealB) () ()
    (by
      intro i hi
      simp only [spec_l07Deals_b1, rd_coe, List.getElem?_eq_getElem hi, Option.bind_some, l07Deal_eq, Option.all_some]
      rw [if_pos (by simpa using hi)]
      cases dealB xs[i] <;> simp)
    (by simp [spec_l07Deals_b1])
  rw [key, all_get]
  cases xs.all dealB <;> simp
end Go.Proofs.Ytjlalepbhcekoaa
namespace Go.Proofs.Ytjlalepbhcekoaa
open Go Go.Ab
def TlI (n : Int) (t : Tally) : Prop := (0 ≤ t.Debtor ∧ t.Debtor < n) ∧ (0 ≤ t.Holder ∧ t.Holder < n) ∧ (0 ≤ t.Left ∧ t.Left ≤ 100000000) ∧ (t.Debtor = t.Holder → t.Left = 0)
structure BkI (b : Book) : Prop where
  c1 : 1 ≤ b.Cash.length
  cn : b.Cash.length ≤ 16
  tn : b.Tallies.length ≤ 40
  ca : ∀ c ∈ b.Cash, 0 ≤ c ∧ c ≤ 100000000
  ta : ∀ t ∈ b.Tallies, TlI b.Cash.length t
theorem BkI.of {b : Book} (h : bookB b = true) : BkI b := by
  unfold bookB at h
  simp only [Bool.and_eq_true, decide_eq_true_eq, List.all_eq_true] at h
  obtain ⟨_, ⟨h1, h2⟩, h3, h4⟩ := h
  obtain ⟨h5, h6⟩ := inB_iff.1 h2
  refine ⟨by omega, by omega, h3, fun c hc => inB_iff.1 (h1 c hc), fun t ht => ?_⟩
  unfold talliesB at h4
  rw [List.all_eq_true] at h4
  obtain ⟨i, hi, rfl⟩ := List.getElem_of_mem ht
  have := h4 i (List.mem_range.2 hi)
  rw [List.getElem?_eq_getElem hi, Option.all_some] at this
  unfold tallyB personB at this
  simp only [Bool.and_eq_true] at this
  obtain ⟨g1, g2, _, g4, g5, g6, _⟩ := this
  have g1 : 0 ≤ b.Tallies[i].Debtor ∧ b.Tallies[i].Debtor < (b.Cash.length : Int) := by simpa using g1
  have g2 : 0 ≤ b.Tallies[i].Holder ∧ b.Tallies[i].Holder < (b.Cash.length : Int) := by simpa using g2
  have g4 := inB_iff.1 g4
  have g5 := inB_iff.1 g5
  refine ⟨⟨g1.1, by omega⟩, ⟨g2.1, by omega⟩, ⟨g5.1, by omega⟩, fun e => ?_⟩
  simp [e] at g6
  exact g6
end Go.Proofs.Ytjlalepbhcekoaa
namespace Go.Proofs.Ytjlalepbhcekoaa
open Go Go.Ab
theorem ownBook_eq (b : Book) (h : BkI b) : impl_ownBook b = some (b.Day, b.Cash, b.Tallies) := by
  have h1 := h.cn
  have h2 := h.tn
  unfold impl_ownBook slices_Clone_int64 slices_Clone_Tally
  rw [app_some (by simp only [List.length_nil]; omega) (by decide), app_some (by simp only [List.length_nil]; omega) (by decide)]
  simp
theorem l07Copy_eq (b : Book) (h : BkI b) : spec_l07Copy b = some (b.Day, b.Cash, b.Tallies) := by
  have h1 := h.cn
  have h2 := h.tn
  unfold spec_l07Copy
  rw [app_some (by simp only [List.length_nil]; omega) (by decide), app_some (by simp only [List.length_nil]; omega) (by decide)]
  simp
theorem personD (n : Nat) (hn : n ≤ 16) (x : Int) (h : 0 ≤ x) : spec_l02Person (n : Int) x = some (decide (x < n)) := by
  rw [l02Person_eq _ _ (by omega)]
  unfold personB
  simp [h]
abbrev DoR := Int ⊕ (Int × (List Int) × (List Tally))
def DoI (n : Nat) (r : DoR) : Prop := (∀ x, r = .inl x → x ≠ 0) ∧ ∀ d c t, r = .inr (d, c, t) → BkI ⟨d, c, t⟩ ∧ c.length = n
theorem DoI.l {n : Nat} {x : Int} (h : x ≠ 0 := by decide) : DoI n (.inl x) := ⟨fun _ e => by cases e; exact h, fun _ _ _ h => by cases h⟩
theorem DoI.r {n : Nat} {v : Int × (List Int) × (List Tally)} (h : ∀ d c t, (.inr v : DoR) = .inr (d, c, t) → BkI ⟨d, c, t⟩ ∧ c.length = n) : DoI n (.inr v) := ⟨fun _ e => (by cases e), h⟩
def DoS (b : Book) (d : Deal) : Prop := ∃ r, impl_do b d = some r ∧ spec_l07Do b d = some r ∧ DoI b.Cash.length r
theorem do_cut (b : Book) (d : Deal) (hb : BkI b) (hk : d.Kind = 1) (hf : 0 ≤ d.From) (ht : 0 ≤ d.To) (ha : 0 ≤ d.Amount ∧ d.Amount ≤ 100000000) : DoS b d := by
  have hu : impl_uses 1 = some (false, true, true, true) := by simp [impl_uses]
  have p1 := personD b.Cash.length hb.cn d.From hf
  have p2 := personD b.Cash.length hb.cn d.To ht
  by_cases c0 : d.Day < b.Day
  · exact ⟨.inl 4, by simp [impl_do, c0], by simp [spec_l07Do, spec_l07Refused, c0], .l⟩
  by_cases c1 : d.From < b.Cash.length
  · have c1' : ¬ (b.Cash.length : Int) ≤ d.From := by omega
    by_cases c2 : d.To < b.Cash.length
    · have c2' : ¬ (b.Cash.length : Int) ≤ d.To := by omega
      by_cases c3 : d.From = d.To
      · have c3' : ¬ (b.Cash.length : Int) ≤ d.To := c2'
        exact ⟨.inl 4, by simp [impl_do, c0, hu, hk, c1', c2', c3], by simp [spec_l07Do, spec_l07Refused, c0, p1, p2, c1, c2, c3, hk], .l⟩
      · have c3' : (d.From == d.To) = false := by simpa using c3
        by_cases c4 : b.Tallies.length = 40
        · exact ⟨.inl 3, by simp [impl_do, c0, hu, hk, c1', c2', c3', ownBook_eq b hb, c4], by simp [spec_l07Do, spec_l07Refused, c0, p1, p2, c1, c2, c3, hk, c4], .l⟩
        · have h4 := hb.tn
          have c5 : ¬ (b.Tallies.length : Int) = 40 := by omega
          have ap : app 40 b.Tallies [⟨d.From, d.To, d.Day, d.Amount, d.Amount⟩] = some (b.Tallies ++ [⟨d.From, d.To, d.Day, d.Amount, d.Amount⟩]) := app_some (by simp; omega) (by simp)
          refine ⟨.inr (d.Day, b.Cash, b.Tallies ++ [⟨d.From, d.To, d.Day, d.Amount, d.Amount⟩]), by simp [impl_do, c0, hu, hk, c1', c2', c3', ownBook_eq b hb, c5, ap], by simp [spec_l07Do, spec_l07Refused, c0, p1, p2, c1, c2, c3, hk, c5, l07Copy_eq b hb, ap], .r fun _ _ _ h => ?_⟩
          cases h
          refine ⟨⟨hb.c1, hb.cn, by simp; omega, hb.ca, fun t ht' => ?_⟩, rfl⟩
          rcases List.mem_append.1 ht' with h | h
          · exact hb.ta t h
          · obtain rfl := List.mem_singleton.1 h
            exact ⟨⟨hf, c1⟩, ⟨ht, c2⟩, ha, fun e => absurd e c3⟩
    · have c2' : (b.Cash.length : Int) ≤ d.To := by omega
      exact ⟨.inl 2, by simp [impl_do, c0, hu, hk, c1', c2'], by simp [spec_l07Do, spec_l07Refused, c0, p1, p2, c1, c2], .l⟩
  · have c1' : (b.Cash.length : Int) ≤ d.From := by omega
    exact ⟨.inl 2, by simp [impl_do, c0, hu, hk, c1'], by simp [spec_l07Do, spec_l07Refused, c0, p1, p2, c1], .l⟩
theorem BkI.set {b : Book} (hb : BkI b) (day : Int) (c : List Int) (hc : c.length = b.Cash.length) (hca : ∀ x ∈ c, 0 ≤ x ∧ x ≤ 100000000) (i : Nat) (t : Tally) (ht : TlI b.Cash.length t) : BkI ⟨day, c, b.Tallies.set i t⟩ := by
  refine ⟨by simpa [hc] using hb.c1, by simpa [hc] using hb.cn, by simpa using hb.tn, hca, fun x hx => ?_⟩
  rcases List.mem_or_eq_of_mem_set hx with h | rfl
  · simpa [hc] using hb.ta x h
  · simpa [hc] using ht
theorem do_pass (b : Book) (d : Deal) (hb : BkI b) (hk : d.Kind = 2) (hf : 0 ≤ d.From) (ht : 0 ≤ d.To) (hi : 0 ≤ d.Tally) (ha : d.Amount = 0) : DoS b d := by
  have hu : impl_uses 2 = some (true, true, true, false) := by simp [impl_uses]
  have p1 := personD b.Cash.length hb.cn d.From hf
  have p2 := personD b.Cash.length hb.cn d.To ht
  by_cases c0 : d.Day < b.Day
  · exact ⟨.inl 4, by simp [impl_do, c0], by simp [spec_l07Do, spec_l07Refused, c0], .l⟩
  by_cases c1 : d.From < b.Cash.length
  · have c1' : ¬ (b.Cash.length : Int) ≤ d.From := by omega
    by_cases c2 : d.To < b.Cash.length
    · have c2' : ¬ (b.Cash.length : Int) ≤ d.To := by omega
      by_cases c3 : d.Tally < b.Tallies.length
      · have c3' : ¬ (b.Tallies.length : Int) ≤ d.Tally := by omega
        obtain ⟨i, hi'⟩ : ∃ i : Nat, d.Tally = i := ⟨d.Tally.toNat, by omega⟩
        have hlt : i < b.Tallies.length := by omega
        have hr : rd b.Tallies d.Tally = some b.Tallies[i] := by rw [hi', rd_coe, List.getElem?_eq_getElem hlt]
        obtain ⟨t1, t2, t3, t4⟩ := hb.ta _ (List.getElem_mem hlt)
        have ow := ownBook_eq b hb
        have cp := l07Copy_eq b hb
        revert hr t1 t2 t3 t4
        generalize b.Tallies[i] = t
        intro hr t1 t2 t3 t4
        by_cases c4 : d.From = d.To
        · exact ⟨.inl 4, by simp [impl_do, c0, hu, hk, c1', c2', c3', c4], by simp [spec_l07Do, spec_l07Refused, c0, p1, p2, c1, c2, c3', c4, hk, hr], .l⟩
        · have c4' : (d.From == d.To) = false := by simpa using c4
          by_cases c5 : t.Holder = d.From
          · by_cases c6 : t.Left = 0
            · exact ⟨.inl 4, by simp [impl_do, c0, hu, hk, c1', c2', c3', c4', ow, hr, c5, c6], by simp [spec_l07Do, spec_l07Refused, c0, p1, p2, c1, c2, c3', c4, hk, hr, c5, c6], .l⟩
            · have c7 : ¬ d.Amount > t.Left := by omega
              by_cases c8 : t.Debtor = d.To
              · refine ⟨.inr (d.Day, b.Cash, b.Tallies.set d.Tally.toNat ⟨t.Debtor, d.To, t.Cut, t.Amount, 0⟩), ?_, ?_, .r fun _ _ _ h => ?_⟩
                · simp [impl_do, c0, hu, hk, c1', c2', c3', c4', ow, hr, c5, c6, c8]
                · simp [spec_l07Do, spec_l07Refused, c0, p1, p2, c1, c2, c3', c4, hk, hr, c5, c6, c7, c8, cp]
                · cases h
                  exact ⟨hb.set _ _ rfl hb.ca _ _ ⟨t1, ⟨ht, c2⟩, by simp, fun _ => rfl⟩, rfl⟩
              · have c9 : ¬ d.To = t.Debtor := fun h => c8 h.symm
                refine ⟨.inr (d.Day, b.Cash, b.Tallies.set d.Tally.toNat ⟨t.Debtor, d.To, t.Cut, t.Amount, t.Left⟩), ?_, ?_, .r fun _ _ _ h => ?_⟩
                · simp [impl_do, c0, hu, hk, c1', c2', c3', c4', ow, hr, c5, c6, c9]
                · simp [spec_l07Do, spec_l07Refused, c0, p1, p2, c1, c2, c3', c4, hk, hr, c5, c6, c7, c9, cp]
                · cases h
                  exact ⟨hb.set _ _ rfl hb.ca _ _ ⟨t1, ⟨ht, c2⟩, t3, fun e => absurd e c8⟩, rfl⟩
          · have c5' : ¬ d.From = t.Holder := fun h => c5 h.symm
            exact ⟨.inl 4, by simp [impl_do, c0, hu, hk, c1', c2', c3', c4', ow, hr, c5'], by simp [spec_l07Do, spec_l07Refused, c0, p1, p2, c1, c2, c3', c4, hk, hr, c5'], .l⟩
      · have c3' : (b.Tallies.length : Int) ≤ d.Tally := by omega
        exact ⟨.inl 2, by simp [impl_do, c0, hu, hk, c1', c2', c3'], by simp [spec_l07Do, spec_l07Refused, c0, p1, p2, c1, c2, c3', hk], .l⟩
    · have c2' : (b.Cash.length : Int) ≤ d.To := by omega
      exact ⟨.inl 2, by simp [impl_do, c0, hu, hk, c1', c2'], by simp [spec_l07Do, spec_l07Refused, c0, p1, p2, c1, c2], .l⟩
  · have c1' : (b.Cash.length : Int) ≤ d.From := by omega
    exact ⟨.inl 2, by simp [impl_do, c0, hu, hk, c1'], by simp [spec_l07Do, spec_l07Refused, c0, p1, p2, c1], .l⟩
theorem do_end (b : Book) (d : Deal) (hb : BkI b) (hk : d.Kind = 4) (hf : 0 ≤ d.From) (ht : d.To = 0) (hi : 0 ≤ d.Tally) (ha : d.Amount = 0) : DoS b d := by
  have hu : impl_uses 4 = some (true, true, false, false) := by simp [impl_uses]
  have p1 := personD b.Cash.length hb.cn d.From hf
  have p2 := personD b.Cash.length hb.cn d.To (by omega)
  have hc1 := hb.c1
  have c2 : d.To < b.Cash.length := by omega
  by_cases c0 : d.Day < b.Day
  · exact ⟨.inl 4, by simp [impl_do, c0], by simp [spec_l07Do, spec_l07Refused, c0], .l⟩
  by_cases c1 : d.From < b.Cash.length
  · have c1' : ¬ (b.Cash.length : Int) ≤ d.From := by omega
    by_cases c3 : d.Tally < b.Tallies.length
    · have c3' : ¬ (b.Tallies.length : Int) ≤ d.Tally := by omega
      obtain ⟨i, hi'⟩ : ∃ i : Nat, d.Tally = i := ⟨d.Tally.toNat, by omega⟩
      have hlt : i < b.Tallies.length := by omega
      have hr : rd b.Tallies d.Tally = some b.Tallies[i] := by rw [hi', rd_coe, List.getElem?_eq_getElem hlt]
      obtain ⟨t1, t2, t3, t4⟩ := hb.ta _ (List.getElem_mem hlt)
      have ow := ownBook_eq b hb
      have cp := l07Copy_eq b hb
      revert hr t1 t2 t3 t4
      generalize b.Tallies[i] = t
      intro hr t1 t2 t3 t4
      by_cases c5 : t.Holder = d.From
      · by_cases c6 : t.Left = 0
        · exact ⟨.inl 4, by simp [impl_do, c0, hu, hk, c1', c3', ow, hr, c5, c6], by simp [spec_l07Do, spec_l07Refused, c0, p1, p2, c1, c2, c3', hk, hr, c5, c6], .l⟩
        · have c7 : ¬ d.Amount > t.Left := by omega
          refine ⟨.inr (d.Day, b.Cash, b.Tallies.set d.Tally.toNat ⟨t.Debtor, t.Holder, t.Cut, t.Amount, 0⟩), ?_, ?_, .r fun _ _ _ h => ?_⟩
          · simp [impl_do, c0, hu, hk, c1', c3', ow, hr, c5, c6]
          · simp [spec_l07Do, spec_l07Refused, c0, p1, p2, c1, c2, c3', hk, hr, c5, c6, c7, cp]
          · cases h
            exact ⟨hb.set _ _ rfl hb.ca _ _ ⟨t1, t2, by simp, fun _ => rfl⟩, rfl⟩
      · have c5' : ¬ d.From = t.Holder := fun h => c5 h.symm
        exact ⟨.inl 4, by simp [impl_do, c0, hu, hk, c1', c3', ow, hr, c5'], by simp [spec_l07Do, spec_l07Refused, c0, p1, p2, c1, c2, c3', hk, hr, c5'], .l⟩
    · have c3' : (b.Tallies.length : Int) ≤ d.Tally := by omega
      exact ⟨.inl 2, by simp [impl_do, c0, hu, hk, c1', c3'], by simp [spec_l07Do, spec_l07Refused, c0, p1, p2, c1, c2, c3', hk], .l⟩
  · have c1' : (b.Cash.length : Int) ≤ d.From := by omega
    exact ⟨.inl 2, by simp [impl_do, c0, hu, hk, c1'], by simp [spec_l07Do, spec_l07Refused, c0, p1, p2, c1], .l⟩
theorem do_pay (b : Book) (d : Deal) (hb : BkI b) (hk : d.Kind = 3) (hf : d.From = 0) (ht : d.To = 0) (hi : 0 ≤ d.Tally) (ha : 1 ≤ d.Amount ∧ d.Amount ≤ 100000000) : DoS b d := by
  have hu : impl_uses 3 = some (true, false, false, true) := by simp [impl_uses]
  have p1 := personD b.Cash.length hb.cn d.From (by omega)
  have p2 := personD b.Cash.length hb.cn d.To (by omega)
  have hc1 := hb.c1
  have c1 : d.From < b.Cash.length := by omega
  have c2 : d.To < b.Cash.length := by omega
  by_cases c0 : d.Day < b.Day
  · exact ⟨.inl 4, by simp [impl_do, c0], by simp [spec_l07Do, spec_l07Refused, c0], .l⟩
  by_cases c3 : d.Tally < b.Tallies.length
  · have c3' : ¬ (b.Tallies.length : Int) ≤ d.Tally := by omega
    obtain ⟨i, hi'⟩ : ∃ i : Nat, d.Tally = i := ⟨d.Tally.toNat, by omega⟩
    have hlt : i < b.Tallies.length := by omega
    have hr : rd b.Tallies d.Tally = some b.Tallies[i] := by rw [hi', rd_coe, List.getElem?_eq_getElem hlt]
    obtain ⟨t1, t2, t3, t4⟩ := hb.ta _ (List.getElem_mem hlt)
    have ow := ownBook_eq b hb
    have cp := l07Copy_eq b hb
    revert hr t1 t2 t3 t4
    generalize b.Tallies[i] = t
    intro hr t1 t2 t3 t4
    by_cases c6 : t.Left = 0
    · exact ⟨.inl 4, by simp [impl_do, c0, hu, hk, c3', ow, hr, c6], by simp [spec_l07Do, spec_l07Refused, c0, p1, p2, c1, c2, c3', hk, hr, c6], .l⟩
    by_cases c7 : d.Amount > t.Left
    · exact ⟨.inl 4, by simp [impl_do, c0, hu, hk, c3', ow, hr, c6, c7], by simp [spec_l07Do, spec_l07Refused, c0, p1, p2, c1, c2, c3', hk, hr, c6, c7], .l⟩
    obtain ⟨j, hj⟩ : ∃ j : Nat, t.Debtor = j := ⟨t.Debtor.toNat, by omega⟩
    obtain ⟨k, hk'⟩ : ∃ k : Nat, t.Holder = k := ⟨t.Holder.toNat, by omega⟩
    have hjl : j < b.Cash.length := by omega
    have hkl : k < b.Cash.length := by omega
    have hjk : ¬ j = k := fun e => c6 (t4 (by omega))
    have rj : rd b.Cash t.Debtor = some b.Cash[j] := by rw [hj, rd_coe, List.getElem?_eq_getElem hjl]
    have rk : rd b.Cash t.Holder = some b.Cash[k] := by rw [hk', rd_coe, List.getElem?_eq_getElem hkl]
    have aj := hb.ca _ (List.getElem_mem hjl)
    have ak := hb.ca _ (List.getElem_mem hkl)
    have rk2 : ∀ x, rd (b.Cash.set t.Debtor.toNat x) t.Holder = some b.Cash[k] := fun x => by
      rw [hk', rd_coe, hj, Int.toNat_natCast, List.getElem?_set_ne hjk, List.getElem?_eq_getElem hkl]
    have rk3 : ∀ x y, rd ((b.Cash.set t.Debtor.toNat x).set t.Holder.toNat y) t.Holder = some y := fun x y => by
      rw [hk', rd_coe, Int.toNat_natCast, List.getElem?_set_self (by simpa using hkl)]
    have hca : ∀ x ∈ (b.Cash.set t.Debtor.toNat (b.Cash[j] - d.Amount)).set t.Holder.toNat (b.Cash[k] + d.Amount), ¬ b.Cash[j] < d.Amount → ¬ b.Cash[k] + d.Amount > 100000000 → 0 ≤ x ∧ x ≤ 100000000 := fun x hx g1 g2 => by
      rcases List.mem_or_eq_of_mem_set hx with h | rfl
      · rcases List.mem_or_eq_of_mem_set h with h | rfl
        · exact hb.ca x h
        · omega
      · omega
    revert rj rk aj ak rk2 hca
    generalize b.Cash[j] = u
    generalize b.Cash[k] = v
    intro rj rk aj ak rk2 hca
    have w1 : IntKind.i64.wrap (u - d.Amount) = u - d.Amount := w64 (by omega)
    have w2 : IntKind.i64.wrap (v + d.Amount) = v + d.Amount := w64 (by omega)
    have w3 : IntKind.i64.wrap (t.Left - d.Amount) = t.Left - d.Amount := w64 (by omega)
    by_cases c8 : u < d.Amount
    · exact ⟨.inl 8, by simp [impl_do, c0, hu, hk, c3', ow, hr, c6, c7, rj, c8], by simp [spec_l07Do, spec_l07Refused, c0, p1, p2, c1, c2, c3', hk, hr, c6, c7, rj, c8], .l⟩
    by_cases c9 : v + d.Amount > 100000000
    · exact ⟨.inl 3, by simp [impl_do, c0, hu, hk, c3', ow, hr, c6, c7, rj, c8, rk2, rk3, w1, w2, c9], by simp [spec_l07Do, spec_l07Refused, c0, p1, p2, c1, c2, c3', hk, hr, c6, c7, rj, c8, rk, w2, c9], .l⟩
    refine ⟨.inr (d.Day, (b.Cash.set t.Debtor.toNat (u - d.Amount)).set t.Holder.toNat (v + d.Amount), b.Tallies.set d.Tally.toNat ⟨t.Debtor, t.Holder, t.Cut, t.Amount, t.Left - d.Amount⟩), ?_, ?_, .r fun _ _ _ h => ?_⟩
    · simp [impl_do, c0, hu, hk, c3', ow, hr, c6, c7, rj, c8, rk2, rk3, w1, w2, w3, c9]
    · simp [spec_l07Do, spec_l07Refused, c0, p1, p2, c1, c2, c3', hk, hr, c6, c7, rj, c8, rk, rk2, w1, w2, w3, c9, cp]
    · cases h
      exact ⟨hb.set _ _ (by simp) (fun x hx => hca x hx c8 c9) _ _ ⟨t1, t2, ⟨by simp; omega, by simp; omega⟩, fun e => absurd (t4 e) c6⟩, by simp⟩
  · have c3' : (b.Tallies.length : Int) ≤ d.Tally := by omega
    exact ⟨.inl 2, by simp [impl_do, c0, hu, hk, c3'], by simp [spec_l07Do, spec_l07Refused, c0, p1, p2, c1, c2, c3', hk], .l⟩
theorem do_same (b : Book) (d : Deal) (hb : BkI b) (hd : dealB d = true) : DoS b d := by
  unfold dealB at hd
  simp only [Bool.and_eq_true, Bool.or_eq_true, beq_iff_eq, inB_iff] at hd
  obtain ⟨_, ((h | h) | h) | h⟩ := hd
  · obtain ⟨⟨⟨⟨h1, h2⟩, h3⟩, h4⟩, h5⟩ := h
    exact do_cut b d hb h1 h3.1 h4.1 ⟨by omega, h5.2⟩
  · obtain ⟨⟨⟨⟨h1, h2⟩, h3⟩, h4⟩, h5⟩ := h
    exact do_pass b d hb h1 h3.1 h4.1 h2.1 h5
  · obtain ⟨⟨⟨⟨h1, h2⟩, h3⟩, h4⟩, h5⟩ := h
    exact do_pay b d hb h1 h3 h4 h2.1 h5
  · obtain ⟨⟨⟨⟨h1, h2⟩, h3⟩, h4⟩, h5⟩ := h
    exact do_end b d hb h1 h3.1 h4 h2.1 h5
end Go.Proofs.Ytjlalepbhcekoaa
namespace Go.Proofs.Ytjlalepbhcekoaa
open Go Go.Ab
def BksI (n : Nat) (out : List Book) : Prop := ∀ x ∈ out, BkI x ∧ x.Cash.length = n
def LastI (b : Book) (s : Book) (out : List Book) : Prop := (out = [] ∧ s = b) ∨ out.getLast? = some s
theorem books_loop (xs : List Deal) (b : Book) (hb : BkI b) (hx : ∀ d ∈ xs, dealB d = true) (hn : xs.length ≤ 80) :
    ∃ r r2, Lw (impl_books_b1 xs) (0, b.Day, b.Cash, b.Tallies, []) = some r ∧ Lw (spec_l07All_b1 xs) (0, b.Day, b.Cash, b.Tallies, []) = some r2 ∧
      ((∃ c out, r = .inl (c, out) ∧ r2 = .inl (c, (out.length : Int)) ∧ c ≠ 0 ∧ out.length ≤ 80 ∧ BksI b.Cash.length out) ∨
        ∃ d cs ts out, r = .inr (d, cs, ts, out) ∧ r2 = .inr (d, cs, ts, out) ∧ out.length = xs.length ∧ BkI ⟨d, cs, ts⟩ ∧ cs.length = b.Cash.length ∧ BksI b.Cash.length out ∧ LastI b ⟨d, cs, ts⟩ out) := by
  refine Lw_sim (tb := impl_books_b1 xs) (tb2 := spec_l07All_b1 xs) (fun s => xs.length - s.1.toNat)
    (fun s s2 => s = s2 ∧ ∃ i : Nat, s.1 = i ∧ i ≤ xs.length ∧ s.2.2.2.2.length = i ∧ BkI ⟨s.2.1, s.2.2.1, s.2.2.2.1⟩ ∧ s.2.2.1.length = b.Cash.length ∧ BksI b.Cash.length s.2.2.2.2 ∧ LastI b ⟨s.2.1, s.2.2.1, s.2.2.2.1⟩ s.2.2.2.2) _ ?_ _ _ _ rfl
    ⟨rfl, 0, rfl, by omega, rfl, hb, rfl, fun x h => (nomatch h), .inl ⟨rfl, rfl⟩⟩
  rintro ⟨j, d, cs, ts, out⟩ s2 ⟨rfl, i, hi, hil, hol, hbk, hcl, hbs, hla⟩
  simp only at hi hol hbk hcl hbs hla
  subst hi
  by_cases hlt : i < xs.length
  · obtain ⟨q, e1, e2, e3⟩ := do_same ⟨d, cs, ts⟩ xs[i] hbk (hx _ (List.getElem_mem hlt))
    have hr : rd xs (i : Int) = some xs[i] := by rw [rd_coe, List.getElem?_eq_getElem hlt]
    rcases q with q | ⟨d', cs', ts'⟩
    · have h0 : q ≠ 0 := e3.1 q rfl
      exact .inr ⟨.inl (q, out), .inl (q, (i : Int)), by simp [impl_books_b1, hr, hlt, e1, h0], by simp [spec_l07All_b1, hr, hlt, e2, h0], .inl ⟨q, out, rfl, by rw [hol], h0, by omega, hbs⟩⟩
    · obtain ⟨g1, g2⟩ := e3.2 _ _ _ rfl
      have ap : app 56 out [⟨d', cs', ts'⟩] = some (out ++ [⟨d', cs', ts'⟩]) := app_some (by simp; omega) (by decide)
      have w := w64s hlt (by omega)
      refine .inl ⟨(((i + 1 : Nat) : Int), d', cs', ts', out ++ [⟨d', cs', ts'⟩]), _, by simp [impl_books_b1, hr, hlt, e1, ap, w], by simp [spec_l07All_b1, hr, hlt, e2, ap, w], ⟨rfl, i + 1, rfl, by omega, by simp [hol], g1, by simpa [hcl] using g2, fun x hx' => ?_, .inr (by simp)⟩, by simp; omega⟩
      rcases List.mem_append.1 hx' with h | h
      · exact hbs x h
      · obtain rfl := List.mem_singleton.1 h
        exact ⟨g1, by simpa [hcl] using g2⟩
  · have hie : i = xs.length := by omega
    exact .inr ⟨.inr (d, cs, ts, out), .inr (d, cs, ts, out), by simp [impl_books_b1, hlt], by simp [spec_l07All_b1, hlt], .inr ⟨d, cs, ts, out, rfl, rfl, by omega, hbk, hcl, hbs, hla⟩⟩
def BooksS (b : Book) (xs : List Deal) : Prop :=
  (∃ c out, impl_books b xs = some (out, c) ∧ spec_l07All b xs = some ([], c, (out.length : Int)) ∧ c ≠ 0 ∧ out.length ≤ 80 ∧ BksI b.Cash.length out) ∨
    ∃ s out, impl_books b xs = some (out, 0) ∧ spec_l07All b xs = some (out, 0, 0) ∧ out.length = xs.length ∧ BkI s ∧ s.Cash.length = b.Cash.length ∧ BksI b.Cash.length out ∧ LastI b s out
theorem books_same (xs : List Deal) (b : Book) (hb : BkI b) (hx : ∀ d ∈ xs, dealB d = true) (hn : xs.length ≤ 80) : BooksS b xs := by
  obtain ⟨r, r2, e1, e2, h⟩ := books_loop xs b hb hx hn
  rcases h with ⟨c, out, rfl, rfl, h⟩ | ⟨d, cs, ts, out, rfl, rfl, h⟩
  · exact .inl ⟨c, out, by unfold impl_books; rw [e1]; rfl, by unfold spec_l07All; rw [l07Copy_eq b hb, Option.bind_some]; simp only; rw [e2]; rfl, h⟩
  · exact .inr ⟨⟨d, cs, ts⟩, out, by unfold impl_books; rw [e1]; rfl, by unfold spec_l07All; rw [l07Copy_eq b hb, Option.bind_some]; simp only; rw [e2]; rfl, h⟩
def askC (b : Book) (xs : List Deal) : Int := if bookB b && xs.all dealB then if (80 : Int) < (xs.length : Int) then 3 else 0 else 1
theorem dealsCode_eq (b : Book) (xs : List Deal) (hc : b.Cash.length ≤ 4611686018427387904) (ht : b.Tallies.length ≤ 4611686018427387904) (hx : xs.length ≤ 4611686018427387904) : impl_dealsCode b xs = some (askC b xs) := by
  unfold impl_dealsCode askC
  rw [validBook_eq b hc ht, areDeals_eq xs hx]
  cases bookB b <;> cases xs.all dealB <;> simp <;> split <;> rfl
theorem l07Asked_eq (b : Book) (xs : List Deal) (hc : b.Cash.length ≤ 4611686018427387904) (ht : b.Tallies.length ≤ 4611686018427387904) (hx : xs.length ≤ 4611686018427387904) : spec_l07Asked b xs = some (askC b xs) := by
  unfold spec_l07Asked askC
  rw [l07Ok_eq b hc ht, l07Deals_eq xs hx]
  cases bookB b <;> cases xs.all dealB <;> simp <;> split <;> rfl
end Go.Proofs.Ytjlalepbhcekoaa
namespace Go.Proofs.Ytjlalepbhcekoaa
open Go Go.Ab
theorem rd_last {out : List Book} {s : Book} (h : out.getLast? = some s) (hn : out.length ≤ 4611686018427387904) : rd out (IntKind.i64.wrap ((out.length : Int) - 1)) = some s := by
  have h0 : out ≠ [] := fun e => by subst e; cases h
  have hp : 0 < out.length := List.length_pos_iff.2 h0
  rw [w64 (by omega), show ((out.length : Int) - 1) = ((out.length - 1 : Nat) : Int) by omega, rd_coe, ← List.getLast?_eq_getElem?, h]
end Go.Proofs.Ytjlalepbhcekoaa
namespace Go.Proofs.Ytjlalepbhcekoaa
open Go Go.Ab
def Bys (c : List Int) : Prop := c.length ≤ 4611686018427387904 ∧ ∀ x ∈ c, 0 ≤ x ∧ x ≤ 255
theorem iand255_in (n : Int) : 0 ≤ IntKind.i64.wrap (iand .u64 n 255) ∧ IntKind.i64.wrap (iand .u64 n 255) ≤ 255 := by
  have h1 : (BitVec.ofInt IntKind.u64.bits n &&& BitVec.ofInt IntKind.u64.bits 255).toNat ≤ 255 := by
    rw [BitVec.toNat_and]
    exact Nat.le_trans Nat.and_le_right (by decide)
  have h2 : iand .u64 n 255 = ((BitVec.ofInt IntKind.u64.bits n &&& BitVec.ofInt IntKind.u64.bits 255).toNat : Int) := by
    unfold iand
    exact IntWalk.u64_in _ ⟨by omega, by omega⟩
  rw [h2, w64 (by omega)]
  omega
theorem shr40 (n : Int) : ∃ m, shr .u64 n 40 = some m := by
  unfold shr
  rw [if_neg (by decide)]
  exact ⟨_, rfl⟩
theorem next_ok (c : List Int) (hc : Bys c) (a s : Int) (h0 : 0 ≤ a) (h1 : a ≤ 4611686018427387904) : ∃ x s', spec_l00Src_next_p c a s = some (x, c, a + 1, s') ∧ 0 ≤ x ∧ x ≤ 255 := by
  have w : IntKind.i64.wrap (a + 1) = a + 1 := w64 (by omega)
  unfold spec_l00Src_next_p
  by_cases c1 : a < c.length
  · have hr := rd_in (xs := c) h0 c1
    have hx := hc.2 _ (List.getElem_mem (show a.toNat < c.length by omega))
    have wx : IntKind.i64.wrap c[a.toNat] = c[a.toNat] := w64 (by omega)
    by_cases c2 : a + 1 ≤ c.length
    · exact ⟨c[a.toNat], _, by simp only [c1, decide_true, if_true, hr, Option.bind_some, w, c2, wx]; rfl, hx⟩
    · omega
  · by_cases c2 : a + 1 ≤ c.length
    · exact ⟨0, _, by simp only [c1, decide_false, Bool.false_eq_true, if_false, w, c2, decide_true, if_true]; rfl, by omega, by omega⟩
    · obtain ⟨m, hm⟩ := shr40 (IntKind.u64.wrap ((IntKind.u64.wrap ((IntKind.u64.wrap (s * 6364136223846793005)) + 0)) + 1442695040888963407))
      exact ⟨_, _, by simp only [c1, decide_false, Bool.false_eq_true, if_false, w, c2, hm, Option.bind_some]; rfl, iand255_in m⟩
theorem pick_ok (c : List Int) (hc : Bys c) (a s n : Int) (h0 : 0 ≤ a) (h1 : a ≤ 1000000000000) (hn : n ≤ 9223372036854775807) :
    ∃ x a' s', spec_l00Src_pick_p c a s n = some (x, c, a', s') ∧ 0 ≤ x ∧ (1 ≤ n → x < n) ∧ x ≤ 65535 ∧ a ≤ a' ∧ a' ≤ a + 2 ∧ (n ≤ 200 → x ≤ 255) := by
  unfold spec_l00Src_pick_p
  by_cases c1 : n ≤ 1
  · exact ⟨0, a, s, by simp [c1], by omega, by omega, by omega, by omega, by omega, by omega⟩
  · obtain ⟨x, s1, e1, g1, g2⟩ := next_ok c hc a s h0 (by omega)
    have n0 : ¬ n = 0 := by omega
    by_cases c2 : n > 200
    · obtain ⟨y, s2, e2, k1, k2⟩ := next_ok c hc (a + 1) s1 (by omega) (by omega)
      have w1 : IntKind.i64.wrap (x * 256) = x * 256 := w64 (by omega)
      have w2 : IntKind.i64.wrap (x * 256 + y) = x * 256 + y := w64 (by omega)
      have hr : rem .i64 (x * 256 + y) n = some ((x * 256 + y).tmod n) := by unfold rem; rw [if_neg n0]
      have hm : (x * 256 + y).tmod n = (x * 256 + y) % n := Int.tmod_eq_emod_of_nonneg (by omega)
      have m1 := Int.emod_nonneg (x * 256 + y) n0
      have m2 := Int.emod_lt_of_pos (x * 256 + y) (show 0 < n by omega)
      have m3 : (x * 256 + y) % n ≤ x * 256 + y := by
        have := Int.emod_add_mul_ediv (x * 256 + y) n
        have h3 : 0 ≤ n * ((x * 256 + y) / n) := Int.mul_nonneg (by omega) (Int.ediv_nonneg (by omega) (by omega))
        omega
      exact ⟨_, a + 1 + 1, s2, by simp only [c1, decide_false, Bool.false_eq_true, if_false, e1, Option.bind_some, c2, decide_true, if_true, e2, w1, w2, hr, hm], m1, fun _ => m2, by omega, by omega, by omega, by omega⟩
    · have hr : rem .i64 x n = some (x.tmod n) := by unfold rem; rw [if_neg n0]
      have hm : x.tmod n = x % n := Int.tmod_eq_emod_of_nonneg g1
      have m1 := Int.emod_nonneg x n0
      have m2 := Int.emod_lt_of_pos x (show 0 < n by omega)
      have m3 : x % n ≤ x := by
        have := Int.emod_add_mul_ediv x n
        have h3 : 0 ≤ n * (x / n) := Int.mul_nonneg (by omega) (Int.ediv_nonneg g1 (by omega))
        omega
      exact ⟨_, a + 1, s1, by simp only [c1, decide_false, Bool.false_eq_true, if_false, e1, Option.bind_some, c2, hr, hm], m1, fun _ => m2, by omega, by omega, by omega, by omega⟩
theorem one_ok (c : List Int) (hc : Bys c) (a s n : Int) (h0 : 0 ≤ a) (h1 : a ≤ 1000000000000) (hn : n ≤ 9223372036854775807) :
    ∃ x a' s', spec_l00Src_one_p c a s n = some (x, c, a', s') ∧ a ≤ a' ∧ a' ≤ a + 2 := by
  obtain ⟨x, a', s', e, _, _, _, h2, h3, _⟩ := pick_ok c hc a s n h0 h1 hn
  exact ⟨x == 0, a', s', by unfold spec_l00Src_one_p; rw [e]; rfl, h2, h3⟩
theorem from_eq (c : List Int) : spec_l00From c = some ⟨c, 0, 0⟩ := rfl
theorem bys_of {c : List Int} (h : (okLs 1 (InR .u8)) c) : Bys c := by
  refine ⟨by have := h.2.1; omega, fun x hx => ?_⟩
  have := h.2.2 x hx
  simpa [InR, Lit.wf, IntKind.min, IntKind.max, IntKind.signed, IntKind.bits] using this
end Go.Proofs.Ytjlalepbhcekoaa
namespace Go.Proofs.Ytjlalepbhcekoaa
open Go Go.Ab
structure DrI (b : Book) : Prop where
  ok : bookB b = true
  p2 : 2 ≤ b.Cash.length
  p4 : b.Cash.length ≤ 4
  day : b.Day ≤ 1000
theorem rem_in {x n : Int} (h : 0 ≤ x) (hn : 0 < n) : ∃ y, rem .i64 x n = some y ∧ 0 ≤ y ∧ y < n := by
  refine ⟨x.tmod n, by unfold rem; rw [if_neg (by omega)], ?_⟩
  rw [Int.tmod_eq_emod_of_nonneg h]
  exact ⟨Int.emod_nonneg x (by omega), Int.emod_lt_of_pos x hn⟩
theorem nextDeal_ok (c : List Int) (hc : Bys c) (a s : Int) (h0 : 0 ≤ a) (h1 : a ≤ 100000000000) (b : Book) (hb : DrI b) :
    ∃ d : Deal, ∃ a' s', spec_l07NextDeal_pp c a s b.Day b.Cash b.Tallies = some (d.Day, d.Kind, d.Tally, d.From, d.To, d.Amount, c, a', s') ∧ dealB d = true ∧ b.Day ≤ d.Day ∧ d.Day ≤ b.Day + 3 ∧ (d.Kind = 1 → d.Amount ≤ 60) ∧ a ≤ a' ∧ a' ≤ a + 10 := by
  have hk := BkI.of hb.ok
  have p2 := hb.p2
  have p4 := hb.p4
  have tn := hk.tn
  have hday : 0 ≤ b.Day := by
    have := hb.ok
    unfold bookB at this
    simp only [Bool.and_eq_true] at this
    exact (inB_iff.1 this.1).1
  have hday2 := hb.day
  obtain ⟨x, a1, s1, e1, x1, x2, _, g1, g2, _⟩ := pick_ok c hc a s 4 h0 (by omega) (by omega)
  have x2 := x2 (by omega)
  have wd : IntKind.i64.wrap (b.Day + x) = b.Day + x := w64 (by omega)
  have wl : IntKind.i64.wrap ((b.Cash.length : Int) - 1) = (b.Cash.length : Int) - 1 := w64 (by omega)
  have hone : ∃ q a2 s2, (if ((b.Tallies.length : Int) == 0) = true then some (true, c, a1, s1) else (spec_l00Src_one_p c a1 s1 3).bind fun (r73, r74, r75, r76) => some (r73, r74, r75, r76)) = some (q, c, a2, s2) ∧ a1 ≤ a2 ∧ a2 ≤ a1 + 2 ∧ (q = false → 0 < b.Tallies.length) := by
    by_cases hz : b.Tallies.length = 0
    · exact ⟨true, a1, s1, by simp [hz], by omega, by omega, fun h => by cases h⟩
    · obtain ⟨q, a2, s2, e, k1, k2⟩ := one_ok c hc a1 s1 3 (by omega) (by omega) (by omega)
      exact ⟨q, a2, s2, by rw [if_neg (by simpa using hz), e]; rfl, k1, k2, fun _ => by omega⟩
  obtain ⟨q, a2, s2, e2, k1, k2, kt⟩ := hone
  unfold spec_l07NextDeal_pp
  rw [e1, Option.bind_some]
  simp only [e2, Option.bind_some, wd, wl]
  cases q with
  | true =>
    simp only [if_true]
    obtain ⟨y, a3, s3, e3, y1, y2, _, m1, m2, _⟩ := pick_ok c hc a2 s2 (b.Cash.length : Int) (by omega) (by omega) (by omega)
    have y2 := y2 (by omega)
    obtain ⟨z, a4, s4, e4, z1, z2, _, m3, m4, _⟩ := pick_ok c hc a3 s3 ((b.Cash.length : Int) - 1) (by omega) (by omega) (by omega)
    have z2 := z2 (by omega)
    have w1 : IntKind.i64.wrap (y + 1) = y + 1 := w64 (by omega)
    have w2 : IntKind.i64.wrap (y + 1 + z) = y + 1 + z := w64 (by omega)
    obtain ⟨t, e5, t1, t2⟩ := rem_in (x := y + 1 + z) (n := (b.Cash.length : Int)) (by omega) (by omega)
    obtain ⟨u, a5, s5, e6, u1, u2, _, m5, m6, _⟩ := pick_ok c hc a4 s4 60 (by omega) (by omega) (by omega)
    have u2 := u2 (by omega)
    have w3 : IntKind.i64.wrap (1 + u) = 1 + u := w64 (by omega)
    refine ⟨⟨b.Day + x, 1, 0, y, t, 1 + u⟩, a5, s5, by simp only [e3, e4, w1, w2, e5, e6, w3, Option.bind_some], ?_, by simp only; omega, by simp only; omega, fun _ => by simp only; omega, by omega, by omega⟩
    have i1 : inB (b.Day + x) 0 100000 = true := inB_iff.2 ⟨by omega, by omega⟩
    have i2 : inB y 0 15 = true := inB_iff.2 ⟨by omega, by omega⟩
    have i3 : inB t 0 15 = true := inB_iff.2 ⟨by omega, by omega⟩
    have i4 : inB (1 + u) 1 100000000 = true := inB_iff.2 ⟨by omega, by omega⟩
    simp [dealB, i1, i2, i3, i4]
  | false =>
    have kt := kt rfl
    simp only [Bool.false_eq_true, if_false]
    obtain ⟨y, a3, s3, e3, y1, y2, _, m1, m2, _⟩ := pick_ok c hc a2 s2 (b.Tallies.length : Int) (by omega) (by omega) (by omega)
    have y2 := y2 (by omega)
    have hr := rd_in (xs := b.Tallies) y1 y2
    obtain ⟨t1, t2, t3, t4⟩ := hk.ta _ (List.getElem_mem (show y.toNat < b.Tallies.length by omega))
    revert hr t1 t2 t3 t4
    generalize b.Tallies[y.toNat] = t
    intro hr t1 t2 t3 t4
    have hrc := rd_in (xs := b.Cash) t1.1 t1.2
    have hca := hk.ca _ (List.getElem_mem (show t.Debtor.toNat < b.Cash.length by omega))
    obtain ⟨z, a4, s4, e4, z1, z2, _, m3, m4, _⟩ := pick_ok c hc a3 s3 5 (by omega) (by omega) (by omega)
    have z2 := z2 (by omega)
    have i1 : inB (b.Day + x) 0 100000 = true := inB_iff.2 ⟨by omega, by omega⟩
    have i2 : inB y 0 39 = true := inB_iff.2 ⟨by omega, by omega⟩
    have i3 : inB t.Holder 0 15 = true := inB_iff.2 ⟨by omega, by omega⟩
    have hz : (if (z == 0) = true then some (z == 0) else some (z == 1)) = some (decide (z ≤ 1)) := by
      by_cases h : z = 0
      · simp [h]
      · by_cases h' : z = 1
        · simp [h']
        · have : ¬ z ≤ 1 := by omega
          simp [h, h', this]
    simp only [e3, Option.bind_some, hr, e4, hz]
    by_cases cz : z ≤ 1
    · simp only [cz, decide_true, if_true]
      obtain ⟨u, a5, s5, e5, u1, u2, _, m5, m6, _⟩ := pick_ok c hc a4 s4 ((b.Cash.length : Int) - 1) (by omega) (by omega) (by omega)
      have u2 := u2 (by omega)
      have w1 : IntKind.i64.wrap (t.Holder + 1) = t.Holder + 1 := w64 (by omega)
      have w2 : IntKind.i64.wrap (t.Holder + 1 + u) = t.Holder + 1 + u := w64 (by omega)
      obtain ⟨v, e6, v1, v2⟩ := rem_in (x := t.Holder + 1 + u) (n := (b.Cash.length : Int)) (by omega) (by omega)
      refine ⟨⟨b.Day + x, 2, y, t.Holder, v, 0⟩, a5, s5, by simp only [e5, w1, w2, e6, Option.bind_some], ?_, by simp only; omega, by simp only; omega, fun h => by simp at h, by omega, by omega⟩
      have i4 : inB v 0 15 = true := inB_iff.2 ⟨by omega, by omega⟩
      simp [dealB, i1, i2, i3, i4]
    · simp only [cz, decide_false, Bool.false_eq_true, if_false]
      by_cases c2 : z = 2
      · refine ⟨⟨b.Day + x, 4, y, t.Holder, 0, 0⟩, a4, s4, by simp [c2], ?_, by simp only; omega, by simp only; omega, fun h => by simp at h, by omega, by omega⟩
        simp [dealB, i1, i2, i3]
      · have c2' : (z == 2) = false := by simpa using c2
        have hmm : ∃ m, (spec_l00Min t.Left b.Cash[t.Debtor.toNat]).bind (fun r444 => spec_l00Max r444 1) = some m ∧ 1 ≤ m ∧ m ≤ 100000000 := by
          unfold spec_l00Min
          by_cases g : t.Left < b.Cash[t.Debtor.toNat]
          · by_cases g' : t.Left > 1
            · exact ⟨t.Left, by simp [g, spec_l00Max, g'], by omega, by omega⟩
            · exact ⟨1, by simp [g, spec_l00Max, g'], by omega, by omega⟩
          · by_cases g' : b.Cash[t.Debtor.toNat] > 1
            · exact ⟨b.Cash[t.Debtor.toNat], by simp [g, spec_l00Max, g'], by omega, by omega⟩
            · exact ⟨1, by simp [g, spec_l00Max, g'], by omega, by omega⟩
        obtain ⟨m, em, n1, n2⟩ := hmm
        obtain ⟨r, er, em2⟩ := Option.bind_eq_some_iff.1 em
        obtain ⟨u, a5, s5, e5, u1, u2, u3, m5, m6, _⟩ := pick_ok c hc a4 s4 m (by omega) (by omega) (by omega)
        have w3 : IntKind.i64.wrap (1 + u) = 1 + u := w64 (by omega)
        refine ⟨⟨b.Day + x, 3, y, 0, 0, 1 + u⟩, a5, s5, by simp only [c2', Bool.false_eq_true, if_false, hrc, Option.bind_some, er, em2, e5, w3], ?_, by simp only; omega, by simp only; omega, fun h => by simp at h, by omega, by omega⟩
        have i4 : inB (1 + u) 1 100000000 = true := inB_iff.2 ⟨by omega, by omega⟩
        simp [dealB, i1, i2, i4]
end Go.Proofs.Ytjlalepbhcekoaa
namespace Go.Proofs.Ytjlalepbhcekoaa
open Go Go.Ab
inductive StpB (b : Book) (d : Deal) : Book → Prop
  | cut (k : d.Kind = 1) (dy : b.Day ≤ d.Day) (f : 0 ≤ d.From ∧ d.From < b.Cash.length) (t : 0 ≤ d.To ∧ d.To < b.Cash.length) (ne : d.From ≠ d.To) (tn : b.Tallies.length < 40) (am : 1 ≤ d.Amount ∧ d.Amount ≤ 100000000) : StpB b d ⟨d.Day, b.Cash, b.Tallies ++ [⟨d.From, d.To, d.Day, d.Amount, d.Amount⟩]⟩
  | pass (k : d.Kind = 2) (dy : b.Day ≤ d.Day) (i : Nat) (x : Tally) (hi : b.Tallies[i]? = some x) (e : d.Tally = i) (hf : d.From = x.Holder) (l0 : x.Left ≠ 0) (t : 0 ≤ d.To ∧ d.To < b.Cash.length) (nl : Int) (hl : nl = if d.To = x.Debtor then 0 else x.Left) : StpB b d ⟨d.Day, b.Cash, b.Tallies.set i ⟨x.Debtor, d.To, x.Cut, x.Amount, nl⟩⟩
  | pay (k : d.Kind = 3) (dy : b.Day ≤ d.Day) (i : Nat) (x : Tally) (hi : b.Tallies[i]? = some x) (e : d.Tally = i) (am : 1 ≤ d.Amount ∧ d.Amount ≤ x.Left) (j m : Nat) (u v : Int) (hj : x.Debtor = j) (hm : x.Holder = m) (hjm : j ≠ m) (hu : b.Cash[j]? = some u) (hv : b.Cash[m]? = some v) (gu : d.Amount ≤ u) (gv : v + d.Amount ≤ 100000000) : StpB b d ⟨d.Day, (b.Cash.set j (u - d.Amount)).set m (v + d.Amount), b.Tallies.set i ⟨x.Debtor, x.Holder, x.Cut, x.Amount, x.Left - d.Amount⟩⟩
  | done (k : d.Kind = 4) (dy : b.Day ≤ d.Day) (i : Nat) (x : Tally) (hi : b.Tallies[i]? = some x) (e : d.Tally = i) (hf : d.From = x.Holder) (l0 : x.Left ≠ 0) : StpB b d ⟨d.Day, b.Cash, b.Tallies.set i ⟨x.Debtor, x.Holder, x.Cut, x.Amount, 0⟩⟩
theorem step_cut (b : Book) (d : Deal) (hb : BkI b) (hk : d.Kind = 1) (hf : 0 ≤ d.From) (ht : 0 ≤ d.To) (ha : 1 ≤ d.Amount ∧ d.Amount ≤ 100000000) {r : Int × List Int × List Tally} (h : spec_l07Do b d = some (.inr r)) : StpB b d ⟨r.1, r.2.1, r.2.2⟩ := by
  have p1 := personD b.Cash.length hb.cn d.From hf
  have p2 := personD b.Cash.length hb.cn d.To ht
  have tn := hb.tn
  by_cases c0 : d.Day < b.Day
  · simp [spec_l07Do, spec_l07Refused, c0] at h
  by_cases c1 : d.From < b.Cash.length
  case neg => simp [spec_l07Do, spec_l07Refused, c0, p1, c1] at h
  by_cases c2 : d.To < b.Cash.length
  case neg => simp [spec_l07Do, spec_l07Refused, c0, p1, p2, c1, c2] at h
  by_cases c3 : d.From = d.To
  · simp [spec_l07Do, spec_l07Refused, c0, p1, p2, c1, c2, c3, hk] at h
  by_cases c4 : b.Tallies.length = 40
  · simp [spec_l07Do, spec_l07Refused, c0, p1, p2, c1, c2, c3, hk, c4] at h
  have c5 : ¬ (b.Tallies.length : Int) = 40 := by omega
  have ap : app 40 b.Tallies [⟨d.From, d.To, d.Day, d.Amount, d.Amount⟩] = some (b.Tallies ++ [⟨d.From, d.To, d.Day, d.Amount, d.Amount⟩]) := app_some (by simp; omega) (by simp)
  simp [spec_l07Do, spec_l07Refused, c0, p1, p2, c1, c2, c3, hk, c5, l07Copy_eq b hb, ap] at h
  subst h
  exact .cut hk (by omega) ⟨hf, c1⟩ ⟨ht, c2⟩ c3 (by omega) ha
theorem step_pass (b : Book) (d : Deal) (hb : BkI b) (hk : d.Kind = 2) (hf : 0 ≤ d.From) (ht : 0 ≤ d.To) (hi : 0 ≤ d.Tally) (ha : d.Amount = 0) {r : Int × List Int × List Tally} (h : spec_l07Do b d = some (.inr r)) : StpB b d ⟨r.1, r.2.1, r.2.2⟩ := by
  have p1 := personD b.Cash.length hb.cn d.From hf
  have p2 := personD b.Cash.length hb.cn d.To ht
  by_cases c0 : d.Day < b.Day
  · simp [spec_l07Do, spec_l07Refused, c0] at h
  by_cases c1 : d.From < b.Cash.length
  case neg => simp [spec_l07Do, spec_l07Refused, c0, p1, c1] at h
  by_cases c2 : d.To < b.Cash.length
  case neg => simp [spec_l07Do, spec_l07Refused, c0, p1, p2, c1, c2] at h
  by_cases c3 : d.Tally < b.Tallies.length
  case neg =>
    have c3' : (b.Tallies.length : Int) ≤ d.Tally := by omega
    simp [spec_l07Do, spec_l07Refused, c0, p1, p2, c1, c2, c3', hk] at h
  have c3' : ¬ (b.Tallies.length : Int) ≤ d.Tally := by omega
  obtain ⟨i, hi'⟩ : ∃ i : Nat, d.Tally = i := ⟨d.Tally.toNat, by omega⟩
  have hlt : i < b.Tallies.length := by omega
  have hx : b.Tallies[i]? = some b.Tallies[i] := List.getElem?_eq_getElem hlt
  have hr : rd b.Tallies d.Tally = some b.Tallies[i] := by rw [hi', rd_coe, hx]
  obtain ⟨t1, t2, t3, t4⟩ := hb.ta _ (List.getElem_mem hlt)
  have cp := l07Copy_eq b hb
  revert hx hr t1 t2 t3 t4
  generalize b.Tallies[i] = t
  intro hx hr t1 t2 t3 t4
  by_cases c4 : d.From = d.To
  · simp [spec_l07Do, spec_l07Refused, c0, p1, p2, c1, c2, c3', c4, hk, hr] at h
  by_cases c5 : t.Holder = d.From
  case neg =>
    have c5 : ¬ d.From = t.Holder := fun h => c5 h.symm
    simp [spec_l07Do, spec_l07Refused, c0, p1, p2, c1, c2, c3', c4, hk, hr, c5] at h
  by_cases c6 : t.Left = 0
  · simp [spec_l07Do, spec_l07Refused, c0, p1, p2, c1, c2, c3', c4, hk, hr, c5, c6] at h
  have c7 : ¬ d.Amount > t.Left := by omega
  have e1 : (Tally.mk t.Debtor d.To t.Cut t.Amount t.Left).Holder = d.To := rfl
  have e2 : d.Tally.toNat = i := by omega
  by_cases c8 : t.Debtor = d.To
  · simp [spec_l07Do, spec_l07Refused, c0, p1, p2, c1, c2, c3', c4, hk, hr, c5, c6, c7, c8, cp] at h
    subst h
    simp only [e2]
    have := StpB.pass (b := b) hk (by omega) i t hx hi' c5.symm c6 ⟨ht, c2⟩ 0 (by rw [if_pos c8.symm])
    rw [c8] at this
    exact this
  · have c9 : ¬ d.To = t.Debtor := fun h => c8 h.symm
    simp [spec_l07Do, spec_l07Refused, c0, p1, p2, c1, c2, c3', c4, hk, hr, c5, c6, c7, c9, cp] at h
    subst h
    simp only [e2]
    exact .pass hk (by omega) i t hx hi' c5.symm c6 ⟨ht, c2⟩ t.Left (by rw [if_neg c9])
theorem step_end (b : Book) (d : Deal) (hb : BkI b) (hk : d.Kind = 4) (hf : 0 ≤ d.From) (ht : d.To = 0) (hi : 0 ≤ d.Tally) (ha : d.Amount = 0) {r : Int × List Int × List Tally} (h : spec_l07Do b d = some (.inr r)) : StpB b d ⟨r.1, r.2.1, r.2.2⟩ := by
  have p1 := personD b.Cash.length hb.cn d.From hf
  have p2 := personD b.Cash.length hb.cn d.To (by omega)
  have hc1 := hb.c1
  have c2 : d.To < b.Cash.length := by omega
  by_cases c0 : d.Day < b.Day
  · simp [spec_l07Do, spec_l07Refused, c0] at h
  by_cases c1 : d.From < b.Cash.length
  case neg => simp [spec_l07Do, spec_l07Refused, c0, p1, c1] at h
  by_cases c3 : d.Tally < b.Tallies.length
  case neg =>
    have c3' : (b.Tallies.length : Int) ≤ d.Tally := by omega
    simp [spec_l07Do, spec_l07Refused, c0, p1, p2, c1, c2, c3', hk] at h
  have c3' : ¬ (b.Tallies.length : Int) ≤ d.Tally := by omega
  obtain ⟨i, hi'⟩ : ∃ i : Nat, d.Tally = i := ⟨d.Tally.toNat, by omega⟩
  have hlt : i < b.Tallies.length := by omega
  have hx : b.Tallies[i]? = some b.Tallies[i] := List.getElem?_eq_getElem hlt
  have hr : rd b.Tallies d.Tally = some b.Tallies[i] := by rw [hi', rd_coe, hx]
  obtain ⟨t1, t2, t3, t4⟩ := hb.ta _ (List.getElem_mem hlt)
  have cp := l07Copy_eq b hb
  revert hx hr t1 t2 t3 t4
  generalize b.Tallies[i] = t
  intro hx hr t1 t2 t3 t4
  by_cases c5 : t.Holder = d.From
  case neg =>
    have c5 : ¬ d.From = t.Holder := fun h => c5 h.symm
    simp [spec_l07Do, spec_l07Refused, c0, p1, p2, c1, c2, c3', hk, hr, c5] at h
  by_cases c6 : t.Left = 0
  · simp [spec_l07Do, spec_l07Refused, c0, p1, p2, c1, c2, c3', hk, hr, c5, c6] at h
  have c7 : ¬ d.Amount > t.Left := by omega
  have e2 : d.Tally.toNat = i := by omega
  simp [spec_l07Do, spec_l07Refused, c0, p1, p2, c1, c2, c3', hk, hr, c5, c6, c7, cp] at h
  subst h
  simp only [e2]
  have := StpB.done (b := b) hk (by omega) i t hx hi' c5.symm c6
  rw [c5] at this
  exact this
theorem step_pay (b : Book) (d : Deal) (hb : BkI b) (hk : d.Kind = 3) (hf : d.From = 0) (ht : d.To = 0) (hi : 0 ≤ d.Tally) (ha : 1 ≤ d.Amount ∧ d.Amount ≤ 100000000) {r : Int × List Int × List Tally} (h : spec_l07Do b d = some (.inr r)) : StpB b d ⟨r.1, r.2.1, r.2.2⟩ := by
  have p1 := personD b.Cash.length hb.cn d.From (by omega)
  have p2 := personD b.Cash.length hb.cn d.To (by omega)
  have hc1 := hb.c1
  have c1 : d.From < b.Cash.length := by omega
  have c2 : d.To < b.Cash.length := by omega
  by_cases c0 : d.Day < b.Day
  · simp [spec_l07Do, spec_l07Refused, c0] at h
  by_cases c3 : d.Tally < b.Tallies.length
  case neg =>
    have c3' : (b.Tallies.length : Int) ≤ d.Tally := by omega
    simp [spec_l07Do, spec_l07Refused, c0, p1, p2, c1, c2, c3', hk] at h
  have c3' : ¬ (b.Tallies.length : Int) ≤ d.Tally := by omega
  obtain ⟨i, hi'⟩ : ∃ i : Nat, d.Tally = i := ⟨d.Tally.toNat, by omega⟩
  have hlt : i < b.Tallies.length := by omega
  have hx : b.Tallies[i]? = some b.Tallies[i] := List.getElem?_eq_getElem hlt
  have hr : rd b.Tallies d.Tally = some b.Tallies[i] := by rw [hi', rd_coe, hx]
  obtain ⟨t1, t2, t3, t4⟩ := hb.ta _ (List.getElem_mem hlt)
  have cp := l07Copy_eq b hb
  have e2 : d.Tally.toNat = i := by omega
  revert hx hr t1 t2 t3 t4
  generalize b.Tallies[i] = t
  intro hx hr t1 t2 t3 t4
  by_cases c6 : t.Left = 0
  · simp [spec_l07Do, spec_l07Refused, c0, p1, p2, c1, c2, c3', hk, hr, c6] at h
  by_cases c7 : d.Amount > t.Left
  · simp [spec_l07Do, spec_l07Refused, c0, p1, p2, c1, c2, c3', hk, hr, c6, c7] at h
  obtain ⟨j, hj⟩ : ∃ j : Nat, t.Debtor = j := ⟨t.Debtor.toNat, by omega⟩
  obtain ⟨k, hk'⟩ : ∃ k : Nat, t.Holder = k := ⟨t.Holder.toNat, by omega⟩
  have hjl : j < b.Cash.length := by omega
  have hkl : k < b.Cash.length := by omega
  have hjk : ¬ j = k := fun e => c6 (t4 (by omega))
  have gu : b.Cash[j]? = some b.Cash[j] := List.getElem?_eq_getElem hjl
  have gv : b.Cash[k]? = some b.Cash[k] := List.getElem?_eq_getElem hkl
  have rj : rd b.Cash t.Debtor = some b.Cash[j] := by rw [hj, rd_coe, gu]
  have rk : rd b.Cash t.Holder = some b.Cash[k] := by rw [hk', rd_coe, gv]
  have aj := hb.ca _ (List.getElem_mem hjl)
  have ak := hb.ca _ (List.getElem_mem hkl)
  have rk2 : ∀ x, rd (b.Cash.set t.Debtor.toNat x) t.Holder = some b.Cash[k] := fun x => by
    rw [hk', rd_coe, hj, Int.toNat_natCast, List.getElem?_set_ne hjk, gv]
  have e3 : t.Debtor.toNat = j := by omega
  have e4 : t.Holder.toNat = k := by omega
  revert gu gv rj rk aj ak rk2
  generalize b.Cash[j] = u
  generalize b.Cash[k] = v
  intro gu gv rj rk aj ak rk2
  have w1 : IntKind.i64.wrap (u - d.Amount) = u - d.Amount := w64 (by omega)
  have w2 : IntKind.i64.wrap (v + d.Amount) = v + d.Amount := w64 (by omega)
  have w3 : IntKind.i64.wrap (t.Left - d.Amount) = t.Left - d.Amount := w64 (by omega)
  by_cases c8 : u < d.Amount
  · simp [spec_l07Do, spec_l07Refused, c0, p1, p2, c1, c2, c3', hk, hr, c6, c7, rj, c8] at h
  by_cases c9 : v + d.Amount > 100000000
  · simp [spec_l07Do, spec_l07Refused, c0, p1, p2, c1, c2, c3', hk, hr, c6, c7, rj, c8, rk, w2, c9] at h
  simp [spec_l07Do, spec_l07Refused, c0, p1, p2, c1, c2, c3', hk, hr, c6, c7, rj, c8, rk, rk2, w1, w2, w3, c9, cp] at h
  subst h
  simp only [e2, e3, e4]
  exact .pay hk (by omega) i t hx hi' ⟨ha.1, by omega⟩ j k u v hj hk' hjk gu gv (by omega) (by omega)
theorem do_step (b : Book) (d : Deal) (hb : BkI b) (hd : dealB d = true) {r : Int × List Int × List Tally} (h : spec_l07Do b d = some (.inr r)) : StpB b d ⟨r.1, r.2.1, r.2.2⟩ := by
  unfold dealB at hd
  simp only [Bool.and_eq_true, Bool.or_eq_true, beq_iff_eq, inB_iff] at hd
  obtain ⟨_, ((h0 | h0) | h0) | h0⟩ := hd
  · obtain ⟨⟨⟨⟨h1, h2⟩, h3⟩, h4⟩, h5⟩ := h0
    exact step_cut b d hb h1 h3.1 h4.1 h5 h
  · obtain ⟨⟨⟨⟨h1, h2⟩, h3⟩, h4⟩, h5⟩ := h0
    exact step_pass b d hb h1 h3.1 h4.1 h2.1 h5 h
  · obtain ⟨⟨⟨⟨h1, h2⟩, h3⟩, h4⟩, h5⟩ := h0
    exact step_pay b d hb h1 h3 h4 h2.1 h5 h
  · obtain ⟨⟨⟨⟨h1, h2⟩, h3⟩, h4⟩, h5⟩ := h0
    exact step_end b d hb h1 h3.1 h4 h2.1 h5 h
structure BookP (b : Book) : Prop where
  day : 0 ≤ b.Day ∧ b.Day ≤ 100000
  c1 : 1 ≤ b.Cash.length
  cn : b.Cash.length ≤ 16
  ca : ∀ c ∈ b.Cash, 0 ≤ c ∧ c ≤ 100000000
  tn : b.Tallies.length ≤ 40
  ta : ∀ (i : Nat) t, b.Tallies[i]? = some t → (0 ≤ t.Debtor ∧ t.Debtor < b.Cash.length) ∧ (0 ≤ t.Holder ∧ t.Holder < b.Cash.length) ∧ (0 ≤ t.Cut ∧ t.Cut ≤ b.Day) ∧ (1 ≤ t.Amount ∧ t.Amount ≤ 100000000) ∧ (0 ≤ t.Left ∧ t.Left ≤ t.Amount) ∧ (t.Debtor = t.Holder → t.Left = 0)
  srt : ∀ (i : Nat) t t', b.Tallies[i]? = some t → b.Tallies[i + 1]? = some t' → t.Cut ≤ t'.Cut
theorem bookB_iff {b : Book} : bookB b = true ↔ BookP b := by
  have tl : ∀ i t, tallyB b i t = true ↔ (0 ≤ t.Debtor ∧ t.Debtor < (b.Cash.length : Int)) ∧ (0 ≤ t.Holder ∧ t.Holder < (b.Cash.length : Int)) ∧ (0 ≤ t.Cut ∧ t.Cut ≤ b.Day) ∧ (1 ≤ t.Amount ∧ t.Amount ≤ 100000000) ∧ (0 ≤ t.Left ∧ t.Left ≤ t.Amount) ∧ (t.Debtor = t.Holder → t.Left = 0) ∧ prevCut b i ≤ t.Cut := by
    intro i t
    unfold tallyB
    simp only [Bool.and_eq_true, personB_iff, inB_iff, decide_eq_true_eq]
    have : (!(t.Debtor == t.Holder && t.Left != 0)) = true ↔ (t.Debtor = t.Holder → t.Left = 0) := by
      by_cases h1 : t.Debtor = t.Holder <;> by_cases h2 : t.Left = 0 <;> simp [h1, h2]
    rw [this]
  have ts : talliesB b = true ↔ ∀ (i : Nat) t, b.Tallies[i]? = some t → tallyB b i t = true := by
    unfold talliesB
    rw [List.all_eq_true]
    constructor
    · intro h i t hi
      have := h i (List.mem_range.2 (List.getElem?_eq_some_iff.1 hi).1)
      rw [hi] at this
      exact this
    · intro h i hi
      have hi := List.mem_range.1 hi
      rw [List.getElem?_eq_getElem hi, Option.all_some]
      exact h i _ (List.getElem?_eq_getElem hi)
  unfold bookB
  simp only [Bool.and_eq_true, decide_eq_true_eq, List.all_eq_true, inB_iff, ts, tl]
  constructor
  · rintro ⟨h1, ⟨h2, h3⟩, h4, h5⟩
    refine ⟨h1, by omega, by omega, fun c hc => inB_iff.1 (h2 c hc), h4, fun i t hi => ?_, fun i t t' hi hi' => ?_⟩
    · obtain ⟨a1, a2, a3, a4, a5, a6, _⟩ := h5 i t hi
      exact ⟨a1, a2, a3, a4, a5, a6⟩
    · obtain ⟨_, _, _, _, _, _, a7⟩ := h5 (i + 1) t' hi'
      simpa [prevCut, hi] using a7
  · intro h
    refine ⟨h.day, ⟨fun c hc => inB_iff.2 (h.ca c hc), by have := h.c1; have := h.cn; omega⟩, h.tn, fun i t hi => ?_⟩
    obtain ⟨a1, a2, a3, a4, a5, a6⟩ := h.ta i t hi
    refine ⟨a1, a2, a3, a4, a5, a6, ?_⟩
    cases i with
    | zero => simpa [prevCut] using a3.1
    | succ i =>
      have hi2 : i < b.Tallies.length := by have := (List.getElem?_eq_some_iff.1 hi).1; omega
      have := h.srt i _ t (List.getElem?_eq_getElem hi2) hi
      simpa [prevCut, hi2] using this
theorem BookP.bk {b : Book} (h : BookP b) : BkI b := BkI.of (bookB_iff.2 h)
theorem BookP.set {b : Book} (h : BookP b) {day : Int} (hd : b.Day ≤ day ∧ day ≤ 100000) {c : List Int} (hc : c.length = b.Cash.length) (ca : ∀ x ∈ c, 0 ≤ x ∧ x ≤ 100000000) {i : Nat} {x y : Tally} (hi : b.Tallies[i]? = some x)
    (h1 : y.Debtor = x.Debtor) (h2 : 0 ≤ y.Holder ∧ y.Holder < b.Cash.length) (h3 : y.Cut = x.Cut) (h4 : y.Amount = x.Amount) (h5 : 0 ≤ y.Left ∧ y.Left ≤ x.Amount) (h6 : y.Debtor = y.Holder → y.Left = 0) : BookP ⟨day, c, b.Tallies.set i y⟩ := by
  have hlt := (List.getElem?_eq_some_iff.1 hi).1
  have get : ∀ (k : Nat) t, (b.Tallies.set i y)[k]? = some t → (k = i ∧ t = y) ∨ (k ≠ i ∧ b.Tallies[k]? = some t) := by
    intro k t hk
    by_cases e : k = i
    · subst e
      rw [List.getElem?_set_self hlt] at hk
      exact .inl ⟨rfl, (Option.some.inj hk).symm⟩
    · rw [List.getElem?_set_ne (Ne.symm e)] at hk
      exact .inr ⟨e, hk⟩
  obtain ⟨a1, a2, a3, a4, a5, a6⟩ := h.ta i x hi
  refine ⟨by have := h.day; simp only; omega, by simp only [hc]; exact h.c1, by simp only [hc]; exact h.cn, ca, by simpa using h.tn, fun k t hk => ?_, fun k t t' hk hk' => ?_⟩
  · simp only [hc]
    rcases get k t hk with ⟨rfl, rfl⟩ | ⟨_, hk⟩
    · exact ⟨by rw [h1]; exact a1, h2, by rw [h3]; exact ⟨a3.1, by omega⟩, by rw [h4]; exact a4, by rw [h4]; exact h5, h6⟩
    · obtain ⟨b1, b2, b3, b4, b5, b6⟩ := h.ta k t hk
      exact ⟨b1, b2, ⟨b3.1, by omega⟩, b4, b5, b6⟩
  · have cutOf : ∀ (k : Nat) t, (b.Tallies.set i y)[k]? = some t → ∃ t0, b.Tallies[k]? = some t0 ∧ t.Cut = t0.Cut := by
      intro k t hk
      rcases get k t hk with ⟨rfl, rfl⟩ | ⟨_, hk⟩
      · exact ⟨x, hi, h3⟩
      · exact ⟨t, hk, rfl⟩
    obtain ⟨t0, q1, q2⟩ := cutOf k t hk
    obtain ⟨t0', q3, q4⟩ := cutOf (k + 1) t' hk'
    rw [q2, q4]
    exact h.srt k t0 t0' q1 q3
theorem StpB.book {b b' : Book} {d : Deal} (s : StpB b d b') (h : BookP b) (hd : d.Day ≤ 100000) : BookP b' := by
  cases s with
  | cut k dy f t ne tn am =>
    refine ⟨by have := h.day; simp only; omega, h.c1, h.cn, h.ca, by simp; omega, fun i x hi => ?_, fun i x x' hi hi' => ?_⟩
    · by_cases e : i < b.Tallies.length
      · rw [List.getElem?_append_left e] at hi
        obtain ⟨b1, b2, b3, b4, b5, b6⟩ := h.ta i x hi
        exact ⟨b1, b2, ⟨b3.1, by simp only; omega⟩, b4, b5, b6⟩
      · rw [List.getElem?_append_right (by omega)] at hi
        obtain ⟨e1, e2⟩ := List.getElem?_eq_some_iff.1 hi
        have : i - b.Tallies.length = 0 := by simpa using e1
        simp only [this, List.getElem_cons_zero] at e2
        subst e2
        have := h.day
        exact ⟨f, t, ⟨by simp only; omega, by simp only; omega⟩, am, ⟨by simp only; omega, by simp only; omega⟩, fun e => absurd e ne⟩
    · have hlt : i < b.Tallies.length := by have := (List.getElem?_eq_some_iff.1 hi').1; simp at this; omega
      rw [List.getElem?_append_left hlt] at hi
      by_cases e : i + 1 < b.Tallies.length
      · rw [List.getElem?_append_left e] at hi'
        exact h.srt i x x' hi hi'
      · rw [List.getElem?_append_right (by omega)] at hi'
        obtain ⟨e1, e2⟩ := List.getElem?_eq_some_iff.1 hi'
        have : i + 1 - b.Tallies.length = 0 := by simpa using e1
        simp only [this, List.getElem_cons_zero] at e2
        subst e2
        have := (h.ta i x hi).2.2.1.2
        simp only; omega
  | pass k dy i x hi e hf l0 t nl hl =>
    obtain ⟨a1, a2, a3, a4, a5, a6⟩ := h.ta i x hi
    refine h.set ⟨dy, hd⟩ rfl h.ca hi rfl t rfl rfl ?_ (fun e2 => ?_)
    · subst hl; split <;> simp only <;> omega
    · have e2 : x.Debtor = d.To := e2
      subst hl
      rw [if_pos e2.symm]
  | pay k dy i x hi e am j m u v hj hm hjm hu hv gu gv =>
    obtain ⟨a1, a2, a3, a4, a5, a6⟩ := h.ta i x hi
    have cu := h.ca u (List.mem_of_getElem? hu)
    have cv := h.ca v (List.mem_of_getElem? hv)
    refine h.set ⟨dy, hd⟩ (by simp) (fun y hy => ?_) hi rfl a2 rfl rfl (by simp only; omega) (fun e2 => by have e2 : x.Debtor = x.Holder := e2; omega)
    rcases List.mem_or_eq_of_mem_set hy with hy | rfl
    · rcases List.mem_or_eq_of_mem_set hy with hy | rfl
      · exact h.ca y hy
      · omega
    · omega
  | done k dy i x hi e hf l0 =>
    obtain ⟨a1, a2, a3, a4, a5, a6⟩ := h.ta i x hi
    exact h.set ⟨dy, hd⟩ rfl h.ca hi rfl a2 rfl rfl (by simp only; omega) (fun _ => rfl)
theorem StpB.day {b b' : Book} {d : Deal} (s : StpB b d b') : b'.Day = d.Day ∧ b.Day ≤ d.Day := by cases s <;> exact ⟨rfl, by assumption⟩
theorem sum_set : ∀ (xs : List Int) (i : Nat) (u v : Int), xs[i]? = some u → (xs.set i v).sum = xs.sum - u + v
  | [], i, u, v, h => by simp at h
  | x :: xs, 0, u, v, h => by simp at h; subst h; simp; omega
  | x :: xs, i + 1, u, v, h => by
    have := sum_set xs i u v (by simpa using h)
    simp only [List.set_cons_succ, List.sum_cons]
    omega
theorem StpB.cash {b b' : Book} {d : Deal} (s : StpB b d b') : b'.Cash.length = b.Cash.length ∧ b'.Cash.sum = b.Cash.sum := by
  cases s with
  | pay k dy i x hi e am j m u v hj hm hjm hu hv gu gv =>
    refine ⟨by simp, ?_⟩
    simp only
    rw [sum_set _ m v _ (by rw [List.getElem?_set_ne hjm]; exact hv), sum_set _ j u _ hu]
    omega
  | _ => exact ⟨rfl, rfl⟩
theorem StpB.tall {b b' : Book} {d : Deal} (s : StpB b d b') : b'.Tallies.length ≤ b.Tallies.length + 1 := by cases s <;> simp
theorem StpB.left {b b' : Book} {d : Deal} (s : StpB b d b') (hd : d.Kind = 1 → d.Amount ≤ 60) (h : ∀ t ∈ b.Tallies, t.Left ≤ 60) (hb : BookP b) : ∀ t ∈ b'.Tallies, t.Left ≤ 60 := by
  cases s with
  | cut k dy f t ne tn am =>
    intro x hx
    rcases List.mem_append.1 hx with hx | hx
    · exact h x hx
    · rw [List.mem_singleton.1 hx]; exact hd k
  | pass k dy i x hi e hf l0 t nl hl =>
    intro y hy
    rcases List.mem_or_eq_of_mem_set hy with hy | rfl
    · exact h y hy
    · have := h x (List.mem_of_getElem? hi)
      subst hl; split <;> simp only <;> omega
  | pay k dy i x hi e am j m u v hj hm hjm hu hv gu gv =>
    intro y hy
    rcases List.mem_or_eq_of_mem_set hy with hy | rfl
    · exact h y hy
    · have := h x (List.mem_of_getElem? hi)
      simp only; omega
  | done k dy i x hi e hf l0 =>
    intro y hy
    rcases List.mem_or_eq_of_mem_set hy with hy | rfl
    · exact h y hy
    · simp
end Go.Proofs.Ytjlalepbhcekoaa
namespace Go.Proofs.Ytjlalepbhcekoaa
open Go Go.Ab
inductive Run : Book → List Deal → Book → Prop
  | nil (b : Book) : Run b [] b
  | snoc {b : Book} {ds : List Deal} {m : Book} {d : Deal} {b' : Book} (r : Run b ds m) (hm : BookP m) (hd : dealB d = true) (hs : spec_l07Do m d = some (.inr (b'.Day, b'.Cash, b'.Tallies))) (st : StpB m d b') : Run b (ds ++ [d]) b'
theorem dealB_day {d : Deal} (h : dealB d = true) : 0 ≤ d.Day ∧ d.Day ≤ 100000 := by
  unfold dealB at h
  simp only [Bool.and_eq_true] at h
  exact inB_iff.1 h.1
theorem Run.book {b b' : Book} {ds : List Deal} (r : Run b ds b') (h : BookP b) : BookP b' := by
  induction r with
  | nil => exact h
  | snoc r hm hd hs st ih => exact st.book hm (dealB_day hd).2
theorem Run.all {b b' : Book} {ds : List Deal} (r : Run b ds b') : ∀ d ∈ ds, dealB d = true := by
  induction r with
  | nil => intro d h; cases h
  | snoc r hm hd hs st ih =>
    intro d h
    rcases List.mem_append.1 h with h | h
    · exact ih d h
    · rw [List.mem_singleton.1 h]; exact hd
theorem Run.cash {b b' : Book} {ds : List Deal} (r : Run b ds b') : b'.Cash.length = b.Cash.length ∧ b'.Cash.sum = b.Cash.sum := by
  induction r with
  | nil => exact ⟨rfl, rfl⟩
  | snoc r hm hd hs st ih => exact ⟨st.cash.1.trans ih.1, st.cash.2.trans ih.2⟩
theorem Run.day {b b' : Book} {ds : List Deal} (r : Run b ds b') : b.Day ≤ b'.Day := by
  induction r with
  | nil => omega
  | snoc r hm hd hs st ih => have := st.day; omega
theorem Run.loop {b b' : Book} {ds : List Deal} (r : Run b ds b') : ∀ rest : List Deal, ds.length ≤ 1000 →
    ∃ out : List Book, Lw (spec_l07All_b1 (ds ++ rest)) (0, b.Day, b.Cash, b.Tallies, []) = Lw (spec_l07All_b1 (ds ++ rest)) ((ds.length : Int), b'.Day, b'.Cash, b'.Tallies, out) ∧ out.length = ds.length ∧ LastI b b' out := by
  induction r with
  | nil => intro rest _; exact ⟨[], rfl, rfl, .inl ⟨rfl, rfl⟩⟩
  | @snoc ds m d b' r hm hd hs st ih =>
    intro rest hl
    simp only [List.length_append, List.length_singleton] at hl
    obtain ⟨out, h1, h2, h3⟩ := ih (d :: rest) (by omega)
    have e : ds ++ [d] ++ rest = ds ++ d :: rest := by simp
    have hr : rd (ds ++ d :: rest) (ds.length : Int) = some d := by rw [rd_coe]; simp
    have ap : app 56 out [b'] = some (out ++ [b']) := app_some (by simp; omega) (by decide)
    have w : IntKind.i64.wrap ((ds.length : Int) + 1) = (ds.length : Int) + 1 := w64 (by omega)
    refine ⟨out ++ [b'], ?_, by simp [h2], .inr (by simp)⟩
    rw [e, h1]
    refine (Lw_step (s' := (((ds.length : Int) + 1), b'.Day, b'.Cash, b'.Tallies, out ++ [b'])) ?_).trans ?_
    · have hlt : (ds.length : Int) < ((ds ++ d :: rest).length : Int) := by simp; omega
      have ap' : app 56 out [Book.mk b'.Day b'.Cash b'.Tallies] = some (out ++ [b']) := ap
      unfold spec_l07All_b1
      simp only [hlt, decide_true, if_true, hr, Option.bind_some, hs, ap', w]
    · simp
theorem Run.l07All {b b' : Book} {ds : List Deal} (r : Run b ds b') (hb : BookP b) (hl : ds.length ≤ 80) : ∃ out, spec_l07All b ds = some (out, 0, 0) ∧ out.length = ds.length ∧ LastI b b' out := by
  obtain ⟨out, h1, h2, h3⟩ := r.loop [] (by omega)
  rw [List.append_nil] at h1
  have he : Lw (spec_l07All_b1 ds) ((ds.length : Int), b'.Day, b'.Cash, b'.Tallies, out) = some (.inr (b'.Day, b'.Cash, b'.Tallies, out)) := Lw_stop (by unfold spec_l07All_b1; simp)
  refine ⟨out, ?_, h2, h3⟩
  unfold spec_l07All
  rw [l07Copy_eq b hb.bk, Option.bind_some]
  simp only
  rw [h1, he]
  rfl
theorem Run.ask {b b' : Book} {ds : List Deal} (r : Run b ds b') (hb : BookP b) (hl : ds.length ≤ 80) : askC b ds = 0 := by
  unfold askC
  rw [if_pos (by simp only [Bool.and_eq_true, List.all_eq_true]; exact ⟨bookB_iff.2 hb, r.all⟩), if_neg (by omega)]
theorem Run.books {b b' : Book} {ds : List Deal} (r : Run b ds b') (hb : BookP b) (hl : ds.length ≤ 80) : ∃ out, impl_books b ds = some (out, 0) ∧ spec_l07All b ds = some (out, 0, 0) ∧ out.length = ds.length ∧ LastI b b' out := by
  obtain ⟨out, h1, h2, h3⟩ := r.l07All hb hl
  rcases books_same ds b hb.bk r.all hl with ⟨c, o, e1, e2, e3, _⟩ | ⟨s, o, e1, e2, e3, e4, e5, e6, e7⟩
  · rw [h1] at e2
    simp only [Option.some.injEq, Prod.mk.injEq] at e2
    exact absurd e2.2.1.symm e3
  · rw [h1] at e2
    simp only [Option.some.injEq, Prod.mk.injEq] at e2
    obtain ⟨rfl, _⟩ := e2
    exact ⟨out, e1, h1, h2, h3⟩
theorem Run.behind {b b' : Book} {ds : List Deal} (r : Run b ds b') (hb : BookP b) (hl : ds.length ≤ 80) : impl_behind b ds = some (.inr (b'.Day, b'.Cash, b'.Tallies)) := by
  obtain ⟨out, e1, _, h2, h3⟩ := r.books hb hl
  unfold impl_behind
  rw [e1]
  rcases h3 with ⟨rfl, rfl⟩ | h
  · simp [ownBook_eq b' hb.bk]
  · have h0 : out ≠ [] := fun e => by subst e; cases h
    have hr := rd_last h (by omega)
    simp [h0, hr]
end Go.Proofs.Ytjlalepbhcekoaa
namespace Go.Proofs.Ytjlalepbhcekoaa
open Go Go.Ab
structure DrN (m : Nat) (b : Book) : Prop where
  ok : BookP b
  p2 : 2 ≤ b.Cash.length
  p4 : b.Cash.length ≤ 4
  day : b.Day ≤ 3 * m
  tl : b.Tallies.length ≤ m
  lf : ∀ t ∈ b.Tallies, t.Left ≤ 60
theorem DrN.dr {m : Nat} {b : Book} (h : DrN m b) (hm : m ≤ 300) : DrI b := ⟨bookB_iff.2 h.ok, h.p2, h.p4, by have := h.day; omega⟩
theorem DrN.mono {m m' : Nat} {b : Book} (h : DrN m b) (hm : m ≤ m') : DrN m' b := ⟨h.ok, h.p2, h.p4, by have := h.day; omega, by have := h.tl; omega, h.lf⟩
theorem draw_one (c : List Int) (hc : Bys c) (a s : Int) (h0 : 0 ≤ a) (h1 : a ≤ 100000000000) (m : Nat) (hm : m ≤ 300) (b : Book) (hb : DrN m b) :
    ∃ d : Deal, ∃ a' s', spec_l07NextDeal_pp c a s b.Day b.Cash b.Tallies = some (d.Day, d.Kind, d.Tally, d.From, d.To, d.Amount, c, a', s') ∧ dealB d = true ∧ a ≤ a' ∧ a' ≤ a + 10 ∧
      ((∃ x, x ≠ 0 ∧ spec_l07Do b d = some (.inl x)) ∨ ∃ b' : Book, spec_l07Do b d = some (.inr (b'.Day, b'.Cash, b'.Tallies)) ∧ StpB b d b' ∧ DrN (m + 1) b') := by
  obtain ⟨d, a', s', e, hd, d1, d2, d3, g1, g2⟩ := nextDeal_ok c hc a s h0 h1 b (hb.dr hm)
  refine ⟨d, a', s', e, hd, g1, g2, ?_⟩
  obtain ⟨r, _, e2, e3⟩ := do_same b d hb.ok.bk hd
  rcases r with x | r
  · exact .inl ⟨x, e3.1 x rfl, e2⟩
  · have st := do_step b d hb.ok.bk hd e2
    refine .inr ⟨⟨r.1, r.2.1, r.2.2⟩, e2, st, st.book hb.ok (dealB_day hd).2, ?_, ?_, ?_, ?_, st.left d3 hb.lf hb.ok⟩
    · rw [st.cash.1]; exact hb.p2
    · rw [st.cash.1]; exact hb.p4
    · rw [st.day.1]; have := hb.day; omega
    · have := st.tall; have := hb.tl; omega
theorem drawn_ok (c : List Int) (hc : Bys c) (s : Int) : ∃ (b : Book) (list : List Deal) (now : Book) (a' s' : Int), spec_l07Drawn_p c 0 s = some (b.Day, b.Cash, b.Tallies, c, a', s', list) ∧ DrN 3 b ∧ DrN 11 now ∧ Run b list now ∧ list.length ≤ 8 := by
  unfold spec_l07Drawn_p
  obtain ⟨x, a1, s1, e1, x1, x2, _, g1, g2, _⟩ := pick_ok c hc 0 s 3 (by omega) (by omega) (by omega)
  have x2 := x2 (by omega)
  have w1 : IntKind.i64.wrap (2 + x) = 2 + x := w64 (by omega)
  rw [e1, Option.bind_some]
  simp only [w1]
  have L1 : ∃ r, Lw (spec_l07Drawn_p_b1) (2 + x, 0, ([] : List Int), c, a1, s1) = some r ∧ ∃ cash a2 s2, r = (0, cash, c, a2, s2) ∧ 2 ≤ cash.length ∧ cash.length ≤ 4 ∧ (∀ y ∈ cash, 0 ≤ y ∧ y ≤ 100) ∧ 0 ≤ a2 ∧ a2 ≤ 1000 := by
    refine Lw_meas (tb := spec_l07Drawn_p_b1) (fun s => s.1.toNat) (fun s => s.2.1 = 0 ∧ s.2.2.2.1 = c ∧ 0 ≤ s.1 ∧ s.1 + s.2.2.1.length = 2 + x ∧ (∀ y ∈ s.2.2.1, 0 ≤ y ∧ y ≤ 100) ∧ 0 ≤ s.2.2.2.2.1 ∧ s.2.2.2.2.1 ≤ a1 + 2 * s.2.2.1.length) _ ?_ _ _ rfl ⟨rfl, rfl, by simp only; omega, by simp, fun y h => (nomatch h), by simp only; omega, by simp⟩
    rintro ⟨k, day, cash, c', a, s⟩ ⟨rfl, rfl, hk, hl, hy, ha, ha2⟩
    simp only at hk hl hy ha ha2
    by_cases h0 : k > 0
    · obtain ⟨z, a3, s3, e3, z1, z2, _, g3, g4, _⟩ := pick_ok c' hc a s 100 ha (by omega) (by omega)
      have z2 := z2 (by omega)
      have ap : app 8 cash [z] = some (cash ++ [z]) := app_some (by simp; omega) (by decide)
      have w : IntKind.i64.wrap (k - 1) = k - 1 := w64 (by omega)
      refine .inl ⟨(k - 1, 0, cash ++ [z], c', a3, s3), by simp only [spec_l07Drawn_p_b1, h0, decide_true, if_true, e3, Option.bind_some, ap, w], ⟨rfl, rfl, by simp only; omega, by simp; omega, fun y h => ?_, by simp only; omega, by simp; omega⟩, by simp only; omega⟩
      rcases List.mem_append.1 h with h | h
      · exact hy y h
      · rw [List.mem_singleton.1 h]; omega
    · exact .inr ⟨_, by simp only [spec_l07Drawn_p_b1, h0, decide_false, Bool.false_eq_true, if_false], cash, a, s, rfl, by omega, by omega, hy, ha, by omega⟩
  obtain ⟨_, l1, cash, a2, s2, rfl, q1, q2, q3, q4, q5⟩ := L1
  rw [l1, Option.bind_some]
  simp only
  have B0 : DrN 0 ⟨0, cash, []⟩ := ⟨⟨by simp, by simp only; omega, by simp only; omega, fun y h => by have := q3 y h; omega, by simp, fun i t h => by simp at h, fun i t t' h => by simp at h⟩, q1, q2, by simp, by simp, fun t h => by cases h⟩
  obtain ⟨y, a3, s3, e3, y1, y2, _, g3, g4, _⟩ := pick_ok c hc a2 s2 4 (by omega) (by omega) (by omega)
  have y2 := y2 (by omega)
  rw [e3, Option.bind_some]
  simp only
  have L2 : ∃ r, Lw (spec_l07Drawn_p_b2) (y, 0, cash, ([] : List Tally), c, a3, s3) = some r ∧ ∃ (b : Book) (a4 s4 : Int), r = (b.Day, b.Cash, b.Tallies, c, a4, s4) ∧ DrN 3 b ∧ 0 ≤ a4 ∧ a4 ≤ 2000 := by
    refine Lw_meas (tb := spec_l07Drawn_p_b2) (fun s => s.1.toNat) (fun s => s.2.2.2.2.1 = c ∧ 0 ≤ s.1 ∧ s.1 ≤ 3 ∧ DrN (3 - s.1.toNat) ⟨s.2.1, s.2.2.1, s.2.2.2.1⟩ ∧ 0 ≤ s.2.2.2.2.2.1 ∧ s.2.2.2.2.2.1 ≤ 1010 + 10 * (3 - s.1)) _ ?_ _ _ rfl ⟨rfl, y1, by simp only; omega, B0.mono (by omega), by simp only; omega, by simp only; omega⟩
    rintro ⟨k, day, cs, ts, c', a, s⟩ ⟨rfl, hk, hk3, hD, ha, ha2⟩
    simp only at hk hk3 hD ha ha2
    by_cases h0 : k > 0
    · obtain ⟨d, a5, s5, e5, hd, g5, g6, hs⟩ := draw_one c' hc a s ha (by omega) _ (by omega) _ hD
      have w : IntKind.i64.wrap (k - 1) = k - 1 := w64 (by omega)
      simp only at e5
      rcases hs with ⟨q, q0, hs⟩ | ⟨b', hs, st, hD'⟩
      · exact .inl ⟨(k - 1, day, cs, ts, c', a5, s5), by simp only [spec_l07Drawn_p_b2, h0, decide_true, if_true, e5, Option.bind_some, hs, w, beq_iff_eq, q0, if_false], ⟨rfl, by simp only; omega, by simp only; omega, hD.mono (by simp only; omega), by simp only; omega, by simp only; omega⟩, by simp only; omega⟩
      · exact .inl ⟨(k - 1, b'.Day, b'.Cash, b'.Tallies, c', a5, s5), by simp only [spec_l07Drawn_p_b2, h0, decide_true, if_true, e5, Option.bind_some, hs, w], ⟨rfl, by simp only; omega, by simp only; omega, hD'.mono (by simp only; omega), by simp only; omega, by simp only; omega⟩, by simp only; omega⟩
    · exact .inr ⟨_, by simp only [spec_l07Drawn_p_b2, h0, decide_false, Bool.false_eq_true, if_false], ⟨day, cs, ts⟩, a, s, rfl, hD.mono (by omega), ha, by omega⟩
  obtain ⟨_, l2, b, a4, s4, rfl, hB, q6, q7⟩ := L2
  rw [l2, Option.bind_some]
  simp only
  rw [l07Copy_eq b hB.ok.bk, Option.bind_some]
  simp only
  obtain ⟨z, a5, s5, e5, z1, z2, _, g5, g6, _⟩ := pick_ok c hc a4 s4 9 (by omega) (by omega) (by omega)
  have z2 := z2 (by omega)
  rw [e5, Option.bind_some]
  simp only
  have L3 : ∃ r, Lw (spec_l07Drawn_p_b3) (z, ([] : List Deal), b.Day, b.Cash, b.Tallies, c, a5, s5) = some r ∧ ∃ (list : List Deal) (now : Book) (a6 s6 : Int), r = (list, now.Day, now.Cash, now.Tallies, c, a6, s6) ∧ DrN 11 now ∧ Run b list now ∧ list.length ≤ 8 := by
    refine Lw_meas (tb := spec_l07Drawn_p_b3) (fun s => s.1.toNat) (fun s => s.2.2.2.2.2.1 = c ∧ 0 ≤ s.1 ∧ s.1 ≤ 8 ∧ s.2.1.length + s.1 ≤ 8 ∧ Run b s.2.1 ⟨s.2.2.1, s.2.2.2.1, s.2.2.2.2.1⟩ ∧ DrN (11 - s.1.toNat) ⟨s.2.2.1, s.2.2.2.1, s.2.2.2.2.1⟩ ∧ 0 ≤ s.2.2.2.2.2.2.1 ∧ s.2.2.2.2.2.2.1 ≤ 2010 + 10 * (8 - s.1)) _ ?_ _ _ rfl
      ⟨rfl, z1, by simp only; omega, by simp; omega, .nil b, hB.mono (by simp only; omega), by simp only; omega, by simp only; omega⟩
    rintro ⟨k, l, day, cs, ts, c', a, s⟩ ⟨rfl, hk, hk8, hl, hR, hD, ha, ha2⟩
    simp only at hk hk8 hl hR hD ha ha2
    by_cases h0 : k > 0
    · obtain ⟨d, a6, s6, e6, hd, g7, g8, hs⟩ := draw_one c' hc a s ha (by omega) _ (by omega) _ hD
      have w : IntKind.i64.wrap (k - 1) = k - 1 := w64 (by omega)
      simp only at e6
      have ap : app 48 l [Deal.mk d.Day d.Kind d.Tally d.From d.To d.Amount] = some (l ++ [d]) := app_some (by simp; omega) (by decide)
      rcases hs with ⟨q, q0, hs⟩ | ⟨b', hs, st, hD'⟩
      · exact .inl ⟨(k - 1, l, day, cs, ts, c', a6, s6), by simp only [spec_l07Drawn_p_b3, h0, decide_true, if_true, e6, Option.bind_some, hs, w, beq_iff_eq, q0, if_false], ⟨rfl, by simp only; omega, by simp only; omega, by simp only; omega, hR, hD.mono (by simp only; omega), by simp only; omega, by simp only; omega⟩, by simp only; omega⟩
      · exact .inl ⟨(k - 1, l ++ [d], b'.Day, b'.Cash, b'.Tallies, c', a6, s6), by simp only [spec_l07Drawn_p_b3, h0, decide_true, if_true, e6, Option.bind_some, hs, ap, w], ⟨rfl, by simp only; omega, by simp only; omega, by simp; omega, hR.snoc hD.ok hd hs st, hD'.mono (by simp only; omega), by simp only; omega, by simp only; omega⟩, by simp only; omega⟩
    · exact .inr ⟨_, by simp only [spec_l07Drawn_p_b3, h0, decide_false, Bool.false_eq_true, if_false], l, ⟨day, cs, ts⟩, a, s, rfl, hD.mono (by omega), hR, by omega⟩
  obtain ⟨_, l3, list, now, a6, s6, rfl, hN, hR, hl⟩ := L3
  rw [l3, Option.bind_some]
  exact ⟨b, list, now, a6, s6, rfl, hB, hN, hR, hl⟩
theorem days_ok (c : List Int) (hc : Bys c) : ∃ (b : Book) (list : List Deal) (now : Book), spec_A2Days c = some (b.Day, b.Cash, b.Tallies, list) ∧ DrN 3 b ∧ DrN 11 now ∧ Run b list now ∧ list.length ≤ 8 := by
  obtain ⟨b, list, now, a', s', e, h⟩ := drawn_ok c hc 0
  exact ⟨b, list, now, by unfold spec_A2Days; rw [from_eq, Option.bind_some]; simp only; rw [e]; rfl, h⟩
end Go.Proofs.Ytjlalepbhcekoaa
namespace Go.Proofs.Ytjlalepbhcekoaa
open Go Go.Ab
end Go.Proofs.Ytjlalepbhcekoaa
namespace Go.Proofs.Ytjlalepbhcekoaa
open Go Go.Ab
theorem rdA_coe {n : Nat} {τ : Type} (g : Ar n τ) (i : Nat) (h : i < n) : rdA g (i : Int) = some (g.l[i]'(by rw [g.h]; exact h)) := by
  unfold rdA
  rw [if_pos ⟨by omega, by omega⟩, Int.toNat_natCast, List.getElem?_eq_getElem]
end Go.Proofs.Ytjlalepbhcekoaa
namespace Go.Proofs.Ytjlalepbhcekoaa
open Go Go.Ab
def DbI (n : Int) (d : Debt) : Prop := (0 ≤ d.From ∧ d.From < n) ∧ (0 ≤ d.To ∧ d.To < n) ∧ d.From ≠ d.To ∧ 1 ≤ d.Amount ∧ d.Amount ≤ 100000000
theorem validDebts_eq (n : Int) (xs : List Debt) (hn : 1 ≤ n ∧ n ≤ 16) (hl : xs.length ≤ 60) (hx : ∀ d ∈ xs, DbI n d) : impl_ValidDebts n xs = some true := by
  unfold impl_ValidDebts
  have key := scan_all (tb := impl_ValidDebts_b1 n xs) xs.length (by omega) (fun i => true) () ()
    (by
      intro i hi
      obtain ⟨⟨a1, a2⟩, ⟨a3, a4⟩, a5, a6, a7⟩ := hx _ (List.getElem_mem hi)
      have b1 : ¬ xs[i].From < 0 := by omega
      have b2 : ¬ n ≤ xs[i].From := by omega
      have b3 : ¬ xs[i].To < 0 := by omega
      have b4 : ¬ n ≤ xs[i].To := by omega
      have b6 : ¬ xs[i].Amount < 1 := by omega
      have b7 : ¬ 100000000 < xs[i].Amount := by omega
      simp [impl_ValidDebts_b1, rd_coe, hi, b1, b2, b3, b4, a5, b6, b7])
    (by simp [impl_ValidDebts_b1])
  have c1 : ¬ n < 1 := by omega
  have c2 : ¬ n > 16 := by omega
  have c3 : ¬ (xs.length : Int) > 60 := by omega
  simp [c1, c2, c3, key]
theorem rdA_set {n : Nat} {τ : Type} (g : Ar n τ) (i : Nat) (h : i < n) : ∃ u, rdA g (i : Int) = some u := ⟨_, rdA_coe g i h⟩
theorem sums_same (xs : List Debt) (hl : xs.length ≤ 60) (hx : ∀ d ∈ xs, DbI 16 d) : ∃ g, impl_sumsOf xs = some g ∧ spec_l02Sums xs = some g := by
  have : ∃ r r2 : Ar 16 (Ar 16 Int), Lw (impl_sumsOf_b1 xs) (0, (Ar.rep 16 (Ar.rep 16 0))) = some r ∧ Lw (spec_l02Sums_b1 xs) (0, (Ar.rep 16 (Ar.rep 16 0))) = some r2 ∧ r = r2 := by
    refine Lw_sim (tb := impl_sumsOf_b1 xs) (tb2 := spec_l02Sums_b1 xs) (fun s => xs.length - s.1.toNat) (fun s s2 => s = s2 ∧ ∃ i : Nat, s.1 = i ∧ i ≤ xs.length) _ ?_ _ _ _ rfl ⟨rfl, 0, rfl, by omega⟩
    rintro ⟨j, g⟩ s2 ⟨rfl, i, hi, hil⟩
    simp only at hi
    subst hi
    by_cases hlt : i < xs.length
    · have hr : rd xs (i : Int) = some xs[i] := by rw [rd_coe, List.getElem?_eq_getElem hlt]
      have w := w64s hlt (by omega)
      obtain ⟨⟨a1, a2⟩, ⟨a3, a4⟩, _⟩ := hx _ (List.getElem_mem hlt)
      obtain ⟨f, hf⟩ : ∃ f : Nat, xs[i].From = f := ⟨xs[i].From.toNat, by omega⟩
      obtain ⟨t, ht⟩ : ∃ t : Nat, xs[i].To = t := ⟨xs[i].To.toNat, by omega⟩
      obtain ⟨u, hu⟩ := rdA_set g f (by omega)
      obtain ⟨v, hv⟩ := rdA_set u t (by omega)
      rw [← hf] at hu
      rw [← ht] at hv
      exact .inl ⟨_, _, by simp [impl_sumsOf_b1, hlt, hr, hu, hv, w]; rfl, by simp [spec_l02Sums_b1, hlt, hr, hu, hv, w], ⟨rfl, i + 1, rfl, by omega⟩, by simp; omega⟩
    · exact .inr ⟨g, g, by simp [impl_sumsOf_b1, hlt], by simp [spec_l02Sums_b1, hlt], rfl⟩
  obtain ⟨r, _, e1, e2, rfl⟩ := this
  exact ⟨r, by unfold impl_sumsOf; rw [e1]; rfl, by unfold spec_l02Sums; rw [e2]; rfl⟩
theorem row_same (g : Ar 16 (Ar 16 Int)) (i : Nat) (u : Ar 16 Int) (hu : rdA g (i : Int) = some u) (o : List Debt) (ho : o.length ≤ 1000) :
    ∃ r r2, Lw (impl_sums_debts_b2 (i : Int) u) (0, o) = some r ∧ Lw (spec_l02List_b2 g (i : Int)) (0, o) = some r2 ∧ r = r2 ∧ ∀ z : List Debt, r = .inr z → z.length ≤ o.length + 16 := by
  refine Lw_sim (tb := impl_sums_debts_b2 (i : Int) u) (tb2 := spec_l02List_b2 g (i : Int)) (fun s => 16 - s.1.toNat) (fun s s2 => s = s2 ∧ ∃ k : Nat, s.1 = k ∧ k ≤ 16 ∧ s.2.length ≤ o.length + k) _ ?_ _ _ _ rfl ⟨rfl, 0, rfl, by omega, by simp⟩
  rintro ⟨j, z⟩ s2 ⟨rfl, k, hk, hkl, hz⟩
  simp only at hk hz
  subst hk
  by_cases hlt : k < 16
  · have h16 : (k : Int) < 16 := by omega
    obtain ⟨v, hv⟩ := rdA_set u k hlt
    have w := w64s hlt (by omega)
    by_cases c1 : v > 100000000
    · exact .inr ⟨.inl (), .inl (), by simp [impl_sums_debts_b2, h16, hv, c1], by simp [spec_l02List_b2, h16, hu, hv, c1], rfl, fun z h => by cases h⟩
    · by_cases c2 : v > 0
      · have ap : app 24 z [⟨(i : Int), (k : Int), v⟩] = some (z ++ [⟨(i : Int), (k : Int), v⟩]) := app_some (by simp; omega) (by decide)
        exact .inl ⟨(((k + 1 : Nat) : Int), z ++ [⟨(i : Int), (k : Int), v⟩]), _, by simp [impl_sums_debts_b2, h16, hv, c1, c2, ap, w], by simp [spec_l02List_b2, h16, hu, hv, c1, c2, ap, w], ⟨rfl, k + 1, rfl, by omega, by simp; omega⟩, by simp; omega⟩
      · exact .inl ⟨(((k + 1 : Nat) : Int), z), _, by simp [impl_sums_debts_b2, h16, hv, c1, c2, w], by simp [spec_l02List_b2, h16, hu, hv, c1, c2, w], ⟨rfl, k + 1, rfl, by omega, by simp; omega⟩, by simp; omega⟩
  · have h16 : ¬ (k : Int) < 16 := by omega
    exact .inr ⟨.inr z, .inr z, by simp [impl_sums_debts_b2, h16], by simp [spec_l02List_b2, h16], rfl, fun z' h => by cases h; omega⟩
theorem list_same (g : Ar 16 (Ar 16 Int)) : (impl_sums_debts g = some (.inl ()) ∧ spec_l02List g = some ([], 3)) ∨ ∃ o : List Debt, impl_sums_debts g = some (.inr o) ∧ spec_l02List g = some (o, 0) ∧ o.length ≤ 60 := by
  have : ∃ r r2, Lw (impl_sums_debts_b1 g) (0, []) = some r ∧ Lw (spec_l02List_b1 g) (0, []) = some r2 ∧ r = r2 := by
    refine Lw_sim (tb := impl_sums_debts_b1 g) (tb2 := spec_l02List_b1 g) (fun s => 16 - s.1.toNat) (fun s s2 => s = s2 ∧ ∃ k : Nat, s.1 = k ∧ k ≤ 16 ∧ s.2.length ≤ 16 * k) _ ?_ _ _ _ rfl ⟨rfl, 0, rfl, by omega, by simp⟩
    rintro ⟨j, z⟩ s2 ⟨rfl, k, hk, hkl, hz⟩
    simp only at hk hz
    subst hk
    by_cases hlt : k < 16
    · have h16 : (k : Int) < 16 := by omega
      obtain ⟨u, hu⟩ := rdA_set g k hlt
      have w := w64s hlt (by omega)
      obtain ⟨r, _, e1, e2, rfl, e3⟩ := row_same g k u hu z (by omega)
      rcases r with r | r
      · exact .inr ⟨.inl (), .inl (), by simp [impl_sums_debts_b1, h16, hu, e1], by simp [spec_l02List_b1, h16, e2], rfl⟩
      · have := e3 r rfl
        exact .inl ⟨(((k + 1 : Nat) : Int), r), _, by simp [impl_sums_debts_b1, h16, hu, e1, w], by simp [spec_l02List_b1, h16, e2, w], ⟨rfl, k + 1, rfl, by omega, by simp only; omega⟩, by simp; omega⟩
    · have h16 : ¬ (k : Int) < 16 := by omega
      exact .inr ⟨.inr z, .inr z, by simp [impl_sums_debts_b1, h16], by simp [spec_l02List_b1, h16], rfl⟩
  obtain ⟨r, _, e1, e2, rfl⟩ := this
  unfold impl_sums_debts spec_l02List
  rw [e1, e2]
  rcases r with r | r
  · exact .inl ⟨by simp, by simp⟩
  · by_cases h : (r.length : Int) > 60
    · exact .inl ⟨by simp [h], by simp [h]⟩
    · exact .inr ⟨r, by simp [h], by simp [h], by omega⟩
end Go.Proofs.Ytjlalepbhcekoaa
namespace Go.Proofs.Ytjlalepbhcekoaa
open Go Go.Ab
def sumN (n : Nat) (f : Nat → Int) : Int := ((List.range n).map f).sum
theorem sumN_succ (n : Nat) (f : Nat → Int) : sumN (n + 1) f = sumN n f + f n := by
  unfold sumN
  rw [List.range_succ, List.map_append, List.sum_append]
  simp
theorem sumN_congr {n : Nat} {f g : Nat → Int} (h : ∀ i, i < n → f i = g i) : sumN n f = sumN n g := by
  induction n with
  | zero => rfl
  | succ n ih => rw [sumN_succ, sumN_succ, ih (fun i hi => h i (by omega)), h n (by omega)]
theorem sumN_add (n : Nat) (f g : Nat → Int) : sumN n (fun i => f i + g i) = sumN n f + sumN n g := by
  induction n with
  | zero => rfl
  | succ n ih => rw [sumN_succ, sumN_succ, sumN_succ, ih]; omega
theorem sumN_sub (n : Nat) (f g : Nat → Int) : sumN n (fun i => f i - g i) = sumN n f - sumN n g := by
  induction n with
  | zero => rfl
  | succ n ih => rw [sumN_succ, sumN_succ, sumN_succ, ih]; omega
theorem sumN_none {n : Nat} {f : Nat → Int} (h : ∀ i, i < n → f i = 0) : sumN n f = 0 := by
  induction n with
  | zero => rfl
  | succ n ih => rw [sumN_succ, ih (fun i hi => h i (by omega)), h n (by omega)]; rfl
theorem sumN_one (n t : Nat) (x : Int) : sumN n (fun i => if i = t then x else 0) = if t < n then x else 0 := by
  induction n with
  | zero => simp [sumN]
  | succ n ih =>
    rw [sumN_succ, ih]
    by_cases h1 : t < n
    · rw [if_pos h1, if_neg (by omega), if_pos (by omega)]; omega
    · by_cases h2 : n = t
      · rw [if_neg h1, if_pos h2, if_pos (by omega)]; omega
      · rw [if_neg h1, if_neg h2, if_neg (by omega)]; rfl
theorem sumN_get (xs : List Int) : sumN xs.length (fun i => (xs[i]?).getD 0) = xs.sum := by
  have : ∀ n, n ≤ xs.length → sumN n (fun i => (xs[i]?).getD 0) = (xs.take n).sum := by
    intro n hn
    induction n with
    | zero => rfl
    | succ n ih =>
      rw [sumN_succ, ih (by omega), List.take_succ_eq_append_getElem (by omega), List.sum_append, List.getElem?_eq_getElem (by omega)]
      simp
  rw [this _ (Nat.le_refl _), List.take_length]
theorem sum_le {τ : Type} (f : τ → Int) (m : Int) : ∀ (xs : List τ), (∀ x ∈ xs, 0 ≤ f x ∧ f x ≤ m) → 0 ≤ (xs.map f).sum ∧ (xs.map f).sum ≤ m * xs.length
  | [], _ => by simp
  | x :: xs, h => by
    have h1 := h x (List.mem_cons_self ..)
    have h2 := sum_le f m xs (fun y hy => h y (List.mem_cons_of_mem _ hy))
    simp only [List.map_cons, List.sum_cons, List.length_cons]
    have : m * ((xs.length + 1 : Nat) : Int) = m * xs.length + m := by rw [Int.natCast_add, Int.mul_add]; simp
    omega
def ent (g : Ar 16 (Ar 16 Int)) (i k : Nat) : Int := ((g.l[i]?).bind fun u => u.l[k]?).getD 0
def gSum (xs : List Debt) (i k : Nat) : Int := (xs.map fun (d : Debt) => if d.From = (i : Int) ∧ d.To = (k : Int) then d.Amount else 0).sum
theorem gSum_in {xs : List Debt} (hx : ∀ d ∈ xs, DbI 16 d) (hl : xs.length ≤ 60) (i k : Nat) : 0 ≤ gSum xs i k ∧ gSum xs i k ≤ 6000000000 := by
  have := sum_le (fun d : Debt => if d.From = (i : Int) ∧ d.To = (k : Int) then d.Amount else 0) 100000000 xs (fun d hd => by
    obtain ⟨_, _, _, h4, h5⟩ := hx d hd
    split <;> omega)
  unfold gSum
  omega
theorem ent_rep (i k : Nat) : ent (Ar.rep 16 (Ar.rep 16 0)) i k = 0 := by
  unfold ent Ar.rep
  simp only [List.getElem?_replicate]
  split
  · simp only [Option.bind_some, List.getElem?_replicate]
    split <;> rfl
  · rfl
theorem ent_rd {g : Ar 16 (Ar 16 Int)} {i k : Nat} (hi : i < 16) (hk : k < 16) : ∃ u, rdA g (i : Int) = some u ∧ rdA u (k : Int) = some (ent g i k) := by
  obtain ⟨u, hu⟩ := rdA_set g i hi
  obtain ⟨v, hv⟩ := rdA_set u k hk
  refine ⟨u, hu, ?_⟩
  have h1 := (rdA_get hu).2.2
  have h2 := (rdA_get hv).2.2
  simp only [Int.toNat_natCast] at h1 h2
  have : ent g i k = v := by unfold ent; rw [h1, Option.bind_some, h2]; rfl
  rw [this, hv]
theorem ent_set {g : Ar 16 (Ar 16 Int)} {f t : Nat} {u : Ar 16 Int} (hf : f < 16) (ht : t < 16) (hu : rdA g (f : Int) = some u) (v : Int) (i k : Nat) : ent (g.set f (u.set t v)) i k = if i = f ∧ k = t then v else ent g i k := by
  have h1 := (rdA_get hu).2.2
  simp only [Int.toNat_natCast] at h1
  have hg : f < g.l.length := by rw [g.h]; exact hf
  have hul : t < u.l.length := by rw [u.h]; exact ht
  unfold ent Ar.set
  simp only
  by_cases e1 : i = f
  · subst e1
    rw [List.getElem?_set_self hg, h1]
    simp only [Option.bind_some]
    by_cases e2 : k = t
    · subst e2
      rw [List.getElem?_set_self hul]; simp
    · rw [List.getElem?_set_ne (Ne.symm e2)]; simp [e2]
  · rw [List.getElem?_set_ne (Ne.symm e1)]; simp [e1]
theorem sums_val (xs : List Debt) (hl : xs.length ≤ 60) (hx : ∀ d ∈ xs, DbI 16 d) : ∃ g, spec_l02Sums xs = some g ∧ ∀ i k, ent g i k = gSum xs i k := by
  have : ∃ r, Lw (spec_l02Sums_b1 xs) (0, (Ar.rep 16 (Ar.rep 16 0))) = some r ∧ ∀ i k, ent r i k = gSum xs i k := by
    refine Lw_meas (tb := spec_l02Sums_b1 xs) (fun s => xs.length - s.1.toNat) (fun s => ∃ j : Nat, s.1 = j ∧ j ≤ xs.length ∧ ∀ i k, ent s.2 i k = gSum (xs.take j) i k) _ ?_ _ _ rfl ⟨0, rfl, by omega, fun i k => by rw [ent_rep]; rfl⟩
    rintro ⟨j, g⟩ ⟨j', hj, hjl, hg⟩
    simp only at hj hg
    subst hj
    by_cases hlt : j' < xs.length
    · have hr : rd xs (j' : Int) = some xs[j'] := by rw [rd_coe, List.getElem?_eq_getElem hlt]
      have w := w64s hlt (by omega)
      obtain ⟨⟨a1, a2⟩, ⟨a3, a4⟩, _, a5, a6⟩ := hx _ (List.getElem_mem hlt)
      obtain ⟨f, hf⟩ : ∃ f : Nat, xs[j'].From = f := ⟨xs[j'].From.toNat, by omega⟩
      obtain ⟨t, ht⟩ : ∃ t : Nat, xs[j'].To = t := ⟨xs[j'].To.toNat, by omega⟩
      obtain ⟨u, hu, hv⟩ := ent_rd (g := g) (i := f) (k := t) (by omega) (by omega)
      have hb := gSum_in (xs := xs.take j') (fun d hd => hx d (List.mem_of_mem_take hd)) (by simp; omega) f t
      rw [hg] at hv
      have w2 : IntKind.i64.wrap (gSum (xs.take j') f t + xs[j'].Amount) = gSum (xs.take j') f t + xs[j'].Amount := w64 (by omega)
      have e1 : xs[j'].From.toNat = f := by omega
      have e2 : xs[j'].To.toNat = t := by omega
      rw [← hf] at hu
      rw [← ht] at hv
      refine .inl ⟨(((j' + 1 : Nat) : Int), g.set f (u.set t (gSum (xs.take j') f t + xs[j'].Amount))), by simp [spec_l02Sums_b1, hlt, hr, hu, hv, w, w2, e1, e2], ⟨j' + 1, rfl, by omega, fun i k => ?_⟩, by simp; omega⟩
      rw [hf] at hu
      rw [ent_set (by omega) (by omega) hu, hg, List.take_succ_eq_append_getElem hlt]
      unfold gSum
      rw [List.map_append, List.sum_append]
      simp only [List.map_cons, List.map_nil, List.sum_cons, List.sum_nil]
      by_cases e : i = f ∧ k = t
      · obtain ⟨rfl, rfl⟩ := e
        rw [if_pos ⟨rfl, rfl⟩, if_pos ⟨hf, ht⟩]; omega
      · rw [if_neg e, if_neg (fun h => e ⟨by omega, by omega⟩)]; omega
    · have : j' = xs.length := by omega
      subst this
      exact .inr ⟨g, by simp [spec_l02Sums_b1], fun i k => by rw [hg, List.take_length]⟩
  obtain ⟨r, h1, h2⟩ := this
  exact ⟨r, by unfold spec_l02Sums; rw [h1]; rfl, h2⟩
def rowL (g : Ar 16 (Ar 16 Int)) (i n : Nat) : List Debt := (List.range n).filterMap fun k => if ent g i k > 0 then some ⟨i, k, ent g i k⟩ else none
theorem rowL_succ (g : Ar 16 (Ar 16 Int)) (i n : Nat) : rowL g i (n + 1) = rowL g i n ++ if ent g i n > 0 then [⟨i, n, ent g i n⟩] else [] := by
  unfold rowL
  rw [List.range_succ, List.filterMap_append]
  congr 1
  by_cases h : ent g i n > 0 <;> simp [h]
def allL (g : Ar 16 (Ar 16 Int)) (m : Nat) : List Debt := (List.range m).flatMap fun i => rowL g i 16
theorem allL_succ (g : Ar 16 (Ar 16 Int)) (m : Nat) : allL g (m + 1) = allL g m ++ rowL g m 16 := by
  unfold allL
  rw [List.range_succ, List.flatMap_append]
  simp
theorem rowL_len {g : Ar 16 (Ar 16 Int)} {i p : Nat} (h : ∀ k, p ≤ k → ent g i k = 0) (n : Nat) : (rowL g i n).length ≤ n ∧ (rowL g i n).length ≤ p := by
  induction n with
  | zero => simp [rowL]
  | succ n ih =>
    rw [rowL_succ, List.length_append]
    by_cases hn : p ≤ n
    · rw [if_neg (by rw [h n hn]; omega)]; simp; omega
    · split <;> simp <;> omega
theorem allL_len {g : Ar 16 (Ar 16 Int)} {p : Nat} (h : ∀ i k, p ≤ i ∨ p ≤ k → ent g i k = 0) (m : Nat) : (allL g m).length ≤ p * m ∧ (allL g m).length ≤ p * p := by
  induction m with
  | zero => simp [allL]
  | succ m ih =>
    rw [allL_succ, List.length_append]
    have h1 := (rowL_len (g := g) (i := m) (p := p) (fun k hk => h m k (.inr hk)) 16).2
    by_cases hm : p ≤ m
    · have h2 := (rowL_len (g := g) (i := m) (p := 0) (fun k _ => h m k (.inl hm)) 16).2
      have : p * (m + 1) = p * m + p := Nat.mul_succ p m
      omega
    · have h2 : p * (m + 1) = p * m + p := Nat.mul_succ p m
      have h3 : p * (m + 1) ≤ p * p := Nat.mul_le_mul_left p (by omega)
      omega
theorem row_val (g : Ar 16 (Ar 16 Int)) (i : Nat) (hi : i < 16) (hb : ∀ k, ent g i k ≤ 100000000) (z : List Debt) (hz : z.length ≤ 1000) : Lw (spec_l02List_b2 g (i : Int)) (0, z) = some (.inr (z ++ rowL g i 16)) := by
  have key := Lw_run (tb := spec_l02List_b2 g (i : Int)) (fun k => ((k : Int), z ++ rowL g i k)) 16 (r := .inr (z ++ rowL g i 16)) (fun k hk => ?_) (by simp [spec_l02List_b2])
  · simpa [rowL] using key
  · obtain ⟨u, hu, hv⟩ := ent_rd (g := g) hi hk
    have h16 : (k : Int) < 16 := by omega
    have w := w64s hk (show 16 ≤ 4611686018427387904 by omega)
    have hb' : ¬ ent g i k > 100000000 := by have := hb k; omega
    have hl := (rowL_len (g := g) (i := i) (p := 16) (fun k' hk' => by
      unfold ent
      cases h : g.l[i]? with
      | none => rfl
      | some u => simp only [Option.bind_some]; rw [List.getElem?_eq_none (by rw [u.h]; exact hk')]; rfl) k).1
    by_cases h0 : ent g i k > 0
    · have ap : app 24 (z ++ rowL g i k) [⟨(i : Int), (k : Int), ent g i k⟩] = some (z ++ rowL g i k ++ [⟨(i : Int), (k : Int), ent g i k⟩]) := app_some (by simp; omega) (by decide)
      simp [spec_l02List_b2, h16, hu, hv, hb', h0, w, rowL_succ] at ap ⊢
      rw [ap]
      simp
    · simp [spec_l02List_b2, h16, hu, hv, hb', h0, w, rowL_succ]
theorem list_val (g : Ar 16 (Ar 16 Int)) (hb : ∀ i k, ent g i k ≤ 100000000) (hl : (allL g 16).length ≤ 60) : spec_l02List g = some (allL g 16, 0) := by
  have mono : ∀ m, m ≤ 16 → (allL g m).length ≤ (allL g 16).length := by
    intro m hm
    have : ∀ k, (allL g m).length ≤ (allL g (m + k)).length := by
      intro k
      induction k with
      | zero => exact Nat.le_refl _
      | succ k ih => rw [← Nat.add_assoc, allL_succ, List.length_append]; omega
    have h := this (16 - m)
    rwa [show m + (16 - m) = 16 by omega] at h
  have key := Lw_run (tb := spec_l02List_b1 g) (fun i => ((i : Int), allL g i)) 16 (r := .inr (allL g 16)) (fun i hi => by
    have h16 : (i : Int) < 16 := by omega
    have w := w64s hi (show 16 ≤ 4611686018427387904 by omega)
    have := mono i (by omega)
    simp [spec_l02List_b1, h16, row_val g i hi (hb i) (allL g i) (by omega), w, allL_succ]) (by simp [spec_l02List_b1])
  have key : Lw (spec_l02List_b1 g) (0, ([] : List Debt)) = some (.inr (allL g 16)) := by simpa [allL] using key
  unfold spec_l02List
  rw [key, Option.bind_some]
  have : ¬ ((allL g 16).length : Int) > 60 := by omega
  simp [this]
def WL (w : Int → Int → Int) (xs : List Debt) : Int := (xs.map fun (d : Debt) => w d.From d.To * d.Amount).sum
theorem WL_append (w : Int → Int → Int) (xs ys : List Debt) : WL w (xs ++ ys) = WL w xs + WL w ys := by unfold WL; rw [List.map_append, List.sum_append]
theorem WL_row {g : Ar 16 (Ar 16 Int)} {w : Int → Int → Int} {i : Nat} (h0 : ∀ k, 0 ≤ ent g i k) (n : Nat) : WL w (rowL g i n) = sumN n fun k => w i k * ent g i k := by
  induction n with
  | zero => rfl
  | succ n ih =>
    rw [rowL_succ, WL_append, ih, sumN_succ]
    by_cases h : ent g i n > 0
    · rw [if_pos h]; simp [WL]
    · have : ent g i n = 0 := by have := h0 n; omega
      rw [if_neg h, this]; simp [WL]
theorem WL_all {g : Ar 16 (Ar 16 Int)} {w : Int → Int → Int} (h0 : ∀ i k, 0 ≤ ent g i k) (m : Nat) : WL w (allL g m) = sumN m fun i => sumN 16 fun k => w i k * ent g i k := by
  induction m with
  | zero => rfl
  | succ m ih => rw [allL_succ, WL_append, ih, sumN_succ, WL_row (h0 m)]
theorem WL_sum {w : Int → Int → Int} : ∀ {xs : List Debt}, (∀ d ∈ xs, DbI 16 d) → (sumN 16 fun i => sumN 16 fun k => w i k * gSum xs i k) = WL w xs
  | [], _ => by
    refine (sumN_none fun i _ => sumN_none fun k _ => ?_)
    simp [gSum]
  | d :: xs, h => by
    obtain ⟨⟨a1, a2⟩, ⟨a3, a4⟩, _⟩ := h d (List.mem_cons_self ..)
    obtain ⟨f, hf⟩ : ∃ f : Nat, d.From = f := ⟨d.From.toNat, by omega⟩
    obtain ⟨t, ht⟩ : ∃ t : Nat, d.To = t := ⟨d.To.toNat, by omega⟩
    have ih := WL_sum (w := w) (fun d hd => h d (List.mem_cons_of_mem _ hd))
    have e : ∀ i k : Nat, w i k * gSum (d :: xs) i k = (if i = f then (if k = t then w f t * d.Amount else 0) else 0) + w i k * gSum xs i k := by
      intro i k
      unfold gSum
      simp only [List.map_cons, List.sum_cons, Int.mul_add]
      congr 1
      by_cases e1 : i = f
      · by_cases e2 : k = t
        · subst e1 e2
          rw [if_pos ⟨hf, ht⟩]; simp
        · rw [if_neg (fun h => e2 (by omega))]; simp [e2]
      · rw [if_neg (fun h => e1 (by omega))]; simp [e1]
    have e2 : (sumN 16 fun i => sumN 16 fun k => w i k * gSum (d :: xs) i k) = (sumN 16 fun i => (if i = f then w f t * d.Amount else 0) + sumN 16 fun k => w i k * gSum xs i k) := by
      refine sumN_congr fun i _ => ?_
      rw [sumN_congr (fun k _ => e i k), sumN_add]
      congr 1
      by_cases e1 : i = f
      · simp only [e1, if_true]
        rw [sumN_one, if_pos (by omega)]
      · simp only [e1, if_false]
        exact sumN_none fun _ _ => rfl
    rw [e2, sumN_add, sumN_one, if_pos (by omega), ih]
    unfold WL
    simp only [List.map_cons, List.sum_cons, hf, ht]
def netF (xs : List Debt) (p : Int) : Int := WL (fun f t => (if t = p then 1 else 0) - (if f = p then 1 else 0)) xs
end Go.Proofs.Ytjlalepbhcekoaa
namespace Go.Proofs.Ytjlalepbhcekoaa
open Go Go.Ab
theorem all_true (n : Nat) : ((List.range n).all fun _ => true) = true := by simp
theorem l00Same_refl (a : List Int) (h : a.length ≤ 4611686018427387904) : spec_l00Same a a = some true := by
  unfold spec_l00Same
  have key := scan_all (tb := spec_l00Same_b1 a a) a.length h (fun i => true) () ()
    (by
      intro i hi
      simp only [spec_l00Same_b1, rd_coe, List.getElem?_eq_getElem hi, Option.bind_some]
      simp [hi])
    (by simp [spec_l00Same_b1])
  rw [if_neg (by simp), key, if_pos (all_true _)]
  rfl
theorem l07Same_refl (b : Book) (h : b.Cash.length ≤ 4611686018427387904) (h2 : b.Tallies.length ≤ 4611686018427387904) : spec_l07Same b b = some true := by
  unfold spec_l07Same
  have key := scan_all (tb := spec_l07Same_b1 b b) b.Tallies.length h2 (fun i => true) () ()
    (by
      intro i hi
      simp only [spec_l07Same_b1, rd_coe, List.getElem?_eq_getElem hi, Option.bind_some]
      simp [hi])
    (by simp [spec_l07Same_b1])
  simp [l00Same_refl b.Cash h, key]
theorem SameBook_refl (b : Book) (h : b.Cash.length ≤ 4611686018427387904) (h2 : b.Tallies.length ≤ 4611686018427387904) : spec_SameBook b b = some true := by
  unfold spec_SameBook; rw [l07Same_refl b h h2]; rfl
theorem equalI_refl (a : List Int) (h : a.length ≤ 4611686018427387904) : slices_Equal_int64 a a = some true := by
  unfold slices_Equal_int64
  have key := scan_all (tb := slices_Equal_int64_b1 a a) a.length h (fun i => true) () ()
    (by
      intro i hi
      simp only [slices_Equal_int64_b1, rd_coe, List.getElem?_eq_getElem hi, Option.bind_some]
      simp [hi])
    (by simp [slices_Equal_int64_b1])
  rw [if_neg (by simp), key, if_pos (all_true _)]
  rfl
theorem equalT_refl (a : List Tally) (h : a.length ≤ 4611686018427387904) : slices_Equal_Tally a a = some true := by
  unfold slices_Equal_Tally
  have key := scan_all (tb := slices_Equal_Tally_b1 a a) a.length h (fun i => true) () ()
    (by
      intro i hi
      simp only [slices_Equal_Tally_b1, rd_coe, List.getElem?_eq_getElem hi, Option.bind_some]
      simp [hi])
    (by simp [slices_Equal_Tally_b1])
  rw [if_neg (by simp), key, if_pos (all_true _)]
  rfl
theorem implSame_refl (b : Book) (h : b.Cash.length ≤ 4611686018427387904) (h2 : b.Tallies.length ≤ 4611686018427387904) : impl_SameBook b b = some true := by
  unfold impl_SameBook
  simp [equalI_refl b.Cash h, equalT_refl b.Tallies h2]
theorem l02Same_refl (a : List Debt) (h : a.length ≤ 4611686018427387904) : spec_l02Same a a = some true := by
  unfold spec_l02Same
  have key := scan_all (tb := spec_l02Same_b1 a a) a.length h (fun i => true) () ()
    (by
      intro i hi
      simp only [spec_l02Same_b1, rd_coe, List.getElem?_eq_getElem hi, Option.bind_some]
      simp [hi])
    (by simp [spec_l02Same_b1])
  rw [if_neg (by simp), key, if_pos (all_true _)]
  rfl
theorem SameDebts_refl (a : List Debt) (h : a.length ≤ 4611686018427387904) : spec_SameDebts a a = some true := by
  unfold spec_SameDebts; rw [l02Same_refl a h]; rfl
end Go.Proofs.Ytjlalepbhcekoaa
namespace Go.Proofs.Ytjlalepbhcekoaa
open Go Go.Ab
def talL (ts : List Tally) : List Debt := ts.filterMap fun (t : Tally) => if t.Left > 0 then some (Debt.mk t.Debtor t.Holder t.Left) else none
theorem talL_len (ts : List Tally) : (talL ts).length ≤ ts.length := List.length_filterMap_le _ _
theorem talL_mem {ts : List Tally} {d : Debt} (h : d ∈ talL ts) : ∃ t ∈ ts, t.Left > 0 ∧ d = ⟨t.Debtor, t.Holder, t.Left⟩ := by
  unfold talL at h
  obtain ⟨t, h1, h2⟩ := List.mem_filterMap.1 h
  split at h2
  · rename_i h3; exact ⟨t, h1, h3, (Option.some.inj h2).symm⟩
  · cases h2
theorem tallies_val (b : Book) (tn : b.Tallies.length ≤ 40) : Lw (spec_DebtsIn_b1 b) (0, []) = some (talL b.Tallies) := by
  have key := Lw_run (tb := spec_DebtsIn_b1 b) (fun i => ((i : Int), talL (b.Tallies.take i))) b.Tallies.length (r := talL b.Tallies) (fun i hi => ?_) (by simp [spec_DebtsIn_b1])
  · simpa [talL] using key
  · have hr : rd b.Tallies (i : Int) = some b.Tallies[i] := by rw [rd_coe, List.getElem?_eq_getElem hi]
    have w := w64s hi (by omega)
    have hl := talL_len (b.Tallies.take i)
    have hl2 : (b.Tallies.take i).length ≤ 40 := by simp; omega
    have e : talL (b.Tallies.take (i + 1)) = talL (b.Tallies.take i) ++ if b.Tallies[i].Left > 0 then [Debt.mk b.Tallies[i].Debtor b.Tallies[i].Holder b.Tallies[i].Left] else [] := by
      unfold talL
      rw [List.take_succ_eq_append_getElem hi, List.filterMap_append]
      congr 1
      by_cases h : b.Tallies[i].Left > 0 <;> simp [h]
    rw [e]
    by_cases c1 : b.Tallies[i].Left > 0
    · have ap : app 24 (talL (b.Tallies.take i)) [Debt.mk b.Tallies[i].Debtor b.Tallies[i].Holder b.Tallies[i].Left] = some (talL (b.Tallies.take i) ++ [Debt.mk b.Tallies[i].Debtor b.Tallies[i].Holder b.Tallies[i].Left]) := app_some (by simp only [List.length_singleton]; omega) (by decide)
      rw [if_pos c1]
      simp only [spec_DebtsIn_b1, hr, Option.bind_some, ap, w, c1, decide_true, if_true]
      rw [if_pos (by simpa using hi)]
    · rw [if_neg c1]
      simp only [spec_DebtsIn_b1, hr, Option.bind_some, w, c1, decide_false, Bool.false_eq_true, if_false, List.append_nil]
      rw [if_pos (by simpa using hi)]
theorem gSum_pos {xs : List Debt} {i k : Nat} (h : gSum xs i k ≠ 0) : ∃ d ∈ xs, d.From = i ∧ d.To = k := by
  induction xs with
  | nil => exact absurd rfl h
  | cons d xs ih =>
    by_cases e : d.From = (i : Int) ∧ d.To = (k : Int)
    · exact ⟨d, List.mem_cons_self .., e⟩
    · have : gSum (d :: xs) i k = gSum xs i k := by
        unfold gSum
        simp only [List.map_cons, List.sum_cons, if_neg e]; omega
      rw [this] at h
      obtain ⟨d', h1, h2⟩ := ih h
      exact ⟨d', List.mem_cons_of_mem _ h1, h2⟩
theorem gSum_le {xs : List Debt} {m : Int} (hx : ∀ d ∈ xs, 0 ≤ d.Amount ∧ d.Amount ≤ m) (h0 : 0 ≤ m) (i k : Nat) : 0 ≤ gSum xs i k ∧ gSum xs i k ≤ m * xs.length :=
  sum_le (fun d : Debt => if d.From = (i : Int) ∧ d.To = (k : Int) then d.Amount else 0) m xs (fun d hd => by
    have := hx d hd
    split <;> omega)
theorem debtsIn_val (b : Book) (hb : BookP b) (p4 : b.Cash.length ≤ 4) (lf : ∀ t ∈ b.Tallies, t.Left ≤ 60) :
    ∃ K, impl_DebtsIn b = some (K, 0) ∧ spec_DebtsIn b = some (K, 0) ∧ K.length ≤ 16 ∧ (∀ d ∈ K, DbI b.Cash.length d) ∧ ∀ w, WL w K = WL w (talL b.Tallies) := by
  have hB := bookB_iff.2 hb
  have hk := hb.bk
  have cn := hb.cn
  have c1 := hb.c1
  have tn := hb.tn
  have l2 := tallies_val b tn
  have l1 : Lw (impl_DebtsIn_b1 b) (0, []) = some (talL b.Tallies) := by
    have e : Lw (impl_DebtsIn_b1 b) (0, []) = Lw (spec_DebtsIn_b1 b) (0, []) := rfl
    rw [e, l2]
  have ll := talL_len b.Tallies
  have l4 : ∀ d ∈ talL b.Tallies, DbI b.Cash.length d ∧ d.Amount ≤ 60 := by
    intro d hd
    obtain ⟨t, h1, h2, rfl⟩ := talL_mem hd
    obtain ⟨t1, t2, t3, t4⟩ := hk.ta t h1
    have := lf t h1
    exact ⟨⟨t1, t2, fun h => by have := t4 h; omega, by simp only; omega, by simp only; omega⟩, this⟩
  have l16 : ∀ d ∈ talL b.Tallies, DbI 16 d := fun d hd => by
    obtain ⟨⟨a1, a2, a3, a4⟩, _⟩ := l4 d hd
    exact ⟨⟨a1.1, by omega⟩, ⟨a2.1, by omega⟩, a3, a4⟩
  generalize talL b.Tallies = L at l1 l2 ll l4 l16
  have hv := validDebts_eq (b.Cash.length : Int) L ⟨by omega, by omega⟩ (by omega) (fun d hd => (l4 d hd).1)
  obtain ⟨g, g1, g2⟩ := sums_same L (by omega) l16
  obtain ⟨g', g2', gv⟩ := sums_val L (by omega) l16
  rw [g2] at g2'
  obtain rfl := Option.some.inj g2'
  have bnd : ∀ i k, 0 ≤ ent g i k ∧ ent g i k ≤ 2400 := fun i k => by
    have := gSum_le (xs := L) (m := 60) (fun d hd => by
      obtain ⟨⟨_, _, _, h4, _⟩, h6⟩ := l4 d hd
      omega) (by omega) i k
    rw [gv]; omega
  have zer : ∀ i k, 4 ≤ i ∨ 4 ≤ k → ent g i k = 0 := fun i k h => by
    rw [gv]
    by_cases e : gSum L i k = 0
    · exact e
    · obtain ⟨d, h1, h2, h3⟩ := gSum_pos e
      obtain ⟨⟨a1, a2, _⟩, _⟩ := l4 d h1
      omega
  have kl := (allL_len zer 16).2
  have lv := list_val g (fun i k => by have := bnd i k; omega) (by omega)
  have wl : ∀ w, WL w (allL g 16) = WL w L := fun w => by
    rw [WL_all (fun i k => (bnd i k).1), ← WL_sum (w := w) l16]
    exact sumN_congr fun i _ => sumN_congr fun k _ => by rw [gv]
  have kd : ∀ d ∈ allL g 16, DbI b.Cash.length d := by
    intro d hd
    unfold allL at hd
    obtain ⟨i, hi, hd⟩ := List.mem_flatMap.1 hd
    unfold rowL at hd
    obtain ⟨k, hk', hd⟩ := List.mem_filterMap.1 hd
    split at hd
    · rename_i h0
      obtain rfl := (Option.some.inj hd).symm
      have h1 := h0
      rw [gv] at h1
      obtain ⟨d', q1, q2, q3⟩ := gSum_pos (show gSum L i k ≠ 0 by omega)
      obtain ⟨⟨a1, a2, a3, _⟩, _⟩ := l4 d' q1
      have := bnd i k
      exact ⟨⟨by simp only; omega, by simp only; omega⟩, ⟨by simp only; omega, by simp only; omega⟩, by simp only; omega, by simp only; omega, by simp only; omega⟩
    · cases hd
  refine ⟨allL g 16, ?_, ?_, kl, kd, wl⟩
  · unfold impl_DebtsIn
    rw [validBook_eq b (by omega) (by omega), hB]
    rcases list_same g with ⟨e1, e2⟩ | ⟨o, e1, e2, e3⟩
    · rw [lv] at e2; simp at e2
    · rw [lv] at e2
      simp only [Option.some.injEq, Prod.mk.injEq] at e2
      obtain ⟨rfl, _⟩ := e2
      simp [l1, impl_JoinDebts, hv, g1, e1]
  · unfold spec_DebtsIn
    rw [l07Ok_eq b (by omega) (by omega), hB]
    simp [l2, g2, lv]
theorem l02Ok_true (n : Int) (xs : List Debt) (hn : 1 ≤ n ∧ n ≤ 16) (hl : xs.length ≤ 60) (hx : ∀ d ∈ xs, DbI n d) : spec_l02Ok n xs = some true := by
  unfold spec_l02Ok
  have key := scan_all (tb := spec_l02Ok_b1 n xs) xs.length (by omega) (fun i => true) () ()
    (by
      intro i hi
      obtain ⟨⟨a1, a2⟩, ⟨a3, a4⟩, a5, a6, a7⟩ := hx _ (List.getElem_mem hi)
      have b1 : personB n xs[i].From = true := personB_iff.2 ⟨a1, a2⟩
      have b2 : personB n xs[i].To = true := personB_iff.2 ⟨a3, a4⟩
      have b3 : inB xs[i].Amount 1 100000000 = true := inB_iff.2 ⟨a6, a7⟩
      simp [spec_l02Ok_b1, rd_coe, hi, l02Person_eq _ _ (show -9223372036854775807 ≤ n ∧ n ≤ 9223372036854775807 by omega), b1, b2, a5, l00In_eq, b3])
    (by simp [spec_l02Ok_b1])
  have b4 : inB n 1 16 = true := inB_iff.2 hn
  have b5 : ¬ (xs.length : Int) > 60 := by omega
  simp [l00In_eq, b4, b5, key]
theorem netF_in {xs : List Debt} {n : Int} (hx : ∀ d ∈ xs, DbI n d) (hl : xs.length ≤ 60) (p : Int) : -6000000000 ≤ netF xs p ∧ netF xs p ≤ 6000000000 := by
  have h1 := sum_le (fun d : Debt => (if d.To = p then d.Amount else 0)) 100000000 xs (fun d hd => by
    obtain ⟨_, _, _, h4, h5⟩ := hx d hd
    split <;> omega)
  have h2 := sum_le (fun d : Debt => (if d.From = p then d.Amount else 0)) 100000000 xs (fun d hd => by
    obtain ⟨_, _, _, h4, h5⟩ := hx d hd
    split <;> omega)
  have e : netF xs p = (xs.map fun (d : Debt) => if d.To = p then d.Amount else 0).sum - (xs.map fun (d : Debt) => if d.From = p then d.Amount else 0).sum := by
    clear h1 h2 hl
    unfold netF WL
    induction xs with
    | nil => rfl
    | cons d xs ih =>
      have := ih (fun d hd => hx d (List.mem_cons_of_mem _ hd))
      have hd : ((if d.To = p then 1 else 0) - (if d.From = p then 1 else 0) : Int) * d.Amount = (if d.To = p then d.Amount else 0) - (if d.From = p then d.Amount else 0) := by
        rw [Int.sub_mul]
        by_cases c1 : d.To = p <;> by_cases c2 : d.From = p <;> simp [c1, c2]
      simp only [List.map_cons, List.sum_cons]
      rw [this, hd]
      omega
  rw [e]
  omega
theorem netF_snoc (xs : List Debt) (d : Debt) (p : Int) : netF (xs ++ [d]) p = netF xs p + ((if d.To = p then 1 else 0) - (if d.From = p then 1 else 0)) * d.Amount := by
  unfold netF
  rw [WL_append]
  simp [WL]
theorem netsOf_val (n : Nat) (hn : 1 ≤ n ∧ n ≤ 16) (xs : List Debt) (hl : xs.length ≤ 60) (hx : ∀ d ∈ xs, DbI n d) : ∃ nets, spec_NetsOf (n : Int) xs = some (nets, 0) ∧ nets.length = n ∧ ∀ p : Nat, p < n → nets[p]? = some (netF xs p) := by
  have : ∃ r, Lw (spec_l02Nets_b1 xs) (0, List.replicate n 0) = some r ∧ r.length = n ∧ ∀ p : Nat, p < n → r[p]? = some (netF xs p) := by
    refine Lw_meas (tb := spec_l02Nets_b1 xs) (fun s => xs.length - s.1.toNat) (fun s => ∃ j : Nat, s.1 = j ∧ j ≤ xs.length ∧ s.2.length = n ∧ ∀ p : Nat, p < n → s.2[p]? = some (netF (xs.take j) p)) _ ?_ _ _ rfl ⟨0, rfl, by omega, by simp, fun p hp => by simp [hp, netF, WL]⟩
    rintro ⟨j, z⟩ ⟨j', hj, hjl, hz, hp⟩
    simp only at hj hz hp
    subst hj
    by_cases hlt : j' < xs.length
    · have hr : rd xs (j' : Int) = some xs[j'] := by rw [rd_coe, List.getElem?_eq_getElem hlt]
      have w := w64s hlt (by omega)
      obtain ⟨⟨a1, a2⟩, ⟨a3, a4⟩, a5, a6, a7⟩ := hx _ (List.getElem_mem hlt)
      obtain ⟨f, hf⟩ : ∃ f : Nat, xs[j'].From = f := ⟨xs[j'].From.toNat, by omega⟩
      obtain ⟨t, ht⟩ : ∃ t : Nat, xs[j'].To = t := ⟨xs[j'].To.toNat, by omega⟩
      have hft : f ≠ t := fun e => a5 (by omega)
      have hN := fun p => netF_in (xs := xs.take j') (fun d hd => hx d (List.mem_of_mem_take hd)) (by simp; omega) p
      have hN1 := hN f
      have hN2 := hN t
      have r1 : rd z xs[j'].From = some (netF (xs.take j') f) := by rw [hf, rd_coe]; exact hp f (by omega)
      have w1 : IntKind.i64.wrap (netF (xs.take j') f - xs[j'].Amount) = netF (xs.take j') f - xs[j'].Amount := w64 (by omega)
      have w2 : IntKind.i64.wrap (netF (xs.take j') t + xs[j'].Amount) = netF (xs.take j') t + xs[j'].Amount := w64 (by omega)
      have e1 : xs[j'].From.toNat = f := by omega
      have e2 : xs[j'].To.toNat = t := by omega
      have r2 : rd (z.set f (netF (xs.take j') f - xs[j'].Amount)) xs[j'].To = some (netF (xs.take j') t) := by
        rw [ht, rd_coe, List.getElem?_set_ne hft]; exact hp t (by omega)
      refine .inl ⟨(((j' + 1 : Nat) : Int), (z.set f (netF (xs.take j') f - xs[j'].Amount)).set t (netF (xs.take j') t + xs[j'].Amount)), by simp [spec_l02Nets_b1, hlt, hr, r1, w1, e1, r2, w2, e2, w], ⟨j' + 1, rfl, by omega, by simp [hz], fun p hpn => ?_⟩, by simp; omega⟩
      rw [List.take_succ_eq_append_getElem hlt, netF_snoc]
      simp only
      by_cases c1 : p = t
      · subst c1
        rw [List.getElem?_set_self (by simp; omega), if_pos ht, if_neg (by omega)]
        simp
      · rw [List.getElem?_set_ne (Ne.symm c1), if_neg (by omega)]
        by_cases c2 : p = f
        · subst c2
          rw [List.getElem?_set_self (by omega), if_pos hf]
          simp only [Option.some.injEq]; omega
        · rw [List.getElem?_set_ne (Ne.symm c2), if_neg (by omega), hp p hpn]
          simp
    · have : j' = xs.length := by omega
      subst this
      exact .inr ⟨z, by simp [spec_l02Nets_b1], hz, fun p hpn => by rw [hp p hpn, List.take_length]⟩
  obtain ⟨r, h1, h2, h3⟩ := this
  refine ⟨r, ?_, h2, h3⟩
  unfold spec_NetsOf spec_l02Nets
  have mk : mkS 8 (0 : Int) (n : Int) = some (List.replicate n 0) := mkS_some (by omega) (by decide)
  rw [l02Ok_true _ _ ⟨by omega, by omega⟩ hl hx]
  simp [mk, h1]
def gS (ts : List Tally) (p : Int) : Int := (ts.map fun (t : Tally) => if t.Holder = p then t.Left else 0).sum
def oS (ts : List Tally) (p : Int) : Int := (ts.map fun (t : Tally) => if t.Debtor = p then t.Left else 0).sum
theorem gets_val (p : Int) : ∀ (ts : List Tally) (a : Int), (∀ t ∈ ts, 0 ≤ t.Left ∧ t.Left ≤ 100000000) → 0 ≤ a → a + 100000000 * ts.length ≤ 1000000000000000000 → ts.foldl (getsF p) a = a + gS ts p
  | [], a, _, _, _ => by simp [gS]
  | t :: ts, a, h, h0, h1 => by
    have ht := h t (List.mem_cons_self ..)
    have h1' : a + (100000000 * (ts.length : Int) + 100000000) ≤ 1000000000000000000 := by
      have : ((t :: ts).length : Int) = ts.length + 1 := by simp
      rw [this, Int.mul_add] at h1
      omega
    have e : getsF p a t = a + if t.Holder = p then t.Left else 0 := by
      unfold getsF
      by_cases c : t.Holder = p
      · rw [if_pos (by simpa using c), if_pos c, w64 (by omega)]
      · rw [if_neg (by simpa using c), if_neg c]; omega
    have hin : 0 ≤ (if t.Holder = p then t.Left else 0) ∧ (if t.Holder = p then t.Left else 0) ≤ 100000000 := by split <;> omega
    rw [List.foldl_cons, gets_val p ts _ (fun x hx => h x (List.mem_cons_of_mem _ hx)) (by rw [e]; omega) (by rw [e]; omega), e]
    unfold gS
    simp only [List.map_cons, List.sum_cons]
    omega
theorem owes_val (p : Int) : ∀ (ts : List Tally) (a : Int), (∀ t ∈ ts, 0 ≤ t.Left ∧ t.Left ≤ 100000000) → 0 ≤ a → a + 100000000 * ts.length ≤ 1000000000000000000 → ts.foldl (owesF p) a = a + oS ts p
  | [], a, _, _, _ => by simp [oS]
  | t :: ts, a, h, h0, h1 => by
    have ht := h t (List.mem_cons_self ..)
    have h1' : a + (100000000 * (ts.length : Int) + 100000000) ≤ 1000000000000000000 := by
      have : ((t :: ts).length : Int) = ts.length + 1 := by simp
      rw [this, Int.mul_add] at h1
      omega
    have e : owesF p a t = a + if t.Debtor = p then t.Left else 0 := by
      unfold owesF
      by_cases c : t.Debtor = p
      · rw [if_pos (by simpa using c), if_pos c, w64 (by omega)]
      · rw [if_neg (by simpa using c), if_neg c]; omega
    have hin : 0 ≤ (if t.Debtor = p then t.Left else 0) ∧ (if t.Debtor = p then t.Left else 0) ≤ 100000000 := by split <;> omega
    rw [List.foldl_cons, owes_val p ts _ (fun x hx => h x (List.mem_cons_of_mem _ hx)) (by rw [e]; omega) (by rw [e]; omega), e]
    unfold oS
    simp only [List.map_cons, List.sum_cons]
    omega
theorem net_tal (p : Int) : ∀ (ts : List Tally), (∀ t ∈ ts, 0 ≤ t.Left) → netF (talL ts) p = gS ts p - oS ts p
  | [], _ => rfl
  | t :: ts, h => by
    have ih := net_tal p ts (fun x hx => h x (List.mem_cons_of_mem _ hx))
    have h0 := h t (List.mem_cons_self ..)
    have e : netF (talL (t :: ts)) p = ((if t.Holder = p then 1 else 0) - (if t.Debtor = p then 1 else 0)) * t.Left + netF (talL ts) p := by
      unfold talL netF
      by_cases c : t.Left > 0
      · rw [List.filterMap_cons_some (by rw [if_pos c])]
        simp [WL]
      · have : t.Left = 0 := by omega
        rw [List.filterMap_cons_none (by rw [if_neg c]), this]
        simp
    rw [e, ih]
    unfold gS oS
    simp only [List.map_cons, List.sum_cons, Int.sub_mul]
    by_cases c1 : t.Holder = p <;> by_cases c2 : t.Debtor = p <;> simp [c1, c2] <;> omega
theorem sum_gets (n : Nat) : ∀ (ts : List Tally), (∀ t ∈ ts, 0 ≤ t.Holder ∧ t.Holder < n) → sumN n (fun p => gS ts p) = (ts.map (·.Left)).sum
  | [], _ => sumN_none fun _ _ => rfl
  | t :: ts, h => by
    obtain ⟨f, hf⟩ : ∃ f : Nat, t.Holder = f := ⟨t.Holder.toNat, by have := h t (List.mem_cons_self ..); omega⟩
    have hb := h t (List.mem_cons_self ..)
    have e : ∀ p : Nat, gS (t :: ts) p = (if p = f then t.Left else 0) + gS ts p := fun p => by
      unfold gS
      simp only [List.map_cons, List.sum_cons]
      congr 1
      by_cases c : p = f
      · rw [if_pos c, if_pos (by omega)]
      · rw [if_neg c, if_neg (by omega)]
    rw [sumN_congr fun p _ => e p, sumN_add, sumN_one, if_pos (by omega), sum_gets n ts (fun x hx => h x (List.mem_cons_of_mem _ hx))]
    simp
theorem sum_owes (n : Nat) : ∀ (ts : List Tally), (∀ t ∈ ts, 0 ≤ t.Debtor ∧ t.Debtor < n) → sumN n (fun p => oS ts p) = (ts.map (·.Left)).sum
  | [], _ => sumN_none fun _ _ => rfl
  | t :: ts, h => by
    obtain ⟨f, hf⟩ : ∃ f : Nat, t.Debtor = f := ⟨t.Debtor.toNat, by have := h t (List.mem_cons_self ..); omega⟩
    have hb := h t (List.mem_cons_self ..)
    have e : ∀ p : Nat, oS (t :: ts) p = (if p = f then t.Left else 0) + oS ts p := fun p => by
      unfold oS
      simp only [List.map_cons, List.sum_cons]
      congr 1
      by_cases c : p = f
      · rw [if_pos c, if_pos (by omega)]
      · rw [if_neg c, if_neg (by omega)]
    rw [sumN_congr fun p _ => e p, sumN_add, sumN_one, if_pos (by omega), sum_owes n ts (fun x hx => h x (List.mem_cons_of_mem _ hx))]
    simp
theorem gS_in {ts : List Tally} (h : ∀ t ∈ ts, 0 ≤ t.Left ∧ t.Left ≤ 100000000) (p : Int) : 0 ≤ gS ts p ∧ gS ts p ≤ 100000000 * ts.length :=
  sum_le (fun t : Tally => if t.Holder = p then t.Left else 0) 100000000 ts (fun t ht => by have := h t ht; split <;> omega)
theorem oS_in {ts : List Tally} (h : ∀ t ∈ ts, 0 ≤ t.Left ∧ t.Left ≤ 100000000) (p : Int) : 0 ≤ oS ts p ∧ oS ts p ≤ 100000000 * ts.length :=
  sum_le (fun t : Tally => if t.Debtor = p then t.Left else 0) 100000000 ts (fun t ht => by have := h t ht; split <;> omega)
theorem getsIn_val (b : Book) (hb : BookP b) (p : Int) : getsIn b p = gS b.Tallies p ∧ owesIn b p = oS b.Tallies p := by
  have tn := hb.tn
  have hl : ∀ t ∈ b.Tallies, 0 ≤ t.Left ∧ t.Left ≤ 100000000 := fun t ht => (hb.bk.ta t ht).2.2.1
  unfold getsIn owesIn
  rw [gets_val p b.Tallies 0 hl (by omega) (by omega), owes_val p b.Tallies 0 hl (by omega) (by omega)]
  omega
end Go.Proofs.Ytjlalepbhcekoaa

/- Valid books. -/
import Derived.Test.YtpdmcpnabjifhaaPPeopleHolderOn
set_option linter.unusedVariables false
set_option linter.unusedSimpArgs false
namespace Go.Proofs.Ytpdmcpnabjifhaa
open Go Go.Ab
def amB (n : Int) : Bool := inB n 0 100000000
def prevCut (b : Book) (i : Nat) : Int := if i = 0 then 0 else ((b.Tallies[i - 1]?).map (·.Cut)).getD 0
def tallyB (b : Book) (i : Nat) (t : Tally) : Bool :=
  personB b.Cash.length t.Debtor && (personB b.Cash.length t.Holder && (inB t.Cut 0 b.Day && (inB t.Amount 1 100000000 && (inB t.Left 0 t.Amount && (!(t.Debtor == t.Holder && t.Left != 0) && decide (prevCut b i ≤ t.Cut))))))
def talliesB (b : Book) : Bool := (List.range b.Tallies.length).all fun i => (b.Tallies[i]?).all (tallyB b i)
def bookB (b : Book) : Bool := inB b.Day 0 100000 && (b.Cash.all amB && inB b.Cash.length 1 16 && (decide (b.Tallies.length ≤ 40) && talliesB b))
theorem cash_spec (a : List Int) (hn : a.length ≤ 4611686018427387904) : spec_l07Cash a = some (a.all amB && inB a.length 1 16) := by
  unfold spec_l07Cash
  have key := scan_all (tb := spec_l07Cash_b1 a) a.length hn (fun i => (a[i]?).all amB) () ()
    (by
      intro i hi
      simp only [spec_l07Cash_b1, rd_coe, List.getElem?_eq_getElem hi, Option.bind_some, l01Amount_eq, Option.all_some]
      rw [if_pos (by simpa using hi)]
      cases h : amB a[i] <;> simp [amB] at h <;> simp [h])
    (by simp [spec_l07Cash_b1])
  rw [key, all_get]
  cases a.all amB <;> simp [l00In_eq]
theorem cash_impl (b : Book) (hn : b.Cash.length ≤ 4611686018427387904) : Lw (impl_ValidBook_b1 b) 0 = some (if b.Cash.all amB = true then .inr () else .inl ()) := by
  have key := scan_all (tb := impl_ValidBook_b1 b) b.Cash.length hn (fun i => (b.Cash[i]?).all amB) () ()
    (by
      intro i hi
      simp only [impl_ValidBook_b1, rd_coe, List.getElem?_eq_getElem hi, Option.bind_some, isAmount_eq, Option.all_some]
      rw [if_pos (by simpa using hi)]
      cases h : amB b.Cash[i] <;> simp [amB] at h <;> simp [h])
    (by simp [impl_ValidBook_b1])
  rw [key, all_get]
theorem tallies_spec (b : Book) (hc : b.Cash.length ≤ 4611686018427387904) (hn : b.Tallies.length ≤ 4611686018427387904) : Lw (spec_l07Ok_b1 b) 0 = some (if talliesB b = true then .inr () else .inl ()) := by
  refine scan_all (tb := spec_l07Ok_b1 b) b.Tallies.length hn (fun i => (b.Tallies[i]?).all (tallyB b i)) () () (fun i hi => ?_) (by simp [spec_l07Ok_b1])
  simp only [spec_l07Ok_b1, rd_coe, List.getElem?_eq_getElem hi, Option.bind_some, Option.all_some, l02Person_eq _ _ (show -9223372036854775807 ≤ (b.Cash.length : Int) ∧ (b.Cash.length : Int) ≤ 9223372036854775807 by omega), l00In_eq]
  rw [if_pos (by simpa using hi)]
  unfold tallyB
  generalize b.Tallies[i] = t
  cases personB b.Cash.length t.Debtor with
  | false => simp
  | true =>
  cases personB b.Cash.length t.Holder with
  | false => simp
  | true =>
  cases hcut : inB t.Cut 0 b.Day with
  | false => simp
  | true =>
  cases inB t.Amount 1 100000000 with
  | false => simp
  | true =>
  cases inB t.Left 0 t.Amount with
  | false => simp
  | true =>
  obtain ⟨hc0, _⟩ := inB_iff.1 hcut
  have tail : (if decide ((i : Int) > 0) = true then (rd b.Tallies (IntKind.i64.wrap ((i : Int) - 1))).bind fun x92 => if decide (t.Cut < x92.Cut) = true then some (Sum.inr (Sum.inl ())) else some (Sum.inl (IntKind.i64.wrap ((i : Int) + 1))) else some (Sum.inl (IntKind.i64.wrap ((i : Int) + 1)))) = (some (if decide (prevCut b i ≤ t.Cut) = true then Sum.inl (IntKind.i64.wrap ((i : Int) + 1)) else Sum.inr (Sum.inl ())) : Option (Int ⊕ (Unit ⊕ Unit))) := by
    by_cases h0 : i = 0
    · subst h0; simp [prevCut, hc0]
    · have h1 : i - 1 < b.Tallies.length := by omega
      have e : IntKind.i64.wrap ((i : Int) - 1) = ((i - 1 : Nat) : Int) := by rw [w64 (by omega)]; omega
      rw [if_pos (by simp; omega), e, rd_coe, List.getElem?_eq_getElem h1, Option.bind_some]
      have e2 : prevCut b i = b.Tallies[i - 1].Cut := by simp [prevCut, h0, h1]
      rw [e2]
      by_cases h2 : t.Cut < b.Tallies[i - 1].Cut
      · rw [if_pos (by simpa using h2), if_neg (by simpa using h2)]
      · rw [if_neg (by simpa using h2), if_pos (by simpa using h2)]
  simp only [if_true, Bool.true_and, tail]
  cases h1 : (t.Debtor == t.Holder) with
  | false => simp
  | true => cases h2 : (t.Left != 0) <;> simp
theorem tallies_impl (b : Book) (hc : b.Cash.length ≤ 4611686018427387904) (hn : b.Tallies.length ≤ 4611686018427387904) : Lw (impl_ValidBook_b2 b) (0, 0) = some (if talliesB b = true then .inr () else .inl ()) := by
  refine scan_st (tb := impl_ValidBook_b2 b) (fun i => (prevCut b i, (i : Int))) b.Tallies.length (fun i => (b.Tallies[i]?).all (tallyB b i)) (.inl ()) (.inr ()) (fun i hi hall => ?_) (fun _ => by simp [impl_ValidBook_b2])
  have hp : 0 ≤ prevCut b i := by
    by_cases h0 : i = 0
    · simp [prevCut, h0]
    · have h1 : i - 1 < b.Tallies.length := by omega
      have := hall (i - 1) (by omega)
      rw [List.getElem?_eq_getElem h1, Option.all_some] at this
      unfold tallyB at this
      simp only [Bool.and_eq_true] at this
      have h3 := (inB_iff.1 this.2.2.1).1
      simp [prevCut, h0, h1, h3]
  have hs : prevCut b (i + 1) = b.Tallies[i].Cut := by simp [prevCut, hi]
  simp only [impl_ValidBook_b2, rd_coe, List.getElem?_eq_getElem hi, Option.bind_some, Option.all_some, arePeople_eq _ _ (show ([b.Tallies[i].Debtor, b.Tallies[i].Holder] : List Int).length ≤ 4611686018427387904 by simp), hs]
  rw [if_pos (by simpa using hi), w64s hi hn]
  unfold tallyB
  generalize b.Tallies[i] = t
  simp only [List.all_cons, List.all_nil, Bool.and_true]
  cases personB b.Cash.length t.Debtor with
  | false => simp
  | true =>
  cases personB b.Cash.length t.Holder with
  | false => simp
  | true =>
  simp only [Bool.true_and, if_true]
  by_cases c1 : t.Cut < prevCut b i
  · have : decide (prevCut b i ≤ t.Cut) = false := by simpa using c1
    simp [c1, this]
  · have e1 : decide (prevCut b i ≤ t.Cut) = true := by simpa using c1
    have c0 : 0 ≤ t.Cut := by omega
    simp only [c1, decide_false, Bool.false_eq_true, if_false, e1, Bool.and_true]
    by_cases c2 : t.Cut > b.Day
    · simp [c2, inB]; omega
    · have e2 : inB t.Cut 0 b.Day = true := inB_iff.2 ⟨c0, by omega⟩
      simp only [c2, decide_false, Bool.false_eq_true, if_false, e2, Bool.true_and]
      by_cases c3 : t.Amount < 1
      · simp [c3, inB]; omega
      · by_cases c4 : t.Amount > 100000000
        · simp [c3, c4, inB]; omega
        · have e3 : inB t.Amount 1 100000000 = true := inB_iff.2 ⟨by omega, by omega⟩
          simp only [c3, c4, decide_false, Bool.false_eq_true, if_false, e3, Bool.true_and]
          by_cases c5 : t.Left < 0
          · simp [c5, inB]; omega
          · by_cases c6 : t.Left > t.Amount
            · simp [c5, c6, inB]; omega
            · have e4 : inB t.Left 0 t.Amount = true := inB_iff.2 ⟨by omega, by omega⟩
              simp only [c5, c6, decide_false, Bool.false_eq_true, if_false, e4, Bool.true_and]
              cases h1 : (t.Debtor == t.Holder) with
              | false => simp
              | true => cases h2 : (t.Left != 0) <;> simp
theorem validBook_eq (b : Book) (hc : b.Cash.length ≤ 4611686018427387904) (hn : b.Tallies.length ≤ 4611686018427387904) : impl_ValidBook b = some (bookB b) := by
  unfold impl_ValidBook bookB
  rw [isBookDay_eq, cash_impl b hc, tallies_impl b hc hn]
  simp only [Option.bind_some]
  cases inB b.Day 0 100000 with
  | false => simp
  | true =>
    simp only [if_true, Bool.true_and]
    by_cases c1 : (b.Cash.length : Int) < 1
    · have : inB b.Cash.length 1 16 = false := inB_not.2 (.inl c1)
      simp [c1, this]
    · by_cases c2 : (b.Cash.length : Int) > 16
      · have : inB b.Cash.length 1 16 = false := inB_not.2 (.inr c2)
        simp [c1, c2, this]
      · have e1 : inB b.Cash.length 1 16 = true := inB_iff.2 ⟨by omega, by omega⟩
        simp only [c1, c2, e1, decide_false, Bool.false_eq_true, if_false, Bool.and_true]
        by_cases c3 : (b.Tallies.length : Int) > 40
        · have : ¬ b.Tallies.length ≤ 40 := by omega
          simp [c3, this]
        · have e2 : b.Tallies.length ≤ 40 := by omega
          simp only [c3, e2, decide_false, decide_true, Bool.false_eq_true, if_false, Bool.true_and]
          cases b.Cash.all amB <;> cases talliesB b <;> simp
theorem l07Ok_eq (b : Book) (hc : b.Cash.length ≤ 4611686018427387904) (hn : b.Tallies.length ≤ 4611686018427387904) : spec_l07Ok b = some (bookB b) := by
  unfold spec_l07Ok bookB
  rw [l07Day_eq, cash_spec _ hc, tallies_spec b hc hn]
  simp only [Option.bind_some]
  cases inB b.Day 0 100000 with
  | false => simp
  | true =>
    simp only [if_true, Bool.true_and]
    cases (b.Cash.all amB && inB b.Cash.length 1 16) with
    | false => simp
    | true =>
      by_cases c3 : (b.Tallies.length : Int) > 40
      · have : ¬ b.Tallies.length ≤ 40 := by omega
        simp [c3, this]
      · have e2 : b.Tallies.length ≤ 40 := by omega
        simp only [c3, e2, decide_false, decide_true, Bool.false_eq_true, if_false, Bool.true_and, if_true]
        cases talliesB b <;> simp
end Go.Proofs.Ytpdmcpnabjifhaa

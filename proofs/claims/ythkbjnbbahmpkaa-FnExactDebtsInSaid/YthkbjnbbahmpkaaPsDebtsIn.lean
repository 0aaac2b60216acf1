/- Plain lemmas. -/
import Derived.Test.YthkbjnbbahmpkaaOkDebtsIn
set_option linter.unusedVariables false
set_option linter.unusedSimpArgs false
/- Lists of numbers: equal, copied. -/
namespace Go.Proofs.Ythkbjnbbahmpkaa
open Go Go.Ab
theorem toInt64S_eq (a : List Int) (h : a.length * 8 ≤ 140737488351232) : laws_toInt64S a = some a := by
  unfold laws_toInt64S
  have key := copy_loop (tb := laws_toInt64S_b1 a) a (List.replicate a.length 0) (by omega) (by simp)
    (by intro i zs hi hz; simp [laws_toInt64S_b1, rd_coe, hi, hz]) (by intro zs hz; simp [laws_toInt64S_b1])
  rw [mkS_some h (by omega), Option.bind_some, key, Option.bind_some]
theorem eqInt64S_eq (a b : List Int) (h : a.length ≤ 4611686018427387904) : laws_eqInt64S a b = some (decide (a = b)) := by
  unfold laws_eqInt64S
  by_cases hl : a.length = b.length
  · have key := scan_all (tb := laws_eqInt64S_b1 a b) a.length h (fun i => decide (a[i]? = b[i]?)) () ()
      (by
        intro i hi
        have hi2 : i < b.length := by omega
        simp only [laws_eqInt64S_b1, rd_coe, List.getElem?_eq_getElem hi, List.getElem?_eq_getElem hi2, Option.bind_some]
        by_cases he : a[i] = b[i] <;> simp [he, hi])
      (by simp [laws_eqInt64S_b1])
    rw [if_neg (by simp [hl]), key, all_eq hl]
    by_cases he : a = b <;> simp [he]
  · rw [if_pos (by simp; omega)]
    have : a ≠ b := fun h => hl (by rw [h])
    simp [this]
end Go.Proofs.Ythkbjnbbahmpkaa
/- Marks put into numbers, and found again. -/
namespace Go.Proofs.Ythkbjnbbahmpkaa
open Go Go.Ab
def iota (k : Int) (n : Nat) : List Int := (List.range n).map fun (i : Nat) => k + (i : Int)
theorem iota_len (k : Int) (n : Nat) : (iota k n).length = n := by simp [iota]
theorem iota_get (k : Int) (n i : Nat) (h : i < n) : (iota k n)[i]? = some (k + i) := by
  simp [iota, h]
theorem iota_succ (k : Int) (n : Nat) : iota k (n + 1) = iota k n ++ [k + n] := by simp [iota, List.range_succ]
theorem markInt64S_eq (xs : List Int) (k : Int) (h : xs.length ≤ 1152921504606846976) (h0 : 0 ≤ k) (hk : k ≤ 1152921504606846976) : laws_markInt64S_l xs k = some (k + xs.length, iota k xs.length) := by
  unfold laws_markInt64S_l
  have key := Lw_run (tb := laws_markInt64S_l_b1) (fun i => (k + (i : Int), (i : Int), iota k i ++ xs.drop i)) xs.length (r := (k + (xs.length : Int), iota k xs.length))
    (by
      intro i hi
      have hl : (iota k i ++ xs.drop i).length = xs.length := by simp [iota_len]; omega
      simp only [laws_markInt64S_l_b1, hl]
      rw [if_pos (by simpa using hi), rd_coe, List.getElem?_eq_getElem (by omega), Option.bind_some, w64 (by omega), w64s hi (by omega)]
      congr 3
      · omega
      · simp only [Int.toNat_natCast, Prod.mk.injEq, true_and]
        rw [List.set_append_right _ _ (by simp [iota_len]), iota_len, Nat.sub_self, List.drop_eq_getElem_cons hi, List.set_cons_zero, iota_succ, List.append_assoc]
        rfl)
    (by
      have hl : (iota k xs.length ++ xs.drop xs.length).length = xs.length := by simp [iota_len]
      simp only [laws_markInt64S_l_b1, hl]
      rw [if_neg (by simp)]
      simp)
  have e : ((k + ((0 : Nat) : Int)), ((0 : Nat) : Int), iota k 0 ++ xs.drop 0) = (k, 0, xs) := by simp [iota]
  rw [e] at key
  rw [key, Option.bind_some]
end Go.Proofs.Ythkbjnbbahmpkaa
/- Marks put into nothing. -/
namespace Go.Proofs.Ythkbjnbbahmpkaa
open Go Go.Ab
end Go.Proofs.Ythkbjnbbahmpkaa
/- Tallies: equal, copied. -/
namespace Go.Proofs.Ythkbjnbbahmpkaa
open Go Go.Ab
theorem tally_eq {x y : Tally} : x = y ↔ x.Debtor = y.Debtor ∧ x.Holder = y.Holder ∧ x.Cut = y.Cut ∧ x.Amount = y.Amount ∧ x.Left = y.Left := by
  cases x; cases y; simp
theorem eqTally_eq (x y : Tally) : laws_eqTally x y = some (decide (x = y)) := by
  unfold laws_eqTally
  simp only [tally_eq, bne_iff_ne, ne_eq, ite_not]
  repeat' split
  all_goals simp_all
theorem eqTallyS_eq (a b : List Tally) (h : a.length ≤ 4611686018427387904) : laws_eqTallyS a b = some (decide (a = b)) := by
  unfold laws_eqTallyS
  by_cases hl : a.length = b.length
  · have key := scan_all (tb := laws_eqTallyS_b1 a b) a.length h (fun i => decide (a[i]? = b[i]?)) () ()
      (by
        intro i hi
        have hi2 : i < b.length := by omega
        simp only [laws_eqTallyS_b1, rd_coe, List.getElem?_eq_getElem hi, List.getElem?_eq_getElem hi2, Option.bind_some, eqTally_eq]
        by_cases he : a[i] = b[i] <;> simp [he, hi])
      (by simp [laws_eqTallyS_b1])
    rw [if_neg (by simp [hl]), key, all_eq hl]
    by_cases he : a = b <;> simp [he]
  · rw [if_pos (by simp; omega)]
    have : a ≠ b := fun h => hl (by rw [h])
    simp [this]
end Go.Proofs.Ythkbjnbbahmpkaa
/- Tallies: copied. -/
namespace Go.Proofs.Ythkbjnbbahmpkaa
open Go Go.Ab
theorem toTallyS_eq (a : List Tally) (h : a.length * 40 ≤ 140737488351232) : laws_toTallyS a = some a := by
  unfold laws_toTallyS
  have key := copy_loop (tb := laws_toTallyS_b1 a) a (List.replicate a.length ⟨0, 0, 0, 0, 0⟩) (by omega) (by simp)
    (by intro i zs hi hz; simp [laws_toTallyS_b1, laws_toTally, rd_coe, hi, hz]) (by intro zs hz; simp [laws_toTallyS_b1])
  rw [mkS_some h (by omega), Option.bind_some, key, Option.bind_some]
end Go.Proofs.Ythkbjnbbahmpkaa
/- Books: equal, copied, weighed. -/
namespace Go.Proofs.Ythkbjnbbahmpkaa
open Go Go.Ab
theorem book_eq {x y : Book} : x = y ↔ x.Day = y.Day ∧ x.Cash = y.Cash ∧ x.Tallies = y.Tallies := by
  cases x; cases y; simp
theorem ok_cash {b : Book} (h : b.ok) : b.Cash.length * 8 ≤ 140737488351232 := h.2.1.2.1
theorem ok_tallies {b : Book} (h : b.ok) : b.Tallies.length * 40 ≤ 140737488351232 := h.2.2.2.1
theorem toBook_eq (b : Book) (h : b.ok) : laws_toBook b = some (b.Day, b.Cash, b.Tallies) := by
  unfold laws_toBook
  rw [toInt64S_eq _ (ok_cash h), Option.bind_some, toTallyS_eq _ (ok_tallies h), Option.bind_some]
theorem eqBook_eq (x y : Book) (h : x.ok) : laws_eqBook x y = some (decide (x = y)) := by
  have h1 := (ok_cash h)
  have h2 := (ok_tallies h)
  unfold laws_eqBook
  rw [eqInt64S_eq _ _ (by omega), eqTallyS_eq _ _ (by omega)]
  by_cases e1 : x.Day = y.Day <;> by_cases e2 : x.Cash = y.Cash <;> by_cases e3 : x.Tallies = y.Tallies <;> simp [book_eq, e1, e2, e3]
theorem szI_some (xs : List Int) (n : Int) : ∃ r, laws_szInt64S xs n = some r := by
  unfold laws_szInt64S; split <;> exact ⟨_, rfl⟩
theorem szT_some (xs : List Tally) (n : Int) : ∃ r, laws_szTallyS xs n = some r := by
  unfold laws_szTallyS; split <;> exact ⟨_, rfl⟩
theorem szBook_some (b : Book) (n : Int) : ∃ r, laws_szBook b n = some r := by
  unfold laws_szBook
  obtain ⟨r, hr⟩ := szI_some b.Cash n
  obtain ⟨q, hq⟩ := szT_some b.Tallies r
  rw [hr, Option.bind_some, hq, Option.bind_some]
  repeat' split
  all_goals exact ⟨_, rfl⟩
end Go.Proofs.Ythkbjnbbahmpkaa
/- Numbers within bounds. -/
namespace Go.Proofs.Ythkbjnbbahmpkaa
open Go Go.Ab
def inB (n lo hi : Int) : Bool := decide (lo ≤ n) && decide (n ≤ hi)
theorem inB_iff {n lo hi : Int} : inB n lo hi = true ↔ lo ≤ n ∧ n ≤ hi := by simp [inB]
theorem inB_not {n lo hi : Int} : inB n lo hi = false ↔ n < lo ∨ hi < n := by rw [← Bool.not_eq_true, inB_iff]; omega
theorem l00In_eq (n lo hi : Int) : spec_l00In n lo hi = some (inB n lo hi) := by
  unfold spec_l00In inB; by_cases h : lo ≤ n <;> simp [h]
theorem some_ite {α : Type} (c : Bool) (a b : α) : (if c = true then some a else some b) = some (if c = true then a else b) := by cases c <;> rfl
theorem ite_false_b (c b : Bool) : (if c = true then b else false) = (c && b) := by cases c <;> simp
theorem ite_true_b (c b : Bool) : (if c = true then true else b) = (c || b) := by cases c <;> simp
end Go.Proofs.Ythkbjnbbahmpkaa
/- Days. -/
namespace Go.Proofs.Ythkbjnbbahmpkaa
open Go Go.Ab
theorem l07Day_eq (n : Int) : spec_l07Day n = some (inB n 0 100000) := by
  unfold spec_l07Day; simp only [l00In_eq, Option.bind_some]
theorem isBookDay_eq (n : Int) : impl_isBookDay n = some (inB n 0 100000) := by
  unfold impl_isBookDay inB; by_cases h : 0 ≤ n <;> simp [h]
end Go.Proofs.Ythkbjnbbahmpkaa
/- Amounts. -/
namespace Go.Proofs.Ythkbjnbbahmpkaa
open Go Go.Ab
theorem l01Amount_eq (n : Int) : spec_l01Amount n = some (inB n 0 100000000) := by
  unfold spec_l01Amount; rw [l00In_eq, Option.bind_some]
theorem isAmount_eq (n : Int) : impl_isAmount n = some (inB n 0 100000000) := by
  unfold impl_isAmount inB; by_cases h : 0 ≤ n <;> simp [h]
end Go.Proofs.Ythkbjnbbahmpkaa
/- People. -/
namespace Go.Proofs.Ythkbjnbbahmpkaa
open Go Go.Ab
def personB (n x : Int) : Bool := decide (0 ≤ x) && decide (x < n)
theorem personB_iff {n x : Int} : personB n x = true ↔ 0 ≤ x ∧ x < n := by simp [personB]
theorem l02Person_eq (n x : Int) (h : -9223372036854775807 ≤ n ∧ n ≤ 9223372036854775807) : spec_l02Person n x = some (personB n x) := by
  unfold spec_l02Person
  rw [l00In_eq, w64 (by omega), Option.bind_some]
  congr 1
  rw [Bool.eq_iff_iff, inB_iff, personB_iff]; omega
theorem arePeople_eq (n : Int) (xs : List Int) (hn : xs.length ≤ 4611686018427387904) : impl_arePeople n xs = some (xs.all (personB n)) := by
  unfold impl_arePeople
  have key := scan_all (tb := impl_arePeople_b1 n xs) xs.length hn (fun i => (xs[i]?).all (personB n)) () ()
    (by
      intro i hi
      simp only [impl_arePeople_b1, rd_coe, List.getElem?_eq_getElem hi, Option.bind_some, Option.all_some]
      rw [if_pos (by simpa using hi)]
      by_cases h1 : xs[i] < 0
      · rw [if_pos (by simpa using h1), if_neg (by simp [personB]; omega)]
      · by_cases h2 : xs[i] ≥ n
        · rw [if_neg (by simpa using h1), if_pos (by simpa using h2), if_neg (by simp [personB]; omega)]
        · rw [if_neg (by simpa using h1), if_neg (by simpa using h2), if_pos (by simp [personB]; omega)])
    (by simp [impl_arePeople_b1])
  rw [key, all_get]
  cases xs.all (personB n) <;> simp
end Go.Proofs.Ythkbjnbbahmpkaa
/- Valid books. -/
namespace Go.Proofs.Ythkbjnbbahmpkaa
open Go Go.Ab
def amB (n : Int) : Bool := inB n 0 100000000
def prevCut (b : Book) (i : Nat) : Int := if i = 0 then 0 else ((b.Tallies[i - 1]?).map (·.Cut)).getD 0
def tallyB (b : Book) (i : Nat) (t : Tally) : Bool :=
  personB b.Cash.length t.Debtor && (personB b.Cash.length t.Holder && (inB t.Cut 0 b.Day && (inB t.Amount 1 100000000 && (inB t.Left 0 t.Amount && (!(t.Debtor == t.Holder && t.Left != 0) && decide (prevCut b i ≤ t.Cut))))))
def talliesB (b : Book) : Bool := (List.range b.Tallies.length).all fun i => (b.Tallies[i]?).all (tallyB b i)
def bookB (b : Book) : Bool := inB b.Day 0 100000 && (b.Cash.all amB && inB b.Cash.length 1 16 && (decide (b.Tallies.length ≤ 40) && talliesB b))
theorem cash_spec (a : List Int) (hn : a.length ≤ 4611686018427387904) : spec_l07Cash a = some (a.all amB && inB a.length 1 16) := by
  unfold spec_l07Cash
  have key := scan_all (tb := spec_l07Cash_b1 a) a.length hn (fun i => (a[i]?).all amB) () ()
    (by
      intro i hi
      simp only [spec_l07Cash_b1, rd_coe, List.getElem?_eq_getElem hi, Option.bind_some, l01Amount_eq, Option.all_some]
      rw [if_pos (by simpa using hi)]
      cases h : amB a[i] <;> simp [amB] at h <;> simp [h])
    (by simp [spec_l07Cash_b1])
  rw [key, all_get]
  cases a.all amB <;> simp [l00In_eq]
theorem cash_impl (b : Book) (hn : b.Cash.length ≤ 4611686018427387904) : Lw (impl_ValidBook_b1 b) 0 = some (if b.Cash.all amB = true then .inr () else .inl ()) := by
  have key := scan_all (tb := impl_ValidBook_b1 b) b.Cash.length hn (fun i => (b.Cash[i]?).all amB) () ()
    (by
      intro i hi
      simp only [impl_ValidBook_b1, rd_coe, List.getElem?_eq_getElem hi, Option.bind_some, isAmount_eq, Option.all_some]
      rw [if_pos (by simpa using hi)]
      cases h : amB b.Cash[i] <;> simp [amB] at h <;> simp [h])
    (by simp [impl_ValidBook_b1])
  rw [key, all_get]
theorem tallies_spec (b : Book) (hc : b.Cash.length ≤ 4611686018427387904) (hn : b.Tallies.length ≤ 4611686018427387904) : Lw (spec_l07Ok_b1 b) 0 = some (if talliesB b = true then .inr () else .inl ()) := by
  refine scan_all (tb := spec_l07Ok_b1 b) b.Tallies.length hn (fun i => (b.Tallies[i]?).all (tallyB b i)) () () (fun i hi => ?_) (by simp [spec_l07Ok_b1])
  simp only [spec_l07Ok_b1, rd_coe, List.getElem?_eq_getElem hi, Option.bind_some, Option.all_some, l02Person_eq _ _ (show -9223372036854775807 ≤ (b.Cash.length : Int) ∧ (b.Cash.length : Int) ≤ 9223372036854775807 by omega), l00In_eq]
  rw [if_pos (by simpa using hi)]
  unfold tallyB
  generalize b.Tallies[i] = t
  cases personB b.Cash.length t.Debtor with
  | false => simp
  | true =>
  cases personB b.Cash.length t.Holder with
  | false => simp
  | true =>
  cases hcut : inB t.Cut 0 b.Day with
  | false => simp
  | true =>
  cases inB t.Amount 1 100000000 with
  | false => simp
  | true =>
  cases inB t.Left 0 t.Amount with
  | false => simp
  | true =>
  obtain ⟨hc0, _⟩ := inB_iff.1 hcut
  have tail : (if decide ((i : Int) > 0) = true then (rd b.Tallies (IntKind.i64.wrap ((i : Int) - 1))).bind fun x92 => if decide (t.Cut < x92.Cut) = true then some (Sum.inr (Sum.inl ())) else some (Sum.inl (IntKind.i64.wrap ((i : Int) + 1))) else some (Sum.inl (IntKind.i64.wrap ((i : Int) + 1)))) = (some (if decide (prevCut b i ≤ t.Cut) = true then Sum.inl (IntKind.i64.wrap ((i : Int) + 1)) else Sum.inr (Sum.inl ())) : Option (Int ⊕ (Unit ⊕ Unit))) := by
    by_cases h0 : i = 0
    · subst h0; simp [prevCut, hc0]
    · have h1 : i - 1 < b.Tallies.length := by omega
      have e : IntKind.i64.wrap ((i : Int) - 1) = ((i - 1 : Nat) : Int) := by rw [w64 (by omega)]; omega
      rw [if_pos (by simp; omega), e, rd_coe, List.getElem?_eq_getElem h1, Option.bind_some]
      have e2 : prevCut b i = b.Tallies[i - 1].Cut := by simp [prevCut, h0, h1]
      rw [e2]
      by_cases h2 : t.Cut < b.Tallies[i - 1].Cut
      · rw [if_pos (by simpa using h2), if_neg (by simpa using h2)]
      · rw [if_neg (by simpa using h2), if_pos (by simpa using h2)]
  simp only [if_true, Bool.true_and, tail]
  cases h1 : (t.Debtor == t.Holder) with
  | false => simp
  | true => cases h2 : (t.Left != 0) <;> simp
theorem tallies_impl (b : Book) (hc : b.Cash.length ≤ 4611686018427387904) (hn : b.Tallies.length ≤ 4611686018427387904) : Lw (impl_ValidBook_b2 b) (0, 0) = some (if talliesB b = true then .inr () else .inl ()) := by
  refine scan_st (tb := impl_ValidBook_b2 b) (fun i => (prevCut b i, (i : Int))) b.Tallies.length (fun i => (b.Tallies[i]?).all (tallyB b i)) (.inl ()) (.inr ()) (fun i hi hall => ?_) (fun _ => by simp [impl_ValidBook_b2])
  have hp : 0 ≤ prevCut b i := by
    by_cases h0 : i = 0
    · simp [prevCut, h0]
    · have h1 : i - 1 < b.Tallies.length := by omega
      have := hall (i - 1) (by omega)
      rw [List.getElem?_eq_getElem h1, Option.all_some] at this
      unfold tallyB at this
      simp only [Bool.and_eq_true] at this
      have h3 := (inB_iff.1 this.2.2.1).1
      simp [prevCut, h0, h1, h3]
  have hs : prevCut b (i + 1) = b.Tallies[i].Cut := by simp [prevCut, hi]
  simp only [impl_ValidBook_b2, rd_coe, List.getElem?_eq_getElem hi, Option.bind_some, Option.all_some, arePeople_eq _ _ (show ([b.Tallies[i].Debtor, b.Tallies[i].Holder] : List Int).length ≤ 4611686018427387904 by simp), hs]
  rw [if_pos (by simpa using hi), w64s hi hn]
  unfold tallyB
  generalize b.Tallies[i] = t
  simp only [List.all_cons, List.all_nil, Bool.and_true]
  cases personB b.Cash.length t.Debtor with
  | false => simp
  | true =>
  cases personB b.Cash.length t.Holder with
  | false => simp
  | true =>
  simp only [Bool.true_and, if_true]
  by_cases c1 : t.Cut < prevCut b i
  · have : decide (prevCut b i ≤ t.Cut) = false := by simpa using c1
    simp [c1, this]
  · have e1 : decide (prevCut b i ≤ t.Cut) = true := by simpa using c1
    have c0 : 0 ≤ t.Cut := by omega
    simp only [c1, decide_false, Bool.false_eq_true, if_false, e1, Bool.and_true]
    by_cases c2 : t.Cut > b.Day
    · simp [c2, inB]; omega
    · have e2 : inB t.Cut 0 b.Day = true := inB_iff.2 ⟨c0, by omega⟩
      simp only [c2, decide_false, Bool.false_eq_true, if_false, e2, Bool.true_and]
      by_cases c3 : t.Amount < 1
      · simp [c3, inB]; omega
      · by_cases c4 : t.Amount > 100000000
        · simp [c3, c4, inB]; omega
        · have e3 : inB t.Amount 1 100000000 = true := inB_iff.2 ⟨by omega, by omega⟩
          simp only [c3, c4, decide_false, Bool.false_eq_true, if_false, e3, Bool.true_and]
          by_cases c5 : t.Left < 0
          · simp [c5, inB]; omega
          · by_cases c6 : t.Left > t.Amount
            · simp [c5, c6, inB]; omega
            · have e4 : inB t.Left 0 t.Amount = true := inB_iff.2 ⟨by omega, by omega⟩
              simp only [c5, c6, decide_false, Bool.false_eq_true, if_false, e4, Bool.true_and]
              cases h1 : (t.Debtor == t.Holder) with
              | false => simp
              | true => cases h2 : (t.Left != 0) <;> simp
theorem validBook_eq (b : Book) (hc : b.Cash.length ≤ 4611686018427387904) (hn : b.Tallies.length ≤ 4611686018427387904) : impl_ValidBook b = some (bookB b) := by
  unfold impl_ValidBook bookB
  rw [isBookDay_eq, cash_impl b hc, tallies_impl b hc hn]
  simp only [Option.bind_some]
  cases inB b.Day 0 100000 with
  | false => simp
  | true =>
    simp only [if_true, Bool.true_and]
    by_cases c1 : (b.Cash.length : Int) < 1
    · have : inB b.Cash.length 1 16 = false := inB_not.2 (.inl c1)
      simp [c1, this]
    · by_cases c2 : (b.Cash.length : Int) > 16
      · have : inB b.Cash.length 1 16 = false := inB_not.2 (.inr c2)
        simp [c1, c2, this]
      · have e1 : inB b.Cash.length 1 16 = true := inB_iff.2 ⟨by omega, by omega⟩
        simp only [c1, c2, e1, decide_false, Bool.false_eq_true, if_false, Bool.and_true]
        by_cases c3 : (b.Tallies.length : Int) > 40
        · have : ¬ b.Tallies.length ≤ 40 := by omega
          simp [c3, this]
        · have e2 : b.Tallies.length ≤ 40 := by omega
          simp only [c3, e2, decide_false, decide_true, Bool.false_eq_true, if_false, Bool.true_and]
          cases b.Cash.all amB <;> cases talliesB b <;> simp
theorem l07Ok_eq (b : Book) (hc : b.Cash.length ≤ 4611686018427387904) (hn : b.Tallies.length ≤ 4611686018427387904) : spec_l07Ok b = some (bookB b) := by
  unfold spec_l07Ok bookB
  rw [l07Day_eq, cash_spec _ hc, tallies_spec b hc hn]
  simp only [Option.bind_some]
  cases inB b.Day 0 100000 with
  | false => simp
  | true =>
    simp only [if_true, Bool.true_and]
    cases (b.Cash.all amB && inB b.Cash.length 1 16) with
    | false => simp
    | true =>
      by_cases c3 : (b.Tallies.length : Int) > 40
      · have : ¬ b.Tallies.length ≤ 40 := by omega
        simp [c3, this]
      · have e2 : b.Tallies.length ≤ 40 := by omega
        simp only [c3, e2, decide_false, decide_true, Bool.false_eq_true, if_false, Bool.true_and, if_true]
        cases talliesB b <;> simp
end Go.Proofs.Ythkbjnbbahmpkaa
/- What one gets, owes and is worth. -/
namespace Go.Proofs.Ythkbjnbbahmpkaa
open Go Go.Ab
def getsF (p : Int) (a : Int) (t : Tally) : Int := if (t.Holder == p) = true then IntKind.i64.wrap (a + t.Left) else a
def owesF (p : Int) (a : Int) (t : Tally) : Int := if (t.Debtor == p) = true then IntKind.i64.wrap (a + t.Left) else a
def getsIn (b : Book) (p : Int) : Int := b.Tallies.foldl (getsF p) 0
def owesIn (b : Book) (p : Int) : Int := b.Tallies.foldl (owesF p) 0
theorem foldl_pair {α β τ : Type} (f : α → τ → α) (g : β → τ → β) (xs : List τ) : ∀ (a : α) (b : β), xs.foldl (fun p x => (f p.1 x, g p.2 x)) (a, b) = (xs.foldl f a, xs.foldl g b) := by
  induction xs with
  | nil => intro a b; rfl
  | cons x xs ih => intro a b; exact ih _ _
/-- the code of a book and one of its people -/
def oneCode (b : Book) (p : Int) : Int := if bookB b = true then (if personB b.Cash.length p = true then 0 else 2) else 1
theorem oneCode_zero {b : Book} {p : Int} (h : oneCode b p = 0) : bookB b = true ∧ 0 ≤ p ∧ p < b.Cash.length := by
  unfold oneCode at h
  split at h
  · rename_i h1
    split at h
    · rename_i h2
      exact ⟨h1, personB_iff.1 h2⟩
    · cases h
  · cases h
end Go.Proofs.Ythkbjnbbahmpkaa
/- Marks put into tallies and books, and found again. -/
namespace Go.Proofs.Ythkbjnbbahmpkaa
open Go Go.Ab
def mTally (k : Int) : Tally := ⟨k, k + 1, k + 1 + 1, k + 1 + 1 + 1, k + 1 + 1 + 1 + 1⟩
theorem markTallyS_eq (xs : List Tally) (k : Int) (hn : xs.length ≤ 100000000000000) (h0 : 0 ≤ k) (hk : k ≤ 1152921504606846976) : laws_markTallyS_l xs k = some (k + (5 * xs.length : Nat), marks mTally 5 k xs.length) := by
  unfold laws_markTallyS_l
  have key := mark_loop (tb := laws_markTallyS_l_b1) mTally 5 xs k (by omega) (by omega) h0 hk
    (by
      intro j i zs hi hz hj hjc
      have w1 : IntKind.i64.wrap (j + 1) = j + 1 := w64 (by omega)
      have w2 : IntKind.i64.wrap (j + 1 + 1) = j + 1 + 1 := w64 (by omega)
      have w3 : IntKind.i64.wrap (j + 1 + 1 + 1) = j + 1 + 1 + 1 := w64 (by omega)
      have w4 : IntKind.i64.wrap (j + 1 + 1 + 1 + 1) = j + 1 + 1 + 1 + 1 := w64 (by omega)
      have w5 : IntKind.i64.wrap (j + 1 + 1 + 1 + 1 + 1) = j + 5 := by rw [w64 (by omega)]; omega
      simp [laws_markTallyS_l_b1, rd_coe, hi, List.getElem?_set, w1, w2, w3, w4, w5, w64s hi (show zs.length ≤ 4611686018427387904 by omega), mTally])
    (by intro j zs; simp [laws_markTallyS_l_b1])
  rw [key, Option.bind_some]
theorem markBook_eq (d : Int) (c : List Int) (t : List Tally) (k : Int) (hc : c.length ≤ 100000000000000) (ht : t.length ≤ 100000000000000) (h0 : 0 ≤ k) (hk : k ≤ 152921504606846976) :
    laws_markBook_ll d c t k = some (k + (c.length : Int) + ((5 * t.length : Nat) : Int), iota k c.length, marks mTally 5 (k + c.length) t.length) := by
  unfold laws_markBook_ll
  rw [markInt64S_eq c k (by omega) h0 (by omega)]
  simp only [Option.bind_some]
  rw [markTallyS_eq t _ ht (by omega) (by omega)]
  rfl
theorem szBook_bound (b : Book) (hb : b.ok) (r n : Int) (h : laws_szBook b n = some r) (h0 : ¬ r < 0) (hn : n ≤ 1048576) (hm : -4611686018427387904 ≤ n) : r = n - b.Cash.length - b.Tallies.length ∧ (b.Cash.length : Int) + b.Tallies.length ≤ n := by
  have hc := ok_cash hb
  have ht := ok_tallies hb
  unfold laws_szBook at h
  obtain ⟨q, hq⟩ := szI_some b.Cash n
  rw [hq, Option.bind_some] at h
  unfold laws_szInt64S at hq
  rw [w64 (by omega)] at hq
  by_cases hq0 : q < 0
  · rw [if_pos (by simpa using hq0)] at h; cases h; omega
  rw [if_neg (by simpa using hq0)] at h
  obtain ⟨p, hp⟩ := szT_some b.Tallies q
  rw [hp, Option.bind_some] at h
  by_cases hc2 : n - (b.Cash.length : Int) < 0
  · rw [if_pos (by simpa using hc2)] at hq; cases hq; omega
  rw [if_neg (by simpa using hc2)] at hq
  obtain rfl := Option.some.inj hq
  unfold laws_szTallyS at hp
  rw [w64 (by omega)] at hp
  by_cases hp0 : p < 0
  · rw [if_pos (by simpa using hp0)] at h; cases h; omega
  rw [if_neg (by simpa using hp0)] at h
  obtain rfl := Option.some.inj h
  by_cases hc3 : n - (b.Cash.length : Int) - b.Tallies.length < 0
  · rw [if_pos (by simpa using hc3)] at hp; cases hp; omega
  rw [if_neg (by simpa using hc3)] at hp
  obtain rfl := Option.some.inj hp
  exact ⟨by omega, by omega⟩
end Go.Proofs.Ythkbjnbbahmpkaa
/- What is known of a valid book. -/
namespace Go.Proofs.Ythkbjnbbahmpkaa
open Go Go.Ab
def TlI (n : Int) (t : Tally) : Prop := (0 ≤ t.Debtor ∧ t.Debtor < n) ∧ (0 ≤ t.Holder ∧ t.Holder < n) ∧ (0 ≤ t.Left ∧ t.Left ≤ 100000000) ∧ (t.Debtor = t.Holder → t.Left = 0)
structure BkI (b : Book) : Prop where
  c1 : 1 ≤ b.Cash.length
  cn : b.Cash.length ≤ 16
  tn : b.Tallies.length ≤ 40
  ca : ∀ c ∈ b.Cash, 0 ≤ c ∧ c ≤ 100000000
  ta : ∀ t ∈ b.Tallies, TlI b.Cash.length t
theorem BkI.of {b : Book} (h : bookB b = true) : BkI b := by
  unfold bookB at h
  simp only [Bool.and_eq_true, decide_eq_true_eq, List.all_eq_true] at h
  obtain ⟨_, ⟨h1, h2⟩, h3, h4⟩ := h
  obtain ⟨h5, h6⟩ := inB_iff.1 h2
  refine ⟨by omega, by omega, h3, fun c hc => inB_iff.1 (h1 c hc), fun t ht => ?_⟩
  unfold talliesB at h4
  rw [List.all_eq_true] at h4
  obtain ⟨i, hi, rfl⟩ := List.getElem_of_mem ht
  have := h4 i (List.mem_range.2 hi)
  rw [List.getElem?_eq_getElem hi, Option.all_some] at this
  unfold tallyB personB at this
  simp only [Bool.and_eq_true] at this
  obtain ⟨g1, g2, _, g4, g5, g6, _⟩ := this
  have g1 : 0 ≤ b.Tallies[i].Debtor ∧ b.Tallies[i].Debtor < (b.Cash.length : Int) := by simpa using g1
  have g2 : 0 ≤ b.Tallies[i].Holder ∧ b.Tallies[i].Holder < (b.Cash.length : Int) := by simpa using g2
  have g4 := inB_iff.1 g4
  have g5 := inB_iff.1 g5
  refine ⟨⟨g1.1, by omega⟩, ⟨g2.1, by omega⟩, ⟨g5.1, by omega⟩, fun e => ?_⟩
  simp [e] at g6
  exact g6
end Go.Proofs.Ythkbjnbbahmpkaa
/- Loops that compare and weigh lists. -/
namespace Go.Proofs.Ythkbjnbbahmpkaa
open Go Go.Ab
theorem eqS_loop {τ : Type} [DecidableEq τ] {tb : Int → Option (Int ⊕ (Unit ⊕ Unit))} (a b : List τ) (h : a.length ≤ 4611686018427387904) (hl : a.length = b.length)
    (hs : ∀ (i : Nat) (h1 : i < a.length) (h2 : i < b.length), tb (i : Int) = some (if a[i] = b[i] then .inl (IntKind.i64.wrap ((i : Int) + 1)) else .inr (.inl ()))) (he : tb (a.length : Int) = some (.inr (.inr ()))) :
    Lw tb 0 = some (if a = b then .inr () else .inl ()) := by
  have key := scan_all (tb := tb) a.length h (fun i => decide (a[i]? = b[i]?)) () ()
    (by
      intro i hi
      have hi2 : i < b.length := by omega
      rw [hs i hi hi2, List.getElem?_eq_getElem hi, List.getElem?_eq_getElem hi2]
      by_cases he : a[i] = b[i] <;> simp [he])
    he
  rw [key, all_eq hl]
  by_cases he : a = b <;> simp [he]
theorem sz_loop {tb : Int × Int → Option ((Int × Int) ⊕ (Unit ⊕ Int))} (n : Nat) (hs : ∀ (a : Int) (i : Nat), i < n → (∃ r, tb (a, (i : Int)) = some (.inl (r, ((i + 1 : Nat) : Int)))) ∨ tb (a, (i : Int)) = some (.inr (.inl ()))) (he : ∀ a, tb (a, (n : Int)) = some (.inr (.inr a))) (a : Int) :
    ∃ r, Lw tb (a, 0) = some r := by
  have : ∃ r r2, Lw tb (a, 0) = some r ∧ Lw tb (a, 0) = some r2 ∧ r = r2 := by
    refine Lw_sim (tb := tb) (tb2 := tb) (fun s => n - s.2.toNat) (fun s s2 => s = s2 ∧ ∃ i : Nat, s.2 = i ∧ i ≤ n) _ ?_ _ _ _ rfl ⟨rfl, 0, rfl, by omega⟩
    rintro ⟨a, j⟩ s2 ⟨rfl, i, hi, hl⟩
    simp only at hi
    subst hi
    by_cases hlt : i < n
    · rcases hs a i hlt with ⟨r, hr⟩ | hr
      · exact .inl ⟨_, _, hr, hr, ⟨rfl, i + 1, rfl, by omega⟩, by simp; omega⟩
      · exact .inr ⟨_, _, hr, hr, rfl⟩
    · have : i = n := by omega
      subst this
      exact .inr ⟨_, _, he a, he a, rfl⟩
  obtain ⟨r, _, hr, _, _⟩ := this
  exact ⟨r, hr⟩
/-! arrays -/
theorem rdA_coe {n : Nat} {τ : Type} (g : Ar n τ) (i : Nat) (h : i < n) : rdA g (i : Int) = some (g.l[i]'(by rw [g.h]; exact h)) := by
  unfold rdA
  rw [if_pos ⟨by omega, by omega⟩, Int.toNat_natCast, List.getElem?_eq_getElem]
theorem ar_ext {n : Nat} {τ : Type} {a b : Ar n τ} : a = b ↔ a.l = b.l := by cases a; cases b; simp
theorem ar_copy {n : Nat} {τ : Type} {tb : Int × Ar n τ → Option ((Int × Ar n τ) ⊕ Ar n τ)} (a z : Ar n τ) (hs : ∀ (i : Nat) (h : i < n) (y : Ar n τ), tb ((i : Int), y) = some (.inl (((i + 1 : Nat) : Int), y.set i (a.l[i]'(by rw [a.h]; exact h))))) (he : ∀ y, tb ((n : Int), y) = some (.inr y)) :
    Lw tb (0, z) = some a := by
  have hz := z.h
  have ha := a.h
  have key := Lw_run (tb := tb) (fun i => ((i : Int), (⟨a.l.take i ++ z.l.drop (min i n), by simp; omega⟩ : Ar n τ))) n (r := a)
    (by
      intro i hi
      rw [hs i hi]
      congr 3
      rw [ar_ext]
      show (a.l.take i ++ z.l.drop (min i n)).set i _ = a.l.take (i + 1) ++ z.l.drop (min (i + 1) n)
      rw [Nat.min_eq_left (by omega), Nat.min_eq_left (by omega), List.set_append_right _ _ (by simp; omega), List.length_take, Nat.min_eq_left (by omega), Nat.sub_self, List.drop_eq_getElem_cons (by omega), List.set_cons_zero, List.take_succ_eq_append_getElem (by omega), List.append_assoc]
      rfl)
    (by
      rw [he]
      congr 2
      rw [ar_ext]
      show a.l.take n ++ z.l.drop (min n n) = a.l
      rw [List.take_of_length_le (by omega), Nat.min_self, List.drop_eq_nil_of_le (by omega), List.append_nil])
  have e : (((0 : Nat) : Int), (⟨a.l.take 0 ++ z.l.drop (min 0 n), by simp; omega⟩ : Ar n τ)) = (0, z) := by
    congr 1
  rw [e] at key
  exact key
theorem foldr_all (p : Nat → Bool) (r : Bool) (l : List Nat) : l.foldr (fun j b => p j && b) r = (l.all p && r) := by
  induction l with
  | nil => simp
  | cons x l ih => simp [ih, Bool.and_assoc]
theorem arB_eq {n : Nat} (g h : Ar n Int) : arB n (fun j => g.get 0 j == h.get 0 j) true = decide (g = h) := by
  unfold arB
  rw [foldr_all, Bool.and_true, Bool.eq_iff_iff, List.all_eq_true, decide_eq_true_eq, ar_ext]
  have hg := g.h
  have hh := h.h
  constructor
  · intro hp
    refine List.ext_getElem (by omega) fun i h1 h2 => ?_
    have := hp i (by simpa [hg] using h1)
    simpa [Ar.get, List.getD_eq_getElem?_getD, h1, h2] using this
  · intro e j _
    simp [Ar.get, e]
end Go.Proofs.Ythkbjnbbahmpkaa
/- Debts: equal, marked, summed in a table, told from it. -/
namespace Go.Proofs.Ythkbjnbbahmpkaa
open Go Go.Ab
theorem debt_eq {x y : Debt} : x = y ↔ x.From = y.From ∧ x.To = y.To ∧ x.Amount = y.Amount := by cases x; cases y; simp
theorem eqDebt_eq (x y : Debt) : laws_eqDebt x y = some (decide (x = y)) := by
  unfold laws_eqDebt
  simp only [debt_eq, bne_iff_ne, ne_eq, ite_not]
  repeat' split
  all_goals simp_all
theorem eqDebtS_eq (a b : List Debt) (h : a.length ≤ 4611686018427387904) : laws_eqDebtS a b = some (decide (a = b)) := by
  unfold laws_eqDebtS
  by_cases hl : a.length = b.length
  · rw [if_neg (by simp [hl]), eqS_loop a b h hl (fun i h1 h2 => by
      simp only [laws_eqDebtS_b1, rd_coe, List.getElem?_eq_getElem h1, List.getElem?_eq_getElem h2, Option.bind_some, eqDebt_eq]
      by_cases he : a[i] = b[i] <;> simp [he, h1]) (by simp [laws_eqDebtS_b1])]
    by_cases he : a = b <;> simp [he]
  · rw [if_pos (by simp; omega)]
    have : a ≠ b := fun h => hl (by rw [h])
    simp [this]
def mDebt (k : Int) : Debt := ⟨k, k + 1, k + 1 + 1⟩
theorem markDebtS_eq (xs : List Debt) (k : Int) (hn : xs.length ≤ 100000000000000) (h0 : 0 ≤ k) (hk : k ≤ 1152921504606846976) : laws_markDebtS_l xs k = some (k + (3 * xs.length : Nat), marks mDebt 3 k xs.length) := by
  unfold laws_markDebtS_l
  have key := mark_loop (tb := laws_markDebtS_l_b1) mDebt 3 xs k (by omega) (by omega) h0 hk
    (by
      intro j i zs hi hz hj hjc
      have w1 : IntKind.i64.wrap (j + 1) = j + 1 := w64 (by omega)
      have w2 : IntKind.i64.wrap (j + 1 + 1) = j + 1 + 1 := w64 (by omega)
      have w3 : IntKind.i64.wrap (j + 1 + 1 + 1) = j + 3 := by rw [w64 (by omega)]; omega
      simp [laws_markDebtS_l_b1, rd_coe, hi, List.getElem?_set, w1, w2, w3, w64s hi (show zs.length ≤ 4611686018427387904 by omega), mDebt])
    (by intro j zs; simp [laws_markDebtS_l_b1])
  rw [key, Option.bind_some]
theorem markDebtS0 (k : Int) : laws_markDebtS_n k = some k := by
  unfold laws_markDebtS_n
  rw [Lw_stop (r := k) (by simp [laws_markDebtS_n_b1]), Option.bind_some]
theorem heldDebtS_eq (n : Nat) (k : Int) (hn : n ≤ 100000000000000) (h0 : 0 ≤ k) (hk : k ≤ 1152921504606846976) : laws_heldDebtS (marks mDebt 3 k n) k = some (k + (3 * n : Nat)) := by
  unfold laws_heldDebtS
  have key := held_loop (tb := laws_heldDebtS_b1 (marks mDebt 3 k n)) mDebt 3 n k (by omega) (by omega) h0 hk
    (by
      intro j i hi hg hj hjc
      have w1 : IntKind.i64.wrap (j + 1) = j + 1 := w64 (by omega)
      have w2 : IntKind.i64.wrap (j + 1 + 1) = j + 1 + 1 := w64 (by omega)
      have w3 : IntKind.i64.wrap (j + 1 + 1 + 1) = j + 3 := by rw [w64 (by omega)]; omega
      simp only [laws_heldDebtS_b1, rd_coe, hg, marks_len, Option.bind_some, w1, w2, w3, w64s hi (show n ≤ 4611686018427387904 by omega)]
      simp [hi, mDebt])
    (by intro j; simp [laws_heldDebtS_b1, marks_len])
  rw [key, Option.bind_some]
/-- a debt among so many people -/
def DbI (n : Int) (d : Debt) : Prop := (0 ≤ d.From ∧ d.From < n) ∧ (0 ≤ d.To ∧ d.To < n) ∧ d.From ≠ d.To ∧ 1 ≤ d.Amount ∧ d.Amount ≤ 100000000
theorem validDebts_eq (n : Int) (xs : List Debt) (hn : 1 ≤ n ∧ n ≤ 16) (hl : xs.length ≤ 60) (hx : ∀ d ∈ xs, DbI n d) : impl_ValidDebts n xs = some true := by
  unfold impl_ValidDebts
  have key := scan_all (tb := impl_ValidDebts_b1 n xs) xs.length (by omega) (fun i => true) () ()
    (by
      intro i hi
      obtain ⟨⟨a1, a2⟩, ⟨a3, a4⟩, a5, a6, a7⟩ := hx _ (List.getElem_mem hi)
      have b1 : ¬ xs[i].From < 0 := by omega
      have b2 : ¬ n ≤ xs[i].From := by omega
      have b3 : ¬ xs[i].To < 0 := by omega
      have b4 : ¬ n ≤ xs[i].To := by omega
      have b6 : ¬ xs[i].Amount < 1 := by omega
      have b7 : ¬ 100000000 < xs[i].Amount := by omega
      simp [impl_ValidDebts_b1, rd_coe, hi, b1, b2, b3, b4, a5, b6, b7])
    (by simp [impl_ValidDebts_b1])
  have c1 : ¬ n < 1 := by omega
  have c2 : ¬ n > 16 := by omega
  have c3 : ¬ (xs.length : Int) > 60 := by omega
  simp [c1, c2, c3, key]
theorem rdA_set {n : Nat} {τ : Type} (g : Ar n τ) (i : Nat) (h : i < n) : ∃ u, rdA g (i : Int) = some u := ⟨_, rdA_coe g i h⟩
theorem sums_same (xs : List Debt) (hl : xs.length ≤ 60) (hx : ∀ d ∈ xs, DbI 16 d) : ∃ g, impl_sumsOf xs = some g ∧ spec_l02Sums xs = some g := by
  have : ∃ r r2 : Ar 16 (Ar 16 Int), Lw (impl_sumsOf_b1 xs) (0, (Ar.rep 16 (Ar.rep 16 0))) = some r ∧ Lw (spec_l02Sums_b1 xs) (0, (Ar.rep 16 (Ar.rep 16 0))) = some r2 ∧ r = r2 := by
    refine Lw_sim (tb := impl_sumsOf_b1 xs) (tb2 := spec_l02Sums_b1 xs) (fun s => xs.length - s.1.toNat) (fun s s2 => s = s2 ∧ ∃ i : Nat, s.1 = i ∧ i ≤ xs.length) _ ?_ _ _ _ rfl ⟨rfl, 0, rfl, by omega⟩
    rintro ⟨j, g⟩ s2 ⟨rfl, i, hi, hil⟩
    simp only at hi
    subst hi
    by_cases hlt : i < xs.length
    · have hr : rd xs (i : Int) = some xs[i] := by rw [rd_coe, List.getElem?_eq_getElem hlt]
      have w := w64s hlt (by omega)
      obtain ⟨⟨a1, a2⟩, ⟨a3, a4⟩, _⟩ := hx _ (List.getElem_mem hlt)
      obtain ⟨f, hf⟩ : ∃ f : Nat, xs[i].From = f := ⟨xs[i].From.toNat, by omega⟩
      obtain ⟨t, ht⟩ : ∃ t : Nat, xs[i].To = t := ⟨xs[i].To.toNat, by omega⟩
      obtain ⟨u, hu⟩ := rdA_set g f (by omega)
      obtain ⟨v, hv⟩ := rdA_set u t (by omega)
      rw [← hf] at hu
      rw [← ht] at hv
      exact .inl ⟨_, _, by simp [impl_sumsOf_b1, hlt, hr, hu, hv, w]; rfl, by simp [spec_l02Sums_b1, hlt, hr, hu, hv, w], ⟨rfl, i + 1, rfl, by omega⟩, by simp; omega⟩
    · exact .inr ⟨g, g, by simp [impl_sumsOf_b1, hlt], by simp [spec_l02Sums_b1, hlt], rfl⟩
  obtain ⟨r, _, e1, e2, rfl⟩ := this
  exact ⟨r, by unfold impl_sumsOf; rw [e1]; rfl, by unfold spec_l02Sums; rw [e2]; rfl⟩
theorem row_same (g : Ar 16 (Ar 16 Int)) (i : Nat) (u : Ar 16 Int) (hu : rdA g (i : Int) = some u) (o : List Debt) (ho : o.length ≤ 1000) :
    ∃ r r2, Lw (impl_sums_debts_b2 (i : Int) u) (0, o) = some r ∧ Lw (spec_l02List_b2 g (i : Int)) (0, o) = some r2 ∧ r = r2 ∧ ∀ z : List Debt, r = .inr z → z.length ≤ o.length + 16 := by
  refine Lw_sim (tb := impl_sums_debts_b2 (i : Int) u) (tb2 := spec_l02List_b2 g (i : Int)) (fun s => 16 - s.1.toNat) (fun s s2 => s = s2 ∧ ∃ k : Nat, s.1 = k ∧ k ≤ 16 ∧ s.2.length ≤ o.length + k) _ ?_ _ _ _ rfl ⟨rfl, 0, rfl, by omega, by simp⟩
  rintro ⟨j, z⟩ s2 ⟨rfl, k, hk, hkl, hz⟩
  simp only at hk hz
  subst hk
  by_cases hlt : k < 16
  · have h16 : (k : Int) < 16 := by omega
    obtain ⟨v, hv⟩ := rdA_set u k hlt
    have w := w64s hlt (by omega)
    by_cases c1 : v > 100000000
    · exact .inr ⟨.inl (), .inl (), by simp [impl_sums_debts_b2, h16, hv, c1], by simp [spec_l02List_b2, h16, hu, hv, c1], rfl, fun z h => by cases h⟩
    · by_cases c2 : v > 0
      · have ap : app 24 z [⟨(i : Int), (k : Int), v⟩] = some (z ++ [⟨(i : Int), (k : Int), v⟩]) := app_some (by simp; omega) (by decide)
        exact .inl ⟨(((k + 1 : Nat) : Int), z ++ [⟨(i : Int), (k : Int), v⟩]), _, by simp [impl_sums_debts_b2, h16, hv, c1, c2, ap, w], by simp [spec_l02List_b2, h16, hu, hv, c1, c2, ap, w], ⟨rfl, k + 1, rfl, by omega, by simp; omega⟩, by simp; omega⟩
      · exact .inl ⟨(((k + 1 : Nat) : Int), z), _, by simp [impl_sums_debts_b2, h16, hv, c1, c2, w], by simp [spec_l02List_b2, h16, hu, hv, c1, c2, w], ⟨rfl, k + 1, rfl, by omega, by simp; omega⟩, by simp; omega⟩
  · have h16 : ¬ (k : Int) < 16 := by omega
    exact .inr ⟨.inr z, .inr z, by simp [impl_sums_debts_b2, h16], by simp [spec_l02List_b2, h16], rfl, fun z' h => by cases h; omega⟩
theorem list_same (g : Ar 16 (Ar 16 Int)) : (impl_sums_debts g = some (.inl ()) ∧ spec_l02List g = some ([], 3)) ∨ ∃ o : List Debt, impl_sums_debts g = some (.inr o) ∧ spec_l02List g = some (o, 0) ∧ o.length ≤ 60 := by
  have : ∃ r r2, Lw (impl_sums_debts_b1 g) (0, []) = some r ∧ Lw (spec_l02List_b1 g) (0, []) = some r2 ∧ r = r2 := by
    refine Lw_sim (tb := impl_sums_debts_b1 g) (tb2 := spec_l02List_b1 g) (fun s => 16 - s.1.toNat) (fun s s2 => s = s2 ∧ ∃ k : Nat, s.1 = k ∧ k ≤ 16 ∧ s.2.length ≤ 16 * k) _ ?_ _ _ _ rfl ⟨rfl, 0, rfl, by omega, by simp⟩
    rintro ⟨j, z⟩ s2 ⟨rfl, k, hk, hkl, hz⟩
    simp only at hk hz
    subst hk
    by_cases hlt : k < 16
    · have h16 : (k : Int) < 16 := by omega
      obtain ⟨u, hu⟩ := rdA_set g k hlt
      have w := w64s hlt (by omega)
      obtain ⟨r, _, e1, e2, rfl, e3⟩ := row_same g k u hu z (by omega)
      rcases r with r | r
      · exact .inr ⟨.inl (), .inl (), by simp [impl_sums_debts_b1, h16, hu, e1], by simp [spec_l02List_b1, h16, e2], rfl⟩
      · have := e3 r rfl
        exact .inl ⟨(((k + 1 : Nat) : Int), r), _, by simp [impl_sums_debts_b1, h16, hu, e1, w], by simp [spec_l02List_b1, h16, e2, w], ⟨rfl, k + 1, rfl, by omega, by simp only; omega⟩, by simp; omega⟩
    · have h16 : ¬ (k : Int) < 16 := by omega
      exact .inr ⟨.inr z, .inr z, by simp [impl_sums_debts_b1, h16], by simp [spec_l02List_b1, h16], rfl⟩
  obtain ⟨r, _, e1, e2, rfl⟩ := this
  unfold impl_sums_debts spec_l02List
  rw [e1, e2]
  rcases r with r | r
  · exact .inl ⟨by simp, by simp⟩
  · by_cases h : (r.length : Int) > 60
    · exact .inl ⟨by simp [h], by simp [h]⟩
    · exact .inr ⟨r, by simp [h], by simp [h], by omega⟩
end Go.Proofs.Ythkbjnbbahmpkaa
/- The debts of a book. -/
namespace Go.Proofs.Ythkbjnbbahmpkaa
open Go Go.Ab
theorem tallies_loop (b : Book) (hb : BkI b) : ∃ r : List Debt, Lw (impl_DebtsIn_b1 b) (0, []) = some r ∧ Lw (spec_DebtsIn_b1 b) (0, []) = some r ∧ r.length ≤ 40 ∧ ∀ d ∈ r, DbI b.Cash.length d := by
  have tn := hb.tn
  have e : Lw (spec_DebtsIn_b1 b) (0, []) = Lw (impl_DebtsIn_b1 b) (0, []) := rfl
  rw [e]
  have : ∃ r r2 : List Debt, Lw (impl_DebtsIn_b1 b) (0, []) = some r ∧ Lw (impl_DebtsIn_b1 b) (0, []) = some r2 ∧ r.length ≤ 40 ∧ ∀ d ∈ r, DbI b.Cash.length d := by
    refine Lw_sim (tb := impl_DebtsIn_b1 b) (tb2 := impl_DebtsIn_b1 b) (fun s => b.Tallies.length - s.1.toNat) (fun s s2 => s = s2 ∧ ∃ i : Nat, s.1 = i ∧ i ≤ b.Tallies.length ∧ s.2.length ≤ i ∧ ∀ d ∈ s.2, DbI b.Cash.length d) _ ?_ _ _ _ rfl ⟨rfl, 0, rfl, by omega, by simp, by simp⟩
    rintro ⟨j, o⟩ s2 ⟨rfl, i, hi, hil, hol, hod⟩
    simp only at hi hol hod
    subst hi
    by_cases hlt : i < b.Tallies.length
    · have hr : rd b.Tallies (i : Int) = some b.Tallies[i] := by rw [rd_coe, List.getElem?_eq_getElem hlt]
      have w := w64s hlt (by omega)
      obtain ⟨t1, t2, t3, t4⟩ := hb.ta _ (List.getElem_mem hlt)
      by_cases c1 : b.Tallies[i].Left > 0
      · have ap : app 24 o [⟨b.Tallies[i].Debtor, b.Tallies[i].Holder, b.Tallies[i].Left⟩] = some (o ++ [⟨b.Tallies[i].Debtor, b.Tallies[i].Holder, b.Tallies[i].Left⟩]) := app_some (by simp; omega) (by decide)
        have : impl_DebtsIn_b1 b ((i : Int), o) = some (.inl (((i + 1 : Nat) : Int), o ++ [⟨b.Tallies[i].Debtor, b.Tallies[i].Holder, b.Tallies[i].Left⟩])) := by simp [impl_DebtsIn_b1, hlt, hr, c1, ap, w]
        refine .inl ⟨_, _, this, this, ⟨rfl, i + 1, rfl, by omega, by simp; omega, fun d hd => ?_⟩, by simp; omega⟩
        rcases List.mem_append.1 hd with h | h
        · exact hod d h
        · obtain rfl := List.mem_singleton.1 h
          exact ⟨t1, t2, fun h => by have := t4 h; omega, by simp only; omega, by simp only; omega⟩
      · have : impl_DebtsIn_b1 b ((i : Int), o) = some (.inl (((i + 1 : Nat) : Int), o)) := by simp [impl_DebtsIn_b1, hlt, hr, c1, w]
        exact .inl ⟨_, _, this, this, ⟨rfl, i + 1, rfl, by omega, by simp only; omega, hod⟩, by simp; omega⟩
    · have : impl_DebtsIn_b1 b ((i : Int), o) = some (.inr o) := by simp [impl_DebtsIn_b1, hlt]
      exact .inr ⟨_, _, this, this, by omega, hod⟩
  obtain ⟨r, _, e1, _, e2⟩ := this
  exact ⟨r, e1, e1, e2⟩
theorem debtsIn_same (b : Book) (hc : b.Cash.length ≤ 4611686018427387904) (ht : b.Tallies.length ≤ 4611686018427387904) :
    (∃ c, impl_DebtsIn b = some (.inl c) ∧ spec_DebtsIn b = some ([], c)) ∨ ∃ o : List Debt, impl_DebtsIn b = some (.inr o) ∧ spec_DebtsIn b = some (o, 0) ∧ o.length ≤ 60 := by
  unfold impl_DebtsIn spec_DebtsIn
  rw [validBook_eq b hc ht, l07Ok_eq b hc ht]
  cases hB : bookB b with
  | false => exact .inl ⟨1, by simp, by simp⟩
  | true =>
    have hb := BkI.of hB
    have cn := hb.cn
    have c1 := hb.c1
    obtain ⟨L, l1, l2, l3, l4⟩ := tallies_loop b hb
    have hv := validDebts_eq (b.Cash.length : Int) L ⟨by omega, by omega⟩ (by omega) l4
    obtain ⟨g, g1, g2⟩ := sums_same L (by omega) (fun d hd => by
      obtain ⟨a1, a2, a3, a4⟩ := l4 d hd
      exact ⟨⟨a1.1, by omega⟩, ⟨a2.1, by omega⟩, a3, a4⟩)
    rcases list_same g with ⟨e1, e2⟩ | ⟨o, e1, e2, e3⟩
    · exact .inl ⟨3, by simp [l1, impl_JoinDebts, hv, g1, e1], by simp [l2, g2, e2]⟩
    · exact .inr ⟨o, by simp [l1, impl_JoinDebts, hv, g1, e1], by simp [l2, g2, e2], e3⟩
end Go.Proofs.Ythkbjnbbahmpkaa

/- Plain lemmas. -/
import Derived.Test.YtpdmcpnabjifhaaOkStateOn
set_option linter.unusedVariables false
set_option linter.unusedSimpArgs false
/- Lists of numbers: equal, copied. -/
namespace Go.Proofs.Ytpdmcpnabjifhaa
open Go Go.Ab
theorem toInt64S_eq (a : List Int) (h : a.length * 8 ≤ 140737488351232) : laws_toInt64S a = some a := by
  unfold laws_toInt64S
  have key := copy_loop (tb := laws_toInt64S_b1 a) a (List.replicate a.length 0) (by omega) (by simp)
    (by intro i zs hi hz; simp [laws_toInt64S_b1, rd_coe, hi, hz]) (by intro zs hz; simp [laws_toInt64S_b1])
  rw [mkS_some h (by omega), Option.bind_some, key, Option.bind_some]
theorem eqInt64S_eq (a b : List Int) (h : a.length ≤ 4611686018427387904) : laws_eqInt64S a b = some (decide (a = b)) := by
  unfold laws_eqInt64S
  by_cases hl : a.length = b.length
  · have key := scan_all (tb := laws_eqInt64S_b1 a b) a.length h (fun i => decide (a[i]? = b[i]?)) () ()
      (by
        intro i hi
        have hi2 : i < b.length := by omega
        simp only [laws_eqInt64S_b1, rd_coe, List.getElem?_eq_getElem hi, List.getElem?_eq_getElem hi2, Option.bind_some]
        by_cases he : a[i] = b[i] <;> simp [he, hi])
      (by simp [laws_eqInt64S_b1])
    rw [if_neg (by simp [hl]), key, all_eq hl]
    by_cases he : a = b <;> simp [he]
  · rw [if_pos (by simp; omega)]
    have : a ≠ b := fun h => hl (by rw [h])
    simp [this]
end Go.Proofs.Ytpdmcpnabjifhaa
/- Marks put into numbers, and found again. -/
namespace Go.Proofs.Ytpdmcpnabjifhaa
open Go Go.Ab
def iota (k : Int) (n : Nat) : List Int := (List.range n).map fun (i : Nat) => k + (i : Int)
theorem iota_len (k : Int) (n : Nat) : (iota k n).length = n := by simp [iota]
theorem iota_get (k : Int) (n i : Nat) (h : i < n) : (iota k n)[i]? = some (k + i) := by
  simp [iota, h]
theorem iota_succ (k : Int) (n : Nat) : iota k (n + 1) = iota k n ++ [k + n] := by simp [iota, List.range_succ]
theorem markInt64S_eq (xs : List Int) (k : Int) (h : xs.length ≤ 1152921504606846976) (h0 : 0 ≤ k) (hk : k ≤ 1152921504606846976) : laws_markInt64S_l xs k = some (k + xs.length, iota k xs.length) := by
  unfold laws_markInt64S_l
  have key := Lw_run (tb := laws_markInt64S_l_b1) (fun i => (k + (i : Int), (i : Int), iota k i ++ xs.drop i)) xs.length (r := (k + (xs.length : Int), iota k xs.length))
    (by
      intro i hi
      have hl : (iota k i ++ xs.drop i).length = xs.length := by simp [iota_len]; omega
      simp only [laws_markInt64S_l_b1, hl]
      rw [if_pos (by simpa using hi), rd_coe, List.getElem?_eq_getElem (by omega), Option.bind_some, w64 (by omega), w64s hi (by omega)]
      congr 3
      · omega
      · simp only [Int.toNat_natCast, Prod.mk.injEq, true_and]
        rw [List.set_append_right _ _ (by simp [iota_len]), iota_len, Nat.sub_self, List.drop_eq_getElem_cons hi, List.set_cons_zero, iota_succ, List.append_assoc]
        rfl)
    (by
      have hl : (iota k xs.length ++ xs.drop xs.length).length = xs.length := by simp [iota_len]
      simp only [laws_markInt64S_l_b1, hl]
      rw [if_neg (by simp)]
      simp)
  have e : ((k + ((0 : Nat) : Int)), ((0 : Nat) : Int), iota k 0 ++ xs.drop 0) = (k, 0, xs) := by simp [iota]
  rw [e] at key
  rw [key, Option.bind_some]
theorem heldInt64S_eq (n : Nat) (k : Int) (h : n ≤ 1152921504606846976) (h0 : 0 ≤ k) (hk : k ≤ 1152921504606846976) : laws_heldInt64S (iota k n) k = some (k + n) := by
  unfold laws_heldInt64S
  have key := Lw_run (tb := laws_heldInt64S_b1 (iota k n)) (fun i => (k + (i : Int), (i : Int))) n (r := .inr (k + (n : Int)))
    (by
      intro i hi
      simp only [laws_heldInt64S_b1, iota_len]
      rw [if_pos (by simpa using hi), rd_coe, iota_get _ _ _ hi, Option.bind_some, if_neg (by simp), w64 (by omega), w64s hi (by omega)]
      congr 3; omega)
    (by simp [laws_heldInt64S_b1, iota_len])
  have e : ((k + ((0 : Nat) : Int)), ((0 : Nat) : Int)) = (k, 0) := by simp
  rw [e] at key
  rw [key, Option.bind_some]
end Go.Proofs.Ytpdmcpnabjifhaa
/- Marks put into nothing. -/
namespace Go.Proofs.Ytpdmcpnabjifhaa
open Go Go.Ab
theorem markInt64S_2_eq (k : Int) : laws_markInt64S_n k = some k := by
  unfold laws_markInt64S_n
  rw [Lw_stop (r := k) (by simp [laws_markInt64S_n_b1]), Option.bind_some]
end Go.Proofs.Ytpdmcpnabjifhaa
/- Tallies: equal, copied. -/
namespace Go.Proofs.Ytpdmcpnabjifhaa
open Go Go.Ab
theorem tally_eq {x y : Tally} : x = y ↔ x.Debtor = y.Debtor ∧ x.Holder = y.Holder ∧ x.Cut = y.Cut ∧ x.Amount = y.Amount ∧ x.Left = y.Left := by
  cases x; cases y; simp
theorem eqTally_eq (x y : Tally) : laws_eqTally x y = some (decide (x = y)) := by
  unfold laws_eqTally
  simp only [tally_eq, bne_iff_ne, ne_eq, ite_not]
  repeat' split
  all_goals simp_all
theorem eqTallyS_eq (a b : List Tally) (h : a.length ≤ 4611686018427387904) : laws_eqTallyS a b = some (decide (a = b)) := by
  unfold laws_eqTallyS
  by_cases hl : a.length = b.length
  · have key := scan_all (tb := laws_eqTallyS_b1 a b) a.length h (fun i => decide (a[i]? = b[i]?)) () ()
      (by
        intro i hi
        have hi2 : i < b.length := by omega
        simp only [laws_eqTallyS_b1, rd_coe, List.getElem?_eq_getElem hi, List.getElem?_eq_getElem hi2, Option.bind_some, eqTally_eq]
        by_cases he : a[i] = b[i] <;> simp [he, hi])
      (by simp [laws_eqTallyS_b1])
    rw [if_neg (by simp [hl]), key, all_eq hl]
    by_cases he : a = b <;> simp [he]
  · rw [if_pos (by simp; omega)]
    have : a ≠ b := fun h => hl (by rw [h])
    simp [this]
end Go.Proofs.Ytpdmcpnabjifhaa
/- Tallies: copied. -/
namespace Go.Proofs.Ytpdmcpnabjifhaa
open Go Go.Ab
theorem toTallyS_eq (a : List Tally) (h : a.length * 40 ≤ 140737488351232) : laws_toTallyS a = some a := by
  unfold laws_toTallyS
  have key := copy_loop (tb := laws_toTallyS_b1 a) a (List.replicate a.length ⟨0, 0, 0, 0, 0⟩) (by omega) (by simp)
    (by intro i zs hi hz; simp [laws_toTallyS_b1, laws_toTally, rd_coe, hi, hz]) (by intro zs hz; simp [laws_toTallyS_b1])
  rw [mkS_some h (by omega), Option.bind_some, key, Option.bind_some]
end Go.Proofs.Ytpdmcpnabjifhaa
/- Books: equal, copied, weighed. -/
namespace Go.Proofs.Ytpdmcpnabjifhaa
open Go Go.Ab
theorem book_eq {x y : Book} : x = y ↔ x.Day = y.Day ∧ x.Cash = y.Cash ∧ x.Tallies = y.Tallies := by
  cases x; cases y; simp
theorem ok_cash {b : Book} (h : b.ok) : b.Cash.length * 8 ≤ 140737488351232 := h.2.1.2.1
theorem ok_tallies {b : Book} (h : b.ok) : b.Tallies.length * 40 ≤ 140737488351232 := h.2.2.2.1
theorem toBook_eq (b : Book) (h : b.ok) : laws_toBook b = some (b.Day, b.Cash, b.Tallies) := by
  unfold laws_toBook
  rw [toInt64S_eq _ (ok_cash h), Option.bind_some, toTallyS_eq _ (ok_tallies h), Option.bind_some]
theorem eqBook_eq (x y : Book) (h : x.ok) : laws_eqBook x y = some (decide (x = y)) := by
  have h1 := (ok_cash h)
  have h2 := (ok_tallies h)
  unfold laws_eqBook
  rw [eqInt64S_eq _ _ (by omega), eqTallyS_eq _ _ (by omega)]
  by_cases e1 : x.Day = y.Day <;> by_cases e2 : x.Cash = y.Cash <;> by_cases e3 : x.Tallies = y.Tallies <;> simp [book_eq, e1, e2, e3]
theorem szI_some (xs : List Int) (n : Int) : ∃ r, laws_szInt64S xs n = some r := by
  unfold laws_szInt64S; split <;> exact ⟨_, rfl⟩
theorem szT_some (xs : List Tally) (n : Int) : ∃ r, laws_szTallyS xs n = some r := by
  unfold laws_szTallyS; split <;> exact ⟨_, rfl⟩
theorem szBook_some (b : Book) (n : Int) : ∃ r, laws_szBook b n = some r := by
  unfold laws_szBook
  obtain ⟨r, hr⟩ := szI_some b.Cash n
  obtain ⟨q, hq⟩ := szT_some b.Tallies r
  rw [hr, Option.bind_some, hq, Option.bind_some]
  repeat' split
  all_goals exact ⟨_, rfl⟩
end Go.Proofs.Ytpdmcpnabjifhaa
/- Numbers within bounds. -/
namespace Go.Proofs.Ytpdmcpnabjifhaa
open Go Go.Ab
def inB (n lo hi : Int) : Bool := decide (lo ≤ n) && decide (n ≤ hi)
theorem inB_iff {n lo hi : Int} : inB n lo hi = true ↔ lo ≤ n ∧ n ≤ hi := by simp [inB]
theorem inB_not {n lo hi : Int} : inB n lo hi = false ↔ n < lo ∨ hi < n := by rw [← Bool.not_eq_true, inB_iff]; omega
theorem l00In_eq (n lo hi : Int) : spec_l00In n lo hi = some (inB n lo hi) := by
  unfold spec_l00In inB; by_cases h : lo ≤ n <;> simp [h]
theorem some_ite {α : Type} (c : Bool) (a b : α) : (if c = true then some a else some b) = some (if c = true then a else b) := by cases c <;> rfl
theorem ite_false_b (c b : Bool) : (if c = true then b else false) = (c && b) := by cases c <;> simp
theorem ite_true_b (c b : Bool) : (if c = true then true else b) = (c || b) := by cases c <;> simp
end Go.Proofs.Ytpdmcpnabjifhaa
/- Days. -/
namespace Go.Proofs.Ytpdmcpnabjifhaa
open Go Go.Ab
theorem l07Day_eq (n : Int) : spec_l07Day n = some (inB n 0 100000) := by
  unfold spec_l07Day; simp only [l00In_eq, Option.bind_some]
theorem isBookDay_eq (n : Int) : impl_isBookDay n = some (inB n 0 100000) := by
  unfold impl_isBookDay inB; by_cases h : 0 ≤ n <;> simp [h]
end Go.Proofs.Ytpdmcpnabjifhaa
/- Amounts. -/
namespace Go.Proofs.Ytpdmcpnabjifhaa
open Go Go.Ab
theorem l01Amount_eq (n : Int) : spec_l01Amount n = some (inB n 0 100000000) := by
  unfold spec_l01Amount; rw [l00In_eq, Option.bind_some]
theorem isAmount_eq (n : Int) : impl_isAmount n = some (inB n 0 100000000) := by
  unfold impl_isAmount inB; by_cases h : 0 ≤ n <;> simp [h]
end Go.Proofs.Ytpdmcpnabjifhaa
/- People. -/
namespace Go.Proofs.Ytpdmcpnabjifhaa
open Go Go.Ab
def personB (n x : Int) : Bool := decide (0 ≤ x) && decide (x < n)
theorem personB_iff {n x : Int} : personB n x = true ↔ 0 ≤ x ∧ x < n := by simp [personB]
theorem l02Person_eq (n x : Int) (h : -9223372036854775807 ≤ n ∧ n ≤ 9223372036854775807) : spec_l02Person n x = some (personB n x) := by
  unfold spec_l02Person
  rw [l00In_eq, w64 (by omega), Option.bind_some]
  congr 1
  rw [Bool.eq_iff_iff, inB_iff, personB_iff]; omega
theorem arePeople_eq (n : Int) (xs : List Int) (hn : xs.length ≤ 4611686018427387904) : impl_arePeople n xs = some (xs.all (personB n)) := by
  unfold impl_arePeople
  have key := scan_all (tb := impl_arePeople_b1 n xs) xs.length hn (fun i => (xs[i]?).all (personB n)) () ()
    (by
      intro i hi
      simp only [impl_arePeople_b1, rd_coe, List.getElem?_eq_getElem hi, Option.bind_some, Option.all_some]
      rw [if_pos (by simpa using hi)]
      by_cases h1 : xs[i] < 0
      · rw [if_pos (by simpa using h1), if_neg (by simp [personB]; omega)]
      · by_cases h2 : xs[i] ≥ n
        · rw [if_neg (by simpa using h1), if_pos (by simpa using h2), if_neg (by simp [personB]; omega)]
        · rw [if_neg (by simpa using h1), if_neg (by simpa using h2), if_pos (by simp [personB]; omega)])
    (by simp [impl_arePeople_b1])
  rw [key, all_get]
  cases xs.all (personB n) <;> simp
end Go.Proofs.Ytpdmcpnabjifhaa
/- Valid books. -/
namespace Go.Proofs.Ytpdmcpnabjifhaa
open Go Go.Ab
def amB (n : Int) : Bool := inB n 0 100000000
def prevCut (b : Book) (i : Nat) : Int := if i = 0 then 0 else ((b.Tallies[i - 1]?).map (·.Cut)).getD 0
def tallyB (b : Book) (i : Nat) (t : Tally) : Bool :=
  personB b.Cash.length t.Debtor && (personB b.Cash.length t.Holder && (inB t.Cut 0 b.Day && (inB t.Amount 1 100000000 && (inB t.Left 0 t.Amount && (!(t.Debtor == t.Holder && t.Left != 0) && decide (prevCut b i ≤ t.Cut))))))
def talliesB (b : Book) : Bool := (List.range b.Tallies.length).all fun i => (b.Tallies[i]?).all (tallyB b i)
def bookB (b : Book) : Bool := inB b.Day 0 100000 && (b.Cash.all amB && inB b.Cash.length 1 16 && (decide (b.Tallies.length ≤ 40) && talliesB b))
theorem cash_spec (a : List Int) (hn : a.length ≤ 4611686018427387904) : spec_l07Cash a = some (a.all amB && inB a.length 1 16) := by
  unfold spec_l07Cash
  have key := scan_all (tb := spec_l07Cash_b1 a) a.length hn (fun i => (a[i]?).all amB) () ()
    (by
      intro i hi
      simp only [spec_l07Cash_b1, rd_coe, List.getElem?_eq_getElem hi, Option.bind_some, l01Amount_eq, Option.all_some]
      rw [if_pos (by simpa using hi)]
      cases h : amB a[i] <;> simp [amB] at h <;> simp [h])
    (by simp [spec_l07Cash_b1])
  rw [key, all_get]
  cases a.all amB <;> simp [l00In_eq]
theorem cash_impl (b : Book) (hn : b.Cash.length ≤ 4611686018427387904) : Lw (impl_ValidBook_b1 b) 0 = some (if b.Cash.all amB = true then .inr () else .inl ()) := by
  have key := scan_all (tb := impl_ValidBook_b1 b) b.Cash.length hn (fun i => (b.Cash[i]?).all amB) () ()
    (by
      intro i hi
      simp only [impl_ValidBook_b1, rd_coe, List.getElem?_eq_getElem hi, Option.bind_some, isAmount_eq, Option.all_some]
      rw [if_pos (by simpa using hi)]
      cases h : amB b.Cash[i] <;> simp [amB] at h <;> simp [h])
    (by simp [impl_ValidBook_b1])
  rw [key, all_get]
theorem tallies_spec (b : Book) (hc : b.Cash.length ≤ 4611686018427387904) (hn : b.Tallies.length ≤ 4611686018427387904) : Lw (spec_l07Ok_b1 b) 0 = some (if talliesB b = true then .inr () else .inl ()) := by
  refine scan_all (tb := spec_l07Ok_b1 b) b.Tallies.length hn (fun i => (b.Tallies[i]?).all (tallyB b i)) () () (fun i hi => ?_) (by simp [spec_l07Ok_b1])
  simp only [spec_l07Ok_b1, rd_coe, List.getElem?_eq_getElem hi, Option.bind_some, Option.all_some, l02Person_eq _ _ (show -9223372036854775807 ≤ (b.Cash.length : Int) ∧ (b.Cash.length : Int) ≤ 9223372036854775807 by omega), l00In_eq]
  rw [if_pos (by simpa using hi)]
  unfold tallyB
  generalize b.Tallies[i] = t
  cases personB b.Cash.length t.Debtor with
  | false => simp
  | true =>
  cases personB b.Cash.length t.Holder with
  | false => simp
  | true =>
  cases hcut : inB t.Cut 0 b.Day with
  | false => simp
  | true =>
  cases inB t.Amount 1 100000000 with
  | false => simp
  | true =>
  cases inB t.Left 0 t.Amount with
  | false => simp
  | true =>
  obtain ⟨hc0, _⟩ := inB_iff.1 hcut
  have tail : (if decide ((i : Int) > 0) = true then (rd b.Tallies (IntKind.i64.wrap ((i : Int) - 1))).bind fun x92 => if decide (t.Cut < x92.Cut) = true then some (Sum.inr (Sum.inl ())) else some (Sum.inl (IntKind.i64.wrap ((i : Int) + 1))) else some (Sum.inl (IntKind.i64.wrap ((i : Int) + 1)))) = (some (if decide (prevCut b i ≤ t.Cut) = true then Sum.inl (IntKind.i64.wrap ((i : Int) + 1)) else Sum.inr (Sum.inl ())) : Option (Int ⊕ (Unit ⊕ Unit))) := by
    by_cases h0 : i = 0
    · subst h0; simp [prevCut, hc0]
    · have h1 : i - 1 < b.Tallies.length := by omega
      have e : IntKind.i64.wrap ((i : Int) - 1) = ((i - 1 : Nat) : Int) := by rw [w64 (by omega)]; omega
      rw [if_pos (by simp; omega), e, rd_coe, List.getElem?_eq_getElem h1, Option.bind_some]
      have e2 : prevCut b i = b.Tallies[i - 1].Cut := by simp [prevCut, h0, h1]
      rw [e2]
      by_cases h2 : t.Cut < b.Tallies[i - 1].Cut
      · rw [if_pos (by simpa using h2), if_neg (by simpa using h2)]
      · rw [if_neg (by simpa using h2), if_pos (by simpa using h2)]
  simp only [if_true, Bool.true_and, tail]
  cases h1 : (t.Debtor == t.Holder) with
  | false => simp
  | true => cases h2 : (t.Left != 0) <;> simp
theorem tallies_impl (b : Book) (hc : b.Cash.length ≤ 4611686018427387904) (hn : b.Tallies.length ≤ 4611686018427387904) : Lw (impl_ValidBook_b2 b) (0, 0) = some (if talliesB b = true then .inr () else .inl ()) := by
  refine scan_st (tb := impl_ValidBook_b2 b) (fun i => (prevCut b i, (i : Int))) b.Tallies.length (fun i => (b.Tallies[i]?).all (tallyB b i)) (.inl ()) (.inr ()) (fun i hi hall => ?_) (fun _ => by simp [impl_ValidBook_b2])
  have hp : 0 ≤ prevCut b i := by
    by_cases h0 : i = 0
    · simp [prevCut, h0]
    · have h1 : i - 1 < b.Tallies.length := by omega
      have := hall (i - 1) (by omega)
      rw [List.getElem?_eq_getElem h1, Option.all_some] at this
      unfold tallyB at this
      simp only [Bool.and_eq_true] at this
      have h3 := (inB_iff.1 this.2.2.1).1
      simp [prevCut, h0, h1, h3]
  have hs : prevCut b (i + 1) = b.Tallies[i].Cut := by simp [prevCut, hi]
  simp only [impl_ValidBook_b2, rd_coe, List.getElem?_eq_getElem hi, Option.bind_some, Option.all_some, arePeople_eq _ _ (show ([b.Tallies[i].Debtor, b.Tallies[i].Holder] : List Int).length ≤ 4611686018427387904 by simp), hs]
  rw [if_pos (by simpa using hi), w64s hi hn]
  unfold tallyB
  generalize b.Tallies[i] = t
  simp only [List.all_cons, List.all_nil, Bool.and_true]
  cases personB b.Cash.length t.Debtor with
  | false => simp
  | true =>
  cases personB b.Cash.length t.Holder with
  | false => simp
  | true =>
  simp only [Bool.true_and, if_true]
  by_cases c1 : t.Cut < prevCut b i
  · have : decide (prevCut b i ≤ t.Cut) = false := by simpa using c1
    simp [c1, this]
  · have e1 : decide (prevCut b i ≤ t.Cut) = true := by simpa using c1
    have c0 : 0 ≤ t.Cut := by omega
    simp only [c1, decide_false, Bool.false_eq_true, if_false, e1, Bool.and_true]
    by_cases c2 : t.Cut > b.Day
    · simp [c2, inB]; omega
    · have e2 : inB t.Cut 0 b.Day = true := inB_iff.2 ⟨c0, by omega⟩
      simp only [c2, decide_false, Bool.false_eq_true, if_false, e2, Bool.true_and]
      by_cases c3 : t.Amount < 1
      · simp [c3, inB]; omega
      · by_cases c4 : t.Amount > 100000000
        · simp [c3, c4, inB]; omega
        · have e3 : inB t.Amount 1 100000000 = true := inB_iff.2 ⟨by omega, by omega⟩
          simp only [c3, c4, decide_false, Bool.false_eq_true, if_false, e3, Bool.true_and]
          by_cases c5 : t.Left < 0
          · simp [c5, inB]; omega
          · by_cases c6 : t.Left > t.Amount
            · simp [c5, c6, inB]; omega
            · have e4 : inB t.Left 0 t.Amount = true := inB_iff.2 ⟨by omega, by omega⟩
              simp only [c5, c6, decide_false, Bool.false_eq_true, if_false, e4, Bool.true_and]
              cases h1 : (t.Debtor == t.Holder) with
              | false => simp
              | true => cases h2 : (t.Left != 0) <;> simp
theorem validBook_eq (b : Book) (hc : b.Cash.length ≤ 4611686018427387904) (hn : b.Tallies.length ≤ 4611686018427387904) : impl_ValidBook b = some (bookB b) := by
  unfold impl_ValidBook bookB
  rw [isBookDay_eq, cash_impl b hc, tallies_impl b hc hn]
  simp only [Option.bind_some]
  cases inB b.Day 0 100000 with
  | false => simp
  | true =>
    simp only [if_true, Bool.true_and]
    by_cases c1 : (b.Cash.length : Int) < 1
    · have : inB b.Cash.length 1 16 = false := inB_not.2 (.inl c1)
      simp [c1, this]
    · by_cases c2 : (b.Cash.length : Int) > 16
      · have : inB b.Cash.length 1 16 = false := inB_not.2 (.inr c2)
        simp [c1, c2, this]
      · have e1 : inB b.Cash.length 1 16 = true := inB_iff.2 ⟨by omega, by omega⟩
        simp only [c1, c2, e1, decide_false, Bool.false_eq_true, if_false, Bool.and_true]
        by_cases c3 : (b.Tallies.length : Int) > 40
        · have : ¬ b.Tallies.length ≤ 40 := by omega
          simp [c3, this]
        · have e2 : b.Tallies.length ≤ 40 := by omega
          simp only [c3, e2, decide_false, decide_true, Bool.false_eq_true, if_false, Bool.true_and]
          cases b.Cash.all amB <;> cases talliesB b <;> simp
theorem l07Ok_eq (b : Book) (hc : b.Cash.length ≤ 4611686018427387904) (hn : b.Tallies.length ≤ 4611686018427387904) : spec_l07Ok b = some (bookB b) := by
  unfold spec_l07Ok bookB
  rw [l07Day_eq, cash_spec _ hc, tallies_spec b hc hn]
  simp only [Option.bind_some]
  cases inB b.Day 0 100000 with
  | false => simp
  | true =>
    simp only [if_true, Bool.true_and]
    cases (b.Cash.all amB && inB b.Cash.length 1 16) with
    | false => simp
    | true =>
      by_cases c3 : (b.Tallies.length : Int) > 40
      · have : ¬ b.Tallies.length ≤ 40 := by omega
        simp [c3, this]
      · have e2 : b.Tallies.length ≤ 40 := by omega
        simp only [c3, e2, decide_false, decide_true, Bool.false_eq_true, if_false, Bool.true_and, if_true]
        cases talliesB b <;> simp
end Go.Proofs.Ytpdmcpnabjifhaa
/- What one gets, owes and is worth. -/
namespace Go.Proofs.Ytpdmcpnabjifhaa
open Go Go.Ab
def getsF (p : Int) (a : Int) (t : Tally) : Int := if (t.Holder == p) = true then IntKind.i64.wrap (a + t.Left) else a
def owesF (p : Int) (a : Int) (t : Tally) : Int := if (t.Debtor == p) = true then IntKind.i64.wrap (a + t.Left) else a
def getsIn (b : Book) (p : Int) : Int := b.Tallies.foldl (getsF p) 0
def owesIn (b : Book) (p : Int) : Int := b.Tallies.foldl (owesF p) 0
theorem foldl_pair {α β τ : Type} (f : α → τ → α) (g : β → τ → β) (xs : List τ) : ∀ (a : α) (b : β), xs.foldl (fun p x => (f p.1 x, g p.2 x)) (a, b) = (xs.foldl f a, xs.foldl g b) := by
  induction xs with
  | nil => intro a b; rfl
  | cons x xs ih => intro a b; exact ih _ _
/-- the code of a book and one of its people -/
def oneCode (b : Book) (p : Int) : Int := if bookB b = true then (if personB b.Cash.length p = true then 0 else 2) else 1
theorem oneCode_zero {b : Book} {p : Int} (h : oneCode b p = 0) : bookB b = true ∧ 0 ≤ p ∧ p < b.Cash.length := by
  unfold oneCode at h
  split at h
  · rename_i h1
    split at h
    · rename_i h2
      exact ⟨h1, personB_iff.1 h2⟩
    · cases h
  · cases h
end Go.Proofs.Ytpdmcpnabjifhaa
/- Marks put into tallies and books, and found again. -/
namespace Go.Proofs.Ytpdmcpnabjifhaa
open Go Go.Ab
def mTally (k : Int) : Tally := ⟨k, k + 1, k + 1 + 1, k + 1 + 1 + 1, k + 1 + 1 + 1 + 1⟩
theorem markTallyS_eq (xs : List Tally) (k : Int) (hn : xs.length ≤ 100000000000000) (h0 : 0 ≤ k) (hk : k ≤ 1152921504606846976) : laws_markTallyS_l xs k = some (k + (5 * xs.length : Nat), marks mTally 5 k xs.length) := by
  unfold laws_markTallyS_l
  have key := mark_loop (tb := laws_markTallyS_l_b1) mTally 5 xs k (by omega) (by omega) h0 hk
    (by
      intro j i zs hi hz hj hjc
      have w1 : IntKind.i64.wrap (j + 1) = j + 1 := w64 (by omega)
      have w2 : IntKind.i64.wrap (j + 1 + 1) = j + 1 + 1 := w64 (by omega)
      have w3 : IntKind.i64.wrap (j + 1 + 1 + 1) = j + 1 + 1 + 1 := w64 (by omega)
      have w4 : IntKind.i64.wrap (j + 1 + 1 + 1 + 1) = j + 1 + 1 + 1 + 1 := w64 (by omega)
      have w5 : IntKind.i64.wrap (j + 1 + 1 + 1 + 1 + 1) = j + 5 := by rw [w64 (by omega)]; omega
      simp [laws_markTallyS_l_b1, rd_coe, hi, List.getElem?_set, w1, w2, w3, w4, w5, w64s hi (show zs.length ≤ 4611686018427387904 by omega), mTally])
    (by intro j zs; simp [laws_markTallyS_l_b1])
  rw [key, Option.bind_some]
theorem markTallyS0 (k : Int) : laws_markTallyS_n k = some k := by
  unfold laws_markTallyS_n
  rw [Lw_stop (r := k) (by simp [laws_markTallyS_n_b1]), Option.bind_some]
theorem heldTallyS_eq (n : Nat) (k : Int) (hn : n ≤ 100000000000000) (h0 : 0 ≤ k) (hk : k ≤ 1152921504606846976) : laws_heldTallyS (marks mTally 5 k n) k = some (k + (5 * n : Nat)) := by
  unfold laws_heldTallyS
  have key := held_loop (tb := laws_heldTallyS_b1 (marks mTally 5 k n)) mTally 5 n k (by omega) (by omega) h0 hk
    (by
      intro j i hi hg hj hjc
      have w1 : IntKind.i64.wrap (j + 1) = j + 1 := w64 (by omega)
      have w2 : IntKind.i64.wrap (j + 1 + 1) = j + 1 + 1 := w64 (by omega)
      have w3 : IntKind.i64.wrap (j + 1 + 1 + 1) = j + 1 + 1 + 1 := w64 (by omega)
      have w4 : IntKind.i64.wrap (j + 1 + 1 + 1 + 1) = j + 1 + 1 + 1 + 1 := w64 (by omega)
      have w5 : IntKind.i64.wrap (j + 1 + 1 + 1 + 1 + 1) = j + 5 := by rw [w64 (by omega)]; omega
      simp only [laws_heldTallyS_b1, rd_coe, hg, marks_len, Option.bind_some, w1, w2, w3, w4, w5, w64s hi (show n ≤ 4611686018427387904 by omega)]
      simp [hi, mTally])
    (by intro j; simp [laws_heldTallyS_b1, marks_len])
  rw [key, Option.bind_some]
theorem markBook_eq (d : Int) (c : List Int) (t : List Tally) (k : Int) (hc : c.length ≤ 100000000000000) (ht : t.length ≤ 100000000000000) (h0 : 0 ≤ k) (hk : k ≤ 152921504606846976) :
    laws_markBook_ll d c t k = some (k + (c.length : Int) + ((5 * t.length : Nat) : Int), iota k c.length, marks mTally 5 (k + c.length) t.length) := by
  unfold laws_markBook_ll
  rw [markInt64S_eq c k (by omega) h0 (by omega)]
  simp only [Option.bind_some]
  rw [markTallyS_eq t _ ht (by omega) (by omega)]
  rfl
theorem heldBook_eq (d : Int) (k : Int) (n m : Nat) (hc : n ≤ 100000000000000) (ht : m ≤ 100000000000000) (h0 : 0 ≤ k) (hk : k ≤ 152921504606846976) :
    laws_heldBook ⟨d, iota k n, marks mTally 5 (k + n) m⟩ k = some (k + (n : Int) + ((5 * m : Nat) : Int)) := by
  unfold laws_heldBook
  simp only
  rw [heldInt64S_eq n k (by omega) h0 (by omega), Option.bind_some, if_neg (by simp; omega), heldTallyS_eq m _ ht (by omega) (by omega), Option.bind_some, if_neg (by simp; omega)]
theorem szBook_bound (b : Book) (hb : b.ok) (r n : Int) (h : laws_szBook b n = some r) (h0 : ¬ r < 0) (hn : n ≤ 1048576) (hm : -4611686018427387904 ≤ n) : r = n - b.Cash.length - b.Tallies.length ∧ (b.Cash.length : Int) + b.Tallies.length ≤ n := by
  have hc := ok_cash hb
  have ht := ok_tallies hb
  unfold laws_szBook at h
  obtain ⟨q, hq⟩ := szI_some b.Cash n
  rw [hq, Option.bind_some] at h
  unfold laws_szInt64S at hq
  rw [w64 (by omega)] at hq
  by_cases hq0 : q < 0
  · rw [if_pos (by simpa using hq0)] at h; cases h; omega
  rw [if_neg (by simpa using hq0)] at h
  obtain ⟨p, hp⟩ := szT_some b.Tallies q
  rw [hp, Option.bind_some] at h
  by_cases hc2 : n - (b.Cash.length : Int) < 0
  · rw [if_pos (by simpa using hc2)] at hq; cases hq; omega
  rw [if_neg (by simpa using hc2)] at hq
  obtain rfl := Option.some.inj hq
  unfold laws_szTallyS at hp
  rw [w64 (by omega)] at hp
  by_cases hp0 : p < 0
  · rw [if_pos (by simpa using hp0)] at h; cases h; omega
  rw [if_neg (by simpa using hp0)] at h
  obtain rfl := Option.some.inj h
  by_cases hc3 : n - (b.Cash.length : Int) - b.Tallies.length < 0
  · rw [if_pos (by simpa using hc3)] at hp; cases hp; omega
  rw [if_neg (by simpa using hc3)] at hp
  obtain rfl := Option.some.inj hp
  exact ⟨by omega, by omega⟩
end Go.Proofs.Ytpdmcpnabjifhaa
/- Valid deals. -/
namespace Go.Proofs.Ytpdmcpnabjifhaa
open Go Go.Ab
def dealB (d : Deal) : Bool :=
  inB d.Day 0 100000 &&
  ((d.Kind == 1 && d.Tally == 0 && inB d.From 0 15 && inB d.To 0 15 && inB d.Amount 1 100000000) ||
   (d.Kind == 2 && inB d.Tally 0 39 && inB d.From 0 15 && inB d.To 0 15 && d.Amount == 0) ||
   (d.Kind == 3 && inB d.Tally 0 39 && d.From == 0 && d.To == 0 && inB d.Amount 1 100000000) ||
   (d.Kind == 4 && inB d.Tally 0 39 && inB d.From 0 15 && d.To == 0 && d.Amount == 0))
theorem l07Deal_eq (d : Deal) : spec_l07Deal d = some (dealB d) := by
  unfold spec_l07Deal dealB
  simp only [l00In_eq, l07Day_eq, Option.bind_some, some_ite, ite_false_b]
  cases inB d.Day 0 100000 with
  | false => simp
  | true =>
    by_cases h1 : d.Kind = 1
    · simp [h1, Bool.and_assoc]
    by_cases h2 : d.Kind = 2
    · simp [h2, Bool.and_assoc]
    by_cases h3 : d.Kind = 3
    · simp [h3, Bool.and_assoc]
    by_cases h4 : d.Kind = 4
    · simp [h4, Bool.and_assoc]
    have e1 : (d.Kind == 1) = false := by simpa using h1
    have e2 : (d.Kind == 2) = false := by simpa using h2
    have e3 : (d.Kind == 3) = false := by simpa using h3
    have e4 : (d.Kind == 4) = false := by simpa using h4
    simp [e1, e2, e3, e4]
theorem in_eq (u : Bool) (n lo hi : Int) : impl_ValidDeal_1 u n lo hi = some (if u = true then inB n lo hi else n == 0) := by
  unfold impl_ValidDeal_1 inB; cases u <;> by_cases h : lo ≤ n <;> by_cases h' : n ≤ hi <;> simp [h, h']
theorem validDeal_eq (d : Deal) : impl_ValidDeal d = some (dealB d) := by
  unfold impl_ValidDeal dealB impl_uses
  simp only [isBookDay_eq, in_eq, Option.bind_some, some_ite, ite_false_b]
  cases inB d.Day 0 100000 with
  | false => simp
  | true =>
    by_cases h1 : d.Kind = 1
    · simp [h1, Bool.and_assoc]
    by_cases h2 : d.Kind = 2
    · simp [h2, Bool.and_assoc]
    by_cases h3 : d.Kind = 3
    · simp [h3, Bool.and_assoc]
    by_cases h4 : d.Kind = 4
    · simp [h4, Bool.and_assoc]
    have e1 : (d.Kind == 1) = false := by simpa using h1
    have e2 : (d.Kind == 2) = false := by simpa using h2
    have e3 : (d.Kind == 3) = false := by simpa using h3
    have e4 : (d.Kind == 4) = false := by simpa using h4
    have : d.Kind < 1 ∨ d.Kind > 4 := by omega
    rcases this with h | h <;> simp [e1, e2, e3, e4, h]
end Go.Proofs.Ytpdmcpnabjifhaa
/- Lists of deals: equal, copied, marked, valid, in order. -/
namespace Go.Proofs.Ytpdmcpnabjifhaa
open Go Go.Ab
theorem deal_eq {x y : Deal} : x = y ↔ x.Day = y.Day ∧ x.Kind = y.Kind ∧ x.Tally = y.Tally ∧ x.From = y.From ∧ x.To = y.To ∧ x.Amount = y.Amount := by
  cases x; cases y; simp
theorem toDeal_eq (d : Deal) : laws_toDeal d = some (d.Day, d.Kind, d.Tally, d.From, d.To, d.Amount) := rfl
theorem eqDeal_eq (x y : Deal) : laws_eqDeal x y = some (decide (x = y)) := by
  unfold laws_eqDeal
  simp only [deal_eq, bne_iff_ne, ne_eq, ite_not]
  repeat' split
  all_goals simp_all
theorem toDealS_eq (a : List Deal) (h : a.length * 48 ≤ 140737488351232) : laws_toDealS a = some a := by
  unfold laws_toDealS
  have key := copy_loop (tb := laws_toDealS_b1 a) a (List.replicate a.length ⟨0, 0, 0, 0, 0, 0⟩) (by omega) (by simp)
    (by intro i zs hi hz; simp [laws_toDealS_b1, laws_toDeal, rd_coe, hi, hz]) (by intro zs hz; simp [laws_toDealS_b1])
  rw [mkS_some h (by omega), Option.bind_some, key, Option.bind_some]
theorem eqDealS_eq (a b : List Deal) (h : a.length ≤ 4611686018427387904) : laws_eqDealS a b = some (decide (a = b)) := by
  unfold laws_eqDealS
  by_cases hl : a.length = b.length
  · have key := scan_all (tb := laws_eqDealS_b1 a b) a.length h (fun i => decide (a[i]? = b[i]?)) () ()
      (by
        intro i hi
        have hi2 : i < b.length := by omega
        simp only [laws_eqDealS_b1, rd_coe, List.getElem?_eq_getElem hi, List.getElem?_eq_getElem hi2, Option.bind_some, eqDeal_eq]
        by_cases he : a[i] = b[i] <;> simp [he, hi])
      (by simp [laws_eqDealS_b1])
    rw [if_neg (by simp [hl]), key, all_eq hl]
    by_cases he : a = b <;> simp [he]
  · rw [if_pos (by simp; omega)]
    have : a ≠ b := fun h => hl (by rw [h])
    simp [this]
theorem szDealS_some (xs : List Deal) (n : Int) : ∃ r, laws_szDealS xs n = some r := by
  unfold laws_szDealS; split <;> exact ⟨_, rfl⟩
theorem szDealS_bound (xs : List Deal) (n r : Int) (h : laws_szDealS xs n = some r) (h0 : ¬ r < 0) (hn : n ≤ 1048576) (hx : xs.length ≤ 140737488351232) (hm : -9223372036854775808 + 140737488351232 ≤ n) : (xs.length : Int) ≤ n ∧ r = n - xs.length := by
  unfold laws_szDealS at h
  rw [w64 (by omega)] at h
  split at h
  · cases h; omega
  · cases h; omega
/-! marks -/
def mDeal (k : Int) : Deal := ⟨k, IntKind.i8.wrap (k + 1), k + 1 + 1, k + 1 + 1 + 1, k + 1 + 1 + 1 + 1, k + 1 + 1 + 1 + 1 + 1⟩
theorem markDealS_eq (xs : List Deal) (k : Int) (hn : xs.length ≤ 100000000000000) (h0 : 0 ≤ k) (hk : k ≤ 1152921504606846976) : laws_markDealS_l xs k = some (k + (6 * xs.length : Nat), marks mDeal 6 k xs.length) := by
  unfold laws_markDealS_l
  have key := mark_loop (tb := laws_markDealS_l_b1) mDeal 6 xs k (by omega) (by omega) h0 hk
    (by
      intro j i zs hi hz hj hjc
      have w1 : IntKind.i64.wrap (j + 1) = j + 1 := w64 (by omega)
      have w2 : IntKind.i64.wrap (j + 1 + 1) = j + 1 + 1 := w64 (by omega)
      have w3 : IntKind.i64.wrap (j + 1 + 1 + 1) = j + 1 + 1 + 1 := w64 (by omega)
      have w4 : IntKind.i64.wrap (j + 1 + 1 + 1 + 1) = j + 1 + 1 + 1 + 1 := w64 (by omega)
      have w5 : IntKind.i64.wrap (j + 1 + 1 + 1 + 1 + 1) = j + 1 + 1 + 1 + 1 + 1 := w64 (by omega)
      have w6 : IntKind.i64.wrap (j + 1 + 1 + 1 + 1 + 1 + 1) = j + 6 := by rw [w64 (by omega)]; omega
      simp [laws_markDealS_l_b1, rd_coe, hi, List.getElem?_set, w1, w2, w3, w4, w5, w6, w64s hi (show zs.length ≤ 4611686018427387904 by omega), mDeal])
    (by intro j zs; simp [laws_markDealS_l_b1])
  rw [key, Option.bind_some]
/-! valid ones -/
theorem areDeals_eq (xs : List Deal) (hn : xs.length ≤ 4611686018427387904) : impl_areDeals xs = some (xs.all dealB) := by
  unfold impl_areDeals
  have key := scan_all (tb := impl_areDeals_b1 xs) xs.length hn (fun i => (xs[i]?).all dealB) () ()
    (by
      intro i hi
      simp only [impl_areDeals_b1, rd_coe, List.getElem?_eq_getElem hi, Option.bind_some, validDeal_eq, Option.all_some]
      rw [if_pos (by simpa using hi)]
      cases dealB xs[i] <;> simp)
    (by simp [impl_areDeals_b1])
  rw [key, all_get]
  cases xs.all dealB <;> simp
theorem l07Deals_eq (xs : List Deal) (hn : xs.length ≤ 4611686018427387904) : spec_l07Deals xs = some (xs.all dealB) := by
  unfold spec_l07Deals
  have key := scan_all (tb := spec_l07Deals_b1 xs) xs.length hn (fun i => (xs[i]?).all dealB) () ()
    (by
      intro i hi
      simp only [spec_l07Deals_b1, rd_coe, List.getElem?_eq_getElem hi, Option.bind_some, l07Deal_eq, Option.all_some]
      rw [if_pos (by simpa using hi)]
      cases dealB xs[i] <;> simp)
    (by simp [spec_l07Deals_b1])
  rw [key, all_get]
  cases xs.all dealB <;> simp
end Go.Proofs.Ytpdmcpnabjifhaa
/- What is known of a valid book. -/
namespace Go.Proofs.Ytpdmcpnabjifhaa
open Go Go.Ab
def TlI (n : Int) (t : Tally) : Prop := (0 ≤ t.Debtor ∧ t.Debtor < n) ∧ (0 ≤ t.Holder ∧ t.Holder < n) ∧ (0 ≤ t.Left ∧ t.Left ≤ 100000000) ∧ (t.Debtor = t.Holder → t.Left = 0)
structure BkI (b : Book) : Prop where
  c1 : 1 ≤ b.Cash.length
  cn : b.Cash.length ≤ 16
  tn : b.Tallies.length ≤ 40
  ca : ∀ c ∈ b.Cash, 0 ≤ c ∧ c ≤ 100000000
  ta : ∀ t ∈ b.Tallies, TlI b.Cash.length t
theorem BkI.of {b : Book} (h : bookB b = true) : BkI b := by
  unfold bookB at h
  simp only [Bool.and_eq_true, decide_eq_true_eq, List.all_eq_true] at h
  obtain ⟨_, ⟨h1, h2⟩, h3, h4⟩ := h
  obtain ⟨h5, h6⟩ := inB_iff.1 h2
  refine ⟨by omega, by omega, h3, fun c hc => inB_iff.1 (h1 c hc), fun t ht => ?_⟩
  unfold talliesB at h4
  rw [List.all_eq_true] at h4
  obtain ⟨i, hi, rfl⟩ := List.getElem_of_mem ht
  have := h4 i (List.mem_range.2 hi)
  rw [List.getElem?_eq_getElem hi, Option.all_some] at this
  unfold tallyB personB at this
  simp only [Bool.and_eq_true] at this
  obtain ⟨g1, g2, _, g4, g5, g6, _⟩ := this
  have g1 : 0 ≤ b.Tallies[i].Debtor ∧ b.Tallies[i].Debtor < (b.Cash.length : Int) := by simpa using g1
  have g2 : 0 ≤ b.Tallies[i].Holder ∧ b.Tallies[i].Holder < (b.Cash.length : Int) := by simpa using g2
  have g4 := inB_iff.1 g4
  have g5 := inB_iff.1 g5
  refine ⟨⟨g1.1, by omega⟩, ⟨g2.1, by omega⟩, ⟨g5.1, by omega⟩, fun e => ?_⟩
  simp [e] at g6
  exact g6
end Go.Proofs.Ytpdmcpnabjifhaa
/- One deal done on a book: the program's and the reference's. -/
namespace Go.Proofs.Ytpdmcpnabjifhaa
open Go Go.Ab
theorem ownBook_eq (b : Book) (h : BkI b) : impl_ownBook b = some (b.Day, b.Cash, b.Tallies) := by
  have h1 := h.cn
  have h2 := h.tn
  unfold impl_ownBook slices_Clone_int64 slices_Clone_Tally
  rw [app_some (by simp only [List.length_nil]; omega) (by decide), app_some (by simp only [List.length_nil]; omega) (by decide)]
  simp
theorem l07Copy_eq (b : Book) (h : BkI b) : spec_l07Copy b = some (b.Day, b.Cash, b.Tallies) := by
  have h1 := h.cn
  have h2 := h.tn
  unfold spec_l07Copy
  rw [app_some (by simp only [List.length_nil]; omega) (by decide), app_some (by simp only [List.length_nil]; omega) (by decide)]
  simp
theorem personD (n : Nat) (hn : n ≤ 16) (x : Int) (h : 0 ≤ x) : spec_l02Person (n : Int) x = some (decide (x < n)) := by
  rw [l02Person_eq _ _ (by omega)]
  unfold personB
  simp [h]
abbrev DoR := Int ⊕ (Int × (List Int) × (List Tally))
def DoI (n : Nat) (r : DoR) : Prop := (∀ x, r = .inl x → x ≠ 0) ∧ ∀ d c t, r = .inr (d, c, t) → BkI ⟨d, c, t⟩ ∧ c.length = n
theorem DoI.l {n : Nat} {x : Int} (h : x ≠ 0 := by decide) : DoI n (.inl x) := ⟨fun _ e => by cases e; exact h, fun _ _ _ h => by cases h⟩
theorem DoI.r {n : Nat} {v : Int × (List Int) × (List Tally)} (h : ∀ d c t, (.inr v : DoR) = .inr (d, c, t) → BkI ⟨d, c, t⟩ ∧ c.length = n) : DoI n (.inr v) := ⟨fun _ e => (by cases e), h⟩
def DoS (b : Book) (d : Deal) : Prop := ∃ r, impl_do b d = some r ∧ spec_l07Do b d = some r ∧ DoI b.Cash.length r
theorem do_cut (b : Book) (d : Deal) (hb : BkI b) (hk : d.Kind = 1) (hf : 0 ≤ d.From) (ht : 0 ≤ d.To) (ha : 0 ≤ d.Amount ∧ d.Amount ≤ 100000000) : DoS b d := by
  have hu : impl_uses 1 = some (false, true, true, true) := by simp [impl_uses]
  have p1 := personD b.Cash.length hb.cn d.From hf
  have p2 := personD b.Cash.length hb.cn d.To ht
  by_cases c0 : d.Day < b.Day
  · exact ⟨.inl 4, by simp [impl_do, c0], by simp [spec_l07Do, spec_l07Refused, c0], .l⟩
  by_cases c1 : d.From < b.Cash.length
  · have c1' : ¬ (b.Cash.length : Int) ≤ d.From := by omega
    by_cases c2 : d.To < b.Cash.length
    · have c2' : ¬ (b.Cash.length : Int) ≤ d.To := by omega
      by_cases c3 : d.From = d.To
      · have c3' : ¬ (b.Cash.length : Int) ≤ d.To := c2'
        exact ⟨.inl 4, by simp [impl_do, c0, hu, hk, c1', c2', c3], by simp [spec_l07Do, spec_l07Refused, c0, p1, p2, c1, c2, c3, hk], .l⟩
      · have c3' : (d.From == d.To) = false := by simpa using c3
        by_cases c4 : b.Tallies.length = 40
        · exact ⟨.inl 3, by simp [impl_do, c0, hu, hk, c1', c2', c3', ownBook_eq b hb, c4], by simp [spec_l07Do, spec_l07Refused, c0, p1, p2, c1, c2, c3, hk, c4], .l⟩
        · have h4 := hb.tn
          have c5 : ¬ (b.Tallies.length : Int) = 40 := by omega
          have ap : app 40 b.Tallies [⟨d.From, d.To, d.Day, d.Amount, d.Amount⟩] = some (b.Tallies ++ [⟨d.From, d.To, d.Day, d.Amount, d.Amount⟩]) := app_some (by simp; omega) (by simp)
          refine ⟨.inr (d.Day, b.Cash, b.Tallies ++ [⟨d.From, d.To, d.Day, d.Amount, d.Amount⟩]), by simp [impl_do, c0, hu, hk, c1', c2', c3', ownBook_eq b hb, c5, ap], by simp [spec_l07Do, spec_l07Refused, c0, p1, p2, c1, c2, c3, hk, c5, l07Copy_eq b hb, ap], .r fun _ _ _ h => ?_⟩
          cases h
          refine ⟨⟨hb.c1, hb.cn, by simp; omega, hb.ca, fun t ht' => ?_⟩, rfl⟩
          rcases List.mem_append.1 ht' with h | h
          · exact hb.ta t h
          · obtain rfl := List.mem_singleton.1 h
            exact ⟨⟨hf, c1⟩, ⟨ht, c2⟩, ha, fun e => absurd e c3⟩
    · have c2' : (b.Cash.length : Int) ≤ d.To := by omega
      exact ⟨.inl 2, by simp [impl_do, c0, hu, hk, c1', c2'], by simp [spec_l07Do, spec_l07Refused, c0, p1, p2, c1, c2], .l⟩
  · have c1' : (b.Cash.length : Int) ≤ d.From := by omega
    exact ⟨.inl 2, by simp [impl_do, c0, hu, hk, c1'], by simp [spec_l07Do, spec_l07Refused, c0, p1, p2, c1], .l⟩
/-- a tally in the book, written anew -/
theorem BkI.set {b : Book} (hb : BkI b) (day : Int) (c : List Int) (hc : c.length = b.Cash.length) (hca : ∀ x ∈ c, 0 ≤ x ∧ x ≤ 100000000) (i : Nat) (t : Tally) (ht : TlI b.Cash.length t) : BkI ⟨day, c, b.Tallies.set i t⟩ := by
  refine ⟨by simpa [hc] using hb.c1, by simpa [hc] using hb.cn, by simpa using hb.tn, hca, fun x hx => ?_⟩
  rcases List.mem_or_eq_of_mem_set hx with h | rfl
  · simpa [hc] using hb.ta x h
  · simpa [hc] using ht
theorem do_pass (b : Book) (d : Deal) (hb : BkI b) (hk : d.Kind = 2) (hf : 0 ≤ d.From) (ht : 0 ≤ d.To) (hi : 0 ≤ d.Tally) (ha : d.Amount = 0) : DoS b d := by
  have hu : impl_uses 2 = some (true, true, true, false) := by simp [impl_uses]
  have p1 := personD b.Cash.length hb.cn d.From hf
  have p2 := personD b.Cash.length hb.cn d.To ht
  by_cases c0 : d.Day < b.Day
  · exact ⟨.inl 4, by simp [impl_do, c0], by simp [spec_l07Do, spec_l07Refused, c0], .l⟩
  by_cases c1 : d.From < b.Cash.length
  · have c1' : ¬ (b.Cash.length : Int) ≤ d.From := by omega
    by_cases c2 : d.To < b.Cash.length
    · have c2' : ¬ (b.Cash.length : Int) ≤ d.To := by omega
      by_cases c3 : d.Tally < b.Tallies.length
      · have c3' : ¬ (b.Tallies.length : Int) ≤ d.Tally := by omega
        obtain ⟨i, hi'⟩ : ∃ i : Nat, d.Tally = i := ⟨d.Tally.toNat, by omega⟩
        have hlt : i < b.Tallies.length := by omega
        have hr : rd b.Tallies d.Tally = some b.Tallies[i] := by rw [hi', rd_coe, List.getElem?_eq_getElem hlt]
        obtain ⟨t1, t2, t3, t4⟩ := hb.ta _ (List.getElem_mem hlt)
        have ow := ownBook_eq b hb
        have cp := l07Copy_eq b hb
        revert hr t1 t2 t3 t4
        generalize b.Tallies[i] = t
        intro hr t1 t2 t3 t4
        by_cases c4 : d.From = d.To
        · exact ⟨.inl 4, by simp [impl_do, c0, hu, hk, c1', c2', c3', c4], by simp [spec_l07Do, spec_l07Refused, c0, p1, p2, c1, c2, c3', c4, hk, hr], .l⟩
        · have c4' : (d.From == d.To) = false := by simpa using c4
          by_cases c5 : t.Holder = d.From
          · by_cases c6 : t.Left = 0
            · exact ⟨.inl 4, by simp [impl_do, c0, hu, hk, c1', c2', c3', c4', ow, hr, c5, c6], by simp [spec_l07Do, spec_l07Refused, c0, p1, p2, c1, c2, c3', c4, hk, hr, c5, c6], .l⟩
            · have c7 : ¬ d.Amount > t.Left := by omega
              by_cases c8 : t.Debtor = d.To
              · refine ⟨.inr (d.Day, b.Cash, b.Tallies.set d.Tally.toNat ⟨t.Debtor, d.To, t.Cut, t.Amount, 0⟩), ?_, ?_, .r fun _ _ _ h => ?_⟩
                · simp [impl_do, c0, hu, hk, c1', c2', c3', c4', ow, hr, c5, c6, c8]
                · simp [spec_l07Do, spec_l07Refused, c0, p1, p2, c1, c2, c3', c4, hk, hr, c5, c6, c7, c8, cp]
                · cases h
                  exact ⟨hb.set _ _ rfl hb.ca _ _ ⟨t1, ⟨ht, c2⟩, by simp, fun _ => rfl⟩, rfl⟩
              · have c9 : ¬ d.To = t.Debtor := fun h => c8 h.symm
                refine ⟨.inr (d.Day, b.Cash, b.Tallies.set d.Tally.toNat ⟨t.Debtor, d.To, t.Cut, t.Amount, t.Left⟩), ?_, ?_, .r fun _ _ _ h => ?_⟩
                · simp [impl_do, c0, hu, hk, c1', c2', c3', c4', ow, hr, c5, c6, c9]
                · simp [spec_l07Do, spec_l07Refused, c0, p1, p2, c1, c2, c3', c4, hk, hr, c5, c6, c7, c9, cp]
                · cases h
                  exact ⟨hb.set _ _ rfl hb.ca _ _ ⟨t1, ⟨ht, c2⟩, t3, fun e => absurd e c8⟩, rfl⟩
          · have c5' : ¬ d.From = t.Holder := fun h => c5 h.symm
            exact ⟨.inl 4, by simp [impl_do, c0, hu, hk, c1', c2', c3', c4', ow, hr, c5'], by simp [spec_l07Do, spec_l07Refused, c0, p1, p2, c1, c2, c3', c4, hk, hr, c5'], .l⟩
      · have c3' : (b.Tallies.length : Int) ≤ d.Tally := by omega
        exact ⟨.inl 2, by simp [impl_do, c0, hu, hk, c1', c2', c3'], by simp [spec_l07Do, spec_l07Refused, c0, p1, p2, c1, c2, c3', hk], .l⟩
    · have c2' : (b.Cash.length : Int) ≤ d.To := by omega
      exact ⟨.inl 2, by simp [impl_do, c0, hu, hk, c1', c2'], by simp [spec_l07Do, spec_l07Refused, c0, p1, p2, c1, c2], .l⟩
  · have c1' : (b.Cash.length : Int) ≤ d.From := by omega
    exact ⟨.inl 2, by simp [impl_do, c0, hu, hk, c1'], by simp [spec_l07Do, spec_l07Refused, c0, p1, p2, c1], .l⟩
theorem do_end (b : Book) (d : Deal) (hb : BkI b) (hk : d.Kind = 4) (hf : 0 ≤ d.From) (ht : d.To = 0) (hi : 0 ≤ d.Tally) (ha : d.Amount = 0) : DoS b d := by
  have hu : impl_uses 4 = some (true, true, false, false) := by simp [impl_uses]
  have p1 := personD b.Cash.length hb.cn d.From hf
  have p2 := personD b.Cash.length hb.cn d.To (by omega)
  have hc1 := hb.c1
  have c2 : d.To < b.Cash.length := by omega
  by_cases c0 : d.Day < b.Day
  · exact ⟨.inl 4, by simp [impl_do, c0], by simp [spec_l07Do, spec_l07Refused, c0], .l⟩
  by_cases c1 : d.From < b.Cash.length
  · have c1' : ¬ (b.Cash.length : Int) ≤ d.From := by omega
    by_cases c3 : d.Tally < b.Tallies.length
    · have c3' : ¬ (b.Tallies.length : Int) ≤ d.Tally := by omega
      obtain ⟨i, hi'⟩ : ∃ i : Nat, d.Tally = i := ⟨d.Tally.toNat, by omega⟩
      have hlt : i < b.Tallies.length := by omega
      have hr : rd b.Tallies d.Tally = some b.Tallies[i] := by rw [hi', rd_coe, List.getElem?_eq_getElem hlt]
      obtain ⟨t1, t2, t3, t4⟩ := hb.ta _ (List.getElem_mem hlt)
      have ow := ownBook_eq b hb
      have cp := l07Copy_eq b hb
      revert hr t1 t2 t3 t4
      generalize b.Tallies[i] = t
      intro hr t1 t2 t3 t4
      by_cases c5 : t.Holder = d.From
      · by_cases c6 : t.Left = 0
        · exact ⟨.inl 4, by simp [impl_do, c0, hu, hk, c1', c3', ow, hr, c5, c6], by simp [spec_l07Do, spec_l07Refused, c0, p1, p2, c1, c2, c3', hk, hr, c5, c6], .l⟩
        · have c7 : ¬ d.Amount > t.Left := by omega
          refine ⟨.inr (d.Day, b.Cash, b.Tallies.set d.Tally.toNat ⟨t.Debtor, t.Holder, t.Cut, t.Amount, 0⟩), ?_, ?_, .r fun _ _ _ h => ?_⟩
          · simp [impl_do, c0, hu, hk, c1', c3', ow, hr, c5, c6]
          · simp [spec_l07Do, spec_l07Refused, c0, p1, p2, c1, c2, c3', hk, hr, c5, c6, c7, cp]
          · cases h
            exact ⟨hb.set _ _ rfl hb.ca _ _ ⟨t1, t2, by simp, fun _ => rfl⟩, rfl⟩
      · have c5' : ¬ d.From = t.Holder := fun h => c5 h.symm
        exact ⟨.inl 4, by simp [impl_do, c0, hu, hk, c1', c3', ow, hr, c5'], by simp [spec_l07Do, spec_l07Refused, c0, p1, p2, c1, c2, c3', hk, hr, c5'], .l⟩
    · have c3' : (b.Tallies.length : Int) ≤ d.Tally := by omega
      exact ⟨.inl 2, by simp [impl_do, c0, hu, hk, c1', c3'], by simp [spec_l07Do, spec_l07Refused, c0, p1, p2, c1, c2, c3', hk], .l⟩
  · have c1' : (b.Cash.length : Int) ≤ d.From := by omega
    exact ⟨.inl 2, by simp [impl_do, c0, hu, hk, c1'], by simp [spec_l07Do, spec_l07Refused, c0, p1, p2, c1], .l⟩
theorem do_pay (b : Book) (d : Deal) (hb : BkI b) (hk : d.Kind = 3) (hf : d.From = 0) (ht : d.To = 0) (hi : 0 ≤ d.Tally) (ha : 1 ≤ d.Amount ∧ d.Amount ≤ 100000000) : DoS b d := by
  have hu : impl_uses 3 = some (true, false, false, true) := by simp [impl_uses]
  have p1 := personD b.Cash.length hb.cn d.From (by omega)
  have p2 := personD b.Cash.length hb.cn d.To (by omega)
  have hc1 := hb.c1
  have c1 : d.From < b.Cash.length := by omega
  have c2 : d.To < b.Cash.length := by omega
  by_cases c0 : d.Day < b.Day
  · exact ⟨.inl 4, by simp [impl_do, c0], by simp [spec_l07Do, spec_l07Refused, c0], .l⟩
  by_cases c3 : d.Tally < b.Tallies.length
  · have c3' : ¬ (b.Tallies.length : Int) ≤ d.Tally := by omega
    obtain ⟨i, hi'⟩ : ∃ i : Nat, d.Tally = i := ⟨d.Tally.toNat, by omega⟩
    have hlt : i < b.Tallies.length := by omega
    have hr : rd b.Tallies d.Tally = some b.Tallies[i] := by rw [hi', rd_coe, List.getElem?_eq_getElem hlt]
    obtain ⟨t1, t2, t3, t4⟩ := hb.ta _ (List.getElem_mem hlt)
    have ow := ownBook_eq b hb
    have cp := l07Copy_eq b hb
    revert hr t1 t2 t3 t4
    generalize b.Tallies[i] = t
    intro hr t1 t2 t3 t4
    by_cases c6 : t.Left = 0
    · exact ⟨.inl 4, by simp [impl_do, c0, hu, hk, c3', ow, hr, c6], by simp [spec_l07Do, spec_l07Refused, c0, p1, p2, c1, c2, c3', hk, hr, c6], .l⟩
    by_cases c7 : d.Amount > t.Left
    · exact ⟨.inl 4, by simp [impl_do, c0, hu, hk, c3', ow, hr, c6, c7], by simp [spec_l07Do, spec_l07Refused, c0, p1, p2, c1, c2, c3', hk, hr, c6, c7], .l⟩
    obtain ⟨j, hj⟩ : ∃ j : Nat, t.Debtor = j := ⟨t.Debtor.toNat, by omega⟩
    obtain ⟨k, hk'⟩ : ∃ k : Nat, t.Holder = k := ⟨t.Holder.toNat, by omega⟩
    have hjl : j < b.Cash.length := by omega
    have hkl : k < b.Cash.length := by omega
    have hjk : ¬ j = k := fun e => c6 (t4 (by omega))
    have rj : rd b.Cash t.Debtor = some b.Cash[j] := by rw [hj, rd_coe, List.getElem?_eq_getElem hjl]
    have rk : rd b.Cash t.Holder = some b.Cash[k] := by rw [hk', rd_coe, List.getElem?_eq_getElem hkl]
    have aj := hb.ca _ (List.getElem_mem hjl)
    have ak := hb.ca _ (List.getElem_mem hkl)
    have rk2 : ∀ x, rd (b.Cash.set t.Debtor.toNat x) t.Holder = some b.Cash[k] := fun x => by
      rw [hk', rd_coe, hj, Int.toNat_natCast, List.getElem?_set_ne hjk, List.getElem?_eq_getElem hkl]
    have rk3 : ∀ x y, rd ((b.Cash.set t.Debtor.toNat x).set t.Holder.toNat y) t.Holder = some y := fun x y => by
      rw [hk', rd_coe, Int.toNat_natCast, List.getElem?_set_self (by simpa using hkl)]
    have hca : ∀ x ∈ (b.Cash.set t.Debtor.toNat (b.Cash[j] - d.Amount)).set t.Holder.toNat (b.Cash[k] + d.Amount), ¬ b.Cash[j] < d.Amount → ¬ b.Cash[k] + d.Amount > 100000000 → 0 ≤ x ∧ x ≤ 100000000 := fun x hx g1 g2 => by
      rcases List.mem_or_eq_of_mem_set hx with h | rfl
      · rcases List.mem_or_eq_of_mem_set h with h | rfl
        · exact hb.ca x h
        · omega
      · omega
    revert rj rk aj ak rk2 hca
    generalize b.Cash[j] = u
    generalize b.Cash[k] = v
    intro rj rk aj ak rk2 hca
    have w1 : IntKind.i64.wrap (u - d.Amount) = u - d.Amount := w64 (by omega)
    have w2 : IntKind.i64.wrap (v + d.Amount) = v + d.Amount := w64 (by omega)
    have w3 : IntKind.i64.wrap (t.Left - d.Amount) = t.Left - d.Amount := w64 (by omega)
    by_cases c8 : u < d.Amount
    · exact ⟨.inl 8, by simp [impl_do, c0, hu, hk, c3', ow, hr, c6, c7, rj, c8], by simp [spec_l07Do, spec_l07Refused, c0, p1, p2, c1, c2, c3', hk, hr, c6, c7, rj, c8], .l⟩
    by_cases c9 : v + d.Amount > 100000000
    · exact ⟨.inl 3, by simp [impl_do, c0, hu, hk, c3', ow, hr, c6, c7, rj, c8, rk2, rk3, w1, w2, c9], by simp [spec_l07Do, spec_l07Refused, c0, p1, p2, c1, c2, c3', hk, hr, c6, c7, rj, c8, rk, w2, c9], .l⟩
    refine ⟨.inr (d.Day, (b.Cash.set t.Debtor.toNat (u - d.Amount)).set t.Holder.toNat (v + d.Amount), b.Tallies.set d.Tally.toNat ⟨t.Debtor, t.Holder, t.Cut, t.Amount, t.Left - d.Amount⟩), ?_, ?_, .r fun _ _ _ h => ?_⟩
    · simp [impl_do, c0, hu, hk, c3', ow, hr, c6, c7, rj, c8, rk2, rk3, w1, w2, w3, c9]
    · simp [spec_l07Do, spec_l07Refused, c0, p1, p2, c1, c2, c3', hk, hr, c6, c7, rj, c8, rk, rk2, w1, w2, w3, c9, cp]
    · cases h
      exact ⟨hb.set _ _ (by simp) (fun x hx => hca x hx c8 c9) _ _ ⟨t1, t2, ⟨by simp; omega, by simp; omega⟩, fun e => absurd (t4 e) c6⟩, by simp⟩
  · have c3' : (b.Tallies.length : Int) ≤ d.Tally := by omega
    exact ⟨.inl 2, by simp [impl_do, c0, hu, hk, c3'], by simp [spec_l07Do, spec_l07Refused, c0, p1, p2, c1, c2, c3', hk], .l⟩
theorem do_same (b : Book) (d : Deal) (hb : BkI b) (hd : dealB d = true) : DoS b d := by
  unfold dealB at hd
  simp only [Bool.and_eq_true, Bool.or_eq_true, beq_iff_eq, inB_iff] at hd
  obtain ⟨_, ((h | h) | h) | h⟩ := hd
  · obtain ⟨⟨⟨⟨h1, h2⟩, h3⟩, h4⟩, h5⟩ := h
    exact do_cut b d hb h1 h3.1 h4.1 ⟨by omega, h5.2⟩
  · obtain ⟨⟨⟨⟨h1, h2⟩, h3⟩, h4⟩, h5⟩ := h
    exact do_pass b d hb h1 h3.1 h4.1 h2.1 h5
  · obtain ⟨⟨⟨⟨h1, h2⟩, h3⟩, h4⟩, h5⟩ := h
    exact do_pay b d hb h1 h3 h4 h2.1 h5
  · obtain ⟨⟨⟨⟨h1, h2⟩, h3⟩, h4⟩, h5⟩ := h
    exact do_end b d hb h1 h3.1 h4 h2.1 h5
end Go.Proofs.Ytpdmcpnabjifhaa
/- Lists of deals done on a book: the program's and the reference's. -/
namespace Go.Proofs.Ytpdmcpnabjifhaa
open Go Go.Ab
/-- what is known of the books that have been made -/
def BksI (n : Nat) (out : List Book) : Prop := ∀ x ∈ out, BkI x ∧ x.Cash.length = n
def LastI (b : Book) (s : Book) (out : List Book) : Prop := (out = [] ∧ s = b) ∨ out.getLast? = some s
theorem books_loop (xs : List Deal) (b : Book) (hb : BkI b) (hx : ∀ d ∈ xs, dealB d = true) (hn : xs.length ≤ 80) :
    ∃ r r2, Lw (impl_books_b1 xs) (0, b.Day, b.Cash, b.Tallies, []) = some r ∧ Lw (spec_l07All_b1 xs) (0, b.Day, b.Cash, b.Tallies, []) = some r2 ∧
      ((∃ c out, r = .inl (c, out) ∧ r2 = .inl (c, (out.length : Int)) ∧ c ≠ 0 ∧ out.length ≤ 80 ∧ BksI b.Cash.length out) ∨
        ∃ d cs ts out, r = .inr (d, cs, ts, out) ∧ r2 = .inr (d, cs, ts, out) ∧ out.length = xs.length ∧ BkI ⟨d, cs, ts⟩ ∧ cs.length = b.Cash.length ∧ BksI b.Cash.length out ∧ LastI b ⟨d, cs, ts⟩ out) := by
  refine Lw_sim (tb := impl_books_b1 xs) (tb2 := spec_l07All_b1 xs) (fun s => xs.length - s.1.toNat)
    (fun s s2 => s = s2 ∧ ∃ i : Nat, s.1 = i ∧ i ≤ xs.length ∧ s.2.2.2.2.length = i ∧ BkI ⟨s.2.1, s.2.2.1, s.2.2.2.1⟩ ∧ s.2.2.1.length = b.Cash.length ∧ BksI b.Cash.length s.2.2.2.2 ∧ LastI b ⟨s.2.1, s.2.2.1, s.2.2.2.1⟩ s.2.2.2.2) _ ?_ _ _ _ rfl
    ⟨rfl, 0, rfl, by omega, rfl, hb, rfl, fun x h => (nomatch h), .inl ⟨rfl, rfl⟩⟩
  rintro ⟨j, d, cs, ts, out⟩ s2 ⟨rfl, i, hi, hil, hol, hbk, hcl, hbs, hla⟩
  simp only at hi hol hbk hcl hbs hla
  subst hi
  by_cases hlt : i < xs.length
  · obtain ⟨q, e1, e2, e3⟩ := do_same ⟨d, cs, ts⟩ xs[i] hbk (hx _ (List.getElem_mem hlt))
    have hr : rd xs (i : Int) = some xs[i] := by rw [rd_coe, List.getElem?_eq_getElem hlt]
    rcases q with q | ⟨d', cs', ts'⟩
    · have h0 : q ≠ 0 := e3.1 q rfl
      exact .inr ⟨.inl (q, out), .inl (q, (i : Int)), by simp [impl_books_b1, hr, hlt, e1, h0], by simp [spec_l07All_b1, hr, hlt, e2, h0], .inl ⟨q, out, rfl, by rw [hol], h0, by omega, hbs⟩⟩
    · obtain ⟨g1, g2⟩ := e3.2 _ _ _ rfl
      have ap : app 56 out [⟨d', cs', ts'⟩] = some (out ++ [⟨d', cs', ts'⟩]) := app_some (by simp; omega) (by decide)
      have w := w64s hlt (by omega)
      refine .inl ⟨(((i + 1 : Nat) : Int), d', cs', ts', out ++ [⟨d', cs', ts'⟩]), _, by simp [impl_books_b1, hr, hlt, e1, ap, w], by simp [spec_l07All_b1, hr, hlt, e2, ap, w], ⟨rfl, i + 1, rfl, by omega, by simp [hol], g1, by simpa [hcl] using g2, fun x hx' => ?_, .inr (by simp)⟩, by simp; omega⟩
      rcases List.mem_append.1 hx' with h | h
      · exact hbs x h
      · obtain rfl := List.mem_singleton.1 h
        exact ⟨g1, by simpa [hcl] using g2⟩
  · have hie : i = xs.length := by omega
    exact .inr ⟨.inr (d, cs, ts, out), .inr (d, cs, ts, out), by simp [impl_books_b1, hlt], by simp [spec_l07All_b1, hlt], .inr ⟨d, cs, ts, out, rfl, rfl, by omega, hbk, hcl, hbs, hla⟩⟩
/-- the books behind the deals -/
def BooksS (b : Book) (xs : List Deal) : Prop :=
  (∃ c out, impl_books b xs = some (out, c) ∧ spec_l07All b xs = some ([], c, (out.length : Int)) ∧ c ≠ 0 ∧ out.length ≤ 80 ∧ BksI b.Cash.length out) ∨
    ∃ s out, impl_books b xs = some (out, 0) ∧ spec_l07All b xs = some (out, 0, 0) ∧ out.length = xs.length ∧ BkI s ∧ s.Cash.length = b.Cash.length ∧ BksI b.Cash.length out ∧ LastI b s out
theorem books_same (xs : List Deal) (b : Book) (hb : BkI b) (hx : ∀ d ∈ xs, dealB d = true) (hn : xs.length ≤ 80) : BooksS b xs := by
  obtain ⟨r, r2, e1, e2, h⟩ := books_loop xs b hb hx hn
  rcases h with ⟨c, out, rfl, rfl, h⟩ | ⟨d, cs, ts, out, rfl, rfl, h⟩
  · exact .inl ⟨c, out, by unfold impl_books; rw [e1]; rfl, by unfold spec_l07All; rw [l07Copy_eq b hb, Option.bind_some]; simp only; rw [e2]; rfl, h⟩
  · exact .inr ⟨⟨d, cs, ts⟩, out, by unfold impl_books; rw [e1]; rfl, by unfold spec_l07All; rw [l07Copy_eq b hb, Option.bind_some]; simp only; rw [e2]; rfl, h⟩
def askC (b : Book) (xs : List Deal) : Int := if bookB b && xs.all dealB then if (80 : Int) < (xs.length : Int) then 3 else 0 else 1
theorem dealsCode_eq (b : Book) (xs : List Deal) (hc : b.Cash.length ≤ 4611686018427387904) (ht : b.Tallies.length ≤ 4611686018427387904) (hx : xs.length ≤ 4611686018427387904) : impl_dealsCode b xs = some (askC b xs) := by
  unfold impl_dealsCode askC
  rw [validBook_eq b hc ht, areDeals_eq xs hx]
  cases bookB b <;> cases xs.all dealB <;> simp <;> split <;> rfl
theorem l07Asked_eq (b : Book) (xs : List Deal) (hc : b.Cash.length ≤ 4611686018427387904) (ht : b.Tallies.length ≤ 4611686018427387904) (hx : xs.length ≤ 4611686018427387904) : spec_l07Asked b xs = some (askC b xs) := by
  unfold spec_l07Asked askC
  rw [l07Ok_eq b hc ht, l07Deals_eq xs hx]
  cases bookB b <;> cases xs.all dealB <;> simp <;> split <;> rfl
theorem asked {b : Book} {xs : List Deal} (h : askC b xs = 0) : BkI b ∧ (∀ d ∈ xs, dealB d = true) ∧ xs.length ≤ 80 := by
  unfold askC at h
  split at h
  · rename_i h1
    simp only [Bool.and_eq_true, List.all_eq_true] at h1
    split at h
    · omega
    · exact ⟨.of h1.1, h1.2, by omega⟩
  · omega
end Go.Proofs.Ytpdmcpnabjifhaa
/- The book behind a list of deals, and the book of a day. -/
namespace Go.Proofs.Ytpdmcpnabjifhaa
open Go Go.Ab
theorem find_loop {τ R : Type} {tb : Int → Option (Int ⊕ R)} (p : τ → Bool) (xs : List τ) (hit : Nat → R) (miss : R)
    (h1 : ∀ (i : Nat) (h : i < xs.length), p xs[i] = false → tb (i : Int) = some (.inl ((i + 1 : Nat) : Int))) (h2 : ∀ (i : Nat) (h : i < xs.length), p xs[i] = true → tb (i : Int) = some (.inr (hit i))) (h3 : tb (xs.length : Int) = some (.inr miss)) :
    Lw tb 0 = some (if xs.findIdx p < xs.length then hit (xs.findIdx p) else miss) := by
  have key := Lw_run (tb := tb) (fun i => (i : Int)) (xs.findIdx p) (r := if xs.findIdx p < xs.length then hit (xs.findIdx p) else miss)
    (fun i hi => h1 i (Nat.lt_of_lt_of_le hi List.findIdx_le_length) (by simpa using List.not_of_lt_findIdx hi))
    (by
      by_cases h : xs.findIdx p < xs.length
      · rw [if_pos h]; exact h2 _ h List.findIdx_getElem
      · rw [if_neg h]
        have : xs.findIdx p = xs.length := Nat.le_antisymm List.findIdx_le_length (by omega)
        simp only [this]; exact h3)
  exact key
theorem day_idx (xs : List Deal) (day : Int) (hn : xs.length ≤ 4611686018427387904) :
    slices_IndexFunc_Deal__impl_stateOn_1 xs day = some (if xs.findIdx (fun d => decide (d.Day > day)) < xs.length then ((xs.findIdx fun d => decide (d.Day > day) : Nat) : Int) else -1) := by
  unfold slices_IndexFunc_Deal__impl_stateOn_1
  have key := find_loop (tb := slices_IndexFunc_Deal__impl_stateOn_1_b1 xs day) (fun d => decide (d.Day > day)) xs (fun i => .inl (i : Int)) (.inr ())
    (by
      intro i h hp
      have w := w64s h hn
      simp only [decide_eq_false_iff_not] at hp
      simp [slices_IndexFunc_Deal__impl_stateOn_1_b1, impl_stateOn_1, rd_coe, h, hp, w])
    (by
      intro i h hp
      simp only [decide_eq_true_eq] at hp
      simp [slices_IndexFunc_Deal__impl_stateOn_1_b1, impl_stateOn_1, rd_coe, h, hp])
    (by simp [slices_IndexFunc_Deal__impl_stateOn_1_b1])
  rw [key, Option.bind_some]
  by_cases h : xs.findIdx (fun d => decide (d.Day > day)) < xs.length
  · rw [if_pos h, if_pos h]
  · rw [if_neg h, if_neg h]
theorem day_spec (xs : List Deal) (day : Int) (hn : xs.length ≤ 4611686018427387904) :
    Lw (spec_l07State_b1 xs day) 0 = some ((xs.findIdx fun d => decide (d.Day > day) : Nat) : Int) := by
  have key := find_loop (tb := spec_l07State_b1 xs day) (fun d => decide (d.Day > day)) xs (fun i => (i : Int)) (xs.length : Int)
    (by
      intro i h hp
      have w := w64s h hn
      simp only [decide_eq_false_iff_not] at hp
      have hp' : xs[i].Day ≤ day := by omega
      simp [spec_l07State_b1, rd_coe, h, hp', w])
    (by
      intro i h hp
      simp only [decide_eq_true_eq] at hp
      have hp' : ¬ xs[i].Day ≤ day := by omega
      simp [spec_l07State_b1, rd_coe, h, hp'])
    (by simp [spec_l07State_b1])
  rw [key]
  split
  · rfl
  · have : xs.findIdx (fun d => decide (d.Day > day)) = xs.length := Nat.le_antisymm List.findIdx_le_length (by omega)
    rw [this]
theorem slc0 {τ : Type} (xs : List τ) (n : Nat) (h : n ≤ xs.length) : slc xs 0 (n : Int) = some (xs.take n) := by
  unfold slc
  rw [if_pos ⟨by omega, by omega, by omega⟩]; simp
theorem rd_last {out : List Book} {s : Book} (h : out.getLast? = some s) (hn : out.length ≤ 4611686018427387904) : rd out (IntKind.i64.wrap ((out.length : Int) - 1)) = some s := by
  have h0 : out ≠ [] := fun e => by subst e; cases h
  have hp : 0 < out.length := List.length_pos_iff.2 h0
  rw [w64 (by omega), show ((out.length : Int) - 1) = ((out.length - 1 : Nat) : Int) by omega, rd_coe, ← List.getLast?_eq_getElem?, h]
def BehS (b : Book) (xs : List Deal) : Prop :=
  (∃ c k, c ≠ 0 ∧ impl_behind b xs = some (.inl c) ∧ spec_l07All b xs = some ([], c, k)) ∨
    ∃ s out, BkI s ∧ s.Cash.length = b.Cash.length ∧ impl_behind b xs = some (.inr (s.Day, s.Cash, s.Tallies)) ∧ spec_l07All b xs = some (out, 0, 0) ∧ out.length = xs.length ∧ LastI b s out
theorem behind_same (xs : List Deal) (b : Book) (hb : BkI b) (hx : ∀ d ∈ xs, dealB d = true) (hn : xs.length ≤ 80) : BehS b xs := by
  rcases books_same xs b hb hx hn with ⟨c, out, e1, e2, e3, _⟩ | ⟨s, out, e1, e2, e3, e4, e5, e6, e7⟩
  · exact .inl ⟨c, _, e3, by unfold impl_behind; rw [e1]; simp [e3], e2⟩
  · refine .inr ⟨s, out, e4, e5, ?_, e2, e3, e7⟩
    unfold impl_behind
    rw [e1]
    rcases e7 with ⟨rfl, rfl⟩ | h
    · simp [ownBook_eq s hb]
    · have h0 : out ≠ [] := fun e => by subst e; cases h
      have hr := rd_last h (by omega)
      simp [h0, hr]
def StS (b : Book) (xs : List Deal) (day : Int) : Prop :=
  (∃ c, c ≠ 0 ∧ impl_stateOn b xs day = some (.inl (0, c)) ∧ spec_l07State b xs day = some (.inl c)) ∨
    ∃ s : Book, BkI s ∧ s.Cash.length = b.Cash.length ∧ impl_stateOn b xs day = some (.inr (day, s.Cash, s.Tallies)) ∧ spec_l07State b xs day = some (.inr (day, s.Cash, s.Tallies))
theorem state_same (b : Book) (xs : List Deal) (day : Int) (hb : BkI b) (hx : ∀ d ∈ xs, dealB d = true) (hn : xs.length ≤ 80) : StS b xs day := by
  by_cases h0 : day < b.Day
  · exact .inl ⟨4, by decide, by simp [impl_stateOn, h0], by simp [spec_l07State, h0]⟩
  have i1 := day_idx xs day (by omega)
  have i2 := day_spec xs day (by omega)
  have hle : xs.findIdx (fun d => decide (d.Day > day)) ≤ xs.length := List.findIdx_le_length
  revert i1 i2 hle
  generalize xs.findIdx (fun d => decide (d.Day > day)) = n
  intro i1 i2 hle
  have B := behind_same (xs.take n) b hb (fun d hd => hx d (List.mem_of_mem_take hd)) (by simp; omega)
  have sl := slc0 xs n hle
  have hi : impl_stateOn b xs day = (impl_behind b (xs.take n)).bind fun r => match r with
      | .inl r54 => if (r54 != 0) = true then some (.inl (0, r54)) else some (.inl (day, 0))
      | .inr (r103, r104, r105) => some (.inr (day, r104, r105)) := by
    unfold impl_stateOn
    rw [if_neg (by simpa using h0), i1, Option.bind_some]
    by_cases hlt : n < xs.length
    · rw [if_pos hlt, if_neg (by simp), sl, Option.bind_some]
      rfl
    · have hne : n = xs.length := by omega
      rw [if_neg hlt, if_pos (by simp)]
      rw [slc0 xs xs.length (Nat.le_refl _), Option.bind_some, ← hne]
      rfl
  have hs : spec_l07State b xs day = (spec_l07All b (xs.take n)).bind fun (r101, r102, r103) =>
      if (r102 != 0) = true then some (.inl r102) else
      (spec_l07Copy b).bind fun (r130, r131, r132) =>
      if (decide ((n : Int) > 0)) = true then
        (rd r101 (IntKind.i64.wrap ((n : Int) - 1))).bind fun x159 =>
        (spec_l07Copy x159).bind fun (r162, r163, r164) => some (.inr (day, r163, r164))
      else some (.inr (day, r131, r132)) := by
    unfold spec_l07State
    rw [if_neg (by simpa using h0), i2, Option.bind_some, sl, Option.bind_some]
  unfold StS
  rw [hi, hs]
  rcases B with ⟨c, k, c0, e1, e2⟩ | ⟨s, out, g1, g2, e1, e2, e3, e4⟩
  · exact .inl ⟨c, c0, by simp [e1, c0], by simp [e2, c0]⟩
  · refine .inr ⟨s, g1, g2, by simp [e1], ?_⟩
    rw [e2]
    have hl : out.length = n := by rw [e3]; simp; omega
    rcases e4 with ⟨rfl, rfl⟩ | h
    · have : n = 0 := by simpa using hl.symm
      simp [this, l07Copy_eq s hb]
    · have h0 : out ≠ [] := fun e => by subst e; cases h
      have hp : 0 < out.length := List.length_pos_iff.2 h0
      have hr := rd_last h (by omega)
      rw [hl] at hr hp
      simp [l07Copy_eq b hb, hp, hr, l07Copy_eq s g1]
/-- the book of a day, asked from outside -/
def StA (b : Book) (xs : List Deal) (day : Int) : Prop :=
  (∃ c, c ≠ 0 ∧ impl_StateOn b xs day = some (.inl (0, c)) ∧ spec_StateOn b xs day = some (.inl c)) ∨
    ∃ s : Book, BkI s ∧ s.Cash.length = b.Cash.length ∧ impl_StateOn b xs day = some (.inr (day, s.Cash, s.Tallies)) ∧ spec_StateOn b xs day = some (.inr (day, s.Cash, s.Tallies))
theorem stateOn_same (b : Book) (xs : List Deal) (day : Int) (hc : b.Cash.length ≤ 4611686018427387904) (ht : b.Tallies.length ≤ 4611686018427387904) (hx : xs.length ≤ 4611686018427387904) : StA b xs day := by
  unfold StA impl_StateOn spec_StateOn
  rw [dealsCode_eq b xs hc ht hx, l07Asked_eq b xs hc ht hx, Option.bind_some, Option.bind_some, isBookDay_eq, l07Day_eq]
  by_cases h0 : askC b xs = 0
  · obtain ⟨g1, g2, g3⟩ := asked h0
    cases hd : inB day 0 100000
    · exact .inl ⟨2, by decide, by simp [h0], by simp [h0]⟩
    · rcases state_same b xs day g1 g2 g3 with ⟨c, c0, e1, e2⟩ | ⟨s, k1, k2, e1, e2⟩
      · exact .inl ⟨c, c0, by simp [h0, e1], by simp [h0, e2]⟩
      · exact .inr ⟨s, k1, k2, by simp [h0, e1], by simp [h0, e2]⟩
  · exact .inl ⟨askC b xs, h0, by simp [h0], by simp [h0]⟩
end Go.Proofs.Ytpdmcpnabjifhaa

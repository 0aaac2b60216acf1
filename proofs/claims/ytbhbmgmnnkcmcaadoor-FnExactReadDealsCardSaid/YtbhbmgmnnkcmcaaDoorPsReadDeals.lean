/- Plain lemmas. -/
import Derived.Test.YtbhbmgmnnkcmcaaDoorOkReadDeals
set_option linter.unusedVariables false
set_option linter.unusedSimpArgs false
/- Loops that compare and weigh lists. -/
namespace Go.Proofs.YtbhbmgmnnkcmcaaDoor
open Go Go.Ab
theorem eqS_loop {τ : Type} [DecidableEq τ] {tb : Int → Option (Int ⊕ (Unit ⊕ Unit))} (a b : List τ) (h : a.length ≤ 4611686018427387904) (hl : a.length = b.length)
    (hs : ∀ (i : Nat) (h1 : i < a.length) (h2 : i < b.length), tb (i : Int) = some (if a[i] = b[i] then .inl (IntKind.i64.wrap ((i : Int) + 1)) else .inr (.inl ()))) (he : tb (a.length : Int) = some (.inr (.inr ()))) :
    Lw tb 0 = some (if a = b then .inr () else .inl ()) := by
  have key := scan_all (tb := tb) a.length h (fun i => decide (a[i]? = b[i]?)) () ()
    (by
      intro i hi
      have hi2 : i < b.length := by omega
      rw [hs i hi hi2, List.getElem?_eq_getElem hi, List.getElem?_eq_getElem hi2]
      by_cases he : a[i] = b[i] <;> simp [he])
    he
  rw [key, all_eq hl]
  by_cases he : a = b <;> simp [he]
theorem sz_loop {tb : Int × Int → Option ((Int × Int) ⊕ (Unit ⊕ Int))} (n : Nat) (hs : ∀ (a : Int) (i : Nat), i < n → (∃ r, tb (a, (i : Int)) = some (.inl (r, ((i + 1 : Nat) : Int)))) ∨ tb (a, (i : Int)) = some (.inr (.inl ()))) (he : ∀ a, tb (a, (n : Int)) = some (.inr (.inr a))) (a : Int) :
    ∃ r, Lw tb (a, 0) = some r := by
  have : ∃ r r2, Lw tb (a, 0) = some r ∧ Lw tb (a, 0) = some r2 ∧ r = r2 := by
    refine Lw_sim (tb := tb) (tb2 := tb) (fun s => n - s.2.toNat) (fun s s2 => s = s2 ∧ ∃ i : Nat, s.2 = i ∧ i ≤ n) _ ?_ _ _ _ rfl ⟨rfl, 0, rfl, by omega⟩
    rintro ⟨a, j⟩ s2 ⟨rfl, i, hi, hl⟩
    simp only at hi
    subst hi
    by_cases hlt : i < n
    · rcases hs a i hlt with ⟨r, hr⟩ | hr
      · exact .inl ⟨_, _, hr, hr, ⟨rfl, i + 1, rfl, by omega⟩, by simp; omega⟩
      · exact .inr ⟨_, _, hr, hr, rfl⟩
    · have : i = n := by omega
      subst this
      exact .inr ⟨_, _, he a, he a, rfl⟩
  obtain ⟨r, _, hr, _, _⟩ := this
  exact ⟨r, hr⟩
theorem find_first {τ R : Type} {tb : Int → Option (Int ⊕ R)} (p : τ → Bool) (xs : List τ) (hit : Nat → R) (miss : R)
    (h1 : ∀ (i : Nat) (h : i < xs.length), p xs[i] = false → tb (i : Int) = some (.inl ((i + 1 : Nat) : Int))) (h2 : ∀ (i : Nat) (h : i < xs.length), p xs[i] = true → tb (i : Int) = some (.inr (hit i))) (h3 : tb (xs.length : Int) = some (.inr miss)) :
    Lw tb 0 = some (if xs.findIdx p < xs.length then hit (xs.findIdx p) else miss) := by
  have key := Lw_run (tb := tb) (fun i => (i : Int)) (xs.findIdx p) (r := if xs.findIdx p < xs.length then hit (xs.findIdx p) else miss)
    (fun i hi => h1 i (Nat.lt_of_lt_of_le hi List.findIdx_le_length) (by simpa using List.not_of_lt_findIdx hi))
    (by
      by_cases h : xs.findIdx p < xs.length
      · rw [if_pos h]; exact h2 _ h List.findIdx_getElem
      · rw [if_neg h]
        have : xs.findIdx p = xs.length := Nat.le_antisymm List.findIdx_le_length (by omega)
        simp only [this]; exact h3)
  exact key
theorem any_find {τ : Type} (p : τ → Bool) (xs : List τ) : xs.any p = decide (xs.findIdx p < xs.length) := by
  rw [Bool.eq_iff_iff, decide_eq_true_eq, List.findIdx_lt_length, List.any_eq_true]
/-! arrays -/
theorem rdA_coe {n : Nat} {τ : Type} (g : Ar n τ) (i : Nat) (h : i < n) : rdA g (i : Int) = some (g.l[i]'(by rw [g.h]; exact h)) := by
  unfold rdA
  rw [if_pos ⟨by omega, by omega⟩, Int.toNat_natCast, List.getElem?_eq_getElem]
theorem ar_ext {n : Nat} {τ : Type} {a b : Ar n τ} : a = b ↔ a.l = b.l := by cases a; cases b; simp
theorem ar_copy {n : Nat} {τ : Type} {tb : Int × Ar n τ → Option ((Int × Ar n τ) ⊕ Ar n τ)} (a z : Ar n τ) (hs : ∀ (i : Nat) (h : i < n) (y : Ar n τ), tb ((i : Int), y) = some (.inl (((i + 1 : Nat) : Int), y.set i (a.l[i]'(by rw [a.h]; exact h))))) (he : ∀ y, tb ((n : Int), y) = some (.inr y)) :
    Lw tb (0, z) = some a := by
  have hz := z.h
  have ha := a.h
  have key := Lw_run (tb := tb) (fun i => ((i : Int), (⟨a.l.take i ++ z.l.drop (min i n), by simp; omega⟩ : Ar n τ))) n (r := a)
    (by
      intro i hi
      rw [hs i hi]
      congr 3
      rw [ar_ext]
      show (a.l.take i ++ z.l.drop (min i n)).set i _ = a.l.take (i + 1) ++ z.l.drop (min (i + 1) n)
      rw [Nat.min_eq_left (by omega), Nat.min_eq_left (by omega), List.set_append_right _ _ (by simp; omega), List.length_take, Nat.min_eq_left (by omega), Nat.sub_self, List.drop_eq_getElem_cons (by omega), List.set_cons_zero, List.take_succ_eq_append_getElem (by omega), List.append_assoc]
      rfl)
    (by
      rw [he]
      congr 2
      rw [ar_ext]
      show a.l.take n ++ z.l.drop (min n n) = a.l
      rw [List.take_of_length_le (by omega), Nat.min_self, List.drop_eq_nil_of_le (by omega), List.append_nil])
  have e : (((0 : Nat) : Int), (⟨a.l.take 0 ++ z.l.drop (min 0 n), by simp; omega⟩ : Ar n τ)) = (0, z) := by
    congr 1
  rw [e] at key
  exact key
theorem foldr_all (p : Nat → Bool) (r : Bool) (l : List Nat) : l.foldr (fun j b => p j && b) r = (l.all p && r) := by
  induction l with
  | nil => simp
  | cons x l ih => simp [ih, Bool.and_assoc]
theorem arB_eq {n : Nat} (g h : Ar n Int) : arB n (fun j => g.get 0 j == h.get 0 j) true = decide (g = h) := by
  unfold arB
  rw [foldr_all, Bool.and_true, Bool.eq_iff_iff, List.all_eq_true, decide_eq_true_eq, ar_ext]
  have hg := g.h
  have hh := h.h
  constructor
  · intro hp
    refine List.ext_getElem (by omega) fun i h1 h2 => ?_
    have := hp i (by simpa [hg] using h1)
    simpa [Ar.get, List.getD_eq_getElem?_getD, h1, h2] using this
  · intro e j _
    simp [Ar.get, e]
end Go.Proofs.YtbhbmgmnnkcmcaaDoor
/- Marks put into numbers, and found again. -/
namespace Go.Proofs.YtbhbmgmnnkcmcaaDoor
open Go Go.Ab
def iota (k : Int) (n : Nat) : List Int := (List.range n).map fun (i : Nat) => k + (i : Int)
theorem iota_len (k : Int) (n : Nat) : (iota k n).length = n := by simp [iota]
theorem iota_get (k : Int) (n i : Nat) (h : i < n) : (iota k n)[i]? = some (k + i) := by
  simp [iota, h]
theorem iota_succ (k : Int) (n : Nat) : iota k (n + 1) = iota k n ++ [k + n] := by simp [iota, List.range_succ]
end Go.Proofs.YtbhbmgmnnkcmcaaDoor
/- Numbers within bounds. -/
namespace Go.Proofs.YtbhbmgmnnkcmcaaDoor
open Go Go.Ab
def inB (n lo hi : Int) : Bool := decide (lo ≤ n) && decide (n ≤ hi)
theorem inB_iff {n lo hi : Int} : inB n lo hi = true ↔ lo ≤ n ∧ n ≤ hi := by simp [inB]
theorem inB_not {n lo hi : Int} : inB n lo hi = false ↔ n < lo ∨ hi < n := by rw [← Bool.not_eq_true, inB_iff]; omega
theorem l00In_eq (n lo hi : Int) : spec_l00In n lo hi = some (inB n lo hi) := by
  unfold spec_l00In inB; by_cases h : lo ≤ n <;> simp [h]
theorem some_ite {α : Type} (c : Bool) (a b : α) : (if c = true then some a else some b) = some (if c = true then a else b) := by cases c <;> rfl
theorem ite_false_b (c b : Bool) : (if c = true then b else false) = (c && b) := by cases c <;> simp
theorem ite_true_b (c b : Bool) : (if c = true then true else b) = (c || b) := by cases c <;> simp
end Go.Proofs.YtbhbmgmnnkcmcaaDoor
/- Days. -/
namespace Go.Proofs.YtbhbmgmnnkcmcaaDoor
open Go Go.Ab
theorem l07Day_eq (n : Int) : spec_l07Day n = some (inB n 0 100000) := by
  unfold spec_l07Day; simp only [l00In_eq, Option.bind_some]
theorem isBookDay_eq (n : Int) : impl_isBookDay n = some (inB n 0 100000) := by
  unfold impl_isBookDay inB; by_cases h : 0 ≤ n <;> simp [h]
end Go.Proofs.YtbhbmgmnnkcmcaaDoor
/- Amounts. -/
namespace Go.Proofs.YtbhbmgmnnkcmcaaDoor
open Go Go.Ab
theorem l01Amount_eq (n : Int) : spec_l01Amount n = some (inB n 0 100000000) := by
  unfold spec_l01Amount; rw [l00In_eq, Option.bind_some]
theorem isAmount_eq (n : Int) : impl_isAmount n = some (inB n 0 100000000) := by
  unfold impl_isAmount inB; by_cases h : 0 ≤ n <;> simp [h]
end Go.Proofs.YtbhbmgmnnkcmcaaDoor
/- slices.Equal of numbers. -/
namespace Go.Proofs.YtbhbmgmnnkcmcaaDoor
open Go Go.Ab
end Go.Proofs.YtbhbmgmnnkcmcaaDoor
/- Valid deals. -/
namespace Go.Proofs.YtbhbmgmnnkcmcaaDoor
open Go Go.Ab
def dealB (d : Deal) : Bool :=
  inB d.Day 0 100000 &&
  ((d.Kind == 1 && d.Tally == 0 && inB d.From 0 15 && inB d.To 0 15 && inB d.Amount 1 100000000) ||
   (d.Kind == 2 && inB d.Tally 0 39 && inB d.From 0 15 && inB d.To 0 15 && d.Amount == 0) ||
   (d.Kind == 3 && inB d.Tally 0 39 && d.From == 0 && d.To == 0 && inB d.Amount 1 100000000) ||
   (d.Kind == 4 && inB d.Tally 0 39 && inB d.From 0 15 && d.To == 0 && d.Amount == 0))
theorem l07Deal_eq (d : Deal) : spec_l07Deal d = some (dealB d) := by
  unfold spec_l07Deal dealB
  simp only [l00In_eq, l07Day_eq, Option.bind_some, some_ite, ite_false_b]
  cases inB d.Day 0 100000 with
  | false => simp
  | true =>
    by_cases h1 : d.Kind = 1
    · simp [h1, Bool.and_assoc]
    by_cases h2 : d.Kind = 2
    · simp [h2, Bool.and_assoc]
    by_cases h3 : d.Kind = 3
    · simp [h3, Bool.and_assoc]
    by_cases h4 : d.Kind = 4
    · simp [h4, Bool.and_assoc]
    have e1 : (d.Kind == 1) = false := by simpa using h1
    have e2 : (d.Kind == 2) = false := by simpa using h2
    have e3 : (d.Kind == 3) = false := by simpa using h3
    have e4 : (d.Kind == 4) = false := by simpa using h4
    simp [e1, e2, e3, e4]
theorem in_eq (u : Bool) (n lo hi : Int) : impl_ValidDeal_1 u n lo hi = some (if u = true then inB n lo hi else n == 0) := by
  unfold impl_ValidDeal_1 inB; cases u <;> by_cases h : lo ≤ n <;> by_cases h' : n ≤ hi <;> simp [h, h']
theorem validDeal_eq (d : Deal) : impl_ValidDeal d = some (dealB d) := by
  unfold impl_ValidDeal dealB impl_uses
  simp only [isBookDay_eq, in_eq, Option.bind_some, some_ite, ite_false_b]
  cases inB d.Day 0 100000 with
  | false => simp
  | true =>
    by_cases h1 : d.Kind = 1
    · simp [h1, Bool.and_assoc]
    by_cases h2 : d.Kind = 2
    · simp [h2, Bool.and_assoc]
    by_cases h3 : d.Kind = 3
    · simp [h3, Bool.and_assoc]
    by_cases h4 : d.Kind = 4
    · simp [h4, Bool.and_assoc]
    have e1 : (d.Kind == 1) = false := by simpa using h1
    have e2 : (d.Kind == 2) = false := by simpa using h2
    have e3 : (d.Kind == 3) = false := by simpa using h3
    have e4 : (d.Kind == 4) = false := by simpa using h4
    have : d.Kind < 1 ∨ d.Kind > 4 := by omega
    rcases this with h | h <;> simp [e1, e2, e3, e4, h]
end Go.Proofs.YtbhbmgmnnkcmcaaDoor
/- Lists of deals: equal, copied, marked, valid, in order. -/
namespace Go.Proofs.YtbhbmgmnnkcmcaaDoor
open Go Go.Ab
theorem deal_eq {x y : Deal} : x = y ↔ x.Day = y.Day ∧ x.Kind = y.Kind ∧ x.Tally = y.Tally ∧ x.From = y.From ∧ x.To = y.To ∧ x.Amount = y.Amount := by
  cases x; cases y; simp
theorem eqDeal_eq (x y : Deal) : laws_eqDeal x y = some (decide (x = y)) := by
  unfold laws_eqDeal
  simp only [deal_eq, bne_iff_ne, ne_eq, ite_not]
  repeat' split
  all_goals simp_all
theorem eqDealS_eq (a b : List Deal) (h : a.length ≤ 4611686018427387904) : laws_eqDealS a b = some (decide (a = b)) := by
  unfold laws_eqDealS
  by_cases hl : a.length = b.length
  · have key := scan_all (tb := laws_eqDealS_b1 a b) a.length h (fun i => decide (a[i]? = b[i]?)) () ()
      (by
        intro i hi
        have hi2 : i < b.length := by omega
        simp only [laws_eqDealS_b1, rd_coe, List.getElem?_eq_getElem hi, List.getElem?_eq_getElem hi2, Option.bind_some, eqDeal_eq]
        by_cases he : a[i] = b[i] <;> simp [he, hi])
      (by simp [laws_eqDealS_b1])
    rw [if_neg (by simp [hl]), key, all_eq hl]
    by_cases he : a = b <;> simp [he]
  · rw [if_pos (by simp; omega)]
    have : a ≠ b := fun h => hl (by rw [h])
    simp [this]
/-! marks -/
def mDeal (k : Int) : Deal := ⟨k, IntKind.i8.wrap (k + 1), k + 1 + 1, k + 1 + 1 + 1, k + 1 + 1 + 1 + 1, k + 1 + 1 + 1 + 1 + 1⟩
theorem markDealS_eq (xs : List Deal) (k : Int) (hn : xs.length ≤ 100000000000000) (h0 : 0 ≤ k) (hk : k ≤ 1152921504606846976) : laws_markDealS_l xs k = some (k + (6 * xs.length : Nat), marks mDeal 6 k xs.length) := by
  unfold laws_markDealS_l
  have key := mark_loop (tb := laws_markDealS_l_b1) mDeal 6 xs k (by omega) (by omega) h0 hk
    (by
      intro j i zs hi hz hj hjc
      have w1 : IntKind.i64.wrap (j + 1) = j + 1 := w64 (by omega)
      have w2 : IntKind.i64.wrap (j + 1 + 1) = j + 1 + 1 := w64 (by omega)
      have w3 : IntKind.i64.wrap (j + 1 + 1 + 1) = j + 1 + 1 + 1 := w64 (by omega)
      have w4 : IntKind.i64.wrap (j + 1 + 1 + 1 + 1) = j + 1 + 1 + 1 + 1 := w64 (by omega)
      have w5 : IntKind.i64.wrap (j + 1 + 1 + 1 + 1 + 1) = j + 1 + 1 + 1 + 1 + 1 := w64 (by omega)
      have w6 : IntKind.i64.wrap (j + 1 + 1 + 1 + 1 + 1 + 1) = j + 6 := by rw [w64 (by omega)]; omega
      simp [laws_markDealS_l_b1, rd_coe, hi, List.getElem?_set, w1, w2, w3, w4, w5, w6, w64s hi (show zs.length ≤ 4611686018427387904 by omega), mDeal])
    (by intro j zs; simp [laws_markDealS_l_b1])
  rw [key, Option.bind_some]
theorem markDealS0 (k : Int) : laws_markDealS_n k = some k := by
  unfold laws_markDealS_n
  rw [Lw_stop (r := k) (by simp [laws_markDealS_n_b1]), Option.bind_some]
theorem heldDealS_eq (n : Nat) (k : Int) (hn : n ≤ 100000000000000) (h0 : 0 ≤ k) (hk : k ≤ 1152921504606846976) : laws_heldDealS (marks mDeal 6 k n) k = some (k + (6 * n : Nat)) := by
  unfold laws_heldDealS
  have key := held_loop (tb := laws_heldDealS_b1 (marks mDeal 6 k n)) mDeal 6 n k (by omega) (by omega) h0 hk
    (by
      intro j i hi hg hj hjc
      have w1 : IntKind.i64.wrap (j + 1) = j + 1 := w64 (by omega)
      have w2 : IntKind.i64.wrap (j + 1 + 1) = j + 1 + 1 := w64 (by omega)
      have w3 : IntKind.i64.wrap (j + 1 + 1 + 1) = j + 1 + 1 + 1 := w64 (by omega)
      have w4 : IntKind.i64.wrap (j + 1 + 1 + 1 + 1) = j + 1 + 1 + 1 + 1 := w64 (by omega)
      have w5 : IntKind.i64.wrap (j + 1 + 1 + 1 + 1 + 1) = j + 1 + 1 + 1 + 1 + 1 := w64 (by omega)
      have w6 : IntKind.i64.wrap (j + 1 + 1 + 1 + 1 + 1 + 1) = j + 6 := by rw [w64 (by omega)]; omega
      simp only [laws_heldDealS_b1, rd_coe, hg, marks_len, Option.bind_some, w1, w2, w3, w4, w5, w6, w64s hi (show n ≤ 4611686018427387904 by omega)]
      simp [hi, mDeal])
    (by intro j; simp [laws_heldDealS_b1, marks_len])
  rw [key, Option.bind_some]
/-! valid ones -/
end Go.Proofs.YtbhbmgmnnkcmcaaDoor
/- Texts put together. -/
namespace Go.Proofs.YtbhbmgmnnkcmcaaDoor
open Go Go.Ab
theorem sadd_some {a b : List UInt8} (h : a.length + b.length ≤ 9223372036854775807) : sadd a b = some (a ++ b) := by
  unfold sadd
  rw [if_neg (by have : IntKind.i64.max = 9223372036854775807 := rfl; rw [this]; omega)]
end Go.Proofs.YtbhbmgmnnkcmcaaDoor
/- Numbers written out. -/
namespace Go.Proofs.YtbhbmgmnnkcmcaaDoor
open Go Go.Ab
/-- a number's text -/
noncomputable def tx (n : Int) : List UInt8 := Lib.decDigits n.toNat
theorem decDigits_le : ∀ (k n : Nat), n < 10 ^ (k + 1) → (Lib.decDigits n).length ≤ k + 1
  | 0, n, h => by
    rw [Lib.decDigits, dif_pos (by omega)]
    simp
  | k + 1, n, h => by
    rw [Lib.decDigits]
    split
    · simp
    · have := decDigits_le k (n / 10) (by rw [Nat.pow_succ] at h; omega)
      simp only [List.length_append, List.length_singleton]
      omega
theorem dig_eq {n : Nat} (h : n < 10) : toB [IntKind.u8.wrap (IntKind.i64.wrap (48 + (n : Int)))] = [UInt8.ofNat (48 + n)] := by
  rw [w64 (by omega)]
  have : IntKind.u8.wrap (48 + (n : Int)) = 48 + (n : Int) := by simp [IntKind.wrap, IntKind.signed, IntKind.bits]; omega
  rw [this]
  simp only [toB, List.map_cons, List.map_nil]
  congr 2
theorem decimal_F : ∀ (k n : Nat), n < 10 ^ (k + 1) → n ≤ 9223372036854775807 → k ≤ 100 → spec_Decimal_F (k + 1) (n : Int) = some (Lib.decDigits n)
  | k, n, h, h1, hk => by
    rw [spec_Decimal_F, Lib.decDigits]
    have hr : rem .i64 (n : Int) 10 = some ((n % 10 : Nat) : Int) := by
      unfold rem
      rw [if_neg (by decide)]
      congr 1
    by_cases hn : n < 10
    · rw [if_pos (by simpa using (by omega : (n : Int) < 10)), dif_pos hn, hr, Option.bind_some, dig_eq (by omega), Nat.mod_eq_of_lt hn]
    · rw [if_neg (by simpa using (by omega : ¬ (n : Int) < 10)), dif_neg hn]
      have hq : quo .i64 (n : Int) 10 = some ((n / 10 : Nat) : Int) := by
        unfold quo
        rw [if_neg (by decide)]
        congr 1
        have : ((n : Int).tdiv 10) = ((n / 10 : Nat) : Int) := rfl
        rw [this, w64 (by omega)]
      rw [hq, Option.bind_some]
      cases k with
      | zero => omega
      | succ k =>
        have hlt : n / 10 < 10 ^ (k + 1) := by rw [Nat.pow_succ] at h; omega
        rw [decimal_F k (n / 10) hlt (by omega) (by omega), Option.bind_some, hr, Option.bind_some, dig_eq (by omega)]
        have hl := decDigits_le k (n / 10) hlt
        rw [sadd_some (by simp only [List.length_singleton]; omega), Option.bind_some]
theorem dec_s {n : Int} (h0 : 0 ≤ n) (h1 : n ≤ 9223372036854775807) : spec_Decimal n = some (tx n) := by
  obtain ⟨m, rfl⟩ : ∃ m : Nat, n = m := ⟨n.toNat, by omega⟩
  unfold spec_Decimal tx
  exact decimal_F 63 m (Nat.lt_of_le_of_lt (by omega : m ≤ 9223372036854775807) (by decide)) (by omega) (by omega)
theorem dec_i {n : Int} (h0 : 0 ≤ n) (h1 : n ≤ 9223372036854775807) : impl_decimal n = some (tx n) := by
  obtain ⟨m, rfl⟩ : ∃ m : Nat, n = m := ⟨n.toNat, by omega⟩
  unfold impl_decimal strconv_FormatInt fmtI tx
  rw [if_pos ⟨rfl, by omega, h1⟩, Lib.itoa_nonneg]
  rfl
theorem tx_len {n : Int} (h0 : 0 ≤ n) (h1 : n ≤ 9223372036854775807) : (tx n).length ≤ 19 := by
  unfold tx
  exact decDigits_le 18 _ (by omega)
theorem tx_pos (n : Int) : 0 < (tx n).length := by
  unfold tx
  rw [Lib.decDigits]
  split <;> simp
end Go.Proofs.YtbhbmgmnnkcmcaaDoor
/- Amounts written out. -/
namespace Go.Proofs.YtbhbmgmnnkcmcaaDoor
open Go Go.Ab
/-- one part of an amount -/
noncomputable def amt1 (n : Int) (c : UInt8) : List (List UInt8) := if n > 0 then [tx n ++ [c]] else []
noncomputable def amtT (a : Int) : List UInt8 := if a = 0 then [48, 100] else Lib.join (amt1 (a / 240) 108 ++ (amt1 (a / 12 % 20) 115 ++ amt1 (a % 12) 100)) [32]
theorem quo_pos {a b : Int} (h0 : 0 ≤ a) (h1 : a ≤ 9223372036854775807) (hb : 0 < b) : quo .i64 a b = some (a / b) := by
  unfold quo
  rw [if_neg (by omega), Int.tdiv_eq_ediv_of_nonneg h0]
  have := Int.ediv_nonneg h0 (by omega : 0 ≤ b)
  have h2 : a / b ≤ a := Int.ediv_le_self b h0
  rw [w64 (by omega)]
theorem rem_pos {a b : Int} (h0 : 0 ≤ a) (hb : 0 < b) : rem .i64 a b = some (a % b) := by
  unfold rem
  rw [if_neg (by omega), Int.tmod_eq_emod_of_nonneg h0]
theorem amt1_len {n : Int} {c : UInt8} (h0 : 0 ≤ n) (h1 : n ≤ 9223372036854775807) : (amt1 n c).length ≤ 1 ∧ ∀ s ∈ amt1 n c, s.length ≤ 20 := by
  unfold amt1
  have := tx_len h0 h1
  split <;> simp <;> omega
theorem join_len : ∀ (xs : List (List UInt8)) (k : Nat), (∀ s ∈ xs, s.length ≤ k) → (Lib.join xs [32]).length ≤ xs.length * (k + 1)
  | [], k, _ => by simp [Lib.join]
  | x :: r, k, h => by
    have hx := h x (by simp)
    rw [Lib.join_cons]
    have : ∀ r : List (List UInt8), (∀ s ∈ r, s.length ≤ k) → (Lib.joinTail [32] r).length ≤ r.length * (k + 1) := by
      intro r
      induction r with
      | nil => intro _; simp [Lib.joinTail]
      | cons y q ih =>
        intro hy
        have h1 := ih (fun s hs => hy s (by simp [hs]))
        have h2 := hy y (by simp)
        simp only [Lib.joinTail, List.map_cons, List.flatten_cons, List.length_append, List.length_cons, List.length_nil] at h1 ⊢
        rw [Nat.add_mul]
        omega
    have h3 := this r (fun s hs => h s (by simp [hs]))
    simp only [List.length_append, List.length_cons]
    rw [Nat.add_mul]
    omega
theorem amt_i {a : Int} (h0 : 0 ≤ a) (h1 : a ≤ 100000000) : impl_AmountText a = some (amtT a) := by
  unfold impl_AmountText amtT
  rw [isAmount_eq, Option.bind_some, if_pos (inB_iff.2 ⟨h0, h1⟩)]
  by_cases hz : a = 0
  · subst hz; rfl
  rw [if_neg (by simpa using hz), if_neg hz, quo_pos h0 (by omega) (by decide), Option.bind_some, quo_pos h0 (by omega) (by decide), Option.bind_some, rem_pos (by omega) (by decide), Option.bind_some, rem_pos h0 (by decide), Option.bind_some]
  have b1 : 0 ≤ a / 240 ∧ a / 240 ≤ 1000000 := by omega
  have b2 : 0 ≤ a / 12 % 20 ∧ a / 12 % 20 ≤ 1000000 := by omega
  have b3 : 0 ≤ a % 12 ∧ a % 12 ≤ 1000000 := by omega
  revert b1 b2 b3
  generalize a / 240 = l, a / 12 % 20 = s, a % 12 = d
  intro b1 b2 b3
  have step : ∀ (i : Nat) (n : Int) (c : UInt8) (out : List (List UInt8)), i < 3 → [l, s, d][i]? = some n → ([108, 115, 100] : List UInt8)[i]? = some c → 0 ≤ n ∧ n ≤ 1000000 → out.length ≤ 3 →
      impl_AmountText_b1 l s d ((i : Int), out) = some (.inl (((i + 1 : Nat) : Int), out ++ amt1 n c)) := by
    intro i n c out hi hn hc hb ho
    have w := w64s (n := 3) hi (by omega)
    have hs : slc ([108, 115, 100] : List UInt8) (i : Int) ((i + 1 : Nat) : Int) = some [c] := by
      unfold slc
      rw [if_pos ⟨by omega, by omega, by simp only [List.length_cons, List.length_nil]; omega⟩]
      match i, hi, hc with
      | 0, _, hc => cases hc; rfl
      | 1, _, hc => cases hc; rfl
      | 2, _, hc => cases hc; rfl
    have hlen := tx_len (n := n) hb.1 (by omega)
    unfold impl_AmountText_b1 amt1
    simp only [List.length_cons, List.length_nil, rd_coe, hn, Option.bind_some, w, hs]
    rw [if_pos (by simpa using (by omega : (i : Int) < 3))]
    by_cases hp : n > 0
    · rw [if_pos (by simpa using hp), if_pos hp, dec_i hb.1 (by omega), Option.bind_some, sadd_some (by simp only [List.length_singleton]; omega), Option.bind_some, app_some (by simp only [List.length_singleton]; omega) (by decide), Option.bind_some]
    · rw [if_neg (by simpa using hp), if_neg hp, List.append_nil]
  have l1 := (amt1_len (n := l) (c := 108) b1.1 (by omega)).1
  have l2 := (amt1_len (n := s) (c := 115) b2.1 (by omega)).1
  have l3 := (amt1_len (n := d) (c := 100) b3.1 (by omega)).1
  have e0 := step 0 l 108 [] (by omega) rfl rfl b1 (by simp)
  have e1 := step 1 s 115 (amt1 l 108) (by omega) rfl rfl b2 (by omega)
  have e2 := step 2 d 100 (amt1 l 108 ++ amt1 s 115) (by omega) rfl rfl b3 (by simp only [List.length_append]; omega)
  have e3 : impl_AmountText_b1 l s d (((2 + 1 : Nat) : Int), amt1 l 108 ++ amt1 s 115 ++ amt1 d 100) = some (.inr (amt1 l 108 ++ amt1 s 115 ++ amt1 d 100)) := by
    unfold impl_AmountText_b1
    simp
  have hl : Lw (impl_AmountText_b1 l s d) (0, []) = some (amt1 l 108 ++ (amt1 s 115 ++ amt1 d 100)) := by
    rw [← List.append_assoc]
    exact (Lw_step e0).trans ((Lw_step e1).trans ((Lw_step e2).trans (Lw_stop e3)))
  rw [hl, Option.bind_some]
  have hj := join_len (amt1 l 108 ++ (amt1 s 115 ++ amt1 d 100)) 20 (fun x hx => by
    rcases List.mem_append.1 hx with h | h
    · exact (amt1_len b1.1 (by omega)).2 x h
    · rcases List.mem_append.1 h with h | h
      · exact (amt1_len b2.1 (by omega)).2 x h
      · exact (amt1_len b3.1 (by omega)).2 x h)
  have hn : (amt1 l 108 ++ (amt1 s 115 ++ amt1 d 100)).length ≤ 3 := by simp only [List.length_append]; omega
  have : (amt1 l 108 ++ (amt1 s 115 ++ amt1 d 100)).length * 21 ≤ 63 := by omega
  unfold strings_Join joinI
  rw [if_pos ⟨by omega, by omega⟩]
  rfl
theorem part_s {out : List UInt8} {n : Int} {c : UInt8} (h0 : 0 ≤ n) (h1 : n ≤ 1000000) (ho : out.length ≤ 100) : spec_l01Part out n [c] = some (if n = 0 then out else if out = [] then tx n ++ [c] else out ++ [32] ++ tx n ++ [c]) := by
  unfold spec_l01Part
  have hl := tx_len h0 (by omega)
  by_cases hz : n = 0
  · rw [if_pos (by simpa using hz), if_pos hz]
  rw [if_neg (by simpa using hz), if_neg hz]
  by_cases he : out = []
  · subst he
    rw [if_pos (by simp), if_pos rfl, dec_s h0 (by omega), Option.bind_some, sadd_some (by simp only [List.length_nil]; omega), Option.bind_some, sadd_some (by simp only [List.length_append, List.length_nil, List.length_singleton]; omega)]
    rfl
  · rw [if_neg (by simpa using he), if_neg he, sadd_some (by simp only [List.length_singleton]; omega), Option.bind_some, dec_s h0 (by omega), Option.bind_some, sadd_some (by simp only [List.length_append, List.length_singleton]; omega), Option.bind_some, sadd_some (by simp only [List.length_append, List.length_singleton]; omega)]
    rfl
theorem amt_s {a : Int} (h0 : 0 ≤ a) (h1 : a ≤ 100000000) : spec_l01AmountText a = some (amtT a) := by
  unfold spec_l01AmountText amtT
  by_cases hz : a = 0
  · subst hz; rfl
  rw [if_neg (by simpa using hz), if_neg hz, quo_pos h0 (by omega) (by decide), Option.bind_some, quo_pos h0 (by omega) (by decide), rem_pos h0 (by decide)]
  have b0 : ¬ (a / 240 = 0 ∧ a / 12 % 20 = 0 ∧ a % 12 = 0) := by omega
  have b1 : 0 ≤ a / 240 ∧ a / 240 ≤ 1000000 := by omega
  have b2 : 0 ≤ a / 12 % 20 ∧ a / 12 % 20 ≤ 1000000 := by omega
  have b3 : 0 ≤ a % 12 ∧ a % 12 ≤ 1000000 := by omega
  have hm := rem_pos (a := a / 12) (b := 20) (by omega) (by decide)
  simp only [Option.bind_some, hm]
  revert b0 b1 b2 b3
  generalize a / 240 = l, a / 12 % 20 = s, a % 12 = d
  intro b0 b1 b2 b3
  have t1 := tx_len (n := l) b1.1 (by omega)
  have t2 := tx_len (n := s) b2.1 (by omega)
  have t3 := tx_len (n := d) b3.1 (by omega)
  have p1 : l = 0 ∨ l > 0 := by omega
  have p2 : s = 0 ∨ s > 0 := by omega
  have p3 : d = 0 ∨ d > 0 := by omega
  rw [part_s b1.1 b1.2 (by simp)]
  simp only [Option.bind_some, if_true]
  rcases p1 with rfl | p1 <;> rcases p2 with rfl | p2 <;> rcases p3 with rfl | p3
  · exact absurd ⟨rfl, rfl, rfl⟩ b0
  all_goals
    simp (config := { decide := true }) only [if_true, if_false, amt1, List.nil_append, List.append_nil, Int.ne_of_gt, *]
    rw [part_s (by omega) (by omega) (by simp; try omega)]
    simp (config := { decide := true }) only [Option.bind_some, if_true, if_false, Int.ne_of_gt, *]
    rw [part_s (by omega) (by omega) (by simp; try omega)]
    simp [Lib.join, List.intercalate, Int.ne_of_gt, *]
theorem amtT_len {a : Int} (h0 : 0 ≤ a) (h1 : a ≤ 100000000) : (amtT a).length ≤ 63 := by
  unfold amtT
  split
  · simp
  have b1 : 0 ≤ a / 240 ∧ a / 240 ≤ 1000000 := by omega
  have b2 : 0 ≤ a / 12 % 20 ∧ a / 12 % 20 ≤ 1000000 := by omega
  have b3 : 0 ≤ a % 12 ∧ a % 12 ≤ 1000000 := by omega
  have k1 := amt1_len (n := a / 240) (c := 108) b1.1 (by omega)
  have k2 := amt1_len (n := a / 12 % 20) (c := 115) b2.1 (by omega)
  have k3 := amt1_len (n := a % 12) (c := 100) b3.1 (by omega)
  have hj := join_len (amt1 (a / 240) 108 ++ (amt1 (a / 12 % 20) 115 ++ amt1 (a % 12) 100)) 20 (fun x hx => by
    rcases List.mem_append.1 hx with h | h
    · exact k1.2 x h
    · rcases List.mem_append.1 h with h | h
      · exact k2.2 x h
      · exact k3.2 x h)
  have hn : (amt1 (a / 240) 108 ++ (amt1 (a / 12 % 20) 115 ++ amt1 (a % 12) 100)).length ≤ 3 := by simp only [List.length_append]; omega
  have : (amt1 (a / 240) 108 ++ (amt1 (a / 12 % 20) 115 ++ amt1 (a % 12) 100)).length * 21 ≤ 63 := by omega
  omega
end Go.Proofs.YtbhbmgmnnkcmcaaDoor
/- Deals written out. -/
namespace Go.Proofs.YtbhbmgmnnkcmcaaDoor
open Go Go.Ab
noncomputable def dealT (d : Deal) : List UInt8 :=
  if d.Kind = 1 then tx d.Day ++ [32, 99, 117, 116, 32] ++ tx d.From ++ [32] ++ tx d.To ++ [32] ++ amtT d.Amount
  else if d.Kind = 2 then tx d.Day ++ [32, 112, 97, 115, 115, 32] ++ tx d.Tally ++ [32] ++ tx d.From ++ [32] ++ tx d.To
  else if d.Kind = 3 then tx d.Day ++ [32, 112, 97, 121, 32] ++ tx d.Tally ++ [32] ++ amtT d.Amount
  else tx d.Day ++ [32, 101, 110, 100, 32] ++ tx d.Tally ++ [32] ++ tx d.From
structure DlI (d : Deal) : Prop where
  day : 0 ≤ d.Day ∧ d.Day ≤ 100000
  tally : 0 ≤ d.Tally ∧ d.Tally ≤ 39
  frm : 0 ≤ d.From ∧ d.From ≤ 15
  to_ : 0 ≤ d.To ∧ d.To ≤ 15
  amount : 0 ≤ d.Amount ∧ d.Amount ≤ 100000000
  kind : d.Kind = 1 ∨ d.Kind = 2 ∨ d.Kind = 3 ∨ d.Kind = 4
theorem DlI.of {d : Deal} (h : dealB d = true) : DlI d := by
  unfold dealB at h
  simp only [Bool.and_eq_true, Bool.or_eq_true, inB_iff, beq_iff_eq] at h
  obtain ⟨h0, h⟩ := h
  rcases h with ((h | h) | h) | h
  all_goals exact ⟨h0, by omega, by omega, by omega, by omega, by omega⟩
end Go.Proofs.YtbhbmgmnnkcmcaaDoor
/- A text cut at a byte. -/
namespace Go.Proofs.YtbhbmgmnnkcmcaaDoor
open Go Go.Ab
def consH (b : UInt8) : List (List UInt8) → List (List UInt8)
  | [] => [[b]]
  | p :: r => (b :: p) :: r
/-- the pieces of a text between the bytes c -/
def pcs (c : UInt8) : List UInt8 → List (List UInt8)
  | [] => [[]]
  | b :: l => if b = c then [] :: pcs c l else consH b (pcs c l)
theorem pcs_ne (c : UInt8) (s : List UInt8) : pcs c s ≠ [] := by
  cases s with
  | nil => simp [pcs]
  | cons b l =>
    unfold pcs
    split
    · simp
    · cases pcs c l <;> simp [consH]
theorem pcs_no {c : UInt8} : ∀ {p : List UInt8}, c ∉ p → pcs c p = [p]
  | [], _ => rfl
  | b :: l, h => by
    have h1 : ¬ b = c := fun e => h (by simp [e])
    have h2 : c ∉ l := fun e => h (by simp [e])
    rw [pcs, if_neg h1, pcs_no h2]; rfl
theorem pcs_app {c : UInt8} (q : List UInt8) : ∀ (p : List UInt8), pcs c (p ++ c :: q) = pcs c p ++ pcs c q
  | [] => by simp [pcs]
  | b :: l => by
    rw [List.cons_append, pcs, pcs, pcs_app q l]
    split
    · rfl
    · cases h : pcs c l with
      | nil => exact absurd h (pcs_ne c l)
      | cons x r => rfl
theorem pcs_mem {c : UInt8} : ∀ {s p : List UInt8}, p ∈ pcs c s → c ∉ p
  | [], p, h => by simp [pcs] at h; simp [h]
  | b :: l, p, h => by
    rw [pcs] at h
    split at h
    · rcases List.mem_cons.1 h with rfl | h
      · simp
      · exact pcs_mem h
    · rename_i hb
      cases hp : pcs c l with
      | nil => exact absurd hp (pcs_ne c l)
      | cons x r =>
        rw [hp] at h
        have ih : ∀ q, q ∈ x :: r → c ∉ q := fun q hq => pcs_mem (hp ▸ hq)
        rcases List.mem_cons.1 h with rfl | h
        · intro hc
          rcases List.mem_cons.1 hc with e | e
          · exact hb e.symm
          · exact ih x (by simp) e
        · exact ih p (by simp [h])
theorem pcs_join {c : UInt8} : ∀ (s : List UInt8), Lib.join (pcs c s) [c] = s
  | [] => by simp [pcs, Lib.join]
  | b :: l => by
    have ih := pcs_join (c := c) l
    rw [pcs]
    split
    · rename_i hb
      cases hp : pcs c l with
      | nil => exact absurd hp (pcs_ne c l)
      | cons x r =>
        rw [hp] at ih
        rw [Lib.join_cons] at ih ⊢
        simp only [Lib.joinTail, List.map_cons, List.flatten_cons, List.nil_append, List.cons_append] at ih ⊢
        rw [hb, ih]
    · cases hp : pcs c l with
      | nil => exact absurd hp (pcs_ne c l)
      | cons x r =>
        rw [hp] at ih
        unfold consH
        rw [Lib.join_cons] at ih ⊢
        rw [List.cons_append, ih]
theorem pcs_len {c : UInt8} : ∀ (s : List UInt8), (pcs c s).length ≤ s.length + 1
  | [] => by simp [pcs]
  | b :: l => by
    have ih := pcs_len (c := c) l
    rw [pcs]
    split
    · simpa using ih
    · cases hp : pcs c l with
      | nil => simp [consH]
      | cons x r => rw [hp] at ih; simp only [consH, List.length_cons] at ih ⊢; omega
theorem pcs_sub {c : UInt8} : ∀ {s p : List UInt8}, p ∈ pcs c s → p.length ≤ s.length
  | [], p, h => by simp [pcs] at h; simp [h]
  | b :: l, p, h => by
    rw [pcs] at h
    split at h
    · rcases List.mem_cons.1 h with rfl | h
      · simp
      · have := pcs_sub h; simp; omega
    · cases hp : pcs c l with
      | nil => exact absurd hp (pcs_ne c l)
      | cons x r =>
        rw [hp] at h
        rcases List.mem_cons.1 h with rfl | h
        · have := pcs_sub (c := c) (s := l) (p := x) (by simp [hp]); simp; omega
        · have := pcs_sub (c := c) (s := l) (p := p) (by simp [hp, h]); simp; omega
theorem splitK_pcs (c : UInt8) : ∀ (s : List UInt8), Lib.splitK [c] 0 (Lib.count s [c]) s = pcs c s
  | [] => by
    rw [Lib.count_miss (by simp [Lib.index])]; rfl
  | b :: l => by
    have ih := splitK_pcs c l
    by_cases hb : b = c
    · subst hb
      have hix : Lib.index (b :: l) [b] = 0 := by rw [Lib.index]; simp [List.isPrefixOf]
      rw [Lib.count_cons_eq, Nat.add_comm, Lib.splitK, hix, pcs, if_pos rfl, ← ih]
      simp
    · have hp : ([c] : List UInt8).isPrefixOf (b :: l) = false := by simp [List.isPrefixOf, Ne.symm hb]
      have hix : Lib.index (b :: l) [c] = if Lib.index l [c] == -1 then -1 else Lib.index l [c] + 1 := by rw [Lib.index, hp]; simp
      rw [Lib.count_cons_ne b c l hb, pcs, if_neg hb, ← ih]
      by_cases hm : Lib.index l [c] = -1
      · rw [Lib.count_miss hm]; rfl
      · have hge := Lib.index_ge l [c]
        obtain ⟨j, hj⟩ : ∃ j : Nat, Lib.index l [c] = j := ⟨(Lib.index l [c]).toNat, by omega⟩
        have hix' : Lib.index (b :: l) [c] = ((j + 1 : Nat) : Int) := by rw [hix, if_neg (fun e => hm (beq_iff_eq.1 e)), hj]; omega
        rw [Lib.count_hit (by simp) hj, Nat.add_comm, Lib.splitK, Lib.splitK, hix', hj, if_neg (fun e => by have := beq_iff_eq.1 e; omega), if_neg (fun e => by have := beq_iff_eq.1 e; omega)]
        simp only [Int.toNat_natCast, Nat.add_zero, List.length_singleton, consH, List.take_succ_cons]
        simp
theorem split_i {s : List UInt8} (c : UInt8) (h : s.length ≤ 1048576) : splitI s [c] = some (pcs c s) := by
  unfold splitI
  rw [if_pos ⟨by omega, by simp⟩, Lib.splitB_data]
  congr 1
  exact splitK_pcs c s
theorem slc_some {τ : Type} {xs : List τ} {a b : Nat} (h1 : a ≤ b) (h2 : b ≤ xs.length) : slc xs (a : Int) (b : Int) = some ((xs.drop a).take (b - a)) := by
  unfold slc
  rw [if_pos ⟨by omega, by omega, by omega⟩, Int.toNat_natCast, Int.toNat_natCast]
theorem split_s {s : List UInt8} (c : UInt8) (h : s.length ≤ 1048576) : spec_l01Split s (c.toNat : Int) = some (pcs c s) := by
  obtain ⟨r, r1, a, r2, r3, r4, r5⟩ := Lw_meas (tb := spec_l01Split_b1 s (c.toNat : Int)) (fun x => s.length - x.2.1.toNat)
    (fun x => ∃ a i : Nat, x.1 = a ∧ x.2.1 = i ∧ a ≤ i ∧ i ≤ s.length ∧ x.2.2.length ≤ i ∧ c ∉ (s.drop a).take (i - a) ∧ x.2.2 ++ pcs c (s.drop a) = pcs c s)
    (fun r => ∃ a : Nat, r.1 = a ∧ a ≤ s.length ∧ r.2.length ≤ s.length ∧ r.2 ++ [s.drop a] = pcs c s)
    (by
      rintro ⟨a', i', o⟩ ⟨a, i, e1, e2, h1, h2, h3, h4, h5⟩
      simp only at e1 e2 h3 h5
      subst e1 e2
      by_cases hi : i < s.length
      · have hr : rd s (i : Int) = some s[i] := by rw [rd_coe, List.getElem?_eq_getElem hi]
        have w := w64s hi (by omega)
        have hd : (s.drop a).drop (i - a) = s[i] :: s.drop (i + 1) := by rw [List.drop_drop, show a + (i - a) = i by omega, List.drop_eq_getElem_cons hi]
        have hsp : s.drop a = (s.drop a).take (i - a) ++ s[i] :: s.drop (i + 1) := by rw [← hd, List.take_append_drop]
        left
        by_cases hc : s[i] = c
        · have hs := slc_some (xs := s) h1 (Nat.le_of_lt hi)
          have ap : app 16 o [(s.drop a).take (i - a)] = some (o ++ [(s.drop a).take (i - a)]) := app_some (by simp; omega) (by decide)
          refine ⟨(((i + 1 : Nat) : Int), ((i + 1 : Nat) : Int), o ++ [(s.drop a).take (i - a)]), ?_, ⟨i + 1, i + 1, rfl, rfl, Nat.le_refl _, hi, by simp; omega, by simp, ?_⟩, by simp; omega⟩
          · simp only [spec_l01Split_b1, hr, hs, ap, w, Option.bind_some]
            rw [if_pos (by simpa using hi), if_pos (by simp [hc])]
          · have e := congrArg (pcs c) hsp
            rw [hc, pcs_app, pcs_no h4] at e
            rw [← h5, e, List.append_assoc]
        · have hc2 : ¬ ((s[i].toNat : Int) = (c.toNat : Int)) := fun e => hc (UInt8.toNat_inj.1 (by omega))
          refine ⟨((a : Int), ((i + 1 : Nat) : Int), o), ?_, ⟨a, i + 1, rfl, rfl, by omega, hi, by simp only; omega, ?_, h5⟩, by simp; omega⟩
          · simp only [spec_l01Split_b1, hr, w, Option.bind_some]
            rw [if_pos (by simpa using hi), if_neg (by simpa using hc2)]
          · have e : (s.drop a).take (i + 1 - a) = (s.drop a).take (i - a) ++ [s[i]] := by
              have hl : i - a < (s.drop a).length := by simp; omega
              rw [show i + 1 - a = (i - a) + 1 by omega, List.take_succ_eq_append_getElem hl]
              congr 2
              rw [List.getElem_drop]; congr 1; omega
            rw [e, List.mem_append, List.mem_singleton]
            rintro (g | g)
            · exact h4 g
            · exact hc g.symm
      · have hie : i = s.length := by omega
        subst hie
        refine .inr ⟨((a : Int), o), by simp [spec_l01Split_b1], a, rfl, h1, h3, ?_⟩
        have e : (s.drop a).take (s.length - a) = s.drop a := List.take_of_length_le (by simp)
        rw [e] at h4
        rw [← h5, pcs_no h4])
    _ (0, 0, []) rfl ⟨0, 0, rfl, rfl, Nat.le_refl _, by omega, by simp, by simp, by simp⟩
  unfold spec_l01Split
  rw [r1, Option.bind_some]
  dsimp only
  rw [r2, slc_some r3 (Nat.le_refl _), Option.bind_some, List.take_of_length_le (by simp), app_some (by simp; omega) (by decide), r5]
  rfl
theorem index_no {c : UInt8} : ∀ {s : List UInt8}, c ∉ s → Lib.indexByte s c = -1
  | [], _ => rfl
  | b :: l, h => by
    have h1 : ¬ b = c := fun e => h (by simp [e])
    have h2 : c ∉ l := fun e => h (by simp [e])
    rw [Lib.indexByte, if_neg (by simpa using h1), index_no h2]; rfl
theorem index_at {c : UInt8} (b : List UInt8) : ∀ {a : List UInt8}, c ∉ a → Lib.indexByte (a ++ c :: b) c = (a.length : Int)
  | [], _ => by simp [Lib.indexByte]
  | x :: l, h => by
    have h1 : ¬ x = c := fun e => h (by simp [e])
    have h2 : c ∉ l := fun e => h (by simp [e])
    rw [List.cons_append, Lib.indexByte, if_neg (by simpa using h1), index_at b h2, if_neg (fun e => by have := beq_iff_eq.1 e; omega)]
    simp
theorem cut_only {s : List UInt8} (h : s.length ≤ 1048576) : ∃ a b f, cutI s [32] = some (a, b, f) ∧ b.length ≤ s.length ∧ ((f = true ∧ s = a ++ 32 :: b ∧ 32 ∉ a) ∨ (f = false ∧ a = s ∧ b = [] ∧ 32 ∉ a)) := by
  unfold cutI Lib.cut
  rw [if_pos (by omega), Lib.index_one]
  by_cases hm : (32 : UInt8) ∈ s
  · obtain ⟨a, b, rfl, ha⟩ := List.eq_append_cons_of_mem hm
    rw [index_at b ha, if_pos (by omega)]
    exact ⟨a, b, true, by simp, by simp; omega, .inl ⟨rfl, rfl, ha⟩⟩
  · rw [index_no hm, if_neg (by omega)]
    exact ⟨s, [], false, rfl, by simp, .inr ⟨rfl, rfl, rfl, hm⟩⟩
end Go.Proofs.YtbhbmgmnnkcmcaaDoor
/- Numbers and amounts read. -/
namespace Go.Proofs.YtbhbmgmnnkcmcaaDoor
open Go Go.Ab
def val (l : List UInt8) : Nat := l.foldl (fun a b => 10 * a + (b.toNat - 48)) 0
theorem val_snoc (l : List UInt8) (b : UInt8) : val (l ++ [b]) = 10 * val l + (b.toNat - 48) := by unfold val; rw [List.foldl_append]; rfl
theorem dig_nat {n : Nat} (h : n < 10) : (UInt8.ofNat (48 + n)).toNat = 48 + n := by rw [UInt8.toNat_ofNat']; omega
theorem val_dec (n : Nat) : val (Lib.decDigits n) = n := by
  induction n using Nat.strongRecOn with
  | _ n ih =>
    rw [Lib.decDigits]
    by_cases h : n < 10
    · rw [dif_pos h]
      show 10 * 0 + ((UInt8.ofNat (48 + n)).toNat - 48) = n
      rw [dig_nat h]; omega
    · rw [dif_neg h, val_snoc, ih (n / 10) (by omega), dig_nat (by omega)]; omega
theorem dig_dec (n : Nat) : ∀ b ∈ Lib.decDigits n, 48 ≤ b.toNat ∧ b.toNat ≤ 57 := by
  induction n using Nat.strongRecOn with
  | _ n ih =>
    rw [Lib.decDigits]
    by_cases h : n < 10
    · rw [dif_pos h]
      intro b hb
      rw [List.mem_singleton.1 hb, dig_nat h]; omega
    · rw [dif_neg h]
      intro b hb
      rcases List.mem_append.1 hb with hb | hb
      · exact ih (n / 10) (by omega) b hb
      · rw [List.mem_singleton.1 hb, dig_nat (by omega)]; omega
theorem head_dec (n : Nat) (h1 : 1 ≤ n) : ∀ b, (Lib.decDigits n)[0]? = some b → b.toNat ≠ 48 := by
  induction n using Nat.strongRecOn with
  | _ n ih =>
    rw [Lib.decDigits]
    by_cases h : n < 10
    · rw [dif_pos h]
      intro b hb
      have : UInt8.ofNat (48 + n) = b := by simpa using hb
      rw [← this, dig_nat h]; omega
    · rw [dif_neg h]
      intro b hb
      have hl : 0 < (Lib.decDigits (n / 10)).length := by have := tx_pos ((n / 10 : Nat) : Int); unfold tx at this; rw [Int.toNat_natCast] at this; exact this
      rw [List.getElem?_append_left hl] at hb
      exact ih (n / 10) (by omega) (by omega) b hb
theorem val_take (l : List UInt8) (h : ∀ b ∈ l, 48 ≤ b.toNat ∧ b.toNat ≤ 57) : ∀ k, k ≤ l.length → val (l.take k) < 10 ^ k
  | 0, _ => by simp [val]
  | k + 1, hk => by
    have ih := val_take l h k (by omega)
    have hb := h _ (List.getElem_mem (show k < l.length by omega))
    rw [List.take_succ_eq_append_getElem (by omega), val_snoc, Nat.pow_succ]
    omega
theorem u8_dig {b : UInt8} (h : 48 ≤ b.toNat ∧ b.toNat ≤ 57) : IntKind.i64.wrap (IntKind.u8.wrap ((b.toNat : Int) - 48)) = ((b.toNat - 48 : Nat) : Int) := by
  have : IntKind.u8.wrap ((b.toNat : Int) - 48) = (b.toNat : Int) - 48 := by simp [IntKind.wrap, IntKind.signed, IntKind.bits]; omega
  rw [this, w64 (by omega)]; omega
theorem num_loop (l : List UInt8) (h : ∀ b ∈ l, 48 ≤ b.toNat ∧ b.toNat ≤ 57) (hl : l.length ≤ 10) :
    Lw (impl_number_b1 l) (0, 0) = some (.inr (val l : Int)) ∧ Lw (spec_l01Number_b1 l) (0, 0) = some (.inr (val l : Int)) := by
  have step : ∀ k (hk : k < l.length), impl_number_b1 l ((val (l.take k) : Int), (k : Int)) = some (.inl ((val (l.take (k + 1)) : Int), ((k + 1 : Nat) : Int))) ∧ spec_l01Number_b1 l ((val (l.take k) : Int), (k : Int)) = some (.inl ((val (l.take (k + 1)) : Int), ((k + 1 : Nat) : Int))) := by
    intro k hk
    have hb := h _ (List.getElem_mem hk)
    have hv := val_take l h k (by omega)
    have hp : 10 ^ k ≤ 10 ^ 9 := Nat.pow_le_pow_right (by decide) (by omega)
    have hr : rd l (k : Int) = some l[k] := by rw [rd_coe, List.getElem?_eq_getElem hk]
    have w := w64s hk (by omega)
    have u := u8_dig hb
    have hs : val (l.take (k + 1)) = 10 * val (l.take k) + (l[k].toNat - 48) := by rw [List.take_succ_eq_append_getElem hk, val_snoc]
    have c0 : decide ((k : Int) < (l.length : Int)) = true := decide_eq_true (by omega)
    have c1 : decide ((l[k].toNat : Int) < 48) = false := decide_eq_false (by omega)
    have c2 : decide ((l[k].toNat : Int) > 57) = false := decide_eq_false (by omega)
    have m1 : IntKind.i64.wrap ((val (l.take k) : Int) * 10) = ((10 * val (l.take k) : Nat) : Int) := by rw [w64 (by omega)]; omega
    have m2 : IntKind.i64.wrap (10 * (val (l.take k) : Int)) = ((10 * val (l.take k) : Nat) : Int) := by rw [w64 (by omega)]; omega
    have m3 : IntKind.i64.wrap (((10 * val (l.take k) : Nat) : Int) + ((l[k].toNat - 48 : Nat) : Int)) = ((val (l.take (k + 1)) : Nat) : Int) := by rw [hs, w64 (by omega)]; omega
    constructor
    · simp only [impl_number_b1, hr, Option.bind_some, c0, c1, c2, if_true, Bool.false_eq_true, if_false, u, m1, m3, w]
    · simp only [spec_l01Number_b1, hr, Option.bind_some, c0, c1, c2, if_true, Bool.false_eq_true, if_false, u, m2, m3, w]
  have e1 := Lw_run (tb := impl_number_b1 l) (fun k => ((val (l.take k) : Int), (k : Int))) l.length (r := .inr (val l : Int)) (fun k hk => (step k hk).1) (by rw [List.take_length]; simp [impl_number_b1])
  have e2 := Lw_run (tb := spec_l01Number_b1 l) (fun k => ((val (l.take k) : Int), (k : Int))) l.length (r := .inr (val l : Int)) (fun k hk => (step k hk).2) (by rw [List.take_length]; simp [spec_l01Number_b1])
  exact ⟨e1, e2⟩
theorem num_ok {m : Int} (h0 : 0 ≤ m) (h1 : m ≤ 1000000) : impl_number (tx m) = some (m, true) ∧ spec_l01Number (tx m) = some (m, true) := by
  obtain ⟨n, rfl⟩ : ∃ n : Nat, m = n := ⟨m.toNat, by omega⟩
  have hp := tx_pos (n : Int)
  have hl : (tx (n : Int)).length ≤ 7 := decDigits_le 6 _ (by simp; omega)
  have hd : ∀ b ∈ tx (n : Int), 48 ≤ b.toNat ∧ b.toNat ≤ 57 := dig_dec _
  obtain ⟨l1, l2⟩ := num_loop (tx (n : Int)) hd (by omega)
  have hv : val (tx (n : Int)) = n := val_dec n
  rw [hv] at l1 l2
  have hne : tx (n : Int) ≠ [] := fun e => by rw [e] at hp; simp at hp
  have hr : rd (tx (n : Int)) 0 = some ((tx (n : Int))[0]'hp) := by rw [rd_zero, List.getElem?_eq_getElem hp]
  have hz : ((tx (n : Int))[0]'hp).toNat = 48 → (tx (n : Int)).length ≤ 1 := by
    intro e
    by_cases hn : 1 ≤ n
    · exact absurd e (head_dec n hn _ (List.getElem?_eq_getElem hp))
    · obtain rfl : n = 0 := by omega
      unfold tx; rw [Lib.decDigits, dif_pos (by decide)]; simp
  constructor
  · unfold impl_number
    rw [if_neg (by simpa using hne), if_neg (by simp; omega), hr, Option.bind_some]
    by_cases c : ((tx (n : Int))[0]'hp).toNat = 48
    · have := hz c
      rw [if_pos (by simp [c]), if_neg (by simp; omega)]
      simp only [Option.bind_some, l1]
    · rw [if_neg (by simp; omega)]
      simp only [Option.bind_some, l1]
  · unfold spec_l01Number
    rw [if_neg (by simpa using hne), if_neg (by simp; omega), hr, Option.bind_some]
    by_cases c : ((tx (n : Int))[0]'hp).toNat = 48
    · have := hz c
      rw [if_pos (by simp [c]), if_neg (by simp; omega)]
      simp only [Option.bind_some, l2]
    · rw [if_neg (by simp; omega)]
      simp only [Option.bind_some, l2]
theorem num_tot (t : List UInt8) (ht : t.length ≤ 1048576) : (∃ r, impl_number t = some r) ∧ ∃ r, spec_l01Number t = some r := by
  obtain ⟨r1, e1, _⟩ := Lw_meas (tb := impl_number_b1 t) (fun s => t.length - s.2.toNat) (fun s => ∃ i : Nat, s.2 = i ∧ i ≤ t.length) (fun _ => True)
    (by
      rintro ⟨a, j⟩ ⟨i, hi, hl⟩
      simp only at hi
      subst hi
      by_cases hlt : i < t.length
      · have hr : rd t (i : Int) = some t[i] := by rw [rd_coe, List.getElem?_eq_getElem hlt]
        have w := w64s hlt (by omega)
        by_cases c1 : (t[i].toNat : Int) < 48
        · exact .inr ⟨.inl (), by simp [impl_number_b1, hr, hlt, c1], trivial⟩
        · by_cases c2 : (t[i].toNat : Int) > 57
          · exact .inr ⟨.inl (), by simp [impl_number_b1, hr, hlt, c1, c2], trivial⟩
          · exact .inl ⟨_, by simp only [impl_number_b1, hr, Option.bind_some, w]; rw [if_pos (decide_eq_true (by omega)), if_neg (by simpa using c1), if_neg (by simpa using c2)], ⟨i + 1, rfl, hlt⟩, by simp; omega⟩
      · have : i = t.length := by omega
        subst this
        exact .inr ⟨.inr a, by simp [impl_number_b1], trivial⟩) _ (0, 0) rfl ⟨0, rfl, by omega⟩
  obtain ⟨r2, e2, _⟩ := Lw_meas (tb := spec_l01Number_b1 t) (fun s => t.length - s.2.toNat) (fun s => ∃ i : Nat, s.2 = i ∧ i ≤ t.length) (fun _ => True)
    (by
      rintro ⟨a, j⟩ ⟨i, hi, hl⟩
      simp only at hi
      subst hi
      by_cases hlt : i < t.length
      · have hr : rd t (i : Int) = some t[i] := by rw [rd_coe, List.getElem?_eq_getElem hlt]
        have w := w64s hlt (by omega)
        by_cases c1 : (t[i].toNat : Int) < 48
        · exact .inr ⟨.inl (), by simp [spec_l01Number_b1, hr, hlt, c1], trivial⟩
        · by_cases c2 : (t[i].toNat : Int) > 57
          · exact .inr ⟨.inl (), by simp [spec_l01Number_b1, hr, hlt, c1, c2], trivial⟩
          · exact .inl ⟨_, by simp only [spec_l01Number_b1, hr, Option.bind_some, w]; rw [if_pos (decide_eq_true (by omega)), if_neg (by simpa using c1), if_neg (by simpa using c2)], ⟨i + 1, rfl, hlt⟩, by simp; omega⟩
      · have : i = t.length := by omega
        subst this
        exact .inr ⟨.inr a, by simp [spec_l01Number_b1], trivial⟩) _ (0, 0) rfl ⟨0, rfl, by omega⟩
  constructor
  · unfold impl_number
    rw [e1]
    by_cases hn : t = []
    · exact ⟨_, by rw [if_pos (by simpa using hn)]; rfl⟩
    · have hp : 0 < t.length := List.length_pos_iff.2 hn
      have hr : rd t 0 = some t[0] := by rw [rd_zero, List.getElem?_eq_getElem hp]
      rw [if_neg (by simpa using hn), hr]
      rcases r1 with r1 | r1 <;> (repeat' split) <;> simp only [Option.bind_some] <;> (repeat' split) <;> first | exact ⟨_, rfl⟩ | simp_all
  · unfold spec_l01Number
    rw [e2]
    by_cases hn : t = []
    · exact ⟨_, by rw [if_pos (by simpa using hn)]; rfl⟩
    · have hp : 0 < t.length := List.length_pos_iff.2 hn
      have hr : rd t 0 = some t[0] := by rw [rd_zero, List.getElem?_eq_getElem hp]
      rw [if_neg (by simpa using hn), hr]
      rcases r2 with r2 | r2 <;> (repeat' split) <;> simp only [Option.bind_some] <;> (repeat' split) <;> first | exact ⟨_, rfl⟩ | simp_all
end Go.Proofs.YtbhbmgmnnkcmcaaDoor
/- Amounts read: both accept the text of an amount and nothing else. -/
namespace Go.Proofs.YtbhbmgmnnkcmcaaDoor
open Go Go.Ab
theorem join_two (x y : List UInt8) (r : List (List UInt8)) (c : UInt8) : Lib.join (x :: y :: r) [c] = x ++ c :: Lib.join (y :: r) [c] := by
  rw [Lib.join_cons, Lib.join_cons]
  simp [Lib.joinTail]
theorem join_pcs {c : UInt8} : ∀ {xs : List (List UInt8)}, xs ≠ [] → (∀ x ∈ xs, c ∉ x) → pcs c (Lib.join xs [c]) = xs
  | [], h, _ => absurd rfl h
  | [x], _, h => by rw [Lib.join_one, pcs_no (h x (by simp))]
  | x :: y :: r, _, h => by
    rw [join_two, pcs_app, pcs_no (h x (by simp)), join_pcs (by simp) (fun z hz => h z (by simp at hz ⊢; exact .inr hz))]
    rfl
theorem mem_join {b c : UInt8} : ∀ {xs : List (List UInt8)}, b ∈ Lib.join xs [c] → b = c ∨ ∃ x ∈ xs, b ∈ x
  | [], h => by simp [Lib.join_nil] at h
  | [x], h => by rw [Lib.join_one] at h; exact .inr ⟨x, by simp, h⟩
  | x :: y :: r, h => by
    rw [join_two, List.mem_append, List.mem_cons] at h
    rcases h with h | h | h
    · exact .inr ⟨x, by simp, h⟩
    · exact .inl h
    · rcases mem_join h with h | ⟨z, hz, h⟩
      · exact .inl h
      · exact .inr ⟨z, by simp at hz ⊢; exact .inr hz, h⟩
def p1 (n : Int) (c : UInt8) : List (Int × UInt8) := if n > 0 then [(n, c)] else []
def parts (a : Int) : List (Int × UInt8) := if a = 0 then [(0, 100)] else p1 (a / 240) 108 ++ (p1 (a / 12 % 20) 115 ++ p1 (a % 12) 100)
noncomputable def pT (p : Int × UInt8) : List UInt8 := tx p.1 ++ [p.2]
def wt (c : UInt8) : Int := if c = 108 then 240 else if c = 115 then 12 else 1
def PI (p : Int × UInt8) : Prop := 0 ≤ p.1 ∧ p.1 ≤ 1000000 ∧ (p.2 = 108 ∨ p.2 = 115 ∨ p.2 = 100)
theorem tx0 : tx 0 = [48] := by unfold tx; rw [Lib.decDigits, dif_pos (by decide)]; rfl
theorem amtT_parts (a : Int) : amtT a = Lib.join ((parts a).map pT) [32] := by
  unfold amtT parts
  by_cases h : a = 0
  · rw [if_pos h, if_pos h]
    show _ = Lib.join [tx 0 ++ [100]] [32]
    rw [Lib.join_one, tx0]; rfl
  · rw [if_neg h, if_neg h]
    congr 1
    unfold amt1 p1
    simp only [List.map_append]
    congr 1
    · split <;> rfl
    · congr 1 <;> split <;> rfl
theorem parts_PI {a : Int} (h0 : 0 ≤ a) (h1 : a ≤ 100000000) : (∀ p ∈ parts a, PI p) ∧ parts a ≠ [] ∧ (parts a).length ≤ 3 ∧ ((parts a).map fun p => p.1 * wt p.2).sum = a := by
  unfold parts
  by_cases h : a = 0
  · subst h
    exact ⟨by simp [PI], by simp, by simp, by simp⟩
  · rw [if_neg h]
    have b1 : 0 ≤ a / 240 ∧ a / 240 ≤ 1000000 := by omega
    have b2 : 0 ≤ a / 12 % 20 ∧ a / 12 % 20 ≤ 1000000 := by omega
    have b3 : 0 ≤ a % 12 ∧ a % 12 ≤ 1000000 := by omega
    have e : a / 240 * 240 + a / 12 % 20 * 12 + a % 12 = a := by omega
    have bn : ¬ (a / 240 = 0 ∧ a / 12 % 20 = 0 ∧ a % 12 = 0) := by omega
    revert b1 b2 b3 e bn
    generalize a / 240 = l, a / 12 % 20 = s, a % 12 = d
    intro b1 b2 b3 e bn
    refine ⟨fun p hp => ?_, ?_, ?_, ?_⟩
    · unfold p1 at hp
      simp only [List.mem_append] at hp
      rcases hp with hp | hp | hp <;> split at hp <;> simp at hp <;> subst hp
      · exact ⟨b1.1, b1.2, .inl rfl⟩
      · exact ⟨b2.1, b2.2, .inr (.inl rfl)⟩
      · exact ⟨b3.1, b3.2, .inr (.inr rfl)⟩
    · unfold p1
      repeat' split
      all_goals first | simp; done | (exfalso; omega)
    · unfold p1
      repeat' split
      all_goals simp
    · unfold p1
      repeat' split
      all_goals simp [wt]
      all_goals omega
theorem sum_bd (P : List (Int × UInt8)) (h : ∀ p ∈ P, PI p) : 0 ≤ (P.map fun p => p.1 * wt p.2).sum ∧ (P.map fun p => p.1 * wt p.2).sum ≤ 240000000 * (P.length : Int) := by
  induction P with
  | nil => simp
  | cons p r ih =>
    have := ih (fun q hq => h q (by simp [hq]))
    obtain ⟨g0, g1, g2⟩ := h p (by simp)
    have hw : 0 ≤ p.1 * wt p.2 ∧ p.1 * wt p.2 ≤ 240000000 := by
      unfold wt
      rcases g2 with e | e | e <;> rw [e] <;> simp <;> omega
    simp only [List.map_cons, List.sum_cons, List.length_cons]
    push_cast
    omega
theorem wt_i {c : UInt8} (h : c = 108 ∨ c = 115 ∨ c = 100) : ∃ k : Int, strings_IndexByte [100, 115, 108] (c.toNat : Int) = some k ∧ 0 ≤ k ∧ impl_worth k = some (wt c) := by
  rcases h with rfl | rfl | rfl
  · exact ⟨2, rfl, by decide, rfl⟩
  · exact ⟨1, rfl, by decide, rfl⟩
  · exact ⟨0, rfl, by decide, rfl⟩
theorem parts_loop (P : List (Int × UInt8)) (h : ∀ p ∈ P, PI p) (hl : P.length ≤ 3) :
    Lw (impl_ReadAmount_b1 (P.map pT)) (0, 0) = some (.inr (P.map fun p => p.1 * wt p.2).sum) ∧ Lw (spec_l01ReadAmount_b1 (P.map pT)) (0, 0) = some (.inr (P.map fun p => p.1 * wt p.2).sum) := by
  have step : ∀ k (hk : k < P.length), impl_ReadAmount_b1 (P.map pT) (((P.take k).map fun p => p.1 * wt p.2).sum, (k : Int)) = some (.inl (((P.take (k + 1)).map fun p => p.1 * wt p.2).sum, ((k + 1 : Nat) : Int))) ∧
      spec_l01ReadAmount_b1 (P.map pT) (((P.take k).map fun p => p.1 * wt p.2).sum, (k : Int)) = some (.inl (((P.take (k + 1)).map fun p => p.1 * wt p.2).sum, ((k + 1 : Nat) : Int))) := by
    intro k hk
    have hp := h _ (List.getElem_mem hk)
    have hr : rd (P.map pT) (k : Int) = some (pT P[k]) := by rw [rd_coe, List.getElem?_map, List.getElem?_eq_getElem hk]; rfl
    have bd := sum_bd (P.take k) (fun p hp => h p (List.mem_of_mem_take hp))
    have bd2 := sum_bd (P.take (k + 1)) (fun p hp => h p (List.mem_of_mem_take hp))
    have lt1 : (P.take k).length ≤ 3 := by simp; omega
    have lt2 : (P.take (k + 1)).length ≤ 3 := by simp; omega
    have hs : ((P.take (k + 1)).map fun p => p.1 * wt p.2).sum = ((P.take k).map fun p => p.1 * wt p.2).sum + P[k].1 * wt P[k].2 := by
      rw [List.take_succ_eq_append_getElem hk, List.map_append, List.sum_append]; simp
    revert bd bd2 hs
    generalize ((P.take (k + 1)).map fun p => p.1 * wt p.2).sum = v', ((P.take k).map fun p => p.1 * wt p.2).sum = v
    revert hp hr
    generalize hq : P[k] = q
    obtain ⟨m, c⟩ := q
    intro hp hr bd bd2 hs
    simp only at hs
    obtain ⟨g0, g1, g2⟩ := hp
    simp only at g0 g1 g2
    obtain ⟨i0, i1, i2, i3⟩ := wt_i g2
    have c4 : decide (i0 < 0) = false := decide_eq_false (by omega)
    obtain ⟨n1, n2⟩ := num_ok g0 g1
    have tp := tx_pos m
    have tl := tx_len g0 (by omega)
    have hx : pT (m, c) = tx m ++ [c] := rfl
    have xl : (pT (m, c)).length = (tx m).length + 1 := by rw [hx]; simp
    have w := w64s (n := 3) (i := k) (by omega) (by omega)
    have w1 : IntKind.i64.wrap (((pT (m, c)).length : Int) - 1) = (((tx m).length : Nat) : Int) := by rw [xl, w64 (by omega)]; omega
    have sl : slc (pT (m, c)) 0 (((tx m).length : Nat) : Int) = some (tx m) := by
      have := slc_some (xs := pT (m, c)) (a := 0) (b := (tx m).length) (by omega) (by omega)
      rw [show (0 : Int) = ((0 : Nat) : Int) from rfl, this, hx]
      simp
    have rl : rd (pT (m, c)) (((tx m).length : Nat) : Int) = some c := by rw [rd_coe, hx]; simp
    have c0 : decide ((k : Int) < ((P.map pT).length : Int)) = true := decide_eq_true (by rw [List.length_map]; omega)
    have ne : (pT (m, c) == ([] : List UInt8)) = false := by rw [hx]; simp
    have hwt : wt c = 240 ∨ wt c = 12 ∨ wt c = 1 := by unfold wt; rcases g2 with e | e | e <;> subst e <;> simp
    have mb : 0 ≤ m * wt c ∧ m * wt c ≤ 240000000 := by rcases hwt with e | e | e <;> rw [e] <;> omega
    have m1 : IntKind.i64.wrap (m * wt c) = m * wt c := w64 (by omega)
    have m3 : IntKind.i64.wrap (v + m * wt c) = v' := by rw [hs, w64 (by omega)]
    constructor
    · simp only [impl_ReadAmount_b1, c0, hr, Option.bind_some, ne, w1, sl, n1, rl, i1, i3, c4, m1, m3, w, if_true, Bool.false_eq_true, if_false]
    · have c2 : decide (((pT (m, c)).length : Int) < 2) = false := decide_eq_false (by omega)
      have c3 : decide (m > 100000000) = false := decide_eq_false (by omega)
      simp only [spec_l01ReadAmount_b1, c0, hr, Option.bind_some, c2, w1, sl, n2, rl, c3, w, if_true, Bool.false_eq_true, if_false]
      rcases g2 with e | e | e <;> subst e
      · have e1 : IntKind.i64.wrap (240 * m) = m * wt 108 := by rw [← m1, Int.mul_comm]; rfl
        rw [if_pos (by decide), e1, m3]
      · have e1 : IntKind.i64.wrap (12 * m) = m * wt 115 := by rw [← m1, Int.mul_comm]; rfl
        rw [if_neg (by decide), if_pos (by decide), e1, m3]
      · have e1 : m = m * wt 100 := by rw [show wt 100 = 1 from rfl, Int.mul_one]
        rw [if_neg (by decide), if_neg (by decide), if_pos (by decide), e1, m3]
  have e1 := Lw_run (tb := impl_ReadAmount_b1 (P.map pT)) (fun k => (((P.take k).map fun p => p.1 * wt p.2).sum, (k : Int))) P.length (r := .inr (P.map fun p => p.1 * wt p.2).sum) (fun k hk => (step k hk).1) (by rw [List.take_length]; simp [impl_ReadAmount_b1])
  have e2 := Lw_run (tb := spec_l01ReadAmount_b1 (P.map pT)) (fun k => (((P.take k).map fun p => p.1 * wt p.2).sum, (k : Int))) P.length (r := .inr (P.map fun p => p.1 * wt p.2).sum) (fun k hk => (step k hk).2) (by rw [List.take_length]; simp [spec_l01ReadAmount_b1])
  exact ⟨e1, e2⟩
theorem pT_no {p : Int × UInt8} (h : PI p) {c : UInt8} (hc : c = 32 ∨ c = 10) : c ∉ pT p := by
  intro hm
  unfold pT at hm
  rcases List.mem_append.1 hm with g | g
  · have := dig_dec _ _ g
    rcases hc with rfl | rfl <;> revert this <;> decide
  · have := List.mem_singleton.1 g
    obtain ⟨_, _, g2⟩ := h
    rw [← this] at g2
    rcases hc with rfl | rfl <;> revert g2 <;> decide
theorem amtT_pcs {a : Int} (h0 : 0 ≤ a) (h1 : a ≤ 100000000) : pcs 32 (amtT a) = (parts a).map pT := by
  obtain ⟨g1, g2, _, _⟩ := parts_PI h0 h1
  rw [amtT_parts]
  refine join_pcs (by simpa using g2) (fun x hx => ?_)
  obtain ⟨p, hp, rfl⟩ := List.mem_map.1 hx
  exact pT_no (g1 p hp) (.inl rfl)
theorem amtT_no {a : Int} (h0 : 0 ≤ a) (h1 : a ≤ 100000000) : (10 : UInt8) ∉ amtT a := by
  obtain ⟨g1, g2, _, _⟩ := parts_PI h0 h1
  rw [amtT_parts]
  intro h
  rcases mem_join h with h | ⟨x, hx, h⟩
  · revert h; decide
  · obtain ⟨p, hp, rfl⟩ := List.mem_map.1 hx
    exact pT_no (g1 p hp) (.inr rfl) h
theorem amtT_short {a : Int} (h0 : 0 ≤ a) (h1 : a ≤ 100000000) : (amtT a).length ≤ 30 ∧ 1 ≤ (amtT a).length := by
  obtain ⟨g1, g2, g3, _⟩ := parts_PI h0 h1
  rw [amtT_parts]
  have hj := join_len ((parts a).map pT) 8 (fun x hx => by
    obtain ⟨p, hp, rfl⟩ := List.mem_map.1 hx
    obtain ⟨q0, q1, _⟩ := g1 p hp
    have hl : (tx p.1).length ≤ 7 := decDigits_le 6 _ (by simp; omega)
    unfold pT; simp; omega)
  have : ((parts a).map pT).length * (8 + 1) ≤ 3 * 9 := Nat.mul_le_mul_right _ (by simpa using g3)
  refine ⟨by omega, ?_⟩
  cases hp : parts a with
  | nil => exact absurd hp g2
  | cons p r => rw [List.map_cons, Lib.join_cons]; unfold pT; simp; omega
end Go.Proofs.YtbhbmgmnnkcmcaaDoor
/- Amounts read: the same on both sides. -/
namespace Go.Proofs.YtbhbmgmnnkcmcaaDoor
open Go Go.Ab
theorem idx_lt (c : UInt8) : ∀ l : List UInt8, Lib.indexByte l c < l.length
  | [] => by simp [Lib.indexByte]
  | b :: l => by
    have ih := idx_lt c l
    rw [Lib.indexByte]
    split
    · simp
    · split
      · simp; omega
      · simp; omega
theorem unit_tot (c : UInt8) : ∃ k : Int, strings_IndexByte [100, 115, 108] (c.toNat : Int) = some k ∧ (k < 0 ∨ ∃ w, impl_worth k = some w) := by
  refine ⟨Lib.indexByte [100, 115, 108] ((c.toNat : Int).toNat.toUInt8), rfl, ?_⟩
  have := idx_lt ((c.toNat : Int).toNat.toUInt8) [100, 115, 108]
  generalize Lib.indexByte [100, 115, 108] ((c.toNat : Int).toNat.toUInt8) = k at *
  simp at this
  by_cases h : k < 0
  · exact .inl h
  · have : k = 0 ∨ k = 1 ∨ k = 2 := by omega
    rcases this with rfl | rfl | rfl
    · exact .inr ⟨_, rfl⟩
    · exact .inr ⟨_, rfl⟩
    · exact .inr ⟨_, rfl⟩
theorem amtLoop_tot (xs : List (List UInt8)) (hn : xs.length ≤ 1048577) (hx : ∀ x ∈ xs, x.length ≤ 1048576) : (∃ r, Lw (impl_ReadAmount_b1 xs) (0, 0) = some r) ∧ ∃ r, Lw (spec_l01ReadAmount_b1 xs) (0, 0) = some r := by
  constructor
  · obtain ⟨r, e, _⟩ := Lw_meas (tb := impl_ReadAmount_b1 xs) (fun s => xs.length - s.2.toNat) (fun s => ∃ i : Nat, s.2 = i ∧ i ≤ xs.length) (fun _ => True)
      (by
        rintro ⟨a, j⟩ ⟨i, hi, hl⟩
        simp only at hi
        subst hi
        by_cases hlt : i < xs.length
        · have hm := hx _ (List.getElem_mem hlt)
          have hr : rd xs (i : Int) = some xs[i] := by rw [rd_coe, List.getElem?_eq_getElem hlt]
          have w := w64s hlt (by omega)
          revert hr hm
          generalize xs[i] = x
          intro hm hr
          have c0 : decide ((i : Int) < (xs.length : Int)) = true := decide_eq_true (by omega)
          by_cases hne : x = []
          · exact .inr ⟨.inl (), by simp only [impl_ReadAmount_b1, c0, hr, hne, Option.bind_some, if_true]; simp, trivial⟩
          · have hp : 0 < x.length := List.length_pos_iff.2 hne
            have ne : (x == ([] : List UInt8)) = false := by simpa using hne
            have w1 : IntKind.i64.wrap ((x.length : Int) - 1) = ((x.length - 1 : Nat) : Int) := by rw [w64 (by omega)]; omega
            have sl : slc x 0 ((x.length - 1 : Nat) : Int) = some (x.take (x.length - 1)) := by
              have := slc_some (xs := x) (a := 0) (b := x.length - 1) (by omega) (by omega)
              rw [show (0 : Int) = ((0 : Nat) : Int) from rfl, this]; simp
            obtain ⟨⟨v, f⟩, n1⟩ := (num_tot (x.take (x.length - 1)) (by simp; omega)).1
            have hlt2 : x.length - 1 < x.length := by omega
            have rl : rd x ((x.length - 1 : Nat) : Int) = some x[x.length - 1] := by rw [rd_coe, List.getElem?_eq_getElem hlt2]
            obtain ⟨k, k1, k2⟩ := unit_tot x[x.length - 1]
            cases f with
            | false => exact .inr ⟨.inl (), by simp only [impl_ReadAmount_b1, c0, hr, ne, w1, sl, n1, rl, k1, Option.bind_some, if_true, Bool.false_eq_true, if_false], trivial⟩
            | true =>
              rcases k2 with k2 | ⟨wv, k2⟩
              · have c4 : decide (k < 0) = true := decide_eq_true k2
                exact .inr ⟨.inl (), by simp only [impl_ReadAmount_b1, c0, hr, ne, w1, sl, n1, rl, k1, c4, Option.bind_some, if_true, Bool.false_eq_true, if_false], trivial⟩
              · by_cases k3 : k < 0
                · have c4 : decide (k < 0) = true := decide_eq_true k3
                  exact .inr ⟨.inl (), by simp only [impl_ReadAmount_b1, c0, hr, ne, w1, sl, n1, rl, k1, c4, Option.bind_some, if_true, Bool.false_eq_true, if_false], trivial⟩
                · have c4 : decide (k < 0) = false := decide_eq_false k3
                  exact .inl ⟨(IntKind.i64.wrap (a + IntKind.i64.wrap (v * wv)), ((i + 1 : Nat) : Int)), by simp only [impl_ReadAmount_b1, c0, hr, ne, w1, sl, n1, rl, k1, c4, k2, w, Option.bind_some, if_true, Bool.false_eq_true, if_false], ⟨i + 1, rfl, hlt⟩, by simp; omega⟩
        · have : i = xs.length := by omega
          subst this
          exact .inr ⟨.inr a, by simp [impl_ReadAmount_b1], trivial⟩) _ (0, 0) rfl ⟨0, rfl, by omega⟩
    exact ⟨r, e⟩
  · obtain ⟨r, e, _⟩ := Lw_meas (tb := spec_l01ReadAmount_b1 xs) (fun s => xs.length - s.2.toNat) (fun s => ∃ i : Nat, s.2 = i ∧ i ≤ xs.length) (fun _ => True)
      (by
        rintro ⟨a, j⟩ ⟨i, hi, hl⟩
        simp only at hi
        subst hi
        by_cases hlt : i < xs.length
        · have hm := hx _ (List.getElem_mem hlt)
          have hr : rd xs (i : Int) = some xs[i] := by rw [rd_coe, List.getElem?_eq_getElem hlt]
          have w := w64s hlt (by omega)
          revert hr hm
          generalize xs[i] = x
          intro hm hr
          have c0 : decide ((i : Int) < (xs.length : Int)) = true := decide_eq_true (by omega)
          by_cases hne : x.length < 2
          · have c1 : decide ((x.length : Int) < 2) = true := decide_eq_true (by omega)
            exact .inr ⟨.inl (), by simp only [spec_l01ReadAmount_b1, c0, hr, c1, Option.bind_some, if_true], trivial⟩
          · have c1 : decide ((x.length : Int) < 2) = false := decide_eq_false (by omega)
            have w1 : IntKind.i64.wrap ((x.length : Int) - 1) = ((x.length - 1 : Nat) : Int) := by rw [w64 (by omega)]; omega
            have sl : slc x 0 ((x.length - 1 : Nat) : Int) = some (x.take (x.length - 1)) := by
              have := slc_some (xs := x) (a := 0) (b := x.length - 1) (by omega) (by omega)
              rw [show (0 : Int) = ((0 : Nat) : Int) from rfl, this]; simp
            obtain ⟨⟨v, f⟩, n1⟩ := (num_tot (x.take (x.length - 1)) (by simp; omega)).2
            have hlt2 : x.length - 1 < x.length := by omega
            have rl : rd x ((x.length - 1 : Nat) : Int) = some x[x.length - 1] := by rw [rd_coe, List.getElem?_eq_getElem hlt2]
            cases f with
            | false => exact .inr ⟨.inl (), by simp only [spec_l01ReadAmount_b1, c0, hr, c1, w1, sl, n1, rl, Option.bind_some, if_true, Bool.false_eq_true, if_false], trivial⟩
            | true =>
              by_cases hv : v > 100000000
              · have c4 : decide (v > 100000000) = true := decide_eq_true hv
                exact .inr ⟨.inl (), by simp only [spec_l01ReadAmount_b1, c0, hr, c1, w1, sl, n1, rl, c4, Option.bind_some, if_true, Bool.false_eq_true, if_false], trivial⟩
              · have c4 : decide (v > 100000000) = false := decide_eq_false hv
                by_cases u1 : ((x[x.length - 1].toNat : Int) == 108) = true
                · exact .inl ⟨_, by simp only [spec_l01ReadAmount_b1, c0, hr, c1, w1, sl, n1, rl, c4, w, Option.bind_some, if_true, Bool.false_eq_true, if_false]; rw [if_pos u1], ⟨i + 1, rfl, hlt⟩, by simp; omega⟩
                · by_cases u2 : ((x[x.length - 1].toNat : Int) == 115) = true
                  · exact .inl ⟨_, by simp only [spec_l01ReadAmount_b1, c0, hr, c1, w1, sl, n1, rl, c4, w, Option.bind_some, if_true, Bool.false_eq_true, if_false]; rw [if_neg u1, if_pos u2], ⟨i + 1, rfl, hlt⟩, by simp; omega⟩
                  · by_cases u3 : ((x[x.length - 1].toNat : Int) == 100) = true
                    · exact .inl ⟨_, by simp only [spec_l01ReadAmount_b1, c0, hr, c1, w1, sl, n1, rl, c4, w, Option.bind_some, if_true, Bool.false_eq_true, if_false]; rw [if_neg u1, if_neg u2, if_pos u3], ⟨i + 1, rfl, hlt⟩, by simp; omega⟩
                    · exact .inr ⟨_, by simp only [spec_l01ReadAmount_b1, c0, hr, c1, w1, sl, n1, rl, c4, w, Option.bind_some, if_true, Bool.false_eq_true, if_false]; rw [if_neg u1, if_neg u2, if_neg u3], trivial⟩
        · have : i = xs.length := by omega
          subst this
          exact .inr ⟨.inr a, by simp [spec_l01ReadAmount_b1], trivial⟩) _ (0, 0) rfl ⟨0, rfl, by omega⟩
    exact ⟨r, e⟩
theorem amt_out {n : Int} (h : ¬ (0 ≤ n ∧ n ≤ 100000000)) : impl_AmountText n = some [] := by
  unfold impl_AmountText
  have : inB n 0 100000000 = false := by rw [← Bool.not_eq_true]; exact fun e => h (inB_iff.1 e)
  rw [isAmount_eq, Option.bind_some, this]; rfl
theorem read_same (t : List UInt8) (ht : t.length ≤ 1048576) : (∃ n, 0 ≤ n ∧ n ≤ 100000000 ∧ t = amtT n ∧ impl_ReadAmount t = some (n, 0) ∧ spec_l01ReadAmount t = some (n, true)) ∨ ((¬ ∃ n, 0 ≤ n ∧ n ≤ 100000000 ∧ t = amtT n) ∧ impl_ReadAmount t = some (0, 5) ∧ ∃ n, spec_l01ReadAmount t = some (n, false)) := by
  have si := split_i (s := t) 32 ht
  have ss : spec_l01Split t 32 = some (pcs 32 t) := split_s (s := t) 32 ht
  by_cases hn : ∃ n, 0 ≤ n ∧ n ≤ 100000000 ∧ t = amtT n
  · obtain ⟨n, h0, h1, rfl⟩ := hn
    left
    refine ⟨n, h0, h1, rfl, ?_, ?_⟩
    all_goals
      obtain ⟨g1, g2, g3, g4⟩ := parts_PI h0 h1
      obtain ⟨l1, l2⟩ := parts_loop (parts n) g1 g3
      rw [g4] at l1 l2
      have hs := amtT_short h0 h1
      rw [amtT_pcs h0 h1] at si ss
    · unfold impl_ReadAmount strings_Split
      rw [if_neg (by simp; omega), si, Option.bind_some, l1, Option.bind_some]
      dsimp only
      rw [amt_i h0 h1, Option.bind_some, if_pos (by simp)]
    · unfold spec_l01ReadAmount
      rw [ss, Option.bind_some, l2, Option.bind_some]
      dsimp only
      rw [l01Amount_eq, Option.bind_some, if_pos (inB_iff.2 ⟨h0, h1⟩), amt_s h0 h1, Option.bind_some]
      simp
  · right
    refine ⟨hn, ?_, ?_⟩
    all_goals
      obtain ⟨⟨r1, l1⟩, r2, l2⟩ := amtLoop_tot (pcs 32 t) (by have := pcs_len (c := 32) t; omega) (fun x hx => by have := pcs_sub hx; omega)
    · unfold impl_ReadAmount strings_Split
      by_cases h30 : (t.length : Int) > 30
      · rw [if_pos (by simpa using h30)]
      · rw [if_neg (by simpa using h30), si, Option.bind_some, l1, Option.bind_some]
        rcases r1 with u | v
        · rfl
        · dsimp only
          by_cases hv : 0 ≤ v ∧ v ≤ 100000000
          · rw [amt_i hv.1 hv.2, Option.bind_some, if_neg]
            intro e
            exact hn ⟨v, hv.1, hv.2, (beq_iff_eq.1 e).symm⟩
          · rw [amt_out hv, Option.bind_some]
            by_cases he : t = []
            · subst he
              have : Lw (impl_ReadAmount_b1 (pcs 32 [])) (0, 0) = some (.inl ()) := Lw_stop (by simp [impl_ReadAmount_b1, pcs, rd_zero])
              rw [this] at l1
              cases l1
            · rw [if_neg (by simpa using he)]
    · unfold spec_l01ReadAmount
      rw [ss, Option.bind_some, l2, Option.bind_some]
      rcases r2 with u | v
      · exact ⟨_, rfl⟩
      · dsimp only
        rw [l01Amount_eq, Option.bind_some]
        by_cases hv : 0 ≤ v ∧ v ≤ 100000000
        · rw [if_pos (inB_iff.2 hv), amt_s hv.1 hv.2, Option.bind_some]
          refine ⟨v, ?_⟩
          have : (amtT v == t) = false := by
            rw [beq_eq_false_iff_ne]
            intro e
            exact hn ⟨v, hv.1, hv.2, e.symm⟩
          rw [this]
        · rw [if_neg (fun e => hv (inB_iff.1 e))]
          exact ⟨v, rfl⟩
end Go.Proofs.YtbhbmgmnnkcmcaaDoor
/- Numbers read, whatever the text. -/
namespace Go.Proofs.YtbhbmgmnnkcmcaaDoor
open Go Go.Ab
def DG (t : List UInt8) : Prop := ∀ b ∈ t, 48 ≤ b.toNat ∧ b.toNat ≤ 57
theorem fold_ge : ∀ (l : List UInt8) (a : Nat), a * 10 ^ l.length ≤ l.foldl (fun a b => 10 * a + (b.toNat - 48)) a
  | [], a => by simp
  | b :: l, a => by
    have ih := fold_ge l (10 * a + (b.toNat - 48))
    rw [List.foldl_cons, List.length_cons, Nat.pow_succ]
    have : a * (10 ^ l.length * 10) ≤ (10 * a + (b.toNat - 48)) * 10 ^ l.length := by
      rw [Nat.add_mul]
      have e : a * (10 ^ l.length * 10) = 10 * a * 10 ^ l.length := by
        rw [Nat.mul_comm (10 ^ l.length) 10, ← Nat.mul_assoc, Nat.mul_comm a 10]
      omega
    omega
theorem dec_val : ∀ (n : Nat) (t : List UInt8), t.length = n → t ≠ [] → DG t → (t.length = 1 ∨ ∀ h : 0 < t.length, t[0].toNat ≠ 48) → Lib.decDigits (val t) = t
  | 0, t, hl, hn, _, _ => absurd (List.length_eq_zero_iff.1 hl) hn
  | n + 1, t, hl, hn, hd, h0 => by
    have e := (List.dropLast_concat_getLast hn).symm
    generalize hi : t.dropLast = i at e
    generalize hb : t.getLast hn = b at e
    subst e
    have hb2 := hd b (by simp)
    rw [val_snoc]
    by_cases he : i = []
    · subst he
      rw [show val [] = 0 from rfl, Lib.decDigits, dif_pos (by omega), show 48 + (10 * 0 + (b.toNat - 48)) = b.toNat by omega, UInt8.ofNat_toNat]
      rfl
    · have hil := List.length_pos_iff.2 he
      have hf : i[0].toNat ≠ 48 := by
        rcases h0 with h0 | h0
        · simp at h0; exact absurd h0 he
        · have := h0 (by simp)
          rwa [List.getElem_append_left hil] at this
      have hdi : DG i := fun x hx => hd x (by simp [hx])
      have hv : 1 ≤ val i := by
        obtain ⟨c, l, rfl⟩ : ∃ c l, i = c :: l := by cases i with | nil => exact absurd rfl he | cons c l => exact ⟨c, l, rfl⟩
        have h1 := hdi c (by simp)
        have h2 : c.toNat ≠ 48 := hf
        have g := fold_ge l (10 * 0 + (c.toNat - 48))
        have : val (c :: l) = l.foldl (fun a b => 10 * a + (b.toNat - 48)) (10 * 0 + (c.toNat - 48)) := rfl
        have p : 1 ≤ (10 * 0 + (c.toNat - 48)) * 10 ^ l.length := Nat.mul_pos (by omega) (Nat.pow_pos (by decide))
        omega
      rw [Lib.decDigits, dif_neg (by omega), show (10 * val i + (b.toNat - 48)) / 10 = val i by omega, show 48 + (10 * val i + (b.toNat - 48)) % 10 = b.toNat by omega, UInt8.ofNat_toNat,
        dec_val n i (by simp at hl; exact hl) he hdi (.inr fun _ => hf)]
theorem num_bad (t : List UInt8) (ht : t.length ≤ 1048576) (h : ¬ DG t) : Lw (impl_number_b1 t) (0, 0) = some (.inl ()) ∧ Lw (spec_l01Number_b1 t) (0, 0) = some (.inl ()) := by
  constructor
  · obtain ⟨r, e, q⟩ := Lw_meas (tb := impl_number_b1 t) (fun s => t.length - s.2.toNat) (fun s => ∃ i : Nat, s.2 = i ∧ i ≤ t.length ∧ DG (t.take i)) (fun r => r = .inl ())
      (by
        rintro ⟨a, j⟩ ⟨i, hi, hl, hd⟩
        simp only at hi
        subst hi
        by_cases hlt : i < t.length
        · have hr : rd t (i : Int) = some t[i] := by rw [rd_coe, List.getElem?_eq_getElem hlt]
          have w := w64s hlt (by omega)
          have c0 : decide ((i : Int) < (t.length : Int)) = true := decide_eq_true (by omega)
          by_cases c1 : (t[i].toNat : Int) < 48
          · exact .inr ⟨.inl (), by simp only [impl_number_b1, hr, c0, Option.bind_some, if_true]; rw [if_pos (decide_eq_true c1)], rfl⟩
          · by_cases c2 : (t[i].toNat : Int) > 57
            · exact .inr ⟨.inl (), by simp only [impl_number_b1, hr, c0, Option.bind_some, if_true]; rw [if_neg (by simpa using c1), if_pos (decide_eq_true c2)], rfl⟩
            · refine .inl ⟨_, by simp only [impl_number_b1, hr, c0, Option.bind_some, if_true, w]; rw [if_neg (by simpa using c1), if_neg (by simpa using c2)], ⟨i + 1, rfl, hlt, ?_⟩, by simp; omega⟩
              rw [List.take_succ_eq_append_getElem hlt]
              intro b hb
              rcases List.mem_append.1 hb with hb | hb
              · exact hd b hb
              · rw [List.mem_singleton.1 hb]; omega
        · exact absurd (by rw [List.take_of_length_le (by omega)] at hd; exact hd) h) _ (0, 0) rfl ⟨0, rfl, by omega, fun b hb => by simp at hb⟩
    rw [e, q]
  · obtain ⟨r, e, q⟩ := Lw_meas (tb := spec_l01Number_b1 t) (fun s => t.length - s.2.toNat) (fun s => ∃ i : Nat, s.2 = i ∧ i ≤ t.length ∧ DG (t.take i)) (fun r => r = .inl ())
      (by
        rintro ⟨a, j⟩ ⟨i, hi, hl, hd⟩
        simp only at hi
        subst hi
        by_cases hlt : i < t.length
        · have hr : rd t (i : Int) = some t[i] := by rw [rd_coe, List.getElem?_eq_getElem hlt]
          have w := w64s hlt (by omega)
          have c0 : decide ((i : Int) < (t.length : Int)) = true := decide_eq_true (by omega)
          by_cases c1 : (t[i].toNat : Int) < 48
          · exact .inr ⟨.inl (), by simp only [spec_l01Number_b1, hr, c0, Option.bind_some, if_true]; rw [if_pos (decide_eq_true c1)], rfl⟩
          · by_cases c2 : (t[i].toNat : Int) > 57
            · exact .inr ⟨.inl (), by simp only [spec_l01Number_b1, hr, c0, Option.bind_some, if_true]; rw [if_neg (by simpa using c1), if_pos (decide_eq_true c2)], rfl⟩
            · refine .inl ⟨_, by simp only [spec_l01Number_b1, hr, c0, Option.bind_some, if_true, w]; rw [if_neg (by simpa using c1), if_neg (by simpa using c2)], ⟨i + 1, rfl, hlt, ?_⟩, by simp; omega⟩
              rw [List.take_succ_eq_append_getElem hlt]
              intro b hb
              rcases List.mem_append.1 hb with hb | hb
              · exact hd b hb
              · rw [List.mem_singleton.1 hb]; omega
        · exact absurd (by rw [List.take_of_length_le (by omega)] at hd; exact hd) h) _ (0, 0) rfl ⟨0, rfl, by omega, fun b hb => by simp at hb⟩
    rw [e, q]
theorem num_rel (t : List UInt8) (ht : t.length ≤ 1048576) : (∃ v : Int, 0 ≤ v ∧ impl_number t = some (v, true) ∧ spec_l01Number t = some (v, true) ∧ t = tx v) ∨ (∃ w : Int, w > 100000 ∧ impl_number t = some (0, false) ∧ spec_l01Number t = some (w, true)) ∨ (impl_number t = some (0, false) ∧ spec_l01Number t = some (0, false)) := by
  by_cases hn : t = []
  · subst hn; exact .inr (.inr ⟨rfl, rfl⟩)
  have hp : 0 < t.length := List.length_pos_iff.2 hn
  have ne : (t == ([] : List UInt8)) = false := by simpa using hn
  have hr : rd t 0 = some t[0] := by rw [rd_zero, List.getElem?_eq_getElem hp]
  by_cases h10 : t.length > 10
  · have c1 : decide ((t.length : Int) > 9) = true := decide_eq_true (by omega)
    have c2 : decide ((t.length : Int) > 10) = true := decide_eq_true (by omega)
    right; right
    constructor
    · unfold impl_number; simp only [ne, c1, Bool.false_eq_true, if_false, if_true, Option.bind_some]
    · unfold spec_l01Number; simp only [ne, c2, Bool.false_eq_true, if_false, if_true, Option.bind_some]
  have c2 : decide ((t.length : Int) > 10) = false := decide_eq_false (by omega)
  by_cases hz : t[0].toNat = 48 ∧ t.length > 1
  · have z1 : ((t[0].toNat : Int) == 48) = true := by rw [beq_iff_eq]; omega
    have z2 : decide ((t.length : Int) > 1) = true := decide_eq_true (by omega)
    right; right
    constructor
    · unfold impl_number
      by_cases h9 : t.length > 9
      · have c1 : decide ((t.length : Int) > 9) = true := decide_eq_true (by omega)
        simp only [ne, c1, Bool.false_eq_true, if_false, if_true, Option.bind_some]
      · have c1 : decide ((t.length : Int) > 9) = false := decide_eq_false (by omega)
        simp only [ne, c1, hr, z1, z2, Bool.false_eq_true, if_false, if_true, Option.bind_some]
    · unfold spec_l01Number; simp only [ne, c2, hr, z1, z2, Bool.false_eq_true, if_false, if_true, Option.bind_some]
  have key : ((if ((t[0].toNat : Int) == 48) = true then
      if (decide ((t.length : Int) > 1)) = true then some (.inl ()) else some (.inr (decide ((t.length : Int) > 1)))
     else some (.inr false) : Option (Unit ⊕ Bool))) = some (.inr false) := by
    by_cases z1 : t[0].toNat = 48
    · have z2 : decide ((t.length : Int) > 1) = false := decide_eq_false (by omega)
      rw [if_pos (by rw [beq_iff_eq]; omega), if_neg (by simp [z2]), z2]
    · rw [if_neg (by rw [beq_iff_eq]; omega)]
  by_cases hd : DG t
  · obtain ⟨l1, l2⟩ := num_loop t hd (by omega)
    have sp : spec_l01Number t = some ((val t : Int), true) := by
      unfold spec_l01Number; simp only [ne, c2, hr, key, l2, Bool.false_eq_true, if_false, Option.bind_some]
    by_cases h9 : t.length > 9
    · have c1 : decide ((t.length : Int) > 9) = true := decide_eq_true (by omega)
      right; left
      refine ⟨_, ?_, by unfold impl_number; simp only [ne, c1, Bool.false_eq_true, if_false, if_true, Option.bind_some], sp⟩
      obtain ⟨b, l, rfl⟩ : ∃ b l, t = b :: l := by cases t with | nil => exact absurd rfl hn | cons b l => exact ⟨b, l, rfl⟩
      have hb := hd b (by simp)
      have hb2 : b.toNat ≠ 48 := fun e => hz ⟨e, by omega⟩
      have g := fold_ge l (10 * 0 + (b.toNat - 48))
      have hl : l.length = 9 := by simp at h9 h10; omega
      rw [hl] at g
      have : val (b :: l) = l.foldl (fun a b => 10 * a + (b.toNat - 48)) (10 * 0 + (b.toNat - 48)) := rfl
      rw [this]
      omega
    · have c1 : decide ((t.length : Int) > 9) = false := decide_eq_false (by omega)
      refine .inl ⟨_, by omega, by unfold impl_number; simp only [ne, c1, hr, key, l1, Bool.false_eq_true, if_false, Option.bind_some], sp, ?_⟩
      unfold tx
      rw [Int.toNat_natCast, dec_val t.length t rfl hn hd (by
        by_cases h1 : t.length = 1
        · exact .inl h1
        · exact .inr fun _ e => hz ⟨e, by omega⟩)]
  · obtain ⟨l1, l2⟩ := num_bad t ht hd
    right; right
    constructor
    · unfold impl_number
      by_cases h9 : t.length > 9
      · have c1 : decide ((t.length : Int) > 9) = true := decide_eq_true (by omega)
        simp only [ne, c1, Bool.false_eq_true, if_false, if_true, Option.bind_some]
      · have c1 : decide ((t.length : Int) > 9) = false := decide_eq_false (by omega)
        simp only [ne, c1, hr, key, l1, Bool.false_eq_true, if_false, Option.bind_some]
    · unfold spec_l01Number; simp only [ne, c2, hr, key, l2, Bool.false_eq_true, if_false, Option.bind_some]
end Go.Proofs.YtbhbmgmnnkcmcaaDoor
/- Deals read. -/
namespace Go.Proofs.YtbhbmgmnnkcmcaaDoor
open Go Go.Ab
theorem dealT_i {d : Deal} (h : dealB d = true) : impl_dealText d = some (dealT d) := by
  obtain ⟨h1, h2, h3, h4, h5, h6⟩ := DlI.of h
  have t1 := tx_len (n := d.Day) h1.1 (by omega)
  have t2 := tx_len (n := d.Tally) h2.1 (by omega)
  have t3 := tx_len (n := d.From) h3.1 (by omega)
  have t4 := tx_len (n := d.To) h4.1 (by omega)
  have t5 := amtT_len h5.1 h5.2
  unfold impl_dealText dealT
  rw [dec_i h1.1 (by omega), dec_i h2.1 (by omega), dec_i h3.1 (by omega), dec_i h4.1 (by omega), amt_i h5.1 h5.2]
  generalize tx d.Day = a at *
  generalize tx d.Tally = b at *
  generalize tx d.From = c at *
  generalize tx d.To = e at *
  generalize amtT d.Amount = f at *
  have key : ∀ (x y : List UInt8), x.length ≤ 1000 → y.length ≤ 1000 → sadd x y = some (x ++ y) := fun x y hx hy => sadd_some (by omega)
  rcases h6 with h6 | h6 | h6 | h6
  all_goals
    rw [h6]
    simp (config := { decide := true }) only [Option.bind_some, if_true, if_false, beq_self_eq_true, reduceIte, beq_iff_eq]
    simp (disch := ((try simp only [List.length_append, List.length_cons, List.length_nil]); omega)) only [key, Option.bind_some]
def NR (t : List UInt8) : Prop := ∃ (a : Int) (f : Bool) (b : Int) (g : Bool), impl_number t = some (a, f) ∧ spec_l01Number t = some (b, g) ∧ ((f = true ∧ g = true ∧ a = b ∧ t = tx a) ∨ (f = false ∧ (g = true → b > 100000)))
theorem numR (t : List UInt8) (h : t.length ≤ 1048576) : NR t := by
  rcases num_rel t h with ⟨v, v0, n1, n2, n3⟩ | ⟨w, w0, n1, n2⟩ | ⟨n1, n2⟩
  · exact ⟨v, true, v, true, n1, n2, .inl ⟨rfl, rfl, rfl, n3⟩⟩
  · exact ⟨0, false, w, true, n1, n2, .inr ⟨rfl, fun _ => w0⟩⟩
  · exact ⟨0, false, 0, false, n1, n2, .inr ⟨rfl, fun e => by cases e⟩⟩
theorem join_snoc (x : List UInt8) (c : UInt8) : ∀ {xs : List (List UInt8)}, xs ≠ [] → Lib.join (xs ++ [x]) [c] = Lib.join xs [c] ++ [c] ++ x
  | [], h => absurd rfl h
  | [y], _ => by rw [Lib.join_one]; show Lib.join (y :: x :: []) [c] = _; rw [join_two, Lib.join_one]; simp
  | y :: z :: r, _ => by
    rw [List.cons_append, List.cons_append, join_two, join_two, ← List.cons_append, join_snoc x c (by simp)]
    simp
theorem jlen (xs : List (List UInt8)) (hn : xs.length ≤ 1048577) (hx : ∀ x ∈ xs, x.length ≤ 1048576) : (Lib.join xs [32]).length ≤ 1200000000000 := by
  have h := join_len xs 1048576 hx
  have : xs.length * (1048576 + 1) ≤ 1048577 * 1048577 := Nat.mul_le_mul_right _ hn
  omega
theorem join_s (xs : List (List UInt8)) (hn : xs.length ≤ 1048577) (hx : ∀ x ∈ xs, x.length ≤ 1048576) : spec_l07Join xs = some (Lib.join xs [32]) := by
  have key := Lw_run (tb := spec_l07Join_b1 xs) (fun i => (Lib.join (xs.take i) [32], (i : Int))) xs.length (r := Lib.join xs [32])
    (by
      intro i hi
      have hr : rd xs (i : Int) = some xs[i] := by rw [rd_coe, List.getElem?_eq_getElem hi]
      have w := w64s hi (by omega)
      have c0 : decide ((i : Int) < (xs.length : Int)) = true := decide_eq_true (by omega)
      have l1 := jlen (xs.take i) (by simp; omega) (fun x h => hx x (List.mem_of_mem_take h))
      have l2 := hx _ (List.getElem_mem hi)
      rw [List.take_succ_eq_append_getElem hi]
      by_cases h0 : i = 0
      · subst h0
        have c1 : decide (((0 : Nat) : Int) > 0) = false := rfl
        have sa : sadd ([] : List UInt8) xs[0] = some ([] ++ xs[0]) := sadd_some (by simp; omega)
        rw [List.nil_append] at sa
        simp only [spec_l07Join_b1, c0, c1, List.take_zero, Lib.join_nil, hr, sa, Option.bind_some, w, if_true, Bool.false_eq_true, if_false, List.nil_append, Lib.join_one]
      · have c1 : decide ((i : Int) > 0) = true := decide_eq_true (by omega)
        have ne : xs.take i ≠ [] := fun e => by have h9 := congrArg List.length e; rw [List.length_take, List.length_nil] at h9; omega
        rw [join_snoc _ _ ne]
        generalize Lib.join (xs.take i) [32] = J at l1
        have s1 : sadd J [32] = some (J ++ [32]) := sadd_some (by simp; omega)
        have s2 : sadd (J ++ [32]) xs[i] = some (J ++ [32] ++ xs[i]) := sadd_some (by simp; omega)
        simp only [spec_l07Join_b1, c0, c1, hr, s1, s2, Option.bind_some, w, if_true])
    (by rw [List.take_length]; simp [spec_l07Join_b1])
  unfold spec_l07Join
  have key' : Lw (spec_l07Join_b1 xs) ([], 0) = _ := key
  rw [key']; rfl
def AR (xs : List (List UInt8)) : Prop := ∃ (n e m : Int) (h : Bool), impl_ReadAmount (Lib.join xs [32]) = some (n, e) ∧ spec_l01ReadAmount (Lib.join xs [32]) = some (m, h) ∧ ((e = 0 ∧ h = true ∧ n = m ∧ Lib.join xs [32] = amtT n ∧ xs ≠ [] ∧ xs.length ≤ 3) ∨ (e = 5 ∧ h = false))
theorem amtR (xs : List (List UInt8)) (hl : (Lib.join xs [32]).length ≤ 1048576) (hno : ∀ x ∈ xs, (32 : UInt8) ∉ x) : AR xs := by
  rcases read_same _ hl with ⟨n, n0, n1, e, r1, r2⟩ | ⟨_, r1, m, r2⟩
  · have hne : xs ≠ [] := fun h => by
      have := amtT_short n0 n1
      rw [← e, h, Lib.join_nil] at this
      simp at this
    have p := congrArg (pcs 32) e
    rw [join_pcs hne hno, amtT_pcs n0 n1] at p
    have h3 := (parts_PI n0 n1).2.2.1
    exact ⟨n, 0, n, true, r1, r2, .inl ⟨rfl, rfl, rfl, e, hne, by rw [p]; simpa using h3⟩⟩
  · exact ⟨0, 5, m, false, r1, r2, .inr ⟨rfl, rfl⟩⟩
theorem join_drop (w : List UInt8) (xs : List (List UInt8)) : (Lib.join xs [32]).length ≤ (Lib.join (w :: xs) [32]).length := by
  cases xs with
  | nil => simp [Lib.join_nil]
  | cons x r => rw [join_two]; simp; omega
def K5 : List (List UInt8) := [[], [99, 117, 116], [112, 97, 115, 115], [112, 97, 121], [101, 110, 100]]
theorem idx5 (w : List UInt8) : slices_Index_string K5 w = some (if K5.findIdx (fun x => decide (w = x)) < K5.length then ((K5.findIdx fun x => decide (w = x) : Nat) : Int) else -1) := by
  have key := find_first (tb := slices_Index_string_b1 K5 w) (fun x => decide (w = x)) K5 (fun i => .inl (i : Int)) (.inr ())
    (by
      intro i h hp
      have w1 := w64s h (by decide)
      simp only [decide_eq_false_iff_not] at hp
      have c0 : decide ((i : Int) < (K5.length : Int)) = true := decide_eq_true (by omega)
      have hr : rd K5 (i : Int) = some K5[i] := by rw [rd_coe, List.getElem?_eq_getElem h]
      simp only [slices_Index_string_b1, c0, hr, Option.bind_some, if_true, w1]
      rw [if_neg (by simpa using hp)])
    (by
      intro i h hp
      simp only [decide_eq_true_eq] at hp
      have c0 : decide ((i : Int) < (K5.length : Int)) = true := decide_eq_true (by omega)
      have hr : rd K5 (i : Int) = some K5[i] := by rw [rd_coe, List.getElem?_eq_getElem h]
      simp only [slices_Index_string_b1, c0, hr, Option.bind_some, if_true]
      rw [if_pos (by simpa using hp)])
    (by simp [slices_Index_string_b1])
  unfold slices_Index_string
  rw [key]
  split <;> rfl
theorem idx5_miss {w : List UInt8} (h1 : w ≠ [99, 117, 116]) (h2 : w ≠ [112, 97, 115, 115]) (h3 : w ≠ [112, 97, 121]) (h4 : w ≠ [101, 110, 100]) : ∃ r : Int, slices_Index_string K5 w = some r ∧ (r = 0 ∨ r = -1) := by
  refine ⟨_, idx5 w, ?_⟩
  by_cases hl : K5.findIdx (fun x => decide (w = x)) < K5.length
  · rw [if_pos hl]
    left
    have h := List.findIdx_getElem (w := hl)
    have h := of_decide_eq_true h
    generalize K5.findIdx (fun x => decide (w = x)) = k at *
    match k, hl with
    | 0, _ => rfl
    | 1, _ => exact absurd h h1
    | 2, _ => exact absurd h h2
    | 3, _ => exact absurd h h3
    | 4, _ => exact absurd h h4
    | n + 5, hl => exact absurd hl (by simp [K5])
  · rw [if_neg hl]; exact .inr rfl
theorem validDeal_b (d : Deal) : impl_ValidDeal d = some (dealB d) := validDeal_eq d
def IF (l : List UInt8) : Prop := ∃ a b c d e f : Int, impl_readDeal l = some (a, b, c, d, e, f, false)
def SF (l : List UInt8) : Prop := ∃ a b c d e f : Int, spec_l07Read l = some (a, b, c, d, e, f, false)
def LD (l : List UInt8) : Prop := (∃ d : Deal, impl_readDeal l = some (d.Day, d.Kind, d.Tally, d.From, d.To, d.Amount, true) ∧ spec_l07Read l = some (d.Day, d.Kind, d.Tally, d.From, d.To, d.Amount, true)) ∨ (IF l ∧ SF l)
end Go.Proofs.YtbhbmgmnnkcmcaaDoor
/- One deal read. -/
namespace Go.Proofs.YtbhbmgmnnkcmcaaDoor
open Go Go.Ab
theorem dealB_small {d : Deal} (h : dealB d = true) : d.Day ≤ 100000 ∧ d.Tally ≤ 100000 ∧ d.From ≤ 100000 ∧ d.To ≤ 100000 := by
  obtain ⟨h1, h2, h3, h4, _, _⟩ := DlI.of h
  exact ⟨h1.2, by omega, by omega, by omega⟩
theorem line_deal (l : List UInt8) (hl : l.length ≤ 1048576) : LD l := by
  have si : strings_Split l [32] = some (pcs 32 l) := split_i (s := l) 32 hl
  have ss : spec_l01Split l 32 = some (pcs 32 l) := split_s (s := l) 32 hl
  have pn := pcs_len (c := 32) l
  have hsub : ∀ w ∈ pcs 32 l, w.length ≤ 1048576 := fun w hw => by have := pcs_sub hw; omega
  have hno : ∀ w ∈ pcs 32 l, (32 : UInt8) ∉ w := fun w hw => pcs_mem hw
  have hjo := pcs_join (c := 32) l
  unfold LD IF SF impl_readDeal spec_l07Read
  rw [si, ss]
  generalize pcs 32 l = W at *
  simp only [Option.bind_some]
  by_cases h4 : W.length < 4
  · have c1 : decide ((W.length : Int) < 4) = true := decide_eq_true (by omega)
    right
    constructor
    · exact ⟨_, _, _, _, _, _, by simp only [c1, if_true, Option.bind_some]; rfl⟩
    · exact ⟨_, _, _, _, _, _, by simp only [c1, if_true]; rfl⟩
  have c1 : decide ((W.length : Int) < 4) = false := decide_eq_false (by omega)
  obtain ⟨w0, w1, w2, w3, X, rfl⟩ : ∃ w0 w1 w2 w3 X, W = w0 :: w1 :: w2 :: w3 :: X := by
    match W, h4 with
    | a :: b :: c :: d :: X, _ => exact ⟨a, b, c, d, X, rfl⟩
    | [], h => exact absurd (by simp) h
    | [_], h => exact absurd (by simp) h
    | [_, _], h => exact absurd (by simp) h
    | [_, _, _], h => exact absurd (by simp) h
  have r0 : rd (w0 :: w1 :: w2 :: w3 :: X) 0 = some w0 := rfl
  have r1 : rd (w0 :: w1 :: w2 :: w3 :: X) 1 = some w1 := rfl
  have r2 : rd (w0 :: w1 :: w2 :: w3 :: X) 2 = some w2 := rfl
  have r3 : rd (w0 :: w1 :: w2 :: w3 :: X) 3 = some w3 := rfl
  have q0 : rd (w2 :: w3 :: X) 0 = some w2 := rfl
  have q1 : rd (w2 :: w3 :: X) 1 = some w3 := rfl
  have s2 : slc (w0 :: w1 :: w2 :: w3 :: X) 2 ((w0 :: w1 :: w2 :: w3 :: X).length : Int) = some (w2 :: w3 :: X) := by
    have := slc_some (xs := w0 :: w1 :: w2 :: w3 :: X) (a := 2) (b := (w0 :: w1 :: w2 :: w3 :: X).length) (by simp) (by simp)
    rw [show (2 : Int) = ((2 : Nat) : Int) from rfl, this]; simp
  have s3 : slc (w0 :: w1 :: w2 :: w3 :: X) 3 ((w0 :: w1 :: w2 :: w3 :: X).length : Int) = some (w3 :: X) := by
    have := slc_some (xs := w0 :: w1 :: w2 :: w3 :: X) (a := 3) (b := (w0 :: w1 :: w2 :: w3 :: X).length) (by simp) (by simp)
    rw [show (3 : Int) = ((3 : Nat) : Int) from rfl, this]; simp
  have s4 : slc (w0 :: w1 :: w2 :: w3 :: X) 4 ((w0 :: w1 :: w2 :: w3 :: X).length : Int) = some X := by
    have := slc_some (xs := w0 :: w1 :: w2 :: w3 :: X) (a := 4) (b := (w0 :: w1 :: w2 :: w3 :: X).length) (by simp) (by simp)
    rw [show (4 : Int) = ((4 : Nat) : Int) from rfl, this]; simp
  have t1 : slc (w2 :: w3 :: X) 1 ((w2 :: w3 :: X).length : Int) = some (w3 :: X) := by
    have := slc_some (xs := w2 :: w3 :: X) (a := 1) (b := (w2 :: w3 :: X).length) (by simp) (by simp)
    rw [show (1 : Int) = ((1 : Nat) : Int) from rfl, this]; simp
  have t2 : slc (w2 :: w3 :: X) 2 ((w2 :: w3 :: X).length : Int) = some X := by
    have := slc_some (xs := w2 :: w3 :: X) (a := 2) (b := (w2 :: w3 :: X).length) (by simp) (by simp)
    rw [show (2 : Int) = ((2 : Nat) : Int) from rfl, this]; simp
  obtain ⟨a0, f0, b0, g0, n0, m0, R0⟩ := numR w0 (hsub w0 (by simp))
  obtain ⟨a2, f2, b2, g2, n2, m2, R2⟩ := numR w2 (hsub w2 (by simp))
  obtain ⟨a3, f3, b3, g3, n3, m3, R3⟩ := numR w3 (hsub w3 (by simp))
  have lX : (Lib.join X [32]).length ≤ 1048576 := by
    have h1 := join_drop w0 (w1 :: w2 :: w3 :: X)
    have h2 := join_drop w1 (w2 :: w3 :: X)
    have h3 := join_drop w2 (w3 :: X)
    have h4 := join_drop w3 X
    rw [hjo] at h1; omega
  have l3 : (Lib.join (w3 :: X) [32]).length ≤ 1048576 := by
    have h1 := join_drop w0 (w1 :: w2 :: w3 :: X)
    have h2 := join_drop w1 (w2 :: w3 :: X)
    have h3 := join_drop w2 (w3 :: X)
    rw [hjo] at h1; omega
  have nX : ∀ x ∈ X, (32 : UInt8) ∉ x := fun x hx => hno x (by simp [hx])
  have n3' : ∀ x ∈ w3 :: X, (32 : UInt8) ∉ x := fun x hx => hno x (by simp at hx ⊢; rcases hx with h | h <;> simp [h])
  have hXl : X.length ≤ 1048577 := by simp at pn; omega
  have jX : strings_Join X [32] = some (Lib.join X [32]) := by
    unfold strings_Join joinI; rw [if_pos ⟨by omega, by omega⟩]
  have j3 : strings_Join (w3 :: X) [32] = some (Lib.join (w3 :: X) [32]) := by
    unfold strings_Join joinI; rw [if_pos ⟨by omega, by simp; omega⟩]
  have kX := join_s X hXl (fun x hx => hsub x (by simp [hx]))
  have k3 := join_s (w3 :: X) (by simp at pn ⊢; omega) (fun x hx => hsub x (by simp at hx ⊢; rcases hx with h | h <;> simp [h]))
  have c8 : ((w0 :: w1 :: w2 :: w3 :: X).length : Int) = (X.length : Int) + 4 := by simp only [List.length_cons]; omega
  have d1 : decide (((w2 :: w3 :: X).length : Int) < 1) = false := decide_eq_false (by simp only [List.length_cons]; omega)
  have d2 : decide (((w2 :: w3 :: X).length : Int) < 2) = false := decide_eq_false (by simp only [List.length_cons]; omega)
  have e1 : IntKind.i8.wrap 1 = 1 := by decide
  have e2 : IntKind.i8.wrap 2 = 2 := by decide
  have e3 : IntKind.i8.wrap 3 = 3 := by decide
  have e4 : IntKind.i8.wrap 4 = 4 := by decide
  -- more than eight words
  have far : X.length > 4 → ∃ a b c d e f : Int, (if decide (((w0 :: w1 :: w2 :: w3 :: X).length : Int) > 8) = true then some (a, b, c, d, e, f, false) else none) = some (a, b, c, d, e, f, false) := fun h => ⟨0, 0, 0, 0, 0, 0, by rw [if_pos (decide_eq_true (by omega))]⟩
  have kd : ∀ w : List UInt8, slices_Index_string [([] : List UInt8), ([99, 117, 116] : List UInt8), ([112, 97, 115, 115] : List UInt8), ([112, 97, 121] : List UInt8), ([101, 110, 100] : List UInt8)] w = slices_Index_string K5 w := fun _ => rfl
  by_cases h8 : X.length > 4
  · -- the program refuses; the reference too
    have c9 : decide (((w0 :: w1 :: w2 :: w3 :: X).length : Int) > 8) = true := decide_eq_true (by omega)
    right
    refine ⟨⟨0, 0, 0, 0, 0, 0, by simp only [c1, c9, Bool.false_eq_true, if_false, if_true, Option.bind_some]⟩, ?_⟩
    simp only [c1, r0, r1, r2, r3, m0, m2, m3, Bool.false_eq_true, if_false, Option.bind_some]
    by_cases k1 : w1 = [99, 117, 116]
    · obtain ⟨n, e, m, h, _, z2, z3⟩ := amtR X lX nX
      have hh : h = false := by
        rcases z3 with ⟨_, _, _, _, _, z⟩ | ⟨_, z⟩
        · omega
        · exact z
      subst hh
      rw [if_pos (by simpa using k1)]
      simp only [s4, kX, z2, Option.bind_some, Bool.false_eq_true, if_false]
      cases g0 <;> cases g2 <;> cases g3 <;> exact ⟨_, _, _, _, _, _, rfl⟩
    rw [if_neg (by simpa using k1)]
    by_cases k2 : w1 = [112, 97, 115, 115]
    · rw [if_pos (by simpa using k2), if_pos (by rw [bne_iff_ne]; omega)]
      exact ⟨_, _, _, _, _, _, rfl⟩
    rw [if_neg (by simpa using k2)]
    by_cases k3' : w1 = [112, 97, 121]
    · obtain ⟨n, e, m, h, _, z2, z3⟩ := amtR (w3 :: X) l3 n3'
      have hh : h = false := by
        rcases z3 with ⟨_, _, _, _, _, z⟩ | ⟨_, z⟩
        · simp at z; omega
        · exact z
      subst hh
      rw [if_pos (by simpa using k3')]
      simp only [s3, k3, z2, Option.bind_some, Bool.false_eq_true, if_false]
      cases g0 <;> cases g2 <;> exact ⟨_, _, _, _, _, _, rfl⟩
    rw [if_neg (by simpa using k3')]
    by_cases k4 : w1 = [101, 110, 100]
    · have z : (((w0 :: w1 :: w2 :: w3 :: X).length : Int) == 4) = false := by rw [beq_eq_false_iff_ne]; omega
      rw [if_pos (by simpa using k4), z]
      cases g0 <;> cases g2 <;> cases g3 <;> exact ⟨_, _, _, _, _, _, rfl⟩
    · rw [if_neg (by simpa using k4)]
      exact ⟨_, _, _, _, _, _, rfl⟩
  have c9 : decide (((w0 :: w1 :: w2 :: w3 :: X).length : Int) > 8) = false := decide_eq_false (by omega)
  simp only [c1, c9, r0, r1, r2, r3, n0, m0, m2, m3, s2, kd, Bool.false_eq_true, if_false, Option.bind_some]
  by_cases k1 : w1 = [99, 117, 116]
  · have ix : slices_Index_string K5 w1 = some 1 := by rw [idx5, k1]; rfl
    obtain ⟨n, e, m, h, z1, z2, z3⟩ := amtR X lX nX
    rw [if_pos (show (w1 == ([99, 117, 116] : List UInt8)) = true by simpa using k1), ix]
    simp only [Option.bind_some, e1, s4, kX, z2, d2, q0, q1, n2, n3, t2, jX, z1, validDeal_eq, l07Deal_eq]
    rw [if_pos (by rfl)]
    by_cases ok : (f0 = true ∧ f2 = true ∧ f3 = true ∧ e = 0) ∧ dealB ⟨a0, 1, 0, a2, a3, n⟩ = true
    · obtain ⟨⟨rfl, rfl, rfl, rfl⟩, hb⟩ := ok
      left
      obtain ⟨_, rfl, rfl, p0⟩ : true = true ∧ g0 = true ∧ a0 = b0 ∧ w0 = tx a0 := by rcases R0 with h | h; exact h; cases h.1
      obtain ⟨_, rfl, rfl, p2⟩ : true = true ∧ g2 = true ∧ a2 = b2 ∧ w2 = tx a2 := by rcases R2 with h | h; exact h; cases h.1
      obtain ⟨_, rfl, rfl, p3⟩ : true = true ∧ g3 = true ∧ a3 = b3 ∧ w3 = tx a3 := by rcases R3 with h | h; exact h; cases h.1
      obtain ⟨_, rfl, rfl, pa, pne, _⟩ : (0 : Int) = 0 ∧ h = true ∧ n = m ∧ Lib.join X [32] = amtT n ∧ X ≠ [] ∧ X.length ≤ 3 := by rcases z3 with h | h; exact h; cases h.1
      have tt : dealT ⟨a0, 1, 0, a2, a3, n⟩ = l := by
        rw [← hjo, join_two, join_two, join_two]
        obtain ⟨x, r, rfl⟩ : ∃ x r, X = x :: r := by cases X with | nil => exact absurd rfl pne | cons x r => exact ⟨x, r, rfl⟩
        rw [join_two, pa, k1]
        unfold dealT
        simp [← p0, ← p2, ← p3]
      refine ⟨⟨a0, 1, 0, a2, a3, n⟩, ?_, ?_⟩
      · simp only [if_true, Bool.false_eq_true, if_false, Option.bind_some, hb, dealT_i hb, tt, bne_self_eq_false, beq_self_eq_true]
      · simp only [if_true, hb, Option.bind_some]
    · right
      constructor
      · by_cases u0 : f0 = true
        · by_cases u2 : f2 = true
          · by_cases u3 : f3 = true
            · by_cases ue : e = 0
              · have hb : dealB ⟨a0, 1, 0, a2, a3, n⟩ = false := by
                  cases hb : dealB ⟨a0, 1, 0, a2, a3, n⟩ with
                  | false => rfl
                  | true => exact absurd ⟨⟨u0, u2, u3, ue⟩, hb⟩ ok
                subst u0 u2 u3 ue
                exact ⟨_, _, _, _, _, _, by simp only [if_true, Bool.false_eq_true, if_false, Option.bind_some, hb, bne_self_eq_false]; rfl⟩
              · have un : (e != 0) = true := by rw [bne_iff_ne]; exact ue
                subst u0 u2 u3
                exact ⟨_, _, _, _, _, _, by simp only [if_true, Bool.false_eq_true, if_false, Option.bind_some, un]; rfl⟩
            · have u3' : f3 = false := by simpa using u3
              subst u0 u2 u3'
              exact ⟨_, _, _, _, _, _, by simp only [if_true, Bool.false_eq_true, if_false, Option.bind_some]; rfl⟩
          · have u2' : f2 = false := by simpa using u2
            subst u0 u2'
            exact ⟨_, _, _, _, _, _, by simp only [if_true, Bool.false_eq_true, if_false, Option.bind_some]; rfl⟩
        · have u0' : f0 = false := by simpa using u0
          subst u0'
          exact ⟨_, _, _, _, _, _, by simp only [if_true, Bool.false_eq_true, if_false, Option.bind_some]; rfl⟩
      · have hbs : (g0 = true ∧ g2 = true ∧ g3 = true ∧ h = true) → dealB ⟨b0, 1, 0, b2, b3, m⟩ = false := by
          rintro ⟨v0, v2, v3, vh⟩
          cases hb : dealB ⟨b0, 1, 0, b2, b3, m⟩ with
          | false => rfl
          | true =>
            obtain ⟨x1, x2, x3, x4⟩ := dealB_small hb
            simp only at x1 x2 x3 x4
            exfalso
            rcases R0 with ⟨o0, _, o0', _⟩ | ⟨_, o0⟩
            · rcases R2 with ⟨o2, _, o2', _⟩ | ⟨_, o2⟩
              · rcases R3 with ⟨o3, _, o3', _⟩ | ⟨_, o3⟩
                · rcases z3 with ⟨oe, _, oe', _⟩ | ⟨_, oe⟩
                  · exact ok ⟨⟨o0, o2, o3, oe⟩, by rw [o0', o2', o3', oe']; exact hb⟩
                  · rw [vh] at oe; cases oe
                · have := o3 v3; omega
              · have := o2 v2; omega
            · have := o0 v0; omega
        cases g0 with
        | false => exact ⟨_, _, _, _, _, _, rfl⟩
        | true => cases g2 with
          | false => exact ⟨_, _, _, _, _, _, rfl⟩
          | true => cases g3 with
            | false => exact ⟨_, _, _, _, _, _, rfl⟩
            | true => cases h with
              | false => exact ⟨_, _, _, _, _, _, rfl⟩
              | true => exact ⟨_, _, _, _, _, _, by simp only [if_true, Option.bind_some, hbs ⟨rfl, rfl, rfl, rfl⟩]; rfl⟩
  rw [if_neg (show ¬ (w1 == ([99, 117, 116] : List UInt8)) = true by simpa using k1)]
  by_cases k2 : w1 = [112, 97, 115, 115]
  · have ix : slices_Index_string K5 w1 = some 2 := by rw [idx5, k2]; rfl
    rw [if_pos (show (w1 == ([112, 97, 115, 115] : List UInt8)) = true by simpa using k2), ix]
    simp only [Option.bind_some, e2, q0, q1, n2, n3, validDeal_eq, l07Deal_eq]
    rw [if_neg (by decide), if_pos (by rfl)]
    cases X with
    | nil =>
      right
      constructor
      · cases f0 <;> exact ⟨_, _, _, _, _, _, rfl⟩
      · exact ⟨_, _, _, _, _, _, rfl⟩
    | cons x r =>
      have d3 : decide (((w2 :: w3 :: x :: r).length : Int) < 3) = false := decide_eq_false (by simp only [List.length_cons]; omega)
      have q2 : rd (w2 :: w3 :: x :: r) 2 = some x := rfl
      have r4 : rd (w0 :: w1 :: w2 :: w3 :: x :: r) 4 = some x := rfl
      obtain ⟨a4, f4, b4, g4, n4, m4, R4⟩ := numR x (hsub x (by simp))
      simp only [d3, q2, r4, n4, m4, Option.bind_some, e2]
      rw [if_neg (show ¬ (((2 : Int) == 3) = true) by decide)]
      by_cases ok : (f0 = true ∧ f2 = true ∧ f3 = true ∧ f4 = true) ∧ dealB ⟨a0, 2, a2, a3, a4, 0⟩ = true
      · obtain ⟨⟨rfl, rfl, rfl, rfl⟩, hb⟩ := ok
        obtain ⟨_, rfl, rfl, p0⟩ : true = true ∧ g0 = true ∧ a0 = b0 ∧ w0 = tx a0 := by rcases R0 with h | h; exact h; cases h.1
        obtain ⟨_, rfl, rfl, p2⟩ : true = true ∧ g2 = true ∧ a2 = b2 ∧ w2 = tx a2 := by rcases R2 with h | h; exact h; cases h.1
        obtain ⟨_, rfl, rfl, p3⟩ : true = true ∧ g3 = true ∧ a3 = b3 ∧ w3 = tx a3 := by rcases R3 with h | h; exact h; cases h.1
        obtain ⟨_, rfl, rfl, p4⟩ : true = true ∧ g4 = true ∧ a4 = b4 ∧ x = tx a4 := by rcases R4 with h | h; exact h; cases h.1
        have td : dealT ⟨a0, 2, a2, a3, a4, 0⟩ = w0 ++ 32 :: ([112, 97, 115, 115] ++ 32 :: (w2 ++ 32 :: (w3 ++ 32 :: x))) := by
          unfold dealT
          simp [← p0, ← p2, ← p3, ← p4]
        cases r with
        | nil =>
          left
          have tt : dealT ⟨a0, 2, a2, a3, a4, 0⟩ = l := by
            rw [← hjo, join_two, join_two, join_two, join_two, Lib.join_one, k2, td]
          refine ⟨⟨a0, 2, a2, a3, a4, 0⟩, ?_, ?_⟩
          · simp only [if_true, Bool.false_eq_true, if_false, Option.bind_some, hb, dealT_i hb, tt, beq_self_eq_true]
          · rw [if_neg (by simp)]
            simp only [if_true, hb, Option.bind_some]
        | cons y r =>
          right
          have tt : (dealT ⟨a0, 2, a2, a3, a4, 0⟩ == l) = false := by
            rw [beq_eq_false_iff_ne, td, ← hjo, join_two, join_two, join_two, join_two, join_two, k2]
            intro e
            have e := congrArg List.length e
            simp at e
          constructor
          · exact ⟨_, _, _, _, _, _, by simp only [if_true, Bool.false_eq_true, if_false, Option.bind_some, hb, dealT_i hb, tt]; rfl⟩
          · rw [if_pos (by rw [bne_iff_ne]; simp only [List.length_cons]; omega)]
            exact ⟨_, _, _, _, _, _, rfl⟩
      · right
        constructor
        · by_cases u0 : f0 = true
          · by_cases u2 : f2 = true
            · by_cases u3 : f3 = true
              · by_cases u4 : f4 = true
                · have hb : dealB ⟨a0, 2, a2, a3, a4, 0⟩ = false := by
                    cases hb : dealB ⟨a0, 2, a2, a3, a4, 0⟩ with
                    | false => rfl
                    | true => exact absurd ⟨⟨u0, u2, u3, u4⟩, hb⟩ ok
                  subst u0 u2 u3 u4
                  exact ⟨_, _, _, _, _, _, by simp only [if_true, Bool.false_eq_true, if_false, Option.bind_some, hb]; rfl⟩
                · have u4' : f4 = false := by simpa using u4
                  subst u0 u2 u3 u4'
                  exact ⟨_, _, _, _, _, _, by simp only [if_true, Bool.false_eq_true, if_false, Option.bind_some]; rfl⟩
              · have u3' : f3 = false := by simpa using u3
                subst u0 u2 u3'
                exact ⟨_, _, _, _, _, _, by simp only [if_true, Bool.false_eq_true, if_false, Option.bind_some]; rfl⟩
            · have u2' : f2 = false := by simpa using u2
              subst u0 u2'
              exact ⟨_, _, _, _, _, _, by simp only [if_true, Bool.false_eq_true, if_false, Option.bind_some]; rfl⟩
          · have u0' : f0 = false := by simpa using u0
            subst u0'
            exact ⟨_, _, _, _, _, _, by simp only [if_true, Bool.false_eq_true, if_false, Option.bind_some]; rfl⟩
        · have hbs : (g0 = true ∧ g2 = true ∧ g3 = true ∧ g4 = true) → dealB ⟨b0, 2, b2, b3, b4, 0⟩ = false := by
            rintro ⟨v0, v2, v3, v4⟩
            cases hb : dealB ⟨b0, 2, b2, b3, b4, 0⟩ with
            | false => rfl
            | true =>
              obtain ⟨x1, x2, x3, x4⟩ := dealB_small hb
              simp only at x1 x2 x3 x4
              exfalso
              rcases R0 with ⟨o0, _, o0', _⟩ | ⟨_, o0⟩
              · rcases R2 with ⟨o2, _, o2', _⟩ | ⟨_, o2⟩
                · rcases R3 with ⟨o3, _, o3', _⟩ | ⟨_, o3⟩
                  · rcases R4 with ⟨o4, _, o4', _⟩ | ⟨_, o4⟩
                    · exact ok ⟨⟨o0, o2, o3, o4⟩, by rw [o0', o2', o3', o4']; exact hb⟩
                    · have := o4 v4; omega
                  · have := o3 v3; omega
                · have := o2 v2; omega
              · have := o0 v0; omega
          split
          · exact ⟨_, _, _, _, _, _, rfl⟩
          · cases g0 with
            | false => exact ⟨_, _, _, _, _, _, rfl⟩
            | true => cases g2 with
              | false => exact ⟨_, _, _, _, _, _, rfl⟩
              | true => cases g3 with
                | false => exact ⟨_, _, _, _, _, _, rfl⟩
                | true => cases g4 with
                  | false => exact ⟨_, _, _, _, _, _, rfl⟩
                  | true => exact ⟨_, _, _, _, _, _, by simp only [if_true, Option.bind_some, hbs ⟨rfl, rfl, rfl, rfl⟩]; rfl⟩
  rw [if_neg (show ¬ (w1 == ([112, 97, 115, 115] : List UInt8)) = true by simpa using k2)]
  by_cases k3' : w1 = [112, 97, 121]
  · have ix : slices_Index_string K5 w1 = some 3 := by rw [idx5, k3']; rfl
    obtain ⟨n, e, m, h, z1, z2, z3⟩ := amtR (w3 :: X) l3 n3'
    rw [if_pos (show (w1 == ([112, 97, 121] : List UInt8)) = true by simpa using k3'), ix]
    simp only [Option.bind_some, e3, s3, k3, z2, d1, q0, n2, t1, j3, z1, validDeal_eq, l07Deal_eq]
    rw [if_neg (by decide), if_neg (by decide), if_pos (by rfl)]
    by_cases ok : (f0 = true ∧ f2 = true ∧ e = 0) ∧ dealB ⟨a0, 3, a2, 0, 0, n⟩ = true
    · obtain ⟨⟨rfl, rfl, rfl⟩, hb⟩ := ok
      left
      obtain ⟨_, rfl, rfl, p0⟩ : true = true ∧ g0 = true ∧ a0 = b0 ∧ w0 = tx a0 := by rcases R0 with h | h; exact h; cases h.1
      obtain ⟨_, rfl, rfl, p2⟩ : true = true ∧ g2 = true ∧ a2 = b2 ∧ w2 = tx a2 := by rcases R2 with h | h; exact h; cases h.1
      obtain ⟨_, rfl, rfl, pa, pne, _⟩ : (0 : Int) = 0 ∧ h = true ∧ n = m ∧ Lib.join (w3 :: X) [32] = amtT n ∧ w3 :: X ≠ [] ∧ (w3 :: X).length ≤ 3 := by rcases z3 with h | h; exact h; cases h.1
      have tt : dealT ⟨a0, 3, a2, 0, 0, n⟩ = l := by
        rw [← hjo, join_two, join_two, join_two, pa, k3']
        unfold dealT
        simp [← p0, ← p2]
      refine ⟨⟨a0, 3, a2, 0, 0, n⟩, ?_, ?_⟩
      · simp only [if_true, Bool.false_eq_true, if_false, Option.bind_some, hb, dealT_i hb, tt, bne_self_eq_false, beq_self_eq_true]
      · simp only [if_true, hb, Option.bind_some]
    · right
      constructor
      · by_cases u0 : f0 = true
        · by_cases u2 : f2 = true
          · by_cases ue : e = 0
            · have hb : dealB ⟨a0, 3, a2, 0, 0, n⟩ = false := by
                cases hb : dealB ⟨a0, 3, a2, 0, 0, n⟩ with
                | false => rfl
                | true => exact absurd ⟨⟨u0, u2, ue⟩, hb⟩ ok
              subst u0 u2 ue
              exact ⟨_, _, _, _, _, _, by simp only [if_true, Bool.false_eq_true, if_false, Option.bind_some, hb, bne_self_eq_false]; rfl⟩
            · have un : (e != 0) = true := by rw [bne_iff_ne]; exact ue
              subst u0 u2
              exact ⟨_, _, _, _, _, _, by simp only [if_true, Bool.false_eq_true, if_false, Option.bind_some, un]; rfl⟩
          · have u2' : f2 = false := by simpa using u2
            subst u0 u2'
            exact ⟨_, _, _, _, _, _, by simp only [if_true, Bool.false_eq_true, if_false, Option.bind_some]; rfl⟩
        · have u0' : f0 = false := by simpa using u0
          subst u0'
          exact ⟨_, _, _, _, _, _, by simp only [if_true, Bool.false_eq_true, if_false, Option.bind_some]; rfl⟩
      · have hbs : (g0 = true ∧ g2 = true ∧ h = true) → dealB ⟨b0, 3, b2, 0, 0, m⟩ = false := by
          rintro ⟨v0, v2, vh⟩
          cases hb : dealB ⟨b0, 3, b2, 0, 0, m⟩ with
          | false => rfl
          | true =>
            obtain ⟨x1, x2, x3, x4⟩ := dealB_small hb
            simp only at x1 x2 x3 x4
            exfalso
            rcases R0 with ⟨o0, _, o0', _⟩ | ⟨_, o0⟩
            · rcases R2 with ⟨o2, _, o2', _⟩ | ⟨_, o2⟩
              · rcases z3 with ⟨oe, _, oe', _⟩ | ⟨_, oe⟩
                · exact ok ⟨⟨o0, o2, oe⟩, by rw [o0', o2', oe']; exact hb⟩
                · rw [vh] at oe; cases oe
              · have := o2 v2; omega
            · have := o0 v0; omega
        cases g0 with
        | false => exact ⟨_, _, _, _, _, _, rfl⟩
        | true => cases g2 with
          | false => exact ⟨_, _, _, _, _, _, rfl⟩
          | true => cases h with
            | false => exact ⟨_, _, _, _, _, _, rfl⟩
            | true => exact ⟨_, _, _, _, _, _, by simp only [if_true, Option.bind_some, hbs ⟨rfl, rfl, rfl⟩]; rfl⟩
  rw [if_neg (show ¬ (w1 == ([112, 97, 121] : List UInt8)) = true by simpa using k3')]
  by_cases k4 : w1 = [101, 110, 100]
  · have ix : slices_Index_string K5 w1 = some 4 := by rw [idx5, k4]; rfl
    rw [if_pos (show (w1 == ([101, 110, 100] : List UInt8)) = true by simpa using k4), ix]
    simp only [Option.bind_some, e4, d2, q0, q1, n2, n3, validDeal_eq, l07Deal_eq]
    rw [if_neg (by decide), if_neg (by decide), if_neg (by decide), if_pos (by rfl)]
    by_cases ok : (f0 = true ∧ f2 = true ∧ f3 = true) ∧ dealB ⟨a0, 4, a2, a3, 0, 0⟩ = true
    · obtain ⟨⟨rfl, rfl, rfl⟩, hb⟩ := ok
      obtain ⟨_, rfl, rfl, p0⟩ : true = true ∧ g0 = true ∧ a0 = b0 ∧ w0 = tx a0 := by rcases R0 with h | h; exact h; cases h.1
      obtain ⟨_, rfl, rfl, p2⟩ : true = true ∧ g2 = true ∧ a2 = b2 ∧ w2 = tx a2 := by rcases R2 with h | h; exact h; cases h.1
      obtain ⟨_, rfl, rfl, p3⟩ : true = true ∧ g3 = true ∧ a3 = b3 ∧ w3 = tx a3 := by rcases R3 with h | h; exact h; cases h.1
      have td : dealT ⟨a0, 4, a2, a3, 0, 0⟩ = w0 ++ 32 :: ([101, 110, 100] ++ 32 :: (w2 ++ 32 :: w3)) := by
        unfold dealT
        simp [← p0, ← p2, ← p3]
      cases X with
      | nil =>
        left
        have tt : dealT ⟨a0, 4, a2, a3, 0, 0⟩ = l := by
          rw [← hjo, join_two, join_two, join_two, Lib.join_one, k4, td]
        have z : (((w0 :: w1 :: w2 :: w3 :: ([] : List (List UInt8))).length : Int) == 4) = true := rfl
        refine ⟨⟨a0, 4, a2, a3, 0, 0⟩, ?_, ?_⟩
        · simp only [if_true, Bool.false_eq_true, if_false, Option.bind_some, hb, dealT_i hb, tt, beq_self_eq_true]
        · simp only [if_true, hb, Option.bind_some, z]
      | cons x r =>
        right
        have tt : (dealT ⟨a0, 4, a2, a3, 0, 0⟩ == l) = false := by
          rw [beq_eq_false_iff_ne, td, ← hjo, join_two, join_two, join_two, join_two, k4]
          intro e
          have e := congrArg List.length e
          simp at e
        have z : (((w0 :: w1 :: w2 :: w3 :: x :: r).length : Int) == 4) = false := by rw [beq_eq_false_iff_ne]; simp only [List.length_cons]; omega
        constructor
        · exact ⟨_, _, _, _, _, _, by simp only [if_true, Bool.false_eq_true, if_false, Option.bind_some, hb, dealT_i hb, tt]; rfl⟩
        · exact ⟨_, _, _, _, _, _, by simp only [if_true, z, Bool.false_eq_true, if_false]; rfl⟩
    · right
      constructor
      · by_cases u0 : f0 = true
        · by_cases u2 : f2 = true
          · by_cases u3 : f3 = true
            · have hb : dealB ⟨a0, 4, a2, a3, 0, 0⟩ = false := by
                cases hb : dealB ⟨a0, 4, a2, a3, 0, 0⟩ with
                | false => rfl
                | true => exact absurd ⟨⟨u0, u2, u3⟩, hb⟩ ok
              subst u0 u2 u3
              exact ⟨_, _, _, _, _, _, by simp only [if_true, Bool.false_eq_true, if_false, Option.bind_some, hb]; rfl⟩
            · have u3' : f3 = false := by simpa using u3
              subst u0 u2 u3'
              exact ⟨_, _, _, _, _, _, by simp only [if_true, Bool.false_eq_true, if_false, Option.bind_some]; rfl⟩
          · have u2' : f2 = false := by simpa using u2
            subst u0 u2'
            exact ⟨_, _, _, _, _, _, by simp only [if_true, Bool.false_eq_true, if_false, Option.bind_some]; rfl⟩
        · have u0' : f0 = false := by simpa using u0
          subst u0'
          exact ⟨_, _, _, _, _, _, by simp only [if_true, Bool.false_eq_true, if_false, Option.bind_some]; rfl⟩
      · have hbs : (g0 = true ∧ g2 = true ∧ g3 = true) → dealB ⟨b0, 4, b2, b3, 0, 0⟩ = false := by
          rintro ⟨v0, v2, v3⟩
          cases hb : dealB ⟨b0, 4, b2, b3, 0, 0⟩ with
          | false => rfl
          | true =>
            obtain ⟨x1, x2, x3, x4⟩ := dealB_small hb
            simp only at x1 x2 x3 x4
            exfalso
            rcases R0 with ⟨o0, _, o0', _⟩ | ⟨_, o0⟩
            · rcases R2 with ⟨o2, _, o2', _⟩ | ⟨_, o2⟩
              · rcases R3 with ⟨o3, _, o3', _⟩ | ⟨_, o3⟩
                · exact ok ⟨⟨o0, o2, o3⟩, by rw [o0', o2', o3']; exact hb⟩
                · have := o3 v3; omega
              · have := o2 v2; omega
            · have := o0 v0; omega
        cases g0 with
        | false => exact ⟨_, _, _, _, _, _, rfl⟩
        | true => cases g2 with
          | false => exact ⟨_, _, _, _, _, _, rfl⟩
          | true => cases g3 with
            | false => exact ⟨_, _, _, _, _, _, rfl⟩
            | true =>
              simp only [if_true]
              split
              · exact ⟨_, _, _, _, _, _, by simp only [Option.bind_some, hbs ⟨rfl, rfl, rfl⟩]; rfl⟩
              · exact ⟨_, _, _, _, _, _, rfl⟩
  · right
    obtain ⟨r, ix, hr⟩ := idx5_miss k1 k2 k3' k4
    rw [if_neg (show ¬ (w1 == ([101, 110, 100] : List UInt8)) = true by simpa using k4), ix]
    constructor
    · rcases hr with rfl | rfl
      · simp only [Option.bind_some]
        rw [if_neg (by decide), if_neg (by decide), if_neg (by decide), if_neg (by decide)]
        cases f0 <;> exact ⟨_, _, _, _, _, _, rfl⟩
      · simp only [Option.bind_some]
        rw [if_neg (by decide), if_neg (by decide), if_neg (by decide), if_neg (by decide)]
        cases f0 <;> exact ⟨_, _, _, _, _, _, rfl⟩
    · exact ⟨_, _, _, _, _, _, rfl⟩
end Go.Proofs.YtbhbmgmnnkcmcaaDoor
/- Lists of deals read. -/
namespace Go.Proofs.YtbhbmgmnnkcmcaaDoor
open Go Go.Ab
theorem deals_i (L : List (List UInt8)) (hn : L.length ≤ 1048577) (hx : ∀ l ∈ L, l.length ≤ 1048576) :
    ∃ r, Lw (impl_ReadDeals_b2 L) (0, []) = some r ∧ ((r = .inl () ∧ ∃ (q : Nat) (h : q < L.length), SF L[q]) ∨ ∃ ds : List Deal, r = .inr ds ∧ ds.length = L.length ∧ ∀ q (h : q < L.length) (h2 : q < ds.length), spec_l07Read L[q] = some (ds[q].Day, ds[q].Kind, ds[q].Tally, ds[q].From, ds[q].To, ds[q].Amount, true)) := by
  refine Lw_meas (tb := impl_ReadDeals_b2 L) (fun s => L.length - s.1.toNat) (fun s => ∃ (i : Nat) (ds : List Deal), s = ((i : Int), ds) ∧ i ≤ L.length ∧ ds.length = i ∧ ∀ q (h : q < L.length) (h2 : q < ds.length), spec_l07Read L[q] = some (ds[q].Day, ds[q].Kind, ds[q].Tally, ds[q].From, ds[q].To, ds[q].Amount, true)) _ ?_ _ _ rfl ⟨0, [], rfl, by omega, rfl, fun q _ h2 => by simp at h2⟩
  rintro s ⟨i, ds, rfl, hi, hl, hg⟩
  by_cases hlt : i < L.length
  · have c0 : decide ((i : Int) < (L.length : Int)) = true := decide_eq_true (by omega)
    have hr : rd L (i : Int) = some L[i] := by rw [rd_coe, List.getElem?_eq_getElem hlt]
    have w := w64s hlt (by omega)
    rcases line_deal L[i] (hx _ (List.getElem_mem hlt)) with ⟨d, e1, e2⟩ | ⟨⟨a, b, c, e, f, k, e1⟩, e2⟩
    · have ap : app 48 ds [d] = some (ds ++ [d]) := app_some (by simp; omega) (by decide)
      have eD : (⟨d.Day, d.Kind, d.Tally, d.From, d.To, d.Amount⟩ : Deal) = d := rfl
      refine .inl ⟨(((i + 1 : Nat) : Int), ds ++ [d]), by simp only [impl_ReadDeals_b2, c0, hr, e1, eD, ap, w, Option.bind_some, if_true], ⟨i + 1, ds ++ [d], rfl, hlt, by simp [hl], fun q h h2 => ?_⟩, by simp; omega⟩
      by_cases e3 : q < i
      · rw [List.getElem_append_left (by omega)]
        exact hg q h (by omega)
      · have e4 : q = i := by simp at h2; omega
        subst e4
        rw [List.getElem_append_right (by omega)]
        simp only [hl, Nat.sub_self, List.getElem_cons_zero]
        exact e2
    · exact .inr ⟨.inl (), by simp only [impl_ReadDeals_b2, c0, hr, e1, Option.bind_some, if_true, Bool.false_eq_true, if_false], .inl ⟨rfl, i, hlt, e2⟩⟩
  · have : i = L.length := by omega
    subst this
    have c0 : decide ((L.length : Int) < (L.length : Int)) = false := decide_eq_false (by omega)
    exact .inr ⟨.inr ds, by simp only [impl_ReadDeals_b2, c0, Bool.false_eq_true, if_false], .inr ⟨ds, rfl, hl, hg⟩⟩
theorem deals_s (L : List (List UInt8)) (last : List UInt8) (hn : L.length ≤ 1048577) (hx : ∀ l ∈ L, l.length ≤ 1048576) :
    ∃ r, Lw (spec_ReadDeals_b1 (L ++ [last])) (true, 0, []) = some r ∧ ((r.1 = false ∧ ∃ (q : Nat) (h : q < L.length), SF L[q]) ∨ ∃ ds : List Deal, r = (true, ds) ∧ ds.length = L.length ∧ ∀ q (h : q < L.length) (h2 : q < ds.length), spec_l07Read L[q] = some (ds[q].Day, ds[q].Kind, ds[q].Tally, ds[q].From, ds[q].To, ds[q].Amount, true)) := by
  refine Lw_meas (tb := spec_ReadDeals_b1 (L ++ [last])) (fun s => L.length + 1 - s.2.1.toNat + (if s.1 then 1 else 0)) (fun s => (∃ (i : Nat) (ds : List Deal), s = (true, (i : Int), ds) ∧ i ≤ L.length ∧ ds.length = i ∧ ∀ q (h : q < L.length) (h2 : q < ds.length), spec_l07Read L[q] = some (ds[q].Day, ds[q].Kind, ds[q].Tally, ds[q].From, ds[q].To, ds[q].Amount, true)) ∨
      (∃ (i : Nat) (ds : List Deal), s = (false, (i : Int), ds) ∧ i ≤ L.length ∧ ∃ (q : Nat) (h : q < L.length), SF L[q])) _ ?_ _ _ rfl (.inl ⟨0, [], rfl, by omega, rfl, fun q _ h2 => by simp at h2⟩)
  rintro s (⟨i, ds, rfl, hi, hl, hg⟩ | ⟨i, ds, rfl, hi, hq⟩)
  · have w := w64s (i := i) (n := L.length + 1) (by omega) (by omega)
    by_cases hlt : i < L.length
    · have c0 : decide (((i + 1 : Nat) : Int) < ((L ++ [last]).length : Int)) = true := decide_eq_true (by simp only [List.length_append, List.length_singleton]; omega)
      have hr : rd (L ++ [last]) (i : Int) = some L[i] := by rw [rd_coe, List.getElem?_append_left hlt, List.getElem?_eq_getElem hlt]
      have step : ∀ a b c e f k g, spec_l07Read L[i] = some (a, b, c, e, f, k, g) → spec_ReadDeals_b1 (L ++ [last]) (true, (i : Int), ds) = some (.inl (g, ((i + 1 : Nat) : Int), ds ++ [⟨a, b, c, e, f, k⟩])) := by
        intro a b c e f k g h
        have ap : app 48 ds [(⟨a, b, c, e, f, k⟩ : Deal)] = some (ds ++ [⟨a, b, c, e, f, k⟩]) := app_some (by simp; omega) (by decide)
        simp only [spec_ReadDeals_b1, w, c0, hr, h, ap, Option.bind_some, if_true]
      rcases line_deal L[i] (hx _ (List.getElem_mem hlt)) with ⟨d, e1, e2⟩ | ⟨_, a, b, c, e, f, k, e2⟩
      · have eD : (⟨d.Day, d.Kind, d.Tally, d.From, d.To, d.Amount⟩ : Deal) = d := rfl
        refine .inl ⟨_, step _ _ _ _ _ _ _ e2, .inl ⟨i + 1, _, rfl, hlt, by simp [hl], fun q h h2 => ?_⟩, by simp; omega⟩
        by_cases e3 : q < i
        · rw [List.getElem_append_left (by omega)]
          exact hg q h (by omega)
        · have e4 : q = i := by simp at h2; omega
          subst e4
          rw [List.getElem_append_right (by omega)]
          simp only [hl, Nat.sub_self, List.getElem_cons_zero]
          exact e2
      · exact .inl ⟨_, step _ _ _ _ _ _ _ e2, .inr ⟨i + 1, _, rfl, hlt, i, hlt, a, b, c, e, f, k, e2⟩, by simp; omega⟩
    · have : i = L.length := by omega
      subst this
      have c0 : decide (((L.length + 1 : Nat) : Int) < ((L ++ [last]).length : Int)) = false := decide_eq_false (by simp only [List.length_append, List.length_singleton]; omega)
      exact .inr ⟨(true, ds), by simp only [spec_ReadDeals_b1, w, c0, Option.bind_some, Bool.false_eq_true, if_false], .inr ⟨ds, rfl, hl, hg⟩⟩
  · refine .inr ⟨(false, ds), ?_, .inl ⟨rfl, hq⟩⟩
    simp only [spec_ReadDeals_b1]
    split <;> simp
theorem readDeals_same (s : List UInt8) (h : s.length ≤ 1048576) : (impl_ReadDeals s = some (.inr ()) ∧ spec_ReadDeals s = some ([], 5)) ∨ ∃ ds, impl_ReadDeals s = some (.inl ds) ∧ spec_ReadDeals s = some (ds, 0) ∧ ds.length ≤ 80 := by
  have si : strings_Split s [10] = some (pcs 10 s) := split_i (s := s) 10 h
  have ss : spec_l01Split s 10 = some (pcs 10 s) := split_s (s := s) 10 h
  have pn := pcs_len (c := 10) s
  have hne := pcs_ne 10 s
  have hsub : ∀ l ∈ pcs 10 s, l.length ≤ 1048576 := fun l hl => by have := pcs_sub hl; omega
  obtain ⟨L, last, hP⟩ : ∃ L last, pcs 10 s = L ++ [last] := ⟨_, _, (List.dropLast_concat_getLast hne).symm⟩
  rw [hP] at si ss pn hsub
  have hL : L.length ≤ 1048577 := by simp at pn; omega
  have hx : ∀ l ∈ L, l.length ≤ 1048576 := fun l hl => hsub l (by simp [hl])
  have w : IntKind.i64.wrap (((L ++ [last]).length : Int) - 1) = ((L.length : Nat) : Int) := by
    simp only [List.length_append, List.length_singleton]
    rw [w64 (by omega)]; omega
  have rl : rd (L ++ [last]) ((L.length : Nat) : Int) = some last := by rw [rd_coe]; simp
  have sl : slc (L ++ [last]) 0 ((L.length : Nat) : Int) = some L := by
    have := slc_some (xs := L ++ [last]) (a := 0) (b := L.length) (by omega) (by simp)
    rw [show (0 : Int) = ((0 : Nat) : Int) from rfl, this]; simp
  obtain ⟨r1, f1, f2⟩ := deals_i L hL hx
  obtain ⟨r2, f3, f4⟩ := deals_s L last hL hx
  have bad : ∀ ds, Lw (spec_ReadDeals_b1 (L ++ [last])) (false, 0, ds) = some (false, ds) := fun ds => Lw_stop (by
    simp only [spec_ReadDeals_b1]
    split <;> simp)
  by_cases hs : s = []
  · subst hs
    have hP' : L = [] ∧ last = [] := by
      have : pcs 10 [] = [[]] := rfl
      rw [this] at hP
      cases L with
      | nil => simp at hP; exact ⟨rfl, hP⟩
      | cons a b => simp at hP
    obtain ⟨rfl, rfl⟩ := hP'
    right
    refine ⟨[], ?_, ?_, by simp⟩
    · unfold impl_ReadDeals impl_linesOf
      have b1 : Lw impl_ReadDeals_b1 0 = some () := Lw_stop (by simp [impl_ReadDeals_b1])
      rw [if_pos (by rfl), Option.bind_some]
      dsimp only
      rw [b1]; rfl
    · unfold spec_ReadDeals
      rw [ss, Option.bind_some, w, rl]
      have l0 : Lw (spec_ReadDeals_b1 ([] ++ [[]])) (true, 0, []) = some (true, []) := Lw_stop (by simp [spec_ReadDeals_b1]; decide)
      have l1 : Lw (spec_ReadDeals_b1 ([] ++ [[]])) (decide (((List.length ([] : List (List UInt8)) : Nat) : Int) ≤ 80), 0, []) = some (true, []) := l0
      simp only [Option.bind_some]
      rw [if_pos (by rfl), Option.bind_some, l1, Option.bind_some]
      rfl
  have li : impl_linesOf s = some (.inr (L, last == ([] : List UInt8))) := by
    unfold impl_linesOf
    rw [if_neg (by simpa using hs), si, Option.bind_some, w, sl, Option.bind_some, rl, Option.bind_some]
  unfold impl_ReadDeals spec_ReadDeals
  rw [li, ss, Option.bind_some, Option.bind_some, w, rl]
  dsimp only
  simp only [Option.bind_some]
  cases hE : last == ([] : List UInt8) with
  | false =>
    left
    constructor
    · simp only [Bool.false_eq_true, if_false]
    · simp only [Bool.false_eq_true, if_false, Option.bind_some, bad]
  | true =>
    by_cases h80 : (L.length : Int) > 80
    · have c1 : decide ((L.length : Int) > 80) = true := decide_eq_true h80
      have c2 : decide ((L.length : Int) ≤ 80) = false := decide_eq_false (by omega)
      left
      constructor
      · simp only [c1, if_true]
      · simp only [c2, if_true, Option.bind_some, bad, Bool.false_eq_true, if_false]
    · have c1 : decide ((L.length : Int) > 80) = false := decide_eq_false h80
      have c2 : decide ((L.length : Int) ≤ 80) = true := decide_eq_true (by omega)
      simp only [c1, c2, if_true, Bool.false_eq_true, if_false, Option.bind_some, f1, f3]
      rcases f2 with ⟨rfl, q, hq, a, b, c, e, f, k, hb⟩ | ⟨ds, rfl, n1, n2⟩
      · left
        have hr : r2.1 = false := by
          rcases f4 with ⟨z, _⟩ | ⟨ds, rfl, m1, m2⟩
          · exact z
          · have := m2 q hq (by omega)
            rw [hb] at this
            have := congrArg (·.2.2.2.2.2.2) (Option.some.inj this)
            simp at this
        obtain ⟨x, y⟩ := r2
        simp only at hr
        subst hr
        exact ⟨rfl, rfl⟩
      · right
        rcases f4 with ⟨_, q, hq, a, b, c, e, f, k, hb⟩ | ⟨ds2, rfl, m1, m2⟩
        · have := n2 q hq (by omega)
          rw [hb] at this
          have := congrArg (·.2.2.2.2.2.2) (Option.some.inj this)
          simp at this
        · have e : ds2 = ds := List.ext_getElem (by omega) fun q h h' => by
            have g1 := m2 q (by omega) h
            have g2 := n2 q (by omega) h'
            rw [g1] at g2
            have g3 := Option.some.inj g2
            have k1 := congrArg (·.1) g3
            have k2 := congrArg (·.2.1) g3
            have k3 := congrArg (·.2.2.1) g3
            have k4 := congrArg (·.2.2.2.1) g3
            have k5 := congrArg (·.2.2.2.2.1) g3
            have k6 := congrArg (·.2.2.2.2.2.1) g3
            simp only at k1 k2 k3 k4 k5 k6
            generalize ds2[q] = x at *
            generalize ds[q] = y at *
            cases x; cases y
            simp_all
          subst e
          exact ⟨ds2, rfl, rfl, by omega⟩
end Go.Proofs.YtbhbmgmnnkcmcaaDoor

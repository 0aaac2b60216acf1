/- Plain lemmas. -/
import Derived.Test.YtkkmbehooldmjaaDoorOkDealsText
set_option linter.unusedVariables false
set_option linter.unusedSimpArgs false
/- Numbers within bounds. -/
namespace Go.Proofs.YtkkmbehooldmjaaDoor
open Go Go.Ab
def inB (n lo hi : Int) : Bool := decide (lo ≤ n) && decide (n ≤ hi)
theorem inB_iff {n lo hi : Int} : inB n lo hi = true ↔ lo ≤ n ∧ n ≤ hi := by simp [inB]
theorem inB_not {n lo hi : Int} : inB n lo hi = false ↔ n < lo ∨ hi < n := by rw [← Bool.not_eq_true, inB_iff]; omega
theorem l00In_eq (n lo hi : Int) : spec_l00In n lo hi = some (inB n lo hi) := by
  unfold spec_l00In inB; by_cases h : lo ≤ n <;> simp [h]
theorem some_ite {α : Type} (c : Bool) (a b : α) : (if c = true then some a else some b) = some (if c = true then a else b) := by cases c <;> rfl
theorem ite_false_b (c b : Bool) : (if c = true then b else false) = (c && b) := by cases c <;> simp
theorem ite_true_b (c b : Bool) : (if c = true then true else b) = (c || b) := by cases c <;> simp
end Go.Proofs.YtkkmbehooldmjaaDoor
/- Days. -/
namespace Go.Proofs.YtkkmbehooldmjaaDoor
open Go Go.Ab
theorem l07Day_eq (n : Int) : spec_l07Day n = some (inB n 0 100000) := by
  unfold spec_l07Day; simp only [l00In_eq, Option.bind_some]
theorem isBookDay_eq (n : Int) : impl_isBookDay n = some (inB n 0 100000) := by
  unfold impl_isBookDay inB; by_cases h : 0 ≤ n <;> simp [h]
end Go.Proofs.YtkkmbehooldmjaaDoor
/- Amounts. -/
namespace Go.Proofs.YtkkmbehooldmjaaDoor
open Go Go.Ab
theorem isAmount_eq (n : Int) : impl_isAmount n = some (inB n 0 100000000) := by
  unfold impl_isAmount inB; by_cases h : 0 ≤ n <;> simp [h]
end Go.Proofs.YtkkmbehooldmjaaDoor
/- Valid deals. -/
namespace Go.Proofs.YtkkmbehooldmjaaDoor
open Go Go.Ab
def dealB (d : Deal) : Bool :=
  inB d.Day 0 100000 &&
  ((d.Kind == 1 && d.Tally == 0 && inB d.From 0 15 && inB d.To 0 15 && inB d.Amount 1 100000000) ||
   (d.Kind == 2 && inB d.Tally 0 39 && inB d.From 0 15 && inB d.To 0 15 && d.Amount == 0) ||
   (d.Kind == 3 && inB d.Tally 0 39 && d.From == 0 && d.To == 0 && inB d.Amount 1 100000000) ||
   (d.Kind == 4 && inB d.Tally 0 39 && inB d.From 0 15 && d.To == 0 && d.Amount == 0))
theorem l07Deal_eq (d : Deal) : spec_l07Deal d = some (dealB d) := by
  unfold spec_l07Deal dealB
  simp only [l00In_eq, l07Day_eq, Option.bind_some, some_ite, ite_false_b]
  cases inB d.Day 0 100000 with
  | false => simp
  | true =>
    by_cases h1 : d.Kind = 1
    · simp [h1, Bool.and_assoc]
    by_cases h2 : d.Kind = 2
    · simp [h2, Bool.and_assoc]
    by_cases h3 : d.Kind = 3
    · simp [h3, Bool.and_assoc]
    by_cases h4 : d.Kind = 4
    · simp [h4, Bool.and_assoc]
    have e1 : (d.Kind == 1) = false := by simpa using h1
    have e2 : (d.Kind == 2) = false := by simpa using h2
    have e3 : (d.Kind == 3) = false := by simpa using h3
    have e4 : (d.Kind == 4) = false := by simpa using h4
    simp [e1, e2, e3, e4]
theorem in_eq (u : Bool) (n lo hi : Int) : impl_ValidDeal_1 u n lo hi = some (if u = true then inB n lo hi else n == 0) := by
  unfold impl_ValidDeal_1 inB; cases u <;> by_cases h : lo ≤ n <;> by_cases h' : n ≤ hi <;> simp [h, h']
theorem validDeal_eq (d : Deal) : impl_ValidDeal d = some (dealB d) := by
  unfold impl_ValidDeal dealB impl_uses
  simp only [isBookDay_eq, in_eq, Option.bind_some, some_ite, ite_false_b]
  cases inB d.Day 0 100000 with
  | false => simp
  | true =>
    by_cases h1 : d.Kind = 1
    · simp [h1, Bool.and_assoc]
    by_cases h2 : d.Kind = 2
    · simp [h2, Bool.and_assoc]
    by_cases h3 : d.Kind = 3
    · simp [h3, Bool.and_assoc]
    by_cases h4 : d.Kind = 4
    · simp [h4, Bool.and_assoc]
    have e1 : (d.Kind == 1) = false := by simpa using h1
    have e2 : (d.Kind == 2) = false := by simpa using h2
    have e3 : (d.Kind == 3) = false := by simpa using h3
    have e4 : (d.Kind == 4) = false := by simpa using h4
    have : d.Kind < 1 ∨ d.Kind > 4 := by omega
    rcases this with h | h <;> simp [e1, e2, e3, e4, h]
end Go.Proofs.YtkkmbehooldmjaaDoor
/- Lists of deals: equal, copied, marked, valid, in order. -/
namespace Go.Proofs.YtkkmbehooldmjaaDoor
open Go Go.Ab
theorem deal_eq {x y : Deal} : x = y ↔ x.Day = y.Day ∧ x.Kind = y.Kind ∧ x.Tally = y.Tally ∧ x.From = y.From ∧ x.To = y.To ∧ x.Amount = y.Amount := by
  cases x; cases y; simp
theorem toDeal_eq (d : Deal) : laws_toDeal d = some (d.Day, d.Kind, d.Tally, d.From, d.To, d.Amount) := rfl
theorem eqDeal_eq (x y : Deal) : laws_eqDeal x y = some (decide (x = y)) := by
  unfold laws_eqDeal
  simp only [deal_eq, bne_iff_ne, ne_eq, ite_not]
  repeat' split
  all_goals simp_all
theorem toDealS_eq (a : List Deal) (h : a.length * 48 ≤ 140737488351232) : laws_toDealS a = some a := by
  unfold laws_toDealS
  have key := copy_loop (tb := laws_toDealS_b1 a) a (List.replicate a.length ⟨0, 0, 0, 0, 0, 0⟩) (by omega) (by simp)
    (by intro i zs hi hz; simp [laws_toDealS_b1, laws_toDeal, rd_coe, hi, hz]) (by intro zs hz; simp [laws_toDealS_b1])
  rw [mkS_some h (by omega), Option.bind_some, key, Option.bind_some]
theorem eqDealS_eq (a b : List Deal) (h : a.length ≤ 4611686018427387904) : laws_eqDealS a b = some (decide (a = b)) := by
  unfold laws_eqDealS
  by_cases hl : a.length = b.length
  · have key := scan_all (tb := laws_eqDealS_b1 a b) a.length h (fun i => decide (a[i]? = b[i]?)) () ()
      (by
        intro i hi
        have hi2 : i < b.length := by omega
        simp only [laws_eqDealS_b1, rd_coe, List.getElem?_eq_getElem hi, List.getElem?_eq_getElem hi2, Option.bind_some, eqDeal_eq]
        by_cases he : a[i] = b[i] <;> simp [he, hi])
      (by simp [laws_eqDealS_b1])
    rw [if_neg (by simp [hl]), key, all_eq hl]
    by_cases he : a = b <;> simp [he]
  · rw [if_pos (by simp; omega)]
    have : a ≠ b := fun h => hl (by rw [h])
    simp [this]
theorem szDealS_some (xs : List Deal) (n : Int) : ∃ r, laws_szDealS xs n = some r := by
  unfold laws_szDealS; split <;> exact ⟨_, rfl⟩
theorem szDealS_bound (xs : List Deal) (n r : Int) (h : laws_szDealS xs n = some r) (h0 : ¬ r < 0) (hn : n ≤ 1048576) (hx : xs.length ≤ 140737488351232) (hm : -9223372036854775808 + 140737488351232 ≤ n) : (xs.length : Int) ≤ n ∧ r = n - xs.length := by
  unfold laws_szDealS at h
  rw [w64 (by omega)] at h
  split at h
  · cases h; omega
  · cases h; omega
/-! marks -/
def mDeal (k : Int) : Deal := ⟨k, IntKind.i8.wrap (k + 1), k + 1 + 1, k + 1 + 1 + 1, k + 1 + 1 + 1 + 1, k + 1 + 1 + 1 + 1 + 1⟩
/-! valid ones -/
theorem areDeals_eq (xs : List Deal) (hn : xs.length ≤ 4611686018427387904) : impl_areDeals xs = some (xs.all dealB) := by
  unfold impl_areDeals
  have key := scan_all (tb := impl_areDeals_b1 xs) xs.length hn (fun i => (xs[i]?).all dealB) () ()
    (by
      intro i hi
      simp only [impl_areDeals_b1, rd_coe, List.getElem?_eq_getElem hi, Option.bind_some, validDeal_eq, Option.all_some]
      rw [if_pos (by simpa using hi)]
      cases dealB xs[i] <;> simp)
    (by simp [impl_areDeals_b1])
  rw [key, all_get]
  cases xs.all dealB <;> simp
theorem l07Deals_eq (xs : List Deal) (hn : xs.length ≤ 4611686018427387904) : spec_l07Deals xs = some (xs.all dealB) := by
  unfold spec_l07Deals
  have key := scan_all (tb := spec_l07Deals_b1 xs) xs.length hn (fun i => (xs[i]?).all dealB) () ()
    (by
      intro i hi
      simp only [spec_l07Deals_b1, rd_coe, List.getElem?_eq_getElem hi, Option.bind_some, l07Deal_eq, Option.all_some]
      rw [if_pos (by simpa using hi)]
      cases dealB xs[i] <;> simp)
    (by simp [spec_l07Deals_b1])
  rw [key, all_get]
  cases xs.all dealB <;> simp
end Go.Proofs.YtkkmbehooldmjaaDoor
/- Numbers written out. -/
namespace Go.Proofs.YtkkmbehooldmjaaDoor
open Go Go.Ab
theorem sadd_some {a b : List UInt8} (h : a.length + b.length ≤ 4611686018427387904) : sadd a b = some (a ++ b) := by
  unfold sadd
  rw [if_neg (by rw [IntKind.max_i64]; omega)]
/-- a number's text -/
noncomputable def tx (n : Int) : List UInt8 := Lib.decDigits n.toNat
theorem decDigits_le : ∀ (k n : Nat), n < 10 ^ (k + 1) → (Lib.decDigits n).length ≤ k + 1
  | 0, n, h => by
    rw [Lib.decDigits, dif_pos (by omega)]
    simp
  | k + 1, n, h => by
    rw [Lib.decDigits]
    split
    · simp
    · have := decDigits_le k (n / 10) (by rw [Nat.pow_succ] at h; omega)
      simp only [List.length_append, List.length_singleton]
      omega
theorem dig_eq {n : Nat} (h : n < 10) : toB [IntKind.u8.wrap (IntKind.i64.wrap (48 + (n : Int)))] = [UInt8.ofNat (48 + n)] := by
  rw [w64 (by omega)]
  have : IntKind.u8.wrap (48 + (n : Int)) = 48 + (n : Int) := by simp [IntKind.wrap, IntKind.signed, IntKind.bits]; omega
  rw [this]
  simp only [toB, List.map_cons, List.map_nil]
  congr 2
theorem decimal_F : ∀ (k n : Nat), n < 10 ^ (k + 1) → n ≤ 9223372036854775807 → k ≤ 100 → spec_Decimal_F (k + 1) (n : Int) = some (Lib.decDigits n)
  | k, n, h, h1, hk => by
    rw [spec_Decimal_F, Lib.decDigits]
    have hr : rem .i64 (n : Int) 10 = some ((n % 10 : Nat) : Int) := by
      unfold rem
      rw [if_neg (by decide)]
      congr 1
    by_cases hn : n < 10
    · rw [if_pos (by simpa using (by omega : (n : Int) < 10)), dif_pos hn, hr, Option.bind_some, dig_eq (by omega), Nat.mod_eq_of_lt hn]
    · rw [if_neg (by simpa using (by omega : ¬ (n : Int) < 10)), dif_neg hn]
      have hq : quo .i64 (n : Int) 10 = some ((n / 10 : Nat) : Int) := by
        unfold quo
        rw [if_neg (by decide)]
        congr 1
        have : ((n : Int).tdiv 10) = ((n / 10 : Nat) : Int) := rfl
        rw [this, w64 (by omega)]
      rw [hq, Option.bind_some]
      cases k with
      | zero => omega
      | succ k =>
        have hlt : n / 10 < 10 ^ (k + 1) := by rw [Nat.pow_succ] at h; omega
        rw [decimal_F k (n / 10) hlt (by omega) (by omega), Option.bind_some, hr, Option.bind_some, dig_eq (by omega)]
        have hl := decDigits_le k (n / 10) hlt
        rw [sadd_some (by simp only [List.length_singleton]; omega), Option.bind_some]
theorem dec_s {n : Int} (h0 : 0 ≤ n) (h1 : n ≤ 9223372036854775807) : spec_Decimal n = some (tx n) := by
  obtain ⟨m, rfl⟩ : ∃ m : Nat, n = m := ⟨n.toNat, by omega⟩
  unfold spec_Decimal tx
  exact decimal_F 63 m (Nat.lt_of_le_of_lt (by omega : m ≤ 9223372036854775807) (by decide)) (by omega) (by omega)
theorem dec_i {n : Int} (h0 : 0 ≤ n) (h1 : n ≤ 9223372036854775807) : impl_decimal n = some (tx n) := by
  obtain ⟨m, rfl⟩ : ∃ m : Nat, n = m := ⟨n.toNat, by omega⟩
  unfold impl_decimal strconv_FormatInt fmtI tx
  rw [if_pos ⟨rfl, by omega, h1⟩, Lib.itoa_nonneg]
  rfl
theorem tx_len {n : Int} (h0 : 0 ≤ n) (h1 : n ≤ 9223372036854775807) : (tx n).length ≤ 19 := by
  unfold tx
  exact decDigits_le 18 _ (by omega)
theorem tx_pos (n : Int) : 0 < (tx n).length := by
  unfold tx
  rw [Lib.decDigits]
  split <;> simp
end Go.Proofs.YtkkmbehooldmjaaDoor
/- Amounts written out. -/
namespace Go.Proofs.YtkkmbehooldmjaaDoor
open Go Go.Ab
/-- one part of an amount -/
noncomputable def amt1 (n : Int) (c : UInt8) : List (List UInt8) := if n > 0 then [tx n ++ [c]] else []
noncomputable def amtT (a : Int) : List UInt8 := if a = 0 then [48, 100] else Lib.join (amt1 (a / 240) 108 ++ (amt1 (a / 12 % 20) 115 ++ amt1 (a % 12) 100)) [32]
theorem quo_pos {a b : Int} (h0 : 0 ≤ a) (h1 : a ≤ 9223372036854775807) (hb : 0 < b) : quo .i64 a b = some (a / b) := by
  unfold quo
  rw [if_neg (by omega), Int.tdiv_eq_ediv_of_nonneg h0]
  have := Int.ediv_nonneg h0 (by omega : 0 ≤ b)
  have h2 : a / b ≤ a := Int.ediv_le_self b h0
  rw [w64 (by omega)]
theorem rem_pos {a b : Int} (h0 : 0 ≤ a) (hb : 0 < b) : rem .i64 a b = some (a % b) := by
  unfold rem
  rw [if_neg (by omega), Int.tmod_eq_emod_of_nonneg h0]
theorem amt1_len {n : Int} {c : UInt8} (h0 : 0 ≤ n) (h1 : n ≤ 9223372036854775807) : (amt1 n c).length ≤ 1 ∧ ∀ s ∈ amt1 n c, s.length ≤ 20 := by
  unfold amt1
  have := tx_len h0 h1
  split <;> simp <;> omega
theorem join_len : ∀ (xs : List (List UInt8)) (k : Nat), (∀ s ∈ xs, s.length ≤ k) → (Lib.join xs [32]).length ≤ xs.length * (k + 1)
  | [], k, _ => by simp [Lib.join]
  | x :: r, k, h => by
    have hx := h x (by simp)
    rw [Lib.join_cons]
    have : ∀ r : List (List UInt8), (∀ s ∈ r, s.length ≤ k) → (Lib.joinTail [32] r).length ≤ r.length * (k + 1) := by
      intro r
      induction r with
      | nil => intro _; simp [Lib.joinTail]
      | cons y q ih =>
        intro hy
        have h1 := ih (fun s hs => hy s (by simp [hs]))
        have h2 := hy y (by simp)
        simp only [Lib.joinTail, List.map_cons, List.flatten_cons, List.length_append, List.length_cons, List.length_nil] at h1 ⊢
        rw [Nat.add_mul]
        omega
    have h3 := this r (fun s hs => h s (by simp [hs]))
    simp only [List.length_append, List.length_cons]
    rw [Nat.add_mul]
    omega
theorem amt_i {a : Int} (h0 : 0 ≤ a) (h1 : a ≤ 100000000) : impl_AmountText a = some (amtT a) := by
  unfold impl_AmountText amtT
  rw [isAmount_eq, Option.bind_some, if_pos (inB_iff.2 ⟨h0, h1⟩)]
  by_cases hz : a = 0
  · subst hz; rfl
  rw [if_neg (by simpa using hz), if_neg hz, quo_pos h0 (by omega) (by decide), Option.bind_some, quo_pos h0 (by omega) (by decide), Option.bind_some, rem_pos (by omega) (by decide), Option.bind_some, rem_pos h0 (by decide), Option.bind_some]
  have b1 : 0 ≤ a / 240 ∧ a / 240 ≤ 1000000 := by omega
  have b2 : 0 ≤ a / 12 % 20 ∧ a / 12 % 20 ≤ 1000000 := by omega
  have b3 : 0 ≤ a % 12 ∧ a % 12 ≤ 1000000 := by omega
  revert b1 b2 b3
  generalize a / 240 = l, a / 12 % 20 = s, a % 12 = d
  intro b1 b2 b3
  have step : ∀ (i : Nat) (n : Int) (c : UInt8) (out : List (List UInt8)), i < 3 → [l, s, d][i]? = some n → ([108, 115, 100] : List UInt8)[i]? = some c → 0 ≤ n ∧ n ≤ 1000000 → out.length ≤ 3 →
      impl_AmountText_b1 l s d ((i : Int), out) = some (.inl (((i + 1 : Nat) : Int), out ++ amt1 n c)) := by
    intro i n c out hi hn hc hb ho
    have w := w64s (n := 3) hi (by omega)
    have hs : slc ([108, 115, 100] : List UInt8) (i : Int) ((i + 1 : Nat) : Int) = some [c] := by
      unfold slc
      rw [if_pos ⟨by omega, by omega, by simp only [List.length_cons, List.length_nil]; omega⟩]
      match i, hi, hc with
      | 0, _, hc => cases hc; rfl
      | 1, _, hc => cases hc; rfl
      | 2, _, hc => cases hc; rfl
    have hlen := tx_len (n := n) hb.1 (by omega)
    unfold impl_AmountText_b1 amt1
    simp only [List.length_cons, List.length_nil, rd_coe, hn, Option.bind_some, w, hs]
    rw [if_pos (by simpa using (by omega : (i : Int) < 3))]
    by_cases hp : n > 0
    · rw [if_pos (by simpa using hp), if_pos hp, dec_i hb.1 (by omega), Option.bind_some, sadd_some (by simp only [List.length_singleton]; omega), Option.bind_some, app_some (by simp only [List.length_singleton]; omega) (by decide), Option.bind_some]
    · rw [if_neg (by simpa using hp), if_neg hp, List.append_nil]
  have l1 := (amt1_len (n := l) (c := 108) b1.1 (by omega)).1
  have l2 := (amt1_len (n := s) (c := 115) b2.1 (by omega)).1
  have l3 := (amt1_len (n := d) (c := 100) b3.1 (by omega)).1
  have e0 := step 0 l 108 [] (by omega) rfl rfl b1 (by simp)
  have e1 := step 1 s 115 (amt1 l 108) (by omega) rfl rfl b2 (by omega)
  have e2 := step 2 d 100 (amt1 l 108 ++ amt1 s 115) (by omega) rfl rfl b3 (by simp only [List.length_append]; omega)
  have e3 : impl_AmountText_b1 l s d (((2 + 1 : Nat) : Int), amt1 l 108 ++ amt1 s 115 ++ amt1 d 100) = some (.inr (amt1 l 108 ++ amt1 s 115 ++ amt1 d 100)) := by
    unfold impl_AmountText_b1
    simp
  have hl : Lw (impl_AmountText_b1 l s d) (0, []) = some (amt1 l 108 ++ (amt1 s 115 ++ amt1 d 100)) := by
    rw [← List.append_assoc]
    exact (Lw_step e0).trans ((Lw_step e1).trans ((Lw_step e2).trans (Lw_stop e3)))
  rw [hl, Option.bind_some]
  have hj := join_len (amt1 l 108 ++ (amt1 s 115 ++ amt1 d 100)) 20 (fun x hx => by
    rcases List.mem_append.1 hx with h | h
    · exact (amt1_len b1.1 (by omega)).2 x h
    · rcases List.mem_append.1 h with h | h
      · exact (amt1_len b2.1 (by omega)).2 x h
      · exact (amt1_len b3.1 (by omega)).2 x h)
  have hn : (amt1 l 108 ++ (amt1 s 115 ++ amt1 d 100)).length ≤ 3 := by simp only [List.length_append]; omega
  have : (amt1 l 108 ++ (amt1 s 115 ++ amt1 d 100)).length * 21 ≤ 63 := by omega
  unfold strings_Join joinI
  rw [if_pos ⟨by omega, by omega⟩]
  rfl
theorem part_s {out : List UInt8} {n : Int} {c : UInt8} (h0 : 0 ≤ n) (h1 : n ≤ 1000000) (ho : out.length ≤ 100) : spec_l01Part out n [c] = some (if n = 0 then out else if out = [] then tx n ++ [c] else out ++ [32] ++ tx n ++ [c]) := by
  unfold spec_l01Part
  have hl := tx_len h0 (by omega)
  by_cases hz : n = 0
  · rw [if_pos (by simpa using hz), if_pos hz]
  rw [if_neg (by simpa using hz), if_neg hz]
  by_cases he : out = []
  · subst he
    rw [if_pos (by simp), if_pos rfl, dec_s h0 (by omega), Option.bind_some, sadd_some (by simp only [List.length_nil]; omega), Option.bind_some, sadd_some (by simp only [List.length_append, List.length_nil, List.length_singleton]; omega)]
    rfl
  · rw [if_neg (by simpa using he), if_neg he, sadd_some (by simp only [List.length_singleton]; omega), Option.bind_some, dec_s h0 (by omega), Option.bind_some, sadd_some (by simp only [List.length_append, List.length_singleton]; omega), Option.bind_some, sadd_some (by simp only [List.length_append, List.length_singleton]; omega)]
    rfl
theorem amt_s {a : Int} (h0 : 0 ≤ a) (h1 : a ≤ 100000000) : spec_l01AmountText a = some (amtT a) := by
  unfold spec_l01AmountText amtT
  by_cases hz : a = 0
  · subst hz; rfl
  rw [if_neg (by simpa using hz), if_neg hz, quo_pos h0 (by omega) (by decide), Option.bind_some, quo_pos h0 (by omega) (by decide), rem_pos h0 (by decide)]
  have b0 : ¬ (a / 240 = 0 ∧ a / 12 % 20 = 0 ∧ a % 12 = 0) := by omega
  have b1 : 0 ≤ a / 240 ∧ a / 240 ≤ 1000000 := by omega
  have b2 : 0 ≤ a / 12 % 20 ∧ a / 12 % 20 ≤ 1000000 := by omega
  have b3 : 0 ≤ a % 12 ∧ a % 12 ≤ 1000000 := by omega
  have hm := rem_pos (a := a / 12) (b := 20) (by omega) (by decide)
  simp only [Option.bind_some, hm]
  revert b0 b1 b2 b3
  generalize a / 240 = l, a / 12 % 20 = s, a % 12 = d
  intro b0 b1 b2 b3
  have t1 := tx_len (n := l) b1.1 (by omega)
  have t2 := tx_len (n := s) b2.1 (by omega)
  have t3 := tx_len (n := d) b3.1 (by omega)
  have p1 : l = 0 ∨ l > 0 := by omega
  have p2 : s = 0 ∨ s > 0 := by omega
  have p3 : d = 0 ∨ d > 0 := by omega
  rw [part_s b1.1 b1.2 (by simp)]
  simp only [Option.bind_some, if_true]
  rcases p1 with rfl | p1 <;> rcases p2 with rfl | p2 <;> rcases p3 with rfl | p3
  · exact absurd ⟨rfl, rfl, rfl⟩ b0
  all_goals
    simp (config := { decide := true }) only [if_true, if_false, amt1, List.nil_append, List.append_nil, Int.ne_of_gt, *]
    rw [part_s (by omega) (by omega) (by simp; try omega)]
    simp (config := { decide := true }) only [Option.bind_some, if_true, if_false, Int.ne_of_gt, *]
    rw [part_s (by omega) (by omega) (by simp; try omega)]
    simp [Lib.join, List.intercalate, Int.ne_of_gt, *]
theorem amtT_len {a : Int} (h0 : 0 ≤ a) (h1 : a ≤ 100000000) : (amtT a).length ≤ 63 := by
  unfold amtT
  split
  · simp
  have b1 : 0 ≤ a / 240 ∧ a / 240 ≤ 1000000 := by omega
  have b2 : 0 ≤ a / 12 % 20 ∧ a / 12 % 20 ≤ 1000000 := by omega
  have b3 : 0 ≤ a % 12 ∧ a % 12 ≤ 1000000 := by omega
  have k1 := amt1_len (n := a / 240) (c := 108) b1.1 (by omega)
  have k2 := amt1_len (n := a / 12 % 20) (c := 115) b2.1 (by omega)
  have k3 := amt1_len (n := a % 12) (c := 100) b3.1 (by omega)
  have hj := join_len (amt1 (a / 240) 108 ++ (amt1 (a / 12 % 20) 115 ++ amt1 (a % 12) 100)) 20 (fun x hx => by
    rcases List.mem_append.1 hx with h | h
    · exact k1.2 x h
    · rcases List.mem_append.1 h with h | h
      · exact k2.2 x h
      · exact k3.2 x h)
  have hn : (amt1 (a / 240) 108 ++ (amt1 (a / 12 % 20) 115 ++ amt1 (a % 12) 100)).length ≤ 3 := by simp only [List.length_append]; omega
  have : (amt1 (a / 240) 108 ++ (amt1 (a / 12 % 20) 115 ++ amt1 (a % 12) 100)).length * 21 ≤ 63 := by omega
  omega
end Go.Proofs.YtkkmbehooldmjaaDoor
/- Deals written out. -/
namespace Go.Proofs.YtkkmbehooldmjaaDoor
open Go Go.Ab
noncomputable def dealT (d : Deal) : List UInt8 :=
  if d.Kind = 1 then tx d.Day ++ [32, 99, 117, 116, 32] ++ tx d.From ++ [32] ++ tx d.To ++ [32] ++ amtT d.Amount
  else if d.Kind = 2 then tx d.Day ++ [32, 112, 97, 115, 115, 32] ++ tx d.Tally ++ [32] ++ tx d.From ++ [32] ++ tx d.To
  else if d.Kind = 3 then tx d.Day ++ [32, 112, 97, 121, 32] ++ tx d.Tally ++ [32] ++ amtT d.Amount
  else tx d.Day ++ [32, 101, 110, 100, 32] ++ tx d.Tally ++ [32] ++ tx d.From
structure DlI (d : Deal) : Prop where
  day : 0 ≤ d.Day ∧ d.Day ≤ 100000
  tally : 0 ≤ d.Tally ∧ d.Tally ≤ 39
  frm : 0 ≤ d.From ∧ d.From ≤ 15
  to_ : 0 ≤ d.To ∧ d.To ≤ 15
  amount : 0 ≤ d.Amount ∧ d.Amount ≤ 100000000
  kind : d.Kind = 1 ∨ d.Kind = 2 ∨ d.Kind = 3 ∨ d.Kind = 4
theorem DlI.of {d : Deal} (h : dealB d = true) : DlI d := by
  unfold dealB at h
  simp only [Bool.and_eq_true, Bool.or_eq_true, inB_iff, beq_iff_eq] at h
  obtain ⟨h0, h⟩ := h
  rcases h with ((h | h) | h) | h
  all_goals exact ⟨h0, by omega, by omega, by omega, by omega, by omega⟩
theorem dealT_both {d : Deal} (h : dealB d = true) : impl_dealText d = some (dealT d) ∧ spec_l07Line d = some (dealT d) ∧ (dealT d).length ≤ 200 := by
  obtain ⟨h1, h2, h3, h4, h5, h6⟩ := DlI.of h
  have t1 := tx_len (n := d.Day) h1.1 (by omega)
  have t2 := tx_len (n := d.Tally) h2.1 (by omega)
  have t3 := tx_len (n := d.From) h3.1 (by omega)
  have t4 := tx_len (n := d.To) h4.1 (by omega)
  have t5 := amtT_len h5.1 h5.2
  unfold impl_dealText spec_l07Line dealT
  rw [dec_i h1.1 (by omega), dec_s h1.1 (by omega), dec_i h2.1 (by omega), dec_s h2.1 (by omega), dec_i h3.1 (by omega), dec_s h3.1 (by omega), dec_i h4.1 (by omega), dec_s h4.1 (by omega), amt_i h5.1 h5.2, amt_s h5.1 h5.2]
  generalize tx d.Day = a at *
  generalize tx d.Tally = b at *
  generalize tx d.From = c at *
  generalize tx d.To = e at *
  generalize amtT d.Amount = f at *
  have key : ∀ (x y : List UInt8), x.length ≤ 1000 → y.length ≤ 1000 → sadd x y = some (x ++ y) := fun x y hx hy => sadd_some (by omega)
  rcases h6 with h6 | h6 | h6 | h6
  all_goals
    rw [h6]
    simp (config := { decide := true }) only [Option.bind_some, if_true, if_false, beq_self_eq_true, reduceIte, beq_iff_eq]
    simp (disch := ((try simp only [List.length_append, List.length_cons, List.length_nil]); omega)) only [key, Option.bind_some]
    simp only [List.length_append, List.length_cons, List.length_nil, true_and]
    try omega
theorem deals_loop (xs : List Deal) (hx : ∀ d ∈ xs, dealB d = true) (hn : xs.length ≤ 80) :
    ∃ r r2, Lw (impl_DealsText_b1 xs) ([], 0) = some r ∧ Lw (spec_l07Text_b1 xs) ([], 0) = some r2 ∧ r = r2 := by
  refine Lw_sim (tb := impl_DealsText_b1 xs) (tb2 := spec_l07Text_b1 xs) (fun s => xs.length - s.2.toNat) (fun s s2 => s = s2 ∧ ∃ i : Nat, s.2 = i ∧ i ≤ xs.length ∧ s.1.length ≤ 201 * i) _ ?_ _ _ _ rfl ⟨rfl, 0, rfl, by omega, by simp⟩
  rintro ⟨o, j⟩ s2 ⟨rfl, i, hi, hil, hol⟩
  simp only at hi hol
  subst hi
  by_cases hlt : i < xs.length
  · have hr : rd xs (i : Int) = some xs[i] := by rw [rd_coe, List.getElem?_eq_getElem hlt]
    have w := w64s hlt (by omega)
    obtain ⟨e1, e2, e3⟩ := dealT_both (hx _ (List.getElem_mem hlt))
    have s1 : sadd (dealT xs[i]) [10] = some (dealT xs[i] ++ [10]) := sadd_some (by simp only [List.length_singleton]; omega)
    have s2 : sadd o (dealT xs[i] ++ [10]) = some (o ++ (dealT xs[i] ++ [10])) := sadd_some (by simp only [List.length_append, List.length_singleton]; omega)
    exact .inl ⟨(o ++ (dealT xs[i] ++ [10]), ((i + 1 : Nat) : Int)), _, by simp [impl_DealsText_b1, hr, hlt, e1, s1, s2, w], by simp [spec_l07Text_b1, hr, hlt, e2, s1, s2, w], ⟨rfl, i + 1, rfl, by omega, by simp only [List.length_append, List.length_singleton]; omega⟩, by simp; omega⟩
  · exact .inr ⟨o, o, by simp [impl_DealsText_b1, hlt], by simp [spec_l07Text_b1, hlt], rfl⟩
theorem dealsText_same (xs : List Deal) (hn : xs.length ≤ 4611686018427387904) : ∃ t, impl_DealsText xs = some t ∧ spec_DealsText xs = some t := by
  unfold impl_DealsText spec_DealsText spec_l07Text
  rw [areDeals_eq xs hn, l07Deals_eq xs hn]
  simp only [Option.bind_some]
  cases ha : xs.all dealB with
  | false => exact ⟨[], by simp, by simp⟩
  | true =>
    by_cases hb : (xs.length : Int) > 80
    · exact ⟨[], by simp [hb], by simp [hb]⟩
    · obtain ⟨r, r2, e1, e2, rfl⟩ := deals_loop xs (by simpa [List.all_eq_true] using ha) (by omega)
      exact ⟨r, by simp [hb, e1], by simp [hb, e2]⟩
end Go.Proofs.YtkkmbehooldmjaaDoor

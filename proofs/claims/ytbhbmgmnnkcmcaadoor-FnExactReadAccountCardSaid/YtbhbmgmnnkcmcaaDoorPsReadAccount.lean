/- Plain lemmas. -/
import Derived.Test.YtbhbmgmnnkcmcaaDoorOkReadAccount
set_option linter.unusedVariables false
set_option linter.unusedSimpArgs false
/- Loops that compare and weigh lists. -/
namespace Go.Proofs.YtbhbmgmnnkcmcaaDoor
open Go Go.Ab
theorem eqS_loop {τ : Type} [DecidableEq τ] {tb : Int → Option (Int ⊕ (Unit ⊕ Unit))} (a b : List τ) (h : a.length ≤ 4611686018427387904) (hl : a.length = b.length)
    (hs : ∀ (i : Nat) (h1 : i < a.length) (h2 : i < b.length), tb (i : Int) = some (if a[i] = b[i] then .inl (IntKind.i64.wrap ((i : Int) + 1)) else .inr (.inl ()))) (he : tb (a.length : Int) = some (.inr (.inr ()))) :
    Lw tb 0 = some (if a = b then .inr () else .inl ()) := by
  have key := scan_all (tb := tb) a.length h (fun i => decide (a[i]? = b[i]?)) () ()
    (by
      intro i hi
      have hi2 : i < b.length := by omega
      rw [hs i hi hi2, List.getElem?_eq_getElem hi, List.getElem?_eq_getElem hi2]
      by_cases he : a[i] = b[i] <;> simp [he])
    he
  rw [key, all_eq hl]
  by_cases he : a = b <;> simp [he]
theorem sz_loop {tb : Int × Int → Option ((Int × Int) ⊕ (Unit ⊕ Int))} (n : Nat) (hs : ∀ (a : Int) (i : Nat), i < n → (∃ r, tb (a, (i : Int)) = some (.inl (r, ((i + 1 : Nat) : Int)))) ∨ tb (a, (i : Int)) = some (.inr (.inl ()))) (he : ∀ a, tb (a, (n : Int)) = some (.inr (.inr a))) (a : Int) :
    ∃ r, Lw tb (a, 0) = some r := by
  have : ∃ r r2, Lw tb (a, 0) = some r ∧ Lw tb (a, 0) = some r2 ∧ r = r2 := by
    refine Lw_sim (tb := tb) (tb2 := tb) (fun s => n - s.2.toNat) (fun s s2 => s = s2 ∧ ∃ i : Nat, s.2 = i ∧ i ≤ n) _ ?_ _ _ _ rfl ⟨rfl, 0, rfl, by omega⟩
    rintro ⟨a, j⟩ s2 ⟨rfl, i, hi, hl⟩
    simp only at hi
    subst hi
    by_cases hlt : i < n
    · rcases hs a i hlt with ⟨r, hr⟩ | hr
      · exact .inl ⟨_, _, hr, hr, ⟨rfl, i + 1, rfl, by omega⟩, by simp; omega⟩
      · exact .inr ⟨_, _, hr, hr, rfl⟩
    · have : i = n := by omega
      subst this
      exact .inr ⟨_, _, he a, he a, rfl⟩
  obtain ⟨r, _, hr, _, _⟩ := this
  exact ⟨r, hr⟩
theorem find_first {τ R : Type} {tb : Int → Option (Int ⊕ R)} (p : τ → Bool) (xs : List τ) (hit : Nat → R) (miss : R)
    (h1 : ∀ (i : Nat) (h : i < xs.length), p xs[i] = false → tb (i : Int) = some (.inl ((i + 1 : Nat) : Int))) (h2 : ∀ (i : Nat) (h : i < xs.length), p xs[i] = true → tb (i : Int) = some (.inr (hit i))) (h3 : tb (xs.length : Int) = some (.inr miss)) :
    Lw tb 0 = some (if xs.findIdx p < xs.length then hit (xs.findIdx p) else miss) := by
  have key := Lw_run (tb := tb) (fun i => (i : Int)) (xs.findIdx p) (r := if xs.findIdx p < xs.length then hit (xs.findIdx p) else miss)
    (fun i hi => h1 i (Nat.lt_of_lt_of_le hi List.findIdx_le_length) (by simpa using List.not_of_lt_findIdx hi))
    (by
      by_cases h : xs.findIdx p < xs.length
      · rw [if_pos h]; exact h2 _ h List.findIdx_getElem
      · rw [if_neg h]
        have : xs.findIdx p = xs.length := Nat.le_antisymm List.findIdx_le_length (by omega)
        simp only [this]; exact h3)
  exact key
theorem any_find {τ : Type} (p : τ → Bool) (xs : List τ) : xs.any p = decide (xs.findIdx p < xs.length) := by
  rw [Bool.eq_iff_iff, decide_eq_true_eq, List.findIdx_lt_length, List.any_eq_true]
/-! arrays -/
theorem rdA_coe {n : Nat} {τ : Type} (g : Ar n τ) (i : Nat) (h : i < n) : rdA g (i : Int) = some (g.l[i]'(by rw [g.h]; exact h)) := by
  unfold rdA
  rw [if_pos ⟨by omega, by omega⟩, Int.toNat_natCast, List.getElem?_eq_getElem]
theorem ar_ext {n : Nat} {τ : Type} {a b : Ar n τ} : a = b ↔ a.l = b.l := by cases a; cases b; simp
theorem ar_copy {n : Nat} {τ : Type} {tb : Int × Ar n τ → Option ((Int × Ar n τ) ⊕ Ar n τ)} (a z : Ar n τ) (hs : ∀ (i : Nat) (h : i < n) (y : Ar n τ), tb ((i : Int), y) = some (.inl (((i + 1 : Nat) : Int), y.set i (a.l[i]'(by rw [a.h]; exact h))))) (he : ∀ y, tb ((n : Int), y) = some (.inr y)) :
    Lw tb (0, z) = some a := by
  have hz := z.h
  have ha := a.h
  have key := Lw_run (tb := tb) (fun i => ((i : Int), (⟨a.l.take i ++ z.l.drop (min i n), by simp; omega⟩ : Ar n τ))) n (r := a)
    (by
      intro i hi
      rw [hs i hi]
      congr 3
      rw [ar_ext]
      show (a.l.take i ++ z.l.drop (min i n)).set i _ = a.l.take (i + 1) ++ z.l.drop (min (i + 1) n)
      rw [Nat.min_eq_left (by omega), Nat.min_eq_left (by omega), List.set_append_right _ _ (by simp; omega), List.length_take, Nat.min_eq_left (by omega), Nat.sub_self, List.drop_eq_getElem_cons (by omega), List.set_cons_zero, List.take_succ_eq_append_getElem (by omega), List.append_assoc]
      rfl)
    (by
      rw [he]
      congr 2
      rw [ar_ext]
      show a.l.take n ++ z.l.drop (min n n) = a.l
      rw [List.take_of_length_le (by omega), Nat.min_self, List.drop_eq_nil_of_le (by omega), List.append_nil])
  have e : (((0 : Nat) : Int), (⟨a.l.take 0 ++ z.l.drop (min 0 n), by simp; omega⟩ : Ar n τ)) = (0, z) := by
    congr 1
  rw [e] at key
  exact key
theorem foldr_all (p : Nat → Bool) (r : Bool) (l : List Nat) : l.foldr (fun j b => p j && b) r = (l.all p && r) := by
  induction l with
  | nil => simp
  | cons x l ih => simp [ih, Bool.and_assoc]
theorem arB_eq {n : Nat} (g h : Ar n Int) : arB n (fun j => g.get 0 j == h.get 0 j) true = decide (g = h) := by
  unfold arB
  rw [foldr_all, Bool.and_true, Bool.eq_iff_iff, List.all_eq_true, decide_eq_true_eq, ar_ext]
  have hg := g.h
  have hh := h.h
  constructor
  · intro hp
    refine List.ext_getElem (by omega) fun i h1 h2 => ?_
    have := hp i (by simpa [hg] using h1)
    simpa [Ar.get, List.getD_eq_getElem?_getD, h1, h2] using this
  · intro e j _
    simp [Ar.get, e]
end Go.Proofs.YtbhbmgmnnkcmcaaDoor
/- Numbers within bounds. -/
namespace Go.Proofs.YtbhbmgmnnkcmcaaDoor
open Go Go.Ab
def inB (n lo hi : Int) : Bool := decide (lo ≤ n) && decide (n ≤ hi)
theorem inB_iff {n lo hi : Int} : inB n lo hi = true ↔ lo ≤ n ∧ n ≤ hi := by simp [inB]
theorem inB_not {n lo hi : Int} : inB n lo hi = false ↔ n < lo ∨ hi < n := by rw [← Bool.not_eq_true, inB_iff]; omega
theorem l00In_eq (n lo hi : Int) : spec_l00In n lo hi = some (inB n lo hi) := by
  unfold spec_l00In inB; by_cases h : lo ≤ n <;> simp [h]
theorem some_ite {α : Type} (c : Bool) (a b : α) : (if c = true then some a else some b) = some (if c = true then a else b) := by cases c <;> rfl
theorem ite_false_b (c b : Bool) : (if c = true then b else false) = (c && b) := by cases c <;> simp
theorem ite_true_b (c b : Bool) : (if c = true then true else b) = (c || b) := by cases c <;> simp
end Go.Proofs.YtbhbmgmnnkcmcaaDoor
/- Amounts. -/
namespace Go.Proofs.YtbhbmgmnnkcmcaaDoor
open Go Go.Ab
theorem l01Amount_eq (n : Int) : spec_l01Amount n = some (inB n 0 100000000) := by
  unfold spec_l01Amount; rw [l00In_eq, Option.bind_some]
theorem isAmount_eq (n : Int) : impl_isAmount n = some (inB n 0 100000000) := by
  unfold impl_isAmount inB; by_cases h : 0 ≤ n <;> simp [h]
end Go.Proofs.YtbhbmgmnnkcmcaaDoor
/- Parties: names, finding, valid lists. -/
namespace Go.Proofs.YtbhbmgmnnkcmcaaDoor
open Go Go.Ab
def letB (c : UInt8) : Bool := decide (97 ≤ c.toNat) && decide (c.toNat ≤ 122)
def lettersB (s : List UInt8) (n : Int) : Bool := s.all letB && decide (1 ≤ s.length) && decide ((s.length : Int) ≤ n)
def nameB (s : List UInt8) : Bool := lettersB s 12
theorem isLetters_loop (s : List UInt8) (hn : s.length ≤ 4611686018427387904) : Lw (impl_isLetters_b1 s) 0 = some (if s.all letB = true then .inr () else .inl ()) := by
  have key := scan_all (tb := impl_isLetters_b1 s) s.length hn (fun i => (s[i]?).all letB) () ()
    (by
      intro i hi
      simp only [impl_isLetters_b1, rd_coe, List.getElem?_eq_getElem hi, Option.bind_some, Option.all_some]
      rw [if_pos (by simpa using hi)]
      by_cases h1 : s[i].toNat < 97
      · rw [if_pos (by simp; omega), if_neg (by simp [letB]; omega)]
      · by_cases h2 : s[i].toNat > 122
        · rw [if_neg (by simp; omega), if_pos (by simp; omega), if_neg (by simp [letB]; omega)]
        · rw [if_neg (by simp; omega), if_neg (by simp; omega), if_pos (by simp [letB]; omega)])
    (by simp [impl_isLetters_b1])
  rw [key, all_get]
theorem isLetters_eq (s : List UInt8) (n : Int) (hn : s.length ≤ 4611686018427387904) : impl_isLetters s n = some (lettersB s n) := by
  unfold impl_isLetters lettersB
  rw [isLetters_loop s hn]
  cases s.all letB with
  | false => simp
  | true =>
    by_cases h : 1 ≤ s.length
    · have : (1 : Int) ≤ (s.length : Int) := by omega
      simp [h, this]
    · have : ¬ (1 : Int) ≤ (s.length : Int) := by omega
      simp [h, this]
end Go.Proofs.YtbhbmgmnnkcmcaaDoor
/- Accounts and rolls: equal, copied, weighed. -/
namespace Go.Proofs.YtbhbmgmnnkcmcaaDoor
open Go Go.Ab
theorem item_eq {x y : Item} : x = y ↔ x.Kind = y.Kind ∧ x.Amount = y.Amount := by cases x; cases y; simp
theorem account_eq {x y : Account} : x = y ↔ x.Title = y.Title ∧ x.Items = y.Items ∧ x.Balance = y.Balance := by cases x; cases y; simp
theorem eqItem_eq (x y : Item) : laws_eqItem x y = some (decide (x = y)) := by
  unfold laws_eqItem
  simp only [item_eq, bne_iff_ne, ne_eq, ite_not]
  repeat' split
  all_goals simp_all
theorem eqItemS_eq (a b : List Item) (h : a.length ≤ 4611686018427387904) : laws_eqItemS a b = some (decide (a = b)) := by
  unfold laws_eqItemS
  by_cases hl : a.length = b.length
  · rw [if_neg (by simp [hl]), eqS_loop a b h hl (fun i h1 h2 => by
      simp only [laws_eqItemS_b1, rd_coe, List.getElem?_eq_getElem h1, List.getElem?_eq_getElem h2, Option.bind_some, eqItem_eq]
      by_cases he : a[i] = b[i] <;> simp [he, h1]) (by simp [laws_eqItemS_b1])]
    by_cases he : a = b <;> simp [he]
  · rw [if_pos (by simp; omega)]
    have : a ≠ b := fun h => hl (by rw [h])
    simp [this]
theorem map_loop {τ σ : Type} {tb : Int × List σ → Option ((Int × List σ) ⊕ List σ)} (g : τ → σ) (xs : List τ) (ys : List σ) (hn : xs.length ≤ 4611686018427387904) (hl : ys.length = xs.length)
    (hs : ∀ (i : Nat) (hi : i < xs.length) (zs : List σ), zs.length = xs.length → tb ((i : Int), zs) = some (.inl (((i + 1 : Nat) : Int), zs.set i (g xs[i])))) (he : ∀ zs : List σ, zs.length = xs.length → tb ((xs.length : Int), zs) = some (.inr zs)) :
    Lw tb (0, ys) = some (xs.map g) := by
  have key := Lw_run (tb := tb) (fun i => ((i : Int), (xs.map g).take i ++ ys.drop i)) xs.length (r := xs.map g)
    (by
      intro i hi
      rw [hs i hi _ (by simp; omega)]
      congr 3
      rw [List.set_append_right _ _ (by simp; omega), List.length_take, List.length_map, Nat.min_eq_left (by omega), Nat.sub_self, List.drop_eq_getElem_cons (by omega), List.set_cons_zero, List.take_succ_eq_append_getElem (by simpa using hi), List.append_assoc]
      simp)
    (by
      rw [he _ (by simp; omega)]
      congr 2
      rw [List.take_of_length_le (by simp), List.drop_eq_nil_of_le (by omega), List.append_nil])
  have e : (((0 : Nat) : Int), (xs.map g).take 0 ++ ys.drop 0) = (0, ys) := by simp
  rw [e] at key
  exact key
end Go.Proofs.YtbhbmgmnnkcmcaaDoor
/- Rolls that are right: the program's word and the reference's. -/
namespace Go.Proofs.YtbhbmgmnnkcmcaaDoor
open Go Go.Ab
theorem l05Title_eq (s : List UInt8) (hn : s.length ≤ 4611686018427387904) : spec_l05Title s = some (lettersB s 16) := by
  have e : Lw (spec_l05Title_b1 s) 0 = Lw (impl_isLetters_b1 s) 0 := rfl
  unfold spec_l05Title lettersB
  rw [e, isLetters_loop s hn]
  cases s.all letB with
  | false => simp
  | true => simp [l00In_eq, inB]; cases s <;> simp <;> omega
def itemB (x : Item) : Bool := inB x.Kind 0 3 && inB x.Amount 0 100000000
theorem validItem_eq (x : Item) : impl_validItem x = some (itemB x) := by
  unfold impl_validItem itemB
  rw [isAmount_eq]
  by_cases h1 : x.Kind ≥ 0
  · by_cases h2 : x.Kind ≤ 3
    · have : inB x.Kind 0 3 = true := inB_iff.2 ⟨h1, h2⟩
      simp [h1, h2, this]
    · have : inB x.Kind 0 3 = false := by unfold inB; simp; omega
      simp [h1, h2, this]
  · have : inB x.Kind 0 3 = false := by unfold inB; simp; omega
    simp [h1, this]
theorem validItems_eq (xs : List Item) (hn : xs.length ≤ 4611686018427387904) : impl_ValidItems xs = some (xs.all itemB && decide (xs.length ≤ 40)) := by
  unfold impl_ValidItems
  have key := scan_all (tb := impl_ValidItems_b1 xs) xs.length hn (fun i => (xs[i]?).all itemB) () ()
    (by
      intro i hi
      simp only [impl_ValidItems_b1, rd_coe, List.getElem?_eq_getElem hi, Option.bind_some, validItem_eq, Option.all_some]
      rw [if_pos (by simpa using hi)]
      cases itemB xs[i] <;> simp)
    (by simp [impl_ValidItems_b1])
  rw [key, all_get]
  have : decide ((xs.length : Int) ≤ 40) = decide (xs.length ≤ 40) := by rw [Bool.eq_iff_iff, decide_eq_true_eq, decide_eq_true_eq]; omega
  cases xs.all itemB <;> simp [this]
theorem balance_same (xs : List Item) (hn : xs.length ≤ 4611686018427387904) : ∃ v, impl_balance xs = some v ∧ spec_l05Balance xs = some v := by
  have : ∃ r r2 : Int, Lw (impl_balance_b1 xs) (0, 0) = some r ∧ Lw (spec_l05Balance_b1 xs) (0, 0) = some r2 ∧ r = r2 := by
    refine Lw_sim (tb := impl_balance_b1 xs) (tb2 := spec_l05Balance_b1 xs) (fun s => xs.length - s.2.toNat) (fun s s2 => s = s2 ∧ ∃ i : Nat, s.2 = i ∧ i ≤ xs.length) _ ?_ _ _ _ rfl ⟨rfl, 0, rfl, by omega⟩
    rintro ⟨a, j⟩ s2 ⟨rfl, i, hi, hil⟩
    simp only at hi
    subst hi
    by_cases hlt : i < xs.length
    · have hr : rd xs (i : Int) = some xs[i] := by rw [rd_coe, List.getElem?_eq_getElem hlt]
      have w := w64s hlt (by omega)
      left
      by_cases k0 : xs[i].Kind = 0
      · exact ⟨(IntKind.i64.wrap (a + xs[i].Amount), ((i + 1 : Nat) : Int)), _, by simp [impl_balance_b1, hlt, hr, k0, w], by simp [spec_l05Balance_b1, hlt, hr, k0, w], ⟨rfl, i + 1, rfl, by omega⟩, by simp; omega⟩
      · by_cases k1 : xs[i].Kind = 1
        · exact ⟨(IntKind.i64.wrap (a + xs[i].Amount), ((i + 1 : Nat) : Int)), _, by simp [impl_balance_b1, hlt, hr, k1, w], by simp [spec_l05Balance_b1, hlt, hr, k1, w], ⟨rfl, i + 1, rfl, by omega⟩, by simp; omega⟩
        · exact ⟨(IntKind.i64.wrap (a - xs[i].Amount), ((i + 1 : Nat) : Int)), _, by simp [impl_balance_b1, hlt, hr, k0, k1, w], by simp [spec_l05Balance_b1, hlt, hr, k0, k1, w], ⟨rfl, i + 1, rfl, by omega⟩, by simp; omega⟩
    · exact .inr ⟨a, a, by simp [impl_balance_b1, hlt], by simp [spec_l05Balance_b1, hlt], rfl⟩
  obtain ⟨r, _, e1, e2, rfl⟩ := this
  exact ⟨r, by unfold impl_balance; rw [e1]; rfl, by unfold spec_l05Balance; rw [e2]; rfl⟩
theorem slc0 {τ : Type} (xs : List τ) (n : Nat) (h : n ≤ xs.length) : slc xs 0 (n : Int) = some (xs.take n) := by
  unfold slc
  rw [if_pos ⟨by omega, by omega, by omega⟩]; simp
end Go.Proofs.YtbhbmgmnnkcmcaaDoor
/- Texts put together. -/
namespace Go.Proofs.YtbhbmgmnnkcmcaaDoor
open Go Go.Ab
theorem sadd_some {a b : List UInt8} (h : a.length + b.length ≤ 9223372036854775807) : sadd a b = some (a ++ b) := by
  unfold sadd
  rw [if_neg (by have : IntKind.i64.max = 9223372036854775807 := rfl; rw [this]; omega)]
end Go.Proofs.YtbhbmgmnnkcmcaaDoor
/- Numbers written out. -/
namespace Go.Proofs.YtbhbmgmnnkcmcaaDoor
open Go Go.Ab
/-- a number's text -/
noncomputable def tx (n : Int) : List UInt8 := Lib.decDigits n.toNat
theorem decDigits_le : ∀ (k n : Nat), n < 10 ^ (k + 1) → (Lib.decDigits n).length ≤ k + 1
  | 0, n, h => by
    rw [Lib.decDigits, dif_pos (by omega)]
    simp
  | k + 1, n, h => by
    rw [Lib.decDigits]
    split
    · simp
    · have := decDigits_le k (n / 10) (by rw [Nat.pow_succ] at h; omega)
      simp only [List.length_append, List.length_singleton]
      omega
theorem dig_eq {n : Nat} (h : n < 10) : toB [IntKind.u8.wrap (IntKind.i64.wrap (48 + (n : Int)))] = [UInt8.ofNat (48 + n)] := by
  rw [w64 (by omega)]
  have : IntKind.u8.wrap (48 + (n : Int)) = 48 + (n : Int) := by simp [IntKind.wrap, IntKind.signed, IntKind.bits]; omega
  rw [this]
  simp only [toB, List.map_cons, List.map_nil]
  congr 2
theorem decimal_F : ∀ (k n : Nat), n < 10 ^ (k + 1) → n ≤ 9223372036854775807 → k ≤ 100 → spec_Decimal_F (k + 1) (n : Int) = some (Lib.decDigits n)
  | k, n, h, h1, hk => by
    rw [spec_Decimal_F, Lib.decDigits]
    have hr : rem .i64 (n : Int) 10 = some ((n % 10 : Nat) : Int) := by
      unfold rem
      rw [if_neg (by decide)]
      congr 1
    by_cases hn : n < 10
    · rw [if_pos (by simpa using (by omega : (n : Int) < 10)), dif_pos hn, hr, Option.bind_some, dig_eq (by omega), Nat.mod_eq_of_lt hn]
    · rw [if_neg (by simpa using (by omega : ¬ (n : Int) < 10)), dif_neg hn]
      have hq : quo .i64 (n : Int) 10 = some ((n / 10 : Nat) : Int) := by
        unfold quo
        rw [if_neg (by decide)]
        congr 1
        have : ((n : Int).tdiv 10) = ((n / 10 : Nat) : Int) := rfl
        rw [this, w64 (by omega)]
      rw [hq, Option.bind_some]
      cases k with
      | zero => omega
      | succ k =>
        have hlt : n / 10 < 10 ^ (k + 1) := by rw [Nat.pow_succ] at h; omega
        rw [decimal_F k (n / 10) hlt (by omega) (by omega), Option.bind_some, hr, Option.bind_some, dig_eq (by omega)]
        have hl := decDigits_le k (n / 10) hlt
        rw [sadd_some (by simp only [List.length_singleton]; omega), Option.bind_some]
theorem dec_s {n : Int} (h0 : 0 ≤ n) (h1 : n ≤ 9223372036854775807) : spec_Decimal n = some (tx n) := by
  obtain ⟨m, rfl⟩ : ∃ m : Nat, n = m := ⟨n.toNat, by omega⟩
  unfold spec_Decimal tx
  exact decimal_F 63 m (Nat.lt_of_le_of_lt (by omega : m ≤ 9223372036854775807) (by decide)) (by omega) (by omega)
theorem dec_i {n : Int} (h0 : 0 ≤ n) (h1 : n ≤ 9223372036854775807) : impl_decimal n = some (tx n) := by
  obtain ⟨m, rfl⟩ : ∃ m : Nat, n = m := ⟨n.toNat, by omega⟩
  unfold impl_decimal strconv_FormatInt fmtI tx
  rw [if_pos ⟨rfl, by omega, h1⟩, Lib.itoa_nonneg]
  rfl
theorem tx_len {n : Int} (h0 : 0 ≤ n) (h1 : n ≤ 9223372036854775807) : (tx n).length ≤ 19 := by
  unfold tx
  exact decDigits_le 18 _ (by omega)
theorem tx_pos (n : Int) : 0 < (tx n).length := by
  unfold tx
  rw [Lib.decDigits]
  split <;> simp
end Go.Proofs.YtbhbmgmnnkcmcaaDoor
/- Amounts written out. -/
namespace Go.Proofs.YtbhbmgmnnkcmcaaDoor
open Go Go.Ab
/-- one part of an amount -/
noncomputable def amt1 (n : Int) (c : UInt8) : List (List UInt8) := if n > 0 then [tx n ++ [c]] else []
noncomputable def amtT (a : Int) : List UInt8 := if a = 0 then [48, 100] else Lib.join (amt1 (a / 240) 108 ++ (amt1 (a / 12 % 20) 115 ++ amt1 (a % 12) 100)) [32]
theorem quo_pos {a b : Int} (h0 : 0 ≤ a) (h1 : a ≤ 9223372036854775807) (hb : 0 < b) : quo .i64 a b = some (a / b) := by
  unfold quo
  rw [if_neg (by omega), Int.tdiv_eq_ediv_of_nonneg h0]
  have := Int.ediv_nonneg h0 (by omega : 0 ≤ b)
  have h2 : a / b ≤ a := Int.ediv_le_self b h0
  rw [w64 (by omega)]
theorem rem_pos {a b : Int} (h0 : 0 ≤ a) (hb : 0 < b) : rem .i64 a b = some (a % b) := by
  unfold rem
  rw [if_neg (by omega), Int.tmod_eq_emod_of_nonneg h0]
theorem amt1_len {n : Int} {c : UInt8} (h0 : 0 ≤ n) (h1 : n ≤ 9223372036854775807) : (amt1 n c).length ≤ 1 ∧ ∀ s ∈ amt1 n c, s.length ≤ 20 := by
  unfold amt1
  have := tx_len h0 h1
  split <;> simp <;> omega
theorem join_len : ∀ (xs : List (List UInt8)) (k : Nat), (∀ s ∈ xs, s.length ≤ k) → (Lib.join xs [32]).length ≤ xs.length * (k + 1)
  | [], k, _ => by simp [Lib.join]
  | x :: r, k, h => by
    have hx := h x (by simp)
    rw [Lib.join_cons]
    have : ∀ r : List (List UInt8), (∀ s ∈ r, s.length ≤ k) → (Lib.joinTail [32] r).length ≤ r.length * (k + 1) := by
      intro r
      induction r with
      | nil => intro _; simp [Lib.joinTail]
      | cons y q ih =>
        intro hy
        have h1 := ih (fun s hs => hy s (by simp [hs]))
        have h2 := hy y (by simp)
        simp only [Lib.joinTail, List.map_cons, List.flatten_cons, List.length_append, List.length_cons, List.length_nil] at h1 ⊢
        rw [Nat.add_mul]
        omega
    have h3 := this r (fun s hs => h s (by simp [hs]))
    simp only [List.length_append, List.length_cons]
    rw [Nat.add_mul]
    omega
theorem amt_i {a : Int} (h0 : 0 ≤ a) (h1 : a ≤ 100000000) : impl_AmountText a = some (amtT a) := by
  unfold impl_AmountText amtT
  rw [isAmount_eq, Option.bind_some, if_pos (inB_iff.2 ⟨h0, h1⟩)]
  by_cases hz : a = 0
  · subst hz; rfl
  rw [if_neg (by simpa using hz), if_neg hz, quo_pos h0 (by omega) (by decide), Option.bind_some, quo_pos h0 (by omega) (by decide), Option.bind_some, rem_pos (by omega) (by decide), Option.bind_some, rem_pos h0 (by decide), Option.bind_some]
  have b1 : 0 ≤ a / 240 ∧ a / 240 ≤ 1000000 := by omega
  have b2 : 0 ≤ a / 12 % 20 ∧ a / 12 % 20 ≤ 1000000 := by omega
  have b3 : 0 ≤ a % 12 ∧ a % 12 ≤ 1000000 := by omega
  revert b1 b2 b3
  generalize a / 240 = l, a / 12 % 20 = s, a % 12 = d
  intro b1 b2 b3
  have step : ∀ (i : Nat) (n : Int) (c : UInt8) (out : List (List UInt8)), i < 3 → [l, s, d][i]? = some n → ([108, 115, 100] : List UInt8)[i]? = some c → 0 ≤ n ∧ n ≤ 1000000 → out.length ≤ 3 →
      impl_AmountText_b1 l s d ((i : Int), out) = some (.inl (((i + 1 : Nat) : Int), out ++ amt1 n c)) := by
    intro i n c out hi hn hc hb ho
    have w := w64s (n := 3) hi (by omega)
    have hs : slc ([108, 115, 100] : List UInt8) (i : Int) ((i + 1 : Nat) : Int) = some [c] := by
      unfold slc
      rw [if_pos ⟨by omega, by omega, by simp only [List.length_cons, List.length_nil]; omega⟩]
      match i, hi, hc with
      | 0, _, hc => cases hc; rfl
      | 1, _, hc => cases hc; rfl
      | 2, _, hc => cases hc; rfl
    have hlen := tx_len (n := n) hb.1 (by omega)
    unfold impl_AmountText_b1 amt1
    simp only [List.length_cons, List.length_nil, rd_coe, hn, Option.bind_some, w, hs]
    rw [if_pos (by simpa using (by omega : (i : Int) < 3))]
    by_cases hp : n > 0
    · rw [if_pos (by simpa using hp), if_pos hp, dec_i hb.1 (by omega), Option.bind_some, sadd_some (by simp only [List.length_singleton]; omega), Option.bind_some, app_some (by simp only [List.length_singleton]; omega) (by decide), Option.bind_some]
    · rw [if_neg (by simpa using hp), if_neg hp, List.append_nil]
  have l1 := (amt1_len (n := l) (c := 108) b1.1 (by omega)).1
  have l2 := (amt1_len (n := s) (c := 115) b2.1 (by omega)).1
  have l3 := (amt1_len (n := d) (c := 100) b3.1 (by omega)).1
  have e0 := step 0 l 108 [] (by omega) rfl rfl b1 (by simp)
  have e1 := step 1 s 115 (amt1 l 108) (by omega) rfl rfl b2 (by omega)
  have e2 := step 2 d 100 (amt1 l 108 ++ amt1 s 115) (by omega) rfl rfl b3 (by simp only [List.length_append]; omega)
  have e3 : impl_AmountText_b1 l s d (((2 + 1 : Nat) : Int), amt1 l 108 ++ amt1 s 115 ++ amt1 d 100) = some (.inr (amt1 l 108 ++ amt1 s 115 ++ amt1 d 100)) := by
    unfold impl_AmountText_b1
    simp
  have hl : Lw (impl_AmountText_b1 l s d) (0, []) = some (amt1 l 108 ++ (amt1 s 115 ++ amt1 d 100)) := by
    rw [← List.append_assoc]
    exact (Lw_step e0).trans ((Lw_step e1).trans ((Lw_step e2).trans (Lw_stop e3)))
  rw [hl, Option.bind_some]
  have hj := join_len (amt1 l 108 ++ (amt1 s 115 ++ amt1 d 100)) 20 (fun x hx => by
    rcases List.mem_append.1 hx with h | h
    · exact (amt1_len b1.1 (by omega)).2 x h
    · rcases List.mem_append.1 h with h | h
      · exact (amt1_len b2.1 (by omega)).2 x h
      · exact (amt1_len b3.1 (by omega)).2 x h)
  have hn : (amt1 l 108 ++ (amt1 s 115 ++ amt1 d 100)).length ≤ 3 := by simp only [List.length_append]; omega
  have : (amt1 l 108 ++ (amt1 s 115 ++ amt1 d 100)).length * 21 ≤ 63 := by omega
  unfold strings_Join joinI
  rw [if_pos ⟨by omega, by omega⟩]
  rfl
theorem part_s {out : List UInt8} {n : Int} {c : UInt8} (h0 : 0 ≤ n) (h1 : n ≤ 1000000) (ho : out.length ≤ 100) : spec_l01Part out n [c] = some (if n = 0 then out else if out = [] then tx n ++ [c] else out ++ [32] ++ tx n ++ [c]) := by
  unfold spec_l01Part
  have hl := tx_len h0 (by omega)
  by_cases hz : n = 0
  · rw [if_pos (by simpa using hz), if_pos hz]
  rw [if_neg (by simpa using hz), if_neg hz]
  by_cases he : out = []
  · subst he
    rw [if_pos (by simp), if_pos rfl, dec_s h0 (by omega), Option.bind_some, sadd_some (by simp only [List.length_nil]; omega), Option.bind_some, sadd_some (by simp only [List.length_append, List.length_nil, List.length_singleton]; omega)]
    rfl
  · rw [if_neg (by simpa using he), if_neg he, sadd_some (by simp only [List.length_singleton]; omega), Option.bind_some, dec_s h0 (by omega), Option.bind_some, sadd_some (by simp only [List.length_append, List.length_singleton]; omega), Option.bind_some, sadd_some (by simp only [List.length_append, List.length_singleton]; omega)]
    rfl
theorem amt_s {a : Int} (h0 : 0 ≤ a) (h1 : a ≤ 100000000) : spec_l01AmountText a = some (amtT a) := by
  unfold spec_l01AmountText amtT
  by_cases hz : a = 0
  · subst hz; rfl
  rw [if_neg (by simpa using hz), if_neg hz, quo_pos h0 (by omega) (by decide), Option.bind_some, quo_pos h0 (by omega) (by decide), rem_pos h0 (by decide)]
  have b0 : ¬ (a / 240 = 0 ∧ a / 12 % 20 = 0 ∧ a % 12 = 0) := by omega
  have b1 : 0 ≤ a / 240 ∧ a / 240 ≤ 1000000 := by omega
  have b2 : 0 ≤ a / 12 % 20 ∧ a / 12 % 20 ≤ 1000000 := by omega
  have b3 : 0 ≤ a % 12 ∧ a % 12 ≤ 1000000 := by omega
  have hm := rem_pos (a := a / 12) (b := 20) (by omega) (by decide)
  simp only [Option.bind_some, hm]
  revert b0 b1 b2 b3
  generalize a / 240 = l, a / 12 % 20 = s, a % 12 = d
  intro b0 b1 b2 b3
  have t1 := tx_len (n := l) b1.1 (by omega)
  have t2 := tx_len (n := s) b2.1 (by omega)
  have t3 := tx_len (n := d) b3.1 (by omega)
  have p1 : l = 0 ∨ l > 0 := by omega
  have p2 : s = 0 ∨ s > 0 := by omega
  have p3 : d = 0 ∨ d > 0 := by omega
  rw [part_s b1.1 b1.2 (by simp)]
  simp only [Option.bind_some, if_true]
  rcases p1 with rfl | p1 <;> rcases p2 with rfl | p2 <;> rcases p3 with rfl | p3
  · exact absurd ⟨rfl, rfl, rfl⟩ b0
  all_goals
    simp (config := { decide := true }) only [if_true, if_false, amt1, List.nil_append, List.append_nil, Int.ne_of_gt, *]
    rw [part_s (by omega) (by omega) (by simp; try omega)]
    simp (config := { decide := true }) only [Option.bind_some, if_true, if_false, Int.ne_of_gt, *]
    rw [part_s (by omega) (by omega) (by simp; try omega)]
    simp [Lib.join, List.intercalate, Int.ne_of_gt, *]
theorem amtT_len {a : Int} (h0 : 0 ≤ a) (h1 : a ≤ 100000000) : (amtT a).length ≤ 63 := by
  unfold amtT
  split
  · simp
  have b1 : 0 ≤ a / 240 ∧ a / 240 ≤ 1000000 := by omega
  have b2 : 0 ≤ a / 12 % 20 ∧ a / 12 % 20 ≤ 1000000 := by omega
  have b3 : 0 ≤ a % 12 ∧ a % 12 ≤ 1000000 := by omega
  have k1 := amt1_len (n := a / 240) (c := 108) b1.1 (by omega)
  have k2 := amt1_len (n := a / 12 % 20) (c := 115) b2.1 (by omega)
  have k3 := amt1_len (n := a % 12) (c := 100) b3.1 (by omega)
  have hj := join_len (amt1 (a / 240) 108 ++ (amt1 (a / 12 % 20) 115 ++ amt1 (a % 12) 100)) 20 (fun x hx => by
    rcases List.mem_append.1 hx with h | h
    · exact k1.2 x h
    · rcases List.mem_append.1 h with h | h
      · exact k2.2 x h
      · exact k3.2 x h)
  have hn : (amt1 (a / 240) 108 ++ (amt1 (a / 12 % 20) 115 ++ amt1 (a % 12) 100)).length ≤ 3 := by simp only [List.length_append]; omega
  have : (amt1 (a / 240) 108 ++ (amt1 (a / 12 % 20) 115 ++ amt1 (a % 12) 100)).length * 21 ≤ 63 := by omega
  omega
end Go.Proofs.YtbhbmgmnnkcmcaaDoor
/- Texts put together line by line. -/
namespace Go.Proofs.YtbhbmgmnnkcmcaaDoor
open Go Go.Ab
theorem text_loop {τ : Type} {tb : List UInt8 × Int → Option ((List UInt8 × Int) ⊕ List UInt8)} (xs : List τ) (f : τ → List UInt8) (pre : List UInt8)
    (hs : ∀ (i : Nat) (hi : i < xs.length) (o : List UInt8), o = pre ++ ((xs.take i).map f).flatten → tb (o, (i : Int)) = some (.inl (o ++ f xs[i], ((i + 1 : Nat) : Int)))) (he : ∀ o, tb (o, (xs.length : Int)) = some (.inr o)) :
    Lw tb (pre, 0) = some (pre ++ (xs.map f).flatten) := by
  have key := Lw_run (tb := tb) (fun i => (pre ++ ((xs.take i).map f).flatten, (i : Int))) xs.length (r := pre ++ (xs.map f).flatten)
    (fun i hi => by
      rw [hs i hi _ rfl, List.take_succ_eq_append_getElem hi]
      simp only [List.map_append, List.map_cons, List.map_nil, List.flatten_append, List.flatten_cons, List.flatten_nil, List.append_nil, List.append_assoc])
    (by rw [he, List.take_length])
  simpa using key
theorem flat_len {τ : Type} (f : τ → List UInt8) (k : Nat) : ∀ (xs : List τ), (∀ x ∈ xs, (f x).length ≤ k) → ((xs.map f).flatten).length ≤ xs.length * k
  | [], _ => by simp
  | x :: r, h => by
    have h1 := h x (by simp)
    have h2 := flat_len f k r (fun y hy => h y (by simp [hy]))
    simp only [List.map_cons, List.flatten_cons, List.length_append, List.length_cons]
    rw [Nat.add_mul]; omega
theorem flat_take {τ : Type} (f : τ → List UInt8) (k : Nat) (xs : List τ) (h : ∀ x ∈ xs, (f x).length ≤ k) (i : Nat) : (((xs.take i).map f).flatten).length ≤ xs.length * k := by
  have := flat_len f k (xs.take i) (fun x hx => h x (List.mem_of_mem_take hx))
  have h2 : (xs.take i).length * k ≤ xs.length * k := Nat.mul_le_mul_right _ (by simp; omega)
  omega
end Go.Proofs.YtbhbmgmnnkcmcaaDoor
/- Accounts written out. -/
namespace Go.Proofs.YtbhbmgmnnkcmcaaDoor
open Go Go.Ab
def wordT (k : Int) : List UInt8 := ([[102, 97, 114, 109], [100, 101, 98, 116], [112, 97, 105, 100], [97, 108, 108, 111, 119, 101, 100]] : List (List UInt8)).getD k.toNat []
noncomputable def itemT (x : Item) : List UInt8 := wordT x.Kind ++ [32] ++ amtT x.Amount ++ [10]
noncomputable def tailT (n : Int) : List UInt8 := if n > 0 then [111, 119, 101, 115, 32] ++ amtT n ++ [10] else if n < 0 then [111, 118, 101, 114, 32] ++ amtT (-n) ++ [10] else [113, 117, 105, 116, 10]
noncomputable def accT (a : Account) : List UInt8 := a.Title ++ [10] ++ (a.Items.map itemT).flatten ++ tailT a.Balance
structure AcI (a : Account) : Prop where
  title : 1 ≤ a.Title.length ∧ a.Title.length ≤ 16
  items : a.Items.length ≤ 40
  item : ∀ x ∈ a.Items, itemB x = true
  bal : -100000000 ≤ a.Balance ∧ a.Balance ≤ 100000000
theorem word_rd {k : Int} (h : inB k 0 3 = true) : rd ([[102, 97, 114, 109], [100, 101, 98, 116], [112, 97, 105, 100], [97, 108, 108, 111, 119, 101, 100]] : List (List UInt8)) k = some (wordT k) ∧ (wordT k).length ≤ 7 := by
  obtain ⟨h0, h1⟩ := inB_iff.1 h
  have : k = 0 ∨ k = 1 ∨ k = 2 ∨ k = 3 := by omega
  rcases this with rfl | rfl | rfl | rfl <;> exact ⟨rfl, by decide⟩
theorem itemT_len {x : Item} (h : itemB x = true) : (itemT x).length ≤ 80 := by
  unfold itemB at h
  simp only [Bool.and_eq_true] at h
  have h1 := (word_rd h.1).2
  have h2 := inB_iff.1 h.2
  have h3 := amtT_len h2.1 h2.2
  unfold itemT
  simp only [List.length_append, List.length_singleton]
  omega
theorem tailT_len {n : Int} (h0 : -100000000 ≤ n) (h1 : n ≤ 100000000) : (tailT n).length ≤ 80 := by
  unfold tailT
  split
  · have := amtT_len (a := n) (by omega) h1
    simp only [List.length_append, List.length_cons, List.length_nil]; omega
  · split
    · have := amtT_len (a := -n) (by omega) (by omega)
      simp only [List.length_append, List.length_cons, List.length_nil]; omega
    · simp
theorem accT_len {a : Account} (h : AcI a) : (accT a).length ≤ 3400 := by
  have h1 := flat_len itemT 80 a.Items (fun x hx => itemT_len (h.item x hx))
  have h2 := tailT_len h.bal.1 h.bal.2
  have h3 := h.title
  have h4 := h.items
  unfold accT
  simp only [List.length_append, List.length_singleton]
  omega
theorem items_i (a : Account) (h : AcI a) : Lw (impl_AccountText_b1 a) (a.Title ++ [10], 0) = some (a.Title ++ [10] ++ (a.Items.map itemT).flatten) ∧ Lw (spec_l05Text_b1 a) (a.Title ++ [10], 0) = some (a.Title ++ [10] ++ (a.Items.map itemT).flatten) := by
  have step : ∀ (i : Nat) (hi : i < a.Items.length) (o : List UInt8), o = a.Title ++ [10] ++ ((a.Items.take i).map itemT).flatten →
      impl_AccountText_b1 a (o, (i : Int)) = some (.inl (o ++ itemT a.Items[i], ((i + 1 : Nat) : Int))) ∧ spec_l05Text_b1 a (o, (i : Int)) = some (.inl (o ++ itemT a.Items[i], ((i + 1 : Nat) : Int))) := by
    intro i hi o ho
    have hx := h.item _ (List.getElem_mem hi)
    have hl := itemT_len hx
    have hb := hx
    unfold itemB at hb
    simp only [Bool.and_eq_true] at hb
    have w := w64s hi (by have := h.items; omega)
    have hr : rd a.Items (i : Int) = some a.Items[i] := by rw [rd_coe, List.getElem?_eq_getElem hi]
    obtain ⟨k1, k2⟩ := word_rd hb.1
    have b2 := inB_iff.1 hb.2
    have k3 := amtT_len b2.1 b2.2
    have ol : o.length ≤ 17 + 40 * 80 := by
      have := flat_take itemT 80 a.Items (fun x hx => itemT_len (h.item x hx)) i
      have h1 := h.title
      have h2 : a.Items.length * 80 ≤ 40 * 80 := Nat.mul_le_mul_right _ h.items
      rw [ho]
      simp only [List.length_append, List.length_singleton]
      omega
    have s1 : sadd (wordT a.Items[i].Kind) [32] = some (wordT a.Items[i].Kind ++ [32]) := sadd_some (by simp only [List.length_singleton]; omega)
    have s2 : sadd (wordT a.Items[i].Kind ++ [32]) (amtT a.Items[i].Amount) = some (wordT a.Items[i].Kind ++ [32] ++ amtT a.Items[i].Amount) := sadd_some (by simp only [List.length_append, List.length_singleton]; omega)
    have s3 : sadd (wordT a.Items[i].Kind ++ [32] ++ amtT a.Items[i].Amount) [10] = some (itemT a.Items[i]) := sadd_some (by simp only [List.length_append, List.length_singleton]; omega)
    have s4 : sadd o (itemT a.Items[i]) = some (o ++ itemT a.Items[i]) := sadd_some (by omega)
    have e1 := amt_i b2.1 b2.2
    have e2 := amt_s b2.1 b2.2
    constructor
    · unfold impl_AccountText_b1 impl_itemWords
      simp only [hr, Option.bind_some, k1, s1, e1, s2, s3, s4, w]
      rw [if_pos (by simpa using hi)]
    · unfold spec_l05Text_b1 spec_l05Words
      simp only [hr, Option.bind_some, k1, s1, e2, s2, s3, s4, w]
      rw [if_pos (by simpa using hi)]
  exact ⟨text_loop a.Items itemT _ (fun i hi o ho => (step i hi o ho).1) (fun o => by simp [impl_AccountText_b1]), text_loop a.Items itemT _ (fun i hi o ho => (step i hi o ho).2) (fun o => by simp [spec_l05Text_b1])⟩
theorem size_amount {n : Int} (h : InR .i64 n) : (impl_size n).bind impl_isAmount = some (inB n (-100000000) 100000000) := by
  obtain ⟨h0, h1⟩ := inR64.1 h
  unfold impl_size
  rw [Option.bind_some, isAmount_eq]
  congr 1
  by_cases hm : n = -9223372036854775808
  · subst hm
    have : IntKind.i64.wrap (0 - (-9223372036854775808)) = -9223372036854775808 := by decide
    rw [this]; decide
  · rw [w64 (by omega), Bool.eq_iff_iff, inB_iff, inB_iff]
    omega
theorem text_s (a : Account) (h : AcI a) : spec_l05Text a = some (accT a) := by
  have h1 := h.title
  have hf := flat_len itemT 80 a.Items (fun x hx => itemT_len (h.item x hx))
  have h2 : a.Items.length * 80 ≤ 40 * 80 := Nat.mul_le_mul_right _ h.items
  have hp : (a.Title ++ [10] ++ (a.Items.map itemT).flatten).length ≤ 3300 := by simp only [List.length_append, List.length_singleton]; omega
  have ht := tailT_len h.bal.1 h.bal.2
  have hb := h.bal
  unfold spec_l05Text accT
  rw [sadd_some (by simp only [List.length_singleton]; omega), Option.bind_some, (items_i a h).2, Option.bind_some]
  generalize a.Title ++ [10] ++ (a.Items.map itemT).flatten = o at hp
  unfold tailT at ht ⊢
  by_cases k1 : a.Balance > 0
  · rw [if_pos (by simpa using k1), if_pos k1, amt_s (by omega) (by omega)]
    rw [if_pos k1] at ht
    simp only [List.length_append, List.length_cons, List.length_nil] at ht
    rw [sadd_some (by simp only [List.length_cons, List.length_nil]; omega), Option.bind_some, Option.bind_some, sadd_some (by simp only [List.length_append, List.length_cons, List.length_nil]; omega), Option.bind_some, sadd_some (by simp only [List.length_append, List.length_cons, List.length_nil]; omega)]
    simp
  · rw [if_neg (by simpa using k1), if_neg k1]
    rw [if_neg k1] at ht
    by_cases k2 : a.Balance < 0
    · have w : IntKind.i64.wrap (0 - a.Balance) = -a.Balance := by rw [w64 (by omega)]; omega
      rw [if_pos (by simpa using k2), if_pos k2, w, amt_s (by omega) (by omega)]
      rw [if_pos k2] at ht
      simp only [List.length_append, List.length_cons, List.length_nil] at ht
      rw [sadd_some (by simp only [List.length_cons, List.length_nil]; omega), Option.bind_some, Option.bind_some, sadd_some (by simp only [List.length_append, List.length_cons, List.length_nil]; omega), Option.bind_some, sadd_some (by simp only [List.length_append, List.length_cons, List.length_nil]; omega)]
      simp
    · rw [if_neg (by simpa using k2), if_neg k2, sadd_some (by simp only [List.length_cons, List.length_nil]; omega)]
      simp
theorem text_i (a : Account) (h : AcI a) (hc : impl_CheckAccount a = some true) (hs : (impl_size a.Balance).bind impl_isAmount = some true) : impl_AccountText a = some (accT a) := by
  have h1 := h.title
  have hf := flat_len itemT 80 a.Items (fun x hx => itemT_len (h.item x hx))
  have h2 : a.Items.length * 80 ≤ 40 * 80 := Nat.mul_le_mul_right _ h.items
  have hp : (a.Title ++ [10] ++ (a.Items.map itemT).flatten).length ≤ 3300 := by simp only [List.length_append, List.length_singleton]; omega
  have ht := tailT_len h.bal.1 h.bal.2
  have hb := h.bal
  obtain ⟨r, r1, r2⟩ := bind_some hs
  unfold impl_AccountText accT
  simp only [hc, r1, r2, Option.bind_some, if_true, Bool.not_true, Bool.false_eq_true, if_false]
  rw [sadd_some (by simp only [List.length_singleton]; omega), Option.bind_some, (items_i a h).1, Option.bind_some]
  generalize a.Title ++ [10] ++ (a.Items.map itemT).flatten = o at hp
  unfold tailT at ht ⊢
  by_cases k1 : a.Balance > 0
  · rw [if_pos (by simpa using k1), if_pos k1, amt_i (by omega) (by omega)]
    rw [if_pos k1] at ht
    simp only [List.length_append, List.length_cons, List.length_nil] at ht
    rw [sadd_some (by simp only [List.length_cons, List.length_nil]; omega), Option.bind_some, Option.bind_some, sadd_some (by simp only [List.length_append, List.length_cons, List.length_nil]; omega), Option.bind_some, sadd_some (by simp only [List.length_append, List.length_cons, List.length_nil]; omega)]
    simp
  · rw [if_neg (by simpa using k1), if_neg k1]
    rw [if_neg k1] at ht
    by_cases k2 : a.Balance < 0
    · have w : IntKind.i64.wrap (0 - a.Balance) = -a.Balance := by rw [w64 (by omega)]; omega
      rw [if_pos (by simpa using k2), if_pos k2, w, amt_i (by omega) (by omega)]
      rw [if_pos k2] at ht
      simp only [List.length_append, List.length_cons, List.length_nil] at ht
      rw [sadd_some (by simp only [List.length_cons, List.length_nil]; omega), Option.bind_some, Option.bind_some, sadd_some (by simp only [List.length_append, List.length_cons, List.length_nil]; omega), Option.bind_some, sadd_some (by simp only [List.length_append, List.length_cons, List.length_nil]; omega)]
      simp
    · rw [if_neg (by simpa using k2), if_neg k2, sadd_some (by simp only [List.length_cons, List.length_nil]; omega)]
      simp
end Go.Proofs.YtbhbmgmnnkcmcaaDoor
/- A text cut at a byte. -/
namespace Go.Proofs.YtbhbmgmnnkcmcaaDoor
open Go Go.Ab
def consH (b : UInt8) : List (List UInt8) → List (List UInt8)
  | [] => [[b]]
  | p :: r => (b :: p) :: r
/-- the pieces of a text between the bytes c -/
def pcs (c : UInt8) : List UInt8 → List (List UInt8)
  | [] => [[]]
  | b :: l => if b = c then [] :: pcs c l else consH b (pcs c l)
theorem pcs_ne (c : UInt8) (s : List UInt8) : pcs c s ≠ [] := by
  cases s with
  | nil => simp [pcs]
  | cons b l =>
    unfold pcs
    split
    · simp
    · cases pcs c l <;> simp [consH]
theorem pcs_no {c : UInt8} : ∀ {p : List UInt8}, c ∉ p → pcs c p = [p]
  | [], _ => rfl
  | b :: l, h => by
    have h1 : ¬ b = c := fun e => h (by simp [e])
    have h2 : c ∉ l := fun e => h (by simp [e])
    rw [pcs, if_neg h1, pcs_no h2]; rfl
theorem pcs_app {c : UInt8} (q : List UInt8) : ∀ (p : List UInt8), pcs c (p ++ c :: q) = pcs c p ++ pcs c q
  | [] => by simp [pcs]
  | b :: l => by
    rw [List.cons_append, pcs, pcs, pcs_app q l]
    split
    · rfl
    · cases h : pcs c l with
      | nil => exact absurd h (pcs_ne c l)
      | cons x r => rfl
theorem pcs_mem {c : UInt8} : ∀ {s p : List UInt8}, p ∈ pcs c s → c ∉ p
  | [], p, h => by simp [pcs] at h; simp [h]
  | b :: l, p, h => by
    rw [pcs] at h
    split at h
    · rcases List.mem_cons.1 h with rfl | h
      · simp
      · exact pcs_mem h
    · rename_i hb
      cases hp : pcs c l with
      | nil => exact absurd hp (pcs_ne c l)
      | cons x r =>
        rw [hp] at h
        have ih : ∀ q, q ∈ x :: r → c ∉ q := fun q hq => pcs_mem (hp ▸ hq)
        rcases List.mem_cons.1 h with rfl | h
        · intro hc
          rcases List.mem_cons.1 hc with e | e
          · exact hb e.symm
          · exact ih x (by simp) e
        · exact ih p (by simp [h])
theorem pcs_join {c : UInt8} : ∀ (s : List UInt8), Lib.join (pcs c s) [c] = s
  | [] => by simp [pcs, Lib.join]
  | b :: l => by
    have ih := pcs_join (c := c) l
    rw [pcs]
    split
    · rename_i hb
      cases hp : pcs c l with
      | nil => exact absurd hp (pcs_ne c l)
      | cons x r =>
        rw [hp] at ih
        rw [Lib.join_cons] at ih ⊢
        simp only [Lib.joinTail, List.map_cons, List.flatten_cons, List.nil_append, List.cons_append] at ih ⊢
        rw [hb, ih]
    · cases hp : pcs c l with
      | nil => exact absurd hp (pcs_ne c l)
      | cons x r =>
        rw [hp] at ih
        unfold consH
        rw [Lib.join_cons] at ih ⊢
        rw [List.cons_append, ih]
theorem pcs_len {c : UInt8} : ∀ (s : List UInt8), (pcs c s).length ≤ s.length + 1
  | [] => by simp [pcs]
  | b :: l => by
    have ih := pcs_len (c := c) l
    rw [pcs]
    split
    · simpa using ih
    · cases hp : pcs c l with
      | nil => simp [consH]
      | cons x r => rw [hp] at ih; simp only [consH, List.length_cons] at ih ⊢; omega
theorem pcs_sub {c : UInt8} : ∀ {s p : List UInt8}, p ∈ pcs c s → p.length ≤ s.length
  | [], p, h => by simp [pcs] at h; simp [h]
  | b :: l, p, h => by
    rw [pcs] at h
    split at h
    · rcases List.mem_cons.1 h with rfl | h
      · simp
      · have := pcs_sub h; simp; omega
    · cases hp : pcs c l with
      | nil => exact absurd hp (pcs_ne c l)
      | cons x r =>
        rw [hp] at h
        rcases List.mem_cons.1 h with rfl | h
        · have := pcs_sub (c := c) (s := l) (p := x) (by simp [hp]); simp; omega
        · have := pcs_sub (c := c) (s := l) (p := p) (by simp [hp, h]); simp; omega
theorem splitK_pcs (c : UInt8) : ∀ (s : List UInt8), Lib.splitK [c] 0 (Lib.count s [c]) s = pcs c s
  | [] => by
    rw [Lib.count_miss (by simp [Lib.index])]; rfl
  | b :: l => by
    have ih := splitK_pcs c l
    by_cases hb : b = c
    · subst hb
      have hix : Lib.index (b :: l) [b] = 0 := by rw [Lib.index]; simp [List.isPrefixOf]
      rw [Lib.count_cons_eq, Nat.add_comm, Lib.splitK, hix, pcs, if_pos rfl, ← ih]
      simp
    · have hp : ([c] : List UInt8).isPrefixOf (b :: l) = false := by simp [List.isPrefixOf, Ne.symm hb]
      have hix : Lib.index (b :: l) [c] = if Lib.index l [c] == -1 then -1 else Lib.index l [c] + 1 := by rw [Lib.index, hp]; simp
      rw [Lib.count_cons_ne b c l hb, pcs, if_neg hb, ← ih]
      by_cases hm : Lib.index l [c] = -1
      · rw [Lib.count_miss hm]; rfl
      · have hge := Lib.index_ge l [c]
        obtain ⟨j, hj⟩ : ∃ j : Nat, Lib.index l [c] = j := ⟨(Lib.index l [c]).toNat, by omega⟩
        have hix' : Lib.index (b :: l) [c] = ((j + 1 : Nat) : Int) := by rw [hix, if_neg (fun e => hm (beq_iff_eq.1 e)), hj]; omega
        rw [Lib.count_hit (by simp) hj, Nat.add_comm, Lib.splitK, Lib.splitK, hix', hj, if_neg (fun e => by have := beq_iff_eq.1 e; omega), if_neg (fun e => by have := beq_iff_eq.1 e; omega)]
        simp only [Int.toNat_natCast, Nat.add_zero, List.length_singleton, consH, List.take_succ_cons]
        simp
theorem split_i {s : List UInt8} (c : UInt8) (h : s.length ≤ 1048576) : splitI s [c] = some (pcs c s) := by
  unfold splitI
  rw [if_pos ⟨by omega, by simp⟩, Lib.splitB_data]
  congr 1
  exact splitK_pcs c s
theorem slc_some {τ : Type} {xs : List τ} {a b : Nat} (h1 : a ≤ b) (h2 : b ≤ xs.length) : slc xs (a : Int) (b : Int) = some ((xs.drop a).take (b - a)) := by
  unfold slc
  rw [if_pos ⟨by omega, by omega, by omega⟩, Int.toNat_natCast, Int.toNat_natCast]
theorem split_s {s : List UInt8} (c : UInt8) (h : s.length ≤ 1048576) : spec_l01Split s (c.toNat : Int) = some (pcs c s) := by
  obtain ⟨r, r1, a, r2, r3, r4, r5⟩ := Lw_meas (tb := spec_l01Split_b1 s (c.toNat : Int)) (fun x => s.length - x.2.1.toNat)
    (fun x => ∃ a i : Nat, x.1 = a ∧ x.2.1 = i ∧ a ≤ i ∧ i ≤ s.length ∧ x.2.2.length ≤ i ∧ c ∉ (s.drop a).take (i - a) ∧ x.2.2 ++ pcs c (s.drop a) = pcs c s)
    (fun r => ∃ a : Nat, r.1 = a ∧ a ≤ s.length ∧ r.2.length ≤ s.length ∧ r.2 ++ [s.drop a] = pcs c s)
    (by
      rintro ⟨a', i', o⟩ ⟨a, i, e1, e2, h1, h2, h3, h4, h5⟩
      simp only at e1 e2 h3 h5
      subst e1 e2
      by_cases hi : i < s.length
      · have hr : rd s (i : Int) = some s[i] := by rw [rd_coe, List.getElem?_eq_getElem hi]
        have w := w64s hi (by omega)
        have hd : (s.drop a).drop (i - a) = s[i] :: s.drop (i + 1) := by rw [List.drop_drop, show a + (i - a) = i by omega, List.drop_eq_getElem_cons hi]
        have hsp : s.drop a = (s.drop a).take (i - a) ++ s[i] :: s.drop (i + 1) := by rw [← hd, List.take_append_drop]
        left
        by_cases hc : s[i] = c
        · have hs := slc_some (xs := s) h1 (Nat.le_of_lt hi)
          have ap : app 16 o [(s.drop a).take (i - a)] = some (o ++ [(s.drop a).take (i - a)]) := app_some (by simp; omega) (by decide)
          refine ⟨(((i + 1 : Nat) : Int), ((i + 1 : Nat) : Int), o ++ [(s.drop a).take (i - a)]), ?_, ⟨i + 1, i + 1, rfl, rfl, Nat.le_refl _, hi, by simp; omega, by simp, ?_⟩, by simp; omega⟩
          · simp only [spec_l01Split_b1, hr, hs, ap, w, Option.bind_some]
            rw [if_pos (by simpa using hi), if_pos (by simp [hc])]
          · have e := congrArg (pcs c) hsp
            rw [hc, pcs_app, pcs_no h4] at e
            rw [← h5, e, List.append_assoc]
        · have hc2 : ¬ ((s[i].toNat : Int) = (c.toNat : Int)) := fun e => hc (UInt8.toNat_inj.1 (by omega))
          refine ⟨((a : Int), ((i + 1 : Nat) : Int), o), ?_, ⟨a, i + 1, rfl, rfl, by omega, hi, by simp only; omega, ?_, h5⟩, by simp; omega⟩
          · simp only [spec_l01Split_b1, hr, w, Option.bind_some]
            rw [if_pos (by simpa using hi), if_neg (by simpa using hc2)]
          · have e : (s.drop a).take (i + 1 - a) = (s.drop a).take (i - a) ++ [s[i]] := by
              have hl : i - a < (s.drop a).length := by simp; omega
              rw [show i + 1 - a = (i - a) + 1 by omega, List.take_succ_eq_append_getElem hl]
              congr 2
              rw [List.getElem_drop]; congr 1; omega
            rw [e, List.mem_append, List.mem_singleton]
            rintro (g | g)
            · exact h4 g
            · exact hc g.symm
      · have hie : i = s.length := by omega
        subst hie
        refine .inr ⟨((a : Int), o), by simp [spec_l01Split_b1], a, rfl, h1, h3, ?_⟩
        have e : (s.drop a).take (s.length - a) = s.drop a := List.take_of_length_le (by simp)
        rw [e] at h4
        rw [← h5, pcs_no h4])
    _ (0, 0, []) rfl ⟨0, 0, rfl, rfl, Nat.le_refl _, by omega, by simp, by simp, by simp⟩
  unfold spec_l01Split
  rw [r1, Option.bind_some]
  dsimp only
  rw [r2, slc_some r3 (Nat.le_refl _), Option.bind_some, List.take_of_length_le (by simp), app_some (by simp; omega) (by decide), r5]
  rfl
theorem index_no {c : UInt8} : ∀ {s : List UInt8}, c ∉ s → Lib.indexByte s c = -1
  | [], _ => rfl
  | b :: l, h => by
    have h1 : ¬ b = c := fun e => h (by simp [e])
    have h2 : c ∉ l := fun e => h (by simp [e])
    rw [Lib.indexByte, if_neg (by simpa using h1), index_no h2]; rfl
theorem index_at {c : UInt8} (b : List UInt8) : ∀ {a : List UInt8}, c ∉ a → Lib.indexByte (a ++ c :: b) c = (a.length : Int)
  | [], _ => by simp [Lib.indexByte]
  | x :: l, h => by
    have h1 : ¬ x = c := fun e => h (by simp [e])
    have h2 : c ∉ l := fun e => h (by simp [e])
    rw [List.cons_append, Lib.indexByte, if_neg (by simpa using h1), index_at b h2, if_neg (fun e => by have := beq_iff_eq.1 e; omega)]
    simp
theorem cut_i {s : List UInt8} (h : s.length ≤ 1048576) : ∃ a b f, cutI s [32] = some (a, b, f) ∧ spec_l05First s = some (a, b) ∧ b.length ≤ s.length ∧ ((f = true ∧ s = a ++ 32 :: b ∧ 32 ∉ a) ∨ (f = false ∧ a = s ∧ b = [] ∧ 32 ∉ a)) := by
  unfold cutI Lib.cut spec_l05First
  rw [if_pos (by omega), Lib.index_one]
  by_cases hm : (32 : UInt8) ∈ s
  · obtain ⟨a, b, rfl, ha⟩ := List.eq_append_cons_of_mem hm
    rw [index_at b ha, if_pos (by omega)]
    refine ⟨a, b, true, by simp, ?_, by simp; omega, .inl ⟨rfl, rfl, ha⟩⟩
    have key := Lw_run (tb := spec_l05First_b1 (a ++ 32 :: b)) (fun i => (i : Int)) a.length (r := .inl (a, b))
      (by
        intro i hi
        have w := w64s hi (by simp at h; omega)
        have hr : rd (a ++ 32 :: b) (i : Int) = some a[i] := by rw [rd_coe, List.getElem?_append_left hi, List.getElem?_eq_getElem hi]
        have hc : ¬ ((a[i].toNat : Int) = 32) := fun e => ha (by
          have : a[i] = 32 := UInt8.toNat_inj.1 (by simpa using (by omega : a[i].toNat = 32))
          rw [← this]; exact List.getElem_mem hi)
        simp only [spec_l05First_b1, hr, w, Option.bind_some]
        have hlt : decide ((i : Int) < ((a ++ 32 :: b).length : Int)) = true := decide_eq_true (by rw [List.length_append, List.length_cons]; omega)
        rw [if_pos hlt, if_neg (by simpa using hc)])
      (by
        have hr : rd (a ++ 32 :: b) (a.length : Int) = some 32 := by rw [rd_coe]; simp
        have w := w64s (i := a.length) (n := (a ++ 32 :: b).length) (by simp) (by omega)
        have s1 := slc_some (xs := a ++ 32 :: b) (a := 0) (b := a.length) (by omega) (by simp)
        have s2 := slc_some (xs := a ++ 32 :: b) (a := a.length + 1) (b := (a ++ 32 :: b).length) (by simp) (by simp)
        simp only [spec_l05First_b1, hr, w, Option.bind_some]
        have hlt : decide ((a.length : Int) < ((a ++ 32 :: b).length : Int)) = true := decide_eq_true (by rw [List.length_append, List.length_cons]; omega)
        rw [if_pos hlt, if_pos (by simp)]
        rw [show ((0 : Int)) = ((0 : Nat) : Int) from rfl, s1, s2]
        simp
        exact List.take_of_length_le (by omega))
    have key' : Lw (spec_l05First_b1 (a ++ 32 :: b)) 0 = _ := key
    rw [key']
    rfl
  · rw [index_no hm, if_neg (by omega)]
    refine ⟨s, [], false, rfl, ?_, by simp, .inr ⟨rfl, rfl, rfl, hm⟩⟩
    have key := Lw_run (tb := spec_l05First_b1 s) (fun i => (i : Int)) s.length (r := .inr ())
      (by
        intro i hi
        have w := w64s hi (by omega)
        have hr : rd s (i : Int) = some s[i] := by rw [rd_coe, List.getElem?_eq_getElem hi]
        have hc : ¬ ((s[i].toNat : Int) = 32) := fun e => hm (by
          have : s[i] = 32 := UInt8.toNat_inj.1 (by simpa using (by omega : s[i].toNat = 32))
          rw [← this]; exact List.getElem_mem hi)
        simp only [spec_l05First_b1, hr, w, Option.bind_some]
        rw [if_pos (by simp; omega), if_neg (by simpa using hc)])
      (by simp [spec_l05First_b1])
    have key' : Lw (spec_l05First_b1 s) 0 = _ := key
    rw [key']
    rfl
end Go.Proofs.YtbhbmgmnnkcmcaaDoor
/- Numbers and amounts read. -/
namespace Go.Proofs.YtbhbmgmnnkcmcaaDoor
open Go Go.Ab
def val (l : List UInt8) : Nat := l.foldl (fun a b => 10 * a + (b.toNat - 48)) 0
theorem val_snoc (l : List UInt8) (b : UInt8) : val (l ++ [b]) = 10 * val l + (b.toNat - 48) := by unfold val; rw [List.foldl_append]; rfl
theorem dig_nat {n : Nat} (h : n < 10) : (UInt8.ofNat (48 + n)).toNat = 48 + n := by rw [UInt8.toNat_ofNat']; omega
theorem val_dec (n : Nat) : val (Lib.decDigits n) = n := by
  induction n using Nat.strongRecOn with
  | _ n ih =>
    rw [Lib.decDigits]
    by_cases h : n < 10
    · rw [dif_pos h]
      show 10 * 0 + ((UInt8.ofNat (48 + n)).toNat - 48) = n
      rw [dig_nat h]; omega
    · rw [dif_neg h, val_snoc, ih (n / 10) (by omega), dig_nat (by omega)]; omega
theorem dig_dec (n : Nat) : ∀ b ∈ Lib.decDigits n, 48 ≤ b.toNat ∧ b.toNat ≤ 57 := by
  induction n using Nat.strongRecOn with
  | _ n ih =>
    rw [Lib.decDigits]
    by_cases h : n < 10
    · rw [dif_pos h]
      intro b hb
      rw [List.mem_singleton.1 hb, dig_nat h]; omega
    · rw [dif_neg h]
      intro b hb
      rcases List.mem_append.1 hb with hb | hb
      · exact ih (n / 10) (by omega) b hb
      · rw [List.mem_singleton.1 hb, dig_nat (by omega)]; omega
theorem head_dec (n : Nat) (h1 : 1 ≤ n) : ∀ b, (Lib.decDigits n)[0]? = some b → b.toNat ≠ 48 := by
  induction n using Nat.strongRecOn with
  | _ n ih =>
    rw [Lib.decDigits]
    by_cases h : n < 10
    · rw [dif_pos h]
      intro b hb
      have : UInt8.ofNat (48 + n) = b := by simpa using hb
      rw [← this, dig_nat h]; omega
    · rw [dif_neg h]
      intro b hb
      have hl : 0 < (Lib.decDigits (n / 10)).length := by have := tx_pos ((n / 10 : Nat) : Int); unfold tx at this; rw [Int.toNat_natCast] at this; exact this
      rw [List.getElem?_append_left hl] at hb
      exact ih (n / 10) (by omega) (by omega) b hb
theorem val_take (l : List UInt8) (h : ∀ b ∈ l, 48 ≤ b.toNat ∧ b.toNat ≤ 57) : ∀ k, k ≤ l.length → val (l.take k) < 10 ^ k
  | 0, _ => by simp [val]
  | k + 1, hk => by
    have ih := val_take l h k (by omega)
    have hb := h _ (List.getElem_mem (show k < l.length by omega))
    rw [List.take_succ_eq_append_getElem (by omega), val_snoc, Nat.pow_succ]
    omega
theorem u8_dig {b : UInt8} (h : 48 ≤ b.toNat ∧ b.toNat ≤ 57) : IntKind.i64.wrap (IntKind.u8.wrap ((b.toNat : Int) - 48)) = ((b.toNat - 48 : Nat) : Int) := by
  have : IntKind.u8.wrap ((b.toNat : Int) - 48) = (b.toNat : Int) - 48 := by simp [IntKind.wrap, IntKind.signed, IntKind.bits]; omega
  rw [this, w64 (by omega)]; omega
theorem num_loop (l : List UInt8) (h : ∀ b ∈ l, 48 ≤ b.toNat ∧ b.toNat ≤ 57) (hl : l.length ≤ 9) :
    Lw (impl_number_b1 l) (0, 0) = some (.inr (val l : Int)) ∧ Lw (spec_l01Number_b1 l) (0, 0) = some (.inr (val l : Int)) := by
  have step : ∀ k (hk : k < l.length), impl_number_b1 l ((val (l.take k) : Int), (k : Int)) = some (.inl ((val (l.take (k + 1)) : Int), ((k + 1 : Nat) : Int))) ∧ spec_l01Number_b1 l ((val (l.take k) : Int), (k : Int)) = some (.inl ((val (l.take (k + 1)) : Int), ((k + 1 : Nat) : Int))) := by
    intro k hk
    have hb := h _ (List.getElem_mem hk)
    have hv := val_take l h k (by omega)
    have hp : 10 ^ k ≤ 10 ^ 9 := Nat.pow_le_pow_right (by decide) (by omega)
    have hr : rd l (k : Int) = some l[k] := by rw [rd_coe, List.getElem?_eq_getElem hk]
    have w := w64s hk (by omega)
    have u := u8_dig hb
    have hs : val (l.take (k + 1)) = 10 * val (l.take k) + (l[k].toNat - 48) := by rw [List.take_succ_eq_append_getElem hk, val_snoc]
    have c0 : decide ((k : Int) < (l.length : Int)) = true := decide_eq_true (by omega)
    have c1 : decide ((l[k].toNat : Int) < 48) = false := decide_eq_false (by omega)
    have c2 : decide ((l[k].toNat : Int) > 57) = false := decide_eq_false (by omega)
    have m1 : IntKind.i64.wrap ((val (l.take k) : Int) * 10) = ((10 * val (l.take k) : Nat) : Int) := by rw [w64 (by omega)]; omega
    have m2 : IntKind.i64.wrap (10 * (val (l.take k) : Int)) = ((10 * val (l.take k) : Nat) : Int) := by rw [w64 (by omega)]; omega
    have m3 : IntKind.i64.wrap (((10 * val (l.take k) : Nat) : Int) + ((l[k].toNat - 48 : Nat) : Int)) = ((val (l.take (k + 1)) : Nat) : Int) := by rw [hs, w64 (by omega)]; omega
    constructor
    · simp only [impl_number_b1, hr, Option.bind_some, c0, c1, c2, if_true, Bool.false_eq_true, if_false, u, m1, m3, w]
    · simp only [spec_l01Number_b1, hr, Option.bind_some, c0, c1, c2, if_true, Bool.false_eq_true, if_false, u, m2, m3, w]
  have e1 := Lw_run (tb := impl_number_b1 l) (fun k => ((val (l.take k) : Int), (k : Int))) l.length (r := .inr (val l : Int)) (fun k hk => (step k hk).1) (by rw [List.take_length]; simp [impl_number_b1])
  have e2 := Lw_run (tb := spec_l01Number_b1 l) (fun k => ((val (l.take k) : Int), (k : Int))) l.length (r := .inr (val l : Int)) (fun k hk => (step k hk).2) (by rw [List.take_length]; simp [spec_l01Number_b1])
  exact ⟨e1, e2⟩
theorem num_ok {m : Int} (h0 : 0 ≤ m) (h1 : m ≤ 1000000) : impl_number (tx m) = some (m, true) ∧ spec_l01Number (tx m) = some (m, true) := by
  obtain ⟨n, rfl⟩ : ∃ n : Nat, m = n := ⟨m.toNat, by omega⟩
  have hp := tx_pos (n : Int)
  have hl : (tx (n : Int)).length ≤ 7 := decDigits_le 6 _ (by simp; omega)
  have hd : ∀ b ∈ tx (n : Int), 48 ≤ b.toNat ∧ b.toNat ≤ 57 := dig_dec _
  obtain ⟨l1, l2⟩ := num_loop (tx (n : Int)) hd (by omega)
  have hv : val (tx (n : Int)) = n := val_dec n
  rw [hv] at l1 l2
  have hne : tx (n : Int) ≠ [] := fun e => by rw [e] at hp; simp at hp
  have hr : rd (tx (n : Int)) 0 = some ((tx (n : Int))[0]'hp) := by rw [rd_zero, List.getElem?_eq_getElem hp]
  have hz : ((tx (n : Int))[0]'hp).toNat = 48 → (tx (n : Int)).length ≤ 1 := by
    intro e
    by_cases hn : 1 ≤ n
    · exact absurd e (head_dec n hn _ (List.getElem?_eq_getElem hp))
    · obtain rfl : n = 0 := by omega
      unfold tx; rw [Lib.decDigits, dif_pos (by decide)]; simp
  constructor
  · unfold impl_number
    rw [if_neg (by simpa using hne), if_neg (by simp; omega), hr, Option.bind_some]
    by_cases c : ((tx (n : Int))[0]'hp).toNat = 48
    · have := hz c
      rw [if_pos (by simp [c]), if_neg (by simp; omega)]
      simp only [Option.bind_some, l1]
    · rw [if_neg (by simp; omega)]
      simp only [Option.bind_some, l1]
  · unfold spec_l01Number
    rw [if_neg (by simpa using hne), if_neg (by simp; omega), hr, Option.bind_some]
    by_cases c : ((tx (n : Int))[0]'hp).toNat = 48
    · have := hz c
      rw [if_pos (by simp [c]), if_neg (by simp; omega)]
      simp only [Option.bind_some, l2]
    · rw [if_neg (by simp; omega)]
      simp only [Option.bind_some, l2]
theorem num_tot (t : List UInt8) (ht : t.length ≤ 1048576) : (∃ r, impl_number t = some r) ∧ ∃ r, spec_l01Number t = some r := by
  obtain ⟨r1, e1, _⟩ := Lw_meas (tb := impl_number_b1 t) (fun s => t.length - s.2.toNat) (fun s => ∃ i : Nat, s.2 = i ∧ i ≤ t.length) (fun _ => True)
    (by
      rintro ⟨a, j⟩ ⟨i, hi, hl⟩
      simp only at hi
      subst hi
      by_cases hlt : i < t.length
      · have hr : rd t (i : Int) = some t[i] := by rw [rd_coe, List.getElem?_eq_getElem hlt]
        have w := w64s hlt (by omega)
        by_cases c1 : (t[i].toNat : Int) < 48
        · exact .inr ⟨.inl (), by simp [impl_number_b1, hr, hlt, c1], trivial⟩
        · by_cases c2 : (t[i].toNat : Int) > 57
          · exact .inr ⟨.inl (), by simp [impl_number_b1, hr, hlt, c1, c2], trivial⟩
          · exact .inl ⟨_, by simp only [impl_number_b1, hr, Option.bind_some, w]; rw [if_pos (decide_eq_true (by omega)), if_neg (by simpa using c1), if_neg (by simpa using c2)], ⟨i + 1, rfl, hlt⟩, by simp; omega⟩
      · have : i = t.length := by omega
        subst this
        exact .inr ⟨.inr a, by simp [impl_number_b1], trivial⟩) _ (0, 0) rfl ⟨0, rfl, by omega⟩
  obtain ⟨r2, e2, _⟩ := Lw_meas (tb := spec_l01Number_b1 t) (fun s => t.length - s.2.toNat) (fun s => ∃ i : Nat, s.2 = i ∧ i ≤ t.length) (fun _ => True)
    (by
      rintro ⟨a, j⟩ ⟨i, hi, hl⟩
      simp only at hi
      subst hi
      by_cases hlt : i < t.length
      · have hr : rd t (i : Int) = some t[i] := by rw [rd_coe, List.getElem?_eq_getElem hlt]
        have w := w64s hlt (by omega)
        by_cases c1 : (t[i].toNat : Int) < 48
        · exact .inr ⟨.inl (), by simp [spec_l01Number_b1, hr, hlt, c1], trivial⟩
        · by_cases c2 : (t[i].toNat : Int) > 57
          · exact .inr ⟨.inl (), by simp [spec_l01Number_b1, hr, hlt, c1, c2], trivial⟩
          · exact .inl ⟨_, by simp only [spec_l01Number_b1, hr, Option.bind_some, w]; rw [if_pos (decide_eq_true (by omega)), if_neg (by simpa using c1), if_neg (by simpa using c2)], ⟨i + 1, rfl, hlt⟩, by simp; omega⟩
      · have : i = t.length := by omega
        subst this
        exact .inr ⟨.inr a, by simp [spec_l01Number_b1], trivial⟩) _ (0, 0) rfl ⟨0, rfl, by omega⟩
  constructor
  · unfold impl_number
    rw [e1]
    by_cases hn : t = []
    · exact ⟨_, by rw [if_pos (by simpa using hn)]; rfl⟩
    · have hp : 0 < t.length := List.length_pos_iff.2 hn
      have hr : rd t 0 = some t[0] := by rw [rd_zero, List.getElem?_eq_getElem hp]
      rw [if_neg (by simpa using hn), hr]
      rcases r1 with r1 | r1 <;> (repeat' split) <;> simp only [Option.bind_some] <;> (repeat' split) <;> first | exact ⟨_, rfl⟩ | simp_all
  · unfold spec_l01Number
    rw [e2]
    by_cases hn : t = []
    · exact ⟨_, by rw [if_pos (by simpa using hn)]; rfl⟩
    · have hp : 0 < t.length := List.length_pos_iff.2 hn
      have hr : rd t 0 = some t[0] := by rw [rd_zero, List.getElem?_eq_getElem hp]
      rw [if_neg (by simpa using hn), hr]
      rcases r2 with r2 | r2 <;> (repeat' split) <;> simp only [Option.bind_some] <;> (repeat' split) <;> first | exact ⟨_, rfl⟩ | simp_all
end Go.Proofs.YtbhbmgmnnkcmcaaDoor
/- Amounts read: both accept the text of an amount and nothing else. -/
namespace Go.Proofs.YtbhbmgmnnkcmcaaDoor
open Go Go.Ab
theorem join_two (x y : List UInt8) (r : List (List UInt8)) (c : UInt8) : Lib.join (x :: y :: r) [c] = x ++ c :: Lib.join (y :: r) [c] := by
  rw [Lib.join_cons, Lib.join_cons]
  simp [Lib.joinTail]
theorem join_pcs {c : UInt8} : ∀ {xs : List (List UInt8)}, xs ≠ [] → (∀ x ∈ xs, c ∉ x) → pcs c (Lib.join xs [c]) = xs
  | [], h, _ => absurd rfl h
  | [x], _, h => by rw [Lib.join_one, pcs_no (h x (by simp))]
  | x :: y :: r, _, h => by
    rw [join_two, pcs_app, pcs_no (h x (by simp)), join_pcs (by simp) (fun z hz => h z (by simp at hz ⊢; exact .inr hz))]
    rfl
theorem mem_join {b c : UInt8} : ∀ {xs : List (List UInt8)}, b ∈ Lib.join xs [c] → b = c ∨ ∃ x ∈ xs, b ∈ x
  | [], h => by simp [Lib.join_nil] at h
  | [x], h => by rw [Lib.join_one] at h; exact .inr ⟨x, by simp, h⟩
  | x :: y :: r, h => by
    rw [join_two, List.mem_append, List.mem_cons] at h
    rcases h with h | h | h
    · exact .inr ⟨x, by simp, h⟩
    · exact .inl h
    · rcases mem_join h with h | ⟨z, hz, h⟩
      · exact .inl h
      · exact .inr ⟨z, by simp at hz ⊢; exact .inr hz, h⟩
def p1 (n : Int) (c : UInt8) : List (Int × UInt8) := if n > 0 then [(n, c)] else []
def parts (a : Int) : List (Int × UInt8) := if a = 0 then [(0, 100)] else p1 (a / 240) 108 ++ (p1 (a / 12 % 20) 115 ++ p1 (a % 12) 100)
noncomputable def pT (p : Int × UInt8) : List UInt8 := tx p.1 ++ [p.2]
def wt (c : UInt8) : Int := if c = 108 then 240 else if c = 115 then 12 else 1
def PI (p : Int × UInt8) : Prop := 0 ≤ p.1 ∧ p.1 ≤ 1000000 ∧ (p.2 = 108 ∨ p.2 = 115 ∨ p.2 = 100)
theorem tx0 : tx 0 = [48] := by unfold tx; rw [Lib.decDigits, dif_pos (by decide)]; rfl
theorem amtT_parts (a : Int) : amtT a = Lib.join ((parts a).map pT) [32] := by
  unfold amtT parts
  by_cases h : a = 0
  · rw [if_pos h, if_pos h]
    show _ = Lib.join [tx 0 ++ [100]] [32]
    rw [Lib.join_one, tx0]; rfl
  · rw [if_neg h, if_neg h]
    congr 1
    unfold amt1 p1
    simp only [List.map_append]
    congr 1
    · split <;> rfl
    · congr 1 <;> split <;> rfl
theorem parts_PI {a : Int} (h0 : 0 ≤ a) (h1 : a ≤ 100000000) : (∀ p ∈ parts a, PI p) ∧ parts a ≠ [] ∧ (parts a).length ≤ 3 ∧ ((parts a).map fun p => p.1 * wt p.2).sum = a := by
  unfold parts
  by_cases h : a = 0
  · subst h
    exact ⟨by simp [PI], by simp, by simp, by simp⟩
  · rw [if_neg h]
    have b1 : 0 ≤ a / 240 ∧ a / 240 ≤ 1000000 := by omega
    have b2 : 0 ≤ a / 12 % 20 ∧ a / 12 % 20 ≤ 1000000 := by omega
    have b3 : 0 ≤ a % 12 ∧ a % 12 ≤ 1000000 := by omega
    have e : a / 240 * 240 + a / 12 % 20 * 12 + a % 12 = a := by omega
    have bn : ¬ (a / 240 = 0 ∧ a / 12 % 20 = 0 ∧ a % 12 = 0) := by omega
    revert b1 b2 b3 e bn
    generalize a / 240 = l, a / 12 % 20 = s, a % 12 = d
    intro b1 b2 b3 e bn
    refine ⟨fun p hp => ?_, ?_, ?_, ?_⟩
    · unfold p1 at hp
      simp only [List.mem_append] at hp
      rcases hp with hp | hp | hp <;> split at hp <;> simp at hp <;> subst hp
      · exact ⟨b1.1, b1.2, .inl rfl⟩
      · exact ⟨b2.1, b2.2, .inr (.inl rfl)⟩
      · exact ⟨b3.1, b3.2, .inr (.inr rfl)⟩
    · unfold p1
      repeat' split
      all_goals first | simp; done | (exfalso; omega)
    · unfold p1
      repeat' split
      all_goals simp
    · unfold p1
      repeat' split
      all_goals simp [wt]
      all_goals omega
theorem sum_bd (P : List (Int × UInt8)) (h : ∀ p ∈ P, PI p) : 0 ≤ (P.map fun p => p.1 * wt p.2).sum ∧ (P.map fun p => p.1 * wt p.2).sum ≤ 240000000 * (P.length : Int) := by
  induction P with
  | nil => simp
  | cons p r ih =>
    have := ih (fun q hq => h q (by simp [hq]))
    obtain ⟨g0, g1, g2⟩ := h p (by simp)
    have hw : 0 ≤ p.1 * wt p.2 ∧ p.1 * wt p.2 ≤ 240000000 := by
      unfold wt
      rcases g2 with e | e | e <;> rw [e] <;> simp <;> omega
    simp only [List.map_cons, List.sum_cons, List.length_cons]
    push_cast
    omega
theorem wt_i {c : UInt8} (h : c = 108 ∨ c = 115 ∨ c = 100) : ∃ k : Int, strings_IndexByte [100, 115, 108] (c.toNat : Int) = some k ∧ 0 ≤ k ∧ impl_worth k = some (wt c) := by
  rcases h with rfl | rfl | rfl
  · exact ⟨2, rfl, by decide, rfl⟩
  · exact ⟨1, rfl, by decide, rfl⟩
  · exact ⟨0, rfl, by decide, rfl⟩
theorem parts_loop (P : List (Int × UInt8)) (h : ∀ p ∈ P, PI p) (hl : P.length ≤ 3) :
    Lw (impl_ReadAmount_b1 (P.map pT)) (0, 0) = some (.inr (P.map fun p => p.1 * wt p.2).sum) ∧ Lw (spec_l01ReadAmount_b1 (P.map pT)) (0, 0) = some (.inr (P.map fun p => p.1 * wt p.2).sum) := by
  have step : ∀ k (hk : k < P.length), impl_ReadAmount_b1 (P.map pT) (((P.take k).map fun p => p.1 * wt p.2).sum, (k : Int)) = some (.inl (((P.take (k + 1)).map fun p => p.1 * wt p.2).sum, ((k + 1 : Nat) : Int))) ∧
      spec_l01ReadAmount_b1 (P.map pT) (((P.take k).map fun p => p.1 * wt p.2).sum, (k : Int)) = some (.inl (((P.take (k + 1)).map fun p => p.1 * wt p.2).sum, ((k + 1 : Nat) : Int))) := by
    intro k hk
    have hp := h _ (List.getElem_mem hk)
    have hr : rd (P.map pT) (k : Int) = some (pT P[k]) := by rw [rd_coe, List.getElem?_map, List.getElem?_eq_getElem hk]; rfl
    have bd := sum_bd (P.take k) (fun p hp => h p (List.mem_of_mem_take hp))
    have bd2 := sum_bd (P.take (k + 1)) (fun p hp => h p (List.mem_of_mem_take hp))
    have lt1 : (P.take k).length ≤ 3 := by simp; omega
    have lt2 : (P.take (k + 1)).length ≤ 3 := by simp; omega
    have hs : ((P.take (k + 1)).map fun p => p.1 * wt p.2).sum = ((P.take k).map fun p => p.1 * wt p.2).sum + P[k].1 * wt P[k].2 := by
      rw [List.take_succ_eq_append_getElem hk, List.map_append, List.sum_append]; simp
    revert bd bd2 hs
    generalize ((P.take (k + 1)).map fun p => p.1 * wt p.2).sum = v', ((P.take k).map fun p => p.1 * wt p.2).sum = v
    revert hp hr
    generalize hq : P[k] = q
    obtain ⟨m, c⟩ := q
    intro hp hr bd bd2 hs
    simp only at hs
    obtain ⟨g0, g1, g2⟩ := hp
    simp only at g0 g1 g2
    obtain ⟨i0, i1, i2, i3⟩ := wt_i g2
    have c4 : decide (i0 < 0) = false := decide_eq_false (by omega)
    obtain ⟨n1, n2⟩ := num_ok g0 g1
    have tp := tx_pos m
    have tl := tx_len g0 (by omega)
    have hx : pT (m, c) = tx m ++ [c] := rfl
    have xl : (pT (m, c)).length = (tx m).length + 1 := by rw [hx]; simp
    have w := w64s (n := 3) (i := k) (by omega) (by omega)
    have w1 : IntKind.i64.wrap (((pT (m, c)).length : Int) - 1) = (((tx m).length : Nat) : Int) := by rw [xl, w64 (by omega)]; omega
    have sl : slc (pT (m, c)) 0 (((tx m).length : Nat) : Int) = some (tx m) := by
      have := slc_some (xs := pT (m, c)) (a := 0) (b := (tx m).length) (by omega) (by omega)
      rw [show (0 : Int) = ((0 : Nat) : Int) from rfl, this, hx]
      simp
    have rl : rd (pT (m, c)) (((tx m).length : Nat) : Int) = some c := by rw [rd_coe, hx]; simp
    have c0 : decide ((k : Int) < ((P.map pT).length : Int)) = true := decide_eq_true (by rw [List.length_map]; omega)
    have ne : (pT (m, c) == ([] : List UInt8)) = false := by rw [hx]; simp
    have hwt : wt c = 240 ∨ wt c = 12 ∨ wt c = 1 := by unfold wt; rcases g2 with e | e | e <;> subst e <;> simp
    have mb : 0 ≤ m * wt c ∧ m * wt c ≤ 240000000 := by rcases hwt with e | e | e <;> rw [e] <;> omega
    have m1 : IntKind.i64.wrap (m * wt c) = m * wt c := w64 (by omega)
    have m3 : IntKind.i64.wrap (v + m * wt c) = v' := by rw [hs, w64 (by omega)]
    constructor
    · simp only [impl_ReadAmount_b1, c0, hr, Option.bind_some, ne, w1, sl, n1, rl, i1, i3, c4, m1, m3, w, if_true, Bool.false_eq_true, if_false]
    · have c2 : decide (((pT (m, c)).length : Int) < 2) = false := decide_eq_false (by omega)
      have c3 : decide (m > 100000000) = false := decide_eq_false (by omega)
      simp only [spec_l01ReadAmount_b1, c0, hr, Option.bind_some, c2, w1, sl, n2, rl, c3, w, if_true, Bool.false_eq_true, if_false]
      rcases g2 with e | e | e <;> subst e
      · have e1 : IntKind.i64.wrap (240 * m) = m * wt 108 := by rw [← m1, Int.mul_comm]; rfl
        rw [if_pos (by decide), e1, m3]
      · have e1 : IntKind.i64.wrap (12 * m) = m * wt 115 := by rw [← m1, Int.mul_comm]; rfl
        rw [if_neg (by decide), if_pos (by decide), e1, m3]
      · have e1 : m = m * wt 100 := by rw [show wt 100 = 1 from rfl, Int.mul_one]
        rw [if_neg (by decide), if_neg (by decide), if_pos (by decide), e1, m3]
  have e1 := Lw_run (tb := impl_ReadAmount_b1 (P.map pT)) (fun k => (((P.take k).map fun p => p.1 * wt p.2).sum, (k : Int))) P.length (r := .inr (P.map fun p => p.1 * wt p.2).sum) (fun k hk => (step k hk).1) (by rw [List.take_length]; simp [impl_ReadAmount_b1])
  have e2 := Lw_run (tb := spec_l01ReadAmount_b1 (P.map pT)) (fun k => (((P.take k).map fun p => p.1 * wt p.2).sum, (k : Int))) P.length (r := .inr (P.map fun p => p.1 * wt p.2).sum) (fun k hk => (step k hk).2) (by rw [List.take_length]; simp [spec_l01ReadAmount_b1])
  exact ⟨e1, e2⟩
theorem pT_no {p : Int × UInt8} (h : PI p) {c : UInt8} (hc : c = 32 ∨ c = 10) : c ∉ pT p := by
  intro hm
  unfold pT at hm
  rcases List.mem_append.1 hm with g | g
  · have := dig_dec _ _ g
    rcases hc with rfl | rfl <;> revert this <;> decide
  · have := List.mem_singleton.1 g
    obtain ⟨_, _, g2⟩ := h
    rw [← this] at g2
    rcases hc with rfl | rfl <;> revert g2 <;> decide
theorem amtT_pcs {a : Int} (h0 : 0 ≤ a) (h1 : a ≤ 100000000) : pcs 32 (amtT a) = (parts a).map pT := by
  obtain ⟨g1, g2, _, _⟩ := parts_PI h0 h1
  rw [amtT_parts]
  refine join_pcs (by simpa using g2) (fun x hx => ?_)
  obtain ⟨p, hp, rfl⟩ := List.mem_map.1 hx
  exact pT_no (g1 p hp) (.inl rfl)
theorem amtT_no {a : Int} (h0 : 0 ≤ a) (h1 : a ≤ 100000000) : (10 : UInt8) ∉ amtT a := by
  obtain ⟨g1, g2, _, _⟩ := parts_PI h0 h1
  rw [amtT_parts]
  intro h
  rcases mem_join h with h | ⟨x, hx, h⟩
  · revert h; decide
  · obtain ⟨p, hp, rfl⟩ := List.mem_map.1 hx
    exact pT_no (g1 p hp) (.inr rfl) h
theorem amtT_short {a : Int} (h0 : 0 ≤ a) (h1 : a ≤ 100000000) : (amtT a).length ≤ 30 ∧ 1 ≤ (amtT a).length := by
  obtain ⟨g1, g2, g3, _⟩ := parts_PI h0 h1
  rw [amtT_parts]
  have hj := join_len ((parts a).map pT) 8 (fun x hx => by
    obtain ⟨p, hp, rfl⟩ := List.mem_map.1 hx
    obtain ⟨q0, q1, _⟩ := g1 p hp
    have hl : (tx p.1).length ≤ 7 := decDigits_le 6 _ (by simp; omega)
    unfold pT; simp; omega)
  have : ((parts a).map pT).length * (8 + 1) ≤ 3 * 9 := Nat.mul_le_mul_right _ (by simpa using g3)
  refine ⟨by omega, ?_⟩
  cases hp : parts a with
  | nil => exact absurd hp g2
  | cons p r => rw [List.map_cons, Lib.join_cons]; unfold pT; simp; omega
end Go.Proofs.YtbhbmgmnnkcmcaaDoor
/- Amounts read: the same on both sides. -/
namespace Go.Proofs.YtbhbmgmnnkcmcaaDoor
open Go Go.Ab
theorem idx_lt (c : UInt8) : ∀ l : List UInt8, Lib.indexByte l c < l.length
  | [] => by simp [Lib.indexByte]
  | b :: l => by
    have ih := idx_lt c l
    rw [Lib.indexByte]
    split
    · simp
    · split
      · simp; omega
      · simp; omega
theorem unit_tot (c : UInt8) : ∃ k : Int, strings_IndexByte [100, 115, 108] (c.toNat : Int) = some k ∧ (k < 0 ∨ ∃ w, impl_worth k = some w) := by
  refine ⟨Lib.indexByte [100, 115, 108] ((c.toNat : Int).toNat.toUInt8), rfl, ?_⟩
  have := idx_lt ((c.toNat : Int).toNat.toUInt8) [100, 115, 108]
  generalize Lib.indexByte [100, 115, 108] ((c.toNat : Int).toNat.toUInt8) = k at *
  simp at this
  by_cases h : k < 0
  · exact .inl h
  · have : k = 0 ∨ k = 1 ∨ k = 2 := by omega
    rcases this with rfl | rfl | rfl
    · exact .inr ⟨_, rfl⟩
    · exact .inr ⟨_, rfl⟩
    · exact .inr ⟨_, rfl⟩
theorem amtLoop_tot (xs : List (List UInt8)) (hn : xs.length ≤ 1048577) (hx : ∀ x ∈ xs, x.length ≤ 1048576) : (∃ r, Lw (impl_ReadAmount_b1 xs) (0, 0) = some r) ∧ ∃ r, Lw (spec_l01ReadAmount_b1 xs) (0, 0) = some r := by
  constructor
  · obtain ⟨r, e, _⟩ := Lw_meas (tb := impl_ReadAmount_b1 xs) (fun s => xs.length - s.2.toNat) (fun s => ∃ i : Nat, s.2 = i ∧ i ≤ xs.length) (fun _ => True)
      (by
        rintro ⟨a, j⟩ ⟨i, hi, hl⟩
        simp only at hi
        subst hi
        by_cases hlt : i < xs.length
        · have hm := hx _ (List.getElem_mem hlt)
          have hr : rd xs (i : Int) = some xs[i] := by rw [rd_coe, List.getElem?_eq_getElem hlt]
          have w := w64s hlt (by omega)
          revert hr hm
          generalize xs[i] = x
          intro hm hr
          have c0 : decide ((i : Int) < (xs.length : Int)) = true := decide_eq_true (by omega)
          by_cases hne : x = []
          · exact .inr ⟨.inl (), by simp only [impl_ReadAmount_b1, c0, hr, hne, Option.bind_some, if_true]; simp, trivial⟩
          · have hp : 0 < x.length := List.length_pos_iff.2 hne
            have ne : (x == ([] : List UInt8)) = false := by simpa using hne
            have w1 : IntKind.i64.wrap ((x.length : Int) - 1) = ((x.length - 1 : Nat) : Int) := by rw [w64 (by omega)]; omega
            have sl : slc x 0 ((x.length - 1 : Nat) : Int) = some (x.take (x.length - 1)) := by
              have := slc_some (xs := x) (a := 0) (b := x.length - 1) (by omega) (by omega)
              rw [show (0 : Int) = ((0 : Nat) : Int) from rfl, this]; simp
            obtain ⟨⟨v, f⟩, n1⟩ := (num_tot (x.take (x.length - 1)) (by simp; omega)).1
            have hlt2 : x.length - 1 < x.length := by omega
            have rl : rd x ((x.length - 1 : Nat) : Int) = some x[x.length - 1] := by rw [rd_coe, List.getElem?_eq_getElem hlt2]
            obtain ⟨k, k1, k2⟩ := unit_tot x[x.length - 1]
            cases f with
            | false => exact .inr ⟨.inl (), by simp only [impl_ReadAmount_b1, c0, hr, ne, w1, sl, n1, rl, k1, Option.bind_some, if_true, Bool.false_eq_true, if_false], trivial⟩
            | true =>
              rcases k2 with k2 | ⟨wv, k2⟩
              · have c4 : decide (k < 0) = true := decide_eq_true k2
                exact .inr ⟨.inl (), by simp only [impl_ReadAmount_b1, c0, hr, ne, w1, sl, n1, rl, k1, c4, Option.bind_some, if_true, Bool.false_eq_true, if_false], trivial⟩
              · by_cases k3 : k < 0
                · have c4 : decide (k < 0) = true := decide_eq_true k3
                  exact .inr ⟨.inl (), by simp only [impl_ReadAmount_b1, c0, hr, ne, w1, sl, n1, rl, k1, c4, Option.bind_some, if_true, Bool.false_eq_true, if_false], trivial⟩
                · have c4 : decide (k < 0) = false := decide_eq_false k3
                  exact .inl ⟨(IntKind.i64.wrap (a + IntKind.i64.wrap (v * wv)), ((i + 1 : Nat) : Int)), by simp only [impl_ReadAmount_b1, c0, hr, ne, w1, sl, n1, rl, k1, c4, k2, w, Option.bind_some, if_true, Bool.false_eq_true, if_false], ⟨i + 1, rfl, hlt⟩, by simp; omega⟩
        · have : i = xs.length := by omega
          subst this
          exact .inr ⟨.inr a, by simp [impl_ReadAmount_b1], trivial⟩) _ (0, 0) rfl ⟨0, rfl, by omega⟩
    exact ⟨r, e⟩
  · obtain ⟨r, e, _⟩ := Lw_meas (tb := spec_l01ReadAmount_b1 xs) (fun s => xs.length - s.2.toNat) (fun s => ∃ i : Nat, s.2 = i ∧ i ≤ xs.length) (fun _ => True)
      (by
        rintro ⟨a, j⟩ ⟨i, hi, hl⟩
        simp only at hi
        subst hi
        by_cases hlt : i < xs.length
        · have hm := hx _ (List.getElem_mem hlt)
          have hr : rd xs (i : Int) = some xs[i] := by rw [rd_coe, List.getElem?_eq_getElem hlt]
          have w := w64s hlt (by omega)
          revert hr hm
          generalize xs[i] = x
          intro hm hr
          have c0 : decide ((i : Int) < (xs.length : Int)) = true := decide_eq_true (by omega)
          by_cases hne : x.length < 2
          · have c1 : decide ((x.length : Int) < 2) = true := decide_eq_true (by omega)
            exact .inr ⟨.inl (), by simp only [spec_l01ReadAmount_b1, c0, hr, c1, Option.bind_some, if_true], trivial⟩
          · have c1 : decide ((x.length : Int) < 2) = false := decide_eq_false (by omega)
            have w1 : IntKind.i64.wrap ((x.length : Int) - 1) = ((x.length - 1 : Nat) : Int) := by rw [w64 (by omega)]; omega
            have sl : slc x 0 ((x.length - 1 : Nat) : Int) = some (x.take (x.length - 1)) := by
              have := slc_some (xs := x) (a := 0) (b := x.length - 1) (by omega) (by omega)
              rw [show (0 : Int) = ((0 : Nat) : Int) from rfl, this]; simp
            obtain ⟨⟨v, f⟩, n1⟩ := (num_tot (x.take (x.length - 1)) (by simp; omega)).2
            have hlt2 : x.length - 1 < x.length := by omega
            have rl : rd x ((x.length - 1 : Nat) : Int) = some x[x.length - 1] := by rw [rd_coe, List.getElem?_eq_getElem hlt2]
            cases f with
            | false => exact .inr ⟨.inl (), by simp only [spec_l01ReadAmount_b1, c0, hr, c1, w1, sl, n1, rl, Option.bind_some, if_true, Bool.false_eq_true, if_false], trivial⟩
            | true =>
              by_cases hv : v > 100000000
              · have c4 : decide (v > 100000000) = true := decide_eq_true hv
                exact .inr ⟨.inl (), by simp only [spec_l01ReadAmount_b1, c0, hr, c1, w1, sl, n1, rl, c4, Option.bind_some, if_true, Bool.false_eq_true, if_false], trivial⟩
              · have c4 : decide (v > 100000000) = false := decide_eq_false hv
                by_cases u1 : ((x[x.length - 1].toNat : Int) == 108) = true
                · exact .inl ⟨_, by simp only [spec_l01ReadAmount_b1, c0, hr, c1, w1, sl, n1, rl, c4, w, Option.bind_some, if_true, Bool.false_eq_true, if_false]; rw [if_pos u1], ⟨i + 1, rfl, hlt⟩, by simp; omega⟩
                · by_cases u2 : ((x[x.length - 1].toNat : Int) == 115) = true
                  · exact .inl ⟨_, by simp only [spec_l01ReadAmount_b1, c0, hr, c1, w1, sl, n1, rl, c4, w, Option.bind_some, if_true, Bool.false_eq_true, if_false]; rw [if_neg u1, if_pos u2], ⟨i + 1, rfl, hlt⟩, by simp; omega⟩
                  · by_cases u3 : ((x[x.length - 1].toNat : Int) == 100) = true
                    · exact .inl ⟨_, by simp only [spec_l01ReadAmount_b1, c0, hr, c1, w1, sl, n1, rl, c4, w, Option.bind_some, if_true, Bool.false_eq_true, if_false]; rw [if_neg u1, if_neg u2, if_pos u3], ⟨i + 1, rfl, hlt⟩, by simp; omega⟩
                    · exact .inr ⟨_, by simp only [spec_l01ReadAmount_b1, c0, hr, c1, w1, sl, n1, rl, c4, w, Option.bind_some, if_true, Bool.false_eq_true, if_false]; rw [if_neg u1, if_neg u2, if_neg u3], trivial⟩
        · have : i = xs.length := by omega
          subst this
          exact .inr ⟨.inr a, by simp [spec_l01ReadAmount_b1], trivial⟩) _ (0, 0) rfl ⟨0, rfl, by omega⟩
    exact ⟨r, e⟩
theorem amt_out {n : Int} (h : ¬ (0 ≤ n ∧ n ≤ 100000000)) : impl_AmountText n = some [] := by
  unfold impl_AmountText
  have : inB n 0 100000000 = false := by rw [← Bool.not_eq_true]; exact fun e => h (inB_iff.1 e)
  rw [isAmount_eq, Option.bind_some, this]; rfl
theorem read_same (t : List UInt8) (ht : t.length ≤ 1048576) : (∃ n, 0 ≤ n ∧ n ≤ 100000000 ∧ t = amtT n ∧ impl_ReadAmount t = some (n, 0) ∧ spec_l01ReadAmount t = some (n, true)) ∨ ((¬ ∃ n, 0 ≤ n ∧ n ≤ 100000000 ∧ t = amtT n) ∧ impl_ReadAmount t = some (0, 5) ∧ ∃ n, spec_l01ReadAmount t = some (n, false)) := by
  have si := split_i (s := t) 32 ht
  have ss : spec_l01Split t 32 = some (pcs 32 t) := split_s (s := t) 32 ht
  by_cases hn : ∃ n, 0 ≤ n ∧ n ≤ 100000000 ∧ t = amtT n
  · obtain ⟨n, h0, h1, rfl⟩ := hn
    left
    refine ⟨n, h0, h1, rfl, ?_, ?_⟩
    all_goals
      obtain ⟨g1, g2, g3, g4⟩ := parts_PI h0 h1
      obtain ⟨l1, l2⟩ := parts_loop (parts n) g1 g3
      rw [g4] at l1 l2
      have hs := amtT_short h0 h1
      rw [amtT_pcs h0 h1] at si ss
    · unfold impl_ReadAmount strings_Split
      rw [if_neg (by simp; omega), si, Option.bind_some, l1, Option.bind_some]
      dsimp only
      rw [amt_i h0 h1, Option.bind_some, if_pos (by simp)]
    · unfold spec_l01ReadAmount
      rw [ss, Option.bind_some, l2, Option.bind_some]
      dsimp only
      rw [l01Amount_eq, Option.bind_some, if_pos (inB_iff.2 ⟨h0, h1⟩), amt_s h0 h1, Option.bind_some]
      simp
  · right
    refine ⟨hn, ?_, ?_⟩
    all_goals
      obtain ⟨⟨r1, l1⟩, r2, l2⟩ := amtLoop_tot (pcs 32 t) (by have := pcs_len (c := 32) t; omega) (fun x hx => by have := pcs_sub hx; omega)
    · unfold impl_ReadAmount strings_Split
      by_cases h30 : (t.length : Int) > 30
      · rw [if_pos (by simpa using h30)]
      · rw [if_neg (by simpa using h30), si, Option.bind_some, l1, Option.bind_some]
        rcases r1 with u | v
        · rfl
        · dsimp only
          by_cases hv : 0 ≤ v ∧ v ≤ 100000000
          · rw [amt_i hv.1 hv.2, Option.bind_some, if_neg]
            intro e
            exact hn ⟨v, hv.1, hv.2, (beq_iff_eq.1 e).symm⟩
          · rw [amt_out hv, Option.bind_some]
            by_cases he : t = []
            · subst he
              have : Lw (impl_ReadAmount_b1 (pcs 32 [])) (0, 0) = some (.inl ()) := Lw_stop (by simp [impl_ReadAmount_b1, pcs, rd_zero])
              rw [this] at l1
              cases l1
            · rw [if_neg (by simpa using he)]
    · unfold spec_l01ReadAmount
      rw [ss, Option.bind_some, l2, Option.bind_some]
      rcases r2 with u | v
      · exact ⟨_, rfl⟩
      · dsimp only
        rw [l01Amount_eq, Option.bind_some]
        by_cases hv : 0 ≤ v ∧ v ≤ 100000000
        · rw [if_pos (inB_iff.2 hv), amt_s hv.1 hv.2, Option.bind_some]
          refine ⟨v, ?_⟩
          have : (amtT v == t) = false := by
            rw [beq_eq_false_iff_ne]
            intro e
            exact hn ⟨v, hv.1, hv.2, e.symm⟩
          rw [this]
        · rw [if_neg (fun e => hv (inB_iff.1 e))]
          exact ⟨v, rfl⟩
end Go.Proofs.YtbhbmgmnnkcmcaaDoor
/- One line of an account read. -/
namespace Go.Proofs.YtbhbmgmnnkcmcaaDoor
open Go Go.Ab
def W4 : List (List UInt8) := [[102, 97, 114, 109], [100, 101, 98, 116], [112, 97, 105, 100], [97, 108, 108, 111, 119, 101, 100]]
theorem words_i : impl_itemWords = some W4 := rfl
theorem words_s : spec_l05Words = some W4 := rfl
theorem idx_word (w : List UInt8) : (∃ j : Nat, j < 4 ∧ slices_Index_string W4 w = some (j : Int) ∧ wordT (j : Int) = w ∧ ∀ i, i < j → wordT (i : Int) ≠ w) ∨ (slices_Index_string W4 w = some (-1) ∧ ∀ i : Nat, i < 4 → wordT (i : Int) ≠ w) := by
  have key := find_first (tb := slices_Index_string_b1 W4 w) (fun x => decide (w = x)) W4 (fun i => .inl (i : Int)) (.inr ())
    (by
      intro i h hp
      have w1 := w64s h (by decide)
      simp only [decide_eq_false_iff_not] at hp
      have c0 : decide ((i : Int) < (W4.length : Int)) = true := decide_eq_true (by omega)
      have hr : rd W4 (i : Int) = some W4[i] := by rw [rd_coe, List.getElem?_eq_getElem h]
      simp only [slices_Index_string_b1, c0, hr, Option.bind_some, if_true, w1]
      rw [if_neg (by simpa using hp)])
    (by
      intro i h hp
      simp only [decide_eq_true_eq] at hp
      have c0 : decide ((i : Int) < (W4.length : Int)) = true := decide_eq_true (by omega)
      have hr : rd W4 (i : Int) = some W4[i] := by rw [rd_coe, List.getElem?_eq_getElem h]
      simp only [slices_Index_string_b1, c0, hr, Option.bind_some, if_true]
      rw [if_pos (by simpa using hp)])
    (by simp [slices_Index_string_b1])
  have hw : ∀ i (h : i < W4.length), wordT (i : Int) = W4[i] := by
    intro i h
    match i, h with
    | 0, _ => rfl
    | 1, _ => rfl
    | 2, _ => rfl
    | 3, _ => rfl
    | n + 4, h => exact absurd h (by simp [W4])
  have h4 : W4.length = 4 := rfl
  unfold slices_Index_string
  rw [key]
  by_cases hlt : W4.findIdx (fun x => decide (w = x)) < W4.length
  · left
    refine ⟨W4.findIdx (fun x => decide (w = x)), by omega, by rw [if_pos hlt]; rfl, ?_, fun i hi => ?_⟩
    · rw [hw _ hlt]
      have := List.findIdx_getElem (w := hlt)
      exact (of_decide_eq_true this).symm
    · rw [hw i (by omega)]
      have := List.not_of_lt_findIdx hi
      intro e
      simp [e] at this
  · right
    refine ⟨by rw [if_neg hlt]; rfl, fun i hi => ?_⟩
    rw [hw i (by omega)]
    intro e
    refine hlt (List.findIdx_lt_length_of_exists ⟨W4[i], List.getElem_mem (by omega), decide_eq_true e.symm⟩)
theorem readItem_hit {l a b : List UInt8} {j : Nat} {n : Int} {f : Bool} (hf : spec_l05First l = some (a, b)) (hj : j < 4) (hw : wordT (j : Int) = a) (hn : ∀ i, i < j → wordT (i : Int) ≠ a) (hr : spec_l01ReadAmount b = some (n, f)) : spec_l05ReadItem l = some ((j : Int), n, f) := by
  have rdw : ∀ i : Nat, i < 4 → rd W4 (i : Int) = some (wordT (i : Int)) := by
    intro i h
    match i, h with
    | 0, _ => rfl
    | 1, _ => rfl
    | 2, _ => rfl
    | 3, _ => rfl
    | n + 4, h => omega
  have i8 : IntKind.i8.wrap (j : Int) = (j : Int) := by simp [IntKind.wrap, IntKind.signed, IntKind.bits]; omega
  have key := Lw_run (tb := spec_l05ReadItem_b1 a b) (fun i => ((i : Int), 0, 0)) j (r := .inl (f, (j : Int), n))
    (by
      intro i hi
      have w := w64s (n := 4) (i := i) (by omega) (by decide)
      have c0 : decide ((i : Int) < 4) = true := decide_eq_true (by omega)
      simp only [spec_l05ReadItem_b1, c0, words_s, rdw i (by omega), Option.bind_some, if_true, w]
      rw [if_neg (by simpa using hn i hi)])
    (by
      have c0 : decide ((j : Int) < 4) = true := decide_eq_true (by omega)
      simp only [spec_l05ReadItem_b1, c0, words_s, rdw j hj, Option.bind_some, if_true, hr, i8]
      rw [if_pos (by simpa using hw)])
  have key' : Lw (spec_l05ReadItem_b1 a b) (0, 0, 0) = _ := key
  unfold spec_l05ReadItem
  rw [hf, Option.bind_some]
  dsimp only
  rw [key', Option.bind_some]
theorem readItem_miss {l a b : List UInt8} (hf : spec_l05First l = some (a, b)) (hn : ∀ i : Nat, i < 4 → wordT (i : Int) ≠ a) : spec_l05ReadItem l = some (0, 0, false) := by
  have rdw : ∀ i : Nat, i < 4 → rd W4 (i : Int) = some (wordT (i : Int)) := by
    intro i h
    match i, h with
    | 0, _ => rfl
    | 1, _ => rfl
    | 2, _ => rfl
    | 3, _ => rfl
    | n + 4, h => omega
  have key := Lw_run (tb := spec_l05ReadItem_b1 a b) (fun i => ((i : Int), 0, 0)) 4 (r := .inr (0, 0))
    (by
      intro i hi
      have w := w64s (n := 4) (i := i) (by omega) (by decide)
      have c0 : decide ((i : Int) < 4) = true := decide_eq_true (by omega)
      simp only [spec_l05ReadItem_b1, c0, words_s, rdw i (by omega), Option.bind_some, if_true, w]
      rw [if_neg (by simpa using hn i hi)])
    (by simp [spec_l05ReadItem_b1])
  have key' : Lw (spec_l05ReadItem_b1 a b) (0, 0, 0) = _ := key
  unfold spec_l05ReadItem
  rw [hf, Option.bind_some]
  dsimp only
  rw [key', Option.bind_some]
/-- a line of an item -/
def Good (l : List UInt8) (x : Item) : Prop := itemB x = true ∧ l ++ [10] = itemT x ∧ (∃ a b f, cutI l [32] = some (a, b, f) ∧ slices_Index_string W4 a = some x.Kind ∧ impl_ReadAmount b = some (x.Amount, 0)) ∧ spec_l05ReadItem l = some (x.Kind, x.Amount, true)
/-- a line that begins as an item's, and is none -/
def Bad2 (l : List UInt8) : Prop := (∃ a b f j, cutI l [32] = some (a, b, f) ∧ slices_Index_string W4 a = some j ∧ 0 ≤ j ∧ impl_ReadAmount b = some (0, 5)) ∧ (∃ x y, spec_l05ReadItem l = some (x, y, false)) ∧ ∃ j : Nat, j < 4 ∧ l.take 4 = (wordT (j : Int)).take 4
/-- any other line -/
def Bad3 (l : List UInt8) : Prop := (∃ a b f, cutI l [32] = some (a, b, f) ∧ slices_Index_string W4 a = some (-1)) ∧ ∃ x y, spec_l05ReadItem l = some (x, y, false)
theorem line_cases (l : List UInt8) (h : l.length ≤ 1048576) : (∃ x, Good l x) ∨ Bad2 l ∨ Bad3 l := by
  obtain ⟨a, b, f, c1, c2, c3, c4⟩ := cut_i h
  rcases idx_word a with ⟨j, j1, j2, j3, j4⟩ | ⟨j2, j4⟩
  · rcases read_same b (by omega) with ⟨n, n0, n1, rfl, r1, r2⟩ | ⟨_, r1, n, r2⟩
    · left
      refine ⟨⟨(j : Int), n⟩, ?_, ?_, ⟨a, _, f, c1, j2, r1⟩, readItem_hit c2 j1 j3 j4 r2⟩
      · unfold itemB
        simp only [Bool.and_eq_true, inB_iff]
        exact ⟨⟨by omega, by omega⟩, n0, n1⟩
      · have hs := amtT_short n0 n1
        rcases c4 with ⟨_, e, _⟩ | ⟨_, _, e, _⟩
        · unfold itemT
          simp only
          rw [e, j3]
          simp
        · rw [e] at hs; simp at hs
    · right; left
      refine ⟨⟨a, b, f, j, c1, j2, by omega, r1⟩, ⟨_, _, readItem_hit c2 j1 j3 j4 r2⟩, j, j1, ?_⟩
      have hl : 4 ≤ (wordT (j : Int)).length := by
        match j, j1 with
        | 0, _ => decide
        | 1, _ => decide
        | 2, _ => decide
        | 3, _ => decide
        | n + 4, h => omega
      rcases c4 with ⟨_, e, _⟩ | ⟨_, e, _⟩
      · rw [e, ← j3, List.take_append_of_le_length hl]
      · rw [← e, ← j3]
  · right; right
    exact ⟨⟨a, b, f, c1, j2⟩, _, _, readItem_miss c2 j4⟩
/-- the items at the head of the lines -/
theorem lead : ∀ (ls : List (List UInt8)), (∀ l ∈ ls, l.length ≤ 1048576) → ∃ its : List Item, its.length ≤ ls.length ∧ (∀ q (hq : q < its.length) (hq2 : q < ls.length), Good ls[q] its[q]) ∧ (its.length = ls.length ∨ ∃ h : its.length < ls.length, Bad2 ls[its.length] ∨ Bad3 ls[its.length])
  | [], _ => ⟨[], by simp, fun q hq => by simp at hq, .inl rfl⟩
  | l :: r, h => by
    rcases line_cases l (h l (by simp)) with ⟨x, g⟩ | g
    · obtain ⟨its, h1, h2, h3⟩ := lead r (fun y hy => h y (by simp [hy]))
      refine ⟨x :: its, by simpa using h1, fun q hq hq2 => ?_, ?_⟩
      · match q, hq, hq2 with
        | 0, _, _ => exact g
        | q + 1, hq, hq2 => exact h2 q (by simpa using hq) (by simpa using hq2)
      · rcases h3 with h3 | ⟨h3, h4⟩
        · exact .inl (by simp [h3])
        · exact .inr ⟨by simpa using h3, h4⟩
    · exact ⟨[], by simp, fun q hq => by simp at hq, .inr ⟨by simp, g⟩⟩
theorem lead_flat : ∀ (ls : List (List UInt8)) (its : List Item), its.length ≤ ls.length → (∀ q (hq : q < its.length) (hq2 : q < ls.length), Good ls[q] its[q]) → ((ls.take its.length).map (· ++ [10])).flatten = (its.map itemT).flatten ∧ ∀ x ∈ its, itemB x = true
  | ls, [], _, _ => by simp
  | [], x :: r, h, _ => by simp at h
  | l :: ls, x :: r, h, g => by
    have g0 := g 0 (by simp) (by simp)
    obtain ⟨i1, i2⟩ := lead_flat ls r (by simpa using h) (fun q hq hq2 => g (q + 1) (by simpa using hq) (by simpa using hq2))
    obtain ⟨e0, e1, _⟩ := g0
    refine ⟨?_, fun y hy => ?_⟩
    · simp only [List.length_cons, List.take_succ_cons, List.map_cons, List.flatten_cons, i1]
      have e1' : l ++ [10] = itemT x := e1
      rw [e1']
    · rcases List.mem_cons.1 hy with rfl | hy
      · exact e0
      · exact i2 y hy
theorem join_nl {c : UInt8} : ∀ (xs : List (List UInt8)), xs ≠ [] → Lib.join xs [c] ++ [c] = (xs.map (· ++ [c])).flatten
  | [], h => absurd rfl h
  | [x], _ => by rw [Lib.join_one]; simp
  | x :: y :: r, _ => by
    rw [join_two]
    have ih := join_nl (c := c) (y :: r) (by simp)
    rw [List.map_cons, List.flatten_cons, ← ih]
    simp
end Go.Proofs.YtbhbmgmnnkcmcaaDoor
/- Accounts read. -/
namespace Go.Proofs.YtbhbmgmnnkcmcaaDoor
open Go Go.Ab
theorem itemS_eq {x : Item} (h : itemB x = true) : spec_l05Item x = some true := by
  have hb := h
  unfold itemB at hb
  simp only [Bool.and_eq_true] at hb
  have hk := inB_iff.1 hb.1
  unfold spec_l05Item
  rw [w64 (by omega), l00In_eq, l01Amount_eq, hb.1, hb.2]
  rfl
theorem itemsS_eq {xs : List Item} (h : ∀ x ∈ xs, itemB x = true) : spec_l05Items xs = some (decide (xs.length ≤ 40)) := by
  unfold spec_l05Items
  by_cases hn : (xs.length : Int) > 40
  · rw [if_pos (by simpa using hn), decide_eq_false (by omega)]
  · rw [if_neg (by simpa using hn), decide_eq_true (by omega)]
    have key := Lw_run (tb := spec_l05Items_b1 xs) (fun i => (i : Int)) xs.length (r := .inr ())
      (by
        intro i hi
        have w := w64s hi (by omega)
        have hr : rd xs (i : Int) = some xs[i] := by rw [rd_coe, List.getElem?_eq_getElem hi]
        simp only [spec_l05Items_b1, hr, itemS_eq (h _ (List.getElem_mem hi)), Option.bind_some, w, if_true]
        rw [if_pos (by simpa using hi)])
      (by simp [spec_l05Items_b1])
    have key' : Lw (spec_l05Items_b1 xs) 0 = _ := key
    rw [key']
    rfl
theorem balance_in (xs : List Item) (hn : xs.length ≤ 4611686018427387904) : ∃ v, impl_balance xs = some v ∧ spec_l05Balance xs = some v ∧ InR .i64 v := by
  obtain ⟨v, v1, v2⟩ := balance_same xs hn
  refine ⟨v, v1, v2, ?_⟩
  obtain ⟨r, r1, r2⟩ := Lw_meas (tb := impl_balance_b1 xs) (fun s => xs.length - s.2.toNat) (fun s => InR .i64 s.1 ∧ ∃ i : Nat, s.2 = i ∧ i ≤ xs.length) (fun r => InR .i64 r)
    (by
      rintro ⟨a, j⟩ ⟨ha, i, hi, hl⟩
      simp only at hi ha
      subst hi
      by_cases hlt : i < xs.length
      · have hr : rd xs (i : Int) = some xs[i] := by rw [rd_coe, List.getElem?_eq_getElem hlt]
        have w := w64s hlt hn
        have c0 : decide ((i : Int) < (xs.length : Int)) = true := decide_eq_true (by omega)
        have wr : ∀ n : Int, InR .i64 (IntKind.i64.wrap n) := fun n => inR64.2 ⟨w64_ge n, w64_le n⟩
        left
        by_cases k0 : (xs[i].Kind == 0) = true
        · exact ⟨_, by simp only [impl_balance_b1, c0, hr, Option.bind_some, w, if_true]; rw [if_pos k0], ⟨wr _, i + 1, rfl, hlt⟩, by simp; omega⟩
        · by_cases k1 : (xs[i].Kind == 1) = true
          · exact ⟨_, by simp only [impl_balance_b1, c0, hr, Option.bind_some, w, if_true]; rw [if_neg k0, if_pos k1], ⟨wr _, i + 1, rfl, hlt⟩, by simp; omega⟩
          · exact ⟨_, by simp only [impl_balance_b1, c0, hr, Option.bind_some, w, if_true]; rw [if_neg k0, if_neg k1], ⟨wr _, i + 1, rfl, hlt⟩, by simp; omega⟩
      · have : i = xs.length := by omega
        subst this
        exact .inr ⟨a, by simp [impl_balance_b1], ha⟩) _ (0, 0) rfl ⟨inR64.2 (by omega), 0, rfl, by omega⟩
  unfold impl_balance at v1
  rw [r1, Option.bind_some] at v1
  cases v1
  exact r2
/-! the last line -/
def Closed (p : List UInt8) : Prop := ∀ q, ∃ pre, pcs 10 (p ++ q) = pre ++ pcs 10 q
theorem Closed.nil : Closed [] := fun q => ⟨[], rfl⟩
theorem Closed.line (p : List UInt8) : Closed (p ++ [10]) := fun q => ⟨pcs 10 p, by rw [List.append_assoc, List.singleton_append, pcs_app]⟩
theorem Closed.app {p q : List UInt8} (h1 : Closed p) (h2 : Closed q) : Closed (p ++ q) := fun r => by
  obtain ⟨a, ha⟩ := h1 (q ++ r)
  obtain ⟨b, hb⟩ := h2 r
  exact ⟨a ++ b, by rw [List.append_assoc, ha, hb, List.append_assoc]⟩
theorem Closed.items : ∀ xs : List Item, Closed (xs.map itemT).flatten
  | [] => Closed.nil
  | x :: r => by
    rw [List.map_cons, List.flatten_cons]
    exact Closed.app (Closed.line _) (Closed.items r)
/-- the last line without its end -/
noncomputable def lastT (n : Int) : List UInt8 := if n > 0 then [111, 119, 101, 115, 32] ++ amtT n else if n < 0 then [111, 118, 101, 114, 32] ++ amtT (-n) else [113, 117, 105, 116]
theorem tailT_last (n : Int) : tailT n = lastT n ++ [10] := by
  unfold tailT lastT
  split
  · rfl
  · split <;> rfl
theorem lastT_no {n : Int} (h0 : -100000000 ≤ n) (h1 : n ≤ 100000000) : (10 : UInt8) ∉ lastT n := by
  unfold lastT
  split
  · intro h
    rcases List.mem_append.1 h with h | h
    · revert h; decide
    · exact amtT_no (by omega) h1 h
  · split
    · intro h
      rcases List.mem_append.1 h with h | h
      · revert h; decide
      · exact amtT_no (by omega) (by omega) h
    · decide
theorem lastT_word (n : Int) {l : List UInt8} {j : Nat} (hj : j < 4) (h : l.take 4 = (wordT (j : Int)).take 4) : lastT n ≠ l := by
  intro e
  rw [← e] at h
  have hw : (lastT n).take 4 = [111, 119, 101, 115] ∨ (lastT n).take 4 = [111, 118, 101, 114] ∨ (lastT n).take 4 = [113, 117, 105, 116] := by
    unfold lastT
    split
    · left; rfl
    · split
      · right; left; rfl
      · right; right; rfl
  rw [h] at hw
  match j, hj with
  | 0, _ => revert hw; decide
  | 1, _ => revert hw; decide
  | 2, _ => revert hw; decide
  | 3, _ => revert hw; decide
  | n + 4, h => omega
theorem accT_pcs (a : Account) (h : -100000000 ≤ a.Balance ∧ a.Balance ≤ 100000000) : ∃ pre, pcs 10 (accT a) = pre ++ [lastT a.Balance, []] := by
  have hc : Closed (a.Title ++ [10] ++ (a.Items.map itemT).flatten) := Closed.app (Closed.line _) (Closed.items _)
  obtain ⟨pre, hp⟩ := hc (tailT a.Balance)
  refine ⟨pre, ?_⟩
  unfold accT
  rw [hp, tailT_last]
  show pre ++ pcs 10 (lastT a.Balance ++ 10 :: []) = _
  rw [pcs_app, pcs_no (lastT_no h.1 h.2)]
  rfl
theorem Lw_runS {S R : Type} {tb : S → Option (S ⊕ R)} (st : Nat → S) (n : Nat) (h : ∀ i, i < n → tb (st i) = some (.inl (st (i + 1)))) : Lw tb (st 0) = Lw tb (st n) := by
  induction n with
  | zero => rfl
  | succ n ih => rw [ih (fun i hi => h i (by omega)), Lw_step (h n (by omega))]
end Go.Proofs.YtbhbmgmnnkcmcaaDoor
/- Lists of lines read as accounts. -/
namespace Go.Proofs.YtbhbmgmnnkcmcaaDoor
open Go Go.Ab
section
variable {t : List UInt8} {ls : List (List UInt8)} {its : List Item}
theorem cloneI (h : its.length ≤ 1048576) : app 16 ([] : List Item) its = some its := by
  rw [app_some (by simp; omega) (by decide)]; rfl
theorem run_s (hn : ls.length ≤ 1048576) (h1 : its.length ≤ ls.length) (h2 : ∀ q (hq : q < its.length) (hq2 : q < ls.length), Good ls[q] its[q]) (h3 : its.length = ls.length ∨ ∃ h : its.length < ls.length, ∃ x y, spec_l05ReadItem ls[its.length] = some (x, y, false)) :
    Lw (spec_l05Read_b1 (t :: ls)) (1, []) = some (((its.length + 1 : Nat) : Int), its) := by
  have run := Lw_runS (tb := spec_l05Read_b1 (t :: ls)) (fun q => (((q + 1 : Nat) : Int), its.take q)) its.length
    (by
      intro q hq
      have hq2 : q < ls.length := by omega
      obtain ⟨_, _, _, g4⟩ := h2 q hq hq2
      have c0 : decide (((q + 1 : Nat) : Int) < ((t :: ls).length : Int)) = true := decide_eq_true (by rw [List.length_cons]; omega)
      have hr : rd (t :: ls) ((q + 1 : Nat) : Int) = some ls[q] := by rw [rd_coe, List.getElem?_cons_succ, List.getElem?_eq_getElem hq2]
      have w : IntKind.i64.wrap (((q + 1 : Nat) : Int) + 1) = ((q + 1 + 1 : Nat) : Int) := by rw [w64 (by omega)]; omega
      have ap : app 16 (its.take q) [its[q]] = some (its.take q ++ [its[q]]) := app_some (by simp; omega) (by decide)
      have eI : (⟨its[q].Kind, its[q].Amount⟩ : Item) = its[q] := rfl
      simp only [spec_l05Read_b1, c0, hr, g4, Option.bind_some, if_true, eI, ap, w]
      rw [List.take_succ_eq_append_getElem hq])
  have run' : Lw (spec_l05Read_b1 (t :: ls)) (1, []) = _ := run
  rw [run']
  simp only [List.take_length]
  refine Lw_stop ?_
  rcases h3 with h3 | ⟨h3, x, y, e⟩
  · have c0 : decide (((its.length + 1 : Nat) : Int) < ((t :: ls).length : Int)) = false := decide_eq_false (by rw [List.length_cons]; omega)
    simp only [spec_l05Read_b1, c0, Bool.false_eq_true, if_false]
  · have c0 : decide (((its.length + 1 : Nat) : Int) < ((t :: ls).length : Int)) = true := decide_eq_true (by rw [List.length_cons]; omega)
    have hr : rd (t :: ls) ((its.length + 1 : Nat) : Int) = some ls[its.length] := by rw [rd_coe, List.getElem?_cons_succ, List.getElem?_eq_getElem h3]
    simp only [spec_l05Read_b1, c0, hr, e, Option.bind_some, if_true, Bool.false_eq_true, if_false]
theorem run_i (hn : ls.length ≤ 1048576) (h1 : its.length ≤ ls.length) (h2 : ∀ q (hq : q < its.length) (hq2 : q < ls.length), Good ls[q] its[q]) (k : Nat) (hk : k ≤ its.length) (h40 : k ≤ 40) :
    Lw (impl_readAccount_b1 (t :: ls) ls) (0, [], 0, []) = Lw (impl_readAccount_b1 (t :: ls) ls) ((k : Int), [], 0, its.take k) := by
  have run := Lw_runS (tb := impl_readAccount_b1 (t :: ls) ls) (fun q => ((q : Int), [], 0, its.take q)) k
    (by
      intro q hq
      have hq1 : q < its.length := by omega
      have hq2 : q < ls.length := by omega
      obtain ⟨g1, _, ⟨a, b, f, c1, c2, c3⟩, _⟩ := h2 q hq1 hq2
      unfold itemB at g1
      simp only [Bool.and_eq_true] at g1
      have hk := inB_iff.1 g1.1
      have c0 : decide ((q : Int) < (ls.length : Int)) = true := decide_eq_true (by omega)
      have hr : rd ls (q : Int) = some ls[q] := by rw [rd_coe, List.getElem?_eq_getElem hq2]
      have w := w64s hq2 (by omega)
      have ap : app 16 (its.take q) [its[q]] = some (its.take q ++ [its[q]]) := app_some (by simp; omega) (by decide)
      have i8 : IntKind.i8.wrap its[q].Kind = its[q].Kind := by simp [IntKind.wrap, IntKind.signed, IntKind.bits]; omega
      have eI : (⟨its[q].Kind, its[q].Amount⟩ : Item) = its[q] := rfl
      have ck : decide (its[q].Kind ≥ 0) = true := decide_eq_true hk.1
      have ce : ((0 : Int) != 0) = false := rfl
      have cl : (((its.take q).length : Int) == 40) = false := by rw [beq_eq_false_iff_ne, List.length_take]; omega
      simp only [impl_readAccount_b1, strings_Cut, words_i, c0, hr, c1, c2, c3, ck, ce, cl, Option.bind_some, if_true, Bool.false_eq_true, if_false, i8, eI, ap, w]
      rw [List.take_succ_eq_append_getElem hq1])
  exact run
theorem read_i_def (hl : 1 ≤ ls.length) : impl_readAccount (t :: ls) = (Lw (impl_readAccount_b1 (t :: ls) ls) (0, [], 0, [])).bind fun r => match r with
  | (.inl (y338, y339, y340, y341)) => some (.inl (y340, y341, y338, y339))
  | (.inr (.inl (y348, y349, y350, y351, y352))) => some (.inr (y350, y351, y352, y348, y349))
  | (.inr (.inr (y359, y360, y361))) => some (.inl ([], 0, 0, false)) := by
  have s1 : slc (t :: ls) 1 ((t :: ls).length : Int) = some ls := by
    have := slc_some (xs := t :: ls) (a := 1) (b := (t :: ls).length) (by simp) (by simp)
    rw [show (1 : Int) = ((1 : Nat) : Int) from rfl, this]
    simp
  unfold impl_readAccount
  rw [if_neg (by simp; omega), s1, Option.bind_some]
  rfl
theorem far_i (hn : ls.length ≤ 1048576) (h1 : its.length ≤ ls.length) (h2 : ∀ q (hq : q < its.length) (hq2 : q < ls.length), Good ls[q] its[q]) (h40 : 40 < its.length) : impl_readAccount (t :: ls) = some (.inl ([], 0, 0, false)) := by
  have hq2 : 40 < ls.length := by omega
  obtain ⟨g1, _, ⟨a, b, f, c1, c2, c3⟩, _⟩ := h2 40 h40 hq2
  unfold itemB at g1
  simp only [Bool.and_eq_true] at g1
  have hk := inB_iff.1 g1.1
  have c0 : decide (((40 : Nat) : Int) < (ls.length : Int)) = true := decide_eq_true (by omega)
  have hr : rd ls ((40 : Nat) : Int) = some ls[40] := by rw [rd_coe, List.getElem?_eq_getElem hq2]
  have ck : decide (its[40].Kind ≥ 0) = true := decide_eq_true hk.1
  have ce : ((0 : Int) != 0) = false := rfl
  have cl : (((its.take 40).length : Int) == 40) = true := by rw [beq_iff_eq, List.length_take]; omega
  rw [read_i_def (by omega), run_i hn h1 h2 40 (by omega) (Nat.le_refl _), Lw_stop (r := .inl (0, false, [], 0)) (by
    simp only [impl_readAccount_b1, strings_Cut, words_i, c0, hr, c1, c2, c3, ck, ce, cl, Option.bind_some, if_true, Bool.false_eq_true, if_false])]
  rfl
theorem end_i (hn : ls.length ≤ 1048576) (hl : 1 ≤ ls.length) (h1 : its.length = ls.length) (h2 : ∀ q (hq : q < its.length) (hq2 : q < ls.length), Good ls[q] its[q]) (h40 : its.length ≤ 40) : impl_readAccount (t :: ls) = some (.inl ([], 0, 0, false)) := by
  have c0 : decide ((its.length : Int) < (ls.length : Int)) = false := decide_eq_false (by omega)
  rw [read_i_def hl, run_i hn (by omega) h2 its.length (Nat.le_refl _) h40, Lw_stop (r := .inr (.inr ([], 0, its.take its.length))) (by
    simp only [impl_readAccount_b1, c0, Bool.false_eq_true, if_false])]
  rfl
theorem bad2_i (hn : ls.length ≤ 1048576) (h1 : its.length < ls.length) (h2 : ∀ q (hq : q < its.length) (hq2 : q < ls.length), Good ls[q] its[q]) (h40 : its.length ≤ 40) (hb : Bad2 ls[its.length]) : impl_readAccount (t :: ls) = some (.inl ([], 0, 0, false)) := by
  obtain ⟨⟨a, b, f, j, c1, c2, c4, c3⟩, _, _⟩ := hb
  have c0 : decide ((its.length : Int) < (ls.length : Int)) = true := decide_eq_true (by omega)
  have hr : rd ls (its.length : Int) = some ls[its.length] := by rw [rd_coe, List.getElem?_eq_getElem h1]
  have ck : decide (j ≥ 0) = true := decide_eq_true c4
  have ce : ((5 : Int) != 0) = true := rfl
  rw [read_i_def (by omega), run_i hn (by omega) h2 its.length (Nat.le_refl _) h40, Lw_stop (r := .inl (0, false, [], 0)) (by
    simp only [impl_readAccount_b1, strings_Cut, words_i, c0, hr, c1, c2, c3, ck, ce, Option.bind_some, if_true])]
  rfl
theorem make_eq (ht : t.length ≤ 1048576) (h40 : its.length ≤ 40) (hi : ∀ x ∈ its, itemB x = true) {v : Int} (hv : impl_balance its = some v) : impl_MakeAccount t its = if lettersB t 16 = true then some (.inl (t, its, v)) else some (.inr 2) := by
  have ha : (its.all itemB && decide (its.length ≤ 40)) = true := by
    rw [Bool.and_eq_true, List.all_eq_true]; exact ⟨hi, decide_eq_true h40⟩
  unfold impl_MakeAccount slices_Clone_Item
  rw [validItems_eq _ (by omega), Option.bind_some, ha, if_pos rfl, isLetters_eq _ _ (by omega), Option.bind_some, cloneI (by omega), hv]
  rfl
theorem check_eq (ht : t.length ≤ 1048576) (h40 : its.length ≤ 40) (hi : ∀ x ∈ its, itemB x = true) {v : Int} (hv : impl_balance its = some v) (hl : lettersB t 16 = true) : impl_CheckAccount ⟨t, its, v⟩ = some true := by
  have ha : (its.all itemB && decide (its.length ≤ 40)) = true := by
    rw [Bool.and_eq_true, List.all_eq_true]; exact ⟨hi, decide_eq_true h40⟩
  unfold impl_CheckAccount
  dsimp only
  rw [isLetters_eq _ _ (by omega), Option.bind_some, hl, if_pos rfl, validItems_eq _ (by omega), Option.bind_some, ha, if_pos rfl, hv, Option.bind_some]
  simp
theorem size_in {n : Int} (h : InR .i64 n) : (impl_size n).bind impl_isAmount = some (inB n (-100000000) 100000000) := by
  obtain ⟨h0, h1⟩ := inR64.1 h
  unfold impl_size
  rw [Option.bind_some, isAmount_eq]
  congr 1
  by_cases hm : n = -9223372036854775808
  · subst hm
    have : IntKind.i64.wrap (0 - (-9223372036854775808)) = -9223372036854775808 := by decide
    rw [this]; decide
  · rw [w64 (by omega), Bool.eq_iff_iff, inB_iff, inB_iff]
    omega
theorem acI (h40 : its.length ≤ 40) (hi : ∀ x ∈ its, itemB x = true) {v : Int} (hl : lettersB t 16 = true) (hv : -100000000 ≤ v ∧ v ≤ 100000000) : AcI ⟨t, its, v⟩ := by
  unfold lettersB at hl
  simp only [Bool.and_eq_true, decide_eq_true_eq] at hl
  exact ⟨⟨hl.1.2, by have := hl.2; simp only; omega⟩, h40, hi, hv⟩
theorem text_eq (ht : t.length ≤ 1048576) (h40 : its.length ≤ 40) (hi : ∀ x ∈ its, itemB x = true) {v : Int} (hv : impl_balance its = some v) (hr : InR .i64 v) (hl : lettersB t 16 = true) : impl_AccountText ⟨t, its, v⟩ = some (if inB v (-100000000) 100000000 = true then accT ⟨t, its, v⟩ else []) := by
  have hc := check_eq ht h40 hi hv hl
  have hs := size_in hr
  cases hb : inB v (-100000000) 100000000 with
  | true =>
    rw [hb] at hs
    rw [if_pos rfl]
    exact text_i _ (acI h40 hi hl (inB_iff.1 hb)) hc hs
  | false =>
    rw [hb] at hs
    rw [if_neg (by simp)]
    obtain ⟨r, r1, r2⟩ := bind_some hs
    unfold impl_AccountText
    simp [hc, r1, r2]
end
end Go.Proofs.YtbhbmgmnnkcmcaaDoor
/- Accounts read: both sides. -/
namespace Go.Proofs.YtbhbmgmnnkcmcaaDoor
open Go Go.Ab
section
variable {t : List UInt8} {ls : List (List UInt8)} {its : List Item}
theorem same_last (l : List UInt8) (v : Int) {J : List UInt8} (hJ : J ++ [10] = t ++ [10] ++ (its.map itemT).flatten ++ (l ++ [10])) : (accT ⟨t, its, v⟩ == J ++ [10]) = (lastT v == l) := by
  rw [hJ, Bool.eq_iff_iff, beq_iff_eq, beq_iff_eq]
  unfold accT
  dsimp only
  rw [tailT_last, List.append_right_inj, List.append_left_inj]
theorem bad3_i (ht : t.length ≤ 1048576) (hls : ∀ l ∈ ls, l.length ≤ 1048576) (hn : ls.length ≤ 1048576) (h1 : its.length < ls.length) (h2 : ∀ q (hq : q < its.length) (hq2 : q < ls.length), Good ls[q] its[q]) (h40 : its.length ≤ 40) (hb : Bad3 ls[its.length]) {v : Int} (hv : impl_balance its = some v) (hr : InR .i64 v) :
    (lettersB t 16 = false → ∃ n, impl_readAccount (t :: ls) = some (.inl ([], 0, n, false))) ∧
    (lettersB t 16 = true → impl_readAccount (t :: ls) = some (.inr (t, its, v, ((its.length + 2 : Nat) : Int), inB v (-100000000) 100000000 && (lastT v == ls[its.length])))) := by
  obtain ⟨⟨a, b, f, c1, c2⟩, _⟩ := hb
  obtain ⟨lf, hi⟩ := lead_flat ls its (by omega) h2
  have hl := hls _ (List.getElem_mem h1)
  have c0 : decide ((its.length : Int) < (ls.length : Int)) = true := decide_eq_true (by omega)
  have hrd : rd ls (its.length : Int) = some ls[its.length] := by rw [rd_coe, List.getElem?_eq_getElem h1]
  have hr0 : rd (t :: ls) 0 = some t := by rw [rd_zero]; rfl
  have ck : decide ((-1 : Int) ≥ 0) = false := rfl
  have w2 : IntKind.i64.wrap ((its.length : Int) + 2) = ((its.length + 2 : Nat) : Int) := by rw [w64 (by omega)]; omega
  have sl : slc (t :: ls) 0 ((its.length + 2 : Nat) : Int) = some (t :: ls.take (its.length + 1)) := by
    have := slc_some (xs := t :: ls) (a := 0) (b := its.length + 2) (by omega) (by simp; omega)
    rw [show (0 : Int) = ((0 : Nat) : Int) from rfl, this]
    simp
  have hJ : Lib.join (t :: ls.take (its.length + 1)) [10] ++ [10] = t ++ [10] ++ (its.map itemT).flatten ++ (ls[its.length] ++ [10]) := by
    rw [join_nl _ (by simp), List.take_succ_eq_append_getElem h1, List.map_cons, List.flatten_cons, List.map_append, List.flatten_append, lf]
    simp
  have fl := flat_len itemT 80 its (fun x hx => itemT_len (hi x hx))
  have jl : (Lib.join (t :: ls.take (its.length + 1)) [10]).length ≤ 3000000 := by
    have := congrArg List.length hJ
    simp only [List.length_append, List.length_singleton] at this
    omega
  have jn : strings_Join (t :: ls.take (its.length + 1)) [10] = some (Lib.join (t :: ls.take (its.length + 1)) [10]) := by
    unfold strings_Join joinI
    rw [if_pos ⟨by omega, by simp; omega⟩]
  have sa : sadd (Lib.join (t :: ls.take (its.length + 1)) [10]) [10] = some (Lib.join (t :: ls.take (its.length + 1)) [10] ++ [10]) := sadd_some (by simp only [List.length_singleton]; omega)
  have mk := make_eq ht h40 hi hv
  constructor
  · intro hlt
    rw [hlt, if_neg (by simp)] at mk
    have e2 : ((2 : Int) == 0) = false := rfl
    refine ⟨((its.length + 2 : Nat) : Int), ?_⟩
    rw [read_i_def (by omega), run_i hn (by omega) h2 its.length (Nat.le_refl _) h40, List.take_length, Lw_stop (r := .inl (((its.length + 2 : Nat) : Int), false, [], 0)) (by
      simp only [impl_readAccount_b1, strings_Cut, words_i, c0, hrd, c1, c2, ck, hr0, mk, w2, sl, jn, sa, e2, Option.bind_some, if_true, Bool.false_eq_true, if_false])]
    rfl
  · intro hlt
    rw [hlt, if_pos rfl] at mk
    have tx := text_eq ht h40 hi hv hr hlt
    have sm := same_last (t := t) (its := its) ls[its.length] v hJ
    have eq : ((if inB v (-100000000) 100000000 = true then accT ⟨t, its, v⟩ else []) == Lib.join (t :: ls.take (its.length + 1)) [10] ++ [10]) = (inB v (-100000000) 100000000 && (lastT v == ls[its.length])) := by
      cases hb : inB v (-100000000) 100000000 with
      | true => rw [if_pos rfl, Bool.true_and, sm]
      | false =>
        rw [if_neg (by simp), Bool.false_and, beq_eq_false_iff_ne]
        intro e
        have := congrArg List.length e
        simp at this
    rw [read_i_def (by omega), run_i hn (by omega) h2 its.length (Nat.le_refl _) h40, List.take_length, Lw_stop (r := .inr (.inl (((its.length + 2 : Nat) : Int), inB v (-100000000) 100000000 && (lastT v == ls[its.length]), t, its, v))) (by
      simp only [impl_readAccount_b1, strings_Cut, words_i, c0, hrd, c1, c2, ck, hr0, mk, w2, sl, jn, sa, tx, eq, Option.bind_some, if_true, Bool.false_eq_true, if_false])]
    rfl
theorem read_sp (ht : t.length ≤ 1048576) (hn : ls.length ≤ 1048576) (h1 : its.length ≤ ls.length) (h2 : ∀ q (hq : q < its.length) (hq2 : q < ls.length), Good ls[q] its[q]) (h3 : its.length = ls.length ∨ ∃ h : its.length < ls.length, ∃ x y, spec_l05ReadItem ls[its.length] = some (x, y, false)) {v : Int} (hv : spec_l05Balance its = some v) :
    ((lettersB t 16 = false ∨ its.length = ls.length ∨ 40 < its.length) → spec_l05Read (t :: ls) = some (.inl ())) ∧
    ∀ h : its.length < ls.length, lettersB t 16 = true → its.length ≤ 40 → (inB v (-100000000) 100000000 = false → spec_l05Read (t :: ls) = some (.inl ())) ∧
      (inB v (-100000000) 100000000 = true → spec_l05Read (t :: ls) = some (.inr (t, its, v, ((its.length + 2 : Nat) : Int), lastT v == ls[its.length]))) := by
  obtain ⟨_, hi⟩ := lead_flat ls its h1 h2
  have run := run_s (t := t) hn h1 h2 h3
  have hr0 : rd (t :: ls) 0 = some t := by rw [rd_zero]; rfl
  have l0 : (((t :: ls).length : Int) == 0) = false := by rw [beq_eq_false_iff_ne, List.length_cons]; omega
  have tl := l05Title_eq t (by omega)
  have it := itemsS_eq hi
  constructor
  · intro h
    unfold spec_l05Read
    simp only [l0, hr0, tl, run, it, Option.bind_some, Bool.false_eq_true, if_false]
    cases hl : lettersB t 16 with
    | false => simp
    | true =>
      simp only [Bool.not_true, Bool.false_eq_true, if_false]
      by_cases he : its.length = ls.length
      · rw [if_pos (by rw [beq_iff_eq, List.length_cons]; omega)]
        simp
      · have h4 : 40 < its.length := by
          rcases h with h | h | h
          · rw [hl] at h; cases h
          · exact absurd h he
          · exact h
        rw [if_neg (by rw [beq_iff_eq, List.length_cons]; omega), decide_eq_false (by omega)]
        simp
  · intro h hl h40
    have e1 : (((its.length + 1 : Nat) : Int) == ((t :: ls).length : Int)) = false := by rw [beq_eq_false_iff_ne, List.length_cons]; omega
    have i40 : decide (its.length ≤ 40) = true := decide_eq_true h40
    have ac : spec_l05Account t its = some (t, its, v) := by
      unfold spec_l05Account
      rw [cloneI (by omega), hv]; rfl
    have rt : spec_l05Right ⟨t, its, v⟩ = some true := by
      unfold spec_l05Right
      dsimp only
      rw [tl, Option.bind_some, hl, if_pos rfl, it, Option.bind_some, i40, if_pos rfl, hv, Option.bind_some]
      simp
    have pl : spec_l05Plain ⟨t, its, v⟩ = some (inB v (-100000000) 100000000) := by
      unfold spec_l05Plain
      rw [rt, Option.bind_some, if_pos rfl, l00In_eq, Option.bind_some]
    constructor
    · intro hb
      unfold spec_l05Read
      simp only [l0, hr0, tl, hl, run, it, e1, i40, ac, pl, hb, Option.bind_some, Bool.false_eq_true, if_false, Bool.not_true]
    · intro hb
      have bd := inB_iff.1 hb
      have aI := acI h40 hi hl bd
      have tx := text_s _ aI
      have ln := accT_len aI
      obtain ⟨pre, hp⟩ := accT_pcs ⟨t, its, v⟩ bd
      have ss : spec_l01Split (accT ⟨t, its, v⟩) 10 = some (pcs 10 (accT ⟨t, its, v⟩)) := split_s (s := accT ⟨t, its, v⟩) 10 (by omega)
      have pn := pcs_len (c := 10) (accT ⟨t, its, v⟩)
      have rl : rd (pcs 10 (accT ⟨t, its, v⟩)) (IntKind.i64.wrap (((pcs 10 (accT ⟨t, its, v⟩)).length : Int) - 2)) = some (lastT v) := by
        rw [hp] at pn ⊢
        have e : IntKind.i64.wrap (((pre ++ [lastT v, []]).length : Int) - 2) = ((pre.length : Nat) : Int) := by
          simp only [List.length_append, List.length_cons, List.length_nil] at pn ⊢
          rw [w64 (by omega)]; omega
        rw [e, rd_coe, List.getElem?_append_right (Nat.le_refl _)]
        simp
      have rk : rd (t :: ls) ((its.length + 1 : Nat) : Int) = some ls[its.length] := by rw [rd_coe, List.getElem?_cons_succ, List.getElem?_eq_getElem h]
      have w : IntKind.i64.wrap (((its.length + 1 : Nat) : Int) + 1) = ((its.length + 2 : Nat) : Int) := by rw [w64 (by omega)]; omega
      unfold spec_l05Read
      simp only [l0, hr0, tl, hl, run, it, e1, i40, ac, pl, hb, tx, ss, rl, rk, w, Option.bind_some, Bool.false_eq_true, if_false, Bool.not_true, if_true]
end
def ReadS (L : List (List UInt8)) : Prop :=
  (((∃ t v n, impl_readAccount L = some (.inl (t, v, n, false))) ∨ ∃ t its v n, impl_readAccount L = some (.inr (t, its, v, n, false))) ∧ (spec_l05Read L = some (.inl ()) ∨ ∃ t its v n, spec_l05Read L = some (.inr (t, its, v, n, false)))) ∨
  ∃ t its v n, impl_readAccount L = some (.inr (t, its, v, n, true)) ∧ spec_l05Read L = some (.inr (t, its, v, n, true)) ∧ its.length ≤ 40
theorem readL (L : List (List UInt8)) (hn : L.length ≤ 1048577) (hx : ∀ l ∈ L, l.length ≤ 1048576) : ReadS L := by
  match L, hn, hx with
  | [], _, _ => exact .inl ⟨.inl ⟨[], 0, 0, rfl⟩, .inl rfl⟩
  | t :: ls, hn, hx =>
    have ht := hx t (by simp)
    have hls : ∀ l ∈ ls, l.length ≤ 1048576 := fun l hl => hx l (by simp [hl])
    have hn' : ls.length ≤ 1048576 := by simpa using hn
    obtain ⟨its, h1, h2, h3⟩ := lead ls hls
    obtain ⟨v, v1, v2, v3⟩ := balance_in its (by omega)
    have h3' : its.length = ls.length ∨ ∃ h : its.length < ls.length, ∃ x y, spec_l05ReadItem ls[its.length] = some (x, y, false) := by
      rcases h3 with h3 | ⟨h3, h4 | h4⟩
      · exact .inl h3
      · exact .inr ⟨h3, h4.2.1⟩
      · exact .inr ⟨h3, h4.2⟩
    obtain ⟨s1, s2⟩ := read_sp ht hn' h1 h2 h3' v2
    by_cases hl0 : ls.length = 0
    · have : ls = [] := List.length_eq_zero_iff.1 hl0
      subst this
      exact .inl ⟨.inl ⟨[], 0, 0, by simp [impl_readAccount]⟩, .inl (s1 (.inr (.inl (by simpa using h1))))⟩
    by_cases h40 : 40 < its.length
    · exact .inl ⟨.inl ⟨_, _, _, far_i hn' h1 h2 h40⟩, .inl (s1 (.inr (.inr h40)))⟩
    rcases h3 with h3 | ⟨h3, h4⟩
    · exact .inl ⟨.inl ⟨_, _, _, end_i hn' (by omega) h3 h2 (by omega)⟩, .inl (s1 (.inr (.inl h3)))⟩
    · rcases h4 with h4 | h4
      · refine .inl ⟨.inl ⟨_, _, _, bad2_i hn' h3 h2 (by omega) h4⟩, ?_⟩
        cases hl : lettersB t 16 with
        | false => exact .inl (s1 (.inl hl))
        | true =>
          obtain ⟨q1, q2⟩ := s2 h3 hl (by omega)
          cases hb : inB v (-100000000) 100000000 with
          | false => exact .inl (q1 hb)
          | true =>
            obtain ⟨_, _, j, j1, j2⟩ := h4
            have : (lastT v == ls[its.length]) = false := by
              rw [beq_eq_false_iff_ne]
              exact lastT_word v j1 j2
            have q := q2 hb
            rw [this] at q
            exact .inr ⟨_, _, _, _, q⟩
      · obtain ⟨b1, b2⟩ := bad3_i ht hls hn' h3 h2 (by omega) h4 v1 v3
        cases hl : lettersB t 16 with
        | false =>
          obtain ⟨n, q⟩ := b1 hl
          exact .inl ⟨.inl ⟨_, _, _, q⟩, .inl (s1 (.inl hl))⟩
        | true =>
          have q := b2 hl
          obtain ⟨q1, q2⟩ := s2 h3 hl (by omega)
          cases hb : inB v (-100000000) 100000000 with
          | false =>
            rw [hb, Bool.false_and] at q
            exact .inl ⟨.inr ⟨_, _, _, _, q⟩, .inl (q1 hb)⟩
          | true =>
            have q' := q2 hb
            rw [hb, Bool.true_and] at q
            cases he : lastT v == ls[its.length] with
            | false =>
              rw [he] at q q'
              exact .inl ⟨.inr ⟨_, _, _, _, q⟩, .inr ⟨_, _, _, _, q'⟩⟩
            | true =>
              rw [he] at q q'
              exact .inr ⟨_, _, _, _, q, q', by omega⟩
theorem readAccount_same (s : List UInt8) (h : s.length ≤ 1048576) : (impl_ReadAccount s = some (.inl ([], 0, 5)) ∧ spec_ReadAccount s = some (.inl ())) ∨ ∃ t its v, impl_ReadAccount s = some (.inr (t, its, v)) ∧ spec_ReadAccount s = some (.inr (t, its, v)) ∧ its.length ≤ 40 := by
  have si : strings_Split s [10] = some (pcs 10 s) := split_i (s := s) 10 h
  have ss : spec_l01Split s 10 = some (pcs 10 s) := split_s (s := s) 10 h
  have pn := pcs_len (c := 10) s
  have hne := pcs_ne 10 s
  have hsub : ∀ l ∈ pcs 10 s, l.length ≤ 1048576 := fun l hl => by have := pcs_sub hl; omega
  have hnil : s = [] → pcs 10 s = [[]] := fun e => by rw [e]; rfl
  generalize pcs 10 s = P at *
  have hp : 0 < P.length := List.length_pos_iff.2 hne
  have w : IntKind.i64.wrap ((P.length : Int) - 1) = ((P.length - 1 : Nat) : Int) := by rw [w64 (by omega)]; omega
  have sl : slc P 0 ((P.length - 1 : Nat) : Int) = some (P.take (P.length - 1)) := by
    have := slc_some (xs := P) (a := 0) (b := P.length - 1) (by omega) (by omega)
    rw [show (0 : Int) = ((0 : Nat) : Int) from rfl, this]; simp
  have hlt : P.length - 1 < P.length := by omega
  have rl : rd P ((P.length - 1 : Nat) : Int) = some P[P.length - 1] := by rw [rd_coe, List.getElem?_eq_getElem hlt]
  have R := readL (P.take (P.length - 1)) (by simp; omega) (fun l hl => hsub l (List.mem_of_mem_take hl))
  have Ln : (((P.take (P.length - 1)).length : Nat) : Int) = ((P.length - 1 : Nat) : Int) := by rw [List.length_take]; omega
  by_cases hs : s = []
  · have hP := hnil hs
    subst hs hP
    left
    constructor
    · unfold impl_ReadAccount impl_linesOf
      simp [impl_readAccount]
    · unfold spec_ReadAccount
      rw [ss]
      rfl
  have li : impl_linesOf s = some (.inr (P.take (P.length - 1), P[P.length - 1] == ([] : List UInt8))) := by
    unfold impl_linesOf
    rw [if_neg (by simpa using hs), si, Option.bind_some, w, sl, Option.bind_some, rl, Option.bind_some]
  unfold impl_ReadAccount spec_ReadAccount
  rw [li, ss, Option.bind_some, Option.bind_some]
  dsimp only
  rw [w, sl, Option.bind_some]
  rcases R with ⟨r1, r2⟩ | ⟨t, its, v, n, r1, r2, r3⟩
  · left
    constructor
    · rcases r1 with ⟨t, v, n, r1⟩ | ⟨t, its, v, n, r1⟩
      · rw [r1, Option.bind_some]
        cases hE : P[P.length - 1] == ([] : List UInt8) <;> simp
      · rw [r1, Option.bind_some]
        cases hE : P[P.length - 1] == ([] : List UInt8) <;> simp
    · rcases r2 with r2 | ⟨t, its, v, n, r2⟩
      · rw [r2, Option.bind_some]
      · rw [r2, Option.bind_some]; simp
  · rw [r1, r2, Option.bind_some, Option.bind_some, Ln]
    dsimp only
    rw [rl]
    by_cases he : (P[P.length - 1] == ([] : List UInt8)) = true
    · by_cases hn2 : n = ((P.length - 1 : Nat) : Int)
      · right
        refine ⟨t, its, v, ?_, ?_, r3⟩
        · rw [if_pos he, if_pos rfl, if_neg (by simpa using hn2)]
        · rw [if_pos rfl, if_neg (by simpa using hn2), Option.bind_some, if_pos he]
      · left
        constructor
        · rw [if_pos he, if_pos rfl, if_pos (by simpa using hn2)]
        · rw [if_pos rfl, if_pos (by simpa using hn2)]
    · left
      constructor
      · rw [if_neg he]
      · rw [if_pos rfl, Option.bind_some, if_neg he]
        split <;> rfl
end Go.Proofs.YtbhbmgmnnkcmcaaDoor

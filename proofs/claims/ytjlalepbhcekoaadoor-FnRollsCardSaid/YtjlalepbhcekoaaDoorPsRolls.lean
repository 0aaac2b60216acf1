/- Plain lemmas. -/
import Derived.Test.YtjlalepbhcekoaaDoorOkRolls
set_option linter.unusedVariables false
set_option linter.unusedSimpArgs false
/- Loops that compare and weigh lists. -/
namespace Go.Proofs.YtjlalepbhcekoaaDoor
open Go Go.Ab
theorem eqS_loop {τ : Type} [DecidableEq τ] {tb : Int → Option (Int ⊕ (Unit ⊕ Unit))} (a b : List τ) (h : a.length ≤ 4611686018427387904) (hl : a.length = b.length)
    (hs : ∀ (i : Nat) (h1 : i < a.length) (h2 : i < b.length), tb (i : Int) = some (if a[i] = b[i] then .inl (IntKind.i64.wrap ((i : Int) + 1)) else .inr (.inl ()))) (he : tb (a.length : Int) = some (.inr (.inr ()))) :
    Lw tb 0 = some (if a = b then .inr () else .inl ()) := by
  have key := scan_all (tb := tb) a.length h (fun i => decide (a[i]? = b[i]?)) () ()
    (by
      intro i hi
      have hi2 : i < b.length := by omega
      rw [hs i hi hi2, List.getElem?_eq_getElem hi, List.getElem?_eq_getElem hi2]
      by_cases he : a[i] = b[i] <;> simp [he])
    he
  rw [key, all_eq hl]
  by_cases he : a = b <;> simp [he]
theorem sz_loop {tb : Int × Int → Option ((Int × Int) ⊕ (Unit ⊕ Int))} (n : Nat) (hs : ∀ (a : Int) (i : Nat), i < n → (∃ r, tb (a, (i : Int)) = some (.inl (r, ((i + 1 : Nat) : Int)))) ∨ tb (a, (i : Int)) = some (.inr (.inl ()))) (he : ∀ a, tb (a, (n : Int)) = some (.inr (.inr a))) (a : Int) :
    ∃ r, Lw tb (a, 0) = some r := by
  have : ∃ r r2, Lw tb (a, 0) = some r ∧ Lw tb (a, 0) = some r2 ∧ r = r2 := by
    refine Lw_sim (tb := tb) (tb2 := tb) (fun s => n - s.2.toNat) (fun s s2 => s = s2 ∧ ∃ i : Nat, s.2 = i ∧ i ≤ n) _ ?_ _ _ _ rfl ⟨rfl, 0, rfl, by omega⟩
    rintro ⟨a, j⟩ s2 ⟨rfl, i, hi, hl⟩
    simp only at hi
    subst hi
    by_cases hlt : i < n
    · rcases hs a i hlt with ⟨r, hr⟩ | hr
      · exact .inl ⟨_, _, hr, hr, ⟨rfl, i + 1, rfl, by omega⟩, by simp; omega⟩
      · exact .inr ⟨_, _, hr, hr, rfl⟩
    · have : i = n := by omega
      subst this
      exact .inr ⟨_, _, he a, he a, rfl⟩
  obtain ⟨r, _, hr, _, _⟩ := this
  exact ⟨r, hr⟩
theorem find_first {τ R : Type} {tb : Int → Option (Int ⊕ R)} (p : τ → Bool) (xs : List τ) (hit : Nat → R) (miss : R)
    (h1 : ∀ (i : Nat) (h : i < xs.length), p xs[i] = false → tb (i : Int) = some (.inl ((i + 1 : Nat) : Int))) (h2 : ∀ (i : Nat) (h : i < xs.length), p xs[i] = true → tb (i : Int) = some (.inr (hit i))) (h3 : tb (xs.length : Int) = some (.inr miss)) :
    Lw tb 0 = some (if xs.findIdx p < xs.length then hit (xs.findIdx p) else miss) := by
  have key := Lw_run (tb := tb) (fun i => (i : Int)) (xs.findIdx p) (r := if xs.findIdx p < xs.length then hit (xs.findIdx p) else miss)
    (fun i hi => h1 i (Nat.lt_of_lt_of_le hi List.findIdx_le_length) (by simpa using List.not_of_lt_findIdx hi))
    (by
      by_cases h : xs.findIdx p < xs.length
      · rw [if_pos h]; exact h2 _ h List.findIdx_getElem
      · rw [if_neg h]
        have : xs.findIdx p = xs.length := Nat.le_antisymm List.findIdx_le_length (by omega)
        simp only [this]; exact h3)
  exact key
theorem any_find {τ : Type} (p : τ → Bool) (xs : List τ) : xs.any p = decide (xs.findIdx p < xs.length) := by
  rw [Bool.eq_iff_iff, decide_eq_true_eq, List.findIdx_lt_length, List.any_eq_true]
/-! arrays -/
theorem rdA_coe {n : Nat} {τ : Type} (g : Ar n τ) (i : Nat) (h : i < n) : rdA g (i : Int) = some (g.l[i]'(by rw [g.h]; exact h)) := by
  unfold rdA
  rw [if_pos ⟨by omega, by omega⟩, Int.toNat_natCast, List.getElem?_eq_getElem]
theorem ar_ext {n : Nat} {τ : Type} {a b : Ar n τ} : a = b ↔ a.l = b.l := by cases a; cases b; simp
theorem ar_copy {n : Nat} {τ : Type} {tb : Int × Ar n τ → Option ((Int × Ar n τ) ⊕ Ar n τ)} (a z : Ar n τ) (hs : ∀ (i : Nat) (h : i < n) (y : Ar n τ), tb ((i : Int), y) = some (.inl (((i + 1 : Nat) : Int), y.set i (a.l[i]'(by rw [a.h]; exact h))))) (he : ∀ y, tb ((n : Int), y) = some (.inr y)) :
    Lw tb (0, z) = some a := by
  have hz := z.h
  have ha := a.h
  have key := Lw_run (tb := tb) (fun i => ((i : Int), (⟨a.l.take i ++ z.l.drop (min i n), by simp; omega⟩ : Ar n τ))) n (r := a)
    (by
      intro i hi
      rw [hs i hi]
      congr 3
      rw [ar_ext]
      show (a.l.take i ++ z.l.drop (min i n)).set i _ = a.l.take (i + 1) ++ z.l.drop (min (i + 1) n)
      rw [Nat.min_eq_left (by omega), Nat.min_eq_left (by omega), List.set_append_right _ _ (by simp; omega), List.length_take, Nat.min_eq_left (by omega), Nat.sub_self, List.drop_eq_getElem_cons (by omega), List.set_cons_zero, List.take_succ_eq_append_getElem (by omega), List.append_assoc]
      rfl)
    (by
      rw [he]
      congr 2
      rw [ar_ext]
      show a.l.take n ++ z.l.drop (min n n) = a.l
      rw [List.take_of_length_le (by omega), Nat.min_self, List.drop_eq_nil_of_le (by omega), List.append_nil])
  have e : (((0 : Nat) : Int), (⟨a.l.take 0 ++ z.l.drop (min 0 n), by simp; omega⟩ : Ar n τ)) = (0, z) := by
    congr 1
  rw [e] at key
  exact key
theorem foldr_all (p : Nat → Bool) (r : Bool) (l : List Nat) : l.foldr (fun j b => p j && b) r = (l.all p && r) := by
  induction l with
  | nil => simp
  | cons x l ih => simp [ih, Bool.and_assoc]
theorem arB_eq {n : Nat} (g h : Ar n Int) : arB n (fun j => g.get 0 j == h.get 0 j) true = decide (g = h) := by
  unfold arB
  rw [foldr_all, Bool.and_true, Bool.eq_iff_iff, List.all_eq_true, decide_eq_true_eq, ar_ext]
  have hg := g.h
  have hh := h.h
  constructor
  · intro hp
    refine List.ext_getElem (by omega) fun i h1 h2 => ?_
    have := hp i (by simpa [hg] using h1)
    simpa [Ar.get, List.getD_eq_getElem?_getD, h1, h2] using this
  · intro e j _
    simp [Ar.get, e]
end Go.Proofs.YtjlalepbhcekoaaDoor
/- Numbers within bounds. -/
namespace Go.Proofs.YtjlalepbhcekoaaDoor
open Go Go.Ab
def inB (n lo hi : Int) : Bool := decide (lo ≤ n) && decide (n ≤ hi)
theorem inB_iff {n lo hi : Int} : inB n lo hi = true ↔ lo ≤ n ∧ n ≤ hi := by simp [inB]
theorem inB_not {n lo hi : Int} : inB n lo hi = false ↔ n < lo ∨ hi < n := by rw [← Bool.not_eq_true, inB_iff]; omega
theorem l00In_eq (n lo hi : Int) : spec_l00In n lo hi = some (inB n lo hi) := by
  unfold spec_l00In inB; by_cases h : lo ≤ n <;> simp [h]
theorem some_ite {α : Type} (c : Bool) (a b : α) : (if c = true then some a else some b) = some (if c = true then a else b) := by cases c <;> rfl
theorem ite_false_b (c b : Bool) : (if c = true then b else false) = (c && b) := by cases c <;> simp
theorem ite_true_b (c b : Bool) : (if c = true then true else b) = (c || b) := by cases c <;> simp
end Go.Proofs.YtjlalepbhcekoaaDoor
/- Amounts. -/
namespace Go.Proofs.YtjlalepbhcekoaaDoor
open Go Go.Ab
theorem l01Amount_eq (n : Int) : spec_l01Amount n = some (inB n 0 100000000) := by
  unfold spec_l01Amount; rw [l00In_eq, Option.bind_some]
theorem isAmount_eq (n : Int) : impl_isAmount n = some (inB n 0 100000000) := by
  unfold impl_isAmount inB; by_cases h : 0 ≤ n <;> simp [h]
end Go.Proofs.YtjlalepbhcekoaaDoor
/- Parties: names, finding, valid lists. -/
namespace Go.Proofs.YtjlalepbhcekoaaDoor
open Go Go.Ab
def letB (c : UInt8) : Bool := decide (97 ≤ c.toNat) && decide (c.toNat ≤ 122)
def lettersB (s : List UInt8) (n : Int) : Bool := s.all letB && decide (1 ≤ s.length) && decide ((s.length : Int) ≤ n)
def nameB (s : List UInt8) : Bool := lettersB s 12
theorem isLetters_loop (s : List UInt8) (hn : s.length ≤ 4611686018427387904) : Lw (impl_isLetters_b1 s) 0 = some (if s.all letB = true then .inr () else .inl ()) := by
  have key := scan_all (tb := impl_isLetters_b1 s) s.length hn (fun i => (s[i]?).all letB) () ()
    (by
      intro i hi
      simp only [impl_isLetters_b1, rd_coe, List.getElem?_eq_getElem hi, Option.bind_some, Option.all_some]
      rw [if_pos (by simpa using hi)]
      by_cases h1 : s[i].toNat < 97
      · rw [if_pos (by simp; omega), if_neg (by simp [letB]; omega)]
      · by_cases h2 : s[i].toNat > 122
        · rw [if_neg (by simp; omega), if_pos (by simp; omega), if_neg (by simp [letB]; omega)]
        · rw [if_neg (by simp; omega), if_neg (by simp; omega), if_pos (by simp [letB]; omega)])
    (by simp [impl_isLetters_b1])
  rw [key, all_get]
theorem isLetters_eq (s : List UInt8) (n : Int) (hn : s.length ≤ 4611686018427387904) : impl_isLetters s n = some (lettersB s n) := by
  unfold impl_isLetters lettersB
  rw [isLetters_loop s hn]
  cases s.all letB with
  | false => simp
  | true =>
    by_cases h : 1 ≤ s.length
    · have : (1 : Int) ≤ (s.length : Int) := by omega
      simp [h, this]
    · have : ¬ (1 : Int) ≤ (s.length : Int) := by omega
      simp [h, this]
end Go.Proofs.YtjlalepbhcekoaaDoor
/- Rolls that are right: the program's word and the reference's. -/
namespace Go.Proofs.YtjlalepbhcekoaaDoor
open Go Go.Ab
theorem l05Title_eq (s : List UInt8) (hn : s.length ≤ 4611686018427387904) : spec_l05Title s = some (lettersB s 16) := by
  have e : Lw (spec_l05Title_b1 s) 0 = Lw (impl_isLetters_b1 s) 0 := rfl
  unfold spec_l05Title lettersB
  rw [e, isLetters_loop s hn]
  cases s.all letB with
  | false => simp
  | true => simp [l00In_eq, inB]; cases s <;> simp <;> omega
def itemB (x : Item) : Bool := inB x.Kind 0 3 && inB x.Amount 0 100000000
theorem validItem_eq (x : Item) : impl_validItem x = some (itemB x) := by
  unfold impl_validItem itemB
  rw [isAmount_eq]
  by_cases h1 : x.Kind ≥ 0
  · by_cases h2 : x.Kind ≤ 3
    · have : inB x.Kind 0 3 = true := inB_iff.2 ⟨h1, h2⟩
      simp [h1, h2, this]
    · have : inB x.Kind 0 3 = false := by unfold inB; simp; omega
      simp [h1, h2, this]
  · have : inB x.Kind 0 3 = false := by unfold inB; simp; omega
    simp [h1, this]
theorem validItems_eq (xs : List Item) (hn : xs.length ≤ 4611686018427387904) : impl_ValidItems xs = some (xs.all itemB && decide (xs.length ≤ 40)) := by
  unfold impl_ValidItems
  have key := scan_all (tb := impl_ValidItems_b1 xs) xs.length hn (fun i => (xs[i]?).all itemB) () ()
    (by
      intro i hi
      simp only [impl_ValidItems_b1, rd_coe, List.getElem?_eq_getElem hi, Option.bind_some, validItem_eq, Option.all_some]
      rw [if_pos (by simpa using hi)]
      cases itemB xs[i] <;> simp)
    (by simp [impl_ValidItems_b1])
  rw [key, all_get]
  have : decide ((xs.length : Int) ≤ 40) = decide (xs.length ≤ 40) := by rw [Bool.eq_iff_iff, decide_eq_true_eq, decide_eq_true_eq]; omega
  cases xs.all itemB <;> simp [this]
theorem balance_same (xs : List Item) (hn : xs.length ≤ 4611686018427387904) : ∃ v, impl_balance xs = some v ∧ spec_l05Balance xs = some v := by
  have : ∃ r r2 : Int, Lw (impl_balance_b1 xs) (0, 0) = some r ∧ Lw (spec_l05Balance_b1 xs) (0, 0) = some r2 ∧ r = r2 := by
    refine Lw_sim (tb := impl_balance_b1 xs) (tb2 := spec_l05Balance_b1 xs) (fun s => xs.length - s.2.toNat) (fun s s2 => s = s2 ∧ ∃ i : Nat, s.2 = i ∧ i ≤ xs.length) _ ?_ _ _ _ rfl ⟨rfl, 0, rfl, by omega⟩
    rintro ⟨a, j⟩ s2 ⟨rfl, i, hi, hil⟩
    simp only at hi
    subst hi
    by_cases hlt : i < xs.length
    · have hr : rd xs (i : Int) = some xs[i] := by rw [rd_coe, List.getElem?_eq_getElem hlt]
      have w := w64s hlt (by omega)
      left
      by_cases k0 : xs[i].Kind = 0
      · exact ⟨(IntKind.i64.wrap (a + xs[i].Amount), ((i + 1 : Nat) : Int)), _, by simp [impl_balance_b1, hlt, hr, k0, w], by simp [spec_l05Balance_b1, hlt, hr, k0, w], ⟨rfl, i + 1, rfl, by omega⟩, by simp; omega⟩
      · by_cases k1 : xs[i].Kind = 1
        · exact ⟨(IntKind.i64.wrap (a + xs[i].Amount), ((i + 1 : Nat) : Int)), _, by simp [impl_balance_b1, hlt, hr, k1, w], by simp [spec_l05Balance_b1, hlt, hr, k1, w], ⟨rfl, i + 1, rfl, by omega⟩, by simp; omega⟩
        · exact ⟨(IntKind.i64.wrap (a - xs[i].Amount), ((i + 1 : Nat) : Int)), _, by simp [impl_balance_b1, hlt, hr, k0, k1, w], by simp [spec_l05Balance_b1, hlt, hr, k0, k1, w], ⟨rfl, i + 1, rfl, by omega⟩, by simp; omega⟩
    · exact .inr ⟨a, a, by simp [impl_balance_b1, hlt], by simp [spec_l05Balance_b1, hlt], rfl⟩
  obtain ⟨r, _, e1, e2, rfl⟩ := this
  exact ⟨r, by unfold impl_balance; rw [e1]; rfl, by unfold spec_l05Balance; rw [e2]; rfl⟩
theorem hasTitle_eq (xs : List Account) (t : List UInt8) (hn : xs.length ≤ 4611686018427387904) : impl_hasTitle xs t = some (xs.any fun a => decide (a.Title = t)) := by
  unfold impl_hasTitle slices_ContainsFunc_Account__impl_hasTitle_1 slices_IndexFunc_Account__impl_hasTitle_1
  have key := find_first (tb := slices_IndexFunc_Account__impl_hasTitle_1_b1 xs t) (fun a => decide (a.Title = t)) xs (fun i => .inl (i : Int)) (.inr ())
    (by
      intro i h hp
      have w := w64s h hn
      simp only [decide_eq_false_iff_not] at hp
      simp [slices_IndexFunc_Account__impl_hasTitle_1_b1, impl_hasTitle_1, rd_coe, h, hp, w])
    (by
      intro i h hp
      simp only [decide_eq_true_eq] at hp
      simp [slices_IndexFunc_Account__impl_hasTitle_1_b1, impl_hasTitle_1, rd_coe, h, hp])
    (by simp [slices_IndexFunc_Account__impl_hasTitle_1_b1])
  rw [key, any_find]
  by_cases h : xs.findIdx (fun a => decide (a.Title = t)) < xs.length
  · simp [h]
  · simp [h]
theorem twin_eq (xs : List Account) (i : Nat) (hi : i < xs.length) (hn : xs.length ≤ 4611686018427387904) : spec_l05Twin xs (i : Int) = some ((xs.take i).any fun a => decide (a.Title = xs[i].Title)) := by
  unfold spec_l05Twin
  have hl : (xs.take i).length = i := by simp; omega
  have key := find_first (tb := spec_l05Twin_b1 xs (i : Int)) (fun a => decide (a.Title = xs[i].Title)) (xs.take i) (fun _ => .inl ()) (.inr ())
    (by
      intro j h hp
      have h' : j < i := by omega
      have h'' : j < xs.length := by omega
      have w := w64s h'' hn
      simp only [List.getElem_take, decide_eq_false_iff_not] at hp
      simp [spec_l05Twin_b1, rd_coe, h', h'', hi, hp, w])
    (by
      intro j h hp
      have h' : j < i := by omega
      have h'' : j < xs.length := by omega
      simp only [List.getElem_take, decide_eq_true_eq] at hp
      simp [spec_l05Twin_b1, rd_coe, h', h'', hi, hp])
    (by simp [spec_l05Twin_b1, hl])
  rw [key, any_find]
  by_cases h : (xs.take i).findIdx (fun a => decide (a.Title = xs[i].Title)) < (xs.take i).length
  · simp only [h, if_true, decide_true]; rfl
  · simp only [h, if_false, decide_false]; rfl
theorem slc0 {τ : Type} (xs : List τ) (n : Nat) (h : n ≤ xs.length) : slc xs 0 (n : Int) = some (xs.take n) := by
  unfold slc
  rw [if_pos ⟨by omega, by omega, by omega⟩]; simp
theorem owed_same (xs : List Account) (hn : xs.length ≤ 4611686018427387904) : ∃ v, impl_owed xs = some v ∧ spec_l05Owed xs = some v := by
  have : ∃ r r2 : Int, Lw (impl_owed_b1 xs) (0, 0) = some r ∧ Lw (spec_l05Owed_b1 xs) (0, 0) = some r2 ∧ r = r2 := by
    refine Lw_sim (tb := impl_owed_b1 xs) (tb2 := spec_l05Owed_b1 xs) (fun s => xs.length - s.2.toNat) (fun s s2 => s = s2 ∧ ∃ i : Nat, s.2 = i ∧ i ≤ xs.length) _ ?_ _ _ _ rfl ⟨rfl, 0, rfl, by omega⟩
    rintro ⟨a, j⟩ s2 ⟨rfl, i, hi, hil⟩
    simp only at hi
    subst hi
    by_cases hlt : i < xs.length
    · have hr : rd xs (i : Int) = some xs[i] := by rw [rd_coe, List.getElem?_eq_getElem hlt]
      have w := w64s hlt (by omega)
      have hm : spec_l00Max xs[i].Balance 0 = some (max xs[i].Balance 0) := by
        unfold spec_l00Max
        rw [Int.max_def]
        by_cases h : xs[i].Balance > 0
        · have h' : ¬ xs[i].Balance ≤ 0 := by omega
          simp [h, h']
        · have h' : xs[i].Balance ≤ 0 := by omega
          simp [h, h']
      exact .inl ⟨(IntKind.i64.wrap (a + max xs[i].Balance 0), ((i + 1 : Nat) : Int)), _, by simp [impl_owed_b1, hlt, hr, w], by simp [spec_l05Owed_b1, hlt, hr, hm, w], ⟨rfl, i + 1, rfl, by omega⟩, by simp; omega⟩
    · exact .inr ⟨a, a, by simp [impl_owed_b1, hlt], by simp [spec_l05Owed_b1, hlt], rfl⟩
  obtain ⟨r, _, e1, e2, rfl⟩ := this
  exact ⟨r, by unfold impl_owed; rw [e1]; rfl, by unfold spec_l05Owed; rw [e2]; rfl⟩
end Go.Proofs.YtjlalepbhcekoaaDoor
/- Texts put together. -/
namespace Go.Proofs.YtjlalepbhcekoaaDoor
open Go Go.Ab
theorem sadd_some {a b : List UInt8} (h : a.length + b.length ≤ 9223372036854775807) : sadd a b = some (a ++ b) := by
  unfold sadd
  rw [if_neg (by have : IntKind.i64.max = 9223372036854775807 := rfl; rw [this]; omega)]
end Go.Proofs.YtjlalepbhcekoaaDoor
/- Numbers written out. -/
namespace Go.Proofs.YtjlalepbhcekoaaDoor
open Go Go.Ab
/-- a number's text -/
noncomputable def tx (n : Int) : List UInt8 := Lib.decDigits n.toNat
theorem decDigits_le : ∀ (k n : Nat), n < 10 ^ (k + 1) → (Lib.decDigits n).length ≤ k + 1
  | 0, n, h => by
    rw [Lib.decDigits, dif_pos (by omega)]
    simp
  | k + 1, n, h => by
    rw [Lib.decDigits]
    split
    · simp
    · have := decDigits_le k (n / 10) (by rw [Nat.pow_succ] at h; omega)
      simp only [List.length_append, List.length_singleton]
      omega
theorem dig_eq {n : Nat} (h : n < 10) : toB [IntKind.u8.wrap (IntKind.i64.wrap (48 + (n : Int)))] = [UInt8.ofNat (48 + n)] := by
  rw [w64 (by omega)]
  have : IntKind.u8.wrap (48 + (n : Int)) = 48 + (n : Int) := by simp [IntKind.wrap, IntKind.signed, IntKind.bits]; omega
  rw [this]
  simp only [toB, List.map_cons, List.map_nil]
  congr 2
theorem dec_i {n : Int} (h0 : 0 ≤ n) (h1 : n ≤ 9223372036854775807) : impl_decimal n = some (tx n) := by
  obtain ⟨m, rfl⟩ : ∃ m : Nat, n = m := ⟨n.toNat, by omega⟩
  unfold impl_decimal strconv_FormatInt fmtI tx
  rw [if_pos ⟨rfl, by omega, h1⟩, Lib.itoa_nonneg]
  rfl
theorem tx_len {n : Int} (h0 : 0 ≤ n) (h1 : n ≤ 9223372036854775807) : (tx n).length ≤ 19 := by
  unfold tx
  exact decDigits_le 18 _ (by omega)
theorem tx_pos (n : Int) : 0 < (tx n).length := by
  unfold tx
  rw [Lib.decDigits]
  split <;> simp
end Go.Proofs.YtjlalepbhcekoaaDoor
/- Amounts written out. -/
namespace Go.Proofs.YtjlalepbhcekoaaDoor
open Go Go.Ab
/-- one part of an amount -/
noncomputable def amt1 (n : Int) (c : UInt8) : List (List UInt8) := if n > 0 then [tx n ++ [c]] else []
noncomputable def amtT (a : Int) : List UInt8 := if a = 0 then [48, 100] else Lib.join (amt1 (a / 240) 108 ++ (amt1 (a / 12 % 20) 115 ++ amt1 (a % 12) 100)) [32]
theorem quo_pos {a b : Int} (h0 : 0 ≤ a) (h1 : a ≤ 9223372036854775807) (hb : 0 < b) : quo .i64 a b = some (a / b) := by
  unfold quo
  rw [if_neg (by omega), Int.tdiv_eq_ediv_of_nonneg h0]
  have := Int.ediv_nonneg h0 (by omega : 0 ≤ b)
  have h2 : a / b ≤ a := Int.ediv_le_self b h0
  rw [w64 (by omega)]
theorem rem_pos {a b : Int} (h0 : 0 ≤ a) (hb : 0 < b) : rem .i64 a b = some (a % b) := by
  unfold rem
  rw [if_neg (by omega), Int.tmod_eq_emod_of_nonneg h0]
theorem amt1_len {n : Int} {c : UInt8} (h0 : 0 ≤ n) (h1 : n ≤ 9223372036854775807) : (amt1 n c).length ≤ 1 ∧ ∀ s ∈ amt1 n c, s.length ≤ 20 := by
  unfold amt1
  have := tx_len h0 h1
  split <;> simp <;> omega
theorem join_len : ∀ (xs : List (List UInt8)) (k : Nat), (∀ s ∈ xs, s.length ≤ k) → (Lib.join xs [32]).length ≤ xs.length * (k + 1)
  | [], k, _ => by simp [Lib.join]
  | x :: r, k, h => by
    have hx := h x (by simp)
    rw [Lib.join_cons]
    have : ∀ r : List (List UInt8), (∀ s ∈ r, s.length ≤ k) → (Lib.joinTail [32] r).length ≤ r.length * (k + 1) := by
      intro r
      induction r with
      | nil => intro _; simp [Lib.joinTail]
      | cons y q ih =>
        intro hy
        have h1 := ih (fun s hs => hy s (by simp [hs]))
        have h2 := hy y (by simp)
        simp only [Lib.joinTail, List.map_cons, List.flatten_cons, List.length_append, List.length_cons, List.length_nil] at h1 ⊢
        rw [Nat.add_mul]
        omega
    have h3 := this r (fun s hs => h s (by simp [hs]))
    simp only [List.length_append, List.length_cons]
    rw [Nat.add_mul]
    omega
theorem amt_i {a : Int} (h0 : 0 ≤ a) (h1 : a ≤ 100000000) : impl_AmountText a = some (amtT a) := by
  unfold impl_AmountText amtT
  rw [isAmount_eq, Option.bind_some, if_pos (inB_iff.2 ⟨h0, h1⟩)]
  by_cases hz : a = 0
  · subst hz; rfl
  rw [if_neg (by simpa using hz), if_neg hz, quo_pos h0 (by omega) (by decide), Option.bind_some, quo_pos h0 (by omega) (by decide), Option.bind_some, rem_pos (by omega) (by decide), Option.bind_some, rem_pos h0 (by decide), Option.bind_some]
  have b1 : 0 ≤ a / 240 ∧ a / 240 ≤ 1000000 := by omega
  have b2 : 0 ≤ a / 12 % 20 ∧ a / 12 % 20 ≤ 1000000 := by omega
  have b3 : 0 ≤ a % 12 ∧ a % 12 ≤ 1000000 := by omega
  revert b1 b2 b3
  generalize a / 240 = l, a / 12 % 20 = s, a % 12 = d
  intro b1 b2 b3
  have step : ∀ (i : Nat) (n : Int) (c : UInt8) (out : List (List UInt8)), i < 3 → [l, s, d][i]? = some n → ([108, 115, 100] : List UInt8)[i]? = some c → 0 ≤ n ∧ n ≤ 1000000 → out.length ≤ 3 →
      impl_AmountText_b1 l s d ((i : Int), out) = some (.inl (((i + 1 : Nat) : Int), out ++ amt1 n c)) := by
    intro i n c out hi hn hc hb ho
    have w := w64s (n := 3) hi (by omega)
    have hs : slc ([108, 115, 100] : List UInt8) (i : Int) ((i + 1 : Nat) : Int) = some [c] := by
      unfold slc
      rw [if_pos ⟨by omega, by omega, by simp only [List.length_cons, List.length_nil]; omega⟩]
      match i, hi, hc with
      | 0, _, hc => cases hc; rfl
      | 1, _, hc => cases hc; rfl
      | 2, _, hc => cases hc; rfl
    have hlen := tx_len (n := n) hb.1 (by omega)
    unfold impl_AmountText_b1 amt1
    simp only [List.length_cons, List.length_nil, rd_coe, hn, Option.bind_some, w, hs]
    rw [if_pos (by simpa using (by omega : (i : Int) < 3))]
    by_cases hp : n > 0
    · rw [if_pos (by simpa using hp), if_pos hp, dec_i hb.1 (by omega), Option.bind_some, sadd_some (by simp only [List.length_singleton]; omega), Option.bind_some, app_some (by simp only [List.length_singleton]; omega) (by decide), Option.bind_some]
    · rw [if_neg (by simpa using hp), if_neg hp, List.append_nil]
  have l1 := (amt1_len (n := l) (c := 108) b1.1 (by omega)).1
  have l2 := (amt1_len (n := s) (c := 115) b2.1 (by omega)).1
  have l3 := (amt1_len (n := d) (c := 100) b3.1 (by omega)).1
  have e0 := step 0 l 108 [] (by omega) rfl rfl b1 (by simp)
  have e1 := step 1 s 115 (amt1 l 108) (by omega) rfl rfl b2 (by omega)
  have e2 := step 2 d 100 (amt1 l 108 ++ amt1 s 115) (by omega) rfl rfl b3 (by simp only [List.length_append]; omega)
  have e3 : impl_AmountText_b1 l s d (((2 + 1 : Nat) : Int), amt1 l 108 ++ amt1 s 115 ++ amt1 d 100) = some (.inr (amt1 l 108 ++ amt1 s 115 ++ amt1 d 100)) := by
    unfold impl_AmountText_b1
    simp
  have hl : Lw (impl_AmountText_b1 l s d) (0, []) = some (amt1 l 108 ++ (amt1 s 115 ++ amt1 d 100)) := by
    rw [← List.append_assoc]
    exact (Lw_step e0).trans ((Lw_step e1).trans ((Lw_step e2).trans (Lw_stop e3)))
  rw [hl, Option.bind_some]
  have hj := join_len (amt1 l 108 ++ (amt1 s 115 ++ amt1 d 100)) 20 (fun x hx => by
    rcases List.mem_append.1 hx with h | h
    · exact (amt1_len b1.1 (by omega)).2 x h
    · rcases List.mem_append.1 h with h | h
      · exact (amt1_len b2.1 (by omega)).2 x h
      · exact (amt1_len b3.1 (by omega)).2 x h)
  have hn : (amt1 l 108 ++ (amt1 s 115 ++ amt1 d 100)).length ≤ 3 := by simp only [List.length_append]; omega
  have : (amt1 l 108 ++ (amt1 s 115 ++ amt1 d 100)).length * 21 ≤ 63 := by omega
  unfold strings_Join joinI
  rw [if_pos ⟨by omega, by omega⟩]
  rfl
theorem amtT_len {a : Int} (h0 : 0 ≤ a) (h1 : a ≤ 100000000) : (amtT a).length ≤ 63 := by
  unfold amtT
  split
  · simp
  have b1 : 0 ≤ a / 240 ∧ a / 240 ≤ 1000000 := by omega
  have b2 : 0 ≤ a / 12 % 20 ∧ a / 12 % 20 ≤ 1000000 := by omega
  have b3 : 0 ≤ a % 12 ∧ a % 12 ≤ 1000000 := by omega
  have k1 := amt1_len (n := a / 240) (c := 108) b1.1 (by omega)
  have k2 := amt1_len (n := a / 12 % 20) (c := 115) b2.1 (by omega)
  have k3 := amt1_len (n := a % 12) (c := 100) b3.1 (by omega)
  have hj := join_len (amt1 (a / 240) 108 ++ (amt1 (a / 12 % 20) 115 ++ amt1 (a % 12) 100)) 20 (fun x hx => by
    rcases List.mem_append.1 hx with h | h
    · exact k1.2 x h
    · rcases List.mem_append.1 h with h | h
      · exact k2.2 x h
      · exact k3.2 x h)
  have hn : (amt1 (a / 240) 108 ++ (amt1 (a / 12 % 20) 115 ++ amt1 (a % 12) 100)).length ≤ 3 := by simp only [List.length_append]; omega
  have : (amt1 (a / 240) 108 ++ (amt1 (a / 12 % 20) 115 ++ amt1 (a % 12) 100)).length * 21 ≤ 63 := by omega
  omega
end Go.Proofs.YtjlalepbhcekoaaDoor
/- Texts put together line by line. -/
namespace Go.Proofs.YtjlalepbhcekoaaDoor
open Go Go.Ab
theorem text_loop {τ : Type} {tb : List UInt8 × Int → Option ((List UInt8 × Int) ⊕ List UInt8)} (xs : List τ) (f : τ → List UInt8) (pre : List UInt8)
    (hs : ∀ (i : Nat) (hi : i < xs.length) (o : List UInt8), o = pre ++ ((xs.take i).map f).flatten → tb (o, (i : Int)) = some (.inl (o ++ f xs[i], ((i + 1 : Nat) : Int)))) (he : ∀ o, tb (o, (xs.length : Int)) = some (.inr o)) :
    Lw tb (pre, 0) = some (pre ++ (xs.map f).flatten) := by
  have key := Lw_run (tb := tb) (fun i => (pre ++ ((xs.take i).map f).flatten, (i : Int))) xs.length (r := pre ++ (xs.map f).flatten)
    (fun i hi => by
      rw [hs i hi _ rfl, List.take_succ_eq_append_getElem hi]
      simp only [List.map_append, List.map_cons, List.map_nil, List.flatten_append, List.flatten_cons, List.flatten_nil, List.append_nil, List.append_assoc])
    (by rw [he, List.take_length])
  simpa using key
theorem flat_len {τ : Type} (f : τ → List UInt8) (k : Nat) : ∀ (xs : List τ), (∀ x ∈ xs, (f x).length ≤ k) → ((xs.map f).flatten).length ≤ xs.length * k
  | [], _ => by simp
  | x :: r, h => by
    have h1 := h x (by simp)
    have h2 := flat_len f k r (fun y hy => h y (by simp [hy]))
    simp only [List.map_cons, List.flatten_cons, List.length_append, List.length_cons]
    rw [Nat.add_mul]; omega
theorem flat_take {τ : Type} (f : τ → List UInt8) (k : Nat) (xs : List τ) (h : ∀ x ∈ xs, (f x).length ≤ k) (i : Nat) : (((xs.take i).map f).flatten).length ≤ xs.length * k := by
  have := flat_len f k (xs.take i) (fun x hx => h x (List.mem_of_mem_take hx))
  have h2 : (xs.take i).length * k ≤ xs.length * k := Nat.mul_le_mul_right _ (by simp; omega)
  omega
end Go.Proofs.YtjlalepbhcekoaaDoor
/- Accounts written out. -/
namespace Go.Proofs.YtjlalepbhcekoaaDoor
open Go Go.Ab
def wordT (k : Int) : List UInt8 := ([[102, 97, 114, 109], [100, 101, 98, 116], [112, 97, 105, 100], [97, 108, 108, 111, 119, 101, 100]] : List (List UInt8)).getD k.toNat []
noncomputable def itemT (x : Item) : List UInt8 := wordT x.Kind ++ [32] ++ amtT x.Amount ++ [10]
noncomputable def tailT (n : Int) : List UInt8 := if n > 0 then [111, 119, 101, 115, 32] ++ amtT n ++ [10] else if n < 0 then [111, 118, 101, 114, 32] ++ amtT (-n) ++ [10] else [113, 117, 105, 116, 10]
noncomputable def accT (a : Account) : List UInt8 := a.Title ++ [10] ++ (a.Items.map itemT).flatten ++ tailT a.Balance
structure AcI (a : Account) : Prop where
  title : 1 ≤ a.Title.length ∧ a.Title.length ≤ 16
  items : a.Items.length ≤ 40
  item : ∀ x ∈ a.Items, itemB x = true
  bal : -100000000 ≤ a.Balance ∧ a.Balance ≤ 100000000
theorem word_rd {k : Int} (h : inB k 0 3 = true) : rd ([[102, 97, 114, 109], [100, 101, 98, 116], [112, 97, 105, 100], [97, 108, 108, 111, 119, 101, 100]] : List (List UInt8)) k = some (wordT k) ∧ (wordT k).length ≤ 7 := by
  obtain ⟨h0, h1⟩ := inB_iff.1 h
  have : k = 0 ∨ k = 1 ∨ k = 2 ∨ k = 3 := by omega
  rcases this with rfl | rfl | rfl | rfl <;> exact ⟨rfl, by decide⟩
theorem itemT_len {x : Item} (h : itemB x = true) : (itemT x).length ≤ 80 := by
  unfold itemB at h
  simp only [Bool.and_eq_true] at h
  have h1 := (word_rd h.1).2
  have h2 := inB_iff.1 h.2
  have h3 := amtT_len h2.1 h2.2
  unfold itemT
  simp only [List.length_append, List.length_singleton]
  omega
theorem tailT_len {n : Int} (h0 : -100000000 ≤ n) (h1 : n ≤ 100000000) : (tailT n).length ≤ 80 := by
  unfold tailT
  split
  · have := amtT_len (a := n) (by omega) h1
    simp only [List.length_append, List.length_cons, List.length_nil]; omega
  · split
    · have := amtT_len (a := -n) (by omega) (by omega)
      simp only [List.length_append, List.length_cons, List.length_nil]; omega
    · simp
theorem accT_len {a : Account} (h : AcI a) : (accT a).length ≤ 3400 := by
  have h1 := flat_len itemT 80 a.Items (fun x hx => itemT_len (h.item x hx))
  have h2 := tailT_len h.bal.1 h.bal.2
  have h3 := h.title
  have h4 := h.items
  unfold accT
  simp only [List.length_append, List.length_singleton]
  omega
theorem size_amount {n : Int} (h : InR .i64 n) : (impl_size n).bind impl_isAmount = some (inB n (-100000000) 100000000) := by
  obtain ⟨h0, h1⟩ := inR64.1 h
  unfold impl_size
  rw [Option.bind_some, isAmount_eq]
  congr 1
  by_cases hm : n = -9223372036854775808
  · subst hm
    have : IntKind.i64.wrap (0 - (-9223372036854775808)) = -9223372036854775808 := by decide
    rw [this]; decide
  · rw [w64 (by omega), Bool.eq_iff_iff, inB_iff, inB_iff]
    omega
end Go.Proofs.YtjlalepbhcekoaaDoor
/- A text cut at a byte. -/
namespace Go.Proofs.YtjlalepbhcekoaaDoor
open Go Go.Ab
def consH (b : UInt8) : List (List UInt8) → List (List UInt8)
  | [] => [[b]]
  | p :: r => (b :: p) :: r
/-- the pieces of a text between the bytes c -/
def pcs (c : UInt8) : List UInt8 → List (List UInt8)
  | [] => [[]]
  | b :: l => if b = c then [] :: pcs c l else consH b (pcs c l)
theorem pcs_ne (c : UInt8) (s : List UInt8) : pcs c s ≠ [] := by
  cases s with
  | nil => simp [pcs]
  | cons b l =>
    unfold pcs
    split
    · simp
    · cases pcs c l <;> simp [consH]
theorem pcs_no {c : UInt8} : ∀ {p : List UInt8}, c ∉ p → pcs c p = [p]
  | [], _ => rfl
  | b :: l, h => by
    have h1 : ¬ b = c := fun e => h (by simp [e])
    have h2 : c ∉ l := fun e => h (by simp [e])
    rw [pcs, if_neg h1, pcs_no h2]; rfl
theorem pcs_app {c : UInt8} (q : List UInt8) : ∀ (p : List UInt8), pcs c (p ++ c :: q) = pcs c p ++ pcs c q
  | [] => by simp [pcs]
  | b :: l => by
    rw [List.cons_append, pcs, pcs, pcs_app q l]
    split
    · rfl
    · cases h : pcs c l with
      | nil => exact absurd h (pcs_ne c l)
      | cons x r => rfl
theorem pcs_mem {c : UInt8} : ∀ {s p : List UInt8}, p ∈ pcs c s → c ∉ p
  | [], p, h => by simp [pcs] at h; simp [h]
  | b :: l, p, h => by
    rw [pcs] at h
    split at h
    · rcases List.mem_cons.1 h with rfl | h
      · simp
      · exact pcs_mem h
    · rename_i hb
      cases hp : pcs c l with
      | nil => exact absurd hp (pcs_ne c l)
      | cons x r =>
        rw [hp] at h
        have ih : ∀ q, q ∈ x :: r → c ∉ q := fun q hq => pcs_mem (hp ▸ hq)
        rcases List.mem_cons.1 h with rfl | h
        · intro hc
          rcases List.mem_cons.1 hc with e | e
          · exact hb e.symm
          · exact ih x (by simp) e
        · exact ih p (by simp [h])
theorem pcs_join {c : UInt8} : ∀ (s : List UInt8), Lib.join (pcs c s) [c] = s
  | [] => by simp [pcs, Lib.join]
  | b :: l => by
    have ih := pcs_join (c := c) l
    rw [pcs]
    split
    · rename_i hb
      cases hp : pcs c l with
      | nil => exact absurd hp (pcs_ne c l)
      | cons x r =>
        rw [hp] at ih
        rw [Lib.join_cons] at ih ⊢
        simp only [Lib.joinTail, List.map_cons, List.flatten_cons, List.nil_append, List.cons_append] at ih ⊢
        rw [hb, ih]
    · cases hp : pcs c l with
      | nil => exact absurd hp (pcs_ne c l)
      | cons x r =>
        rw [hp] at ih
        unfold consH
        rw [Lib.join_cons] at ih ⊢
        rw [List.cons_append, ih]
theorem pcs_len {c : UInt8} : ∀ (s : List UInt8), (pcs c s).length ≤ s.length + 1
  | [] => by simp [pcs]
  | b :: l => by
    have ih := pcs_len (c := c) l
    rw [pcs]
    split
    · simpa using ih
    · cases hp : pcs c l with
      | nil => simp [consH]
      | cons x r => rw [hp] at ih; simp only [consH, List.length_cons] at ih ⊢; omega
theorem pcs_sub {c : UInt8} : ∀ {s p : List UInt8}, p ∈ pcs c s → p.length ≤ s.length
  | [], p, h => by simp [pcs] at h; simp [h]
  | b :: l, p, h => by
    rw [pcs] at h
    split at h
    · rcases List.mem_cons.1 h with rfl | h
      · simp
      · have := pcs_sub h; simp; omega
    · cases hp : pcs c l with
      | nil => exact absurd hp (pcs_ne c l)
      | cons x r =>
        rw [hp] at h
        rcases List.mem_cons.1 h with rfl | h
        · have := pcs_sub (c := c) (s := l) (p := x) (by simp [hp]); simp; omega
        · have := pcs_sub (c := c) (s := l) (p := p) (by simp [hp, h]); simp; omega
theorem splitK_pcs (c : UInt8) : ∀ (s : List UInt8), Lib.splitK [c] 0 (Lib.count s [c]) s = pcs c s
  | [] => by
    rw [Lib.count_miss (by simp [Lib.index])]; rfl
  | b :: l => by
    have ih := splitK_pcs c l
    by_cases hb : b = c
    · subst hb
      have hix : Lib.index (b :: l) [b] = 0 := by rw [Lib.index]; simp [List.isPrefixOf]
      rw [Lib.count_cons_eq, Nat.add_comm, Lib.splitK, hix, pcs, if_pos rfl, ← ih]
      simp
    · have hp : ([c] : List UInt8).isPrefixOf (b :: l) = false := by simp [List.isPrefixOf, Ne.symm hb]
      have hix : Lib.index (b :: l) [c] = if Lib.index l [c] == -1 then -1 else Lib.index l [c] + 1 := by rw [Lib.index, hp]; simp
      rw [Lib.count_cons_ne b c l hb, pcs, if_neg hb, ← ih]
      by_cases hm : Lib.index l [c] = -1
      · rw [Lib.count_miss hm]; rfl
      · have hge := Lib.index_ge l [c]
        obtain ⟨j, hj⟩ : ∃ j : Nat, Lib.index l [c] = j := ⟨(Lib.index l [c]).toNat, by omega⟩
        have hix' : Lib.index (b :: l) [c] = ((j + 1 : Nat) : Int) := by rw [hix, if_neg (fun e => hm (beq_iff_eq.1 e)), hj]; omega
        rw [Lib.count_hit (by simp) hj, Nat.add_comm, Lib.splitK, Lib.splitK, hix', hj, if_neg (fun e => by have := beq_iff_eq.1 e; omega), if_neg (fun e => by have := beq_iff_eq.1 e; omega)]
        simp only [Int.toNat_natCast, Nat.add_zero, List.length_singleton, consH, List.take_succ_cons]
        simp
theorem split_i {s : List UInt8} (c : UInt8) (h : s.length ≤ 1048576) : splitI s [c] = some (pcs c s) := by
  unfold splitI
  rw [if_pos ⟨by omega, by simp⟩, Lib.splitB_data]
  congr 1
  exact splitK_pcs c s
theorem slc_some {τ : Type} {xs : List τ} {a b : Nat} (h1 : a ≤ b) (h2 : b ≤ xs.length) : slc xs (a : Int) (b : Int) = some ((xs.drop a).take (b - a)) := by
  unfold slc
  rw [if_pos ⟨by omega, by omega, by omega⟩, Int.toNat_natCast, Int.toNat_natCast]
theorem index_no {c : UInt8} : ∀ {s : List UInt8}, c ∉ s → Lib.indexByte s c = -1
  | [], _ => rfl
  | b :: l, h => by
    have h1 : ¬ b = c := fun e => h (by simp [e])
    have h2 : c ∉ l := fun e => h (by simp [e])
    rw [Lib.indexByte, if_neg (by simpa using h1), index_no h2]; rfl
theorem index_at {c : UInt8} (b : List UInt8) : ∀ {a : List UInt8}, c ∉ a → Lib.indexByte (a ++ c :: b) c = (a.length : Int)
  | [], _ => by simp [Lib.indexByte]
  | x :: l, h => by
    have h1 : ¬ x = c := fun e => h (by simp [e])
    have h2 : c ∉ l := fun e => h (by simp [e])
    rw [List.cons_append, Lib.indexByte, if_neg (by simpa using h1), index_at b h2, if_neg (fun e => by have := beq_iff_eq.1 e; omega)]
    simp
theorem cut_only {s : List UInt8} (h : s.length ≤ 1048576) : ∃ a b f, cutI s [32] = some (a, b, f) ∧ b.length ≤ s.length ∧ ((f = true ∧ s = a ++ 32 :: b ∧ 32 ∉ a) ∨ (f = false ∧ a = s ∧ b = [] ∧ 32 ∉ a)) := by
  unfold cutI Lib.cut
  rw [if_pos (by omega), Lib.index_one]
  by_cases hm : (32 : UInt8) ∈ s
  · obtain ⟨a, b, rfl, ha⟩ := List.eq_append_cons_of_mem hm
    rw [index_at b ha, if_pos (by omega)]
    exact ⟨a, b, true, by simp, by simp; omega, .inl ⟨rfl, rfl, ha⟩⟩
  · rw [index_no hm, if_neg (by omega)]
    exact ⟨s, [], false, rfl, by simp, .inr ⟨rfl, rfl, rfl, hm⟩⟩
end Go.Proofs.YtjlalepbhcekoaaDoor
/- Numbers and amounts read. -/
namespace Go.Proofs.YtjlalepbhcekoaaDoor
open Go Go.Ab
def val (l : List UInt8) : Nat := l.foldl (fun a b => 10 * a + (b.toNat - 48)) 0
theorem val_snoc (l : List UInt8) (b : UInt8) : val (l ++ [b]) = 10 * val l + (b.toNat - 48) := by unfold val; rw [List.foldl_append]; rfl
theorem dig_nat {n : Nat} (h : n < 10) : (UInt8.ofNat (48 + n)).toNat = 48 + n := by rw [UInt8.toNat_ofNat']; omega
theorem val_dec (n : Nat) : val (Lib.decDigits n) = n := by
  induction n using Nat.strongRecOn with
  | _ n ih =>
    rw [Lib.decDigits]
    by_cases h : n < 10
    · rw [dif_pos h]
      show 10 * 0 + ((UInt8.ofNat (48 + n)).toNat - 48) = n
      rw [dig_nat h]; omega
    · rw [dif_neg h, val_snoc, ih (n / 10) (by omega), dig_nat (by omega)]; omega
theorem dig_dec (n : Nat) : ∀ b ∈ Lib.decDigits n, 48 ≤ b.toNat ∧ b.toNat ≤ 57 := by
  induction n using Nat.strongRecOn with
  | _ n ih =>
    rw [Lib.decDigits]
    by_cases h : n < 10
    · rw [dif_pos h]
      intro b hb
      rw [List.mem_singleton.1 hb, dig_nat h]; omega
    · rw [dif_neg h]
      intro b hb
      rcases List.mem_append.1 hb with hb | hb
      · exact ih (n / 10) (by omega) b hb
      · rw [List.mem_singleton.1 hb, dig_nat (by omega)]; omega
theorem head_dec (n : Nat) (h1 : 1 ≤ n) : ∀ b, (Lib.decDigits n)[0]? = some b → b.toNat ≠ 48 := by
  induction n using Nat.strongRecOn with
  | _ n ih =>
    rw [Lib.decDigits]
    by_cases h : n < 10
    · rw [dif_pos h]
      intro b hb
      have : UInt8.ofNat (48 + n) = b := by simpa using hb
      rw [← this, dig_nat h]; omega
    · rw [dif_neg h]
      intro b hb
      have hl : 0 < (Lib.decDigits (n / 10)).length := by have := tx_pos ((n / 10 : Nat) : Int); unfold tx at this; rw [Int.toNat_natCast] at this; exact this
      rw [List.getElem?_append_left hl] at hb
      exact ih (n / 10) (by omega) (by omega) b hb
theorem val_take (l : List UInt8) (h : ∀ b ∈ l, 48 ≤ b.toNat ∧ b.toNat ≤ 57) : ∀ k, k ≤ l.length → val (l.take k) < 10 ^ k
  | 0, _ => by simp [val]
  | k + 1, hk => by
    have ih := val_take l h k (by omega)
    have hb := h _ (List.getElem_mem (show k < l.length by omega))
    rw [List.take_succ_eq_append_getElem (by omega), val_snoc, Nat.pow_succ]
    omega
theorem u8_dig {b : UInt8} (h : 48 ≤ b.toNat ∧ b.toNat ≤ 57) : IntKind.i64.wrap (IntKind.u8.wrap ((b.toNat : Int) - 48)) = ((b.toNat - 48 : Nat) : Int) := by
  have : IntKind.u8.wrap ((b.toNat : Int) - 48) = (b.toNat : Int) - 48 := by simp [IntKind.wrap, IntKind.signed, IntKind.bits]; omega
  rw [this, w64 (by omega)]; omega
end Go.Proofs.YtjlalepbhcekoaaDoor
/- Amounts read: both accept the text of an amount and nothing else. -/
namespace Go.Proofs.YtjlalepbhcekoaaDoor
open Go Go.Ab
theorem join_two (x y : List UInt8) (r : List (List UInt8)) (c : UInt8) : Lib.join (x :: y :: r) [c] = x ++ c :: Lib.join (y :: r) [c] := by
  rw [Lib.join_cons, Lib.join_cons]
  simp [Lib.joinTail]
theorem join_pcs {c : UInt8} : ∀ {xs : List (List UInt8)}, xs ≠ [] → (∀ x ∈ xs, c ∉ x) → pcs c (Lib.join xs [c]) = xs
  | [], h, _ => absurd rfl h
  | [x], _, h => by rw [Lib.join_one, pcs_no (h x (by simp))]
  | x :: y :: r, _, h => by
    rw [join_two, pcs_app, pcs_no (h x (by simp)), join_pcs (by simp) (fun z hz => h z (by simp at hz ⊢; exact .inr hz))]
    rfl
theorem mem_join {b c : UInt8} : ∀ {xs : List (List UInt8)}, b ∈ Lib.join xs [c] → b = c ∨ ∃ x ∈ xs, b ∈ x
  | [], h => by simp [Lib.join_nil] at h
  | [x], h => by rw [Lib.join_one] at h; exact .inr ⟨x, by simp, h⟩
  | x :: y :: r, h => by
    rw [join_two, List.mem_append, List.mem_cons] at h
    rcases h with h | h | h
    · exact .inr ⟨x, by simp, h⟩
    · exact .inl h
    · rcases mem_join h with h | ⟨z, hz, h⟩
      · exact .inl h
      · exact .inr ⟨z, by simp at hz ⊢; exact .inr hz, h⟩
def p1 (n : Int) (c : UInt8) : List (Int × UInt8) := if n > 0 then [(n, c)] else []
def parts (a : Int) : List (Int × UInt8) := if a = 0 then [(0, 100)] else p1 (a / 240) 108 ++ (p1 (a / 12 % 20) 115 ++ p1 (a % 12) 100)
noncomputable def pT (p : Int × UInt8) : List UInt8 := tx p.1 ++ [p.2]
def wt (c : UInt8) : Int := if c = 108 then 240 else if c = 115 then 12 else 1
def PI (p : Int × UInt8) : Prop := 0 ≤ p.1 ∧ p.1 ≤ 1000000 ∧ (p.2 = 108 ∨ p.2 = 115 ∨ p.2 = 100)
theorem tx0 : tx 0 = [48] := by unfold tx; rw [Lib.decDigits, dif_pos (by decide)]; rfl
theorem amtT_parts (a : Int) : amtT a = Lib.join ((parts a).map pT) [32] := by
  unfold amtT parts
  by_cases h : a = 0
  · rw [if_pos h, if_pos h]
    show _ = Lib.join [tx 0 ++ [100]] [32]
    rw [Lib.join_one, tx0]; rfl
  · rw [if_neg h, if_neg h]
    congr 1
    unfold amt1 p1
    simp only [List.map_append]
    congr 1
    · split <;> rfl
    · congr 1 <;> split <;> rfl
theorem parts_PI {a : Int} (h0 : 0 ≤ a) (h1 : a ≤ 100000000) : (∀ p ∈ parts a, PI p) ∧ parts a ≠ [] ∧ (parts a).length ≤ 3 ∧ ((parts a).map fun p => p.1 * wt p.2).sum = a := by
  unfold parts
  by_cases h : a = 0
  · subst h
    exact ⟨by simp [PI], by simp, by simp, by simp⟩
  · rw [if_neg h]
    have b1 : 0 ≤ a / 240 ∧ a / 240 ≤ 1000000 := by omega
    have b2 : 0 ≤ a / 12 % 20 ∧ a / 12 % 20 ≤ 1000000 := by omega
    have b3 : 0 ≤ a % 12 ∧ a % 12 ≤ 1000000 := by omega
    have e : a / 240 * 240 + a / 12 % 20 * 12 + a % 12 = a := by omega
    have bn : ¬ (a / 240 = 0 ∧ a / 12 % 20 = 0 ∧ a % 12 = 0) := by omega
    revert b1 b2 b3 e bn
    generalize a / 240 = l, a / 12 % 20 = s, a % 12 = d
    intro b1 b2 b3 e bn
    refine ⟨fun p hp => ?_, ?_, ?_, ?_⟩
    · unfold p1 at hp
      simp only [List.mem_append] at hp
      rcases hp with hp | hp | hp <;> split at hp <;> simp at hp <;> subst hp
      · exact ⟨b1.1, b1.2, .inl rfl⟩
      · exact ⟨b2.1, b2.2, .inr (.inl rfl)⟩
      · exact ⟨b3.1, b3.2, .inr (.inr rfl)⟩
    · unfold p1
      repeat' split
      all_goals first | simp; done | (exfalso; omega)
    · unfold p1
      repeat' split
      all_goals simp
    · unfold p1
      repeat' split
      all_goals simp [wt]
      all_goals omega
theorem sum_bd (P : List (Int × UInt8)) (h : ∀ p ∈ P, PI p) : 0 ≤ (P.map fun p => p.1 * wt p.2).sum ∧ (P.map fun p => p.1 * wt p.2).sum ≤ 240000000 * (P.length : Int) := by
  induction P with
  | nil => simp
  | cons p r ih =>
    have := ih (fun q hq => h q (by simp [hq]))
    obtain ⟨g0, g1, g2⟩ := h p (by simp)
    have hw : 0 ≤ p.1 * wt p.2 ∧ p.1 * wt p.2 ≤ 240000000 := by
      unfold wt
      rcases g2 with e | e | e <;> rw [e] <;> simp <;> omega
    simp only [List.map_cons, List.sum_cons, List.length_cons]
    push_cast
    omega
theorem wt_i {c : UInt8} (h : c = 108 ∨ c = 115 ∨ c = 100) : ∃ k : Int, strings_IndexByte [100, 115, 108] (c.toNat : Int) = some k ∧ 0 ≤ k ∧ impl_worth k = some (wt c) := by
  rcases h with rfl | rfl | rfl
  · exact ⟨2, rfl, by decide, rfl⟩
  · exact ⟨1, rfl, by decide, rfl⟩
  · exact ⟨0, rfl, by decide, rfl⟩
theorem pT_no {p : Int × UInt8} (h : PI p) {c : UInt8} (hc : c = 32 ∨ c = 10) : c ∉ pT p := by
  intro hm
  unfold pT at hm
  rcases List.mem_append.1 hm with g | g
  · have := dig_dec _ _ g
    rcases hc with rfl | rfl <;> revert this <;> decide
  · have := List.mem_singleton.1 g
    obtain ⟨_, _, g2⟩ := h
    rw [← this] at g2
    rcases hc with rfl | rfl <;> revert g2 <;> decide
theorem amtT_pcs {a : Int} (h0 : 0 ≤ a) (h1 : a ≤ 100000000) : pcs 32 (amtT a) = (parts a).map pT := by
  obtain ⟨g1, g2, _, _⟩ := parts_PI h0 h1
  rw [amtT_parts]
  refine join_pcs (by simpa using g2) (fun x hx => ?_)
  obtain ⟨p, hp, rfl⟩ := List.mem_map.1 hx
  exact pT_no (g1 p hp) (.inl rfl)
theorem amtT_no {a : Int} (h0 : 0 ≤ a) (h1 : a ≤ 100000000) : (10 : UInt8) ∉ amtT a := by
  obtain ⟨g1, g2, _, _⟩ := parts_PI h0 h1
  rw [amtT_parts]
  intro h
  rcases mem_join h with h | ⟨x, hx, h⟩
  · revert h; decide
  · obtain ⟨p, hp, rfl⟩ := List.mem_map.1 hx
    exact pT_no (g1 p hp) (.inr rfl) h
theorem amtT_short {a : Int} (h0 : 0 ≤ a) (h1 : a ≤ 100000000) : (amtT a).length ≤ 30 ∧ 1 ≤ (amtT a).length := by
  obtain ⟨g1, g2, g3, _⟩ := parts_PI h0 h1
  rw [amtT_parts]
  have hj := join_len ((parts a).map pT) 8 (fun x hx => by
    obtain ⟨p, hp, rfl⟩ := List.mem_map.1 hx
    obtain ⟨q0, q1, _⟩ := g1 p hp
    have hl : (tx p.1).length ≤ 7 := decDigits_le 6 _ (by simp; omega)
    unfold pT; simp; omega)
  have : ((parts a).map pT).length * (8 + 1) ≤ 3 * 9 := Nat.mul_le_mul_right _ (by simpa using g3)
  refine ⟨by omega, ?_⟩
  cases hp : parts a with
  | nil => exact absurd hp g2
  | cons p r => rw [List.map_cons, Lib.join_cons]; unfold pT; simp; omega
end Go.Proofs.YtjlalepbhcekoaaDoor
/- Amounts read: the same on both sides. -/
namespace Go.Proofs.YtjlalepbhcekoaaDoor
open Go Go.Ab
theorem idx_lt (c : UInt8) : ∀ l : List UInt8, Lib.indexByte l c < l.length
  | [] => by simp [Lib.indexByte]
  | b :: l => by
    have ih := idx_lt c l
    rw [Lib.indexByte]
    split
    · simp
    · split
      · simp; omega
      · simp; omega
theorem unit_tot (c : UInt8) : ∃ k : Int, strings_IndexByte [100, 115, 108] (c.toNat : Int) = some k ∧ (k < 0 ∨ ∃ w, impl_worth k = some w) := by
  refine ⟨Lib.indexByte [100, 115, 108] ((c.toNat : Int).toNat.toUInt8), rfl, ?_⟩
  have := idx_lt ((c.toNat : Int).toNat.toUInt8) [100, 115, 108]
  generalize Lib.indexByte [100, 115, 108] ((c.toNat : Int).toNat.toUInt8) = k at *
  simp at this
  by_cases h : k < 0
  · exact .inl h
  · have : k = 0 ∨ k = 1 ∨ k = 2 := by omega
    rcases this with rfl | rfl | rfl
    · exact .inr ⟨_, rfl⟩
    · exact .inr ⟨_, rfl⟩
    · exact .inr ⟨_, rfl⟩
theorem amt_out {n : Int} (h : ¬ (0 ≤ n ∧ n ≤ 100000000)) : impl_AmountText n = some [] := by
  unfold impl_AmountText
  have : inB n 0 100000000 = false := by rw [← Bool.not_eq_true]; exact fun e => h (inB_iff.1 e)
  rw [isAmount_eq, Option.bind_some, this]; rfl
end Go.Proofs.YtjlalepbhcekoaaDoor
/- One line of an account read. -/
namespace Go.Proofs.YtjlalepbhcekoaaDoor
open Go Go.Ab
def W4 : List (List UInt8) := [[102, 97, 114, 109], [100, 101, 98, 116], [112, 97, 105, 100], [97, 108, 108, 111, 119, 101, 100]]
theorem words_i : impl_itemWords = some W4 := rfl
theorem idx_word (w : List UInt8) : (∃ j : Nat, j < 4 ∧ slices_Index_string W4 w = some (j : Int) ∧ wordT (j : Int) = w ∧ ∀ i, i < j → wordT (i : Int) ≠ w) ∨ (slices_Index_string W4 w = some (-1) ∧ ∀ i : Nat, i < 4 → wordT (i : Int) ≠ w) := by
  have key := find_first (tb := slices_Index_string_b1 W4 w) (fun x => decide (w = x)) W4 (fun i => .inl (i : Int)) (.inr ())
    (by
      intro i h hp
      have w1 := w64s h (by decide)
      simp only [decide_eq_false_iff_not] at hp
      have c0 : decide ((i : Int) < (W4.length : Int)) = true := decide_eq_true (by omega)
      have hr : rd W4 (i : Int) = some W4[i] := by rw [rd_coe, List.getElem?_eq_getElem h]
      simp only [slices_Index_string_b1, c0, hr, Option.bind_some, if_true, w1]
      rw [if_neg (by simpa using hp)])
    (by
      intro i h hp
      simp only [decide_eq_true_eq] at hp
      have c0 : decide ((i : Int) < (W4.length : Int)) = true := decide_eq_true (by omega)
      have hr : rd W4 (i : Int) = some W4[i] := by rw [rd_coe, List.getElem?_eq_getElem h]
      simp only [slices_Index_string_b1, c0, hr, Option.bind_some, if_true]
      rw [if_pos (by simpa using hp)])
    (by simp [slices_Index_string_b1])
  have hw : ∀ i (h : i < W4.length), wordT (i : Int) = W4[i] := by
    intro i h
    match i, h with
    | 0, _ => rfl
    | 1, _ => rfl
    | 2, _ => rfl
    | 3, _ => rfl
    | n + 4, h => exact absurd h (by simp [W4])
  have h4 : W4.length = 4 := rfl
  unfold slices_Index_string
  rw [key]
  by_cases hlt : W4.findIdx (fun x => decide (w = x)) < W4.length
  · left
    refine ⟨W4.findIdx (fun x => decide (w = x)), by omega, by rw [if_pos hlt]; rfl, ?_, fun i hi => ?_⟩
    · rw [hw _ hlt]
      have := List.findIdx_getElem (w := hlt)
      exact (of_decide_eq_true this).symm
    · rw [hw i (by omega)]
      have := List.not_of_lt_findIdx hi
      intro e
      simp [e] at this
  · right
    refine ⟨by rw [if_neg hlt]; rfl, fun i hi => ?_⟩
    rw [hw i (by omega)]
    intro e
    refine hlt (List.findIdx_lt_length_of_exists ⟨W4[i], List.getElem_mem (by omega), decide_eq_true e.symm⟩)
theorem join_nl {c : UInt8} : ∀ (xs : List (List UInt8)), xs ≠ [] → Lib.join xs [c] ++ [c] = (xs.map (· ++ [c])).flatten
  | [], h => absurd rfl h
  | [x], _ => by rw [Lib.join_one]; simp
  | x :: y :: r, _ => by
    rw [join_two]
    have ih := join_nl (c := c) (y :: r) (by simp)
    rw [List.map_cons, List.flatten_cons, ← ih]
    simp
end Go.Proofs.YtjlalepbhcekoaaDoor
/- Accounts read. -/
namespace Go.Proofs.YtjlalepbhcekoaaDoor
open Go Go.Ab
theorem itemS_eq {x : Item} (h : itemB x = true) : spec_l05Item x = some true := by
  have hb := h
  unfold itemB at hb
  simp only [Bool.and_eq_true] at hb
  have hk := inB_iff.1 hb.1
  unfold spec_l05Item
  rw [w64 (by omega), l00In_eq, l01Amount_eq, hb.1, hb.2]
  rfl
theorem itemsS_eq {xs : List Item} (h : ∀ x ∈ xs, itemB x = true) : spec_l05Items xs = some (decide (xs.length ≤ 40)) := by
  unfold spec_l05Items
  by_cases hn : (xs.length : Int) > 40
  · rw [if_pos (by simpa using hn), decide_eq_false (by omega)]
  · rw [if_neg (by simpa using hn), decide_eq_true (by omega)]
    have key := Lw_run (tb := spec_l05Items_b1 xs) (fun i => (i : Int)) xs.length (r := .inr ())
      (by
        intro i hi
        have w := w64s hi (by omega)
        have hr : rd xs (i : Int) = some xs[i] := by rw [rd_coe, List.getElem?_eq_getElem hi]
        simp only [spec_l05Items_b1, hr, itemS_eq (h _ (List.getElem_mem hi)), Option.bind_some, w, if_true]
        rw [if_pos (by simpa using hi)])
      (by simp [spec_l05Items_b1])
    have key' : Lw (spec_l05Items_b1 xs) 0 = _ := key
    rw [key']
    rfl
theorem balance_in (xs : List Item) (hn : xs.length ≤ 4611686018427387904) : ∃ v, impl_balance xs = some v ∧ spec_l05Balance xs = some v ∧ InR .i64 v := by
  obtain ⟨v, v1, v2⟩ := balance_same xs hn
  refine ⟨v, v1, v2, ?_⟩
  obtain ⟨r, r1, r2⟩ := Lw_meas (tb := impl_balance_b1 xs) (fun s => xs.length - s.2.toNat) (fun s => InR .i64 s.1 ∧ ∃ i : Nat, s.2 = i ∧ i ≤ xs.length) (fun r => InR .i64 r)
    (by
      rintro ⟨a, j⟩ ⟨ha, i, hi, hl⟩
      simp only at hi ha
      subst hi
      by_cases hlt : i < xs.length
      · have hr : rd xs (i : Int) = some xs[i] := by rw [rd_coe, List.getElem?_eq_getElem hlt]
        have w := w64s hlt hn
        have c0 : decide ((i : Int) < (xs.length : Int)) = true := decide_eq_true (by omega)
        have wr : ∀ n : Int, InR .i64 (IntKind.i64.wrap n) := fun n => inR64.2 ⟨w64_ge n, w64_le n⟩
        left
        by_cases k0 : (xs[i].Kind == 0) = true
        · exact ⟨_, by simp only [impl_balance_b1, c0, hr, Option.bind_some, w, if_true]; rw [if_pos k0], ⟨wr _, i + 1, rfl, hlt⟩, by simp; omega⟩
        · by_cases k1 : (xs[i].Kind == 1) = true
          · exact ⟨_, by simp only [impl_balance_b1, c0, hr, Option.bind_some, w, if_true]; rw [if_neg k0, if_pos k1], ⟨wr _, i + 1, rfl, hlt⟩, by simp; omega⟩
          · exact ⟨_, by simp only [impl_balance_b1, c0, hr, Option.bind_some, w, if_true]; rw [if_neg k0, if_neg k1], ⟨wr _, i + 1, rfl, hlt⟩, by simp; omega⟩
      · have : i = xs.length := by omega
        subst this
        exact .inr ⟨a, by simp [impl_balance_b1], ha⟩) _ (0, 0) rfl ⟨inR64.2 (by omega), 0, rfl, by omega⟩
  unfold impl_balance at v1
  rw [r1, Option.bind_some] at v1
  cases v1
  exact r2
/-! the last line -/
def Closed (p : List UInt8) : Prop := ∀ q, ∃ pre, pcs 10 (p ++ q) = pre ++ pcs 10 q
theorem Closed.nil : Closed [] := fun q => ⟨[], rfl⟩
theorem Closed.line (p : List UInt8) : Closed (p ++ [10]) := fun q => ⟨pcs 10 p, by rw [List.append_assoc, List.singleton_append, pcs_app]⟩
theorem Closed.app {p q : List UInt8} (h1 : Closed p) (h2 : Closed q) : Closed (p ++ q) := fun r => by
  obtain ⟨a, ha⟩ := h1 (q ++ r)
  obtain ⟨b, hb⟩ := h2 r
  exact ⟨a ++ b, by rw [List.append_assoc, ha, hb, List.append_assoc]⟩
theorem Closed.items : ∀ xs : List Item, Closed (xs.map itemT).flatten
  | [] => Closed.nil
  | x :: r => by
    rw [List.map_cons, List.flatten_cons]
    exact Closed.app (Closed.line _) (Closed.items r)
/-- the last line without its end -/
noncomputable def lastT (n : Int) : List UInt8 := if n > 0 then [111, 119, 101, 115, 32] ++ amtT n else if n < 0 then [111, 118, 101, 114, 32] ++ amtT (-n) else [113, 117, 105, 116]
theorem tailT_last (n : Int) : tailT n = lastT n ++ [10] := by
  unfold tailT lastT
  split
  · rfl
  · split <;> rfl
theorem lastT_no {n : Int} (h0 : -100000000 ≤ n) (h1 : n ≤ 100000000) : (10 : UInt8) ∉ lastT n := by
  unfold lastT
  split
  · intro h
    rcases List.mem_append.1 h with h | h
    · revert h; decide
    · exact amtT_no (by omega) h1 h
  · split
    · intro h
      rcases List.mem_append.1 h with h | h
      · revert h; decide
      · exact amtT_no (by omega) (by omega) h
    · decide
theorem lastT_word (n : Int) {l : List UInt8} {j : Nat} (hj : j < 4) (h : l.take 4 = (wordT (j : Int)).take 4) : lastT n ≠ l := by
  intro e
  rw [← e] at h
  have hw : (lastT n).take 4 = [111, 119, 101, 115] ∨ (lastT n).take 4 = [111, 118, 101, 114] ∨ (lastT n).take 4 = [113, 117, 105, 116] := by
    unfold lastT
    split
    · left; rfl
    · split
      · right; left; rfl
      · right; right; rfl
  rw [h] at hw
  match j, hj with
  | 0, _ => revert hw; decide
  | 1, _ => revert hw; decide
  | 2, _ => revert hw; decide
  | 3, _ => revert hw; decide
  | n + 4, h => omega
theorem accT_pcs (a : Account) (h : -100000000 ≤ a.Balance ∧ a.Balance ≤ 100000000) : ∃ pre, pcs 10 (accT a) = pre ++ [lastT a.Balance, []] := by
  have hc : Closed (a.Title ++ [10] ++ (a.Items.map itemT).flatten) := Closed.app (Closed.line _) (Closed.items _)
  obtain ⟨pre, hp⟩ := hc (tailT a.Balance)
  refine ⟨pre, ?_⟩
  unfold accT
  rw [hp, tailT_last]
  show pre ++ pcs 10 (lastT a.Balance ++ 10 :: []) = _
  rw [pcs_app, pcs_no (lastT_no h.1 h.2)]
  rfl
theorem Lw_runS {S R : Type} {tb : S → Option (S ⊕ R)} (st : Nat → S) (n : Nat) (h : ∀ i, i < n → tb (st i) = some (.inl (st (i + 1)))) : Lw tb (st 0) = Lw tb (st n) := by
  induction n with
  | zero => rfl
  | succ n ih => rw [ih (fun i hi => h i (by omega)), Lw_step (h n (by omega))]
end Go.Proofs.YtjlalepbhcekoaaDoor
/- Accounts made and checked (for laws whose readAccount is told with less). -/
namespace Go.Proofs.YtjlalepbhcekoaaDoor
open Go Go.Ab
section
variable {t : List UInt8} {ls : List (List UInt8)} {its : List Item}
theorem cloneI (h : its.length ≤ 1048576) : app 16 ([] : List Item) its = some its := by
  rw [app_some (by simp; omega) (by decide)]; rfl
theorem make_eq (ht : t.length ≤ 1048576) (h40 : its.length ≤ 40) (hi : ∀ x ∈ its, itemB x = true) {v : Int} (hv : impl_balance its = some v) : impl_MakeAccount t its = if lettersB t 16 = true then some (.inl (t, its, v)) else some (.inr 2) := by
  have ha : (its.all itemB && decide (its.length ≤ 40)) = true := by
    rw [Bool.and_eq_true, List.all_eq_true]; exact ⟨hi, decide_eq_true h40⟩
  unfold impl_MakeAccount slices_Clone_Item
  rw [validItems_eq _ (by omega), Option.bind_some, ha, if_pos rfl, isLetters_eq _ _ (by omega), Option.bind_some, cloneI (by omega), hv]
  rfl
theorem check_eq (ht : t.length ≤ 1048576) (h40 : its.length ≤ 40) (hi : ∀ x ∈ its, itemB x = true) {v : Int} (hv : impl_balance its = some v) (hl : lettersB t 16 = true) : impl_CheckAccount ⟨t, its, v⟩ = some true := by
  have ha : (its.all itemB && decide (its.length ≤ 40)) = true := by
    rw [Bool.and_eq_true, List.all_eq_true]; exact ⟨hi, decide_eq_true h40⟩
  unfold impl_CheckAccount
  dsimp only
  rw [isLetters_eq _ _ (by omega), Option.bind_some, hl, if_pos rfl, validItems_eq _ (by omega), Option.bind_some, ha, if_pos rfl, hv, Option.bind_some]
  simp
theorem size_in {n : Int} (h : InR .i64 n) : (impl_size n).bind impl_isAmount = some (inB n (-100000000) 100000000) := by
  obtain ⟨h0, h1⟩ := inR64.1 h
  unfold impl_size
  rw [Option.bind_some, isAmount_eq]
  congr 1
  by_cases hm : n = -9223372036854775808
  · subst hm
    have : IntKind.i64.wrap (0 - (-9223372036854775808)) = -9223372036854775808 := by decide
    rw [this]; decide
  · rw [w64 (by omega), Bool.eq_iff_iff, inB_iff, inB_iff]
    omega
theorem acI (h40 : its.length ≤ 40) (hi : ∀ x ∈ its, itemB x = true) {v : Int} (hl : lettersB t 16 = true) (hv : -100000000 ≤ v ∧ v ≤ 100000000) : AcI ⟨t, its, v⟩ := by
  unfold lettersB at hl
  simp only [Bool.and_eq_true, decide_eq_true_eq] at hl
  exact ⟨⟨hl.1.2, by have := hl.2; simp only; omega⟩, h40, hi, hv⟩
end
end Go.Proofs.YtjlalepbhcekoaaDoor
/- Numbers drawn from bytes. -/
namespace Go.Proofs.YtjlalepbhcekoaaDoor
open Go Go.Ab
/-- bytes -/
def Bys (c : List Int) : Prop := c.length ≤ 4611686018427387904 ∧ ∀ x ∈ c, 0 ≤ x ∧ x ≤ 255
theorem iand255_in (n : Int) : 0 ≤ IntKind.i64.wrap (iand .u64 n 255) ∧ IntKind.i64.wrap (iand .u64 n 255) ≤ 255 := by
  have h1 : (BitVec.ofInt IntKind.u64.bits n &&& BitVec.ofInt IntKind.u64.bits 255).toNat ≤ 255 := by
    rw [BitVec.toNat_and]
    exact Nat.le_trans Nat.and_le_right (by decide)
  have h2 : iand .u64 n 255 = ((BitVec.ofInt IntKind.u64.bits n &&& BitVec.ofInt IntKind.u64.bits 255).toNat : Int) := by
    unfold iand
    exact IntWalk.u64_in _ ⟨by omega, by omega⟩
  rw [h2, w64 (by omega)]
  omega
theorem shr40 (n : Int) : ∃ m, shr .u64 n 40 = some m := by
  unfold shr
  rw [if_neg (by decide)]
  exact ⟨_, rfl⟩
theorem next_ok (c : List Int) (hc : Bys c) (a s : Int) (h0 : 0 ≤ a) (h1 : a ≤ 4611686018427387904) : ∃ x s', spec_l00Src_next_p c a s = some (x, c, a + 1, s') ∧ 0 ≤ x ∧ x ≤ 255 := by
  have w : IntKind.i64.wrap (a + 1) = a + 1 := w64 (by omega)
  unfold spec_l00Src_next_p
  by_cases c1 : a < c.length
  · have hr := rd_in (xs := c) h0 c1
    have hx := hc.2 _ (List.getElem_mem (show a.toNat < c.length by omega))
    have wx : IntKind.i64.wrap c[a.toNat] = c[a.toNat] := w64 (by omega)
    by_cases c2 : a + 1 ≤ c.length
    · exact ⟨c[a.toNat], _, by simp only [c1, decide_true, if_true, hr, Option.bind_some, w, c2, wx]; rfl, hx⟩
    · omega
  · by_cases c2 : a + 1 ≤ c.length
    · exact ⟨0, _, by simp only [c1, decide_false, Bool.false_eq_true, if_false, w, c2, decide_true, if_true]; rfl, by omega, by omega⟩
    · obtain ⟨m, hm⟩ := shr40 (IntKind.u64.wrap ((IntKind.u64.wrap ((IntKind.u64.wrap (s * 6364136223846793005)) + 0)) + 1442695040888963407))
      exact ⟨_, _, by simp only [c1, decide_false, Bool.false_eq_true, if_false, w, c2, hm, Option.bind_some]; rfl, iand255_in m⟩
/-- a number drawn: from 0 to n - 1, and the source goes on by two bytes at most -/
theorem pick_ok (c : List Int) (hc : Bys c) (a s n : Int) (h0 : 0 ≤ a) (h1 : a ≤ 1000000000000) (hn : n ≤ 9223372036854775807) :
    ∃ x a' s', spec_l00Src_pick_p c a s n = some (x, c, a', s') ∧ 0 ≤ x ∧ (1 ≤ n → x < n) ∧ x ≤ 65535 ∧ a ≤ a' ∧ a' ≤ a + 2 ∧ (n ≤ 200 → x ≤ 255) := by
  unfold spec_l00Src_pick_p
  by_cases c1 : n ≤ 1
  · exact ⟨0, a, s, by simp [c1], by omega, by omega, by omega, by omega, by omega, by omega⟩
  · obtain ⟨x, s1, e1, g1, g2⟩ := next_ok c hc a s h0 (by omega)
    have n0 : ¬ n = 0 := by omega
    by_cases c2 : n > 200
    · obtain ⟨y, s2, e2, k1, k2⟩ := next_ok c hc (a + 1) s1 (by omega) (by omega)
      have w1 : IntKind.i64.wrap (x * 256) = x * 256 := w64 (by omega)
      have w2 : IntKind.i64.wrap (x * 256 + y) = x * 256 + y := w64 (by omega)
      have hr : rem .i64 (x * 256 + y) n = some ((x * 256 + y).tmod n) := by unfold rem; rw [if_neg n0]
      have hm : (x * 256 + y).tmod n = (x * 256 + y) % n := Int.tmod_eq_emod_of_nonneg (by omega)
      have m1 := Int.emod_nonneg (x * 256 + y) n0
      have m2 := Int.emod_lt_of_pos (x * 256 + y) (show 0 < n by omega)
      have m3 : (x * 256 + y) % n ≤ x * 256 + y := by
        have := Int.emod_add_mul_ediv (x * 256 + y) n
        have h3 : 0 ≤ n * ((x * 256 + y) / n) := Int.mul_nonneg (by omega) (Int.ediv_nonneg (by omega) (by omega))
        omega
      exact ⟨_, a + 1 + 1, s2, by simp only [c1, decide_false, Bool.false_eq_true, if_false, e1, Option.bind_some, c2, decide_true, if_true, e2, w1, w2, hr, hm], m1, fun _ => m2, by omega, by omega, by omega, by omega⟩
    · have hr : rem .i64 x n = some (x.tmod n) := by unfold rem; rw [if_neg n0]
      have hm : x.tmod n = x % n := Int.tmod_eq_emod_of_nonneg g1
      have m1 := Int.emod_nonneg x n0
      have m2 := Int.emod_lt_of_pos x (show 0 < n by omega)
      have m3 : x % n ≤ x := by
        have := Int.emod_add_mul_ediv x n
        have h3 : 0 ≤ n * (x / n) := Int.mul_nonneg (by omega) (Int.ediv_nonneg g1 (by omega))
        omega
      exact ⟨_, a + 1, s1, by simp only [c1, decide_false, Bool.false_eq_true, if_false, e1, Option.bind_some, c2, hr, hm], m1, fun _ => m2, by omega, by omega, by omega, by omega⟩
theorem from_eq (c : List Int) : spec_l00From c = some ⟨c, 0, 0⟩ := rfl
theorem bys_of {c : List Int} (h : (okLs 1 (InR .u8)) c) : Bys c := by
  refine ⟨by have := h.2.1; omega, fun x hx => ?_⟩
  have := h.2.2 x hx
  simpa [InR, Lit.wf, IntKind.min, IntKind.max, IntKind.signed, IntKind.bits] using this
end Go.Proofs.YtjlalepbhcekoaaDoor
/- One side: amounts and accounts written out and read back. -/
namespace Go.Proofs.YtjlalepbhcekoaaDoor
open Go Go.Ab
theorem num_loopI (l : List UInt8) (h : ∀ b ∈ l, 48 ≤ b.toNat ∧ b.toNat ≤ 57) (hl : l.length ≤ 10) : Lw (impl_number_b1 l) (0, 0) = some (.inr (val l : Int)) := by
  have step : ∀ k (hk : k < l.length), impl_number_b1 l ((val (l.take k) : Int), (k : Int)) = some (.inl ((val (l.take (k + 1)) : Int), ((k + 1 : Nat) : Int))) := by
    intro k hk
    have hb := h _ (List.getElem_mem hk)
    have hv := val_take l h k (by omega)
    have hp : 10 ^ k ≤ 10 ^ 9 := Nat.pow_le_pow_right (by decide) (by omega)
    have hr : rd l (k : Int) = some l[k] := by rw [rd_coe, List.getElem?_eq_getElem hk]
    have w := w64s hk (by omega)
    have u := u8_dig hb
    have hs : val (l.take (k + 1)) = 10 * val (l.take k) + (l[k].toNat - 48) := by rw [List.take_succ_eq_append_getElem hk, val_snoc]
    have c0 : decide ((k : Int) < (l.length : Int)) = true := decide_eq_true (by omega)
    have c1 : decide ((l[k].toNat : Int) < 48) = false := decide_eq_false (by omega)
    have c2 : decide ((l[k].toNat : Int) > 57) = false := decide_eq_false (by omega)
    have m1 : IntKind.i64.wrap ((val (l.take k) : Int) * 10) = ((10 * val (l.take k) : Nat) : Int) := by rw [w64 (by omega)]; omega
    have m3 : IntKind.i64.wrap (((10 * val (l.take k) : Nat) : Int) + ((l[k].toNat - 48 : Nat) : Int)) = ((val (l.take (k + 1)) : Nat) : Int) := by rw [hs, w64 (by omega)]; omega
    simp only [impl_number_b1, hr, Option.bind_some, c0, c1, c2, if_true, Bool.false_eq_true, if_false, u, m1, m3, w]
  exact Lw_run (tb := impl_number_b1 l) (fun k => ((val (l.take k) : Int), (k : Int))) l.length (r := .inr (val l : Int)) (fun k hk => step k hk) (by rw [List.take_length]; simp [impl_number_b1])
theorem num_okI {m : Int} (h0 : 0 ≤ m) (h1 : m ≤ 1000000) : impl_number (tx m) = some (m, true) := by
  obtain ⟨n, rfl⟩ : ∃ n : Nat, m = n := ⟨m.toNat, by omega⟩
  have hp := tx_pos (n : Int)
  have hl : (tx (n : Int)).length ≤ 7 := decDigits_le 6 _ (by simp; omega)
  have hd : ∀ b ∈ tx (n : Int), 48 ≤ b.toNat ∧ b.toNat ≤ 57 := dig_dec _
  have l1 := num_loopI (tx (n : Int)) hd (by omega)
  have hv : val (tx (n : Int)) = n := val_dec n
  rw [hv] at l1
  have hne : tx (n : Int) ≠ [] := fun e => by rw [e] at hp; simp at hp
  have hr : rd (tx (n : Int)) 0 = some ((tx (n : Int))[0]'hp) := by rw [rd_zero, List.getElem?_eq_getElem hp]
  have hz : ((tx (n : Int))[0]'hp).toNat = 48 → (tx (n : Int)).length ≤ 1 := by
    intro e
    by_cases hn : 1 ≤ n
    · exact absurd e (head_dec n hn _ (List.getElem?_eq_getElem hp))
    · obtain rfl : n = 0 := by omega
      unfold tx; rw [Lib.decDigits, dif_pos (by decide)]; simp
  unfold impl_number
  rw [if_neg (by simpa using hne), if_neg (by simp; omega), hr, Option.bind_some]
  by_cases c : ((tx (n : Int))[0]'hp).toNat = 48
  · have := hz c
    rw [if_pos (by simp [c]), if_neg (by simp; omega)]
    simp only [Option.bind_some, l1]
  · rw [if_neg (by simp; omega)]
    simp only [Option.bind_some, l1]
theorem parts_loopI (P : List (Int × UInt8)) (h : ∀ p ∈ P, PI p) (hl : P.length ≤ 3) : Lw (impl_ReadAmount_b1 (P.map pT)) (0, 0) = some (.inr (P.map fun p => p.1 * wt p.2).sum) := by
  have step : ∀ k (hk : k < P.length), impl_ReadAmount_b1 (P.map pT) (((P.take k).map fun p => p.1 * wt p.2).sum, (k : Int)) = some (.inl (((P.take (k + 1)).map fun p => p.1 * wt p.2).sum, ((k + 1 : Nat) : Int))) := by
    intro k hk
    have hp := h _ (List.getElem_mem hk)
    have hr : rd (P.map pT) (k : Int) = some (pT P[k]) := by rw [rd_coe, List.getElem?_map, List.getElem?_eq_getElem hk]; rfl
    have bd := sum_bd (P.take k) (fun p hp => h p (List.mem_of_mem_take hp))
    have bd2 := sum_bd (P.take (k + 1)) (fun p hp => h p (List.mem_of_mem_take hp))
    have lt1 : (P.take k).length ≤ 3 := by simp; omega
    have lt2 : (P.take (k + 1)).length ≤ 3 := by simp; omega
    have hs : ((P.take (k + 1)).map fun p => p.1 * wt p.2).sum = ((P.take k).map fun p => p.1 * wt p.2).sum + P[k].1 * wt P[k].2 := by
      rw [List.take_succ_eq_append_getElem hk, List.map_append, List.sum_append]; simp
    revert bd bd2 hs
    generalize ((P.take (k + 1)).map fun p => p.1 * wt p.2).sum = v', ((P.take k).map fun p => p.1 * wt p.2).sum = v
    revert hp hr
    generalize hq : P[k] = q
    obtain ⟨m, c⟩ := q
    intro hp hr bd bd2 hs
    simp only at hs
    obtain ⟨g0, g1, g2⟩ := hp
    simp only at g0 g1 g2
    obtain ⟨i0, i1, i2, i3⟩ := wt_i g2
    have c4 : decide (i0 < 0) = false := decide_eq_false (by omega)
    have n1 := num_okI g0 g1
    have tp := tx_pos m
    have tl := tx_len g0 (by omega)
    have hx : pT (m, c) = tx m ++ [c] := rfl
    have xl : (pT (m, c)).length = (tx m).length + 1 := by rw [hx]; simp
    have w := w64s (n := 3) (i := k) (by omega) (by omega)
    have w1 : IntKind.i64.wrap (((pT (m, c)).length : Int) - 1) = (((tx m).length : Nat) : Int) := by rw [xl, w64 (by omega)]; omega
    have sl : slc (pT (m, c)) 0 (((tx m).length : Nat) : Int) = some (tx m) := by
      have := slc_some (xs := pT (m, c)) (a := 0) (b := (tx m).length) (by omega) (by omega)
      rw [show (0 : Int) = ((0 : Nat) : Int) from rfl, this, hx]
      simp
    have rl : rd (pT (m, c)) (((tx m).length : Nat) : Int) = some c := by rw [rd_coe, hx]; simp
    have c0 : decide ((k : Int) < ((P.map pT).length : Int)) = true := decide_eq_true (by rw [List.length_map]; omega)
    have ne : (pT (m, c) == ([] : List UInt8)) = false := by rw [hx]; simp
    have hwt : wt c = 240 ∨ wt c = 12 ∨ wt c = 1 := by unfold wt; rcases g2 with e | e | e <;> subst e <;> simp
    have mb : 0 ≤ m * wt c ∧ m * wt c ≤ 240000000 := by rcases hwt with e | e | e <;> rw [e] <;> omega
    have m1 : IntKind.i64.wrap (m * wt c) = m * wt c := w64 (by omega)
    have m3 : IntKind.i64.wrap (v + m * wt c) = v' := by rw [hs, w64 (by omega)]
    simp only [impl_ReadAmount_b1, c0, hr, Option.bind_some, ne, w1, sl, n1, rl, i1, i3, c4, m1, m3, w, if_true, Bool.false_eq_true, if_false]
  exact Lw_run (tb := impl_ReadAmount_b1 (P.map pT)) (fun k => (((P.take k).map fun p => p.1 * wt p.2).sum, (k : Int))) P.length (r := .inr (P.map fun p => p.1 * wt p.2).sum) (fun k hk => step k hk) (by rw [List.take_length]; simp [impl_ReadAmount_b1])
theorem readAmountI {n : Int} (h0 : 0 ≤ n) (h1 : n ≤ 100000000) : impl_ReadAmount (amtT n) = some (n, 0) := by
  obtain ⟨g1, g2, g3, g4⟩ := parts_PI h0 h1
  have l1 := parts_loopI (parts n) g1 g3
  have hs := amtT_short h0 h1
  have si : strings_Split (amtT n) [32] = some (pcs 32 (amtT n)) := split_i (s := amtT n) 32 (by omega)
  rw [g4] at l1
  rw [amtT_pcs h0 h1] at si
  unfold impl_ReadAmount
  rw [if_neg (by simp; omega), si, Option.bind_some, l1, Option.bind_some]
  dsimp only
  rw [amt_i h0 h1, Option.bind_some, if_pos (by simp)]
/-! texts -/
theorem items_iI (a : Account) (h : AcI a) : Lw (impl_AccountText_b1 a) (a.Title ++ [10], 0) = some (a.Title ++ [10] ++ (a.Items.map itemT).flatten) := by
  refine text_loop a.Items itemT _ (fun i hi o ho => ?_) (fun o => by simp [impl_AccountText_b1])
  have hx := h.item _ (List.getElem_mem hi)
  have hl := itemT_len hx
  have hb := hx
  unfold itemB at hb
  simp only [Bool.and_eq_true] at hb
  have w := w64s hi (by have := h.items; omega)
  have hr : rd a.Items (i : Int) = some a.Items[i] := by rw [rd_coe, List.getElem?_eq_getElem hi]
  obtain ⟨k1, k2⟩ := word_rd hb.1
  have b2 := inB_iff.1 hb.2
  have k3 := amtT_len b2.1 b2.2
  have ol : o.length ≤ 17 + 40 * 80 := by
    have := flat_take itemT 80 a.Items (fun x hx => itemT_len (h.item x hx)) i
    have h1 := h.title
    have h2 : a.Items.length * 80 ≤ 40 * 80 := Nat.mul_le_mul_right _ h.items
    rw [ho]
    simp only [List.length_append, List.length_singleton]
    omega
  have s1 : sadd (wordT a.Items[i].Kind) [32] = some (wordT a.Items[i].Kind ++ [32]) := sadd_some (by simp only [List.length_singleton]; omega)
  have s2 : sadd (wordT a.Items[i].Kind ++ [32]) (amtT a.Items[i].Amount) = some (wordT a.Items[i].Kind ++ [32] ++ amtT a.Items[i].Amount) := sadd_some (by simp only [List.length_append, List.length_singleton]; omega)
  have s3 : sadd (wordT a.Items[i].Kind ++ [32] ++ amtT a.Items[i].Amount) [10] = some (itemT a.Items[i]) := sadd_some (by simp only [List.length_append, List.length_singleton]; omega)
  have s4 : sadd o (itemT a.Items[i]) = some (o ++ itemT a.Items[i]) := sadd_some (by omega)
  have e1 := amt_i b2.1 b2.2
  unfold impl_AccountText_b1 impl_itemWords
  simp only [hr, Option.bind_some, k1, s1, e1, s2, s3, s4, w]
  rw [if_pos (by simpa using hi)]
theorem text_iI (a : Account) (h : AcI a) (hc : impl_CheckAccount a = some true) (hs : (impl_size a.Balance).bind impl_isAmount = some true) : impl_AccountText a = some (accT a) := by
  have h1 := h.title
  have hf := flat_len itemT 80 a.Items (fun x hx => itemT_len (h.item x hx))
  have h2 : a.Items.length * 80 ≤ 40 * 80 := Nat.mul_le_mul_right _ h.items
  have hp : (a.Title ++ [10] ++ (a.Items.map itemT).flatten).length ≤ 3300 := by simp only [List.length_append, List.length_singleton]; omega
  have ht := tailT_len h.bal.1 h.bal.2
  have hb := h.bal
  obtain ⟨r, r1, r2⟩ := bind_some hs
  unfold impl_AccountText accT
  simp only [hc, r1, r2, Option.bind_some, if_true, Bool.not_true, Bool.false_eq_true, if_false]
  rw [sadd_some (by simp only [List.length_singleton]; omega), Option.bind_some, items_iI a h, Option.bind_some]
  generalize a.Title ++ [10] ++ (a.Items.map itemT).flatten = o at hp
  unfold tailT at ht ⊢
  by_cases k1 : a.Balance > 0
  · rw [if_pos (by simpa using k1), if_pos k1, amt_i (by omega) (by omega)]
    rw [if_pos k1] at ht
    simp only [List.length_append, List.length_cons, List.length_nil] at ht
    rw [sadd_some (by simp only [List.length_cons, List.length_nil]; omega), Option.bind_some, Option.bind_some, sadd_some (by simp only [List.length_append, List.length_cons, List.length_nil]; omega), Option.bind_some, sadd_some (by simp only [List.length_append, List.length_cons, List.length_nil]; omega)]
    simp
  · rw [if_neg (by simpa using k1), if_neg k1]
    rw [if_neg k1] at ht
    by_cases k2 : a.Balance < 0
    · have w : IntKind.i64.wrap (0 - a.Balance) = -a.Balance := by rw [w64 (by omega)]; omega
      rw [if_pos (by simpa using k2), if_pos k2, w, amt_i (by omega) (by omega)]
      rw [if_pos k2] at ht
      simp only [List.length_append, List.length_cons, List.length_nil] at ht
      rw [sadd_some (by simp only [List.length_cons, List.length_nil]; omega), Option.bind_some, Option.bind_some, sadd_some (by simp only [List.length_append, List.length_cons, List.length_nil]; omega), Option.bind_some, sadd_some (by simp only [List.length_append, List.length_cons, List.length_nil]; omega)]
      simp
    · rw [if_neg (by simpa using k2), if_neg k2, sadd_some (by simp only [List.length_cons, List.length_nil]; omega)]
      simp
/-! lines -/
noncomputable def lineT (x : Item) : List UInt8 := wordT x.Kind ++ 32 :: amtT x.Amount
theorem itemT_line (x : Item) : itemT x = lineT x ++ [10] := by unfold itemT lineT; simp
theorem kinds {k : Int} (h : inB k 0 3 = true) : k = 0 ∨ k = 1 ∨ k = 2 ∨ k = 3 := by
  have := inB_iff.1 h; omega
theorem wordT_no {k : Int} (h : inB k 0 3 = true) {c : UInt8} (hc : c = 32 ∨ c = 10) : c ∉ wordT k := by
  rcases kinds h with rfl | rfl | rfl | rfl <;> rcases hc with rfl | rfl <;> decide
theorem lineT_no {x : Item} (h : itemB x = true) : (10 : UInt8) ∉ lineT x := by
  unfold itemB at h
  simp only [Bool.and_eq_true] at h
  have b2 := inB_iff.1 h.2
  unfold lineT
  intro hm
  rcases List.mem_append.1 hm with hm | hm
  · exact wordT_no h.1 (.inr rfl) hm
  · rcases List.mem_cons.1 hm with hm | hm
    · exact absurd hm (by decide)
    · exact amtT_no b2.1 b2.2 hm
theorem cut_at {a : List UInt8} (b : List UInt8) (ha : (32 : UInt8) ∉ a) (h : (a ++ 32 :: b).length ≤ 1048576) : cutI (a ++ 32 :: b) [32] = some (a, b, true) := by
  unfold cutI Lib.cut
  rw [if_pos (by omega), Lib.index_one, index_at b ha, if_pos (by omega)]
  simp
theorem cut_non {a : List UInt8} (ha : (32 : UInt8) ∉ a) (h : a.length ≤ 1048576) : cutI a [32] = some (a, [], false) := by
  unfold cutI Lib.cut
  rw [if_pos (by omega), Lib.index_one, index_no ha, if_neg (by omega)]
theorem idx_kind {k : Int} (h : inB k 0 3 = true) : slices_Index_string W4 (wordT k) = some k := by
  rcases idx_word (wordT k) with ⟨j, j1, j2, j3, _⟩ | ⟨_, j4⟩
  · rw [j2]
    have hj : j = 0 ∨ j = 1 ∨ j = 2 ∨ j = 3 := by omega
    rcases kinds h with rfl | rfl | rfl | rfl <;> rcases hj with rfl | rfl | rfl | rfl <;> first | rfl | exact absurd j3 (by decide)
  · exfalso
    have := inB_iff.1 h
    refine j4 k.toNat (by omega) ?_
    rw [show ((k.toNat : Nat) : Int) = k by omega]
theorem idx_last {w : List UInt8} (h : w = [111, 119, 101, 115] ∨ w = [111, 118, 101, 114] ∨ w = [113, 117, 105, 116]) : slices_Index_string W4 w = some (-1) := by
  rcases idx_word w with ⟨j, j1, j2, j3, _⟩ | ⟨j2, _⟩
  · have hj : j = 0 ∨ j = 1 ∨ j = 2 ∨ j = 3 := by omega
    rcases h with rfl | rfl | rfl <;> rcases hj with rfl | rfl | rfl | rfl <;> exact absurd j3 (by decide)
  · exact j2
theorem last_cut {v : Int} (h0 : -100000000 ≤ v) (h1 : v ≤ 100000000) : ∃ a b f, cutI (lastT v) [32] = some (a, b, f) ∧ slices_Index_string W4 a = some (-1) := by
  unfold lastT
  split
  · have := amtT_len (a := v) (by omega) h1
    exact ⟨[111, 119, 101, 115], amtT v, true, cut_at (a := [111, 119, 101, 115]) (amtT v) (by decide) (by simp; omega), idx_last (.inl rfl)⟩
  · split
    · have := amtT_len (a := -v) (by omega) (by omega)
      exact ⟨[111, 118, 101, 114], amtT (-v), true, cut_at (a := [111, 118, 101, 114]) (amtT (-v)) (by decide) (by simp; omega), idx_last (.inr (.inl rfl))⟩
    · exact ⟨[113, 117, 105, 116], [], false, cut_non (by decide) (by decide), idx_last (.inr (.inr rfl))⟩
theorem lastT_len {v : Int} (h0 : -100000000 ≤ v) (h1 : v ≤ 100000000) : (lastT v).length ≤ 80 := by
  have := tailT_len h0 h1
  rw [tailT_last] at this
  simp only [List.length_append, List.length_singleton] at this
  omega
theorem lineT_len {x : Item} (h : itemB x = true) : (lineT x).length ≤ 80 := by
  have := itemT_len h
  rw [itemT_line] at this
  simp only [List.length_append, List.length_singleton] at this
  omega
section
variable {t : List UInt8} {its : List Item} {v : Int}
theorem text_eqI (ht : t.length ≤ 1048576) (h40 : its.length ≤ 40) (hi : ∀ x ∈ its, itemB x = true) (hv : impl_balance its = some v) (hb : -100000000 ≤ v ∧ v ≤ 100000000) (hl : lettersB t 16 = true) : impl_AccountText ⟨t, its, v⟩ = some (accT ⟨t, its, v⟩) := by
  have hc := check_eq ht h40 hi hv hl
  have hs := size_in (n := v) (inR64.2 (by omega))
  rw [inB_iff.2 hb] at hs
  exact text_iI _ (acI h40 hi hl hb) hc hs
/-- the account at the head of some lines -/
theorem readAcc_run (ht : t.length ≤ 1048576) (h40 : its.length ≤ 40) (hi : ∀ x ∈ its, itemB x = true) (hv : impl_balance its = some v) (hb : -100000000 ≤ v ∧ v ≤ 100000000) (hl : lettersB t 16 = true) (rest : List (List UInt8)) (hn : rest.length ≤ 1000000) :
    Lw (impl_readAccount_b1 (t :: (its.map lineT ++ lastT v :: rest)) (its.map lineT ++ lastT v :: rest)) (0, [], 0, []) = some (.inr (.inl (((its.length + 2 : Nat) : Int), true, t, its, v))) := by
  have hlen : (its.map lineT ++ lastT v :: rest).length = its.length + 1 + rest.length := by simp; omega
  have hls : ∀ q (hq : q < its.length), (its.map lineT ++ lastT v :: rest)[q]? = some (lineT its[q]) := by
    intro q hq
    rw [List.getElem?_append_left (by simpa using hq), List.getElem?_map, List.getElem?_eq_getElem hq]; rfl
  have hlast : (its.map lineT ++ lastT v :: rest)[its.length]? = some (lastT v) := by
    rw [List.getElem?_append_right (by simp)]; simp
  have htake : (its.map lineT ++ lastT v :: rest).take (its.length + 1) = its.map lineT ++ [lastT v] := by
    rw [List.take_append]; simp [List.take_of_length_le]
  generalize (its.map lineT ++ lastT v :: rest) = ls at hlen hls hlast htake
  have run := Lw_runS (tb := impl_readAccount_b1 (t :: ls) ls) (fun q => ((q : Int), [], 0, its.take q)) its.length
    (by
      intro q hq
      have g1 := hi _ (List.getElem_mem hq)
      have gl := lineT_len g1
      unfold itemB at g1
      simp only [Bool.and_eq_true] at g1
      have hk := inB_iff.1 g1.1
      have ha := inB_iff.1 g1.2
      have c0 : decide ((q : Int) < (ls.length : Int)) = true := decide_eq_true (by omega)
      have hr : rd ls (q : Int) = some (lineT its[q]) := by rw [rd_coe, hls q hq]
      have c1 : cutI (lineT its[q]) [32] = some (wordT its[q].Kind, amtT its[q].Amount, true) := cut_at _ (wordT_no g1.1 (.inl rfl)) (by unfold lineT at gl; omega)
      have c2 := idx_kind g1.1
      have c3 := readAmountI ha.1 ha.2
      have w := w64s (n := its.length) hq (by omega)
      have ap : app 16 (its.take q) [its[q]] = some (its.take q ++ [its[q]]) := app_some (by simp; omega) (by decide)
      have i8 : IntKind.i8.wrap its[q].Kind = its[q].Kind := by simp [IntKind.wrap, IntKind.signed, IntKind.bits]; omega
      have eI : (⟨its[q].Kind, its[q].Amount⟩ : Item) = its[q] := rfl
      have ck : decide (its[q].Kind ≥ 0) = true := decide_eq_true hk.1
      have ce : ((0 : Int) != 0) = false := rfl
      have cl : (((its.take q).length : Int) == 40) = false := by rw [beq_eq_false_iff_ne, List.length_take]; omega
      simp only [impl_readAccount_b1, strings_Cut, words_i, c0, hr, c1, c2, c3, ck, ce, cl, Option.bind_some, if_true, Bool.false_eq_true, if_false, i8, eI, ap, w]
      rw [List.take_succ_eq_append_getElem hq])
  rw [List.take_length] at run
  obtain ⟨a, b, f, c1, c2⟩ := last_cut hb.1 hb.2
  have c0 : decide ((its.length : Int) < (ls.length : Int)) = true := decide_eq_true (by omega)
  have hrd : rd ls (its.length : Int) = some (lastT v) := by rw [rd_coe, hlast]
  have hr0 : rd (t :: ls) 0 = some t := by rw [rd_zero]; rfl
  have ck : decide ((-1 : Int) ≥ 0) = false := rfl
  have w2 : IntKind.i64.wrap ((its.length : Int) + 2) = ((its.length + 2 : Nat) : Int) := by rw [w64 (by omega)]; omega
  have sl : slc (t :: ls) 0 ((its.length + 2 : Nat) : Int) = some (t :: (its.map lineT ++ [lastT v])) := by
    have := slc_some (xs := t :: ls) (a := 0) (b := its.length + 2) (by omega) (by simp; omega)
    rw [show (0 : Int) = ((0 : Nat) : Int) from rfl, this, ← htake]
    simp
  have hJ : Lib.join (t :: (its.map lineT ++ [lastT v])) [10] ++ [10] = accT ⟨t, its, v⟩ := by
    rw [join_nl _ (by simp), List.map_cons, List.flatten_cons, List.map_append, List.flatten_append]
    unfold accT
    dsimp only
    rw [tailT_last, show its.map itemT = (its.map lineT).map (· ++ [10]) from by rw [List.map_map]; exact List.map_congr_left (fun x _ => itemT_line x)]
    simp
  have jl : (Lib.join (t :: (its.map lineT ++ [lastT v])) [10]).length ≤ 3000000 := by
    have := congrArg List.length hJ
    have hx := accT_len (acI h40 hi hl hb)
    simp only [List.length_append, List.length_singleton] at this
    omega
  have jn : strings_Join (t :: (its.map lineT ++ [lastT v])) [10] = some (Lib.join (t :: (its.map lineT ++ [lastT v])) [10]) := by
    unfold strings_Join joinI
    rw [if_pos ⟨by omega, by simp; omega⟩]
  have sa : sadd (Lib.join (t :: (its.map lineT ++ [lastT v])) [10]) [10] = some (accT ⟨t, its, v⟩) := by
    rw [sadd_some (by simp only [List.length_singleton]; omega), hJ]
  have mk := make_eq ht h40 hi hv
  rw [hl, if_pos rfl] at mk
  have tx := text_eqI ht h40 hi hv hb hl
  have run' : Lw (impl_readAccount_b1 (t :: ls) ls) (0, [], 0, []) = Lw (impl_readAccount_b1 (t :: ls) ls) ((its.length : Int), [], 0, its) := run
  rw [run']
  exact Lw_stop (by simp only [impl_readAccount_b1, strings_Cut, words_i, c0, hrd, c1, c2, ck, hr0, mk, w2, sl, jn, sa, tx, Option.bind_some, if_true, Bool.false_eq_true, if_false, beq_self_eq_true])
theorem letters_no (hl : lettersB t 16 = true) : (10 : UInt8) ∉ t := by
  intro hm
  unfold lettersB at hl
  simp only [Bool.and_eq_true, List.all_eq_true] at hl
  have := hl.1.1 _ hm
  revert this
  decide
/-- an account's lines -/
theorem acc_pcs (hi : ∀ x ∈ its, itemB x = true) (hb : -100000000 ≤ v ∧ v ≤ 100000000) (hl : lettersB t 16 = true) (q : List UInt8) : pcs 10 (accT ⟨t, its, v⟩ ++ q) = t :: (its.map lineT ++ lastT v :: pcs 10 q) := by
  have key : ∀ (xs : List Item) (r : List UInt8), (∀ x ∈ xs, itemB x = true) → pcs 10 ((xs.map itemT).flatten ++ r) = xs.map lineT ++ pcs 10 r := by
    intro xs
    induction xs with
    | nil => intro r _; rfl
    | cons x xs ih =>
      intro r hx
      rw [List.map_cons, List.flatten_cons, itemT_line, List.append_assoc, List.append_assoc, List.singleton_append, pcs_app, pcs_no (lineT_no (hx x (by simp))), ih r (fun y hy => hx y (by simp [hy]))]
      rfl
  unfold accT
  dsimp only
  rw [tailT_last]
  have e : t ++ [10] ++ (its.map itemT).flatten ++ (lastT v ++ [10]) ++ q = t ++ 10 :: ((its.map itemT).flatten ++ (lastT v ++ 10 :: q)) := by simp
  rw [e, pcs_app, pcs_no (letters_no hl), key its _ hi, pcs_app, pcs_no (lastT_no hb.1 hb.2)]
  simp
end
end Go.Proofs.YtjlalepbhcekoaaDoor
/- An account read back: the answer told with less. -/
namespace Go.Proofs.YtjlalepbhcekoaaDoor
open Go Go.Ab
section
variable {t : List UInt8} {its : List Item} {v : Int}
theorem readAcc_back (ht : t.length ≤ 1048576) (h40 : its.length ≤ 40) (hi : ∀ x ∈ its, itemB x = true) (hv : impl_balance its = some v) (hb : -100000000 ≤ v ∧ v ≤ 100000000) (hl : lettersB t 16 = true) (rest : List (List UInt8)) (hn : rest.length ≤ 1000000) :
    impl_readAccount (t :: (its.map lineT ++ lastT v :: rest)) = some (t, its, v, ((its.length + 2 : Nat) : Int), true) := by
  have run := readAcc_run ht h40 hi hv hb hl rest hn
  have hlen : (its.map lineT ++ lastT v :: rest).length = its.length + 1 + rest.length := by simp; omega
  generalize (its.map lineT ++ lastT v :: rest) = ls at hlen run
  have s1 : slc (t :: ls) 1 ((t :: ls).length : Int) = some ls := by
    have := slc_some (xs := t :: ls) (a := 1) (b := (t :: ls).length) (by simp) (by simp)
    rw [show (1 : Int) = ((1 : Nat) : Int) from rfl, this]
    simp
  unfold impl_readAccount
  rw [if_neg (by simp; omega), s1, Option.bind_some, run]
  rfl
end
end Go.Proofs.YtjlalepbhcekoaaDoor
/- Items and what they come to. -/
namespace Go.Proofs.YtjlalepbhcekoaaDoor
open Go Go.Ab
def itV (x : Item) : Int := if x.Kind = 0 ∨ x.Kind = 1 then x.Amount else -x.Amount
def balV (l : List Item) : Int := (l.map itV).sum
theorem itV_bd {x : Item} (h : itemB x = true) : -100000000 ≤ itV x ∧ itV x ≤ 100000000 := by
  unfold itemB at h
  simp only [Bool.and_eq_true] at h
  have := inB_iff.1 h.2
  unfold itV
  split <;> omega
theorem balV_snoc (l : List Item) (x : Item) : balV (l ++ [x]) = balV l + itV x := by unfold balV; simp
theorem balV_bd : ∀ (l : List Item), (∀ x ∈ l, itemB x = true) → -100000000 * (l.length : Int) ≤ balV l ∧ balV l ≤ 100000000 * (l.length : Int)
  | [], _ => by simp [balV]
  | x :: l, h => by
    have h1 := itV_bd (h x (by simp))
    have h2 := balV_bd l (fun y hy => h y (by simp [hy]))
    have e : balV (x :: l) = itV x + balV l := by unfold balV; simp
    rw [e]
    simp only [List.length_cons]
    omega
theorem balance_valI (l : List Item) (hi : ∀ x ∈ l, itemB x = true) (hn : l.length ≤ 1000000) : impl_balance l = some (balV l) := by
  have key := Lw_run (tb := impl_balance_b1 l) (fun i => (balV (l.take i), (i : Int))) l.length (r := balV l)
    (by
      intro i hi2
      have hr : rd l (i : Int) = some l[i] := by rw [rd_coe, List.getElem?_eq_getElem hi2]
      have w := w64s hi2 (by omega)
      have c0 : decide ((i : Int) < (l.length : Int)) = true := decide_eq_true (by omega)
      have b1 := balV_bd (l.take i) (fun x hx => hi x (List.mem_of_mem_take hx))
      have b2 := itV_bd (hi _ (List.getElem_mem hi2))
      have hs : balV (l.take (i + 1)) = balV (l.take i) + itV l[i] := by rw [List.take_succ_eq_append_getElem hi2, balV_snoc]
      have hl : (l.take i).length ≤ 1000000 := by simp; omega
      rw [hs]
      unfold impl_balance_b1
      simp only [c0, hr, Option.bind_some, if_true, w]
      by_cases k0 : l[i].Kind = 0
      · have e : itV l[i] = l[i].Amount := by unfold itV; rw [if_pos (.inl k0)]
        rw [e] at b2 ⊢
        rw [if_pos (by simpa using k0), w64 (by omega)]
      · rw [if_neg (by simpa using k0)]
        by_cases k1 : l[i].Kind = 1
        · have e : itV l[i] = l[i].Amount := by unfold itV; rw [if_pos (.inr k1)]
          rw [e] at b2 ⊢
          rw [if_pos (by simpa using k1), w64 (by omega)]
        · have e : itV l[i] = -l[i].Amount := by unfold itV; rw [if_neg (by rintro (h | h) <;> contradiction)]
          rw [e] at b2 ⊢
          rw [if_neg (by simpa using k1), w64 (by omega), Int.sub_eq_add_neg])
    (by rw [List.take_length]; simp [impl_balance_b1])
  have key' : Lw (impl_balance_b1 l) (0, 0) = some (balV l) := key
  unfold impl_balance
  rw [key']; rfl
theorem balance_valS (l : List Item) (hi : ∀ x ∈ l, itemB x = true) (hn : l.length ≤ 1000000) : spec_l05Balance l = some (balV l) := by
  obtain ⟨v, v1, v2⟩ := balance_same l (by omega)
  rw [balance_valI l hi hn] at v1
  rw [v2, ← v1]
/-! drawn items -/
def Small (l : List Item) : Prop := l.length ≤ 5 ∧ ∀ x ∈ l, 0 ≤ x.Kind ∧ x.Kind ≤ 3 ∧ 0 ≤ x.Amount ∧ x.Amount ≤ 499
theorem Small.item {l : List Item} (h : Small l) : ∀ x ∈ l, itemB x = true := by
  intro x hx
  have := h.2 x hx
  unfold itemB
  rw [Bool.and_eq_true, inB_iff, inB_iff]
  omega
theorem Small.bal {l : List Item} (h : Small l) : -2495 ≤ balV l ∧ balV l ≤ 2495 := by
  have key : ∀ (l : List Item), (∀ x ∈ l, 0 ≤ x.Kind ∧ x.Kind ≤ 3 ∧ 0 ≤ x.Amount ∧ x.Amount ≤ 499) → -499 * (l.length : Int) ≤ balV l ∧ balV l ≤ 499 * (l.length : Int) := by
    intro l
    induction l with
    | nil => intro _; simp [balV]
    | cons x l ih =>
      intro h
      have h1 := h x (by simp)
      have h2 := ih (fun y hy => h y (by simp [hy]))
      have e : balV (x :: l) = itV x + balV l := by unfold balV; simp
      have h3 : -499 ≤ itV x ∧ itV x ≤ 499 := by unfold itV; split <;> omega
      rw [e]
      simp only [List.length_cons]
      omega
  have := key l h.2
  have := h.1
  omega
theorem drawn_loopI (c : List Int) (hc : Bys c) : ∀ (n : Nat) (l : List Item) (a s : Int), l.length + n ≤ 5 → (∀ x ∈ l, 0 ≤ x.Kind ∧ x.Kind ≤ 3 ∧ 0 ≤ x.Amount ∧ x.Amount ≤ 499) → 0 ≤ a → a + 4 * (n : Int) ≤ 1000000 →
    ∃ l' a' s', Lw spec_l05Drawn_p_b1 ((n : Int), l, c, a, s) = some (l', c, a', s') ∧ Small l' ∧ a ≤ a' ∧ a' ≤ a + 4 * (n : Int)
  | 0, l, a, s, h1, h2, h3, h4 => ⟨l, a, s, Lw_stop (by simp [spec_l05Drawn_p_b1]), ⟨by omega, h2⟩, by omega, by omega⟩
  | n + 1, l, a, s, h1, h2, h3, h4 => by
    obtain ⟨x, a1, s1, e1, g1, g2, _, g3, g4, _⟩ := pick_ok c hc a s 4 h3 (by omega) (by omega)
    obtain ⟨y, a2, s2, e2, k1, k2, _, k3, k4, _⟩ := pick_ok c hc a1 s1 500 (by omega) (by omega) (by omega)
    have g2 := g2 (by omega)
    have k2 := k2 (by omega)
    have i8 : IntKind.i8.wrap x = x := by simp [IntKind.wrap, IntKind.signed, IntKind.bits]; omega
    have ap : app 16 l [(⟨x, y⟩ : Item)] = some (l ++ [⟨x, y⟩]) := app_some (by simp; omega) (by decide)
    have w : IntKind.i64.wrap (((n + 1 : Nat) : Int) - 1) = (n : Int) := by rw [w64 (by omega)]; omega
    have c0 : decide (((n + 1 : Nat) : Int) > 0) = true := decide_eq_true (by omega)
    obtain ⟨l', a', s', q1, q2, q3, q4⟩ := drawn_loopI c hc n (l ++ [⟨x, y⟩]) a2 s2 (by simp; omega) (by
      intro z hz
      rcases List.mem_append.1 hz with hz | hz
      · exact h2 z hz
      · obtain rfl := List.mem_singleton.1 hz
        simp only
        omega) (by omega) (by omega)
    refine ⟨l', a', s', ?_, q2, by omega, by omega⟩
    rw [Lw_step (s' := ((n : Int), l ++ [⟨x, y⟩], c, a2, s2)) (by simp only [spec_l05Drawn_p_b1, c0, e1, e2, i8, ap, w, Option.bind_some, if_true])]
    exact q1
theorem drawnI (c : List Int) (hc : Bys c) (a s : Int) (h0 : 0 ≤ a) (h1 : a ≤ 900000) : ∃ l a' s', spec_l05Drawn_p c a s = some (c, a', s', l) ∧ Small l ∧ a ≤ a' ∧ a' ≤ a + 22 := by
  obtain ⟨x, a1, s1, e1, g1, g2, _, g3, g4, _⟩ := pick_ok c hc a s 6 h0 (by omega) (by omega)
  have g2 := g2 (by omega)
  obtain ⟨n, rfl⟩ : ∃ n : Nat, x = n := ⟨x.toNat, by omega⟩
  obtain ⟨l', a', s', q1, q2, q3, q4⟩ := drawn_loopI c hc n [] a1 s1 (by simp; omega) (by simp) (by omega) (by omega)
  exact ⟨l', a', s', by unfold spec_l05Drawn_p; rw [e1, Option.bind_some]; dsimp only; rw [q1]; rfl, q2, by omega, by omega⟩
theorem a2ItemsI (c : List Int) (hc : Bys c) : ∃ l, spec_A2Items c = some l ∧ Small l := by
  obtain ⟨l, a', s', e, h, _⟩ := drawnI c hc 0 0 (by omega) (by omega)
  exact ⟨l, by unfold spec_A2Items; rw [from_eq, Option.bind_some]; dsimp only; rw [e]; rfl, h⟩
theorem a2AtI (c : List Int) (hc : Bys c) (k n : Int) (h0 : 0 ≤ k) (hn : 1 ≤ n) : ∃ f, laws_a2At c k n = some f ∧ 0 ≤ f ∧ f < n := by
  unfold laws_a2At
  by_cases c1 : k ≥ (c.length : Int)
  · exact ⟨0, by rw [if_pos (by simpa using c1)], by omega, by omega⟩
  · rw [if_neg (by simpa using c1), if_neg (by simp; omega)]
    have hr := rd_in (xs := c) h0 (by omega)
    have hx := hc.2 _ (List.getElem_mem (show k.toNat < c.length by omega))
    have wx : IntKind.i64.wrap c[k.toNat] = c[k.toNat] := w64 (by omega)
    have hm : rem .i64 c[k.toNat] n = some (c[k.toNat] % n) := rem_pos hx.1 (by omega)
    exact ⟨c[k.toNat] % n, by rw [hr, Option.bind_some, wx, hm]; rfl, Int.emod_nonneg _ (by omega), Int.emod_lt_of_pos _ (by omega)⟩
/-! accounts made -/
section
variable {t : List UInt8} {its : List Item}
theorem sameAcc_refl (a : Account) (h : a.Items.length ≤ 1000000) : spec_A2SameAccount a a = some true := by
  have key := scan_all (tb := spec_A2SameAccount_b1 a a) a.Items.length (by omega) (fun _ => true) () ()
    (by
      intro i hi
      have hr : rd a.Items (i : Int) = some a.Items[i] := by rw [rd_coe, List.getElem?_eq_getElem hi]
      have c0 : decide ((i : Int) < (a.Items.length : Int)) = true := decide_eq_true (by omega)
      simp only [spec_A2SameAccount_b1, c0, hr, Option.bind_some, if_true, beq_self_eq_true, Bool.and_self])
    (by simp [spec_A2SameAccount_b1])
  unfold spec_A2SameAccount
  simp only [beq_self_eq_true, if_true, bne_self_eq_false, Bool.false_eq_true, if_false, Option.bind_some]
  rw [key]
  simp
theorem accountS (ht : t.length ≤ 1048576) (h40 : its.length ≤ 40) (hi : ∀ x ∈ its, itemB x = true) : spec_l05Account t its = some (t, its, balV its) := by
  unfold spec_l05Account
  rw [cloneI (by omega), Option.bind_some, balance_valS its hi (by omega)]; rfl
theorem makeI (ht : t.length ≤ 1048576) (h40 : its.length ≤ 40) (hi : ∀ x ∈ its, itemB x = true) (hl : lettersB t 16 = true) : impl_MakeAccount t its = some (.inl (t, its, balV its)) := by
  rw [make_eq ht h40 hi (balance_valI its hi (by omega)), hl]; rfl
theorem makeS (ht : t.length ≤ 1048576) (h40 : its.length ≤ 40) (hi : ∀ x ∈ its, itemB x = true) (hl : lettersB t 16 = true) : spec_MakeAccount t its = some (.inl (t, its, balV its)) := by
  unfold spec_MakeAccount
  rw [itemsS_eq hi, Option.bind_some, decide_eq_true h40, if_pos rfl, l05Title_eq _ (by omega), Option.bind_some, hl, if_pos rfl, accountS ht h40 hi]
  rfl
theorem checkI (ht : t.length ≤ 1048576) (h40 : its.length ≤ 40) (hi : ∀ x ∈ its, itemB x = true) (hl : lettersB t 16 = true) (b : Int) : impl_CheckAccount ⟨t, its, b⟩ = some (b == balV its) := by
  have ha : (its.all itemB && decide (its.length ≤ 40)) = true := by
    rw [Bool.and_eq_true, List.all_eq_true]; exact ⟨hi, decide_eq_true h40⟩
  unfold impl_CheckAccount
  dsimp only
  rw [isLetters_eq _ _ (by omega), Option.bind_some, hl, if_pos rfl, validItems_eq _ (by omega), Option.bind_some, ha, if_pos rfl, balance_valI its hi (by omega), Option.bind_some]
theorem rightS (ht : t.length ≤ 1048576) (h40 : its.length ≤ 40) (hi : ∀ x ∈ its, itemB x = true) (hl : lettersB t 16 = true) (b : Int) : spec_l05Right ⟨t, its, b⟩ = some (b == balV its) := by
  unfold spec_l05Right
  dsimp only
  rw [l05Title_eq _ (by omega), Option.bind_some, hl, if_pos rfl, itemsS_eq hi, Option.bind_some, decide_eq_true h40, if_pos rfl, balance_valS its hi (by omega), Option.bind_some]
end
end Go.Proofs.YtjlalepbhcekoaaDoor
/- Rolls of drawn accounts. -/
namespace Go.Proofs.YtjlalepbhcekoaaDoor
open Go Go.Ab
structure AccO (a : Account) : Prop where
  title : lettersB a.Title 16 = true
  items : Small a.Items
  bal : a.Balance = balV a.Items
theorem AccO.tl {a : Account} (h : AccO a) : a.Title.length ≤ 1048576 := by
  have := h.title
  unfold lettersB at this
  simp only [Bool.and_eq_true, decide_eq_true_eq] at this
  omega
theorem AccO.n40 {a : Account} (h : AccO a) : a.Items.length ≤ 40 := by have := h.items.1; omega
theorem AccO.bd {a : Account} (h : AccO a) : -2495 ≤ a.Balance ∧ a.Balance ≤ 2495 := by rw [h.bal]; exact h.items.bal
theorem AccO.chk {a : Account} (h : AccO a) (b : Int) : impl_CheckAccount ⟨a.Title, a.Items, b⟩ = some (b == a.Balance) := by
  rw [checkI h.tl h.n40 h.items.item h.title, h.bal]
theorem AccO.chk0 {a : Account} (h : AccO a) : impl_CheckAccount a = some true := by
  have := h.chk a.Balance
  rw [beq_self_eq_true] at this
  exact this
theorem AccO.right {a : Account} (h : AccO a) : spec_l05Right a = some true := by
  have := rightS h.tl h.n40 h.items.item h.title a.Balance
  rw [← h.bal, beq_self_eq_true] at this
  exact this
theorem AccO.vals {a : Account} (h : AccO a) : impl_balance a.Items = some a.Balance := by rw [balance_valI _ h.items.item (by have := h.n40; omega), h.bal]
theorem AccO.txt {a : Account} (h : AccO a) : impl_AccountText a = some (accT a) := text_eqI h.tl h.n40 h.items.item h.vals (by have := h.bd; omega) h.title
theorem AccO.acI {a : Account} (h : AccO a) : AcI a := Go.Proofs.YtjlalepbhcekoaaDoor.acI h.n40 h.items.item h.title (by have := h.bd; omega)
structure Accs (l : List Account) : Prop where
  n : l.length ≤ 20
  ok : ∀ a ∈ l, AccO a
  nd : l.Pairwise fun a b => a.Title ≠ b.Title
theorem Accs.fresh {l : List Account} (h : Accs l) {i : Nat} (hi : i < l.length) : ((l.take i).any fun a => decide (a.Title = l[i].Title)) = false := by
  rw [List.any_eq_false]
  intro a ha
  obtain ⟨j, hj⟩ := List.getElem?_of_mem ha
  rw [List.getElem?_take] at hj
  split at hj
  · rename_i hlt
    have hjl : j < l.length := by omega
    have e := List.getElem?_eq_getElem hjl
    rw [e] at hj
    obtain rfl := Option.some.inj hj
    have := List.pairwise_iff_getElem.1 h.nd j i hjl hi hlt
    simpa using this
  · cases hj
def owedV (l : List Account) : Int := (l.map fun a => max a.Balance 0).sum
theorem owedV_snoc (l : List Account) (a : Account) : owedV (l ++ [a]) = owedV l + max a.Balance 0 := by unfold owedV; simp
theorem owedV_bd : ∀ (l : List Account), (∀ a ∈ l, a.Balance ≤ 2495) → 0 ≤ owedV l ∧ owedV l ≤ 2495 * (l.length : Int)
  | [], _ => by simp [owedV]
  | a :: l, h => by
    have h1 := h a (by simp)
    have h2 := owedV_bd l (fun b hb => h b (by simp [hb]))
    have e : owedV (a :: l) = max a.Balance 0 + owedV l := by unfold owedV; simp
    rw [e]
    simp only [List.length_cons]
    omega
theorem owed_val (l : List Account) (hn : l.length ≤ 1000) (h : ∀ a ∈ l, a.Balance ≤ 2495) : impl_owed l = some (owedV l) ∧ spec_l05Owed l = some (owedV l) := by
  have e1 : impl_owed l = some (owedV l) := by
    have key := Lw_run (tb := impl_owed_b1 l) (fun i => (owedV (l.take i), (i : Int))) l.length (r := owedV l)
      (by
        intro i hi
        have hr : rd l (i : Int) = some l[i] := by rw [rd_coe, List.getElem?_eq_getElem hi]
        have w := w64s hi (by omega)
        have c0 : decide ((i : Int) < (l.length : Int)) = true := decide_eq_true (by omega)
        have b1 := owedV_bd (l.take i) (fun a ha => h a (List.mem_of_mem_take ha))
        have b2 := h _ (List.getElem_mem hi)
        have hs : owedV (l.take (i + 1)) = owedV (l.take i) + max l[i].Balance 0 := by rw [List.take_succ_eq_append_getElem hi, owedV_snoc]
        have hl : (l.take i).length ≤ 1000 := by simp; omega
        have w2 : IntKind.i64.wrap (owedV (l.take i) + max l[i].Balance 0) = owedV (l.take i) + max l[i].Balance 0 := w64 (by omega)
        rw [hs]
        simp only [impl_owed_b1, c0, hr, Option.bind_some, if_true, w, w2])
      (by rw [List.take_length]; simp [impl_owed_b1])
    have key' : Lw (impl_owed_b1 l) (0, 0) = some (owedV l) := key
    unfold impl_owed
    rw [key']; rfl
  obtain ⟨v, v1, v2⟩ := owed_same l (by omega)
  rw [e1] at v1
  exact ⟨e1, by rw [v2, ← v1]⟩
theorem Accs.owed {l : List Account} (h : Accs l) : impl_owed l = some (owedV l) ∧ spec_l05Owed l = some (owedV l) := owed_val l (by have := h.n; omega) (fun a ha => (h.ok a ha).bd.2)
theorem Accs.owedB {l : List Account} (h : Accs l) : 0 ≤ owedV l ∧ owedV l ≤ 49900 := by
  have := owedV_bd l (fun a ha => (h.ok a ha).bd.2)
  have := h.n
  omega
/-! made -/
theorem ownI (a : Account) (h : a.Items.length ≤ 1048576) : impl_ownAccount a = some (a.Title, a.Items, a.Balance) := by
  unfold impl_ownAccount slices_Clone_Item
  rw [cloneI h]; rfl
theorem b2_at {L : List Account} {i : Nat} {a : Account} {b : Bool} (hi : L[i]? = some a) (hn : L.length ≤ 1000) (ha : a.Items.length ≤ 40) (ht : impl_hasTitle (L.take i) a.Title = some b) (x : List Account) (y z : Int) {l : List Account} (hl : l.length ≤ 1000) :
    impl_MakeRoll_l_b2 L ((i : Int), x, y, z, l) = some (if b = true then .inr (.inl ([], 0)) else .inl (((i + 1 : Nat) : Int), x, y, z, l ++ [a])) := by
  have hlt := (List.getElem?_eq_some_iff.1 hi).1
  have hr : rd L (i : Int) = some a := by rw [rd_coe, hi]
  have w := w64s hlt (by omega)
  have c0 : decide ((i : Int) < (L.length : Int)) = true := decide_eq_true (by omega)
  have ow := ownI a (by omega)
  have ap : app 48 l [(⟨a.Title, a.Items, a.Balance⟩ : Account)] = some (l ++ [a]) := app_some (by simp; omega) (by decide)
  by_cases h0 : i = 0
  · subst h0
    rw [List.take_zero] at ht
    have e0 : ((((0 : Nat) : Int)) == 0) = true := rfl
    cases b <;> simp only [impl_MakeRoll_l_b2, c0, hr, e0, ht, ow, ap, Option.bind_some, if_true, Bool.false_eq_true, if_false, w]
  · have sw : slw L.length (i : Int) = some i := by unfold slw; rw [if_pos ⟨by omega, by omega⟩, Int.toNat_natCast]
    have e0 : (((i : Nat) : Int) == 0) = false := by rw [beq_eq_false_iff_ne]; omega
    cases b <;> simp only [impl_MakeRoll_l_b2, c0, hr, e0, sw, ht, ow, ap, Option.bind_some, if_true, Bool.false_eq_true, if_false, w]
theorem rollI {l : List Account} (h : Accs l) : impl_MakeRoll_l l = some (owedV l, 0, l) := by
  have hn := h.n
  have k1 := Lw_run (tb := impl_MakeRoll_l_b1 l) (fun i => ((i : Int), ([] : List Account), (0 : Int))) l.length (r := .inr ([], 0))
    (by
      intro i hi
      have hr : rd l (i : Int) = some l[i] := by rw [rd_coe, List.getElem?_eq_getElem hi]
      have w := w64s hi (by omega)
      have c0 : decide ((i : Int) < (l.length : Int)) = true := decide_eq_true (by omega)
      simp only [impl_MakeRoll_l_b1, c0, hr, (h.ok _ (List.getElem_mem hi)).chk0, Option.bind_some, if_true, w])
    (by simp [impl_MakeRoll_l_b1])
  have k2 := Lw_run (tb := impl_MakeRoll_l_b2 l) (fun i => ((i : Int), ([] : List Account), (0 : Int), owedV l, l.take i)) l.length (r := .inr ([], 0, owedV l, l))
    (by
      intro i hi
      have ha := h.ok _ (List.getElem_mem hi)
      have ht : impl_hasTitle (l.take i) l[i].Title = some false := by rw [hasTitle_eq _ _ (by simp; omega), h.fresh hi]
      rw [b2_at (List.getElem?_eq_getElem hi) (by omega) ha.n40 ht _ _ _ (by simp; omega), List.take_succ_eq_append_getElem hi]
      rfl)
    (by rw [List.take_length]; simp [impl_MakeRoll_l_b2])
  have k1' : Lw (impl_MakeRoll_l_b1 l) (0, [], 0) = _ := k1
  have k2' : Lw (impl_MakeRoll_l_b2 l) (0, [], 0, owedV l, []) = _ := k2
  unfold impl_MakeRoll_l
  rw [k1', Option.bind_some]
  dsimp only
  rw [if_neg (by simp; omega), h.owed.1, Option.bind_some, k2']
  rfl
theorem rollS {l : List Account} (h : Accs l) : spec_MakeRoll_l l = some (owedV l, 0, l) := by
  have hn := h.n
  have k1 := Lw_run (tb := spec_MakeRoll_l_b1 l) (fun i => ((i : Int), ([] : List Account), (0 : Int))) l.length (r := .inr ([], 0))
    (by
      intro i hi
      have hr : rd l (i : Int) = some l[i] := by rw [rd_coe, List.getElem?_eq_getElem hi]
      have w := w64s hi (by omega)
      have c0 : decide ((i : Int) < (l.length : Int)) = true := decide_eq_true (by omega)
      simp only [spec_MakeRoll_l_b1, c0, hr, (h.ok _ (List.getElem_mem hi)).right, Option.bind_some, if_true, w])
    (by simp [spec_MakeRoll_l_b1])
  have k2 := Lw_run (tb := spec_MakeRoll_l_b2 l) (fun i => ((i : Int), ([] : List Account), owedV l, l.take i, (0 : Int))) l.length (r := .inr ([], owedV l, l, 0))
    (by
      intro i hi
      have ha := h.ok _ (List.getElem_mem hi)
      have hr : rd l (i : Int) = some l[i] := by rw [rd_coe, List.getElem?_eq_getElem hi]
      have w := w64s hi (by omega)
      have c0 : decide ((i : Int) < (l.length : Int)) = true := decide_eq_true (by omega)
      have ht : spec_l05Twin l (i : Int) = some false := by rw [twin_eq l i hi (by omega), h.fresh hi]
      have ow := accountS (t := l[i].Title) ha.tl ha.n40 ha.items.item
      rw [← ha.bal] at ow
      have ap : app 48 (l.take i) [(⟨l[i].Title, l[i].Items, l[i].Balance⟩ : Account)] = some (l.take i ++ [l[i]]) := app_some (by simp; omega) (by decide)
      simp only [spec_MakeRoll_l_b2, c0, hr, ht, ow, ap, Option.bind_some, if_true, Bool.false_eq_true, if_false, w]
      rw [List.take_succ_eq_append_getElem hi])
    (by rw [List.take_length]; simp [spec_MakeRoll_l_b2])
  have k1' : Lw (spec_MakeRoll_l_b1 l) (0, [], 0) = _ := k1
  have k2' : Lw (spec_MakeRoll_l_b2 l) (0, [], owedV l, [], 0) = _ := k2
  unfold spec_MakeRoll_l
  rw [k1', Option.bind_some]
  dsimp only
  rw [if_neg (by simp; omega), h.owed.2, Option.bind_some, k2']
  rfl
/-- with the first account twice -/
theorem roll_twice {a : Account} {l : List Account} (h : Accs (a :: l)) (h3 : (a :: l).length ≤ 19) : impl_MakeRoll_l (a :: l ++ [a]) = some (0, 4, []) := by
  have ha0 := (h.ok a (by simp)).n40
  have hok : ∀ b ∈ a :: l ++ [a], AccO b := by
    intro b hb
    rcases List.mem_append.1 hb with hb | hb
    · exact h.ok b hb
    · rw [List.mem_singleton.1 hb]; exact h.ok a (by simp)
  have hL : (a :: l ++ [a]).length = (a :: l).length + 1 := by simp
  have hlast : (a :: l ++ [a])[(a :: l).length]? = some a := by rw [List.getElem?_append_right (Nat.le_refl _)]; simp
  have htk : ∀ i, i ≤ (a :: l).length → (a :: l ++ [a]).take i = (a :: l).take i := fun i hi => List.take_append_of_le_length hi
  have hge : ∀ i (hi : i < (a :: l).length), (a :: l ++ [a])[i]? = some (a :: l)[i] := fun i hi => by rw [List.getElem?_append_left hi, List.getElem?_eq_getElem hi]
  have how := owed_val (a :: l ++ [a]) (by omega) (fun b hb => (hok b hb).bd.2)
  have hany : ((a :: l).any fun b => decide (b.Title = a.Title)) = true := by rw [List.any_eq_true]; exact ⟨a, by simp, by simp⟩
  generalize a :: l ++ [a] = L at *
  generalize a :: l = K at *
  have k1 := Lw_run (tb := impl_MakeRoll_l_b1 L) (fun i => ((i : Int), ([] : List Account), (0 : Int))) L.length (r := .inr ([], 0))
    (by
      intro i hi
      have hr : rd L (i : Int) = some L[i] := by rw [rd_coe, List.getElem?_eq_getElem hi]
      have w := w64s hi (by omega)
      have c0 : decide ((i : Int) < (L.length : Int)) = true := decide_eq_true (by omega)
      simp only [impl_MakeRoll_l_b1, c0, hr, (hok _ (List.getElem_mem hi)).chk0, Option.bind_some, if_true, w])
    (by simp [impl_MakeRoll_l_b1])
  have k2 := Lw_run (tb := impl_MakeRoll_l_b2 L) (fun i => ((i : Int), ([] : List Account), (0 : Int), owedV L, L.take i)) K.length (r := .inl ([], 0))
    (by
      intro i hi
      have ha := h.ok _ (List.getElem_mem hi)
      have ht : impl_hasTitle (L.take i) K[i].Title = some false := by rw [htk i (by omega), hasTitle_eq _ _ (by simp; omega), h.fresh hi]
      have e : L.take (i + 1) = L.take i ++ [K[i]] := by rw [List.take_add_one, hge i hi]; rfl
      rw [b2_at (hge i hi) (by omega) ha.n40 ht _ _ _ (by simp; omega), e]
      rfl)
    (by
      have ht : impl_hasTitle (L.take K.length) a.Title = some true := by rw [htk _ (Nat.le_refl _), List.take_length, hasTitle_eq _ _ (by omega), hany]
      rw [b2_at hlast (by omega) ha0 ht _ _ _ (by simp; omega)]
      rfl)
  have k1' : Lw (impl_MakeRoll_l_b1 L) (0, [], 0) = _ := k1
  have k2' : Lw (impl_MakeRoll_l_b2 L) (0, [], 0, owedV L, []) = _ := k2
  unfold impl_MakeRoll_l
  rw [k1', Option.bind_some]
  dsimp only
  rw [if_neg (by simp; omega), how.1, Option.bind_some, k2']
  rfl
end Go.Proofs.YtjlalepbhcekoaaDoor
/- Rolls of drawn accounts: faults, texts, what is found. -/
namespace Go.Proofs.YtjlalepbhcekoaaDoor
open Go Go.Ab
/-! faults -/
theorem fault_at {L : List Account} {o : Int} {i : Nat} {a : Account} (hi : L[i]? = some a) (hn : L.length ≤ 1000) (hc : impl_CheckAccount a = some true) (ht : impl_hasTitle (L.take i) a.Title = some false) :
    impl_FirstFault_b1 ⟨L, o⟩ (i : Int) = some (.inl ((i + 1 : Nat) : Int)) := by
  have hlt := (List.getElem?_eq_some_iff.1 hi).1
  have hr : rd L (i : Int) = some a := by rw [rd_coe, hi]
  have w := w64s hlt (by omega)
  have c0 : decide ((i : Int) < (L.length : Int)) = true := decide_eq_true (by omega)
  have sl := slc0 L i (by omega)
  simp only [impl_FirstFault_b1, c0, hr, hc, sl, ht, Option.bind_some, if_true, Bool.false_eq_true, if_false, w]
theorem Accs.ht {l : List Account} (h : Accs l) {i : Nat} (hi : i < l.length) : impl_hasTitle (l.take i) l[i].Title = some false := by
  have := h.n
  rw [hasTitle_eq _ _ (by simp; omega), h.fresh hi]
theorem faultLoop {l : List Account} (h : Accs l) (o : Int) : Lw (impl_FirstFault_b1 ⟨l, o⟩) 0 = some (.inr ()) := by
  have hn := h.n
  have key := Lw_run (tb := impl_FirstFault_b1 ⟨l, o⟩) (fun i => (i : Int)) l.length (r := .inr ())
    (fun i hi => fault_at (List.getElem?_eq_getElem hi) (by omega) (h.ok _ (List.getElem_mem hi)).chk0 (h.ht hi))
    (by simp [impl_FirstFault_b1])
  exact key
theorem faultI {l : List Account} (h : Accs l) (o : Int) : impl_FirstFault ⟨l, o⟩ = some (if o = owedV l then (0, 6) else ((l.length : Int), 0)) := by
  have hn := h.n
  unfold impl_FirstFault
  dsimp only
  rw [if_neg (by simp; omega), faultLoop h o, Option.bind_some]
  dsimp only
  rw [h.owed.1, Option.bind_some]
  by_cases e : o = owedV l
  · rw [if_neg (by simpa using e), if_pos e]
  · rw [if_pos (by simpa using e), if_neg e]
theorem validI {l : List Account} (h : Accs l) : impl_validRoll ⟨l, owedV l⟩ = some true := by
  unfold impl_validRoll
  rw [faultI h, if_pos rfl]; rfl
theorem rollOkS {l : List Account} (h : Accs l) : spec_l05Roll ⟨l, owedV l⟩ = some true := by
  have hn := h.n
  have key := Lw_run (tb := spec_l05Fault_b1 ⟨l, owedV l⟩) (fun i => (i : Int)) l.length (r := .inr ())
    (by
      intro i hi
      have hr : rd l (i : Int) = some l[i] := by rw [rd_coe, List.getElem?_eq_getElem hi]
      have w := w64s hi (by omega)
      have c0 : decide ((i : Int) < (l.length : Int)) = true := decide_eq_true (by omega)
      have ht : spec_l05Twin l (i : Int) = some false := by rw [twin_eq l i hi (by omega), h.fresh hi]
      simp only [spec_l05Fault_b1, c0, hr, (h.ok _ (List.getElem_mem hi)).right, ht, Option.bind_some, if_true, Bool.false_eq_true, if_false, w])
    (by simp [spec_l05Fault_b1])
  have key' : Lw (spec_l05Fault_b1 ⟨l, owedV l⟩) 0 = some (.inr ()) := key
  unfold spec_l05Roll spec_l05Fault
  dsimp only
  rw [if_pos (by simp; omega), key', Option.bind_some]
  dsimp only
  rw [h.owed.2, Option.bind_some, if_neg (by simp)]
  rfl
/-- one balance changed -/
theorem faultBad {l : List Account} (h : Accs l) (k : Nat) (hk : k < l.length) (b o : Int) (hb : b ≠ l[k].Balance) : impl_FirstFault ⟨l.set k ⟨l[k].Title, l[k].Items, b⟩, o⟩ = some ((k : Int), 0) := by
  have hn := h.n
  have hlen : (l.set k ⟨l[k].Title, l[k].Items, b⟩).length = l.length := by simp
  have hk' : (l.set k ⟨l[k].Title, l[k].Items, b⟩)[k]? = some ⟨l[k].Title, l[k].Items, b⟩ := by rw [List.getElem?_set_self hk]
  have hlo : ∀ i, i < k → (l.set k ⟨l[k].Title, l[k].Items, b⟩)[i]? = l[i]? := fun i hi => by rw [List.getElem?_set_ne (by omega)]
  have htk : ∀ i, i ≤ k → (l.set k ⟨l[k].Title, l[k].Items, b⟩).take i = l.take i := fun i hi => by rw [List.take_set_of_le hi]
  have hck := (h.ok _ (List.getElem_mem hk)).chk b
  rw [show (b == l[k].Balance) = false from by rw [beq_eq_false_iff_ne]; exact hb] at hck
  generalize l.set k ⟨l[k].Title, l[k].Items, b⟩ = L at *
  have key := Lw_run (tb := impl_FirstFault_b1 ⟨L, o⟩) (fun i => (i : Int)) k (r := .inl (k : Int))
    (fun i hi => by
      have hil : i < l.length := by omega
      exact fault_at (a := l[i]) (by rw [hlo i hi, List.getElem?_eq_getElem hil]) (by omega) (h.ok _ (List.getElem_mem hil)).chk0 (by rw [htk i (by omega)]; exact h.ht hil))
    (by
      have hr : rd L (k : Int) = some ⟨l[k].Title, l[k].Items, b⟩ := by rw [rd_coe, hk']
      have c0 : decide ((k : Int) < (L.length : Int)) = true := decide_eq_true (by omega)
      simp only [impl_FirstFault_b1, c0, hr, hck, Option.bind_some, if_true, Bool.false_eq_true, if_false])
  have key' : Lw (impl_FirstFault_b1 ⟨L, o⟩) 0 = some (.inl (k : Int)) := key
  unfold impl_FirstFault
  dsimp only
  rw [if_neg (by simp; omega), key']
  rfl
/-! found -/
theorem findI {l : List Account} (h : Accs l) {i : Nat} (hi : i < l.length) : impl_FindAccount ⟨l, owedV l⟩ l[i].Title = some ((i : Int), 0) := by
  have hn := h.n
  have key := Lw_run (tb := slices_IndexFunc_Account__impl_FindAccount_1_b1 l l[i].Title) (fun j => (j : Int)) i (r := .inl (i : Int))
    (by
      intro j hj
      have hjl : j < l.length := by omega
      have hr : rd l (j : Int) = some l[j] := by rw [rd_coe, List.getElem?_eq_getElem hjl]
      have w := w64s hjl (by omega)
      have c0 : decide ((j : Int) < (l.length : Int)) = true := decide_eq_true (by omega)
      have ne := List.pairwise_iff_getElem.1 h.nd j i hjl hi hj
      have e : impl_FindAccount_1 l[j] l[i].Title = some false := by unfold impl_FindAccount_1; simp [ne]
      simp only [slices_IndexFunc_Account__impl_FindAccount_1_b1, c0, hr, e, Option.bind_some, if_true, Bool.false_eq_true, if_false, w])
    (by
      have hr : rd l (i : Int) = some l[i] := by rw [rd_coe, List.getElem?_eq_getElem hi]
      have c0 : decide ((i : Int) < (l.length : Int)) = true := decide_eq_true (by omega)
      have e : impl_FindAccount_1 l[i] l[i].Title = some true := by unfold impl_FindAccount_1; simp
      simp only [slices_IndexFunc_Account__impl_FindAccount_1_b1, c0, hr, e, Option.bind_some, if_true])
  have key' : Lw (slices_IndexFunc_Account__impl_FindAccount_1_b1 l l[i].Title) 0 = some (.inl (i : Int)) := key
  unfold impl_FindAccount slices_IndexFunc_Account__impl_FindAccount_1
  dsimp only
  rw [validI h, Option.bind_some, if_pos rfl, key']
  simp only [Option.bind_some]
  rw [if_neg (by simp)]
/-- the first of the greatest balances, and that balance -/
def wst : List Account → Int × Int × Int → Int × Int × Int
  | [], s => s
  | a :: l, (k, m, i) => wst l (if a.Balance > m then (i, a.Balance, i + 1) else (k, m, i + 1))
def mostV (l : List Account) : Int := l.foldl (fun m a => max m a.Balance) 0
theorem worst_loop (l : List Account) (o : Int) (hn : l.length ≤ 1000) : ∃ k : Int, Lw (impl_WorstDebtor_b1 ⟨l, o⟩) (-1, 0, 0) = some k ∧ Lw (spec_WorstDebtor_b1 ⟨l, o⟩) (-1, 0, 0) = some k ∧ ((k = -1 ∧ mostV l = 0) ∨ (0 < mostV l ∧ ∃ j : Nat, k = j ∧ ∃ h : j < l.length, l[j].Balance = mostV l)) := by
  have main : ∀ i, i ≤ l.length → ∃ k : Int, Lw (impl_WorstDebtor_b1 ⟨l, o⟩) (-1, 0, 0) = Lw (impl_WorstDebtor_b1 ⟨l, o⟩) (k, mostV (l.take i), (i : Int)) ∧ Lw (spec_WorstDebtor_b1 ⟨l, o⟩) (-1, 0, 0) = Lw (spec_WorstDebtor_b1 ⟨l, o⟩) (k, mostV (l.take i), (i : Int)) ∧
      ((k = -1 ∧ mostV (l.take i) = 0) ∨ (0 < mostV (l.take i) ∧ ∃ j : Nat, k = j ∧ ∃ h : j < l.length, l[j].Balance = mostV (l.take i))) := by
    intro i
    induction i with
    | zero => intro _; exact ⟨-1, rfl, rfl, .inl ⟨rfl, rfl⟩⟩
    | succ i ih =>
      intro hi
      obtain ⟨k, e1, e2, e3⟩ := ih (by omega)
      have hil : i < l.length := by omega
      have hr : rd l (i : Int) = some l[i] := by rw [rd_coe, List.getElem?_eq_getElem hil]
      have w := w64s hil (by omega)
      have c0 : decide ((i : Int) < (l.length : Int)) = true := decide_eq_true (by omega)
      have hs : mostV (l.take (i + 1)) = max (mostV (l.take i)) l[i].Balance := by
        rw [List.take_succ_eq_append_getElem hil]; unfold mostV; rw [List.foldl_append]; rfl
      by_cases hb : l[i].Balance > mostV (l.take i)
      · have hm : mostV (l.take (i + 1)) = l[i].Balance := by rw [hs]; omega
        refine ⟨(i : Int), ?_, ?_, .inr ⟨?_, i, rfl, hil, hm.symm⟩⟩
        · rw [e1, Lw_step (s' := ((i : Int), l[i].Balance, ((i + 1 : Nat) : Int))) (by simp only [impl_WorstDebtor_b1, c0, hr, decide_eq_true hb, Option.bind_some, if_true, w]), hm]
        · rw [e2, Lw_step (s' := ((i : Int), l[i].Balance, ((i + 1 : Nat) : Int))) (by simp only [spec_WorstDebtor_b1, c0, hr, decide_eq_true hb, Option.bind_some, if_true, w]), hm]
        · rcases e3 with ⟨_, e4⟩ | ⟨e4, _⟩ <;> omega
      · have hm : mostV (l.take (i + 1)) = mostV (l.take i) := by rw [hs]; omega
        refine ⟨k, ?_, ?_, by rw [hm]; exact e3⟩
        · rw [e1, Lw_step (s' := (k, mostV (l.take i), ((i + 1 : Nat) : Int))) (by simp only [impl_WorstDebtor_b1, c0, hr, decide_eq_false hb, Option.bind_some, if_true, Bool.false_eq_true, if_false, w]), hm]
        · rw [e2, Lw_step (s' := (k, mostV (l.take i), ((i + 1 : Nat) : Int))) (by simp only [spec_WorstDebtor_b1, c0, hr, decide_eq_false hb, Option.bind_some, if_true, Bool.false_eq_true, if_false, w]), hm]
  obtain ⟨k, e1, e2, e3⟩ := main l.length (Nat.le_refl _)
  rw [List.take_length] at e1 e2 e3
  exact ⟨k, by rw [e1]; exact Lw_stop (by simp [impl_WorstDebtor_b1]), by rw [e2]; exact Lw_stop (by simp [spec_WorstDebtor_b1]), e3⟩
theorem worstIS {l : List Account} (h : Accs l) : ∃ k c : Int, impl_WorstDebtor ⟨l, owedV l⟩ = some (k, c) ∧ spec_WorstDebtor ⟨l, owedV l⟩ = some (k, c) ∧ ((c = 6 ∧ mostV l = 0) ∨ (c = 0 ∧ 0 < mostV l ∧ ∃ j : Nat, k = j ∧ ∃ h : j < l.length, l[j].Balance = mostV l)) := by
  have hn := h.n
  obtain ⟨k, e1, e2, e3⟩ := worst_loop l (owedV l) (by omega)
  unfold impl_WorstDebtor spec_WorstDebtor
  rw [validI h, rollOkS h, Option.bind_some, Option.bind_some, if_pos rfl, if_pos rfl, e1, e2, Option.bind_some]
  rcases e3 with ⟨rfl, hm⟩ | ⟨hm, j, rfl, hj, hb⟩
  · exact ⟨0, 6, rfl, rfl, .inl ⟨rfl, hm⟩⟩
  · exact ⟨(j : Int), 0, by rw [if_neg (by simp)], by rw [if_neg (by simp)], .inr ⟨rfl, hm, j, rfl, hj, hb⟩⟩
end Go.Proofs.YtjlalepbhcekoaaDoor
/- Rolls of drawn accounts: written out and read back. -/
namespace Go.Proofs.YtjlalepbhcekoaaDoor
open Go Go.Ab
noncomputable def accsT (l : List Account) : List UInt8 := (l.map accT).flatten
noncomputable def rollT (l : List Account) : List UInt8 := accsT l ++ [111, 119, 101, 100, 32] ++ amtT (owedV l) ++ [10]
theorem accT_neI (a : Account) : accT a ≠ [] := by unfold accT; simp
theorem Accs.len {l : List Account} (h : Accs l) (i : Nat) : (accsT (l.take i)).length ≤ 68000 := by
  have h1 := flat_take accT 3400 l (fun a ha => accT_len (h.ok a ha).acI) i
  have := h.n
  unfold accsT
  omega
theorem rollTxt {l : List Account} (h : Accs l) : impl_RollText ⟨l, owedV l⟩ = some (rollT l) := by
  have hn := h.n
  have ob := h.owedB
  have key := Lw_run (tb := impl_RollText_b1 ⟨l, owedV l⟩) (fun i => (accsT (l.take i), (i : Int))) l.length (r := .inr (accsT l))
    (by
      intro i hi
      have ha := h.ok _ (List.getElem_mem hi)
      have hr : rd l (i : Int) = some l[i] := by rw [rd_coe, List.getElem?_eq_getElem hi]
      have w := w64s hi (by omega)
      have c0 : decide ((i : Int) < (l.length : Int)) = true := decide_eq_true (by omega)
      have ne : (accT l[i] == ([] : List UInt8)) = false := by rw [beq_eq_false_iff_ne]; exact accT_neI _
      have l1 := h.len i
      have l2 := accT_len ha.acI
      have s1 : sadd (accsT (l.take i)) (accT l[i]) = some (accsT (l.take i) ++ accT l[i]) := sadd_some (by omega)
      have e : accsT (l.take (i + 1)) = accsT (l.take i) ++ accT l[i] := by unfold accsT; rw [List.take_succ_eq_append_getElem hi, List.map_append, List.flatten_append]; simp only [List.map_cons, List.map_nil, List.flatten_cons, List.flatten_nil, List.append_nil]
      rw [e]
      simp only [impl_RollText_b1, c0, hr, ha.txt, ne, s1, Option.bind_some, if_true, Bool.false_eq_true, if_false, w])
    (by rw [List.take_length]; simp [impl_RollText_b1])
  have key' : Lw (impl_RollText_b1 ⟨l, owedV l⟩) ([], 0) = some (.inr (accsT l)) := key
  have hl := h.len l.length
  rw [List.take_length] at hl
  have hm := amtT_len (a := owedV l) ob.1 (by omega)
  have s1 : sadd (accsT l) [111, 119, 101, 100, 32] = some (accsT l ++ [111, 119, 101, 100, 32]) := sadd_some (by simp only [List.length_cons, List.length_nil]; omega)
  have s2 : sadd (accsT l ++ [111, 119, 101, 100, 32]) (amtT (owedV l)) = some (accsT l ++ [111, 119, 101, 100, 32] ++ amtT (owedV l)) := sadd_some (by simp only [List.length_append, List.length_cons, List.length_nil]; omega)
  have s3 : sadd (accsT l ++ [111, 119, 101, 100, 32] ++ amtT (owedV l)) [10] = some (rollT l) := sadd_some (by simp only [List.length_append, List.length_cons, List.length_nil]; omega)
  have ia : impl_isAmount (owedV l) = some true := by rw [isAmount_eq, inB_iff.2 (by omega)]
  unfold impl_RollText
  simp only [validI h, ia, Option.bind_some, if_true, Bool.not_true, Bool.false_eq_true, if_false, key', s1, amt_i ob.1 (show owedV l ≤ 100000000 by omega), s2, s3]
/-! lines -/
noncomputable def accLs (a : Account) : List (List UInt8) := a.Title :: (a.Items.map lineT ++ [lastT a.Balance])
noncomputable def owedT (l : List Account) : List UInt8 := [111, 119, 101, 100, 32] ++ amtT (owedV l)
theorem accLs_len (a : Account) : (accLs a).length = a.Items.length + 2 := by unfold accLs; simp
theorem accs_pcs : ∀ (l : List Account), (∀ a ∈ l, AccO a) → ∀ q, pcs 10 (accsT l ++ q) = (l.map accLs).flatten ++ pcs 10 q
  | [], _, q => rfl
  | a :: l, h, q => by
    have ha := h a (by simp)
    have e : accsT (a :: l) ++ q = accT a ++ (accsT l ++ q) := by unfold accsT; simp
    have hb := ha.bd
    have := acc_pcs (t := a.Title) (its := a.Items) (v := a.Balance) ha.items.item (by omega) ha.title (accsT l ++ q)
    rw [e, show accT a = accT ⟨a.Title, a.Items, a.Balance⟩ from rfl, this, accs_pcs l (fun b hb => h b (by simp [hb])) q]
    simp [accLs]
theorem roll_pcs {l : List Account} (h : Accs l) : pcs 10 (rollT l) = (l.map accLs).flatten ++ [owedT l, []] := by
  have ob := h.owedB
  have e : rollT l = accsT l ++ (owedT l ++ 10 :: []) := by unfold rollT owedT; simp
  have no : (10 : UInt8) ∉ owedT l := by
    unfold owedT
    intro hm
    rcases List.mem_append.1 hm with hm | hm
    · revert hm; decide
    · exact amtT_no ob.1 (by omega) hm
  rw [e, accs_pcs l h.ok, pcs_app, pcs_no no]
  rfl
theorem lines_len : ∀ (l : List Account), (∀ a ∈ l, AccO a) → ((l.map accLs).flatten).length ≤ 7 * l.length
  | [], _ => by simp
  | a :: l, h => by
    have h1 := (h a (by simp)).items.1
    have h2 := lines_len l (fun b hb => h b (by simp [hb]))
    simp only [List.map_cons, List.flatten_cons, List.length_append, accLs_len, List.length_cons]
    omega
theorem readLoop (w : List UInt8) : ∀ (l acc : List Account), (∀ a ∈ l, AccO a) → acc.length + l.length ≤ 20 →
    Lw impl_ReadRoll_b2 ((l.map accLs).flatten ++ [w], acc) = some (.inr (acc ++ l))
  | [], acc, _, _ => by rw [List.append_nil]; exact Lw_stop (by simp [impl_ReadRoll_b2])
  | a :: l, acc, h, hn => by
    have ha := h a (by simp)
    have hb := ha.bd
    have hl := lines_len l (fun b hb => h b (by simp [hb]))
    have h5 := ha.items.1
    simp only [List.length_cons] at hn
    have e : (((a :: l).map accLs).flatten ++ [w]) = a.Title :: (a.Items.map lineT ++ lastT a.Balance :: ((l.map accLs).flatten ++ [w])) := by simp [accLs]
    have rb := readAcc_back (t := a.Title) (its := a.Items) (v := a.Balance) ha.tl ha.n40 ha.items.item ha.vals (by omega) ha.title ((l.map accLs).flatten ++ [w]) (by simp only [List.length_append, List.length_singleton]; omega)
    rw [← e] at rb
    have e2 : (((a :: l).map accLs).flatten ++ [w]) = accLs a ++ ((l.map accLs).flatten ++ [w]) := by simp
    rw [e2] at rb ⊢
    have al := accLs_len a
    have sl : slc (accLs a ++ ((l.map accLs).flatten ++ [w])) ((a.Items.length + 2 : Nat) : Int) ((accLs a ++ ((l.map accLs).flatten ++ [w])).length : Int) = some ((l.map accLs).flatten ++ [w]) := by
      have := slc_some (xs := accLs a ++ ((l.map accLs).flatten ++ [w])) (a := a.Items.length + 2) (b := (accLs a ++ ((l.map accLs).flatten ++ [w])).length) (by simp only [List.length_append]; omega) (by omega)
      rw [this, ← al, List.drop_append_of_le_length (Nat.le_refl _), List.drop_length, List.nil_append, List.take_of_length_le (by simp only [List.length_append]; omega)]
    have c0 : decide (((accLs a ++ ((l.map accLs).flatten ++ [w])).length : Int) > 1) = true := decide_eq_true (by simp only [List.length_append]; omega)
    have c1 : ((acc.length : Int) == 20) = false := by rw [beq_eq_false_iff_ne]; omega
    have ap : app 48 acc [(⟨a.Title, a.Items, a.Balance⟩ : Account)] = some (acc ++ [a]) := app_some (by simp; omega) (by decide)
    rw [Lw_step (s' := ((l.map accLs).flatten ++ [w], acc ++ [a])) (by simp only [impl_ReadRoll_b2, c0, rb, c1, ap, sl, Option.bind_some, if_true, Bool.false_eq_true, if_false])]
    rw [readLoop w l (acc ++ [a]) (fun b hb => h b (by simp [hb])) (by simp; omega)]
    simp
theorem readRollI {l : List Account} (h : Accs l) : impl_ReadRoll (rollT l) = some (.inr (l, owedV l)) := by
  have hn := h.n
  have ob := h.owedB
  have ne : rollT l ≠ [] := by unfold rollT; simp
  have hl := h.len l.length
  rw [List.take_length] at hl
  have hm := amtT_len (a := owedV l) ob.1 (by omega)
  have rl : (rollT l).length ≤ 1048576 := by unfold rollT; simp only [List.length_append, List.length_cons, List.length_nil]; omega
  have si : strings_Split (rollT l) [10] = some (pcs 10 (rollT l)) := split_i (s := rollT l) 10 rl
  rw [roll_pcs h] at si
  have ll := lines_len l h.ok
  have li : impl_linesOf (rollT l) = some (.inr ((l.map accLs).flatten ++ [owedT l], true)) := by
    unfold impl_linesOf
    rw [if_neg (by simpa using ne), si, Option.bind_some]
    have e : (l.map accLs).flatten ++ [owedT l, []] = ((l.map accLs).flatten ++ [owedT l]) ++ [[]] := by simp
    rw [e]
    have hL : ((l.map accLs).flatten ++ [owedT l]).length ≤ 200 := by simp only [List.length_append, List.length_singleton]; omega
    generalize (l.map accLs).flatten ++ [owedT l] = L at hL
    have w : IntKind.i64.wrap (((L ++ [([] : List UInt8)]).length : Int) - 1) = ((L.length : Nat) : Int) := by rw [w64 (by simp; omega)]; simp
    have sl := slc_some (xs := L ++ [([] : List UInt8)]) (a := 0) (b := L.length) (by omega) (by simp)
    have r : rd (L ++ [([] : List UInt8)]) ((L.length : Nat) : Int) = some [] := by rw [rd_coe]; simp
    rw [w, show (0 : Int) = ((0 : Nat) : Int) from rfl, sl, Option.bind_some, r, Option.bind_some]
    simp
  have lp := readLoop (owedT l) l [] h.ok (by simp; omega)
  rw [List.nil_append] at lp
  unfold impl_ReadRoll
  rw [li, Option.bind_some]
  dsimp only
  rw [if_pos rfl, lp, Option.bind_some]
  dsimp only
  rw [rollI h, Option.bind_some]
  dsimp only
  rw [if_neg (by simp), rollTxt h, Option.bind_some, if_pos (by simp), if_neg (by simpa using ne)]
end Go.Proofs.YtjlalepbhcekoaaDoor

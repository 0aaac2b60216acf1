/- Plain lemmas. -/
import Derived.Test.YtbhbmgmnnkcmcaaDoorOkRollText
set_option linter.unusedVariables false
set_option linter.unusedSimpArgs false
/- Loops that compare and weigh lists. -/
namespace Go.Proofs.YtbhbmgmnnkcmcaaDoor
open Go Go.Ab
theorem eqS_loop {τ : Type} [DecidableEq τ] {tb : Int → Option (Int ⊕ (Unit ⊕ Unit))} (a b : List τ) (h : a.length ≤ 4611686018427387904) (hl : a.length = b.length)
    (hs : ∀ (i : Nat) (h1 : i < a.length) (h2 : i < b.length), tb (i : Int) = some (if a[i] = b[i] then .inl (IntKind.i64.wrap ((i : Int) + 1)) else .inr (.inl ()))) (he : tb (a.length : Int) = some (.inr (.inr ()))) :
    Lw tb 0 = some (if a = b then .inr () else .inl ()) := by
  have key := scan_all (tb := tb) a.length h (fun i => decide (a[i]? = b[i]?)) () ()
    (by
      intro i hi
      have hi2 : i < b.length := by omega
      rw [hs i hi hi2, List.getElem?_eq_getElem hi, List.getElem?_eq_getElem hi2]
      by_cases he : a[i] = b[i] <;> simp [he])
    he
  rw [key, all_eq hl]
  by_cases he : a = b <;> simp [he]
theorem sz_loop {tb : Int × Int → Option ((Int × Int) ⊕ (Unit ⊕ Int))} (n : Nat) (hs : ∀ (a : Int) (i : Nat), i < n → (∃ r, tb (a, (i : Int)) = some (.inl (r, ((i + 1 : Nat) : Int)))) ∨ tb (a, (i : Int)) = some (.inr (.inl ()))) (he : ∀ a, tb (a, (n : Int)) = some (.inr (.inr a))) (a : Int) :
    ∃ r, Lw tb (a, 0) = some r := by
  have : ∃ r r2, Lw tb (a, 0) = some r ∧ Lw tb (a, 0) = some r2 ∧ r = r2 := by
    refine Lw_sim (tb := tb) (tb2 := tb) (fun s => n - s.2.toNat) (fun s s2 => s = s2 ∧ ∃ i : Nat, s.2 = i ∧ i ≤ n) _ ?_ _ _ _ rfl ⟨rfl, 0, rfl, by omega⟩
    rintro ⟨a, j⟩ s2 ⟨rfl, i, hi, hl⟩
    simp only at hi
    subst hi
    by_cases hlt : i < n
    · rcases hs a i hlt with ⟨r, hr⟩ | hr
      · exact .inl ⟨_, _, hr, hr, ⟨rfl, i + 1, rfl, by omega⟩, by simp; omega⟩
      · exact .inr ⟨_, _, hr, hr, rfl⟩
    · have : i = n := by omega
      subst this
      exact .inr ⟨_, _, he a, he a, rfl⟩
  obtain ⟨r, _, hr, _, _⟩ := this
  exact ⟨r, hr⟩
theorem find_first {τ R : Type} {tb : Int → Option (Int ⊕ R)} (p : τ → Bool) (xs : List τ) (hit : Nat → R) (miss : R)
    (h1 : ∀ (i : Nat) (h : i < xs.length), p xs[i] = false → tb (i : Int) = some (.inl ((i + 1 : Nat) : Int))) (h2 : ∀ (i : Nat) (h : i < xs.length), p xs[i] = true → tb (i : Int) = some (.inr (hit i))) (h3 : tb (xs.length : Int) = some (.inr miss)) :
    Lw tb 0 = some (if xs.findIdx p < xs.length then hit (xs.findIdx p) else miss) := by
  have key := Lw_run (tb := tb) (fun i => (i : Int)) (xs.findIdx p) (r := if xs.findIdx p < xs.length then hit (xs.findIdx p) else miss)
    (fun i hi => h1 i (Nat.lt_of_lt_of_le hi List.findIdx_le_length) (by simpa using List.not_of_lt_findIdx hi))
    (by
      by_cases h : xs.findIdx p < xs.length
      · rw [if_pos h]; exact h2 _ h List.findIdx_getElem
      · rw [if_neg h]
        have : xs.findIdx p = xs.length := Nat.le_antisymm List.findIdx_le_length (by omega)
        simp only [this]; exact h3)
  exact key
theorem any_find {τ : Type} (p : τ → Bool) (xs : List τ) : xs.any p = decide (xs.findIdx p < xs.length) := by
  rw [Bool.eq_iff_iff, decide_eq_true_eq, List.findIdx_lt_length, List.any_eq_true]
/-! arrays -/
theorem rdA_coe {n : Nat} {τ : Type} (g : Ar n τ) (i : Nat) (h : i < n) : rdA g (i : Int) = some (g.l[i]'(by rw [g.h]; exact h)) := by
  unfold rdA
  rw [if_pos ⟨by omega, by omega⟩, Int.toNat_natCast, List.getElem?_eq_getElem]
theorem ar_ext {n : Nat} {τ : Type} {a b : Ar n τ} : a = b ↔ a.l = b.l := by cases a; cases b; simp
theorem ar_copy {n : Nat} {τ : Type} {tb : Int × Ar n τ → Option ((Int × Ar n τ) ⊕ Ar n τ)} (a z : Ar n τ) (hs : ∀ (i : Nat) (h : i < n) (y : Ar n τ), tb ((i : Int), y) = some (.inl (((i + 1 : Nat) : Int), y.set i (a.l[i]'(by rw [a.h]; exact h))))) (he : ∀ y, tb ((n : Int), y) = some (.inr y)) :
    Lw tb (0, z) = some a := by
  have hz := z.h
  have ha := a.h
  have key := Lw_run (tb := tb) (fun i => ((i : Int), (⟨a.l.take i ++ z.l.drop (min i n), by simp; omega⟩ : Ar n τ))) n (r := a)
    (by
      intro i hi
      rw [hs i hi]
      congr 3
      rw [ar_ext]
      show (a.l.take i ++ z.l.drop (min i n)).set i _ = a.l.take (i + 1) ++ z.l.drop (min (i + 1) n)
      rw [Nat.min_eq_left (by omega), Nat.min_eq_left (by omega), List.set_append_right _ _ (by simp; omega), List.length_take, Nat.min_eq_left (by omega), Nat.sub_self, List.drop_eq_getElem_cons (by omega), List.set_cons_zero, List.take_succ_eq_append_getElem (by omega), List.append_assoc]
      rfl)
    (by
      rw [he]
      congr 2
      rw [ar_ext]
      show a.l.take n ++ z.l.drop (min n n) = a.l
      rw [List.take_of_length_le (by omega), Nat.min_self, List.drop_eq_nil_of_le (by omega), List.append_nil])
  have e : (((0 : Nat) : Int), (⟨a.l.take 0 ++ z.l.drop (min 0 n), by simp; omega⟩ : Ar n τ)) = (0, z) := by
    congr 1
  rw [e] at key
  exact key
theorem foldr_all (p : Nat → Bool) (r : Bool) (l : List Nat) : l.foldr (fun j b => p j && b) r = (l.all p && r) := by
  induction l with
  | nil => simp
  | cons x l ih => simp [ih, Bool.and_assoc]
theorem arB_eq {n : Nat} (g h : Ar n Int) : arB n (fun j => g.get 0 j == h.get 0 j) true = decide (g = h) := by
  unfold arB
  rw [foldr_all, Bool.and_true, Bool.eq_iff_iff, List.all_eq_true, decide_eq_true_eq, ar_ext]
  have hg := g.h
  have hh := h.h
  constructor
  · intro hp
    refine List.ext_getElem (by omega) fun i h1 h2 => ?_
    have := hp i (by simpa [hg] using h1)
    simpa [Ar.get, List.getD_eq_getElem?_getD, h1, h2] using this
  · intro e j _
    simp [Ar.get, e]
end Go.Proofs.YtbhbmgmnnkcmcaaDoor
/- Numbers within bounds. -/
namespace Go.Proofs.YtbhbmgmnnkcmcaaDoor
open Go Go.Ab
def inB (n lo hi : Int) : Bool := decide (lo ≤ n) && decide (n ≤ hi)
theorem inB_iff {n lo hi : Int} : inB n lo hi = true ↔ lo ≤ n ∧ n ≤ hi := by simp [inB]
theorem inB_not {n lo hi : Int} : inB n lo hi = false ↔ n < lo ∨ hi < n := by rw [← Bool.not_eq_true, inB_iff]; omega
theorem l00In_eq (n lo hi : Int) : spec_l00In n lo hi = some (inB n lo hi) := by
  unfold spec_l00In inB; by_cases h : lo ≤ n <;> simp [h]
theorem some_ite {α : Type} (c : Bool) (a b : α) : (if c = true then some a else some b) = some (if c = true then a else b) := by cases c <;> rfl
theorem ite_false_b (c b : Bool) : (if c = true then b else false) = (c && b) := by cases c <;> simp
theorem ite_true_b (c b : Bool) : (if c = true then true else b) = (c || b) := by cases c <;> simp
end Go.Proofs.YtbhbmgmnnkcmcaaDoor
/- Amounts. -/
namespace Go.Proofs.YtbhbmgmnnkcmcaaDoor
open Go Go.Ab
theorem l01Amount_eq (n : Int) : spec_l01Amount n = some (inB n 0 100000000) := by
  unfold spec_l01Amount; rw [l00In_eq, Option.bind_some]
theorem isAmount_eq (n : Int) : impl_isAmount n = some (inB n 0 100000000) := by
  unfold impl_isAmount inB; by_cases h : 0 ≤ n <;> simp [h]
end Go.Proofs.YtbhbmgmnnkcmcaaDoor
/- Parties: names, finding, valid lists. -/
namespace Go.Proofs.YtbhbmgmnnkcmcaaDoor
open Go Go.Ab
def letB (c : UInt8) : Bool := decide (97 ≤ c.toNat) && decide (c.toNat ≤ 122)
def lettersB (s : List UInt8) (n : Int) : Bool := s.all letB && decide (1 ≤ s.length) && decide ((s.length : Int) ≤ n)
def nameB (s : List UInt8) : Bool := lettersB s 12
theorem isLetters_loop (s : List UInt8) (hn : s.length ≤ 4611686018427387904) : Lw (impl_isLetters_b1 s) 0 = some (if s.all letB = true then .inr () else .inl ()) := by
  have key := scan_all (tb := impl_isLetters_b1 s) s.length hn (fun i => (s[i]?).all letB) () ()
    (by
      intro i hi
      simp only [impl_isLetters_b1, rd_coe, List.getElem?_eq_getElem hi, Option.bind_some, Option.all_some]
      rw [if_pos (by simpa using hi)]
      by_cases h1 : s[i].toNat < 97
      · rw [if_pos (by simp; omega), if_neg (by simp [letB]; omega)]
      · by_cases h2 : s[i].toNat > 122
        · rw [if_neg (by simp; omega), if_pos (by simp; omega), if_neg (by simp [letB]; omega)]
        · rw [if_neg (by simp; omega), if_neg (by simp; omega), if_pos (by simp [letB]; omega)])
    (by simp [impl_isLetters_b1])
  rw [key, all_get]
theorem isLetters_eq (s : List UInt8) (n : Int) (hn : s.length ≤ 4611686018427387904) : impl_isLetters s n = some (lettersB s n) := by
  unfold impl_isLetters lettersB
  rw [isLetters_loop s hn]
  cases s.all letB with
  | false => simp
  | true =>
    by_cases h : 1 ≤ s.length
    · have : (1 : Int) ≤ (s.length : Int) := by omega
      simp [h, this]
    · have : ¬ (1 : Int) ≤ (s.length : Int) := by omega
      simp [h, this]
end Go.Proofs.YtbhbmgmnnkcmcaaDoor
/- Accounts and rolls: equal, copied, weighed. -/
namespace Go.Proofs.YtbhbmgmnnkcmcaaDoor
open Go Go.Ab
theorem item_eq {x y : Item} : x = y ↔ x.Kind = y.Kind ∧ x.Amount = y.Amount := by cases x; cases y; simp
theorem account_eq {x y : Account} : x = y ↔ x.Title = y.Title ∧ x.Items = y.Items ∧ x.Balance = y.Balance := by cases x; cases y; simp
theorem roll_eq {x y : Roll} : x = y ↔ x.Accounts = y.Accounts ∧ x.Owed = y.Owed := by cases x; cases y; simp
theorem eqItem_eq (x y : Item) : laws_eqItem x y = some (decide (x = y)) := by
  unfold laws_eqItem
  simp only [item_eq, bne_iff_ne, ne_eq, ite_not]
  repeat' split
  all_goals simp_all
theorem eqItemS_eq (a b : List Item) (h : a.length ≤ 4611686018427387904) : laws_eqItemS a b = some (decide (a = b)) := by
  unfold laws_eqItemS
  by_cases hl : a.length = b.length
  · rw [if_neg (by simp [hl]), eqS_loop a b h hl (fun i h1 h2 => by
      simp only [laws_eqItemS_b1, rd_coe, List.getElem?_eq_getElem h1, List.getElem?_eq_getElem h2, Option.bind_some, eqItem_eq]
      by_cases he : a[i] = b[i] <;> simp [he, h1]) (by simp [laws_eqItemS_b1])]
    by_cases he : a = b <;> simp [he]
  · rw [if_pos (by simp; omega)]
    have : a ≠ b := fun h => hl (by rw [h])
    simp [this]
theorem toItemS_eq (a : List Item) (h : a.length * 16 ≤ 140737488351232) : laws_toItemS a = some a := by
  unfold laws_toItemS
  have key := copy_loop (tb := laws_toItemS_b1 a) a (List.replicate a.length ⟨0, 0⟩) (by omega) (by simp)
    (by intro i zs hi hz; simp [laws_toItemS_b1, laws_toItem, rd_coe, hi, hz]) (by intro zs hz; simp [laws_toItemS_b1])
  rw [mkS_some h (by omega), Option.bind_some, key, Option.bind_some]
theorem toAccount_eq (a : Account) (h : a.ok) : laws_toAccount a = some (a.Title, a.Items, a.Balance) := by
  unfold laws_toAccount
  rw [toItemS_eq _ h.2.1.2.1, Option.bind_some]
theorem eqAccount_eq (x y : Account) (h : x.ok) : laws_eqAccount x y = some (decide (x = y)) := by
  have h1 := h.2.1.2.1
  unfold laws_eqAccount
  rw [eqItemS_eq _ _ (by omega)]
  by_cases e1 : x.Title = y.Title <;> by_cases e2 : x.Items = y.Items <;> by_cases e3 : x.Balance = y.Balance <;> simp [account_eq, e1, e2, e3]
theorem eqAccountS_eq (a b : List Account) (h : okLs 48 Account.ok a) : laws_eqAccountS a b = some (decide (a = b)) := by
  have hn := h.2.1
  unfold laws_eqAccountS
  by_cases hl : a.length = b.length
  · rw [if_neg (by simp [hl]), eqS_loop a b (by omega) hl (fun i h1 h2 => by
      have ht := eqAccount_eq a[i] b[i] (h.2.2 _ (List.getElem_mem h1))
      simp only [laws_eqAccountS_b1, rd_coe, List.getElem?_eq_getElem h1, List.getElem?_eq_getElem h2, Option.bind_some, ht]
      by_cases he : a[i] = b[i] <;> simp [he, h1]) (by simp [laws_eqAccountS_b1])]
    by_cases he : a = b <;> simp [he]
  · rw [if_pos (by simp; omega)]
    have : a ≠ b := fun h => hl (by rw [h])
    simp [this]
theorem map_loop {τ σ : Type} {tb : Int × List σ → Option ((Int × List σ) ⊕ List σ)} (g : τ → σ) (xs : List τ) (ys : List σ) (hn : xs.length ≤ 4611686018427387904) (hl : ys.length = xs.length)
    (hs : ∀ (i : Nat) (hi : i < xs.length) (zs : List σ), zs.length = xs.length → tb ((i : Int), zs) = some (.inl (((i + 1 : Nat) : Int), zs.set i (g xs[i])))) (he : ∀ zs : List σ, zs.length = xs.length → tb ((xs.length : Int), zs) = some (.inr zs)) :
    Lw tb (0, ys) = some (xs.map g) := by
  have key := Lw_run (tb := tb) (fun i => ((i : Int), (xs.map g).take i ++ ys.drop i)) xs.length (r := xs.map g)
    (by
      intro i hi
      rw [hs i hi _ (by simp; omega)]
      congr 3
      rw [List.set_append_right _ _ (by simp; omega), List.length_take, List.length_map, Nat.min_eq_left (by omega), Nat.sub_self, List.drop_eq_getElem_cons (by omega), List.set_cons_zero, List.take_succ_eq_append_getElem (by simpa using hi), List.append_assoc]
      simp)
    (by
      rw [he _ (by simp; omega)]
      congr 2
      rw [List.take_of_length_le (by simp), List.drop_eq_nil_of_le (by omega), List.append_nil])
  have e : (((0 : Nat) : Int), (xs.map g).take 0 ++ ys.drop 0) = (0, ys) := by simp
  rw [e] at key
  exact key
def acN (b : Account) : AccountN := ⟨b.Title, some b.Items, b.Balance⟩
theorem unL_ac (a : List Account) : unL AccountN.un (a.map acN) = some a := by
  induction a with
  | nil => rfl
  | cons x r ih => simp [unL, ih, acN, AccountN.un]
theorem toAccountS_eq (a : List Account) (h : okLs 48 Account.ok a) : laws_toAccountS a = some a := by
  have hn := h.2.1
  unfold laws_toAccountS
  have key := map_loop (tb := laws_toAccountS_b1 a) acN a (List.replicate a.length ⟨[], none, 0⟩) (by omega) (by simp)
    (by
      intro i hi zs hz
      have ht := toAccount_eq a[i] (h.2.2 _ (List.getElem_mem hi))
      simp [laws_toAccountS_b1, ht, rd_coe, hi, hz, w64s hi (show a.length ≤ 4611686018427387904 by omega), acN]) (by intro zs hz; simp [laws_toAccountS_b1])
  rw [mkS_some hn (by omega), Option.bind_some, key, Option.bind_some, unL_ac]
  rfl
theorem szItemS_some (xs : List Item) (n : Int) : ∃ r, laws_szItemS xs n = some r := by
  unfold laws_szItemS; split <;> exact ⟨_, rfl⟩
theorem szAccount_some (a : Account) (n : Int) : ∃ r, laws_szAccount a n = some r := by
  unfold laws_szAccount
  split
  · exact ⟨_, rfl⟩
  obtain ⟨r, hr⟩ := szItemS_some a.Items (IntKind.i64.wrap (n - (a.Title.length : Int)))
  rw [hr, Option.bind_some]
  split <;> exact ⟨_, rfl⟩
theorem szAccountS_some (xs : List Account) (n : Int) (hn : xs.length ≤ 4611686018427387904) : ∃ r, laws_szAccountS xs n = some r := by
  unfold laws_szAccountS
  split
  · exact ⟨_, rfl⟩
  obtain ⟨r, hr⟩ := sz_loop (tb := laws_szAccountS_b1 xs) xs.length (fun a i hi => by
    have w := w64s hi hn
    obtain ⟨q, hq⟩ := szAccount_some xs[i] a
    by_cases h0 : q < 0
    · exact .inr (by simp [laws_szAccountS_b1, rd_coe, hi, hq, h0])
    · exact .inl ⟨q, by simp [laws_szAccountS_b1, rd_coe, hi, hq, h0, w]⟩) (fun a => by simp [laws_szAccountS_b1]) (IntKind.i64.wrap (n - (xs.length : Int)))
  rw [hr, Option.bind_some]
  rcases r with r | r <;> exact ⟨_, rfl⟩
theorem toRoll_eq (r : Roll) (h : r.ok) : laws_toRoll r = some (r.Accounts, r.Owed) := by
  unfold laws_toRoll
  rw [toAccountS_eq _ h.1, Option.bind_some]
theorem eqRoll_eq (x y : Roll) (h : x.ok) : laws_eqRoll x y = some (decide (x = y)) := by
  unfold laws_eqRoll
  rw [eqAccountS_eq _ _ h.1]
  by_cases e1 : x.Accounts = y.Accounts <;> by_cases e2 : x.Owed = y.Owed <;> simp [roll_eq, e1, e2]
theorem szRoll_some (r : Roll) (n : Int) (h : r.ok) : ∃ q, laws_szRoll r n = some q := by
  have hn := h.1.2.1
  unfold laws_szRoll
  obtain ⟨q, hq⟩ := szAccountS_some r.Accounts n (by omega)
  rw [hq, Option.bind_some]
  split <;> exact ⟨_, rfl⟩
end Go.Proofs.YtbhbmgmnnkcmcaaDoor
/- Rolls that are right: the program's word and the reference's. -/
namespace Go.Proofs.YtbhbmgmnnkcmcaaDoor
open Go Go.Ab
theorem l05Title_eq (s : List UInt8) (hn : s.length ≤ 4611686018427387904) : spec_l05Title s = some (lettersB s 16) := by
  have e : Lw (spec_l05Title_b1 s) 0 = Lw (impl_isLetters_b1 s) 0 := rfl
  unfold spec_l05Title lettersB
  rw [e, isLetters_loop s hn]
  cases s.all letB with
  | false => simp
  | true => simp [l00In_eq, inB]; cases s <;> simp <;> omega
def itemB (x : Item) : Bool := inB x.Kind 0 3 && inB x.Amount 0 100000000
theorem validItem_eq (x : Item) : impl_validItem x = some (itemB x) := by
  unfold impl_validItem itemB
  rw [isAmount_eq]
  by_cases h1 : x.Kind ≥ 0
  · by_cases h2 : x.Kind ≤ 3
    · have : inB x.Kind 0 3 = true := inB_iff.2 ⟨h1, h2⟩
      simp [h1, h2, this]
    · have : inB x.Kind 0 3 = false := by unfold inB; simp; omega
      simp [h1, h2, this]
  · have : inB x.Kind 0 3 = false := by unfold inB; simp; omega
    simp [h1, this]
theorem l05Item_eq (x : Item) (h : x.ok) : spec_l05Item x = some (itemB x) := by
  have hk := inR8.1 h.1
  unfold spec_l05Item itemB
  rw [w64 (by omega), l00In_eq, l01Amount_eq]
  cases inB x.Kind 0 3 <;> simp
theorem validItems_eq (xs : List Item) (hn : xs.length ≤ 4611686018427387904) : impl_ValidItems xs = some (xs.all itemB && decide (xs.length ≤ 40)) := by
  unfold impl_ValidItems
  have key := scan_all (tb := impl_ValidItems_b1 xs) xs.length hn (fun i => (xs[i]?).all itemB) () ()
    (by
      intro i hi
      simp only [impl_ValidItems_b1, rd_coe, List.getElem?_eq_getElem hi, Option.bind_some, validItem_eq, Option.all_some]
      rw [if_pos (by simpa using hi)]
      cases itemB xs[i] <;> simp)
    (by simp [impl_ValidItems_b1])
  rw [key, all_get]
  have : decide ((xs.length : Int) ≤ 40) = decide (xs.length ≤ 40) := by rw [Bool.eq_iff_iff, decide_eq_true_eq, decide_eq_true_eq]; omega
  cases xs.all itemB <;> simp [this]
theorem l05Items_eq (xs : List Item) (hn : xs.length ≤ 4611686018427387904) (hx : ∀ x ∈ xs, Item.ok x) : spec_l05Items xs = some (xs.all itemB && decide (xs.length ≤ 40)) := by
  unfold spec_l05Items
  by_cases h : (xs.length : Int) > 40
  · have : decide (xs.length ≤ 40) = false := by rw [decide_eq_false_iff_not]; omega
    rw [if_pos (by simpa using h), this, Bool.and_false]
  · have h' : decide (xs.length ≤ 40) = true := by rw [decide_eq_true_eq]; omega
    have key := scan_all (tb := spec_l05Items_b1 xs) xs.length hn (fun i => (xs[i]?).all itemB) () ()
      (by
        intro i hi
        have ht := l05Item_eq xs[i] (hx _ (List.getElem_mem hi))
        simp only [spec_l05Items_b1, rd_coe, List.getElem?_eq_getElem hi, Option.bind_some, ht, Option.all_some]
        rw [if_pos (by simpa using hi)]
        cases itemB xs[i] <;> simp)
      (by simp [spec_l05Items_b1])
    rw [if_neg (by simpa using h), key, all_get, h', Bool.and_true]
    cases xs.all itemB <;> simp
theorem balance_same (xs : List Item) (hn : xs.length ≤ 4611686018427387904) : ∃ v, impl_balance xs = some v ∧ spec_l05Balance xs = some v := by
  have : ∃ r r2 : Int, Lw (impl_balance_b1 xs) (0, 0) = some r ∧ Lw (spec_l05Balance_b1 xs) (0, 0) = some r2 ∧ r = r2 := by
    refine Lw_sim (tb := impl_balance_b1 xs) (tb2 := spec_l05Balance_b1 xs) (fun s => xs.length - s.2.toNat) (fun s s2 => s = s2 ∧ ∃ i : Nat, s.2 = i ∧ i ≤ xs.length) _ ?_ _ _ _ rfl ⟨rfl, 0, rfl, by omega⟩
    rintro ⟨a, j⟩ s2 ⟨rfl, i, hi, hil⟩
    simp only at hi
    subst hi
    by_cases hlt : i < xs.length
    · have hr : rd xs (i : Int) = some xs[i] := by rw [rd_coe, List.getElem?_eq_getElem hlt]
      have w := w64s hlt (by omega)
      left
      by_cases k0 : xs[i].Kind = 0
      · exact ⟨(IntKind.i64.wrap (a + xs[i].Amount), ((i + 1 : Nat) : Int)), _, by simp [impl_balance_b1, hlt, hr, k0, w], by simp [spec_l05Balance_b1, hlt, hr, k0, w], ⟨rfl, i + 1, rfl, by omega⟩, by simp; omega⟩
      · by_cases k1 : xs[i].Kind = 1
        · exact ⟨(IntKind.i64.wrap (a + xs[i].Amount), ((i + 1 : Nat) : Int)), _, by simp [impl_balance_b1, hlt, hr, k1, w], by simp [spec_l05Balance_b1, hlt, hr, k1, w], ⟨rfl, i + 1, rfl, by omega⟩, by simp; omega⟩
        · exact ⟨(IntKind.i64.wrap (a - xs[i].Amount), ((i + 1 : Nat) : Int)), _, by simp [impl_balance_b1, hlt, hr, k0, k1, w], by simp [spec_l05Balance_b1, hlt, hr, k0, k1, w], ⟨rfl, i + 1, rfl, by omega⟩, by simp; omega⟩
    · exact .inr ⟨a, a, by simp [impl_balance_b1, hlt], by simp [spec_l05Balance_b1, hlt], rfl⟩
  obtain ⟨r, _, e1, e2, rfl⟩ := this
  exact ⟨r, by unfold impl_balance; rw [e1]; rfl, by unfold spec_l05Balance; rw [e2]; rfl⟩
theorem account_same (a : Account) (h : a.ok) : ∃ b, impl_CheckAccount a = some b ∧ spec_l05Right a = some b := by
  have hT : a.Title.length ≤ 140737488351232 := h.1
  have hI := h.2.1.2.1
  obtain ⟨v, v1, v2⟩ := balance_same a.Items (by omega)
  unfold impl_CheckAccount spec_l05Right
  rw [isLetters_eq _ _ (by omega), l05Title_eq _ (by omega), validItems_eq _ (by omega), l05Items_eq _ (by omega) h.2.1.2.2, v1, v2]
  cases lettersB a.Title 16 with
  | false => exact ⟨false, by simp, by simp⟩
  | true =>
    cases a.Items.all itemB && decide (a.Items.length ≤ 40) with
    | false => exact ⟨false, by simp, by simp⟩
    | true => exact ⟨a.Balance == v, by simp, by simp⟩
theorem hasTitle_eq (xs : List Account) (t : List UInt8) (hn : xs.length ≤ 4611686018427387904) : impl_hasTitle xs t = some (xs.any fun a => decide (a.Title = t)) := by
  unfold impl_hasTitle slices_ContainsFunc_Account__impl_hasTitle_1 slices_IndexFunc_Account__impl_hasTitle_1
  have key := find_first (tb := slices_IndexFunc_Account__impl_hasTitle_1_b1 xs t) (fun a => decide (a.Title = t)) xs (fun i => .inl (i : Int)) (.inr ())
    (by
      intro i h hp
      have w := w64s h hn
      simp only [decide_eq_false_iff_not] at hp
      simp [slices_IndexFunc_Account__impl_hasTitle_1_b1, impl_hasTitle_1, rd_coe, h, hp, w])
    (by
      intro i h hp
      simp only [decide_eq_true_eq] at hp
      simp [slices_IndexFunc_Account__impl_hasTitle_1_b1, impl_hasTitle_1, rd_coe, h, hp])
    (by simp [slices_IndexFunc_Account__impl_hasTitle_1_b1])
  rw [key, any_find]
  by_cases h : xs.findIdx (fun a => decide (a.Title = t)) < xs.length
  · simp [h]
  · simp [h]
theorem twin_eq (xs : List Account) (i : Nat) (hi : i < xs.length) (hn : xs.length ≤ 4611686018427387904) : spec_l05Twin xs (i : Int) = some ((xs.take i).any fun a => decide (a.Title = xs[i].Title)) := by
  unfold spec_l05Twin
  have hl : (xs.take i).length = i := by simp; omega
  have key := find_first (tb := spec_l05Twin_b1 xs (i : Int)) (fun a => decide (a.Title = xs[i].Title)) (xs.take i) (fun _ => .inl ()) (.inr ())
    (by
      intro j h hp
      have h' : j < i := by omega
      have h'' : j < xs.length := by omega
      have w := w64s h'' hn
      simp only [List.getElem_take, decide_eq_false_iff_not] at hp
      simp [spec_l05Twin_b1, rd_coe, h', h'', hi, hp, w])
    (by
      intro j h hp
      have h' : j < i := by omega
      have h'' : j < xs.length := by omega
      simp only [List.getElem_take, decide_eq_true_eq] at hp
      simp [spec_l05Twin_b1, rd_coe, h', h'', hi, hp])
    (by simp [spec_l05Twin_b1, hl])
  rw [key, any_find]
  by_cases h : (xs.take i).findIdx (fun a => decide (a.Title = xs[i].Title)) < (xs.take i).length
  · simp only [h, if_true, decide_true]; rfl
  · simp only [h, if_false, decide_false]; rfl
theorem slc0 {τ : Type} (xs : List τ) (n : Nat) (h : n ≤ xs.length) : slc xs 0 (n : Int) = some (xs.take n) := by
  unfold slc
  rw [if_pos ⟨by omega, by omega, by omega⟩]; simp
theorem fault_loop (r : Roll) (h : r.ok) : ∃ q q2, Lw (impl_FirstFault_b1 r) 0 = some q ∧ Lw (spec_l05Fault_b1 r) 0 = some q2 ∧ q = q2 ∧ ∀ y : Int, q = .inl y → 0 ≤ y := by
  have hn := h.1.2.1
  refine Lw_sim (tb := impl_FirstFault_b1 r) (tb2 := spec_l05Fault_b1 r) (fun s => r.Accounts.length - s.toNat) (fun s s2 => s = s2 ∧ ∃ i : Nat, s = i ∧ i ≤ r.Accounts.length) _ ?_ _ _ _ rfl ⟨rfl, 0, rfl, by omega⟩
  rintro s s2 ⟨rfl, i, rfl, hil⟩
  by_cases hlt : i < r.Accounts.length
  · have hr : rd r.Accounts (i : Int) = some r.Accounts[i] := by rw [rd_coe, List.getElem?_eq_getElem hlt]
    have w := w64s hlt (by omega)
    obtain ⟨b, b1, b2⟩ := account_same r.Accounts[i] (h.1.2.2 _ (List.getElem_mem hlt))
    have t1 := hasTitle_eq (r.Accounts.take i) r.Accounts[i].Title (by simp; omega)
    have t2 := twin_eq r.Accounts i hlt (by omega)
    have sl := slc0 r.Accounts i (by omega)
    cases b with
    | false => exact .inr ⟨.inl i, .inl i, by simp [impl_FirstFault_b1, hlt, hr, b1], by simp [spec_l05Fault_b1, hlt, hr, b2], rfl, fun y e => by cases e; omega⟩
    | true =>
      cases hk : (r.Accounts.take i).any fun a => decide (a.Title = r.Accounts[i].Title) with
      | true =>
        rw [hk] at t1 t2
        exact .inr ⟨.inl i, .inl i, by simp [impl_FirstFault_b1, hlt, hr, b1, sl, t1], by simp [spec_l05Fault_b1, hlt, hr, b2, t2], rfl, fun y e => by cases e; omega⟩
      | false =>
        rw [hk] at t1 t2
        exact .inl ⟨((i + 1 : Nat) : Int), _, by simp [impl_FirstFault_b1, hlt, hr, b1, sl, t1, w], by simp [spec_l05Fault_b1, hlt, hr, b2, t2, w], ⟨rfl, i + 1, rfl, by omega⟩, by simp; omega⟩
  · exact .inr ⟨.inr (), .inr (), by simp [impl_FirstFault_b1, hlt], by simp [spec_l05Fault_b1, hlt], rfl, fun y e => by cases e⟩
theorem owed_same (xs : List Account) (hn : xs.length ≤ 4611686018427387904) : ∃ v, impl_owed xs = some v ∧ spec_l05Owed xs = some v := by
  have : ∃ r r2 : Int, Lw (impl_owed_b1 xs) (0, 0) = some r ∧ Lw (spec_l05Owed_b1 xs) (0, 0) = some r2 ∧ r = r2 := by
    refine Lw_sim (tb := impl_owed_b1 xs) (tb2 := spec_l05Owed_b1 xs) (fun s => xs.length - s.2.toNat) (fun s s2 => s = s2 ∧ ∃ i : Nat, s.2 = i ∧ i ≤ xs.length) _ ?_ _ _ _ rfl ⟨rfl, 0, rfl, by omega⟩
    rintro ⟨a, j⟩ s2 ⟨rfl, i, hi, hil⟩
    simp only at hi
    subst hi
    by_cases hlt : i < xs.length
    · have hr : rd xs (i : Int) = some xs[i] := by rw [rd_coe, List.getElem?_eq_getElem hlt]
      have w := w64s hlt (by omega)
      have hm : spec_l00Max xs[i].Balance 0 = some (max xs[i].Balance 0) := by
        unfold spec_l00Max
        rw [Int.max_def]
        by_cases h : xs[i].Balance > 0
        · have h' : ¬ xs[i].Balance ≤ 0 := by omega
          simp [h, h']
        · have h' : xs[i].Balance ≤ 0 := by omega
          simp [h, h']
      exact .inl ⟨(IntKind.i64.wrap (a + max xs[i].Balance 0), ((i + 1 : Nat) : Int)), _, by simp [impl_owed_b1, hlt, hr, w], by simp [spec_l05Owed_b1, hlt, hr, hm, w], ⟨rfl, i + 1, rfl, by omega⟩, by simp; omega⟩
    · exact .inr ⟨a, a, by simp [impl_owed_b1, hlt], by simp [spec_l05Owed_b1, hlt], rfl⟩
  obtain ⟨r, _, e1, e2, rfl⟩ := this
  exact ⟨r, by unfold impl_owed; rw [e1]; rfl, by unfold spec_l05Owed; rw [e2]; rfl⟩
theorem roll_same (r : Roll) (h : r.ok) : ∃ b, impl_validRoll r = some b ∧ spec_l05Roll r = some b := by
  have hn := h.1.2.1
  unfold impl_validRoll impl_FirstFault spec_l05Roll spec_l05Fault
  by_cases hl : (r.Accounts.length : Int) > 20
  · have hl' : ¬ (r.Accounts.length : Int) ≤ 20 := by omega
    exact ⟨false, by simp [hl], by simp [hl']⟩
  · have hl' : (r.Accounts.length : Int) ≤ 20 := by omega
    obtain ⟨q, _, e1, e2, rfl, e3⟩ := fault_loop r h
    obtain ⟨v, v1, v2⟩ := owed_same r.Accounts (by omega)
    rcases q with y | y
    · have := e3 y rfl
      have z : ¬ y < 0 := by omega
      exact ⟨false, by simp [hl, e1], by simp [hl', e2, z]⟩
    · by_cases ho : r.Owed = v
      · exact ⟨true, by simp [hl, e1, v1, ho], by simp [hl', e2, v2, ho]⟩
      · have z : ¬ (r.Accounts.length : Int) < 0 := by omega
        exact ⟨false, by simp [hl, e1, v1, ho], by simp [hl', e2, v2, ho, z]⟩
end Go.Proofs.YtbhbmgmnnkcmcaaDoor
/- Texts put together. -/
namespace Go.Proofs.YtbhbmgmnnkcmcaaDoor
open Go Go.Ab
theorem sadd_some {a b : List UInt8} (h : a.length + b.length ≤ 9223372036854775807) : sadd a b = some (a ++ b) := by
  unfold sadd
  rw [if_neg (by have : IntKind.i64.max = 9223372036854775807 := rfl; rw [this]; omega)]
end Go.Proofs.YtbhbmgmnnkcmcaaDoor
/- Numbers written out. -/
namespace Go.Proofs.YtbhbmgmnnkcmcaaDoor
open Go Go.Ab
/-- a number's text -/
noncomputable def tx (n : Int) : List UInt8 := Lib.decDigits n.toNat
theorem decDigits_le : ∀ (k n : Nat), n < 10 ^ (k + 1) → (Lib.decDigits n).length ≤ k + 1
  | 0, n, h => by
    rw [Lib.decDigits, dif_pos (by omega)]
    simp
  | k + 1, n, h => by
    rw [Lib.decDigits]
    split
    · simp
    · have := decDigits_le k (n / 10) (by rw [Nat.pow_succ] at h; omega)
      simp only [List.length_append, List.length_singleton]
      omega
theorem dig_eq {n : Nat} (h : n < 10) : toB [IntKind.u8.wrap (IntKind.i64.wrap (48 + (n : Int)))] = [UInt8.ofNat (48 + n)] := by
  rw [w64 (by omega)]
  have : IntKind.u8.wrap (48 + (n : Int)) = 48 + (n : Int) := by simp [IntKind.wrap, IntKind.signed, IntKind.bits]; omega
  rw [this]
  simp only [toB, List.map_cons, List.map_nil]
  congr 2
theorem decimal_F : ∀ (k n : Nat), n < 10 ^ (k + 1) → n ≤ 9223372036854775807 → k ≤ 100 → spec_Decimal_F (k + 1) (n : Int) = some (Lib.decDigits n)
  | k, n, h, h1, hk => by
    rw [spec_Decimal_F, Lib.decDigits]
    have hr : rem .i64 (n : Int) 10 = some ((n % 10 : Nat) : Int) := by
      unfold rem
      rw [if_neg (by decide)]
      congr 1
    by_cases hn : n < 10
    · rw [if_pos (by simpa using (by omega : (n : Int) < 10)), dif_pos hn, hr, Option.bind_some, dig_eq (by omega), Nat.mod_eq_of_lt hn]
    · rw [if_neg (by simpa using (by omega : ¬ (n : Int) < 10)), dif_neg hn]
      have hq : quo .i64 (n : Int) 10 = some ((n / 10 : Nat) : Int) := by
        unfold quo
        rw [if_neg (by decide)]
        congr 1
        have : ((n : Int).tdiv 10) = ((n / 10 : Nat) : Int) := rfl
        rw [this, w64 (by omega)]
      rw [hq, Option.bind_some]
      cases k with
      | zero => omega
      | succ k =>
        have hlt : n / 10 < 10 ^ (k + 1) := by rw [Nat.pow_succ] at h; omega
        rw [decimal_F k (n / 10) hlt (by omega) (by omega), Option.bind_some, hr, Option.bind_some, dig_eq (by omega)]
        have hl := decDigits_le k (n / 10) hlt
        rw [sadd_some (by simp only [List.length_singleton]; omega), Option.bind_some]
theorem dec_s {n : Int} (h0 : 0 ≤ n) (h1 : n ≤ 9223372036854775807) : spec_Decimal n = some (tx n) := by
  obtain ⟨m, rfl⟩ : ∃ m : Nat, n = m := ⟨n.toNat, by omega⟩
  unfold spec_Decimal tx
  exact decimal_F 63 m (Nat.lt_of_le_of_lt (by omega : m ≤ 9223372036854775807) (by decide)) (by omega) (by omega)
theorem dec_i {n : Int} (h0 : 0 ≤ n) (h1 : n ≤ 9223372036854775807) : impl_decimal n = some (tx n) := by
  obtain ⟨m, rfl⟩ : ∃ m : Nat, n = m := ⟨n.toNat, by omega⟩
  unfold impl_decimal strconv_FormatInt fmtI tx
  rw [if_pos ⟨rfl, by omega, h1⟩, Lib.itoa_nonneg]
  rfl
theorem tx_len {n : Int} (h0 : 0 ≤ n) (h1 : n ≤ 9223372036854775807) : (tx n).length ≤ 19 := by
  unfold tx
  exact decDigits_le 18 _ (by omega)
theorem tx_pos (n : Int) : 0 < (tx n).length := by
  unfold tx
  rw [Lib.decDigits]
  split <;> simp
end Go.Proofs.YtbhbmgmnnkcmcaaDoor
/- Amounts written out. -/
namespace Go.Proofs.YtbhbmgmnnkcmcaaDoor
open Go Go.Ab
/-- one part of an amount -/
noncomputable def amt1 (n : Int) (c : UInt8) : List (List UInt8) := if n > 0 then [tx n ++ [c]] else []
noncomputable def amtT (a : Int) : List UInt8 := if a = 0 then [48, 100] else Lib.join (amt1 (a / 240) 108 ++ (amt1 (a / 12 % 20) 115 ++ amt1 (a % 12) 100)) [32]
theorem quo_pos {a b : Int} (h0 : 0 ≤ a) (h1 : a ≤ 9223372036854775807) (hb : 0 < b) : quo .i64 a b = some (a / b) := by
  unfold quo
  rw [if_neg (by omega), Int.tdiv_eq_ediv_of_nonneg h0]
  have := Int.ediv_nonneg h0 (by omega : 0 ≤ b)
  have h2 : a / b ≤ a := Int.ediv_le_self b h0
  rw [w64 (by omega)]
theorem rem_pos {a b : Int} (h0 : 0 ≤ a) (hb : 0 < b) : rem .i64 a b = some (a % b) := by
  unfold rem
  rw [if_neg (by omega), Int.tmod_eq_emod_of_nonneg h0]
theorem amt1_len {n : Int} {c : UInt8} (h0 : 0 ≤ n) (h1 : n ≤ 9223372036854775807) : (amt1 n c).length ≤ 1 ∧ ∀ s ∈ amt1 n c, s.length ≤ 20 := by
  unfold amt1
  have := tx_len h0 h1
  split <;> simp <;> omega
theorem join_len : ∀ (xs : List (List UInt8)) (k : Nat), (∀ s ∈ xs, s.length ≤ k) → (Lib.join xs [32]).length ≤ xs.length * (k + 1)
  | [], k, _ => by simp [Lib.join]
  | x :: r, k, h => by
    have hx := h x (by simp)
    rw [Lib.join_cons]
    have : ∀ r : List (List UInt8), (∀ s ∈ r, s.length ≤ k) → (Lib.joinTail [32] r).length ≤ r.length * (k + 1) := by
      intro r
      induction r with
      | nil => intro _; simp [Lib.joinTail]
      | cons y q ih =>
        intro hy
        have h1 := ih (fun s hs => hy s (by simp [hs]))
        have h2 := hy y (by simp)
        simp only [Lib.joinTail, List.map_cons, List.flatten_cons, List.length_append, List.length_cons, List.length_nil] at h1 ⊢
        rw [Nat.add_mul]
        omega
    have h3 := this r (fun s hs => h s (by simp [hs]))
    simp only [List.length_append, List.length_cons]
    rw [Nat.add_mul]
    omega
theorem amt_i {a : Int} (h0 : 0 ≤ a) (h1 : a ≤ 100000000) : impl_AmountText a = some (amtT a) := by
  unfold impl_AmountText amtT
  rw [isAmount_eq, Option.bind_some, if_pos (inB_iff.2 ⟨h0, h1⟩)]
  by_cases hz : a = 0
  · subst hz; rfl
  rw [if_neg (by simpa using hz), if_neg hz, quo_pos h0 (by omega) (by decide), Option.bind_some, quo_pos h0 (by omega) (by decide), Option.bind_some, rem_pos (by omega) (by decide), Option.bind_some, rem_pos h0 (by decide), Option.bind_some]
  have b1 : 0 ≤ a / 240 ∧ a / 240 ≤ 1000000 := by omega
  have b2 : 0 ≤ a / 12 % 20 ∧ a / 12 % 20 ≤ 1000000 := by omega
  have b3 : 0 ≤ a % 12 ∧ a % 12 ≤ 1000000 := by omega
  revert b1 b2 b3
  generalize a / 240 = l, a / 12 % 20 = s, a % 12 = d
  intro b1 b2 b3
  have step : ∀ (i : Nat) (n : Int) (c : UInt8) (out : List (List UInt8)), i < 3 → [l, s, d][i]? = some n → ([108, 115, 100] : List UInt8)[i]? = some c → 0 ≤ n ∧ n ≤ 1000000 → out.length ≤ 3 →
      impl_AmountText_b1 l s d ((i : Int), out) = some (.inl (((i + 1 : Nat) : Int), out ++ amt1 n c)) := by
    intro i n c out hi hn hc hb ho
    have w := w64s (n := 3) hi (by omega)
    have hs : slc ([108, 115, 100] : List UInt8) (i : Int) ((i + 1 : Nat) : Int) = some [c] := by
      unfold slc
      rw [if_pos ⟨by omega, by omega, by simp only [List.length_cons, List.length_nil]; omega⟩]
      match i, hi, hc with
      | 0, _, hc => cases hc; rfl
      | 1, _, hc => cases hc; rfl
      | 2, _, hc => cases hc; rfl
    have hlen := tx_len (n := n) hb.1 (by omega)
    unfold impl_AmountText_b1 amt1
    simp only [List.length_cons, List.length_nil, rd_coe, hn, Option.bind_some, w, hs]
    rw [if_pos (by simpa using (by omega : (i : Int) < 3))]
    by_cases hp : n > 0
    · rw [if_pos (by simpa using hp), if_pos hp, dec_i hb.1 (by omega), Option.bind_some, sadd_some (by simp only [List.length_singleton]; omega), Option.bind_some, app_some (by simp only [List.length_singleton]; omega) (by decide), Option.bind_some]
    · rw [if_neg (by simpa using hp), if_neg hp, List.append_nil]
  have l1 := (amt1_len (n := l) (c := 108) b1.1 (by omega)).1
  have l2 := (amt1_len (n := s) (c := 115) b2.1 (by omega)).1
  have l3 := (amt1_len (n := d) (c := 100) b3.1 (by omega)).1
  have e0 := step 0 l 108 [] (by omega) rfl rfl b1 (by simp)
  have e1 := step 1 s 115 (amt1 l 108) (by omega) rfl rfl b2 (by omega)
  have e2 := step 2 d 100 (amt1 l 108 ++ amt1 s 115) (by omega) rfl rfl b3 (by simp only [List.length_append]; omega)
  have e3 : impl_AmountText_b1 l s d (((2 + 1 : Nat) : Int), amt1 l 108 ++ amt1 s 115 ++ amt1 d 100) = some (.inr (amt1 l 108 ++ amt1 s 115 ++ amt1 d 100)) := by
    unfold impl_AmountText_b1
    simp
  have hl : Lw (impl_AmountText_b1 l s d) (0, []) = some (amt1 l 108 ++ (amt1 s 115 ++ amt1 d 100)) := by
    rw [← List.append_assoc]
    exact (Lw_step e0).trans ((Lw_step e1).trans ((Lw_step e2).trans (Lw_stop e3)))
  rw [hl, Option.bind_some]
  have hj := join_len (amt1 l 108 ++ (amt1 s 115 ++ amt1 d 100)) 20 (fun x hx => by
    rcases List.mem_append.1 hx with h | h
    · exact (amt1_len b1.1 (by omega)).2 x h
    · rcases List.mem_append.1 h with h | h
      · exact (amt1_len b2.1 (by omega)).2 x h
      · exact (amt1_len b3.1 (by omega)).2 x h)
  have hn : (amt1 l 108 ++ (amt1 s 115 ++ amt1 d 100)).length ≤ 3 := by simp only [List.length_append]; omega
  have : (amt1 l 108 ++ (amt1 s 115 ++ amt1 d 100)).length * 21 ≤ 63 := by omega
  unfold strings_Join joinI
  rw [if_pos ⟨by omega, by omega⟩]
  rfl
theorem part_s {out : List UInt8} {n : Int} {c : UInt8} (h0 : 0 ≤ n) (h1 : n ≤ 1000000) (ho : out.length ≤ 100) : spec_l01Part out n [c] = some (if n = 0 then out else if out = [] then tx n ++ [c] else out ++ [32] ++ tx n ++ [c]) := by
  unfold spec_l01Part
  have hl := tx_len h0 (by omega)
  by_cases hz : n = 0
  · rw [if_pos (by simpa using hz), if_pos hz]
  rw [if_neg (by simpa using hz), if_neg hz]
  by_cases he : out = []
  · subst he
    rw [if_pos (by simp), if_pos rfl, dec_s h0 (by omega), Option.bind_some, sadd_some (by simp only [List.length_nil]; omega), Option.bind_some, sadd_some (by simp only [List.length_append, List.length_nil, List.length_singleton]; omega)]
    rfl
  · rw [if_neg (by simpa using he), if_neg he, sadd_some (by simp only [List.length_singleton]; omega), Option.bind_some, dec_s h0 (by omega), Option.bind_some, sadd_some (by simp only [List.length_append, List.length_singleton]; omega), Option.bind_some, sadd_some (by simp only [List.length_append, List.length_singleton]; omega)]
    rfl
theorem amt_s {a : Int} (h0 : 0 ≤ a) (h1 : a ≤ 100000000) : spec_l01AmountText a = some (amtT a) := by
  unfold spec_l01AmountText amtT
  by_cases hz : a = 0
  · subst hz; rfl
  rw [if_neg (by simpa using hz), if_neg hz, quo_pos h0 (by omega) (by decide), Option.bind_some, quo_pos h0 (by omega) (by decide), rem_pos h0 (by decide)]
  have b0 : ¬ (a / 240 = 0 ∧ a / 12 % 20 = 0 ∧ a % 12 = 0) := by omega
  have b1 : 0 ≤ a / 240 ∧ a / 240 ≤ 1000000 := by omega
  have b2 : 0 ≤ a / 12 % 20 ∧ a / 12 % 20 ≤ 1000000 := by omega
  have b3 : 0 ≤ a % 12 ∧ a % 12 ≤ 1000000 := by omega
  have hm := rem_pos (a := a / 12) (b := 20) (by omega) (by decide)
  simp only [Option.bind_some, hm]
  revert b0 b1 b2 b3
  generalize a / 240 = l, a / 12 % 20 = s, a % 12 = d
  intro b0 b1 b2 b3
  have t1 := tx_len (n := l) b1.1 (by omega)
  have t2 := tx_len (n := s) b2.1 (by omega)
  have t3 := tx_len (n := d) b3.1 (by omega)
  have p1 : l = 0 ∨ l > 0 := by omega
  have p2 : s = 0 ∨ s > 0 := by omega
  have p3 : d = 0 ∨ d > 0 := by omega
  rw [part_s b1.1 b1.2 (by simp)]
  simp only [Option.bind_some, if_true]
  rcases p1 with rfl | p1 <;> rcases p2 with rfl | p2 <;> rcases p3 with rfl | p3
  · exact absurd ⟨rfl, rfl, rfl⟩ b0
  all_goals
    simp (config := { decide := true }) only [if_true, if_false, amt1, List.nil_append, List.append_nil, Int.ne_of_gt, *]
    rw [part_s (by omega) (by omega) (by simp; try omega)]
    simp (config := { decide := true }) only [Option.bind_some, if_true, if_false, Int.ne_of_gt, *]
    rw [part_s (by omega) (by omega) (by simp; try omega)]
    simp [Lib.join, List.intercalate, Int.ne_of_gt, *]
theorem amtT_len {a : Int} (h0 : 0 ≤ a) (h1 : a ≤ 100000000) : (amtT a).length ≤ 63 := by
  unfold amtT
  split
  · simp
  have b1 : 0 ≤ a / 240 ∧ a / 240 ≤ 1000000 := by omega
  have b2 : 0 ≤ a / 12 % 20 ∧ a / 12 % 20 ≤ 1000000 := by omega
  have b3 : 0 ≤ a % 12 ∧ a % 12 ≤ 1000000 := by omega
  have k1 := amt1_len (n := a / 240) (c := 108) b1.1 (by omega)
  have k2 := amt1_len (n := a / 12 % 20) (c := 115) b2.1 (by omega)
  have k3 := amt1_len (n := a % 12) (c := 100) b3.1 (by omega)
  have hj := join_len (amt1 (a / 240) 108 ++ (amt1 (a / 12 % 20) 115 ++ amt1 (a % 12) 100)) 20 (fun x hx => by
    rcases List.mem_append.1 hx with h | h
    · exact k1.2 x h
    · rcases List.mem_append.1 h with h | h
      · exact k2.2 x h
      · exact k3.2 x h)
  have hn : (amt1 (a / 240) 108 ++ (amt1 (a / 12 % 20) 115 ++ amt1 (a % 12) 100)).length ≤ 3 := by simp only [List.length_append]; omega
  have : (amt1 (a / 240) 108 ++ (amt1 (a / 12 % 20) 115 ++ amt1 (a % 12) 100)).length * 21 ≤ 63 := by omega
  omega
end Go.Proofs.YtbhbmgmnnkcmcaaDoor
/- Texts put together line by line. -/
namespace Go.Proofs.YtbhbmgmnnkcmcaaDoor
open Go Go.Ab
theorem text_loop {τ : Type} {tb : List UInt8 × Int → Option ((List UInt8 × Int) ⊕ List UInt8)} (xs : List τ) (f : τ → List UInt8) (pre : List UInt8)
    (hs : ∀ (i : Nat) (hi : i < xs.length) (o : List UInt8), o = pre ++ ((xs.take i).map f).flatten → tb (o, (i : Int)) = some (.inl (o ++ f xs[i], ((i + 1 : Nat) : Int)))) (he : ∀ o, tb (o, (xs.length : Int)) = some (.inr o)) :
    Lw tb (pre, 0) = some (pre ++ (xs.map f).flatten) := by
  have key := Lw_run (tb := tb) (fun i => (pre ++ ((xs.take i).map f).flatten, (i : Int))) xs.length (r := pre ++ (xs.map f).flatten)
    (fun i hi => by
      rw [hs i hi _ rfl, List.take_succ_eq_append_getElem hi]
      simp only [List.map_append, List.map_cons, List.map_nil, List.flatten_append, List.flatten_cons, List.flatten_nil, List.append_nil, List.append_assoc])
    (by rw [he, List.take_length])
  simpa using key
theorem flat_len {τ : Type} (f : τ → List UInt8) (k : Nat) : ∀ (xs : List τ), (∀ x ∈ xs, (f x).length ≤ k) → ((xs.map f).flatten).length ≤ xs.length * k
  | [], _ => by simp
  | x :: r, h => by
    have h1 := h x (by simp)
    have h2 := flat_len f k r (fun y hy => h y (by simp [hy]))
    simp only [List.map_cons, List.flatten_cons, List.length_append, List.length_cons]
    rw [Nat.add_mul]; omega
theorem flat_take {τ : Type} (f : τ → List UInt8) (k : Nat) (xs : List τ) (h : ∀ x ∈ xs, (f x).length ≤ k) (i : Nat) : (((xs.take i).map f).flatten).length ≤ xs.length * k := by
  have := flat_len f k (xs.take i) (fun x hx => h x (List.mem_of_mem_take hx))
  have h2 : (xs.take i).length * k ≤ xs.length * k := Nat.mul_le_mul_right _ (by simp; omega)
  omega
end Go.Proofs.YtbhbmgmnnkcmcaaDoor
/- Accounts written out. -/
namespace Go.Proofs.YtbhbmgmnnkcmcaaDoor
open Go Go.Ab
def wordT (k : Int) : List UInt8 := ([[102, 97, 114, 109], [100, 101, 98, 116], [112, 97, 105, 100], [97, 108, 108, 111, 119, 101, 100]] : List (List UInt8)).getD k.toNat []
noncomputable def itemT (x : Item) : List UInt8 := wordT x.Kind ++ [32] ++ amtT x.Amount ++ [10]
noncomputable def tailT (n : Int) : List UInt8 := if n > 0 then [111, 119, 101, 115, 32] ++ amtT n ++ [10] else if n < 0 then [111, 118, 101, 114, 32] ++ amtT (-n) ++ [10] else [113, 117, 105, 116, 10]
noncomputable def accT (a : Account) : List UInt8 := a.Title ++ [10] ++ (a.Items.map itemT).flatten ++ tailT a.Balance
structure AcI (a : Account) : Prop where
  title : 1 ≤ a.Title.length ∧ a.Title.length ≤ 16
  items : a.Items.length ≤ 40
  item : ∀ x ∈ a.Items, itemB x = true
  bal : -100000000 ≤ a.Balance ∧ a.Balance ≤ 100000000
theorem word_rd {k : Int} (h : inB k 0 3 = true) : rd ([[102, 97, 114, 109], [100, 101, 98, 116], [112, 97, 105, 100], [97, 108, 108, 111, 119, 101, 100]] : List (List UInt8)) k = some (wordT k) ∧ (wordT k).length ≤ 7 := by
  obtain ⟨h0, h1⟩ := inB_iff.1 h
  have : k = 0 ∨ k = 1 ∨ k = 2 ∨ k = 3 := by omega
  rcases this with rfl | rfl | rfl | rfl <;> exact ⟨rfl, by decide⟩
theorem itemT_len {x : Item} (h : itemB x = true) : (itemT x).length ≤ 80 := by
  unfold itemB at h
  simp only [Bool.and_eq_true] at h
  have h1 := (word_rd h.1).2
  have h2 := inB_iff.1 h.2
  have h3 := amtT_len h2.1 h2.2
  unfold itemT
  simp only [List.length_append, List.length_singleton]
  omega
theorem tailT_len {n : Int} (h0 : -100000000 ≤ n) (h1 : n ≤ 100000000) : (tailT n).length ≤ 80 := by
  unfold tailT
  split
  · have := amtT_len (a := n) (by omega) h1
    simp only [List.length_append, List.length_cons, List.length_nil]; omega
  · split
    · have := amtT_len (a := -n) (by omega) (by omega)
      simp only [List.length_append, List.length_cons, List.length_nil]; omega
    · simp
theorem accT_len {a : Account} (h : AcI a) : (accT a).length ≤ 3400 := by
  have h1 := flat_len itemT 80 a.Items (fun x hx => itemT_len (h.item x hx))
  have h2 := tailT_len h.bal.1 h.bal.2
  have h3 := h.title
  have h4 := h.items
  unfold accT
  simp only [List.length_append, List.length_singleton]
  omega
theorem items_i (a : Account) (h : AcI a) : Lw (impl_AccountText_b1 a) (a.Title ++ [10], 0) = some (a.Title ++ [10] ++ (a.Items.map itemT).flatten) ∧ Lw (spec_l05Text_b1 a) (a.Title ++ [10], 0) = some (a.Title ++ [10] ++ (a.Items.map itemT).flatten) := by
  have step : ∀ (i : Nat) (hi : i < a.Items.length) (o : List UInt8), o = a.Title ++ [10] ++ ((a.Items.take i).map itemT).flatten →
      impl_AccountText_b1 a (o, (i : Int)) = some (.inl (o ++ itemT a.Items[i], ((i + 1 : Nat) : Int))) ∧ spec_l05Text_b1 a (o, (i : Int)) = some (.inl (o ++ itemT a.Items[i], ((i + 1 : Nat) : Int))) := by
    intro i hi o ho
    have hx := h.item _ (List.getElem_mem hi)
    have hl := itemT_len hx
    have hb := hx
    unfold itemB at hb
    simp only [Bool.and_eq_true] at hb
    have w := w64s hi (by have := h.items; omega)
    have hr : rd a.Items (i : Int) = some a.Items[i] := by rw [rd_coe, List.getElem?_eq_getElem hi]
    obtain ⟨k1, k2⟩ := word_rd hb.1
    have b2 := inB_iff.1 hb.2
    have k3 := amtT_len b2.1 b2.2
    have ol : o.length ≤ 17 + 40 * 80 := by
      have := flat_take itemT 80 a.Items (fun x hx => itemT_len (h.item x hx)) i
      have h1 := h.title
      have h2 : a.Items.length * 80 ≤ 40 * 80 := Nat.mul_le_mul_right _ h.items
      rw [ho]
      simp only [List.length_append, List.length_singleton]
      omega
    have s1 : sadd (wordT a.Items[i].Kind) [32] = some (wordT a.Items[i].Kind ++ [32]) := sadd_some (by simp only [List.length_singleton]; omega)
    have s2 : sadd (wordT a.Items[i].Kind ++ [32]) (amtT a.Items[i].Amount) = some (wordT a.Items[i].Kind ++ [32] ++ amtT a.Items[i].Amount) := sadd_some (by simp only [List.length_append, List.length_singleton]; omega)
    have s3 : sadd (wordT a.Items[i].Kind ++ [32] ++ amtT a.Items[i].Amount) [10] = some (itemT a.Items[i]) := sadd_some (by simp only [List.length_append, List.length_singleton]; omega)
    have s4 : sadd o (itemT a.Items[i]) = some (o ++ itemT a.Items[i]) := sadd_some (by omega)
    have e1 := amt_i b2.1 b2.2
    have e2 := amt_s b2.1 b2.2
    constructor
    · unfold impl_AccountText_b1 impl_itemWords
      simp only [hr, Option.bind_some, k1, s1, e1, s2, s3, s4, w]
      rw [if_pos (by simpa using hi)]
    · unfold spec_l05Text_b1 spec_l05Words
      simp only [hr, Option.bind_some, k1, s1, e2, s2, s3, s4, w]
      rw [if_pos (by simpa using hi)]
  exact ⟨text_loop a.Items itemT _ (fun i hi o ho => (step i hi o ho).1) (fun o => by simp [impl_AccountText_b1]), text_loop a.Items itemT _ (fun i hi o ho => (step i hi o ho).2) (fun o => by simp [spec_l05Text_b1])⟩
theorem account_true (a : Account) (h : a.ok) (hc : impl_CheckAccount a = some true) : 1 ≤ a.Title.length ∧ a.Title.length ≤ 16 ∧ a.Items.length ≤ 40 ∧ ∀ x ∈ a.Items, itemB x = true := by
  have hT : a.Title.length ≤ 140737488351232 := h.1
  have hI := h.2.1.2.1
  obtain ⟨v, v1, v2⟩ := balance_same a.Items (by omega)
  unfold impl_CheckAccount at hc
  rw [isLetters_eq _ _ (by omega), validItems_eq _ (by omega), v1] at hc
  cases ht : lettersB a.Title 16 with
  | false => rw [ht] at hc; simp at hc
  | true =>
    cases hi : a.Items.all itemB && decide (a.Items.length ≤ 40) with
    | false => rw [ht, hi] at hc; simp at hc
    | true =>
      unfold lettersB at ht
      simp only [Bool.and_eq_true, decide_eq_true_eq, List.all_eq_true] at ht hi
      exact ⟨ht.1.2, by omega, hi.2, hi.1⟩
theorem size_amount {n : Int} (h : InR .i64 n) : (impl_size n).bind impl_isAmount = some (inB n (-100000000) 100000000) := by
  obtain ⟨h0, h1⟩ := inR64.1 h
  unfold impl_size
  rw [Option.bind_some, isAmount_eq]
  congr 1
  by_cases hm : n = -9223372036854775808
  · subst hm
    have : IntKind.i64.wrap (0 - (-9223372036854775808)) = -9223372036854775808 := by decide
    rw [this]; decide
  · rw [w64 (by omega), Bool.eq_iff_iff, inB_iff, inB_iff]
    omega
theorem plain_same (a : Account) (h : a.ok) : ∃ c p, impl_CheckAccount a = some c ∧ (c = true → (impl_size a.Balance).bind impl_isAmount = some p) ∧ (c = false → p = false) ∧ spec_l05Plain a = some p ∧ (p = true → AcI a) := by
  obtain ⟨c, c1, c2⟩ := account_same a h
  have hs := size_amount h.2.2
  cases c with
  | false => exact ⟨false, false, c1, (fun e => by cases e), fun _ => rfl, by unfold spec_l05Plain; rw [c2]; simp, (fun e => by cases e)⟩
  | true =>
    obtain ⟨t1, t2, t3, t4⟩ := account_true a h c1
    refine ⟨true, _, c1, fun _ => hs, (fun e => by cases e), by unfold spec_l05Plain; rw [c2, Option.bind_some, if_pos rfl, l00In_eq, Option.bind_some], fun e => ⟨⟨t1, t2⟩, t3, t4, inB_iff.1 e⟩⟩
theorem text_s (a : Account) (h : AcI a) : spec_l05Text a = some (accT a) := by
  have h1 := h.title
  have hf := flat_len itemT 80 a.Items (fun x hx => itemT_len (h.item x hx))
  have h2 : a.Items.length * 80 ≤ 40 * 80 := Nat.mul_le_mul_right _ h.items
  have hp : (a.Title ++ [10] ++ (a.Items.map itemT).flatten).length ≤ 3300 := by simp only [List.length_append, List.length_singleton]; omega
  have ht := tailT_len h.bal.1 h.bal.2
  have hb := h.bal
  unfold spec_l05Text accT
  rw [sadd_some (by simp only [List.length_singleton]; omega), Option.bind_some, (items_i a h).2, Option.bind_some]
  generalize a.Title ++ [10] ++ (a.Items.map itemT).flatten = o at hp
  unfold tailT at ht ⊢
  by_cases k1 : a.Balance > 0
  · rw [if_pos (by simpa using k1), if_pos k1, amt_s (by omega) (by omega)]
    rw [if_pos k1] at ht
    simp only [List.length_append, List.length_cons, List.length_nil] at ht
    rw [sadd_some (by simp only [List.length_cons, List.length_nil]; omega), Option.bind_some, Option.bind_some, sadd_some (by simp only [List.length_append, List.length_cons, List.length_nil]; omega), Option.bind_some, sadd_some (by simp only [List.length_append, List.length_cons, List.length_nil]; omega)]
    simp
  · rw [if_neg (by simpa using k1), if_neg k1]
    rw [if_neg k1] at ht
    by_cases k2 : a.Balance < 0
    · have w : IntKind.i64.wrap (0 - a.Balance) = -a.Balance := by rw [w64 (by omega)]; omega
      rw [if_pos (by simpa using k2), if_pos k2, w, amt_s (by omega) (by omega)]
      rw [if_pos k2] at ht
      simp only [List.length_append, List.length_cons, List.length_nil] at ht
      rw [sadd_some (by simp only [List.length_cons, List.length_nil]; omega), Option.bind_some, Option.bind_some, sadd_some (by simp only [List.length_append, List.length_cons, List.length_nil]; omega), Option.bind_some, sadd_some (by simp only [List.length_append, List.length_cons, List.length_nil]; omega)]
      simp
    · rw [if_neg (by simpa using k2), if_neg k2, sadd_some (by simp only [List.length_cons, List.length_nil]; omega)]
      simp
theorem text_i (a : Account) (h : AcI a) (hc : impl_CheckAccount a = some true) (hs : (impl_size a.Balance).bind impl_isAmount = some true) : impl_AccountText a = some (accT a) := by
  have h1 := h.title
  have hf := flat_len itemT 80 a.Items (fun x hx => itemT_len (h.item x hx))
  have h2 : a.Items.length * 80 ≤ 40 * 80 := Nat.mul_le_mul_right _ h.items
  have hp : (a.Title ++ [10] ++ (a.Items.map itemT).flatten).length ≤ 3300 := by simp only [List.length_append, List.length_singleton]; omega
  have ht := tailT_len h.bal.1 h.bal.2
  have hb := h.bal
  obtain ⟨r, r1, r2⟩ := bind_some hs
  unfold impl_AccountText accT
  simp only [hc, r1, r2, Option.bind_some, if_true, Bool.not_true, Bool.false_eq_true, if_false]
  rw [sadd_some (by simp only [List.length_singleton]; omega), Option.bind_some, (items_i a h).1, Option.bind_some]
  generalize a.Title ++ [10] ++ (a.Items.map itemT).flatten = o at hp
  unfold tailT at ht ⊢
  by_cases k1 : a.Balance > 0
  · rw [if_pos (by simpa using k1), if_pos k1, amt_i (by omega) (by omega)]
    rw [if_pos k1] at ht
    simp only [List.length_append, List.length_cons, List.length_nil] at ht
    rw [sadd_some (by simp only [List.length_cons, List.length_nil]; omega), Option.bind_some, Option.bind_some, sadd_some (by simp only [List.length_append, List.length_cons, List.length_nil]; omega), Option.bind_some, sadd_some (by simp only [List.length_append, List.length_cons, List.length_nil]; omega)]
    simp
  · rw [if_neg (by simpa using k1), if_neg k1]
    rw [if_neg k1] at ht
    by_cases k2 : a.Balance < 0
    · have w : IntKind.i64.wrap (0 - a.Balance) = -a.Balance := by rw [w64 (by omega)]; omega
      rw [if_pos (by simpa using k2), if_pos k2, w, amt_i (by omega) (by omega)]
      rw [if_pos k2] at ht
      simp only [List.length_append, List.length_cons, List.length_nil] at ht
      rw [sadd_some (by simp only [List.length_cons, List.length_nil]; omega), Option.bind_some, Option.bind_some, sadd_some (by simp only [List.length_append, List.length_cons, List.length_nil]; omega), Option.bind_some, sadd_some (by simp only [List.length_append, List.length_cons, List.length_nil]; omega)]
      simp
    · rw [if_neg (by simpa using k2), if_neg k2, sadd_some (by simp only [List.length_cons, List.length_nil]; omega)]
      simp
theorem accText_same (a : Account) (h : a.ok) : ∃ t, impl_AccountText a = some t ∧ ∃ p, spec_l05Plain a = some p ∧ (p = true → t = accT a ∧ AcI a ∧ spec_l05Text a = some (accT a)) ∧ (p = false → t = []) := by
  obtain ⟨c, p, c1, c2, c3, c4, c5⟩ := plain_same a h
  cases p with
  | true =>
    cases c with
    | false => cases c3 rfl
    | true => exact ⟨_, text_i a (c5 rfl) c1 (c2 rfl), true, c4, fun _ => ⟨rfl, c5 rfl, text_s a (c5 rfl)⟩, (fun e => by cases e)⟩
  | false =>
    refine ⟨[], ?_, false, c4, fun e => (by cases e), fun _ => rfl⟩
    unfold impl_AccountText
    cases c with
    | false => simp [c1]
    | true =>
      obtain ⟨r, r1, r2⟩ := bind_some (c2 rfl)
      simp [c1, r1, r2]
end Go.Proofs.YtbhbmgmnnkcmcaaDoor
/- Rolls written out. -/
namespace Go.Proofs.YtbhbmgmnnkcmcaaDoor
open Go Go.Ab
theorem roll_true (r : Roll) (h : impl_validRoll r = some true) : r.Accounts.length ≤ 20 := by
  unfold impl_validRoll impl_FirstFault at h
  by_cases hl : (r.Accounts.length : Int) > 20
  · simp [hl] at h
  · omega
theorem accT_ne (a : Account) : accT a ≠ [] := by
  unfold accT; simp
theorem rollText_loop (r : Roll) (h : r.ok) (hn : r.Accounts.length ≤ 20) : ∃ q q2, Lw (impl_RollText_b1 r) ([], 0) = some q ∧ Lw (spec_RollText_b1 r) ([], 0) = some q2 ∧ q = q2 ∧ ∀ o, q = .inr o → o.length ≤ 3400 * 20 := by
  refine Lw_sim (tb := impl_RollText_b1 r) (tb2 := spec_RollText_b1 r) (fun s => r.Accounts.length - s.2.toNat) (fun s s2 => s = s2 ∧ ∃ i : Nat, s.2 = i ∧ i ≤ r.Accounts.length ∧ s.1.length ≤ 3400 * i) _ ?_ _ _ _ rfl ⟨rfl, 0, rfl, by omega, by simp⟩
  rintro ⟨o, j⟩ s2 ⟨rfl, i, hi, hil, hol⟩
  simp only at hi hol
  subst hi
  by_cases hlt : i < r.Accounts.length
  · have hr : rd r.Accounts (i : Int) = some r.Accounts[i] := by rw [rd_coe, List.getElem?_eq_getElem hlt]
    have w := w64s hlt (by omega)
    obtain ⟨t, t1, p, p1, p2, p3⟩ := accText_same r.Accounts[i] (h.1.2.2 _ (List.getElem_mem hlt))
    cases p with
    | true =>
      obtain ⟨rfl, hI, q⟩ := p2 rfl
      have hl := accT_len hI
      have s1 : sadd o (accT r.Accounts[i]) = some (o ++ accT r.Accounts[i]) := sadd_some (by omega)
      have hne := accT_ne r.Accounts[i]
      exact .inl ⟨(o ++ accT r.Accounts[i], ((i + 1 : Nat) : Int)), _, by simp [impl_RollText_b1, hlt, hr, t1, hne, s1, w], by simp [spec_RollText_b1, hlt, hr, p1, q, s1, w], ⟨rfl, i + 1, rfl, by omega, by simp only [List.length_append]; omega⟩, by simp; omega⟩
    | false =>
      have := p3 rfl
      subst this
      exact .inr ⟨.inl (), .inl (), by simp [impl_RollText_b1, hlt, hr, t1], by simp [spec_RollText_b1, hlt, hr, p1], rfl, fun o e => by cases e⟩
  · exact .inr ⟨.inr o, .inr o, by simp [impl_RollText_b1, hlt], by simp [spec_RollText_b1, hlt], rfl, fun o' e => by cases e; omega⟩
theorem rollText_same (r : Roll) (h : r.ok) : ∃ t, impl_RollText r = some t ∧ spec_RollText r = some t := by
  obtain ⟨b, b1, b2⟩ := roll_same r h
  unfold impl_RollText spec_RollText
  rw [b1, b2, isAmount_eq, l01Amount_eq]
  cases b with
  | false => exact ⟨[], by simp, by simp⟩
  | true =>
    cases ha : inB r.Owed 0 100000000 with
    | false => exact ⟨[], by simp, by simp⟩
    | true =>
      obtain ⟨a0, a1⟩ := inB_iff.1 ha
      obtain ⟨q, _, e1, e2, rfl, e3⟩ := rollText_loop r h (roll_true r b1)
      rcases q with y | o
      · exact ⟨[], by simp [e1], by simp [e2]⟩
      · have hl := e3 o rfl
        have hm := amtT_len a0 a1
        have s1 : sadd o [111, 119, 101, 100, 32] = some (o ++ [111, 119, 101, 100, 32]) := sadd_some (by simp only [List.length_cons, List.length_nil]; omega)
        have s2 : sadd (o ++ [111, 119, 101, 100, 32]) (amtT r.Owed) = some (o ++ [111, 119, 101, 100, 32] ++ amtT r.Owed) := sadd_some (by simp only [List.length_append, List.length_cons, List.length_nil]; omega)
        have s3 : sadd (o ++ [111, 119, 101, 100, 32] ++ amtT r.Owed) [10] = some (o ++ [111, 119, 101, 100, 32] ++ amtT r.Owed ++ [10]) := sadd_some (by simp only [List.length_append, List.length_cons, List.length_nil]; omega)
        refine ⟨o ++ [111, 119, 101, 100, 32] ++ amtT r.Owed ++ [10], ?_, ?_⟩
        · simp only [Option.bind_some, if_true, Bool.not_true, Bool.false_eq_true, if_false, e1, s1, amt_i a0 a1, s2, s3]
        · simp only [Option.bind_some, if_true, Bool.not_true, Bool.false_eq_true, if_false, e2, s1, amt_s a0 a1, s2, s3]
end Go.Proofs.YtbhbmgmnnkcmcaaDoor

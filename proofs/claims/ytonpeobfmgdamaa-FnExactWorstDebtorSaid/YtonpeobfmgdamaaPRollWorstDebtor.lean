/- Accounts and rolls: equal, copied, weighed. -/
import Derived.Test.YtonpeobfmgdamaaPPartyWorstDebtor
set_option linter.unusedVariables false
set_option linter.unusedSimpArgs false
namespace Go.Proofs.Ytonpeobfmgdamaa
open Go Go.Ab
theorem item_eq {x y : Item} : x = y ↔ x.Kind = y.Kind ∧ x.Amount = y.Amount := by cases x; cases y; simp
theorem account_eq {x y : Account} : x = y ↔ x.Title = y.Title ∧ x.Items = y.Items ∧ x.Balance = y.Balance := by cases x; cases y; simp
theorem roll_eq {x y : Roll} : x = y ↔ x.Accounts = y.Accounts ∧ x.Owed = y.Owed := by cases x; cases y; simp
theorem eqItem_eq (x y : Item) : laws_eqItem x y = some (decide (x = y)) := by
  unfold laws_eqItem
  simp only [item_eq, bne_iff_ne, ne_eq, ite_not]
  repeat' split
  all_goals simp_all
theorem eqItemS_eq (a b : List Item) (h : a.length ≤ 4611686018427387904) : laws_eqItemS a b = some (decide (a = b)) := by
  unfold laws_eqItemS
  by_cases hl : a.length = b.length
  · rw [if_neg (by simp [hl]), eqS_loop a b h hl (fun i h1 h2 => by
      simp only [laws_eqItemS_b1, rd_coe, List.getElem?_eq_getElem h1, List.getElem?_eq_getElem h2, Option.bind_some, eqItem_eq]
      by_cases he : a[i] = b[i] <;> simp [he, h1]) (by simp [laws_eqItemS_b1])]
    by_cases he : a = b <;> simp [he]
  · rw [if_pos (by simp; omega)]
    have : a ≠ b := fun h => hl (by rw [h])
    simp [this]
theorem toItemS_eq (a : List Item) (h : a.length * 16 ≤ 140737488351232) : laws_toItemS a = some a := by
  unfold laws_toItemS
  have key := copy_loop (tb := laws_toItemS_b1 a) a (List.replicate a.length ⟨0, 0⟩) (by omega) (by simp)
    (by intro i zs hi hz; simp [laws_toItemS_b1, laws_toItem, rd_coe, hi, hz]) (by intro zs hz; simp [laws_toItemS_b1])
  rw [mkS_some h (by omega), Option.bind_some, key, Option.bind_some]
theorem toAccount_eq (a : Account) (h : a.ok) : laws_toAccount a = some (a.Title, a.Items, a.Balance) := by
  unfold laws_toAccount
  rw [toItemS_eq _ h.2.1.2.1, Option.bind_some]
theorem eqAccount_eq (x y : Account) (h : x.ok) : laws_eqAccount x y = some (decide (x = y)) := by
  have h1 := h.2.1.2.1
  unfold laws_eqAccount
  rw [eqItemS_eq _ _ (by omega)]
  by_cases e1 : x.Title = y.Title <;> by_cases e2 : x.Items = y.Items <;> by_cases e3 : x.Balance = y.Balance <;> simp [account_eq, e1, e2, e3]
theorem eqAccountS_eq (a b : List Account) (h : okLs 48 Account.ok a) : laws_eqAccountS a b = some (decide (a = b)) := by
  have hn := h.2.1
  unfold laws_eqAccountS
  by_cases hl : a.length = b.length
  · rw [if_neg (by simp [hl]), eqS_loop a b (by omega) hl (fun i h1 h2 => by
      have ht := eqAccount_eq a[i] b[i] (h.2.2 _ (List.getElem_mem h1))
      simp only [laws_eqAccountS_b1, rd_coe, List.getElem?_eq_getElem h1, List.getElem?_eq_getElem h2, Option.bind_some, ht]
      by_cases he : a[i] = b[i] <;> simp [he, h1]) (by simp [laws_eqAccountS_b1])]
    by_cases he : a = b <;> simp [he]
  · rw [if_pos (by simp; omega)]
    have : a ≠ b := fun h => hl (by rw [h])
    simp [this]
theorem map_loop {τ σ : Type} {tb : Int × List σ → Option ((Int × List σ) ⊕ List σ)} (g : τ → σ) (xs : List τ) (ys : List σ) (hn : xs.length ≤ 4611686018427387904) (hl : ys.length = xs.length)
    (hs : ∀ (i : Nat) (hi : i < xs.length) (zs : List σ), zs.length = xs.length → tb ((i : Int), zs) = some (.inl (((i + 1 : Nat) : Int), zs.set i (g xs[i])))) (he : ∀ zs : List σ, zs.length = xs.length → tb ((xs.length : Int), zs) = some (.inr zs)) :
    Lw tb (0, ys) = some (xs.map g) := by
  have key := Lw_run (tb := tb) (fun i => ((i : Int), (xs.map g).take i ++ ys.drop i)) xs.length (r := xs.map g)
    (by
      intro i hi
      rw [hs i hi _ (by simp; omega)]
      congr 3
      rw [List.set_append_right _ _ (by simp; omega), List.length_take, List.length_map, Nat.min_eq_left (by omega), Nat.sub_self, List.drop_eq_getElem_cons (by omega), List.set_cons_zero, List.take_succ_eq_append_getElem (by simpa using hi), List.append_assoc]
      simp)
    (by
      rw [he _ (by simp; omega)]
      congr 2
      rw [List.take_of_length_le (by simp), List.drop_eq_nil_of_le (by omega), List.append_nil])
  have e : (((0 : Nat) : Int), (xs.map g).take 0 ++ ys.drop 0) = (0, ys) := by simp
  rw [e] at key
  exact key
def acN (b : Account) : AccountN := ⟨b.Title, some b.Items, b.Balance⟩
theorem unL_ac (a : List Account) : unL AccountN.un (a.map acN) = some a := by
  induction a with
  | nil => rfl
  | cons x r ih => simp [unL, ih, acN, AccountN.un]
theorem toAccountS_eq (a : List Account) (h : okLs 48 Account.ok a) : laws_toAccountS a = some a := by
  have hn := h.2.1
  unfold laws_toAccountS
  have key := map_loop (tb := laws_toAccountS_b1 a) acN a (List.replicate a.length ⟨[], none, 0⟩) (by omega) (by simp)
    (by
      intro i hi zs hz
      have ht := toAccount_eq a[i] (h.2.2 _ (List.getElem_mem hi))
      simp [laws_toAccountS_b1, ht, rd_coe, hi, hz, w64s hi (show a.length ≤ 4611686018427387904 by omega), acN]) (by intro zs hz; simp [laws_toAccountS_b1])
  rw [mkS_some hn (by omega), Option.bind_some, key, Option.bind_some, unL_ac]
  rfl
theorem szItemS_some (xs : List Item) (n : Int) : ∃ r, laws_szItemS xs n = some r := by
  unfold laws_szItemS; split <;> exact ⟨_, rfl⟩
theorem szAccount_some (a : Account) (n : Int) : ∃ r, laws_szAccount a n = some r := by
  unfold laws_szAccount
  split
  · exact ⟨_, rfl⟩
  obtain ⟨r, hr⟩ := szItemS_some a.Items (IntKind.i64.wrap (n - (a.Title.length : Int)))
  rw [hr, Option.bind_some]
  split <;> exact ⟨_, rfl⟩
theorem szAccountS_some (xs : List Account) (n : Int) (hn : xs.length ≤ 4611686018427387904) : ∃ r, laws_szAccountS xs n = some r := by
  unfold laws_szAccountS
  split
  · exact ⟨_, rfl⟩
  obtain ⟨r, hr⟩ := sz_loop (tb := laws_szAccountS_b1 xs) xs.length (fun a i hi => by
    have w := w64s hi hn
    obtain ⟨q, hq⟩ := szAccount_some xs[i] a
    by_cases h0 : q < 0
    · exact .inr (by simp [laws_szAccountS_b1, rd_coe, hi, hq, h0])
    · exact .inl ⟨q, by simp [laws_szAccountS_b1, rd_coe, hi, hq, h0, w]⟩) (fun a => by simp [laws_szAccountS_b1]) (IntKind.i64.wrap (n - (xs.length : Int)))
  rw [hr, Option.bind_some]
  rcases r with r | r <;> exact ⟨_, rfl⟩
theorem toRoll_eq (r : Roll) (h : r.ok) : laws_toRoll r = some (r.Accounts, r.Owed) := by
  unfold laws_toRoll
  rw [toAccountS_eq _ h.1, Option.bind_some]
theorem eqRoll_eq (x y : Roll) (h : x.ok) : laws_eqRoll x y = some (decide (x = y)) := by
  unfold laws_eqRoll
  rw [eqAccountS_eq _ _ h.1]
  by_cases e1 : x.Accounts = y.Accounts <;> by_cases e2 : x.Owed = y.Owed <;> simp [roll_eq, e1, e2]
theorem szRoll_some (r : Roll) (n : Int) (h : r.ok) : ∃ q, laws_szRoll r n = some q := by
  have hn := h.1.2.1
  unfold laws_szRoll
  obtain ⟨q, hq⟩ := szAccountS_some r.Accounts n (by omega)
  rw [hq, Option.bind_some]
  split <;> exact ⟨_, rfl⟩
end Go.Proofs.Ytonpeobfmgdamaa

/- Rolls that are right: the program's word and the reference's. -/
import Derived.Test.YtonpeobfmgdamaaPRollWorstDebtor
set_option linter.unusedVariables false
set_option linter.unusedSimpArgs false
namespace Go.Proofs.Ytonpeobfmgdamaa
open Go Go.Ab
theorem l05Title_eq (s : List UInt8) (hn : s.length ≤ 4611686018427387904) : spec_l05Title s = some (lettersB s 16) := by
  have e : Lw (spec_l05Title_b1 s) 0 = Lw (impl_isLetters_b1 s) 0 := rfl
  unfold spec_l05Title lettersB
  rw [e, isLetters_loop s hn]
  cases s.all letB with
  | false => simp
  | true => simp [l00In_eq, inB]; cases s <;> simp <;> omega
def itemB (x : Item) : Bool := inB x.Kind 0 3 && inB x.Amount 0 100000000
theorem validItem_eq (x : Item) : impl_validItem x = some (itemB x) := by
  unfold impl_validItem itemB
  rw [isAmount_eq]
  by_cases h1 : x.Kind ≥ 0
  · by_cases h2 : x.Kind ≤ 3
    · have : inB x.Kind 0 3 = true := inB_iff.2 ⟨h1, h2⟩
      simp [h1, h2, this]
    · have : inB x.Kind 0 3 = false := by unfold inB; simp; omega
      simp [h1, h2, this]
  · have : inB x.Kind 0 3 = false := by unfold inB; simp; omega
    simp [h1, this]
theorem l05Item_eq (x : Item) (h : x.ok) : spec_l05Item x = some (itemB x) := by
  have hk := inR8.1 h.1
  unfold spec_l05Item itemB
  rw [w64 (by omega), l00In_eq, l01Amount_eq]
  cases inB x.Kind 0 3 <;> simp
theorem validItems_eq (xs : List Item) (hn : xs.length ≤ 4611686018427387904) : impl_ValidItems xs = some (xs.all itemB && decide (xs.length ≤ 40)) := by
  unfold impl_ValidItems
  have key := scan_all (tb := impl_ValidItems_b1 xs) xs.length hn (fun i => (xs[i]?).all itemB) () ()
    (by
      intro i hi
      simp only [impl_ValidItems_b1, rd_coe, List.getElem?_eq_getElem hi, Option.bind_some, validItem_eq, Option.all_some]
      rw [if_pos (by simpa using hi)]
      cases itemB xs[i] <;> simp)
    (by simp [impl_ValidItems_b1])
  rw [key, all_get]
  have : decide ((xs.length : Int) ≤ 40) = decide (xs.length ≤ 40) := by rw [Bool.eq_iff_iff, decide_eq_true_eq, decide_eq_true_eq]; omega
  cases xs.all itemB <;> simp [this]
theorem l05Items_eq (xs : List Item) (hn : xs.length ≤ 4611686018427387904) (hx : ∀ x ∈ xs, Item.ok x) : spec_l05Items xs = some (xs.all itemB && decide (xs.length ≤ 40)) := by
  unfold spec_l05Items
  by_cases h : (xs.length : Int) > 40
  · have : decide (xs.length ≤ 40) = false := by rw [decide_eq_false_iff_not]; omega
    rw [if_pos (by simpa using h), this, Bool.and_false]
  · have h' : decide (xs.length ≤ 40) = true := by rw [decide_eq_true_eq]; omega
    have key := scan_all (tb := spec_l05Items_b1 xs) xs.length hn (fun i => (xs[i]?).all itemB) () ()
      (by
        intro i hi
        have ht := l05Item_eq xs[i] (hx _ (List.getElem_mem hi))
        simp only [spec_l05Items_b1, rd_coe, List.getElem?_eq_getElem hi, Option.bind_some, ht, Option.all_some]
        rw [if_pos (by simpa using hi)]
        cases itemB xs[i] <;> simp)
      (by simp [spec_l05Items_b1])
    rw [if_neg (by simpa using h), key, all_get, h', Bool.and_true]
    cases xs.all itemB <;> simp
theorem balance_same (xs : List Item) (hn : xs.length ≤ 4611686018427387904) : ∃ v, impl_balance xs = some v ∧ spec_l05Balance xs = some v := by
  have : ∃ r r2 : Int, Lw (impl_balance_b1 xs) (0, 0) = some r ∧ Lw (spec_l05Balance_b1 xs) (0, 0) = some r2 ∧ r = r2 := by
    refine Lw_sim (tb := impl_balance_b1 xs) (tb2 := spec_l05Balance_b1 xs) (fun s => xs.length - s.2.toNat) (fun s s2 => s = s2 ∧ ∃ i : Nat, s.2 = i ∧ i ≤ xs.length) _ ?_ _ _ _ rfl ⟨rfl, 0, rfl, by omega⟩
    rintro ⟨a, j⟩ s2 ⟨rfl, i, hi, hil⟩
    simp only at hi
    subst hi
    by_cases hlt : i < xs.length
    · have hr : rd xs (i : Int) = some xs[i] := by rw [rd_coe, List.getElem?_eq_getElem hlt]
      have w := w64s hlt (by omega)
      left
      by_cases k0 : xs[i].Kind = 0
      · exact ⟨(IntKind.i64.wrap (a + xs[i].Amount), ((i + 1 : Nat) : Int)), _, by simp [impl_balance_b1, hlt, hr, k0, w], by simp [spec_l05Balance_b1, hlt, hr, k0, w], ⟨rfl, i + 1, rfl, by omega⟩, by simp; omega⟩
      · by_cases k1 : xs[i].Kind = 1
        · exact ⟨(IntKind.i64.wrap (a + xs[i].Amount), ((i + 1 : Nat) : Int)), _, by simp [impl_balance_b1, hlt, hr, k1, w], by simp [spec_l05Balance_b1, hlt, hr, k1, w], ⟨rfl, i + 1, rfl, by omega⟩, by simp; omega⟩
        · exact ⟨(IntKind.i64.wrap (a - xs[i].Amount), ((i + 1 : Nat) : Int)), _, by simp [impl_balance_b1, hlt, hr, k0, k1, w], by simp [spec_l05Balance_b1, hlt, hr, k0, k1, w], ⟨rfl, i + 1, rfl, by omega⟩, by simp; omega⟩
    · exact .inr ⟨a, a, by simp [impl_balance_b1, hlt], by simp [spec_l05Balance_b1, hlt], rfl⟩
  obtain ⟨r, _, e1, e2, rfl⟩ := this
  exact ⟨r, by unfold impl_balance; rw [e1]; rfl, by unfold spec_l05Balance; rw [e2]; rfl⟩
theorem account_same (a : Account) (h : a.ok) : ∃ b, impl_CheckAccount a = some b ∧ spec_l05Right a = some b := by
  have hT : a.Title.length ≤ 140737488351232 := h.1
  have hI := h.2.1.2.1
  obtain ⟨v, v1, v2⟩ := balance_same a.Items (by omega)
  unfold impl_CheckAccount spec_l05Right
  rw [isLetters_eq _ _ (by omega), l05Title_eq _ (by omega), validItems_eq _ (by omega), l05Items_eq _ (by omega) h.2.1.2.2, v1, v2]
  cases lettersB a.Title 16 with
  | false => exact ⟨false, by simp, by simp⟩
  | true =>
    cases a.Items.all itemB && decide (a.Items.length ≤ 40) with
    | false => exact ⟨false, by simp, by simp⟩
    | true => exact ⟨a.Balance == v, by simp, by simp⟩
theorem hasTitle_eq (xs : List Account) (t : List UInt8) (hn : xs.length ≤ 4611686018427387904) : impl_hasTitle xs t = some (xs.any fun a => decide (a.Title = t)) := by
  unfold impl_hasTitle slices_ContainsFunc_Account__impl_hasTitle_1 slices_IndexFunc_Account__impl_hasTitle_1
  have key := find_first (tb := slices_IndexFunc_Account__impl_hasTitle_1_b1 xs t) (fun a => decide (a.Title = t)) xs (fun i => .inl (i : Int)) (.inr ())
    (by
      intro i h hp
      have w := w64s h hn
      simp only [decide_eq_false_iff_not] at hp
      simp [slices_IndexFunc_Account__impl_hasTitle_1_b1, impl_hasTitle_1, rd_coe, h, hp, w])
    (by
      intro i h hp
      simp only [decide_eq_true_eq] at hp
      simp [slices_IndexFunc_Account__impl_hasTitle_1_b1, impl_hasTitle_1, rd_coe, h, hp])
    (by simp [slices_IndexFunc_Account__impl_hasTitle_1_b1])
  rw [key, any_find]
  by_cases h : xs.findIdx (fun a => decide (a.Title = t)) < xs.length
  · simp [h]
  · simp [h]
theorem twin_eq (xs : List Account) (i : Nat) (hi : i < xs.length) (hn : xs.length ≤ 4611686018427387904) : spec_l05Twin xs (i : Int) = some ((xs.take i).any fun a => decide (a.Title = xs[i].Title)) := by
  unfold spec_l05Twin
  have hl : (xs.take i).length = i := by simp; omega
  have key := find_first (tb := spec_l05Twin_b1 xs (i : Int)) (fun a => decide (a.Title = xs[i].Title)) (xs.take i) (fun _ => .inl ()) (.inr ())
    (by
      intro j h hp
      have h' : j < i := by omega
      have h'' : j < xs.length := by omega
      have w := w64s h'' hn
      simp only [List.getElem_take, decide_eq_false_iff_not] at hp
      simp [spec_l05Twin_b1, rd_coe, h', h'', hi, hp, w])
    (by
      intro j h hp
      have h' : j < i := by omega
      have h'' : j < xs.length := by omega
      simp only [List.getElem_take, decide_eq_true_eq] at hp
      simp [spec_l05Twin_b1, rd_coe, h', h'', hi, hp])
    (by simp [spec_l05Twin_b1, hl])
  rw [key, any_find]
  by_cases h : (xs.take i).findIdx (fun a => decide (a.Title = xs[i].Title)) < (xs.take i).length
  · simp only [h, if_true, decide_true]; rfl
  · simp only [h, if_false, decide_false]; rfl
theorem slc0 {τ : Type} (xs : List τ) (n : Nat) (h : n ≤ xs.length) : slc xs 0 (n : Int) = some (xs.take n) := by
  unfold slc
  rw [if_pos ⟨by omega, by omega, by omega⟩]; simp
theorem fault_loop (r : Roll) (h : r.ok) : ∃ q q2, Lw (impl_FirstFault_b1 r) 0 = some q ∧ Lw (spec_l05Fault_b1 r) 0 = some q2 ∧ q = q2 ∧ ∀ y : Int, q = .inl y → 0 ≤ y := by
  have hn := h.1.2.1
  refine Lw_sim (tb := impl_FirstFault_b1 r) (tb2 := spec_l05Fault_b1 r) (fun s => r.Accounts.length - s.toNat) (fun s s2 => s = s2 ∧ ∃ i : Nat, s = i ∧ i ≤ r.Accounts.length) _ ?_ _ _ _ rfl ⟨rfl, 0, rfl, by omega⟩
  rintro s s2 ⟨rfl, i, rfl, hil⟩
  by_cases hlt : i < r.Accounts.length
  · have hr : rd r.Accounts (i : Int) = some r.Accounts[i] := by rw [rd_coe, List.getElem?_eq_getElem hlt]
    have w := w64s hlt (by omega)
    obtain ⟨b, b1, b2⟩ := account_same r.Accounts[i] (h.1.2.2 _ (List.getElem_mem hlt))
    have t1 := hasTitle_eq (r.Accounts.take i) r.Accounts[i].Title (by simp; omega)
    have t2 := twin_eq r.Accounts i hlt (by omega)
    have sl := slc0 r.Accounts i (by omega)
    cases b with
    | false => exact .inr ⟨.inl i, .inl i, by simp [impl_FirstFault_b1, hlt, hr, b1], by simp [spec_l05Fault_b1, hlt, hr, b2], rfl, fun y e => by cases e; omega⟩
    | true =>
      cases hk : (r.Accounts.take i).any fun a => decide (a.Title = r.Accounts[i].Title) with
      | true =>
        rw [hk] at t1 t2
        exact .inr ⟨.inl i, .inl i, by simp [impl_FirstFault_b1, hlt, hr, b1, sl, t1], by simp [spec_l05Fault_b1, hlt, hr, b2, t2], rfl, fun y e => by cases e; omega⟩
      | false =>
        rw [hk] at t1 t2
        exact .inl ⟨((i + 1 : Nat) : Int), _, by simp [impl_FirstFault_b1, hlt, hr, b1, sl, t1, w], by simp [spec_l05Fault_b1, hlt, hr, b2, t2, w], ⟨rfl, i + 1, rfl, by omega⟩, by simp; omega⟩
  · exact .inr ⟨.inr (), .inr (), by simp [impl_FirstFault_b1, hlt], by simp [spec_l05Fault_b1, hlt], rfl, fun y e => by cases e⟩
theorem owed_same (xs : List Account) (hn : xs.length ≤ 4611686018427387904) : ∃ v, impl_owed xs = some v ∧ spec_l05Owed xs = some v := by
  have : ∃ r r2 : Int, Lw (impl_owed_b1 xs) (0, 0) = some r ∧ Lw (spec_l05Owed_b1 xs) (0, 0) = some r2 ∧ r = r2 := by
    refine Lw_sim (tb := impl_owed_b1 xs) (tb2 := spec_l05Owed_b1 xs) (fun s => xs.length - s.2.toNat) (fun s s2 => s = s2 ∧ ∃ i : Nat, s.2 = i ∧ i ≤ xs.length) _ ?_ _ _ _ rfl ⟨rfl, 0, rfl, by omega⟩
    rintro ⟨a, j⟩ s2 ⟨rfl, i, hi, hil⟩
    simp only at hi
    subst hi
    by_cases hlt : i < xs.length
    · have hr : rd xs (i : Int) = some xs[i] := by rw [rd_coe, List.getElem?_eq_getElem hlt]
      have w := w64s hlt (by omega)
      have hm : spec_l00Max xs[i].Balance 0 = some (max xs[i].Balance 0) := by
        unfold spec_l00Max
        rw [Int.max_def]
        by_cases h : xs[i].Balance > 0
        · have h' : ¬ xs[i].Balance ≤ 0 := by omega
          simp [h, h']
        · have h' : xs[i].Balance ≤ 0 := by omega
          simp [h, h']
      exact .inl ⟨(IntKind.i64.wrap (a + max xs[i].Balance 0), ((i + 1 : Nat) : Int)), _, by simp [impl_owed_b1, hlt, hr, w], by simp [spec_l05Owed_b1, hlt, hr, hm, w], ⟨rfl, i + 1, rfl, by omega⟩, by simp; omega⟩
    · exact .inr ⟨a, a, by simp [impl_owed_b1, hlt], by simp [spec_l05Owed_b1, hlt], rfl⟩
  obtain ⟨r, _, e1, e2, rfl⟩ := this
  exact ⟨r, by unfold impl_owed; rw [e1]; rfl, by unfold spec_l05Owed; rw [e2]; rfl⟩
theorem roll_same (r : Roll) (h : r.ok) : ∃ b, impl_validRoll r = some b ∧ spec_l05Roll r = some b := by
  have hn := h.1.2.1
  unfold impl_validRoll impl_FirstFault spec_l05Roll spec_l05Fault
  by_cases hl : (r.Accounts.length : Int) > 20
  · have hl' : ¬ (r.Accounts.length : Int) ≤ 20 := by omega
    exact ⟨false, by simp [hl], by simp [hl']⟩
  · have hl' : (r.Accounts.length : Int) ≤ 20 := by omega
    obtain ⟨q, _, e1, e2, rfl, e3⟩ := fault_loop r h
    obtain ⟨v, v1, v2⟩ := owed_same r.Accounts (by omega)
    rcases q with y | y
    · have := e3 y rfl
      have z : ¬ y < 0 := by omega
      exact ⟨false, by simp [hl, e1], by simp [hl', e2, z]⟩
    · by_cases ho : r.Owed = v
      · exact ⟨true, by simp [hl, e1, v1, ho], by simp [hl', e2, v2, ho]⟩
      · have z : ¬ (r.Accounts.length : Int) < 0 := by omega
        exact ⟨false, by simp [hl, e1, v1, ho], by simp [hl', e2, v2, ho, z]⟩
end Go.Proofs.Ytonpeobfmgdamaa

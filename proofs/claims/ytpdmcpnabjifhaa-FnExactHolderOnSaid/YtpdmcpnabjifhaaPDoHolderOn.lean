/- One deal done on a book: the program's and the reference's. -/
import Derived.Test.YtpdmcpnabjifhaaPDealsHolderOn
set_option linter.unusedVariables false
set_option linter.unusedSimpArgs false
namespace Go.Proofs.Ytpdmcpnabjifhaa
open Go Go.Ab
def TlI (n : Int) (t : Tally) : Prop := (0 ≤ t.Debtor ∧ t.Debtor < n) ∧ (0 ≤ t.Holder ∧ t.Holder < n) ∧ (0 ≤ t.Left ∧ t.Left ≤ 100000000) ∧ (t.Debtor = t.Holder → t.Left = 0)
structure BkI (b : Book) : Prop where
  c1 : 1 ≤ b.Cash.length
  cn : b.Cash.length ≤ 16
  tn : b.Tallies.length ≤ 40
  ca : ∀ c ∈ b.Cash, 0 ≤ c ∧ c ≤ 100000000
  ta : ∀ t ∈ b.Tallies, TlI b.Cash.length t
theorem BkI.of {b : Book} (h : bookB b = true) : BkI b := by
  unfold bookB at h
  simp only [Bool.and_eq_true, decide_eq_true_eq, List.all_eq_true] at h
  obtain ⟨_, ⟨h1, h2⟩, h3, h4⟩ := h
  obtain ⟨h5, h6⟩ := inB_iff.1 h2
  refine ⟨by omega, by omega, h3, fun c hc => inB_iff.1 (h1 c hc), fun t ht => ?_⟩
  unfold talliesB at h4
  rw [List.all_eq_true] at h4
  obtain ⟨i, hi, rfl⟩ := List.getElem_of_mem ht
  have := h4 i (List.mem_range.2 hi)
  rw [List.getElem?_eq_getElem hi, Option.all_some] at this
  unfold tallyB personB at this
  simp only [Bool.and_eq_true] at this
  obtain ⟨g1, g2, _, g4, g5, g6, _⟩ := this
  have g1 : 0 ≤ b.Tallies[i].Debtor ∧ b.Tallies[i].Debtor < (b.Cash.length : Int) := by simpa using g1
  have g2 : 0 ≤ b.Tallies[i].Holder ∧ b.Tallies[i].Holder < (b.Cash.length : Int) := by simpa using g2
  have g4 := inB_iff.1 g4
  have g5 := inB_iff.1 g5
  refine ⟨⟨g1.1, by omega⟩, ⟨g2.1, by omega⟩, ⟨g5.1, by omega⟩, fun e => ?_⟩
  simp [e] at g6
  exact g6
theorem ownBook_eq (b : Book) (h : BkI b) : impl_ownBook b = some (b.Day, b.Cash, b.Tallies) := by
  have h1 := h.cn
  have h2 := h.tn
  unfold impl_ownBook slices_Clone_int64 slices_Clone_Tally
  rw [app_some (by simp only [List.length_nil]; omega) (by decide), app_some (by simp only [List.length_nil]; omega) (by decide)]
  simp
theorem l07Copy_eq (b : Book) (h : BkI b) : spec_l07Copy b = some (b.Day, b.Cash, b.Tallies) := by
  have h1 := h.cn
  have h2 := h.tn
  unfold spec_l07Copy
  rw [app_some (by simp only [List.length_nil]; omega) (by decide), app_some (by simp only [List.length_nil]; omega) (by decide)]
  simp
theorem personD (n : Nat) (hn : n ≤ 16) (x : Int) (h : 0 ≤ x) : spec_l02Person (n : Int) x = some (decide (x < n)) := by
  rw [l02Person_eq _ _ (by omega)]
  unfold personB
  simp [h]
abbrev DoR := Int ⊕ (Int × (List Int) × (List Tally))
def DoI (n : Nat) (r : DoR) : Prop := (∀ x, r = .inl x → x ≠ 0) ∧ ∀ d c t, r = .inr (d, c, t) → BkI ⟨d, c, t⟩ ∧ c.length = n
theorem DoI.l {n : Nat} {x : Int} (h : x ≠ 0 := by decide) : DoI n (.inl x) := ⟨fun _ e => by cases e; exact h, fun _ _ _ h => by cases h⟩
theorem DoI.r {n : Nat} {v : Int × (List Int) × (List Tally)} (h : ∀ d c t, (.inr v : DoR) = .inr (d, c, t) → BkI ⟨d, c, t⟩ ∧ c.length = n) : DoI n (.inr v) := ⟨fun _ e => (by cases e), h⟩
def DoS (b : Book) (d : Deal) : Prop := ∃ r, impl_do b d = some r ∧ spec_l07Do b d = some r ∧ DoI b.Cash.length r
theorem do_cut (b : Book) (d : Deal) (hb : BkI b) (hk : d.Kind = 1) (hf : 0 ≤ d.From) (ht : 0 ≤ d.To) (ha : 0 ≤ d.Amount ∧ d.Amount ≤ 100000000) : DoS b d := by
  have hu : impl_uses 1 = some (false, true, true, true) := by simp [impl_uses]
  have p1 := personD b.Cash.length hb.cn d.From hf
  have p2 := personD b.Cash.length hb.cn d.To ht
  by_cases c0 : d.Day < b.Day
  · exact ⟨.inl 4, by simp [impl_do, c0], by simp [spec_l07Do, spec_l07Refused, c0], .l⟩
  by_cases c1 : d.From < b.Cash.length
  · have c1' : ¬ (b.Cash.length : Int) ≤ d.From := by omega
    by_cases c2 : d.To < b.Cash.length
    · have c2' : ¬ (b.Cash.length : Int) ≤ d.To := by omega
      by_cases c3 : d.From = d.To
      · have c3' : ¬ (b.Cash.length : Int) ≤ d.To := c2'
        exact ⟨.inl 4, by simp [impl_do, c0, hu, hk, c1', c2', c3], by simp [spec_l07Do, spec_l07Refused, c0, p1, p2, c1, c2, c3, hk], .l⟩
      · have c3' : (d.From == d.To) = false := by simpa using c3
        by_cases c4 : b.Tallies.length = 40
        · exact ⟨.inl 3, by simp [impl_do, c0, hu, hk, c1', c2', c3', ownBook_eq b hb, c4], by simp [spec_l07Do, spec_l07Refused, c0, p1, p2, c1, c2, c3, hk, c4], .l⟩
        · have h4 := hb.tn
          have c5 : ¬ (b.Tallies.length : Int) = 40 := by omega
          have ap : app 40 b.Tallies [⟨d.From, d.To, d.Day, d.Amount, d.Amount⟩] = some (b.Tallies ++ [⟨d.From, d.To, d.Day, d.Amount, d.Amount⟩]) := app_some (by simp; omega) (by simp)
          refine ⟨.inr (d.Day, b.Cash, b.Tallies ++ [⟨d.From, d.To, d.Day, d.Amount, d.Amount⟩]), by simp [impl_do, c0, hu, hk, c1', c2', c3', ownBook_eq b hb, c5, ap], by simp [spec_l07Do, spec_l07Refused, c0, p1, p2, c1, c2, c3, hk, c5, l07Copy_eq b hb, ap], .r fun _ _ _ h => ?_⟩
          cases h
          refine ⟨⟨hb.c1, hb.cn, by simp; omega, hb.ca, fun t ht' => ?_⟩, rfl⟩
          rcases List.mem_append.1 ht' with h | h
          · exact hb.ta t h
          · obtain rfl := List.mem_singleton.1 h
            exact ⟨⟨hf, c1⟩, ⟨ht, c2⟩, ha, fun e => absurd e c3⟩
    · have c2' : (b.Cash.length : Int) ≤ d.To := by omega
      exact ⟨.inl 2, by simp [impl_do, c0, hu, hk, c1', c2'], by simp [spec_l07Do, spec_l07Refused, c0, p1, p2, c1, c2], .l⟩
  · have c1' : (b.Cash.length : Int) ≤ d.From := by omega
    exact ⟨.inl 2, by simp [impl_do, c0, hu, hk, c1'], by simp [spec_l07Do, spec_l07Refused, c0, p1, p2, c1], .l⟩
/-- a tally in the book, written anew -/
theorem BkI.set {b : Book} (hb : BkI b) (day : Int) (c : List Int) (hc : c.length = b.Cash.length) (hca : ∀ x ∈ c, 0 ≤ x ∧ x ≤ 100000000) (i : Nat) (t : Tally) (ht : TlI b.Cash.length t) : BkI ⟨day, c, b.Tallies.set i t⟩ := by
  refine ⟨by simpa [hc] using hb.c1, by simpa [hc] using hb.cn, by simpa using hb.tn, hca, fun x hx => ?_⟩
  rcases List.mem_or_eq_of_mem_set hx with h | rfl
  · simpa [hc] using hb.ta x h
  · simpa [hc] using ht
theorem do_pass (b : Book) (d : Deal) (hb : BkI b) (hk : d.Kind = 2) (hf : 0 ≤ d.From) (ht : 0 ≤ d.To) (hi : 0 ≤ d.Tally) (ha : d.Amount = 0) : DoS b d := by
  have hu : impl_uses 2 = some (true, true, true, false) := by simp [impl_uses]
  have p1 := personD b.Cash.length hb.cn d.From hf
  have p2 := personD b.Cash.length hb.cn d.To ht
  by_cases c0 : d.Day < b.Day
  · exact ⟨.inl 4, by simp [impl_do, c0], by simp [spec_l07Do, spec_l07Refused, c0], .l⟩
  by_cases c1 : d.From < b.Cash.length
  · have c1' : ¬ (b.Cash.length : Int) ≤ d.From := by omega
    by_cases c2 : d.To < b.Cash.length
    · have c2' : ¬ (b.Cash.length : Int) ≤ d.To := by omega
      by_cases c3 : d.Tally < b.Tallies.length
      · have c3' : ¬ (b.Tallies.length : Int) ≤ d.Tally := by omega
        obtain ⟨i, hi'⟩ : ∃ i : Nat, d.Tally = i := ⟨d.Tally.toNat, by omega⟩
        have hlt : i < b.Tallies.length := by omega
        have hr : rd b.Tallies d.Tally = some b.Tallies[i] := by rw [hi', rd_coe, List.getElem?_eq_getElem hlt]
        obtain ⟨t1, t2, t3, t4⟩ := hb.ta _ (List.getElem_mem hlt)
        have ow := ownBook_eq b hb
        have cp := l07Copy_eq b hb
        revert hr t1 t2 t3 t4
        generalize b.Tallies[i] = t
        intro hr t1 t2 t3 t4
        by_cases c4 : d.From = d.To
        · exact ⟨.inl 4, by simp [impl_do, c0, hu, hk, c1', c2', c3', c4], by simp [spec_l07Do, spec_l07Refused, c0, p1, p2, c1, c2, c3', c4, hk, hr], .l⟩
        · have c4' : (d.From == d.To) = false := by simpa using c4
          by_cases c5 : t.Holder = d.From
          · by_cases c6 : t.Left = 0
            · exact ⟨.inl 4, by simp [impl_do, c0, hu, hk, c1', c2', c3', c4', ow, hr, c5, c6], by simp [spec_l07Do, spec_l07Refused, c0, p1, p2, c1, c2, c3', c4, hk, hr, c5, c6], .l⟩
            · have c7 : ¬ d.Amount > t.Left := by omega
              by_cases c8 : t.Debtor = d.To
              · refine ⟨.inr (d.Day, b.Cash, b.Tallies.set d.Tally.toNat ⟨t.Debtor, d.To, t.Cut, t.Amount, 0⟩), ?_, ?_, .r fun _ _ _ h => ?_⟩
                · simp [impl_do, c0, hu, hk, c1', c2', c3', c4', ow, hr, c5, c6, c8]
                · simp [spec_l07Do, spec_l07Refused, c0, p1, p2, c1, c2, c3', c4, hk, hr, c5, c6, c7, c8, cp]
                · cases h
                  exact ⟨hb.set _ _ rfl hb.ca _ _ ⟨t1, ⟨ht, c2⟩, by simp, fun _ => rfl⟩, rfl⟩
              · have c9 : ¬ d.To = t.Debtor := fun h => c8 h.symm
                refine ⟨.inr (d.Day, b.Cash, b.Tallies.set d.Tally.toNat ⟨t.Debtor, d.To, t.Cut, t.Amount, t.Left⟩), ?_, ?_, .r fun _ _ _ h => ?_⟩
                · simp [impl_do, c0, hu, hk, c1', c2', c3', c4', ow, hr, c5, c6, c9]
                · simp [spec_l07Do, spec_l07Refused, c0, p1, p2, c1, c2, c3', c4, hk, hr, c5, c6, c7, c9, cp]
                · cases h
                  exact ⟨hb.set _ _ rfl hb.ca _ _ ⟨t1, ⟨ht, c2⟩, t3, fun e => absurd e c8⟩, rfl⟩
          · have c5' : ¬ d.From = t.Holder := fun h => c5 h.symm
            exact ⟨.inl 4, by simp [impl_do, c0, hu, hk, c1', c2', c3', c4', ow, hr, c5'], by simp [spec_l07Do, spec_l07Refused, c0, p1, p2, c1, c2, c3', c4, hk, hr, c5'], .l⟩
      · have c3' : (b.Tallies.length : Int) ≤ d.Tally := by omega
        exact ⟨.inl 2, by simp [impl_do, c0, hu, hk, c1', c2', c3'], by simp [spec_l07Do, spec_l07Refused, c0, p1, p2, c1, c2, c3', hk], .l⟩
    · have c2' : (b.Cash.length : Int) ≤ d.To := by omega
      exact ⟨.inl 2, by simp [impl_do, c0, hu, hk, c1', c2'], by simp [spec_l07Do, spec_l07Refused, c0, p1, p2, c1, c2], .l⟩
  · have c1' : (b.Cash.length : Int) ≤ d.From := by omega
    exact ⟨.inl 2, by simp [impl_do, c0, hu, hk, c1'], by simp [spec_l07Do, spec_l07Refused, c0, p1, p2, c1], .l⟩
theorem do_end (b : Book) (d : Deal) (hb : BkI b) (hk : d.Kind = 4) (hf : 0 ≤ d.From) (ht : d.To = 0) (hi : 0 ≤ d.Tally) (ha : d.Amount = 0) : DoS b d := by
  have hu : impl_uses 4 = some (true, true, false, false) := by simp [impl_uses]
  have p1 := personD b.Cash.length hb.cn d.From hf
  have p2 := personD b.Cash.length hb.cn d.To (by omega)
  have hc1 := hb.c1
  have c2 : d.To < b.Cash.length := by omega
  by_cases c0 : d.Day < b.Day
  · exact ⟨.inl 4, by simp [impl_do, c0], by simp [spec_l07Do, spec_l07Refused, c0], .l⟩
  by_cases c1 : d.From < b.Cash.length
  · have c1' : ¬ (b.Cash.length : Int) ≤ d.From := by omega
    by_cases c3 : d.Tally < b.Tallies.length
    · have c3' : ¬ (b.Tallies.length : Int) ≤ d.Tally := by omega
      obtain ⟨i, hi'⟩ : ∃ i : Nat, d.Tally = i := ⟨d.Tally.toNat, by omega⟩
      have hlt : i < b.Tallies.length := by omega
      have hr : rd b.Tallies d.Tally = some b.Tallies[i] := by rw [hi', rd_coe, List.getElem?_eq_getElem hlt]
      obtain ⟨t1, t2, t3, t4⟩ := hb.ta _ (List.getElem_mem hlt)
      have ow := ownBook_eq b hb
      have cp := l07Copy_eq b hb
      revert hr t1 t2 t3 t4
      generalize b.Tallies[i] = t
      intro hr t1 t2 t3 t4
      by_cases c5 : t.Holder = d.From
      · by_cases c6 : t.Left = 0
        · exact ⟨.inl 4, by simp [impl_do, c0, hu, hk, c1', c3', ow, hr, c5, c6], by simp [spec_l07Do, spec_l07Refused, c0, p1, p2, c1, c2, c3', hk, hr, c5, c6], .l⟩
        · have c7 : ¬ d.Amount > t.Left := by omega
          refine ⟨.inr (d.Day, b.Cash, b.Tallies.set d.Tally.toNat ⟨t.Debtor, t.Holder, t.Cut, t.Amount, 0⟩), ?_, ?_, .r fun _ _ _ h => ?_⟩
          · simp [impl_do, c0, hu, hk, c1', c3', ow, hr, c5, c6]
          · simp [spec_l07Do, spec_l07Refused, c0, p1, p2, c1, c2, c3', hk, hr, c5, c6, c7, cp]
          · cases h
            exact ⟨hb.set _ _ rfl hb.ca _ _ ⟨t1, t2, by simp, fun _ => rfl⟩, rfl⟩
      · have c5' : ¬ d.From = t.Holder := fun h => c5 h.symm
        exact ⟨.inl 4, by simp [impl_do, c0, hu, hk, c1', c3', ow, hr, c5'], by simp [spec_l07Do, spec_l07Refused, c0, p1, p2, c1, c2, c3', hk, hr, c5'], .l⟩
    · have c3' : (b.Tallies.length : Int) ≤ d.Tally := by omega
      exact ⟨.inl 2, by simp [impl_do, c0, hu, hk, c1', c3'], by simp [spec_l07Do, spec_l07Refused, c0, p1, p2, c1, c2, c3', hk], .l⟩
  · have c1' : (b.Cash.length : Int) ≤ d.From := by omega
    exact ⟨.inl 2, by simp [impl_do, c0, hu, hk, c1'], by simp [spec_l07Do, spec_l07Refused, c0, p1, p2, c1], .l⟩
theorem do_pay (b : Book) (d : Deal) (hb : BkI b) (hk : d.Kind = 3) (hf : d.From = 0) (ht : d.To = 0) (hi : 0 ≤ d.Tally) (ha : 1 ≤ d.Amount ∧ d.Amount ≤ 100000000) : DoS b d := by
  have hu : impl_uses 3 = some (true, false, false, true) := by simp [impl_uses]
  have p1 := personD b.Cash.length hb.cn d.From (by omega)
  have p2 := personD b.Cash.length hb.cn d.To (by omega)
  have hc1 := hb.c1
  have c1 : d.From < b.Cash.length := by omega
  have c2 : d.To < b.Cash.length := by omega
  by_cases c0 : d.Day < b.Day
  · exact ⟨.inl 4, by simp [impl_do, c0], by simp [spec_l07Do, spec_l07Refused, c0], .l⟩
  by_cases c3 : d.Tally < b.Tallies.length
  · have c3' : ¬ (b.Tallies.length : Int) ≤ d.Tally := by omega
    obtain ⟨i, hi'⟩ : ∃ i : Nat, d.Tally = i := ⟨d.Tally.toNat, by omega⟩
    have hlt : i < b.Tallies.length := by omega
    have hr : rd b.Tallies d.Tally = some b.Tallies[i] := by rw [hi', rd_coe, List.getElem?_eq_getElem hlt]
    obtain ⟨t1, t2, t3, t4⟩ := hb.ta _ (List.getElem_mem hlt)
    have ow := ownBook_eq b hb
    have cp := l07Copy_eq b hb
    revert hr t1 t2 t3 t4
    generalize b.Tallies[i] = t
    intro hr t1 t2 t3 t4
    by_cases c6 : t.Left = 0
    · exact ⟨.inl 4, by simp [impl_do, c0, hu, hk, c3', ow, hr, c6], by simp [spec_l07Do, spec_l07Refused, c0, p1, p2, c1, c2, c3', hk, hr, c6], .l⟩
    by_cases c7 : d.Amount > t.Left
    · exact ⟨.inl 4, by simp [impl_do, c0, hu, hk, c3', ow, hr, c6, c7], by simp [spec_l07Do, spec_l07Refused, c0, p1, p2, c1, c2, c3', hk, hr, c6, c7], .l⟩
    obtain ⟨j, hj⟩ : ∃ j : Nat, t.Debtor = j := ⟨t.Debtor.toNat, by omega⟩
    obtain ⟨k, hk'⟩ : ∃ k : Nat, t.Holder = k := ⟨t.Holder.toNat, by omega⟩
    have hjl : j < b.Cash.length := by omega
    have hkl : k < b.Cash.length := by omega
    have hjk : ¬ j = k := fun e => c6 (t4 (by omega))
    have rj : rd b.Cash t.Debtor = some b.Cash[j] := by rw [hj, rd_coe, List.getElem?_eq_getElem hjl]
    have rk : rd b.Cash t.Holder = some b.Cash[k] := by rw [hk', rd_coe, List.getElem?_eq_getElem hkl]
    have aj := hb.ca _ (List.getElem_mem hjl)
    have ak := hb.ca _ (List.getElem_mem hkl)
    have rk2 : ∀ x, rd (b.Cash.set t.Debtor.toNat x) t.Holder = some b.Cash[k] := fun x => by
      rw [hk', rd_coe, hj, Int.toNat_natCast, List.getElem?_set_ne hjk, List.getElem?_eq_getElem hkl]
    have rk3 : ∀ x y, rd ((b.Cash.set t.Debtor.toNat x).set t.Holder.toNat y) t.Holder = some y := fun x y => by
      rw [hk', rd_coe, Int.toNat_natCast, List.getElem?_set_self (by simpa using hkl)]
    have hca : ∀ x ∈ (b.Cash.set t.Debtor.toNat (b.Cash[j] - d.Amount)).set t.Holder.toNat (b.Cash[k] + d.Amount), ¬ b.Cash[j] < d.Amount → ¬ b.Cash[k] + d.Amount > 100000000 → 0 ≤ x ∧ x ≤ 100000000 := fun x hx g1 g2 => by
      rcases List.mem_or_eq_of_mem_set hx with h | rfl
      · rcases List.mem_or_eq_of_mem_set h with h | rfl
        · exact hb.ca x h
        · omega
      · omega
    revert rj rk aj ak rk2 hca
    generalize b.Cash[j] = u
    generalize b.Cash[k] = v
    intro rj rk aj ak rk2 hca
    have w1 : IntKind.i64.wrap (u - d.Amount) = u - d.Amount := w64 (by omega)
    have w2 : IntKind.i64.wrap (v + d.Amount) = v + d.Amount := w64 (by omega)
    have w3 : IntKind.i64.wrap (t.Left - d.Amount) = t.Left - d.Amount := w64 (by omega)
    by_cases c8 : u < d.Amount
    · exact ⟨.inl 8, by simp [impl_do, c0, hu, hk, c3', ow, hr, c6, c7, rj, c8], by simp [spec_l07Do, spec_l07Refused, c0, p1, p2, c1, c2, c3', hk, hr, c6, c7, rj, c8], .l⟩
    by_cases c9 : v + d.Amount > 100000000
    · exact ⟨.inl 3, by simp [impl_do, c0, hu, hk, c3', ow, hr, c6, c7, rj, c8, rk2, rk3, w1, w2, c9], by simp [spec_l07Do, spec_l07Refused, c0, p1, p2, c1, c2, c3', hk, hr, c6, c7, rj, c8, rk, w2, c9], .l⟩
    refine ⟨.inr (d.Day, (b.Cash.set t.Debtor.toNat (u - d.Amount)).set t.Holder.toNat (v + d.Amount), b.Tallies.set d.Tally.toNat ⟨t.Debtor, t.Holder, t.Cut, t.Amount, t.Left - d.Amount⟩), ?_, ?_, .r fun _ _ _ h => ?_⟩
    · simp [impl_do, c0, hu, hk, c3', ow, hr, c6, c7, rj, c8, rk2, rk3, w1, w2, w3, c9]
    · simp [spec_l07Do, spec_l07Refused, c0, p1, p2, c1, c2, c3', hk, hr, c6, c7, rj, c8, rk, rk2, w1, w2, w3, c9, cp]
    · cases h
      exact ⟨hb.set _ _ (by simp) (fun x hx => hca x hx c8 c9) _ _ ⟨t1, t2, ⟨by simp; omega, by simp; omega⟩, fun e => absurd (t4 e) c6⟩, by simp⟩
  · have c3' : (b.Tallies.length : Int) ≤ d.Tally := by omega
    exact ⟨.inl 2, by simp [impl_do, c0, hu, hk, c3'], by simp [spec_l07Do, spec_l07Refused, c0, p1, p2, c1, c2, c3', hk], .l⟩
theorem do_same (b : Book) (d : Deal) (hb : BkI b) (hd : dealB d = true) : DoS b d := by
  unfold dealB at hd
  simp only [Bool.and_eq_true, Bool.or_eq_true, beq_iff_eq, inB_iff] at hd
  obtain ⟨_, ((h | h) | h) | h⟩ := hd
  · obtain ⟨⟨⟨⟨h1, h2⟩, h3⟩, h4⟩, h5⟩ := h
    exact do_cut b d hb h1 h3.1 h4.1 ⟨by omega, h5.2⟩
  · obtain ⟨⟨⟨⟨h1, h2⟩, h3⟩, h4⟩, h5⟩ := h
    exact do_pass b d hb h1 h3.1 h4.1 h2.1 h5
  · obtain ⟨⟨⟨⟨h1, h2⟩, h3⟩, h4⟩, h5⟩ := h
    exact do_pay b d hb h1 h3 h4 h2.1 h5
  · obtain ⟨⟨⟨⟨h1, h2⟩, h3⟩, h4⟩, h5⟩ := h
    exact do_end b d hb h1 h3.1 h4 h2.1 h5
end Go.Proofs.Ytpdmcpnabjifhaa

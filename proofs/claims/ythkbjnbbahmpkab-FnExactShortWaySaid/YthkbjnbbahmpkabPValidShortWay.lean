/- Halves and chains that are valid: the program's word and the reference's. -/
import Derived.Test.YthkbjnbbahmpkabPPartyShortWay
set_option linter.unusedVariables false
set_option linter.unusedSimpArgs false
namespace Go.Proofs.Ythkbjnbbahmpkab
open Go Go.Ab
def grainB (g : Ar 16 Int) : Bool := g.l.all fun x => inB x (-3) 3
theorem validGrain_eq (g : Ar 16 Int) : impl_ValidGrain g = some (grainB g) := by
  have hg := g.h
  unfold impl_ValidGrain grainB
  have key := scan_all (tb := impl_ValidGrain_b1 g) g.l.length (by omega) (fun i => (g.l[i]?).all fun x => inB x (-3) 3) () ()
    (by
      intro i hi
      have h16 : (i : Int) < 16 := by omega
      simp only [impl_ValidGrain_b1, rdA_coe g i (by omega), List.getElem?_eq_getElem hi, Option.bind_some, Option.all_some]
      rw [if_pos (by simpa using h16)]
      by_cases h1 : g.l[i] < -3
      · rw [if_pos (by simpa using h1), if_neg (by simp [inB]; omega)]
      · by_cases h2 : g.l[i] > 3
        · rw [if_neg (by simpa using h1), if_pos (by simpa using h2), if_neg (by simp [inB]; omega)]
        · rw [if_neg (by simpa using h1), if_neg (by simpa using h2), if_pos (by simp [inB]; omega)])
    (by simp [impl_ValidGrain_b1, hg])
  rw [key, all_get]
  cases g.l.all fun x => inB x (-3) 3 <;> simp
theorem l01Grain_eq (g : Ar 16 Int) : spec_l01Grain g = some (grainB g) := by
  have hg := g.h
  unfold spec_l01Grain grainB
  have key := scan_all (tb := spec_l01Grain_b1 g) g.l.length (by omega) (fun i => (g.l[i]?).all fun x => inB x (-3) 3) () ()
    (by
      intro i hi
      have h16 : (i : Int) < 16 := by omega
      simp only [spec_l01Grain_b1, rdA_coe g i (by omega), List.getElem?_eq_getElem hi, Option.bind_some, Option.all_some]
      rw [if_pos (by simpa using h16)]
      by_cases h1 : g.l[i] < -3
      · rw [if_pos (by simpa using h1), if_neg (by simp [inB]; omega)]
      · by_cases h2 : g.l[i] > 3
        · rw [if_neg (by simpa using h1), if_pos (by simpa using h2), if_neg (by simp [inB]; omega)]
        · rw [if_neg (by simpa using h1), if_neg (by simpa using h2), if_pos (by simp [inB]; omega)])
    (by simp [spec_l01Grain_b1, hg])
  rw [key, all_get]
  cases g.l.all fun x => inB x (-3) 3 <;> simp
theorem isKind_eq (k : Int) : impl_isKind k = some (inB k 0 5) := by
  unfold impl_isKind inB; by_cases h : 0 ≤ k <;> simp [h]
theorem l01Kind_eq (k : Int) : spec_l01Kind k = some (inB k 0 5) := by
  unfold spec_l01Kind; rw [l00In_eq, Option.bind_some]
theorem ends_eq (n : Notch) (hk : inB n.Kind 0 5 = true) : ∃ e, impl_Notch_end n = some e ∧ spec_l01Ends n = some e := by
  obtain ⟨h0, h1⟩ := inB_iff.1 hk
  have w : IntKind.i64.wrap n.Kind = n.Kind := w64 (by omega)
  obtain ⟨x, hx⟩ : ∃ x, rd ([1, 2, 4, 6, 9, 12] : List Int) n.Kind = some x := ⟨_, rd_in h0 (by simp; omega)⟩
  exact ⟨_, by unfold impl_Notch_end impl_width; rw [w, hx]; rfl, by unfold spec_l01Ends spec_l01Widths; rw [Option.bind_some, hx]; rfl⟩
theorem notch_loop (h : Half) (hn : h.Notches.length ≤ 60) (hk : ∀ n ∈ h.Notches, -128 ≤ n.Kind ∧ n.Kind ≤ 127) :
    ∃ r r2, Lw (impl_ValidHalf_b1 h) 0 = some r ∧ Lw (spec_l01Notches_b1 h.Notches) 0 = some r2 ∧ r = r2 := by
  refine Lw_sim (tb := impl_ValidHalf_b1 h) (tb2 := spec_l01Notches_b1 h.Notches) (fun s => h.Notches.length - s.toNat) (fun s s2 => s = s2 ∧ ∃ i : Nat, s = i ∧ i ≤ h.Notches.length ∧ ∀ (j : Nat) (hj : j < h.Notches.length), j + 1 = i → inB h.Notches[j].Kind 0 5 = true) _ ?_ _ _ _ rfl
    ⟨rfl, 0, rfl, by omega, fun j hj e => by omega⟩
  rintro s s2 ⟨rfl, i, rfl, hil, hprev⟩
  by_cases hlt : i < h.Notches.length
  · have hr : rd h.Notches (i : Int) = some h.Notches[i] := by rw [rd_coe, List.getElem?_eq_getElem hlt]
    have w := w64s hlt (by omega)
    have wk : IntKind.i64.wrap h.Notches[i].Kind = h.Notches[i].Kind := by
      have := hk _ (List.getElem_mem hlt)
      exact w64 (by omega)
    have kI := isKind_eq h.Notches[i].Kind
    have kS := l01Kind_eq h.Notches[i].Kind
    have hlt' : (i : Int) < h.Notches.length := by omega
    cases hkb : inB h.Notches[i].Kind 0 5 with
    | false =>
      rw [hkb] at kI kS
      exact .inr ⟨.inl (), .inl (), by simp [impl_ValidHalf_b1, hlt, hr, wk, kI], by simp [spec_l01Notches_b1, hlt, hr, wk, kS], rfl⟩
    | true =>
      rw [hkb] at kI kS
      by_cases h0 : h.Notches[i].At < 0
      · exact .inr ⟨.inl (), .inl (), by simp [impl_ValidHalf_b1, hlt, hr, wk, kI, h0], by simp [spec_l01Notches_b1, hlt, hr, wk, kS, h0], rfl⟩
      obtain ⟨e, e1, e2⟩ := ends_eq _ hkb
      by_cases h2 : e > 200
      · exact .inr ⟨.inl (), .inl (), by simp [impl_ValidHalf_b1, hlt, hr, wk, kI, h0, e1, h2], by simp [spec_l01Notches_b1, hlt, hr, wk, kS, h0, e2, h2], rfl⟩
      by_cases hi0 : i = 0
      · have hi0' : ¬ 0 < i := by omega
        exact .inl ⟨((i + 1 : Nat) : Int), _, by simp [impl_ValidHalf_b1, hlt, hr, wk, kI, h0, e1, h2, hi0', w], by simp [spec_l01Notches_b1, hlt, hr, wk, kS, h0, e2, h2, hi0', w], ⟨rfl, i + 1, rfl, by omega, fun j hj hji => (by have e : j = i := (by omega); simp only [e, hkb])⟩, by simp; omega⟩
      · have hi0' : 0 < i := by omega
        have hj : i - 1 < h.Notches.length := by omega
        have hp : rd h.Notches (IntKind.i64.wrap ((i : Int) - 1)) = some h.Notches[i - 1] := by
          rw [w64 (by omega), show ((i : Int) - 1) = ((i - 1 : Nat) : Int) by omega, rd_coe, List.getElem?_eq_getElem hj]
        obtain ⟨e', e1', e2'⟩ := ends_eq _ (hprev (i - 1) hj (by omega))
        by_cases c1 : IntKind.i64.wrap h.Notches[i].At ≤ e'
        · by_cases c2 : h.Notches[i].Kind > h.Notches[i - 1].Kind
          · exact .inr ⟨.inl (), .inl (), by simp [impl_ValidHalf_b1, hlt, hr, wk, kI, h0, e1, h2, hi0', hp, e1', c1], by simp [spec_l01Notches_b1, hlt, hr, wk, kS, h0, e2, h2, hi0', hp, c2], rfl⟩
          · have c2' : ¬ h.Notches[i - 1].Kind < h.Notches[i].Kind := c2
            exact .inr ⟨.inl (), .inl (), by simp [impl_ValidHalf_b1, hlt, hr, wk, kI, h0, e1, h2, hi0', hp, e1', c1], by simp [spec_l01Notches_b1, hlt, hr, wk, kS, h0, e2, h2, hi0', hp, c2', e2', c1], rfl⟩
        · by_cases c2 : h.Notches[i].Kind > h.Notches[i - 1].Kind
          · exact .inr ⟨.inl (), .inl (), by simp [impl_ValidHalf_b1, hlt, hr, wk, kI, h0, e1, h2, hi0', hp, e1', c1, c2], by simp [spec_l01Notches_b1, hlt, hr, wk, kS, h0, e2, h2, hi0', hp, c2], rfl⟩
          · have c2' : ¬ h.Notches[i - 1].Kind < h.Notches[i].Kind := c2
            exact .inl ⟨((i + 1 : Nat) : Int), _, by simp [impl_ValidHalf_b1, hlt, hr, wk, kI, h0, e1, h2, hi0', hp, e1', c1, c2', w], by simp [spec_l01Notches_b1, hlt, hr, wk, kS, h0, e2, h2, hi0', hp, c2', e2', c1, w], ⟨rfl, i + 1, rfl, by omega, fun j hj hji => (by have e : j = i := (by omega); simp only [e, hkb])⟩, by simp; omega⟩
  · exact .inr ⟨.inr (), .inr (), by simp [impl_ValidHalf_b1, hlt], by simp [spec_l01Notches_b1, hlt], rfl⟩
theorem validHalf_same (h : Half) (hk : ∀ n ∈ h.Notches, -128 ≤ n.Kind ∧ n.Kind ≤ 127) : ∃ b, impl_ValidHalf h = some b ∧ spec_l01Ok h = some b := by
  unfold impl_ValidHalf spec_l01Ok spec_l01Notches
  rw [validGrain_eq, l01Grain_eq]
  by_cases hn : (h.Notches.length : Int) > 60
  · exact ⟨false, by simp [hn], by simp [hn]⟩
  · obtain ⟨r, r2, e1, e2, rfl⟩ := notch_loop h (by omega) hk
    cases hg : grainB h.Grain
    · rcases r with r | r
      · exact ⟨false, by simp [hn], by simp [hn, e2]⟩
      · exact ⟨false, by simp [hn], by simp [hn, e2]⟩
    · rcases r with r | r
      · exact ⟨false, by simp [hn, e1], by simp [hn, e2]⟩
      · exact ⟨true, by simp [hn, e1], by simp [hn, e2]⟩
/-- what is known of a chain that is valid -/
def ChI (c : Chain) : Prop := 1 ≤ c.Marks.length ∧ c.Marks.length ≤ 30 ∧ c.Stock.Stock = true ∧ nameB c.Debtor = true ∧ ∀ m ∈ c.Marks, nameB m.Holder = true
theorem marks_loop (c : Chain) (hn : c.Marks.length ≤ 30) (hm : ∀ m ∈ c.Marks, m.Holder.length ≤ 4611686018427387904) :
    ∃ r r2, Lw (impl_ValidChain_b1 c) (c.Debtor, 0) = some r ∧ Lw (spec_l06Ok_b1 c) (c.Debtor, 0) = some r2 ∧ r = r2 ∧ (r = .inr () → ∀ m ∈ c.Marks, nameB m.Holder = true) := by
  refine Lw_sim (tb := impl_ValidChain_b1 c) (tb2 := spec_l06Ok_b1 c) (fun s => c.Marks.length - s.2.toNat) (fun s s2 => s = s2 ∧ ∃ i : Nat, s.2 = i ∧ i ≤ c.Marks.length ∧ ∀ (j : Nat) (hj : j < c.Marks.length), j < i → nameB c.Marks[j].Holder = true) _ ?_ _ _ _ rfl
    ⟨rfl, 0, rfl, by omega, fun j hj e => by omega⟩
  rintro ⟨z, s⟩ s2 ⟨rfl, i, hi, hil, hprev⟩
  simp only at hi
  subst hi
  by_cases hlt : i < c.Marks.length
  · have hr : rd c.Marks (i : Int) = some c.Marks[i] := by rw [rd_coe, List.getElem?_eq_getElem hlt]
    have w := w64s hlt (by omega)
    have kI := isName_eq c.Marks[i].Holder (hm _ (List.getElem_mem hlt))
    have kS := l06Name_eq c.Marks[i].Holder (hm _ (List.getElem_mem hlt))
    cases hkb : nameB c.Marks[i].Holder with
    | false =>
      rw [hkb] at kI kS
      exact .inr ⟨.inl (), .inl (), by simp [impl_ValidChain_b1, hlt, hr, kI], by simp [spec_l06Ok_b1, hlt, hr, kS], rfl, fun h => by cases h⟩
    | true =>
      rw [hkb] at kI kS
      by_cases h0 : c.Marks[i].Holder = z
      · subst h0
        exact .inr ⟨.inl (), .inl (), by simp [impl_ValidChain_b1, hlt, hr, kI], by simp [spec_l06Ok_b1, hlt, hr, kS], rfl, fun h => by cases h⟩
      · refine .inl ⟨(c.Marks[i].Holder, ((i + 1 : Nat) : Int)), _, by simp [impl_ValidChain_b1, hlt, hr, kI, h0, w], by simp [spec_l06Ok_b1, hlt, hr, kS, h0, w], ⟨rfl, i + 1, rfl, by omega, fun j hj hji => ?_⟩, by simp; omega⟩
        by_cases hjj : j = i
        · subst hjj; exact hkb
        · exact hprev j hj (by omega)
  · refine .inr ⟨.inr (), .inr (), by simp [impl_ValidChain_b1, hlt], by simp [spec_l06Ok_b1, hlt], rfl, fun _ m hmem => ?_⟩
    obtain ⟨j, hj, rfl⟩ := List.getElem_of_mem hmem
    exact hprev j hj (by omega)
theorem validChain_same (c : Chain) (hc : c.ok) : ∃ b, impl_ValidChain c = some b ∧ spec_l06Ok c = some b ∧ (b = true → ChI c) := by
  have hd := ok_debtor hc
  have hml := ok_marks hc
  have hm := ok_mark hc
  obtain ⟨q, q1, q2⟩ := validHalf_same c.Stock (fun n hn => inR8.1 (hc.2.1.2.1.2.2 n hn).1)
  unfold impl_ValidChain spec_l06Ok
  rw [isName_eq _ (by omega), l06Name_eq _ (by omega), q1, q2]
  simp only [Option.bind_some, l00In_eq]
  cases hN : nameB c.Debtor with
  | false => exact ⟨false, by simp, by simp, fun h => by cases h⟩
  | true =>
    cases q with
    | false => exact ⟨false, by simp, by simp, fun h => by cases h⟩
    | true =>
      cases hS : c.Stock.Stock with
      | false => exact ⟨false, by simp, by simp, fun h => by cases h⟩
      | true =>
        by_cases h1 : (c.Marks.length : Int) < 1
        · have z : inB (c.Marks.length : Int) 1 30 = false := by simp [inB]; omega
          exact ⟨false, by simp [h1], by simp [z], fun h => by cases h⟩
        · by_cases h2 : (c.Marks.length : Int) > 30
          · have z : inB (c.Marks.length : Int) 1 30 = false := by simp [inB]; omega
            exact ⟨false, by simp [h1, h2], by simp [z], fun h => by cases h⟩
          · have z : inB (c.Marks.length : Int) 1 30 = true := inB_iff.2 ⟨by omega, by omega⟩
            obtain ⟨r, r2, e1, e2, rfl, e3⟩ := marks_loop c (by omega) (fun m hmm => by have := hm m hmm; omega)
            rcases r with r | r
            · exact ⟨false, by simp [h1, h2, e1], by simp [z, e2], fun h => by cases h⟩
            · exact ⟨true, by simp [h1, h2, e1], by simp [z, e2], fun _ => ⟨by omega, by omega, hS, hN, e3 rfl⟩⟩
end Go.Proofs.Ythkbjnbbahmpkab

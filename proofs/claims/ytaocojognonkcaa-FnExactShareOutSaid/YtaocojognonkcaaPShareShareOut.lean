/- Shares: the two programs do the same. -/
import Derived.Test.YtaocojognonkcaaPAmountShareOut
set_option linter.unusedVariables false
set_option linter.unusedSimpArgs false
namespace Go.Proofs.Ytaocojognonkcaa
open Go Go.Ab
def psum (a : List Int) : Nat → Int
  | 0 => 0
  | i + 1 => IntKind.i64.wrap (psum a i + a.getD i 0)
def wB (w : Int) : Bool := inB w 0 1000000
theorem share_b1_impl (a : List Int) (hn : a.length ≤ 4611686018427387904) : Lw (impl_ShareOut_b1 a) (0, 0) = some (if a.all wB = true then .inr (psum a a.length) else .inl ()) := by
  have step : ∀ i (hi : i < a.length), wB a[i] = true → impl_ShareOut_b1 a (psum a i, (i : Int)) = some (.inl (psum a (i + 1), ((i + 1 : Nat) : Int))) := by
    intro i hi hw
    obtain ⟨h0, h1⟩ := inB_iff.1 hw
    simp only [impl_ShareOut_b1]
    rw [if_pos (by simpa using hi), rd_coe, List.getElem?_eq_getElem hi, Option.bind_some, if_neg (by simp; omega), if_neg (by simp; omega), w64s hi hn]
    simp [psum, List.getD_eq_getElem?_getD, hi]
  by_cases h : ∃ m, m < a.length ∧ ∀ hm : m < a.length, wB a[m] = false
  · obtain ⟨m, ⟨h1, h2⟩, h3⟩ := least h
    have h2 := h2 h1
    have hall : ¬ a.all wB = true := by
      intro hall
      have := List.all_eq_true.1 hall a[m] (List.getElem_mem h1)
      rw [h2] at this; cases this
    rw [if_neg hall]
    refine Lw_run (fun i => (psum a i, (i : Int))) m (fun i hi => step i (by omega) ?_) ?_
    · cases hw : wB (a[i]'(by omega)) with
      | true => rfl
      | false => have := h3 i ⟨by omega, fun _ => hw⟩; omega
    · simp only [impl_ShareOut_b1]
      rw [if_pos (by simpa using h1), rd_coe, List.getElem?_eq_getElem h1, Option.bind_some]
      rcases inB_not.1 h2 with h4 | h4
      · rw [if_pos (by simpa using h4)]
      · rw [if_neg (by simp; omega), if_pos (by simpa using h4)]
  · have hall : ∀ i (hi : i < a.length), wB a[i] = true := by
      intro i hi
      cases hw : wB a[i] with
      | true => rfl
      | false => exact absurd ⟨i, hi, fun _ => hw⟩ h
    rw [if_pos (List.all_eq_true.2 fun x hx => by
      obtain ⟨i, hi⟩ := List.getElem?_of_mem hx
      obtain ⟨h1, rfl⟩ := List.getElem?_eq_some_iff.1 hi
      exact hall i h1)]
    refine Lw_run (fun i => (psum a i, (i : Int))) a.length (fun i hi => step i hi (hall i hi)) ?_
    simp [impl_ShareOut_b1]
theorem share_b1_spec (a : List Int) (hn : a.length ≤ 4611686018427387904) : ∃ s, Lw (spec_ShareOut_b1 a) (true, 0, 0) = some (a.all wB, s) ∧ (a.all wB = true → s = psum a a.length) := by
  have step : ∀ i (hi : i < a.length), spec_ShareOut_b1 a (true, psum a i, (i : Int)) = some (.inl (wB a[i], psum a (i + 1), ((i + 1 : Nat) : Int))) := by
    intro i hi
    simp only [spec_ShareOut_b1]
    rw [if_pos (by simpa using hi), if_pos trivial, rd_coe, List.getElem?_eq_getElem hi, Option.bind_some, l00In_eq, Option.bind_some, Option.bind_some, w64s hi hn]
    simp [psum, List.getD_eq_getElem?_getD, hi, wB]
  by_cases h : ∃ m, m < a.length ∧ ∀ hm : m < a.length, wB a[m] = false
  · obtain ⟨m, ⟨h1, h2⟩, h3⟩ := least h
    have h2 := h2 h1
    have hall : a.all wB = false := by
      rw [Bool.eq_false_iff]
      intro hall
      have := List.all_eq_true.1 hall a[m] (List.getElem_mem h1)
      rw [h2] at this; cases this
    rw [hall]
    refine ⟨psum a (m + 1), Lw_run (fun i => (decide (i ≤ m), psum a i, (i : Int))) (m + 1) (fun i hi => ?_) ?_, by simp⟩
    · have hd : decide (i ≤ m) = true := by simp; omega
      rw [hd, step i (by omega)]
      congr 3
      by_cases he : i = m
      · subst he; rw [h2]; simp
      · have hd2 : decide (i + 1 ≤ m) = true := by simp; omega
        rw [hd2]
        cases hw : wB (a[i]'(by omega)) with
        | true => rfl
        | false => have := h3 i ⟨by omega, fun _ => hw⟩; omega
    · have hd : decide (m + 1 ≤ m) = false := by simp
      rw [hd]
      simp only [spec_ShareOut_b1]
      split <;> simp
  · have hall : ∀ i (hi : i < a.length), wB a[i] = true := by
      intro i hi
      cases hw : wB a[i] with
      | true => rfl
      | false => exact absurd ⟨i, hi, fun _ => hw⟩ h
    have hall2 : a.all wB = true := List.all_eq_true.2 fun x hx => by
      obtain ⟨i, hi⟩ := List.getElem?_of_mem hx
      obtain ⟨h1, rfl⟩ := List.getElem?_eq_some_iff.1 hi
      exact hall i h1
    rw [hall2]
    refine ⟨psum a a.length, Lw_run (fun i => (true, psum a i, (i : Int))) a.length (fun i hi => ?_) ?_, fun _ => rfl⟩
    · rw [step i hi, hall i hi]
    · simp [spec_ShareOut_b1]
/-- the parts, and what is left -/
theorem share_b2 (n : Int) (a : List Int) (t : Int) (ht : t ≠ 0) (hn : a.length * 8 ≤ 140737488351232) (hm : n ≤ 9223372036854775807) : ∃ r out rests, Lw (impl_ShareOut_b2 n a t) (n, 0, [], []) = some (r, out, rests) ∧ Lw (spec_ShareOut_b2 n a t) (n, 0, [], []) = some (r, out, rests) ∧ out.length = a.length ∧ rests.length = a.length ∧ r ≤ 9223372036854775807 := by
  have hq : ∀ x y : Int, ∃ z, quo .i64 x t = some z := fun x y => ⟨_, by unfold quo; rw [if_neg ht]⟩
  have hr : ∀ x y : Int, ∃ z, rem .i64 x t = some z := fun x y => ⟨_, by unfold rem; rw [if_neg ht]⟩
  have := Lw_sim (tb := impl_ShareOut_b2 n a t) (tb2 := spec_ShareOut_b2 n a t) (fun s => a.length - s.2.1.toNat)
    (fun s s2 => s = s2 ∧ ∃ i : Nat, i ≤ a.length ∧ s.2.1 = i ∧ s.2.2.1.length = i ∧ s.2.2.2.length = i ∧ s.1 ≤ 9223372036854775807)
    (fun r r2 => r = r2 ∧ r.2.1.length = a.length ∧ r.2.2.length = a.length ∧ r.1 ≤ 9223372036854775807) (by
      rintro ⟨l, i', out, rests⟩ s2 ⟨rfl, i, hi, rfl, ho, hre, hl⟩
      simp only at ho hre hl
      by_cases hlt : i < a.length
      · left
        obtain ⟨z, hz⟩ := hq (IntKind.i64.wrap (n * a[i])) 0
        obtain ⟨y, hy⟩ := hr (IntKind.i64.wrap (n * a[i])) 0
        have e1 : app 8 out [z] = some (out ++ [z]) := app_some (by simp; omega) (by omega)
        have e2 : app 8 rests [y] = some (rests ++ [y]) := app_some (by simp; omega) (by omega)
        have e3 : rd (out ++ [z]) (i : Int) = some z := by rw [rd_coe, List.getElem?_append_right (by omega), ho]; simp
        refine ⟨(IntKind.i64.wrap (l - z), ((i + 1 : Nat) : Int), out ++ [z], rests ++ [y]), _, ?_, ?_, ⟨rfl, i + 1, by omega, rfl, by simp [ho], by simp [hre], w64_le _⟩, ?_⟩
        · simp only [impl_ShareOut_b2]
          rw [if_pos (by simpa using hlt), rd_coe, List.getElem?_eq_getElem hlt]
          simp only [Option.bind_some, hz, e1, hy, e2, w64s hlt (show a.length ≤ 4611686018427387904 by omega)]
        · simp only [spec_ShareOut_b2]
          rw [if_pos (by simpa using hlt), rd_coe, List.getElem?_eq_getElem hlt]
          simp only [Option.bind_some, hz, e1, hy, e2, e3, w64s hlt (show a.length ≤ 4611686018427387904 by omega)]
        · simp; omega
      · right
        have : i = a.length := by omega
        subst this
        exact ⟨(l, out, rests), _, by simp [impl_ShareOut_b2], by simp [spec_ShareOut_b2], rfl, ho, hre, hl⟩) _ (n, 0, [], []) (n, 0, [], []) rfl ⟨rfl, 0, by omega, rfl, rfl, rfl, hm⟩
  obtain ⟨⟨r, out, rests⟩, r2, h1, h2, rfl, h3, h4, h5⟩ := this
  exact ⟨r, out, rests, h1, h2, h3, h4, h5⟩
/-- the first of the greatest rests -/
theorem share_b4 (rests : List Int) (hn : rests.length ≤ 4611686018427387904) (h0 : 0 < rests.length) : ∃ b : Nat, b < rests.length ∧ Lw (impl_ShareOut_b4 rests) (0, 0) = some (b : Int) ∧ Lw (spec_ShareOut_b4 rests) (0, 1) = some (b : Int) := by
  have e0 : impl_ShareOut_b4 rests (0, 0) = some (.inl (0, 1)) := by
    simp only [impl_ShareOut_b4]
    rw [if_pos (by simpa using h0), rd_zero, List.getElem?_eq_getElem h0]
    simp [w64]
  have e1 : Lw (impl_ShareOut_b4 rests) (0, 0) = Lw (spec_ShareOut_b4 rests) (0, 1) := by
    rw [Lw_step e0]; rfl
  rw [e1]
  have := Lw_meas (tb := spec_ShareOut_b4 rests) (fun s => rests.length - s.2.toNat) (fun s => ∃ b i : Nat, s = ((b : Int), (i : Int)) ∧ b < rests.length ∧ i ≤ rests.length) (fun r => ∃ b : Nat, b < rests.length ∧ r = (b : Int)) (by
    rintro s ⟨b, i, rfl, hb, hi⟩
    by_cases hlt : i < rests.length
    · left
      by_cases hg : rests[i] > rests[b]
      · refine ⟨((i : Int), ((i + 1 : Nat) : Int)), ?_, ⟨i, i + 1, rfl, hlt, by omega⟩, by simp; omega⟩
        simp only [spec_ShareOut_b4]
        rw [if_pos (by simpa using hlt), rd_coe, rd_coe, List.getElem?_eq_getElem hlt, List.getElem?_eq_getElem hb]
        simp only [Option.bind_some]
        rw [if_pos (by simpa using hg), w64s hlt hn]
      · refine ⟨((b : Int), ((i + 1 : Nat) : Int)), ?_, ⟨b, i + 1, rfl, hb, by omega⟩, by simp; omega⟩
        simp only [spec_ShareOut_b4]
        rw [if_pos (by simpa using hlt), rd_coe, rd_coe, List.getElem?_eq_getElem hlt, List.getElem?_eq_getElem hb]
        simp only [Option.bind_some]
        rw [if_neg (by simpa using hg), w64s hlt hn]
    · right
      have : i = rests.length := by omega
      subst this
      exact ⟨(b : Int), by simp [spec_ShareOut_b4], b, hb, rfl⟩) _ (0, 1) rfl ⟨0, 1, rfl, h0, by omega⟩
  obtain ⟨r, h1, b, hb, rfl⟩ := this
  exact ⟨b, hb, h1, h1⟩
/-- the pennies that are left -/
theorem share_b3 (left : Int) (hl : left ≤ 9223372036854775807) (out rests : List Int) (h0 : 0 < out.length) (he : out.length = rests.length) (hn : out.length ≤ 4611686018427387904) : ∃ o r, Lw (impl_ShareOut_b3 left) (0, out, rests) = some (o, r) ∧ Lw spec_ShareOut_b3 (left, out, rests) = some (o, r) ∧ o.length = out.length := by
  have := Lw_sim (tb := impl_ShareOut_b3 left) (tb2 := spec_ShareOut_b3) (fun s => (left - s.1).toNat)
    (fun s s2 => 0 ≤ s.1 ∧ (0 ≤ left → s.1 ≤ left) ∧ s2 = (left - s.1, s.2.1, s.2.2) ∧ s.2.1.length = out.length ∧ s.2.2.length = out.length)
    (fun r r2 => r = r2 ∧ r.1.length = out.length) (by
      rintro ⟨k, o, r⟩ s2 ⟨hk, hk2, rfl, h1, h2⟩
      simp only at h1 h2 hk hk2
      by_cases hlt : k < left
      · left
        obtain ⟨b, hb, g1, g2⟩ := share_b4 r (by omega) (by omega)
        have hbo : b < o.length := by omega
        refine ⟨(k + 1, o.set b (IntKind.i64.wrap (o[b] + 1)), r.set b (-1)), (left - (k + 1), o.set b (IntKind.i64.wrap (o[b] + 1)), r.set b (-1)), ?_, ?_, ⟨by simp; omega, by simp; omega, rfl, by simpa using h1, by simpa using h2⟩, by simp; omega⟩
        · simp only [impl_ShareOut_b3]
          rw [if_pos (by simpa using hlt), g1]
          simp only [Option.bind_some, rd_coe, List.getElem?_eq_getElem hb, List.getElem?_eq_getElem hbo]
          rw [w64 (n := k + 1) (by omega)]; simp
        · simp only [spec_ShareOut_b3]
          rw [if_pos (by simp; omega), g2]
          simp only [Option.bind_some, rd_coe, List.getElem?_eq_getElem hb, List.getElem?_eq_getElem hbo]
          rw [w64 (n := left - k - 1) (by omega)]
          simp; omega
      · right
        refine ⟨(o, r), _, ?_, ?_, rfl, h1⟩
        · simp only [impl_ShareOut_b3]
          rw [if_neg (by simpa using hlt)]
        · simp only [spec_ShareOut_b3]
          rw [if_neg (by simp; omega)]) _ (0, out, rests) (left, out, rests) rfl ⟨by simp, by simp, by simp, rfl, he.symm⟩
  obtain ⟨⟨o, r⟩, r2, h1, h2, rfl, h3⟩ := this
  exact ⟨o, r, h1, h2, h3⟩
end Go.Proofs.Ytaocojognonkcaa

/- The program's AskOrder and the reference's. -/
import Derived.Test.YtkkmbehooldmjaaPsAskOrder
set_option linter.unusedVariables false
set_option linter.unusedSimpArgs false
namespace Go.Proofs.Ytkkmbehooldmjaa.Pure
open Go Go.Ab
theorem last_eq (c : Chain) (h : ChI c) : ∃ m : Mark, impl_last c = some (m.Holder, m.Seal) ∧ spec_l06Last c = some (m.Holder, m.Seal) := by
  obtain ⟨h1, h2, _⟩ := h
  have hr : rd c.Marks (IntKind.i64.wrap ((c.Marks.length : Int) - 1)) = some (c.Marks[c.Marks.length - 1]'(by omega)) := by
    rw [w64 (by omega), show ((c.Marks.length : Int) - 1) = ((c.Marks.length - 1 : Nat) : Int) by omega, rd_coe, List.getElem?_eq_getElem]
  exact ⟨_, by unfold impl_last; rw [hr]; rfl, by unfold spec_l06Last; rw [hr]; rfl⟩
theorem has_eq (xs : List (List UInt8)) (x : List UInt8) (h : xs.length ≤ 4611686018427387904) : spec_l06Has xs x = some (xs.any fun y => decide (y = x)) := by
  unfold spec_l06Has
  have key := scan_all (tb := spec_l06Has_b1 xs x) xs.length h (fun i => (xs[i]?).all fun y => !decide (y = x)) () ()
    (by
      intro i hi
      simp only [spec_l06Has_b1, rd_coe, List.getElem?_eq_getElem hi, Option.bind_some, Option.all_some]
      rw [if_pos (by simpa using hi)]
      by_cases he : xs[i] = x <;> simp [he])
    (by simp [spec_l06Has_b1])
  rw [key, all_get]
  have e : (xs.all fun y => !decide (y = x)) = !(xs.any fun y => decide (y = x)) := by rw [List.any_eq_not_all_not, Bool.not_not]
  rw [e]
  cases xs.any fun y => decide (y = x) <;> simp
theorem contains_eq (xs : List (List UInt8)) (x : List UInt8) (h : xs.length ≤ 4611686018427387904) : slices_Contains_string xs x = some (xs.any fun y => decide (y = x)) := by
  unfold slices_Contains_string slices_Index_string
  rcases scan_at xs.length h (fun i => (xs[i]?).all fun y => !decide (y = x)) (fun i => (i : Int)) () (tb := slices_Index_string_b1 xs x)
    (by
      intro i hi
      simp only [slices_Index_string_b1, rd_coe, List.getElem?_eq_getElem hi, Option.bind_some, Option.all_some]
      rw [if_pos (by simpa using hi)]
      by_cases he : xs[i] = x
      · simp [he]
      · have he' : ¬ x = xs[i] := fun h => he h.symm
        simp [he, he'])
    (by simp [slices_Index_string_b1]) with ⟨m, h1, h2, _, h3⟩ | ⟨h1, h2⟩
  · rw [h3]
    have : xs.any (fun y => decide (y = x)) = true := by
      rw [List.any_eq_true]
      rw [List.getElem?_eq_getElem h1, Option.all_some] at h2
      exact ⟨xs[m], List.getElem_mem h1, by simpa using h2⟩
    rw [this]
    simp
  · rw [h2]
    have : xs.any (fun y => decide (y = x)) = false := by
      rw [← Bool.not_eq_true, List.any_eq_true]
      rintro ⟨y, hy, hyx⟩
      obtain ⟨i, hi, rfl⟩ := List.getElem_of_mem hy
      have := h1 i hi
      rw [List.getElem?_eq_getElem hi, Option.all_some] at this
      simp at this hyx
      exact this hyx
    rw [this]
    simp
theorem names_loop (c : Chain) (hc : c.Marks.length ≤ 30) (hc1 : 1 ≤ c.Marks.length) : ∃ r : List (List UInt8), Lw (impl_AskOrder_b1 c) (IntKind.i64.wrap ((c.Marks.length : Int) - 2), [c.Debtor]) = some r ∧ Lw (spec_AskOrder_b1 c) (IntKind.i64.wrap ((c.Marks.length : Int) - 2), [c.Debtor]) = some r ∧ r.length ≤ 31 := by
  have e : ∀ s, Lw (spec_AskOrder_b1 c) s = Lw (impl_AskOrder_b1 c) s := fun _ => rfl
  rw [e, w64 (by omega)]
  have : ∃ r r2 : List (List UInt8), Lw (impl_AskOrder_b1 c) ((c.Marks.length : Int) - 2, [c.Debtor]) = some r ∧ Lw (impl_AskOrder_b1 c) ((c.Marks.length : Int) - 2, [c.Debtor]) = some r2 ∧ r.length ≤ 31 := by
    refine Lw_sim (tb := impl_AskOrder_b1 c) (tb2 := impl_AskOrder_b1 c) (fun s => (s.1 + 1).toNat) (fun s s2 => s = s2 ∧ -1 ≤ s.1 ∧ s.1 < c.Marks.length ∧ s.2.length + (s.1 + 1).toNat ≤ 31) _ ?_ _ _ _ rfl ⟨rfl, by simp only; omega, by simp only; omega, by simp only [List.length_singleton]; omega⟩
    rintro ⟨j, o⟩ s2 ⟨rfl, h1, h2, h3⟩
    simp only at h1 h2 h3
    by_cases h0 : j ≥ 0
    · obtain ⟨i, rfl⟩ : ∃ i : Nat, j = i := ⟨j.toNat, by omega⟩
      have hlt : i < c.Marks.length := by omega
      have ap : app 16 o [c.Marks[i].Holder] = some (o ++ [c.Marks[i].Holder]) := app_some (by simp; omega) (by decide)
      have w : IntKind.i64.wrap ((i : Int) - 1) = (i : Int) - 1 := w64 (by omega)
      have : impl_AskOrder_b1 c ((i : Int), o) = some (.inl ((i : Int) - 1, o ++ [c.Marks[i].Holder])) := by simp [impl_AskOrder_b1, rd_coe, hlt, ap, w]
      exact .inl ⟨_, _, this, this, ⟨rfl, by simp only; omega, by simp only; omega, by simp; omega⟩, by simp only; omega⟩
    · have : impl_AskOrder_b1 c (j, o) = some (.inr o) := by simp [impl_AskOrder_b1, h0]
      exact .inr ⟨_, _, this, this, by omega⟩
  obtain ⟨r, _, e1, _, e2⟩ := this
  exact ⟨r, e1, e1, e2⟩
theorem out_loop (c : Chain) (m : Mark) (hm : impl_last c = some (m.Holder, m.Seal)) (ys : List (List UInt8)) (hy : ys.length ≤ 31) :
    ∃ r r2 : List (List UInt8), Lw (impl_AskOrder_b2 c ys) (0, []) = some r ∧ Lw (spec_AskOrder_b2 m.Holder ys) (0, []) = some r2 ∧ r = r2 ∧ r.length ≤ 31 := by
  refine Lw_sim (tb := impl_AskOrder_b2 c ys) (tb2 := spec_AskOrder_b2 m.Holder ys) (fun s => ys.length - s.1.toNat) (fun s s2 => s = s2 ∧ ∃ i : Nat, s.1 = i ∧ i ≤ ys.length ∧ s.2.length ≤ i) _ ?_ _ _ _ rfl ⟨rfl, 0, rfl, by omega, by simp⟩
  rintro ⟨j, o⟩ s2 ⟨rfl, i, hi, hil, hol⟩
  simp only at hi hol
  subst hi
  by_cases hlt : i < ys.length
  · have hr : rd ys (i : Int) = some ys[i] := by rw [rd_coe, List.getElem?_eq_getElem hlt]
    have w := w64s hlt (by omega)
    have c1 := contains_eq o ys[i] (by omega)
    have c2 := has_eq o ys[i] (by omega)
    have ap : app 16 o [ys[i]] = some (o ++ [ys[i]]) := app_some (by simp; omega) (by decide)
    left
    by_cases k1 : ys[i] = m.Holder
    · exact ⟨(((i + 1 : Nat) : Int), o), _, by simp [impl_AskOrder_b2, hr, hlt, hm, k1, w], by simp [spec_AskOrder_b2, hr, hlt, k1, w], ⟨rfl, i + 1, rfl, by omega, by simp; omega⟩, by simp; omega⟩
    · cases k2 : o.any fun y => decide (y = ys[i]) with
      | true =>
        rw [k2] at c1 c2
        exact ⟨(((i + 1 : Nat) : Int), o), _, by simp [impl_AskOrder_b2, hr, hlt, hm, k1, c1, w], by simp [spec_AskOrder_b2, hr, hlt, k1, c2, w], ⟨rfl, i + 1, rfl, by omega, by simp; omega⟩, by simp; omega⟩
      | false =>
        rw [k2] at c1 c2
        exact ⟨(((i + 1 : Nat) : Int), o ++ [ys[i]]), _, by simp [impl_AskOrder_b2, hr, hlt, hm, k1, c1, ap, w], by simp [spec_AskOrder_b2, hr, hlt, k1, c2, ap, w], ⟨rfl, i + 1, rfl, by omega, by simp; omega⟩, by simp; omega⟩
  · right
    exact ⟨o, o, by simp [impl_AskOrder_b2, hlt], by simp [spec_AskOrder_b2, hlt], rfl, by omega⟩
theorem ask_same (c : Chain) (hc : c.ok) : (impl_AskOrder c = some (.inr ()) ∧ spec_AskOrder c = some ([], 1)) ∨ ∃ o : List (List UInt8), impl_AskOrder c = some (.inl o) ∧ spec_AskOrder c = some (o, 0) ∧ o.length ≤ 31 := by
  obtain ⟨b, i1, i2, i3⟩ := validChain_same c hc
  unfold impl_AskOrder spec_AskOrder
  rw [i1, i2]
  cases b with
  | false => exact .inl ⟨by simp, by simp⟩
  | true =>
    obtain ⟨m, l1, l2⟩ := last_eq c (i3 rfl)
    obtain ⟨ys, y1, y2, y3⟩ := names_loop c (i3 rfl).2.1 (i3 rfl).1
    obtain ⟨r, _, r1, r2, rfl, r3⟩ := out_loop c m l1 ys y3
    exact .inr ⟨r, by simp [y1, r1], by simp [l2, y2, r2], r3⟩
theorem FnExactAskOrder (a0 : Chain) (h0 : Chain.ok a0) : laws_FnExactAskOrder a0 = some true := by
  have n0 := ok_notches h0
  have m0 := ok_marks h0
  unfold laws_FnExactAskOrder
  obtain ⟨r, hr⟩ := szChain_some a0 1048576 h0
  rw [hr, Option.bind_some]
  by_cases hr0 : r < 0
  · rw [if_pos (by simpa using hr0)]
  rw [if_neg (by simpa using hr0)]
  have e0 : (⟨a0.Debtor, ⟨a0.Stock.Stock, a0.Stock.Notches, a0.Stock.Grain⟩, a0.Marks⟩ : Chain) = a0 := rfl
  have s0 := eqChain_eq a0 a0 (by omega) (by omega)
  have t0 := toChain_eq _ h0
  obtain ⟨n', m', mk⟩ := markChain_eq a0.Debtor a0.Stock.Stock a0.Stock.Notches a0.Stock.Grain a0.Marks 1 (by omega) (by omega) (by omega) (by omega)
  have d0 : decide (1 + ((2 * a0.Stock.Notches.length : Nat) : Int) + ((2 * a0.Marks.length : Nat) : Int) < 0) = false := by rw [decide_eq_false_iff_not]; omega
  rcases ask_same a0 h0 with ⟨q1, q2⟩ | ⟨o, q1, q2, q3⟩
  · have z := eqStringS_eq [] [] (by simp)
    have mn := markStringS0 1
    have hh : laws_heldStringS [] 1 = some 1 := heldStringS_eq 0 1 (by omega) (by omega) (by omega)
    have c1 : decide ((1 : Int) < 0) = false := by decide
    simp only [t0, e0, q1, q2, s0, mk, d0, z, mn, hh, Option.bind_some, decide_true, if_true, bne_self_eq_false, Bool.false_eq_true, if_false, c1]
  · have z := eqStringS_eq o o (by omega)
    have mm := markStringS_eq o 1 (by omega) (by omega) (by omega)
    have hh := heldStringS_eq o.length 1 (by omega) (by omega) (by omega)
    have c1 : decide ((1 : Int) + ((1 * o.length : Nat) : Int) < 0) = false := by rw [decide_eq_false_iff_not]; omega
    simp only [t0, e0, q1, q2, s0, mk, d0, z, mm, hh, Option.bind_some, decide_true, if_true, bne_self_eq_false, Bool.false_eq_true, if_false, c1]
end Go.Proofs.Ytkkmbehooldmjaa.Pure

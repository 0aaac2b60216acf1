/- The program's ShortWay and the reference's. -/
import Derived.Test.YthkbjnbbahmpkabPMarkTextShortWay
set_option linter.unusedVariables false
set_option linter.unusedSimpArgs false
namespace Go.Proofs.Ythkbjnbbahmpkab.Pure
open Go Go.Ab
theorem index_eq (ys : List (List UInt8)) (x : List UInt8) (h : ys.length ≤ 4611686018427387904) : slices_Index_string ys x = some (if ys.findIdx (fun y => decide (y = x)) < ys.length then ((ys.findIdx fun y => decide (y = x) : Nat) : Int) else -1) := by
  unfold slices_Index_string
  have key := find_first (tb := slices_Index_string_b1 ys x) (fun y => decide (y = x)) ys (fun i => .inl (i : Int)) (.inr ())
    (by
      intro i hi hp
      have w := w64s hi h
      simp only [decide_eq_false_iff_not] at hp
      have hp' : ¬ x = ys[i] := fun e => hp e.symm
      simp [slices_Index_string_b1, rd_coe, hi, hp', w])
    (by
      intro i hi hp
      simp only [decide_eq_true_eq] at hp
      simp [slices_Index_string_b1, rd_coe, hi, hp])
    (by simp [slices_Index_string_b1])
  rw [key, Option.bind_some]
  by_cases hf : ys.findIdx (fun y => decide (y = x)) < ys.length
  · rw [if_pos hf, if_pos hf]
  · rw [if_neg hf, if_neg hf]
theorem at_eq (c : Chain) (n i : Nat) (xs : List (List UInt8)) (hn : n ≤ xs.length) (hx : xs.length ≤ 100) (hi : i < c.Marks.length) : Lw (spec_ShortWay_b2 c n (i : Int) xs) 0 = some (((xs.take n).findIdx fun y => decide (y = c.Marks[i].Holder) : Nat) : Int) := by
  have hl : (xs.take n).length = n := by simp; omega
  have hr : rd c.Marks (i : Int) = some c.Marks[i] := by rw [rd_coe, List.getElem?_eq_getElem hi]
  have key := find_first (tb := spec_ShortWay_b2 c n (i : Int) xs) (fun y => decide (y = c.Marks[i].Holder)) (xs.take n) (fun j => (j : Int)) (n : Int)
    (by
      intro j h hp
      have hj : j < n := by omega
      have hj2 : j < xs.length := by omega
      have w := w64s h (by omega)
      simp only [List.getElem_take, decide_eq_false_iff_not] at hp
      simp [spec_ShortWay_b2, rd_coe, hr, hi, hj, hj2, hp, w])
    (by
      intro j h hp
      have hj : j < n := by omega
      have hj2 : j < xs.length := by omega
      simp only [List.getElem_take, decide_eq_true_eq] at hp
      simp [spec_ShortWay_b2, rd_coe, hr, hi, hj, hj2, hp])
    (by simp [spec_ShortWay_b2, hl])
  rw [key]
  by_cases hf : (xs.take n).findIdx (fun y => decide (y = c.Marks[i].Holder)) < (xs.take n).length
  · rw [if_pos hf]
  · rw [if_neg hf]
    have : (xs.take n).findIdx (fun y => decide (y = c.Marks[i].Holder)) = (xs.take n).length := Nat.le_antisymm List.findIdx_le_length (by omega)
    rw [this, hl]
theorem apw_some (xs : List (List UInt8)) (n : Nat) (y : List UInt8) (hn : n ≤ xs.length) (hx : xs.length ≤ 100) : ∃ zs m, apw 16 xs n [y] = some (zs, m) ∧ m ≤ zs.length ∧ zs.length ≤ xs.length + 1 ∧ 1 ≤ m := by
  by_cases h : n = xs.length
  · refine ⟨xs ++ [y], (xs ++ [y]).length, ?_, Nat.le_refl _, by simp, by simp⟩
    unfold apw
    rw [if_pos h, app_some (by simp; omega) (by decide)]
    rfl
  · refine ⟨xs.take n ++ [y] ++ xs.drop (n + 1), n + 1, ?_, by simp; omega, by simp; omega, by omega⟩
    unfold apw
    rw [if_neg h, if_pos ⟨by simp; omega, by simp; omega, by simp; omega⟩]
    rfl
theorem way_loop (c : Chain) (hc : c.Marks.length ≤ 30) : ∃ r : Nat × List (List UInt8), Lw (impl_ShortWay_b1 c) ([c.Debtor].length, 0, [c.Debtor]) = some r ∧ Lw (spec_ShortWay_b1 c) ([c.Debtor].length, 0, [c.Debtor]) = some r ∧ r.1 ≤ r.2.length ∧ r.2.length ≤ 31 := by
  have : ∃ r r2 : Nat × List (List UInt8), Lw (impl_ShortWay_b1 c) ([c.Debtor].length, 0, [c.Debtor]) = some r ∧ Lw (spec_ShortWay_b1 c) ([c.Debtor].length, 0, [c.Debtor]) = some r2 ∧ r = r2 ∧ r.1 ≤ r.2.length ∧ r.2.length ≤ 31 := by
    refine Lw_sim (tb := impl_ShortWay_b1 c) (tb2 := spec_ShortWay_b1 c) (fun s => c.Marks.length - s.2.1.toNat) (fun s s2 => s = s2 ∧ ∃ i : Nat, s.2.1 = i ∧ i ≤ c.Marks.length ∧ s.1 ≤ s.2.2.length ∧ s.2.2.length ≤ i + 1) _ ?_ _ _ _ rfl ⟨rfl, 0, rfl, by omega, by simp, by simp⟩
    rintro ⟨n, j, xs⟩ s2 ⟨rfl, i, hi, hil, hn, hx⟩
    simp only at hi hn hx
    subst hi
    by_cases hlt : i < c.Marks.length
    · have hr : rd c.Marks (i : Int) = some c.Marks[i] := by rw [rd_coe, List.getElem?_eq_getElem hlt]
      have w := w64s hlt (by omega)
      have hl : (xs.take n).length = n := by simp; omega
      have e1 := index_eq (xs.take n) c.Marks[i].Holder (by omega)
      have e2 := at_eq c n i xs hn (by omega) hlt
      have hle : (xs.take n).findIdx (fun y => decide (y = c.Marks[i].Holder)) ≤ (xs.take n).length := List.findIdx_le_length
      rw [hl] at e1 hle
      revert e1 e2 hle
      generalize (xs.take n).findIdx (fun y => decide (y = c.Marks[i].Holder)) = k
      intro e1 e2 hle
      left
      by_cases hk : k < n
      · rw [if_pos hk] at e1
        have hk' : (k : Int) < (n : Int) := by omega
        have w2 : IntKind.i64.wrap ((k : Int) + 1) = ((k + 1 : Nat) : Int) := w64s hk (by omega)
        have sw : slw n ((k + 1 : Nat) : Int) = some (k + 1) := by
          unfold slw
          rw [if_pos ⟨by omega, by omega⟩]; rfl
        exact ⟨(k + 1, ((i + 1 : Nat) : Int), xs), _, by simp only [impl_ShortWay_b1, hr, e1, w, w2, sw, Option.bind_some]; simp [hlt], by simp only [spec_ShortWay_b1, hr, e2, w, w2, sw, Option.bind_some]; simp [hlt, hk], ⟨rfl, i + 1, rfl, by omega, by simp only; omega, by simp only; omega⟩, by simp; omega⟩
      · rw [if_neg hk] at e1
        have hk' : ¬ (k : Int) < (n : Int) := by omega
        obtain ⟨zs, m, a1, a2, a3, a4⟩ := apw_some xs n c.Marks[i].Holder hn (by omega)
        exact ⟨(m, ((i + 1 : Nat) : Int), zs), _, by simp only [impl_ShortWay_b1, hr, e1, w, a1, Option.bind_some]; simp [hlt], by simp only [spec_ShortWay_b1, hr, e2, w, a1, Option.bind_some]; simp [hlt, hk], ⟨rfl, i + 1, rfl, by omega, by simp only; omega, by simp only; omega⟩, by simp; omega⟩
    · exact .inr ⟨(n, xs), (n, xs), by simp [impl_ShortWay_b1, hlt], by simp [spec_ShortWay_b1, hlt], rfl, by simp only; omega, by simp only; omega⟩
  obtain ⟨r, _, e1, e2, rfl, h⟩ := this
  exact ⟨r, e1, e2, h⟩
theorem way_same (c : Chain) (hc : c.ok) : (impl_ShortWay c = some (.inr ()) ∧ spec_ShortWay c = some ([], 1)) ∨ ∃ o : List (List UInt8), impl_ShortWay c = some (.inl o) ∧ spec_ShortWay c = some (o, 0) ∧ o.length ≤ 31 := by
  obtain ⟨b, i1, i2, i3⟩ := validChain_same c hc
  unfold impl_ShortWay spec_ShortWay
  rw [i1, i2]
  cases b with
  | false => exact .inl ⟨by simp, by simp⟩
  | true =>
    obtain ⟨⟨n, xs⟩, e1, e2, h1, h2⟩ := way_loop c (i3 rfl).2.1
    simp only at h1 h2
    have ap : app 16 [] (xs.take n) = some (xs.take n) := by rw [app_some (by simp; omega) (by decide)]; simp
    exact .inr ⟨xs.take n, by simp only [Option.bind_some, e1, if_true], by simp only [Option.bind_some, e2, ap, if_true], by simp; omega⟩
theorem FnExactShortWay (a0 : Chain) (h0 : Chain.ok a0) : laws_FnExactShortWay a0 = some true := by
  have n0 := ok_notches h0
  have m0 := ok_marks h0
  unfold laws_FnExactShortWay
  obtain ⟨r, hr⟩ := szChain_some a0 1048576 h0
  rw [hr, Option.bind_some]
  by_cases hr0 : r < 0
  · rw [if_pos (by simpa using hr0)]
  rw [if_neg (by simpa using hr0)]
  have e0 : (⟨a0.Debtor, ⟨a0.Stock.Stock, a0.Stock.Notches, a0.Stock.Grain⟩, a0.Marks⟩ : Chain) = a0 := rfl
  have s0 := eqChain_eq a0 a0 (by omega) (by omega)
  have t0 := toChain_eq _ h0
  obtain ⟨n', m', mk⟩ := markChain_eq a0.Debtor a0.Stock.Stock a0.Stock.Notches a0.Stock.Grain a0.Marks 1 (by omega) (by omega) (by omega) (by omega)
  have d0 : decide (1 + ((2 * a0.Stock.Notches.length : Nat) : Int) + ((2 * a0.Marks.length : Nat) : Int) < 0) = false := by rw [decide_eq_false_iff_not]; omega
  rcases way_same a0 h0 with ⟨q1, q2⟩ | ⟨o, q1, q2, q3⟩
  · have z := eqStringS_eq [] [] (by simp)
    have mn := markStringS0 1
    have hh : laws_heldStringS [] 1 = some 1 := heldStringS_eq 0 1 (by omega) (by omega) (by omega)
    have c1 : decide ((1 : Int) < 0) = false := by decide
    simp only [t0, e0, q1, q2, s0, mk, d0, z, mn, hh, Option.bind_some, decide_true, if_true, bne_self_eq_false, Bool.false_eq_true, if_false, c1]
  · have z := eqStringS_eq o o (by omega)
    have mm := markStringS_eq o 1 (by omega) (by omega) (by omega)
    have hh := heldStringS_eq o.length 1 (by omega) (by omega) (by omega)
    have c1 : decide ((1 : Int) + ((1 * o.length : Nat) : Int) < 0) = false := by rw [decide_eq_false_iff_not]; omega
    simp only [t0, e0, q1, q2, s0, mk, d0, z, mm, hh, Option.bind_some, decide_true, if_true, bne_self_eq_false, Bool.false_eq_true, if_false, c1]
end Go.Proofs.Ythkbjnbbahmpkab.Pure

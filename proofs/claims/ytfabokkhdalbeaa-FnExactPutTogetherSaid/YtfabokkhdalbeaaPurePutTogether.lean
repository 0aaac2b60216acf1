/- The program's PutTogether and the reference's. -/
import Derived.Test.YtfabokkhdalbeaaPOrderPutTogether
set_option linter.unusedVariables false
set_option linter.unusedSimpArgs false
namespace Go.Proofs.Ytfabokkhdalbeaa.Pure
open Go Go.Ab
theorem dealB_day {d : Deal} (h : dealB d = true) : 0 ≤ d.Day ∧ d.Day ≤ 100000 := by
  unfold dealB at h
  simp only [Bool.and_eq_true] at h
  exact inB_iff.1 h.1
/-- one merge for both -/
theorem merge_same (a b : List Deal) (ha : a.length ≤ 80) (hb : b.length ≤ 80) (hab : a.length + b.length ≤ 80) :
    ∃ o, Lw impl_PutTogether_b1 (a, b, []) = some o ∧ Lw (spec_PutTogether_b1 a b) (0, 0, []) = some o ∧ o.length ≤ 80 := by
  have := Lw_sim (tb := impl_PutTogether_b1) (tb2 := spec_PutTogether_b1 a b) (fun s => s.1.length + s.2.1.length)
    (fun s s2 => ∃ i k : Nat, i ≤ a.length ∧ k ≤ b.length ∧ s.1 = a.drop i ∧ s.2.1 = b.drop k ∧ s2 = ((i : Int), (k : Int), s.2.2) ∧ s.2.2.length = i + k)
    (fun r r2 => r = r2 ∧ r.length ≤ 80) (by
      rintro ⟨x, y, o⟩ s2 ⟨i, k, hi, hk, hx, hy, rfl, ho⟩
      simp only at hx hy ho
      subst hx hy
      have hlen : IntKind.i64.wrap (((a.drop i).length : Int) + ((b.drop k).length : Int)) = ((a.length - i : Nat) : Int) + ((b.length - k : Nat) : Int) := by
        rw [w64 (by simp; omega)]; simp
      have ap : ∀ d : Deal, i + k < a.length + b.length → app 48 o [d] = some (o ++ [d]) := fun d h => app_some (by simp [ho]; omega) (by omega)
      have sa : i < a.length → slc (a.drop i) 1 ((a.drop i).length : Int) = some (a.drop (i + 1)) := fun h => by
        unfold slc
        rw [if_pos ⟨by omega, by simp; omega, by simp⟩, List.take_of_length_le (by simp; omega), List.drop_drop]
        rfl
      have sb : k < b.length → slc (b.drop k) 1 ((b.drop k).length : Int) = some (b.drop (k + 1)) := fun h => by
        unfold slc
        rw [if_pos ⟨by omega, by simp; omega, by simp⟩, List.take_of_length_le (by simp; omega), List.drop_drop]
        rfl
      have ra : (h : i < a.length) → rd (a.drop i) 0 = some a[i] := fun h => by rw [rd_zero]; simp [h]
      have rb : (h : k < b.length) → rd (b.drop k) 0 = some b[k] := fun h => by rw [rd_zero]; simp [h]
      have wi : i < a.length → IntKind.i64.wrap ((i : Int) + 1) = ((i + 1 : Nat) : Int) := fun h => w64s h (by omega)
      have wk : k < b.length → IntKind.i64.wrap ((k : Int) + 1) = ((k + 1 : Nat) : Int) := fun h => w64s h (by omega)
      by_cases hia : i < a.length
      · left
        by_cases hkb : k < b.length
        · by_cases hlt : b[k].Day < a[i].Day
          · refine ⟨(a.drop i, b.drop (k + 1), o ++ [b[k]]), ((i : Int), ((k + 1 : Nat) : Int), o ++ [b[k]]), ?_, ?_, ⟨i, k + 1, by omega, by omega, rfl, rfl, rfl, by simp [ho]; omega⟩, by simp; omega⟩
            · simp only [impl_PutTogether_b1, hlen, ra hia, rb hkb, sa hia, sb hkb, ap _ (show i + k < a.length + b.length by omega), Option.bind_some]
              rw [if_pos (by simp; omega), if_pos (by simp; omega), if_neg (by simp; omega)]
              simp [hlt]
            · simp only [spec_PutTogether_b1, rd_coe, List.getElem?_eq_getElem hia, List.getElem?_eq_getElem hkb, Option.bind_some, ap _ (show i + k < a.length + b.length by omega), wi hia, wk hkb]
              have c1 : ¬ (i : Int) = (a.length : Int) := by omega
              simp [hia, hkb, hlt, c1]
          · refine ⟨(a.drop (i + 1), b.drop k, o ++ [a[i]]), (((i + 1 : Nat) : Int), (k : Int), o ++ [a[i]]), ?_, ?_, ⟨i + 1, k, by omega, by omega, rfl, rfl, rfl, by simp [ho]; omega⟩, by simp; omega⟩
            · simp only [impl_PutTogether_b1, hlen, ra hia, rb hkb, sa hia, sb hkb, ap _ (show i + k < a.length + b.length by omega), Option.bind_some]
              rw [if_pos (by simp; omega), if_pos (by simp; omega), if_neg (by simp; omega)]
              simp [hlt]
            · simp only [spec_PutTogether_b1, rd_coe, List.getElem?_eq_getElem hia, List.getElem?_eq_getElem hkb, Option.bind_some, ap _ (show i + k < a.length + b.length by omega), wi hia, wk hkb]
              have c1 : ¬ (i : Int) = (a.length : Int) := by omega
              simp [hia, hkb, hlt, c1]
        · have hk2 : k = b.length := by omega
          refine ⟨(a.drop (i + 1), b.drop k, o ++ [a[i]]), (((i + 1 : Nat) : Int), (k : Int), o ++ [a[i]]), ?_, ?_, ⟨i + 1, k, by omega, by omega, rfl, rfl, rfl, by simp [ho]; omega⟩, by simp; omega⟩
          · simp only [impl_PutTogether_b1, hlen, ra hia, sa hia, ap _ (show i + k < a.length + b.length by omega), Option.bind_some]
            rw [if_pos (by simp; omega), if_neg (by simp; omega)]
            simp
          · simp only [spec_PutTogether_b1, rd_coe, List.getElem?_eq_getElem hia, Option.bind_some, ap _ (show i + k < a.length + b.length by omega), wi hia]
            have c1 : ¬ (i : Int) = (a.length : Int) := by omega
            simp [hia, hkb, c1]
      · have hi2 : i = a.length := by omega
        by_cases hkb : k < b.length
        · left
          refine ⟨(a.drop i, b.drop (k + 1), o ++ [b[k]]), ((i : Int), ((k + 1 : Nat) : Int), o ++ [b[k]]), ?_, ?_, ⟨i, k + 1, by omega, by omega, rfl, rfl, rfl, by simp [ho]; omega⟩, by simp; omega⟩
          · simp only [impl_PutTogether_b1, hlen, rb hkb, sb hkb, ap _ (show i + k < a.length + b.length by omega), Option.bind_some]
            rw [if_pos (by simp; omega), if_pos (by simp; omega), if_pos (by simp; omega)]
            simp
          · simp only [spec_PutTogether_b1, rd_coe, List.getElem?_eq_getElem hkb, Option.bind_some, ap _ (show i + k < a.length + b.length by omega), wk hkb]
            have c1 : (i : Int) = (a.length : Int) := by omega
            simp [hkb, c1]
        · right
          refine ⟨o, o, ?_, ?_, rfl, by omega⟩
          · simp only [impl_PutTogether_b1, hlen]
            rw [if_neg (by simp; omega)]
          · simp [spec_PutTogether_b1, hia, hkb]) _ (a, b, []) (0, 0, []) rfl ⟨0, 0, by omega, by omega, by simp, by simp, rfl, rfl⟩
  obtain ⟨r, r2, h1, h2, rfl, h3⟩ := this
  exact ⟨r, h1, h2, h3⟩
theorem put_same (a b : List Deal) (ha : a.length ≤ 4611686018427387) (hb : b.length ≤ 4611686018427387) :
    (∃ e, impl_PutTogether a b = some (.inl e) ∧ spec_PutTogether a b = some ([], e)) ∨ ∃ o, impl_PutTogether a b = some (.inr o) ∧ spec_PutTogether a b = some (o, 0) ∧ o.length ≤ 80 := by
  unfold impl_PutTogether spec_PutTogether
  rw [areDeals_eq a (by omega), areDeals_eq b (by omega), l07Deals_eq a (by omega), l07Deals_eq b (by omega)]
  simp only [Option.bind_some]
  cases hA : a.all dealB with
  | false => left; exact ⟨1, by simp, by simp⟩
  | true =>
  cases hB : b.all dealB with
  | false => left; exact ⟨1, by simp, by simp⟩
  | true =>
  have dA : ∀ d ∈ a, 0 ≤ d.Day ∧ d.Day ≤ 100000 := fun d hd => dealB_day (List.all_eq_true.1 hA d hd)
  have dB : ∀ d ∈ b, 0 ≤ d.Day ∧ d.Day ≤ 100000 := fun d hd => dealB_day (List.all_eq_true.1 hB d hd)
  rw [inOrder_eq a (by omega) dA, inOrder_eq b (by omega) dB, l07Ordered_eq a (by omega), l07Ordered_eq b (by omega)]
  by_cases c1 : (a.length : Int) > 80
  · left; exact ⟨3, by simp [c1], by simp [c1]⟩
  by_cases c2 : (b.length : Int) > 80
  · left; exact ⟨3, by simp [c1, c2], by simp [c1, c2]⟩
  cases hsA : sortedB a with
  | false => left; exact ⟨4, by simp [c1, c2], by simp [c1, c2]⟩
  | true =>
  cases hsB : sortedB b with
  | false => left; exact ⟨4, by simp [c1, c2], by simp [c1, c2]⟩
  | true =>
  have hw : IntKind.i64.wrap ((a.length : Int) + (b.length : Int)) = (a.length : Int) + b.length := w64 (by omega)
  rw [hw]
  by_cases c3 : (a.length : Int) + b.length > 80
  · left; exact ⟨3, by simp [c1, c2, c3], by simp [c1, c2, c3]⟩
  · right
    obtain ⟨o, h1, h2, h3⟩ := merge_same a b (by omega) (by omega) (by omega)
    exact ⟨o, by simp [c1, c2, c3, h1], by simp [c1, c2, c3, h2], h3⟩
theorem FnExactPutTogether (a0 : List Deal) (h0 : (okLs 48 Deal.ok) a0) (a1 : List Deal) (h1 : (okLs 48 Deal.ok) a1) : laws_FnExactPutTogether a0 a1 = some true := by
  have ha := h0.2.1
  have hb := h1.2.1
  unfold laws_FnExactPutTogether
  obtain ⟨r, hr⟩ := szDealS_some a0 1048576
  rw [hr, Option.bind_some]
  by_cases hr0 : r < 0
  · rw [if_pos (by simpa using hr0)]
  rw [if_neg (by simpa using hr0)]
  obtain ⟨q, hq⟩ := szDealS_some a1 r
  rw [hq, Option.bind_some]
  by_cases hq0 : q < 0
  · rw [if_pos (by simpa using hq0)]
  rw [if_neg (by simpa using hq0)]
  obtain ⟨b1, b2⟩ := szDealS_bound a0 _ r hr hr0 (by omega) (by omega) (by omega)
  obtain ⟨b3, b4⟩ := szDealS_bound a1 r q hq hq0 (by omega) (by omega) (by omega)
  have hc : ∀ k : Nat, ¬ (1 + (k : Int) < 0) := fun k => by omega
  have hc2 : ∀ k j : Nat, ¬ (1 + (k : Int) + (j : Int) < 0) := fun k j => by omega
  have hm0 := markDealS_eq a0 1 (by omega) (by omega) (by omega)
  have hm1 := markDealS_eq a1 (1 + (6 * a0.length : Nat)) (by omega) (by omega) (by omega)
  have hm : ∀ x : List Deal, x.length ≤ 80 → laws_markDealS_l x 1 = some ((1 : Int) + ((6 * x.length : Nat) : Int), marks mDeal 6 1 x.length) := fun x hx => markDealS_eq x 1 (by omega) (by omega) (by omega)
  have hh : ∀ k : Nat, k ≤ 80 → laws_heldDealS (marks mDeal 6 1 k) 1 = some ((1 : Int) + ((6 * k : Nat) : Int)) := fun k hk => heldDealS_eq k 1 (by omega) (by omega) (by omega)
  have h00 : laws_heldDealS [] 1 = some 1 := hh 0 (by omega)
  have he : ∀ x y : List Deal, x.length ≤ 80 → laws_eqDealS x y = some (decide (x = y)) := fun x y hx => eqDealS_eq x y (by omega)
  have t0 := toDealS_eq a0 ha
  have t1 := toDealS_eq a1 hb
  have s0 := eqDealS_eq a0 a0 (by omega)
  have s1 := eqDealS_eq a1 a1 (by omega)
  rcases put_same a0 a1 (by omega) (by omega) with ⟨e, e1, e2⟩ | ⟨o, e1, e2, hl⟩
  · simp only [t0, t1, e1, e2, he [] _ (by simp), s0, s1, hm0, hm1, markDealS0, h00, Option.bind_some]
    have c0 : decide ((1 : Int) + ((6 * a0.length : Nat) : Int) + ((6 * a1.length : Nat) : Int) < 0) = false := by rw [decide_eq_false_iff_not]; omega
    have c1 : decide ((1 : Int) < 0) = false := by decide
    simp only [decide_true, if_true, bne_self_eq_false, Option.bind_some, Bool.false_eq_true, if_false, c0, c1]
  · simp only [t0, t1, e1, e2, he o _ hl, s0, s1, hm0, hm1, hm o hl, hh o.length hl, Option.bind_some]
    simp only [decide_true, if_true, bne_self_eq_false, Option.bind_some, Bool.false_eq_true, if_false]
    have c0 : decide ((1 : Int) + ((6 * a0.length : Nat) : Int) + ((6 * a1.length : Nat) : Int) < 0) = false := by rw [decide_eq_false_iff_not]; omega
    have c1 : decide ((1 : Int) + ((6 * o.length : Nat) : Int) < 0) = false := by rw [decide_eq_false_iff_not]; omega
    simp only [c0, c1, Bool.false_eq_true, if_false, Option.bind_some]
end Go.Proofs.Ytfabokkhdalbeaa.Pure

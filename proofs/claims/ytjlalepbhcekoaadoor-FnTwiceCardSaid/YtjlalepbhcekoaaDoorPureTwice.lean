/- Who passes a stock to two is named. -/
import Derived.Test.YtjlalepbhcekoaaDoorPsTwice
set_option linter.unusedVariables false
set_option linter.unusedSimpArgs false
namespace Go.Proofs.YtjlalepbhcekoaaDoor.Pure
open Go Go.Ab
theorem commonVal {x y : Chain} {j0 jx jy : Nat} {bx by_ : Int} (gx : GoodC x j0 jx bx) (gy : GoodC y j0 jy by_) (hst : y.Stock = x.Stock) (x1 : 1 ≤ x.Marks.length) (x2 : x.Marks.length ≤ 30) (y1 : 1 ≤ y.Marks.length) (y2 : y.Marks.length ≤ 30) (k : Nat)
    (hx : k ≤ x.Marks.length) (hy : k ≤ y.Marks.length) (he : ∀ i, i < k → x.Marks[i]? = y.Marks[i]?) (hend : k = x.Marks.length ∨ k = y.Marks.length ∨ ∃ m m', x.Marks[k]? = some m ∧ y.Marks[k]? = some m' ∧ m.Holder ≠ m'.Holder) :
    impl_CommonMarks x y = some ((k : Int), 0) ∧ spec_l06Common x y = some ((k : Int), 0) := by
  have nl := ntB_len gx.2.2.1.nt
  have hd : x.Debtor = y.Debtor := gx.1.trans gy.1.symm
  have s1 : impl_SameHalf x.Stock y.Stock = some true := by rw [sameHalf_eq _ _ (by omega), hst]; simp
  have s2 : spec_l01Same x.Stock y.Stock = some true := by rw [l01Same_eq _ _ (by omega), hst]; simp
  constructor
  · unfold impl_CommonMarks impl_common
    simp [goodOk_i gx x1 x2, goodOk_i gy y1 y2, hd, s1, common_run x y k hx hy (by omega) he hend]
  · unfold spec_l06Common
    simp [goodOk_s gx x1 x2, goodOk_s gy y1 y2, hd, s2, common_run_s x y k hx hy (by omega) he hend]
theorem other_ok {tb : List UInt8 × Int → Option ((List UInt8 × Int) ⊕ List UInt8)} (j h : Nat)
    (hs : ∀ (i : Nat) (o : List UInt8), i < 6 → tb (o, (i : Int)) = some (.inl (if i = j ∨ i = h then o else nmI i, ((i + 1 : Nat) : Int)))) (he : ∀ o, tb (o, 6) = some (.inr o)) : ∃ q, q < 6 ∧ q ≠ j ∧ q ≠ h ∧ Lw tb ([], 0) = some (nmI q) := by
  have := Lw_meas (tb := tb) (fun s => (6 - s.2).toNat) (fun s => ∃ i : Nat, s.2 = (i : Int) ∧ i ≤ 6 ∧ ((∃ q, q < 6 ∧ q ≠ j ∧ q ≠ h ∧ s.1 = nmI q) ∨ ∀ q, q < i → q = j ∨ q = h)) (fun r => ∃ q, q < 6 ∧ q ≠ j ∧ q ≠ h ∧ r = nmI q) (by
    rintro ⟨o, i'⟩ ⟨i, hi, hl, hor⟩
    simp only at hi hor
    subst hi
    by_cases hlt : i < 6
    · refine .inl ⟨_, hs i o hlt, ⟨i + 1, rfl, by omega, ?_⟩, by simp only; omega⟩
      by_cases hc : i = j ∨ i = h
      · rw [if_pos hc]
        rcases hor with h1 | h1
        · exact .inl h1
        · right
          intro q hq
          by_cases e : q = i
          · subst e; exact hc
          · exact h1 q (by omega)
      · rw [if_neg hc]
        exact .inl ⟨i, hlt, fun e => hc (.inl e), fun e => hc (.inr e), rfl⟩
    · have : i = 6 := by omega
      subst this
      refine .inr ⟨o, he o, ?_⟩
      rcases hor with h1 | h1
      · exact h1
      · exfalso
        have q0 := h1 0 (by omega)
        have q1 := h1 1 (by omega)
        have q2 := h1 2 (by omega)
        omega) _ ([], 0) rfl ⟨0, rfl, by omega, .inr (fun q hq => by omega)⟩
  obtain ⟨r, h1, q, q1, q2, q3, rfl⟩ := this
  exact ⟨q, q1, q2, q3, h1⟩
theorem nm_beq {i j : Nat} (hi : i < 6) (hj : j < 6) : (nmI i == nmI j) = decide (i = j) := by
  by_cases h : i = j
  · subst h; simp
  · have : nmI i ≠ nmI j := fun e => h (nmI_inj hi hj e)
    simp [h, this]
theorem FnTwice (a0 : List Int) (h0 : (okLs 1 (InR .u8)) a0) (a1 : List Int) (h1 : (okLs 1 (InR .u8)) a1) : laws_FnTwice a0 a1 = some true := by
  have hc := bys_of h0
  have hd := bys_of h1
  unfold laws_FnTwice
  by_cases b0 : (a0.length : Int) > 4096
  · simp [laws_f6big, b0]
  by_cases b1 : (a1.length : Int) > 4096
  · simp [laws_f6big, b0, b1]
  have f0 : laws_f6big a0 = some false := by simp [laws_f6big, b0]
  have f1 : laws_f6big a1 = some false := by simp [laws_f6big, b1]
  have p0 : spec_P6People = some ppl := by unfold spec_P6People; rw [people_eq]; rfl
  obtain ⟨ch, j0, j, b, e5, gd, m1, m2⟩ := p6Chain_ok a0 hc
  obtain ⟨k', e6, k0, k1, _⟩ := p6Pick_ok a1 hd (ch.Marks.length : Int) (by omega)
  have k1 := k1 (by omega)
  obtain ⟨k, rfl⟩ : ∃ k : Nat, k' = k := ⟨k'.toNat, by omega⟩
  have hk : k < ch.Marks.length := by omega
  have ec : (⟨ch.Debtor, ⟨ch.Stock.Stock, ch.Stock.Notches, ch.Stock.Grain⟩, ch.Marks⟩ : Chain) = ch := rfl
  have eh : (⟨ch.Stock.Stock, ch.Stock.Notches, ch.Stock.Grain⟩ : Half) = ch.Stock := rfl
  have hst : (⟨true, ch.Stock.Notches, ch.Stock.Grain⟩ : Half) = ch.Stock := half_eq.2 ⟨gd.2.2.1.st.symm, rfl, rfl⟩
  have hs : slc ch.Marks 0 (k : Int) = some (ch.Marks.take k) := by unfold slc; rw [if_pos ⟨by omega, by omega, by omega⟩]; simp
  have a1 : app 24 ([] : List Mark) (ch.Marks.take k) = some (ch.Marks.take k) := by rw [app_some (by simp; omega) (by decide)]; simp
  obtain ⟨hh, hh6, ehh⟩ := gd.hold k hk
  have rk : rd ch.Marks (k : Int) = some ch.Marks[k] := by rw [rd_coe, List.getElem?_eq_getElem hk]
  have p6 : ((ppl.length : Nat) : Int) = 6 := rfl
  obtain ⟨jg, bg, gb⟩ := gd.cut k
  have glt := gb.2.2.2.lt gb.2.1
  have tlen : (ch.Marks.take k).length = k := by simp; omega
  by_cases hz : k = 0
  · -- the first mark is another one
    subst hz
    have c0 : decide (((0 : Nat) : Int) > 0) = false := by decide
    obtain ⟨q, q1, q2, q3, q4⟩ := other_ok (tb := laws_FnTwice_b2 ppl ch.Debtor ch.Marks ((0 : Nat) : Int)) j0 hh (fun i o hi => by
      have hr := ppl_rd hi
      have w := w64s hi (by decide)
      have c6 : (i : Int) < 6 := by omega
      simp only [laws_FnTwice_b2, p6, hr, rk, Option.bind_some, gd.1, nm_beq hi gd.2.1, ehh, nm_beq hi hh6, w]
      rw [if_pos (by simpa using c6)]
      by_cases x1 : i = j0
      · simp [x1]
      · by_cases x2 : i = hh
        · simp [x2]
        · simp [x1, x2]) (fun o => by simp [laws_FnTwice_b2, p6])
    obtain ⟨s, s1, s2⟩ := startC_i ch.Stock gd.2.2.1 j0 q gd.2.1 q1 q2
    have fp := findParty_s gd.2.1
    rw [← gd.1] at fp
    have rj := ppl_rd gd.2.1
    have fe : (⟨ch.Debtor, ⟨true, ch.Stock.Notches, ch.Stock.Grain⟩, [⟨nmI q, s⟩]⟩ : Chain) = ⟨nmI j0, ⟨true, ch.Stock.Notches, ch.Stock.Grain⟩, [⟨nmI q, s⟩]⟩ := by rw [gd.1]
    have hend : ∃ m m', ch.Marks[0]? = some m ∧ ([⟨nmI q, s⟩] : List Mark)[0]? = some m' ∧ m.Holder ≠ m'.Holder := ⟨_, _, List.getElem?_eq_getElem hk, rfl, by rw [ehh]; exact fun e => q3 (nmI_inj hh6 q1 e).symm⟩
    obtain ⟨v1, v2⟩ := commonVal gd s2 hst m1 (by omega) (by simp) (by simp) 0 (by omega) (by omega) (fun i hi => by omega) (.inr (.inr hend))
    have l0 : ((0 : Nat) : Int) = 0 := rfl
    rw [l0] at v1 v2
    have ne1 : ((0 : Int) == (ch.Marks.length : Int)) = false := by rw [beq_eq_false_iff_ne]; omega
    have w1 : impl_WhoPassedTwice ch ⟨nmI j0, ⟨true, ch.Stock.Notches, ch.Stock.Grain⟩, [⟨nmI q, s⟩]⟩ = some (ch.Debtor, 0) := by
      unfold impl_WhoPassedTwice
      have ne1b : ((0 : Int) == (([(⟨nmI q, s⟩ : Mark)].length : Nat) : Int)) = false := by rw [beq_eq_false_iff_ne]; simp
      simp only [v1, ne1, ne1b, Option.bind_some, bne_self_eq_false, Bool.false_eq_true, if_false, beq_self_eq_true, if_true]
    have w2 : spec_WhoPassedTwice ch ⟨nmI j0, ⟨true, ch.Stock.Notches, ch.Stock.Grain⟩, [⟨nmI q, s⟩]⟩ = some (ch.Debtor, 0) := by
      unfold spec_WhoPassedTwice
      have ne1b : ((0 : Int) == (([(⟨nmI q, s⟩ : Mark)].length : Nat) : Int)) = false := by rw [beq_eq_false_iff_ne]; simp
      simp only [v2, ne1, ne1b, Option.bind_some, bne_self_eq_false, Bool.false_eq_true, if_false, beq_self_eq_true, if_true]
    have ck := check_good s2 (by simp) (by simp)
    simp only [f0, f1, p0, e5, e6, hs, a1, c0, Option.bind_some, Bool.false_eq_true, if_false, fp, bne_self_eq_false, q4]
    rw [l0]
    simp only [beq_self_eq_true, if_true, rj, eh, s1, Option.bind_some, ec, v1, w1, w2, ck]
  · -- a later one
    have kpos : 0 < k := by omega
    have c0 : decide ((k : Int) > 0) = true := by simp; omega
    have hk1 : k - 1 < ch.Marks.length := by omega
    have rk1 : rd ch.Marks (IntKind.i64.wrap ((k : Int) - 1)) = some ch.Marks[k - 1] := by rw [w64 (by omega), show ((k : Int) - 1) = ((k - 1 : Nat) : Int) by omega, rd_coe, List.getElem?_eq_getElem hk1]
    -- the giver
    have hlast := gb.ne (by simp only; rw [tlen]; omega)
    simp only at hlast
    have eg : ch.Marks[k - 1].Holder = nmI jg := by
      rw [List.getLast?_eq_getElem?, tlen, List.getElem?_take, if_pos (by omega), List.getElem?_eq_getElem hk1] at hlast
      have := Option.some.inj hlast
      rw [this]
    have eb : (⟨ch.Debtor, ⟨ch.Stock.Stock, ch.Stock.Notches, ch.Stock.Grain⟩, ch.Marks.take k⟩ : Chain) = ⟨ch.Debtor, ch.Stock, ch.Marks.take k⟩ := rfl
    obtain ⟨v1, v2⟩ := commonVal gd gb rfl m1 (by omega) (by simp only; rw [tlen]; omega) (by simp only; rw [tlen]; omega) k (by omega) (by simp only; rw [tlen]; omega) (fun i hi => by simp only; rw [List.getElem?_take, if_pos hi]) (.inr (.inl (by simp only; rw [tlen])))
    have ne1 : ((k : Int) == (ch.Marks.length : Int)) = false := by rw [beq_eq_false_iff_ne]; omega
    have w0 : impl_WhoPassedTwice ch ⟨ch.Debtor, ch.Stock, ch.Marks.take k⟩ = some ([], 6) := by
      unfold impl_WhoPassedTwice
      have : ((k : Int) == ((ch.Marks.take k).length : Int)) = true := by rw [tlen]; simp
      simp only [v1, ne1, this, Option.bind_some, bne_self_eq_false, Bool.false_eq_true, if_false, if_true]
    obtain ⟨q, q1, q2, q3, q4⟩ := other_ok (tb := laws_FnTwice_b1 ppl ch.Marks (k : Int) ch.Marks[k - 1]) jg hh (fun i o hi => by
      have hr := ppl_rd hi
      have w := w64s hi (by decide)
      have c6 : (i : Int) < 6 := by omega
      simp only [laws_FnTwice_b1, p6, hr, rk, Option.bind_some, eg, nm_beq hi glt.1, ehh, nm_beq hi hh6, w]
      rw [if_pos (by simpa using c6)]
      by_cases x1 : i = jg
      · simp [x1]
      · by_cases x2 : i = hh
        · simp [x2]
        · simp [x1, x2]) (fun o => by simp [laws_FnTwice_b1, p6])
    obtain ⟨s, s1, s2, _⟩ := passC_i _ gb (by simp only; rw [tlen]; omega) (by simp only; rw [tlen]; omega) q q1 q2
    simp only at s1 s2
    have fp := findParty_s glt.1
    rw [← eg] at fp
    have rj := ppl_rd glt.1
    have hf : ((ch.Marks.take k ++ [(⟨nmI q, s⟩ : Mark)])).length = k + 1 := by simp; omega
    have hend : ∃ m m', ch.Marks[k]? = some m ∧ (ch.Marks.take k ++ [(⟨nmI q, s⟩ : Mark)])[k]? = some m' ∧ m.Holder ≠ m'.Holder := ⟨_, ⟨nmI q, s⟩, List.getElem?_eq_getElem hk, by rw [List.getElem?_append_right (by omega), tlen]; simp, by rw [ehh]; exact fun e => q3 (nmI_inj hh6 q1 e).symm⟩
    obtain ⟨u1, u2⟩ := commonVal gd s2 hst m1 (by omega) (by simp only; rw [hf]; omega) (by simp only; rw [hf]; omega) k (by omega) (by simp only; rw [hf]; omega) (fun i hi => by simp only; rw [List.getElem?_append_left (by omega), List.getElem?_take, if_pos hi]) (.inr (.inr hend))
    have ne2 : ((k : Int) == ((ch.Marks.take k ++ [(⟨nmI q, s⟩ : Mark)]).length : Int)) = false := by rw [hf, beq_eq_false_iff_ne]; omega
    have ne3 : ((k : Int) == 0) = false := by rw [beq_eq_false_iff_ne]; omega
    have w1 : impl_WhoPassedTwice ch ⟨ch.Debtor, ⟨true, ch.Stock.Notches, ch.Stock.Grain⟩, ch.Marks.take k ++ [⟨nmI q, s⟩]⟩ = some (ch.Marks[k - 1].Holder, 0) := by
      unfold impl_WhoPassedTwice
      simp only [u1, ne1, ne2, ne3, rk1, Option.bind_some, bne_self_eq_false, Bool.false_eq_true, if_false]
    have w2 : spec_WhoPassedTwice ch ⟨ch.Debtor, ⟨true, ch.Stock.Notches, ch.Stock.Grain⟩, ch.Marks.take k ++ [⟨nmI q, s⟩]⟩ = some (ch.Marks[k - 1].Holder, 0) := by
      unfold spec_WhoPassedTwice
      simp only [u2, ne1, ne2, ne3, rk1, Option.bind_some, bne_self_eq_false, Bool.false_eq_true, if_false]
    have ck := check_good s2 (by simp only; rw [hf]; omega) (by simp only; rw [hf]; omega)
    simp only [f0, f1, p0, e5, e6, hs, a1, c0, Option.bind_some, Bool.false_eq_true, if_false, if_true, rk1, ec, eb, v1, w0, bne_self_eq_false, fp, q4, ne3, rj, s1, u1, w1, w2, ck, beq_self_eq_true]
end Go.Proofs.YtjlalepbhcekoaaDoor.Pure

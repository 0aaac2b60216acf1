/- Shares of an amount; the sticks of a debt that is split. -/
import Derived.Test.YtjlalepbhcekoaaPsShares
set_option linter.unusedVariables false
set_option linter.unusedSimpArgs false
namespace Go.Proofs.Ytjlalepbhcekoaa.Pure
open Go Go.Ab
theorem sameNum (a : List Int) (h : a.length ≤ 1000) : spec_SameNumbers a a = some true := by
 unfold spec_SameNumbers spec_l00Same
 have key := Lw_run (tb := spec_l00Same_b1 a a) (fun i => (i : Int)) a.length (r := .inr ()) (fun i hi => by
  have hr : rd a (i : Int) = some a[i] := by rw [rd_coe, List.getElem?_eq_getElem hi]
  simp only [spec_l00Same_b1, hr, Option.bind_some, w64s hi (show a.length ≤ 4611686018427387904 by omega)]
  rw [if_pos (by simpa using hi), if_neg (by simp)]) (by simp [spec_l00Same_b1])
 have key : Lw (spec_l00Same_b1 a a) 0 = some (.inr ()) := key
 rw [if_neg (by simp), key]
 rfl
theorem weights_ok (c : List Int) (hc : Bys c) : ∃ ws, spec_P6Weights c = some ws ∧ 1 ≤ ws.length ∧ ws.length ≤ 7 ∧ (∀ w ∈ ws, 0 ≤ w ∧ w ≤ 20) ∧ 1 ≤ ws.sum := by
 obtain ⟨x, a1, s1, e1, x1, x2, _, g1, g2, _⟩ := pick_ok c hc 0 0 20 (by omega) (by omega) (by omega)
 have x2 := x2 (by omega)
 obtain ⟨k, a2, s2, e2, k1, k2, _, g3, g4, _⟩ := pick_ok c hc a1 s1 7 (by omega) (by omega) (by omega)
 have k2 := k2 (by omega)
 have w1 : IntKind.i64.wrap (1 + x) = 1 + x := w64 (by omega)
 have L : ∃ r, Lw spec_P6Weights_b1 (k, [1 + x], c, a2, s2) = some r ∧ ∃ ws a' s', r = (ws, c, a', s') ∧ 1 ≤ ws.length ∧ ws.length ≤ 7 ∧ (∀ w ∈ ws, 0 ≤ w ∧ w ≤ 20) ∧ 1 ≤ ws.sum := by
  refine Lw_meas (tb := spec_P6Weights_b1) (fun s => s.1.toNat) (fun s => s.2.2.1 = c ∧ 0 ≤ s.1 ∧ 1 ≤ s.2.1.length ∧ s.1 + s.2.1.length ≤ 7 ∧ (∀ w ∈ s.2.1, 0 ≤ w ∧ w ≤ 20) ∧ 1 ≤ s.2.1.sum ∧ 0 ≤ s.2.2.2.1 ∧ s.2.2.2.1 ≤ 1000 + 2 * (s.2.1.length : Int)) _ ?_ _ _ rfl
   ⟨rfl, k1, by simp, by simp; omega, fun w hw => by rw [List.mem_singleton.1 hw]; omega, by simp; omega, by simp only; omega, by simp; omega⟩
  rintro ⟨k, ws, c', a, s⟩ ⟨rfl, hk, hl1, hl, hw, hs, ha, ha2⟩
  simp only at hk hl1 hl hw hs ha ha2
  by_cases hk0 : k > 0
  ·obtain ⟨u, a6, s6, e6, u1, u2, _, g11, g12, _⟩ := pick_ok c' hc a s 20 ha (by omega) (by omega)
   have u2 := u2 (by omega)
   have ap : app 8 ws [u] = some (ws ++ [u]) := app_some (by simp; omega) (by decide)
   have w4 : IntKind.i64.wrap (k - 1) = k - 1 := w64 (by omega)
   refine .inl ⟨(k - 1, ws ++ [u], c', a6, s6), ?_, ⟨rfl, by simp only; omega, by simp, by simp; omega, fun w h => ?_, by simp only [List.sum_append, List.sum_cons, List.sum_nil]; omega, by simp only; omega, by simp; omega⟩, by simp only; omega⟩
   ·simp only [spec_P6Weights_b1, e6, ap, w4, Option.bind_some]
    rw [if_pos (by simpa using hk0)]
   ·rcases List.mem_append.1 h with h | h
    ·exact hw w h
    ·rw [List.mem_singleton.1 h]; omega
  ·exact .inr ⟨_, by simp only [spec_P6Weights_b1, hk0, decide_false, Bool.false_eq_true, if_false], ws, a, s, rfl, hl1, show ws.length ≤ 7 by omega, hw, hs⟩
 obtain ⟨_, l1, ws, a', s', rfl, h⟩ := L
 refine ⟨ws, ?_, h⟩
 unfold spec_P6Weights
 rw [from_eq, Option.bind_some]
 simp only [e1, e2, w1, l1, Option.bind_some]
theorem law_b1 (ws o : List Int) (hl : o.length = ws.length) (hn : ws.length ≤ 20) (hw : ∀ x ∈ ws, 0 ≤ x ∧ x ≤ 1000000) (ho : ∀ x ∈ o, 0 ≤ x ∧ x ≤ 100000000) : Lw (laws_FnShares_b1 ws o) (0, 0, 0) = some (o.sum, ws.sum) := by
 have key := Lw_run (tb := laws_FnShares_b1 ws o) (fun i => ((o.take i).sum, (ws.take i).sum, (i : Int))) ws.length (r := (o.sum, ws.sum)) (fun i hi => by
  have ho' : i < o.length := by omega
  have hr : rd ws (i : Int) = some ws[i] := by rw [rd_coe, List.getElem?_eq_getElem hi]
  have hr2 : rd o (i : Int) = some o[i] := by rw [rd_coe, List.getElem?_eq_getElem ho']
  have b1 := isum_nonneg (ws.take i) (fun x hx => (hw x (List.mem_of_mem_take hx)).1)
  have b2 := isum_le 1000000 (ws.take i) (fun x hx => (hw x (List.mem_of_mem_take hx)).2)
  have b3 := hw _ (List.getElem_mem hi)
  have d1 := isum_nonneg (o.take i) (fun x hx => (ho x (List.mem_of_mem_take hx)).1)
  have d2 := isum_le 100000000 (o.take i) (fun x hx => (ho x (List.mem_of_mem_take hx)).2)
  have d3 := ho _ (List.getElem_mem ho')
  have hl2 : ((ws.take i).length : Int) ≤ 20 := by simp; omega
  have hl3 : ((o.take i).length : Int) ≤ 20 := by simp; omega
  have w1 : IntKind.i64.wrap ((ws.take i).sum + ws[i]) = (ws.take (i + 1)).sum := by rw [isum_take ws i hi]; exact w64 (by omega)
  have w2 : IntKind.i64.wrap ((o.take i).sum + o[i]) = (o.take (i + 1)).sum := by rw [isum_take o i ho']; exact w64 (by omega)
  simp only [laws_FnShares_b1, hr, hr2, w1, w2, w64s hi (show ws.length ≤ 4611686018427387904 by omega), Option.bind_some]
  rw [if_pos (by simpa using hi)]) (by
   have : o.take ws.length = o := by rw [← hl, List.take_length]
   simp [laws_FnShares_b1, this])
 simpa using key
theorem law_b2 (n : Int) (ws o : List Int) (hn : 0 ≤ n ∧ n ≤ 5000) (hl : ws.length ≤ 20) (hw : ∀ x ∈ ws, 0 ≤ x ∧ x ≤ 20) (ho : ∀ x ∈ o, 0 ≤ x ∧ x ≤ 5000) (hs : 1 ≤ ws.sum ∧ ws.sum ≤ 1000) (h : Shr n ws o) : Lw (laws_FnShares_b2 n ws o ws.sum) 0 = some (.inr ()) := by
 have key := Lw_run (tb := laws_FnShares_b2 n ws o ws.sum) (fun i => (i : Int)) ws.length (r := .inr ()) (fun i hi => by
  have ho' : i < o.length := by rw [h.len]; exact hi
  have hr : rd ws (i : Int) = some ws[i] := by rw [rd_coe, List.getElem?_eq_getElem hi]
  have hr2 : rd o (i : Int) = some o[i] := by rw [rd_coe, List.getElem?_eq_getElem ho']
  have b := hw _ (List.getElem_mem hi)
  have d := ho _ (List.getElem_mem ho')
  have p1 : 0 ≤ o[i] * ws.sum := Int.mul_nonneg d.1 (by omega)
  have p2 : o[i] * ws.sum ≤ 5000 * ws.sum := Int.mul_le_mul_of_nonneg_right d.2 (by omega)
  have p3 : 0 ≤ n * ws[i] := Int.mul_nonneg hn.1 b.1
  have p4 : n * ws[i] ≤ 5000 * ws[i] := Int.mul_le_mul_of_nonneg_right hn.2 b.1
  have w1 : IntKind.i64.wrap (o[i] * ws.sum) = o[i] * ws.sum := w64 (by omega)
  have w2 : IntKind.i64.wrap (n * ws[i]) = n * ws[i] := w64 (by omega)
  have w3 : IntKind.i64.wrap (o[i] * ws.sum - n * ws[i]) = o[i] * ws.sum - n * ws[i] := w64 (by omega)
  have w4 : IntKind.i64.wrap (0 - ws.sum) = -ws.sum := by rw [w64 (by omega)]; omega
  have off := h.off i hi ho'
  have c1 : ¬ (o[i] * ws.sum - n * ws[i] ≥ ws.sum) := by omega
  have c2 : ¬ (o[i] * ws.sum - n * ws[i] ≤ -ws.sum) := by omega
  simp only [laws_FnShares_b2, hr, hr2, w1, w2, w3, w4, c1, c2, w64s hi (show ws.length ≤ 4611686018427387904 by omega), Option.bind_some, decide_false, Bool.false_eq_true, if_false]
  rw [if_pos (by simpa using hi)]) (by simp [laws_FnShares_b2])
 exact key
theorem law_b4 (am : List Int) (hl : am.length ≤ 20) (ha : ∀ x ∈ am, 0 ≤ x) (S F : List Half) (h : SpI am am.length S F) : Lw (laws_FnShares_b4 am S F S F) 0 = some (.inr ()) := by
 obtain ⟨q1, q2, q3⟩ := h
 have key := Lw_run (tb := laws_FnShares_b4 am S F S F) (fun i => (i : Int)) S.length (r := .inr ()) (fun i hi => by
  have hF : i < F.length := by omega
  have hA : i < am.length := by omega
  obtain ⟨hc, g, hg, e1, e2⟩ := q3 i hA hi hF
  have hr1 : rd S (i : Int) = some ⟨true, ntF am[i], g⟩ := by rw [rd_coe, List.getElem?_eq_getElem hi, e1]
  have hr2 : rd F (i : Int) = some ⟨false, ntF am[i], oppG g⟩ := by rw [rd_coe, List.getElem?_eq_getElem hF, e2]
  have hr3 : rd am (i : Int) = some am[i] := by rw [rd_coe, List.getElem?_eq_getElem hA]
  have nt := (ntC_zero hc).2
  have nl := ntB_len nt
  have f1 := fits_i (ntF am[i]) g nt hg
  have f2 := amountOf_i ⟨true, ntF am[i], g⟩ nt hg
  simp only [wsum_ntF (ha _ (List.getElem_mem hA))] at f2
  have s1 : spec_SameHalf ⟨true, ntF am[i], g⟩ ⟨true, ntF am[i], g⟩ = some true := by unfold spec_SameHalf; rw [l01Same_eq _ _ (by simp only; omega)]; simp
  have s2 : spec_SameHalf ⟨false, ntF am[i], oppG g⟩ ⟨false, ntF am[i], oppG g⟩ = some true := by unfold spec_SameHalf; rw [l01Same_eq _ _ (by simp only; omega)]; simp
  simp only [laws_FnShares_b4, hr1, hr2, hr3, f1, f2, s1, s2, w64s hi (show S.length ≤ 4611686018427387904 by omega), Option.bind_some, bne_self_eq_false, Bool.false_eq_true, if_false, if_true]
  rw [if_pos (by simpa using hi)]) (by simp [laws_FnShares_b4])
 exact key
theorem FnShares (a0 : List Int) (h0 : (okLs 1 (InR .u8)) a0) (a1 : List Int) (h1 : (okLs 1 (InR .u8)) a1) : laws_FnShares a0 a1 = some true := by
 have hc := bys_of h0
 have hd := bys_of h1
 unfold laws_FnShares
 by_cases b0 : (a0.length : Int) > 4096
 ·simp [laws_f6big, b0]
 by_cases b1 : (a1.length : Int) > 4096
 ·simp [laws_f6big, b0, b1]
 have f0 : laws_f6big a0 = some false := by simp [laws_f6big, b0]
 have f1 : laws_f6big a1 = some false := by simp [laws_f6big, b1]
 obtain ⟨n, e1, n0, n1, _⟩ := p6Pick_ok a0 hc 5000 (by omega)
 have n1 := n1 (by omega)
 obtain ⟨ws, e2, l1, l2, hw, hs⟩ := weights_ok a1 hd
 have hws : ws.sum ≤ 1000 := by have := isum_le 20 ws (fun x hx => (hw x hx).2); omega
 have hw' : ∀ x ∈ ws, 0 ≤ x ∧ x ≤ 1000000 := fun x hx => by have := hw x hx; omega
 obtain ⟨o, e3, e4, ho⟩ := share_val n ws (by omega) (by omega) hw' hs
 have olen := ho.len
 have osum := ho.sum
 have opos : ∀ x ∈ o, 0 ≤ x ∧ x ≤ 5000 := fun x hx => by
  have h := ho.pos x hx
  obtain ⟨i, hi, rfl⟩ := List.getElem_of_mem hx
  have := isum_get o ho.pos i hi
  omega
 have sn := sameNum o (by omega)
 have len : ((o.length : Int) != (ws.length : Int)) = false := by rw [olen]; simp
 have k1 := law_b1 ws o olen (by omega) hw' (fun x hx => by have := opos x hx; omega)
 rw [osum] at k1
 have k2 := law_b2 n ws o (by omega) (by omega) hw opos (by omega) ho
 obtain ⟨ch, j0, j, b, e5, gd, m1, m2⟩ := p6Chain_ok a0 hc
 have oh := gd.2.2.1
 have eh : (⟨ch.Stock.Stock, ch.Stock.Notches, ch.Stock.Grain⟩ : Half) = ch.Stock := rfl
 have ec : (⟨ch.Debtor, ⟨ch.Stock.Stock, ch.Stock.Notches, ch.Stock.Grain⟩, ch.Marks⟩ : Chain) = ch := rfl
 have e6 := amountOf_s ch.Stock oh.nt oh.gr
 have nl := ntB_len oh.nt
 have nk : ∀ x ∈ ch.Stock.Notches, inB x.Kind 0 5 = true := fun x hx => (ntB_mem oh.nt x hx).1
 have wi := wsum_in ch.Stock.Notches nk
 obtain ⟨p, e7, e8, hp⟩ := share_val (wsum ch.Stock.Notches) ws (by omega) (by omega) hw' hs
 have plen := hp.len
 have psm := hp.sum
 have pin : ∀ x ∈ p, inB x 0 100000000 = true := fun x hx => by
  have h := hp.pos x hx
  obtain ⟨i, hi, rfl⟩ := List.getElem_of_mem hx
  have := isum_get p hp.pos i hi
  exact inB_iff.2 (by omega)
 have v1 := goodOk_i gd m1 (by omega)
 have v2 := goodOk_s gd m1 (by omega)
 have a1' := amounts_i p (by omega) pin
 have a2' := amounts_s p (by omega) pin
 rw [psm] at a1' a2'
 have s1 := amountOf_val ch.Stock nk nl
 have s2 := l01Sum_val ch.Stock.Notches nk nl
 have c1 : decide ((p.length : Int) < 1) = false := by simp; omega
 have c2 : decide ((p.length : Int) > 20) = false := by simp; omega
 have c3 : spec_l00In (p.length : Int) 1 20 = some true := by rw [l00In_eq, inB_iff.2 ⟨by omega, by omega⟩]
 rcases split_loop p (by omega) pin 5 with ⟨u1, u2⟩ | ⟨s, S, F, u1, u2, u3⟩
 ·have i1 : impl_SplitChain ch p 5 = some (.inl 3) := by
   unfold impl_SplitChain
   simp only [v1, c1, c2, a1', s1, u1, Option.bind_some, if_true, Bool.false_eq_true, if_false, bne_self_eq_false]
  have i2 : spec_SplitChain ch p 5 = some ([], [], 0, 3) := by
   unfold spec_SplitChain
   simp only [v2, c3, a2', s2, u2, Option.bind_some, if_true, Bool.false_eq_true, if_false, bne_self_eq_false]
  simp only [f0, f1, e1, e2, e3, e4, sn, len, k1, k2, e5, eh, ec, e6, e8, i1, i2, Option.bind_some, Bool.false_eq_true, if_false, if_true, bne_self_eq_false, List.length_nil]
  simp
 ·have i1 : impl_SplitChain ch p 5 = some (.inr (S, F, s)) := by
   unfold impl_SplitChain
   simp only [v1, c1, c2, a1', s1, u1, Option.bind_some, if_true, Bool.false_eq_true, if_false, bne_self_eq_false]
  have i2 : spec_SplitChain ch p 5 = some (S, F, s, 0) := by
   unfold spec_SplitChain
   simp only [v2, c3, a2', s2, u2, Option.bind_some, if_true, Bool.false_eq_true, if_false, bne_self_eq_false]
  have k4 := law_b4 p (by omega) hp.pos S F u3
  have z : ((S.length : Int) == (p.length : Int)) = true := by rw [u3.1]; simp
  simp only [f0, f1, e1, e2, e3, e4, sn, len, k1, k2, e5, eh, ec, e6, e8, i1, i2, Option.bind_some, Bool.false_eq_true, if_false, if_true, bne_self_eq_false, k4, z]
end Go.Proofs.Ytjlalepbhcekoaa.Pure

/- Books behind drawn deals: cash, worths and debts. -/
import Derived.Test.YtjlalepbhcekoaaPsBooks
set_option linter.unusedVariables false
set_option linter.unusedSimpArgs false
namespace Go.Proofs.Ytjlalepbhcekoaa.Pure
open Go Go.Ab
theorem a2Sum_val (xs : List Int) (hl : xs.length ≤ 1000) (h : ∀ x ∈ xs, 0 ≤ x ∧ x ≤ 100000000) : spec_A2Sum xs = some xs.sum := by
 unfold spec_A2Sum
 have bd : ∀ i, i ≤ xs.length → 0 ≤ (xs.take i).sum ∧ (xs.take i).sum ≤ 100000000000 := fun i hi => by
  have := sum_le (fun x : Int => x) 100000000 (xs.take i) (fun x hx => h x (List.mem_of_mem_take hx))
  simp only [List.map_id', List.length_take] at this
  omega
 have key := Lw_run (tb := spec_A2Sum_b1 xs) (fun i => ((xs.take i).sum, (i : Int))) xs.length (r := xs.sum) (fun i hi => by
  have hx := h _ (List.getElem_mem hi)
  have := bd i (by omega)
  have w1 : IntKind.i64.wrap ((xs.take i).sum + xs[i]) = (xs.take i).sum + xs[i] := w64 (by omega)
  have e : (xs.take (i + 1)).sum = (xs.take i).sum + xs[i] := by rw [List.take_succ_eq_append_getElem hi, List.sum_append]; simp
  have w := w64s hi (by omega)
  have hr : rd xs (i : Int) = some xs[i] := by rw [rd_coe, List.getElem?_eq_getElem hi]
  simp only [spec_A2Sum_b1, hr, Option.bind_some, w1, w, e]
  rw [if_pos (by simpa using hi)]) (by simp [spec_A2Sum_b1])
 have key : Lw (spec_A2Sum_b1 xs) (0, 0) = some xs.sum := by simpa using key
 rw [key]; rfl
theorem doDeal_val {m b' : Book} {d : Deal} (hm : BookP m) (hd : dealB d = true) (hs : spec_l07Do m d = some (.inr (b'.Day, b'.Cash, b'.Tallies))) :
  impl_DoDeal m d = some (b'.Day, b'.Cash, b'.Tallies, 0) ∧ spec_DoDeal m d = some (b'.Day, b'.Cash, b'.Tallies, 0) := by
 have hB := bookB_iff.2 hm
 have cn := hm.cn
 have tn := hm.tn
 obtain ⟨r, e1, e2, _⟩ := do_same m d hm.bk hd
 rw [hs] at e2
 obtain rfl := (Option.some.inj e2).symm
 refine ⟨?_, ?_⟩
 ·unfold impl_DoDeal
  rw [validBook_eq m (by omega) (by omega), hB, validDeal_eq, hd]
  simp [e1]
 ·unfold spec_DoDeal
  rw [l07Ok_eq m (by omega) (by omega), hB, l07Deal_eq, hd]
  simp [hs]
theorem law_loop {b b' : Book} {ds : List Deal} (r : Run b ds b') : ∀ rest : List Deal, ds.length ≤ 1000 →
  Lw (laws_FnBooks_b1 (ds ++ rest)) (0, b.Day, b.Cash, b.Tallies) = Lw (laws_FnBooks_b1 (ds ++ rest)) ((ds.length : Int), b'.Day, b'.Cash, b'.Tallies) := by
 induction r with
 | nil => intro rest _; rfl
 | @snoc ds m d b' r hm hd hs st ih =>
  intro rest hl
  simp only [List.length_append, List.length_singleton] at hl
  have h1 := ih (d :: rest) (by omega)
  have e : ds ++ [d] ++ rest = ds ++ d :: rest := by simp
  have hr : rd (ds ++ d :: rest) (ds.length : Int) = some d := by rw [rd_coe]; simp
  have w : IntKind.i64.wrap ((ds.length : Int) + 1) = (ds.length : Int) + 1 := w64 (by omega)
  obtain ⟨q1, q2⟩ := doDeal_val hm hd hs
  have hb' := st.book hm (dealB_day hd).2
  have cn := hb'.cn
  have tn := hb'.tn
  have sr := SameBook_refl b' (by omega) (by omega)
  have e0 : (⟨m.Day, m.Cash, m.Tallies⟩ : Book) = m := rfl
  have e1 : (⟨b'.Day, b'.Cash, b'.Tallies⟩ : Book) = b' := rfl
  have dy := st.day.1
  rw [e, h1]
  refine (Lw_step (s' := (((ds.length : Int) + 1), b'.Day, b'.Cash, b'.Tallies)) ?_).trans ?_
  ·have hlt : (ds.length : Int) < ((ds ++ d :: rest).length : Int) := by simp; omega
   unfold laws_FnBooks_b1
   simp only [hlt, decide_true, if_true, hr, Option.bind_some, e0, q1, q2, e1, sr, validDeal_eq, hd, ← dy, w, bne_self_eq_false, Bool.false_eq_true, if_false]
  ·simp
theorem worth_loop (b : Book) (hb : BookP b) (nets : List Int) (hn : ∀ p : Nat, p < b.Cash.length → nets[p]? = some (gS b.Tallies p - oS b.Tallies p)) :
  Lw (laws_FnBooks_b2 b.Day b.Cash b.Tallies nets) (0, 0) = some (.inr b.Cash.sum) := by
 have hB := bookB_iff.2 hb
 have cn := hb.cn
 have tn := hb.tn
 have hl : ∀ t ∈ b.Tallies, 0 ≤ t.Left ∧ t.Left ≤ 100000000 := fun t ht => (hb.bk.ta t ht).2.2.1
 have e0 : (⟨b.Day, b.Cash, b.Tallies⟩ : Book) = b := rfl
 let wf : Nat → Int := fun p => (b.Cash[p]?).getD 0 + (gS b.Tallies p - oS b.Tallies p)
 have fin : sumN b.Cash.length wf = b.Cash.sum := by
  show sumN b.Cash.length (fun p => (b.Cash[p]?).getD 0 + (gS b.Tallies p - oS b.Tallies p)) = _
  rw [sumN_add, sumN_get, sumN_sub, sum_gets _ _ (fun t ht => (hb.bk.ta t ht).2.1), sum_owes _ _ (fun t ht => (hb.bk.ta t ht).1)]
  omega
 have wb : ∀ p : Nat, p < b.Cash.length → -5000000000 ≤ wf p ∧ wf p ≤ 5000000000 := fun p hp => by
  have g := gS_in hl p
  have o := oS_in hl p
  have c := hb.ca _ (List.getElem_mem hp)
  show -5000000000 ≤ (b.Cash[p]?).getD 0 + (gS b.Tallies p - oS b.Tallies p) ∧ _
  rw [List.getElem?_eq_getElem hp]
  simp only [Option.getD_some]
  show _ ∧ (b.Cash[p]?).getD 0 + (gS b.Tallies p - oS b.Tallies p) ≤ 5000000000
  rw [List.getElem?_eq_getElem hp]
  simp only [Option.getD_some]
  omega
 have sb : ∀ n : Nat, n ≤ b.Cash.length → -5000000000 * (n : Int) ≤ sumN n wf ∧ sumN n wf ≤ 5000000000 * (n : Int) := by
  intro n hn
  induction n with
  | zero => simp [sumN]
  | succ n ih =>
   have := ih (by omega)
   have := wb n (by omega)
   rw [sumN_succ]
   have e1 : (-5000000000 : Int) * ((n + 1 : Nat) : Int) = -5000000000 * (n : Int) - 5000000000 := by omega
   have e2 : (5000000000 : Int) * ((n + 1 : Nat) : Int) = 5000000000 * (n : Int) + 5000000000 := by omega
   omega
 have key := Lw_run (tb := laws_FnBooks_b2 b.Day b.Cash b.Tallies nets) (fun i => (sumN i wf, (i : Int))) b.Cash.length (r := .inr b.Cash.sum) (fun p hp => by
  have one : oneCode b p = 0 := by
   unfold oneCode
   rw [if_pos hB, if_pos (personB_iff.2 ⟨by omega, by omega⟩)]
  have hr : rd b.Cash (p : Int) = some b.Cash[p] := by rw [rd_coe, List.getElem?_eq_getElem hp]
  have hrn : rd nets (p : Int) = some (gS b.Tallies p - oS b.Tallies p) := by rw [rd_coe, hn p hp]
  obtain ⟨v1, v2⟩ := getsIn_val b hb p
  have g := gS_in hl p
  have o := oS_in hl p
  have c := hb.ca _ (List.getElem_mem hp)
  have ww : wf p = b.Cash[p] + gS b.Tallies p - oS b.Tallies p := by
   show (b.Cash[p]?).getD 0 + (gS b.Tallies p - oS b.Tallies p) = _
   rw [List.getElem?_eq_getElem hp]
   simp only [Option.getD_some]; omega
  have w1 : IntKind.i64.wrap (b.Cash[p] + gS b.Tallies p) = b.Cash[p] + gS b.Tallies p := w64 (by omega)
  have w2 : IntKind.i64.wrap (b.Cash[p] + gS b.Tallies p - oS b.Tallies p) = b.Cash[p] + gS b.Tallies p - oS b.Tallies p := w64 (by omega)
  have w3 : IntKind.i64.wrap (b.Cash[p] + (gS b.Tallies p - oS b.Tallies p)) = b.Cash[p] + gS b.Tallies p - oS b.Tallies p := by rw [w64 (by omega)]; omega
  have hs := sb p (by omega)
  have w4 : IntKind.i64.wrap (sumN p wf + (b.Cash[p] + gS b.Tallies p - oS b.Tallies p)) = sumN (p + 1) wf := by
   rw [sumN_succ, ww]
   refine w64 ?_
   have := wb p hp
   rw [ww] at this
   omega
  have w := w64s hp (show b.Cash.length ≤ 4611686018427387904 by omega)
  have gg := getsAndOwes_eq b p (by omega)
  have pc := personCode_eq b p (by omega) (by omega)
  rw [one] at pc
  rw [v1, v2] at gg
  have x1 : impl_WorthOfPerson b p = some (b.Cash[p] + gS b.Tallies p - oS b.Tallies p, 0) := by
   unfold impl_WorthOfPerson impl_worthOf
   rw [pc]
   simp [gg, hr, w1, w2]
  have x2 : impl_GetsInAll b p = some (gS b.Tallies p, 0) := by
   unfold impl_GetsInAll
   rw [pc]
   simp [gg]
  have x3 : impl_OwesInAll b p = some (oS b.Tallies p, 0) := by
   unfold impl_OwesInAll
   rw [pc]
   simp [gg]
  have hlt : (p : Int) < (b.Cash.length : Int) := by omega
  simp only [laws_FnBooks_b2, hlt, decide_true, if_true, e0, x1, x2, x3, Option.bind_some, hr, hrn, w1, w2, w3, w4, w, bne_self_eq_false, Bool.false_eq_true, if_false]) (by simp [laws_FnBooks_b2, fin])
 simpa [sumN] using key
theorem FnBooks (a0 : List Int) (h0 : (okLs 1 (InR .u8)) a0) : laws_FnBooks a0 = some true := by
 have hc := bys_of h0
 unfold laws_FnBooks
 by_cases hL : (a0.length : Int) > 3000
 ·simp [laws_a2Long, hL]
 have hlong : laws_a2Long a0 a0 = some false := by simp [laws_a2Long, hL]
 obtain ⟨b, list, now, e, hB, hN, hR, hl⟩ := days_ok a0 hc
 have bk := hB.ok
 have nk := hN.ok
 have bc := bk.cn
 have bt := bk.tn
 have nc := nk.cn
 have nc1 := nk.c1
 have nt := nk.tn
 have ask := hR.ask bk (by omega)
 have d1 := dealsCode_eq b list (by omega) (by omega) (by omega)
 have d2 := l07Asked_eq b list (by omega) (by omega) (by omega)
 rw [ask] at d1 d2
 obtain ⟨out, o1, o2, o3, o4⟩ := hR.books bk (by omega)
 have i1 : impl_DoDeals b list = some (now.Day, now.Cash, now.Tallies, 0) := by
  unfold impl_DoDeals
  rw [d1]
  simp [hR.behind bk (by omega)]
 have i2 : spec_DoDeals b list = some (now.Day, now.Cash, now.Tallies, 0) := by
  unfold spec_DoDeals
  rw [d2]
  rcases o4 with ⟨rfl, rfl⟩ | h
  ·simp [o2, l07Copy_eq now bk.bk]
  ·have n0 : out ≠ [] := fun e => by subst e; cases h
   have hr := rd_last h (by omega)
   simp [o2, n0, hr, l07Copy_eq now nk.bk]
 have i3 : impl_FirstRefused b list = some (0, 0, 6) := by
  unfold impl_FirstRefused
  rw [d1]
  simp [o1]
 have e0 : (⟨b.Day, b.Cash, b.Tallies⟩ : Book) = b := rfl
 have e1 : (⟨now.Day, now.Cash, now.Tallies⟩ : Book) = now := rfl
 have s1 := SameBook_refl now (by omega) (by omega)
 have s2 := implSame_refl now (by omega) (by omega)
 have v1 := validBook_eq b (by omega) (by omega)
 have v2 := validBook_eq now (by omega) (by omega)
 rw [bookB_iff.2 bk] at v1
 rw [bookB_iff.2 nk] at v2
 have cs := hR.cash
 have a1 := a2Sum_val b.Cash (by omega) bk.ca
 have a2 := a2Sum_val now.Cash (by omega) nk.ca
 rw [cs.2] at a2
 have lp : Lw (laws_FnBooks_b1 list) (0, b.Day, b.Cash, b.Tallies) = some (.inr (now.Day, now.Cash, now.Tallies)) := by
  have := law_loop hR [] (by omega)
  rw [List.append_nil] at this
  rw [this]
  exact Lw_stop (by unfold laws_FnBooks_b1; simp)
 obtain ⟨K, k1, k2, k3, k4, k5⟩ := debtsIn_val now nk hN.p4 hN.lf
 have sd := SameDebts_refl K (by omega)
 obtain ⟨nets, n1, n2, n3⟩ := netsOf_val now.Cash.length ⟨nc1, nc⟩ K (by omega) k4
 have lw := worth_loop now nk nets (fun p hp => by
  rw [n3 p hp]
  have : netF K p = netF (talL now.Tallies) p := k5 _
  rw [this, net_tal p now.Tallies (fun t ht => (nk.bk.ta t ht).2.2.1.1)])
 rw [cs.2] at lw
 have cl : ((now.Cash.length : Int) != (b.Cash.length : Int)) = false := by rw [cs.1]; simp
 simp only [hlong, e, Option.bind_some, Bool.false_eq_true, if_false, e0, i1, i2, i3, e1, bne_self_eq_false, s1, s2, v1, v2, a1, a2, if_true, cl, lp, k1, k2, sd, Bool.not_true, n1, lw, beq_self_eq_true]
end Go.Proofs.Ytjlalepbhcekoaa.Pure

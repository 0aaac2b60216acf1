/- Rolls of drawn accounts: the law. -/
import Derived.Test.YtjlalepbhcekoaaDoorPsRolls
set_option linter.unusedVariables false
set_option linter.unusedSimpArgs false
namespace Go.Proofs.YtjlalepbhcekoaaDoor.Pure
open Go Go.Ab
def T3 : List (List UInt8) := [([107, 101, 110, 116] : List UInt8), ([101, 115, 115, 101, 120] : List UInt8), ([121, 111, 114, 107] : List UInt8)]
theorem T3_ok : ∀ t ∈ T3, lettersB t 16 = true ∧ t.length ≤ 1048576 := by decide
theorem T3_nd : T3.Pairwise fun a b => a ≠ b := by decide
theorem u8_small {i : Nat} (h : i < 4) : IntKind.u8.wrap (i : Int) = (i : Int) := by simp [IntKind.wrap, IntKind.signed, IntKind.bits]; omega
theorem list_loop (a1 a2 : List Int) (h1 : Bys a1) (hl : a1.length ≤ 3000) (k : Nat) (hk : k < 4) (ek : laws_a2At a2 0 4 = some (k : Int)) : ∀ i, i ≤ k → ∃ l : List Account, Lw (laws_FnRolls_b1 a1 a2) (0, []) = Lw (laws_FnRolls_b1 a1 a2) ((i : Int), l) ∧ l.length = i ∧ (∀ a ∈ l, AccO a) ∧ l.map (·.Title) = T3.take i
  | 0, _ => ⟨[], rfl, rfl, by simp, rfl⟩
  | i + 1, hi => by
    obtain ⟨l, e, e1, e2, e3⟩ := list_loop a1 a2 h1 hl k hk ek i (by omega)
    have h3 : i < T3.length := by have : T3.length = 3 := rfl; omega
    have hr : rd T3 (i : Int) = some T3[i] := by rw [rd_coe, List.getElem?_eq_getElem h3]
    have ap1 : app 1 [IntKind.u8.wrap (i : Int)] a1 = some ((i : Int) :: a1) := by
      rw [u8_small (by omega), app_some (by simp; omega) (by decide)]; rfl
    have hb : Bys ((i : Int) :: a1) := ⟨by simp; omega, fun x hx => by
      rcases List.mem_cons.1 hx with rfl | hx
      · omega
      · exact h1.2 x hx⟩
    obtain ⟨its, ei, sm⟩ := a2ItemsI _ hb
    obtain ⟨t1, t2⟩ := T3_ok _ (List.getElem_mem h3)
    have mk := makeS t2 (by have := sm.1; omega) sm.item t1
    have ap : app 48 l [(⟨T3[i], its, balV its⟩ : Account)] = some (l ++ [⟨T3[i], its, balV its⟩]) := app_some (by simp; omega) (by decide)
    have c0 : decide ((i : Int) < (k : Int)) = true := decide_eq_true (by omega)
    have w : IntKind.i64.wrap ((i : Int) + 1) = ((i + 1 : Nat) : Int) := by rw [w64 (by omega)]; omega
    refine ⟨l ++ [⟨T3[i], its, balV its⟩], ?_, by simp [e1], ?_, ?_⟩
    · rw [e]
      refine Lw_step ?_
      have hr' : rd [([107, 101, 110, 116] : List UInt8), ([101, 115, 115, 101, 120] : List UInt8), ([121, 111, 114, 107] : List UInt8)] (i : Int) = some T3[i] := hr
      simp only [laws_FnRolls_b1, ek, c0, hr', ap1, ei, mk, ap, w, Option.bind_some, if_true]
    · intro a ha
      rcases List.mem_append.1 ha with ha | ha
      · exact e2 a ha
      · rw [List.mem_singleton.1 ha]; exact ⟨t1, sm, rfl⟩
    · rw [List.map_append, e3, List.take_succ_eq_append_getElem h3]; rfl
theorem mostV_snoc (l : List Account) (a : Account) : mostV (l ++ [a]) = max (mostV l) a.Balance := by unfold mostV; rw [List.foldl_append]; rfl
theorem all_loop {l : List Account} (h : Accs l) (k : Nat) (hk : k < 4) (hlen : l.length = k) (ht : l.map (·.Title) = T3.take k) : Lw (laws_FnRolls_b2 l l (owedV l) l l) (0, 0, 0) = some (.inr (owedV l, mostV l)) := by
  have key := Lw_run (tb := laws_FnRolls_b2 l l (owedV l) l l) (fun i => (owedV (l.take i), mostV (l.take i), (i : Int))) l.length (r := .inr (owedV l, mostV l))
    (by
      intro i hi
      have h3 : i < T3.length := by have : T3.length = 3 := rfl; omega
      have e : l[i].Title = T3[i] := by
        have := congrArg (fun x => x[i]?) ht
        simp only [List.getElem?_map, List.getElem?_eq_getElem hi, Option.map_some, List.getElem?_take] at this
        rw [if_pos (by omega), List.getElem?_eq_getElem h3] at this
        exact Option.some.inj this
      have hr : rd [([107, 101, 110, 116] : List UInt8), ([101, 115, 115, 101, 120] : List UInt8), ([121, 111, 114, 107] : List UInt8)] (i : Int) = some l[i].Title := by
        show rd T3 (i : Int) = _
        rw [rd_coe, List.getElem?_eq_getElem h3, e]
      have hl : rd l (i : Int) = some l[i] := by rw [rd_coe, List.getElem?_eq_getElem hi]
      have w := w64s hi (by omega)
      have c0 : decide ((i : Int) < (l.length : Int)) = true := decide_eq_true (by omega)
      have ha := h.ok _ (List.getElem_mem hi)
      have sr := sameAcc_refl l[i] (by have := ha.n40; omega)
      have b1 := owedV_bd (l.take i) (fun a ha => (h.ok a (List.mem_of_mem_take ha)).bd.2)
      have b2 := ha.bd
      have hl2 : (l.take i).length ≤ 20 := by have := h.n; simp; omega
      have w2 : IntKind.i64.wrap (owedV (l.take i) + max l[i].Balance 0) = owedV (l.take (i + 1)) := by
        rw [List.take_succ_eq_append_getElem hi, owedV_snoc, w64 (by omega)]
      have w3 : max (mostV (l.take i)) l[i].Balance = mostV (l.take (i + 1)) := by rw [List.take_succ_eq_append_getElem hi, mostV_snoc]
      simp only [laws_FnRolls_b2, c0, hr, findI h hi, hl, sr, w, w2, w3, Option.bind_some, if_true, bne_self_eq_false, Bool.false_eq_true, if_false])
    (by rw [List.take_length]; simp [laws_FnRolls_b2])
  exact key
theorem FnRolls (a0 : List Int) (h0 : (okLs 1 (InR .u8)) a0) (a1 : List Int) (h1 : (okLs 1 (InR .u8)) a1) : laws_FnRolls a0 a1 = some true := by
  unfold laws_FnRolls laws_a2Long
  by_cases c0 : (a0.length : Int) > 3000
  · rw [if_pos (by simpa using c0)]; rfl
  rw [if_neg (by simpa using c0)]
  by_cases c1 : (a1.length : Int) > 3000
  · rw [decide_eq_true c1]; rfl
  rw [decide_eq_false c1, Option.bind_some, if_neg (by simp)]
  obtain ⟨f, ef, f0, f1⟩ := a2AtI a1 (bys_of h1) 0 4 (by omega) (by omega)
  obtain ⟨k, rfl⟩ : ∃ k : Nat, f = k := ⟨f.toNat, by omega⟩
  obtain ⟨l, e, e1, e2, e3⟩ := list_loop a0 a1 (bys_of h0) (by omega) k (by omega) ef k (Nat.le_refl _)
  have A : Accs l := ⟨by omega, e2, by
    have h := List.Pairwise.sublist (List.take_sublist k T3) T3_nd
    rw [← e3] at h
    exact (List.pairwise_map (f := fun a : Account => a.Title) (R := fun a b => a ≠ b)).1 h⟩
  have lp : Lw (laws_FnRolls_b1 a0 a1) (0, []) = some (.inr l) := by
    rw [e]
    refine Lw_stop ?_
    have c : decide ((k : Int) < (k : Int)) = false := decide_eq_false (by omega)
    simp only [laws_FnRolls_b1, ef, c, Option.bind_some, Bool.false_eq_true, if_false]
  have ob := A.owedB
  have f1' := faultI A (owedV l)
  rw [if_pos rfl] at f1'
  have f2 := faultI A (owedV l + 1)
  rw [if_neg (by omega)] at f2
  have w1 : IntKind.i64.wrap (owedV l + 1) = owedV l + 1 := w64 (by omega)
  have al := all_loop A k (by omega) e1 e3
  obtain ⟨q, c, wi, ws, wq⟩ := worstIS A
  rw [lp, Option.bind_some]
  dsimp only
  rw [rollI A, Option.bind_some]
  dsimp only
  rw [rollS A, Option.bind_some]
  dsimp only
  rw [f1', Option.bind_some]
  dsimp only
  rw [rollTxt A, Option.bind_some, readRollI A, Option.bind_some]
  simp only [bne_self_eq_false, Bool.false_eq_true, if_false, Option.bind_some, al, wi, ws, w1, f2]
  have tail : (if ((l.length : Int) == 0) = true then some true else
      (app 48 ([] : List Account) l).bind fun x933 =>
      (laws_a2At a1 1 (l.length : Int)).bind fun r953 =>
      (rd x933 r953).bind fun x959 =>
      (rd x933 r953).bind fun x961 =>
      (impl_FirstFault (Roll.mk (x933.set r953.toNat (Account.mk x961.Title x961.Items (IntKind.i64.wrap (x959.Balance - 1)))) (owedV l))).bind fun (r975, r976) =>
      (rd l 0).bind fun x984 =>
      (app 48 ([] : List Account) l).bind fun x995 =>
      (app 48 x995 [x984]).bind fun x1002 =>
      (impl_MakeRoll_l x1002).bind fun (r1010, r1011, r1012) =>
      if (r976 == 0) = true then
       if (r975 == r953) = true then
        if (r1011 == 4) = true then
         some ((r1012.length : Int) == 0)
        else
         some false
       else
        some false
      else
       some false) = some true := by
    by_cases hz : l.length = 0
    · rw [if_pos (by simpa using hz)]
    · rw [if_neg (by simpa using hz)]
      obtain ⟨g, eg, g0, g1⟩ := a2AtI a1 (bys_of h1) 1 (l.length : Int) (by omega) (by omega)
      obtain ⟨j, rfl⟩ : ∃ j : Nat, g = j := ⟨g.toNat, by omega⟩
      have hj : j < l.length := by omega
      have ap : app 48 ([] : List Account) l = some l := by rw [app_some (by simp; omega) (by decide)]; rfl
      have hr : rd l (j : Int) = some l[j] := by rw [rd_coe, List.getElem?_eq_getElem hj]
      have hb := (A.ok _ (List.getElem_mem hj)).bd
      have w2 : IntKind.i64.wrap (l[j].Balance - 1) = l[j].Balance - 1 := w64 (by omega)
      have fb := faultBad A j hj (l[j].Balance - 1) (owedV l) (by omega)
      cases l with
      | nil => simp at hz
      | cons a r =>
        have r0 : rd (a :: r) 0 = some a := by rw [rd_zero]; rfl
        have ap2 : app 48 (a :: r) [a] = some (a :: r ++ [a]) := app_some (by simp only [List.length_cons, List.length_nil] at e1 ⊢; omega) (by decide)
        have tw := roll_twice A (by omega)
        simp only [ap, eg, hr, w2, Int.toNat_natCast, fb, r0, ap2, tw, Option.bind_some, beq_self_eq_true, if_true]
        rfl
  rcases wq with ⟨rfl, hm⟩ | ⟨rfl, hm, j, rfl, hj, hb⟩
  · have d : decide (mostV l > 0) = false := decide_eq_false (by omega)
    simp only [d, show ((6 : Int) == 0) = false from rfl, beq_self_eq_true, if_true, Bool.false_eq_true, if_false, Option.bind_some]
    exact tail
  · have d : decide (mostV l > 0) = true := decide_eq_true hm
    have hr : rd l (j : Int) = some l[j] := by rw [rd_coe, List.getElem?_eq_getElem hj]
    simp only [d, beq_self_eq_true, if_true, hr, hb, bne_self_eq_false, Bool.false_eq_true, if_false, Option.bind_some]
    exact tail
end Go.Proofs.YtjlalepbhcekoaaDoor.Pure

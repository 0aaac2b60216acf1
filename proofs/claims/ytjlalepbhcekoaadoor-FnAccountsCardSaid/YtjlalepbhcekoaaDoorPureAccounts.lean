/- Accounts of drawn items. -/
import Derived.Test.YtjlalepbhcekoaaDoorPsAccounts
set_option linter.unusedVariables false
set_option linter.unusedSimpArgs false
namespace Go.Proofs.YtjlalepbhcekoaaDoor.Pure
open Go Go.Ab
def kent : List UInt8 := [107, 101, 110, 116]
theorem kent_ok : lettersB kent 16 = true := by decide
theorem kent_len : kent.length ≤ 1048576 := by decide
def nyL (v f : Int) : List Item := (if f > 0 then [⟨0, f⟩] else []) ++ (if v > 0 then [⟨1, v⟩] else if v < 0 then [⟨2, -v⟩] else [])
section
variable {its : List Item} {v f : Int} (h40 : its.length ≤ 40) (hi : ∀ x ∈ its, itemB x = true)
theorem nyL_ok (hv : -2495 ≤ v ∧ v ≤ 2495) (hf : 0 ≤ f ∧ f < 100) : (nyL v f).length ≤ 40 ∧ (∀ x ∈ nyL v f, itemB x = true) ∧ balV (nyL v f) = v + f := by
  have ib : ∀ k n : Int, 0 ≤ k → k ≤ 3 → 0 ≤ n → n ≤ 2495 → itemB ⟨k, n⟩ = true := by
    intro k n h1 h2 h3 h4
    unfold itemB
    rw [Bool.and_eq_true, inB_iff, inB_iff]
    simp only
    omega
  have i0 := ib 0 f
  have i1 := ib 1 v
  have i2 := ib 2 (-v)
  unfold nyL
  by_cases h1 : f > 0
  · by_cases h2 : v > 0
    · simp only [h1, h2, if_true]
      refine ⟨by simp, fun x hx => ?_, by simp [balV, itV]; omega⟩
      simp only [List.cons_append, List.nil_append, List.mem_cons, List.not_mem_nil, or_false] at hx
      rcases hx with rfl | rfl
      · exact i0 (by omega) (by omega) (by omega) (by omega)
      · exact i1 (by omega) (by omega) (by omega) (by omega)
    · by_cases h3 : v < 0
      · simp only [h1, h2, h3, if_true, if_false]
        refine ⟨by simp, fun x hx => ?_, by simp [balV, itV]; omega⟩
        simp only [List.cons_append, List.nil_append, List.mem_cons, List.not_mem_nil, or_false] at hx
        rcases hx with rfl | rfl
        · exact i0 (by omega) (by omega) (by omega) (by omega)
        · exact i2 (by omega) (by omega) (by omega) (by omega)
      · simp only [h1, h2, h3, if_true, if_false]
        refine ⟨by simp, fun x hx => ?_, by simp [balV, itV]; omega⟩
        simp only [List.append_nil, List.mem_cons, List.not_mem_nil, or_false] at hx
        obtain rfl := hx
        exact i0 (by omega) (by omega) (by omega) (by omega)
  · by_cases h2 : v > 0
    · simp only [h1, h2, if_true, if_false]
      refine ⟨by simp, fun x hx => ?_, by simp [balV, itV]; omega⟩
      simp only [List.nil_append, List.mem_cons, List.not_mem_nil, or_false] at hx
      obtain rfl := hx
      exact i1 (by omega) (by omega) (by omega) (by omega)
    · by_cases h3 : v < 0
      · simp only [h1, h2, h3, if_true, if_false]
        refine ⟨by simp, fun x hx => ?_, by simp [balV, itV]; omega⟩
        simp only [List.nil_append, List.mem_cons, List.not_mem_nil, or_false] at hx
        obtain rfl := hx
        exact i2 (by omega) (by omega) (by omega) (by omega)
      · simp only [h1, h2, h3, if_false]
        exact ⟨by simp, by simp, by simp [balV]; omega⟩
theorem size_v (hv : -2495 ≤ v ∧ v ≤ 2495) : ∃ r, impl_size v = some r ∧ impl_isAmount r = some true := by
  have h := size_in (n := v) (inR64.2 (by omega))
  rw [inB_iff.2 (by omega)] at h
  obtain ⟨r, r1, r2⟩ := bind_some h
  exact ⟨r, r1, r2⟩
theorem app2 (x y : Item) : app 16 [x] [y] = some [x, y] := app_some (by simp) (by decide)
theorem app1 (x : Item) : app 16 ([] : List Item) [x] = some [x] := app_some (by simp) (by decide)
include h40 hi
theorem nextI (hb : balV its = v) (hv : -2495 ≤ v ∧ v ≤ 2495) (hf : 0 ≤ f ∧ f < 100) : impl_NextYear ⟨kent, its, v⟩ f = some (kent, nyL v f, v + f, 0) := by
  obtain ⟨n1, n2, n3⟩ := nyL_ok hv hf
  obtain ⟨r, r1, r2⟩ := size_v hv
  have hc := checkI kent_len h40 hi kent_ok v
  rw [hb, beq_self_eq_true] at hc
  have mk := makeI kent_len n1 n2 kent_ok
  rw [n3] at mk
  have ha : impl_isAmount f = some true := by rw [isAmount_eq, inB_iff.2 (by omega)]
  have w : v < 0 → IntKind.i64.wrap (0 - v) = -v := fun h => by rw [w64 (by omega)]; omega
  unfold impl_NextYear
  simp only [hc, ha, r1, r2, Option.bind_some, if_true]
  unfold nyL at mk ⊢
  by_cases h1 : f > 0
  · by_cases h2 : v > 0
    · simp only [h1, h2, if_true, decide_true, app1, app2, Option.bind_some] at mk ⊢
      rw [show ([⟨0, f⟩] ++ [⟨1, v⟩] : List Item) = [⟨0, f⟩, ⟨1, v⟩] from rfl] at mk ⊢
      simp only [mk, Option.bind_some]
    · by_cases h3 : v < 0
      · simp only [h1, h2, h3, if_true, if_false, decide_true, decide_false, Bool.false_eq_true, app1, app2, Option.bind_some, w h3] at mk ⊢
        rw [show ([⟨0, f⟩] ++ [⟨2, -v⟩] : List Item) = [⟨0, f⟩, ⟨2, -v⟩] from rfl] at mk ⊢
        simp only [mk, Option.bind_some]
      · simp only [h1, h2, h3, if_true, if_false, decide_true, decide_false, Bool.false_eq_true, app1, Option.bind_some, List.append_nil] at mk ⊢
        simp only [mk, Option.bind_some]
  · by_cases h2 : v > 0
    · simp only [h1, h2, if_true, if_false, decide_true, decide_false, Bool.false_eq_true, app1, Option.bind_some, List.nil_append] at mk ⊢
      simp only [mk, Option.bind_some]
    · by_cases h3 : v < 0
      · simp only [h1, h2, h3, if_true, if_false, decide_true, decide_false, Bool.false_eq_true, app1, Option.bind_some, List.nil_append, w h3] at mk ⊢
        simp only [mk, Option.bind_some]
      · simp only [h1, h2, h3, if_false, decide_false, Bool.false_eq_true, Option.bind_some, List.append_nil] at mk ⊢
        simp only [mk, Option.bind_some]
theorem nextS (hb : balV its = v) (hv : -2495 ≤ v ∧ v ≤ 2495) (hf : 0 ≤ f ∧ f < 100) : spec_NextYear ⟨kent, its, v⟩ f = some (kent, nyL v f, v + f, 0) := by
  obtain ⟨n1, n2, n3⟩ := nyL_ok hv hf
  have hc := rightS kent_len h40 hi kent_ok v
  rw [hb, beq_self_eq_true] at hc
  have mk := accountS kent_len n1 n2
  rw [n3] at mk
  have ok := itemsS_eq n2
  rw [decide_eq_true n1] at ok
  have ha : spec_l01Amount f = some true := by rw [l01Amount_eq, inB_iff.2 (by omega)]
  have w : v < 0 → IntKind.i64.wrap (0 - v) = -v := fun h => by rw [w64 (by omega)]; omega
  unfold spec_NextYear
  simp only [hc, ha, Option.bind_some, if_true]
  unfold nyL at mk ok ⊢
  by_cases h1 : f > 0
  · rw [if_pos (show (f != 0) = true by simp; omega)]
    by_cases h2 : v > 0
    · have h3 : ¬ v < 0 := by omega
      simp only [h1, h2, h3, if_true, if_false, decide_true, decide_false, Bool.false_eq_true, app1, app2, Option.bind_some] at mk ok ⊢
      rw [show ([⟨0, f⟩] ++ [⟨1, v⟩] : List Item) = [⟨0, f⟩, ⟨1, v⟩] from rfl] at mk ok ⊢
      simp only [mk, ok, Option.bind_some, if_true]
    · by_cases h3 : v < 0
      · simp only [h1, h2, h3, if_true, if_false, decide_true, decide_false, Bool.false_eq_true, app1, app2, Option.bind_some, w h3] at mk ok ⊢
        rw [show ([⟨0, f⟩] ++ [⟨2, -v⟩] : List Item) = [⟨0, f⟩, ⟨2, -v⟩] from rfl] at mk ok ⊢
        simp only [mk, ok, Option.bind_some, if_true]
      · simp only [h1, h2, h3, if_true, if_false, decide_true, decide_false, Bool.false_eq_true, app1, Option.bind_some, List.append_nil] at mk ok ⊢
        simp only [mk, ok, Option.bind_some, if_true]
  · rw [if_neg (show ¬ (f != 0) = true by simp; omega)]
    by_cases h2 : v > 0
    · have h3 : ¬ v < 0 := by omega
      simp only [h1, h2, h3, if_true, if_false, decide_true, decide_false, Bool.false_eq_true, app1, Option.bind_some, List.nil_append] at mk ok ⊢
      simp only [mk, ok, Option.bind_some, if_true]
    · by_cases h3 : v < 0
      · simp only [h1, h2, h3, if_true, if_false, decide_true, decide_false, Bool.false_eq_true, app1, Option.bind_some, List.nil_append, w h3] at mk ok ⊢
        simp only [mk, ok, Option.bind_some, if_true]
      · simp only [h1, h2, h3, if_false, decide_false, Bool.false_eq_true, Option.bind_some, List.append_nil] at mk ok ⊢
        simp only [mk, ok, Option.bind_some, if_true]
omit h40
theorem addI (h5 : its.length ≤ 5) (hb : balV its = v) (x : Item) (hx : itemB x = true) : impl_AddItem ⟨kent, its, v⟩ x = some (kent, its ++ [x], v + itV x, 0) := by
  have h40 : its.length ≤ 40 := by omega
  have hc := checkI kent_len h40 hi kent_ok v
  rw [hb, beq_self_eq_true] at hc
  have hi' : ∀ y ∈ its ++ [x], itemB y = true := by
    intro y hy
    rcases List.mem_append.1 hy with hy | hy
    · exact hi y hy
    · rw [List.mem_singleton.1 hy]; exact hx
  have mk := makeI kent_len (its := its ++ [x]) (by simp; omega) hi' kent_ok
  rw [balV_snoc, hb] at mk
  have ap : app 16 its [x] = some (its ++ [x]) := app_some (by simp; omega) (by decide)
  have cl : (((its.length : Nat) : Int) == 40) = false := by rw [beq_eq_false_iff_ne]; omega
  unfold impl_AddItem slices_Clone_Item
  simp only [hc, validItem_eq, hx, cl, cloneI (show its.length ≤ 1048576 by omega), ap, mk, Option.bind_some, if_true, Bool.false_eq_true, if_false]
omit hi
theorem quitI (h40 : its.length ≤ 40) (hi : ∀ x ∈ its, itemB x = true) (hb : balV its = v) : impl_IsQuit ⟨kent, its, v⟩ = some (v == 0, 0) := by
  have hc := checkI kent_len h40 hi kent_ok v
  rw [hb, beq_self_eq_true] at hc
  unfold impl_IsQuit
  rw [hc]; rfl
theorem readI (h40 : its.length ≤ 40) (hi : ∀ x ∈ its, itemB x = true) (hb : balV its = v) (hv : -2495 ≤ v ∧ v ≤ 2495) : impl_ReadAccount (accT ⟨kent, its, v⟩) = some (kent, its, v, 0) := by
  have hbal := balance_valI its hi (by omega)
  rw [hb] at hbal
  have rb := readAcc_back kent_len h40 hi hbal (by omega) kent_ok [] (by simp)
  have pc := acc_pcs (v := v) (its := its) hi (by omega) kent_ok []
  rw [List.append_nil, show pcs 10 [] = [[]] from rfl] at pc
  have al := accT_len (a := ⟨kent, its, v⟩) (acI h40 hi kent_ok (by omega))
  have ne : accT ⟨kent, its, v⟩ ≠ [] := by unfold accT kent; simp
  have si : strings_Split (accT ⟨kent, its, v⟩) [10] = some (pcs 10 (accT ⟨kent, its, v⟩)) := split_i (s := accT ⟨kent, its, v⟩) 10 (by omega)
  rw [pc] at si
  have li : impl_linesOf (accT ⟨kent, its, v⟩) = some (.inr (kent :: (its.map lineT ++ [lastT v]), true)) := by
    unfold impl_linesOf
    rw [if_neg (by simpa using ne), si, Option.bind_some]
    have e : kent :: (its.map lineT ++ lastT v :: [[]]) = (kent :: (its.map lineT ++ [lastT v])) ++ [[]] := by simp
    rw [e]
    have hL : (kent :: (its.map lineT ++ [lastT v])).length = its.length + 2 := by simp
    generalize kent :: (its.map lineT ++ [lastT v]) = L at hL
    have w : IntKind.i64.wrap (((L ++ [([] : List UInt8)]).length : Int) - 1) = ((L.length : Nat) : Int) := by rw [w64 (by simp; omega)]; simp
    have sl := slc_some (xs := L ++ [([] : List UInt8)]) (a := 0) (b := L.length) (by omega) (by simp)
    have r : rd (L ++ [([] : List UInt8)]) ((L.length : Nat) : Int) = some [] := by rw [rd_coe]; simp
    rw [w, show (0 : Int) = ((0 : Nat) : Int) from rfl, sl, Option.bind_some, r, Option.bind_some]
    simp
  have ln : (((kent :: (its.map lineT ++ [lastT v])).length : Nat) : Int) = ((its.length + 2 : Nat) : Int) := by simp; omega
  unfold impl_ReadAccount
  rw [li, Option.bind_some]
  dsimp only
  rw [rb, Option.bind_some]
  dsimp only
  rw [ln]
  simp
end
theorem FnAccounts (a0 : List Int) (h0 : (okLs 1 (InR .u8)) a0) (a1 : List Int) (h1 : (okLs 1 (InR .u8)) a1) : laws_FnAccounts a0 a1 = some true := by
  unfold laws_FnAccounts laws_a2Long
  by_cases c0 : (a0.length : Int) > 3000
  · rw [if_pos (by simpa using c0)]; rfl
  rw [if_neg (by simpa using c0)]
  by_cases c1 : (a1.length : Int) > 3000
  · rw [decide_eq_true c1]; rfl
  rw [decide_eq_false c1, Option.bind_some, if_neg (by simp)]
  obtain ⟨its, ei, sm⟩ := a2ItemsI a0 (bys_of h0)
  obtain ⟨f, ef, f0, f1⟩ := a2AtI a1 (bys_of h1) 0 100 (by omega) (by omega)
  have hi := sm.item
  have hb := sm.bal
  have h40 : its.length ≤ 40 := by have := sm.1; omega
  have m1 : impl_MakeAccount [107, 101, 110, 116] its = some (.inl (kent, its, balV its)) := makeI kent_len h40 hi kent_ok
  have m2 : spec_MakeAccount [107, 101, 110, 116] its = some (.inl (kent, its, balV its)) := makeS kent_len h40 hi kent_ok
  have hval : impl_ValidItems its = some true := by
    rw [validItems_eq _ (by omega), decide_eq_true h40, Bool.and_true, List.all_eq_true.2 hi]
  have hbo : impl_BalanceOf its = some (balV its, 0) := by
    unfold impl_BalanceOf
    rw [hval, Option.bind_some, if_pos rfl, balance_valI its hi (by omega)]; rfl
  have htx := text_eqI (t := kent) kent_len h40 hi (balance_valI its hi (by omega)) (by omega) kent_ok
  have hrd := readI h40 hi rfl hb
  have hck := checkI kent_len h40 hi kent_ok
  have sr := fun (x : Account) hx => sameAcc_refl x hx
  have hny := nextI h40 hi rfl hb ⟨f0, f1⟩
  have hns := nextS h40 hi rfl hb ⟨f0, f1⟩
  have hqo := quitI h40 hi rfl
  have nl := (nyL_ok hb ⟨f0, f1⟩).1
  have add := fun x hx => addI hi sm.1 rfl x hx
  generalize hv : balV its = v at *
  have s1 := sr ⟨kent, its, v⟩ (by simp only; omega)
  have s2 := sr ⟨kent, nyL v f, v + f⟩ (by simp only; omega)
  have w1 : IntKind.i64.wrap (v + 1) = v + 1 := w64 (by omega)
  have w2 : IntKind.i64.wrap (v + f) = v + f := w64 (by omega)
  have n1 : (v + 1 == v) = false := by rw [beq_eq_false_iff_ne]; omega
  simp only [ei, m1, m2, hbo, htx, hrd, s1, hck, hval, w1, n1, Option.bind_some, if_true, Bool.false_eq_true, if_false, bne_self_eq_false, beq_self_eq_true, Bool.not_true, ef, hny, hns, s2, w2]
  have wn : IntKind.i64.wrap (0 - v) = -v := by rw [w64 (by omega)]; omega
  rw [wn]
  by_cases hneg : v < 0
  · have hm : max v (-v) = -v := by omega
    have hx : itemB ⟨0, -v⟩ = true := by unfold itemB; rw [Bool.and_eq_true, inB_iff, inB_iff]; simp only; omega
    have ad := add ⟨0, -v⟩ hx
    have iv : itV ⟨0, -v⟩ = -v := by simp [itV]
    rw [iv, show v + -v = 0 by omega] at ad
    have q := quitI (its := its ++ [⟨0, -v⟩]) (v := 0) (by simp; have := sm.1; omega) (by
      intro y hy
      rcases List.mem_append.1 hy with hy | hy
      · exact hi y hy
      · rw [List.mem_singleton.1 hy]; exact hx) (by rw [balV_snoc, hv, iv]; omega)
    rw [if_pos (by simpa using hneg), hm, ad, Option.bind_some]
    dsimp only
    rw [q, hqo]
    simp
  · have hm : max v (-v) = v := by omega
    have hx : itemB ⟨2, v⟩ = true := by unfold itemB; rw [Bool.and_eq_true, inB_iff, inB_iff]; simp only; omega
    have ad := add ⟨2, v⟩ hx
    have iv : itV ⟨2, v⟩ = -v := by simp [itV]
    rw [iv, show v + -v = 0 by omega] at ad
    have q := quitI (its := its ++ [⟨2, v⟩]) (v := 0) (by simp; have := sm.1; omega) (by
      intro y hy
      rcases List.mem_append.1 hy with hy | hy
      · exact hi y hy
      · rw [List.mem_singleton.1 hy]; exact hx) (by rw [balV_snoc, hv, iv]; omega)
    rw [if_neg (by simpa using hneg), hm, ad, Option.bind_some]
    dsimp only
    rw [q, hqo]
    simp
end Go.Proofs.YtjlalepbhcekoaaDoor.Pure

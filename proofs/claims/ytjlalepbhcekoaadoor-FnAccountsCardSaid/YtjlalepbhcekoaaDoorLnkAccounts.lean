/- Printed by a program of ours (ext.py). -/
import Derived.Test.YtjlalepbhcekoaaDoorLnkAccountsx0
set_option linter.unusedVariables false
set_option linter.unusedSimpArgs false
set_option maxRecDepth 100000
set_option maxHeartbeats 2000000
namespace Go.Proofs.YtjlalepbhcekoaaDoor
open Go Go.Ab
/-! ### loop.example/g01263/spec.l00From (f41) -/
noncomputable def spec_l00From (a1 : List Int) : Option L00Src :=
 some (L00Src.mk a1 0 0)
def spec_l00From_Q (a1 : List Int) (M0 : Mem) (r : L00Src) (p : AV × Mem) : Prop := p.1 = .loc M0.length 1 0 0 ∧ p.2[M0.length]? = some (.live ⟨.box, 125, 3, [[.sl none (r.Code.map (cI .u8)), .int .i64 r.At, .int .u64 r.Seed]]⟩) ∧ Fr [] M0 p.2
theorem spec_l00From_ok (a1 : List Int) (M0 : Mem) (r : L00Src) (h : spec_l00From a1 = some r) : Ev (fun k => CN k 41 [.sl none (a1.map (cI .u8))] M0) (spec_l00From_Q a1 M0 r) := by
 unfold spec_l00From at h
 have fr0 : Fr [] M0 M0 := Fr.refl
 refine Ev.enter (F := fun k => f41 (CN k) k) (fun k => callN_eq rfl Tryd.func41 rfl rfl rfl (by decide +kernel) (f41_eq _ _)) (sq (Rg (kx (mvO rfl) (Rn (hN rfl hZ) fun e1 h3 => sN (sq (Rg (kx (mvO h3) (kx (bldT zero125 (cns (pr3 rfl) rfl) (fill1 ⟨rfl, ble rfl⟩ rfl rfl (fill0 rfl))) (ku (bxO rfl rfl ⟨rfl, rfl, by decide⟩) fun M5 hM6 => ?_)))))))))
 have nf7 := Nf.mk fr0
 have fr8 := Fr.push fr0 hM6
 have o9 : M5[M0.length]? = some (.live ⟨.box, 125, 3, [[.sl none (a1.map (cI .u8)), .int .i64 0, .int .u64 0]]⟩) := push_new hM6
 refine kx (mvO rfl) (Rn (hV (.loc M0.length 1 0 0) rfl hZ) fun e10 h12 => sN (xx ?_))
 clear h3
 obtain rfl := si h
 exact eR (resT h12 res0) ⟨rfl, o9, fr8⟩
/-! ### (*loop.example/g01263/spec.l00Src).next (f96) -/
noncomputable def spec_l00Src_next_p (a1 : List Int) (a2 : Int) (a3 : Int) : Option (Int × (List Int) × Int × Int) :=
 if (decide (a2 < (a1.length : Int))) = true then
  (rd a1 a2).bind fun x14 =>
  if (decide ((IntKind.i64.wrap (a2 + 1)) ≤ (a1.length : Int))) = true then
   some ((IntKind.i64.wrap x14), a1, (IntKind.i64.wrap (a2 + 1)), (IntKind.u64.wrap ((IntKind.u64.wrap ((IntKind.u64.wrap (a3 * 6364136223846793005)) + (IntKind.u64.wrap (IntKind.i64.wrap x14)))) + 1442695040888963407)))
  else
   (shr .u64 (IntKind.u64.wrap ((IntKind.u64.wrap ((IntKind.u64.wrap (a3 * 6364136223846793005)) + (IntKind.u64.wrap (IntKind.i64.wrap x14)))) + 1442695040888963407)) 40).bind fun n45 =>
   some ((IntKind.i64.wrap (iand .u64 n45 255)), a1, (IntKind.i64.wrap (a2 + 1)), (IntKind.u64.wrap ((IntKind.u64.wrap ((IntKind.u64.wrap (a3 * 6364136223846793005)) + (IntKind.u64.wrap (IntKind.i64.wrap x14)))) + 1442695040888963407)))
 else
  if (decide ((IntKind.i64.wrap (a2 + 1)) ≤ (a1.length : Int))) = true then
   some (0, a1, (IntKind.i64.wrap (a2 + 1)), (IntKind.u64.wrap ((IntKind.u64.wrap ((IntKind.u64.wrap (a3 * 6364136223846793005)) + 0)) + 1442695040888963407)))
  else
   (shr .u64 (IntKind.u64.wrap ((IntKind.u64.wrap ((IntKind.u64.wrap (a3 * 6364136223846793005)) + 0)) + 1442695040888963407)) 40).bind fun n75 =>
   some ((IntKind.i64.wrap (iand .u64 n75 255)), a1, (IntKind.i64.wrap (a2 + 1)), (IntKind.u64.wrap ((IntKind.u64.wrap ((IntKind.u64.wrap (a3 * 6364136223846793005)) + 0)) + 1442695040888963407)))
def spec_l00Src_next_p_Q (a1 : List Int) (a2 : Int) (a3 : Int) (j1 : Nat) (M0 : Mem) (r : Int × (List Int) × Int × Int) (p : AV × Mem) : Prop := p.1 = .int .i64 r.1 ∧ p.2[j1]? = some (.live ⟨.box, 125, 3, [[.sl none (r.2.1.map (cI .u8)), .int .i64 r.2.2.1, .int .u64 r.2.2.2]]⟩) ∧ Fr [j1] M0 p.2
theorem spec_l00Src_next_p_ok (a1 : List Int) (a2 : Int) (a3 : Int) (j1 : Nat) (M0 : Mem) (oP1 : M0[j1]? = some (.live ⟨.box, 125, 3, [[.sl none (a1.map (cI .u8)), .int .i64 a2, .int .u64 a3]]⟩)) (r : Int × (List Int) × Int × Int) (h : spec_l00Src_next_p a1 a2 a3 = some r) : Ev (fun k => CN k 96 [.loc j1 1 0 0] M0) (spec_l00Src_next_p_Q a1 a2 a3 j1 M0 r) := by
 unfold spec_l00Src_next_p at h
 have fr0 : Fr [j1] M0 M0 := Fr.refl
 refine Ev.enter (F := fun k => f96 (CN k) k) (fun k => callN_eq rfl Tryd.func96 rfl rfl rfl (by decide +kernel) (f96_eq _ _)) (sq (Rg (kx (mvO rfl) (Rn (hV (.loc j1 1 0 0) rfl hZ) fun e1 h3 => sN (sq (Rg (kx (mvO rfl) (Rn (hA h3 (hV (.int .i64 0) rfl hZ)) fun e4 h6 h7 => sN (sq (sq (Rd (kf (mvO h6) (kf (ncO rfl oP1 rfl) (kf (faO rfl oP1 rfl) (kf (ldO rfl oP1 rfl rfl rfl) (kf (mvO h6) (kf (ncO rfl oP1 rfl) (kf (faO rfl oP1 rfl) (kf (ldO rfl oP1 rfl rfl rfl) (kf (lnS Tryd.underlying22 rfl) (kf (bLss rfl rfl) (fZ (Rn (hA h6 (hA h7 (hN rfl hZ))) fun e8 h10 h11 h12 => sN ?_)))))))))))))))))))))))
 clear h3 h6 h7
 rcases ite_some h with ⟨hb13, h⟩ | ⟨hb13, h⟩
 ·obtain ⟨x14, hx15, h⟩ := bind_some h
  refine cT h12 hb13 (Rd (kf (mvO h10) (kf (ncO rfl oP1 rfl) (kf (faO rfl oP1 rfl) (kf (ldO rfl oP1 rfl rfl rfl) (kf (mvO h10) (kf (ncO rfl oP1 rfl) (kf (faO rfl oP1 rfl) (kf (ldO rfl oP1 rfl rfl rfl) (kf (ixS rfl rfl hx15 (cI_fl _)) (kf (ldP rfl rfl) (kf (cvI rfl) (kf (mvO rfl) (fZ (Rn (hA h10 (hN rfl hZ)) fun e16 h18 h19 => sN (sq (Rg (kx (mvO h18) (kx (ncO rfl oP1 rfl) (kx (faO rfl oP1 rfl) (kx (ldO rfl oP1 rfl rfl rfl) (kx (bAdd rfl rfl) (kx (ncO rfl oP1 rfl) (kx (faO rfl oP1 rfl) (kw (stO rfl rfl oP1 rfl rfl ⟨rfl, ble rfl⟩ rfl rfl) fun M20 hM21 => ?_)))))))))))))))))))))))))
  clear h10 h12
  have o22 : M20[j1]? = some (.live ⟨.box, 125, 3, [[.sl none (a1.map (cI .u8)), .int .i64 (IntKind.i64.wrap (a2 + 1)), .int .u64 a3]]⟩) := set_same hM21 oP1
  have fr23 := Fr.setIn fr0 hM21 (by simp)
  refine Rn (hA h18 (hA h19 hZ)) fun e24 h26 h27 => sN (sq (Rg (kx (mvO h26) (kx (mvO h26) (kx (ncO rfl o22 rfl) (kx (faO rfl o22 rfl) (kx (ldO rfl o22 rfl rfl rfl) (kx (bMul rfl rfl) (kx (mvO h27) (kx (cvI rfl) (kx (bAdd rfl rfl) (kx (bAdd rfl rfl) (kx (ncO rfl o22 rfl) (kx (faO rfl o22 rfl) (kw (stO rfl rfl o22 rfl rfl ⟨rfl, ble rfl⟩ rfl rfl) fun M28 hM29 => ?_)))))))))))))))
  clear h18 h19
  have o30 : M28[j1]? = some (.live ⟨.box, 125, 3, [[.sl none (a1.map (cI .u8)), .int .i64 (IntKind.i64.wrap (a2 + 1)), .int .u64 (IntKind.u64.wrap ((IntKind.u64.wrap ((IntKind.u64.wrap (a3 * 6364136223846793005)) + (IntKind.u64.wrap (IntKind.i64.wrap x14)))) + 1442695040888963407))]]⟩) := set_same hM29 o22
  have fr31 := Fr.setIn fr23 hM29 (by simp)
  refine Rn (hA h26 (hA h27 hZ)) fun e32 h34 h35 => sN (sq (sq (Rd (kf (mvO h34) (kf (ncO rfl o30 rfl) (kf (faO rfl o30 rfl) (kf (ldO rfl o30 rfl rfl rfl) (kf (mvO h34) (kf (ncO rfl o30 rfl) (kf (faO rfl o30 rfl) (kf (ldO rfl o30 rfl rfl rfl) (kf (lnS Tryd.underlying22 rfl) (kf (bLeq rfl rfl) (fZ (Rn (hA h34 (hA h35 (hN rfl hZ))) fun e36 h38 h39 h40 => sN ?_)))))))))))))))
  clear h26 h27 h34 h35
  rcases ite_some h with ⟨hb41, h⟩ | ⟨hb41, h⟩
  ·refine cT h40 hb41 (sq (Rg (kx (mvO h39) (kx (mvO rfl) (Rn (hN rfl hZ) fun e42 h44 => sN (xx (sR ?_)))))))
   clear h38 h39 h40
   obtain rfl := si h
   exact eR (resT h44 res0) ⟨rfl, o30, fr31⟩
  obtain ⟨n45, hx46, h⟩ := bind_some h
  refine cF h40 hb41 (xx (sN (sq (Rg (kx (mvO h38) (kx (ncO rfl o30 rfl) (kx (faO rfl o30 rfl) (kx (ldO rfl o30 rfl rfl rfl) (kx (bShr rfl rfl hx46) (kx (bAnd rfl rfl) (kx (cvI rfl) (kx (mvO rfl) (Rn (hN rfl hZ) fun e47 h49 => sN (xx ?_))))))))))))))
  clear h38 h39 h40
  obtain rfl := si h
  exact eR (resT h49 res0) ⟨rfl, o30, fr31⟩
 refine cF h12 hb13 (xx (sN (sq (Rg (kx (mvO h10) (kx (ncO rfl oP1 rfl) (kx (faO rfl oP1 rfl) (kx (ldO rfl oP1 rfl rfl rfl) (kx (bAdd rfl rfl) (kx (ncO rfl oP1 rfl) (kx (faO rfl oP1 rfl) (kw (stO rfl rfl oP1 rfl rfl ⟨rfl, ble rfl⟩ rfl rfl) fun M50 hM51 => ?_))))))))))))
 have o52 : M50[j1]? = some (.live ⟨.box, 125, 3, [[.sl none (a1.map (cI .u8)), .int .i64 (IntKind.i64.wrap (a2 + 1)), .int .u64 a3]]⟩) := set_same hM51 oP1
 have fr53 := Fr.setIn fr0 hM51 (by simp)
 refine Rn (hA h10 (hA h11 hZ)) fun e54 h56 h57 => sN (sq (Rg (kx (mvO h56) (kx (mvO h56) (kx (ncO rfl o52 rfl) (kx (faO rfl o52 rfl) (kx (ldO rfl o52 rfl rfl rfl) (kx (bMul rfl rfl) (kx (mvO h57) (kx (cvI rfl) (kx (bAdd rfl rfl) (kx (bAdd rfl rfl) (kx (ncO rfl o52 rfl) (kx (faO rfl o52 rfl) (kw (stO rfl rfl o52 rfl rfl ⟨rfl, ble rfl⟩ rfl rfl) fun M58 hM59 => ?_)))))))))))))))
 clear h10 h11 h12
 have o60 : M58[j1]? = some (.live ⟨.box, 125, 3, [[.sl none (a1.map (cI .u8)), .int .i64 (IntKind.i64.wrap (a2 + 1)), .int .u64 (IntKind.u64.wrap ((IntKind.u64.wrap ((IntKind.u64.wrap (a3 * 6364136223846793005)) + 0)) + 1442695040888963407))]]⟩) := set_same hM59 o52
 have fr61 := Fr.setIn fr53 hM59 (by simp)
 refine Rn (hA h56 (hA h57 hZ)) fun e62 h64 h65 => sN (sq (sq (Rd (kf (mvO h64) (kf (ncO rfl o60 rfl) (kf (faO rfl o60 rfl) (kf (ldO rfl o60 rfl rfl rfl) (kf (mvO h64) (kf (ncO rfl o60 rfl) (kf (faO rfl o60 rfl) (kf (ldO rfl o60 rfl rfl rfl) (kf (lnS Tryd.underlying22 rfl) (kf (bLeq rfl rfl) (fZ (Rn (hA h64 (hA h65 (hN rfl hZ))) fun e66 h68 h69 h70 => sN ?_)))))))))))))))
 clear h56 h57 h64 h65
 rcases ite_some h with ⟨hb71, h⟩ | ⟨hb71, h⟩
 ·refine cT h70 hb71 (sq (Rg (kx (mvO h69) (kx (mvO rfl) (Rn (hV (.int .i64 0) rfl hZ) fun e72 h74 => sN (xx (sR ?_)))))))
  clear h68 h69 h70
  obtain rfl := si h
  exact eR (resT h74 res0) ⟨rfl, o60, fr61⟩
 obtain ⟨n75, hx76, h⟩ := bind_some h
 refine cF h70 hb71 (xx (sN (sq (Rg (kx (mvO h68) (kx (ncO rfl o60 rfl) (kx (faO rfl o60 rfl) (kx (ldO rfl o60 rfl rfl rfl) (kx (bShr rfl rfl hx76) (kx (bAnd rfl rfl) (kx (cvI rfl) (kx (mvO rfl) (Rn (hN rfl hZ) fun e77 h79 => sN (xx ?_))))))))))))))
 clear h68 h69 h70
 obtain rfl := si h
 exact eR (resT h79 res0) ⟨rfl, o60, fr61⟩
/-! ### (*loop.example/g01263/spec.l00Src).pick (f59) -/
noncomputable def spec_l00Src_pick_p (a1 : List Int) (a2 : Int) (a3 : Int) (a4 : Int) : Option (Int × (List Int) × Int × Int) :=
 if (decide (a4 ≤ 1)) = true then
  some (0, a1, a2, a3)
 else
  (spec_l00Src_next_p a1 a2 a3).bind fun (r15, r16, r17, r18) =>
  if (decide (a4 > 200)) = true then
   (spec_l00Src_next_p r16 r17 r18).bind fun (r39, r40, r41, r42) =>
   (rem .i64 (IntKind.i64.wrap ((IntKind.i64.wrap (r15 * 256)) + r39)) a4).bind fun n54 =>
   some (n54, r40, r41, r42)
  else
   (rem .i64 r15 a4).bind fun n59 =>
   some (n59, r16, r17, r18)
def spec_l00Src_pick_p_Q (a1 : List Int) (a2 : Int) (a3 : Int) (a4 : Int) (j1 : Nat) (M0 : Mem) (r : Int × (List Int) × Int × Int) (p : AV × Mem) : Prop := p.1 = .int .i64 r.1 ∧ p.2[j1]? = some (.live ⟨.box, 125, 3, [[.sl none (r.2.1.map (cI .u8)), .int .i64 r.2.2.1, .int .u64 r.2.2.2]]⟩) ∧ Fr [j1] M0 p.2
theorem spec_l00Src_pick_p_ok (a1 : List Int) (a2 : Int) (a3 : Int) (a4 : Int) (j1 : Nat) (M0 : Mem) (oP1 : M0[j1]? = some (.live ⟨.box, 125, 3, [[.sl none (a1.map (cI .u8)), .int .i64 a2, .int .u64 a3]]⟩)) (r : Int × (List Int) × Int × Int) (h : spec_l00Src_pick_p a1 a2 a3 a4 = some r) : Ev (fun k => CN k 59 [.loc j1 1 0 0, .int .i64 a4] M0) (spec_l00Src_pick_p_Q a1 a2 a3 a4 j1 M0 r) := by
 unfold spec_l00Src_pick_p at h
 have fr0 : Fr [j1] M0 M0 := Fr.refl
 refine Ev.enter (F := fun k => f59 (CN k) k) (fun k => callN_eq rfl Tryd.func59 rfl rfl rfl (by decide +kernel) (f59_eq _ _)) (sq (Rg (kx (mvO rfl) (Rn (hV (.loc j1 1 0 0) rfl (hN rfl hZ)) fun e1 h3 h4 => sN (sq (sq (Rg (kx (mvO h4) (kx (bLeq rfl rfl) (Rn (hA h3 (hA h4 (hN rfl hZ))) fun e5 h7 h8 h9 => sN ?_))))))))))
 clear h3 h4
 rcases ite_some h with ⟨hb10, h⟩ | ⟨hb10, h⟩
 ·refine cT h9 hb10 (sq (Rg (kx (mvO rfl) (Rn (hV (.int .i64 0) rfl hZ) fun e11 h13 => sN (xx (sR ?_))))))
  clear h7 h8 h9
  obtain rfl := si h
  exact eR (resT h13 res0) ⟨rfl, oP1, fr0⟩
 obtain ⟨⟨r15, r16, r17, r18⟩, hx14, h⟩ := bind_some h
 refine cF h9 hb10 (xx (sN (sq (Rg (kx (mvO h7) (Ev.nxw (Ev.callW rfl (cns rfl rfl) (spec_l00Src_next_p_ok a1 a2 a3 j1 M0 oP1 _ hx14)) fun v21 M19 hq20 => ?_))))))
 obtain ⟨hv21, o22, fr23⟩ := hq20
 have hv21 : v21 = .int .i64 r15 := hv21
 subst hv21
 have o24 : M19[j1]? = some (.live ⟨.box, 125, 3, [[.sl none (r16.map (cI .u8)), .int .i64 r17, .int .u64 r18]]⟩) := o22
 have fr25 : Fr [j1] M0 M19 := Fr.call fr0 fr23 (fwI (by simp) fwN)
 refine kx (mvO rfl) (Rn (hA h7 (hA h8 (hN rfl hZ))) fun e26 h28 h29 h30 => sN (sq (sq (Rg (kx (mvO h29) (kx (bGtr rfl rfl) (Rn (hA h28 (hA h29 (hA h30 (hN rfl hZ)))) fun e31 h33 h34 h35 h36 => sN ?_)))))))
 clear h7 h8 h9 h28 h29 h30
 rcases ite_some h with ⟨hb37, h⟩ | ⟨hb37, h⟩
 ·obtain ⟨⟨r39, r40, r41, r42⟩, hx38, h⟩ := bind_some h
  refine cT h36 hb37 (Rg (kx (mvO h35) (kx (bMul rfl rfl) (kx (mvO h33) (Ev.nxw (Ev.callW rfl (cns rfl rfl) (spec_l00Src_next_p_ok r16 r17 r18 j1 M19 o24 _ hx38)) fun v45 M43 hq44 => ?_)))))
  obtain ⟨hv45, o46, fr47⟩ := hq44
  have hv45 : v45 = .int .i64 r39 := hv45
  subst hv45
  have o48 : M43[j1]? = some (.live ⟨.box, 125, 3, [[.sl none (r40.map (cI .u8)), .int .i64 r41, .int .u64 r42]]⟩) := o46
  have fr49 : Fr [j1] M0 M43 := Fr.call fr25 fr47 (fwI (by simp) fwN)
  obtain ⟨n54, hx55, h⟩ := bind_some h
  refine kx (bAdd rfl rfl) (kx (mvO rfl) (Rn (hA h34 (hN rfl hZ)) fun e50 h52 h53 => sN (sq (Rg (kx (mvO h53) (kx (mvO h52) (kx (bRem rfl rfl hx55) (kx (mvO rfl) (Rn (hN rfl hZ) fun e56 h58 => sN (xx ?_))))))))))
  clear h33 h34 h36 h52 h53
  obtain rfl := si h
  exact eR (resT h58 res0) ⟨rfl, o48, fr49⟩
 obtain ⟨n59, hx60, h⟩ := bind_some h
 refine cF h36 hb37 (xx (sN (sq (Rg (kx (mvO h35) (kx (mvO h34) (kx (bRem rfl rfl hx60) (kx (mvO rfl) (Rn (hN rfl hZ) fun e61 h63 => sN (xx ?_))))))))))
 clear h33 h34 h35 h36
 obtain rfl := si h
 exact eR (resT h63 res0) ⟨rfl, o24, fr25⟩
/-! ### loop.example/g01263/spec.l05Drawn (f40) -/
abbrev spec_l05Drawn_p_b1_S := Int × (List Item) × (List Int) × Int × Int
abbrev spec_l05Drawn_p_b1_R := (List Item) × (List Int) × Int × Int
def spec_l05Drawn_p_b1_RS (i1_1 : Nat) (j1 : Nat) (M0 : Mem) (s : spec_l05Drawn_p_b1_S) (e : Env) (M : Mem) : Prop := eget e 0 = .loc j1 1 0 0 ∧ eget e 3 = .lsl i1_1 s.2.1.length 0 s.2.1.length ∧ eget e 4 = .int .i64 s.1 ∧ M[i1_1]? = some (.live ⟨.grow, 42, 2, s.2.1.map Item.c⟩) ∧ M[j1]? = some (.live ⟨.box, 125, 3, [[.sl none (s.2.2.1.map (cI .u8)), .int .i64 s.2.2.2.1, .int .u64 s.2.2.2.2]]⟩) ∧ Fr [j1] M0 M
def spec_l05Drawn_p_b1_RR (i1_1 : Nat) (j1 : Nat) (M0 : Mem) (g : spec_l05Drawn_p_b1_R) (x : Ex) (e : Env) (M : Mem) : Prop := x = .ext 0 ∧ eget e 3 = .lsl i1_1 g.1.length 0 g.1.length ∧ M[i1_1]? = some (.live ⟨.grow, 42, 2, g.1.map Item.c⟩) ∧ M[j1]? = some (.live ⟨.box, 125, 3, [[.sl none (g.2.1.map (cI .u8)), .int .i64 g.2.2.1, .int .u64 g.2.2.2]]⟩) ∧ Fr [j1] M0 M
noncomputable def spec_l05Drawn_p_b1 : spec_l05Drawn_p_b1_S → Option (spec_l05Drawn_p_b1_S ⊕ spec_l05Drawn_p_b1_R) := fun (s1_1, s1_2, s1_3, s1_4, s1_5) =>
 if (decide (s1_1 > 0)) = true then
  (spec_l00Src_pick_p s1_3 s1_4 s1_5 4).bind fun (r64, r65, r66, r67) =>
  (spec_l00Src_pick_p r65 r66 r67 500).bind fun (r99, r100, r101, r102) =>
  (app 16 s1_2 [(Item.mk (IntKind.i8.wrap r64) r99)]).bind fun x124 =>
  some (.inl ((IntKind.i64.wrap (s1_1 - 1)), x124, r100, r101, r102))
 else
  some (.inr (s1_2, s1_3, s1_4, s1_5))
theorem spec_l05Drawn_p_b1_ok (i1_1 : Nat) (j1 : Nat) (M0 : Mem) (ne10 : j1 ≠ i1_1) (nf7 : Nf [j1] M0 i1_1) (s : spec_l05Drawn_p_b1_S) (r : spec_l05Drawn_p_b1_S ⊕ spec_l05Drawn_p_b1_R) (h : spec_l05Drawn_p_b1 s = some r) (e : Env) (M : Mem) (hs : spec_l05Drawn_p_b1_RS i1_1 j1 M0 s e M) : Ev (fun k => (f40_l3 (CN k) k (prune [0, 3, 4] e) M).bind fun q => some q) (bQ (spec_l05Drawn_p_b1_RS i1_1 j1 M0) (spec_l05Drawn_p_b1_RR i1_1 j1 M0) r) := by
 obtain ⟨s1_1, s1_2, s1_3, s1_4, s1_5⟩ := s
 unfold spec_l05Drawn_p_b1 at h
 obtain ⟨h47, h49, h51, o54, o53, fr55⟩ := hs
 generalize he46 : prune [0, 3, 4] e = e45
 have h48 := envp he46.symm rfl h47
 have h50 := envp he46.symm rfl h49
 have h52 := envp he46.symm rfl h51
 refine sq (sq (Rg (kx (mvO h52) (kx (bGtr rfl rfl) (Rn (hV (.loc j1 1 0 0) h48 (hV (.lsl i1_1 s1_2.length 0 s1_2.length) h50 (hV (.int .i64 s1_1) h52 (hN rfl hZ)))) fun e56 h58 h59 h60 h61 => sN ?_)))))
 clear h48 h50 h52
 rcases ite_some h with ⟨hb62, h⟩ | ⟨hb62, h⟩
 ·obtain ⟨⟨r64, r65, r66, r67⟩, hx63, h⟩ := bind_some h
  refine cT h61 hb62 (xx (sN (sq (bl (sq (Rg (kx (mvO h58) (Ev.nxw (Ev.callW rfl (cns rfl (cns rfl rfl)) (spec_l00Src_pick_p_ok s1_3 s1_4 s1_5 4 j1 M o53 _ hx63)) fun v70 M68 hq69 => ?_))))))))
  obtain ⟨hv70, o71, fr72⟩ := hq69
  have hv70 : v70 = .int .i64 r64 := hv70
  subst hv70
  have o73 : M68[j1]? = some (.live ⟨.box, 125, 3, [[.sl none (r65.map (cI .u8)), .int .i64 r66, .int .u64 r67]]⟩) := o71
  have fr72 : Fr [j1] M M68 := fr72
  have o74 := fr72 _ _ (niC (Ne.symm ne10) niN) o54
  have fr75 : Fr [j1] M0 M68 := Fr.call fr55 fr72 (fwI (by simp) fwN)
  refine kx (cvI rfl) (kx (bldT zero42 (cns (pr3 rfl) rfl) (fill1 ⟨rfl, ble rfl⟩ rfl rfl (fill0 rfl))) (ku (alO zero42) fun M77 hM78 => ?_))
  have nf79 := Nf.mk fr75
  have fr80 := Fr.push fr75 hM78
  have o81 := push_old hM78 o73
  have ne82 := ne_new o73
  have o83 := push_old hM78 o74
  have ne84 := ne_new o74
  have o85 : M77[M68.length]? = some (.live ⟨.box, 42, 2, [[.int .i8 0, .int .i64 0]]⟩) := push_new hM78
  refine kw (stO rfl rfl o85 rfl rfl ⟨rfl, ble rfl⟩ rfl rfl) fun M86 hM87 => ?_
  have o88 := set_ne hM87 ne82 o81
  have o89 := set_ne hM87 ne84 o83
  have o90 : M86[M68.length]? = some (.live ⟨.box, 42, 2, [[.int .i8 (IntKind.i8.wrap r64), .int .i64 0]]⟩) := set_same hM87 o85
  have fr91 := Fr.setNew fr80 hM87 nf79
  obtain ⟨⟨r99, r100, r101, r102⟩, hx98, h⟩ := bind_some h
  refine Rn (hA h58 (hA h59 (hA h60 (hV (.loc M68.length 1 0 0) rfl hZ)))) fun e92 h94 h95 h96 h97 => sN (sq (Rg (kx (mvO h94) (Ev.nxw (Ev.callW rfl (cns rfl (cns rfl rfl)) (spec_l00Src_pick_p_ok r65 r66 r67 500 j1 M86 o88 _ hx98)) fun v105 M103 hq104 => ?_))))
  clear h58 h59 h60 h61
  obtain ⟨hv105, o106, fr107⟩ := hq104
  have hv105 : v105 = .int .i64 r99 := hv105
  subst hv105
  have o108 : M103[j1]? = some (.live ⟨.box, 125, 3, [[.sl none (r100.map (cI .u8)), .int .i64 r101, .int .u64 r102]]⟩) := o106
  have fr107 : Fr [j1] M86 M103 := fr107
  have o109 := fr107 _ _ (niC (Ne.symm ne10) niN) o89
  have o110 := fr107 _ _ (niC (Ne.symm ne82) niN) o90
  have fr111 : Fr [j1] M0 M103 := Fr.call fr91 fr107 (fwI (by simp) fwN)
  refine kx (faO h97 o110 rfl) (kw (stO rfl rfl o110 rfl rfl ⟨rfl, ble rfl⟩ rfl rfl) fun M112 hM113 => ?_)
  have o114 := set_ne hM113 ne82 o108
  have o115 := set_ne hM113 ne84 o109
  have o116 : M112[M68.length]? = some (.live ⟨.box, 42, 2, [[.int .i8 (IntKind.i8.wrap r64), .int .i64 r99]]⟩) := set_same hM113 o110
  have fr117 := Fr.setNew fr111 hM113 nf79
  obtain ⟨x124, hx125, h⟩ := bind_some h
  refine Rn (hA h94 (hA h95 (hA h96 (hA h97 hZ)))) fun e118 h120 h121 h122 h123 => sN (Rg (kx (mvO h121) (kx (ldOA h123 o116 rfl rfl (ble rfl) rfl) (kx (litI (cns rfl rfl) rfl ⟨rfl, by decide⟩) (kw (apO rfl o115 rfl (elT (c := Item.c) (xs := [(Item.mk (IntKind.i8.wrap r64) r99)]) rfl) hx125 Item.fl (by decide)) fun M126 hM127 => ?_)))))
  clear h94 h95 h96 h97
  have o128 := set_ne hM127 ne10 o114
  have o129 : M126[i1_1]? = some (.live ⟨.grow, 42, 2, x124.map Item.c⟩) := set_same hM127 o115
  have o130 := set_ne hM127 (Ne.symm ne84) o116
  have fr131 := Fr.setNew fr117 hM127 nf7
  refine kx (mvO rfl) (Rn (hA h120 (hV (.lsl i1_1 x124.length 0 x124.length) rfl (hA h122 hZ))) fun e132 h134 h135 h136 => bN (sN (Rg (kx (mvO h136) (kx (bSub rfl rfl) (kx (mvO rfl) (Rn (hA h134 (hA h135 (hN rfl hZ))) fun e137 h139 h140 h141 => ?_)))))))
  clear h120 h122 h123 h134 h135
  obtain rfl := si h
  exact qN ⟨h139, h140, h141, o129, o128, fr131⟩
 refine cF h61 hb62 (xx (sE ?_))
 obtain rfl := si h
 exact qE ⟨rfl, h59, o54, o53, fr55⟩
noncomputable def spec_l05Drawn_p (a1 : List Int) (a2 : Int) (a3 : Int) : Option ((List Int) × Int × Int × (List Item)) :=
 (spec_l00Src_pick_p a1 a2 a3 6).bind fun (r17, r18, r19, r20) =>
 (Lw (spec_l05Drawn_p_b1) (r17, ([] : List Item), r18, r19, r20)).bind fun (y147, y148, y149, y150) =>
 some (y148, y149, y150, y147)
def spec_l05Drawn_p_Q (a1 : List Int) (a2 : Int) (a3 : Int) (j1 : Nat) (M0 : Mem) (r : (List Int) × Int × Int × (List Item)) (p : AV × Mem) : Prop := (∃ n1 : Nat, p.1 = .lsl n1 r.2.2.2.length 0 r.2.2.2.length ∧ p.2[n1]? = some (.live ⟨.grow, 42, 2, r.2.2.2.map Item.c⟩) ∧ p.2[j1]? = some (.live ⟨.box, 125, 3, [[.sl none (r.1.map (cI .u8)), .int .i64 r.2.1, .int .u64 r.2.2.1]]⟩) ∧ Fr [j1] M0 p.2 ∧ Nf [j1] M0 n1 ∧ j1 ≠ n1)
theorem spec_l05Drawn_p_ok (a1 : List Int) (a2 : Int) (a3 : Int) (j1 : Nat) (M0 : Mem) (oP1 : M0[j1]? = some (.live ⟨.box, 125, 3, [[.sl none (a1.map (cI .u8)), .int .i64 a2, .int .u64 a3]]⟩)) (r : (List Int) × Int × Int × (List Item)) (h : spec_l05Drawn_p a1 a2 a3 = some r) : Ev (fun k => CN k 40 [.loc j1 1 0 0] M0) (spec_l05Drawn_p_Q a1 a2 a3 j1 M0 r) := by
 unfold spec_l05Drawn_p at h
 have fr0 : Fr [j1] M0 M0 := Fr.refl
 refine Ev.enter (F := fun k => f40 (CN k) k) (fun k => callN_eq rfl Tryd.func40 rfl rfl rfl (by decide +kernel) (f40_eq _ _)) (sq (Rg (kx (mvO rfl) (Rn (hV (.loc j1 1 0 0) rfl hZ) fun e1 h3 => sN (sq (Rg (ku (litO (xs := ([] : List Item)) (c := Item.c) rfl rfl (by decide)) fun M5 hM6 => ?_)))))))
 have nf7 := Nf.mk fr0
 have fr8 := Fr.push fr0 hM6
 have o9 := push_old hM6 oP1
 have ne10 := ne_new oP1
 have o11 : M5[M0.length]? = some (.live ⟨.grow, 42, 2, ([] : List Item).map Item.c⟩) := push_new hM6
 obtain ⟨⟨r17, r18, r19, r20⟩, hx16, h⟩ := bind_some h
 refine kx (mvO rfl) (Rn (hA h3 (hV (.lsl M0.length ([] : List Item).length 0 ([] : List Item).length) rfl hZ)) fun e12 h14 h15 => sN (sq (sq (Rg (kx (mvO h14) (Ev.nxw (Ev.callW rfl (cns rfl (cns rfl rfl)) (spec_l00Src_pick_p_ok a1 a2 a3 6 j1 M5 o9 _ hx16)) fun v23 M21 hq22 => ?_))))))
 clear h3
 obtain ⟨hv23, o24, fr25⟩ := hq22
 have hv23 : v23 = .int .i64 r17 := hv23
 subst hv23
 have o26 : M21[j1]? = some (.live ⟨.box, 125, 3, [[.sl none (r18.map (cI .u8)), .int .i64 r19, .int .u64 r20]]⟩) := o24
 have fr25 : Fr [j1] M5 M21 := fr25
 have o27 := fr25 _ _ (niC (Ne.symm ne10) niN) o11
 have fr28 : Fr [j1] M0 M21 := Fr.call fr8 fr25 (fwI (by simp) fwN)
 obtain ⟨⟨y147, y148, y149, y150⟩, hr143, h⟩ := bind_some h
 refine kx (mvO rfl) (Rn (hA h14 (hA h15 (hN rfl hZ))) fun e29 h31 h32 h33 => sN (bl (Ev.loop (RS := spec_l05Drawn_p_b1_RS M0.length j1 M0) (RR := spec_l05Drawn_p_b1_RR M0.length j1 M0) (fun s r h e M hs => spec_l05Drawn_p_b1_ok M0.length j1 M0 ne10 nf7 s r h e M hs) hr143 ⟨h31, h32, h33, o27, o26, fr28⟩ fun x e145 M146 hq144 => ?_)))
 clear h14 h15
 obtain ⟨rfl, h151, o152, o153, fr154⟩ := hq144
 refine bE (sN (sq (Rg (kx (mvO h151) (kx (mvO rfl) (Rn (hV (.lsl M0.length y147.length 0 y147.length) rfl hZ) fun e155 h157 => sN (xx ?_)))))))
 clear h151
 obtain rfl := si h
 exact eR (resT h157 res0) ⟨M0.length, rfl, o152, o153, fr154, nf7, ne10⟩
/-! ### loop.example/g01263/spec.A2Items (f7) -/
noncomputable def spec_A2Items (a1 : List Int) : Option ((List Item)) :=
 (spec_l00From a1).bind fun r5 =>
 (spec_l05Drawn_p r5.Code r5.At r5.Seed).bind fun (r13, r14, r15, r16) =>
 some r16
def spec_A2Items_enc (r : (List Item)) : AV := .sl (some 42) (r.map Item.c)
theorem spec_A2Items_ok (a1 : List Int) (r : (List Item)) (h : spec_A2Items a1 = some r) : Ev (fun k => CN k 7 [.sl none (a1.map (cI .u8))] []) (fun p => rRes p.2 p.1 = spec_A2Items_enc r) := by
 unfold spec_A2Items at h
 obtain ⟨r5, hx4, h⟩ := bind_some h
 refine Ev.enter (F := fun k => f7 (CN k) k) (fun k => callN_eq rfl Tryd.func7 rfl rfl rfl (by decide +kernel) (f7_eq _ _)) (sq (Rg (kx (mvO rfl) (Rn (hN rfl hZ) fun e1 h3 => sN (sq (Rg (kx (mvO h3) (Ev.nxw (Ev.callW rfl (cns rfl rfl) (spec_l00From_ok a1 _ _ hx4)) fun v9 M7 hq8 => ?_))))))))
 obtain ⟨hv9, o11, fr10⟩ := hq8
 have hv9 : v9 = .loc ([] : Mem).length 1 0 0 := hv9
 subst hv9
 obtain ⟨⟨r13, r14, r15, r16⟩, hx12, h⟩ := bind_some h
 refine Ev.nxw (Ev.callW rfl (cns rfl rfl) (spec_l05Drawn_p_ok r5.Code r5.At r5.Seed (([] : Mem).length) M7 o11 _ hx12)) fun v21 M19 hq20 => ?_
 obtain ⟨id17, hv21, o24, o22, fr23, nf25, ne26⟩ := hq20
 have hv21 : v21 = .lsl id17 r16.length 0 r16.length := hv21
 subst hv21
 have o27 : M19[([] : Mem).length]? = some (.live ⟨.box, 125, 3, [[.sl none (r13.map (cI .u8)), .int .i64 r14, .int .u64 r15]]⟩) := o22
 refine kx (mvO rfl) (Rn (hV (.lsl id17 r16.length 0 r16.length) rfl hZ) fun e28 h30 => sN (xx ?_))
 clear h3
 obtain rfl := si h
 exact eR (resT h30 res0) (rr_row o24 rfl Item.fl)
/-! ### loop.example/g01263/laws.a2Long (f6) -/
noncomputable def laws_a2Long (a1 : List Int) (a2 : List Int) : Option Bool :=
 if (decide ((a1.length : Int) > 3000)) = true then
  some true
 else
  some (decide ((a2.length : Int) > 3000))
def laws_a2Long_enc (r : Bool) : AV := .bool r
theorem laws_a2Long_ok (a1 : List Int) (a2 : List Int) (r : Bool) (h : laws_a2Long a1 a2 = some r) : Ev (fun k => CN k 6 [.sl none (a1.map (cI .u8)), .sl none (a2.map (cI .u8))] []) (fun p => rRes p.2 p.1 = laws_a2Long_enc r) := by
 unfold laws_a2Long at h
 refine Ev.enter (F := fun k => f6 (CN k) k) (fun k => callN_eq rfl Tryd.func6 rfl rfl rfl (by decide +kernel) (f6_eq _ _)) (sq (Rg (kx (mvO rfl) (Rn (hN rfl (hN rfl hZ)) fun e1 h3 h4 => sN (sq (Rg (kx (mvO h3) (kx (lnS Tryd.underlying22 rfl) (kx (bGtr rfl rfl) (kx (mvO rfl) ?_))))))))))
 rcases ite_some h with ⟨hb5, h⟩ | ⟨hb5, h⟩
 ·refine kx (gsF rfl hb5) (kx (gsF rfl hb5) (kx (gsF rfl hb5) (kx (pkT rfl hb5 rfl) (kx (mvO rfl) (Rn (hV (.bool true) rfl hZ) fun e6 h8 => sN (xx ?_))))))
  clear h3 h4
  obtain rfl := si h
  exact eR (resT h8 res0) rfl
 refine kx (guF rfl hb5 (mvO h4)) (kx (guF rfl hb5 (lnS Tryd.underlying22 rfl)) (kx (guF rfl hb5 (bGtr rfl rfl)) (kx (pkF rfl hb5 rfl) (kx (mvO rfl) (Rn (hN rfl hZ) fun e9 h11 => sN (xx ?_))))))
 clear h3 h4
 obtain rfl := si h
 exact eR (resT h11 res0) rfl
/-! ### loop.example/g01263/laws.FnAccounts (f3) -/
def laws_FnAccounts_c1_Q (a2 : List Int) (r40 : List UInt8) (r41 : List Item) (r42 : Int) (i901_1 : Nat) (i901_2 : Nat) (i901_3 : Nat) (g : Bool) (q : Out) : Prop := q.1 = .nrm ∧ eget q.2.1 1 = .sl none (a2.map (cI .u8)) ∧ eget q.2.1 8 = .loc i901_2 1 0 0 ∧ eget q.2.1 96 = .bool g ∧ q.2.2[i901_2]? = some (.live ⟨.box, 27, 3, [[.str r40, .sl none (r41.map Item.c), .int .i64 r42]]⟩)
def laws_FnAccounts_c2_Q (r40 : List UInt8) (r41 : List Item) (r42 : Int) (i902_1 : Nat) (i902_2 : Nat) (i902_3 : Nat) (g : Bool) (q : Out) : Prop := q.1 = .nrm ∧ eget q.2.1 8 = .loc i902_1 1 0 0 ∧ eget q.2.1 139 = .bool g ∧ q.2.2[i902_1]? = some (.live ⟨.box, 27, 3, [[.str r40, .sl none (r41.map Item.c), .int .i64 r42]]⟩)
def laws_FnAccounts_c3_Q (a2 : List Int) (i903_1 : Nat) (i903_2 : Nat) (i903_3 : Nat) (g : Bool) (q : Out) : Prop := q.1 = .nrm ∧ eget q.2.1 1 = .sl none (a2.map (cI .u8)) ∧ eget q.2.1 8 = .loc i903_2 1 0 0 ∧ eget q.2.1 96 = .bool g ∧ q.2.2[i903_2]? = some (.live ⟨.box, 27, 3, [[.str ([] : List UInt8), .nils, .int .i64 0]]⟩)
def laws_FnAccounts_c4_Q (i904_1 : Nat) (i904_2 : Nat) (i904_3 : Nat) (g : Bool) (q : Out) : Prop := q.1 = .nrm ∧ eget q.2.1 8 = .loc i904_1 1 0 0 ∧ eget q.2.1 139 = .bool g ∧ q.2.2[i904_1]? = some (.live ⟨.box, 27, 3, [[.str ([] : List UInt8), .nils, .int .i64 0]]⟩)
def laws_FnAccounts_c5_Q (a2 : List Int) (r775 : List UInt8) (r776 : List Item) (r777 : Int) (i905_1 : Nat) (i905_2 : Nat) (i905_3 : Nat) (g : Bool) (q : Out) : Prop := q.1 = .nrm ∧ eget q.2.1 1 = .sl none (a2.map (cI .u8)) ∧ eget q.2.1 8 = .loc i905_2 1 0 0 ∧ eget q.2.1 96 = .bool g ∧ q.2.2[i905_2]? = some (.live ⟨.box, 27, 3, [[.str r775, .sl none (r776.map Item.c), .int .i64 r777]]⟩)
def laws_FnAccounts_c6_Q (r775 : List UInt8) (r776 : List Item) (r777 : Int) (i906_1 : Nat) (i906_2 : Nat) (i906_3 : Nat) (g : Bool) (q : Out) : Prop := q.1 = .nrm ∧ eget q.2.1 8 = .loc i906_1 1 0 0 ∧ eget q.2.1 139 = .bool g ∧ q.2.2[i906_1]? = some (.live ⟨.box, 27, 3, [[.str r775, .sl none (r776.map Item.c), .int .i64 r777]]⟩)
def laws_FnAccounts_c7_Q (a2 : List Int) (i907_1 : Nat) (i907_2 : Nat) (i907_3 : Nat) (g : Bool) (q : Out) : Prop := q.1 = .nrm ∧ eget q.2.1 1 = .sl none (a2.map (cI .u8)) ∧ eget q.2.1 8 = .loc i907_2 1 0 0 ∧ eget q.2.1 96 = .bool g ∧ q.2.2[i907_2]? = some (.live ⟨.box, 27, 3, [[.str ([] : List UInt8), .nils, .int .i64 0]]⟩)
def laws_FnAccounts_c8_Q (i908_1 : Nat) (i908_2 : Nat) (i908_3 : Nat) (g : Bool) (q : Out) : Prop := q.1 = .nrm ∧ eget q.2.1 8 = .loc i908_1 1 0 0 ∧ eget q.2.1 139 = .bool g ∧ q.2.2[i908_1]? = some (.live ⟨.box, 27, 3, [[.str ([] : List UInt8), .nils, .int .i64 0]]⟩)
noncomputable def laws_FnAccounts (a1 : List Int) (a2 : List Int) : Option Bool :=
 (laws_a2Long a1 a2).bind fun r6 =>
 if r6 = true then
  some true
 else
  (spec_A2Items a1).bind fun r17 =>
  (impl_MakeAccount ([107, 101, 110, 116] : List UInt8) r17).bind fun r => match r with
  | (.inl (r23, r24, r25)) =>
   (spec_MakeAccount ([107, 101, 110, 116] : List UInt8) r17).bind fun r => match r with
   | (.inl (r40, r41, r42)) =>
    (impl_BalanceOf r17).bind fun (r62, r63) =>
    (impl_AccountText (Account.mk r40 r41 r42)).bind fun r75 =>
    (impl_ReadAccount r75).bind fun (r77, r78, r79, r80) =>
    ((spec_A2SameAccount (Account.mk r23 r24 r25) (Account.mk r40 r41 r42)).bind fun r107 =>
    if r107 = true then
     if (r63 != 0) = true then
      some true
     else
      if (r62 != r42) = true then
       some true
      else
       (impl_CheckAccount (Account.mk r40 r41 r42)).bind fun r122 =>
       if r122 = true then
        (impl_ValidItems r17).bind fun r125 =>
        if r125 = true then
         if (r80 != 0) = true then
          some true
         else
          (spec_A2SameAccount (Account.mk r77 r78 r79) (Account.mk r40 r41 r42)).bind fun r134 =>
          some (!r134)
        else
         some true
       else
        some true
    else
     some true).bind fun y157 =>
    if y157 = true then
     some false
    else
     (impl_CheckAccount (Account.mk r40 r41 (IntKind.i64.wrap (r42 + 1)))).bind fun r191 =>
     if r191 = true then
      some false
     else
      (laws_a2At a2 0 100).bind fun r202 =>
      (impl_NextYear (Account.mk r40 r41 r42) r202).bind fun (r208, r209, r210, r211) =>
      (spec_NextYear (Account.mk r40 r41 r42) r202).bind fun (r229, r230, r231, r232) =>
      (if (r211 != r232) = true then
       some true
      else
       if (r211 != 0) = true then
        some true
       else
        (spec_A2SameAccount (Account.mk r208 r209 r210) (Account.mk r229 r230 r231)).bind fun r265 =>
        if r265 = true then
         some (r231 != (IntKind.i64.wrap (r42 + r202)))
        else
         some true).bind fun y277 =>
      if y277 = true then
       some false
      else
       if (decide (r42 < 0)) = true then
        (impl_AddItem (Account.mk r40 r41 r42) (Item.mk 0 (max r42 (IntKind.i64.wrap (0 - r42))))).bind fun (r307, r308, r309, r310) =>
        (impl_IsQuit (Account.mk r307 r308 r309)).bind fun (r327, r328) =>
        (impl_IsQuit (Account.mk r40 r41 r42)).bind fun (r336, r337) =>
        if (r310 == 0) = true then
         if (r328 == 0) = true then
          if r327 = true then
           if (r337 == 0) = true then
            some (r336 == (r42 == 0))
           else
            some false
          else
           some false
         else
          some false
        else
         some false
       else
        (impl_AddItem (Account.mk r40 r41 r42) (Item.mk 2 (max r42 (IntKind.i64.wrap (0 - r42))))).bind fun (r366, r367, r368, r369) =>
        (impl_IsQuit (Account.mk r366 r367 r368)).bind fun (r386, r387) =>
        (impl_IsQuit (Account.mk r40 r41 r42)).bind fun (r395, r396) =>
        if (r369 == 0) = true then
         if (r387 == 0) = true then
          if r386 = true then
           if (r396 == 0) = true then
            some (r395 == (r42 == 0))
           else
            some false
          else
           some false
         else
          some false
        else
         some false
   | (.inr r430) =>
    (impl_BalanceOf r17).bind fun (r450, r451) =>
    (impl_AccountText (Account.mk ([] : List UInt8) ([] : List Item) 0)).bind fun r463 =>
    (impl_ReadAccount r463).bind fun (r465, r466, r467, r468) =>
    (if (0 != r430) = true then
     some true
    else
     (spec_A2SameAccount (Account.mk r23 r24 r25) (Account.mk ([] : List UInt8) ([] : List Item) 0)).bind fun r501 =>
     if r501 = true then
      if (r451 != 0) = true then
       some true
      else
       if (r450 != 0) = true then
        some true
       else
        (impl_CheckAccount (Account.mk ([] : List UInt8) ([] : List Item) 0)).bind fun r516 =>
        if r516 = true then
         (impl_ValidItems r17).bind fun r519 =>
         if r519 = true then
          if (r468 != 0) = true then
           some true
          else
           (spec_A2SameAccount (Account.mk r465 r466 r467) (Account.mk ([] : List UInt8) ([] : List Item) 0)).bind fun r528 =>
           some (!r528)
         else
          some true
        else
         some true
     else
      some true).bind fun y551 =>
    if y551 = true then
     some false
    else
     (impl_CheckAccount (Account.mk ([] : List UInt8) ([] : List Item) (IntKind.i64.wrap (0 + 1)))).bind fun r585 =>
     if r585 = true then
      some false
     else
      (laws_a2At a2 0 100).bind fun r596 =>
      (impl_NextYear (Account.mk ([] : List UInt8) ([] : List Item) 0) r596).bind fun (r602, r603, r604, r605) =>
      (spec_NextYear (Account.mk ([] : List UInt8) ([] : List Item) 0) r596).bind fun (r623, r624, r625, r626) =>
      (if (r605 != r626) = true then
       some true
      else
       if (r605 != 0) = true then
        some true
       else
        (spec_A2SameAccount (Account.mk r602 r603 r604) (Account.mk r623 r624 r625)).bind fun r659 =>
        if r659 = true then
         some (r625 != (IntKind.i64.wrap (0 + r596)))
        else
         some true).bind fun y671 =>
      if y671 = true then
       some false
      else
       (impl_AddItem (Account.mk ([] : List UInt8) ([] : List Item) 0) (Item.mk 2 (max 0 (IntKind.i64.wrap (0 - 0))))).bind fun (r695, r696, r697, r698) =>
       (impl_IsQuit (Account.mk r695 r696 r697)).bind fun (r715, r716) =>
       (impl_IsQuit (Account.mk ([] : List UInt8) ([] : List Item) 0)).bind fun (r724, r725) =>
       if (r698 == 0) = true then
        if (r716 == 0) = true then
         if r715 = true then
          if (r725 == 0) = true then
           some (r724 == true)
          else
           some false
         else
          some false
        else
         some false
       else
        some false
  | (.inr r760) =>
   (spec_MakeAccount ([107, 101, 110, 116] : List UInt8) r17).bind fun r => match r with
   | (.inl (r775, r776, r777)) =>
    (impl_BalanceOf r17).bind fun (r797, r798) =>
    (impl_AccountText (Account.mk r775 r776 r777)).bind fun r810 =>
    (impl_ReadAccount r810).bind fun (r812, r813, r814, r815) =>
    (if (r760 != 0) = true then
     some true
    else
     (spec_A2SameAccount (Account.mk ([] : List UInt8) ([] : List Item) 0) (Account.mk r775 r776 r777)).bind fun r848 =>
     if r848 = true then
      if (r798 != 0) = true then
       some true
      else
       if (r797 != r777) = true then
        some true
       else
        (impl_CheckAccount (Account.mk r775 r776 r777)).bind fun r863 =>
        if r863 = true then
         (impl_ValidItems r17).bind fun r866 =>
         if r866 = true then
          if (r815 != 0) = true then
           some true
          else
           (spec_A2SameAccount (Account.mk r812 r813 r814) (Account.mk r775 r776 r777)).bind fun r875 =>
           some (!r875)
         else
          some true
        else
         some true
     else
      some true).bind fun y898 =>
    if y898 = true then
     some false
    else
     (impl_CheckAccount (Account.mk r775 r776 (IntKind.i64.wrap (r777 + 1)))).bind fun r932 =>
     if r932 = true then
      some false
     else
      (laws_a2At a2 0 100).bind fun r943 =>
      (impl_NextYear (Account.mk r775 r776 r777) r943).bind fun (r949, r950, r951, r952) =>
      (spec_NextYear (Account.mk r775 r776 r777) r943).bind fun (r970, r971, r972, r973) =>
      (if (r952 != r973) = true then
       some true
      else
       if (r952 != 0) = true then
        some true
       else
        (spec_A2SameAccount (Account.mk r949 r950 r951) (Account.mk r970 r971 r972)).bind fun r1006 =>
        if r1006 = true then
         some (r972 != (IntKind.i64.wrap (r777 + r943)))
        else
         some true).bind fun y1018 =>
      if y1018 = true then
       some false
      else
       if (decide (r777 < 0)) = true then
        (impl_AddItem (Account.mk r775 r776 r777) (Item.mk 0 (max r777 (IntKind.i64.wrap (0 - r777))))).bind fun (r1048, r1049, r1050, r1051) =>
        (impl_IsQuit (Account.mk r1048 r1049 r1050)).bind fun (r1068, r1069) =>
        (impl_IsQuit (Account.mk r775 r776 r777)).bind fun (r1077, r1078) =>
        if (r1051 == 0) = true then
         if (r1069 == 0) = true then
          if r1068 = true then
           if (r1078 == 0) = true then
            some (r1077 == (r777 == 0))
           else
            some false
          else
           some false
         else
          some false
        else
         some false
       else
        (impl_AddItem (Account.mk r775 r776 r777) (Item.mk 2 (max r777 (IntKind.i64.wrap (0 - r777))))).bind fun (r1107, r1108, r1109, r1110) =>
        (impl_IsQuit (Account.mk r1107 r1108 r1109)).bind fun (r1127, r1128) =>
        (impl_IsQuit (Account.mk r775 r776 r777)).bind fun (r1136, r1137) =>
        if (r1110 == 0) = true then
         if (r1128 == 0) = true then
          if r1127 = true then
           if (r1137 == 0) = true then
            some (r1136 == (r777 == 0))
           else
            some false
          else
           some false
         else
          some false
        else
         some false
   | (.inr r1171) =>
    (impl_BalanceOf r17).bind fun (r1191, r1192) =>
    (impl_AccountText (Account.mk ([] : List UInt8) ([] : List Item) 0)).bind fun r1204 =>
    (impl_ReadAccount r1204).bind fun (r1206, r1207, r1208, r1209) =>
    (if (r760 != r1171) = true then
     some true
    else
     if (r760 != 0) = true then
      some true
     else
      (spec_A2SameAccount (Account.mk ([] : List UInt8) ([] : List Item) 0) (Account.mk ([] : List UInt8) ([] : List Item) 0)).bind fun r1248 =>
      if r1248 = true then
       if (r1192 != 0) = true then
        some true
       else
        if (r1191 != 0) = true then
         some true
        else
         (impl_CheckAccount (Account.mk ([] : List UInt8) ([] : List Item) 0)).bind fun r1263 =>
         if r1263 = true then
          (impl_ValidItems r17).bind fun r1266 =>
          if r1266 = true then
           if (r1209 != 0) = true then
            some true
           else
            (spec_A2SameAccount (Account.mk r1206 r1207 r1208) (Account.mk ([] : List UInt8) ([] : List Item) 0)).bind fun r1275 =>
            some (!r1275)
          else
           some true
         else
          some true
      else
       some true).bind fun y1298 =>
    if y1298 = true then
     some false
    else
     (impl_CheckAccount (Account.mk ([] : List UInt8) ([] : List Item) (IntKind.i64.wrap (0 + 1)))).bind fun r1332 =>
     if r1332 = true then
      some false
     else
      (laws_a2At a2 0 100).bind fun r1343 =>
      (impl_NextYear (Account.mk ([] : List UInt8) ([] : List Item) 0) r1343).bind fun (r1349, r1350, r1351, r1352) =>
      (spec_NextYear (Account.mk ([] : List UInt8) ([] : List Item) 0) r1343).bind fun (r1370, r1371, r1372, r1373) =>
      (if (r1352 != r1373) = true then
       some true
      else
       if (r1352 != 0) = true then
        some true
       else
        (spec_A2SameAccount (Account.mk r1349 r1350 r1351) (Account.mk r1370 r1371 r1372)).bind fun r1406 =>
        if r1406 = true then
         some (r1372 != (IntKind.i64.wrap (0 + r1343)))
        else
         some true).bind fun y1418 =>
      if y1418 = true then
       some false
      else
       (impl_AddItem (Account.mk ([] : List UInt8) ([] : List Item) 0) (Item.mk 2 (max 0 (IntKind.i64.wrap (0 - 0))))).bind fun (r1442, r1443, r1444, r1445) =>
       (impl_IsQuit (Account.mk r1442 r1443 r1444)).bind fun (r1462, r1463) =>
       (impl_IsQuit (Account.mk ([] : List UInt8) ([] : List Item) 0)).bind fun (r1471, r1472) =>
       if (r1445 == 0) = true then
        if (r1463 == 0) = true then
         if r1462 = true then
          if (r1472 == 0) = true then
           some (r1471 == true)
          else
           some false
         else
          some false
        else
         some false
       else
        some false
def laws_FnAccounts_enc (r : Bool) : AV := .bool r
theorem laws_FnAccounts_ok (a1 : List Int) (a2 : List Int) (r : Bool) (h : laws_FnAccounts a1 a2 = some r) : Ev (fun k => CN k 3 [.sl none (a1.map (cI .u8)), .sl none (a2.map (cI .u8))] []) (fun p => rRes p.2 p.1 = laws_FnAccounts_enc r) := by
 unfold laws_FnAccounts at h
 obtain ⟨r6, hx5, h⟩ := bind_some h
 refine Ev.enter (F := fun k => f3 (CN k) k) (fun k => callN_eq rfl Tryd.func3 rfl rfl rfl (by decide +kernel) (f3_eq _ _)) (sq (Rg (kx (mvO rfl) (Rn (hN rfl (hN rfl hZ)) fun e1 h3 h4 => sN (sq (sq (Rg (kx (mvO h3) (kx (mvO h4) (kc (cl (v := .bool r6) rfl rfl (cns rfl (cns rfl rfl)) rfl (laws_a2Long_ok a1 a2 _ hx5) nm) (Rn (hA h3 (hA h4 (hN rfl hZ))) fun e7 h9 h10 h11 => sN ?_)))))))))))
 clear h3 h4
 rcases ite_some h with ⟨hb12, h⟩ | ⟨hb12, h⟩
 ·refine cT h11 hb12 (sq (Rg (kx (mvO rfl) (Rn (hV (.bool true) rfl hZ) fun e13 h15 => sN (xx (sR ?_))))))
  clear h10 h11 h9
  obtain rfl := si h
  exact eR (resT h15 res0) rfl
 obtain ⟨r17, hx16, h⟩ := bind_some h
 obtain ⟨q1507, hx22, h⟩ := bind_some h
 refine cF h11 hb12 (xx (sN (sq (Rg (kx (mvO h9) (kc (cl (v := .sl (some 42) (r17.map Item.c)) rfl rfl (cns rfl rfl) rfl (spec_A2Items_ok a1 _ hx16) nm) (kx (mvO rfl) (Rn (hA h10 (hN rfl hZ)) fun e18 h20 h21 => sN (sq (Rg (kx (mvO h21) ?_)))))))))))
 clear h10 h11 h9
 rcases q1507 with ⟨r23, r24, r25⟩ | r760
 ·refine kc (cl (v := .tup [.agg [.str r23, .sl (some 42) (r24.map Item.c), .int .i64 r25], .int .i64 0]) rfl rfl (cns rfl (cns rfl rfl)) rfl (impl_MakeAccount_ok ([107, 101, 110, 116] : List UInt8) r17 _ hx22) nm) (kx (mvO rfl) (kx (exT rfl rfl) (kx (exT rfl rfl) (ku (alO zero27) fun M27 hM28 => ?_))))
  have o29 : M27[([] : Mem).length]? = some (.live ⟨.box, 27, 3, [[.str ([] : List UInt8), .nils, .int .i64 0]]⟩) := push_new hM28
  refine kw (stO rfl rfl o29 rfl rfl ⟨rfl, ble rfl⟩ rfl rfl) fun M30 hM31 => ?_
  have o32 : M30[([] : Mem).length]? = some (.live ⟨.box, 27, 3, [[.str r23, .sl none (r24.map Item.c), .int .i64 r25]]⟩) := set_same hM31 o29
  obtain ⟨q759, hx39, h⟩ := bind_some h
  refine kx (mvO rfl) (Rn (hA h20 (hA h21 (hV (.loc ([] : Mem).length 1 0 0) rfl (hV (.int .i64 0) rfl hZ)))) fun e33 h35 h36 h37 h38 => sN (sq (Rg (kx (mvO h36) ?_))))
  clear h20 h21
  rcases q759 with ⟨r40, r41, r42⟩ | r430
  ·refine kc (cl (v := .tup [.agg [.str r40, .sl (some 42) (r41.map Item.c), .int .i64 r42], .int .i64 0]) rfl rfl (cns rfl (cns rfl rfl)) rfl (spec_MakeAccount_ok ([107, 101, 110, 116] : List UInt8) r17 _ hx39) nm) (kx (mvO rfl) (kx (exT rfl rfl) (kx (exT rfl rfl) (ku (alO zero27) fun M44 hM45 => ?_))))
   have o46 := push_old hM45 o32
   have ne47 := ne_new o32
   have o48 : M44[M30.length]? = some (.live ⟨.box, 27, 3, [[.str ([] : List UInt8), .nils, .int .i64 0]]⟩) := push_new hM45
   refine kw (stO rfl rfl o48 rfl rfl ⟨rfl, ble rfl⟩ rfl rfl) fun M49 hM50 => ?_
   have o51 := set_ne hM50 ne47 o46
   have o52 : M49[M30.length]? = some (.live ⟨.box, 27, 3, [[.str r40, .sl none (r41.map Item.c), .int .i64 r42]]⟩) := set_same hM50 o48
   obtain ⟨⟨r62, r63⟩, hx61, h⟩ := bind_some h
   obtain ⟨r75, hx74, h⟩ := bind_some h
   obtain ⟨⟨r77, r78, r79, r80⟩, hx76, h⟩ := bind_some h
   refine kx (mvO rfl) (Rn (hA h35 (hA h36 (hA h37 (hA h38 (hV (.loc M30.length 1 0 0) rfl (hV (.int .i64 0) rfl hZ)))))) fun e53 h55 h56 h57 h58 h59 h60 => sN (sq (Rg (kx (mvO h56) (kc (cl (v := .tup [.int .i64 r62, .int .i64 r63]) rfl rfl (cns rfl rfl) rfl (impl_BalanceOf_ok r17 _ hx61) nm) (kx (mvO rfl) (kx (exT rfl rfl) (kx (exT rfl rfl) (kx (mvO rfl) (kx (mvO rfl) (Rn (hA h55 (hA h56 (hA h57 (hA h58 (hA h59 (hA h60 (hN rfl (hN rfl hZ)))))))) fun e64 h66 h67 h68 h69 h70 h71 h72 h73 => sN (sq (Rg (kx (ldOA h70 o52 rfl rfl (ble rfl) rfl) (kc (cl (v := .str r75) rfl rfl (cns rfl rfl) rfl (impl_AccountText_ok (Account.mk r40 r41 r42) _ hx74) nm) (kc (clW (v := .tup [.agg [.str r77, .sl none (r78.map Item.c), .int .i64 r79], .int .i64 r80]) rfl rfl (cns rfl rfl) rfl (impl_ReadAccount_ok r75 _ hx76) rfl) (kx (mvO rfl) (kx (exT rfl rfl) (kx (exT rfl rfl) (ku (alO zero27) fun M82 hM83 => ?_))))))))))))))))))))
   clear h35 h36 h37 h38 h55 h56 h57 h58 h59 h60
   have o84 := push_old hM83 o51
   have ne85 := ne_new o51
   have o86 := push_old hM83 o52
   have ne87 := ne_new o52
   have o88 : M82[M49.length]? = some (.live ⟨.box, 27, 3, [[.str ([] : List UInt8), .nils, .int .i64 0]]⟩) := push_new hM83
   refine kw (stO rfl rfl o88 rfl rfl ⟨rfl, ble rfl⟩ rfl rfl) fun M89 hM90 => ?_
   have o91 := set_ne hM90 ne85 o84
   have o92 := set_ne hM90 ne87 o86
   have o93 : M89[M49.length]? = some (.live ⟨.box, 27, 3, [[.str r77, .sl none (r78.map Item.c), .int .i64 r79]]⟩) := set_same hM90 o88
   obtain ⟨r428, hr429, h⟩ := bind_some h
   refine kx (mvO rfl) (Rn (hA h66 (hA h67 (hA h68 (hA h69 (hA h70 (hA h71 (hA h72 (hA h73 (hV (.loc M49.length 1 0 0) rfl (hN rfl hZ)))))))))) fun e94 h96 h97 h98 h99 h100 h101 h102 h103 h104 h105 => sN (sq (sq ?_)))
   clear h66 h67 h68 h69 h70 h71 h72 h73
   refine Ev.cut (Q1 := laws_FnAccounts_c1_Q a2 r40 r41 r42 (([] : Mem).length) M30.length M49.length r428) (by
       have h := hr429
       obtain ⟨r107, hx106, h⟩ := bind_some h
       refine Rg (kx (mvO h99) (kx (mvO h101) (kx (bNeq rfl rfl) (kx (mvO rfl) (kx (guF rfl rfl (mvO h99)) (kx (guF rfl rfl (bNeq rfl rfl)) (kx (pkF rfl rfl rfl) (kx (mvO rfl) (kx (guF rfl rfl (ldOA h98 o91 rfl rfl (ble rfl) rfl)) (kx (guF rfl rfl (ldOA h100 o92 rfl rfl (ble rfl) rfl)) (kc (Ev.guF rfl rfl (cl (v := .bool r107) rfl rfl (cns rfl (cns rfl rfl)) rfl (spec_A2SameAccount_ok (Account.mk r23 r24 r25) (Account.mk r40 r41 r42) _ hx106) nm)) (kx (guF rfl rfl (uNot rfl)) (kx (pkF rfl rfl rfl) (kx (mvO rfl) ?_))))))))))))))
       rcases ite_some h with ⟨hb108, h⟩ | ⟨hb108, h⟩
       ·refine kx (guF rfl (congrArg Bool.not hb108) (mvO h103)) (kx (guF rfl (congrArg Bool.not hb108) (bNeq rfl rfl)) (kx (pkF rfl (congrArg Bool.not hb108) rfl) (kx (mvO rfl) ?_)))
        rcases ite_some h with ⟨hb109, h⟩ | ⟨hb109, h⟩
        ·refine kx (gsF rfl hb109) (kx (gsF rfl hb109) (kx (gsF rfl hb109) (kx (gsF rfl hb109) (kx (pkT rfl hb109 rfl) (kx (mvO rfl) (kx (gsF rfl rfl) (kc (Ev.gsF rfl rfl) (kx (gsF rfl rfl) (kx (pkT rfl rfl rfl) (kx (mvO rfl) (kx (gsF rfl rfl) (kc (Ev.gsF rfl rfl) (kx (gsF rfl rfl) (kx (pkT rfl rfl rfl) (kx (mvO rfl) (kx (gsF rfl rfl) (kx (gsF rfl rfl) (kx (pkT rfl rfl rfl) (kx (mvO rfl) (kx (gsF rfl rfl) (kx (gsF rfl rfl) (kc (Ev.gsF rfl rfl) (kx (gsF rfl rfl) (kx (pkT rfl rfl rfl) (Rn (hA h96 (hA h100 (hV (.bool true) rfl hZ))) fun e110 h112 h113 h114 => ?_)))))))))))))))))))))))))
         clear h100 h101 h102 h103 h104 h105 h96 h97 h98 h99
         obtain rfl := si h
         exact kd (show laws_FnAccounts_c1_Q a2 r40 r41 r42 (([] : Mem).length) M30.length M49.length _ _ from ⟨rfl, h112, h113, h114, o92⟩)
        refine kx (guF rfl hb109 (mvO h102)) (kx (guF rfl hb109 (faO h100 o92 rfl)) (kx (guF rfl hb109 (ldO rfl o92 rfl rfl rfl)) (kx (guF rfl hb109 (bNeq rfl rfl)) (kx (pkF rfl hb109 rfl) (kx (mvO rfl) ?_)))))
        rcases ite_some h with ⟨hb115, h⟩ | ⟨hb115, h⟩
        ·refine kx (gsF rfl hb115) (kc (Ev.gsF rfl hb115) (kx (gsF rfl hb115) (kx (pkT rfl hb115 rfl) (kx (mvO rfl) (kx (gsF rfl rfl) (kc (Ev.gsF rfl rfl) (kx (gsF rfl rfl) (kx (pkT rfl rfl rfl) (kx (mvO rfl) (kx (gsF rfl rfl) (kx (gsF rfl rfl) (kx (pkT rfl rfl rfl) (kx (mvO rfl) (kx (gsF rfl rfl) (kx (gsF rfl rfl) (kc (Ev.gsF rfl rfl) (kx (gsF rfl rfl) (kx (pkT rfl rfl rfl) (Rn (hA h96 (hA h100 (hV (.bool true) rfl hZ))) fun e116 h118 h119 h120 => ?_)))))))))))))))))))
         clear h100 h101 h102 h103 h104 h105 h96 h97 h98 h99
         obtain rfl := si h
         exact kd (show laws_FnAccounts_c1_Q a2 r40 r41 r42 (([] : Mem).length) M30.length M49.length _ _ from ⟨rfl, h118, h119, h120, o92⟩)
        obtain ⟨r122, hx121, h⟩ := bind_some h
        refine kx (guF rfl hb115 (ldOA h100 o92 rfl rfl (ble rfl) rfl)) (kc (Ev.guF rfl hb115 (cl (v := .bool r122) rfl rfl (cns rfl rfl) rfl (impl_CheckAccount_ok (Account.mk r40 r41 r42) _ hx121) nm)) (kx (guF rfl hb115 (uNot rfl)) (kx (pkF rfl hb115 rfl) (kx (mvO rfl) ?_))))
        rcases ite_some h with ⟨hb123, h⟩ | ⟨hb123, h⟩
        ·obtain ⟨r125, hx124, h⟩ := bind_some h
         refine kx (guF rfl (congrArg Bool.not hb123) (mvO h97)) (kc (Ev.guF rfl (congrArg Bool.not hb123) (cl (v := .bool r125) rfl rfl (cns rfl rfl) rfl (impl_ValidItems_ok r17 _ hx124) nm)) (kx (guF rfl (congrArg Bool.not hb123) (uNot rfl)) (kx (pkF rfl (congrArg Bool.not hb123) rfl) (kx (mvO rfl) ?_))))
         rcases ite_some h with ⟨hb126, h⟩ | ⟨hb126, h⟩
         ·refine kx (guF rfl (congrArg Bool.not hb126) (mvO h105)) (kx (guF rfl (congrArg Bool.not hb126) (bNeq rfl rfl)) (kx (pkF rfl (congrArg Bool.not hb126) rfl) (kx (mvO rfl) ?_)))
          rcases ite_some h with ⟨hb127, h⟩ | ⟨hb127, h⟩
          ·refine kx (gsF rfl hb127) (kx (gsF rfl hb127) (kc (Ev.gsF rfl hb127) (kx (gsF rfl hb127) (kx (pkT rfl hb127 rfl) (Rn (hA h96 (hA h100 (hV (.bool true) rfl hZ))) fun e128 h130 h131 h132 => ?_)))))
           clear h100 h101 h102 h103 h104 h105 h96 h97 h98 h99
           obtain rfl := si h
           exact kd (show laws_FnAccounts_c1_Q a2 r40 r41 r42 (([] : Mem).length) M30.length M49.length _ _ from ⟨rfl, h130, h131, h132, o92⟩)
          obtain ⟨r134, hx133, h⟩ := bind_some h
          refine kx (guF rfl hb127 (ldOA h104 o93 rfl rfl (ble rfl) rfl)) (kx (guF rfl hb127 (ldOA h100 o92 rfl rfl (ble rfl) rfl)) (kc (Ev.guF rfl hb127 (cl (v := .bool r134) rfl rfl (cns rfl (cns rfl rfl)) rfl (spec_A2SameAccount_ok (Account.mk r77 r78 r79) (Account.mk r40 r41 r42) _ hx133) nm)) (kx (guF rfl hb127 (uNot rfl)) (kx (pkF rfl hb127 rfl) (Rn (hA h96 (hA h100 (hN rfl hZ))) fun e135 h137 h138 h139 => ?_)))))
          clear h100 h101 h102 h103 h104 h105 h96 h97 h98 h99
          obtain rfl := si h
          exact kd (show laws_FnAccounts_c1_Q a2 r40 r41 r42 (([] : Mem).length) M30.length M49.length _ _ from ⟨rfl, h137, h138, h139, o92⟩)
         refine kx (gsF rfl (congrArg Bool.not hb126)) (kx (gsF rfl (congrArg Bool.not hb126)) (kx (pkT rfl (congrArg Bool.not hb126) rfl) (kx (mvO rfl) (kx (gsF rfl rfl) (kx (gsF rfl rfl) (kc (Ev.gsF rfl rfl) (kx (gsF rfl rfl) (kx (pkT rfl rfl rfl) (Rn (hA h96 (hA h100 (hV (.bool true) rfl hZ))) fun e140 h142 h143 h144 => ?_)))))))))
         clear h100 h101 h102 h103 h104 h105 h96 h97 h98 h99
         obtain rfl := si h
         exact kd (show laws_FnAccounts_c1_Q a2 r40 r41 r42 (([] : Mem).length) M30.length M49.length _ _ from ⟨rfl, h142, h143, h144, o92⟩)
        refine kx (gsF rfl (congrArg Bool.not hb123)) (kc (Ev.gsF rfl (congrArg Bool.not hb123)) (kx (gsF rfl (congrArg Bool.not hb123)) (kx (pkT rfl (congrArg Bool.not hb123) rfl) (kx (mvO rfl) (kx (gsF rfl rfl) (kx (gsF rfl rfl) (kx (pkT rfl rfl rfl) (kx (mvO rfl) (kx (gsF rfl rfl) (kx (gsF rfl rfl) (kc (Ev.gsF rfl rfl) (kx (gsF rfl rfl) (kx (pkT rfl rfl rfl) (Rn (hA h96 (hA h100 (hV (.bool true) rfl hZ))) fun e145 h147 h148 h149 => ?_))))))))))))))
        clear h100 h101 h102 h103 h104 h105 h96 h97 h98 h99
        obtain rfl := si h
        exact kd (show laws_FnAccounts_c1_Q a2 r40 r41 r42 (([] : Mem).length) M30.length M49.length _ _ from ⟨rfl, h147, h148, h149, o92⟩)
       refine kx (gsF rfl (congrArg Bool.not hb108)) (kx (gsF rfl (congrArg Bool.not hb108)) (kx (pkT rfl (congrArg Bool.not hb108) rfl) (kx (mvO rfl) (kx (gsF rfl rfl) (kx (gsF rfl rfl) (kx (gsF rfl rfl) (kx (gsF rfl rfl) (kx (pkT rfl rfl rfl) (kx (mvO rfl) (kx (gsF rfl rfl) (kc (Ev.gsF rfl rfl) (kx (gsF rfl rfl) (kx (pkT rfl rfl rfl) (kx (mvO rfl) (kx (gsF rfl rfl) (kc (Ev.gsF rfl rfl) (kx (gsF rfl rfl) (kx (pkT rfl rfl rfl) (kx (mvO rfl) (kx (gsF rfl rfl) (kx (gsF rfl rfl) (kx (pkT rfl rfl rfl) (kx (mvO rfl) (kx (gsF rfl rfl) (kx (gsF rfl rfl) (kc (Ev.gsF rfl rfl) (kx (gsF rfl rfl) (kx (pkT rfl rfl rfl) (Rn (hA h96 (hA h100 (hV (.bool true) rfl hZ))) fun e150 h152 h153 h154 => ?_)))))))))))))))))))))))))))))
       clear h100 h101 h102 h103 h104 h105 h96 h97 h98 h99
       obtain rfl := si h
       exact kd (show laws_FnAccounts_c1_Q a2 r40 r41 r42 (([] : Mem).length) M30.length M49.length _ _ from ⟨rfl, h152, h153, h154, o92⟩)) ?_
   revert h hr429
   revert r428
   intro y157 hr429 h
   intro x e155 M156 hq427
   obtain ⟨rfl, h158, h159, h160, o161⟩ := hq427
   refine sN ?_
   rcases ite_some h with ⟨hb162, h⟩ | ⟨hb162, h⟩
   ·refine cT h160 hb162 (sq (Rg (kx (mvO rfl) (Rn (hV (.bool false) rfl hZ) fun e163 h165 => sN (xx (sR ?_))))))
    clear h158 h159 h160
    obtain rfl := si h
    exact eR (resT h165 res0) rfl
   refine cF h160 hb162 (xx (sN (sq (Rg (kx (ldOA h159 o161 rfl rfl (ble rfl) rfl) (ku (alO zero27) fun M167 hM168 => ?_))))))
   have o169 := push_old hM168 o161
   have ne170 := ne_new o161
   have o171 : M167[M156.length]? = some (.live ⟨.box, 27, 3, [[.str ([] : List UInt8), .nils, .int .i64 0]]⟩) := push_new hM168
   refine kw (stO rfl rfl o171 rfl rfl ⟨rfl, ble rfl⟩ rfl rfl) fun M172 hM173 => ?_
   have o174 := set_ne hM173 ne170 o169
   have o175 : M172[M156.length]? = some (.live ⟨.box, 27, 3, [[.str r40, .sl none (r41.map Item.c), .int .i64 r42]]⟩) := set_same hM173 o171
   refine Rn (hV (.sl none (a2.map (cI .u8))) h158 (hV (.loc M30.length 1 0 0) h159 (hV (.loc M156.length 1 0 0) rfl hZ))) fun e176 h178 h179 h180 => sN (sq (Rg (kx (faO h180 o175 rfl) (kx (ldO rfl o175 rfl rfl rfl) (kx (bAdd rfl rfl) (kx (faO h180 o175 rfl) (kw (stO rfl rfl o175 rfl rfl ⟨rfl, ble rfl⟩ rfl rfl) fun M181 hM182 => ?_)))))))
   clear h158 h159 h160
   have o183 := set_ne hM182 ne170 o174
   have o184 : M181[M156.length]? = some (.live ⟨.box, 27, 3, [[.str r40, .sl none (r41.map Item.c), .int .i64 (IntKind.i64.wrap (r42 + 1))]]⟩) := set_same hM182 o175
   obtain ⟨r191, hx190, h⟩ := bind_some h
   refine Rn (hA h178 (hA h179 (hA h180 hZ))) fun e185 h187 h188 h189 => sN (sq (sq (Rg (kx (ldOA h189 o184 rfl rfl (ble rfl) rfl) (kc (cl (v := .bool r191) rfl rfl (cns rfl rfl) rfl (impl_CheckAccount_ok (Account.mk r40 r41 (IntKind.i64.wrap (r42 + 1))) _ hx190) nm) (Rn (hA h187 (hA h188 (hN rfl hZ))) fun e192 h194 h195 h196 => sN ?_))))))
   clear h178 h179 h180 h187 h188 h189
   rcases ite_some h with ⟨hb197, h⟩ | ⟨hb197, h⟩
   ·refine cT h196 hb197 (sq (Rg (kx (mvO rfl) (Rn (hV (.bool false) rfl hZ) fun e198 h200 => sN (xx (sR ?_))))))
    clear h194 h195 h196
    obtain rfl := si h
    exact eR (resT h200 res0) rfl
   obtain ⟨r202, hx201, h⟩ := bind_some h
   obtain ⟨⟨r208, r209, r210, r211⟩, hx207, h⟩ := bind_some h
   refine cF h196 hb197 (xx (sN (sq (Rg (kx (mvO h194) (kc (cl (v := .int .i64 r202) rfl rfl (cns rfl (cns rfl (cns rfl rfl))) rfl (laws_a2At_ok a2 0 100 _ hx201) nm) (kx (mvO rfl) (Rn (hA h195 (hN rfl hZ)) fun e203 h205 h206 => sN (sq (Rg (kx (ldOA h205 o183 rfl rfl (ble rfl) rfl) (kx (mvO h206) (kc (clW (v := .tup [.agg [.str r208, .sl none (r209.map Item.c), .int .i64 r210], .int .i64 r211]) rfl rfl (cns rfl (cns rfl rfl)) rfl (impl_NextYear_ok (Account.mk r40 r41 r42) r202 _ hx207) rfl) (kx (mvO rfl) (kx (exT rfl rfl) (kx (exT rfl rfl) (ku (alO zero27) fun M213 hM214 => ?_)))))))))))))))))
   clear h194 h195 h196
   have o215 := push_old hM214 o183
   have ne216 := ne_new o183
   have o217 : M213[M181.length]? = some (.live ⟨.box, 27, 3, [[.str ([] : List UInt8), .nils, .int .i64 0]]⟩) := push_new hM214
   refine kw (stO rfl rfl o217 rfl rfl ⟨rfl, ble rfl⟩ rfl rfl) fun M218 hM219 => ?_
   have o220 := set_ne hM219 ne216 o215
   have o221 : M218[M181.length]? = some (.live ⟨.box, 27, 3, [[.str r208, .sl none (r209.map Item.c), .int .i64 r210]]⟩) := set_same hM219 o217
   obtain ⟨⟨r229, r230, r231, r232⟩, hx228, h⟩ := bind_some h
   refine kx (mvO rfl) (Rn (hA h205 (hA h206 (hV (.loc M181.length 1 0 0) rfl (hN rfl hZ)))) fun e222 h224 h225 h226 h227 => sN (sq (Rg (kx (ldOA h224 o220 rfl rfl (ble rfl) rfl) (kx (mvO h225) (kc (clW (v := .tup [.agg [.str r229, .sl none (r230.map Item.c), .int .i64 r231], .int .i64 r232]) rfl rfl (cns rfl (cns rfl rfl)) rfl (spec_NextYear_ok (Account.mk r40 r41 r42) r202 _ hx228) rfl) (kx (mvO rfl) (kx (exT rfl rfl) (kx (exT rfl rfl) (ku (alO zero27) fun M234 hM235 => ?_))))))))))
   clear h205 h206
   have o236 := push_old hM235 o220
   have ne237 := ne_new o220
   have o238 := push_old hM235 o221
   have ne239 := ne_new o221
   have o240 : M234[M218.length]? = some (.live ⟨.box, 27, 3, [[.str ([] : List UInt8), .nils, .int .i64 0]]⟩) := push_new hM235
   refine kw (stO rfl rfl o240 rfl rfl ⟨rfl, ble rfl⟩ rfl rfl) fun M241 hM242 => ?_
   have o243 := set_ne hM242 ne237 o236
   have o244 := set_ne hM242 ne239 o238
   have o245 : M241[M218.length]? = some (.live ⟨.box, 27, 3, [[.str r229, .sl none (r230.map Item.c), .int .i64 r231]]⟩) := set_same hM242 o240
   obtain ⟨r425, hr426, h⟩ := bind_some h
   refine kx (mvO rfl) (Rn (hA h224 (hA h225 (hA h226 (hA h227 (hV (.loc M218.length 1 0 0) rfl (hN rfl hZ)))))) fun e246 h248 h249 h250 h251 h252 h253 => sN (sq (sq ?_)))
   clear h224 h225 h226 h227
   refine Ev.cut (Q1 := laws_FnAccounts_c2_Q r40 r41 r42 M30.length M181.length M218.length r425) (by
       have h := hr426
       refine Rg (kx (mvO h251) (kx (mvO h253) (kx (bNeq rfl rfl) (kx (mvO rfl) ?_))))
       rcases ite_some h with ⟨hb254, h⟩ | ⟨hb254, h⟩
       ·refine kx (gsF rfl hb254) (kx (gsF rfl hb254) (kx (pkT rfl hb254 rfl) (kx (mvO rfl) (kx (gsF rfl rfl) (kx (gsF rfl rfl) (kc (Ev.gsF rfl rfl) (kx (gsF rfl rfl) (kx (pkT rfl rfl rfl) (kx (mvO rfl) (kx (gsF rfl rfl) (kx (gsF rfl rfl) (kx (gsF rfl rfl) (kx (gsF rfl rfl) (kx (gsF rfl rfl) (kx (gsF rfl rfl) (kx (gsF rfl rfl) (kx (pkT rfl rfl rfl) (Rn (hA h248 (hV (.bool true) rfl hZ)) fun e255 h257 h258 => ?_))))))))))))))))))
        clear h248 h249 h250 h251 h252 h253
        obtain rfl := si h
        exact kd (show laws_FnAccounts_c2_Q r40 r41 r42 M30.length M181.length M218.length _ _ from ⟨rfl, h257, h258, o243⟩)
       refine kx (guF rfl hb254 (mvO h251)) (kx (guF rfl hb254 (bNeq rfl rfl)) (kx (pkF rfl hb254 rfl) (kx (mvO rfl) ?_)))
       rcases ite_some h with ⟨hb259, h⟩ | ⟨hb259, h⟩
       ·refine kx (gsF rfl hb259) (kx (gsF rfl hb259) (kc (Ev.gsF rfl hb259) (kx (gsF rfl hb259) (kx (pkT rfl hb259 rfl) (kx (mvO rfl) (kx (gsF rfl rfl) (kx (gsF rfl rfl) (kx (gsF rfl rfl) (kx (gsF rfl rfl) (kx (gsF rfl rfl) (kx (gsF rfl rfl) (kx (gsF rfl rfl) (kx (pkT rfl rfl rfl) (Rn (hA h248 (hV (.bool true) rfl hZ)) fun e260 h262 h263 => ?_))))))))))))))
        clear h248 h249 h250 h251 h252 h253
        obtain rfl := si h
        exact kd (show laws_FnAccounts_c2_Q r40 r41 r42 M30.length M181.length M218.length _ _ from ⟨rfl, h262, h263, o243⟩)
       obtain ⟨r265, hx264, h⟩ := bind_some h
       refine kx (guF rfl hb259 (ldOA h250 o244 rfl rfl (ble rfl) rfl)) (kx (guF rfl hb259 (ldOA h252 o245 rfl rfl (ble rfl) rfl)) (kc (Ev.guF rfl hb259 (cl (v := .bool r265) rfl rfl (cns rfl (cns rfl rfl)) rfl (spec_A2SameAccount_ok (Account.mk r208 r209 r210) (Account.mk r229 r230 r231) _ hx264) nm)) (kx (guF rfl hb259 (uNot rfl)) (kx (pkF rfl hb259 rfl) (kx (mvO rfl) ?_)))))
       rcases ite_some h with ⟨hb266, h⟩ | ⟨hb266, h⟩
       ·refine kx (guF rfl (congrArg Bool.not hb266) (faO h252 o245 rfl)) (kx (guF rfl (congrArg Bool.not hb266) (ldO rfl o245 rfl rfl rfl)) (kx (guF rfl (congrArg Bool.not hb266) (faO h248 o243 rfl)) (kx (guF rfl (congrArg Bool.not hb266) (ldO rfl o243 rfl rfl rfl)) (kx (guF rfl (congrArg Bool.not hb266) (mvO h249)) (kx (guF rfl (congrArg Bool.not hb266) (bAdd rfl rfl)) (kx (guF rfl (congrArg Bool.not hb266) (bNeq rfl rfl)) (kx (pkF rfl (congrArg Bool.not hb266) rfl) (Rn (hA h248 (hN rfl hZ)) fun e267 h269 h270 => ?_))))))))
        clear h248 h249 h250 h251 h252 h253
        obtain rfl := si h
        exact kd (show laws_FnAccounts_c2_Q r40 r41 r42 M30.length M181.length M218.length _ _ from ⟨rfl, h269, h270, o243⟩)
       refine kx (gsF rfl (congrArg Bool.not hb266)) (kx (gsF rfl (congrArg Bool.not hb266)) (kx (gsF rfl (congrArg Bool.not hb266)) (kx (gsF rfl (congrArg Bool.not hb266)) (kx (gsF rfl (congrArg Bool.not hb266)) (kx (gsF rfl (congrArg Bool.not hb266)) (kx (gsF rfl (congrArg Bool.not hb266)) (kx (pkT rfl (congrArg Bool.not hb266) rfl) (Rn (hA h248 (hV (.bool true) rfl hZ)) fun e271 h273 h274 => ?_))))))))
       clear h248 h249 h250 h251 h252 h253
       obtain rfl := si h
       exact kd (show laws_FnAccounts_c2_Q r40 r41 r42 M30.length M181.length M218.length _ _ from ⟨rfl, h273, h274, o243⟩)) ?_
   revert h hr426
   revert r425
   intro y277 hr426 h
   intro x e275 M276 hq424
   obtain ⟨rfl, h278, h279, o280⟩ := hq424
   refine sN ?_
   rcases ite_some h with ⟨hb281, h⟩ | ⟨hb281, h⟩
   ·refine cT h279 hb281 (sq (Rg (kx (mvO rfl) (Rn (hV (.bool false) rfl hZ) fun e282 h284 => sN (xx (sR ?_))))))
    clear h278 h279
    obtain rfl := si h
    exact eR (resT h284 res0) rfl
   refine cF h279 hb281 (xx (sN (sq (Rg (kx (faO h278 o280 rfl) (kx (ldO rfl o280 rfl rfl rfl) (kx (faO h278 o280 rfl) (kx (ldO rfl o280 rfl rfl rfl) (kx (uNeg rfl) (kx (bMax rfl rfl) (kx (mvO rfl) (Rn (hV (.loc M30.length 1 0 0) h278 (hN rfl hZ)) fun e285 h287 h288 => sN (sq (Rg (kx (mvO rfl) (Rn (hA h287 (hA h288 (hV (.int .i8 2) rfl hZ))) fun e289 h291 h292 h293 => sN (sq (sq (Rg (kx (faO h291 o280 rfl) (kx (ldO rfl o280 rfl rfl rfl) (kx (bLss rfl rfl) (Rn (hA h291 (hA h292 (hA h293 (hN rfl hZ)))) fun e294 h296 h297 h298 h299 => sN ?_)))))))))))))))))))))))
   clear h278 h279 h287 h288 h291 h292 h293
   rcases ite_some h with ⟨hb300, h⟩ | ⟨hb300, h⟩
   ·obtain ⟨⟨r307, r308, r309, r310⟩, hx306, h⟩ := bind_some h
    refine cT h299 hb300 (Rg (kx (mvO rfl) (Rn (hA h296 (hA h297 (hV (.int .i8 0) rfl hZ))) fun e301 h303 h304 h305 => sN (sq (Rg (kx (ldOA h303 o280 rfl rfl (ble rfl) rfl) (kx (mvO h305) (kx (mvO h304) (kx (bldT zero42 (cns (pr3 rfl) (cns (pr3 rfl) rfl)) (fill1 ⟨rfl, ble rfl⟩ rfl rfl (fill1 ⟨rfl, ble rfl⟩ rfl rfl (fill0 rfl)))) (kc (clW (v := .tup [.agg [.str r307, .sl none (r308.map Item.c), .int .i64 r309], .int .i64 r310]) rfl rfl (cns rfl (cns rfl rfl)) rfl (impl_AddItem_ok (Account.mk r40 r41 r42) (Item.mk 0 (max r42 (IntKind.i64.wrap (0 - r42)))) _ hx306) rfl) (kx (mvO rfl) (kx (exT rfl rfl) (kx (exT rfl rfl) (ku (alO zero27) fun M312 hM313 => ?_))))))))))))))
    clear h296 h297 h299
    have o314 := push_old hM313 o280
    have ne315 := ne_new o280
    have o316 : M312[M276.length]? = some (.live ⟨.box, 27, 3, [[.str ([] : List UInt8), .nils, .int .i64 0]]⟩) := push_new hM313
    refine kw (stO rfl rfl o316 rfl rfl ⟨rfl, ble rfl⟩ rfl rfl) fun M317 hM318 => ?_
    have o319 := set_ne hM318 ne315 o314
    have o320 : M317[M276.length]? = some (.live ⟨.box, 27, 3, [[.str r307, .sl none (r308.map Item.c), .int .i64 r309]]⟩) := set_same hM318 o316
    obtain ⟨⟨r327, r328⟩, hx326, h⟩ := bind_some h
    obtain ⟨⟨r336, r337⟩, hx335, h⟩ := bind_some h
    refine kx (mvO rfl) (Rn (hA h303 (hV (.loc M276.length 1 0 0) rfl (hN rfl hZ))) fun e321 h323 h324 h325 => sN (sq (Rg (kx (ldOA h324 o320 rfl rfl (ble rfl) rfl) (kc (cl (v := .tup [.bool r327, .int .i64 r328]) rfl rfl (cns rfl rfl) rfl (impl_IsQuit_ok (Account.mk r307 r308 r309) _ hx326) nm) (kx (mvO rfl) (kx (exT rfl rfl) (kx (exT rfl rfl) (kx (mvO rfl) (kx (mvO rfl) (Rn (hA h323 (hA h325 (hN rfl (hN rfl hZ)))) fun e329 h331 h332 h333 h334 => sN (sq (Rg (kx (ldOA h331 o319 rfl rfl (ble rfl) rfl) (kc (cl (v := .tup [.bool r336, .int .i64 r337]) rfl rfl (cns rfl rfl) rfl (impl_IsQuit_ok (Account.mk r40 r41 r42) _ hx335) nm) (kx (mvO rfl) (kx (exT rfl rfl) (kx (exT rfl rfl) (kx (mvO rfl) (kx (mvO rfl) (Rn (hA h331 (hA h332 (hA h333 (hA h334 (hN rfl (hN rfl hZ)))))) fun e338 h340 h341 h342 h343 h344 h345 => sN (sq (Rg (kx (mvO h341) (kx (bEql rfl rfl) (kx (mvO rfl) ?_))))))))))))))))))))))))))
    clear h303 h304 h305 h323 h324 h325 h331 h332 h333 h334
    rcases ite_some h with ⟨hb346, h⟩ | ⟨hb346, h⟩
    ·refine kx (guT rfl hb346 (mvO h343)) (kx (guT rfl hb346 (bEql rfl rfl)) (kx (pkT rfl hb346 rfl) (kx (mvO rfl) ?_)))
     rcases ite_some h with ⟨hb347, h⟩ | ⟨hb347, h⟩
     ·refine kx (guT rfl hb347 (mvO h342)) (kx (pkT rfl hb347 rfl) (kx (mvO rfl) ?_))
      rcases ite_some h with ⟨hb348, h⟩ | ⟨hb348, h⟩
      ·refine kx (guT rfl hb348 (mvO h345)) (kx (guT rfl hb348 (bEql rfl rfl)) (kx (pkT rfl hb348 rfl) (kx (mvO rfl) ?_)))
       rcases ite_some h with ⟨hb349, h⟩ | ⟨hb349, h⟩
       ·refine kx (guT rfl hb349 (mvO h344)) (kx (guT rfl hb349 (faO h340 o319 rfl)) (kx (guT rfl hb349 (ldO rfl o319 rfl rfl rfl)) (kx (guT rfl hb349 (bEql rfl rfl)) (kx (guT rfl hb349 (oEql (by kernel_rfl) rfl rfl)) (kx (pkT rfl hb349 rfl) (kx (mvO rfl) (Rn (hN rfl hZ) fun e350 h352 => sN (xx ?_))))))))
        clear h340 h341 h342 h343 h344 h345
        obtain rfl := si h
        exact eR (resT h352 res0) rfl
       refine kx (gsT rfl hb349) (kx (gsT rfl hb349) (kx (gsT rfl hb349) (kx (gsT rfl hb349) (kx (gsT rfl hb349) (kx (pkF rfl hb349 rfl) (kx (mvO rfl) (Rn (hV (.bool false) rfl hZ) fun e353 h355 => sN (xx ?_))))))))
       clear h340 h341 h342 h343 h344 h345
       obtain rfl := si h
       exact eR (resT h355 res0) rfl
      refine kx (gsT rfl hb348) (kx (gsT rfl hb348) (kx (pkF rfl hb348 rfl) (kx (mvO rfl) (kx (gsT rfl rfl) (kx (gsT rfl rfl) (kx (gsT rfl rfl) (kx (gsT rfl rfl) (kx (gsT rfl rfl) (kx (pkF rfl rfl rfl) (kx (mvO rfl) (Rn (hV (.bool false) rfl hZ) fun e356 h358 => sN (xx ?_))))))))))))
      clear h340 h341 h342 h343 h344 h345
      obtain rfl := si h
      exact eR (resT h358 res0) rfl
     refine kx (gsT rfl hb347) (kx (pkF rfl hb347 rfl) (kx (mvO rfl) (kx (gsT rfl rfl) (kx (gsT rfl rfl) (kx (pkF rfl rfl rfl) (kx (mvO rfl) (kx (gsT rfl rfl) (kx (gsT rfl rfl) (kx (gsT rfl rfl) (kx (gsT rfl rfl) (kx (gsT rfl rfl) (kx (pkF rfl rfl rfl) (kx (mvO rfl) (Rn (hV (.bool false) rfl hZ) fun e359 h361 => sN (xx ?_)))))))))))))))
     clear h340 h341 h342 h343 h344 h345
     obtain rfl := si h
     exact eR (resT h361 res0) rfl
    refine kx (gsT rfl hb346) (kx (gsT rfl hb346) (kx (pkF rfl hb346 rfl) (kx (mvO rfl) (kx (gsT rfl rfl) (kx (pkF rfl rfl rfl) (kx (mvO rfl) (kx (gsT rfl rfl) (kx (gsT rfl rfl) (kx (pkF rfl rfl rfl) (kx (mvO rfl) (kx (gsT rfl rfl) (kx (gsT rfl rfl) (kx (gsT rfl rfl) (kx (gsT rfl rfl) (kx (gsT rfl rfl) (kx (pkF rfl rfl rfl) (kx (mvO rfl) (Rn (hV (.bool false) rfl hZ) fun e362 h364 => sN (xx ?_)))))))))))))))))))
    clear h340 h341 h342 h343 h344 h345
    obtain rfl := si h
    exact eR (resT h364 res0) rfl
   obtain ⟨⟨r366, r367, r368, r369⟩, hx365, h⟩ := bind_some h
   refine cF h299 hb300 (xx (sN (sq (Rg (kx (ldOA h296 o280 rfl rfl (ble rfl) rfl) (kx (mvO h298) (kx (mvO h297) (kx (bldT zero42 (cns (pr3 rfl) (cns (pr3 rfl) rfl)) (fill1 ⟨rfl, ble rfl⟩ rfl rfl (fill1 ⟨rfl, ble rfl⟩ rfl rfl (fill0 rfl)))) (kc (clW (v := .tup [.agg [.str r366, .sl none (r367.map Item.c), .int .i64 r368], .int .i64 r369]) rfl rfl (cns rfl (cns rfl rfl)) rfl (impl_AddItem_ok (Account.mk r40 r41 r42) (Item.mk 2 (max r42 (IntKind.i64.wrap (0 - r42)))) _ hx365) rfl) (kx (mvO rfl) (kx (exT rfl rfl) (kx (exT rfl rfl) (ku (alO zero27) fun M371 hM372 => ?_)))))))))))))
   have o373 := push_old hM372 o280
   have ne374 := ne_new o280
   have o375 : M371[M276.length]? = some (.live ⟨.box, 27, 3, [[.str ([] : List UInt8), .nils, .int .i64 0]]⟩) := push_new hM372
   refine kw (stO rfl rfl o375 rfl rfl ⟨rfl, ble rfl⟩ rfl rfl) fun M376 hM377 => ?_
   have o378 := set_ne hM377 ne374 o373
   have o379 : M376[M276.length]? = some (.live ⟨.box, 27, 3, [[.str r366, .sl none (r367.map Item.c), .int .i64 r368]]⟩) := set_same hM377 o375
   obtain ⟨⟨r386, r387⟩, hx385, h⟩ := bind_some h
   obtain ⟨⟨r395, r396⟩, hx394, h⟩ := bind_some h
   refine kx (mvO rfl) (Rn (hA h296 (hV (.loc M276.length 1 0 0) rfl (hN rfl hZ))) fun e380 h382 h383 h384 => sN (sq (Rg (kx (ldOA h383 o379 rfl rfl (ble rfl) rfl) (kc (cl (v := .tup [.bool r386, .int .i64 r387]) rfl rfl (cns rfl rfl) rfl (impl_IsQuit_ok (Account.mk r366 r367 r368) _ hx385) nm) (kx (mvO rfl) (kx (exT rfl rfl) (kx (exT rfl rfl) (kx (mvO rfl) (kx (mvO rfl) (Rn (hA h382 (hA h384 (hN rfl (hN rfl hZ)))) fun e388 h390 h391 h392 h393 => sN (sq (Rg (kx (ldOA h390 o378 rfl rfl (ble rfl) rfl) (kc (cl (v := .tup [.bool r395, .int .i64 r396]) rfl rfl (cns rfl rfl) rfl (impl_IsQuit_ok (Account.mk r40 r41 r42) _ hx394) nm) (kx (mvO rfl) (kx (exT rfl rfl) (kx (exT rfl rfl) (kx (mvO rfl) (kx (mvO rfl) (Rn (hA h390 (hA h391 (hA h392 (hA h393 (hN rfl (hN rfl hZ)))))) fun e397 h399 h400 h401 h402 h403 h404 => sN (sq (Rg (kx (mvO h400) (kx (bEql rfl rfl) (kx (mvO rfl) ?_))))))))))))))))))))))))))
   clear h296 h297 h298 h299 h382 h383 h384 h390 h391 h392 h393
   rcases ite_some h with ⟨hb405, h⟩ | ⟨hb405, h⟩
   ·refine kx (guT rfl hb405 (mvO h402)) (kx (guT rfl hb405 (bEql rfl rfl)) (kx (pkT rfl hb405 rfl) (kx (mvO rfl) ?_)))
    rcases ite_some h with ⟨hb406, h⟩ | ⟨hb406, h⟩
    ·refine kx (guT rfl hb406 (mvO h401)) (kx (pkT rfl hb406 rfl) (kx (mvO rfl) ?_))
     rcases ite_some h with ⟨hb407, h⟩ | ⟨hb407, h⟩
     ·refine kx (guT rfl hb407 (mvO h404)) (kx (guT rfl hb407 (bEql rfl rfl)) (kx (pkT rfl hb407 rfl) (kx (mvO rfl) ?_)))
      rcases ite_some h with ⟨hb408, h⟩ | ⟨hb408, h⟩
      ·refine kx (guT rfl hb408 (mvO h403)) (kx (guT rfl hb408 (faO h399 o378 rfl)) (kx (guT rfl hb408 (ldO rfl o378 rfl rfl rfl)) (kx (guT rfl hb408 (bEql rfl rfl)) (kx (guT rfl hb408 (oEql (by kernel_rfl) rfl rfl)) (kx (pkT rfl hb408 rfl) (kx (mvO rfl) (Rn (hN rfl hZ) fun e409 h411 => sN (xx ?_))))))))
       clear h399 h400 h401 h402 h403 h404
       obtain rfl := si h
       exact eR (resT h411 res0) rfl
      refine kx (gsT rfl hb408) (kx (gsT rfl hb408) (kx (gsT rfl hb408) (kx (gsT rfl hb408) (kx (gsT rfl hb408) (kx (pkF rfl hb408 rfl) (kx (mvO rfl) (Rn (hV (.bool false) rfl hZ) fun e412 h414 => sN (xx ?_))))))))
      clear h399 h400 h401 h402 h403 h404
      obtain rfl := si h
      exact eR (resT h414 res0) rfl
     refine kx (gsT rfl hb407) (kx (gsT rfl hb407) (kx (pkF rfl hb407 rfl) (kx (mvO rfl) (kx (gsT rfl rfl) (kx (gsT rfl rfl) (kx (gsT rfl rfl) (kx (gsT rfl rfl) (kx (gsT rfl rfl) (kx (pkF rfl rfl rfl) (kx (mvO rfl) (Rn (hV (.bool false) rfl hZ) fun e415 h417 => sN (xx ?_))))))))))))
     clear h399 h400 h401 h402 h403 h404
     obtain rfl := si h
     exact eR (resT h417 res0) rfl
    refine kx (gsT rfl hb406) (kx (pkF rfl hb406 rfl) (kx (mvO rfl) (kx (gsT rfl rfl) (kx (gsT rfl rfl) (kx (pkF rfl rfl rfl) (kx (mvO rfl) (kx (gsT rfl rfl) (kx (gsT rfl rfl) (kx (gsT rfl rfl) (kx (gsT rfl rfl) (kx (gsT rfl rfl) (kx (pkF rfl rfl rfl) (kx (mvO rfl) (Rn (hV (.bool false) rfl hZ) fun e418 h420 => sN (xx ?_)))))))))))))))
    clear h399 h400 h401 h402 h403 h404
    obtain rfl := si h
    exact eR (resT h420 res0) rfl
   refine kx (gsT rfl hb405) (kx (gsT rfl hb405) (kx (pkF rfl hb405 rfl) (kx (mvO rfl) (kx (gsT rfl rfl) (kx (pkF rfl rfl rfl) (kx (mvO rfl) (kx (gsT rfl rfl) (kx (gsT rfl rfl) (kx (pkF rfl rfl rfl) (kx (mvO rfl) (kx (gsT rfl rfl) (kx (gsT rfl rfl) (kx (gsT rfl rfl) (kx (gsT rfl rfl) (kx (gsT rfl rfl) (kx (pkF rfl rfl rfl) (kx (mvO rfl) (Rn (hV (.bool false) rfl hZ) fun e421 h423 => sN (xx ?_)))))))))))))))))))
   clear h399 h400 h401 h402 h403 h404
   obtain rfl := si h
   exact eR (resT h423 res0) rfl
  refine kc (cl (v := .tup [.agg [.str ([] : List UInt8), .nils, .int .i64 0], .int .i64 r430]) rfl rfl (cns rfl (cns rfl rfl)) rfl (spec_MakeAccount_ok ([107, 101, 110, 116] : List UInt8) r17 _ hx39) nm) (kx (mvO rfl) (kx (exT rfl rfl) (kx (exT rfl rfl) (ku (alO zero27) fun M432 hM433 => ?_))))
  have o434 := push_old hM433 o32
  have ne435 := ne_new o32
  have o436 : M432[M30.length]? = some (.live ⟨.box, 27, 3, [[.str ([] : List UInt8), .nils, .int .i64 0]]⟩) := push_new hM433
  refine kw (stO rfl rfl o436 rfl rfl ⟨rfl, ble rfl⟩ rfl rfl) fun M437 hM438 => ?_
  have o439 := set_ne hM438 ne435 o434
  have o440 : M437[M30.length]? = some (.live ⟨.box, 27, 3, [[.str ([] : List UInt8), .nils, .int .i64 0]]⟩) := set_same hM438 o436
  obtain ⟨⟨r450, r451⟩, hx449, h⟩ := bind_some h
  obtain ⟨r463, hx462, h⟩ := bind_some h
  obtain ⟨⟨r465, r466, r467, r468⟩, hx464, h⟩ := bind_some h
  refine kx (mvO rfl) (Rn (hA h35 (hA h36 (hA h37 (hA h38 (hV (.loc M30.length 1 0 0) rfl (hN rfl hZ)))))) fun e441 h443 h444 h445 h446 h447 h448 => sN (sq (Rg (kx (mvO h444) (kc (cl (v := .tup [.int .i64 r450, .int .i64 r451]) rfl rfl (cns rfl rfl) rfl (impl_BalanceOf_ok r17 _ hx449) nm) (kx (mvO rfl) (kx (exT rfl rfl) (kx (exT rfl rfl) (kx (mvO rfl) (kx (mvO rfl) (Rn (hA h443 (hA h444 (hA h445 (hA h446 (hA h447 (hA h448 (hN rfl (hN rfl hZ)))))))) fun e452 h454 h455 h456 h457 h458 h459 h460 h461 => sN (sq (Rg (kx (ldOA h458 o440 rfl rfl (ble rfl) rfl) (kc (cl (v := .str r463) rfl rfl (cns rfl rfl) rfl (impl_AccountText_ok (Account.mk ([] : List UInt8) ([] : List Item) 0) _ hx462) nm) (kc (clW (v := .tup [.agg [.str r465, .sl none (r466.map Item.c), .int .i64 r467], .int .i64 r468]) rfl rfl (cns rfl rfl) rfl (impl_ReadAccount_ok r463 _ hx464) rfl) (kx (mvO rfl) (kx (exT rfl rfl) (kx (exT rfl rfl) (ku (alO zero27) fun M470 hM471 => ?_))))))))))))))))))))
  clear h35 h36 h37 h38 h443 h444 h445 h446 h447 h448
  have o472 := push_old hM471 o439
  have ne473 := ne_new o439
  have o474 := push_old hM471 o440
  have ne475 := ne_new o440
  have o476 : M470[M437.length]? = some (.live ⟨.box, 27, 3, [[.str ([] : List UInt8), .nils, .int .i64 0]]⟩) := push_new hM471
  refine kw (stO rfl rfl o476 rfl rfl ⟨rfl, ble rfl⟩ rfl rfl) fun M477 hM478 => ?_
  have o479 := set_ne hM478 ne473 o472
  have o480 := set_ne hM478 ne475 o474
  have o481 : M477[M437.length]? = some (.live ⟨.box, 27, 3, [[.str r465, .sl none (r466.map Item.c), .int .i64 r467]]⟩) := set_same hM478 o476
  obtain ⟨r757, hr758, h⟩ := bind_some h
  refine kx (mvO rfl) (Rn (hA h454 (hA h455 (hA h456 (hA h457 (hA h458 (hA h459 (hA h460 (hA h461 (hV (.loc M437.length 1 0 0) rfl (hN rfl hZ)))))))))) fun e482 h484 h485 h486 h487 h488 h489 h490 h491 h492 h493 => sN (sq (sq ?_)))
  clear h454 h455 h456 h457 h458 h459 h460 h461
  refine Ev.cut (Q1 := laws_FnAccounts_c3_Q a2 (([] : Mem).length) M30.length M437.length r757) (by
      have h := hr758
      refine Rg (kx (mvO h487) (kx (mvO h489) (kx (bNeq rfl rfl) (kx (mvO rfl) ?_))))
      rcases ite_some h with ⟨hb494, h⟩ | ⟨hb494, h⟩
      ·refine kx (gsF rfl hb494) (kx (gsF rfl hb494) (kx (pkT rfl hb494 rfl) (kx (mvO rfl) (kx (gsF rfl rfl) (kx (gsF rfl rfl) (kc (Ev.gsF rfl rfl) (kx (gsF rfl rfl) (kx (pkT rfl rfl rfl) (kx (mvO rfl) (kx (gsF rfl rfl) (kx (gsF rfl rfl) (kx (pkT rfl rfl rfl) (kx (mvO rfl) (kx (gsF rfl rfl) (kx (gsF rfl rfl) (kx (gsF rfl rfl) (kx (gsF rfl rfl) (kx (pkT rfl rfl rfl) (kx (mvO rfl) (kx (gsF rfl rfl) (kc (Ev.gsF rfl rfl) (kx (gsF rfl rfl) (kx (pkT rfl rfl rfl) (kx (mvO rfl) (kx (gsF rfl rfl) (kc (Ev.gsF rfl rfl) (kx (gsF rfl rfl) (kx (pkT rfl rfl rfl) (kx (mvO rfl) (kx (gsF rfl rfl) (kx (gsF rfl rfl) (kx (pkT rfl rfl rfl) (kx (mvO rfl) (kx (gsF rfl rfl) (kx (gsF rfl rfl) (kc (Ev.gsF rfl rfl) (kx (gsF rfl rfl) (kx (pkT rfl rfl rfl) (Rn (hA h484 (hA h488 (hV (.bool true) rfl hZ))) fun e495 h497 h498 h499 => ?_)))))))))))))))))))))))))))))))))))))))
       clear h484 h485 h486 h487 h488 h489 h490 h491 h492 h493
       obtain rfl := si h
       exact kd (show laws_FnAccounts_c3_Q a2 (([] : Mem).length) M30.length M437.length _ _ from ⟨rfl, h497, h498, h499, o480⟩)
      obtain ⟨r501, hx500, h⟩ := bind_some h
      refine kx (guF rfl hb494 (mvO h487)) (kx (guF rfl hb494 (bNeq rfl rfl)) (kx (pkF rfl hb494 rfl) (kx (mvO rfl) (kx (guF rfl rfl (ldOA h486 o479 rfl rfl (ble rfl) rfl)) (kx (guF rfl rfl (ldOA h488 o480 rfl rfl (ble rfl) rfl)) (kc (Ev.guF rfl rfl (cl (v := .bool r501) rfl rfl (cns rfl (cns rfl rfl)) rfl (spec_A2SameAccount_ok (Account.mk r23 r24 r25) (Account.mk ([] : List UInt8) ([] : List Item) 0) _ hx500) nm)) (kx (guF rfl rfl (uNot rfl)) (kx (pkF rfl rfl rfl) (kx (mvO rfl) ?_)))))))))
      rcases ite_some h with ⟨hb502, h⟩ | ⟨hb502, h⟩
      ·refine kx (guF rfl (congrArg Bool.not hb502) (mvO h491)) (kx (guF rfl (congrArg Bool.not hb502) (bNeq rfl rfl)) (kx (pkF rfl (congrArg Bool.not hb502) rfl) (kx (mvO rfl) ?_)))
       rcases ite_some h with ⟨hb503, h⟩ | ⟨hb503, h⟩
       ·refine kx (gsF rfl hb503) (kx (gsF rfl hb503) (kx (gsF rfl hb503) (kx (gsF rfl hb503) (kx (pkT rfl hb503 rfl) (kx (mvO rfl) (kx (gsF rfl rfl) (kc (Ev.gsF rfl rfl) (kx (gsF rfl rfl) (kx (pkT rfl rfl rfl) (kx (mvO rfl) (kx (gsF rfl rfl) (kc (Ev.gsF rfl rfl) (kx (gsF rfl rfl) (kx (pkT rfl rfl rfl) (kx (mvO rfl) (kx (gsF rfl rfl) (kx (gsF rfl rfl) (kx (pkT rfl rfl rfl) (kx (mvO rfl) (kx (gsF rfl rfl) (kx (gsF rfl rfl) (kc (Ev.gsF rfl rfl) (kx (gsF rfl rfl) (kx (pkT rfl rfl rfl) (Rn (hA h484 (hA h488 (hV (.bool true) rfl hZ))) fun e504 h506 h507 h508 => ?_)))))))))))))))))))))))))
        clear h484 h485 h486 h487 h488 h489 h490 h491 h492 h493
        obtain rfl := si h
        exact kd (show laws_FnAccounts_c3_Q a2 (([] : Mem).length) M30.length M437.length _ _ from ⟨rfl, h506, h507, h508, o480⟩)
       refine kx (guF rfl hb503 (mvO h490)) (kx (guF rfl hb503 (faO h488 o480 rfl)) (kx (guF rfl hb503 (ldO rfl o480 rfl rfl rfl)) (kx (guF rfl hb503 (bNeq rfl rfl)) (kx (pkF rfl hb503 rfl) (kx (mvO rfl) ?_)))))
       rcases ite_some h with ⟨hb509, h⟩ | ⟨hb509, h⟩
       ·refine kx (gsF rfl hb509) (kc (Ev.gsF rfl hb509) (kx (gsF rfl hb509) (kx (pkT rfl hb509 rfl) (kx (mvO rfl) (kx (gsF rfl rfl) (kc (Ev.gsF rfl rfl) (kx (gsF rfl rfl) (kx (pkT rfl rfl rfl) (kx (mvO rfl) (kx (gsF rfl rfl) (kx (gsF rfl rfl) (kx (pkT rfl rfl rfl) (kx (mvO rfl) (kx (gsF rfl rfl) (kx (gsF rfl rfl) (kc (Ev.gsF rfl rfl) (kx (gsF rfl rfl) (kx (pkT rfl rfl rfl) (Rn (hA h484 (hA h488 (hV (.bool true) rfl hZ))) fun e510 h512 h513 h514 => ?_)))))))))))))))))))
        clear h484 h485 h486 h487 h488 h489 h490 h491 h492 h493
        obtain rfl := si h
        exact kd (show laws_FnAccounts_c3_Q a2 (([] : Mem).length) M30.length M437.length _ _ from ⟨rfl, h512, h513, h514, o480⟩)
       obtain ⟨r516, hx515, h⟩ := bind_some h
       refine kx (guF rfl hb509 (ldOA h488 o480 rfl rfl (ble rfl) rfl)) (kc (Ev.guF rfl hb509 (cl (v := .bool r516) rfl rfl (cns rfl rfl) rfl (impl_CheckAccount_ok (Account.mk ([] : List UInt8) ([] : List Item) 0) _ hx515) nm)) (kx (guF rfl hb509 (uNot rfl)) (kx (pkF rfl hb509 rfl) (kx (mvO rfl) ?_))))
       rcases ite_some h with ⟨hb517, h⟩ | ⟨hb517, h⟩
       ·obtain ⟨r519, hx518, h⟩ := bind_some h
        refine kx (guF rfl (congrArg Bool.not hb517) (mvO h485)) (kc (Ev.guF rfl (congrArg Bool.not hb517) (cl (v := .bool r519) rfl rfl (cns rfl rfl) rfl (impl_ValidItems_ok r17 _ hx518) nm)) (kx (guF rfl (congrArg Bool.not hb517) (uNot rfl)) (kx (pkF rfl (congrArg Bool.not hb517) rfl) (kx (mvO rfl) ?_))))
        rcases ite_some h with ⟨hb520, h⟩ | ⟨hb520, h⟩
        ·refine kx (guF rfl (congrArg Bool.not hb520) (mvO h493)) (kx (guF rfl (congrArg Bool.not hb520) (bNeq rfl rfl)) (kx (pkF rfl (congrArg Bool.not hb520) rfl) (kx (mvO rfl) ?_)))
         rcases ite_some h with ⟨hb521, h⟩ | ⟨hb521, h⟩
         ·refine kx (gsF rfl hb521) (kx (gsF rfl hb521) (kc (Ev.gsF rfl hb521) (kx (gsF rfl hb521) (kx (pkT rfl hb521 rfl) (Rn (hA h484 (hA h488 (hV (.bool true) rfl hZ))) fun e522 h524 h525 h526 => ?_)))))
          clear h484 h485 h486 h487 h488 h489 h490 h491 h492 h493
          obtain rfl := si h
          exact kd (show laws_FnAccounts_c3_Q a2 (([] : Mem).length) M30.length M437.length _ _ from ⟨rfl, h524, h525, h526, o480⟩)
         obtain ⟨r528, hx527, h⟩ := bind_some h
         refine kx (guF rfl hb521 (ldOA h492 o481 rfl rfl (ble rfl) rfl)) (kx (guF rfl hb521 (ldOA h488 o480 rfl rfl (ble rfl) rfl)) (kc (Ev.guF rfl hb521 (cl (v := .bool r528) rfl rfl (cns rfl (cns rfl rfl)) rfl (spec_A2SameAccount_ok (Account.mk r465 r466 r467) (Account.mk ([] : List UInt8) ([] : List Item) 0) _ hx527) nm)) (kx (guF rfl hb521 (uNot rfl)) (kx (pkF rfl hb521 rfl) (Rn (hA h484 (hA h488 (hN rfl hZ))) fun e529 h531 h532 h533 => ?_)))))
         clear h484 h485 h486 h487 h488 h489 h490 h491 h492 h493
         obtain rfl := si h
         exact kd (show laws_FnAccounts_c3_Q a2 (([] : Mem).length) M30.length M437.length _ _ from ⟨rfl, h531, h532, h533, o480⟩)
        refine kx (gsF rfl (congrArg Bool.not hb520)) (kx (gsF rfl (congrArg Bool.not hb520)) (kx (pkT rfl (congrArg Bool.not hb520) rfl) (kx (mvO rfl) (kx (gsF rfl rfl) (kx (gsF rfl rfl) (kc (Ev.gsF rfl rfl) (kx (gsF rfl rfl) (kx (pkT rfl rfl rfl) (Rn (hA h484 (hA h488 (hV (.bool true) rfl hZ))) fun e534 h536 h537 h538 => ?_)))))))))
        clear h484 h485 h486 h487 h488 h489 h490 h491 h492 h493
        obtain rfl := si h
        exact kd (show laws_FnAccounts_c3_Q a2 (([] : Mem).length) M30.length M437.length _ _ from ⟨rfl, h536, h537, h538, o480⟩)
       refine kx (gsF rfl (congrArg Bool.not hb517)) (kc (Ev.gsF rfl (congrArg Bool.not hb517)) (kx (gsF rfl (congrArg Bool.not hb517)) (kx (pkT rfl (congrArg Bool.not hb517) rfl) (kx (mvO rfl) (kx (gsF rfl rfl) (kx (gsF rfl rfl) (kx (pkT rfl rfl rfl) (kx (mvO rfl) (kx (gsF rfl rfl) (kx (gsF rfl rfl) (kc (Ev.gsF rfl rfl) (kx (gsF rfl rfl) (kx (pkT rfl rfl rfl) (Rn (hA h484 (hA h488 (hV (.bool true) rfl hZ))) fun e539 h541 h542 h543 => ?_))))))))))))))
       clear h484 h485 h486 h487 h488 h489 h490 h491 h492 h493
       obtain rfl := si h
       exact kd (show laws_FnAccounts_c3_Q a2 (([] : Mem).length) M30.length M437.length _ _ from ⟨rfl, h541, h542, h543, o480⟩)
      refine kx (gsF rfl (congrArg Bool.not hb502)) (kx (gsF rfl (congrArg Bool.not hb502)) (kx (pkT rfl (congrArg Bool.not hb502) rfl) (kx (mvO rfl) (kx (gsF rfl rfl) (kx (gsF rfl rfl) (kx (gsF rfl rfl) (kx (gsF rfl rfl) (kx (pkT rfl rfl rfl) (kx (mvO rfl) (kx (gsF rfl rfl) (kc (Ev.gsF rfl rfl) (kx (gsF rfl rfl) (kx (pkT rfl rfl rfl) (kx (mvO rfl) (kx (gsF rfl rfl) (kc (Ev.gsF rfl rfl) (kx (gsF rfl rfl) (kx (pkT rfl rfl rfl) (kx (mvO rfl) (kx (gsF rfl rfl) (kx (gsF rfl rfl) (kx (pkT rfl rfl rfl) (kx (mvO rfl) (kx (gsF rfl rfl) (kx (gsF rfl rfl) (kc (Ev.gsF rfl rfl) (kx (gsF rfl rfl) (kx (pkT rfl rfl rfl) (Rn (hA h484 (hA h488 (hV (.bool true) rfl hZ))) fun e544 h546 h547 h548 => ?_)))))))))))))))))))))))))))))
      clear h484 h485 h486 h487 h488 h489 h490 h491 h492 h493
      obtain rfl := si h
      exact kd (show laws_FnAccounts_c3_Q a2 (([] : Mem).length) M30.length M437.length _ _ from ⟨rfl, h546, h547, h548, o480⟩)) ?_
  revert h hr758
  revert r757
  intro y551 hr758 h
  intro x e549 M550 hq756
  obtain ⟨rfl, h552, h553, h554, o555⟩ := hq756
  refine sN ?_
  rcases ite_some h with ⟨hb556, h⟩ | ⟨hb556, h⟩
  ·refine cT h554 hb556 (sq (Rg (kx (mvO rfl) (Rn (hV (.bool false) rfl hZ) fun e557 h559 => sN (xx (sR ?_))))))
   clear h552 h553 h554
   obtain rfl := si h
   exact eR (resT h559 res0) rfl
  refine cF h554 hb556 (xx (sN (sq (Rg (kx (ldOA h553 o555 rfl rfl (ble rfl) rfl) (ku (alO zero27) fun M561 hM562 => ?_))))))
  have o563 := push_old hM562 o555
  have ne564 := ne_new o555
  have o565 : M561[M550.length]? = some (.live ⟨.box, 27, 3, [[.str ([] : List UInt8), .nils, .int .i64 0]]⟩) := push_new hM562
  refine kw (stO rfl rfl o565 rfl rfl ⟨rfl, ble rfl⟩ rfl rfl) fun M566 hM567 => ?_
  have o568 := set_ne hM567 ne564 o563
  have o569 : M566[M550.length]? = some (.live ⟨.box, 27, 3, [[.str ([] : List UInt8), .nils, .int .i64 0]]⟩) := set_same hM567 o565
  refine Rn (hV (.sl none (a2.map (cI .u8))) h552 (hV (.loc M30.length 1 0 0) h553 (hV (.loc M550.length 1 0 0) rfl hZ))) fun e570 h572 h573 h574 => sN (sq (Rg (kx (faO h574 o569 rfl) (kx (ldO rfl o569 rfl rfl rfl) (kx (bAdd rfl rfl) (kx (faO h574 o569 rfl) (kw (stO rfl rfl o569 rfl rfl ⟨rfl, ble rfl⟩ rfl rfl) fun M575 hM576 => ?_)))))))
  clear h552 h553 h554
  have o577 := set_ne hM576 ne564 o568
  have o578 : M575[M550.length]? = some (.live ⟨.box, 27, 3, [[.str ([] : List UInt8), .nils, .int .i64 (IntKind.i64.wrap (0 + 1))]]⟩) := set_same hM576 o569
  obtain ⟨r585, hx584, h⟩ := bind_some h
  refine Rn (hA h572 (hA h573 (hA h574 hZ))) fun e579 h581 h582 h583 => sN (sq (sq (Rg (kx (ldOA h583 o578 rfl rfl (ble rfl) rfl) (kc (cl (v := .bool r585) rfl rfl (cns rfl rfl) rfl (impl_CheckAccount_ok (Account.mk ([] : List UInt8) ([] : List Item) (IntKind.i64.wrap (0 + 1))) _ hx584) nm) (Rn (hA h581 (hA h582 (hN rfl hZ))) fun e586 h588 h589 h590 => sN ?_))))))
  clear h572 h573 h574 h581 h582 h583
  rcases ite_some h with ⟨hb591, h⟩ | ⟨hb591, h⟩
  ·refine cT h590 hb591 (sq (Rg (kx (mvO rfl) (Rn (hV (.bool false) rfl hZ) fun e592 h594 => sN (xx (sR ?_))))))
   clear h588 h589 h590
   obtain rfl := si h
   exact eR (resT h594 res0) rfl
  obtain ⟨r596, hx595, h⟩ := bind_some h
  obtain ⟨⟨r602, r603, r604, r605⟩, hx601, h⟩ := bind_some h
  refine cF h590 hb591 (xx (sN (sq (Rg (kx (mvO h588) (kc (cl (v := .int .i64 r596) rfl rfl (cns rfl (cns rfl (cns rfl rfl))) rfl (laws_a2At_ok a2 0 100 _ hx595) nm) (kx (mvO rfl) (Rn (hA h589 (hN rfl hZ)) fun e597 h599 h600 => sN (sq (Rg (kx (ldOA h599 o577 rfl rfl (ble rfl) rfl) (kx (mvO h600) (kc (clW (v := .tup [.agg [.str r602, .sl none (r603.map Item.c), .int .i64 r604], .int .i64 r605]) rfl rfl (cns rfl (cns rfl rfl)) rfl (impl_NextYear_ok (Account.mk ([] : List UInt8) ([] : List Item) 0) r596 _ hx601) rfl) (kx (mvO rfl) (kx (exT rfl rfl) (kx (exT rfl rfl) (ku (alO zero27) fun M607 hM608 => ?_)))))))))))))))))
  clear h588 h589 h590
  have o609 := push_old hM608 o577
  have ne610 := ne_new o577
  have o611 : M607[M575.length]? = some (.live ⟨.box, 27, 3, [[.str ([] : List UInt8), .nils, .int .i64 0]]⟩) := push_new hM608
  refine kw (stO rfl rfl o611 rfl rfl ⟨rfl, ble rfl⟩ rfl rfl) fun M612 hM613 => ?_
  have o614 := set_ne hM613 ne610 o609
  have o615 : M612[M575.length]? = some (.live ⟨.box, 27, 3, [[.str r602, .sl none (r603.map Item.c), .int .i64 r604]]⟩) := set_same hM613 o611
  obtain ⟨⟨r623, r624, r625, r626⟩, hx622, h⟩ := bind_some h
  refine kx (mvO rfl) (Rn (hA h599 (hA h600 (hV (.loc M575.length 1 0 0) rfl (hN rfl hZ)))) fun e616 h618 h619 h620 h621 => sN (sq (Rg (kx (ldOA h618 o614 rfl rfl (ble rfl) rfl) (kx (mvO h619) (kc (clW (v := .tup [.agg [.str r623, .sl none (r624.map Item.c), .int .i64 r625], .int .i64 r626]) rfl rfl (cns rfl (cns rfl rfl)) rfl (spec_NextYear_ok (Account.mk ([] : List UInt8) ([] : List Item) 0) r596 _ hx622) rfl) (kx (mvO rfl) (kx (exT rfl rfl) (kx (exT rfl rfl) (ku (alO zero27) fun M628 hM629 => ?_))))))))))
  clear h599 h600
  have o630 := push_old hM629 o614
  have ne631 := ne_new o614
  have o632 := push_old hM629 o615
  have ne633 := ne_new o615
  have o634 : M628[M612.length]? = some (.live ⟨.box, 27, 3, [[.str ([] : List UInt8), .nils, .int .i64 0]]⟩) := push_new hM629
  refine kw (stO rfl rfl o634 rfl rfl ⟨rfl, ble rfl⟩ rfl rfl) fun M635 hM636 => ?_
  have o637 := set_ne hM636 ne631 o630
  have o638 := set_ne hM636 ne633 o632
  have o639 : M635[M612.length]? = some (.live ⟨.box, 27, 3, [[.str r623, .sl none (r624.map Item.c), .int .i64 r625]]⟩) := set_same hM636 o634
  obtain ⟨r754, hr755, h⟩ := bind_some h
  refine kx (mvO rfl) (Rn (hA h618 (hA h619 (hA h620 (hA h621 (hV (.loc M612.length 1 0 0) rfl (hN rfl hZ)))))) fun e640 h642 h643 h644 h645 h646 h647 => sN (sq (sq ?_)))
  clear h618 h619 h620 h621
  refine Ev.cut (Q1 := laws_FnAccounts_c4_Q M30.length M575.length M612.length r754) (by
      have h := hr755
      refine Rg (kx (mvO h645) (kx (mvO h647) (kx (bNeq rfl rfl) (kx (mvO rfl) ?_))))
      rcases ite_some h with ⟨hb648, h⟩ | ⟨hb648, h⟩
      ·refine kx (gsF rfl hb648) (kx (gsF rfl hb648) (kx (pkT rfl hb648 rfl) (kx (mvO rfl) (kx (gsF rfl rfl) (kx (gsF rfl rfl) (kc (Ev.gsF rfl rfl) (kx (gsF rfl rfl) (kx (pkT rfl rfl rfl) (kx (mvO rfl) (kx (gsF rfl rfl) (kx (gsF rfl rfl) (kx (gsF rfl rfl) (kx (gsF rfl rfl) (kx (gsF rfl rfl) (kx (gsF rfl rfl) (kx (gsF rfl rfl) (kx (pkT rfl rfl rfl) (Rn (hA h642 (hV (.bool true) rfl hZ)) fun e649 h651 h652 => ?_))))))))))))))))))
       clear h642 h643 h644 h645 h646 h647
       obtain rfl := si h
       exact kd (show laws_FnAccounts_c4_Q M30.length M575.length M612.length _ _ from ⟨rfl, h651, h652, o637⟩)
      refine kx (guF rfl hb648 (mvO h645)) (kx (guF rfl hb648 (bNeq rfl rfl)) (kx (pkF rfl hb648 rfl) (kx (mvO rfl) ?_)))
      rcases ite_some h with ⟨hb653, h⟩ | ⟨hb653, h⟩
      ·refine kx (gsF rfl hb653) (kx (gsF rfl hb653) (kc (Ev.gsF rfl hb653) (kx (gsF rfl hb653) (kx (pkT rfl hb653 rfl) (kx (mvO rfl) (kx (gsF rfl rfl) (kx (gsF rfl rfl) (kx (gsF rfl rfl) (kx (gsF rfl rfl) (kx (gsF rfl rfl) (kx (gsF rfl rfl) (kx (gsF rfl rfl) (kx (pkT rfl rfl rfl) (Rn (hA h642 (hV (.bool true) rfl hZ)) fun e654 h656 h657 => ?_))))))))))))))
       clear h642 h643 h644 h645 h646 h647
       obtain rfl := si h
       exact kd (show laws_FnAccounts_c4_Q M30.length M575.length M612.length _ _ from ⟨rfl, h656, h657, o637⟩)
      obtain ⟨r659, hx658, h⟩ := bind_some h
      refine kx (guF rfl hb653 (ldOA h644 o638 rfl rfl (ble rfl) rfl)) (kx (guF rfl hb653 (ldOA h646 o639 rfl rfl (ble rfl) rfl)) (kc (Ev.guF rfl hb653 (cl (v := .bool r659) rfl rfl (cns rfl (cns rfl rfl)) rfl (spec_A2SameAccount_ok (Account.mk r602 r603 r604) (Account.mk r623 r624 r625) _ hx658) nm)) (kx (guF rfl hb653 (uNot rfl)) (kx (pkF rfl hb653 rfl) (kx (mvO rfl) ?_)))))
      rcases ite_some h with ⟨hb660, h⟩ | ⟨hb660, h⟩
      ·refine kx (guF rfl (congrArg Bool.not hb660) (faO h646 o639 rfl)) (kx (guF rfl (congrArg Bool.not hb660) (ldO rfl o639 rfl rfl rfl)) (kx (guF rfl (congrArg Bool.not hb660) (faO h642 o637 rfl)) (kx (guF rfl (congrArg Bool.not hb660) (ldO rfl o637 rfl rfl rfl)) (kx (guF rfl (congrArg Bool.not hb660) (mvO h643)) (kx (guF rfl (congrArg Bool.not hb660) (bAdd rfl rfl)) (kx (guF rfl (congrArg Bool.not hb660) (bNeq rfl rfl)) (kx (pkF rfl (congrArg Bool.not hb660) rfl) (Rn (hA h642 (hN rfl hZ)) fun e661 h663 h664 => ?_))))))))
       clear h642 h643 h644 h645 h646 h647
       obtain rfl := si h
       exact kd (show laws_FnAccounts_c4_Q M30.length M575.length M612.length _ _ from ⟨rfl, h663, h664, o637⟩)
      refine kx (gsF rfl (congrArg Bool.not hb660)) (kx (gsF rfl (congrArg Bool.not hb660)) (kx (gsF rfl (congrArg Bool.not hb660)) (kx (gsF rfl (congrArg Bool.not hb660)) (kx (gsF rfl (congrArg Bool.not hb660)) (kx (gsF rfl (congrArg Bool.not hb660)) (kx (gsF rfl (congrArg Bool.not hb660)) (kx (pkT rfl (congrArg Bool.not hb660) rfl) (Rn (hA h642 (hV (.bool true) rfl hZ)) fun e665 h667 h668 => ?_))))))))
      clear h642 h643 h644 h645 h646 h647
      obtain rfl := si h
      exact kd (show laws_FnAccounts_c4_Q M30.length M575.length M612.length _ _ from ⟨rfl, h667, h668, o637⟩)) ?_
  revert h hr755
  revert r754
  intro y671 hr755 h
  intro x e669 M670 hq753
  obtain ⟨rfl, h672, h673, o674⟩ := hq753
  refine sN ?_
  rcases ite_some h with ⟨hb675, h⟩ | ⟨hb675, h⟩
  ·refine cT h673 hb675 (sq (Rg (kx (mvO rfl) (Rn (hV (.bool false) rfl hZ) fun e676 h678 => sN (xx (sR ?_))))))
   clear h672 h673
   obtain rfl := si h
   exact eR (resT h678 res0) rfl
  obtain ⟨⟨r695, r696, r697, r698⟩, hx694, h⟩ := bind_some h
  refine cF h673 hb675 (xx (sN (sq (Rg (kx (faO h672 o674 rfl) (kx (ldO rfl o674 rfl rfl rfl) (kx (faO h672 o674 rfl) (kx (ldO rfl o674 rfl rfl rfl) (kx (uNeg rfl) (kx (bMax rfl rfl) (kx (mvO rfl) (Rn (hV (.loc M30.length 1 0 0) h672 (hN rfl hZ)) fun e679 h681 h682 => sN (sq (Rg (kx (mvO rfl) (Rn (hA h681 (hA h682 (hV (.int .i8 2) rfl hZ))) fun e683 h685 h686 h687 => sN (sq (sq (Rg (kx (faO h685 o674 rfl) (kx (ldO rfl o674 rfl rfl rfl) (kx (bLss rfl rfl) (Rn (hA h685 (hA h686 (hA h687 (hV (.bool false) rfl hZ)))) fun e688 h690 h691 h692 h693 => sN (cF h693 rfl (xx (sN (sq (Rg (kx (ldOA h690 o674 rfl rfl (ble rfl) rfl) (kx (mvO h692) (kx (mvO h691) (kx (bldT zero42 (cns (pr3 rfl) (cns (pr3 rfl) rfl)) (fill1 ⟨rfl, ble rfl⟩ rfl rfl (fill1 ⟨rfl, ble rfl⟩ rfl rfl (fill0 rfl)))) (kc (clW (v := .tup [.agg [.str r695, .sl none (r696.map Item.c), .int .i64 r697], .int .i64 r698]) rfl rfl (cns rfl (cns rfl rfl)) rfl (impl_AddItem_ok (Account.mk ([] : List UInt8) ([] : List Item) 0) (Item.mk 2 (max 0 (IntKind.i64.wrap (0 - 0)))) _ hx694) rfl) (kx (mvO rfl) (kx (exT rfl rfl) (kx (exT rfl rfl) (ku (alO zero27) fun M700 hM701 => ?_)))))))))))))))))))))))))))))))))))))
  clear h672 h673 h681 h682 h685 h686 h687
  have o702 := push_old hM701 o674
  have ne703 := ne_new o674
  have o704 : M700[M670.length]? = some (.live ⟨.box, 27, 3, [[.str ([] : List UInt8), .nils, .int .i64 0]]⟩) := push_new hM701
  refine kw (stO rfl rfl o704 rfl rfl ⟨rfl, ble rfl⟩ rfl rfl) fun M705 hM706 => ?_
  have o707 := set_ne hM706 ne703 o702
  have o708 : M705[M670.length]? = some (.live ⟨.box, 27, 3, [[.str r695, .sl none (r696.map Item.c), .int .i64 r697]]⟩) := set_same hM706 o704
  obtain ⟨⟨r715, r716⟩, hx714, h⟩ := bind_some h
  obtain ⟨⟨r724, r725⟩, hx723, h⟩ := bind_some h
  refine kx (mvO rfl) (Rn (hA h690 (hV (.loc M670.length 1 0 0) rfl (hN rfl hZ))) fun e709 h711 h712 h713 => sN (sq (Rg (kx (ldOA h712 o708 rfl rfl (ble rfl) rfl) (kc (cl (v := .tup [.bool r715, .int .i64 r716]) rfl rfl (cns rfl rfl) rfl (impl_IsQuit_ok (Account.mk r695 r696 r697) _ hx714) nm) (kx (mvO rfl) (kx (exT rfl rfl) (kx (exT rfl rfl) (kx (mvO rfl) (kx (mvO rfl) (Rn (hA h711 (hA h713 (hN rfl (hN rfl hZ)))) fun e717 h719 h720 h721 h722 => sN (sq (Rg (kx (ldOA h719 o707 rfl rfl (ble rfl) rfl) (kc (cl (v := .tup [.bool r724, .int .i64 r725]) rfl rfl (cns rfl rfl) rfl (impl_IsQuit_ok (Account.mk ([] : List UInt8) ([] : List Item) 0) _ hx723) nm) (kx (mvO rfl) (kx (exT rfl rfl) (kx (exT rfl rfl) (kx (mvO rfl) (kx (mvO rfl) (Rn (hA h719 (hA h720 (hA h721 (hA h722 (hN rfl (hN rfl hZ)))))) fun e726 h728 h729 h730 h731 h732 h733 => sN (sq (Rg (kx (mvO h729) (kx (bEql rfl rfl) (kx (mvO rfl) ?_))))))))))))))))))))))))))
  clear h690 h691 h692 h693 h711 h712 h713 h719 h720 h721 h722
  rcases ite_some h with ⟨hb734, h⟩ | ⟨hb734, h⟩
  ·refine kx (guT rfl hb734 (mvO h731)) (kx (guT rfl hb734 (bEql rfl rfl)) (kx (pkT rfl hb734 rfl) (kx (mvO rfl) ?_)))
   rcases ite_some h with ⟨hb735, h⟩ | ⟨hb735, h⟩
   ·refine kx (guT rfl hb735 (mvO h730)) (kx (pkT rfl hb735 rfl) (kx (mvO rfl) ?_))
    rcases ite_some h with ⟨hb736, h⟩ | ⟨hb736, h⟩
    ·refine kx (guT rfl hb736 (mvO h733)) (kx (guT rfl hb736 (bEql rfl rfl)) (kx (pkT rfl hb736 rfl) (kx (mvO rfl) ?_)))
     rcases ite_some h with ⟨hb737, h⟩ | ⟨hb737, h⟩
     ·refine kx (guT rfl hb737 (mvO h732)) (kx (guT rfl hb737 (faO h728 o707 rfl)) (kx (guT rfl hb737 (ldO rfl o707 rfl rfl rfl)) (kx (guT rfl hb737 (bEql rfl rfl)) (kx (guT rfl hb737 (oEql (by kernel_rfl) rfl rfl)) (kx (pkT rfl hb737 rfl) (kx (mvO rfl) (Rn (hN rfl hZ) fun e738 h740 => sN (xx ?_))))))))
      clear h728 h729 h730 h731 h732 h733
      obtain rfl := si h
      exact eR (resT h740 res0) rfl
     refine kx (gsT rfl hb737) (kx (gsT rfl hb737) (kx (gsT rfl hb737) (kx (gsT rfl hb737) (kx (gsT rfl hb737) (kx (pkF rfl hb737 rfl) (kx (mvO rfl) (Rn (hV (.bool false) rfl hZ) fun e741 h743 => sN (xx ?_))))))))
     clear h728 h729 h730 h731 h732 h733
     obtain rfl := si h
     exact eR (resT h743 res0) rfl
    refine kx (gsT rfl hb736) (kx (gsT rfl hb736) (kx (pkF rfl hb736 rfl) (kx (mvO rfl) (kx (gsT rfl rfl) (kx (gsT rfl rfl) (kx (gsT rfl rfl) (kx (gsT rfl rfl) (kx (gsT rfl rfl) (kx (pkF rfl rfl rfl) (kx (mvO rfl) (Rn (hV (.bool false) rfl hZ) fun e744 h746 => sN (xx ?_))))))))))))
    clear h728 h729 h730 h731 h732 h733
    obtain rfl := si h
    exact eR (resT h746 res0) rfl
   refine kx (gsT rfl hb735) (kx (pkF rfl hb735 rfl) (kx (mvO rfl) (kx (gsT rfl rfl) (kx (gsT rfl rfl) (kx (pkF rfl rfl rfl) (kx (mvO rfl) (kx (gsT rfl rfl) (kx (gsT rfl rfl) (kx (gsT rfl rfl) (kx (gsT rfl rfl) (kx (gsT rfl rfl) (kx (pkF rfl rfl rfl) (kx (mvO rfl) (Rn (hV (.bool false) rfl hZ) fun e747 h749 => sN (xx ?_)))))))))))))))
   clear h728 h729 h730 h731 h732 h733
   obtain rfl := si h
   exact eR (resT h749 res0) rfl
  refine kx (gsT rfl hb734) (kx (gsT rfl hb734) (kx (pkF rfl hb734 rfl) (kx (mvO rfl) (kx (gsT rfl rfl) (kx (pkF rfl rfl rfl) (kx (mvO rfl) (kx (gsT rfl rfl) (kx (gsT rfl rfl) (kx (pkF rfl rfl rfl) (kx (mvO rfl) (kx (gsT rfl rfl) (kx (gsT rfl rfl) (kx (gsT rfl rfl) (kx (gsT rfl rfl) (kx (gsT rfl rfl) (kx (pkF rfl rfl rfl) (kx (mvO rfl) (Rn (hV (.bool false) rfl hZ) fun e750 h752 => sN (xx ?_)))))))))))))))))))
  clear h728 h729 h730 h731 h732 h733
  obtain rfl := si h
  exact eR (resT h752 res0) rfl
 refine kc (cl (v := .tup [.agg [.str ([] : List UInt8), .nils, .int .i64 0], .int .i64 r760]) rfl rfl (cns rfl (cns rfl rfl)) rfl (impl_MakeAccount_ok ([107, 101, 110, 116] : List UInt8) r17 _ hx22) nm) (kx (mvO rfl) (kx (exT rfl rfl) (kx (exT rfl rfl) (ku (alO zero27) fun M762 hM763 => ?_))))
 have o764 : M762[([] : Mem).length]? = some (.live ⟨.box, 27, 3, [[.str ([] : List UInt8), .nils, .int .i64 0]]⟩) := push_new hM763
 refine kw (stO rfl rfl o764 rfl rfl ⟨rfl, ble rfl⟩ rfl rfl) fun M765 hM766 => ?_
 have o767 : M765[([] : Mem).length]? = some (.live ⟨.box, 27, 3, [[.str ([] : List UInt8), .nils, .int .i64 0]]⟩) := set_same hM766 o764
 obtain ⟨q1506, hx774, h⟩ := bind_some h
 refine kx (mvO rfl) (Rn (hA h20 (hA h21 (hV (.loc ([] : Mem).length 1 0 0) rfl (hN rfl hZ)))) fun e768 h770 h771 h772 h773 => sN (sq (Rg (kx (mvO h771) ?_))))
 clear h20 h21
 rcases q1506 with ⟨r775, r776, r777⟩ | r1171
 ·refine kc (cl (v := .tup [.agg [.str r775, .sl (some 42) (r776.map Item.c), .int .i64 r777], .int .i64 0]) rfl rfl (cns rfl (cns rfl rfl)) rfl (spec_MakeAccount_ok ([107, 101, 110, 116] : List UInt8) r17 _ hx774) nm) (kx (mvO rfl) (kx (exT rfl rfl) (kx (exT rfl rfl) (ku (alO zero27) fun M779 hM780 => ?_))))
  have o781 := push_old hM780 o767
  have ne782 := ne_new o767
  have o783 : M779[M765.length]? = some (.live ⟨.box, 27, 3, [[.str ([] : List UInt8), .nils, .int .i64 0]]⟩) := push_new hM780
  refine kw (stO rfl rfl o783 rfl rfl ⟨rfl, ble rfl⟩ rfl rfl) fun M784 hM785 => ?_
  have o786 := set_ne hM785 ne782 o781
  have o787 : M784[M765.length]? = some (.live ⟨.box, 27, 3, [[.str r775, .sl none (r776.map Item.c), .int .i64 r777]]⟩) := set_same hM785 o783
  obtain ⟨⟨r797, r798⟩, hx796, h⟩ := bind_some h
  obtain ⟨r810, hx809, h⟩ := bind_some h
  obtain ⟨⟨r812, r813, r814, r815⟩, hx811, h⟩ := bind_some h
  refine kx (mvO rfl) (Rn (hA h770 (hA h771 (hA h772 (hA h773 (hV (.loc M765.length 1 0 0) rfl (hV (.int .i64 0) rfl hZ)))))) fun e788 h790 h791 h792 h793 h794 h795 => sN (sq (Rg (kx (mvO h791) (kc (cl (v := .tup [.int .i64 r797, .int .i64 r798]) rfl rfl (cns rfl rfl) rfl (impl_BalanceOf_ok r17 _ hx796) nm) (kx (mvO rfl) (kx (exT rfl rfl) (kx (exT rfl rfl) (kx (mvO rfl) (kx (mvO rfl) (Rn (hA h790 (hA h791 (hA h792 (hA h793 (hA h794 (hA h795 (hN rfl (hN rfl hZ)))))))) fun e799 h801 h802 h803 h804 h805 h806 h807 h808 => sN (sq (Rg (kx (ldOA h805 o787 rfl rfl (ble rfl) rfl) (kc (cl (v := .str r810) rfl rfl (cns rfl rfl) rfl (impl_AccountText_ok (Account.mk r775 r776 r777) _ hx809) nm) (kc (clW (v := .tup [.agg [.str r812, .sl none (r813.map Item.c), .int .i64 r814], .int .i64 r815]) rfl rfl (cns rfl rfl) rfl (impl_ReadAccount_ok r810 _ hx811) rfl) (kx (mvO rfl) (kx (exT rfl rfl) (kx (exT rfl rfl) (ku (alO zero27) fun M817 hM818 => ?_))))))))))))))))))))
  clear h770 h771 h772 h773 h790 h791 h792 h793 h794 h795
  have o819 := push_old hM818 o786
  have ne820 := ne_new o786
  have o821 := push_old hM818 o787
  have ne822 := ne_new o787
  have o823 : M817[M784.length]? = some (.live ⟨.box, 27, 3, [[.str ([] : List UInt8), .nils, .int .i64 0]]⟩) := push_new hM818
  refine kw (stO rfl rfl o823 rfl rfl ⟨rfl, ble rfl⟩ rfl rfl) fun M824 hM825 => ?_
  have o826 := set_ne hM825 ne820 o819
  have o827 := set_ne hM825 ne822 o821
  have o828 : M824[M784.length]? = some (.live ⟨.box, 27, 3, [[.str r812, .sl none (r813.map Item.c), .int .i64 r814]]⟩) := set_same hM825 o823
  obtain ⟨r1169, hr1170, h⟩ := bind_some h
  refine kx (mvO rfl) (Rn (hA h801 (hA h802 (hA h803 (hA h804 (hA h805 (hA h806 (hA h807 (hA h808 (hV (.loc M784.length 1 0 0) rfl (hN rfl hZ)))))))))) fun e829 h831 h832 h833 h834 h835 h836 h837 h838 h839 h840 => sN (sq (sq ?_)))
  clear h801 h802 h803 h804 h805 h806 h807 h808
  refine Ev.cut (Q1 := laws_FnAccounts_c5_Q a2 r775 r776 r777 (([] : Mem).length) M765.length M784.length r1169) (by
      have h := hr1170
      refine Rg (kx (mvO h834) (kx (mvO h836) (kx (bNeq rfl rfl) (kx (mvO rfl) ?_))))
      rcases ite_some h with ⟨hb841, h⟩ | ⟨hb841, h⟩
      ·refine kx (gsF rfl hb841) (kx (gsF rfl hb841) (kx (pkT rfl hb841 rfl) (kx (mvO rfl) (kx (gsF rfl rfl) (kx (gsF rfl rfl) (kc (Ev.gsF rfl rfl) (kx (gsF rfl rfl) (kx (pkT rfl rfl rfl) (kx (mvO rfl) (kx (gsF rfl rfl) (kx (gsF rfl rfl) (kx (pkT rfl rfl rfl) (kx (mvO rfl) (kx (gsF rfl rfl) (kx (gsF rfl rfl) (kx (gsF rfl rfl) (kx (gsF rfl rfl) (kx (pkT rfl rfl rfl) (kx (mvO rfl) (kx (gsF rfl rfl) (kc (Ev.gsF rfl rfl) (kx (gsF rfl rfl) (kx (pkT rfl rfl rfl) (kx (mvO rfl) (kx (gsF rfl rfl) (kc (Ev.gsF rfl rfl) (kx (gsF rfl rfl) (kx (pkT rfl rfl rfl) (kx (mvO rfl) (kx (gsF rfl rfl) (kx (gsF rfl rfl) (kx (pkT rfl rfl rfl) (kx (mvO rfl) (kx (gsF rfl rfl) (kx (gsF rfl rfl) (kc (Ev.gsF rfl rfl) (kx (gsF rfl rfl) (kx (pkT rfl rfl rfl) (Rn (hA h831 (hA h835 (hV (.bool true) rfl hZ))) fun e842 h844 h845 h846 => ?_)))))))))))))))))))))))))))))))))))))))
       clear h831 h832 h833 h834 h835 h836 h837 h838 h839 h840
       obtain rfl := si h
       exact kd (show laws_FnAccounts_c5_Q a2 r775 r776 r777 (([] : Mem).length) M765.length M784.length _ _ from ⟨rfl, h844, h845, h846, o827⟩)
      obtain ⟨r848, hx847, h⟩ := bind_some h
      refine kx (guF rfl hb841 (mvO h834)) (kx (guF rfl hb841 (bNeq rfl rfl)) (kx (pkF rfl hb841 rfl) (kx (mvO rfl) (kx (guF rfl hb841 (ldOA h833 o826 rfl rfl (ble rfl) rfl)) (kx (guF rfl hb841 (ldOA h835 o827 rfl rfl (ble rfl) rfl)) (kc (Ev.guF rfl hb841 (cl (v := .bool r848) rfl rfl (cns rfl (cns rfl rfl)) rfl (spec_A2SameAccount_ok (Account.mk ([] : List UInt8) ([] : List Item) 0) (Account.mk r775 r776 r777) _ hx847) nm)) (kx (guF rfl hb841 (uNot rfl)) (kx (pkF rfl hb841 rfl) (kx (mvO rfl) ?_)))))))))
      rcases ite_some h with ⟨hb849, h⟩ | ⟨hb849, h⟩
      ·refine kx (guF rfl (congrArg Bool.not hb849) (mvO h838)) (kx (guF rfl (congrArg Bool.not hb849) (bNeq rfl rfl)) (kx (pkF rfl (congrArg Bool.not hb849) rfl) (kx (mvO rfl) ?_)))
       rcases ite_some h with ⟨hb850, h⟩ | ⟨hb850, h⟩
       ·refine kx (gsF rfl hb850) (kx (gsF rfl hb850) (kx (gsF rfl hb850) (kx (gsF rfl hb850) (kx (pkT rfl hb850 rfl) (kx (mvO rfl) (kx (gsF rfl rfl) (kc (Ev.gsF rfl rfl) (kx (gsF rfl rfl) (kx (pkT rfl rfl rfl) (kx (mvO rfl) (kx (gsF rfl rfl) (kc (Ev.gsF rfl rfl) (kx (gsF rfl rfl) (kx (pkT rfl rfl rfl) (kx (mvO rfl) (kx (gsF rfl rfl) (kx (gsF rfl rfl) (kx (pkT rfl rfl rfl) (kx (mvO rfl) (kx (gsF rfl rfl) (kx (gsF rfl rfl) (kc (Ev.gsF rfl rfl) (kx (gsF rfl rfl) (kx (pkT rfl rfl rfl) (Rn (hA h831 (hA h835 (hV (.bool true) rfl hZ))) fun e851 h853 h854 h855 => ?_)))))))))))))))))))))))))
        clear h831 h832 h833 h834 h835 h836 h837 h838 h839 h840
        obtain rfl := si h
        exact kd (show laws_FnAccounts_c5_Q a2 r775 r776 r777 (([] : Mem).length) M765.length M784.length _ _ from ⟨rfl, h853, h854, h855, o827⟩)
       refine kx (guF rfl hb850 (mvO h837)) (kx (guF rfl hb850 (faO h835 o827 rfl)) (kx (guF rfl hb850 (ldO rfl o827 rfl rfl rfl)) (kx (guF rfl hb850 (bNeq rfl rfl)) (kx (pkF rfl hb850 rfl) (kx (mvO rfl) ?_)))))
       rcases ite_some h with ⟨hb856, h⟩ | ⟨hb856, h⟩
       ·refine kx (gsF rfl hb856) (kc (Ev.gsF rfl hb856) (kx (gsF rfl hb856) (kx (pkT rfl hb856 rfl) (kx (mvO rfl) (kx (gsF rfl rfl) (kc (Ev.gsF rfl rfl) (kx (gsF rfl rfl) (kx (pkT rfl rfl rfl) (kx (mvO rfl) (kx (gsF rfl rfl) (kx (gsF rfl rfl) (kx (pkT rfl rfl rfl) (kx (mvO rfl) (kx (gsF rfl rfl) (kx (gsF rfl rfl) (kc (Ev.gsF rfl rfl) (kx (gsF rfl rfl) (kx (pkT rfl rfl rfl) (Rn (hA h831 (hA h835 (hV (.bool true) rfl hZ))) fun e857 h859 h860 h861 => ?_)))))))))))))))))))
        clear h831 h832 h833 h834 h835 h836 h837 h838 h839 h840
        obtain rfl := si h
        exact kd (show laws_FnAccounts_c5_Q a2 r775 r776 r777 (([] : Mem).length) M765.length M784.length _ _ from ⟨rfl, h859, h860, h861, o827⟩)
       obtain ⟨r863, hx862, h⟩ := bind_some h
       refine kx (guF rfl hb856 (ldOA h835 o827 rfl rfl (ble rfl) rfl)) (kc (Ev.guF rfl hb856 (cl (v := .bool r863) rfl rfl (cns rfl rfl) rfl (impl_CheckAccount_ok (Account.mk r775 r776 r777) _ hx862) nm)) (kx (guF rfl hb856 (uNot rfl)) (kx (pkF rfl hb856 rfl) (kx (mvO rfl) ?_))))
       rcases ite_some h with ⟨hb864, h⟩ | ⟨hb864, h⟩
       ·obtain ⟨r866, hx865, h⟩ := bind_some h
        refine kx (guF rfl (congrArg Bool.not hb864) (mvO h832)) (kc (Ev.guF rfl (congrArg Bool.not hb864) (cl (v := .bool r866) rfl rfl (cns rfl rfl) rfl (impl_ValidItems_ok r17 _ hx865) nm)) (kx (guF rfl (congrArg Bool.not hb864) (uNot rfl)) (kx (pkF rfl (congrArg Bool.not hb864) rfl) (kx (mvO rfl) ?_))))
        rcases ite_some h with ⟨hb867, h⟩ | ⟨hb867, h⟩
        ·refine kx (guF rfl (congrArg Bool.not hb867) (mvO h840)) (kx (guF rfl (congrArg Bool.not hb867) (bNeq rfl rfl)) (kx (pkF rfl (congrArg Bool.not hb867) rfl) (kx (mvO rfl) ?_)))
         rcases ite_some h with ⟨hb868, h⟩ | ⟨hb868, h⟩
         ·refine kx (gsF rfl hb868) (kx (gsF rfl hb868) (kc (Ev.gsF rfl hb868) (kx (gsF rfl hb868) (kx (pkT rfl hb868 rfl) (Rn (hA h831 (hA h835 (hV (.bool true) rfl hZ))) fun e869 h871 h872 h873 => ?_)))))
          clear h831 h832 h833 h834 h835 h836 h837 h838 h839 h840
          obtain rfl := si h
          exact kd (show laws_FnAccounts_c5_Q a2 r775 r776 r777 (([] : Mem).length) M765.length M784.length _ _ from ⟨rfl, h871, h872, h873, o827⟩)
         obtain ⟨r875, hx874, h⟩ := bind_some h
         refine kx (guF rfl hb868 (ldOA h839 o828 rfl rfl (ble rfl) rfl)) (kx (guF rfl hb868 (ldOA h835 o827 rfl rfl (ble rfl) rfl)) (kc (Ev.guF rfl hb868 (cl (v := .bool r875) rfl rfl (cns rfl (cns rfl rfl)) rfl (spec_A2SameAccount_ok (Account.mk r812 r813 r814) (Account.mk r775 r776 r777) _ hx874) nm)) (kx (guF rfl hb868 (uNot rfl)) (kx (pkF rfl hb868 rfl) (Rn (hA h831 (hA h835 (hN rfl hZ))) fun e876 h878 h879 h880 => ?_)))))
         clear h831 h832 h833 h834 h835 h836 h837 h838 h839 h840
         obtain rfl := si h
         exact kd (show laws_FnAccounts_c5_Q a2 r775 r776 r777 (([] : Mem).length) M765.length M784.length _ _ from ⟨rfl, h878, h879, h880, o827⟩)
        refine kx (gsF rfl (congrArg Bool.not hb867)) (kx (gsF rfl (congrArg Bool.not hb867)) (kx (pkT rfl (congrArg Bool.not hb867) rfl) (kx (mvO rfl) (kx (gsF rfl rfl) (kx (gsF rfl rfl) (kc (Ev.gsF rfl rfl) (kx (gsF rfl rfl) (kx (pkT rfl rfl rfl) (Rn (hA h831 (hA h835 (hV (.bool true) rfl hZ))) fun e881 h883 h884 h885 => ?_)))))))))
        clear h831 h832 h833 h834 h835 h836 h837 h838 h839 h840
        obtain rfl := si h
        exact kd (show laws_FnAccounts_c5_Q a2 r775 r776 r777 (([] : Mem).length) M765.length M784.length _ _ from ⟨rfl, h883, h884, h885, o827⟩)
       refine kx (gsF rfl (congrArg Bool.not hb864)) (kc (Ev.gsF rfl (congrArg Bool.not hb864)) (kx (gsF rfl (congrArg Bool.not hb864)) (kx (pkT rfl (congrArg Bool.not hb864) rfl) (kx (mvO rfl) (kx (gsF rfl rfl) (kx (gsF rfl rfl) (kx (pkT rfl rfl rfl) (kx (mvO rfl) (kx (gsF rfl rfl) (kx (gsF rfl rfl) (kc (Ev.gsF rfl rfl) (kx (gsF rfl rfl) (kx (pkT rfl rfl rfl) (Rn (hA h831 (hA h835 (hV (.bool true) rfl hZ))) fun e886 h888 h889 h890 => ?_))))))))))))))
       clear h831 h832 h833 h834 h835 h836 h837 h838 h839 h840
       obtain rfl := si h
       exact kd (show laws_FnAccounts_c5_Q a2 r775 r776 r777 (([] : Mem).length) M765.length M784.length _ _ from ⟨rfl, h888, h889, h890, o827⟩)
      refine kx (gsF rfl (congrArg Bool.not hb849)) (kx (gsF rfl (congrArg Bool.not hb849)) (kx (pkT rfl (congrArg Bool.not hb849) rfl) (kx (mvO rfl) (kx (gsF rfl rfl) (kx (gsF rfl rfl) (kx (gsF rfl rfl) (kx (gsF rfl rfl) (kx (pkT rfl rfl rfl) (kx (mvO rfl) (kx (gsF rfl rfl) (kc (Ev.gsF rfl rfl) (kx (gsF rfl rfl) (kx (pkT rfl rfl rfl) (kx (mvO rfl) (kx (gsF rfl rfl) (kc (Ev.gsF rfl rfl) (kx (gsF rfl rfl) (kx (pkT rfl rfl rfl) (kx (mvO rfl) (kx (gsF rfl rfl) (kx (gsF rfl rfl) (kx (pkT rfl rfl rfl) (kx (mvO rfl) (kx (gsF rfl rfl) (kx (gsF rfl rfl) (kc (Ev.gsF rfl rfl) (kx (gsF rfl rfl) (kx (pkT rfl rfl rfl) (Rn (hA h831 (hA h835 (hV (.bool true) rfl hZ))) fun e891 h893 h894 h895 => ?_)))))))))))))))))))))))))))))
      clear h831 h832 h833 h834 h835 h836 h837 h838 h839 h840
      obtain rfl := si h
      exact kd (show laws_FnAccounts_c5_Q a2 r775 r776 r777 (([] : Mem).length) M765.length M784.length _ _ from ⟨rfl, h893, h894, h895, o827⟩)) ?_
  revert h hr1170
  revert r1169
  intro y898 hr1170 h
  intro x e896 M897 hq1168
  obtain ⟨rfl, h899, h900, h901, o902⟩ := hq1168
  refine sN ?_
  rcases ite_some h with ⟨hb903, h⟩ | ⟨hb903, h⟩
  ·refine cT h901 hb903 (sq (Rg (kx (mvO rfl) (Rn (hV (.bool false) rfl hZ) fun e904 h906 => sN (xx (sR ?_))))))
   clear h899 h900 h901
   obtain rfl := si h
   exact eR (resT h906 res0) rfl
  refine cF h901 hb903 (xx (sN (sq (Rg (kx (ldOA h900 o902 rfl rfl (ble rfl) rfl) (ku (alO zero27) fun M908 hM909 => ?_))))))
  have o910 := push_old hM909 o902
  have ne911 := ne_new o902
  have o912 : M908[M897.length]? = some (.live ⟨.box, 27, 3, [[.str ([] : List UInt8), .nils, .int .i64 0]]⟩) := push_new hM909
  refine kw (stO rfl rfl o912 rfl rfl ⟨rfl, ble rfl⟩ rfl rfl) fun M913 hM914 => ?_
  have o915 := set_ne hM914 ne911 o910
  have o916 : M913[M897.length]? = some (.live ⟨.box, 27, 3, [[.str r775, .sl none (r776.map Item.c), .int .i64 r777]]⟩) := set_same hM914 o912
  refine Rn (hV (.sl none (a2.map (cI .u8))) h899 (hV (.loc M765.length 1 0 0) h900 (hV (.loc M897.length 1 0 0) rfl hZ))) fun e917 h919 h920 h921 => sN (sq (Rg (kx (faO h921 o916 rfl) (kx (ldO rfl o916 rfl rfl rfl) (kx (bAdd rfl rfl) (kx (faO h921 o916 rfl) (kw (stO rfl rfl o916 rfl rfl ⟨rfl, ble rfl⟩ rfl rfl) fun M922 hM923 => ?_)))))))
  clear h899 h900 h901
  have o924 := set_ne hM923 ne911 o915
  have o925 : M922[M897.length]? = some (.live ⟨.box, 27, 3, [[.str r775, .sl none (r776.map Item.c), .int .i64 (IntKind.i64.wrap (r777 + 1))]]⟩) := set_same hM923 o916
  obtain ⟨r932, hx931, h⟩ := bind_some h
  refine Rn (hA h919 (hA h920 (hA h921 hZ))) fun e926 h928 h929 h930 => sN (sq (sq (Rg (kx (ldOA h930 o925 rfl rfl (ble rfl) rfl) (kc (cl (v := .bool r932) rfl rfl (cns rfl rfl) rfl (impl_CheckAccount_ok (Account.mk r775 r776 (IntKind.i64.wrap (r777 + 1))) _ hx931) nm) (Rn (hA h928 (hA h929 (hN rfl hZ))) fun e933 h935 h936 h937 => sN ?_))))))
  clear h919 h920 h921 h928 h929 h930
  rcases ite_some h with ⟨hb938, h⟩ | ⟨hb938, h⟩
  ·refine cT h937 hb938 (sq (Rg (kx (mvO rfl) (Rn (hV (.bool false) rfl hZ) fun e939 h941 => sN (xx (sR ?_))))))
   clear h935 h936 h937
   obtain rfl := si h
   exact eR (resT h941 res0) rfl
  obtain ⟨r943, hx942, h⟩ := bind_some h
  obtain ⟨⟨r949, r950, r951, r952⟩, hx948, h⟩ := bind_some h
  refine cF h937 hb938 (xx (sN (sq (Rg (kx (mvO h935) (kc (cl (v := .int .i64 r943) rfl rfl (cns rfl (cns rfl (cns rfl rfl))) rfl (laws_a2At_ok a2 0 100 _ hx942) nm) (kx (mvO rfl) (Rn (hA h936 (hN rfl hZ)) fun e944 h946 h947 => sN (sq (Rg (kx (ldOA h946 o924 rfl rfl (ble rfl) rfl) (kx (mvO h947) (kc (clW (v := .tup [.agg [.str r949, .sl none (r950.map Item.c), .int .i64 r951], .int .i64 r952]) rfl rfl (cns rfl (cns rfl rfl)) rfl (impl_NextYear_ok (Account.mk r775 r776 r777) r943 _ hx948) rfl) (kx (mvO rfl) (kx (exT rfl rfl) (kx (exT rfl rfl) (ku (alO zero27) fun M954 hM955 => ?_)))))))))))))))))
  clear h935 h936 h937
  have o956 := push_old hM955 o924
  have ne957 := ne_new o924
  have o958 : M954[M922.length]? = some (.live ⟨.box, 27, 3, [[.str ([] : List UInt8), .nils, .int .i64 0]]⟩) := push_new hM955
  refine kw (stO rfl rfl o958 rfl rfl ⟨rfl, ble rfl⟩ rfl rfl) fun M959 hM960 => ?_
  have o961 := set_ne hM960 ne957 o956
  have o962 : M959[M922.length]? = some (.live ⟨.box, 27, 3, [[.str r949, .sl none (r950.map Item.c), .int .i64 r951]]⟩) := set_same hM960 o958
  obtain ⟨⟨r970, r971, r972, r973⟩, hx969, h⟩ := bind_some h
  refine kx (mvO rfl) (Rn (hA h946 (hA h947 (hV (.loc M922.length 1 0 0) rfl (hN rfl hZ)))) fun e963 h965 h966 h967 h968 => sN (sq (Rg (kx (ldOA h965 o961 rfl rfl (ble rfl) rfl) (kx (mvO h966) (kc (clW (v := .tup [.agg [.str r970, .sl none (r971.map Item.c), .int .i64 r972], .int .i64 r973]) rfl rfl (cns rfl (cns rfl rfl)) rfl (spec_NextYear_ok (Account.mk r775 r776 r777) r943 _ hx969) rfl) (kx (mvO rfl) (kx (exT rfl rfl) (kx (exT rfl rfl) (ku (alO zero27) fun M975 hM976 => ?_))))))))))
  clear h946 h947
  have o977 := push_old hM976 o961
  have ne978 := ne_new o961
  have o979 := push_old hM976 o962
  have ne980 := ne_new o962
  have o981 : M975[M959.length]? = some (.live ⟨.box, 27, 3, [[.str ([] : List UInt8), .nils, .int .i64 0]]⟩) := push_new hM976
  refine kw (stO rfl rfl o981 rfl rfl ⟨rfl, ble rfl⟩ rfl rfl) fun M982 hM983 => ?_
  have o984 := set_ne hM983 ne978 o977
  have o985 := set_ne hM983 ne980 o979
  have o986 : M982[M959.length]? = some (.live ⟨.box, 27, 3, [[.str r970, .sl none (r971.map Item.c), .int .i64 r972]]⟩) := set_same hM983 o981
  obtain ⟨r1166, hr1167, h⟩ := bind_some h
  refine kx (mvO rfl) (Rn (hA h965 (hA h966 (hA h967 (hA h968 (hV (.loc M959.length 1 0 0) rfl (hN rfl hZ)))))) fun e987 h989 h990 h991 h992 h993 h994 => sN (sq (sq ?_)))
  clear h965 h966 h967 h968
  refine Ev.cut (Q1 := laws_FnAccounts_c6_Q r775 r776 r777 M765.length M922.length M959.length r1166) (by
      have h := hr1167
      refine Rg (kx (mvO h992) (kx (mvO h994) (kx (bNeq rfl rfl) (kx (mvO rfl) ?_))))
      rcases ite_some h with ⟨hb995, h⟩ | ⟨hb995, h⟩
      ·refine kx (gsF rfl hb995) (kx (gsF rfl hb995) (kx (pkT rfl hb995 rfl) (kx (mvO rfl) (kx (gsF rfl rfl) (kx (gsF rfl rfl) (kc (Ev.gsF rfl rfl) (kx (gsF rfl rfl) (kx (pkT rfl rfl rfl) (kx (mvO rfl) (kx (gsF rfl rfl) (kx (gsF rfl rfl) (kx (gsF rfl rfl) (kx (gsF rfl rfl) (kx (gsF rfl rfl) (kx (gsF rfl rfl) (kx (gsF rfl rfl) (kx (pkT rfl rfl rfl) (Rn (hA h989 (hV (.bool true) rfl hZ)) fun e996 h998 h999 => ?_))))))))))))))))))
       clear h989 h990 h991 h992 h993 h994
       obtain rfl := si h
       exact kd (show laws_FnAccounts_c6_Q r775 r776 r777 M765.length M922.length M959.length _ _ from ⟨rfl, h998, h999, o984⟩)
      refine kx (guF rfl hb995 (mvO h992)) (kx (guF rfl hb995 (bNeq rfl rfl)) (kx (pkF rfl hb995 rfl) (kx (mvO rfl) ?_)))
      rcases ite_some h with ⟨hb1000, h⟩ | ⟨hb1000, h⟩
      ·refine kx (gsF rfl hb1000) (kx (gsF rfl hb1000) (kc (Ev.gsF rfl hb1000) (kx (gsF rfl hb1000) (kx (pkT rfl hb1000 rfl) (kx (mvO rfl) (kx (gsF rfl rfl) (kx (gsF rfl rfl) (kx (gsF rfl rfl) (kx (gsF rfl rfl) (kx (gsF rfl rfl) (kx (gsF rfl rfl) (kx (gsF rfl rfl) (kx (pkT rfl rfl rfl) (Rn (hA h989 (hV (.bool true) rfl hZ)) fun e1001 h1003 h1004 => ?_))))))))))))))
       clear h989 h990 h991 h992 h993 h994
       obtain rfl := si h
       exact kd (show laws_FnAccounts_c6_Q r775 r776 r777 M765.length M922.length M959.length _ _ from ⟨rfl, h1003, h1004, o984⟩)
      obtain ⟨r1006, hx1005, h⟩ := bind_some h
      refine kx (guF rfl hb1000 (ldOA h991 o985 rfl rfl (ble rfl) rfl)) (kx (guF rfl hb1000 (ldOA h993 o986 rfl rfl (ble rfl) rfl)) (kc (Ev.guF rfl hb1000 (cl (v := .bool r1006) rfl rfl (cns rfl (cns rfl rfl)) rfl (spec_A2SameAccount_ok (Account.mk r949 r950 r951) (Account.mk r970 r971 r972) _ hx1005) nm)) (kx (guF rfl hb1000 (uNot rfl)) (kx (pkF rfl hb1000 rfl) (kx (mvO rfl) ?_)))))
      rcases ite_some h with ⟨hb1007, h⟩ | ⟨hb1007, h⟩
      ·refine kx (guF rfl (congrArg Bool.not hb1007) (faO h993 o986 rfl)) (kx (guF rfl (congrArg Bool.not hb1007) (ldO rfl o986 rfl rfl rfl)) (kx (guF rfl (congrArg Bool.not hb1007) (faO h989 o984 rfl)) (kx (guF rfl (congrArg Bool.not hb1007) (ldO rfl o984 rfl rfl rfl)) (kx (guF rfl (congrArg Bool.not hb1007) (mvO h990)) (kx (guF rfl (congrArg Bool.not hb1007) (bAdd rfl rfl)) (kx (guF rfl (congrArg Bool.not hb1007) (bNeq rfl rfl)) (kx (pkF rfl (congrArg Bool.not hb1007) rfl) (Rn (hA h989 (hN rfl hZ)) fun e1008 h1010 h1011 => ?_))))))))
       clear h989 h990 h991 h992 h993 h994
       obtain rfl := si h
       exact kd (show laws_FnAccounts_c6_Q r775 r776 r777 M765.length M922.length M959.length _ _ from ⟨rfl, h1010, h1011, o984⟩)
      refine kx (gsF rfl (congrArg Bool.not hb1007)) (kx (gsF rfl (congrArg Bool.not hb1007)) (kx (gsF rfl (congrArg Bool.not hb1007)) (kx (gsF rfl (congrArg Bool.not hb1007)) (kx (gsF rfl (congrArg Bool.not hb1007)) (kx (gsF rfl (congrArg Bool.not hb1007)) (kx (gsF rfl (congrArg Bool.not hb1007)) (kx (pkT rfl (congrArg Bool.not hb1007) rfl) (Rn (hA h989 (hV (.bool true) rfl hZ)) fun e1012 h1014 h1015 => ?_))))))))
      clear h989 h990 h991 h992 h993 h994
      obtain rfl := si h
      exact kd (show laws_FnAccounts_c6_Q r775 r776 r777 M765.length M922.length M959.length _ _ from ⟨rfl, h1014, h1015, o984⟩)) ?_
  revert h hr1167
  revert r1166
  intro y1018 hr1167 h
  intro x e1016 M1017 hq1165
  obtain ⟨rfl, h1019, h1020, o1021⟩ := hq1165
  refine sN ?_
  rcases ite_some h with ⟨hb1022, h⟩ | ⟨hb1022, h⟩
  ·refine cT h1020 hb1022 (sq (Rg (kx (mvO rfl) (Rn (hV (.bool false) rfl hZ) fun e1023 h1025 => sN (xx (sR ?_))))))
   clear h1019 h1020
   obtain rfl := si h
   exact eR (resT h1025 res0) rfl
  refine cF h1020 hb1022 (xx (sN (sq (Rg (kx (faO h1019 o1021 rfl) (kx (ldO rfl o1021 rfl rfl rfl) (kx (faO h1019 o1021 rfl) (kx (ldO rfl o1021 rfl rfl rfl) (kx (uNeg rfl) (kx (bMax rfl rfl) (kx (mvO rfl) (Rn (hV (.loc M765.length 1 0 0) h1019 (hN rfl hZ)) fun e1026 h1028 h1029 => sN (sq (Rg (kx (mvO rfl) (Rn (hA h1028 (hA h1029 (hV (.int .i8 2) rfl hZ))) fun e1030 h1032 h1033 h1034 => sN (sq (sq (Rg (kx (faO h1032 o1021 rfl) (kx (ldO rfl o1021 rfl rfl rfl) (kx (bLss rfl rfl) (Rn (hA h1032 (hA h1033 (hA h1034 (hN rfl hZ)))) fun e1035 h1037 h1038 h1039 h1040 => sN ?_)))))))))))))))))))))))
  clear h1019 h1020 h1028 h1029 h1032 h1033 h1034
  rcases ite_some h with ⟨hb1041, h⟩ | ⟨hb1041, h⟩
  ·obtain ⟨⟨r1048, r1049, r1050, r1051⟩, hx1047, h⟩ := bind_some h
   refine cT h1040 hb1041 (Rg (kx (mvO rfl) (Rn (hA h1037 (hA h1038 (hV (.int .i8 0) rfl hZ))) fun e1042 h1044 h1045 h1046 => sN (sq (Rg (kx (ldOA h1044 o1021 rfl rfl (ble rfl) rfl) (kx (mvO h1046) (kx (mvO h1045) (kx (bldT zero42 (cns (pr3 rfl) (cns (pr3 rfl) rfl)) (fill1 ⟨rfl, ble rfl⟩ rfl rfl (fill1 ⟨rfl, ble rfl⟩ rfl rfl (fill0 rfl)))) (kc (clW (v := .tup [.agg [.str r1048, .sl none (r1049.map Item.c), .int .i64 r1050], .int .i64 r1051]) rfl rfl (cns rfl (cns rfl rfl)) rfl (impl_AddItem_ok (Account.mk r775 r776 r777) (Item.mk 0 (max r777 (IntKind.i64.wrap (0 - r777)))) _ hx1047) rfl) (kx (mvO rfl) (kx (exT rfl rfl) (kx (exT rfl rfl) (ku (alO zero27) fun M1053 hM1054 => ?_))))))))))))))
   clear h1037 h1038 h1040
   have o1055 := push_old hM1054 o1021
   have ne1056 := ne_new o1021
   have o1057 : M1053[M1017.length]? = some (.live ⟨.box, 27, 3, [[.str ([] : List UInt8), .nils, .int .i64 0]]⟩) := push_new hM1054
   refine kw (stO rfl rfl o1057 rfl rfl ⟨rfl, ble rfl⟩ rfl rfl) fun M1058 hM1059 => ?_
   have o1060 := set_ne hM1059 ne1056 o1055
   have o1061 : M1058[M1017.length]? = some (.live ⟨.box, 27, 3, [[.str r1048, .sl none (r1049.map Item.c), .int .i64 r1050]]⟩) := set_same hM1059 o1057
   obtain ⟨⟨r1068, r1069⟩, hx1067, h⟩ := bind_some h
   obtain ⟨⟨r1077, r1078⟩, hx1076, h⟩ := bind_some h
   refine kx (mvO rfl) (Rn (hA h1044 (hV (.loc M1017.length 1 0 0) rfl (hN rfl hZ))) fun e1062 h1064 h1065 h1066 => sN (sq (Rg (kx (ldOA h1065 o1061 rfl rfl (ble rfl) rfl) (kc (cl (v := .tup [.bool r1068, .int .i64 r1069]) rfl rfl (cns rfl rfl) rfl (impl_IsQuit_ok (Account.mk r1048 r1049 r1050) _ hx1067) nm) (kx (mvO rfl) (kx (exT rfl rfl) (kx (exT rfl rfl) (kx (mvO rfl) (kx (mvO rfl) (Rn (hA h1064 (hA h1066 (hN rfl (hN rfl hZ)))) fun e1070 h1072 h1073 h1074 h1075 => sN (sq (Rg (kx (ldOA h1072 o1060 rfl rfl (ble rfl) rfl) (kc (cl (v := .tup [.bool r1077, .int .i64 r1078]) rfl rfl (cns rfl rfl) rfl (impl_IsQuit_ok (Account.mk r775 r776 r777) _ hx1076) nm) (kx (mvO rfl) (kx (exT rfl rfl) (kx (exT rfl rfl) (kx (mvO rfl) (kx (mvO rfl) (Rn (hA h1072 (hA h1073 (hA h1074 (hA h1075 (hN rfl (hN rfl hZ)))))) fun e1079 h1081 h1082 h1083 h1084 h1085 h1086 => sN (sq (Rg (kx (mvO h1082) (kx (bEql rfl rfl) (kx (mvO rfl) ?_))))))))))))))))))))))))))
   clear h1044 h1045 h1046 h1064 h1065 h1066 h1072 h1073 h1074 h1075
   rcases ite_some h with ⟨hb1087, h⟩ | ⟨hb1087, h⟩
   ·refine kx (guT rfl hb1087 (mvO h1084)) (kx (guT rfl hb1087 (bEql rfl rfl)) (kx (pkT rfl hb1087 rfl) (kx (mvO rfl) ?_)))
    rcases ite_some h with ⟨hb1088, h⟩ | ⟨hb1088, h⟩
    ·refine kx (guT rfl hb1088 (mvO h1083)) (kx (pkT rfl hb1088 rfl) (kx (mvO rfl) ?_))
     rcases ite_some h with ⟨hb1089, h⟩ | ⟨hb1089, h⟩
     ·refine kx (guT rfl hb1089 (mvO h1086)) (kx (guT rfl hb1089 (bEql rfl rfl)) (kx (pkT rfl hb1089 rfl) (kx (mvO rfl) ?_)))
      rcases ite_some h with ⟨hb1090, h⟩ | ⟨hb1090, h⟩
      ·refine kx (guT rfl hb1090 (mvO h1085)) (kx (guT rfl hb1090 (faO h1081 o1060 rfl)) (kx (guT rfl hb1090 (ldO rfl o1060 rfl rfl rfl)) (kx (guT rfl hb1090 (bEql rfl rfl)) (kx (guT rfl hb1090 (oEql (by kernel_rfl) rfl rfl)) (kx (pkT rfl hb1090 rfl) (kx (mvO rfl) (Rn (hN rfl hZ) fun e1091 h1093 => sN (xx ?_))))))))
       clear h1081 h1082 h1083 h1084 h1085 h1086
       obtain rfl := si h
       exact eR (resT h1093 res0) rfl
      refine kx (gsT rfl hb1090) (kx (gsT rfl hb1090) (kx (gsT rfl hb1090) (kx (gsT rfl hb1090) (kx (gsT rfl hb1090) (kx (pkF rfl hb1090 rfl) (kx (mvO rfl) (Rn (hV (.bool false) rfl hZ) fun e1094 h1096 => sN (xx ?_))))))))
      clear h1081 h1082 h1083 h1084 h1085 h1086
      obtain rfl := si h
      exact eR (resT h1096 res0) rfl
     refine kx (gsT rfl hb1089) (kx (gsT rfl hb1089) (kx (pkF rfl hb1089 rfl) (kx (mvO rfl) (kx (gsT rfl rfl) (kx (gsT rfl rfl) (kx (gsT rfl rfl) (kx (gsT rfl rfl) (kx (gsT rfl rfl) (kx (pkF rfl rfl rfl) (kx (mvO rfl) (Rn (hV (.bool false) rfl hZ) fun e1097 h1099 => sN (xx ?_))))))))))))
     clear h1081 h1082 h1083 h1084 h1085 h1086
     obtain rfl := si h
     exact eR (resT h1099 res0) rfl
    refine kx (gsT rfl hb1088) (kx (pkF rfl hb1088 rfl) (kx (mvO rfl) (kx (gsT rfl rfl) (kx (gsT rfl rfl) (kx (pkF rfl rfl rfl) (kx (mvO rfl) (kx (gsT rfl rfl) (kx (gsT rfl rfl) (kx (gsT rfl rfl) (kx (gsT rfl rfl) (kx (gsT rfl rfl) (kx (pkF rfl rfl rfl) (kx (mvO rfl) (Rn (hV (.bool false) rfl hZ) fun e1100 h1102 => sN (xx ?_)))))))))))))))
    clear h1081 h1082 h1083 h1084 h1085 h1086
    obtain rfl := si h
    exact eR (resT h1102 res0) rfl
   refine kx (gsT rfl hb1087) (kx (gsT rfl hb1087) (kx (pkF rfl hb1087 rfl) (kx (mvO rfl) (kx (gsT rfl rfl) (kx (pkF rfl rfl rfl) (kx (mvO rfl) (kx (gsT rfl rfl) (kx (gsT rfl rfl) (kx (pkF rfl rfl rfl) (kx (mvO rfl) (kx (gsT rfl rfl) (kx (gsT rfl rfl) (kx (gsT rfl rfl) (kx (gsT rfl rfl) (kx (gsT rfl rfl) (kx (pkF rfl rfl rfl) (kx (mvO rfl) (Rn (hV (.bool false) rfl hZ) fun e1103 h1105 => sN (xx ?_)))))))))))))))))))
   clear h1081 h1082 h1083 h1084 h1085 h1086
   obtain rfl := si h
   exact eR (resT h1105 res0) rfl
  obtain ⟨⟨r1107, r1108, r1109, r1110⟩, hx1106, h⟩ := bind_some h
  refine cF h1040 hb1041 (xx (sN (sq (Rg (kx (ldOA h1037 o1021 rfl rfl (ble rfl) rfl) (kx (mvO h1039) (kx (mvO h1038) (kx (bldT zero42 (cns (pr3 rfl) (cns (pr3 rfl) rfl)) (fill1 ⟨rfl, ble rfl⟩ rfl rfl (fill1 ⟨rfl, ble rfl⟩ rfl rfl (fill0 rfl)))) (kc (clW (v := .tup [.agg [.str r1107, .sl none (r1108.map Item.c), .int .i64 r1109], .int .i64 r1110]) rfl rfl (cns rfl (cns rfl rfl)) rfl (impl_AddItem_ok (Account.mk r775 r776 r777) (Item.mk 2 (max r777 (IntKind.i64.wrap (0 - r777)))) _ hx1106) rfl) (kx (mvO rfl) (kx (exT rfl rfl) (kx (exT rfl rfl) (ku (alO zero27) fun M1112 hM1113 => ?_)))))))))))))
  have o1114 := push_old hM1113 o1021
  have ne1115 := ne_new o1021
  have o1116 : M1112[M1017.length]? = some (.live ⟨.box, 27, 3, [[.str ([] : List UInt8), .nils, .int .i64 0]]⟩) := push_new hM1113
  refine kw (stO rfl rfl o1116 rfl rfl ⟨rfl, ble rfl⟩ rfl rfl) fun M1117 hM1118 => ?_
  have o1119 := set_ne hM1118 ne1115 o1114
  have o1120 : M1117[M1017.length]? = some (.live ⟨.box, 27, 3, [[.str r1107, .sl none (r1108.map Item.c), .int .i64 r1109]]⟩) := set_same hM1118 o1116
  obtain ⟨⟨r1127, r1128⟩, hx1126, h⟩ := bind_some h
  obtain ⟨⟨r1136, r1137⟩, hx1135, h⟩ := bind_some h
  refine kx (mvO rfl) (Rn (hA h1037 (hV (.loc M1017.length 1 0 0) rfl (hN rfl hZ))) fun e1121 h1123 h1124 h1125 => sN (sq (Rg (kx (ldOA h1124 o1120 rfl rfl (ble rfl) rfl) (kc (cl (v := .tup [.bool r1127, .int .i64 r1128]) rfl rfl (cns rfl rfl) rfl (impl_IsQuit_ok (Account.mk r1107 r1108 r1109) _ hx1126) nm) (kx (mvO rfl) (kx (exT rfl rfl) (kx (exT rfl rfl) (kx (mvO rfl) (kx (mvO rfl) (Rn (hA h1123 (hA h1125 (hN rfl (hN rfl hZ)))) fun e1129 h1131 h1132 h1133 h1134 => sN (sq (Rg (kx (ldOA h1131 o1119 rfl rfl (ble rfl) rfl) (kc (cl (v := .tup [.bool r1136, .int .i64 r1137]) rfl rfl (cns rfl rfl) rfl (impl_IsQuit_ok (Account.mk r775 r776 r777) _ hx1135) nm) (kx (mvO rfl) (kx (exT rfl rfl) (kx (exT rfl rfl) (kx (mvO rfl) (kx (mvO rfl) (Rn (hA h1131 (hA h1132 (hA h1133 (hA h1134 (hN rfl (hN rfl hZ)))))) fun e1138 h1140 h1141 h1142 h1143 h1144 h1145 => sN (sq (Rg (kx (mvO h1141) (kx (bEql rfl rfl) (kx (mvO rfl) ?_))))))))))))))))))))))))))
  clear h1037 h1038 h1039 h1040 h1123 h1124 h1125 h1131 h1132 h1133 h1134
  rcases ite_some h with ⟨hb1146, h⟩ | ⟨hb1146, h⟩
  ·refine kx (guT rfl hb1146 (mvO h1143)) (kx (guT rfl hb1146 (bEql rfl rfl)) (kx (pkT rfl hb1146 rfl) (kx (mvO rfl) ?_)))
   rcases ite_some h with ⟨hb1147, h⟩ | ⟨hb1147, h⟩
   ·refine kx (guT rfl hb1147 (mvO h1142)) (kx (pkT rfl hb1147 rfl) (kx (mvO rfl) ?_))
    rcases ite_some h with ⟨hb1148, h⟩ | ⟨hb1148, h⟩
    ·refine kx (guT rfl hb1148 (mvO h1145)) (kx (guT rfl hb1148 (bEql rfl rfl)) (kx (pkT rfl hb1148 rfl) (kx (mvO rfl) ?_)))
     rcases ite_some h with ⟨hb1149, h⟩ | ⟨hb1149, h⟩
     ·refine kx (guT rfl hb1149 (mvO h1144)) (kx (guT rfl hb1149 (faO h1140 o1119 rfl)) (kx (guT rfl hb1149 (ldO rfl o1119 rfl rfl rfl)) (kx (guT rfl hb1149 (bEql rfl rfl)) (kx (guT rfl hb1149 (oEql (by kernel_rfl) rfl rfl)) (kx (pkT rfl hb1149 rfl) (kx (mvO rfl) (Rn (hN rfl hZ) fun e1150 h1152 => sN (xx ?_))))))))
      clear h1140 h1141 h1142 h1143 h1144 h1145
      obtain rfl := si h
      exact eR (resT h1152 res0) rfl
     refine kx (gsT rfl hb1149) (kx (gsT rfl hb1149) (kx (gsT rfl hb1149) (kx (gsT rfl hb1149) (kx (gsT rfl hb1149) (kx (pkF rfl hb1149 rfl) (kx (mvO rfl) (Rn (hV (.bool false) rfl hZ) fun e1153 h1155 => sN (xx ?_))))))))
     clear h1140 h1141 h1142 h1143 h1144 h1145
     obtain rfl := si h
     exact eR (resT h1155 res0) rfl
    refine kx (gsT rfl hb1148) (kx (gsT rfl hb1148) (kx (pkF rfl hb1148 rfl) (kx (mvO rfl) (kx (gsT rfl rfl) (kx (gsT rfl rfl) (kx (gsT rfl rfl) (kx (gsT rfl rfl) (kx (gsT rfl rfl) (kx (pkF rfl rfl rfl) (kx (mvO rfl) (Rn (hV (.bool false) rfl hZ) fun e1156 h1158 => sN (xx ?_))))))))))))
    clear h1140 h1141 h1142 h1143 h1144 h1145
    obtain rfl := si h
    exact eR (resT h1158 res0) rfl
   refine kx (gsT rfl hb1147) (kx (pkF rfl hb1147 rfl) (kx (mvO rfl) (kx (gsT rfl rfl) (kx (gsT rfl rfl) (kx (pkF rfl rfl rfl) (kx (mvO rfl) (kx (gsT rfl rfl) (kx (gsT rfl rfl) (kx (gsT rfl rfl) (kx (gsT rfl rfl) (kx (gsT rfl rfl) (kx (pkF rfl rfl rfl) (kx (mvO rfl) (Rn (hV (.bool false) rfl hZ) fun e1159 h1161 => sN (xx ?_)))))))))))))))
   clear h1140 h1141 h1142 h1143 h1144 h1145
   obtain rfl := si h
   exact eR (resT h1161 res0) rfl
  refine kx (gsT rfl hb1146) (kx (gsT rfl hb1146) (kx (pkF rfl hb1146 rfl) (kx (mvO rfl) (kx (gsT rfl rfl) (kx (pkF rfl rfl rfl) (kx (mvO rfl) (kx (gsT rfl rfl) (kx (gsT rfl rfl) (kx (pkF rfl rfl rfl) (kx (mvO rfl) (kx (gsT rfl rfl) (kx (gsT rfl rfl) (kx (gsT rfl rfl) (kx (gsT rfl rfl) (kx (gsT rfl rfl) (kx (pkF rfl rfl rfl) (kx (mvO rfl) (Rn (hV (.bool false) rfl hZ) fun e1162 h1164 => sN (xx ?_)))))))))))))))))))
  clear h1140 h1141 h1142 h1143 h1144 h1145
  obtain rfl := si h
  exact eR (resT h1164 res0) rfl
 refine kc (cl (v := .tup [.agg [.str ([] : List UInt8), .nils, .int .i64 0], .int .i64 r1171]) rfl rfl (cns rfl (cns rfl rfl)) rfl (spec_MakeAccount_ok ([107, 101, 110, 116] : List UInt8) r17 _ hx774) nm) (kx (mvO rfl) (kx (exT rfl rfl) (kx (exT rfl rfl) (ku (alO zero27) fun M1173 hM1174 => ?_))))
 have o1175 := push_old hM1174 o767
 have ne1176 := ne_new o767
 have o1177 : M1173[M765.length]? = some (.live ⟨.box, 27, 3, [[.str ([] : List UInt8), .nils, .int .i64 0]]⟩) := push_new hM1174
 refine kw (stO rfl rfl o1177 rfl rfl ⟨rfl, ble rfl⟩ rfl rfl) fun M1178 hM1179 => ?_
 have o1180 := set_ne hM1179 ne1176 o1175
 have o1181 : M1178[M765.length]? = some (.live ⟨.box, 27, 3, [[.str ([] : List UInt8), .nils, .int .i64 0]]⟩) := set_same hM1179 o1177
 obtain ⟨⟨r1191, r1192⟩, hx1190, h⟩ := bind_some h
 obtain ⟨r1204, hx1203, h⟩ := bind_some h
 obtain ⟨⟨r1206, r1207, r1208, r1209⟩, hx1205, h⟩ := bind_some h
 refine kx (mvO rfl) (Rn (hA h770 (hA h771 (hA h772 (hA h773 (hV (.loc M765.length 1 0 0) rfl (hN rfl hZ)))))) fun e1182 h1184 h1185 h1186 h1187 h1188 h1189 => sN (sq (Rg (kx (mvO h1185) (kc (cl (v := .tup [.int .i64 r1191, .int .i64 r1192]) rfl rfl (cns rfl rfl) rfl (impl_BalanceOf_ok r17 _ hx1190) nm) (kx (mvO rfl) (kx (exT rfl rfl) (kx (exT rfl rfl) (kx (mvO rfl) (kx (mvO rfl) (Rn (hA h1184 (hA h1185 (hA h1186 (hA h1187 (hA h1188 (hA h1189 (hN rfl (hN rfl hZ)))))))) fun e1193 h1195 h1196 h1197 h1198 h1199 h1200 h1201 h1202 => sN (sq (Rg (kx (ldOA h1199 o1181 rfl rfl (ble rfl) rfl) (kc (cl (v := .str r1204) rfl rfl (cns rfl rfl) rfl (impl_AccountText_ok (Account.mk ([] : List UInt8) ([] : List Item) 0) _ hx1203) nm) (kc (clW (v := .tup [.agg [.str r1206, .sl none (r1207.map Item.c), .int .i64 r1208], .int .i64 r1209]) rfl rfl (cns rfl rfl) rfl (impl_ReadAccount_ok r1204 _ hx1205) rfl) (kx (mvO rfl) (kx (exT rfl rfl) (kx (exT rfl rfl) (ku (alO zero27) fun M1211 hM1212 => ?_))))))))))))))))))))
 clear h770 h771 h772 h773 h1184 h1185 h1186 h1187 h1188 h1189
 have o1213 := push_old hM1212 o1180
 have ne1214 := ne_new o1180
 have o1215 := push_old hM1212 o1181
 have ne1216 := ne_new o1181
 have o1217 : M1211[M1178.length]? = some (.live ⟨.box, 27, 3, [[.str ([] : List UInt8), .nils, .int .i64 0]]⟩) := push_new hM1212
 refine kw (stO rfl rfl o1217 rfl rfl ⟨rfl, ble rfl⟩ rfl rfl) fun M1218 hM1219 => ?_
 have o1220 := set_ne hM1219 ne1214 o1213
 have o1221 := set_ne hM1219 ne1216 o1215
 have o1222 : M1218[M1178.length]? = some (.live ⟨.box, 27, 3, [[.str r1206, .sl none (r1207.map Item.c), .int .i64 r1208]]⟩) := set_same hM1219 o1217
 obtain ⟨r1504, hr1505, h⟩ := bind_some h
 refine kx (mvO rfl) (Rn (hA h1195 (hA h1196 (hA h1197 (hA h1198 (hA h1199 (hA h1200 (hA h1201 (hA h1202 (hV (.loc M1178.length 1 0 0) rfl (hN rfl hZ)))))))))) fun e1223 h1225 h1226 h1227 h1228 h1229 h1230 h1231 h1232 h1233 h1234 => sN (sq (sq ?_)))
 clear h1195 h1196 h1197 h1198 h1199 h1200 h1201 h1202
 refine Ev.cut (Q1 := laws_FnAccounts_c7_Q a2 (([] : Mem).length) M765.length M1178.length r1504) (by
     have h := hr1505
     refine Rg (kx (mvO h1228) (kx (mvO h1230) (kx (bNeq rfl rfl) (kx (mvO rfl) ?_))))
     rcases ite_some h with ⟨hb1235, h⟩ | ⟨hb1235, h⟩
     ·refine kx (gsF rfl hb1235) (kx (gsF rfl hb1235) (kx (pkT rfl hb1235 rfl) (kx (mvO rfl) (kx (gsF rfl rfl) (kx (gsF rfl rfl) (kc (Ev.gsF rfl rfl) (kx (gsF rfl rfl) (kx (pkT rfl rfl rfl) (kx (mvO rfl) (kx (gsF rfl rfl) (kx (gsF rfl rfl) (kx (pkT rfl rfl rfl) (kx (mvO rfl) (kx (gsF rfl rfl) (kx (gsF rfl rfl) (kx (gsF rfl rfl) (kx (gsF rfl rfl) (kx (pkT rfl rfl rfl) (kx (mvO rfl) (kx (gsF rfl rfl) (kc (Ev.gsF rfl rfl) (kx (gsF rfl rfl) (kx (pkT rfl rfl rfl) (kx (mvO rfl) (kx (gsF rfl rfl) (kc (Ev.gsF rfl rfl) (kx (gsF rfl rfl) (kx (pkT rfl rfl rfl) (kx (mvO rfl) (kx (gsF rfl rfl) (kx (gsF rfl rfl) (kx (pkT rfl rfl rfl) (kx (mvO rfl) (kx (gsF rfl rfl) (kx (gsF rfl rfl) (kc (Ev.gsF rfl rfl) (kx (gsF rfl rfl) (kx (pkT rfl rfl rfl) (Rn (hA h1225 (hA h1229 (hV (.bool true) rfl hZ))) fun e1236 h1238 h1239 h1240 => ?_)))))))))))))))))))))))))))))))))))))))
      clear h1225 h1226 h1227 h1228 h1229 h1230 h1231 h1232 h1233 h1234
      obtain rfl := si h
      exact kd (show laws_FnAccounts_c7_Q a2 (([] : Mem).length) M765.length M1178.length _ _ from ⟨rfl, h1238, h1239, h1240, o1221⟩)
     refine kx (guF rfl hb1235 (mvO h1228)) (kx (guF rfl hb1235 (bNeq rfl rfl)) (kx (pkF rfl hb1235 rfl) (kx (mvO rfl) ?_)))
     rcases ite_some h with ⟨hb1241, h⟩ | ⟨hb1241, h⟩
     ·refine kx (gsF rfl hb1241) (kx (gsF rfl hb1241) (kc (Ev.gsF rfl hb1241) (kx (gsF rfl hb1241) (kx (pkT rfl hb1241 rfl) (kx (mvO rfl) (kx (gsF rfl rfl) (kx (gsF rfl rfl) (kx (pkT rfl rfl rfl) (kx (mvO rfl) (kx (gsF rfl rfl) (kx (gsF rfl rfl) (kx (gsF rfl rfl) (kx (gsF rfl rfl) (kx (pkT rfl rfl rfl) (kx (mvO rfl) (kx (gsF rfl rfl) (kc (Ev.gsF rfl rfl) (kx (gsF rfl rfl) (kx (pkT rfl rfl rfl) (kx (mvO rfl) (kx (gsF rfl rfl) (kc (Ev.gsF rfl rfl) (kx (gsF rfl rfl) (kx (pkT rfl rfl rfl) (kx (mvO rfl) (kx (gsF rfl rfl) (kx (gsF rfl rfl) (kx (pkT rfl rfl rfl) (kx (mvO rfl) (kx (gsF rfl rfl) (kx (gsF rfl rfl) (kc (Ev.gsF rfl rfl) (kx (gsF rfl rfl) (kx (pkT rfl rfl rfl) (Rn (hA h1225 (hA h1229 (hV (.bool true) rfl hZ))) fun e1242 h1244 h1245 h1246 => ?_)))))))))))))))))))))))))))))))))))
      clear h1225 h1226 h1227 h1228 h1229 h1230 h1231 h1232 h1233 h1234
      obtain rfl := si h
      exact kd (show laws_FnAccounts_c7_Q a2 (([] : Mem).length) M765.length M1178.length _ _ from ⟨rfl, h1244, h1245, h1246, o1221⟩)
     obtain ⟨r1248, hx1247, h⟩ := bind_some h
     refine kx (guF rfl hb1241 (ldOA h1227 o1220 rfl rfl (ble rfl) rfl)) (kx (guF rfl hb1241 (ldOA h1229 o1221 rfl rfl (ble rfl) rfl)) (kc (Ev.guF rfl hb1241 (cl (v := .bool r1248) rfl rfl (cns rfl (cns rfl rfl)) rfl (spec_A2SameAccount_ok (Account.mk ([] : List UInt8) ([] : List Item) 0) (Account.mk ([] : List UInt8) ([] : List Item) 0) _ hx1247) nm)) (kx (guF rfl hb1241 (uNot rfl)) (kx (pkF rfl hb1241 rfl) (kx (mvO rfl) ?_)))))
     rcases ite_some h with ⟨hb1249, h⟩ | ⟨hb1249, h⟩
     ·refine kx (guF rfl (congrArg Bool.not hb1249) (mvO h1232)) (kx (guF rfl (congrArg Bool.not hb1249) (bNeq rfl rfl)) (kx (pkF rfl (congrArg Bool.not hb1249) rfl) (kx (mvO rfl) ?_)))
      rcases ite_some h with ⟨hb1250, h⟩ | ⟨hb1250, h⟩
      ·refine kx (gsF rfl hb1250) (kx (gsF rfl hb1250) (kx (gsF rfl hb1250) (kx (gsF rfl hb1250) (kx (pkT rfl hb1250 rfl) (kx (mvO rfl) (kx (gsF rfl rfl) (kc (Ev.gsF rfl rfl) (kx (gsF rfl rfl) (kx (pkT rfl rfl rfl) (kx (mvO rfl) (kx (gsF rfl rfl) (kc (Ev.gsF rfl rfl) (kx (gsF rfl rfl) (kx (pkT rfl rfl rfl) (kx (mvO rfl) (kx (gsF rfl rfl) (kx (gsF rfl rfl) (kx (pkT rfl rfl rfl) (kx (mvO rfl) (kx (gsF rfl rfl) (kx (gsF rfl rfl) (kc (Ev.gsF rfl rfl) (kx (gsF rfl rfl) (kx (pkT rfl rfl rfl) (Rn (hA h1225 (hA h1229 (hV (.bool true) rfl hZ))) fun e1251 h1253 h1254 h1255 => ?_)))))))))))))))))))))))))
       clear h1225 h1226 h1227 h1228 h1229 h1230 h1231 h1232 h1233 h1234
       obtain rfl := si h
       exact kd (show laws_FnAccounts_c7_Q a2 (([] : Mem).length) M765.length M1178.length _ _ from ⟨rfl, h1253, h1254, h1255, o1221⟩)
      refine kx (guF rfl hb1250 (mvO h1231)) (kx (guF rfl hb1250 (faO h1229 o1221 rfl)) (kx (guF rfl hb1250 (ldO rfl o1221 rfl rfl rfl)) (kx (guF rfl hb1250 (bNeq rfl rfl)) (kx (pkF rfl hb1250 rfl) (kx (mvO rfl) ?_)))))
      rcases ite_some h with ⟨hb1256, h⟩ | ⟨hb1256, h⟩
      ·refine kx (gsF rfl hb1256) (kc (Ev.gsF rfl hb1256) (kx (gsF rfl hb1256) (kx (pkT rfl hb1256 rfl) (kx (mvO rfl) (kx (gsF rfl rfl) (kc (Ev.gsF rfl rfl) (kx (gsF rfl rfl) (kx (pkT rfl rfl rfl) (kx (mvO rfl) (kx (gsF rfl rfl) (kx (gsF rfl rfl) (kx (pkT rfl rfl rfl) (kx (mvO rfl) (kx (gsF rfl rfl) (kx (gsF rfl rfl) (kc (Ev.gsF rfl rfl) (kx (gsF rfl rfl) (kx (pkT rfl rfl rfl) (Rn (hA h1225 (hA h1229 (hV (.bool true) rfl hZ))) fun e1257 h1259 h1260 h1261 => ?_)))))))))))))))))))
       clear h1225 h1226 h1227 h1228 h1229 h1230 h1231 h1232 h1233 h1234
       obtain rfl := si h
       exact kd (show laws_FnAccounts_c7_Q a2 (([] : Mem).length) M765.length M1178.length _ _ from ⟨rfl, h1259, h1260, h1261, o1221⟩)
      obtain ⟨r1263, hx1262, h⟩ := bind_some h
      refine kx (guF rfl hb1256 (ldOA h1229 o1221 rfl rfl (ble rfl) rfl)) (kc (Ev.guF rfl hb1256 (cl (v := .bool r1263) rfl rfl (cns rfl rfl) rfl (impl_CheckAccount_ok (Account.mk ([] : List UInt8) ([] : List Item) 0) _ hx1262) nm)) (kx (guF rfl hb1256 (uNot rfl)) (kx (pkF rfl hb1256 rfl) (kx (mvO rfl) ?_))))
      rcases ite_some h with ⟨hb1264, h⟩ | ⟨hb1264, h⟩
      ·obtain ⟨r1266, hx1265, h⟩ := bind_some h
       refine kx (guF rfl (congrArg Bool.not hb1264) (mvO h1226)) (kc (Ev.guF rfl (congrArg Bool.not hb1264) (cl (v := .bool r1266) rfl rfl (cns rfl rfl) rfl (impl_ValidItems_ok r17 _ hx1265) nm)) (kx (guF rfl (congrArg Bool.not hb1264) (uNot rfl)) (kx (pkF rfl (congrArg Bool.not hb1264) rfl) (kx (mvO rfl) ?_))))
       rcases ite_some h with ⟨hb1267, h⟩ | ⟨hb1267, h⟩
       ·refine kx (guF rfl (congrArg Bool.not hb1267) (mvO h1234)) (kx (guF rfl (congrArg Bool.not hb1267) (bNeq rfl rfl)) (kx (pkF rfl (congrArg Bool.not hb1267) rfl) (kx (mvO rfl) ?_)))
        rcases ite_some h with ⟨hb1268, h⟩ | ⟨hb1268, h⟩
        ·refine kx (gsF rfl hb1268) (kx (gsF rfl hb1268) (kc (Ev.gsF rfl hb1268) (kx (gsF rfl hb1268) (kx (pkT rfl hb1268 rfl) (Rn (hA h1225 (hA h1229 (hV (.bool true) rfl hZ))) fun e1269 h1271 h1272 h1273 => ?_)))))
         clear h1225 h1226 h1227 h1228 h1229 h1230 h1231 h1232 h1233 h1234
         obtain rfl := si h
         exact kd (show laws_FnAccounts_c7_Q a2 (([] : Mem).length) M765.length M1178.length _ _ from ⟨rfl, h1271, h1272, h1273, o1221⟩)
        obtain ⟨r1275, hx1274, h⟩ := bind_some h
        refine kx (guF rfl hb1268 (ldOA h1233 o1222 rfl rfl (ble rfl) rfl)) (kx (guF rfl hb1268 (ldOA h1229 o1221 rfl rfl (ble rfl) rfl)) (kc (Ev.guF rfl hb1268 (cl (v := .bool r1275) rfl rfl (cns rfl (cns rfl rfl)) rfl (spec_A2SameAccount_ok (Account.mk r1206 r1207 r1208) (Account.mk ([] : List UInt8) ([] : List Item) 0) _ hx1274) nm)) (kx (guF rfl hb1268 (uNot rfl)) (kx (pkF rfl hb1268 rfl) (Rn (hA h1225 (hA h1229 (hN rfl hZ))) fun e1276 h1278 h1279 h1280 => ?_)))))
        clear h1225 h1226 h1227 h1228 h1229 h1230 h1231 h1232 h1233 h1234
        obtain rfl := si h
        exact kd (show laws_FnAccounts_c7_Q a2 (([] : Mem).length) M765.length M1178.length _ _ from ⟨rfl, h1278, h1279, h1280, o1221⟩)
       refine kx (gsF rfl (congrArg Bool.not hb1267)) (kx (gsF rfl (congrArg Bool.not hb1267)) (kx (pkT rfl (congrArg Bool.not hb1267) rfl) (kx (mvO rfl) (kx (gsF rfl rfl) (kx (gsF rfl rfl) (kc (Ev.gsF rfl rfl) (kx (gsF rfl rfl) (kx (pkT rfl rfl rfl) (Rn (hA h1225 (hA h1229 (hV (.bool true) rfl hZ))) fun e1281 h1283 h1284 h1285 => ?_)))))))))
       clear h1225 h1226 h1227 h1228 h1229 h1230 h1231 h1232 h1233 h1234
       obtain rfl := si h
       exact kd (show laws_FnAccounts_c7_Q a2 (([] : Mem).length) M765.length M1178.length _ _ from ⟨rfl, h1283, h1284, h1285, o1221⟩)
      refine kx (gsF rfl (congrArg Bool.not hb1264)) (kc (Ev.gsF rfl (congrArg Bool.not hb1264)) (kx (gsF rfl (congrArg Bool.not hb1264)) (kx (pkT rfl (congrArg Bool.not hb1264) rfl) (kx (mvO rfl) (kx (gsF rfl rfl) (kx (gsF rfl rfl) (kx (pkT rfl rfl rfl) (kx (mvO rfl) (kx (gsF rfl rfl) (kx (gsF rfl rfl) (kc (Ev.gsF rfl rfl) (kx (gsF rfl rfl) (kx (pkT rfl rfl rfl) (Rn (hA h1225 (hA h1229 (hV (.bool true) rfl hZ))) fun e1286 h1288 h1289 h1290 => ?_))))))))))))))
      clear h1225 h1226 h1227 h1228 h1229 h1230 h1231 h1232 h1233 h1234
      obtain rfl := si h
      exact kd (show laws_FnAccounts_c7_Q a2 (([] : Mem).length) M765.length M1178.length _ _ from ⟨rfl, h1288, h1289, h1290, o1221⟩)
     refine kx (gsF rfl (congrArg Bool.not hb1249)) (kx (gsF rfl (congrArg Bool.not hb1249)) (kx (pkT rfl (congrArg Bool.not hb1249) rfl) (kx (mvO rfl) (kx (gsF rfl rfl) (kx (gsF rfl rfl) (kx (gsF rfl rfl) (kx (gsF rfl rfl) (kx (pkT rfl rfl rfl) (kx (mvO rfl) (kx (gsF rfl rfl) (kc (Ev.gsF rfl rfl) (kx (gsF rfl rfl) (kx (pkT rfl rfl rfl) (kx (mvO rfl) (kx (gsF rfl rfl) (kc (Ev.gsF rfl rfl) (kx (gsF rfl rfl) (kx (pkT rfl rfl rfl) (kx (mvO rfl) (kx (gsF rfl rfl) (kx (gsF rfl rfl) (kx (pkT rfl rfl rfl) (kx (mvO rfl) (kx (gsF rfl rfl) (kx (gsF rfl rfl) (kc (Ev.gsF rfl rfl) (kx (gsF rfl rfl) (kx (pkT rfl rfl rfl) (Rn (hA h1225 (hA h1229 (hV (.bool true) rfl hZ))) fun e1291 h1293 h1294 h1295 => ?_)))))))))))))))))))))))))))))
     clear h1225 h1226 h1227 h1228 h1229 h1230 h1231 h1232 h1233 h1234
     obtain rfl := si h
     exact kd (show laws_FnAccounts_c7_Q a2 (([] : Mem).length) M765.length M1178.length _ _ from ⟨rfl, h1293, h1294, h1295, o1221⟩)) ?_
 revert h hr1505
 revert r1504
 intro y1298 hr1505 h
 intro x e1296 M1297 hq1503
 obtain ⟨rfl, h1299, h1300, h1301, o1302⟩ := hq1503
 refine sN ?_
 rcases ite_some h with ⟨hb1303, h⟩ | ⟨hb1303, h⟩
 ·refine cT h1301 hb1303 (sq (Rg (kx (mvO rfl) (Rn (hV (.bool false) rfl hZ) fun e1304 h1306 => sN (xx (sR ?_))))))
  clear h1299 h1300 h1301
  obtain rfl := si h
  exact eR (resT h1306 res0) rfl
 refine cF h1301 hb1303 (xx (sN (sq (Rg (kx (ldOA h1300 o1302 rfl rfl (ble rfl) rfl) (ku (alO zero27) fun M1308 hM1309 => ?_))))))
 have o1310 := push_old hM1309 o1302
 have ne1311 := ne_new o1302
 have o1312 : M1308[M1297.length]? = some (.live ⟨.box, 27, 3, [[.str ([] : List UInt8), .nils, .int .i64 0]]⟩) := push_new hM1309
 refine kw (stO rfl rfl o1312 rfl rfl ⟨rfl, ble rfl⟩ rfl rfl) fun M1313 hM1314 => ?_
 have o1315 := set_ne hM1314 ne1311 o1310
 have o1316 : M1313[M1297.length]? = some (.live ⟨.box, 27, 3, [[.str ([] : List UInt8), .nils, .int .i64 0]]⟩) := set_same hM1314 o1312
 refine Rn (hV (.sl none (a2.map (cI .u8))) h1299 (hV (.loc M765.length 1 0 0) h1300 (hV (.loc M1297.length 1 0 0) rfl hZ))) fun e1317 h1319 h1320 h1321 => sN (sq (Rg (kx (faO h1321 o1316 rfl) (kx (ldO rfl o1316 rfl rfl rfl) (kx (bAdd rfl rfl) (kx (faO h1321 o1316 rfl) (kw (stO rfl rfl o1316 rfl rfl ⟨rfl, ble rfl⟩ rfl rfl) fun M1322 hM1323 => ?_)))))))
 clear h1299 h1300 h1301
 have o1324 := set_ne hM1323 ne1311 o1315
 have o1325 : M1322[M1297.length]? = some (.live ⟨.box, 27, 3, [[.str ([] : List UInt8), .nils, .int .i64 (IntKind.i64.wrap (0 + 1))]]⟩) := set_same hM1323 o1316
 obtain ⟨r1332, hx1331, h⟩ := bind_some h
 refine Rn (hA h1319 (hA h1320 (hA h1321 hZ))) fun e1326 h1328 h1329 h1330 => sN (sq (sq (Rg (kx (ldOA h1330 o1325 rfl rfl (ble rfl) rfl) (kc (cl (v := .bool r1332) rfl rfl (cns rfl rfl) rfl (impl_CheckAccount_ok (Account.mk ([] : List UInt8) ([] : List Item) (IntKind.i64.wrap (0 + 1))) _ hx1331) nm) (Rn (hA h1328 (hA h1329 (hN rfl hZ))) fun e1333 h1335 h1336 h1337 => sN ?_))))))
 clear h1319 h1320 h1321 h1328 h1329 h1330
 rcases ite_some h with ⟨hb1338, h⟩ | ⟨hb1338, h⟩
 ·refine cT h1337 hb1338 (sq (Rg (kx (mvO rfl) (Rn (hV (.bool false) rfl hZ) fun e1339 h1341 => sN (xx (sR ?_))))))
  clear h1335 h1336 h1337
  obtain rfl := si h
  exact eR (resT h1341 res0) rfl
 obtain ⟨r1343, hx1342, h⟩ := bind_some h
 obtain ⟨⟨r1349, r1350, r1351, r1352⟩, hx1348, h⟩ := bind_some h
 refine cF h1337 hb1338 (xx (sN (sq (Rg (kx (mvO h1335) (kc (cl (v := .int .i64 r1343) rfl rfl (cns rfl (cns rfl (cns rfl rfl))) rfl (laws_a2At_ok a2 0 100 _ hx1342) nm) (kx (mvO rfl) (Rn (hA h1336 (hN rfl hZ)) fun e1344 h1346 h1347 => sN (sq (Rg (kx (ldOA h1346 o1324 rfl rfl (ble rfl) rfl) (kx (mvO h1347) (kc (clW (v := .tup [.agg [.str r1349, .sl none (r1350.map Item.c), .int .i64 r1351], .int .i64 r1352]) rfl rfl (cns rfl (cns rfl rfl)) rfl (impl_NextYear_ok (Account.mk ([] : List UInt8) ([] : List Item) 0) r1343 _ hx1348) rfl) (kx (mvO rfl) (kx (exT rfl rfl) (kx (exT rfl rfl) (ku (alO zero27) fun M1354 hM1355 => ?_)))))))))))))))))
 clear h1335 h1336 h1337
 have o1356 := push_old hM1355 o1324
 have ne1357 := ne_new o1324
 have o1358 : M1354[M1322.length]? = some (.live ⟨.box, 27, 3, [[.str ([] : List UInt8), .nils, .int .i64 0]]⟩) := push_new hM1355
 refine kw (stO rfl rfl o1358 rfl rfl ⟨rfl, ble rfl⟩ rfl rfl) fun M1359 hM1360 => ?_
 have o1361 := set_ne hM1360 ne1357 o1356
 have o1362 : M1359[M1322.length]? = some (.live ⟨.box, 27, 3, [[.str r1349, .sl none (r1350.map Item.c), .int .i64 r1351]]⟩) := set_same hM1360 o1358
 obtain ⟨⟨r1370, r1371, r1372, r1373⟩, hx1369, h⟩ := bind_some h
 refine kx (mvO rfl) (Rn (hA h1346 (hA h1347 (hV (.loc M1322.length 1 0 0) rfl (hN rfl hZ)))) fun e1363 h1365 h1366 h1367 h1368 => sN (sq (Rg (kx (ldOA h1365 o1361 rfl rfl (ble rfl) rfl) (kx (mvO h1366) (kc (clW (v := .tup [.agg [.str r1370, .sl none (r1371.map Item.c), .int .i64 r1372], .int .i64 r1373]) rfl rfl (cns rfl (cns rfl rfl)) rfl (spec_NextYear_ok (Account.mk ([] : List UInt8) ([] : List Item) 0) r1343 _ hx1369) rfl) (kx (mvO rfl) (kx (exT rfl rfl) (kx (exT rfl rfl) (ku (alO zero27) fun M1375 hM1376 => ?_))))))))))
 clear h1346 h1347
 have o1377 := push_old hM1376 o1361
 have ne1378 := ne_new o1361
 have o1379 := push_old hM1376 o1362
 have ne1380 := ne_new o1362
 have o1381 : M1375[M1359.length]? = some (.live ⟨.box, 27, 3, [[.str ([] : List UInt8), .nils, .int .i64 0]]⟩) := push_new hM1376
 refine kw (stO rfl rfl o1381 rfl rfl ⟨rfl, ble rfl⟩ rfl rfl) fun M1382 hM1383 => ?_
 have o1384 := set_ne hM1383 ne1378 o1377
 have o1385 := set_ne hM1383 ne1380 o1379
 have o1386 : M1382[M1359.length]? = some (.live ⟨.box, 27, 3, [[.str r1370, .sl none (r1371.map Item.c), .int .i64 r1372]]⟩) := set_same hM1383 o1381
 obtain ⟨r1501, hr1502, h⟩ := bind_some h
 refine kx (mvO rfl) (Rn (hA h1365 (hA h1366 (hA h1367 (hA h1368 (hV (.loc M1359.length 1 0 0) rfl (hN rfl hZ)))))) fun e1387 h1389 h1390 h1391 h1392 h1393 h1394 => sN (sq (sq ?_)))
 clear h1365 h1366 h1367 h1368
 refine Ev.cut (Q1 := laws_FnAccounts_c8_Q M765.length M1322.length M1359.length r1501) (by
     have h := hr1502
     refine Rg (kx (mvO h1392) (kx (mvO h1394) (kx (bNeq rfl rfl) (kx (mvO rfl) ?_))))
     rcases ite_some h with ⟨hb1395, h⟩ | ⟨hb1395, h⟩
     ·refine kx (gsF rfl hb1395) (kx (gsF rfl hb1395) (kx (pkT rfl hb1395 rfl) (kx (mvO rfl) (kx (gsF rfl rfl) (kx (gsF rfl rfl) (kc (Ev.gsF rfl rfl) (kx (gsF rfl rfl) (kx (pkT rfl rfl rfl) (kx (mvO rfl) (kx (gsF rfl rfl) (kx (gsF rfl rfl) (kx (gsF rfl rfl) (kx (gsF rfl rfl) (kx (gsF rfl rfl) (kx (gsF rfl rfl) (kx (gsF rfl rfl) (kx (pkT rfl rfl rfl) (Rn (hA h1389 (hV (.bool true) rfl hZ)) fun e1396 h1398 h1399 => ?_))))))))))))))))))
      clear h1389 h1390 h1391 h1392 h1393 h1394
      obtain rfl := si h
      exact kd (show laws_FnAccounts_c8_Q M765.length M1322.length M1359.length _ _ from ⟨rfl, h1398, h1399, o1384⟩)
     refine kx (guF rfl hb1395 (mvO h1392)) (kx (guF rfl hb1395 (bNeq rfl rfl)) (kx (pkF rfl hb1395 rfl) (kx (mvO rfl) ?_)))
     rcases ite_some h with ⟨hb1400, h⟩ | ⟨hb1400, h⟩
     ·refine kx (gsF rfl hb1400) (kx (gsF rfl hb1400) (kc (Ev.gsF rfl hb1400) (kx (gsF rfl hb1400) (kx (pkT rfl hb1400 rfl) (kx (mvO rfl) (kx (gsF rfl rfl) (kx (gsF rfl rfl) (kx (gsF rfl rfl) (kx (gsF rfl rfl) (kx (gsF rfl rfl) (kx (gsF rfl rfl) (kx (gsF rfl rfl) (kx (pkT rfl rfl rfl) (Rn (hA h1389 (hV (.bool true) rfl hZ)) fun e1401 h1403 h1404 => ?_))))))))))))))
      clear h1389 h1390 h1391 h1392 h1393 h1394
      obtain rfl := si h
      exact kd (show laws_FnAccounts_c8_Q M765.length M1322.length M1359.length _ _ from ⟨rfl, h1403, h1404, o1384⟩)
     obtain ⟨r1406, hx1405, h⟩ := bind_some h
     refine kx (guF rfl hb1400 (ldOA h1391 o1385 rfl rfl (ble rfl) rfl)) (kx (guF rfl hb1400 (ldOA h1393 o1386 rfl rfl (ble rfl) rfl)) (kc (Ev.guF rfl hb1400 (cl (v := .bool r1406) rfl rfl (cns rfl (cns rfl rfl)) rfl (spec_A2SameAccount_ok (Account.mk r1349 r1350 r1351) (Account.mk r1370 r1371 r1372) _ hx1405) nm)) (kx (guF rfl hb1400 (uNot rfl)) (kx (pkF rfl hb1400 rfl) (kx (mvO rfl) ?_)))))
     rcases ite_some h with ⟨hb1407, h⟩ | ⟨hb1407, h⟩
     ·refine kx (guF rfl (congrArg Bool.not hb1407) (faO h1393 o1386 rfl)) (kx (guF rfl (congrArg Bool.not hb1407) (ldO rfl o1386 rfl rfl rfl)) (kx (guF rfl (congrArg Bool.not hb1407) (faO h1389 o1384 rfl)) (kx (guF rfl (congrArg Bool.not hb1407) (ldO rfl o1384 rfl rfl rfl)) (kx (guF rfl (congrArg Bool.not hb1407) (mvO h1390)) (kx (guF rfl (congrArg Bool.not hb1407) (bAdd rfl rfl)) (kx (guF rfl (congrArg Bool.not hb1407) (bNeq rfl rfl)) (kx (pkF rfl (congrArg Bool.not hb1407) rfl) (Rn (hA h1389 (hN rfl hZ)) fun e1408 h1410 h1411 => ?_))))))))
      clear h1389 h1390 h1391 h1392 h1393 h1394
      obtain rfl := si h
      exact kd (show laws_FnAccounts_c8_Q M765.length M1322.length M1359.length _ _ from ⟨rfl, h1410, h1411, o1384⟩)
     refine kx (gsF rfl (congrArg Bool.not hb1407)) (kx (gsF rfl (congrArg Bool.not hb1407)) (kx (gsF rfl (congrArg Bool.not hb1407)) (kx (gsF rfl (congrArg Bool.not hb1407)) (kx (gsF rfl (congrArg Bool.not hb1407)) (kx (gsF rfl (congrArg Bool.not hb1407)) (kx (gsF rfl (congrArg Bool.not hb1407)) (kx (pkT rfl (congrArg Bool.not hb1407) rfl) (Rn (hA h1389 (hV (.bool true) rfl hZ)) fun e1412 h1414 h1415 => ?_))))))))
     clear h1389 h1390 h1391 h1392 h1393 h1394
     obtain rfl := si h
     exact kd (show laws_FnAccounts_c8_Q M765.length M1322.length M1359.length _ _ from ⟨rfl, h1414, h1415, o1384⟩)) ?_
 revert h hr1502
 revert r1501
 intro y1418 hr1502 h
 intro x e1416 M1417 hq1500
 obtain ⟨rfl, h1419, h1420, o1421⟩ := hq1500
 refine sN ?_
 rcases ite_some h with ⟨hb1422, h⟩ | ⟨hb1422, h⟩
 ·refine cT h1420 hb1422 (sq (Rg (kx (mvO rfl) (Rn (hV (.bool false) rfl hZ) fun e1423 h1425 => sN (xx (sR ?_))))))
  clear h1419 h1420
  obtain rfl := si h
  exact eR (resT h1425 res0) rfl
 obtain ⟨⟨r1442, r1443, r1444, r1445⟩, hx1441, h⟩ := bind_some h
 refine cF h1420 hb1422 (xx (sN (sq (Rg (kx (faO h1419 o1421 rfl) (kx (ldO rfl o1421 rfl rfl rfl) (kx (faO h1419 o1421 rfl) (kx (ldO rfl o1421 rfl rfl rfl) (kx (uNeg rfl) (kx (bMax rfl rfl) (kx (mvO rfl) (Rn (hV (.loc M765.length 1 0 0) h1419 (hN rfl hZ)) fun e1426 h1428 h1429 => sN (sq (Rg (kx (mvO rfl) (Rn (hA h1428 (hA h1429 (hV (.int .i8 2) rfl hZ))) fun e1430 h1432 h1433 h1434 => sN (sq (sq (Rg (kx (faO h1432 o1421 rfl) (kx (ldO rfl o1421 rfl rfl rfl) (kx (bLss rfl rfl) (Rn (hA h1432 (hA h1433 (hA h1434 (hV (.bool false) rfl hZ)))) fun e1435 h1437 h1438 h1439 h1440 => sN (cF h1440 rfl (xx (sN (sq (Rg (kx (ldOA h1437 o1421 rfl rfl (ble rfl) rfl) (kx (mvO h1439) (kx (mvO h1438) (kx (bldT zero42 (cns (pr3 rfl) (cns (pr3 rfl) rfl)) (fill1 ⟨rfl, ble rfl⟩ rfl rfl (fill1 ⟨rfl, ble rfl⟩ rfl rfl (fill0 rfl)))) (kc (clW (v := .tup [.agg [.str r1442, .sl none (r1443.map Item.c), .int .i64 r1444], .int .i64 r1445]) rfl rfl (cns rfl (cns rfl rfl)) rfl (impl_AddItem_ok (Account.mk ([] : List UInt8) ([] : List Item) 0) (Item.mk 2 (max 0 (IntKind.i64.wrap (0 - 0)))) _ hx1441) rfl) (kx (mvO rfl) (kx (exT rfl rfl) (kx (exT rfl rfl) (ku (alO zero27) fun M1447 hM1448 => ?_)))))))))))))))))))))))))))))))))))))
 clear h1419 h1420 h1428 h1429 h1432 h1433 h1434
 have o1449 := push_old hM1448 o1421
 have ne1450 := ne_new o1421
 have o1451 : M1447[M1417.length]? = some (.live ⟨.box, 27, 3, [[.str ([] : List UInt8), .nils, .int .i64 0]]⟩) := push_new hM1448
 refine kw (stO rfl rfl o1451 rfl rfl ⟨rfl, ble rfl⟩ rfl rfl) fun M1452 hM1453 => ?_
 have o1454 := set_ne hM1453 ne1450 o1449
 have o1455 : M1452[M1417.length]? = some (.live ⟨.box, 27, 3, [[.str r1442, .sl none (r1443.map Item.c), .int .i64 r1444]]⟩) := set_same hM1453 o1451
 obtain ⟨⟨r1462, r1463⟩, hx1461, h⟩ := bind_some h
 obtain ⟨⟨r1471, r1472⟩, hx1470, h⟩ := bind_some h
 refine kx (mvO rfl) (Rn (hA h1437 (hV (.loc M1417.length 1 0 0) rfl (hN rfl hZ))) fun e1456 h1458 h1459 h1460 => sN (sq (Rg (kx (ldOA h1459 o1455 rfl rfl (ble rfl) rfl) (kc (cl (v := .tup [.bool r1462, .int .i64 r1463]) rfl rfl (cns rfl rfl) rfl (impl_IsQuit_ok (Account.mk r1442 r1443 r1444) _ hx1461) nm) (kx (mvO rfl) (kx (exT rfl rfl) (kx (exT rfl rfl) (kx (mvO rfl) (kx (mvO rfl) (Rn (hA h1458 (hA h1460 (hN rfl (hN rfl hZ)))) fun e1464 h1466 h1467 h1468 h1469 => sN (sq (Rg (kx (ldOA h1466 o1454 rfl rfl (ble rfl) rfl) (kc (cl (v := .tup [.bool r1471, .int .i64 r1472]) rfl rfl (cns rfl rfl) rfl (impl_IsQuit_ok (Account.mk ([] : List UInt8) ([] : List Item) 0) _ hx1470) nm) (kx (mvO rfl) (kx (exT rfl rfl) (kx (exT rfl rfl) (kx (mvO rfl) (kx (mvO rfl) (Rn (hA h1466 (hA h1467 (hA h1468 (hA h1469 (hN rfl (hN rfl hZ)))))) fun e1473 h1475 h1476 h1477 h1478 h1479 h1480 => sN (sq (Rg (kx (mvO h1476) (kx (bEql rfl rfl) (kx (mvO rfl) ?_))))))))))))))))))))))))))
 clear h1437 h1438 h1439 h1440 h1458 h1459 h1460 h1466 h1467 h1468 h1469
 rcases ite_some h with ⟨hb1481, h⟩ | ⟨hb1481, h⟩
 ·refine kx (guT rfl hb1481 (mvO h1478)) (kx (guT rfl hb1481 (bEql rfl rfl)) (kx (pkT rfl hb1481 rfl) (kx (mvO rfl) ?_)))
  rcases ite_some h with ⟨hb1482, h⟩ | ⟨hb1482, h⟩
  ·refine kx (guT rfl hb1482 (mvO h1477)) (kx (pkT rfl hb1482 rfl) (kx (mvO rfl) ?_))
   rcases ite_some h with ⟨hb1483, h⟩ | ⟨hb1483, h⟩
   ·refine kx (guT rfl hb1483 (mvO h1480)) (kx (guT rfl hb1483 (bEql rfl rfl)) (kx (pkT rfl hb1483 rfl) (kx (mvO rfl) ?_)))
    rcases ite_some h with ⟨hb1484, h⟩ | ⟨hb1484, h⟩
    ·refine kx (guT rfl hb1484 (mvO h1479)) (kx (guT rfl hb1484 (faO h1475 o1454 rfl)) (kx (guT rfl hb1484 (ldO rfl o1454 rfl rfl rfl)) (kx (guT rfl hb1484 (bEql rfl rfl)) (kx (guT rfl hb1484 (oEql (by kernel_rfl) rfl rfl)) (kx (pkT rfl hb1484 rfl) (kx (mvO rfl) (Rn (hN rfl hZ) fun e1485 h1487 => sN (xx ?_))))))))
     clear h1475 h1476 h1477 h1478 h1479 h1480
     obtain rfl := si h
     exact eR (resT h1487 res0) rfl
    refine kx (gsT rfl hb1484) (kx (gsT rfl hb1484) (kx (gsT rfl hb1484) (kx (gsT rfl hb1484) (kx (gsT rfl hb1484) (kx (pkF rfl hb1484 rfl) (kx (mvO rfl) (Rn (hV (.bool false) rfl hZ) fun e1488 h1490 => sN (xx ?_))))))))
    clear h1475 h1476 h1477 h1478 h1479 h1480
    obtain rfl := si h
    exact eR (resT h1490 res0) rfl
   refine kx (gsT rfl hb1483) (kx (gsT rfl hb1483) (kx (pkF rfl hb1483 rfl) (kx (mvO rfl) (kx (gsT rfl rfl) (kx (gsT rfl rfl) (kx (gsT rfl rfl) (kx (gsT rfl rfl) (kx (gsT rfl rfl) (kx (pkF rfl rfl rfl) (kx (mvO rfl) (Rn (hV (.bool false) rfl hZ) fun e1491 h1493 => sN (xx ?_))))))))))))
   clear h1475 h1476 h1477 h1478 h1479 h1480
   obtain rfl := si h
   exact eR (resT h1493 res0) rfl
  refine kx (gsT rfl hb1482) (kx (pkF rfl hb1482 rfl) (kx (mvO rfl) (kx (gsT rfl rfl) (kx (gsT rfl rfl) (kx (pkF rfl rfl rfl) (kx (mvO rfl) (kx (gsT rfl rfl) (kx (gsT rfl rfl) (kx (gsT rfl rfl) (kx (gsT rfl rfl) (kx (gsT rfl rfl) (kx (pkF rfl rfl rfl) (kx (mvO rfl) (Rn (hV (.bool false) rfl hZ) fun e1494 h1496 => sN (xx ?_)))))))))))))))
  clear h1475 h1476 h1477 h1478 h1479 h1480
  obtain rfl := si h
  exact eR (resT h1496 res0) rfl
 refine kx (gsT rfl hb1481) (kx (gsT rfl hb1481) (kx (pkF rfl hb1481 rfl) (kx (mvO rfl) (kx (gsT rfl rfl) (kx (pkF rfl rfl rfl) (kx (mvO rfl) (kx (gsT rfl rfl) (kx (gsT rfl rfl) (kx (pkF rfl rfl rfl) (kx (mvO rfl) (kx (gsT rfl rfl) (kx (gsT rfl rfl) (kx (gsT rfl rfl) (kx (gsT rfl rfl) (kx (gsT rfl rfl) (kx (pkF rfl rfl rfl) (kx (mvO rfl) (Rn (hV (.bool false) rfl hZ) fun e1497 h1499 => sN (xx ?_)))))))))))))))))))
 clear h1475 h1476 h1477 h1478 h1479 h1480
 obtain rfl := si h
 exact eR (resT h1499 res0) rfl
end Go.Proofs.YtjlalepbhcekoaaDoor

/- Printed by a program of ours (ext.py). -/
import Derived.Test.YtjlalepbhcekoaaLnkSharesx0
set_option linter.unusedVariables false
set_option linter.unusedSimpArgs false
set_option maxRecDepth 100000
set_option maxHeartbeats 20000000
namespace Go.Proofs.Ytjlalepbhcekoaa
open Go Go.Ab
noncomputable def impl_CutStick (a1 : Int) (a2 : Ar 16 Int) : Option (Bool × (List Notch) × (Ar 16 Int) × (List Notch) × (Ar 16 Int) × Int) :=
 (impl_ValidGrain a2).bind fun r18 =>
 if r18 = true then
  (impl_NotchesFor a1).bind fun (r28, r29) =>
  if (r29 != 0) = true then
   some (false, ([] : List Notch), (Ar.rep 16 0), ([] : List Notch), (Ar.rep 16 0), r29)
  else
   (slices_Clone_Notch r28).bind fun r60 =>
   (impl_opposite a2).bind fun r62 =>
   some (true, r28, a2, r60, r62, 0)
 else
  some (false, ([] : List Notch), (Ar.rep 16 0), ([] : List Notch), (Ar.rep 16 0), 1)
def impl_CutStick_enc (r : Bool × (List Notch) × (Ar 16 Int) × (List Notch) × (Ar 16 Int) × Int) : AV := .tup [.agg (.bool r.1 :: (.sl none (r.2.1.map Notch.c) :: ((arC (cI .i8) 0 r.2.2.1) ++ ([] : List AV)))), .agg (.bool false :: (.sl none (r.2.2.2.1.map Notch.c) :: ((arC (cI .i8) 0 r.2.2.2.2.1) ++ ([] : List AV)))), .int .i64 r.2.2.2.2.2]
theorem impl_CutStick_ok (a1 : Int) (a2 : Ar 16 Int) (r : Bool × (List Notch) × (Ar 16 Int) × (List Notch) × (Ar 16 Int) × Int) (h : impl_CutStick a1 a2 = some r) : Ev (fun k => CN k 97 [.int .i64 a1, .agg (arC (cI .i8) 0 a2)] []) (fun p => wkR (rRes p.2 p.1) = impl_CutStick_enc r) := by
 unfold impl_CutStick at h
 refine Ev.enter (F := fun k => f97 (CN k) k) (fun k => callN_eq rfl Try.func97 rfl rfl rfl (by decide +kernel) (f97_eq _ _)) (sq (Rg (kx (bxI rfl rfl ⟨rfl, rfl, by decide⟩) (ku (alO zero70) fun M2 hM3 => ?_))))
 have o4 : M2[([] : Mem).length]? = some (.live ⟨.box, 70, 18, [(.bool false :: (.nils :: ((arC (cI .i8) 0 (Ar.rep 16 0)) ++ ([] : List AV))))]⟩) := push_new hM3
 refine ku (alO zero70) fun M6 hM7 => ?_
 have o8 := push_old hM7 o4
 have ne9 := ne_new o4
 have o10 : M6[M2.length]? = some (.live ⟨.box, 70, 18, [(.bool false :: (.nils :: ((arC (cI .i8) 0 (Ar.rep 16 0)) ++ ([] : List AV))))]⟩) := push_new hM7
 obtain ⟨r18, hx17, h⟩ := bind_some h
 refine kx (mvO rfl) (Rn (hN rfl (hN rfl (hV (.loc ([] : Mem).length 1 0 0) rfl (hV (.loc M2.length 1 0 0) rfl hZ)))) fun e11 h13 h14 h15 h16 => sN (sq (sq (Rg (kx (ldPA h14 rfl rfl) (kc (cl (v := .bool r18) rfl rfl (cns rfl rfl) rfl (impl_ValidGrain_ok a2 _ hx17) nm) (kx (uNot rfl) (Rn (hA h13 (hA h14 (hA h15 (hA h16 (hN rfl hZ))))) fun e19 h21 h22 h23 h24 h25 => sN ?_))))))))
 clear h13 h14 h15 h16
 rcases ite_some h with ⟨hb26, h⟩ | ⟨hb26, h⟩
 ·obtain ⟨⟨r28, r29⟩, hx27, h⟩ := bind_some h
  refine cF h25 (congrArg Bool.not hb26) (xx (sN (sq (Rg (kx (mvO h21) (kc (clO (v := .tup [.sl none (r28.map Notch.c), .int .i64 r29]) rfl rfl (cns rfl rfl) rfl (impl_NotchesFor_ok a1 _ hx27)) (kx (mvO rfl) (kx (exT rfl rfl) (kx (exT rfl rfl) (kx (mvO rfl) (kx (mvO rfl) (Rn (hA h22 (hA h23 (hA h24 (hN rfl (hN rfl hZ))))) fun e30 h32 h33 h34 h35 h36 => sN (sq (sq (Rg (kx (mvO h36) (kx (bNeq rfl rfl) (Rn (hA h32 (hA h33 (hA h34 (hA h35 (hA h36 (hN rfl hZ)))))) fun e37 h39 h40 h41 h42 h43 h44 => sN ?_))))))))))))))))))
  clear h21 h22 h23 h24 h25 h32 h33 h34 h35 h36
  rcases ite_some h with ⟨hb45, h⟩ | ⟨hb45, h⟩
  ·refine cT h44 hb45 (sq (Rg (kx (bldT zero70 rfl (fill0 rfl)) (kx (bldT zero70 rfl (fill0 rfl)) (kx (mvO h43) (kw (stO h40 rfl o8 rfl rfl ⟨rfl, ble rfl⟩ rfl rfl) fun M46 hM47 => ?_))))))
   have o48 : M46[([] : Mem).length]? = some (.live ⟨.box, 70, 18, [(.bool false :: (.nils :: ((arC (cI .i8) 0 (Ar.rep 16 0)) ++ ([] : List AV))))]⟩) := set_same hM47 o8
   have o49 := set_ne hM47 (Ne.symm ne9) o10
   refine kw (stO h41 rfl o49 rfl rfl ⟨rfl, ble rfl⟩ rfl rfl) fun M50 hM51 => ?_
   have o52 := set_ne hM51 ne9 o48
   have o53 : M50[M2.length]? = some (.live ⟨.box, 70, 18, [(.bool false :: (.nils :: ((arC (cI .i8) 0 (Ar.rep 16 0)) ++ ([] : List AV))))]⟩) := set_same hM51 o49
   refine kx (mvO rfl) (Rn (hA h40 (hA h41 (hN rfl hZ))) fun e54 h56 h57 h58 => sN (xx (sR ?_)))
   clear h39 h40 h41 h42 h43 h44
   obtain rfl := si h
   exact eR (resC (ag := true) (sz := 18) ⟨by kernel_rfl, by kernel_rfl, by kernel_rfl⟩ (ldOA (cs' := (.bool false :: (.nils :: ((arC (cI .i8) 0 (Ar.rep 16 0)) ++ ([] : List AV))))) h56 o52 rfl rfl (ble rfl) rfl) (resC (ag := true) (sz := 18) ⟨by kernel_rfl, by kernel_rfl, by kernel_rfl⟩ (ldOA (cs' := (.bool false :: (.nils :: ((arC (cI .i8) 0 (Ar.rep 16 0)) ++ ([] : List AV))))) h57 o53 rfl rfl (ble rfl) rfl) (resT h58 res0))) (wkH (y := .tup [.agg (.bool false :: (.nils :: ((arC (cI .i8) 0 (Ar.rep 16 0)) ++ ([] : List AV)))), .agg (.bool false :: (.nils :: ((arC (cI .i8) 0 (Ar.rep 16 0)) ++ ([] : List AV)))), .int .i64 r29]) rfl (wk_tup (mp1 (wk_agg (mp1 rfl (mp1 rfl (mpA (fun _ => wk1_flat) (fun _ => rfl) mp0)))) (mp1 (wk_agg (mp1 rfl (mp1 rfl (mpA (fun _ => wk1_flat) (fun _ => rfl) mp0)))) (mp1 rfl mp0)))))
  obtain ⟨r60, hx59, h⟩ := bind_some h
  obtain ⟨r62, hx61, h⟩ := bind_some h
  refine cF h44 hb45 (xx (sN (sq (Rd (kf (mvO h42) (kf (ldPA h39 rfl rfl) (kf (bldT zero70 (cns (pr3 rfl) (cns (pr3 rfl) (cns (pr3 rfl) rfl))) (fill1 (cs' := (.bool true :: (.nils :: ((arC (cI .i8) 0 (Ar.rep 16 0)) ++ ([] : List AV))))) ⟨rfl, ble rfl⟩ rfl rfl (fill1 (cs' := (.bool true :: (.sl none (r28.map Notch.c) :: ((arC (cI .i8) 0 (Ar.rep 16 0)) ++ ([] : List AV))))) ⟨rfl, ble rfl⟩ rfl rfl (fill1 (cs' := (.bool true :: (.sl none (r28.map Notch.c) :: ((arC (cI .i8) 0 a2) ++ ([] : List AV))))) ⟨rfl, ble rfl⟩ rfl rfl (fill0 rfl))))) (kf (mvO h42) (fc (cl (v := .sl (some 170) (r60.map Notch.c)) rfl rfl (cns rfl rfl) rfl (slices_Clone_Notch_ok r28 _ hx59) nm) (kf (ldPA h39 rfl rfl) (fc (cl (v := .agg (arC (cI .i8) 0 r62)) rfl rfl (cns rfl rfl) rfl (impl_opposite_ok a2 _ hx61) nm) (kf (bldT zero70 (cns (pr3 rfl) (cns (pr3 rfl) rfl)) (fill1 (cs' := (.bool false :: (.sl (some 170) (r60.map Notch.c) :: ((arC (cI .i8) 0 (Ar.rep 16 0)) ++ ([] : List AV))))) ⟨rfl, ble rfl⟩ rfl rfl (fill1 (cs' := (.bool false :: (.sl (some 170) (r60.map Notch.c) :: ((arC (cI .i8) 0 r62) ++ ([] : List AV))))) ⟨rfl, ble rfl⟩ rfl rfl (fill0 rfl)))) (fZ (kw (stO h40 rfl o8 rfl rfl ⟨rfl, ble rfl⟩ rfl rfl) fun M63 hM64 => ?_))))))))))))))
  have o65 : M63[([] : Mem).length]? = some (.live ⟨.box, 70, 18, [(.bool true :: (.sl none (r28.map Notch.c) :: ((arC (cI .i8) 0 a2) ++ ([] : List AV))))]⟩) := set_same hM64 o8
  have o66 := set_ne hM64 (Ne.symm ne9) o10
  refine kw (stO h41 rfl o66 rfl rfl ⟨rfl, ble rfl⟩ rfl rfl) fun M67 hM68 => ?_
  have o69 := set_ne hM68 ne9 o65
  have o70 : M67[M2.length]? = some (.live ⟨.box, 70, 18, [(.bool false :: (.sl none (r60.map Notch.c) :: ((arC (cI .i8) 0 r62) ++ ([] : List AV))))]⟩) := set_same hM68 o66
  refine kx (mvO rfl) (Rn (hA h40 (hA h41 (hV (.int .i64 0) rfl hZ))) fun e71 h73 h74 h75 => sN (xx ?_))
  clear h39 h40 h41 h42 h43 h44
  obtain rfl := si h
  exact eR (resC (ag := true) (sz := 18) ⟨by kernel_rfl, by kernel_rfl, by kernel_rfl⟩ (ldOA (cs' := (.bool true :: (.sl none (r28.map Notch.c) :: ((arC (cI .i8) 0 a2) ++ ([] : List AV))))) h73 o69 rfl rfl (ble rfl) rfl) (resC (ag := true) (sz := 18) ⟨by kernel_rfl, by kernel_rfl, by kernel_rfl⟩ (ldOA (cs' := (.bool false :: (.sl none (r60.map Notch.c) :: ((arC (cI .i8) 0 r62) ++ ([] : List AV))))) h74 o70 rfl rfl (ble rfl) rfl) (resT h75 res0))) (wkH (y := .tup [.agg (.bool true :: (.sl none (r28.map Notch.c) :: ((arC (cI .i8) 0 a2) ++ ([] : List AV)))), .agg (.bool false :: (.sl none (r60.map Notch.c) :: ((arC (cI .i8) 0 r62) ++ ([] : List AV)))), .int .i64 0]) rfl (wk_tup (mp1 (wk_agg (mp1 rfl (mp1 rfl (mpA (fun _ => wk1_flat) (fun _ => rfl) mp0)))) (mp1 (wk_agg (mp1 rfl (mp1 rfl (mpA (fun _ => wk1_flat) (fun _ => rfl) mp0)))) (mp1 rfl mp0)))))
 refine cT h25 (congrArg Bool.not hb26) (sq (Rg (kx (bldT zero70 rfl (fill0 rfl)) (kx (bldT zero70 rfl (fill0 rfl)) (kw (stO h23 rfl o8 rfl rfl ⟨rfl, ble rfl⟩ rfl rfl) fun M76 hM77 => ?_)))))
 have o78 : M76[([] : Mem).length]? = some (.live ⟨.box, 70, 18, [(.bool false :: (.nils :: ((arC (cI .i8) 0 (Ar.rep 16 0)) ++ ([] : List AV))))]⟩) := set_same hM77 o8
 have o79 := set_ne hM77 (Ne.symm ne9) o10
 refine kw (stO h24 rfl o79 rfl rfl ⟨rfl, ble rfl⟩ rfl rfl) fun M80 hM81 => ?_
 have o82 := set_ne hM81 ne9 o78
 have o83 : M80[M2.length]? = some (.live ⟨.box, 70, 18, [(.bool false :: (.nils :: ((arC (cI .i8) 0 (Ar.rep 16 0)) ++ ([] : List AV))))]⟩) := set_same hM81 o79
 refine kx (mvO rfl) (Rn (hA h23 (hA h24 (hV (.int .i64 1) rfl hZ))) fun e84 h86 h87 h88 => sN (xx (sR ?_)))
 clear h21 h22 h23 h24 h25
 obtain rfl := si h
 exact eR (resC (ag := true) (sz := 18) ⟨by kernel_rfl, by kernel_rfl, by kernel_rfl⟩ (ldOA (cs' := (.bool false :: (.nils :: ((arC (cI .i8) 0 (Ar.rep 16 0)) ++ ([] : List AV))))) h86 o82 rfl rfl (ble rfl) rfl) (resC (ag := true) (sz := 18) ⟨by kernel_rfl, by kernel_rfl, by kernel_rfl⟩ (ldOA (cs' := (.bool false :: (.nils :: ((arC (cI .i8) 0 (Ar.rep 16 0)) ++ ([] : List AV))))) h87 o83 rfl rfl (ble rfl) rfl) (resT h88 res0))) (wkH (y := .tup [.agg (.bool false :: (.nils :: ((arC (cI .i8) 0 (Ar.rep 16 0)) ++ ([] : List AV)))), .agg (.bool false :: (.nils :: ((arC (cI .i8) 0 (Ar.rep 16 0)) ++ ([] : List AV)))), .int .i64 1]) rfl (wk_tup (mp1 (wk_agg (mp1 rfl (mp1 rfl (mpA (fun _ => wk1_flat) (fun _ => rfl) mp0)))) (mp1 (wk_agg (mp1 rfl (mp1 rfl (mpA (fun _ => wk1_flat) (fun _ => rfl) mp0)))) (mp1 rfl mp0)))))
abbrev impl_GrainFrom_b1_S := Int × Int × (Ar 16 Int)
abbrev impl_GrainFrom_b1_R := Int × (Ar 16 Int)
def impl_GrainFrom_b1_RS (i1_1 : Nat) (i1_2 : Nat) (s : impl_GrainFrom_b1_S) (e : Env) (M : Mem) : Prop := eget e 0 = .int .u32 s.1 ∧ eget e 2 = .loc i1_1 1 0 0 ∧ eget e 4 = .loc i1_2 1 0 0 ∧ eget e 7 = .int .i64 s.2.1 ∧ M[i1_1]? = some (.live ⟨.box, 68, 16, [(arC (cI .i8) 0 (Ar.rep 16 0))]⟩) ∧ M[i1_2]? = some (.live ⟨.box, 68, 16, [(arC (cI .i8) 0 s.2.2)]⟩)
def impl_GrainFrom_b1_RR (i1_1 : Nat) (i1_2 : Nat) (g : impl_GrainFrom_b1_R) (x : Ex) (e : Env) (M : Mem) : Prop := x = .ext 0 ∧ eget e 0 = .int .u32 g.1 ∧ eget e 2 = .loc i1_1 1 0 0 ∧ eget e 4 = .loc i1_2 1 0 0 ∧ M[i1_1]? = some (.live ⟨.box, 68, 16, [(arC (cI .i8) 0 (Ar.rep 16 0))]⟩) ∧ M[i1_2]? = some (.live ⟨.box, 68, 16, [(arC (cI .i8) 0 g.2)]⟩)
noncomputable def impl_GrainFrom_b1 : impl_GrainFrom_b1_S → Option (impl_GrainFrom_b1_S ⊕ impl_GrainFrom_b1_R) := fun (s1_1, s1_2, s1_3) =>
 if (decide (s1_2 < 16)) = true then
  (impl_nextSeed s1_1).bind fun r70 =>
  (shr .u32 r70 16).bind fun n78 =>
  (rem .u32 n78 7).bind fun n80 =>
  (rdA s1_3 s1_2).bind fun x82 =>
  some (.inl (r70, (IntKind.i64.wrap (s1_2 + 1)), (s1_3.set s1_2.toNat (IntKind.i8.wrap ((IntKind.i8.wrap n80) - 3)))))
 else
  some (.inr (s1_1, s1_3))
theorem impl_GrainFrom_b1_ok (i1_1 : Nat) (i1_2 : Nat) (ne13 : i1_1 ≠ i1_2) (s : impl_GrainFrom_b1_S) (r : impl_GrainFrom_b1_S ⊕ impl_GrainFrom_b1_R) (h : impl_GrainFrom_b1 s = some r) (e : Env) (M : Mem) (hs : impl_GrainFrom_b1_RS i1_1 i1_2 s e M) : Ev (fun k => (f96_l3 (CN k) k (prune [0, 2, 4, 7] e) M).bind fun q => some q) (bQ (impl_GrainFrom_b1_RS i1_1 i1_2) (impl_GrainFrom_b1_RR i1_1 i1_2) r) := by
 obtain ⟨s1_1, s1_2, s1_3⟩ := s
 unfold impl_GrainFrom_b1 at h
 obtain ⟨h44, h46, h48, h50, o52, o53⟩ := hs
 generalize he43 : prune [0, 2, 4, 7] e = e42
 have h45 := envp he43.symm rfl h44
 have h47 := envp he43.symm rfl h46
 have h49 := envp he43.symm rfl h48
 have h51 := envp he43.symm rfl h50
 refine sq (Rg (kx (bLss h51 rfl) (Rn (hV (.int .u32 s1_1) h45 (hV (.loc i1_1 1 0 0) h47 (hV (.loc i1_2 1 0 0) h49 (hV (.int .i64 s1_2) h51 (hN rfl hZ))))) fun e54 h56 h57 h58 h59 h60 => sN (sq ?_))))
 clear h45 h47 h49 h51
 rcases ite_some h with ⟨hb61, h⟩ | ⟨hb61, h⟩
 ·obtain ⟨r70, hx69, h⟩ := bind_some h
  obtain ⟨n78, hx79, h⟩ := bind_some h
  obtain ⟨n80, hx81, h⟩ := bind_some h
  obtain ⟨x82, hx83, h⟩ := bind_some h
  refine cT h60 hb61 (xx (sN (sq (bl (sq (Rg (kx (mvO h59) (kx (mvO rfl) (Rn (hA h56 (hA h57 (hA h58 (hN rfl (hA h59 hZ))))) fun e62 h64 h65 h66 h67 h68 => sN (sq (Rg (kx (mvO h64) (kc (cl (v := .int .u32 r70) rfl rfl (cns rfl rfl) rfl (impl_nextSeed_ok s1_1 _ hx69) nm) (kx (mvO rfl) (Rn (hN rfl (hA h65 (hA h66 (hA h67 (hA h68 hZ))))) fun e71 h73 h74 h75 h76 h77 => sN (Rg (kx (mvO h76) (kx (mvO h73) (kx (bShr rfl rfl hx79) (kx (bRem rfl rfl hx81) (kx (cvI rfl) (kx (bSub rfl rfl) (kx (ixLA h75 o53 rfl rfl hx83) (kw (stLA (c := (cI .i8)) (z := 0) (g := s1_3) (pre := []) (post := []) (u' := (IntKind.i8.wrap ((IntKind.i8.wrap n80) - 3))) rfl rfl o53 rfl rfl rfl rfl (fun _ => rfl) rfl rfl hx83) fun M84 hM85 => ?_))))))))))))))))))))))))
  clear h56 h57 h58 h59 h60 h65 h66 h67 h68
  have o86 := set_ne hM85 ne13 o52
  have o87 : M84[i1_2]? = some (.live ⟨.box, 68, 16, [(arC (cI .i8) 0 (s1_3.set s1_2.toNat (IntKind.i8.wrap ((IntKind.i8.wrap n80) - 3))))]⟩) := set_same hM85 o53
  refine Rn (hA h73 (hA h74 (hA h75 (hA h77 hZ)))) fun e88 h90 h91 h92 h93 => bN (sN (Rg (kx (bAdd h93 rfl) (kx (mvO rfl) (Rn (hA h90 (hA h91 (hA h92 (hN rfl hZ)))) fun e94 h96 h97 h98 h99 => ?_)))))
  clear h73 h74 h75 h76 h77 h90 h91 h92
  obtain rfl := si h
  exact qN ⟨h96, h97, h98, h99, o86, o87⟩
 refine cF h60 hb61 (xx (sE ?_))
 obtain rfl := si h
 exact qE ⟨rfl, h56, h57, h58, o52, o53⟩
noncomputable def impl_GrainFrom (a1 : Int) : Option ((Ar 16 Int) × Int) :=
 (Lw (impl_GrainFrom_b1) (a1, 0, (Ar.rep 16 0))).bind fun (y105, y106) =>
 some (y106, y105)
def impl_GrainFrom_enc (r : (Ar 16 Int) × Int) : AV := .tup [.agg (arC (cI .i8) 0 r.1), .int .u32 r.2]
theorem impl_GrainFrom_ok (a1 : Int) (r : (Ar 16 Int) × Int) (h : impl_GrainFrom a1 = some r) : Ev (fun k => CN k 96 [.int .u32 a1] []) (fun p => rRes p.2 p.1 = impl_GrainFrom_enc r) := by
 unfold impl_GrainFrom at h
 refine Ev.enter (F := fun k => f96 (CN k) k) (fun k => callN_eq rfl Try.func96 rfl rfl rfl (by decide +kernel) (f96_eq _ _)) (sq (Rg (ku (alO zero68) fun M2 hM3 => ?_)))
 have o4 : M2[([] : Mem).length]? = some (.live ⟨.box, 68, 16, [(arC (cI .i8) 0 (Ar.rep 16 0))]⟩) := push_new hM3
 refine kx (mvO rfl) (Rn (hN rfl (hV (.loc ([] : Mem).length 1 0 0) rfl hZ)) fun e5 h7 h8 => sN (sq (Rg (kx (bldT zero68 rfl (fill0 rfl)) (ku (alO zero68) fun M10 hM11 => ?_)))))
 have o12 := push_old hM11 o4
 have ne13 := ne_new o4
 have o14 : M10[M2.length]? = some (.live ⟨.box, 68, 16, [(arC (cI .i8) 0 (Ar.rep 16 0))]⟩) := push_new hM11
 refine kw (stO rfl rfl o14 rfl rfl ⟨rfl, ble rfl⟩ rfl rfl) fun M15 hM16 => ?_
 have o17 := set_ne hM16 ne13 o12
 have o18 : M15[M2.length]? = some (.live ⟨.box, 68, 16, [(arC (cI .i8) 0 (Ar.rep 16 0))]⟩) := set_same hM16 o14
 obtain ⟨⟨y105, y106⟩, hr101, h⟩ := bind_some h
 refine Rn (hA h7 (hA h8 (hV (.loc M2.length 1 0 0) rfl hZ))) fun e19 h21 h22 h23 => sN (sq (sq (Rg (kx (mvO rfl) (Rn (hA h21 (hA h22 (hA h23 (hV (.int .i64 0) rfl hZ)))) fun e24 h26 h27 h28 h29 => sN (bl (Ev.loop (RS := impl_GrainFrom_b1_RS (([] : Mem).length) M2.length) (RR := impl_GrainFrom_b1_RR (([] : Mem).length) M2.length) (fun s r h e M hs => impl_GrainFrom_b1_ok (([] : Mem).length) M2.length ne13 s r h e M hs) hr101 ⟨h26, h27, h28, h29, o17, o18⟩ fun x e103 M104 hq102 => ?_)))))))
 clear h7 h8 h21 h22 h23
 obtain ⟨rfl, h107, h108, h109, o110, o111⟩ := hq102
 refine bE (sN (sq (Rg (kx (ldOA (cs' := (arC (cI .i8) 0 y106)) h109 o111 rfl rfl (ble rfl) rfl) (kx (mvO h107) (kw (stO h108 rfl o110 rfl rfl ⟨rfl, ble rfl⟩ rfl rfl) fun M112 hM113 => ?_))))))
 have o114 : M112[([] : Mem).length]? = some (.live ⟨.box, 68, 16, [(arC (cI .i8) 0 y106)]⟩) := set_same hM113 o110
 have o115 := set_ne hM113 (Ne.symm ne13) o111
 refine kx (mvO rfl) (Rn (hA h108 (hN rfl hZ)) fun e116 h118 h119 => sN (xx ?_))
 clear h107 h108 h109
 obtain rfl := si h
 exact eR (resC (ag := true) (sz := 16) ⟨by kernel_rfl, by kernel_rfl, by kernel_rfl⟩ (ldOA (cs' := (arC (cI .i8) 0 y106)) h118 o114 rfl rfl (ble rfl) rfl) (resT h119 res0)) rfl
abbrev impl_amountOf_b1_S := Int × Int
abbrev impl_amountOf_b1_R := Int
def impl_amountOf_b1_RS (a1 : Half) (s : impl_amountOf_b1_S) (e : Env) (M : Mem) : Prop := eget e 3 = .int .i64 s.1 ∧ eget e 7 = .sl none (a1.Notches.map Notch.c) ∧ eget e 8 = .int .i64 (a1.Notches.length : Int) ∧ eget e 9 = .int .i64 s.2
def impl_amountOf_b1_RR (a1 : Half) (g : impl_amountOf_b1_R) (x : Ex) (e : Env) (M : Mem) : Prop := x = .ext 0 ∧ eget e 3 = .int .i64 g
noncomputable def impl_amountOf_b1 (a1 : Half) : impl_amountOf_b1_S → Option (impl_amountOf_b1_S ⊕ impl_amountOf_b1_R) := fun (s1_1, s1_2) =>
 if (decide (s1_2 < (a1.Notches.length : Int))) = true then
  (rd a1.Notches s1_2).bind fun x42 =>
  (impl_worth (IntKind.i64.wrap x42.Kind)).bind fun r59 =>
  some (.inl ((IntKind.i64.wrap (s1_1 + r59)), (IntKind.i64.wrap (s1_2 + 1))))
 else
  some (.inr s1_1)
theorem impl_amountOf_b1_ok (a1 : Half) (s : impl_amountOf_b1_S) (r : impl_amountOf_b1_S ⊕ impl_amountOf_b1_R) (h : impl_amountOf_b1 a1 s = some r) (e : Env) (M : Mem) (hs : impl_amountOf_b1_RS a1 s e M) : Ev (fun k => (f95_l3 (CN k) k (prune [3, 7, 8, 9] e) M).bind fun q => some q) (bQ (impl_amountOf_b1_RS a1) (impl_amountOf_b1_RR a1) r) := by
 obtain ⟨s1_1, s1_2⟩ := s
 unfold impl_amountOf_b1 at h
 obtain ⟨h26, h28, h30, h32⟩ := hs
 generalize he25 : prune [3, 7, 8, 9] e = e24
 have h27 := envp he25.symm rfl h26
 have h29 := envp he25.symm rfl h28
 have h31 := envp he25.symm rfl h30
 have h33 := envp he25.symm rfl h32
 refine sq (Rg (kx (bLss h33 h31) (Rn (hV (.int .i64 s1_1) h27 (hV (.sl none (a1.Notches.map Notch.c)) h29 (hV (.int .i64 (a1.Notches.length : Int)) h31 (hV (.int .i64 s1_2) h33 (hN rfl hZ))))) fun e34 h36 h37 h38 h39 h40 => sN (sq ?_))))
 clear h27 h29 h31 h33
 rcases ite_some h with ⟨hb41, h⟩ | ⟨hb41, h⟩
 ·obtain ⟨x42, hx43, h⟩ := bind_some h
  refine cT h40 hb41 (xx (sN (sq (bl (sq (Rg (kx (ixS h37 h39 hx43 Notch.fl) (kx (ldPA rfl rfl rfl) (ku (alO zero170) fun M45 hM46 => ?_)))))))))
  have o47 : M45[M.length]? = some (.live ⟨.box, 170, 2, [[.int .i8 0, .int .i16 0]]⟩) := push_new hM46
  refine kw (stO rfl rfl o47 rfl rfl ⟨rfl, ble rfl⟩ rfl rfl) fun M48 hM49 => ?_
  have o50 : M48[M.length]? = some (.live ⟨.box, 170, 2, [[.int .i8 x42.Kind, .int .i16 x42.At]]⟩) := set_same hM49 o47
  obtain ⟨r59, hx58, h⟩ := bind_some h
  refine Rn (hA h36 (hV (.loc M.length 1 0 0) rfl (hA h37 (hA h38 (hA h39 hZ))))) fun e51 h53 h54 h55 h56 h57 => sN (Rg (kx (mvO h53) (kx (faO h54 o50 rfl) (kx (ldO rfl o50 rfl rfl rfl) (kx (cvI rfl) (kc (cl (v := .int .i64 r59) rfl rfl (cns rfl rfl) rfl (impl_worth_ok (IntKind.i64.wrap x42.Kind) _ hx58) nm) (kx (bAdd rfl rfl) (kx (mvO rfl) (Rn (hN rfl (hA h55 (hA h56 (hA h57 hZ)))) fun e60 h62 h63 h64 h65 => bN (sN (Rg (kx (bAdd h65 rfl) (kx (mvO rfl) (Rn (hA h62 (hA h63 (hA h64 (hN rfl hZ)))) fun e66 h68 h69 h70 h71 => ?_))))))))))))))
  clear h36 h37 h38 h39 h40 h54 h55 h56 h57 h62 h63 h64
  obtain rfl := si h
  exact qN ⟨h68, h69, h70, h71⟩
 refine cF h40 hb41 (xx (sE ?_))
 obtain rfl := si h
 exact qE ⟨rfl, h36⟩
noncomputable def impl_amountOf (a1 : Half) : Option Int :=
 (Lw (impl_amountOf_b1 a1) (0, 0)).bind fun y77 =>
 some y77
def impl_amountOf_enc (r : Int) : AV := .int .i64 r
theorem impl_amountOf_ok (a1 : Half) (r : Int) (h : impl_amountOf a1 = some r) : Ev (fun k => CN k 95 [.agg (.bool a1.Stock :: (.sl none (a1.Notches.map Notch.c) :: ((arC (cI .i8) 0 a1.Grain) ++ ([] : List AV))))] []) (fun p => rRes p.2 p.1 = impl_amountOf_enc r) := by
 unfold impl_amountOf at h
 obtain ⟨y77, hr73, h⟩ := bind_some h
 refine Ev.enter (F := fun k => f95 (CN k) k) (fun k => callN_eq rfl Try.func95 rfl rfl rfl (by decide +kernel) (f95_eq _ _)) (sq (Rg (kx (bxI rfl rfl ⟨rfl, rfl, by decide⟩) (kx (mvO rfl) (Rn (hN rfl hZ) fun e1 h3 => sN (sq (Rg (kx (mvO rfl) (Rn (hA h3 (hV (.int .i64 0) rfl hZ)) fun e4 h6 h7 => sN (sq (sq (Rg (kx (faP h6 ⟨ble rfl, blt rfl⟩ rfl) (kx (ldP rfl rfl) (kx (lnS Try.underlying66 rfl) (kx (mvO rfl) (Rn (hA h7 (hN rfl (hN rfl (hV (.int .i64 0) rfl hZ)))) fun e8 h10 h11 h12 h13 => sN (bl (Ev.loop (RS := impl_amountOf_b1_RS a1) (RR := impl_amountOf_b1_RR a1) (fun s r h e M hs => impl_amountOf_b1_ok a1 s r h e M hs) hr73 ⟨h10, h11, h12, h13⟩ fun x e75 M76 hq74 => ?_)))))))))))))))))))
 clear h3 h6 h7
 obtain ⟨rfl, h78⟩ := hq74
 refine bE (sN (sq (Rg (kx (mvO h78) (kx (mvO rfl) (Rn (hN rfl hZ) fun e79 h81 => sN (xx ?_)))))))
 clear h78
 obtain rfl := si h
 exact eR (resT h81 res0) rfl
def impl_ValidChain_c1_Q (a1 : Chain) (g : Bool) (q : Out) : Prop := q.1 = .nrm ∧ eget q.2.1 1 = .pt none (.str a1.Debtor :: (.bool a1.Stock.Stock :: (.sl none (a1.Stock.Notches.map Notch.c) :: ((arC (cI .i8) 0 a1.Stock.Grain) ++ ((.sl none (a1.Marks.map Mark.c) :: []) : List AV))))) ∧ eget q.2.1 33 = .bool g
abbrev impl_ValidChain_b1_S := (List UInt8) × Int
abbrev impl_ValidChain_b1_R := Unit ⊕ Unit
def impl_ValidChain_b1_RS (a1 : Chain) (s : impl_ValidChain_b1_S) (e : Env) (M : Mem) : Prop := eget e 3 = .str s.1 ∧ eget e 37 = .sl none (a1.Marks.map Mark.c) ∧ eget e 38 = .int .i64 (a1.Marks.length : Int) ∧ eget e 39 = .int .i64 s.2
def impl_ValidChain_b1_RR (a1 : Chain) (r : impl_ValidChain_b1_R) (x : Ex) (e : Env) (M : Mem) : Prop :=
  match r with
  | (.inl g) => x = .ret ∧ eget e 2 = .bool false
  | (.inr g) => x = .ext 0 ∧ True
noncomputable def impl_ValidChain_b1 (a1 : Chain) : impl_ValidChain_b1_S → Option (impl_ValidChain_b1_S ⊕ impl_ValidChain_b1_R) := fun (s1_1, s1_2) =>
 if (decide (s1_2 < (a1.Marks.length : Int))) = true then
  (rd a1.Marks s1_2).bind fun x79 =>
  (impl_isName x79.Holder).bind fun r96 =>
  if r96 = true then
   if (x79.Holder == s1_1) = true then
    some (.inr (.inl ()))
   else
    some (.inl (x79.Holder, (IntKind.i64.wrap (s1_2 + 1))))
  else
   some (.inr (.inl ()))
 else
  some (.inr (.inr ()))
theorem impl_ValidChain_b1_ok (a1 : Chain) (s : impl_ValidChain_b1_S) (r : impl_ValidChain_b1_S ⊕ impl_ValidChain_b1_R) (h : impl_ValidChain_b1 a1 s = some r) (e : Env) (M : Mem) (hs : impl_ValidChain_b1_RS a1 s e M) : Ev (fun k => (f94_l5 (CN k) k (prune [3, 37, 38, 39] e) M).bind fun q => some q) (bQ (impl_ValidChain_b1_RS a1) (impl_ValidChain_b1_RR a1) r) := by
 obtain ⟨s1_1, s1_2⟩ := s
 unfold impl_ValidChain_b1 at h
 obtain ⟨h63, h65, h67, h69⟩ := hs
 generalize he62 : prune [3, 37, 38, 39] e = e61
 have h64 := envp he62.symm rfl h63
 have h66 := envp he62.symm rfl h65
 have h68 := envp he62.symm rfl h67
 have h70 := envp he62.symm rfl h69
 refine sq (Rg (kx (bLss h70 h68) (Rn (hV (.str s1_1) h64 (hV (.sl none (a1.Marks.map Mark.c)) h66 (hV (.int .i64 (a1.Marks.length : Int)) h68 (hV (.int .i64 s1_2) h70 (hN rfl hZ))))) fun e71 h73 h74 h75 h76 h77 => sN (sq ?_))))
 clear h64 h66 h68 h70
 rcases ite_some h with ⟨hb78, h⟩ | ⟨hb78, h⟩
 ·obtain ⟨x79, hx80, h⟩ := bind_some h
  refine cT h77 hb78 (xx (sN (sq (bl (sq (Rg (kx (ixS h74 h76 hx80 Mark.fl) (kx (ldPA rfl rfl rfl) (ku (alO zero173) fun M82 hM83 => ?_)))))))))
  have o84 : M82[M.length]? = some (.live ⟨.box, 173, 2, [[.str ([] : List UInt8), .int .u32 0]]⟩) := push_new hM83
  refine kw (stO rfl rfl o84 rfl rfl ⟨rfl, ble rfl⟩ rfl rfl) fun M85 hM86 => ?_
  have o87 : M85[M.length]? = some (.live ⟨.box, 173, 2, [[.str x79.Holder, .int .u32 x79.Seal]]⟩) := set_same hM86 o84
  obtain ⟨r96, hx95, h⟩ := bind_some h
  refine Rn (hA h73 (hV (.loc M.length 1 0 0) rfl (hA h74 (hA h75 (hA h76 hZ))))) fun e88 h90 h91 h92 h93 h94 => sN (sq (sq (Rg (kx (faO h91 o87 rfl) (kx (ldO rfl o87 rfl rfl rfl) (kc (cl (v := .bool r96) rfl rfl (cns rfl rfl) rfl (impl_isName_ok x79.Holder _ hx95) nm) (kx (uNot rfl) (kx (mvO rfl) ?_))))))))
  clear h73 h74 h75 h76 h77
  rcases ite_some h with ⟨hb97, h⟩ | ⟨hb97, h⟩
  ·refine kx (guF rfl (congrArg Bool.not hb97) (faO h91 o87 rfl)) (kx (guF rfl (congrArg Bool.not hb97) (ldO rfl o87 rfl rfl rfl)) (kx (guF rfl (congrArg Bool.not hb97) (mvO h90)) (kx (guF rfl (congrArg Bool.not hb97) (sEql rfl rfl)) (kx (pkF rfl (congrArg Bool.not hb97) rfl) (Rn (hA h91 (hA h92 (hA h93 (hA h94 (hN rfl hZ))))) fun e98 h100 h101 h102 h103 h104 => sN ?_)))))
   clear h90 h91 h92 h93 h94
   rcases ite_some h with ⟨hb105, h⟩ | ⟨hb105, h⟩
   ·refine cT h104 hb105 (sq (Rg (kx (mvO rfl) (Rn (hV (.bool false) rfl hZ) fun e106 h108 => sN (xx (sR (bR (sR ?_))))))))
    clear h100 h101 h102 h103 h104
    obtain rfl := si h
    exact qR ⟨rfl, h108⟩
   refine cF h104 hb105 (xx (sN (Rg (kx (faO h100 o87 rfl) (kx (ldO rfl o87 rfl rfl rfl) (kx (mvO rfl) (Rn (hN rfl (hA h101 (hA h102 (hA h103 hZ)))) fun e109 h111 h112 h113 h114 => bN (sN (Rg (kx (bAdd h114 rfl) (kx (mvO rfl) (Rn (hA h111 (hA h112 (hA h113 (hN rfl hZ)))) fun e115 h117 h118 h119 h120 => ?_))))))))))))
   clear h100 h101 h102 h103 h104 h111 h112 h113
   obtain rfl := si h
   exact qN ⟨h117, h118, h119, h120⟩
  refine kx (gsF rfl (congrArg Bool.not hb97)) (kx (gsF rfl (congrArg Bool.not hb97)) (kx (gsF rfl (congrArg Bool.not hb97)) (kx (gsF rfl (congrArg Bool.not hb97)) (kx (pkT rfl (congrArg Bool.not hb97) rfl) (Rn (hA h91 (hA h92 (hA h93 (hA h94 (hV (.bool true) rfl hZ))))) fun e121 h123 h124 h125 h126 h127 => sN (cT h127 rfl (sq (Rg (kx (mvO rfl) (Rn (hV (.bool false) rfl hZ) fun e128 h130 => sN (xx (sR (bR (sR ?_))))))))))))))
  clear h90 h91 h92 h93 h94 h123 h124 h125 h126 h127
  obtain rfl := si h
  exact qR ⟨rfl, h130⟩
 refine cF h77 hb78 (xx (sE ?_))
 obtain rfl := si h
 exact qE ⟨rfl, trivial⟩
noncomputable def impl_ValidChain (a1 : Chain) : Option Bool :=
 ((impl_isName a1.Debtor).bind fun r5 =>
 if r5 = true then
  (impl_ValidHalf a1.Stock).bind fun r8 =>
  if r8 = true then
   if a1.Stock.Stock = true then
    if (decide ((a1.Marks.length : Int) < 1)) = true then
     some true
    else
     some (decide ((a1.Marks.length : Int) > 30))
   else
    some true
  else
   some true
 else
  some true).bind fun y34 =>
 if y34 = true then
  some false
 else
  (Lw (impl_ValidChain_b1 a1) (a1.Debtor, 0)).bind fun r => match r with
  | (.inl _) =>
   some false
  | (.inr _) =>
   some true
def impl_ValidChain_enc (r : Bool) : AV := .bool r
theorem impl_ValidChain_ok (a1 : Chain) (r : Bool) (h : impl_ValidChain a1 = some r) : Ev (fun k => CN k 94 [.agg (.str a1.Debtor :: (.bool a1.Stock.Stock :: (.sl none (a1.Stock.Notches.map Notch.c) :: ((arC (cI .i8) 0 a1.Stock.Grain) ++ ((.sl none (a1.Marks.map Mark.c) :: []) : List AV)))))] []) (fun p => rRes p.2 p.1 = impl_ValidChain_enc r) := by
 unfold impl_ValidChain at h
 obtain ⟨r143, hr144, h⟩ := bind_some h
 refine Ev.enter (F := fun k => f94 (CN k) k) (fun k => callN_eq rfl Try.func94 rfl rfl rfl (by decide +kernel) (f94_eq _ _)) (sq (Rg (kx (bxI rfl rfl ⟨rfl, rfl, by decide⟩) (kx (mvO rfl) (Rn (hN rfl hZ) fun e1 h3 => sN (sq (sq ?_)))))))
 refine Ev.cut (Q1 := impl_ValidChain_c1_Q a1 r143) (by
     have h := hr144
     obtain ⟨r5, hx4, h⟩ := bind_some h
     refine Rg (kx (faP h3 ⟨ble rfl, blt rfl⟩ rfl) (kx (ldP rfl rfl) (kc (cl (v := .bool r5) rfl rfl (cns rfl rfl) rfl (impl_isName_ok a1.Debtor _ hx4) nm) (kx (uNot rfl) (kx (mvO rfl) ?_)))))
     rcases ite_some h with ⟨hb6, h⟩ | ⟨hb6, h⟩
     ·obtain ⟨r8, hx7, h⟩ := bind_some h
      refine kx (guF rfl (congrArg Bool.not hb6) (faP h3 ⟨ble rfl, blt rfl⟩ rfl)) (kx (guF rfl (congrArg Bool.not hb6) (ldPA rfl rfl rfl)) (kc (Ev.guF rfl (congrArg Bool.not hb6) (cl (v := .bool r8) rfl rfl (cns rfl rfl) rfl (impl_ValidHalf_ok a1.Stock _ hx7) nm)) (kx (guF rfl (congrArg Bool.not hb6) (uNot rfl)) (kx (pkF rfl (congrArg Bool.not hb6) rfl) (kx (mvO rfl) ?_)))))
      rcases ite_some h with ⟨hb9, h⟩ | ⟨hb9, h⟩
      ·refine kx (guF rfl (congrArg Bool.not hb9) (faP h3 ⟨ble rfl, blt rfl⟩ rfl)) (kx (guF rfl (congrArg Bool.not hb9) (faP rfl ⟨ble rfl, blt rfl⟩ rfl)) (kx (guF rfl (congrArg Bool.not hb9) (ldP rfl rfl)) (kx (guF rfl (congrArg Bool.not hb9) (uNot rfl)) (kx (pkF rfl (congrArg Bool.not hb9) rfl) (kx (mvO rfl) ?_)))))
       rcases ite_some h with ⟨hb10, h⟩ | ⟨hb10, h⟩
       ·refine kx (guF rfl (congrArg Bool.not hb10) (faP h3 ⟨ble rfl, blt rfl⟩ rfl)) (kx (guF rfl (congrArg Bool.not hb10) (ldP rfl rfl)) (kx (guF rfl (congrArg Bool.not hb10) (lnS Try.underlying71 rfl)) (kx (guF rfl (congrArg Bool.not hb10) (bLss rfl rfl)) (kx (pkF rfl (congrArg Bool.not hb10) rfl) (kx (mvO rfl) ?_)))))
        rcases ite_some h with ⟨hb11, h⟩ | ⟨hb11, h⟩
        ·refine kx (gsF rfl hb11) (kx (gsF rfl hb11) (kx (gsF rfl hb11) (kx (gsF rfl hb11) (kx (pkT rfl hb11 rfl) (Rn (hA h3 (hV (.bool true) rfl hZ)) fun e12 h14 h15 => ?_)))))
         clear h3
         obtain rfl := si h
         exact kd (show impl_ValidChain_c1_Q a1 _ _ from ⟨rfl, h14, h15⟩)
        refine kx (guF rfl hb11 (faP h3 ⟨ble rfl, blt rfl⟩ rfl)) (kx (guF rfl hb11 (ldP rfl rfl)) (kx (guF rfl hb11 (lnS Try.underlying71 rfl)) (kx (guF rfl hb11 (bGtr rfl rfl)) (kx (pkF rfl hb11 rfl) (Rn (hA h3 (hN rfl hZ)) fun e16 h18 h19 => ?_)))))
        clear h3
        obtain rfl := si h
        exact kd (show impl_ValidChain_c1_Q a1 _ _ from ⟨rfl, h18, h19⟩)
       refine kx (gsF rfl (congrArg Bool.not hb10)) (kx (gsF rfl (congrArg Bool.not hb10)) (kx (gsF rfl (congrArg Bool.not hb10)) (kx (gsF rfl (congrArg Bool.not hb10)) (kx (pkT rfl (congrArg Bool.not hb10) rfl) (kx (mvO rfl) (kx (gsF rfl rfl) (kx (gsF rfl rfl) (kx (gsF rfl rfl) (kx (gsF rfl rfl) (kx (pkT rfl rfl rfl) (Rn (hA h3 (hV (.bool true) rfl hZ)) fun e20 h22 h23 => ?_)))))))))))
       clear h3
       obtain rfl := si h
       exact kd (show impl_ValidChain_c1_Q a1 _ _ from ⟨rfl, h22, h23⟩)
      refine kx (gsF rfl (congrArg Bool.not hb9)) (kx (gsF rfl (congrArg Bool.not hb9)) (kx (gsF rfl (congrArg Bool.not hb9)) (kx (gsF rfl (congrArg Bool.not hb9)) (kx (pkT rfl (congrArg Bool.not hb9) rfl) (kx (mvO rfl) (kx (gsF rfl rfl) (kx (gsF rfl rfl) (kx (gsF rfl rfl) (kx (gsF rfl rfl) (kx (pkT rfl rfl rfl) (kx (mvO rfl) (kx (gsF rfl rfl) (kx (gsF rfl rfl) (kx (gsF rfl rfl) (kx (gsF rfl rfl) (kx (pkT rfl rfl rfl) (Rn (hA h3 (hV (.bool true) rfl hZ)) fun e24 h26 h27 => ?_)))))))))))))))))
      clear h3
      obtain rfl := si h
      exact kd (show impl_ValidChain_c1_Q a1 _ _ from ⟨rfl, h26, h27⟩)
     refine kx (gsF rfl (congrArg Bool.not hb6)) (kx (gsF rfl (congrArg Bool.not hb6)) (kc (Ev.gsF rfl (congrArg Bool.not hb6)) (kx (gsF rfl (congrArg Bool.not hb6)) (kx (pkT rfl (congrArg Bool.not hb6) rfl) (kx (mvO rfl) (kx (gsF rfl rfl) (kx (gsF rfl rfl) (kx (gsF rfl rfl) (kx (gsF rfl rfl) (kx (pkT rfl rfl rfl) (kx (mvO rfl) (kx (gsF rfl rfl) (kx (gsF rfl rfl) (kx (gsF rfl rfl) (kx (gsF rfl rfl) (kx (pkT rfl rfl rfl) (kx (mvO rfl) (kx (gsF rfl rfl) (kx (gsF rfl rfl) (kx (gsF rfl rfl) (kx (gsF rfl rfl) (kx (pkT rfl rfl rfl) (Rn (hA h3 (hV (.bool true) rfl hZ)) fun e28 h30 h31 => ?_)))))))))))))))))))))))
     clear h3
     obtain rfl := si h
     exact kd (show impl_ValidChain_c1_Q a1 _ _ from ⟨rfl, h30, h31⟩)) ?_
 revert h hr144
 revert r143
 intro y34 hr144 h
 intro x e32 M33 hq142
 obtain ⟨rfl, h35, h36⟩ := hq142
 refine sN ?_
 rcases ite_some h with ⟨hb37, h⟩ | ⟨hb37, h⟩
 ·refine cT h36 hb37 (sq (Rg (kx (mvO rfl) (Rn (hV (.bool false) rfl hZ) fun e38 h40 => sN (xx (sR ?_))))))
  clear h35 h36
  obtain rfl := si h
  exact eR (resT h40 res0) rfl
 obtain ⟨r131, hr132, h⟩ := bind_some h
 refine cF h36 hb37 (xx (sN (sq (Rg (kx (faP h35 ⟨ble rfl, blt rfl⟩ rfl) (kx (ldP rfl rfl) (kx (mvO rfl) (Rn (hV (.pt none (.str a1.Debtor :: (.bool a1.Stock.Stock :: (.sl none (a1.Stock.Notches.map Notch.c) :: ((arC (cI .i8) 0 a1.Stock.Grain) ++ ((.sl none (a1.Marks.map Mark.c) :: []) : List AV)))))) h35 (hN rfl hZ)) fun e41 h43 h44 => sN (sq (sq (Rg (kx (faP h43 ⟨ble rfl, blt rfl⟩ rfl) (kx (ldP rfl rfl) (kx (lnS Try.underlying71 rfl) (kx (mvO rfl) (Rn (hA h44 (hN rfl (hN rfl (hV (.int .i64 0) rfl hZ)))) fun e45 h47 h48 h49 h50 => sN (bl ?_)))))))))))))))))
 clear h35 h36 h43 h44
 rcases r131 with _ | _
 ·refine Ev.loop (RS := impl_ValidChain_b1_RS a1) (RR := impl_ValidChain_b1_RR a1) (fun s r h e M hs => impl_ValidChain_b1_ok a1 s r h e M hs) hr132 ⟨h47, h48, h49, h50⟩ fun x e134 M135 hq133 => ?_
  obtain ⟨rfl, h136⟩ := hq133
  refine bR (sR ?_)
  obtain rfl := si h
  exact eR (resT h136 res0) rfl
 refine Ev.loop (RS := impl_ValidChain_b1_RS a1) (RR := impl_ValidChain_b1_RR a1) (fun s r h e M hs => impl_ValidChain_b1_ok a1 s r h e M hs) hr132 ⟨h47, h48, h49, h50⟩ fun x e137 M138 hq133 => ?_
 obtain ⟨rfl, _⟩ := hq133
 refine bE (sN (sq (Rg (kx (mvO rfl) (Rn (hV (.bool true) rfl hZ) fun e139 h141 => sN (xx ?_))))))
 obtain rfl := si h
 exact eR (resT h141 res0) rfl
abbrev spec_l01Sum_b1_S := Int × Int
abbrev spec_l01Sum_b1_R := Int
def spec_l01Sum_b1_RS (a1 : List Notch) (s : spec_l01Sum_b1_S) (e : Env) (M : Mem) : Prop := eget e 0 = .sl none (a1.map Notch.c) ∧ eget e 3 = .int .i64 s.1 ∧ eget e 4 = .int .i64 s.2
def spec_l01Sum_b1_RR (a1 : List Notch) (g : spec_l01Sum_b1_R) (x : Ex) (e : Env) (M : Mem) : Prop := x = .ext 0 ∧ eget e 3 = .int .i64 g
noncomputable def spec_l01Sum_b1 (a1 : List Notch) : spec_l01Sum_b1_S → Option (spec_l01Sum_b1_S ⊕ spec_l01Sum_b1_R) := fun (s1_1, s1_2) =>
 if (decide (s1_2 < (a1.length : Int))) = true then
  (spec_l01Worths).bind fun r37 =>
  (rd a1 s1_2).bind fun x38 =>
  (rd r37 x38.Kind).bind fun x40 =>
  some (.inl ((IntKind.i64.wrap (s1_1 + x40)), (IntKind.i64.wrap (s1_2 + 1))))
 else
  some (.inr s1_1)
theorem spec_l01Sum_b1_ok (a1 : List Notch) (s : spec_l01Sum_b1_S) (r : spec_l01Sum_b1_S ⊕ spec_l01Sum_b1_R) (h : spec_l01Sum_b1 a1 s = some r) (e : Env) (M : Mem) (hs : spec_l01Sum_b1_RS a1 s e M) : Ev (fun k => (f93_l3 (CN k) k (prune [0, 3, 4] e) M).bind fun q => some q) (bQ (spec_l01Sum_b1_RS a1) (spec_l01Sum_b1_RR a1) r) := by
 obtain ⟨s1_1, s1_2⟩ := s
 unfold spec_l01Sum_b1 at h
 obtain ⟨h23, h25, h27⟩ := hs
 generalize he22 : prune [0, 3, 4] e = e21
 have h24 := envp he22.symm rfl h23
 have h26 := envp he22.symm rfl h25
 have h28 := envp he22.symm rfl h27
 refine sq (sq (Rg (kx (mvO h28) (kx (mvO h24) (kx (lnS Try.underlying66 rfl) (kx (bLss rfl rfl) (Rn (hV (.sl none (a1.map Notch.c)) h24 (hV (.int .i64 s1_1) h26 (hV (.int .i64 s1_2) h28 (hN rfl hZ)))) fun e29 h31 h32 h33 h34 => sN ?_)))))))
 clear h24 h26 h28
 rcases ite_some h with ⟨hb35, h⟩ | ⟨hb35, h⟩
 ·obtain ⟨r37, hx36, h⟩ := bind_some h
  obtain ⟨x38, hx39, h⟩ := bind_some h
  obtain ⟨x40, hx41, h⟩ := bind_some h
  refine cT h34 hb35 (xx (sN (sq (bl (Rd (kf (mvO h32) (fc (clO (v := .sl none (r37.map (cI .i64))) rfl rfl rfl rfl (spec_l01Worths_ok  _ hx36)) (kf (mvO h31) (kf (mvO h33) (kf (ixS rfl rfl hx39 Notch.fl) (kf (faP rfl ⟨ble rfl, blt rfl⟩ rfl) (kf (ldP rfl rfl) (kf (ixS rfl rfl hx41 (cI_fl _)) (kf (ldP rfl rfl) (kf (bAdd rfl rfl) (kf (mvO rfl) (fZ (Rn (hA h31 (hN rfl (hA h33 hZ))) fun e42 h44 h45 h46 => bN (sN (Rg (kx (mvO h46) (kx (bAdd rfl rfl) (kx (mvO rfl) (Rn (hA h44 (hA h45 (hN rfl hZ))) fun e47 h49 h50 h51 => ?_))))))))))))))))))))))))
  clear h31 h33 h34 h44 h45
  obtain rfl := si h
  exact qN ⟨h49, h50, h51⟩
 refine cF h34 hb35 (xx (sE ?_))
 obtain rfl := si h
 exact qE ⟨rfl, h32⟩
noncomputable def spec_l01Sum (a1 : List Notch) : Option Int :=
 (Lw (spec_l01Sum_b1 a1) (0, 0)).bind fun y57 =>
 some y57
def spec_l01Sum_enc (r : Int) : AV := .int .i64 r
theorem spec_l01Sum_ok (a1 : List Notch) (r : Int) (h : spec_l01Sum a1 = some r) : Ev (fun k => CN k 93 [.sl none (a1.map Notch.c)] []) (fun p => rRes p.2 p.1 = spec_l01Sum_enc r) := by
 unfold spec_l01Sum at h
 obtain ⟨y57, hr53, h⟩ := bind_some h
 refine Ev.enter (F := fun k => f93 (CN k) k) (fun k => callN_eq rfl Try.func93 rfl rfl rfl (by decide +kernel) (f93_eq _ _)) (sq (Rg (kx (mvO rfl) (Rn (hN rfl hZ) fun e1 h3 => sN (sq (Rg (kx (mvO rfl) (Rn (hA h3 (hV (.int .i64 0) rfl hZ)) fun e4 h6 h7 => sN (sq (sq (Rg (kx (mvO rfl) (Rn (hA h6 (hA h7 (hV (.int .i64 0) rfl hZ))) fun e8 h10 h11 h12 => sN (bl (Ev.loop (RS := spec_l01Sum_b1_RS a1) (RR := spec_l01Sum_b1_RR a1) (fun s r h e M hs => spec_l01Sum_b1_ok a1 s r h e M hs) hr53 ⟨h10, h11, h12⟩ fun x e55 M56 hq54 => ?_)))))))))))))))
 clear h3 h6 h7
 obtain ⟨rfl, h58⟩ := hq54
 refine bE (sN (sq (Rg (kx (mvO h58) (kx (mvO rfl) (Rn (hN rfl hZ) fun e59 h61 => sN (xx ?_)))))))
 clear h58
 obtain rfl := si h
 exact eR (resT h61 res0) rfl
abbrev spec_l00Same_b1_S := Int
abbrev spec_l00Same_b1_R := Unit ⊕ Unit
def spec_l00Same_b1_RS (a1 : List Int) (a2 : List Int) (s : spec_l00Same_b1_S) (e : Env) (M : Mem) : Prop := eget e 0 = .sl none (a1.map (cI .i64)) ∧ eget e 1 = .sl none (a2.map (cI .i64)) ∧ eget e 5 = .int .i64 s
def spec_l00Same_b1_RR (a1 : List Int) (a2 : List Int) (r : spec_l00Same_b1_R) (x : Ex) (e : Env) (M : Mem) : Prop :=
  match r with
  | (.inl g) => x = .ret ∧ eget e 4 = .bool false
  | (.inr g) => x = .ext 0 ∧ True
noncomputable def spec_l00Same_b1 (a1 : List Int) (a2 : List Int) : spec_l00Same_b1_S → Option (spec_l00Same_b1_S ⊕ spec_l00Same_b1_R) := fun s1_1 =>
 if (decide (s1_1 < (a1.length : Int))) = true then
  (rd a1 s1_1).bind fun x42 =>
  (rd a2 s1_1).bind fun x44 =>
  if (x42 != x44) = true then
   some (.inr (.inl ()))
  else
   some (.inl (IntKind.i64.wrap (s1_1 + 1)))
 else
  some (.inr (.inr ()))
theorem spec_l00Same_b1_ok (a1 : List Int) (a2 : List Int) (s : spec_l00Same_b1_S) (r : spec_l00Same_b1_S ⊕ spec_l00Same_b1_R) (h : spec_l00Same_b1 a1 a2 s = some r) (e : Env) (M : Mem) (hs : spec_l00Same_b1_RS a1 a2 s e M) : Ev (fun k => (f60_l4 (CN k) k (prune [0, 1, 5] e) M).bind fun q => some q) (bQ (spec_l00Same_b1_RS a1 a2) (spec_l00Same_b1_RR a1 a2) r) := by
 revert h hs
 revert s
 intro s1_1 h hs
 unfold spec_l00Same_b1 at h
 obtain ⟨h29, h31, h33⟩ := hs
 generalize he28 : prune [0, 1, 5] e = e27
 have h30 := envp he28.symm rfl h29
 have h32 := envp he28.symm rfl h31
 have h34 := envp he28.symm rfl h33
 refine sq (sq (Rg (kx (mvO h34) (kx (mvO h30) (kx (lnS Try.underlying24 rfl) (kx (bLss rfl rfl) (Rn (hV (.sl none (a1.map (cI .i64))) h30 (hV (.sl none (a2.map (cI .i64))) h32 (hV (.int .i64 s1_1) h34 (hN rfl hZ)))) fun e35 h37 h38 h39 h40 => sN ?_)))))))
 clear h30 h32 h34
 rcases ite_some h with ⟨hb41, h⟩ | ⟨hb41, h⟩
 ·obtain ⟨x42, hx43, h⟩ := bind_some h
  obtain ⟨x44, hx45, h⟩ := bind_some h
  refine cT h40 hb41 (xx (sN (sq (bl (sq (Rd (kf (mvO h37) (kf (mvO h39) (kf (ixS rfl rfl hx43 (cI_fl _)) (kf (ldP rfl rfl) (kf (mvO h38) (kf (mvO h39) (kf (ixS rfl rfl hx45 (cI_fl _)) (kf (ldP rfl rfl) (kf (bNeq rfl rfl) (fZ (Rn (hA h37 (hA h38 (hA h39 (hN rfl hZ)))) fun e46 h48 h49 h50 h51 => sN ?_)))))))))))))))))
  clear h37 h38 h39 h40
  rcases ite_some h with ⟨hb52, h⟩ | ⟨hb52, h⟩
  ·refine cT h51 hb52 (sq (Rg (kx (mvO rfl) (Rn (hV (.bool false) rfl hZ) fun e53 h55 => sN (xx (bR (sR ?_)))))))
   clear h48 h49 h50 h51
   obtain rfl := si h
   exact qR ⟨rfl, h55⟩
  refine cF h51 hb52 (xx (bN (sN (Rg (kx (mvO h50) (kx (bAdd rfl rfl) (kx (mvO rfl) (Rn (hA h48 (hA h49 (hN rfl hZ))) fun e56 h58 h59 h60 => ?_))))))))
  clear h48 h49 h51
  obtain rfl := si h
  exact qN ⟨h58, h59, h60⟩
 refine cF h40 hb41 (xx (sE ?_))
 obtain rfl := si h
 exact qE ⟨rfl, trivial⟩
noncomputable def spec_l00Same (a1 : List Int) (a2 : List Int) : Option Bool :=
 if ((a1.length : Int) != (a2.length : Int)) = true then
  some false
 else
  (Lw (spec_l00Same_b1 a1 a2) 0).bind fun r => match r with
  | (.inl _) =>
   some false
  | (.inr _) =>
   some true
def spec_l00Same_enc (r : Bool) : AV := .bool r
theorem spec_l00Same_ok (a1 : List Int) (a2 : List Int) (r : Bool) (h : spec_l00Same a1 a2 = some r) : Ev (fun k => CN k 60 [.sl none (a1.map (cI .i64)), .sl none (a2.map (cI .i64))] []) (fun p => rRes p.2 p.1 = spec_l00Same_enc r) := by
 unfold spec_l00Same at h
 refine Ev.enter (F := fun k => f60 (CN k) k) (fun k => callN_eq rfl Try.func60 rfl rfl rfl (by decide +kernel) (f60_eq _ _)) (sq (Rg (kx (mvO rfl) (Rn (hN rfl (hN rfl hZ)) fun e1 h3 h4 => sN (sq (sq (Rg (kx (mvO h3) (kx (lnS Try.underlying24 rfl) (kx (mvO h4) (kx (lnS Try.underlying24 rfl) (kx (bNeq rfl rfl) (Rn (hA h3 (hA h4 (hN rfl hZ))) fun e5 h7 h8 h9 => sN ?_)))))))))))))
 clear h3 h4
 rcases ite_some h with ⟨hb10, h⟩ | ⟨hb10, h⟩
 ·refine cT h9 hb10 (sq (Rg (kx (mvO rfl) (Rn (hV (.bool false) rfl hZ) fun e11 h13 => sN (xx (sR ?_))))))
  clear h7 h8 h9
  obtain rfl := si h
  exact eR (resT h13 res0) rfl
 obtain ⟨r61, hr62, h⟩ := bind_some h
 refine cF h9 hb10 (xx (sN (sq (sq (Rg (kx (mvO rfl) (Rn (hA h7 (hA h8 (hV (.int .i64 0) rfl hZ))) fun e14 h16 h17 h18 => sN (bl ?_))))))))
 clear h7 h8 h9
 rcases r61 with _ | _
 ·refine Ev.loop (RS := spec_l00Same_b1_RS a1 a2) (RR := spec_l00Same_b1_RR a1 a2) (fun s r h e M hs => spec_l00Same_b1_ok a1 a2 s r h e M hs) hr62 ⟨h16, h17, h18⟩ fun x e64 M65 hq63 => ?_
  obtain ⟨rfl, h66⟩ := hq63
  refine bR (sR ?_)
  obtain rfl := si h
  exact eR (resT h66 res0) rfl
 refine Ev.loop (RS := spec_l00Same_b1_RS a1 a2) (RR := spec_l00Same_b1_RR a1 a2) (fun s r h e M hs => spec_l00Same_b1_ok a1 a2 s r h e M hs) hr62 ⟨h16, h17, h18⟩ fun x e67 M68 hq63 => ?_
 obtain ⟨rfl, _⟩ := hq63
 refine bE (sN (sq (Rg (kx (mvO rfl) (Rn (hV (.bool true) rfl hZ) fun e69 h71 => sN (xx ?_))))))
 obtain rfl := si h
 exact eR (resT h71 res0) rfl
noncomputable def spec_SameHalf (a1 : Half) (a2 : Half) : Option Bool :=
 (spec_l01Same a1 a2).bind fun r6 =>
 some r6
def spec_SameHalf_enc (r : Bool) : AV := .bool r
theorem spec_SameHalf_ok (a1 : Half) (a2 : Half) (r : Bool) (h : spec_SameHalf a1 a2 = some r) : Ev (fun k => CN k 49 [.agg (.bool a1.Stock :: (.sl none (a1.Notches.map Notch.c) :: ((arC (cI .i8) 0 a1.Grain) ++ ([] : List AV)))), .agg (.bool a2.Stock :: (.sl none (a2.Notches.map Notch.c) :: ((arC (cI .i8) 0 a2.Grain) ++ ([] : List AV))))] []) (fun p => rRes p.2 p.1 = spec_SameHalf_enc r) := by
 unfold spec_SameHalf at h
 obtain ⟨r6, hx5, h⟩ := bind_some h
 refine Ev.enter (F := fun k => f49 (CN k) k) (fun k => callN_eq rfl Try.func49 rfl rfl rfl (by decide +kernel) (f49_eq _ _)) (sq (Rg (kx (bxI rfl rfl ⟨rfl, rfl, by decide⟩) (kx (bxI rfl rfl ⟨rfl, rfl, by decide⟩) (kx (mvO rfl) (Rn (hN rfl (hN rfl hZ)) fun e1 h3 h4 => sN (sq (Rg (kc (cl (v := .bool r6) rfl rfl (cns h3 (cns h4 rfl)) rfl (spec_l01Same_ok a1 a2 _ hx5) nm) (kx (mvO rfl) (Rn (hN rfl hZ) fun e7 h9 => sN (xx ?_))))))))))))
 clear h3 h4
 obtain rfl := si h
 exact eR (resT h9 res0) rfl
noncomputable def impl_AmountOf (a1 : Half) : Option (Int × Int) :=
 (impl_ValidHalf a1).bind fun r5 =>
 if r5 = true then
  (impl_amountOf a1).bind fun r12 =>
  some (r12, 0)
 else
  some (0, 1)
def impl_AmountOf_enc (r : Int × Int) : AV := .tup [.int .i64 r.1, .int .i64 r.2]
theorem impl_AmountOf_ok (a1 : Half) (r : Int × Int) (h : impl_AmountOf a1 = some r) : Ev (fun k => CN k 48 [.agg (.bool a1.Stock :: (.sl none (a1.Notches.map Notch.c) :: ((arC (cI .i8) 0 a1.Grain) ++ ([] : List AV))))] []) (fun p => rRes p.2 p.1 = impl_AmountOf_enc r) := by
 unfold impl_AmountOf at h
 obtain ⟨r5, hx4, h⟩ := bind_some h
 refine Ev.enter (F := fun k => f48 (CN k) k) (fun k => callN_eq rfl Try.func48 rfl rfl rfl (by decide +kernel) (f48_eq _ _)) (sq (Rg (kx (bxI rfl rfl ⟨rfl, rfl, by decide⟩) (kx (mvO rfl) (kx (mvO rfl) (Rn (hN rfl hZ) fun e1 h3 => sN (sq (sq (Rg (kx (ldPA h3 rfl rfl) (kc (cl (v := .bool r5) rfl rfl (cns rfl rfl) rfl (impl_ValidHalf_ok a1 _ hx4) nm) (kx (uNot rfl) (Rn (hA h3 (hN rfl hZ)) fun e6 h8 h9 => sN ?_)))))))))))))
 clear h3
 rcases ite_some h with ⟨hb10, h⟩ | ⟨hb10, h⟩
 ·obtain ⟨r12, hx11, h⟩ := bind_some h
  refine cF h9 (congrArg Bool.not hb10) (xx (sN (sq (Rg (kx (ldPA h8 rfl rfl) (kc (cl (v := .int .i64 r12) rfl rfl (cns rfl rfl) rfl (impl_amountOf_ok a1 _ hx11) nm) (kx (mvO rfl) (kx (mvO rfl) (Rn (hN rfl (hV (.int .i64 0) rfl hZ)) fun e13 h15 h16 => sN (xx ?_))))))))))
  clear h8 h9
  obtain rfl := si h
  exact eR (resT h15 (resT h16 res0)) rfl
 refine cT h9 (congrArg Bool.not hb10) (sq (Rg (kx (mvO rfl) (kx (mvO rfl) (Rn (hV (.int .i64 0) rfl (hV (.int .i64 1) rfl hZ)) fun e17 h19 h20 => sN (xx (sR ?_)))))))
 clear h8 h9
 obtain rfl := si h
 exact eR (resT h19 (resT h20 res0)) rfl
def impl_Fits_c1_Q (a1 : Half) (a2 : Half) (a3 : Int) (g : Bool) (q : Out) : Prop := q.1 = .nrm ∧ eget q.2.1 2 = .int .i64 a3 ∧ eget q.2.1 3 = .pt none (.bool a1.Stock :: (.sl none (a1.Notches.map Notch.c) :: ((arC (cI .i8) 0 a1.Grain) ++ ([] : List AV)))) ∧ eget q.2.1 4 = .pt none (.bool a2.Stock :: (.sl none (a2.Notches.map Notch.c) :: ((arC (cI .i8) 0 a2.Grain) ++ ([] : List AV)))) ∧ eget q.2.1 8 = .bool g
noncomputable def impl_Fits (a1 : Half) (a2 : Half) (a3 : Int) : Option (Bool × Int) :=
 ((impl_ValidHalf a1).bind fun r7 =>
 if r7 = true then
  (impl_ValidHalf a2).bind fun r10 =>
  some (!r10)
 else
  some true).bind fun y25 =>
 if y25 = true then
  some (false, 1)
 else
  (impl_isWear a3).bind fun r36 =>
  if r36 = true then
   if a1.Stock = true then
    if a2.Stock = true then
     some (false, 4)
    else
     (impl_fits a1 a2 a3).bind fun r57 =>
     some (r57, 0)
   else
    some (false, 4)
  else
   some (false, 2)
def impl_Fits_enc (r : Bool × Int) : AV := .tup [.bool r.1, .int .i64 r.2]
theorem impl_Fits_ok (a1 : Half) (a2 : Half) (a3 : Int) (r : Bool × Int) (h : impl_Fits a1 a2 a3 = some r) : Ev (fun k => CN k 47 [.agg (.bool a1.Stock :: (.sl none (a1.Notches.map Notch.c) :: ((arC (cI .i8) 0 a1.Grain) ++ ([] : List AV)))), .agg (.bool a2.Stock :: (.sl none (a2.Notches.map Notch.c) :: ((arC (cI .i8) 0 a2.Grain) ++ ([] : List AV)))), .int .i64 a3] []) (fun p => rRes p.2 p.1 = impl_Fits_enc r) := by
 unfold impl_Fits at h
 obtain ⟨r77, hr78, h⟩ := bind_some h
 refine Ev.enter (F := fun k => f47 (CN k) k) (fun k => callN_eq rfl Try.func47 rfl rfl rfl (by decide +kernel) (f47_eq _ _)) (sq (Rg (kx (bxI rfl rfl ⟨rfl, rfl, by decide⟩) (kx (bxI rfl rfl ⟨rfl, rfl, by decide⟩) (kx (mvO rfl) (kx (mvO rfl) (Rn (hN rfl (hN rfl (hN rfl hZ))) fun e1 h3 h4 h5 => sN (sq (bl (sq ?_))))))))))
 refine Ev.cut (Q1 := impl_Fits_c1_Q a1 a2 a3 r77) (by
     have h := hr78
     obtain ⟨r7, hx6, h⟩ := bind_some h
     refine Rg (kx (ldPA h4 rfl rfl) (kc (cl (v := .bool r7) rfl rfl (cns rfl rfl) rfl (impl_ValidHalf_ok a1 _ hx6) nm) (kx (uNot rfl) (kx (mvO rfl) ?_))))
     rcases ite_some h with ⟨hb8, h⟩ | ⟨hb8, h⟩
     ·obtain ⟨r10, hx9, h⟩ := bind_some h
      refine kx (guF rfl (congrArg Bool.not hb8) (ldPA h5 rfl rfl)) (kc (Ev.guF rfl (congrArg Bool.not hb8) (cl (v := .bool r10) rfl rfl (cns rfl rfl) rfl (impl_ValidHalf_ok a2 _ hx9) nm)) (kx (guF rfl (congrArg Bool.not hb8) (uNot rfl)) (kx (pkF rfl (congrArg Bool.not hb8) rfl) (kx (mvO rfl) (Rn (hA h3 (hA h4 (hA h5 (hN rfl hZ)))) fun e11 h13 h14 h15 h16 => ?_)))))
      clear h3 h4 h5
      obtain rfl := si h
      exact kd (show impl_Fits_c1_Q a1 a2 a3 _ _ from ⟨rfl, h13, h14, h15, h16⟩)
     refine kx (gsF rfl (congrArg Bool.not hb8)) (kc (Ev.gsF rfl (congrArg Bool.not hb8)) (kx (gsF rfl (congrArg Bool.not hb8)) (kx (pkT rfl (congrArg Bool.not hb8) rfl) (kx (mvO rfl) (Rn (hA h3 (hA h4 (hA h5 (hV (.bool true) rfl hZ)))) fun e17 h19 h20 h21 h22 => ?_)))))
     clear h3 h4 h5
     obtain rfl := si h
     exact kd (show impl_Fits_c1_Q a1 a2 a3 _ _ from ⟨rfl, h19, h20, h21, h22⟩)) ?_
 revert h hr78
 revert r77
 intro y25 hr78 h
 intro x e23 M24 hq76
 obtain ⟨rfl, h26, h27, h28, h29⟩ := hq76
 refine sN ?_
 rcases ite_some h with ⟨hb30, h⟩ | ⟨hb30, h⟩
 ·refine cT h29 hb30 (sq (Rg (kx (mvO rfl) (kx (mvO rfl) (Rn (hV (.bool false) rfl (hV (.int .i64 1) rfl hZ)) fun e31 h33 h34 => sN (xx (bR (sR ?_))))))))
  clear h26 h27 h28 h29
  obtain rfl := si h
  exact eR (resT h33 (resT h34 res0)) rfl
 obtain ⟨r36, hx35, h⟩ := bind_some h
 refine cF h29 hb30 (sq (Rg (kx (mvO h26) (kc (cl (v := .bool r36) rfl rfl (cns rfl rfl) rfl (impl_isWear_ok a3 _ hx35) nm) (kx (uNot rfl) (kx (mvO rfl) (Rn (hV (.int .i64 a3) h26 (hV (.pt none (.bool a1.Stock :: (.sl none (a1.Notches.map Notch.c) :: ((arC (cI .i8) 0 a1.Grain) ++ ([] : List AV))))) h27 (hV (.pt none (.bool a2.Stock :: (.sl none (a2.Notches.map Notch.c) :: ((arC (cI .i8) 0 a2.Grain) ++ ([] : List AV))))) h28 (hN rfl hZ)))) fun e37 h39 h40 h41 h42 => sN ?_)))))))
 clear h26 h27 h28 h29
 rcases ite_some h with ⟨hb43, h⟩ | ⟨hb43, h⟩
 ·refine cF h42 (congrArg Bool.not hb43) (sq (Rg (kx (faP h40 ⟨ble rfl, blt rfl⟩ rfl) (kx (ldP rfl rfl) (kx (uNot rfl) (kx (mvO rfl) ?_))))))
  rcases ite_some h with ⟨hb44, h⟩ | ⟨hb44, h⟩
  ·refine kx (guF rfl (congrArg Bool.not hb44) (faP h41 ⟨ble rfl, blt rfl⟩ rfl)) (kx (guF rfl (congrArg Bool.not hb44) (ldP rfl rfl)) (kx (pkF rfl (congrArg Bool.not hb44) rfl) (kx (mvO rfl) (Rn (hA h39 (hA h40 (hA h41 (hN rfl hZ)))) fun e45 h47 h48 h49 h50 => sN ?_))))
   clear h39 h40 h41 h42
   rcases ite_some h with ⟨hb51, h⟩ | ⟨hb51, h⟩
   ·refine cT h50 hb51 (sq (Rg (kx (mvO rfl) (kx (mvO rfl) (Rn (hV (.bool false) rfl (hV (.int .i64 4) rfl hZ)) fun e52 h54 h55 => sN (xx (bR (sR ?_))))))))
    clear h47 h48 h49 h50
    obtain rfl := si h
    exact eR (resT h54 (resT h55 res0)) rfl
   obtain ⟨r57, hx56, h⟩ := bind_some h
   refine cF h50 hb51 (xx (bN (sN (sq (Rg (kx (ldPA h48 rfl rfl) (kx (ldPA h49 rfl rfl) (kx (mvO h47) (kc (cl (v := .bool r57) rfl rfl (cns rfl (cns rfl (cns rfl rfl))) rfl (impl_fits_ok a1 a2 a3 _ hx56) nm) (kx (mvO rfl) (kx (mvO rfl) (Rn (hN rfl (hV (.int .i64 0) rfl hZ)) fun e58 h60 h61 => sN (xx ?_)))))))))))))
   clear h47 h48 h49 h50
   obtain rfl := si h
   exact eR (resT h60 (resT h61 res0)) rfl
  refine kx (gsF rfl (congrArg Bool.not hb44)) (kx (gsF rfl (congrArg Bool.not hb44)) (kx (pkT rfl (congrArg Bool.not hb44) rfl) (kx (mvO rfl) (Rn (hA h39 (hA h40 (hA h41 (hV (.bool true) rfl hZ)))) fun e62 h64 h65 h66 h67 => sN (cT h67 rfl (sq (Rg (kx (mvO rfl) (kx (mvO rfl) (Rn (hV (.bool false) rfl (hV (.int .i64 4) rfl hZ)) fun e68 h70 h71 => sN (xx (bR (sR ?_)))))))))))))
  clear h39 h40 h41 h42 h64 h65 h66 h67
  obtain rfl := si h
  exact eR (resT h70 (resT h71 res0)) rfl
 refine cT h42 (congrArg Bool.not hb43) (sq (Rg (kx (mvO rfl) (kx (mvO rfl) (Rn (hV (.bool false) rfl (hV (.int .i64 2) rfl hZ)) fun e72 h74 h75 => sN (xx (bR (sR ?_))))))))
 clear h39 h40 h41 h42
 obtain rfl := si h
 exact eR (resT h74 (resT h75 res0)) rfl
abbrev spec_SplitChain_b1_S := Bool × Int × Int
abbrev spec_SplitChain_b1_R := Bool × Int
def spec_SplitChain_b1_RS (a1 : Chain) (a2 : List Int) (a3 : Int) (s : spec_SplitChain_b1_S) (e : Env) (M : Mem) : Prop := eget e 1 = .sl none (a2.map (cI .i64)) ∧ eget e 2 = .int .u32 a3 ∧ eget e 3 = .pt none (.str a1.Debtor :: (.bool a1.Stock.Stock :: (.sl none (a1.Stock.Notches.map Notch.c) :: ((arC (cI .i8) 0 a1.Stock.Grain) ++ ((.sl none (a1.Marks.map Mark.c) :: []) : List AV))))) ∧ eget e 10 = .bool s.1 ∧ eget e 11 = .int .i64 s.2.1 ∧ eget e 12 = .int .i64 s.2.2
def spec_SplitChain_b1_RR (a1 : Chain) (a2 : List Int) (a3 : Int) (g : spec_SplitChain_b1_R) (x : Ex) (e : Env) (M : Mem) : Prop := x = .ext 0 ∧ eget e 1 = .sl none (a2.map (cI .i64)) ∧ eget e 2 = .int .u32 a3 ∧ eget e 3 = .pt none (.str a1.Debtor :: (.bool a1.Stock.Stock :: (.sl none (a1.Stock.Notches.map Notch.c) :: ((arC (cI .i8) 0 a1.Stock.Grain) ++ ((.sl none (a1.Marks.map Mark.c) :: []) : List AV))))) ∧ eget e 10 = .bool g.1 ∧ eget e 11 = .int .i64 g.2
noncomputable def spec_SplitChain_b1 (a2 : List Int) : spec_SplitChain_b1_S → Option (spec_SplitChain_b1_S ⊕ spec_SplitChain_b1_R) := fun (s1_1, s1_2, s1_3) =>
 if (decide (s1_3 < (a2.length : Int))) = true then
  if s1_1 = true then
   (rd a2 s1_3).bind fun x77 =>
   (spec_l01Amount x77).bind fun r80 =>
   (rd a2 s1_3).bind fun x89 =>
   some (.inl (r80, (IntKind.i64.wrap (s1_2 + x89)), (IntKind.i64.wrap (s1_3 + 1))))
  else
   some (.inr (s1_1, s1_2))
 else
  some (.inr (s1_1, s1_2))
theorem spec_SplitChain_b1_ok (a1 : Chain) (a2 : List Int) (a3 : Int) (s : spec_SplitChain_b1_S) (r : spec_SplitChain_b1_S ⊕ spec_SplitChain_b1_R) (h : spec_SplitChain_b1 a2 s = some r) (e : Env) (M : Mem) (hs : spec_SplitChain_b1_RS a1 a2 a3 s e M) : Ev (fun k => (f46_l6 (CN k) k (prune [1, 2, 3, 10, 11, 12] e) M).bind fun q => some q) (bQ (spec_SplitChain_b1_RS a1 a2 a3) (spec_SplitChain_b1_RR a1 a2 a3) r) := by
 obtain ⟨s1_1, s1_2, s1_3⟩ := s
 unfold spec_SplitChain_b1 at h
 obtain ⟨h54, h56, h58, h60, h62, h64⟩ := hs
 generalize he53 : prune [1, 2, 3, 10, 11, 12] e = e52
 have h55 := envp he53.symm rfl h54
 have h57 := envp he53.symm rfl h56
 have h59 := envp he53.symm rfl h58
 have h61 := envp he53.symm rfl h60
 have h63 := envp he53.symm rfl h62
 have h65 := envp he53.symm rfl h64
 refine sq (sq (Rg (kx (mvO h65) (kx (mvO h55) (kx (lnS Try.underlying24 rfl) (kx (bLss rfl rfl) (kx (mvO rfl) ?_)))))))
 rcases ite_some h with ⟨hb66, h⟩ | ⟨hb66, h⟩
 ·refine kx (guT rfl hb66 (mvO h61)) (kx (pkT rfl hb66 rfl) (Rn (hA h55 (hV (.int .u32 a3) h57 (hV (.pt none (.str a1.Debtor :: (.bool a1.Stock.Stock :: (.sl none (a1.Stock.Notches.map Notch.c) :: ((arC (cI .i8) 0 a1.Stock.Grain) ++ ((.sl none (a1.Marks.map Mark.c) :: []) : List AV)))))) h59 (hV (.bool s1_1) h61 (hV (.int .i64 s1_2) h63 (hV (.int .i64 s1_3) h65 (hN rfl hZ))))))) fun e67 h69 h70 h71 h72 h73 h74 h75 => sN ?_))
  clear h55 h57 h59 h61 h63 h65
  rcases ite_some h with ⟨hb76, h⟩ | ⟨hb76, h⟩
  ·obtain ⟨x77, hx78, h⟩ := bind_some h
   obtain ⟨r80, hx79, h⟩ := bind_some h
   obtain ⟨x89, hx90, h⟩ := bind_some h
   refine cT h75 hb76 (xx (sN (sq (bl (sq (Rg (kx (mvO h69) (kx (mvO h74) (kx (ixS rfl rfl hx78 (cI_fl _)) (kx (ldP rfl rfl) (kc (cl (v := .bool r80) rfl rfl (cns rfl rfl) rfl (spec_l01Amount_ok x77 _ hx79) nm) (kx (mvO rfl) (Rn (hA h69 (hA h70 (hA h71 (hN rfl (hA h73 (hA h74 hZ)))))) fun e81 h83 h84 h85 h86 h87 h88 => sN (Rg (kx (mvO h87) (kx (mvO h83) (kx (mvO h88) (kx (ixS rfl rfl hx90 (cI_fl _)) (kx (ldP rfl rfl) (kx (bAdd rfl rfl) (kx (mvO rfl) (Rn (hA h83 (hA h84 (hA h85 (hA h86 (hN rfl (hA h88 hZ)))))) fun e91 h93 h94 h95 h96 h97 h98 => bN (sN (Rg (kx (mvO h98) (kx (bAdd rfl rfl) (kx (mvO rfl) (Rn (hA h93 (hA h94 (hA h95 (hA h96 (hA h97 (hN rfl hZ)))))) fun e99 h101 h102 h103 h104 h105 h106 => ?_))))))))))))))))))))))))))))
   clear h69 h70 h71 h73 h74 h75 h83 h84 h85 h86 h88 h93 h94 h95 h96 h97
   obtain rfl := si h
   exact qN ⟨h101, h102, h103, h104, h105, h106⟩
  refine cF h75 hb76 (xx (sE ?_))
  obtain rfl := si h
  exact qE ⟨rfl, h69, h70, h71, h72, h73⟩
 refine kx (gsT rfl hb66) (kx (pkF rfl hb66 rfl) (Rn (hA h55 (hV (.int .u32 a3) h57 (hV (.pt none (.str a1.Debtor :: (.bool a1.Stock.Stock :: (.sl none (a1.Stock.Notches.map Notch.c) :: ((arC (cI .i8) 0 a1.Stock.Grain) ++ ((.sl none (a1.Marks.map Mark.c) :: []) : List AV)))))) h59 (hV (.bool s1_1) h61 (hV (.int .i64 s1_2) h63 (hV (.int .i64 s1_3) h65 (hV (.bool false) rfl hZ))))))) fun e107 h109 h110 h111 h112 h113 h114 h115 => sN (cF h115 rfl (xx (sE ?_)))))
 clear h55 h57 h59 h61 h63 h65
 obtain rfl := si h
 exact qE ⟨rfl, h109, h110, h111, h112, h113⟩
abbrev spec_SplitChain_b2_S := Int × Int × (List Half) × (List Half)
abbrev spec_SplitChain_b2_R := Int ⊕ (Int × (List Half) × (List Half))
def spec_SplitChain_b2_RS (a2 : List Int) (i2_1 : Nat) (i2_2 : Nat) (s : spec_SplitChain_b2_S) (e : Env) (M : Mem) : Prop := eget e 1 = .sl none (a2.map (cI .i64)) ∧ eget e 2 = .int .u32 s.1 ∧ eget e 13 = .lsl i2_1 s.2.2.1.length 0 s.2.2.1.length ∧ eget e 14 = .lsl i2_2 s.2.2.2.length 0 s.2.2.2.length ∧ eget e 15 = .int .i64 s.2.1 ∧ M[i2_1]? = some (.live ⟨.grow, 70, 18, s.2.2.1.map Half.c⟩) ∧ M[i2_2]? = some (.live ⟨.grow, 70, 18, s.2.2.2.map Half.c⟩)
def spec_SplitChain_b2_RR (a2 : List Int) (i2_1 : Nat) (i2_2 : Nat) (r : spec_SplitChain_b2_R) (x : Ex) (e : Env) (M : Mem) : Prop :=
  match r with
  | (.inl g) => x = .ret ∧ eget e 6 = .lit 70 (([] : List Half).map Half.c) ∧ eget e 7 = .lit 70 (([] : List Half).map Half.c) ∧ eget e 8 = .int .u32 0 ∧ eget e 9 = .int .i64 g
  | (.inr g) => x = .ext 2 ∧ eget e 2 = .int .u32 g.1 ∧ eget e 13 = .lsl i2_1 g.2.1.length 0 g.2.1.length ∧ eget e 14 = .lsl i2_2 g.2.2.length 0 g.2.2.length ∧ M[i2_1]? = some (.live ⟨.grow, 70, 18, g.2.1.map Half.c⟩) ∧ M[i2_2]? = some (.live ⟨.grow, 70, 18, g.2.2.map Half.c⟩)
noncomputable def spec_SplitChain_b2 (a2 : List Int) : spec_SplitChain_b2_S → Option (spec_SplitChain_b2_S ⊕ spec_SplitChain_b2_R) := fun (s2_1, s2_2, s2_3, s2_4) =>
 if (decide (s2_2 < (a2.length : Int))) = true then
  (spec_GrainFrom s2_1).bind fun (r216, r217) =>
  (rd a2 s2_2).bind fun x247 =>
  (spec_CutStick x247 r216).bind fun (r250, r251, r252, r253, r254, r255) =>
  if (r255 != 0) = true then
   some (.inr (.inl r255))
  else
   (app 48 s2_3 [(Half.mk r250 r251 r252)]).bind fun x314 =>
   (app 48 s2_4 [(Half.mk false r253 r254)]).bind fun x330 =>
   some (.inl (r217, (IntKind.i64.wrap (s2_2 + 1)), x314, x330))
 else
  some (.inr (.inr (s2_1, s2_3, s2_4)))
theorem spec_SplitChain_b2_ok (a2 : List Int) (i2_1 : Nat) (i2_2 : Nat) (ne163 : i2_1 ≠ i2_2) (s : spec_SplitChain_b2_S) (r : spec_SplitChain_b2_S ⊕ spec_SplitChain_b2_R) (h : spec_SplitChain_b2 a2 s = some r) (e : Env) (M : Mem) (hs : spec_SplitChain_b2_RS a2 i2_1 i2_2 s e M) : Ev (fun k => (f46_l17 (CN k) k (prune [1, 2, 13, 14, 15] e) M).bind fun q => some q) (bQ (spec_SplitChain_b2_RS a2 i2_1 i2_2) (spec_SplitChain_b2_RR a2 i2_1 i2_2) r) := by
 obtain ⟨s2_1, s2_2, s2_3, s2_4⟩ := s
 unfold spec_SplitChain_b2 at h
 obtain ⟨h194, h196, h198, h200, h202, o204, o205⟩ := hs
 generalize he193 : prune [1, 2, 13, 14, 15] e = e192
 have h195 := envp he193.symm rfl h194
 have h197 := envp he193.symm rfl h196
 have h199 := envp he193.symm rfl h198
 have h201 := envp he193.symm rfl h200
 have h203 := envp he193.symm rfl h202
 refine sq (sq (Rg (kx (mvO h203) (kx (mvO h195) (kx (lnS Try.underlying24 rfl) (kx (bLss rfl rfl) (Rn (hV (.sl none (a2.map (cI .i64))) h195 (hV (.int .u32 s2_1) h197 (hV (.lsl i2_1 s2_3.length 0 s2_3.length) h199 (hV (.lsl i2_2 s2_4.length 0 s2_4.length) h201 (hV (.int .i64 s2_2) h203 (hN rfl hZ)))))) fun e206 h208 h209 h210 h211 h212 h213 => sN ?_)))))))
 clear h195 h197 h199 h201 h203
 rcases ite_some h with ⟨hb214, h⟩ | ⟨hb214, h⟩
 ·obtain ⟨⟨r216, r217⟩, hx215, h⟩ := bind_some h
  refine cT h213 hb214 (xx (sN (sq (bl (sq (Rg (kx (mvO h209) (kc (cl (v := .tup [.agg (arC (cI .i8) 0 r216), .int .u32 r217]) rfl rfl (cns rfl rfl) rfl (spec_GrainFrom_ok s2_1 _ hx215) nm) (kx (mvO rfl) (kx (exT rfl rfl) (kx (exT rfl rfl) (ku (alO zero68) fun M219 hM220 => ?_))))))))))))
  have o221 := push_old hM220 o204
  have ne222 := ne_new o204
  have o223 := push_old hM220 o205
  have ne224 := ne_new o205
  have o225 : M219[M.length]? = some (.live ⟨.box, 68, 16, [(arC (cI .i8) 0 (Ar.rep 16 0))]⟩) := push_new hM220
  refine kw (stO rfl rfl o225 rfl rfl ⟨rfl, ble rfl⟩ rfl rfl) fun M226 hM227 => ?_
  have o228 := set_ne hM227 ne222 o221
  have o229 := set_ne hM227 ne224 o223
  have o230 : M226[M.length]? = some (.live ⟨.box, 68, 16, [(arC (cI .i8) 0 r216)]⟩) := set_same hM227 o225
  obtain ⟨x247, hx248, h⟩ := bind_some h
  obtain ⟨⟨r250, r251, r252, r253, r254, r255⟩, hx249, h⟩ := bind_some h
  refine kx (mvO rfl) (Rn (hA h208 (hA h210 (hA h211 (hA h212 (hV (.loc M.length 1 0 0) rfl (hN rfl hZ)))))) fun e231 h233 h234 h235 h236 h237 h238 => sN (sq (Rg (kx (mvO h238) (kx (mvO rfl) (Rn (hA h233 (hN rfl (hA h234 (hA h235 (hA h236 (hA h237 hZ)))))) fun e239 h241 h242 h243 h244 h245 h246 => sN (sq (Rd (kf (mvO h241) (kf (mvO h245) (kf (ixS rfl rfl hx248 (cI_fl _)) (kf (ldP rfl rfl) (kf (ldOA (cs' := (arC (cI .i8) 0 r216)) h246 o230 rfl rfl (ble rfl) rfl) (fc (clW (v := .tup [.agg (.bool r250 :: (.sl none (r251.map Notch.c) :: ((arC (cI .i8) 0 r252) ++ ([] : List AV)))), .agg (.bool false :: (.sl none (r253.map Notch.c) :: ((arC (cI .i8) 0 r254) ++ ([] : List AV)))), .int .i64 r255]) rfl rfl (cns rfl (cns rfl rfl)) rfl (spec_CutStick_ok x247 r216 _ hx249) rfl) (kf (mvO rfl) (kf (exT rfl rfl) (kf (exT rfl rfl) (kf (exT rfl rfl) (Ev.nfpushE (alO zero70) (Ev.nfpushE (alO zero70) (Ev.fend1 fun M258 hM259 => ?_)))))))))))))))))))))
  clear h208 h209 h210 h211 h212 h213 h233 h234 h235 h236 h237 h238
  have hM259 := fendM hM259 [⟨.box, 70, 18, [(.bool false :: (.nils :: ((arC (cI .i8) 0 (Ar.rep 16 0)) ++ ([] : List AV))))]⟩, ⟨.box, 70, 18, [(.bool false :: (.nils :: ((arC (cI .i8) 0 (Ar.rep 16 0)) ++ ([] : List AV))))]⟩] rfl
  have o260 := push_old hM259 o228
  have o261 := push_old hM259 o229
  have o262 := push_old hM259 o230
  have ne263 : i2_1 ≠ M226.length := by have := lt_of_get (M := M226) o228; omega
  have ne264 : i2_2 ≠ M226.length := by have := lt_of_get (M := M226) o229; omega
  have ne265 : M.length ≠ M226.length := by have := lt_of_get (M := M226) o230; omega
  have o266 : M258[M226.length]? = some (.live ⟨.box, 70, 18, [(.bool false :: (.nils :: ((arC (cI .i8) 0 (Ar.rep 16 0)) ++ ([] : List AV))))]⟩) := push_at hM259 0 rfl
  have ne267 : i2_1 ≠ (M226.length + 1) := by have := lt_of_get (M := M226) o228; omega
  have ne268 : i2_2 ≠ (M226.length + 1) := by have := lt_of_get (M := M226) o229; omega
  have ne269 : M.length ≠ (M226.length + 1) := by have := lt_of_get (M := M226) o230; omega
  have ne270 : M226.length ≠ (M226.length + 1) := by omega
  have o271 : M258[(M226.length + 1)]? = some (.live ⟨.box, 70, 18, [(.bool false :: (.nils :: ((arC (cI .i8) 0 (Ar.rep 16 0)) ++ ([] : List AV))))]⟩) := push_at hM259 1 rfl
  refine kw (stO rfl rfl o266 rfl rfl ⟨rfl, ble rfl⟩ rfl rfl) fun M272 hM273 => ?_
  have o274 := set_ne hM273 ne263 o260
  have o275 := set_ne hM273 ne264 o261
  have o276 := set_ne hM273 ne265 o262
  have o277 : M272[M226.length]? = some (.live ⟨.box, 70, 18, [(.bool r250 :: (.sl none (r251.map Notch.c) :: ((arC (cI .i8) 0 r252) ++ ([] : List AV))))]⟩) := set_same hM273 o266
  have o278 := set_ne hM273 (Ne.symm ne270) o271
  refine kw (stO rfl rfl o278 rfl rfl ⟨rfl, ble rfl⟩ rfl rfl) fun M279 hM280 => ?_
  have o281 := set_ne hM280 ne267 o274
  have o282 := set_ne hM280 ne268 o275
  have o283 := set_ne hM280 ne269 o276
  have o284 := set_ne hM280 ne270 o277
  have o285 : M279[(M226.length + 1)]? = some (.live ⟨.box, 70, 18, [(.bool false :: (.sl none (r253.map Notch.c) :: ((arC (cI .i8) 0 r254) ++ ([] : List AV))))]⟩) := set_same hM280 o278
  refine kx (mvO rfl) (Rn (hA h241 (hA h242 (hA h243 (hA h244 (hA h245 (hV (.loc M226.length 1 0 0) rfl (hV (.loc (M226.length + 1) 1 0 0) rfl (hN rfl hZ)))))))) fun e286 h288 h289 h290 h291 h292 h293 h294 h295 => sN (sq (sq (Rg (kx (mvO h295) (kx (bNeq rfl rfl) (Rn (hA h288 (hA h289 (hA h290 (hA h291 (hA h292 (hA h293 (hA h294 (hA h295 (hN rfl hZ))))))))) fun e296 h298 h299 h300 h301 h302 h303 h304 h305 h306 => sN ?_)))))))
  clear h241 h242 h243 h244 h245 h246 h288 h289 h290 h291 h292 h293 h294 h295
  rcases ite_some h with ⟨hb307, h⟩ | ⟨hb307, h⟩
  ·refine cT h306 hb307 (sq (Rg (kx (litI rfl rfl ⟨rfl, by decide⟩) (kx (litI rfl rfl ⟨rfl, by decide⟩) (kx (mvO h305) (kx (mvO rfl) (kx (mvO rfl) (kx (mvO rfl) (kx (mvO rfl) (Rn (hN rfl (hN rfl (hV (.int .u32 0) rfl (hN rfl hZ)))) fun e308 h310 h311 h312 h313 => sN (xx (sR (bR (sR ?_))))))))))))))
   clear h298 h299 h300 h301 h302 h303 h304 h305 h306
   obtain rfl := si h
   exact qR ⟨rfl, h310, h311, h312, h313⟩
  obtain ⟨x314, hx315, h⟩ := bind_some h
  refine cF h306 hb307 (xx (sN (sq (Rg (kx (mvO h300) (kx (ldOA (cs' := (.bool r250 :: (.sl none (r251.map Notch.c) :: ((arC (cI .i8) 0 r252) ++ ([] : List AV))))) h303 o284 rfl rfl (ble rfl) rfl) (kx (litI (cns rfl rfl) rfl ⟨rfl, by decide⟩) (kw (apO rfl o281 rfl (elT (c := Half.c) (xs := [(Half.mk r250 r251 r252)]) rfl) hx315 Half.fl (by decide)) fun M316 hM317 => ?_))))))))
  have o318 : M316[i2_1]? = some (.live ⟨.grow, 70, 18, x314.map Half.c⟩) := set_same hM317 o281
  have o319 := set_ne hM317 (Ne.symm ne163) o282
  have o320 := set_ne hM317 (Ne.symm ne263) o284
  have o321 := set_ne hM317 (Ne.symm ne267) o285
  obtain ⟨x330, hx331, h⟩ := bind_some h
  refine kx (mvO rfl) (Rn (hA h298 (hA h299 (hV (.lsl i2_1 x314.length 0 x314.length) rfl (hA h301 (hA h302 (hA h304 hZ)))))) fun e322 h324 h325 h326 h327 h328 h329 => sN (Rg (kx (mvO h327) (kx (ldOA (cs' := (.bool false :: (.sl none (r253.map Notch.c) :: ((arC (cI .i8) 0 r254) ++ ([] : List AV))))) h329 o321 rfl rfl (ble rfl) rfl) (kx (litI (cns rfl rfl) rfl ⟨rfl, by decide⟩) (kw (apO rfl o319 rfl (elT (c := Half.c) (xs := [(Half.mk false r253 r254)]) rfl) hx331 Half.fl (by decide)) fun M332 hM333 => ?_))))))
  clear h298 h299 h301 h302 h303 h304 h305 h306
  have o334 := set_ne hM333 ne163 o318
  have o335 : M332[i2_2]? = some (.live ⟨.grow, 70, 18, x330.map Half.c⟩) := set_same hM333 o319
  have o336 := set_ne hM333 (Ne.symm ne268) o321
  refine kx (mvO rfl) (Rn (hA h324 (hA h325 (hA h326 (hV (.lsl i2_2 x330.length 0 x330.length) rfl (hA h328 hZ))))) fun e337 h339 h340 h341 h342 h343 => bN (sN (Rg (kx (mvO h343) (kx (bAdd rfl rfl) (kx (mvO rfl) (Rn (hA h339 (hA h340 (hA h341 (hA h342 (hN rfl hZ))))) fun e344 h346 h347 h348 h349 h350 => ?_)))))))
  clear h324 h325 h326 h328 h329 h339 h340 h341 h342
  obtain rfl := si h
  exact qN ⟨h346, h347, h348, h349, h350, o334, o335⟩
 refine cF h213 hb214 (xx (sE ?_))
 obtain rfl := si h
 exact qE ⟨rfl, h209, h210, h211, o204, o205⟩
noncomputable def spec_SplitChain (a1 : Chain) (a2 : List Int) (a3 : Int) : Option ((List Half) × (List Half) × Int × Int) :=
 (spec_l06Ok a1).bind fun r7 =>
 if r7 = true then
  (spec_l00In (a2.length : Int) 1 20).bind fun r16 =>
  (Lw (spec_SplitChain_b1 a2) (r16, 0, 0)).bind fun (y121, y122) =>
  if y121 = true then
   (spec_l01Sum a1.Stock.Notches).bind fun r137 =>
   if (y122 != r137) = true then
    some (([] : List Half), ([] : List Half), 0, 4)
   else
    (Lw (spec_SplitChain_b2 a2) (a3, 0, ([] : List Half), ([] : List Half))).bind fun r => match r with
    | (.inl y356) =>
     some (([] : List Half), ([] : List Half), 0, y356)
    | (.inr (y363, y364, y365)) =>
     some (y364, y365, y363, 0)
  else
   some (([] : List Half), ([] : List Half), 0, 2)
 else
  some (([] : List Half), ([] : List Half), 0, 1)
def spec_SplitChain_enc (r : (List Half) × (List Half) × Int × Int) : AV := .tup [.sl (some 70) (r.1.map Half.c), .sl (some 70) (r.2.1.map Half.c), .int .u32 r.2.2.1, .int .i64 r.2.2.2]
theorem spec_SplitChain_ok (a1 : Chain) (a2 : List Int) (a3 : Int) (r : (List Half) × (List Half) × Int × Int) (h : spec_SplitChain a1 a2 a3 = some r) : Ev (fun k => CN k 46 [.agg (.str a1.Debtor :: (.bool a1.Stock.Stock :: (.sl none (a1.Stock.Notches.map Notch.c) :: ((arC (cI .i8) 0 a1.Stock.Grain) ++ ((.sl none (a1.Marks.map Mark.c) :: []) : List AV))))), .sl none (a2.map (cI .i64)), .int .u32 a3] []) (fun p => rRes p.2 p.1 = spec_SplitChain_enc r) := by
 unfold spec_SplitChain at h
 obtain ⟨r7, hx6, h⟩ := bind_some h
 refine Ev.enter (F := fun k => f46 (CN k) k) (fun k => callN_eq rfl Try.func46 rfl rfl rfl (by decide +kernel) (f46_eq _ _)) (sq (Rg (kx (bxI rfl rfl ⟨rfl, rfl, by decide⟩) (kx (mvO rfl) (kx (mvO rfl) (kx (mvO rfl) (kx (mvO rfl) (Rn (hN rfl (hN rfl (hN rfl hZ))) fun e1 h3 h4 h5 => sN (sq (sq (Rg (kc (cl (v := .bool r7) rfl rfl (cns h5 rfl) rfl (spec_l06Ok_ok a1 _ hx6) nm) (kx (uNot rfl) (Rn (hA h3 (hA h4 (hA h5 (hN rfl hZ)))) fun e8 h10 h11 h12 h13 => sN ?_))))))))))))))
 clear h3 h4 h5
 rcases ite_some h with ⟨hb14, h⟩ | ⟨hb14, h⟩
 ·obtain ⟨r16, hx15, h⟩ := bind_some h
  obtain ⟨⟨y121, y122⟩, hr117, h⟩ := bind_some h
  refine cF h13 (congrArg Bool.not hb14) (xx (sN (sq (Rg (kx (mvO h10) (kx (lnS Try.underlying24 rfl) (kc (cl (v := .bool r16) rfl rfl (cns rfl (cns rfl (cns rfl rfl))) rfl (spec_l00In_ok (a2.length : Int) 1 20 _ hx15) nm) (kx (mvO rfl) (Rn (hA h10 (hA h11 (hA h12 (hN rfl hZ)))) fun e17 h19 h20 h21 h22 => sN (sq (Rg (kx (mvO rfl) (Rn (hA h19 (hA h20 (hA h21 (hA h22 (hV (.int .i64 0) rfl hZ))))) fun e23 h25 h26 h27 h28 h29 => sN (sq (sq (Rg (kx (mvO rfl) (Rn (hA h25 (hA h26 (hA h27 (hA h28 (hA h29 (hV (.int .i64 0) rfl hZ)))))) fun e30 h32 h33 h34 h35 h36 h37 => sN (bl (Ev.loop (RS := spec_SplitChain_b1_RS a1 a2 a3) (RR := spec_SplitChain_b1_RR a1 a2 a3) (fun s r h e M hs => spec_SplitChain_b1_ok a1 a2 a3 s r h e M hs) hr117 ⟨h32, h33, h34, h35, h36, h37⟩ fun x e119 M120 hq118 => ?_))))))))))))))))))))
  clear h10 h11 h12 h13 h19 h20 h21 h22 h25 h26 h27 h28 h29
  obtain ⟨rfl, h123, h124, h125, h126, h127⟩ := hq118
  refine bE (sN (sq (sq (Rg (kx (mvO h126) (kx (uNot rfl) (Rn (hV (.sl none (a2.map (cI .i64))) h123 (hV (.int .u32 a3) h124 (hV (.pt none (.str a1.Debtor :: (.bool a1.Stock.Stock :: (.sl none (a1.Stock.Notches.map Notch.c) :: ((arC (cI .i8) 0 a1.Stock.Grain) ++ ((.sl none (a1.Marks.map Mark.c) :: []) : List AV)))))) h125 (hV (.int .i64 y122) h127 (hN rfl hZ))))) fun e128 h130 h131 h132 h133 h134 => sN ?_)))))))
  clear h123 h124 h125 h126 h127
  rcases ite_some h with ⟨hb135, h⟩ | ⟨hb135, h⟩
  ·obtain ⟨r137, hx136, h⟩ := bind_some h
   refine cF h134 (congrArg Bool.not hb135) (xx (sN (sq (sq (Rg (kx (mvO h133) (kx (faP h132 ⟨ble rfl, blt rfl⟩ rfl) (kx (faP rfl ⟨ble rfl, blt rfl⟩ rfl) (kx (ldP rfl rfl) (kc (cl (v := .int .i64 r137) rfl rfl (cns rfl rfl) rfl (spec_l01Sum_ok a1.Stock.Notches _ hx136) nm) (kx (bNeq rfl rfl) (Rn (hA h130 (hA h131 (hN rfl hZ))) fun e138 h140 h141 h142 => sN ?_))))))))))))
   clear h130 h131 h132 h133 h134
   rcases ite_some h with ⟨hb143, h⟩ | ⟨hb143, h⟩
   ·refine cT h142 hb143 (sq (Rg (kx (litI rfl rfl ⟨rfl, by decide⟩) (kx (litI rfl rfl ⟨rfl, by decide⟩) (kx (mvO rfl) (kx (mvO rfl) (kx (mvO rfl) (kx (mvO rfl) (Rn (hN rfl (hN rfl (hV (.int .u32 0) rfl (hV (.int .i64 4) rfl hZ)))) fun e144 h146 h147 h148 h149 => sN (xx (sR ?_)))))))))))
    clear h140 h141 h142
    obtain rfl := si h
    exact eR (resT h146 (resT h147 (resT h148 (resT h149 res0)))) rfl
   refine cF h142 hb143 (xx (sN (sq (Rg (ku (litO (xs := ([] : List Half)) (c := Half.c) rfl rfl (by decide)) fun M151 hM152 => ?_)))))
   have o153 : M151[M120.length]? = some (.live ⟨.grow, 70, 18, ([] : List Half).map Half.c⟩) := push_new hM152
   refine kx (mvO rfl) (Rn (hA h140 (hA h141 (hV (.lsl M120.length ([] : List Half).length 0 ([] : List Half).length) rfl hZ))) fun e154 h156 h157 h158 => sN (sq (Rg (ku (litO (xs := ([] : List Half)) (c := Half.c) rfl rfl (by decide)) fun M160 hM161 => ?_))))
   clear h140 h141 h142
   have o162 := push_old hM161 o153
   have ne163 := ne_new o153
   have o164 : M160[M151.length]? = some (.live ⟨.grow, 70, 18, ([] : List Half).map Half.c⟩) := push_new hM161
   obtain ⟨r351, hr352, h⟩ := bind_some h
   refine kx (mvO rfl) (Rn (hA h156 (hA h157 (hA h158 (hV (.lsl M151.length ([] : List Half).length 0 ([] : List Half).length) rfl hZ)))) fun e165 h167 h168 h169 h170 => sN (sq (sq (Rg (kx (mvO rfl) (Rn (hA h167 (hA h168 (hA h169 (hA h170 (hV (.int .i64 0) rfl hZ))))) fun e171 h173 h174 h175 h176 h177 => sN (bl ?_)))))))
   clear h156 h157 h158 h167 h168 h169 h170
   rcases r351 with y356 | ⟨y363, y364, y365⟩
   ·refine Ev.loop (RS := spec_SplitChain_b2_RS a2 M120.length M151.length) (RR := spec_SplitChain_b2_RR a2 M120.length M151.length) (fun s r h e M hs => spec_SplitChain_b2_ok a2 M120.length M151.length ne163 s r h e M hs) hr352 ⟨h173, h174, h175, h176, h177, o162, o164⟩ fun x e354 M355 hq353 => ?_
    obtain ⟨rfl, h357, h358, h359, h360⟩ := hq353
    refine bR (sR ?_)
    obtain rfl := si h
    exact eR (resT h357 (resT h358 (resT h359 (resT h360 res0)))) rfl
   refine Ev.loop (RS := spec_SplitChain_b2_RS a2 M120.length M151.length) (RR := spec_SplitChain_b2_RR a2 M120.length M151.length) (fun s r h e M hs => spec_SplitChain_b2_ok a2 M120.length M151.length ne163 s r h e M hs) hr352 ⟨h173, h174, h175, h176, h177, o162, o164⟩ fun x e361 M362 hq353 => ?_
   obtain ⟨rfl, h366, h367, h368, o369, o370⟩ := hq353
   refine bE (sN (sq (Rg (kx (mvO h367) (kx (mvO h368) (kx (mvO h366) (kx (mvO rfl) (kx (mvO rfl) (kx (mvO rfl) (kx (mvO rfl) (Rn (hV (.lsl M120.length y364.length 0 y364.length) rfl (hV (.lsl M151.length y365.length 0 y365.length) rfl (hN rfl (hV (.int .i64 0) rfl hZ)))) fun e371 h373 h374 h375 h376 => sN (xx ?_))))))))))))
   clear h366 h367 h368
   obtain rfl := si h
   exact eR (resT h373 (resT h374 (resT h375 (resT h376 res0)))) (rr_tup (mp1 (rr_row o369 rfl Half.fl) (mp1 (rr_row o370 rfl Half.fl) (mp1 rfl (mp1 rfl mp0)))))
  refine cT h134 (congrArg Bool.not hb135) (sq (Rg (kx (litI rfl rfl ⟨rfl, by decide⟩) (kx (litI rfl rfl ⟨rfl, by decide⟩) (kx (mvO rfl) (kx (mvO rfl) (kx (mvO rfl) (kx (mvO rfl) (Rn (hN rfl (hN rfl (hV (.int .u32 0) rfl (hV (.int .i64 2) rfl hZ)))) fun e377 h379 h380 h381 h382 => sN (xx (sR ?_)))))))))))
  clear h130 h131 h132 h133 h134
  obtain rfl := si h
  exact eR (resT h379 (resT h380 (resT h381 (resT h382 res0)))) rfl
 refine cT h13 (congrArg Bool.not hb14) (sq (Rg (kx (litI rfl rfl ⟨rfl, by decide⟩) (kx (litI rfl rfl ⟨rfl, by decide⟩) (kx (mvO rfl) (kx (mvO rfl) (kx (mvO rfl) (kx (mvO rfl) (Rn (hN rfl (hN rfl (hV (.int .u32 0) rfl (hV (.int .i64 1) rfl hZ)))) fun e383 h385 h386 h387 h388 => sN (xx (sR ?_)))))))))))
 clear h10 h11 h12 h13
 obtain rfl := si h
 exact eR (resT h385 (resT h386 (resT h387 (resT h388 res0)))) rfl
def impl_SplitChain_c1_Q (a1 : Chain) (a2 : List Int) (a3 : Int) (g : Bool) (q : Out) : Prop := q.1 = .nrm ∧ eget q.2.1 1 = .sl none (a2.map (cI .i64)) ∧ eget q.2.1 2 = .int .u32 a3 ∧ eget q.2.1 3 = .pt none (.str a1.Debtor :: (.bool a1.Stock.Stock :: (.sl none (a1.Stock.Notches.map Notch.c) :: ((arC (cI .i8) 0 a1.Stock.Grain) ++ ((.sl none (a1.Marks.map Mark.c) :: []) : List AV))))) ∧ eget q.2.1 32 = .bool g
abbrev impl_SplitChain_b1_S := Int × Int
abbrev impl_SplitChain_b1_R := Unit ⊕ Int
def impl_SplitChain_b1_RS (a1 : Chain) (a2 : List Int) (a3 : Int) (s : impl_SplitChain_b1_S) (e : Env) (M : Mem) : Prop := eget e 1 = .sl none (a2.map (cI .i64)) ∧ eget e 2 = .int .u32 a3 ∧ eget e 3 = .pt none (.str a1.Debtor :: (.bool a1.Stock.Stock :: (.sl none (a1.Stock.Notches.map Notch.c) :: ((arC (cI .i8) 0 a1.Stock.Grain) ++ ((.sl none (a1.Marks.map Mark.c) :: []) : List AV))))) ∧ eget e 10 = .int .i64 s.1 ∧ eget e 33 = .sl none (a2.map (cI .i64)) ∧ eget e 34 = .int .i64 (a2.length : Int) ∧ eget e 35 = .int .i64 s.2
def impl_SplitChain_b1_RR (a1 : Chain) (a2 : List Int) (a3 : Int) (r : impl_SplitChain_b1_R) (x : Ex) (e : Env) (M : Mem) : Prop :=
  match r with
  | (.inl g) => x = .ret ∧ eget e 6 = .nils ∧ eget e 7 = .nils ∧ eget e 8 = .int .u32 0 ∧ eget e 9 = .int .i64 2
  | (.inr g) => x = .ext 0 ∧ eget e 1 = .sl none (a2.map (cI .i64)) ∧ eget e 2 = .int .u32 a3 ∧ eget e 3 = .pt none (.str a1.Debtor :: (.bool a1.Stock.Stock :: (.sl none (a1.Stock.Notches.map Notch.c) :: ((arC (cI .i8) 0 a1.Stock.Grain) ++ ((.sl none (a1.Marks.map Mark.c) :: []) : List AV))))) ∧ eget e 10 = .int .i64 g
noncomputable def impl_SplitChain_b1 (a2 : List Int) : impl_SplitChain_b1_S → Option (impl_SplitChain_b1_S ⊕ impl_SplitChain_b1_R) := fun (s1_1, s1_2) =>
 if (decide (s1_2 < (a2.length : Int))) = true then
  (rd a2 s1_2).bind fun x100 =>
  (impl_isAmount x100).bind fun r113 =>
  if r113 = true then
   some (.inl ((IntKind.i64.wrap (s1_1 + x100)), (IntKind.i64.wrap (s1_2 + 1))))
  else
   some (.inr (.inl ()))
 else
  some (.inr (.inr s1_1))
theorem impl_SplitChain_b1_ok (a1 : Chain) (a2 : List Int) (a3 : Int) (s : impl_SplitChain_b1_S) (r : impl_SplitChain_b1_S ⊕ impl_SplitChain_b1_R) (h : impl_SplitChain_b1 a2 s = some r) (e : Env) (M : Mem) (hs : impl_SplitChain_b1_RS a1 a2 a3 s e M) : Ev (fun k => (f45_l7 (CN k) k (prune [1, 2, 3, 10, 33, 34, 35] e) M).bind fun q => some q) (bQ (impl_SplitChain_b1_RS a1 a2 a3) (impl_SplitChain_b1_RR a1 a2 a3) r) := by
 obtain ⟨s1_1, s1_2⟩ := s
 unfold impl_SplitChain_b1 at h
 obtain ⟨h75, h77, h79, h81, h83, h85, h87⟩ := hs
 generalize he74 : prune [1, 2, 3, 10, 33, 34, 35] e = e73
 have h76 := envp he74.symm rfl h75
 have h78 := envp he74.symm rfl h77
 have h80 := envp he74.symm rfl h79
 have h82 := envp he74.symm rfl h81
 have h84 := envp he74.symm rfl h83
 have h86 := envp he74.symm rfl h85
 have h88 := envp he74.symm rfl h87
 refine sq (Rg (kx (bLss h88 h86) (Rn (hV (.sl none (a2.map (cI .i64))) h76 (hV (.int .u32 a3) h78 (hV (.pt none (.str a1.Debtor :: (.bool a1.Stock.Stock :: (.sl none (a1.Stock.Notches.map Notch.c) :: ((arC (cI .i8) 0 a1.Stock.Grain) ++ ((.sl none (a1.Marks.map Mark.c) :: []) : List AV)))))) h80 (hV (.int .i64 s1_1) h82 (hV (.sl none (a2.map (cI .i64))) h84 (hV (.int .i64 (a2.length : Int)) h86 (hV (.int .i64 s1_2) h88 (hN rfl hZ)))))))) fun e89 h91 h92 h93 h94 h95 h96 h97 h98 => sN (sq ?_))))
 clear h76 h78 h80 h82 h84 h86 h88
 rcases ite_some h with ⟨hb99, h⟩ | ⟨hb99, h⟩
 ·obtain ⟨x100, hx101, h⟩ := bind_some h
  obtain ⟨r113, hx112, h⟩ := bind_some h
  refine cT h98 hb99 (xx (sN (sq (bl (sq (Rg (kx (ixS h95 h97 hx101 (cI_fl _)) (kx (ldP rfl rfl) (kx (mvO rfl) (Rn (hA h91 (hA h92 (hA h93 (hA h94 (hN rfl (hA h95 (hA h96 (hA h97 hZ)))))))) fun e102 h104 h105 h106 h107 h108 h109 h110 h111 => sN (sq (sq (Rg (kx (mvO h108) (kc (cl (v := .bool r113) rfl rfl (cns rfl rfl) rfl (impl_isAmount_ok x100 _ hx112) nm) (kx (uNot rfl) (Rn (hA h104 (hA h105 (hA h106 (hA h107 (hA h108 (hA h109 (hA h110 (hA h111 (hN rfl hZ))))))))) fun e114 h116 h117 h118 h119 h120 h121 h122 h123 h124 => sN ?_)))))))))))))))))
  clear h91 h92 h93 h94 h95 h96 h97 h98 h104 h105 h106 h107 h108 h109 h110 h111
  rcases ite_some h with ⟨hb125, h⟩ | ⟨hb125, h⟩
  ·refine cF h124 (congrArg Bool.not hb125) (xx (sN (Rg (kx (mvO h119) (kx (mvO h120) (kx (bAdd rfl rfl) (kx (mvO rfl) (Rn (hA h116 (hA h117 (hA h118 (hN rfl (hA h121 (hA h122 (hA h123 hZ))))))) fun e126 h128 h129 h130 h131 h132 h133 h134 => bN (sN (Rg (kx (bAdd h134 rfl) (kx (mvO rfl) (Rn (hA h128 (hA h129 (hA h130 (hA h131 (hA h132 (hA h133 (hN rfl hZ))))))) fun e135 h137 h138 h139 h140 h141 h142 h143 => ?_)))))))))))))
   clear h116 h117 h118 h120 h121 h122 h123 h124 h128 h129 h130 h131 h132 h133
   obtain rfl := si h
   exact qN ⟨h137, h138, h139, h140, h141, h142, h143⟩
  refine cT h124 (congrArg Bool.not hb125) (sq (Rg (kx (mvO rfl) (kx (mvO rfl) (kx (mvO rfl) (kx (mvO rfl) (Rn (hV .nils rfl (hV .nils rfl (hV (.int .u32 0) rfl (hV (.int .i64 2) rfl hZ)))) fun e144 h146 h147 h148 h149 => sN (xx (sR (bR (sR ?_)))))))))))
  clear h116 h117 h118 h119 h120 h121 h122 h123 h124
  obtain rfl := si h
  exact qR ⟨rfl, h146, h147, h148, h149⟩
 refine cF h98 hb99 (xx (sE ?_))
 obtain rfl := si h
 exact qE ⟨rfl, h91, h92, h93, h94⟩
abbrev impl_SplitChain_b2_S := Int × Int × (List Half) × (List Half)
abbrev impl_SplitChain_b2_R := Int ⊕ (Int × (List Half) × (List Half))
def impl_SplitChain_b2_RS (a2 : List Int) (i2_1 : Nat) (i2_2 : Nat) (s : impl_SplitChain_b2_S) (e : Env) (M : Mem) : Prop := eget e 2 = .int .u32 s.1 ∧ eget e 13 = .lsl i2_1 s.2.2.1.length 0 s.2.2.1.length ∧ eget e 14 = .lsl i2_2 s.2.2.2.length 0 s.2.2.2.length ∧ eget e 53 = .sl none (a2.map (cI .i64)) ∧ eget e 54 = .int .i64 (a2.length : Int) ∧ eget e 55 = .int .i64 s.2.1 ∧ M[i2_1]? = some (.live ⟨.grow, 70, 18, s.2.2.1.map Half.c⟩) ∧ M[i2_2]? = some (.live ⟨.grow, 70, 18, s.2.2.2.map Half.c⟩)
def impl_SplitChain_b2_RR (a2 : List Int) (i2_1 : Nat) (i2_2 : Nat) (r : impl_SplitChain_b2_R) (x : Ex) (e : Env) (M : Mem) : Prop :=
  match r with
  | (.inl g) => x = .ret ∧ eget e 6 = .nils ∧ eget e 7 = .nils ∧ eget e 8 = .int .u32 0 ∧ eget e 9 = .int .i64 g
  | (.inr g) => x = .ext 2 ∧ eget e 2 = .int .u32 g.1 ∧ eget e 13 = .lsl i2_1 g.2.1.length 0 g.2.1.length ∧ eget e 14 = .lsl i2_2 g.2.2.length 0 g.2.2.length ∧ M[i2_1]? = some (.live ⟨.grow, 70, 18, g.2.1.map Half.c⟩) ∧ M[i2_2]? = some (.live ⟨.grow, 70, 18, g.2.2.map Half.c⟩)
noncomputable def impl_SplitChain_b2 (a2 : List Int) : impl_SplitChain_b2_S → Option (impl_SplitChain_b2_S ⊕ impl_SplitChain_b2_R) := fun (s2_1, s2_2, s2_3, s2_4) =>
 if (decide (s2_2 < (a2.length : Int))) = true then
  (rd a2 s2_2).bind fun x246 =>
  (impl_GrainFrom s2_1).bind fun (r258, r259) =>
  (impl_CutStick x246 r258).bind fun (r294, r295, r296, r297, r298, r299) =>
  if (r299 != 0) = true then
   some (.inr (.inl r299))
  else
   (app 48 s2_3 [(Half.mk r294 r295 r296)]).bind fun x366 =>
   (app 48 s2_4 [(Half.mk false r297 r298)]).bind fun x383 =>
   some (.inl (r259, (IntKind.i64.wrap (s2_2 + 1)), x366, x383))
 else
  some (.inr (.inr (s2_1, s2_3, s2_4)))
theorem impl_SplitChain_b2_ok (a2 : List Int) (i2_1 : Nat) (i2_2 : Nat) (ne188 : i2_1 ≠ i2_2) (s : impl_SplitChain_b2_S) (r : impl_SplitChain_b2_S ⊕ impl_SplitChain_b2_R) (h : impl_SplitChain_b2 a2 s = some r) (e : Env) (M : Mem) (hs : impl_SplitChain_b2_RS a2 i2_1 i2_2 s e M) : Ev (fun k => (f45_l17 (CN k) k (prune [2, 13, 14, 53, 54, 55] e) M).bind fun q => some q) (bQ (impl_SplitChain_b2_RS a2 i2_1 i2_2) (impl_SplitChain_b2_RR a2 i2_1 i2_2) r) := by
 obtain ⟨s2_1, s2_2, s2_3, s2_4⟩ := s
 unfold impl_SplitChain_b2 at h
 obtain ⟨h222, h224, h226, h228, h230, h232, o234, o235⟩ := hs
 generalize he221 : prune [2, 13, 14, 53, 54, 55] e = e220
 have h223 := envp he221.symm rfl h222
 have h225 := envp he221.symm rfl h224
 have h227 := envp he221.symm rfl h226
 have h229 := envp he221.symm rfl h228
 have h231 := envp he221.symm rfl h230
 have h233 := envp he221.symm rfl h232
 refine sq (Rg (kx (bLss h233 h231) (Rn (hV (.int .u32 s2_1) h223 (hV (.lsl i2_1 s2_3.length 0 s2_3.length) h225 (hV (.lsl i2_2 s2_4.length 0 s2_4.length) h227 (hV (.sl none (a2.map (cI .i64))) h229 (hV (.int .i64 (a2.length : Int)) h231 (hV (.int .i64 s2_2) h233 (hN rfl hZ))))))) fun e236 h238 h239 h240 h241 h242 h243 h244 => sN (sq ?_))))
 clear h223 h225 h227 h229 h231 h233
 rcases ite_some h with ⟨hb245, h⟩ | ⟨hb245, h⟩
 ·obtain ⟨x246, hx247, h⟩ := bind_some h
  obtain ⟨⟨r258, r259⟩, hx257, h⟩ := bind_some h
  refine cT h244 hb245 (xx (sN (sq (bl (sq (Rg (kx (ixS h241 h243 hx247 (cI_fl _)) (kx (ldP rfl rfl) (kx (mvO rfl) (Rn (hA h238 (hA h239 (hA h240 (hN rfl (hA h241 (hA h242 (hA h243 hZ))))))) fun e248 h250 h251 h252 h253 h254 h255 h256 => sN (sq (Rg (kx (mvO h250) (kc (cl (v := .tup [.agg (arC (cI .i8) 0 r258), .int .u32 r259]) rfl rfl (cns rfl rfl) rfl (impl_GrainFrom_ok s2_1 _ hx257) nm) (kx (mvO rfl) (kx (exT rfl rfl) (kx (exT rfl rfl) (ku (alO zero68) fun M261 hM262 => ?_))))))))))))))))))
  clear h238 h239 h240 h241 h242 h243 h244
  have o263 := push_old hM262 o234
  have ne264 := ne_new o234
  have o265 := push_old hM262 o235
  have ne266 := ne_new o235
  have o267 : M261[M.length]? = some (.live ⟨.box, 68, 16, [(arC (cI .i8) 0 (Ar.rep 16 0))]⟩) := push_new hM262
  refine kw (stO rfl rfl o267 rfl rfl ⟨rfl, ble rfl⟩ rfl rfl) fun M268 hM269 => ?_
  have o270 := set_ne hM269 ne264 o263
  have o271 := set_ne hM269 ne266 o265
  have o272 : M268[M.length]? = some (.live ⟨.box, 68, 16, [(arC (cI .i8) 0 r258)]⟩) := set_same hM269 o267
  obtain ⟨⟨r294, r295, r296, r297, r298, r299⟩, hx293, h⟩ := bind_some h
  refine kx (mvO rfl) (Rn (hA h251 (hA h252 (hA h253 (hV (.loc M.length 1 0 0) rfl (hN rfl (hA h254 (hA h255 (hA h256 hZ)))))))) fun e273 h275 h276 h277 h278 h279 h280 h281 h282 => sN (sq (Rg (kx (mvO h279) (kx (mvO rfl) (Rn (hN rfl (hA h275 (hA h276 (hA h277 (hA h278 (hA h280 (hA h281 (hA h282 hZ)))))))) fun e283 h285 h286 h287 h288 h289 h290 h291 h292 => sN (sq (Rg (kx (mvO h288) (kx (ldOA (cs' := (arC (cI .i8) 0 r258)) h289 o272 rfl rfl (ble rfl) rfl) (kc (clW (v := .tup [.agg (.bool r294 :: (.sl none (r295.map Notch.c) :: ((arC (cI .i8) 0 r296) ++ ([] : List AV)))), .agg (.bool false :: (.sl none (r297.map Notch.c) :: ((arC (cI .i8) 0 r298) ++ ([] : List AV)))), .int .i64 r299]) rfl rfl (cns rfl (cns rfl rfl)) rfl (impl_CutStick_ok x246 r258 _ hx293) rfl) (kx (mvO rfl) (kx (exT rfl rfl) (kx (exT rfl rfl) (kx (exT rfl rfl) (ku (alO zero70) fun M301 hM302 => ?_))))))))))))))))
  clear h250 h251 h252 h253 h254 h255 h256 h275 h276 h277 h278 h279 h280 h281 h282
  have o303 := push_old hM302 o270
  have ne304 := ne_new o270
  have o305 := push_old hM302 o271
  have ne306 := ne_new o271
  have o307 := push_old hM302 o272
  have ne308 := ne_new o272
  have o309 : M301[M268.length]? = some (.live ⟨.box, 70, 18, [(.bool false :: (.nils :: ((arC (cI .i8) 0 (Ar.rep 16 0)) ++ ([] : List AV))))]⟩) := push_new hM302
  refine ku (alO zero70) fun M311 hM312 => ?_
  have o313 := push_old hM312 o303
  have ne314 := ne_new o303
  have o315 := push_old hM312 o305
  have ne316 := ne_new o305
  have o317 := push_old hM312 o307
  have ne318 := ne_new o307
  have o319 := push_old hM312 o309
  have ne320 := ne_new o309
  have o321 : M311[M301.length]? = some (.live ⟨.box, 70, 18, [(.bool false :: (.nils :: ((arC (cI .i8) 0 (Ar.rep 16 0)) ++ ([] : List AV))))]⟩) := push_new hM312
  refine kw (stO rfl rfl o319 rfl rfl ⟨rfl, ble rfl⟩ rfl rfl) fun M322 hM323 => ?_
  have o324 := set_ne hM323 ne304 o313
  have o325 := set_ne hM323 ne306 o315
  have o326 := set_ne hM323 ne308 o317
  have o327 : M322[M268.length]? = some (.live ⟨.box, 70, 18, [(.bool r294 :: (.sl none (r295.map Notch.c) :: ((arC (cI .i8) 0 r296) ++ ([] : List AV))))]⟩) := set_same hM323 o319
  have o328 := set_ne hM323 (Ne.symm ne320) o321
  refine kw (stO rfl rfl o328 rfl rfl ⟨rfl, ble rfl⟩ rfl rfl) fun M329 hM330 => ?_
  have o331 := set_ne hM330 ne314 o324
  have o332 := set_ne hM330 ne316 o325
  have o333 := set_ne hM330 ne318 o326
  have o334 := set_ne hM330 ne320 o327
  have o335 : M329[M301.length]? = some (.live ⟨.box, 70, 18, [(.bool false :: (.sl none (r297.map Notch.c) :: ((arC (cI .i8) 0 r298) ++ ([] : List AV))))]⟩) := set_same hM330 o328
  refine kx (mvO rfl) (Rn (hA h285 (hA h286 (hA h287 (hV (.loc M268.length 1 0 0) rfl (hV (.loc M301.length 1 0 0) rfl (hN rfl (hA h290 (hA h291 (hA h292 hZ))))))))) fun e336 h338 h339 h340 h341 h342 h343 h344 h345 h346 => sN (sq (sq (Rg (kx (mvO h343) (kx (bNeq rfl rfl) (Rn (hA h338 (hA h339 (hA h340 (hA h341 (hA h342 (hA h343 (hA h344 (hA h345 (hA h346 (hN rfl hZ)))))))))) fun e347 h349 h350 h351 h352 h353 h354 h355 h356 h357 h358 => sN ?_)))))))
  clear h285 h286 h287 h288 h289 h290 h291 h292 h338 h339 h340 h341 h342 h343 h344 h345 h346
  rcases ite_some h with ⟨hb359, h⟩ | ⟨hb359, h⟩
  ·refine cT h358 hb359 (sq (Rg (kx (mvO h354) (kx (mvO rfl) (kx (mvO rfl) (kx (mvO rfl) (kx (mvO rfl) (Rn (hV .nils rfl (hV .nils rfl (hV (.int .u32 0) rfl (hN rfl hZ)))) fun e360 h362 h363 h364 h365 => sN (xx (sR (bR (sR ?_))))))))))))
   clear h349 h350 h351 h352 h353 h354 h355 h356 h357 h358
   obtain rfl := si h
   exact qR ⟨rfl, h362, h363, h364, h365⟩
  obtain ⟨x366, hx367, h⟩ := bind_some h
  refine cF h358 hb359 (xx (sN (sq (Rg (kx (mvO h350) (kx (ldOA (cs' := (.bool r294 :: (.sl none (r295.map Notch.c) :: ((arC (cI .i8) 0 r296) ++ ([] : List AV))))) h352 o334 rfl rfl (ble rfl) rfl) (kx (litI (cns rfl rfl) rfl ⟨rfl, by decide⟩) (kw (apO rfl o331 rfl (elT (c := Half.c) (xs := [(Half.mk r294 r295 r296)]) rfl) hx367 Half.fl (by decide)) fun M368 hM369 => ?_))))))))
  have o370 : M368[i2_1]? = some (.live ⟨.grow, 70, 18, x366.map Half.c⟩) := set_same hM369 o331
  have o371 := set_ne hM369 (Ne.symm ne188) o332
  have o372 := set_ne hM369 (Ne.symm ne304) o334
  have o373 := set_ne hM369 (Ne.symm ne314) o335
  obtain ⟨x383, hx384, h⟩ := bind_some h
  refine kx (mvO rfl) (Rn (hA h349 (hV (.lsl i2_1 x366.length 0 x366.length) rfl (hA h351 (hA h353 (hA h355 (hA h356 (hA h357 hZ))))))) fun e374 h376 h377 h378 h379 h380 h381 h382 => sN (Rg (kx (mvO h378) (kx (ldOA (cs' := (.bool false :: (.sl none (r297.map Notch.c) :: ((arC (cI .i8) 0 r298) ++ ([] : List AV))))) h379 o373 rfl rfl (ble rfl) rfl) (kx (litI (cns rfl rfl) rfl ⟨rfl, by decide⟩) (kw (apO rfl o371 rfl (elT (c := Half.c) (xs := [(Half.mk false r297 r298)]) rfl) hx384 Half.fl (by decide)) fun M385 hM386 => ?_))))))
  clear h349 h351 h352 h353 h354 h355 h356 h357 h358
  have o387 := set_ne hM386 ne188 o370
  have o388 : M385[i2_2]? = some (.live ⟨.grow, 70, 18, x383.map Half.c⟩) := set_same hM386 o371
  have o389 := set_ne hM386 (Ne.symm ne316) o373
  refine kx (mvO rfl) (Rn (hA h376 (hA h377 (hV (.lsl i2_2 x383.length 0 x383.length) rfl (hA h380 (hA h381 (hA h382 hZ)))))) fun e390 h392 h393 h394 h395 h396 h397 => bN (sN (Rg (kx (bAdd h397 rfl) (kx (mvO rfl) (Rn (hA h392 (hA h393 (hA h394 (hA h395 (hA h396 (hN rfl hZ)))))) fun e398 h400 h401 h402 h403 h404 h405 => ?_))))))
  clear h376 h377 h379 h380 h381 h382 h392 h393 h394 h395 h396
  obtain rfl := si h
  exact qN ⟨h400, h401, h402, h403, h404, h405, o387, o388⟩
 refine cF h244 hb245 (xx (sE ?_))
 obtain rfl := si h
 exact qE ⟨rfl, h238, h239, h240, o234, o235⟩
noncomputable def impl_SplitChain (a1 : Chain) (a2 : List Int) (a3 : Int) : Option (Int ⊕ ((List Half) × (List Half) × Int)) :=
 (impl_ValidChain a1).bind fun r7 =>
 if r7 = true then
  (if (decide ((a2.length : Int) < 1)) = true then
   some true
  else
   some (decide ((a2.length : Int) > 20))).bind fun y30 =>
  if y30 = true then
   some (.inl 2)
  else
   (Lw (impl_SplitChain_b1 a2) (0, 0)).bind fun r => match r with
   | (.inl _) =>
    some (.inl 2)
   | (.inr y161) =>
    (impl_amountOf a1.Stock).bind fun r167 =>
    if (y161 != r167) = true then
     some (.inl 4)
    else
     (Lw (impl_SplitChain_b2 a2) (a3, 0, ([] : List Half), ([] : List Half))).bind fun r => match r with
     | (.inl y411) =>
      some (.inl y411)
     | (.inr (y418, y419, y420)) =>
      some (.inr (y419, y420, y418))
 else
  some (.inl 1)
def impl_SplitChain_enc (r : Int ⊕ ((List Half) × (List Half) × Int)) : AV :=
  match r with
  | (.inl g) => .tup [.nils, .nils, .int .u32 0, .int .i64 g]
  | (.inr g) => .tup [.sl (some 70) (g.1.map Half.c), .sl (some 70) (g.2.1.map Half.c), .int .u32 g.2.2, .int .i64 0]
theorem impl_SplitChain_ok (a1 : Chain) (a2 : List Int) (a3 : Int) (r : Int ⊕ ((List Half) × (List Half) × Int)) (h : impl_SplitChain a1 a2 a3 = some r) : Ev (fun k => CN k 45 [.agg (.str a1.Debtor :: (.bool a1.Stock.Stock :: (.sl none (a1.Stock.Notches.map Notch.c) :: ((arC (cI .i8) 0 a1.Stock.Grain) ++ ((.sl none (a1.Marks.map Mark.c) :: []) : List AV))))), .sl none (a2.map (cI .i64)), .int .u32 a3] []) (fun p => rRes p.2 p.1 = impl_SplitChain_enc r) := by
 unfold impl_SplitChain at h
 obtain ⟨r7, hx6, h⟩ := bind_some h
 refine Ev.enter (F := fun k => f45 (CN k) k) (fun k => callN_eq rfl Try.func45 rfl rfl rfl (by decide +kernel) (f45_eq _ _)) (sq (Rg (kx (bxI rfl rfl ⟨rfl, rfl, by decide⟩) (kx (mvO rfl) (kx (mvO rfl) (kx (mvO rfl) (kx (mvO rfl) (Rn (hN rfl (hN rfl (hN rfl hZ))) fun e1 h3 h4 h5 => sN (sq (sq (Rg (kx (ldPA h5 rfl rfl) (kc (cl (v := .bool r7) rfl rfl (cns rfl rfl) rfl (impl_ValidChain_ok a1 _ hx6) nm) (kx (uNot rfl) (Rn (hA h3 (hA h4 (hA h5 (hN rfl hZ)))) fun e8 h10 h11 h12 h13 => sN ?_)))))))))))))))
 clear h3 h4 h5
 rcases ite_some h with ⟨hb14, h⟩ | ⟨hb14, h⟩
 ·obtain ⟨r433, hr434, h⟩ := bind_some h
  refine cF h13 (congrArg Bool.not hb14) (xx (sN (sq (sq ?_))))
  refine Ev.cut (Q1 := impl_SplitChain_c1_Q a1 a2 a3 r433) (by
      have h := hr434
      refine Rg (kx (mvO h10) (kx (lnS Try.underlying24 rfl) (kx (bLss rfl rfl) (kx (mvO rfl) ?_))))
      rcases ite_some h with ⟨hb15, h⟩ | ⟨hb15, h⟩
      ·refine kx (gsF rfl hb15) (kx (gsF rfl hb15) (kx (gsF rfl hb15) (kx (pkT rfl hb15 rfl) (Rn (hA h10 (hA h11 (hA h12 (hV (.bool true) rfl hZ)))) fun e16 h18 h19 h20 h21 => ?_))))
       clear h10 h11 h12 h13
       obtain rfl := si h
       exact kd (show impl_SplitChain_c1_Q a1 a2 a3 _ _ from ⟨rfl, h18, h19, h20, h21⟩)
      refine kx (guF rfl hb15 (mvO h10)) (kx (guF rfl hb15 (lnS Try.underlying24 rfl)) (kx (guF rfl hb15 (bGtr rfl rfl)) (kx (pkF rfl hb15 rfl) (Rn (hA h10 (hA h11 (hA h12 (hN rfl hZ)))) fun e22 h24 h25 h26 h27 => ?_))))
      clear h10 h11 h12 h13
      obtain rfl := si h
      exact kd (show impl_SplitChain_c1_Q a1 a2 a3 _ _ from ⟨rfl, h24, h25, h26, h27⟩)) ?_
  revert h hr434
  revert r433
  intro y30 hr434 h
  intro x e28 M29 hq432
  obtain ⟨rfl, h31, h32, h33, h34⟩ := hq432
  refine sN ?_
  rcases ite_some h with ⟨hb35, h⟩ | ⟨hb35, h⟩
  ·refine cT h34 hb35 (sq (Rg (kx (mvO rfl) (kx (mvO rfl) (kx (mvO rfl) (kx (mvO rfl) (Rn (hV .nils rfl (hV .nils rfl (hV (.int .u32 0) rfl (hV (.int .i64 2) rfl hZ)))) fun e36 h38 h39 h40 h41 => sN (xx (sR ?_)))))))))
   clear h31 h32 h33 h34
   obtain rfl := si h
   exact eR (resT h38 (resT h39 (resT h40 (resT h41 res0)))) rfl
  obtain ⟨r150, hr151, h⟩ := bind_some h
  refine cF h34 hb35 (xx (sN (sq (Rg (kx (mvO rfl) (Rn (hV (.sl none (a2.map (cI .i64))) h31 (hV (.int .u32 a3) h32 (hV (.pt none (.str a1.Debtor :: (.bool a1.Stock.Stock :: (.sl none (a1.Stock.Notches.map Notch.c) :: ((arC (cI .i8) 0 a1.Stock.Grain) ++ ((.sl none (a1.Marks.map Mark.c) :: []) : List AV)))))) h33 (hV (.int .i64 0) rfl hZ)))) fun e42 h44 h45 h46 h47 => sN (sq (sq (Rg (kx (mvO h44) (kx (lnS Try.underlying24 rfl) (kx (mvO rfl) (Rn (hA h44 (hA h45 (hA h46 (hA h47 (hN rfl (hN rfl (hV (.int .i64 0) rfl hZ))))))) fun e48 h50 h51 h52 h53 h54 h55 h56 => sN (bl ?_))))))))))))))
  clear h31 h32 h33 h34 h44 h45 h46 h47
  rcases r150 with _ | y161
  ·refine Ev.loop (RS := impl_SplitChain_b1_RS a1 a2 a3) (RR := impl_SplitChain_b1_RR a1 a2 a3) (fun s r h e M hs => impl_SplitChain_b1_ok a1 a2 a3 s r h e M hs) hr151 ⟨h50, h51, h52, h53, h54, h55, h56⟩ fun x e153 M154 hq152 => ?_
   obtain ⟨rfl, h155, h156, h157, h158⟩ := hq152
   refine bR (sR ?_)
   obtain rfl := si h
   exact eR (resT h155 (resT h156 (resT h157 (resT h158 res0)))) rfl
  refine Ev.loop (RS := impl_SplitChain_b1_RS a1 a2 a3) (RR := impl_SplitChain_b1_RR a1 a2 a3) (fun s r h e M hs => impl_SplitChain_b1_ok a1 a2 a3 s r h e M hs) hr151 ⟨h50, h51, h52, h53, h54, h55, h56⟩ fun x e159 M160 hq152 => ?_
  obtain ⟨rfl, h162, h163, h164, h165⟩ := hq152
  obtain ⟨r167, hx166, h⟩ := bind_some h
  refine bE (sN (sq (sq (Rg (kx (mvO h165) (kx (faP h164 ⟨ble rfl, blt rfl⟩ rfl) (kx (ldPA rfl rfl rfl) (kc (cl (v := .int .i64 r167) rfl rfl (cns rfl rfl) rfl (impl_amountOf_ok a1.Stock _ hx166) nm) (kx (bNeq rfl rfl) (Rn (hV (.sl none (a2.map (cI .i64))) h162 (hV (.int .u32 a3) h163 (hN rfl hZ))) fun e168 h170 h171 h172 => sN ?_))))))))))
  clear h162 h163 h164 h165
  rcases ite_some h with ⟨hb173, h⟩ | ⟨hb173, h⟩
  ·refine cT h172 hb173 (sq (Rg (kx (mvO rfl) (kx (mvO rfl) (kx (mvO rfl) (kx (mvO rfl) (Rn (hV .nils rfl (hV .nils rfl (hV (.int .u32 0) rfl (hV (.int .i64 4) rfl hZ)))) fun e174 h176 h177 h178 h179 => sN (xx (sR ?_)))))))))
   clear h170 h171 h172
   obtain rfl := si h
   exact eR (resT h176 (resT h177 (resT h178 (resT h179 res0)))) rfl
  refine cF h172 hb173 (xx (sN (sq (Rg (ku (litO (xs := ([] : List Half)) (c := Half.c) rfl rfl (by decide)) fun M181 hM182 => ?_)))))
  have o183 : M181[M160.length]? = some (.live ⟨.grow, 70, 18, ([] : List Half).map Half.c⟩) := push_new hM182
  refine ku (litO (xs := ([] : List Half)) (c := Half.c) rfl rfl (by decide)) fun M185 hM186 => ?_
  have o187 := push_old hM186 o183
  have ne188 := ne_new o183
  have o189 : M185[M181.length]? = some (.live ⟨.grow, 70, 18, ([] : List Half).map Half.c⟩) := push_new hM186
  obtain ⟨r406, hr407, h⟩ := bind_some h
  refine kx (mvO rfl) (kx (mvO rfl) (Rn (hA h170 (hA h171 (hV (.lsl M160.length ([] : List Half).length 0 ([] : List Half).length) rfl (hV (.lsl M181.length ([] : List Half).length 0 ([] : List Half).length) rfl hZ)))) fun e190 h192 h193 h194 h195 => sN (sq (sq (Rg (kx (mvO h192) (kx (lnS Try.underlying24 rfl) (kx (mvO rfl) (Rn (hA h193 (hA h194 (hA h195 (hN rfl (hN rfl (hV (.int .i64 0) rfl hZ)))))) fun e196 h198 h199 h200 h201 h202 h203 => sN (bl ?_))))))))))
  clear h170 h171 h172 h192 h193 h194 h195
  rcases r406 with y411 | ⟨y418, y419, y420⟩
  ·refine Ev.loop (RS := impl_SplitChain_b2_RS a2 M160.length M181.length) (RR := impl_SplitChain_b2_RR a2 M160.length M181.length) (fun s r h e M hs => impl_SplitChain_b2_ok a2 M160.length M181.length ne188 s r h e M hs) hr407 ⟨h198, h199, h200, h201, h202, h203, o187, o189⟩ fun x e409 M410 hq408 => ?_
   obtain ⟨rfl, h412, h413, h414, h415⟩ := hq408
   refine bR (sR ?_)
   obtain rfl := si h
   exact eR (resT h412 (resT h413 (resT h414 (resT h415 res0)))) rfl
  refine Ev.loop (RS := impl_SplitChain_b2_RS a2 M160.length M181.length) (RR := impl_SplitChain_b2_RR a2 M160.length M181.length) (fun s r h e M hs => impl_SplitChain_b2_ok a2 M160.length M181.length ne188 s r h e M hs) hr407 ⟨h198, h199, h200, h201, h202, h203, o187, o189⟩ fun x e416 M417 hq408 => ?_
  obtain ⟨rfl, h421, h422, h423, o424, o425⟩ := hq408
  refine bE (sN (sq (Rg (kx (mvO h422) (kx (mvO h423) (kx (mvO h421) (kx (mvO rfl) (kx (mvO rfl) (kx (mvO rfl) (kx (mvO rfl) (Rn (hV (.lsl M160.length y419.length 0 y419.length) rfl (hV (.lsl M181.length y420.length 0 y420.length) rfl (hN rfl (hV (.int .i64 0) rfl hZ)))) fun e426 h428 h429 h430 h431 => sN (xx ?_))))))))))))
  clear h421 h422 h423
  obtain rfl := si h
  exact eR (resT h428 (resT h429 (resT h430 (resT h431 res0)))) (rr_tup (mp1 (rr_row o424 rfl Half.fl) (mp1 (rr_row o425 rfl Half.fl) (mp1 rfl (mp1 rfl mp0)))))
 refine cT h13 (congrArg Bool.not hb14) (sq (Rg (kx (mvO rfl) (kx (mvO rfl) (kx (mvO rfl) (kx (mvO rfl) (Rn (hV .nils rfl (hV .nils rfl (hV (.int .u32 0) rfl (hV (.int .i64 1) rfl hZ)))) fun e435 h437 h438 h439 h440 => sN (xx (sR ?_)))))))))
 clear h10 h11 h12 h13
 obtain rfl := si h
 exact eR (resT h437 (resT h438 (resT h439 (resT h440 res0)))) rfl
noncomputable def spec_AmountOf (a1 : Half) : Option (Int × Int) :=
 (spec_l01Ok a1).bind fun r5 =>
 if r5 = true then
  (spec_l01Sum a1.Notches).bind fun r12 =>
  some (r12, 0)
 else
  some (0, 1)
def spec_AmountOf_enc (r : Int × Int) : AV := .tup [.int .i64 r.1, .int .i64 r.2]
theorem spec_AmountOf_ok (a1 : Half) (r : Int × Int) (h : spec_AmountOf a1 = some r) : Ev (fun k => CN k 44 [.agg (.bool a1.Stock :: (.sl none (a1.Notches.map Notch.c) :: ((arC (cI .i8) 0 a1.Grain) ++ ([] : List AV))))] []) (fun p => rRes p.2 p.1 = spec_AmountOf_enc r) := by
 unfold spec_AmountOf at h
 obtain ⟨r5, hx4, h⟩ := bind_some h
 refine Ev.enter (F := fun k => f44 (CN k) k) (fun k => callN_eq rfl Try.func44 rfl rfl rfl (by decide +kernel) (f44_eq _ _)) (sq (Rg (kx (bxI rfl rfl ⟨rfl, rfl, by decide⟩) (kx (mvO rfl) (kx (mvO rfl) (Rn (hN rfl hZ) fun e1 h3 => sN (sq (sq (Rg (kc (cl (v := .bool r5) rfl rfl (cns h3 rfl) rfl (spec_l01Ok_ok a1 _ hx4) nm) (kx (uNot rfl) (Rn (hA h3 (hN rfl hZ)) fun e6 h8 h9 => sN ?_))))))))))))
 clear h3
 rcases ite_some h with ⟨hb10, h⟩ | ⟨hb10, h⟩
 ·obtain ⟨r12, hx11, h⟩ := bind_some h
  refine cF h9 (congrArg Bool.not hb10) (xx (sN (sq (Rg (kx (faP h8 ⟨ble rfl, blt rfl⟩ rfl) (kx (ldP rfl rfl) (kc (cl (v := .int .i64 r12) rfl rfl (cns rfl rfl) rfl (spec_l01Sum_ok a1.Notches _ hx11) nm) (kx (mvO rfl) (kx (mvO rfl) (Rn (hN rfl (hV (.int .i64 0) rfl hZ)) fun e13 h15 h16 => sN (xx ?_)))))))))))
  clear h8 h9
  obtain rfl := si h
  exact eR (resT h15 (resT h16 res0)) rfl
 refine cT h9 (congrArg Bool.not hb10) (sq (Rg (kx (mvO rfl) (kx (mvO rfl) (Rn (hV (.int .i64 0) rfl (hV (.int .i64 1) rfl hZ)) fun e17 h19 h20 => sN (xx (sR ?_)))))))
 clear h8 h9
 obtain rfl := si h
 exact eR (resT h19 (resT h20 res0)) rfl
noncomputable def spec_l00From (a1 : List Int) : Option L00Src :=
 some (L00Src.mk a1 0 0)
def spec_l00From_Q (a1 : List Int) (M0 : Mem) (r : L00Src) (p : AV × Mem) : Prop := p.1 = .loc M0.length 1 0 0 ∧ p.2[M0.length]? = some (.live ⟨.box, 142, 3, [[.sl none (r.Code.map (cI .u8)), .int .i64 r.At, .int .u64 r.Seed]]⟩) ∧ Fr [] M0 p.2
theorem spec_l00From_ok (a1 : List Int) (M0 : Mem) (r : L00Src) (h : spec_l00From a1 = some r) : Ev (fun k => CN k 51 [.sl none (a1.map (cI .u8))] M0) (spec_l00From_Q a1 M0 r) := by
 unfold spec_l00From at h
 have fr0 : Fr [] M0 M0 := Fr.refl
 refine Ev.enter (F := fun k => f51 (CN k) k) (fun k => callN_eq rfl Try.func51 rfl rfl rfl (by decide +kernel) (f51_eq _ _)) (sq (Rg (kx (mvO rfl) (Rn (hN rfl hZ) fun e1 h3 => sN (sq (Rg (kx (mvO h3) (kx (bldT zero142 (cns (pr3 rfl) rfl) (fill1 ⟨rfl, ble rfl⟩ rfl rfl (fill0 rfl))) (ku (bxO rfl rfl ⟨rfl, rfl, by decide⟩) fun M5 hM6 => ?_)))))))))
 have nf7 := Nf.mk fr0
 have fr8 := Fr.push fr0 hM6
 have o9 : M5[M0.length]? = some (.live ⟨.box, 142, 3, [[.sl none (a1.map (cI .u8)), .int .i64 0, .int .u64 0]]⟩) := push_new hM6
 refine kx (mvO rfl) (Rn (hV (.loc M0.length 1 0 0) rfl hZ) fun e10 h12 => sN (xx ?_))
 clear h3
 obtain rfl := si h
 exact eR (resT h12 res0) ⟨rfl, o9, fr8⟩
noncomputable def spec_l00Src_next_p (a1 : List Int) (a2 : Int) (a3 : Int) : Option (Int × (List Int) × Int × Int) :=
 if (decide (a2 < (a1.length : Int))) = true then
  (rd a1 a2).bind fun x14 =>
  if (decide ((IntKind.i64.wrap (a2 + 1)) ≤ (a1.length : Int))) = true then
   some ((IntKind.i64.wrap x14), a1, (IntKind.i64.wrap (a2 + 1)), (IntKind.u64.wrap ((IntKind.u64.wrap ((IntKind.u64.wrap (a3 * 6364136223846793005)) + (IntKind.u64.wrap (IntKind.i64.wrap x14)))) + 1442695040888963407)))
  else
   (shr .u64 (IntKind.u64.wrap ((IntKind.u64.wrap ((IntKind.u64.wrap (a3 * 6364136223846793005)) + (IntKind.u64.wrap (IntKind.i64.wrap x14)))) + 1442695040888963407)) 40).bind fun n45 =>
   some ((IntKind.i64.wrap (iand .u64 n45 255)), a1, (IntKind.i64.wrap (a2 + 1)), (IntKind.u64.wrap ((IntKind.u64.wrap ((IntKind.u64.wrap (a3 * 6364136223846793005)) + (IntKind.u64.wrap (IntKind.i64.wrap x14)))) + 1442695040888963407)))
 else
  if (decide ((IntKind.i64.wrap (a2 + 1)) ≤ (a1.length : Int))) = true then
   some (0, a1, (IntKind.i64.wrap (a2 + 1)), (IntKind.u64.wrap ((IntKind.u64.wrap ((IntKind.u64.wrap (a3 * 6364136223846793005)) + 0)) + 1442695040888963407)))
  else
   (shr .u64 (IntKind.u64.wrap ((IntKind.u64.wrap ((IntKind.u64.wrap (a3 * 6364136223846793005)) + 0)) + 1442695040888963407)) 40).bind fun n75 =>
   some ((IntKind.i64.wrap (iand .u64 n75 255)), a1, (IntKind.i64.wrap (a2 + 1)), (IntKind.u64.wrap ((IntKind.u64.wrap ((IntKind.u64.wrap (a3 * 6364136223846793005)) + 0)) + 1442695040888963407)))
def spec_l00Src_next_p_Q (a1 : List Int) (a2 : Int) (a3 : Int) (j1 : Nat) (M0 : Mem) (r : Int × (List Int) × Int × Int) (p : AV × Mem) : Prop := p.1 = .int .i64 r.1 ∧ p.2[j1]? = some (.live ⟨.box, 142, 3, [[.sl none (r.2.1.map (cI .u8)), .int .i64 r.2.2.1, .int .u64 r.2.2.2]]⟩) ∧ Fr [j1] M0 p.2
theorem spec_l00Src_next_p_ok (a1 : List Int) (a2 : Int) (a3 : Int) (j1 : Nat) (M0 : Mem) (oP1 : M0[j1]? = some (.live ⟨.box, 142, 3, [[.sl none (a1.map (cI .u8)), .int .i64 a2, .int .u64 a3]]⟩)) (r : Int × (List Int) × Int × Int) (h : spec_l00Src_next_p a1 a2 a3 = some r) : Ev (fun k => CN k 117 [.loc j1 1 0 0] M0) (spec_l00Src_next_p_Q a1 a2 a3 j1 M0 r) := by
 unfold spec_l00Src_next_p at h
 have fr0 : Fr [j1] M0 M0 := Fr.refl
 refine Ev.enter (F := fun k => f117 (CN k) k) (fun k => callN_eq rfl Try.func117 rfl rfl rfl (by decide +kernel) (f117_eq _ _)) (sq (Rg (kx (mvO rfl) (Rn (hV (.loc j1 1 0 0) rfl hZ) fun e1 h3 => sN (sq (Rg (kx (mvO rfl) (Rn (hA h3 (hV (.int .i64 0) rfl hZ)) fun e4 h6 h7 => sN (sq (sq (Rd (kf (mvO h6) (kf (ncO rfl oP1 rfl) (kf (faO rfl oP1 rfl) (kf (ldO rfl oP1 rfl rfl rfl) (kf (mvO h6) (kf (ncO rfl oP1 rfl) (kf (faO rfl oP1 rfl) (kf (ldO rfl oP1 rfl rfl rfl) (kf (lnS Try.underlying22 rfl) (kf (bLss rfl rfl) (fZ (Rn (hA h6 (hA h7 (hN rfl hZ))) fun e8 h10 h11 h12 => sN ?_)))))))))))))))))))))))
 clear h3 h6 h7
 rcases ite_some h with ⟨hb13, h⟩ | ⟨hb13, h⟩
 ·obtain ⟨x14, hx15, h⟩ := bind_some h
  refine cT h12 hb13 (Rd (kf (mvO h10) (kf (ncO rfl oP1 rfl) (kf (faO rfl oP1 rfl) (kf (ldO rfl oP1 rfl rfl rfl) (kf (mvO h10) (kf (ncO rfl oP1 rfl) (kf (faO rfl oP1 rfl) (kf (ldO rfl oP1 rfl rfl rfl) (kf (ixS rfl rfl hx15 (cI_fl _)) (kf (ldP rfl rfl) (kf (cvI rfl) (kf (mvO rfl) (fZ (Rn (hA h10 (hN rfl hZ)) fun e16 h18 h19 => sN (sq (Rg (kx (mvO h18) (kx (ncO rfl oP1 rfl) (kx (faO rfl oP1 rfl) (kx (ldO rfl oP1 rfl rfl rfl) (kx (bAdd rfl rfl) (kx (ncO rfl oP1 rfl) (kx (faO rfl oP1 rfl) (kw (stO rfl rfl oP1 rfl rfl ⟨rfl, ble rfl⟩ rfl rfl) fun M20 hM21 => ?_)))))))))))))))))))))))))
  clear h10 h12
  have o22 : M20[j1]? = some (.live ⟨.box, 142, 3, [[.sl none (a1.map (cI .u8)), .int .i64 (IntKind.i64.wrap (a2 + 1)), .int .u64 a3]]⟩) := set_same hM21 oP1
  have fr23 := Fr.setIn fr0 hM21 (by simp)
  refine Rn (hA h18 (hA h19 hZ)) fun e24 h26 h27 => sN (sq (Rg (kx (mvO h26) (kx (mvO h26) (kx (ncO rfl o22 rfl) (kx (faO rfl o22 rfl) (kx (ldO rfl o22 rfl rfl rfl) (kx (bMul rfl rfl) (kx (mvO h27) (kx (cvI rfl) (kx (bAdd rfl rfl) (kx (bAdd rfl rfl) (kx (ncO rfl o22 rfl) (kx (faO rfl o22 rfl) (kw (stO rfl rfl o22 rfl rfl ⟨rfl, ble rfl⟩ rfl rfl) fun M28 hM29 => ?_)))))))))))))))
  clear h18 h19
  have o30 : M28[j1]? = some (.live ⟨.box, 142, 3, [[.sl none (a1.map (cI .u8)), .int .i64 (IntKind.i64.wrap (a2 + 1)), .int .u64 (IntKind.u64.wrap ((IntKind.u64.wrap ((IntKind.u64.wrap (a3 * 6364136223846793005)) + (IntKind.u64.wrap (IntKind.i64.wrap x14)))) + 1442695040888963407))]]⟩) := set_same hM29 o22
  have fr31 := Fr.setIn fr23 hM29 (by simp)
  refine Rn (hA h26 (hA h27 hZ)) fun e32 h34 h35 => sN (sq (sq (Rd (kf (mvO h34) (kf (ncO rfl o30 rfl) (kf (faO rfl o30 rfl) (kf (ldO rfl o30 rfl rfl rfl) (kf (mvO h34) (kf (ncO rfl o30 rfl) (kf (faO rfl o30 rfl) (kf (ldO rfl o30 rfl rfl rfl) (kf (lnS Try.underlying22 rfl) (kf (bLeq rfl rfl) (fZ (Rn (hA h34 (hA h35 (hN rfl hZ))) fun e36 h38 h39 h40 => sN ?_)))))))))))))))
  clear h26 h27 h34 h35
  rcases ite_some h with ⟨hb41, h⟩ | ⟨hb41, h⟩
  ·refine cT h40 hb41 (sq (Rg (kx (mvO h39) (kx (mvO rfl) (Rn (hN rfl hZ) fun e42 h44 => sN (xx (sR ?_)))))))
   clear h38 h39 h40
   obtain rfl := si h
   exact eR (resT h44 res0) ⟨rfl, o30, fr31⟩
  obtain ⟨n45, hx46, h⟩ := bind_some h
  refine cF h40 hb41 (xx (sN (sq (Rg (kx (mvO h38) (kx (ncO rfl o30 rfl) (kx (faO rfl o30 rfl) (kx (ldO rfl o30 rfl rfl rfl) (kx (bShr rfl rfl hx46) (kx (bAnd rfl rfl) (kx (cvI rfl) (kx (mvO rfl) (Rn (hN rfl hZ) fun e47 h49 => sN (xx ?_))))))))))))))
  clear h38 h39 h40
  obtain rfl := si h
  exact eR (resT h49 res0) ⟨rfl, o30, fr31⟩
 refine cF h12 hb13 (xx (sN (sq (Rg (kx (mvO h10) (kx (ncO rfl oP1 rfl) (kx (faO rfl oP1 rfl) (kx (ldO rfl oP1 rfl rfl rfl) (kx (bAdd rfl rfl) (kx (ncO rfl oP1 rfl) (kx (faO rfl oP1 rfl) (kw (stO rfl rfl oP1 rfl rfl ⟨rfl, ble rfl⟩ rfl rfl) fun M50 hM51 => ?_))))))))))))
 have o52 : M50[j1]? = some (.live ⟨.box, 142, 3, [[.sl none (a1.map (cI .u8)), .int .i64 (IntKind.i64.wrap (a2 + 1)), .int .u64 a3]]⟩) := set_same hM51 oP1
 have fr53 := Fr.setIn fr0 hM51 (by simp)
 refine Rn (hA h10 (hA h11 hZ)) fun e54 h56 h57 => sN (sq (Rg (kx (mvO h56) (kx (mvO h56) (kx (ncO rfl o52 rfl) (kx (faO rfl o52 rfl) (kx (ldO rfl o52 rfl rfl rfl) (kx (bMul rfl rfl) (kx (mvO h57) (kx (cvI rfl) (kx (bAdd rfl rfl) (kx (bAdd rfl rfl) (kx (ncO rfl o52 rfl) (kx (faO rfl o52 rfl) (kw (stO rfl rfl o52 rfl rfl ⟨rfl, ble rfl⟩ rfl rfl) fun M58 hM59 => ?_)))))))))))))))
 clear h10 h11 h12
 have o60 : M58[j1]? = some (.live ⟨.box, 142, 3, [[.sl none (a1.map (cI .u8)), .int .i64 (IntKind.i64.wrap (a2 + 1)), .int .u64 (IntKind.u64.wrap ((IntKind.u64.wrap ((IntKind.u64.wrap (a3 * 6364136223846793005)) + 0)) + 1442695040888963407))]]⟩) := set_same hM59 o52
 have fr61 := Fr.setIn fr53 hM59 (by simp)
 refine Rn (hA h56 (hA h57 hZ)) fun e62 h64 h65 => sN (sq (sq (Rd (kf (mvO h64) (kf (ncO rfl o60 rfl) (kf (faO rfl o60 rfl) (kf (ldO rfl o60 rfl rfl rfl) (kf (mvO h64) (kf (ncO rfl o60 rfl) (kf (faO rfl o60 rfl) (kf (ldO rfl o60 rfl rfl rfl) (kf (lnS Try.underlying22 rfl) (kf (bLeq rfl rfl) (fZ (Rn (hA h64 (hA h65 (hN rfl hZ))) fun e66 h68 h69 h70 => sN ?_)))))))))))))))
 clear h56 h57 h64 h65
 rcases ite_some h with ⟨hb71, h⟩ | ⟨hb71, h⟩
 ·refine cT h70 hb71 (sq (Rg (kx (mvO h69) (kx (mvO rfl) (Rn (hV (.int .i64 0) rfl hZ) fun e72 h74 => sN (xx (sR ?_)))))))
  clear h68 h69 h70
  obtain rfl := si h
  exact eR (resT h74 res0) ⟨rfl, o60, fr61⟩
 obtain ⟨n75, hx76, h⟩ := bind_some h
 refine cF h70 hb71 (xx (sN (sq (Rg (kx (mvO h68) (kx (ncO rfl o60 rfl) (kx (faO rfl o60 rfl) (kx (ldO rfl o60 rfl rfl rfl) (kx (bShr rfl rfl hx76) (kx (bAnd rfl rfl) (kx (cvI rfl) (kx (mvO rfl) (Rn (hN rfl hZ) fun e77 h79 => sN (xx ?_))))))))))))))
 clear h68 h69 h70
 obtain rfl := si h
 exact eR (resT h79 res0) ⟨rfl, o60, fr61⟩
noncomputable def spec_l00Src_pick_p (a1 : List Int) (a2 : Int) (a3 : Int) (a4 : Int) : Option (Int × (List Int) × Int × Int) :=
 if (decide (a4 ≤ 1)) = true then
  some (0, a1, a2, a3)
 else
  (spec_l00Src_next_p a1 a2 a3).bind fun (r15, r16, r17, r18) =>
  if (decide (a4 > 200)) = true then
   (spec_l00Src_next_p r16 r17 r18).bind fun (r39, r40, r41, r42) =>
   (rem .i64 (IntKind.i64.wrap ((IntKind.i64.wrap (r15 * 256)) + r39)) a4).bind fun n54 =>
   some (n54, r40, r41, r42)
  else
   (rem .i64 r15 a4).bind fun n59 =>
   some (n59, r16, r17, r18)
def spec_l00Src_pick_p_Q (a1 : List Int) (a2 : Int) (a3 : Int) (a4 : Int) (j1 : Nat) (M0 : Mem) (r : Int × (List Int) × Int × Int) (p : AV × Mem) : Prop := p.1 = .int .i64 r.1 ∧ p.2[j1]? = some (.live ⟨.box, 142, 3, [[.sl none (r.2.1.map (cI .u8)), .int .i64 r.2.2.1, .int .u64 r.2.2.2]]⟩) ∧ Fr [j1] M0 p.2
theorem spec_l00Src_pick_p_ok (a1 : List Int) (a2 : Int) (a3 : Int) (a4 : Int) (j1 : Nat) (M0 : Mem) (oP1 : M0[j1]? = some (.live ⟨.box, 142, 3, [[.sl none (a1.map (cI .u8)), .int .i64 a2, .int .u64 a3]]⟩)) (r : Int × (List Int) × Int × Int) (h : spec_l00Src_pick_p a1 a2 a3 a4 = some r) : Ev (fun k => CN k 88 [.loc j1 1 0 0, .int .i64 a4] M0) (spec_l00Src_pick_p_Q a1 a2 a3 a4 j1 M0 r) := by
 unfold spec_l00Src_pick_p at h
 have fr0 : Fr [j1] M0 M0 := Fr.refl
 refine Ev.enter (F := fun k => f88 (CN k) k) (fun k => callN_eq rfl Try.func88 rfl rfl rfl (by decide +kernel) (f88_eq _ _)) (sq (Rg (kx (mvO rfl) (Rn (hV (.loc j1 1 0 0) rfl (hN rfl hZ)) fun e1 h3 h4 => sN (sq (sq (Rg (kx (mvO h4) (kx (bLeq rfl rfl) (Rn (hA h3 (hA h4 (hN rfl hZ))) fun e5 h7 h8 h9 => sN ?_))))))))))
 clear h3 h4
 rcases ite_some h with ⟨hb10, h⟩ | ⟨hb10, h⟩
 ·refine cT h9 hb10 (sq (Rg (kx (mvO rfl) (Rn (hV (.int .i64 0) rfl hZ) fun e11 h13 => sN (xx (sR ?_))))))
  clear h7 h8 h9
  obtain rfl := si h
  exact eR (resT h13 res0) ⟨rfl, oP1, fr0⟩
 obtain ⟨⟨r15, r16, r17, r18⟩, hx14, h⟩ := bind_some h
 refine cF h9 hb10 (xx (sN (sq (Rg (kx (mvO h7) (Ev.nxw (Ev.callW rfl (cns rfl rfl) (spec_l00Src_next_p_ok a1 a2 a3 j1 M0 oP1 _ hx14)) fun v21 M19 hq20 => ?_))))))
 obtain ⟨hv21, o22, fr23⟩ := hq20
 have hv21 : v21 = .int .i64 r15 := hv21
 subst hv21
 have o24 : M19[j1]? = some (.live ⟨.box, 142, 3, [[.sl none (r16.map (cI .u8)), .int .i64 r17, .int .u64 r18]]⟩) := o22
 have fr25 : Fr [j1] M0 M19 := Fr.call fr0 fr23 (fwI (by simp) fwN)
 refine kx (mvO rfl) (Rn (hA h7 (hA h8 (hN rfl hZ))) fun e26 h28 h29 h30 => sN (sq (sq (Rg (kx (mvO h29) (kx (bGtr rfl rfl) (Rn (hA h28 (hA h29 (hA h30 (hN rfl hZ)))) fun e31 h33 h34 h35 h36 => sN ?_)))))))
 clear h7 h8 h9 h28 h29 h30
 rcases ite_some h with ⟨hb37, h⟩ | ⟨hb37, h⟩
 ·obtain ⟨⟨r39, r40, r41, r42⟩, hx38, h⟩ := bind_some h
  refine cT h36 hb37 (Rg (kx (mvO h35) (kx (bMul rfl rfl) (kx (mvO h33) (Ev.nxw (Ev.callW rfl (cns rfl rfl) (spec_l00Src_next_p_ok r16 r17 r18 j1 M19 o24 _ hx38)) fun v45 M43 hq44 => ?_)))))
  obtain ⟨hv45, o46, fr47⟩ := hq44
  have hv45 : v45 = .int .i64 r39 := hv45
  subst hv45
  have o48 : M43[j1]? = some (.live ⟨.box, 142, 3, [[.sl none (r40.map (cI .u8)), .int .i64 r41, .int .u64 r42]]⟩) := o46
  have fr49 : Fr [j1] M0 M43 := Fr.call fr25 fr47 (fwI (by simp) fwN)
  obtain ⟨n54, hx55, h⟩ := bind_some h
  refine kx (bAdd rfl rfl) (kx (mvO rfl) (Rn (hA h34 (hN rfl hZ)) fun e50 h52 h53 => sN (sq (Rg (kx (mvO h53) (kx (mvO h52) (kx (bRem rfl rfl hx55) (kx (mvO rfl) (Rn (hN rfl hZ) fun e56 h58 => sN (xx ?_))))))))))
  clear h33 h34 h36 h52 h53
  obtain rfl := si h
  exact eR (resT h58 res0) ⟨rfl, o48, fr49⟩
 obtain ⟨n59, hx60, h⟩ := bind_some h
 refine cF h36 hb37 (xx (sN (sq (Rg (kx (mvO h35) (kx (mvO h34) (kx (bRem rfl rfl hx60) (kx (mvO rfl) (Rn (hN rfl hZ) fun e61 h63 => sN (xx ?_))))))))))
 clear h33 h34 h35 h36
 obtain rfl := si h
 exact eR (resT h63 res0) ⟨rfl, o24, fr25⟩
noncomputable def spec_l00Src_one_p (a1 : List Int) (a2 : Int) (a3 : Int) (a4 : Int) : Option (Bool × (List Int) × Int × Int) :=
 (spec_l00Src_pick_p a1 a2 a3 a4).bind fun (r6, r7, r8, r9) =>
 some ((r6 == 0), r7, r8, r9)
def spec_l00Src_one_p_Q (a1 : List Int) (a2 : Int) (a3 : Int) (a4 : Int) (j1 : Nat) (M0 : Mem) (r : Bool × (List Int) × Int × Int) (p : AV × Mem) : Prop := p.1 = .bool r.1 ∧ p.2[j1]? = some (.live ⟨.box, 142, 3, [[.sl none (r.2.1.map (cI .u8)), .int .i64 r.2.2.1, .int .u64 r.2.2.2]]⟩) ∧ Fr [j1] M0 p.2
theorem spec_l00Src_one_p_ok (a1 : List Int) (a2 : Int) (a3 : Int) (a4 : Int) (j1 : Nat) (M0 : Mem) (oP1 : M0[j1]? = some (.live ⟨.box, 142, 3, [[.sl none (a1.map (cI .u8)), .int .i64 a2, .int .u64 a3]]⟩)) (r : Bool × (List Int) × Int × Int) (h : spec_l00Src_one_p a1 a2 a3 a4 = some r) : Ev (fun k => CN k 141 [.loc j1 1 0 0, .int .i64 a4] M0) (spec_l00Src_one_p_Q a1 a2 a3 a4 j1 M0 r) := by
 unfold spec_l00Src_one_p at h
 have fr0 : Fr [j1] M0 M0 := Fr.refl
 obtain ⟨⟨r6, r7, r8, r9⟩, hx5, h⟩ := bind_some h
 refine Ev.enter (F := fun k => f141 (CN k) k) (fun k => callN_eq rfl Try.func141 rfl rfl rfl (by decide +kernel) (f141_eq _ _)) (sq (Rg (kx (mvO rfl) (Rn (hV (.loc j1 1 0 0) rfl (hN rfl hZ)) fun e1 h3 h4 => sN (sq (Rg (kx (mvO h3) (kx (mvO h4) (Ev.nxw (Ev.callW rfl (cns rfl (cns rfl rfl)) (spec_l00Src_pick_p_ok a1 a2 a3 a4 j1 M0 oP1 _ hx5)) fun v12 M10 hq11 => ?_)))))))))
 obtain ⟨hv12, o13, fr14⟩ := hq11
 have hv12 : v12 = .int .i64 r6 := hv12
 subst hv12
 have o15 : M10[j1]? = some (.live ⟨.box, 142, 3, [[.sl none (r7.map (cI .u8)), .int .i64 r8, .int .u64 r9]]⟩) := o13
 have fr16 : Fr [j1] M0 M10 := Fr.call fr0 fr14 (fwI (by simp) fwN)
 refine kx (bEql rfl rfl) (kx (mvO rfl) (Rn (hN rfl hZ) fun e17 h19 => sN (xx ?_)))
 clear h3 h4
 obtain rfl := si h
 exact eR (resT h19 res0) ⟨rfl, o15, fr16⟩
abbrev spec_l04Small_p_b1_S := Int × Int × Int × Bool × (Ar 16 Int) × (List Notch) × (List Int) × Int × Int
abbrev spec_l04Small_p_b1_R := Bool × (Ar 16 Int) × (List Notch) × (List Int) × Int × Int
def spec_l04Small_p_b1_RS (i1_1 : Nat) (i1_2 : Nat) (i1_3 : Nat) (j1 : Nat) (M0 : Mem) (s : spec_l04Small_p_b1_S) (e : Env) (M : Mem) : Prop := eget e 0 = .loc j1 1 0 0 ∧ eget e 2 = .loc i1_1 1 0 0 ∧ eget e 3 = .loc i1_2 1 0 0 ∧ eget e 5 = .int .i64 s.1 ∧ eget e 6 = .int .i8 s.2.1 ∧ eget e 7 = .int .i64 s.2.2.1 ∧ M[i1_1]? = some (.live ⟨.box, 70, 18, [(.bool false :: (.nils :: ((arC (cI .i8) 0 (Ar.rep 16 0)) ++ ([] : List AV))))]⟩) ∧ M[i1_2]? = some (.live ⟨.box, 70, 18, [(.bool s.2.2.2.1 :: (.lsl i1_3 s.2.2.2.2.2.1.length 0 s.2.2.2.2.2.1.length :: ((arC (cI .i8) 0 s.2.2.2.2.1) ++ ([] : List AV))))]⟩) ∧ M[i1_3]? = some (.live ⟨.grow, 170, 2, s.2.2.2.2.2.1.map Notch.c⟩) ∧ M[j1]? = some (.live ⟨.box, 142, 3, [[.sl none (s.2.2.2.2.2.2.1.map (cI .u8)), .int .i64 s.2.2.2.2.2.2.2.1, .int .u64 s.2.2.2.2.2.2.2.2]]⟩) ∧ Fr [j1] M0 M
def spec_l04Small_p_b1_RR (i1_1 : Nat) (i1_2 : Nat) (i1_3 : Nat) (j1 : Nat) (M0 : Mem) (g : spec_l04Small_p_b1_R) (x : Ex) (e : Env) (M : Mem) : Prop := x = .ext 0 ∧ eget e 2 = .loc i1_1 1 0 0 ∧ eget e 3 = .loc i1_2 1 0 0 ∧ M[i1_1]? = some (.live ⟨.box, 70, 18, [(.bool false :: (.nils :: ((arC (cI .i8) 0 (Ar.rep 16 0)) ++ ([] : List AV))))]⟩) ∧ M[i1_2]? = some (.live ⟨.box, 70, 18, [(.bool g.1 :: (.lsl i1_3 g.2.2.1.length 0 g.2.2.1.length :: ((arC (cI .i8) 0 g.2.1) ++ ([] : List AV))))]⟩) ∧ M[i1_3]? = some (.live ⟨.grow, 170, 2, g.2.2.1.map Notch.c⟩) ∧ M[j1]? = some (.live ⟨.box, 142, 3, [[.sl none (g.2.2.2.1.map (cI .u8)), .int .i64 g.2.2.2.2.1, .int .u64 g.2.2.2.2.2]]⟩) ∧ Fr [j1] M0 M
noncomputable def spec_l04Small_p_b1 : spec_l04Small_p_b1_S → Option (spec_l04Small_p_b1_S ⊕ spec_l04Small_p_b1_R) := fun (s1_1, s1_2, s1_3, s1_4, s1_5, s1_6, s1_7, s1_8, s1_9) =>
 if (decide (s1_3 > 0)) = true then
  (app 4 s1_6 [(Notch.mk s1_2 (IntKind.i16.wrap s1_1))]).bind fun x219 =>
  (spec_l01Widths).bind fun r244 =>
  (rd r244 s1_2).bind fun x245 =>
  (spec_l00Src_pick_p s1_7 s1_8 s1_9 6).bind fun (r248, r249, r250, r251) =>
  if (decide (s1_2 > 0)) = true then
   (spec_l00Src_one_p r249 r250 r251 2).bind fun (r272, r273, r274, r275) =>
   if r272 = true then
    some (.inl ((IntKind.i64.wrap (s1_1 + (IntKind.i64.wrap ((IntKind.i64.wrap (x245 + 1)) + r248)))), (IntKind.i8.wrap (s1_2 - 1)), (IntKind.i64.wrap (s1_3 - 1)), s1_4, s1_5, x219, r273, r274, r275))
   else
    some (.inl ((IntKind.i64.wrap (s1_1 + (IntKind.i64.wrap ((IntKind.i64.wrap (x245 + 1)) + r248)))), s1_2, (IntKind.i64.wrap (s1_3 - 1)), s1_4, s1_5, x219, r273, r274, r275))
  else
   some (.inl ((IntKind.i64.wrap (s1_1 + (IntKind.i64.wrap ((IntKind.i64.wrap (x245 + 1)) + r248)))), s1_2, (IntKind.i64.wrap (s1_3 - 1)), s1_4, s1_5, x219, r249, r250, r251))
 else
  some (.inr (s1_4, s1_5, s1_6, s1_7, s1_8, s1_9))
theorem spec_l04Small_p_b1_ok (i1_1 : Nat) (i1_2 : Nat) (i1_3 : Nat) (j1 : Nat) (M0 : Mem) (ne33 : i1_1 ≠ i1_2) (ne50 : i1_1 ≠ i1_3) (ne51 : i1_2 ≠ i1_3) (ne7 : j1 ≠ i1_1) (ne32 : j1 ≠ i1_2) (ne49 : j1 ≠ i1_3) (nf4 : Nf [j1] M0 i1_1) (nf39 : Nf [j1] M0 i1_2) (nf54 : Nf [j1] M0 i1_3) (s : spec_l04Small_p_b1_S) (r : spec_l04Small_p_b1_S ⊕ spec_l04Small_p_b1_R) (h : spec_l04Small_p_b1 s = some r) (e : Env) (M : Mem) (hs : spec_l04Small_p_b1_RS i1_1 i1_2 i1_3 j1 M0 s e M) : Ev (fun k => (f119_l7 (CN k) k (prune [0, 2, 3, 5, 6, 7] e) M).bind fun q => some q) (bQ (spec_l04Small_p_b1_RS i1_1 i1_2 i1_3 j1 M0) (spec_l04Small_p_b1_RR i1_1 i1_2 i1_3 j1 M0) r) := by
 obtain ⟨s1_1, s1_2, s1_3, s1_4, s1_5, s1_6, s1_7, s1_8, s1_9⟩ := s
 unfold spec_l04Small_p_b1 at h
 obtain ⟨h192, h194, h196, h198, h200, h202, o205, o206, o207, o204, fr208⟩ := hs
 generalize he191 : prune [0, 2, 3, 5, 6, 7] e = e190
 have h193 := envp he191.symm rfl h192
 have h195 := envp he191.symm rfl h194
 have h197 := envp he191.symm rfl h196
 have h199 := envp he191.symm rfl h198
 have h201 := envp he191.symm rfl h200
 have h203 := envp he191.symm rfl h202
 refine sq (sq (Rg (kx (mvO h203) (kx (bGtr rfl rfl) (Rn (hV (.loc j1 1 0 0) h193 (hV (.loc i1_1 1 0 0) h195 (hV (.loc i1_2 1 0 0) h197 (hV (.int .i64 s1_1) h199 (hV (.int .i8 s1_2) h201 (hV (.int .i64 s1_3) h203 (hN rfl hZ))))))) fun e209 h211 h212 h213 h214 h215 h216 h217 => sN ?_)))))
 clear h193 h195 h197 h199 h201 h203
 rcases ite_some h with ⟨hb218, h⟩ | ⟨hb218, h⟩
 ·obtain ⟨x219, hx220, h⟩ := bind_some h
  refine cT h217 hb218 (xx (sN (sq (bl (sq (Rg (kx (faO h213 o206 rfl) (kx (ldO rfl o206 rfl rfl rfl) (kx (mvO h215) (kx (mvO h214) (kx (cvI rfl) (kx (bldT zero170 (cns (pr3 rfl) (cns (pr3 rfl) rfl)) (fill1 ⟨rfl, ble rfl⟩ rfl rfl (fill1 ⟨rfl, ble rfl⟩ rfl rfl (fill0 rfl)))) (kx (litI (cns rfl rfl) rfl ⟨rfl, by decide⟩) (kw (apO rfl o207 rfl (elT (c := Notch.c) (xs := [(Notch.mk s1_2 (IntKind.i16.wrap s1_1))]) rfl) hx220 Notch.fl (by decide)) fun M221 hM222 => ?_))))))))))))))
  have o223 := set_ne hM222 ne49 o204
  have o224 := set_ne hM222 ne50 o205
  have o225 := set_ne hM222 ne51 o206
  have o226 : M221[i1_3]? = some (.live ⟨.grow, 170, 2, x219.map Notch.c⟩) := set_same hM222 o207
  have fr227 := Fr.setNew fr208 hM222 nf54
  refine kx (faO h213 o225 rfl) (kw (stO rfl rfl o225 rfl rfl ⟨rfl, ble rfl⟩ (all1 (okL o226 (by simp)) all0) rfl) fun M228 hM229 => ?_)
  have o230 := set_ne hM229 ne32 o223
  have o231 := set_ne hM229 ne33 o224
  have o232 : M228[i1_2]? = some (.live ⟨.box, 70, 18, [(.bool s1_4 :: (.lsl i1_3 x219.length 0 x219.length :: ((arC (cI .i8) 0 s1_5) ++ ([] : List AV))))]⟩) := set_same hM229 o225
  have o233 := set_ne hM229 (Ne.symm ne51) o226
  have fr234 := Fr.setNew fr227 hM229 nf39
  obtain ⟨r244, hx243, h⟩ := bind_some h
  obtain ⟨x245, hx246, h⟩ := bind_some h
  obtain ⟨⟨r248, r249, r250, r251⟩, hx247, h⟩ := bind_some h
  refine Rn (hA h211 (hA h212 (hA h213 (hA h214 (hA h215 (hA h216 hZ)))))) fun e235 h237 h238 h239 h240 h241 h242 => sN (sq (RdS (kfS (mvO h240) (fcS (clO (v := .sl none (r244.map (cI .i64))) rfl rfl rfl rfl (spec_l01Widths_ok  _ hx243)) (kfS (mvO h241) (kgS (ixS rfl rfl hx246 (cI_fl _)) (kgS (ldP rfl rfl) (kfS (bAdd rfl rfl) (kfS (mvO h237) (fZS (Ev.nxw (Ev.callW rfl (cns rfl (cns rfl rfl)) (spec_l00Src_pick_p_ok s1_7 s1_8 s1_9 6 j1 M228 o230 _ hx247)) fun v254 M252 hq253 => ?_)))))))))))
  clear h211 h212 h213 h214 h215 h216 h217
  obtain ⟨hv254, o255, fr256⟩ := hq253
  have hv254 : v254 = .int .i64 r248 := hv254
  subst hv254
  have o257 : M252[j1]? = some (.live ⟨.box, 142, 3, [[.sl none (r249.map (cI .u8)), .int .i64 r250, .int .u64 r251]]⟩) := o255
  have fr256 : Fr [j1] M228 M252 := fr256
  have o258 := fr256 _ _ (niC (Ne.symm ne7) niN) o231
  have o259 := fr256 _ _ (niC (Ne.symm ne32) niN) o232
  have o260 := fr256 _ _ (niC (Ne.symm ne49) niN) o233
  have fr261 : Fr [j1] M0 M252 := Fr.call fr234 fr256 (fwI (by simp) fwN)
  refine ck (ckP (ldP rfl rfl) (ckP (ixS rfl rfl hx246 (cI_fl _)) ck0)) (kx (bAdd rfl rfl) (ck (ckD rfl (ckD rfl ck0)) (kx (bAdd rfl rfl) (ck (ckD rfl (ckD rfl ck0)) (kx (mvO rfl) (ck (ckD rfl (ckD rfl ck0)) (Rn (hA h237 (hA h238 (hA h239 (hN rfl (hA h241 (hA h242 hZ)))))) fun e262 h264 h265 h266 h267 h268 h269 => sN (sq (Rg (kx (mvO h268) (kx (bGtr rfl rfl) (kx (mvO rfl) ?_))))))))))))
  clear h237 h238 h239 h241 h242
  rcases ite_some h with ⟨hb270, h⟩ | ⟨hb270, h⟩
  ·obtain ⟨⟨r272, r273, r274, r275⟩, hx271, h⟩ := bind_some h
   refine kx (guT rfl hb270 (mvO h264)) (Ev.nxw (Ev.guT rfl hb270 (Ev.callW rfl (cns rfl (cns rfl rfl)) (spec_l00Src_one_p_ok r249 r250 r251 2 j1 M252 o257 _ hx271))) fun v278 M276 hq277 => ?_)
   obtain ⟨hv278, o279, fr280⟩ := hq277
   have hv278 : v278 = .bool r272 := hv278
   subst hv278
   have o281 : M276[j1]? = some (.live ⟨.box, 142, 3, [[.sl none (r273.map (cI .u8)), .int .i64 r274, .int .u64 r275]]⟩) := o279
   have fr280 : Fr [j1] M252 M276 := fr280
   have o282 := fr280 _ _ (niC (Ne.symm ne7) niN) o258
   have o283 := fr280 _ _ (niC (Ne.symm ne32) niN) o259
   have o284 := fr280 _ _ (niC (Ne.symm ne49) niN) o260
   have fr285 : Fr [j1] M0 M276 := Fr.call fr261 fr280 (fwI (by simp) fwN)
   refine kx (pkT rfl hb270 rfl) (Rn (hA h264 (hA h265 (hA h266 (hA h267 (hA h268 (hA h269 (hN rfl hZ))))))) fun e286 h288 h289 h290 h291 h292 h293 h294 => sN ?_)
   clear h264 h265 h266 h267 h268 h269
   rcases ite_some h with ⟨hb295, h⟩ | ⟨hb295, h⟩
   ·refine cT h294 hb295 (Rg (kx (mvO h292) (kx (bSub rfl rfl) (kx (mvO rfl) (Rn (hA h288 (hA h289 (hA h290 (hA h291 (hN rfl (hA h293 hZ)))))) fun e296 h298 h299 h300 h301 h302 h303 => bN (sN (Rg (kx (mvO h303) (kx (bSub rfl rfl) (kx (mvO rfl) (Rn (hA h298 (hA h299 (hA h300 (hA h301 (hA h302 (hN rfl hZ)))))) fun e304 h306 h307 h308 h309 h310 h311 => ?_)))))))))))
    clear h288 h289 h290 h291 h293 h294 h298 h299 h300 h301 h302
    obtain rfl := si h
    exact qN ⟨h306, h307, h308, h309, h310, h311, o282, (by simpa using o283), o284, o281, fr285⟩
   refine cF h294 hb295 (xx (bN (sN (Rg (kx (mvO h293) (kx (bSub rfl rfl) (kx (mvO rfl) (Rn (hA h288 (hA h289 (hA h290 (hA h291 (hA h292 (hN rfl hZ)))))) fun e312 h314 h315 h316 h317 h318 h319 => ?_))))))))
   clear h288 h289 h290 h291 h292 h294
   obtain rfl := si h
   exact qN ⟨h314, h315, h316, h317, h318, h319, o282, (by simpa using o283), o284, o281, fr285⟩
  refine kx (gsT rfl hb270) (kc (Ev.gsT rfl hb270) (kx (pkF rfl hb270 rfl) (Rn (hA h264 (hA h265 (hA h266 (hA h267 (hA h268 (hA h269 (hV (.bool false) rfl hZ))))))) fun e320 h322 h323 h324 h325 h326 h327 h328 => sN (cF h328 rfl (xx (bN (sN (Rg (kx (mvO h327) (kx (bSub rfl rfl) (kx (mvO rfl) (Rn (hA h322 (hA h323 (hA h324 (hA h325 (hA h326 (hN rfl hZ)))))) fun e329 h331 h332 h333 h334 h335 h336 => ?_))))))))))))
  clear h264 h265 h266 h267 h268 h269 h322 h323 h324 h325 h326 h328
  obtain rfl := si h
  exact qN ⟨h331, h332, h333, h334, h335, h336, o258, (by simpa using o259), o260, o257, fr261⟩
 refine cF h217 hb218 (xx (sE ?_))
 obtain rfl := si h
 exact qE ⟨rfl, h212, h213, o205, (by simpa using o206), o207, o204, fr208⟩
noncomputable def spec_l04Small_p (a1 : List Int) (a2 : Int) (a3 : Int) : Option (Bool × (Ar 16 Int) × (List Int) × Int × Int × (List Notch)) :=
 (spec_l00Src_one_p a1 a2 a3 2).bind fun (r14, r15, r16, r17) =>
 (spec_l00Src_pick_p r15 r16 r17 1073741824).bind fun (r70, r71, r72, r73) =>
 (spec_GrainFrom (IntKind.u32.wrap r70)).bind fun (r91, r92) =>
 (spec_l00Src_pick_p r71 r72 r73 3).bind fun (r106, r107, r108, r109) =>
 (spec_l00Src_pick_p r107 r108 r109 5).bind fun (r127, r128, r129, r130) =>
 (spec_l00Src_pick_p r128 r129 r130 6).bind fun (r149, r150, r151, r152) =>
 (Lw (spec_l04Small_p_b1) (r106, (IntKind.i8.wrap r127), r149, r14, r91, ([] : List Notch), r150, r151, r152)).bind fun (y342, y343, y344, y345, y346, y347) =>
 some (y342, y343, y345, y346, y347, y344)
def spec_l04Small_p_Q (a1 : List Int) (a2 : Int) (a3 : Int) (j1 : Nat) (M0 : Mem) (r : Bool × (Ar 16 Int) × (List Int) × Int × Int × (List Notch)) (p : AV × Mem) : Prop := (∃ n1 : Nat, p.1 = .agg (.bool r.1 :: (.lsl n1 r.2.2.2.2.2.length 0 r.2.2.2.2.2.length :: ((arC (cI .i8) 0 r.2.1) ++ ([] : List AV)))) ∧ p.2[n1]? = some (.live ⟨.grow, 170, 2, r.2.2.2.2.2.map Notch.c⟩) ∧ p.2[j1]? = some (.live ⟨.box, 142, 3, [[.sl none (r.2.2.1.map (cI .u8)), .int .i64 r.2.2.2.1, .int .u64 r.2.2.2.2.1]]⟩) ∧ Fr [j1] M0 p.2 ∧ Nf [j1] M0 n1 ∧ j1 ≠ n1)
theorem spec_l04Small_p_ok (a1 : List Int) (a2 : Int) (a3 : Int) (j1 : Nat) (M0 : Mem) (oP1 : M0[j1]? = some (.live ⟨.box, 142, 3, [[.sl none (a1.map (cI .u8)), .int .i64 a2, .int .u64 a3]]⟩)) (r : Bool × (Ar 16 Int) × (List Int) × Int × Int × (List Notch)) (h : spec_l04Small_p a1 a2 a3 = some r) : Ev (fun k => CN k 119 [.loc j1 1 0 0] M0) (spec_l04Small_p_Q a1 a2 a3 j1 M0 r) := by
 unfold spec_l04Small_p at h
 have fr0 : Fr [j1] M0 M0 := Fr.refl
 refine Ev.enter (F := fun k => f119 (CN k) k) (fun k => callN_eq rfl Try.func119 rfl rfl rfl (by decide +kernel) (f119_eq _ _)) (sq (Rg (ku (alO zero70) fun M2 hM3 => ?_)))
 have nf4 := Nf.mk fr0
 have fr5 := Fr.push fr0 hM3
 have o6 := push_old hM3 oP1
 have ne7 := ne_new oP1
 have o8 : M2[M0.length]? = some (.live ⟨.box, 70, 18, [(.bool false :: (.nils :: ((arC (cI .i8) 0 (Ar.rep 16 0)) ++ ([] : List AV))))]⟩) := push_new hM3
 obtain ⟨⟨r14, r15, r16, r17⟩, hx13, h⟩ := bind_some h
 refine Rn (hV (.loc j1 1 0 0) rfl (hV (.loc M0.length 1 0 0) rfl hZ)) fun e9 h11 h12 => sN (sq (Rg (kx (mvO h11) (Ev.nxw (Ev.callW rfl (cns rfl (cns rfl rfl)) (spec_l00Src_one_p_ok a1 a2 a3 2 j1 M2 o6 _ hx13)) fun v20 M18 hq19 => ?_))))
 obtain ⟨hv20, o21, fr22⟩ := hq19
 have hv20 : v20 = .bool r14 := hv20
 subst hv20
 have o23 : M18[j1]? = some (.live ⟨.box, 142, 3, [[.sl none (r15.map (cI .u8)), .int .i64 r16, .int .u64 r17]]⟩) := o21
 have fr22 : Fr [j1] M2 M18 := fr22
 have o24 := fr22 _ _ (niC (Ne.symm ne7) niN) o8
 have fr25 : Fr [j1] M0 M18 := Fr.call fr5 fr22 (fwI (by simp) fwN)
 refine kx (bldT zero70 (cns (pr3 rfl) rfl) (fill1 (cs' := (.bool r14 :: (.nils :: ((arC (cI .i8) 0 (Ar.rep 16 0)) ++ ([] : List AV))))) ⟨rfl, ble rfl⟩ rfl rfl (fill0 rfl))) (Ev.nxpushL (gho_one (alO zero70) nty70 (ghc rfl (ghn (gha (arC_nn (fun _ => rfl)) (arC_len (fun x => ((cI_fl _) x).1)) ghz) co170)) (by decide)) fun M28 hM29 => ?_)
 have o30 := push_old hM29 o23
 have o31 := push_old hM29 o24
 have ne32 : j1 ≠ M18.length := by have := lt_of_get (M := M18) o23; omega
 have ne33 : M0.length ≠ M18.length := by have := lt_of_get (M := M18) o24; omega
 have o34 : M28[M18.length]? = some (.live ⟨.box, 70, 18, [(.bool false :: (.lsl (M18.length + 1) ([] : List Notch).length 0 ([] : List Notch).length :: ((arC (cI .i8) 0 (Ar.rep 16 0)) ++ ([] : List AV))))]⟩) := push_at hM29 0 rfl
 have ne35 : j1 ≠ (M18.length + 1) := by have := lt_of_get (M := M18) o23; omega
 have ne36 : M0.length ≠ (M18.length + 1) := by have := lt_of_get (M := M18) o24; omega
 have ne37 : M18.length ≠ (M18.length + 1) := by omega
 have o38 : M28[(M18.length + 1)]? = some (.live ⟨.grow, 170, 2, ([] : List Notch).map Notch.c⟩) := push_at hM29 1 rfl
 have nf39 := Nf.mk fr25
 have nf40 := Nf.mkAt fr25 1
 have fr41 := Fr.push fr25 hM29
 obtain ⟨M42, hM43⟩ : ∃ x, x = M28 ++ ([⟨.grow, 170, 2, ([] : List Notch).map Notch.c⟩] : List Ob).map Ent.live := ⟨_, rfl⟩
 have o45 := push_old hM43 o30
 have o46 := push_old hM43 o31
 have o47 := push_old hM43 o34
 have o48 := push_old hM43 o38
 have ne49 : j1 ≠ M28.length := by have := lt_of_get (M := M28) o30; omega
 have ne50 : M0.length ≠ M28.length := by have := lt_of_get (M := M28) o31; omega
 have ne51 : M18.length ≠ M28.length := by have := lt_of_get (M := M28) o34; omega
 have ne52 : (M18.length + 1) ≠ M28.length := by have := lt_of_get (M := M28) o38; omega
 have o53 : M42[M28.length]? = some (.live ⟨.grow, 170, 2, ([] : List Notch).map Notch.c⟩) := push_at hM43 0 rfl
 have nf54 := Nf.mk fr41
 have fr55 := Fr.push fr41 hM43
 refine kw (stG (kp := false) hM43 rfl nty70 (ghc rfl (ghn (gha (arC_nn (fun _ => rfl)) (arC_len (fun x => ((cI_fl _) x).1)) ghz) co170)) (by decide) (stO rfl rfl o47 rfl rfl ⟨rfl, ble rfl⟩ (all1 rfl (all1 (okL o53 (by simp)) (oaS (rest := []) (fun _ => rfl) all0))) rfl)) fun M56 hM57 => ?_
 have o58 := set_ne hM57 ne32 o45
 have o59 := set_ne hM57 ne33 o46
 have o60 : M56[M18.length]? = some (.live ⟨.box, 70, 18, [(.bool r14 :: (.lsl M28.length ([] : List Notch).length 0 ([] : List Notch).length :: ((arC (cI .i8) 0 (Ar.rep 16 0)) ++ ([] : List AV))))]⟩) := set_same hM57 o47
 have o61 := set_ne hM57 (Ne.symm ne37) o48
 have o62 := set_ne hM57 (Ne.symm ne51) o53
 have fr63 := Fr.setNew fr55 hM57 nf39
 obtain ⟨⟨r70, r71, r72, r73⟩, hx69, h⟩ := bind_some h
 refine Rn (hA h11 (hA h12 (hV (.loc M18.length 1 0 0) rfl hZ))) fun e64 h66 h67 h68 => sN (sq (Rg (kx (mvO h66) (Ev.nxw (Ev.callW rfl (cns rfl (cns rfl rfl)) (spec_l00Src_pick_p_ok r15 r16 r17 1073741824 j1 M56 o58 _ hx69)) fun v76 M74 hq75 => ?_))))
 clear h11 h12
 obtain ⟨hv76, o77, fr78⟩ := hq75
 have hv76 : v76 = .int .i64 r70 := hv76
 subst hv76
 have o79 : M74[j1]? = some (.live ⟨.box, 142, 3, [[.sl none (r71.map (cI .u8)), .int .i64 r72, .int .u64 r73]]⟩) := o77
 have fr78 : Fr [j1] M56 M74 := fr78
 have o80 := fr78 _ _ (niC (Ne.symm ne7) niN) o59
 have o81 := fr78 _ _ (niC (Ne.symm ne32) niN) o60
 have o82 := fr78 _ _ (niC (Ne.symm ne49) niN) o62
 have fr83 : Fr [j1] M0 M74 := Fr.call fr63 fr78 (fwI (by simp) fwN)
 obtain ⟨⟨r91, r92⟩, hx90, h⟩ := bind_some h
 refine kx (cvI rfl) (kx (mvO rfl) (Rn (hA h66 (hA h67 (hA h68 (hN rfl hZ)))) fun e84 h86 h87 h88 h89 => sN (sq (Rg (kx (mvO h89) (kc (cl (v := .tup [.agg (arC (cI .i8) 0 r91), .int .u32 r92]) rfl rfl (cns rfl rfl) rfl (spec_GrainFrom_ok (IntKind.u32.wrap r70) _ hx90) nm) (kx (mvO rfl) (kx (exT rfl rfl) (kx (exT rfl rfl) (kx (faO h88 o81 rfl) (kw (stO rfl rfl o81 rfl rfl ⟨rfl, ble rfl⟩ rfl rfl) fun M93 hM94 => ?_)))))))))))
 clear h66 h67 h68
 have o95 := set_ne hM94 ne32 o79
 have o96 := set_ne hM94 ne33 o80
 have o97 : M93[M18.length]? = some (.live ⟨.box, 70, 18, [(.bool r14 :: (.lsl M28.length ([] : List Notch).length 0 ([] : List Notch).length :: ((arC (cI .i8) 0 r91) ++ ([] : List AV))))]⟩) := set_same hM94 o81
 have o98 := set_ne hM94 (Ne.symm ne51) o82
 have fr99 := Fr.setNew fr83 hM94 nf39
 obtain ⟨⟨r106, r107, r108, r109⟩, hx105, h⟩ := bind_some h
 refine kx (mvO rfl) (Rn (hA h86 (hA h87 (hA h88 hZ))) fun e100 h102 h103 h104 => sN (sq (Rg (kx (mvO h102) (Ev.nxw (Ev.callW rfl (cns rfl (cns rfl rfl)) (spec_l00Src_pick_p_ok r71 r72 r73 3 j1 M93 o95 _ hx105)) fun v112 M110 hq111 => ?_)))))
 clear h86 h87 h88
 obtain ⟨hv112, o113, fr114⟩ := hq111
 have hv112 : v112 = .int .i64 r106 := hv112
 subst hv112
 have o115 : M110[j1]? = some (.live ⟨.box, 142, 3, [[.sl none (r107.map (cI .u8)), .int .i64 r108, .int .u64 r109]]⟩) := o113
 have fr114 : Fr [j1] M93 M110 := fr114
 have o116 := fr114 _ _ (niC (Ne.symm ne7) niN) o96
 have o117 := fr114 _ _ (niC (Ne.symm ne32) niN) o97
 have o118 := fr114 _ _ (niC (Ne.symm ne49) niN) o98
 have fr119 : Fr [j1] M0 M110 := Fr.call fr99 fr114 (fwI (by simp) fwN)
 obtain ⟨⟨r127, r128, r129, r130⟩, hx126, h⟩ := bind_some h
 refine kx (mvO rfl) (Rn (hA h102 (hA h103 (hA h104 (hN rfl hZ)))) fun e120 h122 h123 h124 h125 => sN (sq (Rg (kx (mvO h122) (Ev.nxw (Ev.callW rfl (cns rfl (cns rfl rfl)) (spec_l00Src_pick_p_ok r107 r108 r109 5 j1 M110 o115 _ hx126)) fun v133 M131 hq132 => ?_)))))
 clear h102 h103 h104
 obtain ⟨hv133, o134, fr135⟩ := hq132
 have hv133 : v133 = .int .i64 r127 := hv133
 subst hv133
 have o136 : M131[j1]? = some (.live ⟨.box, 142, 3, [[.sl none (r128.map (cI .u8)), .int .i64 r129, .int .u64 r130]]⟩) := o134
 have fr135 : Fr [j1] M110 M131 := fr135
 have o137 := fr135 _ _ (niC (Ne.symm ne7) niN) o116
 have o138 := fr135 _ _ (niC (Ne.symm ne32) niN) o117
 have o139 := fr135 _ _ (niC (Ne.symm ne49) niN) o118
 have fr140 : Fr [j1] M0 M131 := Fr.call fr119 fr135 (fwI (by simp) fwN)
 obtain ⟨⟨r149, r150, r151, r152⟩, hx148, h⟩ := bind_some h
 refine kx (cvI rfl) (kx (mvO rfl) (Rn (hA h122 (hA h123 (hA h124 (hA h125 (hN rfl hZ))))) fun e141 h143 h144 h145 h146 h147 => sN (sq (sq (Rg (kx (mvO h143) (Ev.nxw (Ev.callW rfl (cns rfl (cns rfl rfl)) (spec_l00Src_pick_p_ok r128 r129 r130 6 j1 M131 o136 _ hx148)) fun v155 M153 hq154 => ?_)))))))
 clear h122 h123 h124 h125
 obtain ⟨hv155, o156, fr157⟩ := hq154
 have hv155 : v155 = .int .i64 r149 := hv155
 subst hv155
 have o158 : M153[j1]? = some (.live ⟨.box, 142, 3, [[.sl none (r150.map (cI .u8)), .int .i64 r151, .int .u64 r152]]⟩) := o156
 have fr157 : Fr [j1] M131 M153 := fr157
 have o159 := fr157 _ _ (niC (Ne.symm ne7) niN) o137
 have o160 := fr157 _ _ (niC (Ne.symm ne32) niN) o138
 have o161 := fr157 _ _ (niC (Ne.symm ne49) niN) o139
 have fr162 : Fr [j1] M0 M153 := Fr.call fr140 fr157 (fwI (by simp) fwN)
 obtain ⟨⟨y342, y343, y344, y345, y346, y347⟩, hr338, h⟩ := bind_some h
 refine kx (mvO rfl) (Rn (hA h143 (hA h144 (hA h145 (hA h146 (hA h147 (hN rfl hZ)))))) fun e163 h165 h166 h167 h168 h169 h170 => sN (bl (Ev.loop (RS := spec_l04Small_p_b1_RS M0.length M18.length M28.length j1 M0) (RR := spec_l04Small_p_b1_RR M0.length M18.length M28.length j1 M0) (fun s r h e M hs => spec_l04Small_p_b1_ok M0.length M18.length M28.length j1 M0 ne33 ne50 ne51 ne7 ne32 ne49 nf4 nf39 nf54 s r h e M hs) hr338 ⟨h165, h166, h167, h168, h169, h170, o159, o160, o161, o158, fr162⟩ fun x e340 M341 hq339 => ?_)))
 clear h143 h144 h145 h146 h147
 obtain ⟨rfl, h348, h349, o350, o351, o352, o353, fr354⟩ := hq339
 refine bE (sN (sq (Rg (kx (ldOA (cs' := (.bool y342 :: (.lsl M28.length y344.length 0 y344.length :: ((arC (cI .i8) 0 y343) ++ ([] : List AV))))) h349 o351 rfl rfl (ble rfl) rfl) (kw (stO h348 rfl o350 rfl rfl ⟨rfl, ble rfl⟩ (all1 rfl (all1 (okL o352 (by simp)) (oaS (rest := []) (fun _ => rfl) all0))) rfl) fun M355 hM356 => ?_)))))
 have o357 : M355[M0.length]? = some (.live ⟨.box, 70, 18, [(.bool y342 :: (.lsl M28.length y344.length 0 y344.length :: ((arC (cI .i8) 0 y343) ++ ([] : List AV))))]⟩) := set_same hM356 o350
 have o358 := set_ne hM356 (Ne.symm ne33) o351
 have o359 := set_ne hM356 (Ne.symm ne50) o352
 have o360 := set_ne hM356 ne7 o353
 have fr361 := Fr.setNew fr354 hM356 nf4
 refine Rn (hV (.loc M0.length 1 0 0) h348 hZ) fun e362 h364 => sN (xx ?_)
 clear h348 h349
 obtain rfl := si h
 exact eR (resC (ag := true) (sz := 18) ⟨by kernel_rfl, by kernel_rfl, by kernel_rfl⟩ (ldOA (cs' := (.bool y342 :: (.lsl M28.length y344.length 0 y344.length :: ((arC (cI .i8) 0 y343) ++ ([] : List AV))))) h364 o357 rfl rfl (ble rfl) rfl) res0) ⟨M28.length, rfl, o359, o360, fr361, nf54, ne49⟩
abbrev spec_l06Drawn_p_b1_S := Int × Int × (List UInt8) × Bool × (List Notch) × (Ar 16 Int) × (List Mark) × (List Int) × Int × Int
abbrev spec_l06Drawn_p_b1_R := (List UInt8) × Bool × (List Notch) × (Ar 16 Int) × (List Mark) × (List Int) × Int × Int
def spec_l06Drawn_p_b1_RS (r14 : List Party) (i1_1 : Nat) (i1_2 : Nat) (j1 : Nat) (M0 : Mem) (s : spec_l06Drawn_p_b1_S) (e : Env) (M : Mem) : Prop := eget e 0 = .loc j1 1 0 0 ∧ eget e 2 = .loc i1_1 1 0 0 ∧ eget e 3 = .sl none (r14.map Party.c) ∧ eget e 4 = .int .i64 (r14.length : Int) ∧ eget e 7 = .int .i64 s.1 ∧ eget e 8 = .loc i1_2 1 0 0 ∧ eget e 10 = .int .i64 s.2.1 ∧ M[i1_1]? = some (.live ⟨.box, 73, 20, [(.str ([] : List UInt8) :: (.bool false :: (.nils :: ((arC (cI .i8) 0 (Ar.rep 16 0)) ++ ((.nils :: []) : List AV)))))]⟩) ∧ M[i1_2]? = some (.live ⟨.box, 73, 20, [(.str s.2.2.1 :: (.bool s.2.2.2.1 :: (.sl none (s.2.2.2.2.1.map Notch.c) :: ((arC (cI .i8) 0 s.2.2.2.2.2.1) ++ ((.sl none (s.2.2.2.2.2.2.1.map Mark.c) :: []) : List AV)))))]⟩) ∧ M[j1]? = some (.live ⟨.box, 142, 3, [[.sl none (s.2.2.2.2.2.2.2.1.map (cI .u8)), .int .i64 s.2.2.2.2.2.2.2.2.1, .int .u64 s.2.2.2.2.2.2.2.2.2]]⟩) ∧ Fr [j1] M0 M
def spec_l06Drawn_p_b1_RR (r14 : List Party) (i1_1 : Nat) (i1_2 : Nat) (j1 : Nat) (M0 : Mem) (g : spec_l06Drawn_p_b1_R) (x : Ex) (e : Env) (M : Mem) : Prop := x = .ext 0 ∧ eget e 2 = .loc i1_1 1 0 0 ∧ eget e 8 = .loc i1_2 1 0 0 ∧ M[i1_1]? = some (.live ⟨.box, 73, 20, [(.str ([] : List UInt8) :: (.bool false :: (.nils :: ((arC (cI .i8) 0 (Ar.rep 16 0)) ++ ((.nils :: []) : List AV)))))]⟩) ∧ M[i1_2]? = some (.live ⟨.box, 73, 20, [(.str g.1 :: (.bool g.2.1 :: (.sl none (g.2.2.1.map Notch.c) :: ((arC (cI .i8) 0 g.2.2.2.1) ++ ((.sl none (g.2.2.2.2.1.map Mark.c) :: []) : List AV)))))]⟩) ∧ M[j1]? = some (.live ⟨.box, 142, 3, [[.sl none (g.2.2.2.2.2.1.map (cI .u8)), .int .i64 g.2.2.2.2.2.2.1, .int .u64 g.2.2.2.2.2.2.2]]⟩) ∧ Fr [j1] M0 M
noncomputable def spec_l06Drawn_p_b1 (r14 : List Party) : spec_l06Drawn_p_b1_S → Option (spec_l06Drawn_p_b1_S ⊕ spec_l06Drawn_p_b1_R) := fun (s1_1, s1_2, s1_3, s1_4, s1_5, s1_6, s1_7, s1_8, s1_9, s1_10) =>
 if (decide (s1_2 > 0)) = true then
  (spec_l00Src_pick_p s1_8 s1_9 s1_10 (IntKind.i64.wrap ((r14.length : Int) - 1))).bind fun (r252, r253, r254, r255) =>
  (rem .i64 (IntKind.i64.wrap ((IntKind.i64.wrap (s1_1 + 1)) + r252)) (r14.length : Int)).bind fun n265 =>
  (rd r14 s1_1).bind fun x277 =>
  (rd r14 n265).bind fun x279 =>
  (spec_PassOn (Chain.mk s1_3 (Half.mk s1_4 s1_5 s1_6) s1_7) x277 x279.Name).bind fun (r282, r283, r284, r285, r286, r287) =>
  some (.inl (n265, (IntKind.i64.wrap (s1_2 - 1)), r282, r283, r284, r285, r286, r253, r254, r255))
 else
  some (.inr (s1_3, s1_4, s1_5, s1_6, s1_7, s1_8, s1_9, s1_10))
theorem spec_l06Drawn_p_b1_ok (r14 : List Party) (i1_1 : Nat) (i1_2 : Nat) (j1 : Nat) (M0 : Mem) (ne157 : i1_1 ≠ i1_2) (ne7 : j1 ≠ i1_1) (ne156 : j1 ≠ i1_2) (nf4 : Nf [j1] M0 i1_1) (nf160 : Nf [j1] M0 i1_2) (s : spec_l06Drawn_p_b1_S) (r : spec_l06Drawn_p_b1_S ⊕ spec_l06Drawn_p_b1_R) (h : spec_l06Drawn_p_b1 r14 s = some r) (e : Env) (M : Mem) (hs : spec_l06Drawn_p_b1_RS r14 i1_1 i1_2 j1 M0 s e M) : Ev (fun k => (f91_l9 (CN k) k (prune [0, 2, 3, 4, 7, 8, 10] e) M).bind fun q => some q) (bQ (spec_l06Drawn_p_b1_RS r14 i1_1 i1_2 j1 M0) (spec_l06Drawn_p_b1_RR r14 i1_1 i1_2 j1 M0) r) := by
 obtain ⟨s1_1, s1_2, s1_3, s1_4, s1_5, s1_6, s1_7, s1_8, s1_9, s1_10⟩ := s
 unfold spec_l06Drawn_p_b1 at h
 obtain ⟨h222, h224, h226, h228, h230, h232, h234, o237, o238, o236, fr239⟩ := hs
 generalize he221 : prune [0, 2, 3, 4, 7, 8, 10] e = e220
 have h223 := envp he221.symm rfl h222
 have h225 := envp he221.symm rfl h224
 have h227 := envp he221.symm rfl h226
 have h229 := envp he221.symm rfl h228
 have h231 := envp he221.symm rfl h230
 have h233 := envp he221.symm rfl h232
 have h235 := envp he221.symm rfl h234
 refine sq (sq (Rg (kx (mvO h235) (kx (bGtr rfl rfl) (Rn (hV (.loc j1 1 0 0) h223 (hV (.loc i1_1 1 0 0) h225 (hV (.sl none (r14.map Party.c)) h227 (hV (.int .i64 (r14.length : Int)) h229 (hV (.int .i64 s1_1) h231 (hV (.loc i1_2 1 0 0) h233 (hV (.int .i64 s1_2) h235 (hN rfl hZ)))))))) fun e240 h242 h243 h244 h245 h246 h247 h248 h249 => sN ?_)))))
 clear h223 h225 h227 h229 h231 h233 h235
 rcases ite_some h with ⟨hb250, h⟩ | ⟨hb250, h⟩
 ·obtain ⟨⟨r252, r253, r254, r255⟩, hx251, h⟩ := bind_some h
  refine cT h249 hb250 (xx (sN (sq (bl (sq (Rg (kx (mvO h246) (kx (bAdd rfl rfl) (kx (mvO h242) (kx (mvO h245) (kx (bSub rfl rfl) (Ev.nxw (Ev.callW rfl (cns rfl (cns rfl rfl)) (spec_l00Src_pick_p_ok s1_8 s1_9 s1_10 (IntKind.i64.wrap ((r14.length : Int) - 1)) j1 M o236 _ hx251)) fun v258 M256 hq257 => ?_))))))))))))
  obtain ⟨hv258, o259, fr260⟩ := hq257
  have hv258 : v258 = .int .i64 r252 := hv258
  subst hv258
  have o261 : M256[j1]? = some (.live ⟨.box, 142, 3, [[.sl none (r253.map (cI .u8)), .int .i64 r254, .int .u64 r255]]⟩) := o259
  have fr260 : Fr [j1] M M256 := fr260
  have o262 := fr260 _ _ (niC (Ne.symm ne7) niN) o237
  have o263 := fr260 _ _ (niC (Ne.symm ne156) niN) o238
  have fr264 : Fr [j1] M0 M256 := Fr.call fr239 fr260 (fwI (by simp) fwN)
  obtain ⟨n265, hx266, h⟩ := bind_some h
  obtain ⟨x277, hx278, h⟩ := bind_some h
  obtain ⟨x279, hx280, h⟩ := bind_some h
  obtain ⟨⟨r282, r283, r284, r285, r286, r287⟩, hx281, h⟩ := bind_some h
  refine kx (bAdd rfl rfl) (kx (mvO h245) (kx (bRem rfl rfl hx266) (kx (mvO rfl) (Rn (hA h242 (hA h243 (hA h244 (hA h245 (hA h246 (hA h247 (hA h248 (hN rfl hZ)))))))) fun e267 h269 h270 h271 h272 h273 h274 h275 h276 => sN (sq (Rd (kf (ldOA (cs' := (.str s1_3 :: (.bool s1_4 :: (.sl none (s1_5.map Notch.c) :: ((arC (cI .i8) 0 s1_6) ++ ((.sl none (s1_7.map Mark.c) :: []) : List AV)))))) h274 o263 rfl rfl (ble rfl) rfl) (kf (mvO h271) (kf (mvO h273) (kf (ixS rfl rfl hx278 Party.fl) (kf (ldPA rfl rfl rfl) (kf (mvO h271) (kf (mvO h276) (kf (ixS rfl rfl hx280 Party.fl) (kf (faP rfl ⟨ble rfl, blt rfl⟩ rfl) (kf (ldP rfl rfl) (fc (clO (v := .tup [.agg (.str r282 :: (.bool r283 :: (.sl none (r284.map Notch.c) :: ((arC (cI .i8) 0 r285) ++ ((.sl none (r286.map Mark.c) :: []) : List AV))))), .int .i64 r287]) rfl rfl (cns rfl (cns rfl (cns rfl rfl))) rfl (spec_PassOn_ok (Chain.mk s1_3 (Half.mk s1_4 s1_5 s1_6) s1_7) x277 x279.Name _ hx281)) (kf (mvO rfl) (kf (exT rfl rfl) (kf (exT rfl rfl) (fZ (kw (stO h274 rfl o263 rfl rfl ⟨rfl, ble rfl⟩ rfl rfl) fun M288 hM289 => ?_))))))))))))))))))))))
  clear h242 h243 h244 h245 h246 h247 h248 h249
  have o290 := set_ne hM289 ne156 o261
  have o291 := set_ne hM289 ne157 o262
  have o292 : M288[i1_2]? = some (.live ⟨.box, 73, 20, [(.str r282 :: (.bool r283 :: (.sl none (r284.map Notch.c) :: ((arC (cI .i8) 0 r285) ++ ((.sl none (r286.map Mark.c) :: []) : List AV)))))]⟩) := set_same hM289 o263
  have fr293 := Fr.setNew fr264 hM289 nf160
  refine Rn (hA h269 (hA h270 (hA h271 (hA h272 (hA h274 (hA h275 (hA h276 hZ))))))) fun e294 h296 h297 h298 h299 h300 h301 h302 => sN (Rg (kx (mvO h302) (kx (mvO rfl) (Rn (hA h296 (hA h297 (hA h298 (hA h299 (hN rfl (hA h300 (hA h301 hZ))))))) fun e303 h305 h306 h307 h308 h309 h310 h311 => bN (sN (Rg (kx (mvO h311) (kx (bSub rfl rfl) (kx (mvO rfl) (Rn (hA h305 (hA h306 (hA h307 (hA h308 (hA h309 (hA h310 (hN rfl hZ))))))) fun e312 h314 h315 h316 h317 h318 h319 h320 => ?_))))))))))
  clear h269 h270 h271 h272 h273 h274 h275 h276 h296 h297 h298 h299 h300 h301 h302 h305 h306 h307 h308 h309 h310
  obtain rfl := si h
  exact qN ⟨h314, h315, h316, h317, h318, h319, h320, o291, o292, o290, fr293⟩
 refine cF h249 hb250 (xx (sE ?_))
 obtain rfl := si h
 exact qE ⟨rfl, h243, h247, o237, o238, o236, fr239⟩
noncomputable def spec_l06Drawn_p (a1 : List Int) (a2 : Int) (a3 : Int) : Option ((List UInt8) × Bool × (List Notch) × (Ar 16 Int) × (List Mark) × (List Int) × Int × Int) :=
 (spec_l06People).bind fun r14 =>
 (spec_l04Small_p a1 a2 a3).bind fun (r27, r28, r29, r30, r31, r32) =>
 (spec_l00Src_pick_p r29 r30 r31 (r14.length : Int)).bind fun (r93, r94, r95, r96) =>
 (spec_l00Src_pick_p r94 r95 r96 (IntKind.i64.wrap ((r14.length : Int) - 1))).bind fun (r115, r116, r117, r118) =>
 (rem .i64 (IntKind.i64.wrap ((IntKind.i64.wrap (r93 + 1)) + r115)) (r14.length : Int)).bind fun n128 =>
 (rd r14 r93).bind fun x139 =>
 (rd r14 n128).bind fun x141 =>
 (spec_StartChain (Half.mk true r32 r28) x139 x141.Name).bind fun (r144, r145, r146, r147, r148, r149) =>
 (spec_l00Src_pick_p r116 r117 r118 5).bind fun (r178, r179, r180, r181) =>
 (Lw (spec_l06Drawn_p_b1 r14) (n128, r178, r144, r145, r146, r147, r148, r179, r180, r181)).bind fun (y326, y327, y328, y329, y330, y331, y332, y333) =>
 some (y326, y327, y328, y329, y330, y331, y332, y333)
def spec_l06Drawn_p_Q (a1 : List Int) (a2 : Int) (a3 : Int) (j1 : Nat) (M0 : Mem) (r : (List UInt8) × Bool × (List Notch) × (Ar 16 Int) × (List Mark) × (List Int) × Int × Int) (p : AV × Mem) : Prop := p.1 = .agg (.str r.1 :: (.bool r.2.1 :: (.sl none (r.2.2.1.map Notch.c) :: ((arC (cI .i8) 0 r.2.2.2.1) ++ ((.sl none (r.2.2.2.2.1.map Mark.c) :: []) : List AV))))) ∧ p.2[j1]? = some (.live ⟨.box, 142, 3, [[.sl none (r.2.2.2.2.2.1.map (cI .u8)), .int .i64 r.2.2.2.2.2.2.1, .int .u64 r.2.2.2.2.2.2.2]]⟩) ∧ Fr [j1] M0 p.2
theorem spec_l06Drawn_p_ok (a1 : List Int) (a2 : Int) (a3 : Int) (j1 : Nat) (M0 : Mem) (oP1 : M0[j1]? = some (.live ⟨.box, 142, 3, [[.sl none (a1.map (cI .u8)), .int .i64 a2, .int .u64 a3]]⟩)) (r : (List UInt8) × Bool × (List Notch) × (Ar 16 Int) × (List Mark) × (List Int) × Int × Int) (h : spec_l06Drawn_p a1 a2 a3 = some r) : Ev (fun k => CN k 91 [.loc j1 1 0 0] M0) (spec_l06Drawn_p_Q a1 a2 a3 j1 M0 r) := by
 unfold spec_l06Drawn_p at h
 have fr0 : Fr [j1] M0 M0 := Fr.refl
 refine Ev.enter (F := fun k => f91 (CN k) k) (fun k => callN_eq rfl Try.func91 rfl rfl rfl (by decide +kernel) (f91_eq _ _)) (sq (Rg (ku (alO zero73) fun M2 hM3 => ?_)))
 have nf4 := Nf.mk fr0
 have fr5 := Fr.push fr0 hM3
 have o6 := push_old hM3 oP1
 have ne7 := ne_new oP1
 have o8 : M2[M0.length]? = some (.live ⟨.box, 73, 20, [(.str ([] : List UInt8) :: (.bool false :: (.nils :: ((arC (cI .i8) 0 (Ar.rep 16 0)) ++ ((.nils :: []) : List AV)))))]⟩) := push_new hM3
 obtain ⟨r14, hx13, h⟩ := bind_some h
 obtain ⟨⟨r27, r28, r29, r30, r31, r32⟩, hx26, h⟩ := bind_some h
 refine Rn (hV (.loc j1 1 0 0) rfl (hV (.loc M0.length 1 0 0) rfl hZ)) fun e9 h11 h12 => sN (sq (Rg (kc (clO (v := .sl none (r14.map Party.c)) rfl rfl rfl rfl (spec_l06People_ok  _ hx13)) (kx (mvO rfl) (Rn (hA h11 (hA h12 (hN rfl hZ))) fun e15 h17 h18 h19 => sN (sq (Rg (kx (mvO h19) (kx (lnS Try.underlying157 rfl) (kx (mvO rfl) (Rn (hA h17 (hA h18 (hA h19 (hN rfl hZ)))) fun e20 h22 h23 h24 h25 => sN (sq (Rg (kx (mvO h22) (Ev.nxw (Ev.callF rfl (cns rfl rfl) (spec_l04Small_p_ok a1 a2 a3 j1 M2 o6 _ hx26)) fun v43 M44 hq36 => ?_)))))))))))))))
 clear h11 h12 h17 h18 h19
 obtain ⟨⟨v37, M35⟩, hq36, hf45⟩ := hq36
 obtain ⟨id33, hv37, o40, o38, fr39, nf41, ne42⟩ := hq36
 have hv37 : v37 = .agg (.bool r27 :: (.lsl id33 r32.length 0 r32.length :: ((arC (cI .i8) 0 r28) ++ ([] : List AV)))) := hv37
 subst hv37
 have o46 : M35[j1]? = some (.live ⟨.box, 142, 3, [[.sl none (r29.map (cI .u8)), .int .i64 r30, .int .u64 r31]]⟩) := o38
 have ne47 := nf41 _ _ (niC (Ne.symm ne7) niN) o8
 have nf48 : Nf [j1] M0 id33 := Nf.call fr5 nf41 (nwC ne42 nwN)
 have fr39 : Fr [j1] M2 M35 := fr39
 have o49 := fr39 _ _ (niC (Ne.symm ne7) niN) o8
 have fr50 : Fr [j1] M0 M35 := Fr.call fr5 fr39 (fwI (by simp) fwN)
 obtain ⟨e51, hM52⟩ := Prod.mk.inj ((show frz (.agg (.bool r27 :: (.lsl id33 r32.length 0 r32.length :: ((arC (cI .i8) 0 r28) ++ ([] : List AV))))) M35 = (.agg (.bool r27 :: (.sl (some 170) (r32.map Notch.c) :: ((arC (cI .i8) 0 r28) ++ ([] : List AV)))), (M35.set id33 .dead)) from (fzA (fz1 rfl (fz1 (frz1_row o40 rfl Notch.fl) (fzR (fun _ _ => frz1_flat) (fun _ => rfl) fz0))))).symm.trans hf45)
 subst e51
 have o53 := set_ne hM52.symm ne42 o46
 have o54 := set_ne hM52.symm ne47 o49
 have fr55 := Fr.setNew fr50 hM52.symm nf48
 refine ku (alO zero70) fun M57 hM58 => ?_
 have nf59 := Nf.mk fr55
 have fr60 := Fr.push fr55 hM58
 have o61 := push_old hM58 o53
 have ne62 := ne_new o53
 have o63 := push_old hM58 o54
 have ne64 := ne_new o54
 have o65 : M57[M44.length]? = some (.live ⟨.box, 70, 18, [(.bool false :: (.nils :: ((arC (cI .i8) 0 (Ar.rep 16 0)) ++ ([] : List AV))))]⟩) := push_new hM58
 refine kw (stO rfl rfl o65 rfl rfl ⟨rfl, ble rfl⟩ rfl rfl) fun M66 hM67 => ?_
 have o68 := set_ne hM67 ne62 o61
 have o69 := set_ne hM67 ne64 o63
 have o70 : M66[M44.length]? = some (.live ⟨.box, 70, 18, [(.bool r27 :: (.sl none (r32.map Notch.c) :: ((arC (cI .i8) 0 r28) ++ ([] : List AV))))]⟩) := set_same hM67 o65
 have fr71 := Fr.setNew fr60 hM67 nf59
 refine Rn (hA h22 (hA h23 (hA h24 (hA h25 (hV (.loc M44.length 1 0 0) rfl hZ))))) fun e72 h74 h75 h76 h77 h78 => sN (sq (Rg (kx (faO h78 o70 rfl) (kw (stO rfl rfl o70 rfl rfl ⟨rfl, ble rfl⟩ rfl rfl) fun M79 hM80 => ?_))))
 clear h22 h23 h24 h25
 have o81 := set_ne hM80 ne62 o68
 have o82 := set_ne hM80 ne64 o69
 have o83 : M79[M44.length]? = some (.live ⟨.box, 70, 18, [(.bool true :: (.sl none (r32.map Notch.c) :: ((arC (cI .i8) 0 r28) ++ ([] : List AV))))]⟩) := set_same hM80 o70
 have fr84 := Fr.setNew fr71 hM80 nf59
 obtain ⟨⟨r93, r94, r95, r96⟩, hx92, h⟩ := bind_some h
 refine Rn (hA h74 (hA h75 (hA h76 (hA h77 (hA h78 hZ))))) fun e85 h87 h88 h89 h90 h91 => sN (sq (Rg (kx (mvO h87) (kx (mvO h90) (Ev.nxw (Ev.callW rfl (cns rfl (cns rfl rfl)) (spec_l00Src_pick_p_ok r29 r30 r31 (r14.length : Int) j1 M79 o81 _ hx92)) fun v99 M97 hq98 => ?_)))))
 clear h74 h75 h76 h77 h78
 obtain ⟨hv99, o100, fr101⟩ := hq98
 have hv99 : v99 = .int .i64 r93 := hv99
 subst hv99
 have o102 : M97[j1]? = some (.live ⟨.box, 142, 3, [[.sl none (r94.map (cI .u8)), .int .i64 r95, .int .u64 r96]]⟩) := o100
 have fr101 : Fr [j1] M79 M97 := fr101
 have o103 := fr101 _ _ (niC (Ne.symm ne7) niN) o82
 have o104 := fr101 _ _ (niC (Ne.symm ne62) niN) o83
 have fr105 : Fr [j1] M0 M97 := Fr.call fr84 fr101 (fwI (by simp) fwN)
 obtain ⟨⟨r115, r116, r117, r118⟩, hx114, h⟩ := bind_some h
 refine kx (mvO rfl) (Rn (hA h87 (hA h88 (hA h89 (hA h90 (hA h91 (hN rfl hZ)))))) fun e106 h108 h109 h110 h111 h112 h113 => sN (sq (Rg (kx (mvO h113) (kx (bAdd rfl rfl) (kx (mvO h108) (kx (mvO h111) (kx (bSub rfl rfl) (Ev.nxw (Ev.callW rfl (cns rfl (cns rfl rfl)) (spec_l00Src_pick_p_ok r94 r95 r96 (IntKind.i64.wrap ((r14.length : Int) - 1)) j1 M97 o102 _ hx114)) fun v121 M119 hq120 => ?_)))))))))
 clear h87 h88 h89 h90 h91
 obtain ⟨hv121, o122, fr123⟩ := hq120
 have hv121 : v121 = .int .i64 r115 := hv121
 subst hv121
 have o124 : M119[j1]? = some (.live ⟨.box, 142, 3, [[.sl none (r116.map (cI .u8)), .int .i64 r117, .int .u64 r118]]⟩) := o122
 have fr123 : Fr [j1] M97 M119 := fr123
 have o125 := fr123 _ _ (niC (Ne.symm ne7) niN) o103
 have o126 := fr123 _ _ (niC (Ne.symm ne62) niN) o104
 have fr127 : Fr [j1] M0 M119 := Fr.call fr105 fr123 (fwI (by simp) fwN)
 obtain ⟨n128, hx129, h⟩ := bind_some h
 obtain ⟨x139, hx140, h⟩ := bind_some h
 obtain ⟨x141, hx142, h⟩ := bind_some h
 obtain ⟨⟨r144, r145, r146, r147, r148, r149⟩, hx143, h⟩ := bind_some h
 refine kx (bAdd rfl rfl) (kx (mvO h111) (kx (bRem rfl rfl hx129) (kx (mvO rfl) (Rn (hA h108 (hA h109 (hA h110 (hA h111 (hA h112 (hA h113 (hN rfl hZ))))))) fun e130 h132 h133 h134 h135 h136 h137 h138 => sN (sq (Rd (kf (ldOA (cs' := (.bool true :: (.sl none (r32.map Notch.c) :: ((arC (cI .i8) 0 r28) ++ ([] : List AV))))) h136 o126 rfl rfl (ble rfl) rfl) (kf (mvO h134) (kf (mvO h137) (kf (ixS rfl rfl hx140 Party.fl) (kf (ldPA rfl rfl rfl) (kf (mvO h134) (kf (mvO h138) (kf (ixS rfl rfl hx142 Party.fl) (kf (faP rfl ⟨ble rfl, blt rfl⟩ rfl) (kf (ldP rfl rfl) (fc (clW (v := .tup [.agg (.str r144 :: (.bool r145 :: (.sl none (r146.map Notch.c) :: ((arC (cI .i8) 0 r147) ++ ((.sl none (r148.map Mark.c) :: []) : List AV))))), .int .i64 r149]) rfl rfl (cns rfl (cns rfl (cns rfl rfl))) rfl (spec_StartChain_ok (Half.mk true r32 r28) x139 x141.Name _ hx143) rfl) (kf (mvO rfl) (kf (exT rfl rfl) (kf (exT rfl rfl) (Ev.nfpushE (alO zero73) (Ev.fend1 fun M151 hM152 => ?_))))))))))))))))))))))
 clear h108 h109 h110 h111 h112 h113
 have hM152 := fendM hM152 [⟨.box, 73, 20, [(.str ([] : List UInt8) :: (.bool false :: (.nils :: ((arC (cI .i8) 0 (Ar.rep 16 0)) ++ ((.nils :: []) : List AV)))))]⟩] rfl
 have o153 := push_old hM152 o124
 have o154 := push_old hM152 o125
 have o155 := push_old hM152 o126
 have ne156 : j1 ≠ M119.length := by have := lt_of_get (M := M119) o124; omega
 have ne157 : M0.length ≠ M119.length := by have := lt_of_get (M := M119) o125; omega
 have ne158 : M44.length ≠ M119.length := by have := lt_of_get (M := M119) o126; omega
 have o159 : M151[M119.length]? = some (.live ⟨.box, 73, 20, [(.str ([] : List UInt8) :: (.bool false :: (.nils :: ((arC (cI .i8) 0 (Ar.rep 16 0)) ++ ((.nils :: []) : List AV)))))]⟩) := push_at hM152 0 rfl
 have nf160 := Nf.mk fr127
 have fr161 := Fr.push fr127 hM152
 refine kw (stO rfl rfl o159 rfl rfl ⟨rfl, ble rfl⟩ rfl rfl) fun M162 hM163 => ?_
 have o164 := set_ne hM163 ne156 o153
 have o165 := set_ne hM163 ne157 o154
 have o166 := set_ne hM163 ne158 o155
 have o167 : M162[M119.length]? = some (.live ⟨.box, 73, 20, [(.str r144 :: (.bool r145 :: (.sl none (r146.map Notch.c) :: ((arC (cI .i8) 0 r147) ++ ((.sl none (r148.map Mark.c) :: []) : List AV)))))]⟩) := set_same hM163 o159
 have fr168 := Fr.setNew fr161 hM163 nf160
 obtain ⟨⟨r178, r179, r180, r181⟩, hx177, h⟩ := bind_some h
 refine kx (mvO rfl) (Rn (hA h132 (hA h133 (hA h134 (hA h135 (hA h138 (hV (.loc M119.length 1 0 0) rfl hZ)))))) fun e169 h171 h172 h173 h174 h175 h176 => sN (sq (sq (Rg (kx (mvO h171) (Ev.nxw (Ev.callW rfl (cns rfl (cns rfl rfl)) (spec_l00Src_pick_p_ok r116 r117 r118 5 j1 M162 o164 _ hx177)) fun v184 M182 hq183 => ?_))))))
 clear h132 h133 h134 h135 h136 h137 h138
 obtain ⟨hv184, o185, fr186⟩ := hq183
 have hv184 : v184 = .int .i64 r178 := hv184
 subst hv184
 have o187 : M182[j1]? = some (.live ⟨.box, 142, 3, [[.sl none (r179.map (cI .u8)), .int .i64 r180, .int .u64 r181]]⟩) := o185
 have fr186 : Fr [j1] M162 M182 := fr186
 have o188 := fr186 _ _ (niC (Ne.symm ne7) niN) o165
 have o189 := fr186 _ _ (niC (Ne.symm ne156) niN) o167
 have fr190 : Fr [j1] M0 M182 := Fr.call fr168 fr186 (fwI (by simp) fwN)
 obtain ⟨⟨y326, y327, y328, y329, y330, y331, y332, y333⟩, hr322, h⟩ := bind_some h
 refine kx (mvO rfl) (Rn (hA h171 (hA h172 (hA h173 (hA h174 (hA h175 (hA h176 (hN rfl hZ))))))) fun e191 h193 h194 h195 h196 h197 h198 h199 => sN (bl (Ev.loop (RS := spec_l06Drawn_p_b1_RS r14 M0.length M119.length j1 M0) (RR := spec_l06Drawn_p_b1_RR r14 M0.length M119.length j1 M0) (fun s r h e M hs => spec_l06Drawn_p_b1_ok r14 M0.length M119.length j1 M0 ne157 ne7 ne156 nf4 nf160 s r h e M hs) hr322 ⟨h193, h194, h195, h196, h197, h198, h199, o188, o189, o187, fr190⟩ fun x e324 M325 hq323 => ?_)))
 clear h171 h172 h173 h174 h175 h176
 obtain ⟨rfl, h334, h335, o336, o337, o338, fr339⟩ := hq323
 refine bE (sN (sq (Rg (kx (ldOA (cs' := (.str y326 :: (.bool y327 :: (.sl none (y328.map Notch.c) :: ((arC (cI .i8) 0 y329) ++ ((.sl none (y330.map Mark.c) :: []) : List AV)))))) h335 o337 rfl rfl (ble rfl) rfl) (kw (stO h334 rfl o336 rfl rfl ⟨rfl, ble rfl⟩ rfl rfl) fun M340 hM341 => ?_)))))
 have o342 : M340[M0.length]? = some (.live ⟨.box, 73, 20, [(.str y326 :: (.bool y327 :: (.sl none (y328.map Notch.c) :: ((arC (cI .i8) 0 y329) ++ ((.sl none (y330.map Mark.c) :: []) : List AV)))))]⟩) := set_same hM341 o336
 have o343 := set_ne hM341 (Ne.symm ne157) o337
 have o344 := set_ne hM341 ne7 o338
 have fr345 := Fr.setNew fr339 hM341 nf4
 refine Rn (hV (.loc M0.length 1 0 0) h334 hZ) fun e346 h348 => sN (xx ?_)
 clear h334 h335
 obtain rfl := si h
 exact eR (resC (ag := true) (sz := 20) ⟨by kernel_rfl, by kernel_rfl, by kernel_rfl⟩ (ldOA (cs' := (.str y326 :: (.bool y327 :: (.sl none (y328.map Notch.c) :: ((arC (cI .i8) 0 y329) ++ ((.sl none (y330.map Mark.c) :: []) : List AV)))))) h348 o342 rfl rfl (ble rfl) rfl) res0) ⟨rfl, o344, fr345⟩
noncomputable def spec_P6Chain (a1 : List Int) : Option ((List UInt8) × Bool × (List Notch) × (Ar 16 Int) × (List Mark)) :=
 (spec_l00From a1).bind fun r10 =>
 (spec_l06Drawn_p r10.Code r10.At r10.Seed).bind fun (r20, r21, r22, r23, r24, r25, r26, r27) =>
 some (r20, r21, r22, r23, r24)
def spec_P6Chain_enc (r : (List UInt8) × Bool × (List Notch) × (Ar 16 Int) × (List Mark)) : AV := .agg (.str r.1 :: (.bool r.2.1 :: (.sl none (r.2.2.1.map Notch.c) :: ((arC (cI .i8) 0 r.2.2.2.1) ++ ((.sl none (r.2.2.2.2.map Mark.c) :: []) : List AV)))))
theorem spec_P6Chain_ok (a1 : List Int) (r : (List UInt8) × Bool × (List Notch) × (Ar 16 Int) × (List Mark)) (h : spec_P6Chain a1 = some r) : Ev (fun k => CN k 43 [.sl none (a1.map (cI .u8))] []) (fun p => wkR (rRes p.2 p.1) = spec_P6Chain_enc r) := by
 unfold spec_P6Chain at h
 refine Ev.enter (F := fun k => f43 (CN k) k) (fun k => callN_eq rfl Try.func43 rfl rfl rfl (by decide +kernel) (f43_eq _ _)) (sq (Rg (ku (alO zero73) fun M2 hM3 => ?_)))
 have o4 : M2[([] : Mem).length]? = some (.live ⟨.box, 73, 20, [(.str ([] : List UInt8) :: (.bool false :: (.nils :: ((arC (cI .i8) 0 (Ar.rep 16 0)) ++ ((.nils :: []) : List AV)))))]⟩) := push_new hM3
 obtain ⟨r10, hx9, h⟩ := bind_some h
 refine Rn (hN rfl (hV (.loc ([] : Mem).length 1 0 0) rfl hZ)) fun e5 h7 h8 => sN (sq (Rg (kx (mvO h7) (Ev.nxw (Ev.callW rfl (cns rfl rfl) (spec_l00From_ok a1 M2 _ hx9)) fun v14 M12 hq13 => ?_))))
 obtain ⟨hv14, o16, fr15⟩ := hq13
 have hv14 : v14 = .loc M2.length 1 0 0 := hv14
 subst hv14
 have ne17 := ne_new o4
 have fr15 : Fr [] M2 M12 := fr15
 have o18 := fr15 _ _ niN o4
 obtain ⟨⟨r20, r21, r22, r23, r24, r25, r26, r27⟩, hx19, h⟩ := bind_some h
 refine Ev.nxw (Ev.callW rfl (cns rfl rfl) (spec_l06Drawn_p_ok r10.Code r10.At r10.Seed M2.length M12 o16 _ hx19)) fun v30 M28 hq29 => ?_
 obtain ⟨hv30, o31, fr32⟩ := hq29
 have hv30 : v30 = .agg (.str r20 :: (.bool r21 :: (.sl none (r22.map Notch.c) :: ((arC (cI .i8) 0 r23) ++ ((.sl none (r24.map Mark.c) :: []) : List AV))))) := hv30
 subst hv30
 have o33 : M28[M2.length]? = some (.live ⟨.box, 142, 3, [[.sl none (r25.map (cI .u8)), .int .i64 r26, .int .u64 r27]]⟩) := o31
 have fr32 : Fr [M2.length] M12 M28 := fr32
 have o34 := fr32 _ _ (niC ne17 niN) o18
 refine kw (stO h8 rfl o34 rfl rfl ⟨rfl, ble rfl⟩ rfl rfl) fun M35 hM36 => ?_
 have o37 : M35[([] : Mem).length]? = some (.live ⟨.box, 73, 20, [(.str r20 :: (.bool r21 :: (.sl none (r22.map Notch.c) :: ((arC (cI .i8) 0 r23) ++ ((.sl none (r24.map Mark.c) :: []) : List AV)))))]⟩) := set_same hM36 o34
 have o38 := set_ne hM36 (Ne.symm ne17) o33
 refine Rn (hA h8 hZ) fun e39 h41 => sN (xx ?_)
 clear h7 h8
 obtain rfl := si h
 exact eR (resC (ag := true) (sz := 20) ⟨by kernel_rfl, by kernel_rfl, by kernel_rfl⟩ (ldOA (cs' := (.str r20 :: (.bool r21 :: (.sl none (r22.map Notch.c) :: ((arC (cI .i8) 0 r23) ++ ((.sl none (r24.map Mark.c) :: []) : List AV)))))) h41 o37 rfl rfl (ble rfl) rfl) res0) (wkH (y := .agg (.str r20 :: (.bool r21 :: (.sl none (r22.map Notch.c) :: ((arC (cI .i8) 0 r23) ++ ((.sl none (r24.map Mark.c) :: []) : List AV)))))) rfl (wk_agg (mp1 rfl (mp1 rfl (mp1 rfl (mpA (fun _ => wk1_flat) (fun _ => rfl) (mp1 rfl mp0)))))))
noncomputable def spec_SameNumbers (a1 : List Int) (a2 : List Int) : Option Bool :=
 (spec_l00Same a1 a2).bind fun r6 =>
 some r6
def spec_SameNumbers_enc (r : Bool) : AV := .bool r
theorem spec_SameNumbers_ok (a1 : List Int) (a2 : List Int) (r : Bool) (h : spec_SameNumbers a1 a2 = some r) : Ev (fun k => CN k 42 [.sl none (a1.map (cI .i64)), .sl none (a2.map (cI .i64))] []) (fun p => rRes p.2 p.1 = spec_SameNumbers_enc r) := by
 unfold spec_SameNumbers at h
 obtain ⟨r6, hx5, h⟩ := bind_some h
 refine Ev.enter (F := fun k => f42 (CN k) k) (fun k => callN_eq rfl Try.func42 rfl rfl rfl (by decide +kernel) (f42_eq _ _)) (sq (Rg (kx (mvO rfl) (Rn (hN rfl (hN rfl hZ)) fun e1 h3 h4 => sN (sq (Rg (kx (mvO h3) (kx (mvO h4) (kc (cl (v := .bool r6) rfl rfl (cns rfl (cns rfl rfl)) rfl (spec_l00Same_ok a1 a2 _ hx5) nm) (kx (mvO rfl) (Rn (hN rfl hZ) fun e7 h9 => sN (xx ?_))))))))))))
 clear h3 h4
 obtain rfl := si h
 exact eR (resT h9 res0) rfl
def spec_ShareOut_c1_Q (a1 : Int) (a2 : List Int) (g : Bool) (q : Out) : Prop := q.1 = .nrm ∧ eget q.2.1 0 = .int .i64 a1 ∧ eget q.2.1 1 = .sl none (a2.map (cI .i64)) ∧ eget q.2.1 6 = .bool g
abbrev spec_ShareOut_b1_S := Bool × Int × Int
abbrev spec_ShareOut_b1_R := Bool × Int
def spec_ShareOut_b1_RS (a1 : Int) (a2 : List Int) (s : spec_ShareOut_b1_S) (e : Env) (M : Mem) : Prop := eget e 0 = .int .i64 a1 ∧ eget e 1 = .sl none (a2.map (cI .i64)) ∧ eget e 6 = .bool s.1 ∧ eget e 7 = .int .i64 s.2.1 ∧ eget e 8 = .int .i64 s.2.2
def spec_ShareOut_b1_RR (a1 : Int) (a2 : List Int) (g : spec_ShareOut_b1_R) (x : Ex) (e : Env) (M : Mem) : Prop := x = .ext 0 ∧ eget e 0 = .int .i64 a1 ∧ eget e 1 = .sl none (a2.map (cI .i64)) ∧ eget e 6 = .bool g.1 ∧ eget e 7 = .int .i64 g.2
noncomputable def spec_ShareOut_b1 (a2 : List Int) : spec_ShareOut_b1_S → Option (spec_ShareOut_b1_S ⊕ spec_ShareOut_b1_R) := fun (s1_1, s1_2, s1_3) =>
 if (decide (s1_3 < (a2.length : Int))) = true then
  if s1_1 = true then
   (rd a2 s1_3).bind fun x73 =>
   (spec_l00In x73 0 1000000).bind fun r76 =>
   (rd a2 s1_3).bind fun x84 =>
   some (.inl (r76, (IntKind.i64.wrap (s1_2 + x84)), (IntKind.i64.wrap (s1_3 + 1))))
  else
   some (.inr (s1_1, s1_2))
 else
  some (.inr (s1_1, s1_2))
theorem spec_ShareOut_b1_ok (a1 : Int) (a2 : List Int) (s : spec_ShareOut_b1_S) (r : spec_ShareOut_b1_S ⊕ spec_ShareOut_b1_R) (h : spec_ShareOut_b1 a2 s = some r) (e : Env) (M : Mem) (hs : spec_ShareOut_b1_RS a1 a2 s e M) : Ev (fun k => (f41_l4 (CN k) k (prune [0, 1, 6, 7, 8] e) M).bind fun q => some q) (bQ (spec_ShareOut_b1_RS a1 a2) (spec_ShareOut_b1_RR a1 a2) r) := by
 obtain ⟨s1_1, s1_2, s1_3⟩ := s
 unfold spec_ShareOut_b1 at h
 obtain ⟨h53, h55, h57, h59, h61⟩ := hs
 generalize he52 : prune [0, 1, 6, 7, 8] e = e51
 have h54 := envp he52.symm rfl h53
 have h56 := envp he52.symm rfl h55
 have h58 := envp he52.symm rfl h57
 have h60 := envp he52.symm rfl h59
 have h62 := envp he52.symm rfl h61
 refine sq (sq (Rg (kx (mvO h62) (kx (mvO h56) (kx (lnS Try.underlying24 rfl) (kx (bLss rfl rfl) (kx (mvO rfl) ?_)))))))
 rcases ite_some h with ⟨hb63, h⟩ | ⟨hb63, h⟩
 ·refine kx (guT rfl hb63 (mvO h58)) (kx (pkT rfl hb63 rfl) (Rn (hA h54 (hV (.sl none (a2.map (cI .i64))) h56 (hV (.bool s1_1) h58 (hV (.int .i64 s1_2) h60 (hV (.int .i64 s1_3) h62 (hN rfl hZ)))))) fun e64 h66 h67 h68 h69 h70 h71 => sN ?_))
  clear h54 h56 h58 h60 h62
  rcases ite_some h with ⟨hb72, h⟩ | ⟨hb72, h⟩
  ·obtain ⟨x73, hx74, h⟩ := bind_some h
   obtain ⟨r76, hx75, h⟩ := bind_some h
   obtain ⟨x84, hx85, h⟩ := bind_some h
   refine cT h71 hb72 (xx (sN (sq (bl (sq (Rg (kx (mvO h67) (kx (mvO h70) (kx (ixS rfl rfl hx74 (cI_fl _)) (kx (ldP rfl rfl) (kc (cl (v := .bool r76) rfl rfl (cns rfl (cns rfl (cns rfl rfl))) rfl (spec_l00In_ok x73 0 1000000 _ hx75) nm) (kx (mvO rfl) (Rn (hA h66 (hA h67 (hN rfl (hA h69 (hA h70 hZ))))) fun e77 h79 h80 h81 h82 h83 => sN (Rg (kx (mvO h82) (kx (mvO h80) (kx (mvO h83) (kx (ixS rfl rfl hx85 (cI_fl _)) (kx (ldP rfl rfl) (kx (bAdd rfl rfl) (kx (mvO rfl) (Rn (hA h79 (hA h80 (hA h81 (hN rfl (hA h83 hZ))))) fun e86 h88 h89 h90 h91 h92 => bN (sN (Rg (kx (mvO h92) (kx (bAdd rfl rfl) (kx (mvO rfl) (Rn (hA h88 (hA h89 (hA h90 (hA h91 (hN rfl hZ))))) fun e93 h95 h96 h97 h98 h99 => ?_))))))))))))))))))))))))))))
   clear h66 h67 h69 h70 h71 h79 h80 h81 h83 h88 h89 h90 h91
   obtain rfl := si h
   exact qN ⟨h95, h96, h97, h98, h99⟩
  refine cF h71 hb72 (xx (sE ?_))
  obtain rfl := si h
  exact qE ⟨rfl, h66, h67, h68, h69⟩
 refine kx (gsT rfl hb63) (kx (pkF rfl hb63 rfl) (Rn (hA h54 (hV (.sl none (a2.map (cI .i64))) h56 (hV (.bool s1_1) h58 (hV (.int .i64 s1_2) h60 (hV (.int .i64 s1_3) h62 (hV (.bool false) rfl hZ)))))) fun e100 h102 h103 h104 h105 h106 h107 => sN (cF h107 rfl (xx (sE ?_)))))
 clear h54 h56 h58 h60 h62
 obtain rfl := si h
 exact qE ⟨rfl, h102, h103, h104, h105⟩
def spec_ShareOut_c2_Q (a1 : Int) (a2 : List Int) (y114 : Int) (g : Bool) (q : Out) : Prop := q.1 = .nrm ∧ eget q.2.1 0 = .int .i64 a1 ∧ eget q.2.1 1 = .sl none (a2.map (cI .i64)) ∧ eget q.2.1 7 = .int .i64 y114 ∧ eget q.2.1 47 = .bool g
abbrev spec_ShareOut_b2_S := Int × Int × (List Int) × (List Int)
abbrev spec_ShareOut_b2_R := Int × (List Int) × (List Int)
def spec_ShareOut_b2_RS (a1 : Int) (a2 : List Int) (y114 : Int) (i2_1 : Nat) (i2_2 : Nat) (s : spec_ShareOut_b2_S) (e : Env) (M : Mem) : Prop := eget e 0 = .int .i64 a1 ∧ eget e 1 = .sl none (a2.map (cI .i64)) ∧ eget e 7 = .int .i64 y114 ∧ eget e 9 = .lsl i2_1 s.2.2.1.length 0 s.2.2.1.length ∧ eget e 10 = .lsl i2_2 s.2.2.2.length 0 s.2.2.2.length ∧ eget e 11 = .int .i64 s.1 ∧ eget e 12 = .int .i64 s.2.1 ∧ M[i2_1]? = some (.live ⟨.grow, 2, 1, s.2.2.1.map (cI .i64)⟩) ∧ M[i2_2]? = some (.live ⟨.grow, 2, 1, s.2.2.2.map (cI .i64)⟩)
def spec_ShareOut_b2_RR (a1 : Int) (a2 : List Int) (y114 : Int) (i2_1 : Nat) (i2_2 : Nat) (g : spec_ShareOut_b2_R) (x : Ex) (e : Env) (M : Mem) : Prop := x = .ext 2 ∧ eget e 9 = .lsl i2_1 g.2.1.length 0 g.2.1.length ∧ eget e 10 = .lsl i2_2 g.2.2.length 0 g.2.2.length ∧ eget e 11 = .int .i64 g.1 ∧ M[i2_1]? = some (.live ⟨.grow, 2, 1, g.2.1.map (cI .i64)⟩) ∧ M[i2_2]? = some (.live ⟨.grow, 2, 1, g.2.2.map (cI .i64)⟩)
noncomputable def spec_ShareOut_b2 (a1 : Int) (a2 : List Int) (y114 : Int) : spec_ShareOut_b2_S → Option (spec_ShareOut_b2_S ⊕ spec_ShareOut_b2_R) := fun (s2_1, s2_2, s2_3, s2_4) =>
 if (decide (s2_2 < (a2.length : Int))) = true then
  (rd a2 s2_2).bind fun x231 =>
  (quo .i64 (IntKind.i64.wrap (a1 * x231)) y114).bind fun n233 =>
  (app 8 s2_3 [n233]).bind fun x235 =>
  (rd a2 s2_2).bind fun x250 =>
  (rem .i64 (IntKind.i64.wrap (a1 * x250)) y114).bind fun n252 =>
  (app 8 s2_4 [n252]).bind fun x254 =>
  (rd x235 s2_2).bind fun x269 =>
  some (.inl ((IntKind.i64.wrap (s2_1 - x269)), (IntKind.i64.wrap (s2_2 + 1)), x235, x254))
 else
  some (.inr (s2_1, s2_3, s2_4))
theorem spec_ShareOut_b2_ok (a1 : Int) (a2 : List Int) (y114 : Int) (i2_1 : Nat) (i2_2 : Nat) (ne158 : i2_1 ≠ i2_2) (s : spec_ShareOut_b2_S) (r : spec_ShareOut_b2_S ⊕ spec_ShareOut_b2_R) (h : spec_ShareOut_b2 a1 a2 y114 s = some r) (e : Env) (M : Mem) (hs : spec_ShareOut_b2_RS a1 a2 y114 i2_1 i2_2 s e M) : Ev (fun k => (f41_l14 (CN k) k (prune [0, 1, 7, 9, 10, 11, 12] e) M).bind fun q => some q) (bQ (spec_ShareOut_b2_RS a1 a2 y114 i2_1 i2_2) (spec_ShareOut_b2_RR a1 a2 y114 i2_1 i2_2) r) := by
 obtain ⟨s2_1, s2_2, s2_3, s2_4⟩ := s
 unfold spec_ShareOut_b2 at h
 obtain ⟨h204, h206, h208, h210, h212, h214, h216, o218, o219⟩ := hs
 generalize he203 : prune [0, 1, 7, 9, 10, 11, 12] e = e202
 have h205 := envp he203.symm rfl h204
 have h207 := envp he203.symm rfl h206
 have h209 := envp he203.symm rfl h208
 have h211 := envp he203.symm rfl h210
 have h213 := envp he203.symm rfl h212
 have h215 := envp he203.symm rfl h214
 have h217 := envp he203.symm rfl h216
 refine sq (sq (Rg (kx (mvO h217) (kx (mvO h207) (kx (lnS Try.underlying24 rfl) (kx (bLss rfl rfl) (Rn (hV (.int .i64 a1) h205 (hV (.sl none (a2.map (cI .i64))) h207 (hV (.int .i64 y114) h209 (hV (.lsl i2_1 s2_3.length 0 s2_3.length) h211 (hV (.lsl i2_2 s2_4.length 0 s2_4.length) h213 (hV (.int .i64 s2_1) h215 (hV (.int .i64 s2_2) h217 (hN rfl hZ)))))))) fun e220 h222 h223 h224 h225 h226 h227 h228 h229 => sN ?_)))))))
 clear h205 h207 h209 h211 h213 h215 h217
 rcases ite_some h with ⟨hb230, h⟩ | ⟨hb230, h⟩
 ·obtain ⟨x231, hx232, h⟩ := bind_some h
  obtain ⟨n233, hx234, h⟩ := bind_some h
  obtain ⟨x235, hx236, h⟩ := bind_some h
  refine cT h229 hb230 (xx (sN (sq (bl (sq (Rg (kx (mvO h225) (kx (mvO h222) (kx (mvO h223) (kx (mvO h228) (kx (ixS rfl rfl hx232 (cI_fl _)) (kx (ldP rfl rfl) (kx (bMul rfl rfl) (kx (mvO h224) (kx (bQuo rfl rfl hx234) (kx (litI (cns rfl rfl) rfl ⟨rfl, by decide⟩) (kw (apO rfl o218 rfl (elT (c := (cI .i64)) (xs := [n233]) rfl) hx236 (cI_fl _) (by decide)) fun M237 hM238 => ?_)))))))))))))))))
  have o239 : M237[i2_1]? = some (.live ⟨.grow, 2, 1, x235.map (cI .i64)⟩) := set_same hM238 o218
  have o240 := set_ne hM238 (Ne.symm ne158) o219
  obtain ⟨x250, hx251, h⟩ := bind_some h
  obtain ⟨n252, hx253, h⟩ := bind_some h
  obtain ⟨x254, hx255, h⟩ := bind_some h
  refine kx (mvO rfl) (Rn (hA h222 (hA h223 (hA h224 (hV (.lsl i2_1 x235.length 0 x235.length) rfl (hA h226 (hA h227 (hA h228 hZ))))))) fun e241 h243 h244 h245 h246 h247 h248 h249 => sN (sq (Rg (kx (mvO h247) (kx (mvO h243) (kx (mvO h244) (kx (mvO h249) (kx (ixS rfl rfl hx251 (cI_fl _)) (kx (ldP rfl rfl) (kx (bMul rfl rfl) (kx (mvO h245) (kx (bRem rfl rfl hx253) (kx (litI (cns rfl rfl) rfl ⟨rfl, by decide⟩) (kw (apO rfl o240 rfl (elT (c := (cI .i64)) (xs := [n252]) rfl) hx255 (cI_fl _) (by decide)) fun M256 hM257 => ?_))))))))))))))
  clear h222 h223 h224 h226 h227 h228 h229
  have o258 := set_ne hM257 ne158 o239
  have o259 : M256[i2_2]? = some (.live ⟨.grow, 2, 1, x254.map (cI .i64)⟩) := set_same hM257 o240
  obtain ⟨x269, hx270, h⟩ := bind_some h
  refine kx (mvO rfl) (Rn (hA h243 (hA h244 (hA h245 (hA h246 (hV (.lsl i2_2 x254.length 0 x254.length) rfl (hA h248 (hA h249 hZ))))))) fun e260 h262 h263 h264 h265 h266 h267 h268 => sN (Rg (kx (mvO h267) (kx (mvO h265) (kx (mvO h268) (kx (ixO rfl o258 rfl rfl (rd_get hx270).1 (rd_lt hx270).2) (kx (ldO rfl o258 (by simp) (rz hx270) rfl) (kx (bSub rfl rfl) (kx (mvO rfl) (Rn (hA h262 (hA h263 (hA h264 (hA h265 (hA h266 (hN rfl (hA h268 hZ))))))) fun e271 h273 h274 h275 h276 h277 h278 h279 => bN (sN (Rg (kx (mvO h279) (kx (bAdd rfl rfl) (kx (mvO rfl) (Rn (hA h273 (hA h274 (hA h275 (hA h276 (hA h277 (hA h278 (hN rfl hZ))))))) fun e280 h282 h283 h284 h285 h286 h287 h288 => ?_))))))))))))))))
  clear h243 h244 h245 h246 h248 h249 h262 h263 h264 h265 h266 h268 h273 h274 h275 h276 h277 h278
  obtain rfl := si h
  exact qN ⟨h282, h283, h284, h285, h286, h287, h288, o258, o259⟩
 refine cF h229 hb230 (xx (sE ?_))
 obtain rfl := si h
 exact qE ⟨rfl, h225, h226, h227, o218, o219⟩
abbrev spec_ShareOut_b4_S := Int × Int
abbrev spec_ShareOut_b4_R := Int
def spec_ShareOut_b4_RS (s3_1 : Int) (s3_2 : List Int) (s3_3 : List Int) (i3_1 : Nat) (i3_2 : Nat) (s : spec_ShareOut_b4_S) (e : Env) (M : Mem) : Prop := eget e 9 = .lsl i3_1 s3_2.length 0 s3_2.length ∧ eget e 10 = .lsl i3_2 s3_3.length 0 s3_3.length ∧ eget e 11 = .int .i64 s3_1 ∧ eget e 13 = .int .i64 s.1 ∧ eget e 14 = .int .i64 s.2 ∧ M[i3_1]? = some (.live ⟨.grow, 2, 1, s3_2.map (cI .i64)⟩) ∧ M[i3_2]? = some (.live ⟨.grow, 2, 1, s3_3.map (cI .i64)⟩)
def spec_ShareOut_b4_RR (s3_1 : Int) (s3_2 : List Int) (s3_3 : List Int) (i3_1 : Nat) (i3_2 : Nat) (g : spec_ShareOut_b4_R) (x : Ex) (e : Env) (M : Mem) : Prop := x = .ext 6 ∧ eget e 9 = .lsl i3_1 s3_2.length 0 s3_2.length ∧ eget e 10 = .lsl i3_2 s3_3.length 0 s3_3.length ∧ eget e 11 = .int .i64 s3_1 ∧ eget e 13 = .int .i64 g ∧ M[i3_1]? = some (.live ⟨.grow, 2, 1, s3_2.map (cI .i64)⟩) ∧ M[i3_2]? = some (.live ⟨.grow, 2, 1, s3_3.map (cI .i64)⟩)
noncomputable def spec_ShareOut_b4 (s3_3 : List Int) : spec_ShareOut_b4_S → Option (spec_ShareOut_b4_S ⊕ spec_ShareOut_b4_R) := fun (s4_1, s4_2) =>
 if (decide (s4_2 < (s3_3.length : Int))) = true then
  (rd s3_3 s4_2).bind fun x381 =>
  (rd s3_3 s4_1).bind fun x383 =>
  if (decide (x381 > x383)) = true then
   some (.inl (s4_2, (IntKind.i64.wrap (s4_2 + 1))))
  else
   some (.inl (s4_1, (IntKind.i64.wrap (s4_2 + 1))))
 else
  some (.inr s4_1)
theorem spec_ShareOut_b4_ok (s3_1 : Int) (s3_2 : List Int) (s3_3 : List Int) (i3_1 : Nat) (i3_2 : Nat) (ne158 : i3_1 ≠ i3_2) (s : spec_ShareOut_b4_S) (r : spec_ShareOut_b4_S ⊕ spec_ShareOut_b4_R) (h : spec_ShareOut_b4 s3_3 s = some r) (e : Env) (M : Mem) (hs : spec_ShareOut_b4_RS s3_1 s3_2 s3_3 i3_1 i3_2 s e M) : Ev (fun k => (f41_l22 (CN k) k (prune [9, 10, 11, 13, 14] e) M).bind fun q => some q) (bQ (spec_ShareOut_b4_RS s3_1 s3_2 s3_3 i3_1 i3_2) (spec_ShareOut_b4_RR s3_1 s3_2 s3_3 i3_1 i3_2) r) := by
 obtain ⟨s4_1, s4_2⟩ := s
 unfold spec_ShareOut_b4 at h
 obtain ⟨h360, h362, h364, h366, h368, o370, o371⟩ := hs
 generalize he359 : prune [9, 10, 11, 13, 14] e = e358
 have h361 := envp he359.symm rfl h360
 have h363 := envp he359.symm rfl h362
 have h365 := envp he359.symm rfl h364
 have h367 := envp he359.symm rfl h366
 have h369 := envp he359.symm rfl h368
 refine sq (sq (Rg (kx (mvO h369) (kx (mvO h363) (kx (lnL Try.underlying24 rfl o371 (by simp)) (kx (bLss rfl rfl) (Rn (hV (.lsl i3_1 s3_2.length 0 s3_2.length) h361 (hV (.lsl i3_2 s3_3.length 0 s3_3.length) h363 (hV (.int .i64 s3_1) h365 (hV (.int .i64 s4_1) h367 (hV (.int .i64 s4_2) h369 (hN rfl hZ)))))) fun e372 h374 h375 h376 h377 h378 h379 => sN ?_)))))))
 clear h361 h363 h365 h367 h369
 rcases ite_some h with ⟨hb380, h⟩ | ⟨hb380, h⟩
 ·obtain ⟨x381, hx382, h⟩ := bind_some h
  obtain ⟨x383, hx384, h⟩ := bind_some h
  refine cT h379 hb380 (xx (sN (sq (bl (sq (Rd (kf (mvO h375) (kf (mvO h378) (kf (ixO rfl o371 rfl rfl (rd_get hx382).1 (rd_lt hx382).2) (kf (ldO rfl o371 (by simp) (rz hx382) rfl) (kf (mvO h375) (kf (mvO h377) (kf (ixO rfl o371 rfl rfl (rd_get hx384).1 (rd_lt hx384).2) (kf (ldO rfl o371 (by simp) (rz hx384) rfl) (kf (bGtr rfl rfl) (fZ (Rn (hA h374 (hA h375 (hA h376 (hA h377 (hA h378 (hN rfl hZ)))))) fun e385 h387 h388 h389 h390 h391 h392 => sN ?_)))))))))))))))))
  clear h374 h375 h376 h377 h378 h379
  rcases ite_some h with ⟨hb393, h⟩ | ⟨hb393, h⟩
  ·refine cT h392 hb393 (Rg (kx (mvO h391) (kx (mvO rfl) (Rn (hA h387 (hA h388 (hA h389 (hN rfl (hA h391 hZ))))) fun e394 h396 h397 h398 h399 h400 => bN (sN (Rg (kx (mvO h400) (kx (bAdd rfl rfl) (kx (mvO rfl) (Rn (hA h396 (hA h397 (hA h398 (hA h399 (hN rfl hZ))))) fun e401 h403 h404 h405 h406 h407 => ?_))))))))))
   clear h387 h388 h389 h391 h392 h396 h397 h398 h399
   obtain rfl := si h
   exact qN ⟨h403, h404, h405, h406, h407, o370, o371⟩
  refine cF h392 hb393 (xx (bN (sN (Rg (kx (mvO h391) (kx (bAdd rfl rfl) (kx (mvO rfl) (Rn (hA h387 (hA h388 (hA h389 (hA h390 (hN rfl hZ))))) fun e408 h410 h411 h412 h413 h414 => ?_))))))))
  clear h387 h388 h389 h390 h392
  obtain rfl := si h
  exact qN ⟨h410, h411, h412, h413, h414, o370, o371⟩
 refine cF h379 hb380 (xx (sE ?_))
 obtain rfl := si h
 exact qE ⟨rfl, h374, h375, h376, h377, o370, o371⟩
abbrev spec_ShareOut_b3_S := Int × (List Int) × (List Int)
abbrev spec_ShareOut_b3_R := (List Int) × (List Int)
def spec_ShareOut_b3_RS (y295 : List Int) (y296 : List Int) (i3_1 : Nat) (i3_2 : Nat) (s : spec_ShareOut_b3_S) (e : Env) (M : Mem) : Prop := eget e 9 = .lsl i3_1 s.2.1.length 0 s.2.1.length ∧ eget e 10 = .lsl i3_2 s.2.2.length 0 s.2.2.length ∧ eget e 11 = .int .i64 s.1 ∧ M[i3_1]? = some (.live ⟨.grow, 2, 1, s.2.1.map (cI .i64)⟩) ∧ M[i3_2]? = some (.live ⟨.grow, 2, 1, s.2.2.map (cI .i64)⟩) ∧ s.2.1.length = y295.length ∧ s.2.2.length = y296.length
def spec_ShareOut_b3_RR (y295 : List Int) (y296 : List Int) (i3_1 : Nat) (i3_2 : Nat) (g : spec_ShareOut_b3_R) (x : Ex) (e : Env) (M : Mem) : Prop := x = .ext 4 ∧ eget e 9 = .lsl i3_1 g.1.length 0 g.1.length ∧ M[i3_1]? = some (.live ⟨.grow, 2, 1, g.1.map (cI .i64)⟩) ∧ M[i3_2]? = some (.live ⟨.grow, 2, 1, g.2.map (cI .i64)⟩) ∧ g.1.length = y295.length ∧ g.2.length = y296.length
noncomputable def spec_ShareOut_b3 : spec_ShareOut_b3_S → Option (spec_ShareOut_b3_S ⊕ spec_ShareOut_b3_R) := fun (s3_1, s3_2, s3_3) =>
 if (decide (s3_1 > 0)) = true then
  (Lw (spec_ShareOut_b4 s3_3) (0, 1)).bind fun y420 =>
  (rd s3_2 y420).bind fun x427 =>
  (rd s3_2 y420).bind fun x429 =>
  (rd s3_3 y420).bind fun x442 =>
  some (.inl ((IntKind.i64.wrap (s3_1 - 1)), (s3_2.set y420.toNat (IntKind.i64.wrap (x427 + 1))), (s3_3.set y420.toNat (-1))))
 else
  some (.inr (s3_2, s3_3))
theorem spec_ShareOut_b3_ok (y295 : List Int) (y296 : List Int) (i3_1 : Nat) (i3_2 : Nat) (ne158 : i3_1 ≠ i3_2) (s : spec_ShareOut_b3_S) (r : spec_ShareOut_b3_S ⊕ spec_ShareOut_b3_R) (h : spec_ShareOut_b3 s = some r) (e : Env) (M : Mem) (hs : spec_ShareOut_b3_RS y295 y296 i3_1 i3_2 s e M) : Ev (fun k => (f41_l19 (CN k) k (prune [9, 10, 11] e) M).bind fun q => some q) (bQ (spec_ShareOut_b3_RS y295 y296 i3_1 i3_2) (spec_ShareOut_b3_RR y295 y296 i3_1 i3_2) r) := by
 obtain ⟨s3_1, s3_2, s3_3⟩ := s
 unfold spec_ShareOut_b3 at h
 obtain ⟨h314, h316, h318, o320, o321, hl322, hl323⟩ := hs
 generalize he313 : prune [9, 10, 11] e = e312
 have h315 := envp he313.symm rfl h314
 have h317 := envp he313.symm rfl h316
 have h319 := envp he313.symm rfl h318
 refine sq (sq (Rg (kx (mvO h319) (kx (bGtr rfl rfl) (Rn (hV (.lsl i3_1 s3_2.length 0 s3_2.length) h315 (hV (.lsl i3_2 s3_3.length 0 s3_3.length) h317 (hV (.int .i64 s3_1) h319 (hN rfl hZ)))) fun e324 h326 h327 h328 h329 => sN ?_)))))
 clear h315 h317 h319
 rcases ite_some h with ⟨hb330, h⟩ | ⟨hb330, h⟩
 ·obtain ⟨y420, hr416, h⟩ := bind_some h
  refine cT h329 hb330 (xx (sN (bl (sq (Rg (kx (mvO rfl) (Rn (hA h326 (hA h327 (hA h328 (hV (.int .i64 0) rfl hZ)))) fun e331 h333 h334 h335 h336 => sN (sq (sq (Rg (kx (mvO rfl) (Rn (hA h333 (hA h334 (hA h335 (hA h336 (hV (.int .i64 1) rfl hZ))))) fun e337 h339 h340 h341 h342 h343 => sN (bl (Ev.loop (RS := spec_ShareOut_b4_RS s3_1 s3_2 s3_3 i3_1 i3_2) (RR := spec_ShareOut_b4_RR s3_1 s3_2 s3_3 i3_1 i3_2) (fun s r h e M hs => spec_ShareOut_b4_ok s3_1 s3_2 s3_3 i3_1 i3_2 ne158 s r h e M hs) hr416 ⟨h339, h340, h341, h342, h343, o320, o321⟩ fun x e418 M419 hq417 => ?_))))))))))))))
  clear h326 h327 h328 h329 h333 h334 h335 h336
  obtain ⟨rfl, h421, h422, h423, h424, o425, o426⟩ := hq417
  obtain ⟨x427, hx428, h⟩ := bind_some h
  obtain ⟨x429, hx430, h⟩ := bind_some h
  refine bE (sN (sq (Rg (kx (mvO h421) (kx (mvO h424) (kx (ixO rfl o425 rfl rfl (rd_get hx428).1 (rd_lt hx428).2) (kx (ldO rfl o425 (by simp [hl322, hl323]) (rz hx428) rfl) (kx (bAdd rfl rfl) (kx (ixO rfl o425 rfl rfl (rd_get hx430).1 (rd_lt hx430).2) (kw (stR (u := x429) (u' := (IntKind.i64.wrap (x427 + 1))) rfl rfl o425 rfl (rz2 hx430) ⟨rfl, ble rfl⟩ rfl rfl) fun M431 hM432 => ?_))))))))))
  rw [Nat.zero_add] at hM432
  have o433 : M431[i3_1]? = some (.live ⟨.grow, 2, 1, (s3_2.set y420.toNat (IntKind.i64.wrap (x427 + 1))).map (cI .i64)⟩) := set_same hM432 o425
  have o434 := set_ne hM432 (Ne.symm ne158) o426
  have hx435 := rd_set (u' := (IntKind.i64.wrap (x427 + 1))) hx430
  obtain ⟨x442, hx443, h⟩ := bind_some h
  refine Rn (hV (.lsl i3_1 s3_2.length 0 s3_2.length) h421 (hV (.lsl i3_2 s3_3.length 0 s3_3.length) h422 (hV (.int .i64 s3_1) h423 (hV (.int .i64 y420) h424 hZ)))) fun e436 h438 h439 h440 h441 => sN (sq (Rg (kx (mvO h439) (kx (mvO h441) (kx (ixO rfl o434 rfl rfl (rd_get hx443).1 (rd_lt hx443).2) (kw (stR (u := x442) (u' := (-1)) rfl rfl o434 rfl (rz2 hx443) ⟨rfl, ble rfl⟩ rfl rfl) fun M444 hM445 => ?_))))))
  clear h421 h422 h423 h424
  rw [Nat.zero_add] at hM445
  have o446 := set_ne hM445 ne158 o433
  have o447 : M444[i3_2]? = some (.live ⟨.grow, 2, 1, (s3_3.set y420.toNat (-1)).map (cI .i64)⟩) := set_same hM445 o434
  have hx448 := rd_set (u' := (-1)) hx443
  refine Rn (hA h438 (hA h439 (hA h440 hZ))) fun e449 h451 h452 h453 => sN (Rg (kx (mvO h453) (kx (bSub rfl rfl) (kx (mvO rfl) (Rn (hA h451 (hA h452 (hN rfl hZ))) fun e454 h456 h457 h458 => bN ?_)))))
  clear h438 h439 h440 h441 h451 h452
  obtain rfl := si h
  exact qN ⟨(lslL (L' := (s3_2.set y420.toNat (IntKind.i64.wrap (x427 + 1))).length) h456 (by simp [hl322, hl323])), (lslL (L' := (s3_3.set y420.toNat (-1)).length) h457 (by simp [hl322, hl323])), h458, o446, o447, (by first | rfl | simp [hl322, hl323]), (by first | rfl | simp [hl322, hl323])⟩
 refine cF h329 hb330 (xx (sE ?_))
 obtain rfl := si h
 exact qE ⟨rfl, h326, o320, o321, (by first | rfl | simp [hl322, hl323]), (by first | rfl | simp [hl322, hl323])⟩
noncomputable def spec_ShareOut (a1 : Int) (a2 : List Int) : Option ((List Int) × Int) :=
 ((spec_l01Amount a1).bind fun r6 =>
 if r6 = true then
  (spec_l00In (a2.length : Int) 1 20).bind fun r9 =>
  some r9
 else
  some false).bind fun y22 =>
 (Lw (spec_ShareOut_b1 a2) (y22, 0, 0)).bind fun (y113, y114) =>
 (if y113 = true then
  some (y114 == 0)
 else
  some true).bind fun y134 =>
 if y134 = true then
  some (([] : List Int), 2)
 else
  (Lw (spec_ShareOut_b2 a1 a2 y114) (a1, 0, ([] : List Int), ([] : List Int))).bind fun (y294, y295, y296) =>
  (Lw (spec_ShareOut_b3) (y294, y295, y296)).bind fun (y464, y465) =>
  some (y464, 0)
def spec_ShareOut_enc (r : (List Int) × Int) : AV := .tup [.sl none (r.1.map (cI .i64)), .int .i64 r.2]
theorem spec_ShareOut_ok (a1 : Int) (a2 : List Int) (r : (List Int) × Int) (h : spec_ShareOut a1 a2 = some r) : Ev (fun k => CN k 41 [.int .i64 a1, .sl none (a2.map (cI .i64))] []) (fun p => wkR (rRes p.2 p.1) = spec_ShareOut_enc r ∧ ownAll (rRes p.2 p.1) = true) := by
 unfold spec_ShareOut at h
 obtain ⟨r479, hr480, h⟩ := bind_some h
 refine Ev.enter (F := fun k => f41 (CN k) k) (fun k => callN_eq rfl Try.func41 rfl rfl rfl (by decide +kernel) (f41_eq _ _)) (sq (Rg (kx (mvO rfl) (kx (mvO rfl) (Rn (hN rfl (hN rfl hZ)) fun e1 h3 h4 => sN (sq ?_))))))
 refine Ev.cut (Q1 := spec_ShareOut_c1_Q a1 a2 r479) (by
     have h := hr480
     obtain ⟨r6, hx5, h⟩ := bind_some h
     refine Rg (kx (mvO h3) (kc (cl (v := .bool r6) rfl rfl (cns rfl rfl) rfl (spec_l01Amount_ok a1 _ hx5) nm) (kx (mvO rfl) ?_)))
     rcases ite_some h with ⟨hb7, h⟩ | ⟨hb7, h⟩
     ·obtain ⟨r9, hx8, h⟩ := bind_some h
      refine kx (guT rfl hb7 (mvO h4)) (kx (guT rfl hb7 (lnS Try.underlying24 rfl)) (kc (Ev.guT rfl hb7 (cl (v := .bool r9) rfl rfl (cns rfl (cns rfl (cns rfl rfl))) rfl (spec_l00In_ok (a2.length : Int) 1 20 _ hx8) nm)) (kx (pkT rfl hb7 rfl) (kx (mvO rfl) (Rn (hA h3 (hA h4 (hN rfl hZ))) fun e10 h12 h13 h14 => ?_)))))
      clear h3 h4
      obtain rfl := si h
      exact kd (show spec_ShareOut_c1_Q a1 a2 _ _ from ⟨rfl, h12, h13, h14⟩)
     refine kx (gsT rfl hb7) (kx (gsT rfl hb7) (kc (Ev.gsT rfl hb7) (kx (pkF rfl hb7 rfl) (kx (mvO rfl) (Rn (hA h3 (hA h4 (hV (.bool false) rfl hZ))) fun e15 h17 h18 h19 => ?_)))))
     clear h3 h4
     obtain rfl := si h
     exact kd (show spec_ShareOut_c1_Q a1 a2 _ _ from ⟨rfl, h17, h18, h19⟩)) ?_
 revert h hr480
 revert r479
 intro y22 hr480 h
 intro x e20 M21 hq478
 obtain ⟨rfl, h23, h24, h25⟩ := hq478
 obtain ⟨⟨y113, y114⟩, hr109, h⟩ := bind_some h
 refine sN (sq (Rg (kx (mvO rfl) (Rn (hV (.int .i64 a1) h23 (hV (.sl none (a2.map (cI .i64))) h24 (hV (.bool y22) h25 (hV (.int .i64 0) rfl hZ)))) fun e26 h28 h29 h30 h31 => sN (sq (sq (Rg (kx (mvO rfl) (Rn (hA h28 (hA h29 (hA h30 (hA h31 (hV (.int .i64 0) rfl hZ))))) fun e32 h34 h35 h36 h37 h38 => sN (bl (Ev.loop (RS := spec_ShareOut_b1_RS a1 a2) (RR := spec_ShareOut_b1_RR a1 a2) (fun s r h e M hs => spec_ShareOut_b1_ok a1 a2 s r h e M hs) hr109 ⟨h34, h35, h36, h37, h38⟩ fun x e111 M112 hq110 => ?_)))))))))))
 clear h23 h24 h25 h28 h29 h30 h31
 obtain ⟨rfl, h115, h116, h117, h118⟩ := hq110
 obtain ⟨r476, hr477, h⟩ := bind_some h
 refine bE (sN (sq (sq ?_)))
 refine Ev.cut (Q1 := spec_ShareOut_c2_Q a1 a2 y114 r476) (by
     have h := hr477
     refine Rg (kx (mvO h117) (kx (uNot rfl) (kx (mvO rfl) ?_)))
     rcases ite_some h with ⟨hb119, h⟩ | ⟨hb119, h⟩
     ·refine kx (guF rfl (congrArg Bool.not hb119) (mvO h118)) (kx (guF rfl (congrArg Bool.not hb119) (bEql rfl rfl)) (kx (pkF rfl (congrArg Bool.not hb119) rfl) (Rn (hV (.int .i64 a1) h115 (hA h116 (hV (.int .i64 y114) h118 (hN rfl hZ)))) fun e120 h122 h123 h124 h125 => ?_)))
      clear h115 h116 h117 h118
      obtain rfl := si h
      exact kd (show spec_ShareOut_c2_Q a1 a2 y114 _ _ from ⟨rfl, h122, h123, h124, h125⟩)
     refine kx (gsF rfl (congrArg Bool.not hb119)) (kx (gsF rfl (congrArg Bool.not hb119)) (kx (pkT rfl (congrArg Bool.not hb119) rfl) (Rn (hV (.int .i64 a1) h115 (hA h116 (hV (.int .i64 y114) h118 (hV (.bool true) rfl hZ)))) fun e126 h128 h129 h130 h131 => ?_)))
     clear h115 h116 h117 h118
     obtain rfl := si h
     exact kd (show spec_ShareOut_c2_Q a1 a2 y114 _ _ from ⟨rfl, h128, h129, h130, h131⟩)) ?_
 revert h hr477
 revert r476
 intro y134 hr477 h
 intro x e132 M133 hq475
 obtain ⟨rfl, h135, h136, h137, h138⟩ := hq475
 refine sN ?_
 rcases ite_some h with ⟨hb139, h⟩ | ⟨hb139, h⟩
 ·refine cT h138 hb139 (sq (Rg (kx (litI rfl rfl ⟨rfl, by decide⟩) (kx (mvO rfl) (kx (mvO rfl) (Rn (hN rfl (hV (.int .i64 2) rfl hZ)) fun e140 h142 h143 => sN (xx (sR ?_))))))))
  clear h135 h136 h137 h138
  obtain rfl := si h
  exact eR (resT h142 (resT h143 res0)) (wkO (y := .tup [.sl (some 2) (([] : List Int).map (cI .i64)), .int .i64 2]) rfl rfl (own_tup (oa1 (own2_row (c := (cI .i64)) (fun _ => rfl)) (oa1 rfl oa0))))
 refine cF h138 hb139 (xx (sN (sq (Rg (ku (litO (xs := ([] : List Int)) (c := (cI .i64)) rfl rfl (by decide)) fun M145 hM146 => ?_)))))
 have o147 : M145[M133.length]? = some (.live ⟨.grow, 2, 1, ([] : List Int).map (cI .i64)⟩) := push_new hM146
 refine kx (mvO rfl) (Rn (hV (.int .i64 a1) h135 (hV (.sl none (a2.map (cI .i64))) h136 (hV (.int .i64 y114) h137 (hV (.lsl M133.length ([] : List Int).length 0 ([] : List Int).length) rfl hZ)))) fun e148 h150 h151 h152 h153 => sN (sq (Rg (ku (litO (xs := ([] : List Int)) (c := (cI .i64)) rfl rfl (by decide)) fun M155 hM156 => ?_))))
 clear h135 h136 h137 h138
 have o157 := push_old hM156 o147
 have ne158 := ne_new o147
 have o159 : M155[M145.length]? = some (.live ⟨.grow, 2, 1, ([] : List Int).map (cI .i64)⟩) := push_new hM156
 obtain ⟨⟨y294, y295, y296⟩, hr290, h⟩ := bind_some h
 refine kx (mvO rfl) (Rn (hA h150 (hA h151 (hA h152 (hA h153 (hV (.lsl M145.length ([] : List Int).length 0 ([] : List Int).length) rfl hZ))))) fun e160 h162 h163 h164 h165 h166 => sN (sq (Rg (kx (mvO h162) (kx (mvO rfl) (Rn (hA h162 (hA h163 (hA h164 (hA h165 (hA h166 (hN rfl hZ)))))) fun e167 h169 h170 h171 h172 h173 h174 => sN (sq (sq (Rg (kx (mvO rfl) (Rn (hA h169 (hA h170 (hA h171 (hA h172 (hA h173 (hA h174 (hV (.int .i64 0) rfl hZ))))))) fun e175 h177 h178 h179 h180 h181 h182 h183 => sN (bl (Ev.loop (RS := spec_ShareOut_b2_RS a1 a2 y114 M133.length M145.length) (RR := spec_ShareOut_b2_RR a1 a2 y114 M133.length M145.length) (fun s r h e M hs => spec_ShareOut_b2_ok a1 a2 y114 M133.length M145.length ne158 s r h e M hs) hr290 ⟨h177, h178, h179, h180, h181, h182, h183, o157, o159⟩ fun x e292 M293 hq291 => ?_)))))))))))))
 clear h150 h151 h152 h153 h162 h163 h164 h165 h166 h169 h170 h171 h172 h173 h174
 obtain ⟨rfl, h297, h298, h299, o300, o301⟩ := hq291
 obtain ⟨⟨y464, y465⟩, hr460, h⟩ := bind_some h
 refine bE (sN (sq (bl (Ev.loop (RS := spec_ShareOut_b3_RS y295 y296 M133.length M145.length) (RR := spec_ShareOut_b3_RR y295 y296 M133.length M145.length) (fun s r h e M hs => spec_ShareOut_b3_ok y295 y296 M133.length M145.length ne158 s r h e M hs) hr460 ⟨h297, h298, h299, o300, o301, rfl, rfl⟩ fun x e462 M463 hq461 => ?_))))
 obtain ⟨rfl, h466, o467, o468, hl469, hl470⟩ := hq461
 refine bE (sN (sq (Rg (kx (mvO h466) (kx (mvO rfl) (kx (mvO rfl) (Rn (hV (.lsl M133.length y464.length 0 y464.length) rfl (hV (.int .i64 0) rfl hZ)) fun e471 h473 h474 => sN (xx ?_))))))))
 clear h466
 obtain rfl := si h
 exact eR (resT h473 (resT h474 res0)) (wkO (y := .tup [.sl (some 2) (y464.map (cI .i64)), .int .i64 0]) (rr_tup (mp1 (rr_row o467 rfl (cI_fl _)) (mp1 rfl mp0))) rfl (own_tup (oa1 (own2_row (c := (cI .i64)) (fun _ => rfl)) (oa1 rfl oa0))))
def impl_ShareOut_c1_Q (a1 : Int) (a2 : List Int) (g : Bool) (q : Out) : Prop := q.1 = .nrm ∧ eget q.2.1 0 = .int .i64 a1 ∧ eget q.2.1 1 = .sl none (a2.map (cI .i64)) ∧ eget q.2.1 29 = .bool g
abbrev impl_ShareOut_b1_S := Int × Int
abbrev impl_ShareOut_b1_R := Unit ⊕ Int
def impl_ShareOut_b1_RS (a1 : Int) (a2 : List Int) (s : impl_ShareOut_b1_S) (e : Env) (M : Mem) : Prop := eget e 0 = .int .i64 a1 ∧ eget e 1 = .sl none (a2.map (cI .i64)) ∧ eget e 6 = .int .i64 s.1 ∧ eget e 30 = .sl none (a2.map (cI .i64)) ∧ eget e 31 = .int .i64 (a2.length : Int) ∧ eget e 32 = .int .i64 s.2
def impl_ShareOut_b1_RR (a1 : Int) (a2 : List Int) (r : impl_ShareOut_b1_R) (x : Ex) (e : Env) (M : Mem) : Prop :=
  match r with
  | (.inl g) => x = .ret ∧ eget e 4 = .nils ∧ eget e 5 = .int .i64 2
  | (.inr g) => x = .ext 0 ∧ eget e 0 = .int .i64 a1 ∧ eget e 1 = .sl none (a2.map (cI .i64)) ∧ eget e 6 = .int .i64 g
noncomputable def impl_ShareOut_b1 (a2 : List Int) : impl_ShareOut_b1_S → Option (impl_ShareOut_b1_S ⊕ impl_ShareOut_b1_R) := fun (s1_1, s1_2) =>
 if (decide (s1_2 < (a2.length : Int))) = true then
  (rd a2 s1_2).bind fun x86 =>
  if (decide (x86 < 0)) = true then
   some (.inr (.inl ()))
  else
   if (decide (x86 > 1000000)) = true then
    some (.inr (.inl ()))
   else
    some (.inl ((IntKind.i64.wrap (s1_1 + x86)), (IntKind.i64.wrap (s1_2 + 1))))
 else
  some (.inr (.inr s1_1))
theorem impl_ShareOut_b1_ok (a1 : Int) (a2 : List Int) (s : impl_ShareOut_b1_S) (r : impl_ShareOut_b1_S ⊕ impl_ShareOut_b1_R) (h : impl_ShareOut_b1 a2 s = some r) (e : Env) (M : Mem) (hs : impl_ShareOut_b1_RS a1 a2 s e M) : Ev (fun k => (f40_l5 (CN k) k (prune [0, 1, 6, 30, 31, 32] e) M).bind fun q => some q) (bQ (impl_ShareOut_b1_RS a1 a2) (impl_ShareOut_b1_RR a1 a2) r) := by
 obtain ⟨s1_1, s1_2⟩ := s
 unfold impl_ShareOut_b1 at h
 obtain ⟨h64, h66, h68, h70, h72, h74⟩ := hs
 generalize he63 : prune [0, 1, 6, 30, 31, 32] e = e62
 have h65 := envp he63.symm rfl h64
 have h67 := envp he63.symm rfl h66
 have h69 := envp he63.symm rfl h68
 have h71 := envp he63.symm rfl h70
 have h73 := envp he63.symm rfl h72
 have h75 := envp he63.symm rfl h74
 refine sq (Rg (kx (bLss h75 h73) (Rn (hV (.int .i64 a1) h65 (hV (.sl none (a2.map (cI .i64))) h67 (hV (.int .i64 s1_1) h69 (hV (.sl none (a2.map (cI .i64))) h71 (hV (.int .i64 (a2.length : Int)) h73 (hV (.int .i64 s1_2) h75 (hN rfl hZ))))))) fun e76 h78 h79 h80 h81 h82 h83 h84 => sN (sq ?_))))
 clear h65 h67 h69 h71 h73 h75
 rcases ite_some h with ⟨hb85, h⟩ | ⟨hb85, h⟩
 ·obtain ⟨x86, hx87, h⟩ := bind_some h
  refine cT h84 hb85 (xx (sN (sq (bl (sq (Rg (kx (ixS h81 h83 hx87 (cI_fl _)) (kx (ldP rfl rfl) (kx (mvO rfl) (Rn (hA h78 (hA h79 (hA h80 (hN rfl (hA h81 (hA h82 (hA h83 hZ))))))) fun e88 h90 h91 h92 h93 h94 h95 h96 => sN (sq (sq (Rg (kx (mvO h93) (kx (bLss rfl rfl) (kx (mvO rfl) ?_))))))))))))))))
  clear h78 h79 h80 h81 h82 h83 h84
  rcases ite_some h with ⟨hb97, h⟩ | ⟨hb97, h⟩
  ·refine kx (gsF rfl hb97) (kx (gsF rfl hb97) (kx (pkT rfl hb97 rfl) (Rn (hA h90 (hA h91 (hA h92 (hA h93 (hA h94 (hA h95 (hA h96 (hV (.bool true) rfl hZ)))))))) fun e98 h100 h101 h102 h103 h104 h105 h106 h107 => sN (cT h107 rfl (sq (Rg (kx (mvO rfl) (kx (mvO rfl) (Rn (hV .nils rfl (hV (.int .i64 2) rfl hZ)) fun e108 h110 h111 => sN (xx (sR (bR (sR ?_)))))))))))))
   clear h90 h91 h92 h93 h94 h95 h96 h100 h101 h102 h103 h104 h105 h106 h107
   obtain rfl := si h
   exact qR ⟨rfl, h110, h111⟩
  refine kx (guF rfl hb97 (mvO h93)) (kx (guF rfl hb97 (bGtr rfl rfl)) (kx (pkF rfl hb97 rfl) (Rn (hA h90 (hA h91 (hA h92 (hA h93 (hA h94 (hA h95 (hA h96 (hN rfl hZ)))))))) fun e112 h114 h115 h116 h117 h118 h119 h120 h121 => sN ?_)))
  clear h90 h91 h92 h93 h94 h95 h96
  rcases ite_some h with ⟨hb122, h⟩ | ⟨hb122, h⟩
  ·refine cT h121 hb122 (sq (Rg (kx (mvO rfl) (kx (mvO rfl) (Rn (hV .nils rfl (hV (.int .i64 2) rfl hZ)) fun e123 h125 h126 => sN (xx (sR (bR (sR ?_)))))))))
   clear h114 h115 h116 h117 h118 h119 h120 h121
   obtain rfl := si h
   exact qR ⟨rfl, h125, h126⟩
  refine cF h121 hb122 (xx (sN (Rg (kx (mvO h116) (kx (mvO h117) (kx (bAdd rfl rfl) (kx (mvO rfl) (Rn (hA h114 (hA h115 (hN rfl (hA h118 (hA h119 (hA h120 hZ)))))) fun e127 h129 h130 h131 h132 h133 h134 => bN (sN (Rg (kx (bAdd h134 rfl) (kx (mvO rfl) (Rn (hA h129 (hA h130 (hA h131 (hA h132 (hA h133 (hN rfl hZ)))))) fun e135 h137 h138 h139 h140 h141 h142 => ?_)))))))))))))
  clear h114 h115 h117 h118 h119 h120 h121 h129 h130 h131 h132 h133
  obtain rfl := si h
  exact qN ⟨h137, h138, h139, h140, h141, h142⟩
 refine cF h84 hb85 (xx (sE ?_))
 obtain rfl := si h
 exact qE ⟨rfl, h78, h79, h80⟩
abbrev impl_ShareOut_b2_S := Int × Int × (List Int) × (List Int)
abbrev impl_ShareOut_b2_R := Int × (List Int) × (List Int)
def impl_ShareOut_b2_RS (a1 : Int) (a2 : List Int) (y152 : Int) (i2_1 : Nat) (i2_2 : Nat) (s : impl_ShareOut_b2_S) (e : Env) (M : Mem) : Prop := eget e 0 = .int .i64 a1 ∧ eget e 6 = .int .i64 y152 ∧ eget e 9 = .lsl i2_1 s.2.2.1.length 0 s.2.2.1.length ∧ eget e 10 = .lsl i2_2 s.2.2.2.length 0 s.2.2.2.length ∧ eget e 11 = .int .i64 s.1 ∧ eget e 51 = .sl none (a2.map (cI .i64)) ∧ eget e 52 = .int .i64 (a2.length : Int) ∧ eget e 53 = .int .i64 s.2.1 ∧ M[i2_1]? = some (.live ⟨.grow, 2, 1, s.2.2.1.map (cI .i64)⟩) ∧ M[i2_2]? = some (.live ⟨.grow, 2, 1, s.2.2.2.map (cI .i64)⟩)
def impl_ShareOut_b2_RR (a1 : Int) (a2 : List Int) (y152 : Int) (i2_1 : Nat) (i2_2 : Nat) (g : impl_ShareOut_b2_R) (x : Ex) (e : Env) (M : Mem) : Prop := x = .ext 2 ∧ eget e 9 = .lsl i2_1 g.2.1.length 0 g.2.1.length ∧ eget e 10 = .lsl i2_2 g.2.2.length 0 g.2.2.length ∧ eget e 11 = .int .i64 g.1 ∧ M[i2_1]? = some (.live ⟨.grow, 2, 1, g.2.1.map (cI .i64)⟩) ∧ M[i2_2]? = some (.live ⟨.grow, 2, 1, g.2.2.map (cI .i64)⟩)
noncomputable def impl_ShareOut_b2 (a1 : Int) (a2 : List Int) (y152 : Int) : impl_ShareOut_b2_S → Option (impl_ShareOut_b2_S ⊕ impl_ShareOut_b2_R) := fun (s2_1, s2_2, s2_3, s2_4) =>
 if (decide (s2_2 < (a2.length : Int))) = true then
  (rd a2 s2_2).bind fun x247 =>
  (quo .i64 (IntKind.i64.wrap (a1 * x247)) y152).bind fun n260 =>
  (app 8 s2_3 [n260]).bind fun x262 =>
  (rem .i64 (IntKind.i64.wrap (a1 * x247)) y152).bind fun n279 =>
  (app 8 s2_4 [n279]).bind fun x281 =>
  (quo .i64 (IntKind.i64.wrap (a1 * x247)) y152).bind fun n298 =>
  some (.inl ((IntKind.i64.wrap (s2_1 - n298)), (IntKind.i64.wrap (s2_2 + 1)), x262, x281))
 else
  some (.inr (s2_1, s2_3, s2_4))
theorem impl_ShareOut_b2_ok (a1 : Int) (a2 : List Int) (y152 : Int) (i2_1 : Nat) (i2_2 : Nat) (ne175 : i2_1 ≠ i2_2) (s : impl_ShareOut_b2_S) (r : impl_ShareOut_b2_S ⊕ impl_ShareOut_b2_R) (h : impl_ShareOut_b2 a1 a2 y152 s = some r) (e : Env) (M : Mem) (hs : impl_ShareOut_b2_RS a1 a2 y152 i2_1 i2_2 s e M) : Ev (fun k => (f40_l15 (CN k) k (prune [0, 6, 9, 10, 11, 51, 52, 53] e) M).bind fun q => some q) (bQ (impl_ShareOut_b2_RS a1 a2 y152 i2_1 i2_2) (impl_ShareOut_b2_RR a1 a2 y152 i2_1 i2_2) r) := by
 obtain ⟨s2_1, s2_2, s2_3, s2_4⟩ := s
 unfold impl_ShareOut_b2 at h
 obtain ⟨h217, h219, h221, h223, h225, h227, h229, h231, o233, o234⟩ := hs
 generalize he216 : prune [0, 6, 9, 10, 11, 51, 52, 53] e = e215
 have h218 := envp he216.symm rfl h217
 have h220 := envp he216.symm rfl h219
 have h222 := envp he216.symm rfl h221
 have h224 := envp he216.symm rfl h223
 have h226 := envp he216.symm rfl h225
 have h228 := envp he216.symm rfl h227
 have h230 := envp he216.symm rfl h229
 have h232 := envp he216.symm rfl h231
 refine sq (Rg (kx (bLss h232 h230) (Rn (hV (.int .i64 a1) h218 (hV (.int .i64 y152) h220 (hV (.lsl i2_1 s2_3.length 0 s2_3.length) h222 (hV (.lsl i2_2 s2_4.length 0 s2_4.length) h224 (hV (.int .i64 s2_1) h226 (hV (.sl none (a2.map (cI .i64))) h228 (hV (.int .i64 (a2.length : Int)) h230 (hV (.int .i64 s2_2) h232 (hN rfl hZ))))))))) fun e235 h237 h238 h239 h240 h241 h242 h243 h244 h245 => sN (sq ?_))))
 clear h218 h220 h222 h224 h226 h228 h230 h232
 rcases ite_some h with ⟨hb246, h⟩ | ⟨hb246, h⟩
 ·obtain ⟨x247, hx248, h⟩ := bind_some h
  obtain ⟨n260, hx261, h⟩ := bind_some h
  obtain ⟨x262, hx263, h⟩ := bind_some h
  refine cT h245 hb246 (xx (sN (sq (bl (sq (Rg (kx (ixS h242 h244 hx248 (cI_fl _)) (kx (ldP rfl rfl) (kx (mvO rfl) (Rn (hA h237 (hA h238 (hA h239 (hA h240 (hA h241 (hN rfl (hA h242 (hA h243 (hA h244 hZ))))))))) fun e249 h251 h252 h253 h254 h255 h256 h257 h258 h259 => sN (sq (Rg (kx (mvO h253) (kx (mvO h251) (kx (mvO h256) (kx (bMul rfl rfl) (kx (mvO h252) (kx (bQuo rfl rfl hx261) (kx (litI (cns rfl rfl) rfl ⟨rfl, by decide⟩) (kw (apO rfl o233 rfl (elT (c := (cI .i64)) (xs := [n260]) rfl) hx263 (cI_fl _) (by decide)) fun M264 hM265 => ?_))))))))))))))))))))
  clear h237 h238 h239 h240 h241 h242 h243 h244 h245
  have o266 : M264[i2_1]? = some (.live ⟨.grow, 2, 1, x262.map (cI .i64)⟩) := set_same hM265 o233
  have o267 := set_ne hM265 (Ne.symm ne175) o234
  obtain ⟨n279, hx280, h⟩ := bind_some h
  obtain ⟨x281, hx282, h⟩ := bind_some h
  refine kx (mvO rfl) (Rn (hA h251 (hA h252 (hV (.lsl i2_1 x262.length 0 x262.length) rfl (hA h254 (hA h255 (hA h256 (hA h257 (hA h258 (hA h259 hZ))))))))) fun e268 h270 h271 h272 h273 h274 h275 h276 h277 h278 => sN (sq (Rg (kx (mvO h273) (kx (mvO h270) (kx (mvO h275) (kx (bMul rfl rfl) (kx (mvO h271) (kx (bRem rfl rfl hx280) (kx (litI (cns rfl rfl) rfl ⟨rfl, by decide⟩) (kw (apO rfl o267 rfl (elT (c := (cI .i64)) (xs := [n279]) rfl) hx282 (cI_fl _) (by decide)) fun M283 hM284 => ?_)))))))))))
  clear h251 h252 h254 h255 h256 h257 h258 h259
  have o285 := set_ne hM284 ne175 o266
  have o286 : M283[i2_2]? = some (.live ⟨.grow, 2, 1, x281.map (cI .i64)⟩) := set_same hM284 o267
  obtain ⟨n298, hx299, h⟩ := bind_some h
  refine kx (mvO rfl) (Rn (hA h270 (hA h271 (hA h272 (hV (.lsl i2_2 x281.length 0 x281.length) rfl (hA h274 (hA h275 (hA h276 (hA h277 (hA h278 hZ))))))))) fun e287 h289 h290 h291 h292 h293 h294 h295 h296 h297 => sN (Rg (kx (mvO h293) (kx (mvO h289) (kx (mvO h294) (kx (bMul rfl rfl) (kx (mvO h290) (kx (bQuo rfl rfl hx299) (kx (bSub rfl rfl) (kx (mvO rfl) (Rn (hA h289 (hA h290 (hA h291 (hA h292 (hN rfl (hA h295 (hA h296 (hA h297 hZ)))))))) fun e300 h302 h303 h304 h305 h306 h307 h308 h309 => bN (sN (Rg (kx (bAdd h309 rfl) (kx (mvO rfl) (Rn (hA h302 (hA h303 (hA h304 (hA h305 (hA h306 (hA h307 (hA h308 (hN rfl hZ)))))))) fun e310 h312 h313 h314 h315 h316 h317 h318 h319 => ?_))))))))))))))))
  clear h270 h271 h272 h274 h275 h276 h277 h278 h289 h290 h291 h292 h294 h295 h296 h297 h302 h303 h304 h305 h306 h307 h308
  obtain rfl := si h
  exact qN ⟨h312, h313, h314, h315, h316, h317, h318, h319, o285, o286⟩
 refine cF h245 hb246 (xx (sE ?_))
 obtain rfl := si h
 exact qE ⟨rfl, h239, h240, h241, o233, o234⟩
abbrev impl_ShareOut_b4_S := Int × Int
abbrev impl_ShareOut_b4_R := Int
def impl_ShareOut_b4_RS (y325 : Int) (s3_1 : Int) (s3_2 : List Int) (s3_3 : List Int) (i3_1 : Nat) (i3_2 : Nat) (s : impl_ShareOut_b4_S) (e : Env) (M : Mem) : Prop := eget e 9 = .lsl i3_1 s3_2.length 0 s3_2.length ∧ eget e 10 = .lsl i3_2 s3_3.length 0 s3_3.length ∧ eget e 14 = .int .i64 s.1 ∧ eget e 81 = .int .i64 y325 ∧ eget e 82 = .int .i64 s3_1 ∧ eget e 84 = .lsl i3_2 s3_3.length 0 s3_3.length ∧ eget e 85 = .int .i64 (s3_3.length : Int) ∧ eget e 86 = .int .i64 s.2 ∧ M[i3_1]? = some (.live ⟨.grow, 2, 1, s3_2.map (cI .i64)⟩) ∧ M[i3_2]? = some (.live ⟨.grow, 2, 1, s3_3.map (cI .i64)⟩)
def impl_ShareOut_b4_RR (y325 : Int) (s3_1 : Int) (s3_2 : List Int) (s3_3 : List Int) (i3_1 : Nat) (i3_2 : Nat) (g : impl_ShareOut_b4_R) (x : Ex) (e : Env) (M : Mem) : Prop := x = .ext 6 ∧ eget e 9 = .lsl i3_1 s3_2.length 0 s3_2.length ∧ eget e 10 = .lsl i3_2 s3_3.length 0 s3_3.length ∧ eget e 14 = .int .i64 g ∧ eget e 81 = .int .i64 y325 ∧ eget e 82 = .int .i64 s3_1 ∧ M[i3_1]? = some (.live ⟨.grow, 2, 1, s3_2.map (cI .i64)⟩) ∧ M[i3_2]? = some (.live ⟨.grow, 2, 1, s3_3.map (cI .i64)⟩)
noncomputable def impl_ShareOut_b4 (s3_3 : List Int) : impl_ShareOut_b4_S → Option (impl_ShareOut_b4_S ⊕ impl_ShareOut_b4_R) := fun (s4_1, s4_2) =>
 if (decide (s4_2 < (s3_3.length : Int))) = true then
  (rd s3_3 s4_2).bind fun x442 =>
  (rd s3_3 s4_1).bind fun x456 =>
  if (decide (x442 > x456)) = true then
   some (.inl (s4_2, (IntKind.i64.wrap (s4_2 + 1))))
  else
   some (.inl (s4_1, (IntKind.i64.wrap (s4_2 + 1))))
 else
  some (.inr s4_1)
theorem impl_ShareOut_b4_ok (y325 : Int) (s3_1 : Int) (s3_2 : List Int) (s3_3 : List Int) (i3_1 : Nat) (i3_2 : Nat) (ne175 : i3_1 ≠ i3_2) (s : impl_ShareOut_b4_S) (r : impl_ShareOut_b4_S ⊕ impl_ShareOut_b4_R) (h : impl_ShareOut_b4 s3_3 s = some r) (e : Env) (M : Mem) (hs : impl_ShareOut_b4_RS y325 s3_1 s3_2 s3_3 i3_1 i3_2 s e M) : Ev (fun k => (f40_l25 (CN k) k (prune [9, 10, 14, 81, 82, 84, 85, 86] e) M).bind fun q => some q) (bQ (impl_ShareOut_b4_RS y325 s3_1 s3_2 s3_3 i3_1 i3_2) (impl_ShareOut_b4_RR y325 s3_1 s3_2 s3_3 i3_1 i3_2) r) := by
 obtain ⟨s4_1, s4_2⟩ := s
 unfold impl_ShareOut_b4 at h
 obtain ⟨h412, h414, h416, h418, h420, h422, h424, h426, o428, o429⟩ := hs
 generalize he411 : prune [9, 10, 14, 81, 82, 84, 85, 86] e = e410
 have h413 := envp he411.symm rfl h412
 have h415 := envp he411.symm rfl h414
 have h417 := envp he411.symm rfl h416
 have h419 := envp he411.symm rfl h418
 have h421 := envp he411.symm rfl h420
 have h423 := envp he411.symm rfl h422
 have h425 := envp he411.symm rfl h424
 have h427 := envp he411.symm rfl h426
 refine sq (Rg (kx (bLss h427 h425) (Rn (hV (.lsl i3_1 s3_2.length 0 s3_2.length) h413 (hV (.lsl i3_2 s3_3.length 0 s3_3.length) h415 (hV (.int .i64 s4_1) h417 (hV (.int .i64 y325) h419 (hV (.int .i64 s3_1) h421 (hV (.lsl i3_2 s3_3.length 0 s3_3.length) h423 (hV (.int .i64 (s3_3.length : Int)) h425 (hV (.int .i64 s4_2) h427 (hN rfl hZ))))))))) fun e430 h432 h433 h434 h435 h436 h437 h438 h439 h440 => sN (sq ?_))))
 clear h413 h415 h417 h419 h421 h423 h425 h427
 rcases ite_some h with ⟨hb441, h⟩ | ⟨hb441, h⟩
 ·obtain ⟨x442, hx443, h⟩ := bind_some h
  obtain ⟨x456, hx457, h⟩ := bind_some h
  refine cT h440 hb441 (xx (sN (sq (bl (sq (Rg (kx (mvO h439) (kx (ixO h437 o429 rfl h439 (rd_get hx443).1 (rd_lt hx443).2) (kx (ldO rfl o429 (by simp) (rz hx443) rfl) (kx (mvO rfl) (kx (mvO rfl) (Rn (hA h432 (hA h433 (hA h434 (hN rfl (hN rfl (hA h435 (hA h436 (hA h437 (hA h438 (hA h439 hZ)))))))))) fun e444 h446 h447 h448 h449 h450 h451 h452 h453 h454 h455 => sN (sq (Rg (kx (mvO h450) (kx (mvO h447) (kx (mvO h448) (kx (ixO rfl o429 rfl rfl (rd_get hx457).1 (rd_lt hx457).2) (kx (ldO rfl o429 (by simp) (rz hx457) rfl) (kx (bGtr rfl rfl) (Rn (hA h446 (hA h447 (hA h448 (hA h449 (hA h451 (hA h452 (hA h453 (hA h454 (hA h455 (hN rfl hZ)))))))))) fun e458 h460 h461 h462 h463 h464 h465 h466 h467 h468 h469 => sN ?_)))))))))))))))))))))
  clear h432 h433 h434 h435 h436 h437 h438 h439 h440 h446 h447 h448 h449 h450 h451 h452 h453 h454 h455
  rcases ite_some h with ⟨hb470, h⟩ | ⟨hb470, h⟩
  ·refine cT h469 hb470 (Rg (kx (mvO h463) (kx (mvO rfl) (Rn (hA h460 (hA h461 (hN rfl (hA h464 (hA h465 (hA h466 (hA h467 (hA h468 hZ)))))))) fun e471 h473 h474 h475 h476 h477 h478 h479 h480 => bN (sN (Rg (kx (bAdd h480 rfl) (kx (mvO rfl) (Rn (hA h473 (hA h474 (hA h475 (hA h476 (hA h477 (hA h478 (hA h479 (hN rfl hZ)))))))) fun e481 h483 h484 h485 h486 h487 h488 h489 h490 => ?_)))))))))
   clear h460 h461 h463 h464 h465 h466 h467 h468 h469 h473 h474 h475 h476 h477 h478 h479
   obtain rfl := si h
   exact qN ⟨h483, h484, h485, h486, h487, h488, h489, h490, o428, o429⟩
  refine cF h469 hb470 (xx (bN (sN (Rg (kx (bAdd h468 rfl) (kx (mvO rfl) (Rn (hA h460 (hA h461 (hA h462 (hA h464 (hA h465 (hA h466 (hA h467 (hN rfl hZ)))))))) fun e491 h493 h494 h495 h496 h497 h498 h499 h500 => ?_)))))))
  clear h460 h461 h462 h463 h464 h465 h466 h467 h469
  obtain rfl := si h
  exact qN ⟨h493, h494, h495, h496, h497, h498, h499, h500, o428, o429⟩
 refine cF h440 hb441 (xx (sE ?_))
 obtain rfl := si h
 exact qE ⟨rfl, h432, h433, h434, h435, h436, o428, o429⟩
abbrev impl_ShareOut_b3_S := Int × (List Int) × (List Int)
abbrev impl_ShareOut_b3_R := (List Int) × (List Int)
def impl_ShareOut_b3_RS (y325 : Int) (y326 : List Int) (y327 : List Int) (i3_1 : Nat) (i3_2 : Nat) (s : impl_ShareOut_b3_S) (e : Env) (M : Mem) : Prop := eget e 9 = .lsl i3_1 s.2.1.length 0 s.2.1.length ∧ eget e 10 = .lsl i3_2 s.2.2.length 0 s.2.2.length ∧ eget e 81 = .int .i64 y325 ∧ eget e 82 = .int .i64 s.1 ∧ M[i3_1]? = some (.live ⟨.grow, 2, 1, s.2.1.map (cI .i64)⟩) ∧ M[i3_2]? = some (.live ⟨.grow, 2, 1, s.2.2.map (cI .i64)⟩) ∧ s.2.1.length = y326.length ∧ s.2.2.length = y327.length
def impl_ShareOut_b3_RR (y325 : Int) (y326 : List Int) (y327 : List Int) (i3_1 : Nat) (i3_2 : Nat) (g : impl_ShareOut_b3_R) (x : Ex) (e : Env) (M : Mem) : Prop := x = .ext 4 ∧ eget e 9 = .lsl i3_1 g.1.length 0 g.1.length ∧ M[i3_1]? = some (.live ⟨.grow, 2, 1, g.1.map (cI .i64)⟩) ∧ M[i3_2]? = some (.live ⟨.grow, 2, 1, g.2.map (cI .i64)⟩) ∧ g.1.length = y326.length ∧ g.2.length = y327.length
noncomputable def impl_ShareOut_b3 (y325 : Int) : impl_ShareOut_b3_S → Option (impl_ShareOut_b3_S ⊕ impl_ShareOut_b3_R) := fun (s3_1, s3_2, s3_3) =>
 if (decide (s3_1 < y325)) = true then
  (Lw (impl_ShareOut_b4 s3_3) (0, 0)).bind fun y506 =>
  (rd s3_2 y506).bind fun x514 =>
  (rd s3_2 y506).bind fun x516 =>
  (rd s3_3 y506).bind fun x530 =>
  some (.inl ((IntKind.i64.wrap (s3_1 + 1)), (s3_2.set y506.toNat (IntKind.i64.wrap (x514 + 1))), (s3_3.set y506.toNat (-1))))
 else
  some (.inr (s3_2, s3_3))
theorem impl_ShareOut_b3_ok (y325 : Int) (y326 : List Int) (y327 : List Int) (i3_1 : Nat) (i3_2 : Nat) (ne175 : i3_1 ≠ i3_2) (s : impl_ShareOut_b3_S) (r : impl_ShareOut_b3_S ⊕ impl_ShareOut_b3_R) (h : impl_ShareOut_b3 y325 s = some r) (e : Env) (M : Mem) (hs : impl_ShareOut_b3_RS y325 y326 y327 i3_1 i3_2 s e M) : Ev (fun k => (f40_l22 (CN k) k (prune [9, 10, 81, 82] e) M).bind fun q => some q) (bQ (impl_ShareOut_b3_RS y325 y326 y327 i3_1 i3_2) (impl_ShareOut_b3_RR y325 y326 y327 i3_1 i3_2) r) := by
 obtain ⟨s3_1, s3_2, s3_3⟩ := s
 unfold impl_ShareOut_b3 at h
 obtain ⟨h353, h355, h357, h359, o361, o362, hl363, hl364⟩ := hs
 generalize he352 : prune [9, 10, 81, 82] e = e351
 have h354 := envp he352.symm rfl h353
 have h356 := envp he352.symm rfl h355
 have h358 := envp he352.symm rfl h357
 have h360 := envp he352.symm rfl h359
 refine sq (Rg (kx (bLss h360 h358) (Rn (hV (.lsl i3_1 s3_2.length 0 s3_2.length) h354 (hV (.lsl i3_2 s3_3.length 0 s3_3.length) h356 (hV (.int .i64 y325) h358 (hV (.int .i64 s3_1) h360 (hN rfl hZ))))) fun e365 h367 h368 h369 h370 h371 => sN (sq ?_))))
 clear h354 h356 h358 h360
 rcases ite_some h with ⟨hb372, h⟩ | ⟨hb372, h⟩
 ·obtain ⟨y506, hr502, h⟩ := bind_some h
  refine cT h371 hb372 (xx (sN (sq (bl (sq (Rg (kx (mvO rfl) (Rn (hA h367 (hA h368 (hV (.int .i64 0) rfl (hA h369 (hA h370 hZ))))) fun e373 h375 h376 h377 h378 h379 => sN (sq (sq (Rg (kx (mvO h376) (kx (lnL Try.underlying24 rfl o362 (by simp [hl363, hl364])) (kx (mvO rfl) (Rn (hA h375 (hA h376 (hA h377 (hA h378 (hA h379 (hV (.lsl i3_2 s3_3.length 0 s3_3.length) rfl (hN rfl (hV (.int .i64 0) rfl hZ)))))))) fun e380 h382 h383 h384 h385 h386 h387 h388 h389 => sN (bl (Ev.loop (RS := impl_ShareOut_b4_RS y325 s3_1 s3_2 s3_3 i3_1 i3_2) (RR := impl_ShareOut_b4_RR y325 s3_1 s3_2 s3_3 i3_1 i3_2) (fun s r h e M hs => impl_ShareOut_b4_ok y325 s3_1 s3_2 s3_3 i3_1 i3_2 ne175 s r h e M hs) hr502 ⟨h382, h383, h384, h385, h386, h387, h388, h389, o361, o362⟩ fun x e504 M505 hq503 => ?_)))))))))))))))))
  clear h367 h368 h369 h370 h371 h375 h376 h377 h378 h379
  obtain ⟨rfl, h507, h508, h509, h510, h511, o512, o513⟩ := hq503
  obtain ⟨x514, hx515, h⟩ := bind_some h
  obtain ⟨x516, hx517, h⟩ := bind_some h
  refine bE (sN (sq (Rg (kx (mvO h507) (kx (mvO h509) (kx (ixO rfl o512 rfl rfl (rd_get hx515).1 (rd_lt hx515).2) (kx (ldO rfl o512 (by simp [hl363, hl364]) (rz hx515) rfl) (kx (bAdd rfl rfl) (kx (ixO rfl o512 rfl rfl (rd_get hx517).1 (rd_lt hx517).2) (kw (stR (u := x516) (u' := (IntKind.i64.wrap (x514 + 1))) rfl rfl o512 rfl (rz2 hx517) ⟨rfl, ble rfl⟩ rfl rfl) fun M518 hM519 => ?_))))))))))
  rw [Nat.zero_add] at hM519
  have o520 : M518[i3_1]? = some (.live ⟨.grow, 2, 1, (s3_2.set y506.toNat (IntKind.i64.wrap (x514 + 1))).map (cI .i64)⟩) := set_same hM519 o512
  have o521 := set_ne hM519 (Ne.symm ne175) o513
  have hx522 := rd_set (u' := (IntKind.i64.wrap (x514 + 1))) hx517
  obtain ⟨x530, hx531, h⟩ := bind_some h
  refine Rn (hV (.lsl i3_1 s3_2.length 0 s3_2.length) h507 (hV (.lsl i3_2 s3_3.length 0 s3_3.length) h508 (hV (.int .i64 y506) h509 (hV (.int .i64 y325) h510 (hV (.int .i64 s3_1) h511 hZ))))) fun e523 h525 h526 h527 h528 h529 => sN (Rg (kx (mvO h526) (kx (mvO h527) (kx (ixO rfl o521 rfl rfl (rd_get hx531).1 (rd_lt hx531).2) (kw (stR (u := x530) (u' := (-1)) rfl rfl o521 rfl (rz2 hx531) ⟨rfl, ble rfl⟩ rfl rfl) fun M532 hM533 => ?_)))))
  clear h507 h508 h509 h510 h511
  rw [Nat.zero_add] at hM533
  have o534 := set_ne hM533 ne175 o520
  have o535 : M532[i3_2]? = some (.live ⟨.grow, 2, 1, (s3_3.set y506.toNat (-1)).map (cI .i64)⟩) := set_same hM533 o521
  have hx536 := rd_set (u' := (-1)) hx531
  refine Rn (hA h525 (hA h526 (hA h528 (hA h529 hZ)))) fun e537 h539 h540 h541 h542 => bN (sN (Rg (kx (bAdd h542 rfl) (kx (mvO rfl) (Rn (hA h539 (hA h540 (hA h541 (hN rfl hZ)))) fun e543 h545 h546 h547 h548 => ?_)))))
  clear h525 h526 h527 h528 h529 h539 h540 h541
  obtain rfl := si h
  exact qN ⟨(lslL (L' := (s3_2.set y506.toNat (IntKind.i64.wrap (x514 + 1))).length) h545 (by simp [hl363, hl364])), (lslL (L' := (s3_3.set y506.toNat (-1)).length) h546 (by simp [hl363, hl364])), h547, h548, o534, o535, (by first | rfl | simp [hl363, hl364]), (by first | rfl | simp [hl363, hl364])⟩
 refine cF h371 hb372 (xx (sE ?_))
 obtain rfl := si h
 exact qE ⟨rfl, h367, o361, o362, (by first | rfl | simp [hl363, hl364]), (by first | rfl | simp [hl363, hl364])⟩
noncomputable def impl_ShareOut (a1 : Int) (a2 : List Int) : Option ((List Int) × Int) :=
 ((impl_isAmount a1).bind fun r6 =>
 if r6 = true then
  if (decide ((a2.length : Int) < 1)) = true then
   some true
  else
   some (decide ((a2.length : Int) > 20))
 else
  some true).bind fun y26 =>
 if y26 = true then
  some (([] : List Int), 2)
 else
  (Lw (impl_ShareOut_b1 a2) (0, 0)).bind fun r => match r with
  | (.inl _) =>
   some (([] : List Int), 2)
  | (.inr y152) =>
   if (y152 == 0) = true then
    some (([] : List Int), 2)
   else
    (Lw (impl_ShareOut_b2 a1 a2 y152) (a1, 0, ([] : List Int), ([] : List Int))).bind fun (y325, y326, y327) =>
    (Lw (impl_ShareOut_b3 y325) (0, y326, y327)).bind fun (y554, y555) =>
    some (y554, 0)
def impl_ShareOut_enc (r : (List Int) × Int) : AV := .tup [.sl none (r.1.map (cI .i64)), .int .i64 r.2]
theorem impl_ShareOut_ok (a1 : Int) (a2 : List Int) (r : (List Int) × Int) (h : impl_ShareOut a1 a2 = some r) : Ev (fun k => CN k 40 [.int .i64 a1, .sl none (a2.map (cI .i64))] []) (fun p => wkR (rRes p.2 p.1) = impl_ShareOut_enc r ∧ ownAll (rRes p.2 p.1) = true) := by
 unfold impl_ShareOut at h
 obtain ⟨r566, hr567, h⟩ := bind_some h
 refine Ev.enter (F := fun k => f40 (CN k) k) (fun k => callN_eq rfl Try.func40 rfl rfl rfl (by decide +kernel) (f40_eq _ _)) (sq (Rg (kx (mvO rfl) (kx (mvO rfl) (Rn (hN rfl (hN rfl hZ)) fun e1 h3 h4 => sN (sq (sq ?_)))))))
 refine Ev.cut (Q1 := impl_ShareOut_c1_Q a1 a2 r566) (by
     have h := hr567
     obtain ⟨r6, hx5, h⟩ := bind_some h
     refine Rg (kx (mvO h3) (kc (cl (v := .bool r6) rfl rfl (cns rfl rfl) rfl (impl_isAmount_ok a1 _ hx5) nm) (kx (uNot rfl) (kx (mvO rfl) ?_))))
     rcases ite_some h with ⟨hb7, h⟩ | ⟨hb7, h⟩
     ·refine kx (guF rfl (congrArg Bool.not hb7) (mvO h4)) (kx (guF rfl (congrArg Bool.not hb7) (lnS Try.underlying24 rfl)) (kx (guF rfl (congrArg Bool.not hb7) (bLss rfl rfl)) (kx (pkF rfl (congrArg Bool.not hb7) rfl) (kx (mvO rfl) ?_))))
      rcases ite_some h with ⟨hb8, h⟩ | ⟨hb8, h⟩
      ·refine kx (gsF rfl hb8) (kx (gsF rfl hb8) (kx (gsF rfl hb8) (kx (pkT rfl hb8 rfl) (Rn (hA h3 (hA h4 (hV (.bool true) rfl hZ))) fun e9 h11 h12 h13 => ?_))))
       clear h3 h4
       obtain rfl := si h
       exact kd (show impl_ShareOut_c1_Q a1 a2 _ _ from ⟨rfl, h11, h12, h13⟩)
      refine kx (guF rfl hb8 (mvO h4)) (kx (guF rfl hb8 (lnS Try.underlying24 rfl)) (kx (guF rfl hb8 (bGtr rfl rfl)) (kx (pkF rfl hb8 rfl) (Rn (hA h3 (hA h4 (hN rfl hZ))) fun e14 h16 h17 h18 => ?_))))
      clear h3 h4
      obtain rfl := si h
      exact kd (show impl_ShareOut_c1_Q a1 a2 _ _ from ⟨rfl, h16, h17, h18⟩)
     refine kx (gsF rfl (congrArg Bool.not hb7)) (kx (gsF rfl (congrArg Bool.not hb7)) (kx (gsF rfl (congrArg Bool.not hb7)) (kx (pkT rfl (congrArg Bool.not hb7) rfl) (kx (mvO rfl) (kx (gsF rfl rfl) (kx (gsF rfl rfl) (kx (gsF rfl rfl) (kx (pkT rfl rfl rfl) (Rn (hA h3 (hA h4 (hV (.bool true) rfl hZ))) fun e19 h21 h22 h23 => ?_)))))))))
     clear h3 h4
     obtain rfl := si h
     exact kd (show impl_ShareOut_c1_Q a1 a2 _ _ from ⟨rfl, h21, h22, h23⟩)) ?_
 revert h hr567
 revert r566
 intro y26 hr567 h
 intro x e24 M25 hq565
 obtain ⟨rfl, h27, h28, h29⟩ := hq565
 refine sN ?_
 rcases ite_some h with ⟨hb30, h⟩ | ⟨hb30, h⟩
 ·refine cT h29 hb30 (sq (Rg (kx (mvO rfl) (kx (mvO rfl) (Rn (hV .nils rfl (hV (.int .i64 2) rfl hZ)) fun e31 h33 h34 => sN (xx (sR ?_)))))))
  clear h27 h28 h29
  obtain rfl := si h
  exact eR (resT h33 (resT h34 res0)) (wkO (y := .tup [.nils, .int .i64 2]) rfl rfl (own_tup (oa1 rfl (oa1 rfl oa0))))
 obtain ⟨r143, hr144, h⟩ := bind_some h
 refine cF h29 hb30 (xx (sN (sq (Rg (kx (mvO rfl) (Rn (hV (.int .i64 a1) h27 (hV (.sl none (a2.map (cI .i64))) h28 (hV (.int .i64 0) rfl hZ))) fun e35 h37 h38 h39 => sN (sq (sq (Rg (kx (mvO h38) (kx (lnS Try.underlying24 rfl) (kx (mvO rfl) (Rn (hA h37 (hA h38 (hA h39 (hN rfl (hN rfl (hV (.int .i64 0) rfl hZ)))))) fun e40 h42 h43 h44 h45 h46 h47 => sN (bl ?_))))))))))))))
 clear h27 h28 h29 h37 h38 h39
 rcases r143 with _ | y152
 ·refine Ev.loop (RS := impl_ShareOut_b1_RS a1 a2) (RR := impl_ShareOut_b1_RR a1 a2) (fun s r h e M hs => impl_ShareOut_b1_ok a1 a2 s r h e M hs) hr144 ⟨h42, h43, h44, h45, h46, h47⟩ fun x e146 M147 hq145 => ?_
  obtain ⟨rfl, h148, h149⟩ := hq145
  refine bR (sR ?_)
  obtain rfl := si h
  exact eR (resT h148 (resT h149 res0)) (wkO (y := .tup [.nils, .int .i64 2]) rfl rfl (own_tup (oa1 rfl (oa1 rfl oa0))))
 refine Ev.loop (RS := impl_ShareOut_b1_RS a1 a2) (RR := impl_ShareOut_b1_RR a1 a2) (fun s r h e M hs => impl_ShareOut_b1_ok a1 a2 s r h e M hs) hr144 ⟨h42, h43, h44, h45, h46, h47⟩ fun x e150 M151 hq145 => ?_
 obtain ⟨rfl, h153, h154, h155⟩ := hq145
 refine bE (sN (sq (sq (Rg (kx (mvO h155) (kx (bEql rfl rfl) (Rn (hV (.int .i64 a1) h153 (hV (.sl none (a2.map (cI .i64))) h154 (hV (.int .i64 y152) h155 (hN rfl hZ)))) fun e156 h158 h159 h160 h161 => sN ?_)))))))
 clear h153 h154 h155
 rcases ite_some h with ⟨hb162, h⟩ | ⟨hb162, h⟩
 ·refine cT h161 hb162 (sq (Rg (kx (mvO rfl) (kx (mvO rfl) (Rn (hV .nils rfl (hV (.int .i64 2) rfl hZ)) fun e163 h165 h166 => sN (xx (sR ?_)))))))
  clear h158 h159 h160 h161
  obtain rfl := si h
  exact eR (resT h165 (resT h166 res0)) (wkO (y := .tup [.nils, .int .i64 2]) rfl rfl (own_tup (oa1 rfl (oa1 rfl oa0))))
 refine cF h161 hb162 (xx (sN (sq (Rg (ku (litO (xs := ([] : List Int)) (c := (cI .i64)) rfl rfl (by decide)) fun M168 hM169 => ?_)))))
 have o170 : M168[M151.length]? = some (.live ⟨.grow, 2, 1, ([] : List Int).map (cI .i64)⟩) := push_new hM169
 refine ku (litO (xs := ([] : List Int)) (c := (cI .i64)) rfl rfl (by decide)) fun M172 hM173 => ?_
 have o174 := push_old hM173 o170
 have ne175 := ne_new o170
 have o176 : M172[M168.length]? = some (.live ⟨.grow, 2, 1, ([] : List Int).map (cI .i64)⟩) := push_new hM173
 obtain ⟨⟨y325, y326, y327⟩, hr321, h⟩ := bind_some h
 refine kx (mvO h158) (kx (mvO rfl) (kx (mvO rfl) (kx (mvO rfl) (Rn (hA h158 (hA h159 (hA h160 (hV (.lsl M151.length ([] : List Int).length 0 ([] : List Int).length) rfl (hV (.lsl M168.length ([] : List Int).length 0 ([] : List Int).length) rfl (hN rfl hZ)))))) fun e177 h179 h180 h181 h182 h183 h184 => sN (sq (sq (Rg (kx (mvO h180) (kx (lnS Try.underlying24 rfl) (kx (mvO rfl) (Rn (hA h179 (hA h181 (hA h182 (hA h183 (hA h184 (hN rfl (hN rfl (hV (.int .i64 0) rfl hZ)))))))) fun e185 h187 h188 h189 h190 h191 h192 h193 h194 => sN (bl (Ev.loop (RS := impl_ShareOut_b2_RS a1 a2 y152 M151.length M168.length) (RR := impl_ShareOut_b2_RR a1 a2 y152 M151.length M168.length) (fun s r h e M hs => impl_ShareOut_b2_ok a1 a2 y152 M151.length M168.length ne175 s r h e M hs) hr321 ⟨h187, h188, h189, h190, h191, h192, h193, h194, o174, o176⟩ fun x e323 M324 hq322 => ?_)))))))))))))
 clear h158 h159 h160 h161 h179 h180 h181 h182 h183 h184
 obtain ⟨rfl, h328, h329, h330, o331, o332⟩ := hq322
 obtain ⟨⟨y554, y555⟩, hr550, h⟩ := bind_some h
 refine bE (sN (sq (sq (Rg (kx (mvO h330) (kx (mvO rfl) (Rn (hV (.lsl M151.length y326.length 0 y326.length) h328 (hV (.lsl M168.length y327.length 0 y327.length) h329 (hN rfl (hV (.int .i64 0) rfl hZ)))) fun e333 h335 h336 h337 h338 => sN (bl (Ev.loop (RS := impl_ShareOut_b3_RS y325 y326 y327 M151.length M168.length) (RR := impl_ShareOut_b3_RR y325 y326 y327 M151.length M168.length) (fun s r h e M hs => impl_ShareOut_b3_ok y325 y326 y327 M151.length M168.length ne175 s r h e M hs) hr550 ⟨h335, h336, h337, h338, o331, o332, rfl, rfl⟩ fun x e552 M553 hq551 => ?_)))))))))
 clear h328 h329 h330
 obtain ⟨rfl, h556, o557, o558, hl559, hl560⟩ := hq551
 refine bE (sN (sq (Rg (kx (mvO h556) (kx (mvO rfl) (kx (mvO rfl) (Rn (hV (.lsl M151.length y554.length 0 y554.length) rfl (hV (.int .i64 0) rfl hZ)) fun e561 h563 h564 => sN (xx ?_))))))))
 clear h556
 obtain rfl := si h
 exact eR (resT h563 (resT h564 res0)) (wkO (y := .tup [.sl (some 2) (y554.map (cI .i64)), .int .i64 0]) (rr_tup (mp1 (rr_row o557 rfl (cI_fl _)) (mp1 rfl mp0))) rfl (own_tup (oa1 (own2_row (c := (cI .i64)) (fun _ => rfl)) (oa1 rfl oa0))))
abbrev spec_P6Weights_b1_S := Int × (List Int) × (List Int) × Int × Int
abbrev spec_P6Weights_b1_R := (List Int) × (List Int) × Int × Int
def spec_P6Weights_b1_RS (i1_1 : Nat) (i1_2 : Nat) (s : spec_P6Weights_b1_S) (e : Env) (M : Mem) : Prop := eget e 3 = .loc i1_1 1 0 0 ∧ eget e 4 = .lsl i1_2 s.2.1.length 0 s.2.1.length ∧ eget e 5 = .int .i64 s.1 ∧ M[i1_2]? = some (.live ⟨.grow, 2, 1, s.2.1.map (cI .i64)⟩) ∧ M[i1_1]? = some (.live ⟨.box, 142, 3, [[.sl none (s.2.2.1.map (cI .u8)), .int .i64 s.2.2.2.1, .int .u64 s.2.2.2.2]]⟩)
def spec_P6Weights_b1_RR (i1_1 : Nat) (i1_2 : Nat) (g : spec_P6Weights_b1_R) (x : Ex) (e : Env) (M : Mem) : Prop := x = .ext 0 ∧ eget e 4 = .lsl i1_2 g.1.length 0 g.1.length ∧ M[i1_2]? = some (.live ⟨.grow, 2, 1, g.1.map (cI .i64)⟩) ∧ M[i1_1]? = some (.live ⟨.box, 142, 3, [[.sl none (g.2.1.map (cI .u8)), .int .i64 g.2.2.1, .int .u64 g.2.2.2]]⟩)
noncomputable def spec_P6Weights_b1 : spec_P6Weights_b1_S → Option (spec_P6Weights_b1_S ⊕ spec_P6Weights_b1_R) := fun (s1_1, s1_2, s1_3, s1_4, s1_5) =>
 if (decide (s1_1 > 0)) = true then
  (spec_l00Src_pick_p s1_3 s1_4 s1_5 20).bind fun (r81, r82, r83, r84) =>
  (app 8 s1_2 [r81]).bind fun x92 =>
  some (.inl ((IntKind.i64.wrap (s1_1 - 1)), x92, r82, r83, r84))
 else
  some (.inr (s1_2, s1_3, s1_4, s1_5))
theorem spec_P6Weights_b1_ok (i1_1 : Nat) (i1_2 : Nat) (ne30 : i1_1 ≠ i1_2) (s : spec_P6Weights_b1_S) (r : spec_P6Weights_b1_S ⊕ spec_P6Weights_b1_R) (h : spec_P6Weights_b1 s = some r) (e : Env) (M : Mem) (hs : spec_P6Weights_b1_RS i1_1 i1_2 s e M) : Ev (fun k => (f39_l4 (CN k) k (prune [3, 4, 5] e) M).bind fun q => some q) (bQ (spec_P6Weights_b1_RS i1_1 i1_2) (spec_P6Weights_b1_RR i1_1 i1_2) r) := by
 obtain ⟨s1_1, s1_2, s1_3, s1_4, s1_5⟩ := s
 unfold spec_P6Weights_b1 at h
 obtain ⟨h65, h67, h69, o72, o71⟩ := hs
 generalize he64 : prune [3, 4, 5] e = e63
 have h66 := envp he64.symm rfl h65
 have h68 := envp he64.symm rfl h67
 have h70 := envp he64.symm rfl h69
 refine sq (sq (Rg (kx (mvO h70) (kx (bGtr rfl rfl) (Rn (hV (.loc i1_1 1 0 0) h66 (hV (.lsl i1_2 s1_2.length 0 s1_2.length) h68 (hV (.int .i64 s1_1) h70 (hN rfl hZ)))) fun e73 h75 h76 h77 h78 => sN ?_)))))
 clear h66 h68 h70
 rcases ite_some h with ⟨hb79, h⟩ | ⟨hb79, h⟩
 ·obtain ⟨⟨r81, r82, r83, r84⟩, hx80, h⟩ := bind_some h
  refine cT h78 hb79 (xx (sN (sq (bl (Rg (kx (mvO h76) (kx (mvO h75) (Ev.nxw (Ev.callW rfl (cns rfl (cns rfl rfl)) (spec_l00Src_pick_p_ok s1_3 s1_4 s1_5 20 i1_1 M o71 _ hx80)) fun v87 M85 hq86 => ?_))))))))
  obtain ⟨hv87, o88, fr89⟩ := hq86
  have hv87 : v87 = .int .i64 r81 := hv87
  subst hv87
  have o90 : M85[i1_1]? = some (.live ⟨.box, 142, 3, [[.sl none (r82.map (cI .u8)), .int .i64 r83, .int .u64 r84]]⟩) := o88
  have fr89 : Fr [i1_1] M M85 := fr89
  have o91 := fr89 _ _ (niC (Ne.symm ne30) niN) o72
  obtain ⟨x92, hx93, h⟩ := bind_some h
  refine kx (litI (cns rfl rfl) rfl ⟨rfl, by decide⟩) (kw (apO rfl o91 rfl (elT (c := (cI .i64)) (xs := [r81]) rfl) hx93 (cI_fl _) (by decide)) fun M94 hM95 => ?_)
  have o96 := set_ne hM95 ne30 o90
  have o97 : M94[i1_2]? = some (.live ⟨.grow, 2, 1, x92.map (cI .i64)⟩) := set_same hM95 o91
  refine kx (mvO rfl) (Rn (hA h75 (hV (.lsl i1_2 x92.length 0 x92.length) rfl (hA h77 hZ))) fun e98 h100 h101 h102 => bN (sN (Rg (kx (mvO h102) (kx (bSub rfl rfl) (kx (mvO rfl) (Rn (hA h100 (hA h101 (hN rfl hZ))) fun e103 h105 h106 h107 => ?_)))))))
  clear h75 h77 h78 h100 h101
  obtain rfl := si h
  exact qN ⟨h105, h106, h107, o97, o96⟩
 refine cF h78 hb79 (xx (sE ?_))
 obtain rfl := si h
 exact qE ⟨rfl, h76, o72, o71⟩
noncomputable def spec_P6Weights (a1 : List Int) : Option ((List Int)) :=
 (spec_l00From a1).bind fun r5 =>
 (spec_l00Src_pick_p r5.Code r5.At r5.Seed 20).bind fun (r16, r17, r18, r19) =>
 (spec_l00Src_pick_p r17 r18 r19 7).bind fun (r37, r38, r39, r40) =>
 (Lw (spec_P6Weights_b1) (r37, [(IntKind.i64.wrap (1 + r16))], r38, r39, r40)).bind fun (y113, y114, y115, y116) =>
 some y113
def spec_P6Weights_enc (r : (List Int)) : AV := .sl none (r.map (cI .i64))
theorem spec_P6Weights_ok (a1 : List Int) (r : (List Int)) (h : spec_P6Weights a1 = some r) : Ev (fun k => CN k 39 [.sl none (a1.map (cI .u8))] []) (fun p => wkR (rRes p.2 p.1) = spec_P6Weights_enc r ∧ ownAll (rRes p.2 p.1) = true) := by
 unfold spec_P6Weights at h
 obtain ⟨r5, hx4, h⟩ := bind_some h
 refine Ev.enter (F := fun k => f39 (CN k) k) (fun k => callN_eq rfl Try.func39 rfl rfl rfl (by decide +kernel) (f39_eq _ _)) (sq (Rg (kx (mvO rfl) (Rn (hN rfl hZ) fun e1 h3 => sN (sq (Rg (kx (mvO h3) (Ev.nxw (Ev.callW rfl (cns rfl rfl) (spec_l00From_ok a1 _ _ hx4)) fun v9 M7 hq8 => ?_))))))))
 obtain ⟨hv9, o11, fr10⟩ := hq8
 have hv9 : v9 = .loc ([] : Mem).length 1 0 0 := hv9
 subst hv9
 obtain ⟨⟨r16, r17, r18, r19⟩, hx15, h⟩ := bind_some h
 refine kx (mvO rfl) (Rn (hV (.loc ([] : Mem).length 1 0 0) rfl hZ) fun e12 h14 => sN (sq (Rg (kx (mvO h14) (Ev.nxw (Ev.callW rfl (cns rfl (cns rfl rfl)) (spec_l00Src_pick_p_ok r5.Code r5.At r5.Seed 20 (([] : Mem).length) M7 o11 _ hx15)) fun v22 M20 hq21 => ?_)))))
 clear h3
 obtain ⟨hv22, o23, fr24⟩ := hq21
 have hv22 : v22 = .int .i64 r16 := hv22
 subst hv22
 have o25 : M20[([] : Mem).length]? = some (.live ⟨.box, 142, 3, [[.sl none (r17.map (cI .u8)), .int .i64 r18, .int .u64 r19]]⟩) := o23
 refine kx (bAdd rfl rfl) (ku (litO (xs := [(IntKind.i64.wrap (1 + r16))]) (c := (cI .i64)) (cns rfl rfl) rfl (by decide)) fun M27 hM28 => ?_)
 have o29 := push_old hM28 o25
 have ne30 := ne_new o25
 have o31 : M27[M20.length]? = some (.live ⟨.grow, 2, 1, [(IntKind.i64.wrap (1 + r16))].map (cI .i64)⟩) := push_new hM28
 obtain ⟨⟨r37, r38, r39, r40⟩, hx36, h⟩ := bind_some h
 refine kx (mvO rfl) (Rn (hA h14 (hV (.lsl M20.length [(IntKind.i64.wrap (1 + r16))].length 0 [(IntKind.i64.wrap (1 + r16))].length) rfl hZ)) fun e32 h34 h35 => sN (sq (sq (Rg (kx (mvO h34) (Ev.nxw (Ev.callW rfl (cns rfl (cns rfl rfl)) (spec_l00Src_pick_p_ok r17 r18 r19 7 (([] : Mem).length) M27 o29 _ hx36)) fun v43 M41 hq42 => ?_))))))
 clear h14
 obtain ⟨hv43, o44, fr45⟩ := hq42
 have hv43 : v43 = .int .i64 r37 := hv43
 subst hv43
 have o46 : M41[([] : Mem).length]? = some (.live ⟨.box, 142, 3, [[.sl none (r38.map (cI .u8)), .int .i64 r39, .int .u64 r40]]⟩) := o44
 have fr45 : Fr [([] : Mem).length] M27 M41 := fr45
 have o47 := fr45 _ _ (niC (Ne.symm ne30) niN) o31
 obtain ⟨⟨y113, y114, y115, y116⟩, hr109, h⟩ := bind_some h
 refine kx (mvO rfl) (Rn (hA h34 (hA h35 (hN rfl hZ))) fun e48 h50 h51 h52 => sN (bl (Ev.loop (RS := spec_P6Weights_b1_RS (([] : Mem).length) M20.length) (RR := spec_P6Weights_b1_RR (([] : Mem).length) M20.length) (fun s r h e M hs => spec_P6Weights_b1_ok (([] : Mem).length) M20.length ne30 s r h e M hs) hr109 ⟨h50, h51, h52, o47, o46⟩ fun x e111 M112 hq110 => ?_)))
 clear h34 h35
 obtain ⟨rfl, h117, o118, o119⟩ := hq110
 refine bE (sN (sq (Rg (kx (mvO h117) (kx (mvO rfl) (Rn (hV (.lsl M20.length y113.length 0 y113.length) rfl hZ) fun e120 h122 => sN (xx ?_)))))))
 clear h117
 obtain rfl := si h
 exact eR (resT h122 res0) (wkO (y := .sl (some 2) (y113.map (cI .i64))) (rr_row o118 rfl (cI_fl _)) rfl (ownA_row (c := (cI .i64)) (fun _ => rfl)))
noncomputable def spec_P6Pick (a1 : List Int) (a2 : Int) : Option Int :=
 (spec_l00From a1).bind fun r6 =>
 (spec_l00Src_pick_p r6.Code r6.At r6.Seed a2).bind fun (r14, r15, r16, r17) =>
 some r14
def spec_P6Pick_enc (r : Int) : AV := .int .i64 r
theorem spec_P6Pick_ok (a1 : List Int) (a2 : Int) (r : Int) (h : spec_P6Pick a1 a2 = some r) : Ev (fun k => CN k 38 [.sl none (a1.map (cI .u8)), .int .i64 a2] []) (fun p => rRes p.2 p.1 = spec_P6Pick_enc r) := by
 unfold spec_P6Pick at h
 obtain ⟨r6, hx5, h⟩ := bind_some h
 refine Ev.enter (F := fun k => f38 (CN k) k) (fun k => callN_eq rfl Try.func38 rfl rfl rfl (by decide +kernel) (f38_eq _ _)) (sq (Rg (kx (mvO rfl) (Rn (hN rfl (hN rfl hZ)) fun e1 h3 h4 => sN (sq (Rg (kx (mvO h3) (Ev.nxw (Ev.callW rfl (cns rfl rfl) (spec_l00From_ok a1 _ _ hx5)) fun v10 M8 hq9 => ?_))))))))
 obtain ⟨hv10, o12, fr11⟩ := hq9
 have hv10 : v10 = .loc ([] : Mem).length 1 0 0 := hv10
 subst hv10
 obtain ⟨⟨r14, r15, r16, r17⟩, hx13, h⟩ := bind_some h
 refine kx (mvO h4) (Ev.nxw (Ev.callW rfl (cns rfl (cns rfl rfl)) (spec_l00Src_pick_p_ok r6.Code r6.At r6.Seed a2 (([] : Mem).length) M8 o12 _ hx13)) fun v20 M18 hq19 => ?_)
 obtain ⟨hv20, o21, fr22⟩ := hq19
 have hv20 : v20 = .int .i64 r14 := hv20
 subst hv20
 have o23 : M18[([] : Mem).length]? = some (.live ⟨.box, 142, 3, [[.sl none (r15.map (cI .u8)), .int .i64 r16, .int .u64 r17]]⟩) := o21
 refine kx (mvO rfl) (Rn (hN rfl hZ) fun e24 h26 => sN (xx ?_))
 clear h3 h4
 obtain rfl := si h
 exact eR (resT h26 res0) rfl
noncomputable def laws_f6big (a1 : List Int) : Option Bool :=
 some (decide ((a1.length : Int) > 4096))
def laws_f6big_enc (r : Bool) : AV := .bool r
theorem laws_f6big_ok (a1 : List Int) (r : Bool) (h : laws_f6big a1 = some r) : Ev (fun k => CN k 37 [.sl none (a1.map (cI .u8))] []) (fun p => rRes p.2 p.1 = laws_f6big_enc r) := by
 unfold laws_f6big at h
 refine Ev.enter (F := fun k => f37 (CN k) k) (fun k => callN_eq rfl Try.func37 rfl rfl rfl (by decide +kernel) (f37_eq _ _)) (sq (Rg (kx (mvO rfl) (Rn (hN rfl hZ) fun e1 h3 => sN (sq (Rg (kx (mvO h3) (kx (lnS Try.underlying22 rfl) (kx (bGtr rfl rfl) (kx (mvO rfl) (Rn (hN rfl hZ) fun e4 h6 => sN (xx ?_))))))))))))
 clear h3
 obtain rfl := si h
 exact eR (resT h6 res0) rfl
end Go.Proofs.Ytjlalepbhcekoaa

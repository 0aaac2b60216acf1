/- Printed by a program of ours (ext.py). -/
import Derived.Test.YtonpeobfmgdamaaDoorLnkStartChainx0
set_option linter.unusedVariables false
set_option linter.unusedSimpArgs false
set_option maxRecDepth 100000
set_option maxHeartbeats 2000000
namespace Go.Proofs.YtonpeobfmgdamaaDoor
open Go Go.Ab
/-! ### loop.example/g01263/laws.markMarkS (f41) -/
abbrev laws_markMarkS_l_b1_S := Int × Int × (List Mark)
abbrev laws_markMarkS_l_b1_R := Int × (List Mark)
def laws_markMarkS_l_b1_RS (a1 : List Mark) (j1 : Nat) (M0 : Mem) (s : laws_markMarkS_l_b1_S) (e : Env) (M : Mem) : Prop := eget e 0 = .lsl j1 s.2.2.length 0 s.2.2.length ∧ eget e 1 = .int .i64 s.1 ∧ eget e 5 = .int .i64 s.2.1 ∧ M[j1]? = some (.live ⟨.grow, 78, 2, s.2.2.map Mark.c⟩) ∧ Fr [j1] M0 M ∧ s.2.2.length = a1.length
def laws_markMarkS_l_b1_RR (a1 : List Mark) (j1 : Nat) (M0 : Mem) (g : laws_markMarkS_l_b1_R) (x : Ex) (e : Env) (M : Mem) : Prop := x = .ext 0 ∧ eget e 1 = .int .i64 g.1 ∧ M[j1]? = some (.live ⟨.grow, 78, 2, g.2.map Mark.c⟩) ∧ Fr [j1] M0 M ∧ g.2.length = a1.length
noncomputable def laws_markMarkS_l_b1 : laws_markMarkS_l_b1_S → Option (laws_markMarkS_l_b1_S ⊕ laws_markMarkS_l_b1_R) := fun (s1_1, s1_2, s1_3) =>
 if (decide (s1_2 < (s1_3.length : Int))) = true then
  (laws_markText s1_1).bind fun r39 =>
  (rd s1_3 s1_2).bind fun x40 =>
  (rd (s1_3.set s1_2.toNat (Mark.mk r39 x40.Seal)) s1_2).bind fun x57 =>
  some (.inl ((IntKind.i64.wrap ((IntKind.i64.wrap (s1_1 + 1)) + 1)), (IntKind.i64.wrap (s1_2 + 1)), ((s1_3.set s1_2.toNat (Mark.mk r39 x40.Seal)).set s1_2.toNat (Mark.mk x57.Holder (IntKind.u32.wrap (IntKind.i64.wrap (s1_1 + 1)))))))
 else
  some (.inr (s1_1, s1_3))
theorem laws_markMarkS_l_b1_ok (a1 : List Mark) (j1 : Nat) (M0 : Mem) (s : laws_markMarkS_l_b1_S) (r : laws_markMarkS_l_b1_S ⊕ laws_markMarkS_l_b1_R) (h : laws_markMarkS_l_b1 s = some r) (e : Env) (M : Mem) (hs : laws_markMarkS_l_b1_RS a1 j1 M0 s e M) : Ev (fun k => (f41_l2 (CN k) k (prune [0, 1, 5] e) M).bind fun q => some q) (bQ (laws_markMarkS_l_b1_RS a1 j1 M0) (laws_markMarkS_l_b1_RR a1 j1 M0) r) := by
 obtain ⟨s1_1, s1_2, s1_3⟩ := s
 unfold laws_markMarkS_l_b1 at h
 obtain ⟨h22, h24, h26, o28, fr29, hl30⟩ := hs
 generalize he21 : prune [0, 1, 5] e = e20
 have h23 := envp he21.symm rfl h22
 have h25 := envp he21.symm rfl h24
 have h27 := envp he21.symm rfl h26
 refine sq (sq (Rg (kx (mvO h27) (kx (mvO h23) (kx (lnL Tryd.underlying41 rfl o28 (by simp [hl30])) (kx (bLss rfl rfl) (Rn (hV (.lsl j1 s1_3.length 0 s1_3.length) h23 (hV (.int .i64 s1_1) h25 (hV (.int .i64 s1_2) h27 (hN rfl hZ)))) fun e31 h33 h34 h35 h36 => sN ?_)))))))
 clear h23 h25 h27
 rcases ite_some h with ⟨hb37, h⟩ | ⟨hb37, h⟩
 ·obtain ⟨r39, hx38, h⟩ := bind_some h
  obtain ⟨x40, hx41, h⟩ := bind_some h
  refine cT h36 hb37 (xx (sN (sq (bl (sq (Rg (kx (mvO h33) (kx (mvO h35) (kx (mvO h34) (kc (cl (v := .str r39) rfl (cns rfl rfl) rfl (laws_markText_ok s1_1 _ hx38) nm) (kx (ixO rfl o28 rfl rfl (rd_get hx41).1 (rd_lt hx41).2) (kx (faO rfl o28 (by simp [hl30])) (kw (stR (u := x40) (u' := (Mark.mk r39 x40.Seal)) rfl rfl o28 rfl (rz2 hx41) ⟨rfl, ble rfl⟩ rfl rfl) fun M42 hM43 => ?_)))))))))))))
  rw [Nat.zero_add] at hM43
  have o44 : M42[j1]? = some (.live ⟨.grow, 78, 2, (s1_3.set s1_2.toNat (Mark.mk r39 x40.Seal)).map Mark.c⟩) := set_same hM43 o28
  have fr45 := Fr.setIn fr29 hM43 (by simp)
  have hx46 := rd_set (u' := (Mark.mk r39 x40.Seal)) hx41
  obtain ⟨x57, hx58, h⟩ := bind_some h
  refine Rn (hA h33 (hA h34 (hA h35 hZ))) fun e47 h49 h50 h51 => sN (sq (Rg (kx (mvO h50) (kx (bAdd rfl rfl) (kx (mvO rfl) (Rn (hA h49 (hN rfl (hA h51 hZ))) fun e52 h54 h55 h56 => sN (sq (Rg (kx (mvO (lslL (L' := (s1_3.set s1_2.toNat (Mark.mk r39 x40.Seal)).length) h54 (by simp [hl30]))) (kx (mvO h56) (kx (mvO h55) (kx (cvI rfl) (kx (ixO rfl o44 rfl rfl (rd_get hx58).1 (rd_lt hx58).2) (kx (faO rfl o44 (by simp [hl30])) (kw (stR (u := x57) (u' := (Mark.mk x57.Holder (IntKind.u32.wrap (IntKind.i64.wrap (s1_1 + 1))))) rfl rfl o44 rfl (rz2 hx58) ⟨rfl, ble rfl⟩ rfl rfl) fun M59 hM60 => ?_)))))))))))))))
  clear h33 h34 h35 h36 h49 h51
  rw [Nat.zero_add] at hM60
  have o61 : M59[j1]? = some (.live ⟨.grow, 78, 2, ((s1_3.set s1_2.toNat (Mark.mk r39 x40.Seal)).set s1_2.toNat (Mark.mk x57.Holder (IntKind.u32.wrap (IntKind.i64.wrap (s1_1 + 1))))).map Mark.c⟩) := set_same hM60 o44
  have fr62 := Fr.setIn fr45 hM60 (by simp)
  have hx63 := rd_set (u' := (Mark.mk x57.Holder (IntKind.u32.wrap (IntKind.i64.wrap (s1_1 + 1))))) hx58
  refine Rn (hA h54 (hA h55 (hA h56 hZ))) fun e64 h66 h67 h68 => sN (Rg (kx (mvO h67) (kx (bAdd rfl rfl) (kx (mvO rfl) (Rn (hA h66 (hN rfl (hA h68 hZ))) fun e69 h71 h72 h73 => bN (sN (Rg (kx (mvO h73) (kx (bAdd rfl rfl) (kx (mvO rfl) (Rn (hA h71 (hA h72 (hN rfl hZ))) fun e74 h76 h77 h78 => ?_)))))))))))
  clear h54 h55 h56 h66 h68 h71 h72
  obtain rfl := si h
  exact qN ⟨(lslL (L' := ((s1_3.set s1_2.toNat (Mark.mk r39 x40.Seal)).set s1_2.toNat (Mark.mk x57.Holder (IntKind.u32.wrap (IntKind.i64.wrap (s1_1 + 1))))).length) h76 (by simp [hl30])), h77, h78, o61, fr62, (by first | rfl | simp [hl30])⟩
 refine cF h36 hb37 (xx (sE ?_))
 obtain rfl := si h
 exact qE ⟨rfl, h34, o28, fr29, (by first | rfl | simp [hl30])⟩
noncomputable def laws_markMarkS_l (a1 : List Mark) (a2 : Int) : Option (Int × (List Mark)) :=
 (Lw (laws_markMarkS_l_b1) (a2, 0, a1)).bind fun (y84, y85) =>
 some (y84, y85)
def laws_markMarkS_l_Q (a1 : List Mark) (a2 : Int) (j1 : Nat) (M0 : Mem) (r : Int × (List Mark)) (p : AV × Mem) : Prop := p.1 = .int .i64 r.1 ∧ p.2[j1]? = some (.live ⟨.grow, 78, 2, r.2.map Mark.c⟩) ∧ Fr [j1] M0 p.2 ∧ r.2.length = a1.length
theorem laws_markMarkS_l_ok (a1 : List Mark) (a2 : Int) (j1 : Nat) (M0 : Mem) (oP1 : M0[j1]? = some (.live ⟨.grow, 78, 2, a1.map Mark.c⟩)) (r : Int × (List Mark)) (h : laws_markMarkS_l a1 a2 = some r) : Ev (fun k => CN k 41 [.lsl j1 a1.length 0 a1.length, .int .i64 a2] M0) (laws_markMarkS_l_Q a1 a2 j1 M0 r) := by
 unfold laws_markMarkS_l at h
 have fr0 : Fr [j1] M0 M0 := Fr.refl
 obtain ⟨⟨y84, y85⟩, hr80, h⟩ := bind_some h
 refine Ev.enter (F := fun k => f41 (CN k) k) (fun k => callN_eq rfl Tryd.func41 rfl rfl rfl (by decide +kernel) (f41_eq _ _)) (sq (Rg (kx (mvO rfl) (Rn (hV (.lsl j1 a1.length 0 a1.length) rfl (hN rfl hZ)) fun e1 h3 h4 => sN (sq (sq (Rg (kx (mvO rfl) (Rn (hA h3 (hA h4 (hV (.int .i64 0) rfl hZ))) fun e5 h7 h8 h9 => sN (bl (Ev.loop (RS := laws_markMarkS_l_b1_RS a1 j1 M0) (RR := laws_markMarkS_l_b1_RR a1 j1 M0) (fun s r h e M hs => laws_markMarkS_l_b1_ok a1 j1 M0 s r h e M hs) hr80 ⟨h7, h8, h9, oP1, fr0, rfl⟩ fun x e82 M83 hq81 => ?_)))))))))))
 clear h3 h4
 obtain ⟨rfl, h86, o87, fr88, hl89⟩ := hq81
 refine bE (sN (sq (Rg (kx (mvO h86) (kx (mvO rfl) (Rn (hN rfl hZ) fun e90 h92 => sN (xx ?_)))))))
 clear h86
 obtain rfl := si h
 exact eR (resT h92 res0) ⟨rfl, o87, fr88, (by first | rfl | simp [hl89])⟩
/-! ### loop.example/g01263/laws.markChain (f17) -/
noncomputable def laws_markChain_ll (a1 : List UInt8) (a2 : Bool) (a3 : List Notch) (a4 : Ar 16 Int) (a5 : List Mark) (a6 : Int) : Option (Int × (List Notch) × (List Mark)) :=
 (laws_markHalf_l a2 a3 a4 a6).bind fun (r16, r17) =>
 (laws_markMarkS_l a5 r16).bind fun (r33, r34) =>
 some (r33, r17, r34)
def laws_markChain_ll_Q (a1 : List UInt8) (a2 : Bool) (a3 : List Notch) (a4 : Ar 16 Int) (a5 : List Mark) (a6 : Int) (j1 : Nat) (j2 : Nat) (M0 : Mem) (r : Int × (List Notch) × (List Mark)) (p : AV × Mem) : Prop := p.1 = .int .i64 r.1 ∧ p.2[j1]? = some (.live ⟨.grow, 99, 2, r.2.1.map Notch.c⟩) ∧ p.2[j2]? = some (.live ⟨.grow, 78, 2, r.2.2.map Mark.c⟩) ∧ Fr [j1, j2] M0 p.2 ∧ r.2.1.length = a3.length ∧ r.2.2.length = a5.length
theorem laws_markChain_ll_ok (a1 : List UInt8) (a2 : Bool) (a3 : List Notch) (a4 : Ar 16 Int) (a5 : List Mark) (a6 : Int) (j1 : Nat) (j2 : Nat) (ne01 : j1 ≠ j2) (M0 : Mem) (oP1 : M0[j1]? = some (.live ⟨.grow, 99, 2, a3.map Notch.c⟩)) (oP2 : M0[j2]? = some (.live ⟨.grow, 78, 2, a5.map Mark.c⟩)) (r : Int × (List Notch) × (List Mark)) (h : laws_markChain_ll a1 a2 a3 a4 a5 a6 = some r) : Ev (fun k => CN k 17 [.agg (.str a1 :: (.bool a2 :: (.lsl j1 a3.length 0 a3.length :: ((arC (cI .i8) 0 a4) ++ ((.lsl j2 a5.length 0 a5.length :: []) : List AV))))), .int .i64 a6] M0) (laws_markChain_ll_Q a1 a2 a3 a4 a5 a6 j1 j2 M0 r) := by
 unfold laws_markChain_ll at h
 have fr0 : Fr [j1, j2] M0 M0 := Fr.refl
 refine Ev.enter (F := fun k => f17 (CN k) k) (fun k => callN_eq rfl Tryd.func17 rfl rfl rfl (by decide +kernel) (f17_eq _ _)) (sq (Rg (ku (bxO rfl rfl ⟨rfl, (all1 rfl (all1 rfl (all1 (okL oP1 (by simp)) (oaS (fun _ => rfl) (all1 (okL oP2 (by simp)) all0))))), by decide⟩) fun M2 hM3 => ?_)))
 have nf4 := Nf.mk fr0
 have fr5 := Fr.push fr0 hM3
 have o6 := push_old hM3 oP1
 have ne7 := ne_new oP1
 have o8 := push_old hM3 oP2
 have ne9 := ne_new oP2
 have o10 : M2[M0.length]? = some (.live ⟨.box, 43, 20, [(.str a1 :: (.bool a2 :: (.lsl j1 a3.length 0 a3.length :: ((arC (cI .i8) 0 a4) ++ ((.lsl j2 a5.length 0 a5.length :: []) : List AV)))))]⟩) := push_new hM3
 obtain ⟨⟨r16, r17⟩, hx15, h⟩ := bind_some h
 refine kx (mvO rfl) (Rn (hN rfl (hV (.loc M0.length 1 0 0) rfl hZ)) fun e11 h13 h14 => sN (sq (Rg (kx (faO h14 o10 rfl) (kx (ldOA (cs' := (.bool a2 :: (.lsl j1 a3.length 0 a3.length :: ((arC (cI .i8) 0 a4) ++ ([] : List AV))))) rfl o10 rfl rfl (ble rfl) rfl) (kx (mvO h13) (Ev.nxw (Ev.callW rfl (cns rfl (cns rfl rfl)) (laws_markHalf_l_ok a2 a3 a4 a6 j1 M2 o6 _ hx15)) fun v20 M18 hq19 => ?_)))))))
 obtain ⟨hv20, o21, fr22, hl23⟩ := hq19
 have hv20 : v20 = .int .i64 r16 := hv20
 subst hv20
 have o24 : M18[j1]? = some (.live ⟨.grow, 99, 2, r17.map Notch.c⟩) := o21
 have hl23 : r17.length = a3.length := hl23
 have o25 : M18[j2]? = some (.live ⟨.grow, 78, 2, a5.map Mark.c⟩) := fr22 _ _ (niC (Ne.symm ne01) niN) o8
 have o26 : M18[M0.length]? = some (.live ⟨.box, 43, 20, [(.str a1 :: (.bool a2 :: (.lsl j1 a3.length 0 a3.length :: ((arC (cI .i8) 0 a4) ++ ((.lsl j2 a5.length 0 a5.length :: []) : List AV)))))]⟩) := fr22 _ _ (niC (Ne.symm ne7) niN) o10
 have fr27 : Fr [j1, j2] M0 M18 := Fr.call fr5 fr22 (fwI (by simp) fwN)
 obtain ⟨⟨r33, r34⟩, hx32, h⟩ := bind_some h
 refine kx (mvO rfl) (Rn (hN rfl (hA h14 hZ)) fun e28 h30 h31 => sN (sq (Rg (kx (faO h31 o26 rfl) (kx (ldO rfl o26 rfl rfl rfl) (kx (mvO h30) (Ev.nxw (Ev.callW rfl (cns rfl (cns rfl rfl)) (laws_markMarkS_l_ok a5 r16 j2 M18 o25 _ hx32)) fun v37 M35 hq36 => ?_)))))))
 clear h14
 obtain ⟨hv37, o38, fr39, hl40⟩ := hq36
 have hv37 : v37 = .int .i64 r33 := hv37
 subst hv37
 have o41 : M35[j2]? = some (.live ⟨.grow, 78, 2, r34.map Mark.c⟩) := o38
 have hl40 : r34.length = a5.length := hl40
 have o42 : M35[j1]? = some (.live ⟨.grow, 99, 2, r17.map Notch.c⟩) := fr39 _ _ (niC ne01 niN) o24
 have o43 : M35[M0.length]? = some (.live ⟨.box, 43, 20, [(.str a1 :: (.bool a2 :: (.lsl j1 a3.length 0 a3.length :: ((arC (cI .i8) 0 a4) ++ ((.lsl j2 a5.length 0 a5.length :: []) : List AV)))))]⟩) := fr39 _ _ (niC (Ne.symm ne9) niN) o26
 have fr44 : Fr [j1, j2] M0 M35 := Fr.call fr27 fr39 (fwI (by simp) fwN)
 refine kx (mvO rfl) (Rn (hN rfl hZ) fun e45 h47 => sN (sq (Rg (kx (mvO h47) (kx (mvO rfl) (Rn (hN rfl hZ) fun e48 h50 => sN (xx ?_)))))))
 clear h31 h47
 obtain rfl := si h
 exact eR (resT h50 res0) ⟨rfl, o42, o41, fr44, (by first | rfl | simp [hl23, hl40]), (by first | rfl | simp [hl23, hl40])⟩
/-! ### loop.example/g01263/laws.FnExactStartChain (f4) -/
def laws_FnExactStartChain_c1_Q (a1 : Half) (a2 : Party) (a3 : List UInt8) (r67 : Ar 16 Int) (r68 : Int) (r84 : Bool) (r85 : List Notch) (r86 : Ar 16 Int) (r118 : Ar 16 Int) (r119 : Int) (i901_1 : Nat) (i901_2 : Nat) (i901_3 : Nat) (i901_4 : Nat) (g : Bool) (q : Out) : Prop := q.1 = .nrm ∧ eget q.2.1 2 = .str a3 ∧ eget q.2.1 3 = .pt none (.bool a1.Stock :: (.sl none (a1.Notches.map Notch.c) :: ((arC (cI .i8) 0 a1.Grain) ++ ([] : List AV)))) ∧ eget q.2.1 4 = .pt none [.str a2.Name, .int .u32 a2.Secret] ∧ eget q.2.1 8 = .loc i901_1 1 0 0 ∧ eget q.2.1 9 = .int .i64 r68 ∧ eget q.2.1 10 = .loc i901_3 1 0 0 ∧ eget q.2.1 11 = .loc i901_4 1 0 0 ∧ eget q.2.1 12 = .int .i64 r119 ∧ eget q.2.1 58 = .bool g ∧ q.2.2[i901_4]? = some (.live ⟨.box, 43, 20, [(.str ([] : List UInt8) :: (.bool false :: (.nils :: ((arC (cI .i8) 0 r118) ++ ((.nils :: []) : List AV)))))]⟩) ∧ q.2.2[i901_1]? = some (.live ⟨.box, 43, 20, [(.str ([] : List UInt8) :: (.bool false :: (.nils :: ((arC (cI .i8) 0 r67) ++ ((.nils :: []) : List AV)))))]⟩) ∧ q.2.2[i901_2]? = some (.live ⟨.grow, 99, 2, r85.map Notch.c⟩) ∧ q.2.2[i901_3]? = some (.live ⟨.box, 34, 18, [(.bool r84 :: (.lsl i901_2 r85.length 0 r85.length :: ((arC (cI .i8) 0 r86) ++ ([] : List AV))))]⟩)
def laws_FnExactStartChain_c2_Q (a1 : Half) (a2 : Party) (a3 : List UInt8) (r67 : Ar 16 Int) (r68 : Int) (r118 : Ar 16 Int) (i902_1 : Nat) (i902_2 : Nat) (g : Bool) (q : Out) : Prop := q.1 = .nrm ∧ eget q.2.1 2 = .str a3 ∧ eget q.2.1 3 = .pt none (.bool a1.Stock :: (.sl none (a1.Notches.map Notch.c) :: ((arC (cI .i8) 0 a1.Grain) ++ ([] : List AV)))) ∧ eget q.2.1 4 = .pt none [.str a2.Name, .int .u32 a2.Secret] ∧ eget q.2.1 8 = .loc i902_2 1 0 0 ∧ eget q.2.1 9 = .int .i64 r68 ∧ eget q.2.1 11 = .loc i902_1 1 0 0 ∧ eget q.2.1 79 = .bool g ∧ q.2.2[i902_1]? = some (.live ⟨.box, 43, 20, [(.str ([] : List UInt8) :: (.bool false :: (.nils :: ((arC (cI .i8) 0 r118) ++ ((.nils :: []) : List AV)))))]⟩) ∧ q.2.2[i902_2]? = some (.live ⟨.box, 43, 20, [(.str ([] : List UInt8) :: (.bool false :: (.nils :: ((arC (cI .i8) 0 r67) ++ ((.nils :: []) : List AV)))))]⟩)
def laws_FnExactStartChain_c3_Q (r118 : Ar 16 Int) (r300 : Int) (i903_1 : Nat) (i903_2 : Nat) (i903_3 : Nat) (g : Bool) (q : Out) : Prop := q.1 = .nrm ∧ eget q.2.1 11 = .loc i903_1 1 0 0 ∧ eget q.2.1 14 = .int .i64 r300 ∧ eget q.2.1 108 = .bool g ∧ q.2.2[i903_1]? = some (.live ⟨.box, 43, 20, [(.str ([] : List UInt8) :: (.bool false :: (.nils :: ((arC (cI .i8) 0 r118) ++ ((.nils :: []) : List AV)))))]⟩)
def laws_FnExactStartChain_c4_Q (r118 : Ar 16 Int) (r300 : Int) (i904_1 : Nat) (i904_2 : Nat) (i904_3 : Nat) (g : Bool) (q : Out) : Prop := q.1 = .nrm ∧ eget q.2.1 11 = .loc i904_1 1 0 0 ∧ eget q.2.1 14 = .int .i64 r300 ∧ eget q.2.1 108 = .bool g ∧ q.2.2[i904_1]? = some (.live ⟨.box, 43, 20, [(.str ([] : List UInt8) :: (.bool false :: (.nils :: ((arC (cI .i8) 0 r118) ++ ((.nils :: []) : List AV)))))]⟩)
def laws_FnExactStartChain_c5_Q (a1 : Half) (a2 : Party) (a3 : List UInt8) (r67 : Ar 16 Int) (r68 : Int) (r84 : Bool) (r85 : List Notch) (r86 : Ar 16 Int) (r548 : List UInt8) (r549 : Bool) (r550 : List Notch) (r551 : Ar 16 Int) (r552 : List Mark) (i905_1 : Nat) (i905_2 : Nat) (i905_3 : Nat) (i905_4 : Nat) (i905_5 : Nat) (i905_6 : Nat) (g : Bool) (q : Out) : Prop := q.1 = .nrm ∧ eget q.2.1 2 = .str a3 ∧ eget q.2.1 3 = .pt none (.bool a1.Stock :: (.sl none (a1.Notches.map Notch.c) :: ((arC (cI .i8) 0 a1.Grain) ++ ([] : List AV)))) ∧ eget q.2.1 4 = .pt none [.str a2.Name, .int .u32 a2.Secret] ∧ eget q.2.1 8 = .loc i905_1 1 0 0 ∧ eget q.2.1 9 = .int .i64 r68 ∧ eget q.2.1 10 = .loc i905_3 1 0 0 ∧ eget q.2.1 11 = .loc (i905_4 + 2) 1 0 0 ∧ eget q.2.1 12 = .int .i64 0 ∧ eget q.2.1 58 = .bool g ∧ q.2.2[i905_4]? = some (.live ⟨.grow, 99, 2, r550.map Notch.c⟩) ∧ q.2.2[(i905_4 + 1)]? = some (.live ⟨.grow, 78, 2, r552.map Mark.c⟩) ∧ q.2.2[(i905_4 + 2)]? = some (.live ⟨.box, 43, 20, [(.str r548 :: (.bool r549 :: (.lsl i905_4 r550.length 0 r550.length :: ((arC (cI .i8) 0 r551) ++ ((.lsl (i905_4 + 1) r552.length 0 r552.length :: []) : List AV)))))]⟩) ∧ q.2.2[i905_1]? = some (.live ⟨.box, 43, 20, [(.str ([] : List UInt8) :: (.bool false :: (.nils :: ((arC (cI .i8) 0 r67) ++ ((.nils :: []) : List AV)))))]⟩) ∧ q.2.2[i905_2]? = some (.live ⟨.grow, 99, 2, r85.map Notch.c⟩) ∧ q.2.2[i905_3]? = some (.live ⟨.box, 34, 18, [(.bool r84 :: (.lsl i905_2 r85.length 0 r85.length :: ((arC (cI .i8) 0 r86) ++ ([] : List AV))))]⟩)
def laws_FnExactStartChain_c6_Q (a1 : Half) (a2 : Party) (a3 : List UInt8) (r67 : Ar 16 Int) (r68 : Int) (r548 : List UInt8) (r549 : Bool) (r550 : List Notch) (r551 : Ar 16 Int) (r552 : List Mark) (i906_1 : Nat) (i906_2 : Nat) (i906_3 : Nat) (i906_4 : Nat) (g : Bool) (q : Out) : Prop := q.1 = .nrm ∧ eget q.2.1 2 = .str a3 ∧ eget q.2.1 3 = .pt none (.bool a1.Stock :: (.sl none (a1.Notches.map Notch.c) :: ((arC (cI .i8) 0 a1.Grain) ++ ([] : List AV)))) ∧ eget q.2.1 4 = .pt none [.str a2.Name, .int .u32 a2.Secret] ∧ eget q.2.1 8 = .loc i906_4 1 0 0 ∧ eget q.2.1 9 = .int .i64 r68 ∧ eget q.2.1 11 = .loc (i906_1 + 2) 1 0 0 ∧ eget q.2.1 79 = .bool g ∧ q.2.2[i906_1]? = some (.live ⟨.grow, 99, 2, r550.map Notch.c⟩) ∧ q.2.2[(i906_1 + 1)]? = some (.live ⟨.grow, 78, 2, r552.map Mark.c⟩) ∧ q.2.2[(i906_1 + 2)]? = some (.live ⟨.box, 43, 20, [(.str r548 :: (.bool r549 :: (.lsl i906_1 r550.length 0 r550.length :: ((arC (cI .i8) 0 r551) ++ ((.lsl (i906_1 + 1) r552.length 0 r552.length :: []) : List AV)))))]⟩) ∧ q.2.2[i906_4]? = some (.live ⟨.box, 43, 20, [(.str ([] : List UInt8) :: (.bool false :: (.nils :: ((arC (cI .i8) 0 r67) ++ ((.nils :: []) : List AV)))))]⟩)
def laws_FnExactStartChain_c7_Q (r548 : List UInt8) (r549 : Bool) (r550 : List Notch) (r551 : Ar 16 Int) (r552 : List Mark) (r754 : Int) (r755 : List Notch) (r756 : List Mark) (i907_1 : Nat) (i907_2 : Nat) (i907_3 : Nat) (i907_4 : Nat) (i907_5 : Nat) (g : Bool) (q : Out) : Prop := q.1 = .nrm ∧ eget q.2.1 11 = .loc (i907_1 + 2) 1 0 0 ∧ eget q.2.1 14 = .int .i64 r754 ∧ eget q.2.1 108 = .bool g ∧ q.2.2[i907_1]? = some (.live ⟨.grow, 99, 2, r755.map Notch.c⟩) ∧ q.2.2[(i907_1 + 1)]? = some (.live ⟨.grow, 78, 2, r756.map Mark.c⟩) ∧ q.2.2[(i907_1 + 2)]? = some (.live ⟨.box, 43, 20, [(.str r548 :: (.bool r549 :: (.lsl i907_1 r550.length 0 r550.length :: ((arC (cI .i8) 0 r551) ++ ((.lsl (i907_1 + 1) r552.length 0 r552.length :: []) : List AV)))))]⟩)
def laws_FnExactStartChain_c8_Q (r548 : List UInt8) (r549 : Bool) (r550 : List Notch) (r551 : Ar 16 Int) (r552 : List Mark) (r754 : Int) (r755 : List Notch) (r756 : List Mark) (i908_1 : Nat) (i908_2 : Nat) (i908_3 : Nat) (i908_4 : Nat) (i908_5 : Nat) (g : Bool) (q : Out) : Prop := q.1 = .nrm ∧ eget q.2.1 11 = .loc (i908_1 + 2) 1 0 0 ∧ eget q.2.1 14 = .int .i64 r754 ∧ eget q.2.1 108 = .bool g ∧ q.2.2[i908_1]? = some (.live ⟨.grow, 99, 2, r755.map Notch.c⟩) ∧ q.2.2[(i908_1 + 1)]? = some (.live ⟨.grow, 78, 2, r756.map Mark.c⟩) ∧ q.2.2[(i908_1 + 2)]? = some (.live ⟨.box, 43, 20, [(.str r548 :: (.bool r549 :: (.lsl i908_1 r550.length 0 r550.length :: ((arC (cI .i8) 0 r551) ++ ((.lsl (i908_1 + 1) r552.length 0 r552.length :: []) : List AV)))))]⟩)
def laws_FnExactStartChain_c9_Q (a1 : Half) (a2 : Party) (a3 : List UInt8) (r1027 : List UInt8) (r1028 : Bool) (r1029 : List Notch) (r1030 : Ar 16 Int) (r1031 : List Mark) (r1047 : Bool) (r1048 : List Notch) (r1049 : Ar 16 Int) (r1081 : Ar 16 Int) (r1082 : Int) (i909_1 : Nat) (i909_2 : Nat) (i909_3 : Nat) (i909_4 : Nat) (g : Bool) (q : Out) : Prop := q.1 = .nrm ∧ eget q.2.1 2 = .str a3 ∧ eget q.2.1 3 = .pt none (.bool a1.Stock :: (.sl none (a1.Notches.map Notch.c) :: ((arC (cI .i8) 0 a1.Grain) ++ ([] : List AV)))) ∧ eget q.2.1 4 = .pt none [.str a2.Name, .int .u32 a2.Secret] ∧ eget q.2.1 8 = .loc i909_1 1 0 0 ∧ eget q.2.1 9 = .int .i64 0 ∧ eget q.2.1 10 = .loc i909_3 1 0 0 ∧ eget q.2.1 11 = .loc i909_4 1 0 0 ∧ eget q.2.1 12 = .int .i64 r1082 ∧ eget q.2.1 58 = .bool g ∧ q.2.2[i909_1]? = some (.live ⟨.box, 43, 20, [(.str r1027 :: (.bool r1028 :: (.sl none (r1029.map Notch.c) :: ((arC (cI .i8) 0 r1030) ++ ((.sl none (r1031.map Mark.c) :: []) : List AV)))))]⟩) ∧ q.2.2[i909_2]? = some (.live ⟨.grow, 99, 2, r1048.map Notch.c⟩) ∧ q.2.2[i909_3]? = some (.live ⟨.box, 34, 18, [(.bool r1047 :: (.lsl i909_2 r1048.length 0 r1048.length :: ((arC (cI .i8) 0 r1049) ++ ([] : List AV))))]⟩) ∧ q.2.2[i909_4]? = some (.live ⟨.box, 43, 20, [(.str ([] : List UInt8) :: (.bool false :: (.nils :: ((arC (cI .i8) 0 r1081) ++ ((.nils :: []) : List AV)))))]⟩)
def laws_FnExactStartChain_c10_Q (a1 : Half) (a2 : Party) (a3 : List UInt8) (r1027 : List UInt8) (r1028 : Bool) (r1029 : List Notch) (r1030 : Ar 16 Int) (r1031 : List Mark) (r1081 : Ar 16 Int) (i910_1 : Nat) (i910_2 : Nat) (g : Bool) (q : Out) : Prop := q.1 = .nrm ∧ eget q.2.1 2 = .str a3 ∧ eget q.2.1 3 = .pt none (.bool a1.Stock :: (.sl none (a1.Notches.map Notch.c) :: ((arC (cI .i8) 0 a1.Grain) ++ ([] : List AV)))) ∧ eget q.2.1 4 = .pt none [.str a2.Name, .int .u32 a2.Secret] ∧ eget q.2.1 8 = .loc i910_1 1 0 0 ∧ eget q.2.1 9 = .int .i64 0 ∧ eget q.2.1 11 = .loc i910_2 1 0 0 ∧ eget q.2.1 79 = .bool g ∧ q.2.2[i910_1]? = some (.live ⟨.box, 43, 20, [(.str r1027 :: (.bool r1028 :: (.sl none (r1029.map Notch.c) :: ((arC (cI .i8) 0 r1030) ++ ((.sl none (r1031.map Mark.c) :: []) : List AV)))))]⟩) ∧ q.2.2[i910_2]? = some (.live ⟨.box, 43, 20, [(.str ([] : List UInt8) :: (.bool false :: (.nils :: ((arC (cI .i8) 0 r1081) ++ ((.nils :: []) : List AV)))))]⟩)
def laws_FnExactStartChain_c11_Q (r1081 : Ar 16 Int) (r1263 : Int) (i911_1 : Nat) (i911_2 : Nat) (i911_3 : Nat) (g : Bool) (q : Out) : Prop := q.1 = .nrm ∧ eget q.2.1 11 = .loc i911_2 1 0 0 ∧ eget q.2.1 14 = .int .i64 r1263 ∧ eget q.2.1 108 = .bool g ∧ q.2.2[i911_2]? = some (.live ⟨.box, 43, 20, [(.str ([] : List UInt8) :: (.bool false :: (.nils :: ((arC (cI .i8) 0 r1081) ++ ((.nils :: []) : List AV)))))]⟩)
def laws_FnExactStartChain_c12_Q (r1081 : Ar 16 Int) (r1263 : Int) (i912_1 : Nat) (i912_2 : Nat) (i912_3 : Nat) (g : Bool) (q : Out) : Prop := q.1 = .nrm ∧ eget q.2.1 11 = .loc i912_2 1 0 0 ∧ eget q.2.1 14 = .int .i64 r1263 ∧ eget q.2.1 108 = .bool g ∧ q.2.2[i912_2]? = some (.live ⟨.box, 43, 20, [(.str ([] : List UInt8) :: (.bool false :: (.nils :: ((arC (cI .i8) 0 r1081) ++ ((.nils :: []) : List AV)))))]⟩)
def laws_FnExactStartChain_c13_Q (a1 : Half) (a2 : Party) (a3 : List UInt8) (r1027 : List UInt8) (r1028 : Bool) (r1029 : List Notch) (r1030 : Ar 16 Int) (r1031 : List Mark) (r1047 : Bool) (r1048 : List Notch) (r1049 : Ar 16 Int) (r1511 : List UInt8) (r1512 : Bool) (r1513 : List Notch) (r1514 : Ar 16 Int) (r1515 : List Mark) (i913_1 : Nat) (i913_2 : Nat) (i913_3 : Nat) (i913_4 : Nat) (i913_5 : Nat) (i913_6 : Nat) (g : Bool) (q : Out) : Prop := q.1 = .nrm ∧ eget q.2.1 2 = .str a3 ∧ eget q.2.1 3 = .pt none (.bool a1.Stock :: (.sl none (a1.Notches.map Notch.c) :: ((arC (cI .i8) 0 a1.Grain) ++ ([] : List AV)))) ∧ eget q.2.1 4 = .pt none [.str a2.Name, .int .u32 a2.Secret] ∧ eget q.2.1 8 = .loc i913_1 1 0 0 ∧ eget q.2.1 9 = .int .i64 0 ∧ eget q.2.1 10 = .loc i913_3 1 0 0 ∧ eget q.2.1 11 = .loc (i913_4 + 2) 1 0 0 ∧ eget q.2.1 12 = .int .i64 0 ∧ eget q.2.1 58 = .bool g ∧ q.2.2[i913_1]? = some (.live ⟨.box, 43, 20, [(.str r1027 :: (.bool r1028 :: (.sl none (r1029.map Notch.c) :: ((arC (cI .i8) 0 r1030) ++ ((.sl none (r1031.map Mark.c) :: []) : List AV)))))]⟩) ∧ q.2.2[i913_2]? = some (.live ⟨.grow, 99, 2, r1048.map Notch.c⟩) ∧ q.2.2[i913_3]? = some (.live ⟨.box, 34, 18, [(.bool r1047 :: (.lsl i913_2 r1048.length 0 r1048.length :: ((arC (cI .i8) 0 r1049) ++ ([] : List AV))))]⟩) ∧ q.2.2[i913_4]? = some (.live ⟨.grow, 99, 2, r1513.map Notch.c⟩) ∧ q.2.2[(i913_4 + 1)]? = some (.live ⟨.grow, 78, 2, r1515.map Mark.c⟩) ∧ q.2.2[(i913_4 + 2)]? = some (.live ⟨.box, 43, 20, [(.str r1511 :: (.bool r1512 :: (.lsl i913_4 r1513.length 0 r1513.length :: ((arC (cI .i8) 0 r1514) ++ ((.lsl (i913_4 + 1) r1515.length 0 r1515.length :: []) : List AV)))))]⟩)
def laws_FnExactStartChain_c14_Q (a1 : Half) (a2 : Party) (a3 : List UInt8) (r1027 : List UInt8) (r1028 : Bool) (r1029 : List Notch) (r1030 : Ar 16 Int) (r1031 : List Mark) (r1511 : List UInt8) (r1512 : Bool) (r1513 : List Notch) (r1514 : Ar 16 Int) (r1515 : List Mark) (i914_1 : Nat) (i914_2 : Nat) (i914_3 : Nat) (i914_4 : Nat) (g : Bool) (q : Out) : Prop := q.1 = .nrm ∧ eget q.2.1 2 = .str a3 ∧ eget q.2.1 3 = .pt none (.bool a1.Stock :: (.sl none (a1.Notches.map Notch.c) :: ((arC (cI .i8) 0 a1.Grain) ++ ([] : List AV)))) ∧ eget q.2.1 4 = .pt none [.str a2.Name, .int .u32 a2.Secret] ∧ eget q.2.1 8 = .loc i914_1 1 0 0 ∧ eget q.2.1 9 = .int .i64 0 ∧ eget q.2.1 11 = .loc (i914_2 + 2) 1 0 0 ∧ eget q.2.1 79 = .bool g ∧ q.2.2[i914_1]? = some (.live ⟨.box, 43, 20, [(.str r1027 :: (.bool r1028 :: (.sl none (r1029.map Notch.c) :: ((arC (cI .i8) 0 r1030) ++ ((.sl none (r1031.map Mark.c) :: []) : List AV)))))]⟩) ∧ q.2.2[i914_2]? = some (.live ⟨.grow, 99, 2, r1513.map Notch.c⟩) ∧ q.2.2[(i914_2 + 1)]? = some (.live ⟨.grow, 78, 2, r1515.map Mark.c⟩) ∧ q.2.2[(i914_2 + 2)]? = some (.live ⟨.box, 43, 20, [(.str r1511 :: (.bool r1512 :: (.lsl i914_2 r1513.length 0 r1513.length :: ((arC (cI .i8) 0 r1514) ++ ((.lsl (i914_2 + 1) r1515.length 0 r1515.length :: []) : List AV)))))]⟩)
def laws_FnExactStartChain_c15_Q (r1511 : List UInt8) (r1512 : Bool) (r1513 : List Notch) (r1514 : Ar 16 Int) (r1515 : List Mark) (r1717 : Int) (r1718 : List Notch) (r1719 : List Mark) (i915_1 : Nat) (i915_2 : Nat) (i915_3 : Nat) (i915_4 : Nat) (i915_5 : Nat) (g : Bool) (q : Out) : Prop := q.1 = .nrm ∧ eget q.2.1 11 = .loc (i915_2 + 2) 1 0 0 ∧ eget q.2.1 14 = .int .i64 r1717 ∧ eget q.2.1 108 = .bool g ∧ q.2.2[i915_2]? = some (.live ⟨.grow, 99, 2, r1718.map Notch.c⟩) ∧ q.2.2[(i915_2 + 1)]? = some (.live ⟨.grow, 78, 2, r1719.map Mark.c⟩) ∧ q.2.2[(i915_2 + 2)]? = some (.live ⟨.box, 43, 20, [(.str r1511 :: (.bool r1512 :: (.lsl i915_2 r1513.length 0 r1513.length :: ((arC (cI .i8) 0 r1514) ++ ((.lsl (i915_2 + 1) r1515.length 0 r1515.length :: []) : List AV)))))]⟩)
def laws_FnExactStartChain_c16_Q (r1511 : List UInt8) (r1512 : Bool) (r1513 : List Notch) (r1514 : Ar 16 Int) (r1515 : List Mark) (r1717 : Int) (r1718 : List Notch) (r1719 : List Mark) (i916_1 : Nat) (i916_2 : Nat) (i916_3 : Nat) (i916_4 : Nat) (i916_5 : Nat) (g : Bool) (q : Out) : Prop := q.1 = .nrm ∧ eget q.2.1 11 = .loc (i916_2 + 2) 1 0 0 ∧ eget q.2.1 14 = .int .i64 r1717 ∧ eget q.2.1 108 = .bool g ∧ q.2.2[i916_2]? = some (.live ⟨.grow, 99, 2, r1718.map Notch.c⟩) ∧ q.2.2[(i916_2 + 1)]? = some (.live ⟨.grow, 78, 2, r1719.map Mark.c⟩) ∧ q.2.2[(i916_2 + 2)]? = some (.live ⟨.box, 43, 20, [(.str r1511 :: (.bool r1512 :: (.lsl i916_2 r1513.length 0 r1513.length :: ((arC (cI .i8) 0 r1514) ++ ((.lsl (i916_2 + 1) r1515.length 0 r1515.length :: []) : List AV)))))]⟩)
noncomputable def laws_FnExactStartChain (a1 : Half) (a2 : Party) (a3 : List UInt8) : Option Bool :=
 if (decide ((a3.length : Int) > 1048576)) = true then
  some true
 else
  (laws_szHalf a1 1048576).bind fun r23 =>
  if (decide (r23 < 0)) = true then
   some true
  else
   (laws_szParty a2 r23).bind fun r42 =>
   if (decide (r42 < 0)) = true then
    some true
   else
    (laws_toHalf a1).bind fun (r60, r61, r62) =>
    (laws_toParty a2).bind fun (r64, r65) =>
    (spec_StartChain (Half.mk r60 r61 r62) (Party.mk r64 r65) a3).bind fun r => match r with
    | (.inl (r67, r68)) =>
     (laws_toHalf a1).bind fun (r84, r85, r86) =>
     (laws_toParty a2).bind fun (r115, r116) =>
     (impl_StartChain (Half.mk r84 r85 r86) (Party.mk r115 r116) a3).bind fun r => match r with
     | (.inl (r118, r119)) =>
      ((laws_eqChain (Chain.mk ([] : List UInt8) (Half.mk false ([] : List Notch) r118) ([] : List Mark)) (Chain.mk ([] : List UInt8) (Half.mk false ([] : List Notch) r67) ([] : List Mark))).bind fun r147 =>
      if r147 = true then
       some (r119 != r68)
      else
       some true).bind fun y173 =>
      if y173 = true then
       some false
      else
       (laws_toHalf a1).bind fun (r192, r193, r194) =>
       (laws_eqHalf (Half.mk r84 r85 r86) (Half.mk r192 r193 r194)).bind fun r196 =>
       if r196 = true then
        (laws_markHalf_l r84 r85 r86 1).bind fun (r221, r222) =>
        (if (decide (r221 < 0)) = true then
         some true
        else
         (laws_eqChain (Chain.mk ([] : List UInt8) (Half.mk false ([] : List Notch) r118) ([] : List Mark)) (Chain.mk ([] : List UInt8) (Half.mk false ([] : List Notch) r67) ([] : List Mark))).bind fun r254 =>
         if r254 = true then
          some (r119 != r68)
         else
          some true).bind fun y276 =>
        if y276 = true then
         some false
        else
         (laws_markChain_nn ([] : List UInt8) false r118 1).bind fun r300 =>
         (laws_heldChain (Chain.mk ([] : List UInt8) (Half.mk false ([] : List Notch) r118) ([] : List Mark)) 1).bind fun r327 =>
         if (decide (r327 < 0)) = true then
          some false
         else
          if (r327 != r300) = true then
           some false
          else
           (laws_toHalf a1).bind fun (r368, r369, r370) =>
           (laws_toParty a2).bind fun (r372, r373) =>
           (impl_StartChain (Half.mk r368 r369 r370) (Party.mk r372 r373) a3).bind fun r => match r with
           | (.inl (r375, r376)) =>
            ((laws_eqChain (Chain.mk ([] : List UInt8) (Half.mk false ([] : List Notch) r375) ([] : List Mark)) (Chain.mk ([] : List UInt8) (Half.mk false ([] : List Notch) r67) ([] : List Mark))).bind fun r399 =>
            if r399 = true then
             some (r376 != r68)
            else
             some true).bind fun y413 =>
            if y413 = true then
             some false
            else
             (laws_heldChain (Chain.mk ([] : List UInt8) (Half.mk false ([] : List Notch) r118) ([] : List Mark)) 1).bind fun r428 =>
             if (decide (r428 < 0)) = true then
              some false
             else
              if (r428 != r300) = true then
               some false
              else
               some true
           | (.inr (r455, r456, r457, r458, r459)) =>
            ((laws_eqChain (Chain.mk r455 (Half.mk r456 r457 r458) r459) (Chain.mk ([] : List UInt8) (Half.mk false ([] : List Notch) r67) ([] : List Mark))).bind fun r482 =>
            if r482 = true then
             some (0 != r68)
            else
             some true).bind fun y496 =>
            if y496 = true then
             some false
            else
             (laws_heldChain (Chain.mk ([] : List UInt8) (Half.mk false ([] : List Notch) r118) ([] : List Mark)) 1).bind fun r511 =>
             if (decide (r511 < 0)) = true then
              some false
             else
              if (r511 != r300) = true then
               some false
              else
               some true
       else
        some false
     | (.inr (r548, r549, r550, r551, r552)) =>
      ((laws_eqChain (Chain.mk r548 (Half.mk r549 r550 r551) r552) (Chain.mk ([] : List UInt8) (Half.mk false ([] : List Notch) r67) ([] : List Mark))).bind fun r595 =>
      if r595 = true then
       some (0 != r68)
      else
       some true).bind fun y621 =>
      if y621 = true then
       some false
      else
       (laws_toHalf a1).bind fun (r642, r643, r644) =>
       (laws_eqHalf (Half.mk r84 r85 r86) (Half.mk r642 r643 r644)).bind fun r646 =>
       if r646 = true then
        (laws_markHalf_l r84 r85 r86 1).bind fun (r671, r672) =>
        (if (decide (r671 < 0)) = true then
         some true
        else
         (laws_eqChain (Chain.mk r548 (Half.mk r549 r550 r551) r552) (Chain.mk ([] : List UInt8) (Half.mk false ([] : List Notch) r67) ([] : List Mark))).bind fun r706 =>
         if r706 = true then
          some (0 != r68)
         else
          some true).bind fun y728 =>
        if y728 = true then
         some false
        else
         (laws_markChain_ll r548 r549 r550 r551 r552 1).bind fun (r754, r755, r756) =>
         (laws_heldChain (Chain.mk r548 (Half.mk r549 r755 r551) r756) 1).bind fun r789 =>
         if (decide (r789 < 0)) = true then
          some false
         else
          if (r789 != r754) = true then
           some false
          else
           (laws_toHalf a1).bind fun (r830, r831, r832) =>
           (laws_toParty a2).bind fun (r834, r835) =>
           (impl_StartChain (Half.mk r830 r831 r832) (Party.mk r834 r835) a3).bind fun r => match r with
           | (.inl (r837, r838)) =>
            ((laws_eqChain (Chain.mk ([] : List UInt8) (Half.mk false ([] : List Notch) r837) ([] : List Mark)) (Chain.mk ([] : List UInt8) (Half.mk false ([] : List Notch) r67) ([] : List Mark))).bind fun r867 =>
            if r867 = true then
             some (r838 != r68)
            else
             some true).bind fun y881 =>
            if y881 = true then
             some false
            else
             (laws_heldChain (Chain.mk r548 (Half.mk r549 r755 r551) r756) 1).bind fun r898 =>
             if (decide (r898 < 0)) = true then
              some false
             else
              if (r898 != r754) = true then
               some false
              else
               some true
           | (.inr (r925, r926, r927, r928, r929)) =>
            ((laws_eqChain (Chain.mk r925 (Half.mk r926 r927 r928) r929) (Chain.mk ([] : List UInt8) (Half.mk false ([] : List Notch) r67) ([] : List Mark))).bind fun r958 =>
            if r958 = true then
             some (0 != r68)
            else
             some true).bind fun y972 =>
            if y972 = true then
             some false
            else
             (laws_heldChain (Chain.mk r548 (Half.mk r549 r755 r551) r756) 1).bind fun r989 =>
             if (decide (r989 < 0)) = true then
              some false
             else
              if (r989 != r754) = true then
               some false
              else
               some true
       else
        some false
    | (.inr (r1027, r1028, r1029, r1030, r1031)) =>
     (laws_toHalf a1).bind fun (r1047, r1048, r1049) =>
     (laws_toParty a2).bind fun (r1078, r1079) =>
     (impl_StartChain (Half.mk r1047 r1048 r1049) (Party.mk r1078 r1079) a3).bind fun r => match r with
     | (.inl (r1081, r1082)) =>
      ((laws_eqChain (Chain.mk ([] : List UInt8) (Half.mk false ([] : List Notch) r1081) ([] : List Mark)) (Chain.mk r1027 (Half.mk r1028 r1029 r1030) r1031)).bind fun r1110 =>
      if r1110 = true then
       some (r1082 != 0)
      else
       some true).bind fun y1136 =>
      if y1136 = true then
       some false
      else
       (laws_toHalf a1).bind fun (r1155, r1156, r1157) =>
       (laws_eqHalf (Half.mk r1047 r1048 r1049) (Half.mk r1155 r1156 r1157)).bind fun r1159 =>
       if r1159 = true then
        (laws_markHalf_l r1047 r1048 r1049 1).bind fun (r1184, r1185) =>
        (if (decide (r1184 < 0)) = true then
         some true
        else
         (laws_eqChain (Chain.mk ([] : List UInt8) (Half.mk false ([] : List Notch) r1081) ([] : List Mark)) (Chain.mk r1027 (Half.mk r1028 r1029 r1030) r1031)).bind fun r1217 =>
         if r1217 = true then
          some (r1082 != 0)
         else
          some true).bind fun y1239 =>
        if y1239 = true then
         some false
        else
         (laws_markChain_nn ([] : List UInt8) false r1081 1).bind fun r1263 =>
         (laws_heldChain (Chain.mk ([] : List UInt8) (Half.mk false ([] : List Notch) r1081) ([] : List Mark)) 1).bind fun r1290 =>
         if (decide (r1290 < 0)) = true then
          some false
         else
          if (r1290 != r1263) = true then
           some false
          else
           (laws_toHalf a1).bind fun (r1331, r1332, r1333) =>
           (laws_toParty a2).bind fun (r1335, r1336) =>
           (impl_StartChain (Half.mk r1331 r1332 r1333) (Party.mk r1335 r1336) a3).bind fun r => match r with
           | (.inl (r1338, r1339)) =>
            ((laws_eqChain (Chain.mk ([] : List UInt8) (Half.mk false ([] : List Notch) r1338) ([] : List Mark)) (Chain.mk r1027 (Half.mk r1028 r1029 r1030) r1031)).bind fun r1362 =>
            if r1362 = true then
             some (r1339 != 0)
            else
             some true).bind fun y1376 =>
            if y1376 = true then
             some false
            else
             (laws_heldChain (Chain.mk ([] : List UInt8) (Half.mk false ([] : List Notch) r1081) ([] : List Mark)) 1).bind fun r1391 =>
             if (decide (r1391 < 0)) = true then
              some false
             else
              if (r1391 != r1263) = true then
               some false
              else
               some true
           | (.inr (r1418, r1419, r1420, r1421, r1422)) =>
            ((laws_eqChain (Chain.mk r1418 (Half.mk r1419 r1420 r1421) r1422) (Chain.mk r1027 (Half.mk r1028 r1029 r1030) r1031)).bind fun r1445 =>
            if r1445 = true then
             some false
            else
             some true).bind fun y1459 =>
            if y1459 = true then
             some false
            else
             (laws_heldChain (Chain.mk ([] : List UInt8) (Half.mk false ([] : List Notch) r1081) ([] : List Mark)) 1).bind fun r1474 =>
             if (decide (r1474 < 0)) = true then
              some false
             else
              if (r1474 != r1263) = true then
               some false
              else
               some true
       else
        some false
     | (.inr (r1511, r1512, r1513, r1514, r1515)) =>
      ((laws_eqChain (Chain.mk r1511 (Half.mk r1512 r1513 r1514) r1515) (Chain.mk r1027 (Half.mk r1028 r1029 r1030) r1031)).bind fun r1558 =>
      if r1558 = true then
       some false
      else
       some true).bind fun y1584 =>
      if y1584 = true then
       some false
      else
       (laws_toHalf a1).bind fun (r1605, r1606, r1607) =>
       (laws_eqHalf (Half.mk r1047 r1048 r1049) (Half.mk r1605 r1606 r1607)).bind fun r1609 =>
       if r1609 = true then
        (laws_markHalf_l r1047 r1048 r1049 1).bind fun (r1634, r1635) =>
        (if (decide (r1634 < 0)) = true then
         some true
        else
         (laws_eqChain (Chain.mk r1511 (Half.mk r1512 r1513 r1514) r1515) (Chain.mk r1027 (Half.mk r1028 r1029 r1030) r1031)).bind fun r1669 =>
         if r1669 = true then
          some false
         else
          some true).bind fun y1691 =>
        if y1691 = true then
         some false
        else
         (laws_markChain_ll r1511 r1512 r1513 r1514 r1515 1).bind fun (r1717, r1718, r1719) =>
         (laws_heldChain (Chain.mk r1511 (Half.mk r1512 r1718 r1514) r1719) 1).bind fun r1752 =>
         if (decide (r1752 < 0)) = true then
          some false
         else
          if (r1752 != r1717) = true then
           some false
          else
           (laws_toHalf a1).bind fun (r1793, r1794, r1795) =>
           (laws_toParty a2).bind fun (r1797, r1798) =>
           (impl_StartChain (Half.mk r1793 r1794 r1795) (Party.mk r1797 r1798) a3).bind fun r => match r with
           | (.inl (r1800, r1801)) =>
            ((laws_eqChain (Chain.mk ([] : List UInt8) (Half.mk false ([] : List Notch) r1800) ([] : List Mark)) (Chain.mk r1027 (Half.mk r1028 r1029 r1030) r1031)).bind fun r1830 =>
            if r1830 = true then
             some (r1801 != 0)
            else
             some true).bind fun y1844 =>
            if y1844 = true then
             some false
            else
             (laws_heldChain (Chain.mk r1511 (Half.mk r1512 r1718 r1514) r1719) 1).bind fun r1861 =>
             if (decide (r1861 < 0)) = true then
              some false
             else
              if (r1861 != r1717) = true then
               some false
              else
               some true
           | (.inr (r1888, r1889, r1890, r1891, r1892)) =>
            ((laws_eqChain (Chain.mk r1888 (Half.mk r1889 r1890 r1891) r1892) (Chain.mk r1027 (Half.mk r1028 r1029 r1030) r1031)).bind fun r1921 =>
            if r1921 = true then
             some false
            else
             some true).bind fun y1935 =>
            if y1935 = true then
             some false
            else
             (laws_heldChain (Chain.mk r1511 (Half.mk r1512 r1718 r1514) r1719) 1).bind fun r1952 =>
             if (decide (r1952 < 0)) = true then
              some false
             else
              if (r1952 != r1717) = true then
               some false
              else
               some true
       else
        some false
def laws_FnExactStartChain_enc (r : Bool) : AV := .bool r
theorem laws_FnExactStartChain_ok (a1 : Half) (a2 : Party) (a3 : List UInt8) (r : Bool) (h : laws_FnExactStartChain a1 a2 a3 = some r) : Ev (fun k => CN k 4 [.agg (.bool a1.Stock :: (.sl none (a1.Notches.map Notch.c) :: ((arC (cI .i8) 0 a1.Grain) ++ ([] : List AV)))), .agg [.str a2.Name, .int .u32 a2.Secret], .str a3] []) (fun p => rRes p.2 p.1 = laws_FnExactStartChain_enc r) := by
 unfold laws_FnExactStartChain at h
 refine Ev.enter (F := fun k => f4 (CN k) k) (fun k => callN_eq rfl Tryd.func4 rfl rfl rfl (by decide +kernel) (f4_eq _ _)) (sq (Rg (kx (bxI rfl rfl ⟨rfl, rfl, by decide⟩) (kx (bxI rfl rfl ⟨rfl, rfl, by decide⟩) (kx (mvO rfl) (Rn (hN rfl (hN rfl (hN rfl hZ))) fun e1 h3 h4 h5 => sN (sq (sq (Rg (kx (mvO h3) (kx (lnB Tryd.underlying9 rfl) (kx (bGtr rfl rfl) (Rn (hA h3 (hA h4 (hA h5 (hN rfl hZ)))) fun e6 h8 h9 h10 h11 => sN ?_)))))))))))))
 clear h3 h4 h5
 rcases ite_some h with ⟨hb12, h⟩ | ⟨hb12, h⟩
 ·refine cT h11 hb12 (sq (Rg (kx (mvO rfl) (Rn (hV (.bool true) rfl hZ) fun e13 h15 => sN (xx (sR ?_))))))
  clear h10 h11 h8 h9
  obtain rfl := si h
  exact eR (resT h15 res0) rfl
 obtain ⟨r23, hx22, h⟩ := bind_some h
 refine cF h11 hb12 (xx (sN (sq (Rg (kx (mvO rfl) (Rn (hA h8 (hA h9 (hA h10 (hV (.int .i64 1048576) rfl hZ)))) fun e16 h18 h19 h20 h21 => sN (sq (Rg (kx (ldPA h19 rfl rfl) (kx (mvO h21) (kc (cl (v := .int .i64 r23) rfl (cns rfl (cns rfl rfl)) rfl (laws_szHalf_ok a1 1048576 _ hx22) nm) (kx (mvO rfl) (Rn (hA h18 (hA h19 (hA h20 (hN rfl hZ)))) fun e24 h26 h27 h28 h29 => sN (sq (sq (Rg (kx (mvO h29) (kx (bLss rfl rfl) (Rn (hA h26 (hA h27 (hA h28 (hA h29 (hN rfl hZ))))) fun e30 h32 h33 h34 h35 h36 => sN ?_)))))))))))))))))))
 clear h10 h11 h8 h9 h18 h19 h20 h26 h27 h28 h29
 rcases ite_some h with ⟨hb37, h⟩ | ⟨hb37, h⟩
 ·refine cT h36 hb37 (sq (Rg (kx (mvO rfl) (Rn (hV (.bool true) rfl hZ) fun e38 h40 => sN (xx (sR ?_))))))
  clear h32 h33 h34 h35 h36
  obtain rfl := si h
  exact eR (resT h40 res0) rfl
 obtain ⟨r42, hx41, h⟩ := bind_some h
 refine cF h36 hb37 (xx (sN (sq (Rg (kx (ldPA h34 rfl rfl) (kx (mvO h35) (kc (cl (v := .int .i64 r42) rfl (cns rfl (cns rfl rfl)) rfl (laws_szParty_ok a2 r23 _ hx41) nm) (kx (mvO rfl) (Rn (hA h32 (hA h33 (hA h34 (hN rfl hZ)))) fun e43 h45 h46 h47 h48 => sN (sq (sq (Rg (kx (mvO h48) (kx (bLss rfl rfl) (Rn (hA h45 (hA h46 (hA h47 (hN rfl hZ)))) fun e49 h51 h52 h53 h54 => sN ?_)))))))))))))))
 clear h32 h33 h34 h36 h45 h46 h47 h48
 rcases ite_some h with ⟨hb55, h⟩ | ⟨hb55, h⟩
 ·refine cT h54 hb55 (sq (Rg (kx (mvO rfl) (Rn (hV (.bool true) rfl hZ) fun e56 h58 => sN (xx (sR ?_))))))
  clear h51 h52 h53 h54
  obtain rfl := si h
  exact eR (resT h58 res0) rfl
 obtain ⟨⟨r60, r61, r62⟩, hx59, h⟩ := bind_some h
 obtain ⟨⟨r64, r65⟩, hx63, h⟩ := bind_some h
 obtain ⟨q1990, hx66, h⟩ := bind_some h
 refine cF h54 hb55 (xx (sN (sq (Rd (kf (ldPA h52 rfl rfl) (fc (cl (v := .agg (.bool r60 :: (.sl (some 99) (r61.map Notch.c) :: ((arC (cI .i8) 0 r62) ++ ([] : List AV))))) rfl (cns rfl rfl) rfl (laws_toHalf_ok a1 _ hx59) nm) (kf (ldPA h53 rfl rfl) (fc (cl (v := .agg [.str r64, .int .u32 r65]) rfl (cns rfl rfl) rfl (laws_toParty_ok a2 _ hx63) nm) (kf (mvO h51) ?_)))))))))
 rcases q1990 with ⟨r67, r68⟩ | ⟨r1027, r1028, r1029, r1030, r1031⟩
 ·refine fc (cl (v := .tup [.agg (.str ([] : List UInt8) :: (.bool false :: (.nils :: ((arC (cI .i8) 0 r67) ++ ((.nils :: []) : List AV))))), .int .i64 r68]) rfl (cns rfl (cns rfl (cns rfl rfl))) rfl (spec_StartChain_ok (Half.mk r60 r61 r62) (Party.mk r64 r65) a3 _ hx66) nm) (kf (mvO rfl) (kf (exT rfl rfl) (kf (exT rfl rfl) (Ev.nfpushE (alO zero43) (Ev.fend1 fun M70 hM71 => ?_)))))
  have hM71 := fendM hM71 [⟨.box, 43, 20, [(.str ([] : List UInt8) :: (.bool false :: (.nils :: ((arC (cI .i8) 0 (Ar.rep 16 0)) ++ ((.nils :: []) : List AV)))))]⟩] rfl
  have o72 : M70[([] : Mem).length]? = some (.live ⟨.box, 43, 20, [(.str ([] : List UInt8) :: (.bool false :: (.nils :: ((arC (cI .i8) 0 (Ar.rep 16 0)) ++ ((.nils :: []) : List AV)))))]⟩) := push_at hM71 0 rfl
  refine kw (stO rfl rfl o72 rfl rfl ⟨rfl, ble rfl⟩ rfl rfl) fun M73 hM74 => ?_
  have o75 : M73[([] : Mem).length]? = some (.live ⟨.box, 43, 20, [(.str ([] : List UInt8) :: (.bool false :: (.nils :: ((arC (cI .i8) 0 r67) ++ ((.nils :: []) : List AV)))))]⟩) := set_same hM74 o72
  obtain ⟨⟨r84, r85, r86⟩, hx83, h⟩ := bind_some h
  refine kx (mvO rfl) (Rn (hA h51 (hA h52 (hA h53 (hV (.loc ([] : Mem).length 1 0 0) rfl (hN rfl hZ))))) fun e76 h78 h79 h80 h81 h82 => sN (sq (Rg (kx (ldPA h79 rfl rfl) (Ev.nxcp (Ev.callT (v := .agg (.bool r84 :: (.sl (some 99) (r85.map Notch.c) :: ((arC (cI .i8) 0 r86) ++ ([] : List AV))))) rfl (cns rfl rfl) rfl (laws_toHalf_ok a1 _ hx83) (th_gen (v' := .agg (.bool r84 :: (.lsl M73.length r85.length 0 r85.length :: ((arC (cI .i8) 0 r86) ++ ([] : List AV))))) (l := [⟨.grow, 99, 2, r85.map Notch.c⟩]) (own_agg (oa1 rfl (oa1 (own1_row' (c := Notch.c) Notch.flF) (oaA (fun _ => own1_flat) (fun _ => rfl) oa0)))) (by simp [thaw, thaw2, thaw1, thawL, co99, thA (c := (cI .i8)) (fun _ => rfl), thA0 (c := (cI .i8)) (fun _ => rfl)]) rfl rfl)) fun M88 hM89 => ?_)))))
  clear h51 h52 h53 h54
  have o90 := push_old hM89 o75
  have ne91 : ([] : Mem).length ≠ M73.length := by have := lt_of_get (M := M73) o75; omega
  have o92 : M88[M73.length]? = some (.live ⟨.grow, 99, 2, r85.map Notch.c⟩) := push_at hM89 0 rfl
  refine ku (alO zero34) fun M94 hM95 => ?_
  have o96 := push_old hM95 o90
  have ne97 := ne_new o90
  have o98 := push_old hM95 o92
  have ne99 := ne_new o92
  have o100 : M94[M88.length]? = some (.live ⟨.box, 34, 18, [(.bool false :: (.nils :: ((arC (cI .i8) 0 (Ar.rep 16 0)) ++ ([] : List AV))))]⟩) := push_new hM95
  refine kw (stO rfl rfl o100 rfl rfl ⟨rfl, ble rfl⟩ (all1 rfl (all1 (okL o98 (by simp)) (oaS (fun _ => rfl) all0))) rfl) fun M101 hM102 => ?_
  have o103 := set_ne hM102 ne97 o96
  have o104 := set_ne hM102 ne99 o98
  have o105 : M101[M88.length]? = some (.live ⟨.box, 34, 18, [(.bool r84 :: (.lsl M73.length r85.length 0 r85.length :: ((arC (cI .i8) 0 r86) ++ ([] : List AV))))]⟩) := set_same hM102 o100
  obtain ⟨⟨r115, r116⟩, hx114, h⟩ := bind_some h
  obtain ⟨q1026, hx117, h⟩ := bind_some h
  refine Rn (hA h78 (hA h79 (hA h80 (hA h81 (hA h82 (hV (.loc M88.length 1 0 0) rfl hZ)))))) fun e106 h108 h109 h110 h111 h112 h113 => sN (sq (Rd (kf (ldOA (cs' := (.bool r84 :: (.lsl M73.length r85.length 0 r85.length :: ((arC (cI .i8) 0 r86) ++ ([] : List AV))))) h113 o105 rfl rfl (ble rfl) rfl) (kf (ldPA h110 rfl rfl) (fc (cl (v := .agg [.str r115, .int .u32 r116]) rfl (cns rfl rfl) rfl (laws_toParty_ok a2 _ hx114) nm) (kf (mvO h108) ?_))))))
  clear h78 h79 h80 h81 h82
  rcases q1026 with ⟨r118, r119⟩ | ⟨r548, r549, r550, r551, r552⟩
  ·refine Ev.nfcpE (Ev.callT (v := .tup [.agg (.str ([] : List UInt8) :: (.bool false :: (.nils :: ((arC (cI .i8) 0 r118) ++ ((.nils :: []) : List AV))))), .int .i64 r119]) rfl (cns rfl (cns rfl (cns rfl rfl))) (ra1 (ra_agg (mp1 rfl (mp1 (ra1_row o104 rfl Notch.fl) (mpA (fun _ => rArg1_flat) (fun _ => rfl) mp0)))) (ra1 rfl (ra1 rfl ra0))) (impl_StartChain_ok (Half.mk r84 r85 r86) (Party.mk r115 r116) a3 _ hx117) (th_gen (v' := .tup [.agg (.str ([] : List UInt8) :: (.bool false :: (.nils :: ((arC (cI .i8) 0 r118) ++ ((.nils :: []) : List AV))))), .int .i64 r119]) (l := []) (own_tup (oa1 (own2_agg (oa1 rfl (oa1 rfl (oa1 rfl (oaA (fun _ => own1_flat) (fun _ => rfl) (oa1 rfl oa0)))))) (oa1 rfl oa0))) (by simp [thaw, thaw2, thaw1, thawL, thA (c := (cI .i8)) (fun _ => rfl), thA0 (c := (cI .i8)) (fun _ => rfl)]) rfl rfl)) (kf (mvO rfl) (kf (exT rfl rfl) (kf (exT rfl rfl) (Ev.nfpushE (alO zero43) (Ev.fend1 fun M121 hM122 => ?_)))))
   have hM122 := fendM hM122 [⟨.box, 43, 20, [(.str ([] : List UInt8) :: (.bool false :: (.nils :: ((arC (cI .i8) 0 (Ar.rep 16 0)) ++ ((.nils :: []) : List AV)))))]⟩] rfl
   have o123 := push_old hM122 o103
   have o124 := push_old hM122 o104
   have o125 := push_old hM122 o105
   have ne126 : ([] : Mem).length ≠ M101.length := by have := lt_of_get (M := M101) o103; omega
   have ne127 : M73.length ≠ M101.length := by have := lt_of_get (M := M101) o104; omega
   have ne128 : M88.length ≠ M101.length := by have := lt_of_get (M := M101) o105; omega
   have o129 : M121[M101.length]? = some (.live ⟨.box, 43, 20, [(.str ([] : List UInt8) :: (.bool false :: (.nils :: ((arC (cI .i8) 0 (Ar.rep 16 0)) ++ ((.nils :: []) : List AV)))))]⟩) := push_at hM122 0 rfl
   refine kw (stO rfl rfl o129 rfl rfl ⟨rfl, ble rfl⟩ rfl rfl) fun M130 hM131 => ?_
   have o132 := set_ne hM131 ne126 o123
   have o133 := set_ne hM131 ne127 o124
   have o134 := set_ne hM131 ne128 o125
   have o135 : M130[M101.length]? = some (.live ⟨.box, 43, 20, [(.str ([] : List UInt8) :: (.bool false :: (.nils :: ((arC (cI .i8) 0 r118) ++ ((.nils :: []) : List AV)))))]⟩) := set_same hM131 o129
   obtain ⟨r546, hr547, h⟩ := bind_some h
   refine kx (mvO rfl) (Rn (hA h108 (hA h109 (hA h110 (hA h111 (hA h112 (hA h113 (hV (.loc M101.length 1 0 0) rfl (hN rfl hZ)))))))) fun e136 h138 h139 h140 h141 h142 h143 h144 h145 => sN (sq (sq ?_)))
   clear h108 h109 h110 h111 h112 h113
   refine Ev.cut (Q1 := laws_FnExactStartChain_c1_Q a1 a2 a3 r67 r68 r84 r85 r86 r118 r119 (([] : Mem).length) M73.length M88.length M101.length r546) (by
       have h := hr547
       obtain ⟨r147, hx146, h⟩ := bind_some h
       refine Rg (kx (ldOA (cs' := (.str ([] : List UInt8) :: (.bool false :: (.nils :: ((arC (cI .i8) 0 r118) ++ ((.nils :: []) : List AV)))))) h144 o135 rfl rfl (ble rfl) rfl) (kx (ldOA (cs' := (.str ([] : List UInt8) :: (.bool false :: (.nils :: ((arC (cI .i8) 0 r67) ++ ((.nils :: []) : List AV)))))) h141 o132 rfl rfl (ble rfl) rfl) (kc (cl (v := .bool r147) rfl (cns rfl (cns rfl rfl)) rfl (laws_eqChain_ok (Chain.mk ([] : List UInt8) (Half.mk false ([] : List Notch) r118) ([] : List Mark)) (Chain.mk ([] : List UInt8) (Half.mk false ([] : List Notch) r67) ([] : List Mark)) _ hx146) nm) (kx (uNot rfl) (kx (mvO rfl) ?_)))))
       rcases ite_some h with ⟨hb148, h⟩ | ⟨hb148, h⟩
       ·refine kx (guF rfl (congrArg Bool.not hb148) (mvO h145)) (kx (guF rfl (congrArg Bool.not hb148) (mvO h142)) (kx (guF rfl (congrArg Bool.not hb148) (bNeq rfl rfl)) (kx (pkF rfl (congrArg Bool.not hb148) rfl) (Rn (hA h138 (hA h139 (hA h140 (hA h141 (hA h142 (hA h143 (hA h144 (hA h145 (hN rfl hZ))))))))) fun e149 h151 h152 h153 h154 h155 h156 h157 h158 h159 => ?_))))
        clear h138 h139 h140 h141 h142 h143 h144 h145
        obtain rfl := si h
        exact kd (show laws_FnExactStartChain_c1_Q a1 a2 a3 r67 r68 r84 r85 r86 r118 r119 (([] : Mem).length) M73.length M88.length M101.length _ _ from ⟨rfl, h151, h152, h153, h154, h155, h156, h157, h158, h159, o135, o132, o133, o134⟩)
       refine kx (gsF rfl (congrArg Bool.not hb148)) (kx (gsF rfl (congrArg Bool.not hb148)) (kx (gsF rfl (congrArg Bool.not hb148)) (kx (pkT rfl (congrArg Bool.not hb148) rfl) (Rn (hA h138 (hA h139 (hA h140 (hA h141 (hA h142 (hA h143 (hA h144 (hA h145 (hV (.bool true) rfl hZ))))))))) fun e160 h162 h163 h164 h165 h166 h167 h168 h169 h170 => ?_))))
       clear h138 h139 h140 h141 h142 h143 h144 h145
       obtain rfl := si h
       exact kd (show laws_FnExactStartChain_c1_Q a1 a2 a3 r67 r68 r84 r85 r86 r118 r119 (([] : Mem).length) M73.length M88.length M101.length _ _ from ⟨rfl, h162, h163, h164, h165, h166, h167, h168, h169, h170, o135, o132, o133, o134⟩)) ?_
   revert h hr547
   revert r546
   intro y173 hr547 h
   intro x e171 M172 hq545
   obtain ⟨rfl, h174, h175, h176, h177, h178, h179, h180, h181, h182, o183, o184, o185, o186⟩ := hq545
   refine sN ?_
   rcases ite_some h with ⟨hb187, h⟩ | ⟨hb187, h⟩
   ·refine cT h182 hb187 (sq (Rg (kx (mvO rfl) (Rn (hV (.bool false) rfl hZ) fun e188 h190 => sN (xx (sR ?_))))))
    clear h174 h175 h176 h177 h178 h179 h180 h181 h182
    obtain rfl := si h
    exact eR (resT h190 res0) rfl
   obtain ⟨⟨r192, r193, r194⟩, hx191, h⟩ := bind_some h
   obtain ⟨r196, hx195, h⟩ := bind_some h
   refine cF h182 hb187 (xx (sN (sq (sq (Rd (kf (ldOA (cs' := (.bool r84 :: (.lsl M73.length r85.length 0 r85.length :: ((arC (cI .i8) 0 r86) ++ ([] : List AV))))) h179 o186 rfl rfl (ble rfl) rfl) (kf (ldPA h175 rfl rfl) (fc (cl (v := .agg (.bool r192 :: (.sl (some 99) (r193.map Notch.c) :: ((arC (cI .i8) 0 r194) ++ ([] : List AV))))) rfl (cns rfl rfl) rfl (laws_toHalf_ok a1 _ hx191) nm) (fc (cl (v := .bool r196) rfl (cns rfl (cns rfl rfl)) (ra1 (ra_agg (mp1 rfl (mp1 (ra1_row o185 rfl Notch.fl) (mpA (fun _ => rArg1_flat) (fun _ => rfl) mp0)))) (ra1 rfl ra0)) (laws_eqHalf_ok (Half.mk r84 r85 r86) (Half.mk r192 r193 r194) _ hx195) (fun _ => rfl)) (kf (uNot rfl) (fZ (Rn (hV (.str a3) h174 (hV (.pt none (.bool a1.Stock :: (.sl none (a1.Notches.map Notch.c) :: ((arC (cI .i8) 0 a1.Grain) ++ ([] : List AV))))) h175 (hV (.pt none [.str a2.Name, .int .u32 a2.Secret]) h176 (hV (.loc ([] : Mem).length 1 0 0) h177 (hV (.int .i64 r68) h178 (hV (.loc M88.length 1 0 0) h179 (hV (.loc M101.length 1 0 0) h180 (hV (.int .i64 r119) h181 (hN rfl hZ))))))))) fun e197 h199 h200 h201 h202 h203 h204 h205 h206 h207 => sN ?_))))))))))))
   clear h174 h175 h176 h177 h178 h179 h180 h181 h182
   rcases ite_some h with ⟨hb208, h⟩ | ⟨hb208, h⟩
   ·obtain ⟨⟨r221, r222⟩, hx220, h⟩ := bind_some h
    refine cF h207 (congrArg Bool.not hb208) (xx (sN (sq (Rg (kx (mvO rfl) (Rn (hA h199 (hA h200 (hA h201 (hA h202 (hA h203 (hA h204 (hA h205 (hA h206 (hV (.int .i64 1) rfl hZ))))))))) fun e209 h211 h212 h213 h214 h215 h216 h217 h218 h219 => sN (sq (Rg (kx (ldOA (cs' := (.bool r84 :: (.lsl M73.length r85.length 0 r85.length :: ((arC (cI .i8) 0 r86) ++ ([] : List AV))))) h216 o186 rfl rfl (ble rfl) rfl) (kx (mvO h219) (Ev.nxw (Ev.callW rfl (cns rfl (cns rfl rfl)) (laws_markHalf_l_ok r84 r85 r86 1 M73.length M172 o185 _ hx220)) fun v225 M223 hq224 => ?_)))))))))))
    clear h199 h200 h201 h202 h203 h204 h205 h206 h207
    obtain ⟨hv225, o226, fr227, hl228⟩ := hq224
    have hv225 : v225 = .int .i64 r221 := hv225
    subst hv225
    have o229 : M223[M73.length]? = some (.live ⟨.grow, 99, 2, r222.map Notch.c⟩) := o226
    have hl228 : r222.length = r85.length := hl228
    have o230 : M223[M101.length]? = some (.live ⟨.box, 43, 20, [(.str ([] : List UInt8) :: (.bool false :: (.nils :: ((arC (cI .i8) 0 r118) ++ ((.nils :: []) : List AV)))))]⟩) := fr227 _ _ (niC (Ne.symm ne127) niN) o183
    have o231 : M223[([] : Mem).length]? = some (.live ⟨.box, 43, 20, [(.str ([] : List UInt8) :: (.bool false :: (.nils :: ((arC (cI .i8) 0 r67) ++ ((.nils :: []) : List AV)))))]⟩) := fr227 _ _ (niC ne91 niN) o184
    have o232 : M223[M88.length]? = some (.live ⟨.box, 34, 18, [(.bool r84 :: (.lsl M73.length r85.length 0 r85.length :: ((arC (cI .i8) 0 r86) ++ ([] : List AV))))]⟩) := fr227 _ _ (niC (Ne.symm ne99) niN) o186
    obtain ⟨r540, hr541, h⟩ := bind_some h
    refine kx (mvO rfl) (Rn (hA h211 (hA h212 (hA h213 (hA h214 (hA h215 (hA h217 (hA h218 (hN rfl hZ)))))))) fun e233 h235 h236 h237 h238 h239 h240 h241 h242 => sN (sq (sq ?_)))
    clear h211 h212 h213 h214 h215 h216 h217 h218
    refine Ev.cut (Q1 := laws_FnExactStartChain_c2_Q a1 a2 a3 r67 r68 r118 M101.length (([] : Mem).length) r540) (by
        have h := hr541
        refine Rg (kx (mvO h242) (kx (bLss rfl rfl) (kx (mvO rfl) ?_)))
        rcases ite_some h with ⟨hb243, h⟩ | ⟨hb243, h⟩
        ·refine kx (gsF rfl hb243) (kx (gsF rfl hb243) (kc (Ev.gsF rfl hb243) (kx (gsF rfl hb243) (kx (pkT rfl hb243 rfl) (kx (mvO rfl) (kx (gsF rfl rfl) (kx (gsF rfl rfl) (kx (gsF rfl rfl) (kx (pkT rfl rfl rfl) (Rn (hA h235 (hA h236 (hA h237 (hA h238 (hA h239 (hA h240 (hV (.bool true) rfl hZ))))))) fun e244 h246 h247 h248 h249 h250 h251 h252 => ?_))))))))))
         clear h235 h236 h237 h238 h239 h240 h241 h242
         obtain rfl := si h
         exact kd (show laws_FnExactStartChain_c2_Q a1 a2 a3 r67 r68 r118 M101.length (([] : Mem).length) _ _ from ⟨rfl, h246, h247, h248, h249, h250, h251, h252, o230, o231⟩)
        obtain ⟨r254, hx253, h⟩ := bind_some h
        refine kx (guF rfl hb243 (ldOA (cs' := (.str ([] : List UInt8) :: (.bool false :: (.nils :: ((arC (cI .i8) 0 r118) ++ ((.nils :: []) : List AV)))))) h240 o230 rfl rfl (ble rfl) rfl)) (kx (guF rfl hb243 (ldOA (cs' := (.str ([] : List UInt8) :: (.bool false :: (.nils :: ((arC (cI .i8) 0 r67) ++ ((.nils :: []) : List AV)))))) h238 o231 rfl rfl (ble rfl) rfl)) (kc (Ev.guF rfl hb243 (cl (v := .bool r254) rfl (cns rfl (cns rfl rfl)) rfl (laws_eqChain_ok (Chain.mk ([] : List UInt8) (Half.mk false ([] : List Notch) r118) ([] : List Mark)) (Chain.mk ([] : List UInt8) (Half.mk false ([] : List Notch) r67) ([] : List Mark)) _ hx253) nm)) (kx (guF rfl hb243 (uNot rfl)) (kx (pkF rfl hb243 rfl) (kx (mvO rfl) ?_)))))
        rcases ite_some h with ⟨hb255, h⟩ | ⟨hb255, h⟩
        ·refine kx (guF rfl (congrArg Bool.not hb255) (mvO h241)) (kx (guF rfl (congrArg Bool.not hb255) (mvO h239)) (kx (guF rfl (congrArg Bool.not hb255) (bNeq rfl rfl)) (kx (pkF rfl (congrArg Bool.not hb255) rfl) (Rn (hA h235 (hA h236 (hA h237 (hA h238 (hA h239 (hA h240 (hN rfl hZ))))))) fun e256 h258 h259 h260 h261 h262 h263 h264 => ?_))))
         clear h235 h236 h237 h238 h239 h240 h241 h242
         obtain rfl := si h
         exact kd (show laws_FnExactStartChain_c2_Q a1 a2 a3 r67 r68 r118 M101.length (([] : Mem).length) _ _ from ⟨rfl, h258, h259, h260, h261, h262, h263, h264, o230, o231⟩)
        refine kx (gsF rfl (congrArg Bool.not hb255)) (kx (gsF rfl (congrArg Bool.not hb255)) (kx (gsF rfl (congrArg Bool.not hb255)) (kx (pkT rfl (congrArg Bool.not hb255) rfl) (Rn (hA h235 (hA h236 (hA h237 (hA h238 (hA h239 (hA h240 (hV (.bool true) rfl hZ))))))) fun e265 h267 h268 h269 h270 h271 h272 h273 => ?_))))
        clear h235 h236 h237 h238 h239 h240 h241 h242
        obtain rfl := si h
        exact kd (show laws_FnExactStartChain_c2_Q a1 a2 a3 r67 r68 r118 M101.length (([] : Mem).length) _ _ from ⟨rfl, h267, h268, h269, h270, h271, h272, h273, o230, o231⟩)) ?_
    revert h hr541
    revert r540
    intro y276 hr541 h
    intro x e274 M275 hq539
    obtain ⟨rfl, h277, h278, h279, h280, h281, h282, h283, o284, o285⟩ := hq539
    refine sN ?_
    rcases ite_some h with ⟨hb286, h⟩ | ⟨hb286, h⟩
    ·refine cT h283 hb286 (sq (Rg (kx (mvO rfl) (Rn (hV (.bool false) rfl hZ) fun e287 h289 => sN (xx (sR ?_))))))
     clear h277 h278 h279 h280 h281 h282 h283
     obtain rfl := si h
     exact eR (resT h289 res0) rfl
    obtain ⟨r300, hx299, h⟩ := bind_some h
    refine cF h283 hb286 (xx (sN (sq (Rg (kx (mvO rfl) (Rn (hV (.str a3) h277 (hV (.pt none (.bool a1.Stock :: (.sl none (a1.Notches.map Notch.c) :: ((arC (cI .i8) 0 a1.Grain) ++ ([] : List AV))))) h278 (hV (.pt none [.str a2.Name, .int .u32 a2.Secret]) h279 (hV (.loc ([] : Mem).length 1 0 0) h280 (hV (.int .i64 r68) h281 (hV (.loc M101.length 1 0 0) h282 (hV (.int .i64 1) rfl hZ))))))) fun e290 h292 h293 h294 h295 h296 h297 h298 => sN (sq (Rg (kx (ldOA (cs' := (.str ([] : List UInt8) :: (.bool false :: (.nils :: ((arC (cI .i8) 0 r118) ++ ((.nils :: []) : List AV)))))) h297 o284 rfl rfl (ble rfl) rfl) (kx (mvO h298) (Ev.nxw (Ev.callW rfl (cns rfl (cns rfl rfl)) (laws_markChain_nn_ok ([] : List UInt8) false r118 1 M275 _ hx299)) fun v303 M301 hq302 => ?_)))))))))))
    clear h277 h278 h279 h280 h281 h282 h283
    obtain ⟨hv303, fr304⟩ := hq302
    have hv303 : v303 = .int .i64 r300 := hv303
    subst hv303
    have o305 : M301[M101.length]? = some (.live ⟨.box, 43, 20, [(.str ([] : List UInt8) :: (.bool false :: (.nils :: ((arC (cI .i8) 0 r118) ++ ((.nils :: []) : List AV)))))]⟩) := fr304 _ _ niN o284
    have o306 : M301[([] : Mem).length]? = some (.live ⟨.box, 43, 20, [(.str ([] : List UInt8) :: (.bool false :: (.nils :: ((arC (cI .i8) 0 r67) ++ ((.nils :: []) : List AV)))))]⟩) := fr304 _ _ niN o285
    obtain ⟨r327, hx326, h⟩ := bind_some h
    refine kx (mvO rfl) (Rn (hA h292 (hA h293 (hA h294 (hA h295 (hA h296 (hA h297 (hN rfl hZ))))))) fun e307 h309 h310 h311 h312 h313 h314 h315 => sN (sq (Rg (kx (mvO rfl) (Rn (hA h309 (hA h310 (hA h311 (hA h312 (hA h313 (hA h314 (hA h315 (hV (.int .i64 1) rfl hZ)))))))) fun e316 h318 h319 h320 h321 h322 h323 h324 h325 => sN (sq (Rg (kx (ldOA (cs' := (.str ([] : List UInt8) :: (.bool false :: (.nils :: ((arC (cI .i8) 0 r118) ++ ((.nils :: []) : List AV)))))) h323 o305 rfl rfl (ble rfl) rfl) (kx (mvO h325) (kc (cl (v := .int .i64 r327) rfl (cns rfl (cns rfl rfl)) rfl (laws_heldChain_ok (Chain.mk ([] : List UInt8) (Half.mk false ([] : List Notch) r118) ([] : List Mark)) 1 _ hx326) nm) (kx (mvO rfl) (Rn (hA h318 (hA h319 (hA h320 (hA h321 (hA h322 (hA h323 (hA h324 (hN rfl hZ)))))))) fun e328 h330 h331 h332 h333 h334 h335 h336 h337 => sN (sq (sq (Rg (kx (mvO h337) (kx (bLss rfl rfl) (Rn (hA h330 (hA h331 (hA h332 (hA h333 (hA h334 (hA h335 (hA h336 (hA h337 (hN rfl hZ))))))))) fun e338 h340 h341 h342 h343 h344 h345 h346 h347 h348 => sN ?_))))))))))))))))))
    clear h292 h293 h294 h295 h296 h297 h309 h310 h311 h312 h313 h314 h315 h318 h319 h320 h321 h322 h323 h324 h330 h331 h332 h333 h334 h335 h336 h337
    rcases ite_some h with ⟨hb349, h⟩ | ⟨hb349, h⟩
    ·refine cT h348 hb349 (sq (Rg (kx (mvO rfl) (Rn (hV (.bool false) rfl hZ) fun e350 h352 => sN (xx (sR ?_))))))
     clear h340 h341 h342 h343 h344 h345 h346 h347 h348
     obtain rfl := si h
     exact eR (resT h352 res0) rfl
    refine cF h348 hb349 (xx (sN (sq (sq (Rg (kx (mvO h347) (kx (mvO h346) (kx (bNeq rfl rfl) (Rn (hA h340 (hA h341 (hA h342 (hA h343 (hA h344 (hA h345 (hA h346 (hN rfl hZ)))))))) fun e353 h355 h356 h357 h358 h359 h360 h361 h362 => sN ?_)))))))))
    clear h340 h341 h342 h343 h344 h345 h346 h347 h348
    rcases ite_some h with ⟨hb363, h⟩ | ⟨hb363, h⟩
    ·refine cT h362 hb363 (sq (Rg (kx (mvO rfl) (Rn (hV (.bool false) rfl hZ) fun e364 h366 => sN (xx (sR ?_))))))
     clear h355 h356 h357 h358 h359 h360 h361 h362
     obtain rfl := si h
     exact eR (resT h366 res0) rfl
    obtain ⟨⟨r368, r369, r370⟩, hx367, h⟩ := bind_some h
    obtain ⟨⟨r372, r373⟩, hx371, h⟩ := bind_some h
    obtain ⟨q538, hx374, h⟩ := bind_some h
    refine cF h362 hb363 (xx (sN (sq (Rd (kf (ldPA h356 rfl rfl) (fc (cl (v := .agg (.bool r368 :: (.sl (some 99) (r369.map Notch.c) :: ((arC (cI .i8) 0 r370) ++ ([] : List AV))))) rfl (cns rfl rfl) rfl (laws_toHalf_ok a1 _ hx367) nm) (kf (ldPA h357 rfl rfl) (fc (cl (v := .agg [.str r372, .int .u32 r373]) rfl (cns rfl rfl) rfl (laws_toParty_ok a2 _ hx371) nm) (kf (mvO h355) ?_)))))))))
    rcases q538 with ⟨r375, r376⟩ | ⟨r455, r456, r457, r458, r459⟩
    ·refine fc (cl (v := .tup [.agg (.str ([] : List UInt8) :: (.bool false :: (.nils :: ((arC (cI .i8) 0 r375) ++ ((.nils :: []) : List AV))))), .int .i64 r376]) rfl (cns rfl (cns rfl (cns rfl rfl))) rfl (impl_StartChain_ok (Half.mk r368 r369 r370) (Party.mk r372 r373) a3 _ hx374) nm) (kf (mvO rfl) (kf (exT rfl rfl) (kf (exT rfl rfl) (Ev.nfpushE (alO zero43) (Ev.fend1 fun M378 hM379 => ?_)))))
     have hM379 := fendM hM379 [⟨.box, 43, 20, [(.str ([] : List UInt8) :: (.bool false :: (.nils :: ((arC (cI .i8) 0 (Ar.rep 16 0)) ++ ((.nils :: []) : List AV)))))]⟩] rfl
     have o380 := push_old hM379 o305
     have o381 := push_old hM379 o306
     have ne382 : M101.length ≠ M301.length := by have := lt_of_get (M := M301) o305; omega
     have ne383 : ([] : Mem).length ≠ M301.length := by have := lt_of_get (M := M301) o306; omega
     have o384 : M378[M301.length]? = some (.live ⟨.box, 43, 20, [(.str ([] : List UInt8) :: (.bool false :: (.nils :: ((arC (cI .i8) 0 (Ar.rep 16 0)) ++ ((.nils :: []) : List AV)))))]⟩) := push_at hM379 0 rfl
     refine kw (stO rfl rfl o384 rfl rfl ⟨rfl, ble rfl⟩ rfl rfl) fun M385 hM386 => ?_
     have o387 := set_ne hM386 ne382 o380
     have o388 := set_ne hM386 ne383 o381
     have o389 : M385[M301.length]? = some (.live ⟨.box, 43, 20, [(.str ([] : List UInt8) :: (.bool false :: (.nils :: ((arC (cI .i8) 0 r375) ++ ((.nils :: []) : List AV)))))]⟩) := set_same hM386 o384
     obtain ⟨r453, hr454, h⟩ := bind_some h
     refine kx (mvO rfl) (Rn (hA h358 (hA h359 (hA h360 (hA h361 (hV (.loc M301.length 1 0 0) rfl (hN rfl hZ)))))) fun e390 h392 h393 h394 h395 h396 h397 => sN (sq (sq ?_)))
     clear h355 h356 h357 h358 h359 h360 h361 h362
     refine Ev.cut (Q1 := laws_FnExactStartChain_c3_Q r118 r300 M101.length (([] : Mem).length) M301.length r453) (by
         have h := hr454
         obtain ⟨r399, hx398, h⟩ := bind_some h
         refine Rg (kx (ldOA (cs' := (.str ([] : List UInt8) :: (.bool false :: (.nils :: ((arC (cI .i8) 0 r375) ++ ((.nils :: []) : List AV)))))) h396 o389 rfl rfl (ble rfl) rfl) (kx (ldOA (cs' := (.str ([] : List UInt8) :: (.bool false :: (.nils :: ((arC (cI .i8) 0 r67) ++ ((.nils :: []) : List AV)))))) h392 o388 rfl rfl (ble rfl) rfl) (kc (cl (v := .bool r399) rfl (cns rfl (cns rfl rfl)) rfl (laws_eqChain_ok (Chain.mk ([] : List UInt8) (Half.mk false ([] : List Notch) r375) ([] : List Mark)) (Chain.mk ([] : List UInt8) (Half.mk false ([] : List Notch) r67) ([] : List Mark)) _ hx398) nm) (kx (uNot rfl) (kx (mvO rfl) ?_)))))
         rcases ite_some h with ⟨hb400, h⟩ | ⟨hb400, h⟩
         ·refine kx (guF rfl (congrArg Bool.not hb400) (mvO h397)) (kx (guF rfl (congrArg Bool.not hb400) (mvO h393)) (kx (guF rfl (congrArg Bool.not hb400) (bNeq rfl rfl)) (kx (pkF rfl (congrArg Bool.not hb400) rfl) (Rn (hA h394 (hA h395 (hN rfl hZ))) fun e401 h403 h404 h405 => ?_))))
          clear h392 h393 h394 h395 h396 h397
          obtain rfl := si h
          exact kd (show laws_FnExactStartChain_c3_Q r118 r300 M101.length (([] : Mem).length) M301.length _ _ from ⟨rfl, h403, h404, h405, o387⟩)
         refine kx (gsF rfl (congrArg Bool.not hb400)) (kx (gsF rfl (congrArg Bool.not hb400)) (kx (gsF rfl (congrArg Bool.not hb400)) (kx (pkT rfl (congrArg Bool.not hb400) rfl) (Rn (hA h394 (hA h395 (hV (.bool true) rfl hZ))) fun e406 h408 h409 h410 => ?_))))
         clear h392 h393 h394 h395 h396 h397
         obtain rfl := si h
         exact kd (show laws_FnExactStartChain_c3_Q r118 r300 M101.length (([] : Mem).length) M301.length _ _ from ⟨rfl, h408, h409, h410, o387⟩)) ?_
     revert h hr454
     revert r453
     intro y413 hr454 h
     intro x e411 M412 hq452
     obtain ⟨rfl, h414, h415, h416, o417⟩ := hq452
     refine sN ?_
     rcases ite_some h with ⟨hb418, h⟩ | ⟨hb418, h⟩
     ·refine cT h416 hb418 (sq (Rg (kx (mvO rfl) (Rn (hV (.bool false) rfl hZ) fun e419 h421 => sN (xx (sR ?_))))))
      clear h414 h415 h416
      obtain rfl := si h
      exact eR (resT h421 res0) rfl
     obtain ⟨r428, hx427, h⟩ := bind_some h
     refine cF h416 hb418 (xx (sN (sq (Rg (kx (mvO rfl) (Rn (hV (.loc M101.length 1 0 0) h414 (hV (.int .i64 r300) h415 (hV (.int .i64 1) rfl hZ))) fun e422 h424 h425 h426 => sN (sq (Rg (kx (ldOA (cs' := (.str ([] : List UInt8) :: (.bool false :: (.nils :: ((arC (cI .i8) 0 r118) ++ ((.nils :: []) : List AV)))))) h424 o417 rfl rfl (ble rfl) rfl) (kx (mvO h426) (kc (cl (v := .int .i64 r428) rfl (cns rfl (cns rfl rfl)) rfl (laws_heldChain_ok (Chain.mk ([] : List UInt8) (Half.mk false ([] : List Notch) r118) ([] : List Mark)) 1 _ hx427) nm) (kx (mvO rfl) (Rn (hA h425 (hN rfl hZ)) fun e429 h431 h432 => sN (sq (sq (Rg (kx (mvO h432) (kx (bLss rfl rfl) (Rn (hA h431 (hA h432 (hN rfl hZ))) fun e433 h435 h436 h437 => sN ?_)))))))))))))))))))
     clear h414 h415 h416 h424 h425 h431 h432
     rcases ite_some h with ⟨hb438, h⟩ | ⟨hb438, h⟩
     ·refine cT h437 hb438 (sq (Rg (kx (mvO rfl) (Rn (hV (.bool false) rfl hZ) fun e439 h441 => sN (xx (sR ?_))))))
      clear h435 h436 h437
      obtain rfl := si h
      exact eR (resT h441 res0) rfl
     refine cF h437 hb438 (xx (sN (sq (sq (Rg (kx (mvO h436) (kx (mvO h435) (kx (bNeq rfl rfl) (Rn (hN rfl hZ) fun e442 h444 => sN ?_)))))))))
     clear h435 h436 h437
     rcases ite_some h with ⟨hb445, h⟩ | ⟨hb445, h⟩
     ·refine cT h444 hb445 (sq (Rg (kx (mvO rfl) (Rn (hV (.bool false) rfl hZ) fun e446 h448 => sN (xx (sR ?_))))))
      clear h444
      obtain rfl := si h
      exact eR (resT h448 res0) rfl
     refine cF h444 hb445 (xx (sN (sq (Rg (kx (mvO rfl) (Rn (hV (.bool true) rfl hZ) fun e449 h451 => sN (xx ?_)))))))
     clear h444
     obtain rfl := si h
     exact eR (resT h451 res0) rfl
    refine fc (cl (v := .tup [.agg (.str r455 :: (.bool r456 :: (.sl (some 99) (r457.map Notch.c) :: ((arC (cI .i8) 0 r458) ++ ((.sl (some 78) (r459.map Mark.c) :: []) : List AV))))), .int .i64 0]) rfl (cns rfl (cns rfl (cns rfl rfl))) rfl (impl_StartChain_ok (Half.mk r368 r369 r370) (Party.mk r372 r373) a3 _ hx374) nm) (kf (mvO rfl) (kf (exT rfl rfl) (kf (exT rfl rfl) (Ev.nfpushE (alO zero43) (Ev.fend1 fun M461 hM462 => ?_)))))
    have hM462 := fendM hM462 [⟨.box, 43, 20, [(.str ([] : List UInt8) :: (.bool false :: (.nils :: ((arC (cI .i8) 0 (Ar.rep 16 0)) ++ ((.nils :: []) : List AV)))))]⟩] rfl
    have o463 := push_old hM462 o305
    have o464 := push_old hM462 o306
    have ne465 : M101.length ≠ M301.length := by have := lt_of_get (M := M301) o305; omega
    have ne466 : ([] : Mem).length ≠ M301.length := by have := lt_of_get (M := M301) o306; omega
    have o467 : M461[M301.length]? = some (.live ⟨.box, 43, 20, [(.str ([] : List UInt8) :: (.bool false :: (.nils :: ((arC (cI .i8) 0 (Ar.rep 16 0)) ++ ((.nils :: []) : List AV)))))]⟩) := push_at hM462 0 rfl
    refine kw (stO rfl rfl o467 rfl rfl ⟨rfl, ble rfl⟩ rfl rfl) fun M468 hM469 => ?_
    have o470 := set_ne hM469 ne465 o463
    have o471 := set_ne hM469 ne466 o464
    have o472 : M468[M301.length]? = some (.live ⟨.box, 43, 20, [(.str r455 :: (.bool r456 :: (.sl none (r457.map Notch.c) :: ((arC (cI .i8) 0 r458) ++ ((.sl none (r459.map Mark.c) :: []) : List AV)))))]⟩) := set_same hM469 o467
    obtain ⟨r536, hr537, h⟩ := bind_some h
    refine kx (mvO rfl) (Rn (hA h358 (hA h359 (hA h360 (hA h361 (hV (.loc M301.length 1 0 0) rfl (hV (.int .i64 0) rfl hZ)))))) fun e473 h475 h476 h477 h478 h479 h480 => sN (sq (sq ?_)))
    clear h355 h356 h357 h358 h359 h360 h361 h362
    refine Ev.cut (Q1 := laws_FnExactStartChain_c4_Q r118 r300 M101.length (([] : Mem).length) M301.length r536) (by
        have h := hr537
        obtain ⟨r482, hx481, h⟩ := bind_some h
        refine Rg (kx (ldOA (cs' := (.str r455 :: (.bool r456 :: (.sl none (r457.map Notch.c) :: ((arC (cI .i8) 0 r458) ++ ((.sl none (r459.map Mark.c) :: []) : List AV)))))) h479 o472 rfl rfl (ble rfl) rfl) (kx (ldOA (cs' := (.str ([] : List UInt8) :: (.bool false :: (.nils :: ((arC (cI .i8) 0 r67) ++ ((.nils :: []) : List AV)))))) h475 o471 rfl rfl (ble rfl) rfl) (kc (cl (v := .bool r482) rfl (cns rfl (cns rfl rfl)) rfl (laws_eqChain_ok (Chain.mk r455 (Half.mk r456 r457 r458) r459) (Chain.mk ([] : List UInt8) (Half.mk false ([] : List Notch) r67) ([] : List Mark)) _ hx481) nm) (kx (uNot rfl) (kx (mvO rfl) ?_)))))
        rcases ite_some h with ⟨hb483, h⟩ | ⟨hb483, h⟩
        ·refine kx (guF rfl (congrArg Bool.not hb483) (mvO h480)) (kx (guF rfl (congrArg Bool.not hb483) (mvO h476)) (kx (guF rfl (congrArg Bool.not hb483) (bNeq rfl rfl)) (kx (pkF rfl (congrArg Bool.not hb483) rfl) (Rn (hA h477 (hA h478 (hN rfl hZ))) fun e484 h486 h487 h488 => ?_))))
         clear h475 h476 h477 h478 h479 h480
         obtain rfl := si h
         exact kd (show laws_FnExactStartChain_c4_Q r118 r300 M101.length (([] : Mem).length) M301.length _ _ from ⟨rfl, h486, h487, h488, o470⟩)
        refine kx (gsF rfl (congrArg Bool.not hb483)) (kx (gsF rfl (congrArg Bool.not hb483)) (kx (gsF rfl (congrArg Bool.not hb483)) (kx (pkT rfl (congrArg Bool.not hb483) rfl) (Rn (hA h477 (hA h478 (hV (.bool true) rfl hZ))) fun e489 h491 h492 h493 => ?_))))
        clear h475 h476 h477 h478 h479 h480
        obtain rfl := si h
        exact kd (show laws_FnExactStartChain_c4_Q r118 r300 M101.length (([] : Mem).length) M301.length _ _ from ⟨rfl, h491, h492, h493, o470⟩)) ?_
    revert h hr537
    revert r536
    intro y496 hr537 h
    intro x e494 M495 hq535
    obtain ⟨rfl, h497, h498, h499, o500⟩ := hq535
    refine sN ?_
    rcases ite_some h with ⟨hb501, h⟩ | ⟨hb501, h⟩
    ·refine cT h499 hb501 (sq (Rg (kx (mvO rfl) (Rn (hV (.bool false) rfl hZ) fun e502 h504 => sN (xx (sR ?_))))))
     clear h497 h498 h499
     obtain rfl := si h
     exact eR (resT h504 res0) rfl
    obtain ⟨r511, hx510, h⟩ := bind_some h
    refine cF h499 hb501 (xx (sN (sq (Rg (kx (mvO rfl) (Rn (hV (.loc M101.length 1 0 0) h497 (hV (.int .i64 r300) h498 (hV (.int .i64 1) rfl hZ))) fun e505 h507 h508 h509 => sN (sq (Rg (kx (ldOA (cs' := (.str ([] : List UInt8) :: (.bool false :: (.nils :: ((arC (cI .i8) 0 r118) ++ ((.nils :: []) : List AV)))))) h507 o500 rfl rfl (ble rfl) rfl) (kx (mvO h509) (kc (cl (v := .int .i64 r511) rfl (cns rfl (cns rfl rfl)) rfl (laws_heldChain_ok (Chain.mk ([] : List UInt8) (Half.mk false ([] : List Notch) r118) ([] : List Mark)) 1 _ hx510) nm) (kx (mvO rfl) (Rn (hA h508 (hN rfl hZ)) fun e512 h514 h515 => sN (sq (sq (Rg (kx (mvO h515) (kx (bLss rfl rfl) (Rn (hA h514 (hA h515 (hN rfl hZ))) fun e516 h518 h519 h520 => sN ?_)))))))))))))))))))
    clear h497 h498 h499 h507 h508 h514 h515
    rcases ite_some h with ⟨hb521, h⟩ | ⟨hb521, h⟩
    ·refine cT h520 hb521 (sq (Rg (kx (mvO rfl) (Rn (hV (.bool false) rfl hZ) fun e522 h524 => sN (xx (sR ?_))))))
     clear h518 h519 h520
     obtain rfl := si h
     exact eR (resT h524 res0) rfl
    refine cF h520 hb521 (xx (sN (sq (sq (Rg (kx (mvO h519) (kx (mvO h518) (kx (bNeq rfl rfl) (Rn (hN rfl hZ) fun e525 h527 => sN ?_)))))))))
    clear h518 h519 h520
    rcases ite_some h with ⟨hb528, h⟩ | ⟨hb528, h⟩
    ·refine cT h527 hb528 (sq (Rg (kx (mvO rfl) (Rn (hV (.bool false) rfl hZ) fun e529 h531 => sN (xx (sR ?_))))))
     clear h527
     obtain rfl := si h
     exact eR (resT h531 res0) rfl
    refine cF h527 hb528 (xx (sN (sq (Rg (kx (mvO rfl) (Rn (hV (.bool true) rfl hZ) fun e532 h534 => sN (xx ?_)))))))
    clear h527
    obtain rfl := si h
    exact eR (resT h534 res0) rfl
   refine cT h207 (congrArg Bool.not hb208) (sq (Rg (kx (mvO rfl) (Rn (hV (.bool false) rfl hZ) fun e542 h544 => sN (xx (sR ?_))))))
   clear h199 h200 h201 h202 h203 h204 h205 h206 h207
   obtain rfl := si h
   exact eR (resT h544 res0) rfl
  refine Ev.nfcpE (Ev.callT (v := .tup [.agg (.str r548 :: (.bool r549 :: (.sl (some 99) (r550.map Notch.c) :: ((arC (cI .i8) 0 r551) ++ ((.sl (some 78) (r552.map Mark.c) :: []) : List AV))))), .int .i64 0]) rfl (cns rfl (cns rfl (cns rfl rfl))) (ra1 (ra_agg (mp1 rfl (mp1 (ra1_row o104 rfl Notch.fl) (mpA (fun _ => rArg1_flat) (fun _ => rfl) mp0)))) (ra1 rfl (ra1 rfl ra0))) (impl_StartChain_ok (Half.mk r84 r85 r86) (Party.mk r115 r116) a3 _ hx117) (th_gen (v' := .tup [.agg (.str r548 :: (.bool r549 :: (.lsl M101.length r550.length 0 r550.length :: ((arC (cI .i8) 0 r551) ++ ((.lsl (M101.length + 1) r552.length 0 r552.length :: []) : List AV))))), .int .i64 0]) (l := [⟨.grow, 99, 2, r550.map Notch.c⟩, ⟨.grow, 78, 2, r552.map Mark.c⟩]) (own_tup (oa1 (own2_agg (oa1 rfl (oa1 rfl (oa1 (own1_row' (c := Notch.c) Notch.flF) (oaA (fun _ => own1_flat) (fun _ => rfl) (oa1 (own1_row' (c := Mark.c) Mark.flF) oa0)))))) (oa1 rfl oa0))) (by simp [thaw, thaw2, thaw1, thawL, co99, co78, thA (c := (cI .i8)) (fun _ => rfl), thA0 (c := (cI .i8)) (fun _ => rfl)]) rfl rfl)) (kf (mvO rfl) (kf (exT rfl rfl) (kf (exT rfl rfl) (Ev.nfpushE (alO zero43) (Ev.fend1 fun M556 hM557 => ?_)))))
  have hM557 := fendM hM557 [⟨.grow, 99, 2, r550.map Notch.c⟩, ⟨.grow, 78, 2, r552.map Mark.c⟩, ⟨.box, 43, 20, [(.str ([] : List UInt8) :: (.bool false :: (.nils :: ((arC (cI .i8) 0 (Ar.rep 16 0)) ++ ((.nils :: []) : List AV)))))]⟩] rfl
  have o558 := push_old hM557 o103
  have o559 := push_old hM557 o104
  have o560 := push_old hM557 o105
  have ne561 : ([] : Mem).length ≠ M101.length := by have := lt_of_get (M := M101) o103; omega
  have ne562 : M73.length ≠ M101.length := by have := lt_of_get (M := M101) o104; omega
  have ne563 : M88.length ≠ M101.length := by have := lt_of_get (M := M101) o105; omega
  have o564 : M556[M101.length]? = some (.live ⟨.grow, 99, 2, r550.map Notch.c⟩) := push_at hM557 0 rfl
  have ne565 : ([] : Mem).length ≠ (M101.length + 1) := by have := lt_of_get (M := M101) o103; omega
  have ne566 : M73.length ≠ (M101.length + 1) := by have := lt_of_get (M := M101) o104; omega
  have ne567 : M88.length ≠ (M101.length + 1) := by have := lt_of_get (M := M101) o105; omega
  have ne568 : M101.length ≠ (M101.length + 1) := by omega
  have o569 : M556[(M101.length + 1)]? = some (.live ⟨.grow, 78, 2, r552.map Mark.c⟩) := push_at hM557 1 rfl
  have ne570 : ([] : Mem).length ≠ (M101.length + 2) := by have := lt_of_get (M := M101) o103; omega
  have ne571 : M73.length ≠ (M101.length + 2) := by have := lt_of_get (M := M101) o104; omega
  have ne572 : M88.length ≠ (M101.length + 2) := by have := lt_of_get (M := M101) o105; omega
  have ne573 : M101.length ≠ (M101.length + 2) := by omega
  have ne574 : (M101.length + 1) ≠ (M101.length + 2) := by omega
  have o575 : M556[(M101.length + 2)]? = some (.live ⟨.box, 43, 20, [(.str ([] : List UInt8) :: (.bool false :: (.nils :: ((arC (cI .i8) 0 (Ar.rep 16 0)) ++ ((.nils :: []) : List AV)))))]⟩) := push_at hM557 2 rfl
  refine kw (stO rfl rfl o575 rfl rfl ⟨rfl, ble rfl⟩ (all1 rfl (all1 rfl (all1 (okL o564 (by simp)) (oaS (fun _ => rfl) (all1 (okL o569 (by simp)) all0))))) rfl) fun M576 hM577 => ?_
  have o578 := set_ne hM577 ne570 o558
  have o579 := set_ne hM577 ne571 o559
  have o580 := set_ne hM577 ne572 o560
  have o581 := set_ne hM577 ne573 o564
  have o582 := set_ne hM577 ne574 o569
  have o583 : M576[(M101.length + 2)]? = some (.live ⟨.box, 43, 20, [(.str r548 :: (.bool r549 :: (.lsl M101.length r550.length 0 r550.length :: ((arC (cI .i8) 0 r551) ++ ((.lsl (M101.length + 1) r552.length 0 r552.length :: []) : List AV)))))]⟩) := set_same hM577 o575
  obtain ⟨r1024, hr1025, h⟩ := bind_some h
  refine kx (mvO rfl) (Rn (hA h108 (hA h109 (hA h110 (hA h111 (hA h112 (hA h113 (hV (.loc (M101.length + 2) 1 0 0) rfl (hV (.int .i64 0) rfl hZ)))))))) fun e584 h586 h587 h588 h589 h590 h591 h592 h593 => sN (sq (sq ?_)))
  clear h108 h109 h110 h111 h112 h113
  refine Ev.cut (Q1 := laws_FnExactStartChain_c5_Q a1 a2 a3 r67 r68 r84 r85 r86 r548 r549 r550 r551 r552 (([] : Mem).length) M73.length M88.length M101.length (M101.length + 1) (M101.length + 2) r1024) (by
      have h := hr1025
      obtain ⟨r595, hx594, h⟩ := bind_some h
      refine Rg (kx (ldOA (cs' := (.str r548 :: (.bool r549 :: (.lsl M101.length r550.length 0 r550.length :: ((arC (cI .i8) 0 r551) ++ ((.lsl (M101.length + 1) r552.length 0 r552.length :: []) : List AV)))))) h592 o583 rfl rfl (ble rfl) rfl) (kx (ldOA (cs' := (.str ([] : List UInt8) :: (.bool false :: (.nils :: ((arC (cI .i8) 0 r67) ++ ((.nils :: []) : List AV)))))) h589 o578 rfl rfl (ble rfl) rfl) (kc (cl (v := .bool r595) rfl (cns rfl (cns rfl rfl)) (ra1 (ra_agg (mp1 rfl (mp1 rfl (mp1 (ra1_row o581 rfl Notch.fl) (mpA (fun _ => rArg1_flat) (fun _ => rfl) (mp1 (ra1_row o582 rfl Mark.fl) mp0)))))) (ra1 rfl ra0)) (laws_eqChain_ok (Chain.mk r548 (Half.mk r549 r550 r551) r552) (Chain.mk ([] : List UInt8) (Half.mk false ([] : List Notch) r67) ([] : List Mark)) _ hx594) (fun _ => rfl)) (kx (uNot rfl) (kx (mvO rfl) ?_)))))
      rcases ite_some h with ⟨hb596, h⟩ | ⟨hb596, h⟩
      ·refine kx (guF rfl (congrArg Bool.not hb596) (mvO h593)) (kx (guF rfl (congrArg Bool.not hb596) (mvO h590)) (kx (guF rfl (congrArg Bool.not hb596) (bNeq rfl rfl)) (kx (pkF rfl (congrArg Bool.not hb596) rfl) (Rn (hA h586 (hA h587 (hA h588 (hA h589 (hA h590 (hA h591 (hA h592 (hA h593 (hN rfl hZ))))))))) fun e597 h599 h600 h601 h602 h603 h604 h605 h606 h607 => ?_))))
       clear h586 h587 h588 h589 h590 h591 h592 h593
       obtain rfl := si h
       exact kd (show laws_FnExactStartChain_c5_Q a1 a2 a3 r67 r68 r84 r85 r86 r548 r549 r550 r551 r552 (([] : Mem).length) M73.length M88.length M101.length (M101.length + 1) (M101.length + 2) _ _ from ⟨rfl, h599, h600, h601, h602, h603, h604, h605, h606, h607, o581, o582, o583, o578, o579, o580⟩)
      refine kx (gsF rfl (congrArg Bool.not hb596)) (kx (gsF rfl (congrArg Bool.not hb596)) (kx (gsF rfl (congrArg Bool.not hb596)) (kx (pkT rfl (congrArg Bool.not hb596) rfl) (Rn (hA h586 (hA h587 (hA h588 (hA h589 (hA h590 (hA h591 (hA h592 (hA h593 (hV (.bool true) rfl hZ))))))))) fun e608 h610 h611 h612 h613 h614 h615 h616 h617 h618 => ?_))))
      clear h586 h587 h588 h589 h590 h591 h592 h593
      obtain rfl := si h
      exact kd (show laws_FnExactStartChain_c5_Q a1 a2 a3 r67 r68 r84 r85 r86 r548 r549 r550 r551 r552 (([] : Mem).length) M73.length M88.length M101.length (M101.length + 1) (M101.length + 2) _ _ from ⟨rfl, h610, h611, h612, h613, h614, h615, h616, h617, h618, o581, o582, o583, o578, o579, o580⟩)) ?_
  revert h hr1025
  revert r1024
  intro y621 hr1025 h
  intro x e619 M620 hq1023
  obtain ⟨rfl, h622, h623, h624, h625, h626, h627, h628, h629, h630, o631, o632, o633, o634, o635, o636⟩ := hq1023
  refine sN ?_
  rcases ite_some h with ⟨hb637, h⟩ | ⟨hb637, h⟩
  ·refine cT h630 hb637 (sq (Rg (kx (mvO rfl) (Rn (hV (.bool false) rfl hZ) fun e638 h640 => sN (xx (sR ?_))))))
   clear h622 h623 h624 h625 h626 h627 h628 h629 h630
   obtain rfl := si h
   exact eR (resT h640 res0) rfl
  obtain ⟨⟨r642, r643, r644⟩, hx641, h⟩ := bind_some h
  obtain ⟨r646, hx645, h⟩ := bind_some h
  refine cF h630 hb637 (xx (sN (sq (sq (Rd (kf (ldOA (cs' := (.bool r84 :: (.lsl M73.length r85.length 0 r85.length :: ((arC (cI .i8) 0 r86) ++ ([] : List AV))))) h627 o636 rfl rfl (ble rfl) rfl) (kf (ldPA h623 rfl rfl) (fc (cl (v := .agg (.bool r642 :: (.sl (some 99) (r643.map Notch.c) :: ((arC (cI .i8) 0 r644) ++ ([] : List AV))))) rfl (cns rfl rfl) rfl (laws_toHalf_ok a1 _ hx641) nm) (fc (cl (v := .bool r646) rfl (cns rfl (cns rfl rfl)) (ra1 (ra_agg (mp1 rfl (mp1 (ra1_row o635 rfl Notch.fl) (mpA (fun _ => rArg1_flat) (fun _ => rfl) mp0)))) (ra1 rfl ra0)) (laws_eqHalf_ok (Half.mk r84 r85 r86) (Half.mk r642 r643 r644) _ hx645) (fun _ => rfl)) (kf (uNot rfl) (fZ (Rn (hV (.str a3) h622 (hV (.pt none (.bool a1.Stock :: (.sl none (a1.Notches.map Notch.c) :: ((arC (cI .i8) 0 a1.Grain) ++ ([] : List AV))))) h623 (hV (.pt none [.str a2.Name, .int .u32 a2.Secret]) h624 (hV (.loc ([] : Mem).length 1 0 0) h625 (hV (.int .i64 r68) h626 (hV (.loc M88.length 1 0 0) h627 (hV (.loc (M101.length + 2) 1 0 0) h628 (hV (.int .i64 0) h629 (hN rfl hZ))))))))) fun e647 h649 h650 h651 h652 h653 h654 h655 h656 h657 => sN ?_))))))))))))
  clear h622 h623 h624 h625 h626 h627 h628 h629 h630
  rcases ite_some h with ⟨hb658, h⟩ | ⟨hb658, h⟩
  ·obtain ⟨⟨r671, r672⟩, hx670, h⟩ := bind_some h
   refine cF h657 (congrArg Bool.not hb658) (xx (sN (sq (Rg (kx (mvO rfl) (Rn (hA h649 (hA h650 (hA h651 (hA h652 (hA h653 (hA h654 (hA h655 (hA h656 (hV (.int .i64 1) rfl hZ))))))))) fun e659 h661 h662 h663 h664 h665 h666 h667 h668 h669 => sN (sq (Rg (kx (ldOA (cs' := (.bool r84 :: (.lsl M73.length r85.length 0 r85.length :: ((arC (cI .i8) 0 r86) ++ ([] : List AV))))) h666 o636 rfl rfl (ble rfl) rfl) (kx (mvO h669) (Ev.nxw (Ev.callW rfl (cns rfl (cns rfl rfl)) (laws_markHalf_l_ok r84 r85 r86 1 M73.length M620 o635 _ hx670)) fun v675 M673 hq674 => ?_)))))))))))
   clear h649 h650 h651 h652 h653 h654 h655 h656 h657
   obtain ⟨hv675, o676, fr677, hl678⟩ := hq674
   have hv675 : v675 = .int .i64 r671 := hv675
   subst hv675
   have o679 : M673[M73.length]? = some (.live ⟨.grow, 99, 2, r672.map Notch.c⟩) := o676
   have hl678 : r672.length = r85.length := hl678
   have o680 : M673[M101.length]? = some (.live ⟨.grow, 99, 2, r550.map Notch.c⟩) := fr677 _ _ (niC (Ne.symm ne562) niN) o631
   have o681 : M673[(M101.length + 1)]? = some (.live ⟨.grow, 78, 2, r552.map Mark.c⟩) := fr677 _ _ (niC (Ne.symm ne566) niN) o632
   have o682 : M673[(M101.length + 2)]? = some (.live ⟨.box, 43, 20, [(.str r548 :: (.bool r549 :: (.lsl M101.length r550.length 0 r550.length :: ((arC (cI .i8) 0 r551) ++ ((.lsl (M101.length + 1) r552.length 0 r552.length :: []) : List AV)))))]⟩) := fr677 _ _ (niC (Ne.symm ne571) niN) o633
   have o683 : M673[([] : Mem).length]? = some (.live ⟨.box, 43, 20, [(.str ([] : List UInt8) :: (.bool false :: (.nils :: ((arC (cI .i8) 0 r67) ++ ((.nils :: []) : List AV)))))]⟩) := fr677 _ _ (niC ne91 niN) o634
   have o684 : M673[M88.length]? = some (.live ⟨.box, 34, 18, [(.bool r84 :: (.lsl M73.length r85.length 0 r85.length :: ((arC (cI .i8) 0 r86) ++ ([] : List AV))))]⟩) := fr677 _ _ (niC (Ne.symm ne99) niN) o636
   obtain ⟨r1018, hr1019, h⟩ := bind_some h
   refine kx (mvO rfl) (Rn (hA h661 (hA h662 (hA h663 (hA h664 (hA h665 (hA h667 (hA h668 (hN rfl hZ)))))))) fun e685 h687 h688 h689 h690 h691 h692 h693 h694 => sN (sq (sq ?_)))
   clear h661 h662 h663 h664 h665 h666 h667 h668
   refine Ev.cut (Q1 := laws_FnExactStartChain_c6_Q a1 a2 a3 r67 r68 r548 r549 r550 r551 r552 M101.length (M101.length + 1) (M101.length + 2) (([] : Mem).length) r1018) (by
       have h := hr1019
       refine Rg (kx (mvO h694) (kx (bLss rfl rfl) (kx (mvO rfl) ?_)))
       rcases ite_some h with ⟨hb695, h⟩ | ⟨hb695, h⟩
       ·refine kx (gsF rfl hb695) (kx (gsF rfl hb695) (kc (Ev.gsF rfl hb695) (kx (gsF rfl hb695) (kx (pkT rfl hb695 rfl) (kx (mvO rfl) (kx (gsF rfl rfl) (kx (gsF rfl rfl) (kx (gsF rfl rfl) (kx (pkT rfl rfl rfl) (Rn (hA h687 (hA h688 (hA h689 (hA h690 (hA h691 (hA h692 (hV (.bool true) rfl hZ))))))) fun e696 h698 h699 h700 h701 h702 h703 h704 => ?_))))))))))
        clear h687 h688 h689 h690 h691 h692 h693 h694
        obtain rfl := si h
        exact kd (show laws_FnExactStartChain_c6_Q a1 a2 a3 r67 r68 r548 r549 r550 r551 r552 M101.length (M101.length + 1) (M101.length + 2) (([] : Mem).length) _ _ from ⟨rfl, h698, h699, h700, h701, h702, h703, h704, o680, o681, o682, o683⟩)
       obtain ⟨r706, hx705, h⟩ := bind_some h
       refine kx (guF rfl hb695 (ldOA (cs' := (.str r548 :: (.bool r549 :: (.lsl M101.length r550.length 0 r550.length :: ((arC (cI .i8) 0 r551) ++ ((.lsl (M101.length + 1) r552.length 0 r552.length :: []) : List AV)))))) h692 o682 rfl rfl (ble rfl) rfl)) (kx (guF rfl hb695 (ldOA (cs' := (.str ([] : List UInt8) :: (.bool false :: (.nils :: ((arC (cI .i8) 0 r67) ++ ((.nils :: []) : List AV)))))) h690 o683 rfl rfl (ble rfl) rfl)) (kc (Ev.guF rfl hb695 (cl (v := .bool r706) rfl (cns rfl (cns rfl rfl)) (ra1 (ra_agg (mp1 rfl (mp1 rfl (mp1 (ra1_row o680 rfl Notch.fl) (mpA (fun _ => rArg1_flat) (fun _ => rfl) (mp1 (ra1_row o681 rfl Mark.fl) mp0)))))) (ra1 rfl ra0)) (laws_eqChain_ok (Chain.mk r548 (Half.mk r549 r550 r551) r552) (Chain.mk ([] : List UInt8) (Half.mk false ([] : List Notch) r67) ([] : List Mark)) _ hx705) (fun _ => rfl))) (kx (guF rfl hb695 (uNot rfl)) (kx (pkF rfl hb695 rfl) (kx (mvO rfl) ?_)))))
       rcases ite_some h with ⟨hb707, h⟩ | ⟨hb707, h⟩
       ·refine kx (guF rfl (congrArg Bool.not hb707) (mvO h693)) (kx (guF rfl (congrArg Bool.not hb707) (mvO h691)) (kx (guF rfl (congrArg Bool.not hb707) (bNeq rfl rfl)) (kx (pkF rfl (congrArg Bool.not hb707) rfl) (Rn (hA h687 (hA h688 (hA h689 (hA h690 (hA h691 (hA h692 (hN rfl hZ))))))) fun e708 h710 h711 h712 h713 h714 h715 h716 => ?_))))
        clear h687 h688 h689 h690 h691 h692 h693 h694
        obtain rfl := si h
        exact kd (show laws_FnExactStartChain_c6_Q a1 a2 a3 r67 r68 r548 r549 r550 r551 r552 M101.length (M101.length + 1) (M101.length + 2) (([] : Mem).length) _ _ from ⟨rfl, h710, h711, h712, h713, h714, h715, h716, o680, o681, o682, o683⟩)
       refine kx (gsF rfl (congrArg Bool.not hb707)) (kx (gsF rfl (congrArg Bool.not hb707)) (kx (gsF rfl (congrArg Bool.not hb707)) (kx (pkT rfl (congrArg Bool.not hb707) rfl) (Rn (hA h687 (hA h688 (hA h689 (hA h690 (hA h691 (hA h692 (hV (.bool true) rfl hZ))))))) fun e717 h719 h720 h721 h722 h723 h724 h725 => ?_))))
       clear h687 h688 h689 h690 h691 h692 h693 h694
       obtain rfl := si h
       exact kd (show laws_FnExactStartChain_c6_Q a1 a2 a3 r67 r68 r548 r549 r550 r551 r552 M101.length (M101.length + 1) (M101.length + 2) (([] : Mem).length) _ _ from ⟨rfl, h719, h720, h721, h722, h723, h724, h725, o680, o681, o682, o683⟩)) ?_
   revert h hr1019
   revert r1018
   intro y728 hr1019 h
   intro x e726 M727 hq1017
   obtain ⟨rfl, h729, h730, h731, h732, h733, h734, h735, o736, o737, o738, o739⟩ := hq1017
   refine sN ?_
   rcases ite_some h with ⟨hb740, h⟩ | ⟨hb740, h⟩
   ·refine cT h735 hb740 (sq (Rg (kx (mvO rfl) (Rn (hV (.bool false) rfl hZ) fun e741 h743 => sN (xx (sR ?_))))))
    clear h729 h730 h731 h732 h733 h734 h735
    obtain rfl := si h
    exact eR (resT h743 res0) rfl
   obtain ⟨⟨r754, r755, r756⟩, hx753, h⟩ := bind_some h
   refine cF h735 hb740 (xx (sN (sq (Rg (kx (mvO rfl) (Rn (hV (.str a3) h729 (hV (.pt none (.bool a1.Stock :: (.sl none (a1.Notches.map Notch.c) :: ((arC (cI .i8) 0 a1.Grain) ++ ([] : List AV))))) h730 (hV (.pt none [.str a2.Name, .int .u32 a2.Secret]) h731 (hV (.loc ([] : Mem).length 1 0 0) h732 (hV (.int .i64 r68) h733 (hV (.loc (M101.length + 2) 1 0 0) h734 (hV (.int .i64 1) rfl hZ))))))) fun e744 h746 h747 h748 h749 h750 h751 h752 => sN (sq (Rg (kx (ldOA (cs' := (.str r548 :: (.bool r549 :: (.lsl M101.length r550.length 0 r550.length :: ((arC (cI .i8) 0 r551) ++ ((.lsl (M101.length + 1) r552.length 0 r552.length :: []) : List AV)))))) h751 o738 rfl rfl (ble rfl) rfl) (kx (mvO h752) (Ev.nxw (Ev.callW rfl (cns rfl (cns rfl rfl)) (laws_markChain_ll_ok r548 r549 r550 r551 r552 1 M101.length (M101.length + 1) ne568 M727 o736 o737 _ hx753)) fun v759 M757 hq758 => ?_)))))))))))
   clear h729 h730 h731 h732 h733 h734 h735
   obtain ⟨hv759, o760, o761, fr762, hl763, hl764⟩ := hq758
   have hv759 : v759 = .int .i64 r754 := hv759
   subst hv759
   have o765 : M757[M101.length]? = some (.live ⟨.grow, 99, 2, r755.map Notch.c⟩) := o760
   have o766 : M757[(M101.length + 1)]? = some (.live ⟨.grow, 78, 2, r756.map Mark.c⟩) := o761
   have hl763 : r755.length = r550.length := hl763
   have hl764 : r756.length = r552.length := hl764
   have o767 : M757[(M101.length + 2)]? = some (.live ⟨.box, 43, 20, [(.str r548 :: (.bool r549 :: (.lsl M101.length r550.length 0 r550.length :: ((arC (cI .i8) 0 r551) ++ ((.lsl (M101.length + 1) r552.length 0 r552.length :: []) : List AV)))))]⟩) := fr762 _ _ (niC (Ne.symm ne573) (niC (Ne.symm ne574) niN)) o738
   have o768 : M757[([] : Mem).length]? = some (.live ⟨.box, 43, 20, [(.str ([] : List UInt8) :: (.bool false :: (.nils :: ((arC (cI .i8) 0 r67) ++ ((.nils :: []) : List AV)))))]⟩) := fr762 _ _ (niC ne561 (niC ne565 niN)) o739
   obtain ⟨r789, hx788, h⟩ := bind_some h
   refine kx (mvO rfl) (Rn (hA h746 (hA h747 (hA h748 (hA h749 (hA h750 (hA h751 (hN rfl hZ))))))) fun e769 h771 h772 h773 h774 h775 h776 h777 => sN (sq (Rg (kx (mvO rfl) (Rn (hA h771 (hA h772 (hA h773 (hA h774 (hA h775 (hA h776 (hA h777 (hV (.int .i64 1) rfl hZ)))))))) fun e778 h780 h781 h782 h783 h784 h785 h786 h787 => sN (sq (Rg (kx (ldOA (cs' := (.str r548 :: (.bool r549 :: (.lsl M101.length r550.length 0 r550.length :: ((arC (cI .i8) 0 r551) ++ ((.lsl (M101.length + 1) r552.length 0 r552.length :: []) : List AV)))))) h785 o767 rfl rfl (ble rfl) rfl) (kx (mvO h787) (kc (cl (v := .int .i64 r789) rfl (cns rfl (cns rfl rfl)) (ra1 (ra_agg (mp1 rfl (mp1 rfl (mp1 (ra1_row o765 (by simp [hl678, hl763, hl764]) Notch.fl) (mpA (fun _ => rArg1_flat) (fun _ => rfl) (mp1 (ra1_row o766 (by simp [hl678, hl763, hl764]) Mark.fl) mp0)))))) (ra1 rfl ra0)) (laws_heldChain_ok (Chain.mk r548 (Half.mk r549 r755 r551) r756) 1 _ hx788) (fun _ => rfl)) (kx (mvO rfl) (Rn (hA h780 (hA h781 (hA h782 (hA h783 (hA h784 (hA h785 (hA h786 (hN rfl hZ)))))))) fun e790 h792 h793 h794 h795 h796 h797 h798 h799 => sN (sq (sq (Rg (kx (mvO h799) (kx (bLss rfl rfl) (Rn (hA h792 (hA h793 (hA h794 (hA h795 (hA h796 (hA h797 (hA h798 (hA h799 (hN rfl hZ))))))))) fun e800 h802 h803 h804 h805 h806 h807 h808 h809 h810 => sN ?_))))))))))))))))))
   clear h746 h747 h748 h749 h750 h751 h771 h772 h773 h774 h775 h776 h777 h780 h781 h782 h783 h784 h785 h786 h792 h793 h794 h795 h796 h797 h798 h799
   rcases ite_some h with ⟨hb811, h⟩ | ⟨hb811, h⟩
   ·refine cT h810 hb811 (sq (Rg (kx (mvO rfl) (Rn (hV (.bool false) rfl hZ) fun e812 h814 => sN (xx (sR ?_))))))
    clear h802 h803 h804 h805 h806 h807 h808 h809 h810
    obtain rfl := si h
    exact eR (resT h814 res0) rfl
   refine cF h810 hb811 (xx (sN (sq (sq (Rg (kx (mvO h809) (kx (mvO h808) (kx (bNeq rfl rfl) (Rn (hA h802 (hA h803 (hA h804 (hA h805 (hA h806 (hA h807 (hA h808 (hN rfl hZ)))))))) fun e815 h817 h818 h819 h820 h821 h822 h823 h824 => sN ?_)))))))))
   clear h802 h803 h804 h805 h806 h807 h808 h809 h810
   rcases ite_some h with ⟨hb825, h⟩ | ⟨hb825, h⟩
   ·refine cT h824 hb825 (sq (Rg (kx (mvO rfl) (Rn (hV (.bool false) rfl hZ) fun e826 h828 => sN (xx (sR ?_))))))
    clear h817 h818 h819 h820 h821 h822 h823 h824
    obtain rfl := si h
    exact eR (resT h828 res0) rfl
   obtain ⟨⟨r830, r831, r832⟩, hx829, h⟩ := bind_some h
   obtain ⟨⟨r834, r835⟩, hx833, h⟩ := bind_some h
   obtain ⟨q1016, hx836, h⟩ := bind_some h
   refine cF h824 hb825 (xx (sN (sq (Rd (kf (ldPA h818 rfl rfl) (fc (cl (v := .agg (.bool r830 :: (.sl (some 99) (r831.map Notch.c) :: ((arC (cI .i8) 0 r832) ++ ([] : List AV))))) rfl (cns rfl rfl) rfl (laws_toHalf_ok a1 _ hx829) nm) (kf (ldPA h819 rfl rfl) (fc (cl (v := .agg [.str r834, .int .u32 r835]) rfl (cns rfl rfl) rfl (laws_toParty_ok a2 _ hx833) nm) (kf (mvO h817) ?_)))))))))
   rcases q1016 with ⟨r837, r838⟩ | ⟨r925, r926, r927, r928, r929⟩
   ·refine fc (cl (v := .tup [.agg (.str ([] : List UInt8) :: (.bool false :: (.nils :: ((arC (cI .i8) 0 r837) ++ ((.nils :: []) : List AV))))), .int .i64 r838]) rfl (cns rfl (cns rfl (cns rfl rfl))) rfl (impl_StartChain_ok (Half.mk r830 r831 r832) (Party.mk r834 r835) a3 _ hx836) nm) (kf (mvO rfl) (kf (exT rfl rfl) (kf (exT rfl rfl) (Ev.nfpushE (alO zero43) (Ev.fend1 fun M840 hM841 => ?_)))))
    have hM841 := fendM hM841 [⟨.box, 43, 20, [(.str ([] : List UInt8) :: (.bool false :: (.nils :: ((arC (cI .i8) 0 (Ar.rep 16 0)) ++ ((.nils :: []) : List AV)))))]⟩] rfl
    have o842 := push_old hM841 o765
    have o843 := push_old hM841 o766
    have o844 := push_old hM841 o767
    have o845 := push_old hM841 o768
    have ne846 : M101.length ≠ M757.length := by have := lt_of_get (M := M757) o765; omega
    have ne847 : (M101.length + 1) ≠ M757.length := by have := lt_of_get (M := M757) o766; omega
    have ne848 : (M101.length + 2) ≠ M757.length := by have := lt_of_get (M := M757) o767; omega
    have ne849 : ([] : Mem).length ≠ M757.length := by have := lt_of_get (M := M757) o768; omega
    have o850 : M840[M757.length]? = some (.live ⟨.box, 43, 20, [(.str ([] : List UInt8) :: (.bool false :: (.nils :: ((arC (cI .i8) 0 (Ar.rep 16 0)) ++ ((.nils :: []) : List AV)))))]⟩) := push_at hM841 0 rfl
    refine kw (stO rfl rfl o850 rfl rfl ⟨rfl, ble rfl⟩ rfl rfl) fun M851 hM852 => ?_
    have o853 := set_ne hM852 ne846 o842
    have o854 := set_ne hM852 ne847 o843
    have o855 := set_ne hM852 ne848 o844
    have o856 := set_ne hM852 ne849 o845
    have o857 : M851[M757.length]? = some (.live ⟨.box, 43, 20, [(.str ([] : List UInt8) :: (.bool false :: (.nils :: ((arC (cI .i8) 0 r837) ++ ((.nils :: []) : List AV)))))]⟩) := set_same hM852 o850
    obtain ⟨r923, hr924, h⟩ := bind_some h
    refine kx (mvO rfl) (Rn (hA h820 (hA h821 (hA h822 (hA h823 (hV (.loc M757.length 1 0 0) rfl (hN rfl hZ)))))) fun e858 h860 h861 h862 h863 h864 h865 => sN (sq (sq ?_)))
    clear h817 h818 h819 h820 h821 h822 h823 h824
    refine Ev.cut (Q1 := laws_FnExactStartChain_c7_Q r548 r549 r550 r551 r552 r754 r755 r756 M101.length (M101.length + 1) (M101.length + 2) (([] : Mem).length) M757.length r923) (by
        have h := hr924
        obtain ⟨r867, hx866, h⟩ := bind_some h
        refine Rg (kx (ldOA (cs' := (.str ([] : List UInt8) :: (.bool false :: (.nils :: ((arC (cI .i8) 0 r837) ++ ((.nils :: []) : List AV)))))) h864 o857 rfl rfl (ble rfl) rfl) (kx (ldOA (cs' := (.str ([] : List UInt8) :: (.bool false :: (.nils :: ((arC (cI .i8) 0 r67) ++ ((.nils :: []) : List AV)))))) h860 o856 rfl rfl (ble rfl) rfl) (kc (cl (v := .bool r867) rfl (cns rfl (cns rfl rfl)) rfl (laws_eqChain_ok (Chain.mk ([] : List UInt8) (Half.mk false ([] : List Notch) r837) ([] : List Mark)) (Chain.mk ([] : List UInt8) (Half.mk false ([] : List Notch) r67) ([] : List Mark)) _ hx866) nm) (kx (uNot rfl) (kx (mvO rfl) ?_)))))
        rcases ite_some h with ⟨hb868, h⟩ | ⟨hb868, h⟩
        ·refine kx (guF rfl (congrArg Bool.not hb868) (mvO h865)) (kx (guF rfl (congrArg Bool.not hb868) (mvO h861)) (kx (guF rfl (congrArg Bool.not hb868) (bNeq rfl rfl)) (kx (pkF rfl (congrArg Bool.not hb868) rfl) (Rn (hA h862 (hA h863 (hN rfl hZ))) fun e869 h871 h872 h873 => ?_))))
         clear h860 h861 h862 h863 h864 h865
         obtain rfl := si h
         exact kd (show laws_FnExactStartChain_c7_Q r548 r549 r550 r551 r552 r754 r755 r756 M101.length (M101.length + 1) (M101.length + 2) (([] : Mem).length) M757.length _ _ from ⟨rfl, h871, h872, h873, o853, o854, o855⟩)
        refine kx (gsF rfl (congrArg Bool.not hb868)) (kx (gsF rfl (congrArg Bool.not hb868)) (kx (gsF rfl (congrArg Bool.not hb868)) (kx (pkT rfl (congrArg Bool.not hb868) rfl) (Rn (hA h862 (hA h863 (hV (.bool true) rfl hZ))) fun e874 h876 h877 h878 => ?_))))
        clear h860 h861 h862 h863 h864 h865
        obtain rfl := si h
        exact kd (show laws_FnExactStartChain_c7_Q r548 r549 r550 r551 r552 r754 r755 r756 M101.length (M101.length + 1) (M101.length + 2) (([] : Mem).length) M757.length _ _ from ⟨rfl, h876, h877, h878, o853, o854, o855⟩)) ?_
    revert h hr924
    revert r923
    intro y881 hr924 h
    intro x e879 M880 hq922
    obtain ⟨rfl, h882, h883, h884, o885, o886, o887⟩ := hq922
    refine sN ?_
    rcases ite_some h with ⟨hb888, h⟩ | ⟨hb888, h⟩
    ·refine cT h884 hb888 (sq (Rg (kx (mvO rfl) (Rn (hV (.bool false) rfl hZ) fun e889 h891 => sN (xx (sR ?_))))))
     clear h882 h883 h884
     obtain rfl := si h
     exact eR (resT h891 res0) rfl
    obtain ⟨r898, hx897, h⟩ := bind_some h
    refine cF h884 hb888 (xx (sN (sq (Rg (kx (mvO rfl) (Rn (hV (.loc (M101.length + 2) 1 0 0) h882 (hV (.int .i64 r754) h883 (hV (.int .i64 1) rfl hZ))) fun e892 h894 h895 h896 => sN (sq (Rg (kx (ldOA (cs' := (.str r548 :: (.bool r549 :: (.lsl M101.length r550.length 0 r550.length :: ((arC (cI .i8) 0 r551) ++ ((.lsl (M101.length + 1) r552.length 0 r552.length :: []) : List AV)))))) h894 o887 rfl rfl (ble rfl) rfl) (kx (mvO h896) (kc (cl (v := .int .i64 r898) rfl (cns rfl (cns rfl rfl)) (ra1 (ra_agg (mp1 rfl (mp1 rfl (mp1 (ra1_row o885 (by simp [hl678, hl763, hl764]) Notch.fl) (mpA (fun _ => rArg1_flat) (fun _ => rfl) (mp1 (ra1_row o886 (by simp [hl678, hl763, hl764]) Mark.fl) mp0)))))) (ra1 rfl ra0)) (laws_heldChain_ok (Chain.mk r548 (Half.mk r549 r755 r551) r756) 1 _ hx897) (fun _ => rfl)) (kx (mvO rfl) (Rn (hA h895 (hN rfl hZ)) fun e899 h901 h902 => sN (sq (sq (Rg (kx (mvO h902) (kx (bLss rfl rfl) (Rn (hA h901 (hA h902 (hN rfl hZ))) fun e903 h905 h906 h907 => sN ?_)))))))))))))))))))
    clear h882 h883 h884 h894 h895 h901 h902
    rcases ite_some h with ⟨hb908, h⟩ | ⟨hb908, h⟩
    ·refine cT h907 hb908 (sq (Rg (kx (mvO rfl) (Rn (hV (.bool false) rfl hZ) fun e909 h911 => sN (xx (sR ?_))))))
     clear h905 h906 h907
     obtain rfl := si h
     exact eR (resT h911 res0) rfl
    refine cF h907 hb908 (xx (sN (sq (sq (Rg (kx (mvO h906) (kx (mvO h905) (kx (bNeq rfl rfl) (Rn (hN rfl hZ) fun e912 h914 => sN ?_)))))))))
    clear h905 h906 h907
    rcases ite_some h with ⟨hb915, h⟩ | ⟨hb915, h⟩
    ·refine cT h914 hb915 (sq (Rg (kx (mvO rfl) (Rn (hV (.bool false) rfl hZ) fun e916 h918 => sN (xx (sR ?_))))))
     clear h914
     obtain rfl := si h
     exact eR (resT h918 res0) rfl
    refine cF h914 hb915 (xx (sN (sq (Rg (kx (mvO rfl) (Rn (hV (.bool true) rfl hZ) fun e919 h921 => sN (xx ?_)))))))
    clear h914
    obtain rfl := si h
    exact eR (resT h921 res0) rfl
   refine fc (cl (v := .tup [.agg (.str r925 :: (.bool r926 :: (.sl (some 99) (r927.map Notch.c) :: ((arC (cI .i8) 0 r928) ++ ((.sl (some 78) (r929.map Mark.c) :: []) : List AV))))), .int .i64 0]) rfl (cns rfl (cns rfl (cns rfl rfl))) rfl (impl_StartChain_ok (Half.mk r830 r831 r832) (Party.mk r834 r835) a3 _ hx836) nm) (kf (mvO rfl) (kf (exT rfl rfl) (kf (exT rfl rfl) (Ev.nfpushE (alO zero43) (Ev.fend1 fun M931 hM932 => ?_)))))
   have hM932 := fendM hM932 [⟨.box, 43, 20, [(.str ([] : List UInt8) :: (.bool false :: (.nils :: ((arC (cI .i8) 0 (Ar.rep 16 0)) ++ ((.nils :: []) : List AV)))))]⟩] rfl
   have o933 := push_old hM932 o765
   have o934 := push_old hM932 o766
   have o935 := push_old hM932 o767
   have o936 := push_old hM932 o768
   have ne937 : M101.length ≠ M757.length := by have := lt_of_get (M := M757) o765; omega
   have ne938 : (M101.length + 1) ≠ M757.length := by have := lt_of_get (M := M757) o766; omega
   have ne939 : (M101.length + 2) ≠ M757.length := by have := lt_of_get (M := M757) o767; omega
   have ne940 : ([] : Mem).length ≠ M757.length := by have := lt_of_get (M := M757) o768; omega
   have o941 : M931[M757.length]? = some (.live ⟨.box, 43, 20, [(.str ([] : List UInt8) :: (.bool false :: (.nils :: ((arC (cI .i8) 0 (Ar.rep 16 0)) ++ ((.nils :: []) : List AV)))))]⟩) := push_at hM932 0 rfl
   refine kw (stO rfl rfl o941 rfl rfl ⟨rfl, ble rfl⟩ rfl rfl) fun M942 hM943 => ?_
   have o944 := set_ne hM943 ne937 o933
   have o945 := set_ne hM943 ne938 o934
   have o946 := set_ne hM943 ne939 o935
   have o947 := set_ne hM943 ne940 o936
   have o948 : M942[M757.length]? = some (.live ⟨.box, 43, 20, [(.str r925 :: (.bool r926 :: (.sl none (r927.map Notch.c) :: ((arC (cI .i8) 0 r928) ++ ((.sl none (r929.map Mark.c) :: []) : List AV)))))]⟩) := set_same hM943 o941
   obtain ⟨r1014, hr1015, h⟩ := bind_some h
   refine kx (mvO rfl) (Rn (hA h820 (hA h821 (hA h822 (hA h823 (hV (.loc M757.length 1 0 0) rfl (hV (.int .i64 0) rfl hZ)))))) fun e949 h951 h952 h953 h954 h955 h956 => sN (sq (sq ?_)))
   clear h817 h818 h819 h820 h821 h822 h823 h824
   refine Ev.cut (Q1 := laws_FnExactStartChain_c8_Q r548 r549 r550 r551 r552 r754 r755 r756 M101.length (M101.length + 1) (M101.length + 2) (([] : Mem).length) M757.length r1014) (by
       have h := hr1015
       obtain ⟨r958, hx957, h⟩ := bind_some h
       refine Rg (kx (ldOA (cs' := (.str r925 :: (.bool r926 :: (.sl none (r927.map Notch.c) :: ((arC (cI .i8) 0 r928) ++ ((.sl none (r929.map Mark.c) :: []) : List AV)))))) h955 o948 rfl rfl (ble rfl) rfl) (kx (ldOA (cs' := (.str ([] : List UInt8) :: (.bool false :: (.nils :: ((arC (cI .i8) 0 r67) ++ ((.nils :: []) : List AV)))))) h951 o947 rfl rfl (ble rfl) rfl) (kc (cl (v := .bool r958) rfl (cns rfl (cns rfl rfl)) rfl (laws_eqChain_ok (Chain.mk r925 (Half.mk r926 r927 r928) r929) (Chain.mk ([] : List UInt8) (Half.mk false ([] : List Notch) r67) ([] : List Mark)) _ hx957) nm) (kx (uNot rfl) (kx (mvO rfl) ?_)))))
       rcases ite_some h with ⟨hb959, h⟩ | ⟨hb959, h⟩
       ·refine kx (guF rfl (congrArg Bool.not hb959) (mvO h956)) (kx (guF rfl (congrArg Bool.not hb959) (mvO h952)) (kx (guF rfl (congrArg Bool.not hb959) (bNeq rfl rfl)) (kx (pkF rfl (congrArg Bool.not hb959) rfl) (Rn (hA h953 (hA h954 (hN rfl hZ))) fun e960 h962 h963 h964 => ?_))))
        clear h951 h952 h953 h954 h955 h956
        obtain rfl := si h
        exact kd (show laws_FnExactStartChain_c8_Q r548 r549 r550 r551 r552 r754 r755 r756 M101.length (M101.length + 1) (M101.length + 2) (([] : Mem).length) M757.length _ _ from ⟨rfl, h962, h963, h964, o944, o945, o946⟩)
       refine kx (gsF rfl (congrArg Bool.not hb959)) (kx (gsF rfl (congrArg Bool.not hb959)) (kx (gsF rfl (congrArg Bool.not hb959)) (kx (pkT rfl (congrArg Bool.not hb959) rfl) (Rn (hA h953 (hA h954 (hV (.bool true) rfl hZ))) fun e965 h967 h968 h969 => ?_))))
       clear h951 h952 h953 h954 h955 h956
       obtain rfl := si h
       exact kd (show laws_FnExactStartChain_c8_Q r548 r549 r550 r551 r552 r754 r755 r756 M101.length (M101.length + 1) (M101.length + 2) (([] : Mem).length) M757.length _ _ from ⟨rfl, h967, h968, h969, o944, o945, o946⟩)) ?_
   revert h hr1015
   revert r1014
   intro y972 hr1015 h
   intro x e970 M971 hq1013
   obtain ⟨rfl, h973, h974, h975, o976, o977, o978⟩ := hq1013
   refine sN ?_
   rcases ite_some h with ⟨hb979, h⟩ | ⟨hb979, h⟩
   ·refine cT h975 hb979 (sq (Rg (kx (mvO rfl) (Rn (hV (.bool false) rfl hZ) fun e980 h982 => sN (xx (sR ?_))))))
    clear h973 h974 h975
    obtain rfl := si h
    exact eR (resT h982 res0) rfl
   obtain ⟨r989, hx988, h⟩ := bind_some h
   refine cF h975 hb979 (xx (sN (sq (Rg (kx (mvO rfl) (Rn (hV (.loc (M101.length + 2) 1 0 0) h973 (hV (.int .i64 r754) h974 (hV (.int .i64 1) rfl hZ))) fun e983 h985 h986 h987 => sN (sq (Rg (kx (ldOA (cs' := (.str r548 :: (.bool r549 :: (.lsl M101.length r550.length 0 r550.length :: ((arC (cI .i8) 0 r551) ++ ((.lsl (M101.length + 1) r552.length 0 r552.length :: []) : List AV)))))) h985 o978 rfl rfl (ble rfl) rfl) (kx (mvO h987) (kc (cl (v := .int .i64 r989) rfl (cns rfl (cns rfl rfl)) (ra1 (ra_agg (mp1 rfl (mp1 rfl (mp1 (ra1_row o976 (by simp [hl678, hl763, hl764]) Notch.fl) (mpA (fun _ => rArg1_flat) (fun _ => rfl) (mp1 (ra1_row o977 (by simp [hl678, hl763, hl764]) Mark.fl) mp0)))))) (ra1 rfl ra0)) (laws_heldChain_ok (Chain.mk r548 (Half.mk r549 r755 r551) r756) 1 _ hx988) (fun _ => rfl)) (kx (mvO rfl) (Rn (hA h986 (hN rfl hZ)) fun e990 h992 h993 => sN (sq (sq (Rg (kx (mvO h993) (kx (bLss rfl rfl) (Rn (hA h992 (hA h993 (hN rfl hZ))) fun e994 h996 h997 h998 => sN ?_)))))))))))))))))))
   clear h973 h974 h975 h985 h986 h992 h993
   rcases ite_some h with ⟨hb999, h⟩ | ⟨hb999, h⟩
   ·refine cT h998 hb999 (sq (Rg (kx (mvO rfl) (Rn (hV (.bool false) rfl hZ) fun e1000 h1002 => sN (xx (sR ?_))))))
    clear h996 h997 h998
    obtain rfl := si h
    exact eR (resT h1002 res0) rfl
   refine cF h998 hb999 (xx (sN (sq (sq (Rg (kx (mvO h997) (kx (mvO h996) (kx (bNeq rfl rfl) (Rn (hN rfl hZ) fun e1003 h1005 => sN ?_)))))))))
   clear h996 h997 h998
   rcases ite_some h with ⟨hb1006, h⟩ | ⟨hb1006, h⟩
   ·refine cT h1005 hb1006 (sq (Rg (kx (mvO rfl) (Rn (hV (.bool false) rfl hZ) fun e1007 h1009 => sN (xx (sR ?_))))))
    clear h1005
    obtain rfl := si h
    exact eR (resT h1009 res0) rfl
   refine cF h1005 hb1006 (xx (sN (sq (Rg (kx (mvO rfl) (Rn (hV (.bool true) rfl hZ) fun e1010 h1012 => sN (xx ?_)))))))
   clear h1005
   obtain rfl := si h
   exact eR (resT h1012 res0) rfl
  refine cT h657 (congrArg Bool.not hb658) (sq (Rg (kx (mvO rfl) (Rn (hV (.bool false) rfl hZ) fun e1020 h1022 => sN (xx (sR ?_))))))
  clear h649 h650 h651 h652 h653 h654 h655 h656 h657
  obtain rfl := si h
  exact eR (resT h1022 res0) rfl
 refine fc (cl (v := .tup [.agg (.str r1027 :: (.bool r1028 :: (.sl none (r1029.map Notch.c) :: ((arC (cI .i8) 0 r1030) ++ ((.sl none (r1031.map Mark.c) :: []) : List AV))))), .int .i64 0]) rfl (cns rfl (cns rfl (cns rfl rfl))) rfl (spec_StartChain_ok (Half.mk r60 r61 r62) (Party.mk r64 r65) a3 _ hx66) nm) (kf (mvO rfl) (kf (exT rfl rfl) (kf (exT rfl rfl) (Ev.nfpushE (alO zero43) (Ev.fend1 fun M1033 hM1034 => ?_)))))
 have hM1034 := fendM hM1034 [⟨.box, 43, 20, [(.str ([] : List UInt8) :: (.bool false :: (.nils :: ((arC (cI .i8) 0 (Ar.rep 16 0)) ++ ((.nils :: []) : List AV)))))]⟩] rfl
 have o1035 : M1033[([] : Mem).length]? = some (.live ⟨.box, 43, 20, [(.str ([] : List UInt8) :: (.bool false :: (.nils :: ((arC (cI .i8) 0 (Ar.rep 16 0)) ++ ((.nils :: []) : List AV)))))]⟩) := push_at hM1034 0 rfl
 refine kw (stO rfl rfl o1035 rfl rfl ⟨rfl, ble rfl⟩ rfl rfl) fun M1036 hM1037 => ?_
 have o1038 : M1036[([] : Mem).length]? = some (.live ⟨.box, 43, 20, [(.str r1027 :: (.bool r1028 :: (.sl none (r1029.map Notch.c) :: ((arC (cI .i8) 0 r1030) ++ ((.sl none (r1031.map Mark.c) :: []) : List AV)))))]⟩) := set_same hM1037 o1035
 obtain ⟨⟨r1047, r1048, r1049⟩, hx1046, h⟩ := bind_some h
 refine kx (mvO rfl) (Rn (hA h51 (hA h52 (hA h53 (hV (.loc ([] : Mem).length 1 0 0) rfl (hV (.int .i64 0) rfl hZ))))) fun e1039 h1041 h1042 h1043 h1044 h1045 => sN (sq (Rg (kx (ldPA h1042 rfl rfl) (Ev.nxcp (Ev.callT (v := .agg (.bool r1047 :: (.sl (some 99) (r1048.map Notch.c) :: ((arC (cI .i8) 0 r1049) ++ ([] : List AV))))) rfl (cns rfl rfl) rfl (laws_toHalf_ok a1 _ hx1046) (th_gen (v' := .agg (.bool r1047 :: (.lsl M1036.length r1048.length 0 r1048.length :: ((arC (cI .i8) 0 r1049) ++ ([] : List AV))))) (l := [⟨.grow, 99, 2, r1048.map Notch.c⟩]) (own_agg (oa1 rfl (oa1 (own1_row' (c := Notch.c) Notch.flF) (oaA (fun _ => own1_flat) (fun _ => rfl) oa0)))) (by simp [thaw, thaw2, thaw1, thawL, co99, thA (c := (cI .i8)) (fun _ => rfl), thA0 (c := (cI .i8)) (fun _ => rfl)]) rfl rfl)) fun M1051 hM1052 => ?_)))))
 clear h51 h52 h53 h54
 have o1053 := push_old hM1052 o1038
 have ne1054 : ([] : Mem).length ≠ M1036.length := by have := lt_of_get (M := M1036) o1038; omega
 have o1055 : M1051[M1036.length]? = some (.live ⟨.grow, 99, 2, r1048.map Notch.c⟩) := push_at hM1052 0 rfl
 refine ku (alO zero34) fun M1057 hM1058 => ?_
 have o1059 := push_old hM1058 o1053
 have ne1060 := ne_new o1053
 have o1061 := push_old hM1058 o1055
 have ne1062 := ne_new o1055
 have o1063 : M1057[M1051.length]? = some (.live ⟨.box, 34, 18, [(.bool false :: (.nils :: ((arC (cI .i8) 0 (Ar.rep 16 0)) ++ ([] : List AV))))]⟩) := push_new hM1058
 refine kw (stO rfl rfl o1063 rfl rfl ⟨rfl, ble rfl⟩ (all1 rfl (all1 (okL o1061 (by simp)) (oaS (fun _ => rfl) all0))) rfl) fun M1064 hM1065 => ?_
 have o1066 := set_ne hM1065 ne1060 o1059
 have o1067 := set_ne hM1065 ne1062 o1061
 have o1068 : M1064[M1051.length]? = some (.live ⟨.box, 34, 18, [(.bool r1047 :: (.lsl M1036.length r1048.length 0 r1048.length :: ((arC (cI .i8) 0 r1049) ++ ([] : List AV))))]⟩) := set_same hM1065 o1063
 obtain ⟨⟨r1078, r1079⟩, hx1077, h⟩ := bind_some h
 obtain ⟨q1989, hx1080, h⟩ := bind_some h
 refine Rn (hA h1041 (hA h1042 (hA h1043 (hA h1044 (hA h1045 (hV (.loc M1051.length 1 0 0) rfl hZ)))))) fun e1069 h1071 h1072 h1073 h1074 h1075 h1076 => sN (sq (Rd (kf (ldOA (cs' := (.bool r1047 :: (.lsl M1036.length r1048.length 0 r1048.length :: ((arC (cI .i8) 0 r1049) ++ ([] : List AV))))) h1076 o1068 rfl rfl (ble rfl) rfl) (kf (ldPA h1073 rfl rfl) (fc (cl (v := .agg [.str r1078, .int .u32 r1079]) rfl (cns rfl rfl) rfl (laws_toParty_ok a2 _ hx1077) nm) (kf (mvO h1071) ?_))))))
 clear h1041 h1042 h1043 h1044 h1045
 rcases q1989 with ⟨r1081, r1082⟩ | ⟨r1511, r1512, r1513, r1514, r1515⟩
 ·refine Ev.nfcpE (Ev.callT (v := .tup [.agg (.str ([] : List UInt8) :: (.bool false :: (.nils :: ((arC (cI .i8) 0 r1081) ++ ((.nils :: []) : List AV))))), .int .i64 r1082]) rfl (cns rfl (cns rfl (cns rfl rfl))) (ra1 (ra_agg (mp1 rfl (mp1 (ra1_row o1067 rfl Notch.fl) (mpA (fun _ => rArg1_flat) (fun _ => rfl) mp0)))) (ra1 rfl (ra1 rfl ra0))) (impl_StartChain_ok (Half.mk r1047 r1048 r1049) (Party.mk r1078 r1079) a3 _ hx1080) (th_gen (v' := .tup [.agg (.str ([] : List UInt8) :: (.bool false :: (.nils :: ((arC (cI .i8) 0 r1081) ++ ((.nils :: []) : List AV))))), .int .i64 r1082]) (l := []) (own_tup (oa1 (own2_agg (oa1 rfl (oa1 rfl (oa1 rfl (oaA (fun _ => own1_flat) (fun _ => rfl) (oa1 rfl oa0)))))) (oa1 rfl oa0))) (by simp [thaw, thaw2, thaw1, thawL, thA (c := (cI .i8)) (fun _ => rfl), thA0 (c := (cI .i8)) (fun _ => rfl)]) rfl rfl)) (kf (mvO rfl) (kf (exT rfl rfl) (kf (exT rfl rfl) (Ev.nfpushE (alO zero43) (Ev.fend1 fun M1084 hM1085 => ?_)))))
  have hM1085 := fendM hM1085 [⟨.box, 43, 20, [(.str ([] : List UInt8) :: (.bool false :: (.nils :: ((arC (cI .i8) 0 (Ar.rep 16 0)) ++ ((.nils :: []) : List AV)))))]⟩] rfl
  have o1086 := push_old hM1085 o1066
  have o1087 := push_old hM1085 o1067
  have o1088 := push_old hM1085 o1068
  have ne1089 : ([] : Mem).length ≠ M1064.length := by have := lt_of_get (M := M1064) o1066; omega
  have ne1090 : M1036.length ≠ M1064.length := by have := lt_of_get (M := M1064) o1067; omega
  have ne1091 : M1051.length ≠ M1064.length := by have := lt_of_get (M := M1064) o1068; omega
  have o1092 : M1084[M1064.length]? = some (.live ⟨.box, 43, 20, [(.str ([] : List UInt8) :: (.bool false :: (.nils :: ((arC (cI .i8) 0 (Ar.rep 16 0)) ++ ((.nils :: []) : List AV)))))]⟩) := push_at hM1085 0 rfl
  refine kw (stO rfl rfl o1092 rfl rfl ⟨rfl, ble rfl⟩ rfl rfl) fun M1093 hM1094 => ?_
  have o1095 := set_ne hM1094 ne1089 o1086
  have o1096 := set_ne hM1094 ne1090 o1087
  have o1097 := set_ne hM1094 ne1091 o1088
  have o1098 : M1093[M1064.length]? = some (.live ⟨.box, 43, 20, [(.str ([] : List UInt8) :: (.bool false :: (.nils :: ((arC (cI .i8) 0 r1081) ++ ((.nils :: []) : List AV)))))]⟩) := set_same hM1094 o1092
  obtain ⟨r1509, hr1510, h⟩ := bind_some h
  refine kx (mvO rfl) (Rn (hA h1071 (hA h1072 (hA h1073 (hA h1074 (hA h1075 (hA h1076 (hV (.loc M1064.length 1 0 0) rfl (hN rfl hZ)))))))) fun e1099 h1101 h1102 h1103 h1104 h1105 h1106 h1107 h1108 => sN (sq (sq ?_)))
  clear h1071 h1072 h1073 h1074 h1075 h1076
  refine Ev.cut (Q1 := laws_FnExactStartChain_c9_Q a1 a2 a3 r1027 r1028 r1029 r1030 r1031 r1047 r1048 r1049 r1081 r1082 (([] : Mem).length) M1036.length M1051.length M1064.length r1509) (by
      have h := hr1510
      obtain ⟨r1110, hx1109, h⟩ := bind_some h
      refine Rg (kx (ldOA (cs' := (.str ([] : List UInt8) :: (.bool false :: (.nils :: ((arC (cI .i8) 0 r1081) ++ ((.nils :: []) : List AV)))))) h1107 o1098 rfl rfl (ble rfl) rfl) (kx (ldOA (cs' := (.str r1027 :: (.bool r1028 :: (.sl none (r1029.map Notch.c) :: ((arC (cI .i8) 0 r1030) ++ ((.sl none (r1031.map Mark.c) :: []) : List AV)))))) h1104 o1095 rfl rfl (ble rfl) rfl) (kc (cl (v := .bool r1110) rfl (cns rfl (cns rfl rfl)) rfl (laws_eqChain_ok (Chain.mk ([] : List UInt8) (Half.mk false ([] : List Notch) r1081) ([] : List Mark)) (Chain.mk r1027 (Half.mk r1028 r1029 r1030) r1031) _ hx1109) nm) (kx (uNot rfl) (kx (mvO rfl) ?_)))))
      rcases ite_some h with ⟨hb1111, h⟩ | ⟨hb1111, h⟩
      ·refine kx (guF rfl (congrArg Bool.not hb1111) (mvO h1108)) (kx (guF rfl (congrArg Bool.not hb1111) (mvO h1105)) (kx (guF rfl (congrArg Bool.not hb1111) (bNeq rfl rfl)) (kx (pkF rfl (congrArg Bool.not hb1111) rfl) (Rn (hA h1101 (hA h1102 (hA h1103 (hA h1104 (hA h1105 (hA h1106 (hA h1107 (hA h1108 (hN rfl hZ))))))))) fun e1112 h1114 h1115 h1116 h1117 h1118 h1119 h1120 h1121 h1122 => ?_))))
       clear h1101 h1102 h1103 h1104 h1105 h1106 h1107 h1108
       obtain rfl := si h
       exact kd (show laws_FnExactStartChain_c9_Q a1 a2 a3 r1027 r1028 r1029 r1030 r1031 r1047 r1048 r1049 r1081 r1082 (([] : Mem).length) M1036.length M1051.length M1064.length _ _ from ⟨rfl, h1114, h1115, h1116, h1117, h1118, h1119, h1120, h1121, h1122, o1095, o1096, o1097, o1098⟩)
      refine kx (gsF rfl (congrArg Bool.not hb1111)) (kx (gsF rfl (congrArg Bool.not hb1111)) (kx (gsF rfl (congrArg Bool.not hb1111)) (kx (pkT rfl (congrArg Bool.not hb1111) rfl) (Rn (hA h1101 (hA h1102 (hA h1103 (hA h1104 (hA h1105 (hA h1106 (hA h1107 (hA h1108 (hV (.bool true) rfl hZ))))))))) fun e1123 h1125 h1126 h1127 h1128 h1129 h1130 h1131 h1132 h1133 => ?_))))
      clear h1101 h1102 h1103 h1104 h1105 h1106 h1107 h1108
      obtain rfl := si h
      exact kd (show laws_FnExactStartChain_c9_Q a1 a2 a3 r1027 r1028 r1029 r1030 r1031 r1047 r1048 r1049 r1081 r1082 (([] : Mem).length) M1036.length M1051.length M1064.length _ _ from ⟨rfl, h1125, h1126, h1127, h1128, h1129, h1130, h1131, h1132, h1133, o1095, o1096, o1097, o1098⟩)) ?_
  revert h hr1510
  revert r1509
  intro y1136 hr1510 h
  intro x e1134 M1135 hq1508
  obtain ⟨rfl, h1137, h1138, h1139, h1140, h1141, h1142, h1143, h1144, h1145, o1146, o1147, o1148, o1149⟩ := hq1508
  refine sN ?_
  rcases ite_some h with ⟨hb1150, h⟩ | ⟨hb1150, h⟩
  ·refine cT h1145 hb1150 (sq (Rg (kx (mvO rfl) (Rn (hV (.bool false) rfl hZ) fun e1151 h1153 => sN (xx (sR ?_))))))
   clear h1137 h1138 h1139 h1140 h1141 h1142 h1143 h1144 h1145
   obtain rfl := si h
   exact eR (resT h1153 res0) rfl
  obtain ⟨⟨r1155, r1156, r1157⟩, hx1154, h⟩ := bind_some h
  obtain ⟨r1159, hx1158, h⟩ := bind_some h
  refine cF h1145 hb1150 (xx (sN (sq (sq (Rd (kf (ldOA (cs' := (.bool r1047 :: (.lsl M1036.length r1048.length 0 r1048.length :: ((arC (cI .i8) 0 r1049) ++ ([] : List AV))))) h1142 o1148 rfl rfl (ble rfl) rfl) (kf (ldPA h1138 rfl rfl) (fc (cl (v := .agg (.bool r1155 :: (.sl (some 99) (r1156.map Notch.c) :: ((arC (cI .i8) 0 r1157) ++ ([] : List AV))))) rfl (cns rfl rfl) rfl (laws_toHalf_ok a1 _ hx1154) nm) (fc (cl (v := .bool r1159) rfl (cns rfl (cns rfl rfl)) (ra1 (ra_agg (mp1 rfl (mp1 (ra1_row o1147 rfl Notch.fl) (mpA (fun _ => rArg1_flat) (fun _ => rfl) mp0)))) (ra1 rfl ra0)) (laws_eqHalf_ok (Half.mk r1047 r1048 r1049) (Half.mk r1155 r1156 r1157) _ hx1158) (fun _ => rfl)) (kf (uNot rfl) (fZ (Rn (hV (.str a3) h1137 (hV (.pt none (.bool a1.Stock :: (.sl none (a1.Notches.map Notch.c) :: ((arC (cI .i8) 0 a1.Grain) ++ ([] : List AV))))) h1138 (hV (.pt none [.str a2.Name, .int .u32 a2.Secret]) h1139 (hV (.loc ([] : Mem).length 1 0 0) h1140 (hV (.int .i64 0) h1141 (hV (.loc M1051.length 1 0 0) h1142 (hV (.loc M1064.length 1 0 0) h1143 (hV (.int .i64 r1082) h1144 (hN rfl hZ))))))))) fun e1160 h1162 h1163 h1164 h1165 h1166 h1167 h1168 h1169 h1170 => sN ?_))))))))))))
  clear h1137 h1138 h1139 h1140 h1141 h1142 h1143 h1144 h1145
  rcases ite_some h with ⟨hb1171, h⟩ | ⟨hb1171, h⟩
  ·obtain ⟨⟨r1184, r1185⟩, hx1183, h⟩ := bind_some h
   refine cF h1170 (congrArg Bool.not hb1171) (xx (sN (sq (Rg (kx (mvO rfl) (Rn (hA h1162 (hA h1163 (hA h1164 (hA h1165 (hA h1166 (hA h1167 (hA h1168 (hA h1169 (hV (.int .i64 1) rfl hZ))))))))) fun e1172 h1174 h1175 h1176 h1177 h1178 h1179 h1180 h1181 h1182 => sN (sq (Rg (kx (ldOA (cs' := (.bool r1047 :: (.lsl M1036.length r1048.length 0 r1048.length :: ((arC (cI .i8) 0 r1049) ++ ([] : List AV))))) h1179 o1148 rfl rfl (ble rfl) rfl) (kx (mvO h1182) (Ev.nxw (Ev.callW rfl (cns rfl (cns rfl rfl)) (laws_markHalf_l_ok r1047 r1048 r1049 1 M1036.length M1135 o1147 _ hx1183)) fun v1188 M1186 hq1187 => ?_)))))))))))
   clear h1162 h1163 h1164 h1165 h1166 h1167 h1168 h1169 h1170
   obtain ⟨hv1188, o1189, fr1190, hl1191⟩ := hq1187
   have hv1188 : v1188 = .int .i64 r1184 := hv1188
   subst hv1188
   have o1192 : M1186[M1036.length]? = some (.live ⟨.grow, 99, 2, r1185.map Notch.c⟩) := o1189
   have hl1191 : r1185.length = r1048.length := hl1191
   have o1193 : M1186[([] : Mem).length]? = some (.live ⟨.box, 43, 20, [(.str r1027 :: (.bool r1028 :: (.sl none (r1029.map Notch.c) :: ((arC (cI .i8) 0 r1030) ++ ((.sl none (r1031.map Mark.c) :: []) : List AV)))))]⟩) := fr1190 _ _ (niC ne1054 niN) o1146
   have o1194 : M1186[M1051.length]? = some (.live ⟨.box, 34, 18, [(.bool r1047 :: (.lsl M1036.length r1048.length 0 r1048.length :: ((arC (cI .i8) 0 r1049) ++ ([] : List AV))))]⟩) := fr1190 _ _ (niC (Ne.symm ne1062) niN) o1148
   have o1195 : M1186[M1064.length]? = some (.live ⟨.box, 43, 20, [(.str ([] : List UInt8) :: (.bool false :: (.nils :: ((arC (cI .i8) 0 r1081) ++ ((.nils :: []) : List AV)))))]⟩) := fr1190 _ _ (niC (Ne.symm ne1090) niN) o1149
   obtain ⟨r1503, hr1504, h⟩ := bind_some h
   refine kx (mvO rfl) (Rn (hA h1174 (hA h1175 (hA h1176 (hA h1177 (hA h1178 (hA h1180 (hA h1181 (hN rfl hZ)))))))) fun e1196 h1198 h1199 h1200 h1201 h1202 h1203 h1204 h1205 => sN (sq (sq ?_)))
   clear h1174 h1175 h1176 h1177 h1178 h1179 h1180 h1181
   refine Ev.cut (Q1 := laws_FnExactStartChain_c10_Q a1 a2 a3 r1027 r1028 r1029 r1030 r1031 r1081 (([] : Mem).length) M1064.length r1503) (by
       have h := hr1504
       refine Rg (kx (mvO h1205) (kx (bLss rfl rfl) (kx (mvO rfl) ?_)))
       rcases ite_some h with ⟨hb1206, h⟩ | ⟨hb1206, h⟩
       ·refine kx (gsF rfl hb1206) (kx (gsF rfl hb1206) (kc (Ev.gsF rfl hb1206) (kx (gsF rfl hb1206) (kx (pkT rfl hb1206 rfl) (kx (mvO rfl) (kx (gsF rfl rfl) (kx (gsF rfl rfl) (kx (gsF rfl rfl) (kx (pkT rfl rfl rfl) (Rn (hA h1198 (hA h1199 (hA h1200 (hA h1201 (hA h1202 (hA h1203 (hV (.bool true) rfl hZ))))))) fun e1207 h1209 h1210 h1211 h1212 h1213 h1214 h1215 => ?_))))))))))
        clear h1198 h1199 h1200 h1201 h1202 h1203 h1204 h1205
        obtain rfl := si h
        exact kd (show laws_FnExactStartChain_c10_Q a1 a2 a3 r1027 r1028 r1029 r1030 r1031 r1081 (([] : Mem).length) M1064.length _ _ from ⟨rfl, h1209, h1210, h1211, h1212, h1213, h1214, h1215, o1193, o1195⟩)
       obtain ⟨r1217, hx1216, h⟩ := bind_some h
       refine kx (guF rfl hb1206 (ldOA (cs' := (.str ([] : List UInt8) :: (.bool false :: (.nils :: ((arC (cI .i8) 0 r1081) ++ ((.nils :: []) : List AV)))))) h1203 o1195 rfl rfl (ble rfl) rfl)) (kx (guF rfl hb1206 (ldOA (cs' := (.str r1027 :: (.bool r1028 :: (.sl none (r1029.map Notch.c) :: ((arC (cI .i8) 0 r1030) ++ ((.sl none (r1031.map Mark.c) :: []) : List AV)))))) h1201 o1193 rfl rfl (ble rfl) rfl)) (kc (Ev.guF rfl hb1206 (cl (v := .bool r1217) rfl (cns rfl (cns rfl rfl)) rfl (laws_eqChain_ok (Chain.mk ([] : List UInt8) (Half.mk false ([] : List Notch) r1081) ([] : List Mark)) (Chain.mk r1027 (Half.mk r1028 r1029 r1030) r1031) _ hx1216) nm)) (kx (guF rfl hb1206 (uNot rfl)) (kx (pkF rfl hb1206 rfl) (kx (mvO rfl) ?_)))))
       rcases ite_some h with ⟨hb1218, h⟩ | ⟨hb1218, h⟩
       ·refine kx (guF rfl (congrArg Bool.not hb1218) (mvO h1204)) (kx (guF rfl (congrArg Bool.not hb1218) (mvO h1202)) (kx (guF rfl (congrArg Bool.not hb1218) (bNeq rfl rfl)) (kx (pkF rfl (congrArg Bool.not hb1218) rfl) (Rn (hA h1198 (hA h1199 (hA h1200 (hA h1201 (hA h1202 (hA h1203 (hN rfl hZ))))))) fun e1219 h1221 h1222 h1223 h1224 h1225 h1226 h1227 => ?_))))
        clear h1198 h1199 h1200 h1201 h1202 h1203 h1204 h1205
        obtain rfl := si h
        exact kd (show laws_FnExactStartChain_c10_Q a1 a2 a3 r1027 r1028 r1029 r1030 r1031 r1081 (([] : Mem).length) M1064.length _ _ from ⟨rfl, h1221, h1222, h1223, h1224, h1225, h1226, h1227, o1193, o1195⟩)
       refine kx (gsF rfl (congrArg Bool.not hb1218)) (kx (gsF rfl (congrArg Bool.not hb1218)) (kx (gsF rfl (congrArg Bool.not hb1218)) (kx (pkT rfl (congrArg Bool.not hb1218) rfl) (Rn (hA h1198 (hA h1199 (hA h1200 (hA h1201 (hA h1202 (hA h1203 (hV (.bool true) rfl hZ))))))) fun e1228 h1230 h1231 h1232 h1233 h1234 h1235 h1236 => ?_))))
       clear h1198 h1199 h1200 h1201 h1202 h1203 h1204 h1205
       obtain rfl := si h
       exact kd (show laws_FnExactStartChain_c10_Q a1 a2 a3 r1027 r1028 r1029 r1030 r1031 r1081 (([] : Mem).length) M1064.length _ _ from ⟨rfl, h1230, h1231, h1232, h1233, h1234, h1235, h1236, o1193, o1195⟩)) ?_
   revert h hr1504
   revert r1503
   intro y1239 hr1504 h
   intro x e1237 M1238 hq1502
   obtain ⟨rfl, h1240, h1241, h1242, h1243, h1244, h1245, h1246, o1247, o1248⟩ := hq1502
   refine sN ?_
   rcases ite_some h with ⟨hb1249, h⟩ | ⟨hb1249, h⟩
   ·refine cT h1246 hb1249 (sq (Rg (kx (mvO rfl) (Rn (hV (.bool false) rfl hZ) fun e1250 h1252 => sN (xx (sR ?_))))))
    clear h1240 h1241 h1242 h1243 h1244 h1245 h1246
    obtain rfl := si h
    exact eR (resT h1252 res0) rfl
   obtain ⟨r1263, hx1262, h⟩ := bind_some h
   refine cF h1246 hb1249 (xx (sN (sq (Rg (kx (mvO rfl) (Rn (hV (.str a3) h1240 (hV (.pt none (.bool a1.Stock :: (.sl none (a1.Notches.map Notch.c) :: ((arC (cI .i8) 0 a1.Grain) ++ ([] : List AV))))) h1241 (hV (.pt none [.str a2.Name, .int .u32 a2.Secret]) h1242 (hV (.loc ([] : Mem).length 1 0 0) h1243 (hV (.int .i64 0) h1244 (hV (.loc M1064.length 1 0 0) h1245 (hV (.int .i64 1) rfl hZ))))))) fun e1253 h1255 h1256 h1257 h1258 h1259 h1260 h1261 => sN (sq (Rg (kx (ldOA (cs' := (.str ([] : List UInt8) :: (.bool false :: (.nils :: ((arC (cI .i8) 0 r1081) ++ ((.nils :: []) : List AV)))))) h1260 o1248 rfl rfl (ble rfl) rfl) (kx (mvO h1261) (Ev.nxw (Ev.callW rfl (cns rfl (cns rfl rfl)) (laws_markChain_nn_ok ([] : List UInt8) false r1081 1 M1238 _ hx1262)) fun v1266 M1264 hq1265 => ?_)))))))))))
   clear h1240 h1241 h1242 h1243 h1244 h1245 h1246
   obtain ⟨hv1266, fr1267⟩ := hq1265
   have hv1266 : v1266 = .int .i64 r1263 := hv1266
   subst hv1266
   have o1268 : M1264[([] : Mem).length]? = some (.live ⟨.box, 43, 20, [(.str r1027 :: (.bool r1028 :: (.sl none (r1029.map Notch.c) :: ((arC (cI .i8) 0 r1030) ++ ((.sl none (r1031.map Mark.c) :: []) : List AV)))))]⟩) := fr1267 _ _ niN o1247
   have o1269 : M1264[M1064.length]? = some (.live ⟨.box, 43, 20, [(.str ([] : List UInt8) :: (.bool false :: (.nils :: ((arC (cI .i8) 0 r1081) ++ ((.nils :: []) : List AV)))))]⟩) := fr1267 _ _ niN o1248
   obtain ⟨r1290, hx1289, h⟩ := bind_some h
   refine kx (mvO rfl) (Rn (hA h1255 (hA h1256 (hA h1257 (hA h1258 (hA h1259 (hA h1260 (hN rfl hZ))))))) fun e1270 h1272 h1273 h1274 h1275 h1276 h1277 h1278 => sN (sq (Rg (kx (mvO rfl) (Rn (hA h1272 (hA h1273 (hA h1274 (hA h1275 (hA h1276 (hA h1277 (hA h1278 (hV (.int .i64 1) rfl hZ)))))))) fun e1279 h1281 h1282 h1283 h1284 h1285 h1286 h1287 h1288 => sN (sq (Rg (kx (ldOA (cs' := (.str ([] : List UInt8) :: (.bool false :: (.nils :: ((arC (cI .i8) 0 r1081) ++ ((.nils :: []) : List AV)))))) h1286 o1269 rfl rfl (ble rfl) rfl) (kx (mvO h1288) (kc (cl (v := .int .i64 r1290) rfl (cns rfl (cns rfl rfl)) rfl (laws_heldChain_ok (Chain.mk ([] : List UInt8) (Half.mk false ([] : List Notch) r1081) ([] : List Mark)) 1 _ hx1289) nm) (kx (mvO rfl) (Rn (hA h1281 (hA h1282 (hA h1283 (hA h1284 (hA h1285 (hA h1286 (hA h1287 (hN rfl hZ)))))))) fun e1291 h1293 h1294 h1295 h1296 h1297 h1298 h1299 h1300 => sN (sq (sq (Rg (kx (mvO h1300) (kx (bLss rfl rfl) (Rn (hA h1293 (hA h1294 (hA h1295 (hA h1296 (hA h1297 (hA h1298 (hA h1299 (hA h1300 (hN rfl hZ))))))))) fun e1301 h1303 h1304 h1305 h1306 h1307 h1308 h1309 h1310 h1311 => sN ?_))))))))))))))))))
   clear h1255 h1256 h1257 h1258 h1259 h1260 h1272 h1273 h1274 h1275 h1276 h1277 h1278 h1281 h1282 h1283 h1284 h1285 h1286 h1287 h1293 h1294 h1295 h1296 h1297 h1298 h1299 h1300
   rcases ite_some h with ⟨hb1312, h⟩ | ⟨hb1312, h⟩
   ·refine cT h1311 hb1312 (sq (Rg (kx (mvO rfl) (Rn (hV (.bool false) rfl hZ) fun e1313 h1315 => sN (xx (sR ?_))))))
    clear h1303 h1304 h1305 h1306 h1307 h1308 h1309 h1310 h1311
    obtain rfl := si h
    exact eR (resT h1315 res0) rfl
   refine cF h1311 hb1312 (xx (sN (sq (sq (Rg (kx (mvO h1310) (kx (mvO h1309) (kx (bNeq rfl rfl) (Rn (hA h1303 (hA h1304 (hA h1305 (hA h1306 (hA h1307 (hA h1308 (hA h1309 (hN rfl hZ)))))))) fun e1316 h1318 h1319 h1320 h1321 h1322 h1323 h1324 h1325 => sN ?_)))))))))
   clear h1303 h1304 h1305 h1306 h1307 h1308 h1309 h1310 h1311
   rcases ite_some h with ⟨hb1326, h⟩ | ⟨hb1326, h⟩
   ·refine cT h1325 hb1326 (sq (Rg (kx (mvO rfl) (Rn (hV (.bool false) rfl hZ) fun e1327 h1329 => sN (xx (sR ?_))))))
    clear h1318 h1319 h1320 h1321 h1322 h1323 h1324 h1325
    obtain rfl := si h
    exact eR (resT h1329 res0) rfl
   obtain ⟨⟨r1331, r1332, r1333⟩, hx1330, h⟩ := bind_some h
   obtain ⟨⟨r1335, r1336⟩, hx1334, h⟩ := bind_some h
   obtain ⟨q1501, hx1337, h⟩ := bind_some h
   refine cF h1325 hb1326 (xx (sN (sq (Rd (kf (ldPA h1319 rfl rfl) (fc (cl (v := .agg (.bool r1331 :: (.sl (some 99) (r1332.map Notch.c) :: ((arC (cI .i8) 0 r1333) ++ ([] : List AV))))) rfl (cns rfl rfl) rfl (laws_toHalf_ok a1 _ hx1330) nm) (kf (ldPA h1320 rfl rfl) (fc (cl (v := .agg [.str r1335, .int .u32 r1336]) rfl (cns rfl rfl) rfl (laws_toParty_ok a2 _ hx1334) nm) (kf (mvO h1318) ?_)))))))))
   rcases q1501 with ⟨r1338, r1339⟩ | ⟨r1418, r1419, r1420, r1421, r1422⟩
   ·refine fc (cl (v := .tup [.agg (.str ([] : List UInt8) :: (.bool false :: (.nils :: ((arC (cI .i8) 0 r1338) ++ ((.nils :: []) : List AV))))), .int .i64 r1339]) rfl (cns rfl (cns rfl (cns rfl rfl))) rfl (impl_StartChain_ok (Half.mk r1331 r1332 r1333) (Party.mk r1335 r1336) a3 _ hx1337) nm) (kf (mvO rfl) (kf (exT rfl rfl) (kf (exT rfl rfl) (Ev.nfpushE (alO zero43) (Ev.fend1 fun M1341 hM1342 => ?_)))))
    have hM1342 := fendM hM1342 [⟨.box, 43, 20, [(.str ([] : List UInt8) :: (.bool false :: (.nils :: ((arC (cI .i8) 0 (Ar.rep 16 0)) ++ ((.nils :: []) : List AV)))))]⟩] rfl
    have o1343 := push_old hM1342 o1268
    have o1344 := push_old hM1342 o1269
    have ne1345 : ([] : Mem).length ≠ M1264.length := by have := lt_of_get (M := M1264) o1268; omega
    have ne1346 : M1064.length ≠ M1264.length := by have := lt_of_get (M := M1264) o1269; omega
    have o1347 : M1341[M1264.length]? = some (.live ⟨.box, 43, 20, [(.str ([] : List UInt8) :: (.bool false :: (.nils :: ((arC (cI .i8) 0 (Ar.rep 16 0)) ++ ((.nils :: []) : List AV)))))]⟩) := push_at hM1342 0 rfl
    refine kw (stO rfl rfl o1347 rfl rfl ⟨rfl, ble rfl⟩ rfl rfl) fun M1348 hM1349 => ?_
    have o1350 := set_ne hM1349 ne1345 o1343
    have o1351 := set_ne hM1349 ne1346 o1344
    have o1352 : M1348[M1264.length]? = some (.live ⟨.box, 43, 20, [(.str ([] : List UInt8) :: (.bool false :: (.nils :: ((arC (cI .i8) 0 r1338) ++ ((.nils :: []) : List AV)))))]⟩) := set_same hM1349 o1347
    obtain ⟨r1416, hr1417, h⟩ := bind_some h
    refine kx (mvO rfl) (Rn (hA h1321 (hA h1322 (hA h1323 (hA h1324 (hV (.loc M1264.length 1 0 0) rfl (hN rfl hZ)))))) fun e1353 h1355 h1356 h1357 h1358 h1359 h1360 => sN (sq (sq ?_)))
    clear h1318 h1319 h1320 h1321 h1322 h1323 h1324 h1325
    refine Ev.cut (Q1 := laws_FnExactStartChain_c11_Q r1081 r1263 (([] : Mem).length) M1064.length M1264.length r1416) (by
        have h := hr1417
        obtain ⟨r1362, hx1361, h⟩ := bind_some h
        refine Rg (kx (ldOA (cs' := (.str ([] : List UInt8) :: (.bool false :: (.nils :: ((arC (cI .i8) 0 r1338) ++ ((.nils :: []) : List AV)))))) h1359 o1352 rfl rfl (ble rfl) rfl) (kx (ldOA (cs' := (.str r1027 :: (.bool r1028 :: (.sl none (r1029.map Notch.c) :: ((arC (cI .i8) 0 r1030) ++ ((.sl none (r1031.map Mark.c) :: []) : List AV)))))) h1355 o1350 rfl rfl (ble rfl) rfl) (kc (cl (v := .bool r1362) rfl (cns rfl (cns rfl rfl)) rfl (laws_eqChain_ok (Chain.mk ([] : List UInt8) (Half.mk false ([] : List Notch) r1338) ([] : List Mark)) (Chain.mk r1027 (Half.mk r1028 r1029 r1030) r1031) _ hx1361) nm) (kx (uNot rfl) (kx (mvO rfl) ?_)))))
        rcases ite_some h with ⟨hb1363, h⟩ | ⟨hb1363, h⟩
        ·refine kx (guF rfl (congrArg Bool.not hb1363) (mvO h1360)) (kx (guF rfl (congrArg Bool.not hb1363) (mvO h1356)) (kx (guF rfl (congrArg Bool.not hb1363) (bNeq rfl rfl)) (kx (pkF rfl (congrArg Bool.not hb1363) rfl) (Rn (hA h1357 (hA h1358 (hN rfl hZ))) fun e1364 h1366 h1367 h1368 => ?_))))
         clear h1355 h1356 h1357 h1358 h1359 h1360
         obtain rfl := si h
         exact kd (show laws_FnExactStartChain_c11_Q r1081 r1263 (([] : Mem).length) M1064.length M1264.length _ _ from ⟨rfl, h1366, h1367, h1368, o1351⟩)
        refine kx (gsF rfl (congrArg Bool.not hb1363)) (kx (gsF rfl (congrArg Bool.not hb1363)) (kx (gsF rfl (congrArg Bool.not hb1363)) (kx (pkT rfl (congrArg Bool.not hb1363) rfl) (Rn (hA h1357 (hA h1358 (hV (.bool true) rfl hZ))) fun e1369 h1371 h1372 h1373 => ?_))))
        clear h1355 h1356 h1357 h1358 h1359 h1360
        obtain rfl := si h
        exact kd (show laws_FnExactStartChain_c11_Q r1081 r1263 (([] : Mem).length) M1064.length M1264.length _ _ from ⟨rfl, h1371, h1372, h1373, o1351⟩)) ?_
    revert h hr1417
    revert r1416
    intro y1376 hr1417 h
    intro x e1374 M1375 hq1415
    obtain ⟨rfl, h1377, h1378, h1379, o1380⟩ := hq1415
    refine sN ?_
    rcases ite_some h with ⟨hb1381, h⟩ | ⟨hb1381, h⟩
    ·refine cT h1379 hb1381 (sq (Rg (kx (mvO rfl) (Rn (hV (.bool false) rfl hZ) fun e1382 h1384 => sN (xx (sR ?_))))))
     clear h1377 h1378 h1379
     obtain rfl := si h
     exact eR (resT h1384 res0) rfl
    obtain ⟨r1391, hx1390, h⟩ := bind_some h
    refine cF h1379 hb1381 (xx (sN (sq (Rg (kx (mvO rfl) (Rn (hV (.loc M1064.length 1 0 0) h1377 (hV (.int .i64 r1263) h1378 (hV (.int .i64 1) rfl hZ))) fun e1385 h1387 h1388 h1389 => sN (sq (Rg (kx (ldOA (cs' := (.str ([] : List UInt8) :: (.bool false :: (.nils :: ((arC (cI .i8) 0 r1081) ++ ((.nils :: []) : List AV)))))) h1387 o1380 rfl rfl (ble rfl) rfl) (kx (mvO h1389) (kc (cl (v := .int .i64 r1391) rfl (cns rfl (cns rfl rfl)) rfl (laws_heldChain_ok (Chain.mk ([] : List UInt8) (Half.mk false ([] : List Notch) r1081) ([] : List Mark)) 1 _ hx1390) nm) (kx (mvO rfl) (Rn (hA h1388 (hN rfl hZ)) fun e1392 h1394 h1395 => sN (sq (sq (Rg (kx (mvO h1395) (kx (bLss rfl rfl) (Rn (hA h1394 (hA h1395 (hN rfl hZ))) fun e1396 h1398 h1399 h1400 => sN ?_)))))))))))))))))))
    clear h1377 h1378 h1379 h1387 h1388 h1394 h1395
    rcases ite_some h with ⟨hb1401, h⟩ | ⟨hb1401, h⟩
    ·refine cT h1400 hb1401 (sq (Rg (kx (mvO rfl) (Rn (hV (.bool false) rfl hZ) fun e1402 h1404 => sN (xx (sR ?_))))))
     clear h1398 h1399 h1400
     obtain rfl := si h
     exact eR (resT h1404 res0) rfl
    refine cF h1400 hb1401 (xx (sN (sq (sq (Rg (kx (mvO h1399) (kx (mvO h1398) (kx (bNeq rfl rfl) (Rn (hN rfl hZ) fun e1405 h1407 => sN ?_)))))))))
    clear h1398 h1399 h1400
    rcases ite_some h with ⟨hb1408, h⟩ | ⟨hb1408, h⟩
    ·refine cT h1407 hb1408 (sq (Rg (kx (mvO rfl) (Rn (hV (.bool false) rfl hZ) fun e1409 h1411 => sN (xx (sR ?_))))))
     clear h1407
     obtain rfl := si h
     exact eR (resT h1411 res0) rfl
    refine cF h1407 hb1408 (xx (sN (sq (Rg (kx (mvO rfl) (Rn (hV (.bool true) rfl hZ) fun e1412 h1414 => sN (xx ?_)))))))
    clear h1407
    obtain rfl := si h
    exact eR (resT h1414 res0) rfl
   refine fc (cl (v := .tup [.agg (.str r1418 :: (.bool r1419 :: (.sl (some 99) (r1420.map Notch.c) :: ((arC (cI .i8) 0 r1421) ++ ((.sl (some 78) (r1422.map Mark.c) :: []) : List AV))))), .int .i64 0]) rfl (cns rfl (cns rfl (cns rfl rfl))) rfl (impl_StartChain_ok (Half.mk r1331 r1332 r1333) (Party.mk r1335 r1336) a3 _ hx1337) nm) (kf (mvO rfl) (kf (exT rfl rfl) (kf (exT rfl rfl) (Ev.nfpushE (alO zero43) (Ev.fend1 fun M1424 hM1425 => ?_)))))
   have hM1425 := fendM hM1425 [⟨.box, 43, 20, [(.str ([] : List UInt8) :: (.bool false :: (.nils :: ((arC (cI .i8) 0 (Ar.rep 16 0)) ++ ((.nils :: []) : List AV)))))]⟩] rfl
   have o1426 := push_old hM1425 o1268
   have o1427 := push_old hM1425 o1269
   have ne1428 : ([] : Mem).length ≠ M1264.length := by have := lt_of_get (M := M1264) o1268; omega
   have ne1429 : M1064.length ≠ M1264.length := by have := lt_of_get (M := M1264) o1269; omega
   have o1430 : M1424[M1264.length]? = some (.live ⟨.box, 43, 20, [(.str ([] : List UInt8) :: (.bool false :: (.nils :: ((arC (cI .i8) 0 (Ar.rep 16 0)) ++ ((.nils :: []) : List AV)))))]⟩) := push_at hM1425 0 rfl
   refine kw (stO rfl rfl o1430 rfl rfl ⟨rfl, ble rfl⟩ rfl rfl) fun M1431 hM1432 => ?_
   have o1433 := set_ne hM1432 ne1428 o1426
   have o1434 := set_ne hM1432 ne1429 o1427
   have o1435 : M1431[M1264.length]? = some (.live ⟨.box, 43, 20, [(.str r1418 :: (.bool r1419 :: (.sl none (r1420.map Notch.c) :: ((arC (cI .i8) 0 r1421) ++ ((.sl none (r1422.map Mark.c) :: []) : List AV)))))]⟩) := set_same hM1432 o1430
   obtain ⟨r1499, hr1500, h⟩ := bind_some h
   refine kx (mvO rfl) (Rn (hA h1321 (hA h1322 (hA h1323 (hA h1324 (hV (.loc M1264.length 1 0 0) rfl (hV (.int .i64 0) rfl hZ)))))) fun e1436 h1438 h1439 h1440 h1441 h1442 h1443 => sN (sq (sq ?_)))
   clear h1318 h1319 h1320 h1321 h1322 h1323 h1324 h1325
   refine Ev.cut (Q1 := laws_FnExactStartChain_c12_Q r1081 r1263 (([] : Mem).length) M1064.length M1264.length r1499) (by
       have h := hr1500
       obtain ⟨r1445, hx1444, h⟩ := bind_some h
       refine Rg (kx (ldOA (cs' := (.str r1418 :: (.bool r1419 :: (.sl none (r1420.map Notch.c) :: ((arC (cI .i8) 0 r1421) ++ ((.sl none (r1422.map Mark.c) :: []) : List AV)))))) h1442 o1435 rfl rfl (ble rfl) rfl) (kx (ldOA (cs' := (.str r1027 :: (.bool r1028 :: (.sl none (r1029.map Notch.c) :: ((arC (cI .i8) 0 r1030) ++ ((.sl none (r1031.map Mark.c) :: []) : List AV)))))) h1438 o1433 rfl rfl (ble rfl) rfl) (kc (cl (v := .bool r1445) rfl (cns rfl (cns rfl rfl)) rfl (laws_eqChain_ok (Chain.mk r1418 (Half.mk r1419 r1420 r1421) r1422) (Chain.mk r1027 (Half.mk r1028 r1029 r1030) r1031) _ hx1444) nm) (kx (uNot rfl) (kx (mvO rfl) ?_)))))
       rcases ite_some h with ⟨hb1446, h⟩ | ⟨hb1446, h⟩
       ·refine kx (guF rfl (congrArg Bool.not hb1446) (mvO h1443)) (kx (guF rfl (congrArg Bool.not hb1446) (mvO h1439)) (kx (guF rfl (congrArg Bool.not hb1446) (bNeq rfl rfl)) (kx (pkF rfl (congrArg Bool.not hb1446) rfl) (Rn (hA h1440 (hA h1441 (hV (.bool false) rfl hZ))) fun e1447 h1449 h1450 h1451 => ?_))))
        clear h1438 h1439 h1440 h1441 h1442 h1443
        obtain rfl := si h
        exact kd (show laws_FnExactStartChain_c12_Q r1081 r1263 (([] : Mem).length) M1064.length M1264.length _ _ from ⟨rfl, h1449, h1450, h1451, o1434⟩)
       refine kx (gsF rfl (congrArg Bool.not hb1446)) (kx (gsF rfl (congrArg Bool.not hb1446)) (kx (gsF rfl (congrArg Bool.not hb1446)) (kx (pkT rfl (congrArg Bool.not hb1446) rfl) (Rn (hA h1440 (hA h1441 (hV (.bool true) rfl hZ))) fun e1452 h1454 h1455 h1456 => ?_))))
       clear h1438 h1439 h1440 h1441 h1442 h1443
       obtain rfl := si h
       exact kd (show laws_FnExactStartChain_c12_Q r1081 r1263 (([] : Mem).length) M1064.length M1264.length _ _ from ⟨rfl, h1454, h1455, h1456, o1434⟩)) ?_
   revert h hr1500
   revert r1499
   intro y1459 hr1500 h
   intro x e1457 M1458 hq1498
   obtain ⟨rfl, h1460, h1461, h1462, o1463⟩ := hq1498
   refine sN ?_
   rcases ite_some h with ⟨hb1464, h⟩ | ⟨hb1464, h⟩
   ·refine cT h1462 hb1464 (sq (Rg (kx (mvO rfl) (Rn (hV (.bool false) rfl hZ) fun e1465 h1467 => sN (xx (sR ?_))))))
    clear h1460 h1461 h1462
    obtain rfl := si h
    exact eR (resT h1467 res0) rfl
   obtain ⟨r1474, hx1473, h⟩ := bind_some h
   refine cF h1462 hb1464 (xx (sN (sq (Rg (kx (mvO rfl) (Rn (hV (.loc M1064.length 1 0 0) h1460 (hV (.int .i64 r1263) h1461 (hV (.int .i64 1) rfl hZ))) fun e1468 h1470 h1471 h1472 => sN (sq (Rg (kx (ldOA (cs' := (.str ([] : List UInt8) :: (.bool false :: (.nils :: ((arC (cI .i8) 0 r1081) ++ ((.nils :: []) : List AV)))))) h1470 o1463 rfl rfl (ble rfl) rfl) (kx (mvO h1472) (kc (cl (v := .int .i64 r1474) rfl (cns rfl (cns rfl rfl)) rfl (laws_heldChain_ok (Chain.mk ([] : List UInt8) (Half.mk false ([] : List Notch) r1081) ([] : List Mark)) 1 _ hx1473) nm) (kx (mvO rfl) (Rn (hA h1471 (hN rfl hZ)) fun e1475 h1477 h1478 => sN (sq (sq (Rg (kx (mvO h1478) (kx (bLss rfl rfl) (Rn (hA h1477 (hA h1478 (hN rfl hZ))) fun e1479 h1481 h1482 h1483 => sN ?_)))))))))))))))))))
   clear h1460 h1461 h1462 h1470 h1471 h1477 h1478
   rcases ite_some h with ⟨hb1484, h⟩ | ⟨hb1484, h⟩
   ·refine cT h1483 hb1484 (sq (Rg (kx (mvO rfl) (Rn (hV (.bool false) rfl hZ) fun e1485 h1487 => sN (xx (sR ?_))))))
    clear h1481 h1482 h1483
    obtain rfl := si h
    exact eR (resT h1487 res0) rfl
   refine cF h1483 hb1484 (xx (sN (sq (sq (Rg (kx (mvO h1482) (kx (mvO h1481) (kx (bNeq rfl rfl) (Rn (hN rfl hZ) fun e1488 h1490 => sN ?_)))))))))
   clear h1481 h1482 h1483
   rcases ite_some h with ⟨hb1491, h⟩ | ⟨hb1491, h⟩
   ·refine cT h1490 hb1491 (sq (Rg (kx (mvO rfl) (Rn (hV (.bool false) rfl hZ) fun e1492 h1494 => sN (xx (sR ?_))))))
    clear h1490
    obtain rfl := si h
    exact eR (resT h1494 res0) rfl
   refine cF h1490 hb1491 (xx (sN (sq (Rg (kx (mvO rfl) (Rn (hV (.bool true) rfl hZ) fun e1495 h1497 => sN (xx ?_)))))))
   clear h1490
   obtain rfl := si h
   exact eR (resT h1497 res0) rfl
  refine cT h1170 (congrArg Bool.not hb1171) (sq (Rg (kx (mvO rfl) (Rn (hV (.bool false) rfl hZ) fun e1505 h1507 => sN (xx (sR ?_))))))
  clear h1162 h1163 h1164 h1165 h1166 h1167 h1168 h1169 h1170
  obtain rfl := si h
  exact eR (resT h1507 res0) rfl
 refine Ev.nfcpE (Ev.callT (v := .tup [.agg (.str r1511 :: (.bool r1512 :: (.sl (some 99) (r1513.map Notch.c) :: ((arC (cI .i8) 0 r1514) ++ ((.sl (some 78) (r1515.map Mark.c) :: []) : List AV))))), .int .i64 0]) rfl (cns rfl (cns rfl (cns rfl rfl))) (ra1 (ra_agg (mp1 rfl (mp1 (ra1_row o1067 rfl Notch.fl) (mpA (fun _ => rArg1_flat) (fun _ => rfl) mp0)))) (ra1 rfl (ra1 rfl ra0))) (impl_StartChain_ok (Half.mk r1047 r1048 r1049) (Party.mk r1078 r1079) a3 _ hx1080) (th_gen (v' := .tup [.agg (.str r1511 :: (.bool r1512 :: (.lsl M1064.length r1513.length 0 r1513.length :: ((arC (cI .i8) 0 r1514) ++ ((.lsl (M1064.length + 1) r1515.length 0 r1515.length :: []) : List AV))))), .int .i64 0]) (l := [⟨.grow, 99, 2, r1513.map Notch.c⟩, ⟨.grow, 78, 2, r1515.map Mark.c⟩]) (own_tup (oa1 (own2_agg (oa1 rfl (oa1 rfl (oa1 (own1_row' (c := Notch.c) Notch.flF) (oaA (fun _ => own1_flat) (fun _ => rfl) (oa1 (own1_row' (c := Mark.c) Mark.flF) oa0)))))) (oa1 rfl oa0))) (by simp [thaw, thaw2, thaw1, thawL, co99, co78, thA (c := (cI .i8)) (fun _ => rfl), thA0 (c := (cI .i8)) (fun _ => rfl)]) rfl rfl)) (kf (mvO rfl) (kf (exT rfl rfl) (kf (exT rfl rfl) (Ev.nfpushE (alO zero43) (Ev.fend1 fun M1519 hM1520 => ?_)))))
 have hM1520 := fendM hM1520 [⟨.grow, 99, 2, r1513.map Notch.c⟩, ⟨.grow, 78, 2, r1515.map Mark.c⟩, ⟨.box, 43, 20, [(.str ([] : List UInt8) :: (.bool false :: (.nils :: ((arC (cI .i8) 0 (Ar.rep 16 0)) ++ ((.nils :: []) : List AV)))))]⟩] rfl
 have o1521 := push_old hM1520 o1066
 have o1522 := push_old hM1520 o1067
 have o1523 := push_old hM1520 o1068
 have ne1524 : ([] : Mem).length ≠ M1064.length := by have := lt_of_get (M := M1064) o1066; omega
 have ne1525 : M1036.length ≠ M1064.length := by have := lt_of_get (M := M1064) o1067; omega
 have ne1526 : M1051.length ≠ M1064.length := by have := lt_of_get (M := M1064) o1068; omega
 have o1527 : M1519[M1064.length]? = some (.live ⟨.grow, 99, 2, r1513.map Notch.c⟩) := push_at hM1520 0 rfl
 have ne1528 : ([] : Mem).length ≠ (M1064.length + 1) := by have := lt_of_get (M := M1064) o1066; omega
 have ne1529 : M1036.length ≠ (M1064.length + 1) := by have := lt_of_get (M := M1064) o1067; omega
 have ne1530 : M1051.length ≠ (M1064.length + 1) := by have := lt_of_get (M := M1064) o1068; omega
 have ne1531 : M1064.length ≠ (M1064.length + 1) := by omega
 have o1532 : M1519[(M1064.length + 1)]? = some (.live ⟨.grow, 78, 2, r1515.map Mark.c⟩) := push_at hM1520 1 rfl
 have ne1533 : ([] : Mem).length ≠ (M1064.length + 2) := by have := lt_of_get (M := M1064) o1066; omega
 have ne1534 : M1036.length ≠ (M1064.length + 2) := by have := lt_of_get (M := M1064) o1067; omega
 have ne1535 : M1051.length ≠ (M1064.length + 2) := by have := lt_of_get (M := M1064) o1068; omega
 have ne1536 : M1064.length ≠ (M1064.length + 2) := by omega
 have ne1537 : (M1064.length + 1) ≠ (M1064.length + 2) := by omega
 have o1538 : M1519[(M1064.length + 2)]? = some (.live ⟨.box, 43, 20, [(.str ([] : List UInt8) :: (.bool false :: (.nils :: ((arC (cI .i8) 0 (Ar.rep 16 0)) ++ ((.nils :: []) : List AV)))))]⟩) := push_at hM1520 2 rfl
 refine kw (stO rfl rfl o1538 rfl rfl ⟨rfl, ble rfl⟩ (all1 rfl (all1 rfl (all1 (okL o1527 (by simp)) (oaS (fun _ => rfl) (all1 (okL o1532 (by simp)) all0))))) rfl) fun M1539 hM1540 => ?_
 have o1541 := set_ne hM1540 ne1533 o1521
 have o1542 := set_ne hM1540 ne1534 o1522
 have o1543 := set_ne hM1540 ne1535 o1523
 have o1544 := set_ne hM1540 ne1536 o1527
 have o1545 := set_ne hM1540 ne1537 o1532
 have o1546 : M1539[(M1064.length + 2)]? = some (.live ⟨.box, 43, 20, [(.str r1511 :: (.bool r1512 :: (.lsl M1064.length r1513.length 0 r1513.length :: ((arC (cI .i8) 0 r1514) ++ ((.lsl (M1064.length + 1) r1515.length 0 r1515.length :: []) : List AV)))))]⟩) := set_same hM1540 o1538
 obtain ⟨r1987, hr1988, h⟩ := bind_some h
 refine kx (mvO rfl) (Rn (hA h1071 (hA h1072 (hA h1073 (hA h1074 (hA h1075 (hA h1076 (hV (.loc (M1064.length + 2) 1 0 0) rfl (hV (.int .i64 0) rfl hZ)))))))) fun e1547 h1549 h1550 h1551 h1552 h1553 h1554 h1555 h1556 => sN (sq (sq ?_)))
 clear h1071 h1072 h1073 h1074 h1075 h1076
 refine Ev.cut (Q1 := laws_FnExactStartChain_c13_Q a1 a2 a3 r1027 r1028 r1029 r1030 r1031 r1047 r1048 r1049 r1511 r1512 r1513 r1514 r1515 (([] : Mem).length) M1036.length M1051.length M1064.length (M1064.length + 1) (M1064.length + 2) r1987) (by
     have h := hr1988
     obtain ⟨r1558, hx1557, h⟩ := bind_some h
     refine Rg (kx (ldOA (cs' := (.str r1511 :: (.bool r1512 :: (.lsl M1064.length r1513.length 0 r1513.length :: ((arC (cI .i8) 0 r1514) ++ ((.lsl (M1064.length + 1) r1515.length 0 r1515.length :: []) : List AV)))))) h1555 o1546 rfl rfl (ble rfl) rfl) (kx (ldOA (cs' := (.str r1027 :: (.bool r1028 :: (.sl none (r1029.map Notch.c) :: ((arC (cI .i8) 0 r1030) ++ ((.sl none (r1031.map Mark.c) :: []) : List AV)))))) h1552 o1541 rfl rfl (ble rfl) rfl) (kc (cl (v := .bool r1558) rfl (cns rfl (cns rfl rfl)) (ra1 (ra_agg (mp1 rfl (mp1 rfl (mp1 (ra1_row o1544 rfl Notch.fl) (mpA (fun _ => rArg1_flat) (fun _ => rfl) (mp1 (ra1_row o1545 rfl Mark.fl) mp0)))))) (ra1 rfl ra0)) (laws_eqChain_ok (Chain.mk r1511 (Half.mk r1512 r1513 r1514) r1515) (Chain.mk r1027 (Half.mk r1028 r1029 r1030) r1031) _ hx1557) (fun _ => rfl)) (kx (uNot rfl) (kx (mvO rfl) ?_)))))
     rcases ite_some h with ⟨hb1559, h⟩ | ⟨hb1559, h⟩
     ·refine kx (guF rfl (congrArg Bool.not hb1559) (mvO h1556)) (kx (guF rfl (congrArg Bool.not hb1559) (mvO h1553)) (kx (guF rfl (congrArg Bool.not hb1559) (bNeq rfl rfl)) (kx (pkF rfl (congrArg Bool.not hb1559) rfl) (Rn (hA h1549 (hA h1550 (hA h1551 (hA h1552 (hA h1553 (hA h1554 (hA h1555 (hA h1556 (hV (.bool false) rfl hZ))))))))) fun e1560 h1562 h1563 h1564 h1565 h1566 h1567 h1568 h1569 h1570 => ?_))))
      clear h1549 h1550 h1551 h1552 h1553 h1554 h1555 h1556
      obtain rfl := si h
      exact kd (show laws_FnExactStartChain_c13_Q a1 a2 a3 r1027 r1028 r1029 r1030 r1031 r1047 r1048 r1049 r1511 r1512 r1513 r1514 r1515 (([] : Mem).length) M1036.length M1051.length M1064.length (M1064.length + 1) (M1064.length + 2) _ _ from ⟨rfl, h1562, h1563, h1564, h1565, h1566, h1567, h1568, h1569, h1570, o1541, o1542, o1543, o1544, o1545, o1546⟩)
     refine kx (gsF rfl (congrArg Bool.not hb1559)) (kx (gsF rfl (congrArg Bool.not hb1559)) (kx (gsF rfl (congrArg Bool.not hb1559)) (kx (pkT rfl (congrArg Bool.not hb1559) rfl) (Rn (hA h1549 (hA h1550 (hA h1551 (hA h1552 (hA h1553 (hA h1554 (hA h1555 (hA h1556 (hV (.bool true) rfl hZ))))))))) fun e1571 h1573 h1574 h1575 h1576 h1577 h1578 h1579 h1580 h1581 => ?_))))
     clear h1549 h1550 h1551 h1552 h1553 h1554 h1555 h1556
     obtain rfl := si h
     exact kd (show laws_FnExactStartChain_c13_Q a1 a2 a3 r1027 r1028 r1029 r1030 r1031 r1047 r1048 r1049 r1511 r1512 r1513 r1514 r1515 (([] : Mem).length) M1036.length M1051.length M1064.length (M1064.length + 1) (M1064.length + 2) _ _ from ⟨rfl, h1573, h1574, h1575, h1576, h1577, h1578, h1579, h1580, h1581, o1541, o1542, o1543, o1544, o1545, o1546⟩)) ?_
 revert h hr1988
 revert r1987
 intro y1584 hr1988 h
 intro x e1582 M1583 hq1986
 obtain ⟨rfl, h1585, h1586, h1587, h1588, h1589, h1590, h1591, h1592, h1593, o1594, o1595, o1596, o1597, o1598, o1599⟩ := hq1986
 refine sN ?_
 rcases ite_some h with ⟨hb1600, h⟩ | ⟨hb1600, h⟩
 ·refine cT h1593 hb1600 (sq (Rg (kx (mvO rfl) (Rn (hV (.bool false) rfl hZ) fun e1601 h1603 => sN (xx (sR ?_))))))
  clear h1585 h1586 h1587 h1588 h1589 h1590 h1591 h1592 h1593
  obtain rfl := si h
  exact eR (resT h1603 res0) rfl
 obtain ⟨⟨r1605, r1606, r1607⟩, hx1604, h⟩ := bind_some h
 obtain ⟨r1609, hx1608, h⟩ := bind_some h
 refine cF h1593 hb1600 (xx (sN (sq (sq (Rd (kf (ldOA (cs' := (.bool r1047 :: (.lsl M1036.length r1048.length 0 r1048.length :: ((arC (cI .i8) 0 r1049) ++ ([] : List AV))))) h1590 o1596 rfl rfl (ble rfl) rfl) (kf (ldPA h1586 rfl rfl) (fc (cl (v := .agg (.bool r1605 :: (.sl (some 99) (r1606.map Notch.c) :: ((arC (cI .i8) 0 r1607) ++ ([] : List AV))))) rfl (cns rfl rfl) rfl (laws_toHalf_ok a1 _ hx1604) nm) (fc (cl (v := .bool r1609) rfl (cns rfl (cns rfl rfl)) (ra1 (ra_agg (mp1 rfl (mp1 (ra1_row o1595 rfl Notch.fl) (mpA (fun _ => rArg1_flat) (fun _ => rfl) mp0)))) (ra1 rfl ra0)) (laws_eqHalf_ok (Half.mk r1047 r1048 r1049) (Half.mk r1605 r1606 r1607) _ hx1608) (fun _ => rfl)) (kf (uNot rfl) (fZ (Rn (hV (.str a3) h1585 (hV (.pt none (.bool a1.Stock :: (.sl none (a1.Notches.map Notch.c) :: ((arC (cI .i8) 0 a1.Grain) ++ ([] : List AV))))) h1586 (hV (.pt none [.str a2.Name, .int .u32 a2.Secret]) h1587 (hV (.loc ([] : Mem).length 1 0 0) h1588 (hV (.int .i64 0) h1589 (hV (.loc M1051.length 1 0 0) h1590 (hV (.loc (M1064.length + 2) 1 0 0) h1591 (hV (.int .i64 0) h1592 (hN rfl hZ))))))))) fun e1610 h1612 h1613 h1614 h1615 h1616 h1617 h1618 h1619 h1620 => sN ?_))))))))))))
 clear h1585 h1586 h1587 h1588 h1589 h1590 h1591 h1592 h1593
 rcases ite_some h with ⟨hb1621, h⟩ | ⟨hb1621, h⟩
 ·obtain ⟨⟨r1634, r1635⟩, hx1633, h⟩ := bind_some h
  refine cF h1620 (congrArg Bool.not hb1621) (xx (sN (sq (Rg (kx (mvO rfl) (Rn (hA h1612 (hA h1613 (hA h1614 (hA h1615 (hA h1616 (hA h1617 (hA h1618 (hA h1619 (hV (.int .i64 1) rfl hZ))))))))) fun e1622 h1624 h1625 h1626 h1627 h1628 h1629 h1630 h1631 h1632 => sN (sq (Rg (kx (ldOA (cs' := (.bool r1047 :: (.lsl M1036.length r1048.length 0 r1048.length :: ((arC (cI .i8) 0 r1049) ++ ([] : List AV))))) h1629 o1596 rfl rfl (ble rfl) rfl) (kx (mvO h1632) (Ev.nxw (Ev.callW rfl (cns rfl (cns rfl rfl)) (laws_markHalf_l_ok r1047 r1048 r1049 1 M1036.length M1583 o1595 _ hx1633)) fun v1638 M1636 hq1637 => ?_)))))))))))
  clear h1612 h1613 h1614 h1615 h1616 h1617 h1618 h1619 h1620
  obtain ⟨hv1638, o1639, fr1640, hl1641⟩ := hq1637
  have hv1638 : v1638 = .int .i64 r1634 := hv1638
  subst hv1638
  have o1642 : M1636[M1036.length]? = some (.live ⟨.grow, 99, 2, r1635.map Notch.c⟩) := o1639
  have hl1641 : r1635.length = r1048.length := hl1641
  have o1643 : M1636[([] : Mem).length]? = some (.live ⟨.box, 43, 20, [(.str r1027 :: (.bool r1028 :: (.sl none (r1029.map Notch.c) :: ((arC (cI .i8) 0 r1030) ++ ((.sl none (r1031.map Mark.c) :: []) : List AV)))))]⟩) := fr1640 _ _ (niC ne1054 niN) o1594
  have o1644 : M1636[M1051.length]? = some (.live ⟨.box, 34, 18, [(.bool r1047 :: (.lsl M1036.length r1048.length 0 r1048.length :: ((arC (cI .i8) 0 r1049) ++ ([] : List AV))))]⟩) := fr1640 _ _ (niC (Ne.symm ne1062) niN) o1596
  have o1645 : M1636[M1064.length]? = some (.live ⟨.grow, 99, 2, r1513.map Notch.c⟩) := fr1640 _ _ (niC (Ne.symm ne1525) niN) o1597
  have o1646 : M1636[(M1064.length + 1)]? = some (.live ⟨.grow, 78, 2, r1515.map Mark.c⟩) := fr1640 _ _ (niC (Ne.symm ne1529) niN) o1598
  have o1647 : M1636[(M1064.length + 2)]? = some (.live ⟨.box, 43, 20, [(.str r1511 :: (.bool r1512 :: (.lsl M1064.length r1513.length 0 r1513.length :: ((arC (cI .i8) 0 r1514) ++ ((.lsl (M1064.length + 1) r1515.length 0 r1515.length :: []) : List AV)))))]⟩) := fr1640 _ _ (niC (Ne.symm ne1534) niN) o1599
  obtain ⟨r1981, hr1982, h⟩ := bind_some h
  refine kx (mvO rfl) (Rn (hA h1624 (hA h1625 (hA h1626 (hA h1627 (hA h1628 (hA h1630 (hA h1631 (hN rfl hZ)))))))) fun e1648 h1650 h1651 h1652 h1653 h1654 h1655 h1656 h1657 => sN (sq (sq ?_)))
  clear h1624 h1625 h1626 h1627 h1628 h1629 h1630 h1631
  refine Ev.cut (Q1 := laws_FnExactStartChain_c14_Q a1 a2 a3 r1027 r1028 r1029 r1030 r1031 r1511 r1512 r1513 r1514 r1515 (([] : Mem).length) M1064.length (M1064.length + 1) (M1064.length + 2) r1981) (by
      have h := hr1982
      refine Rg (kx (mvO h1657) (kx (bLss rfl rfl) (kx (mvO rfl) ?_)))
      rcases ite_some h with ⟨hb1658, h⟩ | ⟨hb1658, h⟩
      ·refine kx (gsF rfl hb1658) (kx (gsF rfl hb1658) (kc (Ev.gsF rfl hb1658) (kx (gsF rfl hb1658) (kx (pkT rfl hb1658 rfl) (kx (mvO rfl) (kx (gsF rfl rfl) (kx (gsF rfl rfl) (kx (gsF rfl rfl) (kx (pkT rfl rfl rfl) (Rn (hA h1650 (hA h1651 (hA h1652 (hA h1653 (hA h1654 (hA h1655 (hV (.bool true) rfl hZ))))))) fun e1659 h1661 h1662 h1663 h1664 h1665 h1666 h1667 => ?_))))))))))
       clear h1650 h1651 h1652 h1653 h1654 h1655 h1656 h1657
       obtain rfl := si h
       exact kd (show laws_FnExactStartChain_c14_Q a1 a2 a3 r1027 r1028 r1029 r1030 r1031 r1511 r1512 r1513 r1514 r1515 (([] : Mem).length) M1064.length (M1064.length + 1) (M1064.length + 2) _ _ from ⟨rfl, h1661, h1662, h1663, h1664, h1665, h1666, h1667, o1643, o1645, o1646, o1647⟩)
      obtain ⟨r1669, hx1668, h⟩ := bind_some h
      refine kx (guF rfl hb1658 (ldOA (cs' := (.str r1511 :: (.bool r1512 :: (.lsl M1064.length r1513.length 0 r1513.length :: ((arC (cI .i8) 0 r1514) ++ ((.lsl (M1064.length + 1) r1515.length 0 r1515.length :: []) : List AV)))))) h1655 o1647 rfl rfl (ble rfl) rfl)) (kx (guF rfl hb1658 (ldOA (cs' := (.str r1027 :: (.bool r1028 :: (.sl none (r1029.map Notch.c) :: ((arC (cI .i8) 0 r1030) ++ ((.sl none (r1031.map Mark.c) :: []) : List AV)))))) h1653 o1643 rfl rfl (ble rfl) rfl)) (kc (Ev.guF rfl hb1658 (cl (v := .bool r1669) rfl (cns rfl (cns rfl rfl)) (ra1 (ra_agg (mp1 rfl (mp1 rfl (mp1 (ra1_row o1645 rfl Notch.fl) (mpA (fun _ => rArg1_flat) (fun _ => rfl) (mp1 (ra1_row o1646 rfl Mark.fl) mp0)))))) (ra1 rfl ra0)) (laws_eqChain_ok (Chain.mk r1511 (Half.mk r1512 r1513 r1514) r1515) (Chain.mk r1027 (Half.mk r1028 r1029 r1030) r1031) _ hx1668) (fun _ => rfl))) (kx (guF rfl hb1658 (uNot rfl)) (kx (pkF rfl hb1658 rfl) (kx (mvO rfl) ?_)))))
      rcases ite_some h with ⟨hb1670, h⟩ | ⟨hb1670, h⟩
      ·refine kx (guF rfl (congrArg Bool.not hb1670) (mvO h1656)) (kx (guF rfl (congrArg Bool.not hb1670) (mvO h1654)) (kx (guF rfl (congrArg Bool.not hb1670) (bNeq rfl rfl)) (kx (pkF rfl (congrArg Bool.not hb1670) rfl) (Rn (hA h1650 (hA h1651 (hA h1652 (hA h1653 (hA h1654 (hA h1655 (hV (.bool false) rfl hZ))))))) fun e1671 h1673 h1674 h1675 h1676 h1677 h1678 h1679 => ?_))))
       clear h1650 h1651 h1652 h1653 h1654 h1655 h1656 h1657
       obtain rfl := si h
       exact kd (show laws_FnExactStartChain_c14_Q a1 a2 a3 r1027 r1028 r1029 r1030 r1031 r1511 r1512 r1513 r1514 r1515 (([] : Mem).length) M1064.length (M1064.length + 1) (M1064.length + 2) _ _ from ⟨rfl, h1673, h1674, h1675, h1676, h1677, h1678, h1679, o1643, o1645, o1646, o1647⟩)
      refine kx (gsF rfl (congrArg Bool.not hb1670)) (kx (gsF rfl (congrArg Bool.not hb1670)) (kx (gsF rfl (congrArg Bool.not hb1670)) (kx (pkT rfl (congrArg Bool.not hb1670) rfl) (Rn (hA h1650 (hA h1651 (hA h1652 (hA h1653 (hA h1654 (hA h1655 (hV (.bool true) rfl hZ))))))) fun e1680 h1682 h1683 h1684 h1685 h1686 h1687 h1688 => ?_))))
      clear h1650 h1651 h1652 h1653 h1654 h1655 h1656 h1657
      obtain rfl := si h
      exact kd (show laws_FnExactStartChain_c14_Q a1 a2 a3 r1027 r1028 r1029 r1030 r1031 r1511 r1512 r1513 r1514 r1515 (([] : Mem).length) M1064.length (M1064.length + 1) (M1064.length + 2) _ _ from ⟨rfl, h1682, h1683, h1684, h1685, h1686, h1687, h1688, o1643, o1645, o1646, o1647⟩)) ?_
  revert h hr1982
  revert r1981
  intro y1691 hr1982 h
  intro x e1689 M1690 hq1980
  obtain ⟨rfl, h1692, h1693, h1694, h1695, h1696, h1697, h1698, o1699, o1700, o1701, o1702⟩ := hq1980
  refine sN ?_
  rcases ite_some h with ⟨hb1703, h⟩ | ⟨hb1703, h⟩
  ·refine cT h1698 hb1703 (sq (Rg (kx (mvO rfl) (Rn (hV (.bool false) rfl hZ) fun e1704 h1706 => sN (xx (sR ?_))))))
   clear h1692 h1693 h1694 h1695 h1696 h1697 h1698
   obtain rfl := si h
   exact eR (resT h1706 res0) rfl
  obtain ⟨⟨r1717, r1718, r1719⟩, hx1716, h⟩ := bind_some h
  refine cF h1698 hb1703 (xx (sN (sq (Rg (kx (mvO rfl) (Rn (hV (.str a3) h1692 (hV (.pt none (.bool a1.Stock :: (.sl none (a1.Notches.map Notch.c) :: ((arC (cI .i8) 0 a1.Grain) ++ ([] : List AV))))) h1693 (hV (.pt none [.str a2.Name, .int .u32 a2.Secret]) h1694 (hV (.loc ([] : Mem).length 1 0 0) h1695 (hV (.int .i64 0) h1696 (hV (.loc (M1064.length + 2) 1 0 0) h1697 (hV (.int .i64 1) rfl hZ))))))) fun e1707 h1709 h1710 h1711 h1712 h1713 h1714 h1715 => sN (sq (Rg (kx (ldOA (cs' := (.str r1511 :: (.bool r1512 :: (.lsl M1064.length r1513.length 0 r1513.length :: ((arC (cI .i8) 0 r1514) ++ ((.lsl (M1064.length + 1) r1515.length 0 r1515.length :: []) : List AV)))))) h1714 o1702 rfl rfl (ble rfl) rfl) (kx (mvO h1715) (Ev.nxw (Ev.callW rfl (cns rfl (cns rfl rfl)) (laws_markChain_ll_ok r1511 r1512 r1513 r1514 r1515 1 M1064.length (M1064.length + 1) ne1531 M1690 o1700 o1701 _ hx1716)) fun v1722 M1720 hq1721 => ?_)))))))))))
  clear h1692 h1693 h1694 h1695 h1696 h1697 h1698
  obtain ⟨hv1722, o1723, o1724, fr1725, hl1726, hl1727⟩ := hq1721
  have hv1722 : v1722 = .int .i64 r1717 := hv1722
  subst hv1722
  have o1728 : M1720[M1064.length]? = some (.live ⟨.grow, 99, 2, r1718.map Notch.c⟩) := o1723
  have o1729 : M1720[(M1064.length + 1)]? = some (.live ⟨.grow, 78, 2, r1719.map Mark.c⟩) := o1724
  have hl1726 : r1718.length = r1513.length := hl1726
  have hl1727 : r1719.length = r1515.length := hl1727
  have o1730 : M1720[([] : Mem).length]? = some (.live ⟨.box, 43, 20, [(.str r1027 :: (.bool r1028 :: (.sl none (r1029.map Notch.c) :: ((arC (cI .i8) 0 r1030) ++ ((.sl none (r1031.map Mark.c) :: []) : List AV)))))]⟩) := fr1725 _ _ (niC ne1524 (niC ne1528 niN)) o1699
  have o1731 : M1720[(M1064.length + 2)]? = some (.live ⟨.box, 43, 20, [(.str r1511 :: (.bool r1512 :: (.lsl M1064.length r1513.length 0 r1513.length :: ((arC (cI .i8) 0 r1514) ++ ((.lsl (M1064.length + 1) r1515.length 0 r1515.length :: []) : List AV)))))]⟩) := fr1725 _ _ (niC (Ne.symm ne1536) (niC (Ne.symm ne1537) niN)) o1702
  obtain ⟨r1752, hx1751, h⟩ := bind_some h
  refine kx (mvO rfl) (Rn (hA h1709 (hA h1710 (hA h1711 (hA h1712 (hA h1713 (hA h1714 (hN rfl hZ))))))) fun e1732 h1734 h1735 h1736 h1737 h1738 h1739 h1740 => sN (sq (Rg (kx (mvO rfl) (Rn (hA h1734 (hA h1735 (hA h1736 (hA h1737 (hA h1738 (hA h1739 (hA h1740 (hV (.int .i64 1) rfl hZ)))))))) fun e1741 h1743 h1744 h1745 h1746 h1747 h1748 h1749 h1750 => sN (sq (Rg (kx (ldOA (cs' := (.str r1511 :: (.bool r1512 :: (.lsl M1064.length r1513.length 0 r1513.length :: ((arC (cI .i8) 0 r1514) ++ ((.lsl (M1064.length + 1) r1515.length 0 r1515.length :: []) : List AV)))))) h1748 o1731 rfl rfl (ble rfl) rfl) (kx (mvO h1750) (kc (cl (v := .int .i64 r1752) rfl (cns rfl (cns rfl rfl)) (ra1 (ra_agg (mp1 rfl (mp1 rfl (mp1 (ra1_row o1728 (by simp [hl1641, hl1726, hl1727]) Notch.fl) (mpA (fun _ => rArg1_flat) (fun _ => rfl) (mp1 (ra1_row o1729 (by simp [hl1641, hl1726, hl1727]) Mark.fl) mp0)))))) (ra1 rfl ra0)) (laws_heldChain_ok (Chain.mk r1511 (Half.mk r1512 r1718 r1514) r1719) 1 _ hx1751) (fun _ => rfl)) (kx (mvO rfl) (Rn (hA h1743 (hA h1744 (hA h1745 (hA h1746 (hA h1747 (hA h1748 (hA h1749 (hN rfl hZ)))))))) fun e1753 h1755 h1756 h1757 h1758 h1759 h1760 h1761 h1762 => sN (sq (sq (Rg (kx (mvO h1762) (kx (bLss rfl rfl) (Rn (hA h1755 (hA h1756 (hA h1757 (hA h1758 (hA h1759 (hA h1760 (hA h1761 (hA h1762 (hN rfl hZ))))))))) fun e1763 h1765 h1766 h1767 h1768 h1769 h1770 h1771 h1772 h1773 => sN ?_))))))))))))))))))
  clear h1709 h1710 h1711 h1712 h1713 h1714 h1734 h1735 h1736 h1737 h1738 h1739 h1740 h1743 h1744 h1745 h1746 h1747 h1748 h1749 h1755 h1756 h1757 h1758 h1759 h1760 h1761 h1762
  rcases ite_some h with ⟨hb1774, h⟩ | ⟨hb1774, h⟩
  ·refine cT h1773 hb1774 (sq (Rg (kx (mvO rfl) (Rn (hV (.bool false) rfl hZ) fun e1775 h1777 => sN (xx (sR ?_))))))
   clear h1765 h1766 h1767 h1768 h1769 h1770 h1771 h1772 h1773
   obtain rfl := si h
   exact eR (resT h1777 res0) rfl
  refine cF h1773 hb1774 (xx (sN (sq (sq (Rg (kx (mvO h1772) (kx (mvO h1771) (kx (bNeq rfl rfl) (Rn (hA h1765 (hA h1766 (hA h1767 (hA h1768 (hA h1769 (hA h1770 (hA h1771 (hN rfl hZ)))))))) fun e1778 h1780 h1781 h1782 h1783 h1784 h1785 h1786 h1787 => sN ?_)))))))))
  clear h1765 h1766 h1767 h1768 h1769 h1770 h1771 h1772 h1773
  rcases ite_some h with ⟨hb1788, h⟩ | ⟨hb1788, h⟩
  ·refine cT h1787 hb1788 (sq (Rg (kx (mvO rfl) (Rn (hV (.bool false) rfl hZ) fun e1789 h1791 => sN (xx (sR ?_))))))
   clear h1780 h1781 h1782 h1783 h1784 h1785 h1786 h1787
   obtain rfl := si h
   exact eR (resT h1791 res0) rfl
  obtain ⟨⟨r1793, r1794, r1795⟩, hx1792, h⟩ := bind_some h
  obtain ⟨⟨r1797, r1798⟩, hx1796, h⟩ := bind_some h
  obtain ⟨q1979, hx1799, h⟩ := bind_some h
  refine cF h1787 hb1788 (xx (sN (sq (Rd (kf (ldPA h1781 rfl rfl) (fc (cl (v := .agg (.bool r1793 :: (.sl (some 99) (r1794.map Notch.c) :: ((arC (cI .i8) 0 r1795) ++ ([] : List AV))))) rfl (cns rfl rfl) rfl (laws_toHalf_ok a1 _ hx1792) nm) (kf (ldPA h1782 rfl rfl) (fc (cl (v := .agg [.str r1797, .int .u32 r1798]) rfl (cns rfl rfl) rfl (laws_toParty_ok a2 _ hx1796) nm) (kf (mvO h1780) ?_)))))))))
  rcases q1979 with ⟨r1800, r1801⟩ | ⟨r1888, r1889, r1890, r1891, r1892⟩
  ·refine fc (cl (v := .tup [.agg (.str ([] : List UInt8) :: (.bool false :: (.nils :: ((arC (cI .i8) 0 r1800) ++ ((.nils :: []) : List AV))))), .int .i64 r1801]) rfl (cns rfl (cns rfl (cns rfl rfl))) rfl (impl_StartChain_ok (Half.mk r1793 r1794 r1795) (Party.mk r1797 r1798) a3 _ hx1799) nm) (kf (mvO rfl) (kf (exT rfl rfl) (kf (exT rfl rfl) (Ev.nfpushE (alO zero43) (Ev.fend1 fun M1803 hM1804 => ?_)))))
   have hM1804 := fendM hM1804 [⟨.box, 43, 20, [(.str ([] : List UInt8) :: (.bool false :: (.nils :: ((arC (cI .i8) 0 (Ar.rep 16 0)) ++ ((.nils :: []) : List AV)))))]⟩] rfl
   have o1805 := push_old hM1804 o1730
   have o1806 := push_old hM1804 o1728
   have o1807 := push_old hM1804 o1729
   have o1808 := push_old hM1804 o1731
   have ne1809 : ([] : Mem).length ≠ M1720.length := by have := lt_of_get (M := M1720) o1730; omega
   have ne1810 : M1064.length ≠ M1720.length := by have := lt_of_get (M := M1720) o1728; omega
   have ne1811 : (M1064.length + 1) ≠ M1720.length := by have := lt_of_get (M := M1720) o1729; omega
   have ne1812 : (M1064.length + 2) ≠ M1720.length := by have := lt_of_get (M := M1720) o1731; omega
   have o1813 : M1803[M1720.length]? = some (.live ⟨.box, 43, 20, [(.str ([] : List UInt8) :: (.bool false :: (.nils :: ((arC (cI .i8) 0 (Ar.rep 16 0)) ++ ((.nils :: []) : List AV)))))]⟩) := push_at hM1804 0 rfl
   refine kw (stO rfl rfl o1813 rfl rfl ⟨rfl, ble rfl⟩ rfl rfl) fun M1814 hM1815 => ?_
   have o1816 := set_ne hM1815 ne1809 o1805
   have o1817 := set_ne hM1815 ne1810 o1806
   have o1818 := set_ne hM1815 ne1811 o1807
   have o1819 := set_ne hM1815 ne1812 o1808
   have o1820 : M1814[M1720.length]? = some (.live ⟨.box, 43, 20, [(.str ([] : List UInt8) :: (.bool false :: (.nils :: ((arC (cI .i8) 0 r1800) ++ ((.nils :: []) : List AV)))))]⟩) := set_same hM1815 o1813
   obtain ⟨r1886, hr1887, h⟩ := bind_some h
   refine kx (mvO rfl) (Rn (hA h1783 (hA h1784 (hA h1785 (hA h1786 (hV (.loc M1720.length 1 0 0) rfl (hN rfl hZ)))))) fun e1821 h1823 h1824 h1825 h1826 h1827 h1828 => sN (sq (sq ?_)))
   clear h1780 h1781 h1782 h1783 h1784 h1785 h1786 h1787
   refine Ev.cut (Q1 := laws_FnExactStartChain_c15_Q r1511 r1512 r1513 r1514 r1515 r1717 r1718 r1719 (([] : Mem).length) M1064.length (M1064.length + 1) (M1064.length + 2) M1720.length r1886) (by
       have h := hr1887
       obtain ⟨r1830, hx1829, h⟩ := bind_some h
       refine Rg (kx (ldOA (cs' := (.str ([] : List UInt8) :: (.bool false :: (.nils :: ((arC (cI .i8) 0 r1800) ++ ((.nils :: []) : List AV)))))) h1827 o1820 rfl rfl (ble rfl) rfl) (kx (ldOA (cs' := (.str r1027 :: (.bool r1028 :: (.sl none (r1029.map Notch.c) :: ((arC (cI .i8) 0 r1030) ++ ((.sl none (r1031.map Mark.c) :: []) : List AV)))))) h1823 o1816 rfl rfl (ble rfl) rfl) (kc (cl (v := .bool r1830) rfl (cns rfl (cns rfl rfl)) rfl (laws_eqChain_ok (Chain.mk ([] : List UInt8) (Half.mk false ([] : List Notch) r1800) ([] : List Mark)) (Chain.mk r1027 (Half.mk r1028 r1029 r1030) r1031) _ hx1829) nm) (kx (uNot rfl) (kx (mvO rfl) ?_)))))
       rcases ite_some h with ⟨hb1831, h⟩ | ⟨hb1831, h⟩
       ·refine kx (guF rfl (congrArg Bool.not hb1831) (mvO h1828)) (kx (guF rfl (congrArg Bool.not hb1831) (mvO h1824)) (kx (guF rfl (congrArg Bool.not hb1831) (bNeq rfl rfl)) (kx (pkF rfl (congrArg Bool.not hb1831) rfl) (Rn (hA h1825 (hA h1826 (hN rfl hZ))) fun e1832 h1834 h1835 h1836 => ?_))))
        clear h1823 h1824 h1825 h1826 h1827 h1828
        obtain rfl := si h
        exact kd (show laws_FnExactStartChain_c15_Q r1511 r1512 r1513 r1514 r1515 r1717 r1718 r1719 (([] : Mem).length) M1064.length (M1064.length + 1) (M1064.length + 2) M1720.length _ _ from ⟨rfl, h1834, h1835, h1836, o1817, o1818, o1819⟩)
       refine kx (gsF rfl (congrArg Bool.not hb1831)) (kx (gsF rfl (congrArg Bool.not hb1831)) (kx (gsF rfl (congrArg Bool.not hb1831)) (kx (pkT rfl (congrArg Bool.not hb1831) rfl) (Rn (hA h1825 (hA h1826 (hV (.bool true) rfl hZ))) fun e1837 h1839 h1840 h1841 => ?_))))
       clear h1823 h1824 h1825 h1826 h1827 h1828
       obtain rfl := si h
       exact kd (show laws_FnExactStartChain_c15_Q r1511 r1512 r1513 r1514 r1515 r1717 r1718 r1719 (([] : Mem).length) M1064.length (M1064.length + 1) (M1064.length + 2) M1720.length _ _ from ⟨rfl, h1839, h1840, h1841, o1817, o1818, o1819⟩)) ?_
   revert h hr1887
   revert r1886
   intro y1844 hr1887 h
   intro x e1842 M1843 hq1885
   obtain ⟨rfl, h1845, h1846, h1847, o1848, o1849, o1850⟩ := hq1885
   refine sN ?_
   rcases ite_some h with ⟨hb1851, h⟩ | ⟨hb1851, h⟩
   ·refine cT h1847 hb1851 (sq (Rg (kx (mvO rfl) (Rn (hV (.bool false) rfl hZ) fun e1852 h1854 => sN (xx (sR ?_))))))
    clear h1845 h1846 h1847
    obtain rfl := si h
    exact eR (resT h1854 res0) rfl
   obtain ⟨r1861, hx1860, h⟩ := bind_some h
   refine cF h1847 hb1851 (xx (sN (sq (Rg (kx (mvO rfl) (Rn (hV (.loc (M1064.length + 2) 1 0 0) h1845 (hV (.int .i64 r1717) h1846 (hV (.int .i64 1) rfl hZ))) fun e1855 h1857 h1858 h1859 => sN (sq (Rg (kx (ldOA (cs' := (.str r1511 :: (.bool r1512 :: (.lsl M1064.length r1513.length 0 r1513.length :: ((arC (cI .i8) 0 r1514) ++ ((.lsl (M1064.length + 1) r1515.length 0 r1515.length :: []) : List AV)))))) h1857 o1850 rfl rfl (ble rfl) rfl) (kx (mvO h1859) (kc (cl (v := .int .i64 r1861) rfl (cns rfl (cns rfl rfl)) (ra1 (ra_agg (mp1 rfl (mp1 rfl (mp1 (ra1_row o1848 (by simp [hl1641, hl1726, hl1727]) Notch.fl) (mpA (fun _ => rArg1_flat) (fun _ => rfl) (mp1 (ra1_row o1849 (by simp [hl1641, hl1726, hl1727]) Mark.fl) mp0)))))) (ra1 rfl ra0)) (laws_heldChain_ok (Chain.mk r1511 (Half.mk r1512 r1718 r1514) r1719) 1 _ hx1860) (fun _ => rfl)) (kx (mvO rfl) (Rn (hA h1858 (hN rfl hZ)) fun e1862 h1864 h1865 => sN (sq (sq (Rg (kx (mvO h1865) (kx (bLss rfl rfl) (Rn (hA h1864 (hA h1865 (hN rfl hZ))) fun e1866 h1868 h1869 h1870 => sN ?_)))))))))))))))))))
   clear h1845 h1846 h1847 h1857 h1858 h1864 h1865
   rcases ite_some h with ⟨hb1871, h⟩ | ⟨hb1871, h⟩
   ·refine cT h1870 hb1871 (sq (Rg (kx (mvO rfl) (Rn (hV (.bool false) rfl hZ) fun e1872 h1874 => sN (xx (sR ?_))))))
    clear h1868 h1869 h1870
    obtain rfl := si h
    exact eR (resT h1874 res0) rfl
   refine cF h1870 hb1871 (xx (sN (sq (sq (Rg (kx (mvO h1869) (kx (mvO h1868) (kx (bNeq rfl rfl) (Rn (hN rfl hZ) fun e1875 h1877 => sN ?_)))))))))
   clear h1868 h1869 h1870
   rcases ite_some h with ⟨hb1878, h⟩ | ⟨hb1878, h⟩
   ·refine cT h1877 hb1878 (sq (Rg (kx (mvO rfl) (Rn (hV (.bool false) rfl hZ) fun e1879 h1881 => sN (xx (sR ?_))))))
    clear h1877
    obtain rfl := si h
    exact eR (resT h1881 res0) rfl
   refine cF h1877 hb1878 (xx (sN (sq (Rg (kx (mvO rfl) (Rn (hV (.bool true) rfl hZ) fun e1882 h1884 => sN (xx ?_)))))))
   clear h1877
   obtain rfl := si h
   exact eR (resT h1884 res0) rfl
  refine fc (cl (v := .tup [.agg (.str r1888 :: (.bool r1889 :: (.sl (some 99) (r1890.map Notch.c) :: ((arC (cI .i8) 0 r1891) ++ ((.sl (some 78) (r1892.map Mark.c) :: []) : List AV))))), .int .i64 0]) rfl (cns rfl (cns rfl (cns rfl rfl))) rfl (impl_StartChain_ok (Half.mk r1793 r1794 r1795) (Party.mk r1797 r1798) a3 _ hx1799) nm) (kf (mvO rfl) (kf (exT rfl rfl) (kf (exT rfl rfl) (Ev.nfpushE (alO zero43) (Ev.fend1 fun M1894 hM1895 => ?_)))))
  have hM1895 := fendM hM1895 [⟨.box, 43, 20, [(.str ([] : List UInt8) :: (.bool false :: (.nils :: ((arC (cI .i8) 0 (Ar.rep 16 0)) ++ ((.nils :: []) : List AV)))))]⟩] rfl
  have o1896 := push_old hM1895 o1730
  have o1897 := push_old hM1895 o1728
  have o1898 := push_old hM1895 o1729
  have o1899 := push_old hM1895 o1731
  have ne1900 : ([] : Mem).length ≠ M1720.length := by have := lt_of_get (M := M1720) o1730; omega
  have ne1901 : M1064.length ≠ M1720.length := by have := lt_of_get (M := M1720) o1728; omega
  have ne1902 : (M1064.length + 1) ≠ M1720.length := by have := lt_of_get (M := M1720) o1729; omega
  have ne1903 : (M1064.length + 2) ≠ M1720.length := by have := lt_of_get (M := M1720) o1731; omega
  have o1904 : M1894[M1720.length]? = some (.live ⟨.box, 43, 20, [(.str ([] : List UInt8) :: (.bool false :: (.nils :: ((arC (cI .i8) 0 (Ar.rep 16 0)) ++ ((.nils :: []) : List AV)))))]⟩) := push_at hM1895 0 rfl
  refine kw (stO rfl rfl o1904 rfl rfl ⟨rfl, ble rfl⟩ rfl rfl) fun M1905 hM1906 => ?_
  have o1907 := set_ne hM1906 ne1900 o1896
  have o1908 := set_ne hM1906 ne1901 o1897
  have o1909 := set_ne hM1906 ne1902 o1898
  have o1910 := set_ne hM1906 ne1903 o1899
  have o1911 : M1905[M1720.length]? = some (.live ⟨.box, 43, 20, [(.str r1888 :: (.bool r1889 :: (.sl none (r1890.map Notch.c) :: ((arC (cI .i8) 0 r1891) ++ ((.sl none (r1892.map Mark.c) :: []) : List AV)))))]⟩) := set_same hM1906 o1904
  obtain ⟨r1977, hr1978, h⟩ := bind_some h
  refine kx (mvO rfl) (Rn (hA h1783 (hA h1784 (hA h1785 (hA h1786 (hV (.loc M1720.length 1 0 0) rfl (hV (.int .i64 0) rfl hZ)))))) fun e1912 h1914 h1915 h1916 h1917 h1918 h1919 => sN (sq (sq ?_)))
  clear h1780 h1781 h1782 h1783 h1784 h1785 h1786 h1787
  refine Ev.cut (Q1 := laws_FnExactStartChain_c16_Q r1511 r1512 r1513 r1514 r1515 r1717 r1718 r1719 (([] : Mem).length) M1064.length (M1064.length + 1) (M1064.length + 2) M1720.length r1977) (by
      have h := hr1978
      obtain ⟨r1921, hx1920, h⟩ := bind_some h
      refine Rg (kx (ldOA (cs' := (.str r1888 :: (.bool r1889 :: (.sl none (r1890.map Notch.c) :: ((arC (cI .i8) 0 r1891) ++ ((.sl none (r1892.map Mark.c) :: []) : List AV)))))) h1918 o1911 rfl rfl (ble rfl) rfl) (kx (ldOA (cs' := (.str r1027 :: (.bool r1028 :: (.sl none (r1029.map Notch.c) :: ((arC (cI .i8) 0 r1030) ++ ((.sl none (r1031.map Mark.c) :: []) : List AV)))))) h1914 o1907 rfl rfl (ble rfl) rfl) (kc (cl (v := .bool r1921) rfl (cns rfl (cns rfl rfl)) rfl (laws_eqChain_ok (Chain.mk r1888 (Half.mk r1889 r1890 r1891) r1892) (Chain.mk r1027 (Half.mk r1028 r1029 r1030) r1031) _ hx1920) nm) (kx (uNot rfl) (kx (mvO rfl) ?_)))))
      rcases ite_some h with ⟨hb1922, h⟩ | ⟨hb1922, h⟩
      ·refine kx (guF rfl (congrArg Bool.not hb1922) (mvO h1919)) (kx (guF rfl (congrArg Bool.not hb1922) (mvO h1915)) (kx (guF rfl (congrArg Bool.not hb1922) (bNeq rfl rfl)) (kx (pkF rfl (congrArg Bool.not hb1922) rfl) (Rn (hA h1916 (hA h1917 (hV (.bool false) rfl hZ))) fun e1923 h1925 h1926 h1927 => ?_))))
       clear h1914 h1915 h1916 h1917 h1918 h1919
       obtain rfl := si h
       exact kd (show laws_FnExactStartChain_c16_Q r1511 r1512 r1513 r1514 r1515 r1717 r1718 r1719 (([] : Mem).length) M1064.length (M1064.length + 1) (M1064.length + 2) M1720.length _ _ from ⟨rfl, h1925, h1926, h1927, o1908, o1909, o1910⟩)
      refine kx (gsF rfl (congrArg Bool.not hb1922)) (kx (gsF rfl (congrArg Bool.not hb1922)) (kx (gsF rfl (congrArg Bool.not hb1922)) (kx (pkT rfl (congrArg Bool.not hb1922) rfl) (Rn (hA h1916 (hA h1917 (hV (.bool true) rfl hZ))) fun e1928 h1930 h1931 h1932 => ?_))))
      clear h1914 h1915 h1916 h1917 h1918 h1919
      obtain rfl := si h
      exact kd (show laws_FnExactStartChain_c16_Q r1511 r1512 r1513 r1514 r1515 r1717 r1718 r1719 (([] : Mem).length) M1064.length (M1064.length + 1) (M1064.length + 2) M1720.length _ _ from ⟨rfl, h1930, h1931, h1932, o1908, o1909, o1910⟩)) ?_
  revert h hr1978
  revert r1977
  intro y1935 hr1978 h
  intro x e1933 M1934 hq1976
  obtain ⟨rfl, h1936, h1937, h1938, o1939, o1940, o1941⟩ := hq1976
  refine sN ?_
  rcases ite_some h with ⟨hb1942, h⟩ | ⟨hb1942, h⟩
  ·refine cT h1938 hb1942 (sq (Rg (kx (mvO rfl) (Rn (hV (.bool false) rfl hZ) fun e1943 h1945 => sN (xx (sR ?_))))))
   clear h1936 h1937 h1938
   obtain rfl := si h
   exact eR (resT h1945 res0) rfl
  obtain ⟨r1952, hx1951, h⟩ := bind_some h
  refine cF h1938 hb1942 (xx (sN (sq (Rg (kx (mvO rfl) (Rn (hV (.loc (M1064.length + 2) 1 0 0) h1936 (hV (.int .i64 r1717) h1937 (hV (.int .i64 1) rfl hZ))) fun e1946 h1948 h1949 h1950 => sN (sq (Rg (kx (ldOA (cs' := (.str r1511 :: (.bool r1512 :: (.lsl M1064.length r1513.length 0 r1513.length :: ((arC (cI .i8) 0 r1514) ++ ((.lsl (M1064.length + 1) r1515.length 0 r1515.length :: []) : List AV)))))) h1948 o1941 rfl rfl (ble rfl) rfl) (kx (mvO h1950) (kc (cl (v := .int .i64 r1952) rfl (cns rfl (cns rfl rfl)) (ra1 (ra_agg (mp1 rfl (mp1 rfl (mp1 (ra1_row o1939 (by simp [hl1641, hl1726, hl1727]) Notch.fl) (mpA (fun _ => rArg1_flat) (fun _ => rfl) (mp1 (ra1_row o1940 (by simp [hl1641, hl1726, hl1727]) Mark.fl) mp0)))))) (ra1 rfl ra0)) (laws_heldChain_ok (Chain.mk r1511 (Half.mk r1512 r1718 r1514) r1719) 1 _ hx1951) (fun _ => rfl)) (kx (mvO rfl) (Rn (hA h1949 (hN rfl hZ)) fun e1953 h1955 h1956 => sN (sq (sq (Rg (kx (mvO h1956) (kx (bLss rfl rfl) (Rn (hA h1955 (hA h1956 (hN rfl hZ))) fun e1957 h1959 h1960 h1961 => sN ?_)))))))))))))))))))
  clear h1936 h1937 h1938 h1948 h1949 h1955 h1956
  rcases ite_some h with ⟨hb1962, h⟩ | ⟨hb1962, h⟩
  ·refine cT h1961 hb1962 (sq (Rg (kx (mvO rfl) (Rn (hV (.bool false) rfl hZ) fun e1963 h1965 => sN (xx (sR ?_))))))
   clear h1959 h1960 h1961
   obtain rfl := si h
   exact eR (resT h1965 res0) rfl
  refine cF h1961 hb1962 (xx (sN (sq (sq (Rg (kx (mvO h1960) (kx (mvO h1959) (kx (bNeq rfl rfl) (Rn (hN rfl hZ) fun e1966 h1968 => sN ?_)))))))))
  clear h1959 h1960 h1961
  rcases ite_some h with ⟨hb1969, h⟩ | ⟨hb1969, h⟩
  ·refine cT h1968 hb1969 (sq (Rg (kx (mvO rfl) (Rn (hV (.bool false) rfl hZ) fun e1970 h1972 => sN (xx (sR ?_))))))
   clear h1968
   obtain rfl := si h
   exact eR (resT h1972 res0) rfl
  refine cF h1968 hb1969 (xx (sN (sq (Rg (kx (mvO rfl) (Rn (hV (.bool true) rfl hZ) fun e1973 h1975 => sN (xx ?_)))))))
  clear h1968
  obtain rfl := si h
  exact eR (resT h1975 res0) rfl
 refine cT h1620 (congrArg Bool.not hb1621) (sq (Rg (kx (mvO rfl) (Rn (hV (.bool false) rfl hZ) fun e1983 h1985 => sN (xx (sR ?_))))))
 clear h1612 h1613 h1614 h1615 h1616 h1617 h1618 h1619 h1620
 obtain rfl := si h
 exact eR (resT h1985 res0) rfl
end Go.Proofs.YtonpeobfmgdamaaDoor

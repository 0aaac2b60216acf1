/- Printed by a program of ours (ext.py). -/
import Derived.Test.YtonpeobfmgdamaaDoorLnkCheckChainx0
set_option linter.unusedVariables false
set_option linter.unusedSimpArgs false
set_option maxRecDepth 100000
set_option maxHeartbeats 2000000
namespace Go.Proofs.YtonpeobfmgdamaaDoor
open Go Go.Ab
/-! ### loop.example/g01263/laws.toHalf (f8) -/
noncomputable def laws_toHalf (a1 : Half) : Option (Bool × (List Notch) × (Ar 16 Int)) :=
 (laws_toNotchS a1.Notches).bind fun r30 =>
 (laws_toGrain a1.Grain).bind fun r41 =>
 some (a1.Stock, r30, r41)
def laws_toHalf_enc (r : Bool × (List Notch) × (Ar 16 Int)) : AV := .agg (.bool r.1 :: (.sl none (r.2.1.map Notch.c) :: ((arC (cI .i8) 0 r.2.2) ++ ([] : List AV))))
theorem laws_toHalf_ok (a1 : Half) (r : Bool × (List Notch) × (Ar 16 Int)) (h : laws_toHalf a1 = some r) : Ev (fun k => CN k 8 [.agg (.bool a1.Stock :: (.sl none (a1.Notches.map Notch.c) :: ((arC (cI .i8) 0 a1.Grain) ++ ([] : List AV))))] []) (fun p => rRes p.2 p.1 = laws_toHalf_enc r) := by
 unfold laws_toHalf at h
 refine Ev.enter (F := fun k => f8 (CN k) k) (fun k => callN_eq rfl Tryd.func8 rfl rfl rfl (by decide +kernel) (f8_eq _ _)) (sq (Rg (kx (bxI rfl rfl ⟨rfl, rfl, by decide⟩) (ku (alO zero34) fun M2 hM3 => ?_))))
 have o4 : M2[([] : Mem).length]? = some (.live ⟨.box, 34, 18, [(.bool false :: (.nils :: ((arC (cI .i8) 0 (Ar.rep 16 0)) ++ ([] : List AV))))]⟩) := push_new hM3
 refine Rn (hN rfl (hV (.loc ([] : Mem).length 1 0 0) rfl hZ)) fun e5 h7 h8 => sN (sq (Rg (ku (alO zero34) fun M10 hM11 => ?_)))
 have o12 := push_old hM11 o4
 have ne13 := ne_new o4
 have o14 : M10[M2.length]? = some (.live ⟨.box, 34, 18, [(.bool false :: (.nils :: ((arC (cI .i8) 0 (Ar.rep 16 0)) ++ ([] : List AV))))]⟩) := push_new hM11
 refine Rn (hA h7 (hA h8 (hV (.loc M2.length 1 0 0) rfl hZ))) fun e15 h17 h18 h19 => sN (sq (Rg (kx (faP h17 ⟨ble rfl, blt rfl⟩ rfl) (kx (ldP rfl rfl) (kx (faO h19 o14 rfl) (kw (stO rfl rfl o14 rfl rfl ⟨rfl, ble rfl⟩ rfl rfl) fun M20 hM21 => ?_))))))
 clear h7 h8
 have o22 := set_ne hM21 ne13 o12
 have o23 : M20[M2.length]? = some (.live ⟨.box, 34, 18, [(.bool a1.Stock :: (.nils :: ((arC (cI .i8) 0 (Ar.rep 16 0)) ++ ([] : List AV))))]⟩) := set_same hM21 o14
 obtain ⟨r30, hx29, h⟩ := bind_some h
 refine Rn (hA h17 (hA h18 (hA h19 hZ))) fun e24 h26 h27 h28 => sN (sq (Rg (kx (faP h26 ⟨ble rfl, blt rfl⟩ rfl) (kx (ldP rfl rfl) (kc (cl (v := .sl (some 99) (r30.map Notch.c)) rfl (cns rfl rfl) rfl (laws_toNotchS_ok a1.Notches _ hx29) nm) (kx (faO h28 o23 rfl) (kw (stO rfl rfl o23 rfl rfl ⟨rfl, ble rfl⟩ rfl rfl) fun M31 hM32 => ?_)))))))
 clear h17 h18 h19
 have o33 := set_ne hM32 ne13 o22
 have o34 : M31[M2.length]? = some (.live ⟨.box, 34, 18, [(.bool a1.Stock :: (.sl none (r30.map Notch.c) :: ((arC (cI .i8) 0 (Ar.rep 16 0)) ++ ([] : List AV))))]⟩) := set_same hM32 o23
 obtain ⟨r41, hx40, h⟩ := bind_some h
 refine Rn (hA h26 (hA h27 (hA h28 hZ))) fun e35 h37 h38 h39 => sN (sq (Rg (kx (faP h37 ⟨ble rfl, blt rfl⟩ rfl) (kx (ldPA rfl rfl rfl) (kc (cl (v := .agg (arC (cI .i8) 0 r41)) rfl (cns rfl rfl) rfl (laws_toGrain_ok a1.Grain _ hx40) nm) (kx (faO h39 o34 rfl) (kw (stO rfl rfl o34 rfl rfl ⟨rfl, ble rfl⟩ rfl rfl) fun M42 hM43 => ?_)))))))
 clear h26 h27 h28
 have o44 := set_ne hM43 ne13 o33
 have o45 : M42[M2.length]? = some (.live ⟨.box, 34, 18, [(.bool a1.Stock :: (.sl none (r30.map Notch.c) :: ((arC (cI .i8) 0 r41) ++ ([] : List AV))))]⟩) := set_same hM43 o34
 refine Rn (hA h38 (hA h39 hZ)) fun e46 h48 h49 => sN (sq (Rg (kx (ldOA (cs' := (.bool a1.Stock :: (.sl none (r30.map Notch.c) :: ((arC (cI .i8) 0 r41) ++ ([] : List AV))))) h49 o45 rfl rfl (ble rfl) rfl) (kw (stO h48 rfl o44 rfl rfl ⟨rfl, ble rfl⟩ rfl rfl) fun M50 hM51 => ?_))))
 clear h37 h38 h39
 have o52 : M50[([] : Mem).length]? = some (.live ⟨.box, 34, 18, [(.bool a1.Stock :: (.sl none (r30.map Notch.c) :: ((arC (cI .i8) 0 r41) ++ ([] : List AV))))]⟩) := set_same hM51 o44
 have o53 := set_ne hM51 (Ne.symm ne13) o45
 refine Rn (hA h48 hZ) fun e54 h56 => sN (xx ?_)
 clear h48 h49
 obtain rfl := si h
 exact eR (resC (ag := true) (sz := 18) ⟨by kernel_rfl, by kernel_rfl, by kernel_rfl⟩ (ldOA (cs' := (.bool a1.Stock :: (.sl none (r30.map Notch.c) :: ((arC (cI .i8) 0 r41) ++ ([] : List AV))))) h56 o52 rfl rfl (ble rfl) rfl) res0) rfl
/-! ### loop.example/g01263/laws.toChain (f23) -/
noncomputable def laws_toChain (a1 : Chain) : Option ((List UInt8) × Bool × (List Notch) × (Ar 16 Int) × (List Mark)) :=
 (laws_toHalf a1.Stock).bind fun (r30, r31, r32) =>
 (laws_toMarkS a1.Marks).bind fun r43 =>
 some (a1.Debtor, r30, r31, r32, r43)
def laws_toChain_enc (r : (List UInt8) × Bool × (List Notch) × (Ar 16 Int) × (List Mark)) : AV := .agg (.str r.1 :: (.bool r.2.1 :: (.sl none (r.2.2.1.map Notch.c) :: ((arC (cI .i8) 0 r.2.2.2.1) ++ ((.sl none (r.2.2.2.2.map Mark.c) :: []) : List AV)))))
theorem laws_toChain_ok (a1 : Chain) (r : (List UInt8) × Bool × (List Notch) × (Ar 16 Int) × (List Mark)) (h : laws_toChain a1 = some r) : Ev (fun k => CN k 23 [.agg (.str a1.Debtor :: (.bool a1.Stock.Stock :: (.sl none (a1.Stock.Notches.map Notch.c) :: ((arC (cI .i8) 0 a1.Stock.Grain) ++ ((.sl none (a1.Marks.map Mark.c) :: []) : List AV)))))] []) (fun p => rRes p.2 p.1 = laws_toChain_enc r) := by
 unfold laws_toChain at h
 refine Ev.enter (F := fun k => f23 (CN k) k) (fun k => callN_eq rfl Tryd.func23 rfl rfl rfl (by decide +kernel) (f23_eq _ _)) (sq (Rg (kx (bxI rfl rfl ⟨rfl, rfl, by decide⟩) (ku (alO zero43) fun M2 hM3 => ?_))))
 have o4 : M2[([] : Mem).length]? = some (.live ⟨.box, 43, 20, [(.str ([] : List UInt8) :: (.bool false :: (.nils :: ((arC (cI .i8) 0 (Ar.rep 16 0)) ++ ((.nils :: []) : List AV)))))]⟩) := push_new hM3
 refine Rn (hN rfl (hV (.loc ([] : Mem).length 1 0 0) rfl hZ)) fun e5 h7 h8 => sN (sq (Rg (ku (alO zero43) fun M10 hM11 => ?_)))
 have o12 := push_old hM11 o4
 have ne13 := ne_new o4
 have o14 : M10[M2.length]? = some (.live ⟨.box, 43, 20, [(.str ([] : List UInt8) :: (.bool false :: (.nils :: ((arC (cI .i8) 0 (Ar.rep 16 0)) ++ ((.nils :: []) : List AV)))))]⟩) := push_new hM11
 refine Rn (hA h7 (hA h8 (hV (.loc M2.length 1 0 0) rfl hZ))) fun e15 h17 h18 h19 => sN (sq (Rg (kx (faP h17 ⟨ble rfl, blt rfl⟩ rfl) (kx (ldP rfl rfl) (kx (faO h19 o14 rfl) (kw (stO rfl rfl o14 rfl rfl ⟨rfl, ble rfl⟩ rfl rfl) fun M20 hM21 => ?_))))))
 clear h7 h8
 have o22 := set_ne hM21 ne13 o12
 have o23 : M20[M2.length]? = some (.live ⟨.box, 43, 20, [(.str a1.Debtor :: (.bool false :: (.nils :: ((arC (cI .i8) 0 (Ar.rep 16 0)) ++ ((.nils :: []) : List AV)))))]⟩) := set_same hM21 o14
 obtain ⟨⟨r30, r31, r32⟩, hx29, h⟩ := bind_some h
 refine Rn (hA h17 (hA h18 (hA h19 hZ))) fun e24 h26 h27 h28 => sN (sq (Rg (kx (faP h26 ⟨ble rfl, blt rfl⟩ rfl) (kx (ldPA rfl rfl rfl) (kc (cl (v := .agg (.bool r30 :: (.sl none (r31.map Notch.c) :: ((arC (cI .i8) 0 r32) ++ ([] : List AV))))) rfl (cns rfl rfl) rfl (laws_toHalf_ok a1.Stock _ hx29) nm) (kx (faO h28 o23 rfl) (kw (stO rfl rfl o23 rfl rfl ⟨rfl, ble rfl⟩ rfl rfl) fun M33 hM34 => ?_)))))))
 clear h17 h18 h19
 have o35 := set_ne hM34 ne13 o22
 have o36 : M33[M2.length]? = some (.live ⟨.box, 43, 20, [(.str a1.Debtor :: (.bool r30 :: (.sl none (r31.map Notch.c) :: ((arC (cI .i8) 0 r32) ++ ((.nils :: []) : List AV)))))]⟩) := set_same hM34 o23
 obtain ⟨r43, hx42, h⟩ := bind_some h
 refine Rn (hA h26 (hA h27 (hA h28 hZ))) fun e37 h39 h40 h41 => sN (sq (Rg (kx (faP h39 ⟨ble rfl, blt rfl⟩ rfl) (kx (ldP rfl rfl) (kc (cl (v := .sl (some 78) (r43.map Mark.c)) rfl (cns rfl rfl) rfl (laws_toMarkS_ok a1.Marks _ hx42) nm) (kx (faO h41 o36 rfl) (kw (stO rfl rfl o36 rfl rfl ⟨rfl, ble rfl⟩ rfl rfl) fun M44 hM45 => ?_)))))))
 clear h26 h27 h28
 have o46 := set_ne hM45 ne13 o35
 have o47 : M44[M2.length]? = some (.live ⟨.box, 43, 20, [(.str a1.Debtor :: (.bool r30 :: (.sl none (r31.map Notch.c) :: ((arC (cI .i8) 0 r32) ++ ((.sl none (r43.map Mark.c) :: []) : List AV)))))]⟩) := set_same hM45 o36
 refine Rn (hA h40 (hA h41 hZ)) fun e48 h50 h51 => sN (sq (Rg (kx (ldOA (cs' := (.str a1.Debtor :: (.bool r30 :: (.sl none (r31.map Notch.c) :: ((arC (cI .i8) 0 r32) ++ ((.sl none (r43.map Mark.c) :: []) : List AV)))))) h51 o47 rfl rfl (ble rfl) rfl) (kw (stO h50 rfl o46 rfl rfl ⟨rfl, ble rfl⟩ rfl rfl) fun M52 hM53 => ?_))))
 clear h39 h40 h41
 have o54 : M52[([] : Mem).length]? = some (.live ⟨.box, 43, 20, [(.str a1.Debtor :: (.bool r30 :: (.sl none (r31.map Notch.c) :: ((arC (cI .i8) 0 r32) ++ ((.sl none (r43.map Mark.c) :: []) : List AV)))))]⟩) := set_same hM53 o46
 have o55 := set_ne hM53 (Ne.symm ne13) o47
 refine Rn (hA h50 hZ) fun e56 h58 => sN (xx ?_)
 clear h50 h51
 obtain rfl := si h
 exact eR (resC (ag := true) (sz := 20) ⟨by kernel_rfl, by kernel_rfl, by kernel_rfl⟩ (ldOA (cs' := (.str a1.Debtor :: (.bool r30 :: (.sl none (r31.map Notch.c) :: ((arC (cI .i8) 0 r32) ++ ((.sl none (r43.map Mark.c) :: []) : List AV)))))) h58 o54 rfl rfl (ble rfl) rfl) res0) rfl
/-! ### loop.example/g01263/laws.toParty (f13) -/
noncomputable def laws_toParty (a1 : Party) : Option ((List UInt8) × Int) :=
 some (a1.Name, a1.Secret)
def laws_toParty_enc (r : (List UInt8) × Int) : AV := .agg [.str r.1, .int .u32 r.2]
theorem laws_toParty_ok (a1 : Party) (r : (List UInt8) × Int) (h : laws_toParty a1 = some r) : Ev (fun k => CN k 13 [.agg [.str a1.Name, .int .u32 a1.Secret]] []) (fun p => rRes p.2 p.1 = laws_toParty_enc r) := by
 unfold laws_toParty at h
 refine Ev.enter (F := fun k => f13 (CN k) k) (fun k => callN_eq rfl Tryd.func13 rfl rfl rfl (by decide +kernel) (f13_eq _ _)) (sq (Rg (kx (bxI rfl rfl ⟨rfl, rfl, by decide⟩) (ku (alO zero46) fun M2 hM3 => ?_))))
 have o4 : M2[([] : Mem).length]? = some (.live ⟨.box, 46, 2, [[.str ([] : List UInt8), .int .u32 0]]⟩) := push_new hM3
 refine Rn (hN rfl (hV (.loc ([] : Mem).length 1 0 0) rfl hZ)) fun e5 h7 h8 => sN (sq (Rg (ku (alO zero46) fun M10 hM11 => ?_)))
 have o12 := push_old hM11 o4
 have ne13 := ne_new o4
 have o14 : M10[M2.length]? = some (.live ⟨.box, 46, 2, [[.str ([] : List UInt8), .int .u32 0]]⟩) := push_new hM11
 refine Rn (hA h7 (hA h8 (hV (.loc M2.length 1 0 0) rfl hZ))) fun e15 h17 h18 h19 => sN (sq (Rg (kx (faP h17 ⟨ble rfl, blt rfl⟩ rfl) (kx (ldP rfl rfl) (kx (faO h19 o14 rfl) (kw (stO rfl rfl o14 rfl rfl ⟨rfl, ble rfl⟩ rfl rfl) fun M20 hM21 => ?_))))))
 clear h7 h8
 have o22 := set_ne hM21 ne13 o12
 have o23 : M20[M2.length]? = some (.live ⟨.box, 46, 2, [[.str a1.Name, .int .u32 0]]⟩) := set_same hM21 o14
 refine Rn (hA h17 (hA h18 (hA h19 hZ))) fun e24 h26 h27 h28 => sN (sq (Rg (kx (faP h26 ⟨ble rfl, blt rfl⟩ rfl) (kx (ldP rfl rfl) (kx (faO h28 o23 rfl) (kw (stO rfl rfl o23 rfl rfl ⟨rfl, ble rfl⟩ rfl rfl) fun M29 hM30 => ?_))))))
 clear h17 h18 h19
 have o31 := set_ne hM30 ne13 o22
 have o32 : M29[M2.length]? = some (.live ⟨.box, 46, 2, [[.str a1.Name, .int .u32 a1.Secret]]⟩) := set_same hM30 o23
 refine Rn (hA h27 (hA h28 hZ)) fun e33 h35 h36 => sN (sq (Rg (kx (ldOA h36 o32 rfl rfl (ble rfl) rfl) (kw (stO h35 rfl o31 rfl rfl ⟨rfl, ble rfl⟩ rfl rfl) fun M37 hM38 => ?_))))
 clear h26 h27 h28
 have o39 : M37[([] : Mem).length]? = some (.live ⟨.box, 46, 2, [[.str a1.Name, .int .u32 a1.Secret]]⟩) := set_same hM38 o31
 have o40 := set_ne hM38 (Ne.symm ne13) o32
 refine Rn (hA h35 hZ) fun e41 h43 => sN (xx ?_)
 clear h35 h36
 obtain rfl := si h
 exact eR (resC (ag := true) (sz := 2) ⟨by kernel_rfl, by kernel_rfl, by kernel_rfl⟩ (ldOA h43 o39 rfl rfl (ble rfl) rfl) res0) rfl
/-! ### loop.example/g01263/laws.toPartyS (f22) -/
abbrev laws_toPartyS_b1_S := Int × (List Party)
abbrev laws_toPartyS_b1_R := (List Party)
def laws_toPartyS_b1_RS (a1 : List Party) (x4 : List Party) (i1_1 : Nat) (s : laws_toPartyS_b1_S) (e : Env) (M : Mem) : Prop := eget e 0 = .sl none (a1.map Party.c) ∧ eget e 3 = .lsl i1_1 s.2.length 0 s.2.length ∧ eget e 4 = .int .i64 s.1 ∧ M[i1_1]? = some (.live ⟨.grow, 46, 2, s.2.map Party.c⟩) ∧ s.2.length = x4.length
def laws_toPartyS_b1_RR (a1 : List Party) (x4 : List Party) (i1_1 : Nat) (g : laws_toPartyS_b1_R) (x : Ex) (e : Env) (M : Mem) : Prop := x = .ext 0 ∧ eget e 3 = .lsl i1_1 g.length 0 g.length ∧ M[i1_1]? = some (.live ⟨.grow, 46, 2, g.map Party.c⟩) ∧ g.length = x4.length
noncomputable def laws_toPartyS_b1 (a1 : List Party) : laws_toPartyS_b1_S → Option (laws_toPartyS_b1_S ⊕ laws_toPartyS_b1_R) := fun (s1_1, s1_2) =>
 if (decide (s1_1 < (a1.length : Int))) = true then
  (rd a1 s1_1).bind fun x45 =>
  (laws_toParty x45).bind fun (r48, r49) =>
  (rd s1_2 s1_1).bind fun x50 =>
  some (.inl ((IntKind.i64.wrap (s1_1 + 1)), (s1_2.set s1_1.toNat (Party.mk r48 r49))))
 else
  some (.inr s1_2)
theorem laws_toPartyS_b1_ok (a1 : List Party) (x4 : List Party) (i1_1 : Nat) (s : laws_toPartyS_b1_S) (r : laws_toPartyS_b1_S ⊕ laws_toPartyS_b1_R) (h : laws_toPartyS_b1 a1 s = some r) (e : Env) (M : Mem) (hs : laws_toPartyS_b1_RS a1 x4 i1_1 s e M) : Ev (fun k => (f22_l3 (CN k) k (prune [0, 3, 4] e) M).bind fun q => some q) (bQ (laws_toPartyS_b1_RS a1 x4 i1_1) (laws_toPartyS_b1_RR a1 x4 i1_1) r) := by
 obtain ⟨s1_1, s1_2⟩ := s
 unfold laws_toPartyS_b1 at h
 obtain ⟨h30, h32, h34, o36, hl37⟩ := hs
 generalize he29 : prune [0, 3, 4] e = e28
 have h31 := envp he29.symm rfl h30
 have h33 := envp he29.symm rfl h32
 have h35 := envp he29.symm rfl h34
 refine sq (sq (Rg (kx (mvO h35) (kx (mvO h31) (kx (lnS Tryd.underlying52 rfl) (kx (bLss rfl rfl) (Rn (hV (.sl none (a1.map Party.c)) h31 (hV (.lsl i1_1 s1_2.length 0 s1_2.length) h33 (hV (.int .i64 s1_1) h35 (hN rfl hZ)))) fun e38 h40 h41 h42 h43 => sN ?_)))))))
 clear h31 h33 h35
 rcases ite_some h with ⟨hb44, h⟩ | ⟨hb44, h⟩
 ·obtain ⟨x45, hx46, h⟩ := bind_some h
  obtain ⟨⟨r48, r49⟩, hx47, h⟩ := bind_some h
  obtain ⟨x50, hx51, h⟩ := bind_some h
  refine cT h43 hb44 (xx (sN (sq (bl (Rg (kx (mvO h41) (kx (mvO h42) (kx (mvO h40) (kx (mvO h42) (kx (ixS rfl rfl hx46 Party.fl) (kx (ldPA rfl rfl rfl) (kc (cl (v := .agg [.str r48, .int .u32 r49]) rfl (cns rfl rfl) rfl (laws_toParty_ok x45 _ hx47) nm) (kx (ixO rfl o36 rfl rfl (rd_get hx51).1 (rd_lt hx51).2) (kw (stR (u := x50) (u' := (Party.mk r48 r49)) rfl rfl o36 rfl (rz2 hx51) ⟨rfl, ble rfl⟩ rfl rfl) fun M52 hM53 => ?_))))))))))))))
  rw [Nat.zero_add] at hM53
  have o54 : M52[i1_1]? = some (.live ⟨.grow, 46, 2, (s1_2.set s1_1.toNat (Party.mk r48 r49)).map Party.c⟩) := set_same hM53 o36
  have hx55 := rd_set (u' := (Party.mk r48 r49)) hx51
  refine Rn (hA h40 (hA h41 (hA h42 hZ))) fun e56 h58 h59 h60 => bN (sN (Rg (kx (mvO h60) (kx (bAdd rfl rfl) (kx (mvO rfl) (Rn (hA h58 (hA h59 (hN rfl hZ))) fun e61 h63 h64 h65 => ?_))))))
  clear h40 h41 h42 h43 h58 h59
  obtain rfl := si h
  exact qN ⟨h63, (lslL (L' := (s1_2.set s1_1.toNat (Party.mk r48 r49)).length) h64 (by simp [hl37])), h65, o54, (by first | rfl | simp [hl37])⟩
 refine cF h43 hb44 (xx (sE ?_))
 obtain rfl := si h
 exact qE ⟨rfl, h41, o36, (by first | rfl | simp [hl37])⟩
noncomputable def laws_toPartyS (a1 : List Party) : Option ((List Party)) :=
 (mkS 24 (Party.mk ([] : List UInt8) 0) (a1.length : Int)).bind fun x4 =>
 (Lw (laws_toPartyS_b1 a1) (0, x4)).bind fun y71 =>
 some y71
def laws_toPartyS_enc (r : (List Party)) : AV := .sl (some 46) (r.map Party.c)
theorem laws_toPartyS_ok (a1 : List Party) (r : (List Party)) (h : laws_toPartyS a1 = some r) : Ev (fun k => CN k 22 [.sl none (a1.map Party.c)] []) (fun p => rRes p.2 p.1 = laws_toPartyS_enc r) := by
 unfold laws_toPartyS at h
 obtain ⟨x4, hx5, h⟩ := bind_some h
 refine Ev.enter (F := fun k => f22 (CN k) k) (fun k => callN_eq rfl Tryd.func22 rfl rfl rfl (by decide +kernel) (f22_eq _ _)) (sq (Rg (kx (mvO rfl) (Rn (hN rfl hZ) fun e1 h3 => sN (sq (Rg (kx (mvO h3) (kx (lnS Tryd.underlying52 rfl) (ku (mkO rfl rfl hx5 (c := Party.c) zero46 Party.fl (by decide)) fun M7 hM8 => ?_)))))))))
 have o9 : M7[([] : Mem).length]? = some (.live ⟨.grow, 46, 2, x4.map Party.c⟩) := push_new hM8
 obtain ⟨y71, hr67, h⟩ := bind_some h
 refine kx (mvO rfl) (Rn (hA h3 (hV (.lsl ([] : Mem).length x4.length 0 x4.length) rfl hZ)) fun e10 h12 h13 => sN (sq (sq (Rg (kx (mvO rfl) (Rn (hA h12 (hA h13 (hV (.int .i64 0) rfl hZ))) fun e14 h16 h17 h18 => sN (bl (Ev.loop (RS := laws_toPartyS_b1_RS a1 x4 (([] : Mem).length)) (RR := laws_toPartyS_b1_RR a1 x4 (([] : Mem).length)) (fun s r h e M hs => laws_toPartyS_b1_ok a1 x4 (([] : Mem).length) s r h e M hs) hr67 ⟨h16, h17, h18, o9, rfl⟩ fun x e69 M70 hq68 => ?_))))))))
 clear h3 h12 h13
 obtain ⟨rfl, h72, o73, hl74⟩ := hq68
 refine bE (sN (sq (Rg (kx (mvO h72) (kx (mvO rfl) (Rn (hV (.lsl ([] : Mem).length y71.length 0 y71.length) rfl hZ) fun e75 h77 => sN (xx ?_)))))))
 clear h72
 obtain rfl := si h
 exact eR (resT h77 res0) (rr_row o73 rfl Party.fl)
/-! ### loop.example/g01263/spec.CheckChain (f21) -/
def spec_CheckChain_c1_Q (a1 : List Party) (a2 : Chain) (g : Bool) (q : Out) : Prop := q.1 = .nrm ∧ eget q.2.1 0 = .sl none (a1.map Party.c) ∧ eget q.2.1 3 = .pt none (.str a2.Debtor :: (.bool a2.Stock.Stock :: (.sl none (a2.Stock.Notches.map Notch.c) :: ((arC (cI .i8) 0 a2.Stock.Grain) ++ ((.sl none (a2.Marks.map Mark.c) :: []) : List AV))))) ∧ eget q.2.1 16 = .bool g
abbrev spec_CheckChain_b1_S := (List UInt8) × Int × Int
abbrev spec_CheckChain_b1_R := (Int × Int) ⊕ Unit
def spec_CheckChain_b1_RS (a1 : List Party) (a2 : Chain) (s : spec_CheckChain_b1_S) (e : Env) (M : Mem) : Prop := eget e 0 = .sl none (a1.map Party.c) ∧ eget e 3 = .pt none (.str a2.Debtor :: (.bool a2.Stock.Stock :: (.sl none (a2.Stock.Notches.map Notch.c) :: ((arC (cI .i8) 0 a2.Stock.Grain) ++ ((.sl none (a2.Marks.map Mark.c) :: []) : List AV))))) ∧ eget e 6 = .str s.1 ∧ eget e 7 = .int .u32 s.2.1 ∧ eget e 8 = .int .i64 s.2.2
def spec_CheckChain_b1_RR (a1 : List Party) (a2 : Chain) (r : spec_CheckChain_b1_R) (x : Ex) (e : Env) (M : Mem) : Prop :=
  match r with
  | (.inl g) => x = .ret ∧ eget e 4 = .int .i64 g.1 ∧ eget e 5 = .int .i64 g.2
  | (.inr g) => x = .ext 0 ∧ True
noncomputable def spec_CheckChain_b1 (a1 : List Party) (a2 : Chain) : spec_CheckChain_b1_S → Option (spec_CheckChain_b1_S ⊕ spec_CheckChain_b1_R) := fun (s1_1, s1_2, s1_3) =>
 if (decide (s1_3 < (a2.Marks.length : Int))) = true then
  (spec_l06Find a1 s1_1).bind fun r83 =>
  if (decide (r83 < 0)) = true then
   some (.inr (.inl (s1_3, 8)))
  else
   (rd a2.Marks s1_3).bind fun x104 =>
   (rd a2.Marks s1_3).bind fun x106 =>
   (rd a1 r83).bind fun x108 =>
   (spec_l06Seal a2.Stock s1_2 x106.Holder x108.Secret).bind fun r111 =>
   if (x104.Seal != r111) = true then
    some (.inr (.inl (s1_3, 0)))
   else
    (rd a2.Marks s1_3).bind fun x123 =>
    (rd a2.Marks s1_3).bind fun x131 =>
    some (.inl (x123.Holder, x131.Seal, (IntKind.i64.wrap (s1_3 + 1))))
 else
  some (.inr (.inr ()))
theorem spec_CheckChain_b1_ok (a1 : List Party) (a2 : Chain) (s : spec_CheckChain_b1_S) (r : spec_CheckChain_b1_S ⊕ spec_CheckChain_b1_R) (h : spec_CheckChain_b1 a1 a2 s = some r) (e : Env) (M : Mem) (hs : spec_CheckChain_b1_RS a1 a2 s e M) : Ev (fun k => (f21_l6 (CN k) k (prune [0, 3, 6, 7, 8] e) M).bind fun q => some q) (bQ (spec_CheckChain_b1_RS a1 a2) (spec_CheckChain_b1_RR a1 a2) r) := by
 obtain ⟨s1_1, s1_2, s1_3⟩ := s
 unfold spec_CheckChain_b1 at h
 obtain ⟨h63, h65, h67, h69, h71⟩ := hs
 generalize he62 : prune [0, 3, 6, 7, 8] e = e61
 have h64 := envp he62.symm rfl h63
 have h66 := envp he62.symm rfl h65
 have h68 := envp he62.symm rfl h67
 have h70 := envp he62.symm rfl h69
 have h72 := envp he62.symm rfl h71
 refine sq (sq (Rg (kx (mvO h72) (kx (faP h66 ⟨ble rfl, blt rfl⟩ rfl) (kx (ldP rfl rfl) (kx (lnS Tryd.underlying41 rfl) (kx (bLss rfl rfl) (Rn (hV (.sl none (a1.map Party.c)) h64 (hV (.pt none (.str a2.Debtor :: (.bool a2.Stock.Stock :: (.sl none (a2.Stock.Notches.map Notch.c) :: ((arC (cI .i8) 0 a2.Stock.Grain) ++ ((.sl none (a2.Marks.map Mark.c) :: []) : List AV)))))) h66 (hV (.str s1_1) h68 (hV (.int .u32 s1_2) h70 (hV (.int .i64 s1_3) h72 (hN rfl hZ)))))) fun e73 h75 h76 h77 h78 h79 h80 => sN ?_))))))))
 clear h64 h66 h68 h70 h72
 rcases ite_some h with ⟨hb81, h⟩ | ⟨hb81, h⟩
 ·obtain ⟨r83, hx82, h⟩ := bind_some h
  refine cT h80 hb81 (xx (sN (sq (bl (sq (Rg (kx (mvO h75) (kx (mvO h77) (kc (cl (v := .int .i64 r83) rfl (cns rfl (cns rfl rfl)) rfl (spec_l06Find_ok a1 s1_1 _ hx82) nm) (kx (mvO rfl) (Rn (hA h75 (hA h76 (hA h78 (hA h79 (hN rfl hZ))))) fun e84 h86 h87 h88 h89 h90 => sN (sq (sq (Rg (kx (mvO h90) (kx (bLss rfl rfl) (Rn (hA h86 (hA h87 (hA h88 (hA h89 (hA h90 (hN rfl hZ)))))) fun e91 h93 h94 h95 h96 h97 h98 => sN ?_)))))))))))))))))
  clear h75 h76 h77 h78 h79 h80 h86 h87 h88 h89 h90
  rcases ite_some h with ⟨hb99, h⟩ | ⟨hb99, h⟩
  ·refine cT h98 hb99 (sq (Rg (kx (mvO h96) (kx (mvO rfl) (kx (mvO rfl) (Rn (hN rfl (hV (.int .i64 8) rfl hZ)) fun e100 h102 h103 => sN (xx (sR (bR (sR ?_))))))))))
   clear h93 h94 h95 h96 h97 h98
   obtain rfl := si h
   exact qR ⟨rfl, h102, h103⟩
  obtain ⟨x104, hx105, h⟩ := bind_some h
  obtain ⟨x106, hx107, h⟩ := bind_some h
  obtain ⟨x108, hx109, h⟩ := bind_some h
  obtain ⟨r111, hx110, h⟩ := bind_some h
  refine cF h98 hb99 (xx (sN (sq (sq (Rd (kf (faP h94 ⟨ble rfl, blt rfl⟩ rfl) (kf (ldP rfl rfl) (kf (mvO h96) (kf (ixS rfl rfl hx105 Mark.fl) (kf (faP rfl ⟨ble rfl, blt rfl⟩ rfl) (kf (ldP rfl rfl) (kf (faP h94 ⟨ble rfl, blt rfl⟩ rfl) (kf (mvO h95) (kf (faP h94 ⟨ble rfl, blt rfl⟩ rfl) (kf (ldP rfl rfl) (kf (mvO h96) (kf (ixS rfl rfl hx107 Mark.fl) (kf (faP rfl ⟨ble rfl, blt rfl⟩ rfl) (kf (ldP rfl rfl) (kf (mvO h93) (kf (mvO h97) (kf (ixS rfl rfl hx109 Party.fl) (kf (faP rfl ⟨ble rfl, blt rfl⟩ rfl) (kf (ldP rfl rfl) (fc (cl (v := .int .u32 r111) rfl (cns rfl (cns rfl (cns rfl (cns rfl rfl)))) rfl (spec_l06Seal_ok a2.Stock s1_2 x106.Holder x108.Secret _ hx110) nm) (kf (bNeq rfl rfl) (fZ (Rn (hA h93 (hA h94 (hA h96 (hN rfl hZ)))) fun e112 h114 h115 h116 h117 => sN ?_))))))))))))))))))))))))))))
  clear h93 h94 h95 h96 h97 h98
  rcases ite_some h with ⟨hb118, h⟩ | ⟨hb118, h⟩
  ·refine cT h117 hb118 (sq (Rg (kx (mvO h116) (kx (mvO rfl) (kx (mvO rfl) (Rn (hN rfl (hV (.int .i64 0) rfl hZ)) fun e119 h121 h122 => sN (xx (sR (bR (sR ?_))))))))))
   clear h114 h115 h116 h117
   obtain rfl := si h
   exact qR ⟨rfl, h121, h122⟩
  obtain ⟨x123, hx124, h⟩ := bind_some h
  obtain ⟨x131, hx132, h⟩ := bind_some h
  refine cF h117 hb118 (xx (sN (sq (Rg (kx (faP h115 ⟨ble rfl, blt rfl⟩ rfl) (kx (ldP rfl rfl) (kx (mvO h116) (kx (ixS rfl rfl hx124 Mark.fl) (kx (faP rfl ⟨ble rfl, blt rfl⟩ rfl) (kx (ldP rfl rfl) (kx (mvO rfl) (Rn (hA h114 (hA h115 (hN rfl (hA h116 hZ)))) fun e125 h127 h128 h129 h130 => sN (Rg (kx (faP h128 ⟨ble rfl, blt rfl⟩ rfl) (kx (ldP rfl rfl) (kx (mvO h130) (kx (ixS rfl rfl hx132 Mark.fl) (kx (faP rfl ⟨ble rfl, blt rfl⟩ rfl) (kx (ldP rfl rfl) (kx (mvO rfl) (Rn (hA h127 (hA h128 (hA h129 (hN rfl (hA h130 hZ))))) fun e133 h135 h136 h137 h138 h139 => bN (sN (Rg (kx (mvO h139) (kx (bAdd rfl rfl) (kx (mvO rfl) (Rn (hA h135 (hA h136 (hA h137 (hA h138 (hN rfl hZ))))) fun e140 h142 h143 h144 h145 h146 => ?_)))))))))))))))))))))))))))
  clear h114 h115 h116 h117 h127 h128 h129 h130 h135 h136 h137 h138
  obtain rfl := si h
  exact qN ⟨h142, h143, h144, h145, h146⟩
 refine cF h80 hb81 (xx (sE ?_))
 obtain rfl := si h
 exact qE ⟨rfl, trivial⟩
noncomputable def spec_CheckChain (a1 : List Party) (a2 : Chain) : Option (Int × Int) :=
 ((spec_l06Parties a1).bind fun r6 =>
 if r6 = true then
  (spec_l06Ok a2).bind fun r9 =>
  some (!r9)
 else
  some true).bind fun y22 =>
 if y22 = true then
  some (0, 1)
 else
  (Lw (spec_CheckChain_b1 a1 a2) (a2.Debtor, 0, 0)).bind fun r => match r with
  | (.inl (y152, y153)) =>
   some (y152, y153)
  | (.inr _) =>
   some (0, 6)
def spec_CheckChain_enc (r : Int × Int) : AV := .tup [.int .i64 r.1, .int .i64 r.2]
theorem spec_CheckChain_ok (a1 : List Party) (a2 : Chain) (r : Int × Int) (h : spec_CheckChain a1 a2 = some r) : Ev (fun k => CN k 21 [.sl none (a1.map Party.c), .agg (.str a2.Debtor :: (.bool a2.Stock.Stock :: (.sl none (a2.Stock.Notches.map Notch.c) :: ((arC (cI .i8) 0 a2.Stock.Grain) ++ ((.sl none (a2.Marks.map Mark.c) :: []) : List AV)))))] []) (fun p => rRes p.2 p.1 = spec_CheckChain_enc r) := by
 unfold spec_CheckChain at h
 obtain ⟨r163, hr164, h⟩ := bind_some h
 refine Ev.enter (F := fun k => f21 (CN k) k) (fun k => callN_eq rfl Tryd.func21 rfl rfl rfl (by decide +kernel) (f21_eq _ _)) (sq (Rg (kx (bxI rfl rfl ⟨rfl, rfl, by decide⟩) (kx (mvO rfl) (kx (mvO rfl) (Rn (hN rfl (hN rfl hZ)) fun e1 h3 h4 => sN (sq (sq ?_))))))))
 refine Ev.cut (Q1 := spec_CheckChain_c1_Q a1 a2 r163) (by
     have h := hr164
     obtain ⟨r6, hx5, h⟩ := bind_some h
     refine Rg (kx (mvO h3) (kc (cl (v := .bool r6) rfl (cns rfl rfl) rfl (spec_l06Parties_ok a1 _ hx5) nm) (kx (uNot rfl) (kx (mvO rfl) ?_))))
     rcases ite_some h with ⟨hb7, h⟩ | ⟨hb7, h⟩
     ·obtain ⟨r9, hx8, h⟩ := bind_some h
      refine kc (Ev.guF rfl (congrArg Bool.not hb7) (cl (v := .bool r9) rfl (cns h4 rfl) rfl (spec_l06Ok_ok a2 _ hx8) nm)) (kx (guF rfl (congrArg Bool.not hb7) (uNot rfl)) (kx (pkF rfl (congrArg Bool.not hb7) rfl) (Rn (hA h3 (hA h4 (hN rfl hZ))) fun e10 h12 h13 h14 => ?_)))
      clear h3 h4
      obtain rfl := si h
      exact kd (show spec_CheckChain_c1_Q a1 a2 _ _ from ⟨rfl, h12, h13, h14⟩)
     refine kc (Ev.gsF rfl (congrArg Bool.not hb7)) (kx (gsF rfl (congrArg Bool.not hb7)) (kx (pkT rfl (congrArg Bool.not hb7) rfl) (Rn (hA h3 (hA h4 (hV (.bool true) rfl hZ))) fun e15 h17 h18 h19 => ?_)))
     clear h3 h4
     obtain rfl := si h
     exact kd (show spec_CheckChain_c1_Q a1 a2 _ _ from ⟨rfl, h17, h18, h19⟩)) ?_
 revert h hr164
 revert r163
 intro y22 hr164 h
 intro x e20 M21 hq162
 obtain ⟨rfl, h23, h24, h25⟩ := hq162
 refine sN ?_
 rcases ite_some h with ⟨hb26, h⟩ | ⟨hb26, h⟩
 ·refine cT h25 hb26 (sq (Rg (kx (mvO rfl) (kx (mvO rfl) (Rn (hV (.int .i64 0) rfl (hV (.int .i64 1) rfl hZ)) fun e27 h29 h30 => sN (xx (sR ?_)))))))
  clear h23 h24 h25
  obtain rfl := si h
  exact eR (resT h29 (resT h30 res0)) rfl
 obtain ⟨r147, hr148, h⟩ := bind_some h
 refine cF h25 hb26 (xx (sN (sq (Rg (kx (faP h24 ⟨ble rfl, blt rfl⟩ rfl) (kx (ldP rfl rfl) (kx (mvO rfl) (Rn (hV (.sl none (a1.map Party.c)) h23 (hV (.pt none (.str a2.Debtor :: (.bool a2.Stock.Stock :: (.sl none (a2.Stock.Notches.map Notch.c) :: ((arC (cI .i8) 0 a2.Stock.Grain) ++ ((.sl none (a2.Marks.map Mark.c) :: []) : List AV)))))) h24 (hN rfl hZ))) fun e31 h33 h34 h35 => sN (sq (Rg (kx (mvO rfl) (Rn (hA h33 (hA h34 (hA h35 (hV (.int .u32 0) rfl hZ)))) fun e36 h38 h39 h40 h41 => sN (sq (sq (Rg (kx (mvO rfl) (Rn (hA h38 (hA h39 (hA h40 (hA h41 (hV (.int .i64 0) rfl hZ))))) fun e42 h44 h45 h46 h47 h48 => sN (bl ?_))))))))))))))))))
 clear h23 h24 h25 h33 h34 h35 h38 h39 h40 h41
 rcases r147 with ⟨y152, y153⟩ | _
 ·refine Ev.loop (RS := spec_CheckChain_b1_RS a1 a2) (RR := spec_CheckChain_b1_RR a1 a2) (fun s r h e M hs => spec_CheckChain_b1_ok a1 a2 s r h e M hs) hr148 ⟨h44, h45, h46, h47, h48⟩ fun x e150 M151 hq149 => ?_
  obtain ⟨rfl, h154, h155⟩ := hq149
  refine bR (sR ?_)
  obtain rfl := si h
  exact eR (resT h154 (resT h155 res0)) rfl
 refine Ev.loop (RS := spec_CheckChain_b1_RS a1 a2) (RR := spec_CheckChain_b1_RR a1 a2) (fun s r h e M hs => spec_CheckChain_b1_ok a1 a2 s r h e M hs) hr148 ⟨h44, h45, h46, h47, h48⟩ fun x e156 M157 hq149 => ?_
 obtain ⟨rfl, _⟩ := hq149
 refine bE (sN (sq (Rg (kx (mvO rfl) (kx (mvO rfl) (Rn (hV (.int .i64 0) rfl (hV (.int .i64 6) rfl hZ)) fun e158 h160 h161 => sN (xx ?_)))))))
 obtain rfl := si h
 exact eR (resT h160 (resT h161 res0)) rfl
/-! ### loop.example/g01263/laws.szHalf (f6) -/
noncomputable def laws_szHalf (a1 : Half) (a2 : Int) : Option Int :=
 (laws_szNotchS a1.Notches a2).bind fun r6 =>
 if (decide (r6 < 0)) = true then
  some (-1)
 else
  some r6
def laws_szHalf_enc (r : Int) : AV := .int .i64 r
theorem laws_szHalf_ok (a1 : Half) (a2 : Int) (r : Int) (h : laws_szHalf a1 a2 = some r) : Ev (fun k => CN k 6 [.agg (.bool a1.Stock :: (.sl none (a1.Notches.map Notch.c) :: ((arC (cI .i8) 0 a1.Grain) ++ ([] : List AV)))), .int .i64 a2] []) (fun p => rRes p.2 p.1 = laws_szHalf_enc r) := by
 unfold laws_szHalf at h
 obtain ⟨r6, hx5, h⟩ := bind_some h
 refine Ev.enter (F := fun k => f6 (CN k) k) (fun k => callN_eq rfl Tryd.func6 rfl rfl rfl (by decide +kernel) (f6_eq _ _)) (sq (Rg (kx (bxI rfl rfl ⟨rfl, rfl, by decide⟩) (kx (mvO rfl) (Rn (hN rfl (hN rfl hZ)) fun e1 h3 h4 => sN (sq (Rg (kx (faP h4 ⟨ble rfl, blt rfl⟩ rfl) (kx (ldP rfl rfl) (kx (mvO h3) (kc (cl (v := .int .i64 r6) rfl (cns rfl (cns rfl rfl)) rfl (laws_szNotchS_ok a1.Notches a2 _ hx5) nm) (kx (mvO rfl) (Rn (hN rfl hZ) fun e7 h9 => sN (sq (sq (Rg (kx (mvO h9) (kx (bLss rfl rfl) (Rn (hA h9 (hN rfl hZ)) fun e10 h12 h13 => sN ?_)))))))))))))))))))
 clear h4 h9
 rcases ite_some h with ⟨hb14, h⟩ | ⟨hb14, h⟩
 ·refine cT h13 hb14 (sq (Rg (kx (mvO rfl) (Rn (hV (.int .i64 (-1)) rfl hZ) fun e15 h17 => sN (xx (sR ?_))))))
  clear h12 h13
  obtain rfl := si h
  exact eR (resT h17 res0) rfl
 refine cF h13 hb14 (xx (sN (sq (Rg (kx (mvO h12) (kx (mvO rfl) (Rn (hN rfl hZ) fun e18 h20 => sN (xx ?_))))))))
 clear h12 h13
 obtain rfl := si h
 exact eR (resT h20 res0) rfl
/-! ### loop.example/g01263/laws.szChain (f20) -/
noncomputable def laws_szChain (a1 : Chain) (a2 : Int) : Option Int :=
 if (decide ((IntKind.i64.wrap (a2 - (a1.Debtor.length : Int))) < 0)) = true then
  some (-1)
 else
  (laws_szHalf a1.Stock (IntKind.i64.wrap (a2 - (a1.Debtor.length : Int)))).bind fun r19 =>
  if (decide (r19 < 0)) = true then
   some (-1)
  else
   (laws_szMarkS a1.Marks r19).bind fun r34 =>
   if (decide (r34 < 0)) = true then
    some (-1)
   else
    some r34
def laws_szChain_enc (r : Int) : AV := .int .i64 r
theorem laws_szChain_ok (a1 : Chain) (a2 : Int) (r : Int) (h : laws_szChain a1 a2 = some r) : Ev (fun k => CN k 20 [.agg (.str a1.Debtor :: (.bool a1.Stock.Stock :: (.sl none (a1.Stock.Notches.map Notch.c) :: ((arC (cI .i8) 0 a1.Stock.Grain) ++ ((.sl none (a1.Marks.map Mark.c) :: []) : List AV))))), .int .i64 a2] []) (fun p => rRes p.2 p.1 = laws_szChain_enc r) := by
 unfold laws_szChain at h
 refine Ev.enter (F := fun k => f20 (CN k) k) (fun k => callN_eq rfl Tryd.func20 rfl rfl rfl (by decide +kernel) (f20_eq _ _)) (sq (Rg (kx (bxI rfl rfl ⟨rfl, rfl, by decide⟩) (kx (mvO rfl) (Rn (hN rfl (hN rfl hZ)) fun e1 h3 h4 => sN (sq (Rg (kx (mvO h3) (kx (faP h4 ⟨ble rfl, blt rfl⟩ rfl) (kx (ldP rfl rfl) (kx (lnB Tryd.underlying9 rfl) (kx (bSub rfl rfl) (kx (mvO rfl) (Rn (hN rfl (hA h4 hZ)) fun e5 h7 h8 => sN (sq (sq (Rg (kx (mvO h7) (kx (bLss rfl rfl) (Rn (hA h7 (hA h8 (hN rfl hZ))) fun e9 h11 h12 h13 => sN ?_))))))))))))))))))))
 clear h4 h7 h8
 rcases ite_some h with ⟨hb14, h⟩ | ⟨hb14, h⟩
 ·refine cT h13 hb14 (sq (Rg (kx (mvO rfl) (Rn (hV (.int .i64 (-1)) rfl hZ) fun e15 h17 => sN (xx (sR ?_))))))
  clear h11 h12 h13
  obtain rfl := si h
  exact eR (resT h17 res0) rfl
 obtain ⟨r19, hx18, h⟩ := bind_some h
 refine cF h13 hb14 (xx (sN (sq (Rg (kx (faP h12 ⟨ble rfl, blt rfl⟩ rfl) (kx (ldPA rfl rfl rfl) (kx (mvO h11) (kc (cl (v := .int .i64 r19) rfl (cns rfl (cns rfl rfl)) rfl (laws_szHalf_ok a1.Stock (IntKind.i64.wrap (a2 - (a1.Debtor.length : Int))) _ hx18) nm) (kx (mvO rfl) (Rn (hN rfl (hA h12 hZ)) fun e20 h22 h23 => sN (sq (sq (Rg (kx (mvO h22) (kx (bLss rfl rfl) (Rn (hA h22 (hA h23 (hN rfl hZ))) fun e24 h26 h27 h28 => sN ?_))))))))))))))))
 clear h12 h13 h22 h23
 rcases ite_some h with ⟨hb29, h⟩ | ⟨hb29, h⟩
 ·refine cT h28 hb29 (sq (Rg (kx (mvO rfl) (Rn (hV (.int .i64 (-1)) rfl hZ) fun e30 h32 => sN (xx (sR ?_))))))
  clear h26 h27 h28
  obtain rfl := si h
  exact eR (resT h32 res0) rfl
 obtain ⟨r34, hx33, h⟩ := bind_some h
 refine cF h28 hb29 (xx (sN (sq (Rg (kx (faP h27 ⟨ble rfl, blt rfl⟩ rfl) (kx (ldP rfl rfl) (kx (mvO h26) (kc (cl (v := .int .i64 r34) rfl (cns rfl (cns rfl rfl)) rfl (laws_szMarkS_ok a1.Marks r19 _ hx33) nm) (kx (mvO rfl) (Rn (hN rfl hZ) fun e35 h37 => sN (sq (sq (Rg (kx (mvO h37) (kx (bLss rfl rfl) (Rn (hA h37 (hN rfl hZ)) fun e38 h40 h41 => sN ?_))))))))))))))))
 clear h27 h28 h37
 rcases ite_some h with ⟨hb42, h⟩ | ⟨hb42, h⟩
 ·refine cT h41 hb42 (sq (Rg (kx (mvO rfl) (Rn (hV (.int .i64 (-1)) rfl hZ) fun e43 h45 => sN (xx (sR ?_))))))
  clear h40 h41
  obtain rfl := si h
  exact eR (resT h45 res0) rfl
 refine cF h41 hb42 (xx (sN (sq (Rg (kx (mvO h40) (kx (mvO rfl) (Rn (hN rfl hZ) fun e46 h48 => sN (xx ?_))))))))
 clear h40 h41
 obtain rfl := si h
 exact eR (resT h48 res0) rfl
/-! ### loop.example/g01263/laws.szParty (f11) -/
noncomputable def laws_szParty (a1 : Party) (a2 : Int) : Option Int :=
 if (decide ((IntKind.i64.wrap (a2 - (a1.Name.length : Int))) < 0)) = true then
  some (-1)
 else
  some (IntKind.i64.wrap (a2 - (a1.Name.length : Int)))
def laws_szParty_enc (r : Int) : AV := .int .i64 r
theorem laws_szParty_ok (a1 : Party) (a2 : Int) (r : Int) (h : laws_szParty a1 a2 = some r) : Ev (fun k => CN k 11 [.agg [.str a1.Name, .int .u32 a1.Secret], .int .i64 a2] []) (fun p => rRes p.2 p.1 = laws_szParty_enc r) := by
 unfold laws_szParty at h
 refine Ev.enter (F := fun k => f11 (CN k) k) (fun k => callN_eq rfl Tryd.func11 rfl rfl rfl (by decide +kernel) (f11_eq _ _)) (sq (Rg (kx (bxI rfl rfl ⟨rfl, rfl, by decide⟩) (kx (mvO rfl) (Rn (hN rfl (hN rfl hZ)) fun e1 h3 h4 => sN (sq (Rg (kx (mvO h3) (kx (faP h4 ⟨ble rfl, blt rfl⟩ rfl) (kx (ldP rfl rfl) (kx (lnB Tryd.underlying9 rfl) (kx (bSub rfl rfl) (kx (mvO rfl) (Rn (hN rfl hZ) fun e5 h7 => sN (sq (sq (Rg (kx (mvO h7) (kx (bLss rfl rfl) (Rn (hA h7 (hN rfl hZ)) fun e8 h10 h11 => sN ?_))))))))))))))))))))
 clear h4 h7
 rcases ite_some h with ⟨hb12, h⟩ | ⟨hb12, h⟩
 ·refine cT h11 hb12 (sq (Rg (kx (mvO rfl) (Rn (hV (.int .i64 (-1)) rfl hZ) fun e13 h15 => sN (xx (sR ?_))))))
  clear h10 h11
  obtain rfl := si h
  exact eR (resT h15 res0) rfl
 refine cF h11 hb12 (xx (sN (sq (Rg (kx (mvO h10) (kx (mvO rfl) (Rn (hN rfl hZ) fun e16 h18 => sN (xx ?_))))))))
 clear h10 h11
 obtain rfl := si h
 exact eR (resT h18 res0) rfl
/-! ### loop.example/g01263/laws.szPartyS (f19) -/
abbrev laws_szPartyS_b1_S := Int × Int
abbrev laws_szPartyS_b1_R := Unit ⊕ Int
def laws_szPartyS_b1_RS (a1 : List Party) (s : laws_szPartyS_b1_S) (e : Env) (M : Mem) : Prop := eget e 0 = .sl none (a1.map Party.c) ∧ eget e 1 = .int .i64 s.1 ∧ eget e 5 = .int .i64 s.2
def laws_szPartyS_b1_RR (a1 : List Party) (r : laws_szPartyS_b1_R) (x : Ex) (e : Env) (M : Mem) : Prop :=
  match r with
  | (.inl g) => x = .ret ∧ eget e 4 = .int .i64 (-1)
  | (.inr g) => x = .ext 0 ∧ eget e 1 = .int .i64 g
noncomputable def laws_szPartyS_b1 (a1 : List Party) : laws_szPartyS_b1_S → Option (laws_szPartyS_b1_S ⊕ laws_szPartyS_b1_R) := fun (s1_1, s1_2) =>
 if (decide (s1_2 < (a1.length : Int))) = true then
  (rd a1 s1_2).bind fun x46 =>
  (laws_szParty x46 s1_1).bind fun r49 =>
  if (decide (r49 < 0)) = true then
   some (.inr (.inl ()))
  else
   some (.inl (r49, (IntKind.i64.wrap (s1_2 + 1))))
 else
  some (.inr (.inr s1_1))
theorem laws_szPartyS_b1_ok (a1 : List Party) (s : laws_szPartyS_b1_S) (r : laws_szPartyS_b1_S ⊕ laws_szPartyS_b1_R) (h : laws_szPartyS_b1 a1 s = some r) (e : Env) (M : Mem) (hs : laws_szPartyS_b1_RS a1 s e M) : Ev (fun k => (f19_l5 (CN k) k (prune [0, 1, 5] e) M).bind fun q => some q) (bQ (laws_szPartyS_b1_RS a1) (laws_szPartyS_b1_RR a1) r) := by
 obtain ⟨s1_1, s1_2⟩ := s
 unfold laws_szPartyS_b1 at h
 obtain ⟨h33, h35, h37⟩ := hs
 generalize he32 : prune [0, 1, 5] e = e31
 have h34 := envp he32.symm rfl h33
 have h36 := envp he32.symm rfl h35
 have h38 := envp he32.symm rfl h37
 refine sq (sq (Rg (kx (mvO h38) (kx (mvO h34) (kx (lnS Tryd.underlying52 rfl) (kx (bLss rfl rfl) (Rn (hV (.sl none (a1.map Party.c)) h34 (hV (.int .i64 s1_1) h36 (hV (.int .i64 s1_2) h38 (hN rfl hZ)))) fun e39 h41 h42 h43 h44 => sN ?_)))))))
 clear h34 h36 h38
 rcases ite_some h with ⟨hb45, h⟩ | ⟨hb45, h⟩
 ·obtain ⟨x46, hx47, h⟩ := bind_some h
  obtain ⟨r49, hx48, h⟩ := bind_some h
  refine cT h44 hb45 (xx (sN (sq (bl (sq (Rg (kx (mvO h41) (kx (mvO h43) (kx (ixS rfl rfl hx47 Party.fl) (kx (ldPA rfl rfl rfl) (kx (mvO h42) (kc (cl (v := .int .i64 r49) rfl (cns rfl (cns rfl rfl)) rfl (laws_szParty_ok x46 s1_1 _ hx48) nm) (kx (mvO rfl) (Rn (hA h41 (hN rfl (hA h43 hZ))) fun e50 h52 h53 h54 => sN (sq (Rg (kx (mvO h53) (kx (bLss rfl rfl) (Rn (hA h52 (hA h53 (hA h54 (hN rfl hZ)))) fun e55 h57 h58 h59 h60 => sN ?_)))))))))))))))))))
  clear h41 h43 h44 h52 h53 h54
  rcases ite_some h with ⟨hb61, h⟩ | ⟨hb61, h⟩
  ·refine cT h60 hb61 (sq (Rg (kx (mvO rfl) (Rn (hV (.int .i64 (-1)) rfl hZ) fun e62 h64 => sN (xx (bR (sR ?_)))))))
   clear h57 h58 h59 h60
   obtain rfl := si h
   exact qR ⟨rfl, h64⟩
  refine cF h60 hb61 (xx (bN (sN (Rg (kx (mvO h59) (kx (bAdd rfl rfl) (kx (mvO rfl) (Rn (hA h57 (hA h58 (hN rfl hZ))) fun e65 h67 h68 h69 => ?_))))))))
  clear h57 h58 h60
  obtain rfl := si h
  exact qN ⟨h67, h68, h69⟩
 refine cF h44 hb45 (xx (sE ?_))
 obtain rfl := si h
 exact qE ⟨rfl, h42⟩
noncomputable def laws_szPartyS (a1 : List Party) (a2 : Int) : Option Int :=
 if (decide ((IntKind.i64.wrap (a2 - (a1.length : Int))) < 0)) = true then
  some (-1)
 else
  (Lw (laws_szPartyS_b1 a1) ((IntKind.i64.wrap (a2 - (a1.length : Int))), 0)).bind fun r => match r with
  | (.inl _) =>
   some (-1)
  | (.inr y78) =>
   some y78
def laws_szPartyS_enc (r : Int) : AV := .int .i64 r
theorem laws_szPartyS_ok (a1 : List Party) (a2 : Int) (r : Int) (h : laws_szPartyS a1 a2 = some r) : Ev (fun k => CN k 19 [.sl none (a1.map Party.c), .int .i64 a2] []) (fun p => rRes p.2 p.1 = laws_szPartyS_enc r) := by
 unfold laws_szPartyS at h
 refine Ev.enter (F := fun k => f19 (CN k) k) (fun k => callN_eq rfl Tryd.func19 rfl rfl rfl (by decide +kernel) (f19_eq _ _)) (sq (Rg (kx (mvO rfl) (Rn (hN rfl (hN rfl hZ)) fun e1 h3 h4 => sN (sq (Rg (kx (mvO h4) (kx (mvO h3) (kx (lnS Tryd.underlying52 rfl) (kx (bSub rfl rfl) (kx (mvO rfl) (Rn (hA h3 (hN rfl hZ)) fun e5 h7 h8 => sN (sq (sq (Rg (kx (mvO h8) (kx (bLss rfl rfl) (Rn (hA h7 (hA h8 (hN rfl hZ))) fun e9 h11 h12 h13 => sN ?_))))))))))))))))))
 clear h3 h7 h8
 rcases ite_some h with ⟨hb14, h⟩ | ⟨hb14, h⟩
 ·refine cT h13 hb14 (sq (Rg (kx (mvO rfl) (Rn (hV (.int .i64 (-1)) rfl hZ) fun e15 h17 => sN (xx (sR ?_))))))
  clear h11 h12 h13
  obtain rfl := si h
  exact eR (resT h17 res0) rfl
 obtain ⟨r70, hr71, h⟩ := bind_some h
 refine cF h13 hb14 (xx (sN (sq (sq (Rg (kx (mvO rfl) (Rn (hA h11 (hA h12 (hV (.int .i64 0) rfl hZ))) fun e18 h20 h21 h22 => sN (bl ?_))))))))
 clear h11 h12 h13
 rcases r70 with _ | y78
 ·refine Ev.loop (RS := laws_szPartyS_b1_RS a1) (RR := laws_szPartyS_b1_RR a1) (fun s r h e M hs => laws_szPartyS_b1_ok a1 s r h e M hs) hr71 ⟨h20, h21, h22⟩ fun x e73 M74 hq72 => ?_
  obtain ⟨rfl, h75⟩ := hq72
  refine bR (sR ?_)
  obtain rfl := si h
  exact eR (resT h75 res0) rfl
 refine Ev.loop (RS := laws_szPartyS_b1_RS a1) (RR := laws_szPartyS_b1_RR a1) (fun s r h e M hs => laws_szPartyS_b1_ok a1 s r h e M hs) hr71 ⟨h20, h21, h22⟩ fun x e76 M77 hq72 => ?_
 obtain ⟨rfl, h79⟩ := hq72
 refine bE (sN (sq (Rg (kx (mvO h79) (kx (mvO rfl) (Rn (hN rfl hZ) fun e80 h82 => sN (xx ?_)))))))
 clear h79
 obtain rfl := si h
 exact eR (resT h82 res0) rfl
/-! ### loop.example/g01263/laws.eqHalf (f10) -/
noncomputable def laws_eqHalf (a1 : Half) (a2 : Half) : Option Bool :=
 if (a1.Stock == a2.Stock) = true then
  (laws_eqNotchS a1.Notches a2.Notches).bind fun r12 =>
  if r12 = true then
   (laws_eqGrain a1.Grain a2.Grain).bind fun r20 =>
   if r20 = true then
    some true
   else
    some false
  else
   some false
 else
  some false
def laws_eqHalf_enc (r : Bool) : AV := .bool r
theorem laws_eqHalf_ok (a1 : Half) (a2 : Half) (r : Bool) (h : laws_eqHalf a1 a2 = some r) : Ev (fun k => CN k 10 [.agg (.bool a1.Stock :: (.sl none (a1.Notches.map Notch.c) :: ((arC (cI .i8) 0 a1.Grain) ++ ([] : List AV)))), .agg (.bool a2.Stock :: (.sl none (a2.Notches.map Notch.c) :: ((arC (cI .i8) 0 a2.Grain) ++ ([] : List AV))))] []) (fun p => rRes p.2 p.1 = laws_eqHalf_enc r) := by
 unfold laws_eqHalf at h
 refine Ev.enter (F := fun k => f10 (CN k) k) (fun k => callN_eq rfl Tryd.func10 rfl rfl rfl (by decide +kernel) (f10_eq _ _)) (sq (Rg (kx (bxI rfl rfl ⟨rfl, rfl, by decide⟩) (kx (bxI rfl rfl ⟨rfl, rfl, by decide⟩) (kx (mvO rfl) (Rn (hN rfl (hN rfl hZ)) fun e1 h3 h4 => sN (sq (sq (Rg (kx (faP h3 ⟨ble rfl, blt rfl⟩ rfl) (kx (ldP rfl rfl) (kx (faP h4 ⟨ble rfl, blt rfl⟩ rfl) (kx (ldP rfl rfl) (kx (oNeq (by kernel_rfl) rfl rfl) (Rn (hA h3 (hA h4 (hN rfl hZ))) fun e5 h7 h8 h9 => sN ?_)))))))))))))))
 clear h3 h4
 rcases ite_some h with ⟨hb10, h⟩ | ⟨hb10, h⟩
 ·obtain ⟨r12, hx11, h⟩ := bind_some h
  refine cF h9 (congrArg Bool.not hb10) (xx (sN (sq (sq (Rg (kx (faP h7 ⟨ble rfl, blt rfl⟩ rfl) (kx (ldP rfl rfl) (kx (faP h8 ⟨ble rfl, blt rfl⟩ rfl) (kx (ldP rfl rfl) (kc (cl (v := .bool r12) rfl (cns rfl (cns rfl rfl)) rfl (laws_eqNotchS_ok a1.Notches a2.Notches _ hx11) nm) (kx (uNot rfl) (Rn (hA h7 (hA h8 (hN rfl hZ))) fun e13 h15 h16 h17 => sN ?_))))))))))))
  clear h7 h8 h9
  rcases ite_some h with ⟨hb18, h⟩ | ⟨hb18, h⟩
  ·obtain ⟨r20, hx19, h⟩ := bind_some h
   refine cF h17 (congrArg Bool.not hb18) (xx (sN (sq (sq (Rg (kx (faP h15 ⟨ble rfl, blt rfl⟩ rfl) (kx (ldPA rfl rfl rfl) (kx (faP h16 ⟨ble rfl, blt rfl⟩ rfl) (kx (ldPA rfl rfl rfl) (kc (cl (v := .bool r20) rfl (cns rfl (cns rfl rfl)) rfl (laws_eqGrain_ok a1.Grain a2.Grain _ hx19) nm) (kx (uNot rfl) (Rn (hN rfl hZ) fun e21 h23 => sN ?_))))))))))))
   clear h15 h16 h17
   rcases ite_some h with ⟨hb24, h⟩ | ⟨hb24, h⟩
   ·refine cF h23 (congrArg Bool.not hb24) (xx (sN (sq (Rg (kx (mvO rfl) (Rn (hV (.bool true) rfl hZ) fun e25 h27 => sN (xx ?_)))))))
    clear h23
    obtain rfl := si h
    exact eR (resT h27 res0) rfl
   refine cT h23 (congrArg Bool.not hb24) (sq (Rg (kx (mvO rfl) (Rn (hV (.bool false) rfl hZ) fun e28 h30 => sN (xx (sR ?_))))))
   clear h23
   obtain rfl := si h
   exact eR (resT h30 res0) rfl
  refine cT h17 (congrArg Bool.not hb18) (sq (Rg (kx (mvO rfl) (Rn (hV (.bool false) rfl hZ) fun e31 h33 => sN (xx (sR ?_))))))
  clear h15 h16 h17
  obtain rfl := si h
  exact eR (resT h33 res0) rfl
 refine cT h9 (congrArg Bool.not hb10) (sq (Rg (kx (mvO rfl) (Rn (hV (.bool false) rfl hZ) fun e34 h36 => sN (xx (sR ?_))))))
 clear h7 h8 h9
 obtain rfl := si h
 exact eR (resT h36 res0) rfl
/-! ### loop.example/g01263/laws.eqChain (f15) -/
noncomputable def laws_eqChain (a1 : Chain) (a2 : Chain) : Option Bool :=
 if (a1.Debtor == a2.Debtor) = true then
  (laws_eqHalf a1.Stock a2.Stock).bind fun r12 =>
  if r12 = true then
   (laws_eqMarkS a1.Marks a2.Marks).bind fun r20 =>
   if r20 = true then
    some true
   else
    some false
  else
   some false
 else
  some false
def laws_eqChain_enc (r : Bool) : AV := .bool r
theorem laws_eqChain_ok (a1 : Chain) (a2 : Chain) (r : Bool) (h : laws_eqChain a1 a2 = some r) : Ev (fun k => CN k 15 [.agg (.str a1.Debtor :: (.bool a1.Stock.Stock :: (.sl none (a1.Stock.Notches.map Notch.c) :: ((arC (cI .i8) 0 a1.Stock.Grain) ++ ((.sl none (a1.Marks.map Mark.c) :: []) : List AV))))), .agg (.str a2.Debtor :: (.bool a2.Stock.Stock :: (.sl none (a2.Stock.Notches.map Notch.c) :: ((arC (cI .i8) 0 a2.Stock.Grain) ++ ((.sl none (a2.Marks.map Mark.c) :: []) : List AV)))))] []) (fun p => rRes p.2 p.1 = laws_eqChain_enc r) := by
 unfold laws_eqChain at h
 refine Ev.enter (F := fun k => f15 (CN k) k) (fun k => callN_eq rfl Tryd.func15 rfl rfl rfl (by decide +kernel) (f15_eq _ _)) (sq (Rg (kx (bxI rfl rfl ⟨rfl, rfl, by decide⟩) (kx (bxI rfl rfl ⟨rfl, rfl, by decide⟩) (kx (mvO rfl) (Rn (hN rfl (hN rfl hZ)) fun e1 h3 h4 => sN (sq (sq (Rg (kx (faP h3 ⟨ble rfl, blt rfl⟩ rfl) (kx (ldP rfl rfl) (kx (faP h4 ⟨ble rfl, blt rfl⟩ rfl) (kx (ldP rfl rfl) (kx (sNeq rfl rfl) (Rn (hA h3 (hA h4 (hN rfl hZ))) fun e5 h7 h8 h9 => sN ?_)))))))))))))))
 clear h3 h4
 rcases ite_some h with ⟨hb10, h⟩ | ⟨hb10, h⟩
 ·obtain ⟨r12, hx11, h⟩ := bind_some h
  refine cF h9 (congrArg Bool.not hb10) (xx (sN (sq (sq (Rg (kx (faP h7 ⟨ble rfl, blt rfl⟩ rfl) (kx (ldPA rfl rfl rfl) (kx (faP h8 ⟨ble rfl, blt rfl⟩ rfl) (kx (ldPA rfl rfl rfl) (kc (cl (v := .bool r12) rfl (cns rfl (cns rfl rfl)) rfl (laws_eqHalf_ok a1.Stock a2.Stock _ hx11) nm) (kx (uNot rfl) (Rn (hA h7 (hA h8 (hN rfl hZ))) fun e13 h15 h16 h17 => sN ?_))))))))))))
  clear h7 h8 h9
  rcases ite_some h with ⟨hb18, h⟩ | ⟨hb18, h⟩
  ·obtain ⟨r20, hx19, h⟩ := bind_some h
   refine cF h17 (congrArg Bool.not hb18) (xx (sN (sq (sq (Rg (kx (faP h15 ⟨ble rfl, blt rfl⟩ rfl) (kx (ldP rfl rfl) (kx (faP h16 ⟨ble rfl, blt rfl⟩ rfl) (kx (ldP rfl rfl) (kc (cl (v := .bool r20) rfl (cns rfl (cns rfl rfl)) rfl (laws_eqMarkS_ok a1.Marks a2.Marks _ hx19) nm) (kx (uNot rfl) (Rn (hN rfl hZ) fun e21 h23 => sN ?_))))))))))))
   clear h15 h16 h17
   rcases ite_some h with ⟨hb24, h⟩ | ⟨hb24, h⟩
   ·refine cF h23 (congrArg Bool.not hb24) (xx (sN (sq (Rg (kx (mvO rfl) (Rn (hV (.bool true) rfl hZ) fun e25 h27 => sN (xx ?_)))))))
    clear h23
    obtain rfl := si h
    exact eR (resT h27 res0) rfl
   refine cT h23 (congrArg Bool.not hb24) (sq (Rg (kx (mvO rfl) (Rn (hV (.bool false) rfl hZ) fun e28 h30 => sN (xx (sR ?_))))))
   clear h23
   obtain rfl := si h
   exact eR (resT h30 res0) rfl
  refine cT h17 (congrArg Bool.not hb18) (sq (Rg (kx (mvO rfl) (Rn (hV (.bool false) rfl hZ) fun e31 h33 => sN (xx (sR ?_))))))
  clear h15 h16 h17
  obtain rfl := si h
  exact eR (resT h33 res0) rfl
 refine cT h9 (congrArg Bool.not hb10) (sq (Rg (kx (mvO rfl) (Rn (hV (.bool false) rfl hZ) fun e34 h36 => sN (xx (sR ?_))))))
 clear h7 h8 h9
 obtain rfl := si h
 exact eR (resT h36 res0) rfl
/-! ### loop.example/g01263/laws.FnExactCheckChain (f5) -/
def laws_FnExactCheckChain_c1_Q (a1 : List Party) (a2 : Chain) (r61 : List Party) (r70 : List UInt8) (r71 : Bool) (r72 : List Notch) (r73 : Ar 16 Int) (r74 : List Mark) (i901_1 : Nat) (g : Bool) (q : Out) : Prop := q.1 = .nrm ∧ eget q.2.1 0 = .sl none (a1.map Party.c) ∧ eget q.2.1 3 = .pt none (.str a2.Debtor :: (.bool a2.Stock.Stock :: (.sl none (a2.Stock.Notches.map Notch.c) :: ((arC (cI .i8) 0 a2.Stock.Grain) ++ ((.sl none (a2.Marks.map Mark.c) :: []) : List AV))))) ∧ eget q.2.1 8 = .sl (some 46) (r61.map Party.c) ∧ eget q.2.1 9 = .loc i901_1 1 0 0 ∧ eget q.2.1 47 = .bool g ∧ q.2.2[i901_1]? = some (.live ⟨.box, 43, 20, [(.str r70 :: (.bool r71 :: (.sl none (r72.map Notch.c) :: ((arC (cI .i8) 0 r73) ++ ((.sl none (r74.map Mark.c) :: []) : List AV)))))]⟩)
noncomputable def laws_FnExactCheckChain (a1 : List Party) (a2 : Chain) : Option Bool :=
 (laws_szPartyS a1 1048576).bind fun r11 =>
 if (decide (r11 < 0)) = true then
  some true
 else
  (laws_szChain a2 r11).bind fun r28 =>
  if (decide (r28 < 0)) = true then
   some true
  else
   (laws_toPartyS a1).bind fun r44 =>
   (laws_toChain a2).bind fun (r46, r47, r48, r49, r50) =>
   (spec_CheckChain r44 (Chain.mk r46 (Half.mk r47 r48 r49) r50)).bind fun (r52, r53) =>
   (laws_toPartyS a1).bind fun r61 =>
   (laws_toChain a2).bind fun (r70, r71, r72, r73, r74) =>
   (impl_CheckChain r61 (Chain.mk r70 (Half.mk r71 r72 r73) r74)).bind fun (r91, r92) =>
   (if (r91 != r52) = true then
    some true
   else
    some (r92 != r53)).bind fun y120 =>
   if y120 = true then
    some false
   else
    (laws_toPartyS a1).bind fun r132 =>
    (laws_eqPartyS r61 r132).bind fun r134 =>
    if r134 = true then
     (laws_toChain a2).bind fun (r142, r143, r144, r145, r146) =>
     (laws_eqChain (Chain.mk r70 (Half.mk r71 r72 r73) r74) (Chain.mk r142 (Half.mk r143 r144 r145) r146)).bind fun r148 =>
     if r148 = true then
      some true
     else
      some false
    else
     some false
def laws_FnExactCheckChain_enc (r : Bool) : AV := .bool r
theorem laws_FnExactCheckChain_ok (a1 : List Party) (a2 : Chain) (r : Bool) (h : laws_FnExactCheckChain a1 a2 = some r) : Ev (fun k => CN k 5 [.sl none (a1.map Party.c), .agg (.str a2.Debtor :: (.bool a2.Stock.Stock :: (.sl none (a2.Stock.Notches.map Notch.c) :: ((arC (cI .i8) 0 a2.Stock.Grain) ++ ((.sl none (a2.Marks.map Mark.c) :: []) : List AV)))))] []) (fun p => rRes p.2 p.1 = laws_FnExactCheckChain_enc r) := by
 unfold laws_FnExactCheckChain at h
 obtain ⟨r11, hx10, h⟩ := bind_some h
 refine Ev.enter (F := fun k => f5 (CN k) k) (fun k => callN_eq rfl Tryd.func5 rfl rfl rfl (by decide +kernel) (f5_eq _ _)) (sq (Rg (kx (bxI rfl rfl ⟨rfl, rfl, by decide⟩) (kx (mvO rfl) (Rn (hN rfl (hN rfl hZ)) fun e1 h3 h4 => sN (sq (Rg (kx (mvO rfl) (Rn (hA h3 (hA h4 (hV (.int .i64 1048576) rfl hZ))) fun e5 h7 h8 h9 => sN (sq (Rg (kx (mvO h7) (kx (mvO h9) (kc (cl (v := .int .i64 r11) rfl (cns rfl (cns rfl rfl)) rfl (laws_szPartyS_ok a1 1048576 _ hx10) nm) (kx (mvO rfl) (Rn (hA h7 (hA h8 (hN rfl hZ))) fun e12 h14 h15 h16 => sN (sq (sq (Rg (kx (mvO h16) (kx (bLss rfl rfl) (Rn (hA h14 (hA h15 (hA h16 (hN rfl hZ)))) fun e17 h19 h20 h21 h22 => sN ?_))))))))))))))))))))))
 clear h3 h4 h7 h8 h14 h15 h16
 rcases ite_some h with ⟨hb23, h⟩ | ⟨hb23, h⟩
 ·refine cT h22 hb23 (sq (Rg (kx (mvO rfl) (Rn (hV (.bool true) rfl hZ) fun e24 h26 => sN (xx (sR ?_))))))
  clear h19 h20 h21 h22
  obtain rfl := si h
  exact eR (resT h26 res0) rfl
 obtain ⟨r28, hx27, h⟩ := bind_some h
 refine cF h22 hb23 (xx (sN (sq (Rg (kx (ldPA h20 rfl rfl) (kx (mvO h21) (kc (cl (v := .int .i64 r28) rfl (cns rfl (cns rfl rfl)) rfl (laws_szChain_ok a2 r11 _ hx27) nm) (kx (mvO rfl) (Rn (hA h19 (hA h20 (hN rfl hZ))) fun e29 h31 h32 h33 => sN (sq (sq (Rg (kx (mvO h33) (kx (bLss rfl rfl) (Rn (hA h31 (hA h32 (hN rfl hZ))) fun e34 h36 h37 h38 => sN ?_)))))))))))))))
 clear h19 h20 h22 h31 h32 h33
 rcases ite_some h with ⟨hb39, h⟩ | ⟨hb39, h⟩
 ·refine cT h38 hb39 (sq (Rg (kx (mvO rfl) (Rn (hV (.bool true) rfl hZ) fun e40 h42 => sN (xx (sR ?_))))))
  clear h36 h37 h38
  obtain rfl := si h
  exact eR (resT h42 res0) rfl
 obtain ⟨r44, hx43, h⟩ := bind_some h
 obtain ⟨⟨r46, r47, r48, r49, r50⟩, hx45, h⟩ := bind_some h
 obtain ⟨⟨r52, r53⟩, hx51, h⟩ := bind_some h
 obtain ⟨r61, hx60, h⟩ := bind_some h
 obtain ⟨⟨r70, r71, r72, r73, r74⟩, hx69, h⟩ := bind_some h
 refine cF h38 hb39 (xx (sN (sq (Rd (kf (mvO h36) (fc (cl (v := .sl (some 46) (r44.map Party.c)) rfl (cns rfl rfl) rfl (laws_toPartyS_ok a1 _ hx43) nm) (kf (ldPA h37 rfl rfl) (fc (cl (v := .agg (.str r46 :: (.bool r47 :: (.sl none (r48.map Notch.c) :: ((arC (cI .i8) 0 r49) ++ ((.sl none (r50.map Mark.c) :: []) : List AV)))))) rfl (cns rfl rfl) rfl (laws_toChain_ok a2 _ hx45) nm) (fc (cl (v := .tup [.int .i64 r52, .int .i64 r53]) rfl (cns rfl (cns rfl rfl)) rfl (spec_CheckChain_ok r44 (Chain.mk r46 (Half.mk r47 r48 r49) r50) _ hx51) nm) (kf (mvO rfl) (kf (exT rfl rfl) (kf (exT rfl rfl) (kf (mvO rfl) (kf (mvO rfl) (fZ (Rn (hA h36 (hA h37 (hN rfl (hN rfl hZ)))) fun e54 h56 h57 h58 h59 => sN (sq (Rg (kx (mvO h56) (kc (cl (v := .sl (some 46) (r61.map Party.c)) rfl (cns rfl rfl) rfl (laws_toPartyS_ok a1 _ hx60) nm) (kx (mvO rfl) (Rn (hA h56 (hA h57 (hA h58 (hA h59 (hN rfl hZ))))) fun e62 h64 h65 h66 h67 h68 => sN (sq (Rg (kx (ldPA h65 rfl rfl) (kc (cl (v := .agg (.str r70 :: (.bool r71 :: (.sl none (r72.map Notch.c) :: ((arC (cI .i8) 0 r73) ++ ((.sl none (r74.map Mark.c) :: []) : List AV)))))) rfl (cns rfl rfl) rfl (laws_toChain_ok a2 _ hx69) nm) (ku (alO zero43) fun M76 hM77 => ?_)))))))))))))))))))))))))))
 clear h36 h37 h38 h56 h57 h58 h59
 have o78 : M76[([] : Mem).length]? = some (.live ⟨.box, 43, 20, [(.str ([] : List UInt8) :: (.bool false :: (.nils :: ((arC (cI .i8) 0 (Ar.rep 16 0)) ++ ((.nils :: []) : List AV)))))]⟩) := push_new hM77
 refine kw (stO rfl rfl o78 rfl rfl ⟨rfl, ble rfl⟩ rfl rfl) fun M79 hM80 => ?_
 have o81 : M79[([] : Mem).length]? = some (.live ⟨.box, 43, 20, [(.str r70 :: (.bool r71 :: (.sl none (r72.map Notch.c) :: ((arC (cI .i8) 0 r73) ++ ((.sl none (r74.map Mark.c) :: []) : List AV)))))]⟩) := set_same hM80 o78
 obtain ⟨⟨r91, r92⟩, hx90, h⟩ := bind_some h
 obtain ⟨r163, hr164, h⟩ := bind_some h
 refine Rn (hA h64 (hA h65 (hA h66 (hA h67 (hA h68 (hV (.loc ([] : Mem).length 1 0 0) rfl hZ)))))) fun e82 h84 h85 h86 h87 h88 h89 => sN (sq (Rg (kx (mvO h88) (kx (ldOA (cs' := (.str r70 :: (.bool r71 :: (.sl none (r72.map Notch.c) :: ((arC (cI .i8) 0 r73) ++ ((.sl none (r74.map Mark.c) :: []) : List AV)))))) h89 o81 rfl rfl (ble rfl) rfl) (kc (cl (v := .tup [.int .i64 r91, .int .i64 r92]) rfl (cns rfl (cns rfl rfl)) rfl (impl_CheckChain_ok r61 (Chain.mk r70 (Half.mk r71 r72 r73) r74) _ hx90) nm) (kx (mvO rfl) (kx (exT rfl rfl) (kx (exT rfl rfl) (kx (mvO rfl) (kx (mvO rfl) (Rn (hA h84 (hA h85 (hA h86 (hA h87 (hA h88 (hA h89 (hN rfl (hN rfl hZ)))))))) fun e93 h95 h96 h97 h98 h99 h100 h101 h102 => sN (sq (sq ?_)))))))))))))
 clear h64 h65 h66 h67 h68 h84 h85 h86 h87 h88 h89
 refine Ev.cut (Q1 := laws_FnExactCheckChain_c1_Q a1 a2 r61 r70 r71 r72 r73 r74 (([] : Mem).length) r163) (by
     have h := hr164
     refine Rg (kx (mvO h101) (kx (mvO h97) (kx (bNeq rfl rfl) (kx (mvO rfl) ?_))))
     rcases ite_some h with ⟨hb103, h⟩ | ⟨hb103, h⟩
     ·refine kx (gsF rfl hb103) (kx (gsF rfl hb103) (kx (gsF rfl hb103) (kx (pkT rfl hb103 rfl) (Rn (hA h95 (hA h96 (hA h99 (hA h100 (hV (.bool true) rfl hZ))))) fun e104 h106 h107 h108 h109 h110 => ?_))))
      clear h100 h101 h102 h95 h96 h97 h98 h99
      obtain rfl := si h
      exact kd (show laws_FnExactCheckChain_c1_Q a1 a2 r61 r70 r71 r72 r73 r74 (([] : Mem).length) _ _ from ⟨rfl, h106, h107, h108, h109, h110, o81⟩)
     refine kx (guF rfl hb103 (mvO h102)) (kx (guF rfl hb103 (mvO h98)) (kx (guF rfl hb103 (bNeq rfl rfl)) (kx (pkF rfl hb103 rfl) (Rn (hA h95 (hA h96 (hA h99 (hA h100 (hN rfl hZ))))) fun e111 h113 h114 h115 h116 h117 => ?_))))
     clear h100 h101 h102 h95 h96 h97 h98 h99
     obtain rfl := si h
     exact kd (show laws_FnExactCheckChain_c1_Q a1 a2 r61 r70 r71 r72 r73 r74 (([] : Mem).length) _ _ from ⟨rfl, h113, h114, h115, h116, h117, o81⟩)) ?_
 revert h hr164
 revert r163
 intro y120 hr164 h
 intro x e118 M119 hq162
 obtain ⟨rfl, h121, h122, h123, h124, h125, o126⟩ := hq162
 refine sN ?_
 rcases ite_some h with ⟨hb127, h⟩ | ⟨hb127, h⟩
 ·refine cT h125 hb127 (sq (Rg (kx (mvO rfl) (Rn (hV (.bool false) rfl hZ) fun e128 h130 => sN (xx (sR ?_))))))
  clear h121 h122 h123 h124 h125
  obtain rfl := si h
  exact eR (resT h130 res0) rfl
 obtain ⟨r132, hx131, h⟩ := bind_some h
 obtain ⟨r134, hx133, h⟩ := bind_some h
 refine cF h125 hb127 (xx (sN (sq (sq (Rg (kx (mvO h123) (kx (mvO h121) (kc (cl (v := .sl (some 46) (r132.map Party.c)) rfl (cns rfl rfl) rfl (laws_toPartyS_ok a1 _ hx131) nm) (kc (cl (v := .bool r134) rfl (cns rfl (cns rfl rfl)) rfl (laws_eqPartyS_ok r61 r132 _ hx133) nm) (kx (uNot rfl) (Rn (hV (.pt none (.str a2.Debtor :: (.bool a2.Stock.Stock :: (.sl none (a2.Stock.Notches.map Notch.c) :: ((arC (cI .i8) 0 a2.Stock.Grain) ++ ((.sl none (a2.Marks.map Mark.c) :: []) : List AV)))))) h122 (hV (.loc ([] : Mem).length 1 0 0) h124 (hN rfl hZ))) fun e135 h137 h138 h139 => sN ?_)))))))))))
 clear h121 h122 h123 h124 h125
 rcases ite_some h with ⟨hb140, h⟩ | ⟨hb140, h⟩
 ·obtain ⟨⟨r142, r143, r144, r145, r146⟩, hx141, h⟩ := bind_some h
  obtain ⟨r148, hx147, h⟩ := bind_some h
  refine cF h139 (congrArg Bool.not hb140) (xx (sN (sq (sq (Rd (kf (ldOA (cs' := (.str r70 :: (.bool r71 :: (.sl none (r72.map Notch.c) :: ((arC (cI .i8) 0 r73) ++ ((.sl none (r74.map Mark.c) :: []) : List AV)))))) h138 o126 rfl rfl (ble rfl) rfl) (kf (ldPA h137 rfl rfl) (fc (cl (v := .agg (.str r142 :: (.bool r143 :: (.sl none (r144.map Notch.c) :: ((arC (cI .i8) 0 r145) ++ ((.sl none (r146.map Mark.c) :: []) : List AV)))))) rfl (cns rfl rfl) rfl (laws_toChain_ok a2 _ hx141) nm) (fc (cl (v := .bool r148) rfl (cns rfl (cns rfl rfl)) rfl (laws_eqChain_ok (Chain.mk r70 (Half.mk r71 r72 r73) r74) (Chain.mk r142 (Half.mk r143 r144 r145) r146) _ hx147) nm) (kf (uNot rfl) (fZ (Rn (hN rfl hZ) fun e149 h151 => sN ?_))))))))))))
  clear h137 h138 h139
  rcases ite_some h with ⟨hb152, h⟩ | ⟨hb152, h⟩
  ·refine cF h151 (congrArg Bool.not hb152) (xx (sN (sq (Rg (kx (mvO rfl) (Rn (hV (.bool true) rfl hZ) fun e153 h155 => sN (xx ?_)))))))
   clear h151
   obtain rfl := si h
   exact eR (resT h155 res0) rfl
  refine cT h151 (congrArg Bool.not hb152) (sq (Rg (kx (mvO rfl) (Rn (hV (.bool false) rfl hZ) fun e156 h158 => sN (xx (sR ?_))))))
  clear h151
  obtain rfl := si h
  exact eR (resT h158 res0) rfl
 refine cT h139 (congrArg Bool.not hb140) (sq (Rg (kx (mvO rfl) (Rn (hV (.bool false) rfl hZ) fun e159 h161 => sN (xx (sR ?_))))))
 clear h137 h138 h139
 obtain rfl := si h
 exact eR (resT h161 res0) rfl
end Go.Proofs.YtonpeobfmgdamaaDoor

/- Printed by a program of ours (ext.py). -/
import Derived.Test.YtonpeobfmgdamabDoorLnkPassOnx0
set_option linter.unusedVariables false
set_option linter.unusedSimpArgs false
set_option maxRecDepth 100000
set_option maxHeartbeats 2000000
namespace Go.Proofs.YtonpeobfmgdamabDoor
open Go Go.Ab
/-! ### loop.example/g01263/laws.toChain (f19) -/
noncomputable def laws_toChain (a1 : Chain) : Option ((List UInt8) × Bool × (List Notch) × (Ar 16 Int) × (List Mark)) :=
 (laws_toHalf a1.Stock).bind fun (r30, r31, r32) =>
 (laws_toMarkS a1.Marks).bind fun r43 =>
 some (a1.Debtor, r30, r31, r32, r43)
def laws_toChain_enc (r : (List UInt8) × Bool × (List Notch) × (Ar 16 Int) × (List Mark)) : AV := .agg (.str r.1 :: (.bool r.2.1 :: (.sl (some 107) (r.2.2.1.map Notch.c) :: ((arC (cI .i8) 0 r.2.2.2.1) ++ ((.sl (some 39) (r.2.2.2.2.map Mark.c) :: []) : List AV)))))
theorem laws_toChain_ok (a1 : Chain) (r : (List UInt8) × Bool × (List Notch) × (Ar 16 Int) × (List Mark)) (h : laws_toChain a1 = some r) : Ev (fun k => CN k 19 [.agg (.str a1.Debtor :: (.bool a1.Stock.Stock :: (.sl none (a1.Stock.Notches.map Notch.c) :: ((arC (cI .i8) 0 a1.Stock.Grain) ++ ((.sl none (a1.Marks.map Mark.c) :: []) : List AV)))))] []) (fun p => rRes p.2 p.1 = laws_toChain_enc r) := by
 unfold laws_toChain at h
 refine Ev.enter (F := fun k => f19 (CN k) k) (fun k => callN_eq rfl Tryd.func19 rfl rfl rfl (by decide +kernel) (f19_eq _ _)) (sq (Rg (kx (bxI rfl rfl ⟨rfl, rfl, by decide⟩) (ku (alO zero34) fun M2 hM3 => ?_))))
 have o4 : M2[([] : Mem).length]? = some (.live ⟨.box, 34, 20, [(.str ([] : List UInt8) :: (.bool false :: (.nils :: ((arC (cI .i8) 0 (Ar.rep 16 0)) ++ ((.nils :: []) : List AV)))))]⟩) := push_new hM3
 refine Rn (hN rfl (hV (.loc ([] : Mem).length 1 0 0) rfl hZ)) fun e5 h7 h8 => sN (sq (Rg (ku (alO zero34) fun M10 hM11 => ?_)))
 have o12 := push_old hM11 o4
 have ne13 := ne_new o4
 have o14 : M10[M2.length]? = some (.live ⟨.box, 34, 20, [(.str ([] : List UInt8) :: (.bool false :: (.nils :: ((arC (cI .i8) 0 (Ar.rep 16 0)) ++ ((.nils :: []) : List AV)))))]⟩) := push_new hM11
 refine Rn (hA h7 (hA h8 (hV (.loc M2.length 1 0 0) rfl hZ))) fun e15 h17 h18 h19 => sN (sq (Rg (kx (faP h17 ⟨ble rfl, blt rfl⟩ rfl) (kx (ldP rfl rfl) (kx (faO h19 o14 rfl) (kw (stO rfl rfl o14 rfl rfl ⟨rfl, ble rfl⟩ rfl rfl) fun M20 hM21 => ?_))))))
 clear h7 h8
 have o22 := set_ne hM21 ne13 o12
 have o23 : M20[M2.length]? = some (.live ⟨.box, 34, 20, [(.str a1.Debtor :: (.bool false :: (.nils :: ((arC (cI .i8) 0 (Ar.rep 16 0)) ++ ((.nils :: []) : List AV)))))]⟩) := set_same hM21 o14
 obtain ⟨⟨r30, r31, r32⟩, hx29, h⟩ := bind_some h
 refine Rn (hA h17 (hA h18 (hA h19 hZ))) fun e24 h26 h27 h28 => sN (sq (Rg (kx (faP h26 ⟨ble rfl, blt rfl⟩ rfl) (kx (ldPA rfl rfl rfl) (kc (cl (v := .agg (.bool r30 :: (.sl (some 107) (r31.map Notch.c) :: ((arC (cI .i8) 0 r32) ++ ([] : List AV))))) rfl (cns rfl rfl) rfl (laws_toHalf_ok a1.Stock _ hx29) nm) (kx (faO h28 o23 rfl) (kw (stOK rfl rfl o23 rfl rfl ⟨rfl, ble rfl⟩ rfl rfl) fun M33 hM34 => ?_)))))))
 clear h17 h18 h19
 have o35 := set_ne hM34 ne13 o22
 have o36 : M33[M2.length]? = some (.live ⟨.box, 34, 20, [(.str a1.Debtor :: (.bool r30 :: (.sl (some 107) (r31.map Notch.c) :: ((arC (cI .i8) 0 r32) ++ ((.nils :: []) : List AV)))))]⟩) := set_same hM34 o23
 obtain ⟨r43, hx42, h⟩ := bind_some h
 refine Rn (hA h26 (hA h27 (hA h28 hZ))) fun e37 h39 h40 h41 => sN (sq (Rg (kx (faP h39 ⟨ble rfl, blt rfl⟩ rfl) (kx (ldP rfl rfl) (kc (cl (v := .sl (some 39) (r43.map Mark.c)) rfl (cns rfl rfl) rfl (laws_toMarkS_ok a1.Marks _ hx42) nm) (kx (faO h41 o36 rfl) (kw (stOK rfl rfl o36 rfl rfl ⟨rfl, ble rfl⟩ rfl rfl) fun M44 hM45 => ?_)))))))
 clear h26 h27 h28
 have o46 := set_ne hM45 ne13 o35
 have o47 : M44[M2.length]? = some (.live ⟨.box, 34, 20, [(.str a1.Debtor :: (.bool r30 :: (.sl (some 107) (r31.map Notch.c) :: ((arC (cI .i8) 0 r32) ++ ((.sl (some 39) (r43.map Mark.c) :: []) : List AV)))))]⟩) := set_same hM45 o36
 refine Rn (hA h40 (hA h41 hZ)) fun e48 h50 h51 => sN (sq (Rg (kx (ldOA (cs' := (.str a1.Debtor :: (.bool r30 :: (.sl (some 107) (r31.map Notch.c) :: ((arC (cI .i8) 0 r32) ++ ((.sl (some 39) (r43.map Mark.c) :: []) : List AV)))))) h51 o47 rfl rfl (ble rfl) rfl) (kw (stOK h50 rfl o46 rfl rfl ⟨rfl, ble rfl⟩ rfl rfl) fun M52 hM53 => ?_))))
 clear h39 h40 h41
 have o54 : M52[([] : Mem).length]? = some (.live ⟨.box, 34, 20, [(.str a1.Debtor :: (.bool r30 :: (.sl (some 107) (r31.map Notch.c) :: ((arC (cI .i8) 0 r32) ++ ((.sl (some 39) (r43.map Mark.c) :: []) : List AV)))))]⟩) := set_same hM53 o46
 have o55 := set_ne hM53 (Ne.symm ne13) o47
 refine Rn (hA h50 hZ) fun e56 h58 => sN (xx ?_)
 clear h50 h51
 obtain rfl := si h
 exact eR (resC (ag := true) (sz := 20) ⟨by kernel_rfl, by kernel_rfl, by kernel_rfl⟩ (ldOA (cs' := (.str a1.Debtor :: (.bool r30 :: (.sl (some 107) (r31.map Notch.c) :: ((arC (cI .i8) 0 r32) ++ ((.sl (some 39) (r43.map Mark.c) :: []) : List AV)))))) h58 o54 rfl rfl (ble rfl) rfl) res0) rfl
/-! ### loop.example/g01263/spec.PassOn (f18) -/
def spec_PassOn_c1_Q (a1 : Chain) (a2 : Party) (a3 : List UInt8) (r22 : List UInt8) (r23 : Int) (i901_1 : Nat) (i901_2 : Nat) (g : Bool) (q : Out) : Prop := q.1 = .nrm ∧ eget q.2.1 2 = .str a3 ∧ eget q.2.1 3 = .pt none (.str a1.Debtor :: (.bool a1.Stock.Stock :: (.sl none (a1.Stock.Notches.map Notch.c) :: ((arC (cI .i8) 0 a1.Stock.Grain) ++ ((.sl none (a1.Marks.map Mark.c) :: []) : List AV))))) ∧ eget q.2.1 4 = .pt none [.str a2.Name, .int .u32 a2.Secret] ∧ eget q.2.1 6 = .loc i901_1 1 0 0 ∧ eget q.2.1 8 = .loc i901_2 1 0 0 ∧ eget q.2.1 28 = .bool g ∧ q.2.2[i901_1]? = some (.live ⟨.box, 34, 20, [(.str ([] : List UInt8) :: (.bool false :: (.nils :: ((arC (cI .i8) 0 (Ar.rep 16 0)) ++ ((.nils :: []) : List AV)))))]⟩) ∧ q.2.2[i901_2]? = some (.live ⟨.box, 39, 2, [[.str r22, .int .u32 r23]]⟩)
noncomputable def spec_PassOn (a1 : Chain) (a2 : Party) (a3 : List UInt8) : Option (((Ar 16 Int) × Int) ⊕ ((List UInt8) × Bool × (List Notch) × (Ar 16 Int) × (List Mark))) :=
 (spec_l06Ok a1).bind fun r12 =>
 if r12 = true then
  (spec_l06Last a1).bind fun (r22, r23) =>
  if (a2.Name == r22) = true then
   ((spec_l06Name a3).bind fun r51 =>
   if r51 = true then
    some (a3 == a2.Name)
   else
    some true).bind fun y71 =>
   if y71 = true then
    some (.inl ((Ar.rep 16 0), 2))
   else
    if (decide ((a1.Marks.length : Int) ≥ 30)) = true then
     some (.inl ((Ar.rep 16 0), 3))
    else
     (spec_l06Seal a1.Stock r23 a3 a2.Secret).bind fun r107 =>
     (spec_l04Copy a1.Stock).bind fun (r127, r128, r129) =>
     (app1 24 a1.Marks).bind fun x131 =>
     (app 24 x131 [(Mark.mk a3 r107)]).bind fun x147 =>
     some (.inr (a1.Debtor, r127, r128, r129, x147))
  else
   some (.inl ((Ar.rep 16 0), 4))
 else
  some (.inl ((Ar.rep 16 0), 1))
def spec_PassOn_enc (r : ((Ar 16 Int) × Int) ⊕ ((List UInt8) × Bool × (List Notch) × (Ar 16 Int) × (List Mark))) : AV :=
  match r with
  | (.inl g) => .tup [.agg (.str ([] : List UInt8) :: (.bool false :: (.nils :: ((arC (cI .i8) 0 g.1) ++ ((.nils :: []) : List AV))))), .int .i64 g.2]
  | (.inr g) => .tup [.agg (.str g.1 :: (.bool g.2.1 :: (.sl (some 107) (g.2.2.1.map Notch.c) :: ((arC (cI .i8) 0 g.2.2.2.1) ++ ((.sl (some 39) (g.2.2.2.2.map Mark.c) :: []) : List AV))))), .int .i64 0]
theorem spec_PassOn_ok (a1 : Chain) (a2 : Party) (a3 : List UInt8) (r : ((Ar 16 Int) × Int) ⊕ ((List UInt8) × Bool × (List Notch) × (Ar 16 Int) × (List Mark))) (h : spec_PassOn a1 a2 a3 = some r) : Ev (fun k => CN k 18 [.agg (.str a1.Debtor :: (.bool a1.Stock.Stock :: (.sl none (a1.Stock.Notches.map Notch.c) :: ((arC (cI .i8) 0 a1.Stock.Grain) ++ ((.sl none (a1.Marks.map Mark.c) :: []) : List AV))))), .agg [.str a2.Name, .int .u32 a2.Secret], .str a3] []) (fun p => rRes p.2 p.1 = spec_PassOn_enc r) := by
 unfold spec_PassOn at h
 refine Ev.enter (F := fun k => f18 (CN k) k) (fun k => callN_eq rfl Tryd.func18 rfl rfl rfl (by decide +kernel) (f18_eq _ _)) (sq (Rg (kx (bxI rfl rfl ⟨rfl, rfl, by decide⟩) (kx (bxI rfl rfl ⟨rfl, rfl, by decide⟩) (ku (alO zero34) fun M2 hM3 => ?_)))))
 have o4 : M2[([] : Mem).length]? = some (.live ⟨.box, 34, 20, [(.str ([] : List UInt8) :: (.bool false :: (.nils :: ((arC (cI .i8) 0 (Ar.rep 16 0)) ++ ((.nils :: []) : List AV)))))]⟩) := push_new hM3
 obtain ⟨r12, hx11, h⟩ := bind_some h
 refine kx (mvO rfl) (Rn (hN rfl (hN rfl (hN rfl (hV (.loc ([] : Mem).length 1 0 0) rfl hZ)))) fun e5 h7 h8 h9 h10 => sN (sq (sq (Rg (kc (cl (v := .bool r12) rfl (cns h8 rfl) rfl (spec_l06Ok_ok a1 _ hx11) nm) (kx (uNot rfl) (Rn (hA h7 (hA h8 (hA h9 (hA h10 (hN rfl hZ))))) fun e13 h15 h16 h17 h18 h19 => sN ?_)))))))
 clear h10 h7 h8 h9
 rcases ite_some h with ⟨hb20, h⟩ | ⟨hb20, h⟩
 ·obtain ⟨⟨r22, r23⟩, hx21, h⟩ := bind_some h
  refine cF h19 (congrArg Bool.not hb20) (xx (sN (sq (Rg (kc (cl (v := .agg [.str r22, .int .u32 r23]) rfl (cns h16 rfl) rfl (spec_l06Last_ok a1 _ hx21) nm) (ku (alO zero39) fun M25 hM26 => ?_))))))
  have o27 := push_old hM26 o4
  have ne28 := ne_new o4
  have o29 : M25[M2.length]? = some (.live ⟨.box, 39, 2, [[.str ([] : List UInt8), .int .u32 0]]⟩) := push_new hM26
  refine kw (stO rfl rfl o29 rfl rfl ⟨rfl, ble rfl⟩ rfl rfl) fun M30 hM31 => ?_
  have o32 := set_ne hM31 ne28 o27
  have o33 : M30[M2.length]? = some (.live ⟨.box, 39, 2, [[.str r22, .int .u32 r23]]⟩) := set_same hM31 o29
  refine Rn (hA h15 (hA h16 (hA h17 (hA h18 (hV (.loc M2.length 1 0 0) rfl hZ))))) fun e34 h36 h37 h38 h39 h40 => sN (sq (sq (Rg (kx (faP h38 ⟨ble rfl, blt rfl⟩ rfl) (kx (ldP rfl rfl) (kx (faO h40 o33 rfl) (kx (ldO rfl o33 rfl rfl rfl) (kx (sNeq rfl rfl) (Rn (hA h36 (hA h37 (hA h38 (hA h39 (hA h40 (hN rfl hZ)))))) fun e41 h43 h44 h45 h46 h47 h48 => sN ?_)))))))))
  clear h15 h16 h17 h18 h19 h36 h37 h38 h39 h40
  rcases ite_some h with ⟨hb49, h⟩ | ⟨hb49, h⟩
  ·obtain ⟨r166, hr167, h⟩ := bind_some h
   refine cF h48 (congrArg Bool.not hb49) (xx (sN (sq (sq ?_))))
   refine Ev.cut (Q1 := spec_PassOn_c1_Q a1 a2 a3 r22 r23 (([] : Mem).length) M2.length r166) (by
       have h := hr167
       obtain ⟨r51, hx50, h⟩ := bind_some h
       refine Rg (kx (mvO h43) (kc (cl (v := .bool r51) rfl (cns rfl rfl) rfl (spec_l06Name_ok a3 _ hx50) nm) (kx (uNot rfl) (kx (mvO rfl) ?_))))
       rcases ite_some h with ⟨hb52, h⟩ | ⟨hb52, h⟩
       ·refine kx (guF rfl (congrArg Bool.not hb52) (mvO h43)) (kx (guF rfl (congrArg Bool.not hb52) (faP h45 ⟨ble rfl, blt rfl⟩ rfl)) (kx (guF rfl (congrArg Bool.not hb52) (ldP rfl rfl)) (kx (guF rfl (congrArg Bool.not hb52) (sEql rfl rfl)) (kx (pkF rfl (congrArg Bool.not hb52) rfl) (Rn (hA h43 (hA h44 (hA h45 (hA h46 (hA h47 (hN rfl hZ)))))) fun e53 h55 h56 h57 h58 h59 h60 => ?_)))))
        clear h43 h44 h45 h46 h47 h48
        obtain rfl := si h
        exact kd (show spec_PassOn_c1_Q a1 a2 a3 r22 r23 (([] : Mem).length) M2.length _ _ from ⟨rfl, h55, h56, h57, h58, h59, h60, o32, o33⟩)
       refine kx (gsF rfl (congrArg Bool.not hb52)) (kx (gsF rfl (congrArg Bool.not hb52)) (kx (gsF rfl (congrArg Bool.not hb52)) (kx (gsF rfl (congrArg Bool.not hb52)) (kx (pkT rfl (congrArg Bool.not hb52) rfl) (Rn (hA h43 (hA h44 (hA h45 (hA h46 (hA h47 (hV (.bool true) rfl hZ)))))) fun e61 h63 h64 h65 h66 h67 h68 => ?_)))))
       clear h43 h44 h45 h46 h47 h48
       obtain rfl := si h
       exact kd (show spec_PassOn_c1_Q a1 a2 a3 r22 r23 (([] : Mem).length) M2.length _ _ from ⟨rfl, h63, h64, h65, h66, h67, h68, o32, o33⟩)) ?_
   revert h hr167
   revert r166
   intro y71 hr167 h
   intro x e69 M70 hq165
   obtain ⟨rfl, h72, h73, h74, h75, h76, h77, o78, o79⟩ := hq165
   refine sN ?_
   rcases ite_some h with ⟨hb80, h⟩ | ⟨hb80, h⟩
   ·refine cT h77 hb80 (sq (Rg (kx (bldT zero34 rfl (fill0 rfl)) (kw (stO h75 rfl o78 rfl rfl ⟨rfl, ble rfl⟩ rfl rfl) fun M81 hM82 => ?_))))
    have o83 : M81[([] : Mem).length]? = some (.live ⟨.box, 34, 20, [(.str ([] : List UInt8) :: (.bool false :: (.nils :: ((arC (cI .i8) 0 (Ar.rep 16 0)) ++ ((.nils :: []) : List AV)))))]⟩) := set_same hM82 o78
    have o84 := set_ne hM82 (Ne.symm ne28) o79
    refine kx (mvO rfl) (Rn (hA h75 (hV (.int .i64 2) rfl hZ)) fun e85 h87 h88 => sN (xx (sR ?_)))
    clear h72 h73 h74 h75 h76 h77
    obtain rfl := si h
    exact eR (resC (ag := true) (sz := 20) ⟨by kernel_rfl, by kernel_rfl, by kernel_rfl⟩ (ldOA (cs' := (.str ([] : List UInt8) :: (.bool false :: (.nils :: ((arC (cI .i8) 0 (Ar.rep 16 0)) ++ ((.nils :: []) : List AV)))))) h87 o83 rfl rfl (ble rfl) rfl) (resT h88 res0)) rfl
   refine cF h77 hb80 (xx (sN (sq (sq (Rg (kx (faP h73 ⟨ble rfl, blt rfl⟩ rfl) (kx (ldP rfl rfl) (kx (lnS Tryd.underlying32 rfl) (kx (bGeq rfl rfl) (Rn (hA h72 (hA h73 (hA h74 (hA h75 (hA h76 (hN rfl hZ)))))) fun e89 h91 h92 h93 h94 h95 h96 => sN ?_))))))))))
   clear h72 h73 h74 h75 h76 h77
   rcases ite_some h with ⟨hb97, h⟩ | ⟨hb97, h⟩
   ·refine cT h96 hb97 (sq (Rg (kx (bldT zero34 rfl (fill0 rfl)) (kw (stO h94 rfl o78 rfl rfl ⟨rfl, ble rfl⟩ rfl rfl) fun M98 hM99 => ?_))))
    have o100 : M98[([] : Mem).length]? = some (.live ⟨.box, 34, 20, [(.str ([] : List UInt8) :: (.bool false :: (.nils :: ((arC (cI .i8) 0 (Ar.rep 16 0)) ++ ((.nils :: []) : List AV)))))]⟩) := set_same hM99 o78
    have o101 := set_ne hM99 (Ne.symm ne28) o79
    refine kx (mvO rfl) (Rn (hA h94 (hV (.int .i64 3) rfl hZ)) fun e102 h104 h105 => sN (xx (sR ?_)))
    clear h91 h92 h93 h94 h95 h96
    obtain rfl := si h
    exact eR (resC (ag := true) (sz := 20) ⟨by kernel_rfl, by kernel_rfl, by kernel_rfl⟩ (ldOA (cs' := (.str ([] : List UInt8) :: (.bool false :: (.nils :: ((arC (cI .i8) 0 (Ar.rep 16 0)) ++ ((.nils :: []) : List AV)))))) h104 o100 rfl rfl (ble rfl) rfl) (resT h105 res0)) rfl
   obtain ⟨r107, hx106, h⟩ := bind_some h
   refine cF h96 hb97 (xx (sN (sq (Rg (kx (mvO h91) (kx (faP h92 ⟨ble rfl, blt rfl⟩ rfl) (kx (faO h95 o79 rfl) (kx (ldO rfl o79 rfl rfl rfl) (kx (mvO h91) (kx (faP h93 ⟨ble rfl, blt rfl⟩ rfl) (kx (ldP rfl rfl) (kc (cl (v := .int .u32 r107) rfl (cns rfl (cns rfl (cns rfl (cns rfl rfl)))) rfl (spec_l06Seal_ok a1.Stock r23 a3 a2.Secret _ hx106) nm) (kx (bldT zero39 (cns (pr3 rfl) (cns (pr3 rfl) rfl)) (fill1 ⟨rfl, ble rfl⟩ rfl rfl (fill1 ⟨rfl, ble rfl⟩ rfl rfl (fill0 rfl)))) (ku (alO zero39) fun M109 hM110 => ?_))))))))))))))
   have o111 := push_old hM110 o78
   have ne112 := ne_new o78
   have o113 := push_old hM110 o79
   have ne114 := ne_new o79
   have o115 : M109[M70.length]? = some (.live ⟨.box, 39, 2, [[.str ([] : List UInt8), .int .u32 0]]⟩) := push_new hM110
   refine kw (stO rfl rfl o115 rfl rfl ⟨rfl, ble rfl⟩ rfl rfl) fun M116 hM117 => ?_
   have o118 := set_ne hM117 ne112 o111
   have o119 := set_ne hM117 ne114 o113
   have o120 : M116[M70.length]? = some (.live ⟨.box, 39, 2, [[.str a3, .int .u32 r107]]⟩) := set_same hM117 o115
   obtain ⟨⟨r127, r128, r129⟩, hx126, h⟩ := bind_some h
   obtain ⟨x131, hx132, h⟩ := bind_some h
   refine Rn (hA h92 (hA h94 (hV (.loc M70.length 1 0 0) rfl hZ))) fun e121 h123 h124 h125 => sN (sq (Rd (kf (faP h123 ⟨ble rfl, blt rfl⟩ rfl) (kf (ldP rfl rfl) (kf (faP h123 ⟨ble rfl, blt rfl⟩ rfl) (Ev.nfcpE (Ev.callT (v := .agg (.bool r127 :: (.sl (some 107) (r128.map Notch.c) :: ((arC (cI .i8) 0 r129) ++ ([] : List AV))))) rfl (cns rfl rfl) rfl (spec_l04Copy_ok a1.Stock _ hx126) (th_gen (v' := .agg (.bool r127 :: (.lsl M116.length r128.length 0 r128.length :: ((arC (cI .i8) 0 r129) ++ ([] : List AV))))) (l := [⟨.grow, 107, 2, r128.map Notch.c⟩]) (own_agg (oa1 rfl (oa1 (own1_row' (c := Notch.c) Notch.flF) (oaA (fun _ => own1_flat) (fun _ => rfl) oa0)))) (by simp [thaw, thaw2, thaw1, thawL, co107, thA (c := (cI .i8)) (fun _ => rfl), thA0 (c := (cI .i8)) (fun _ => rfl)]) rfl rfl)) (kf (litI rfl rfl ⟨rfl, by decide⟩) (kf (faP h123 ⟨ble rfl, blt rfl⟩ rfl) (kf (ldP rfl rfl) (Ev.nfpushE (apE (c' := Mark.c) rfl (elS rfl) hx132 Mark.fl (by decide)) (kf (ldOA h125 o120 rfl rfl (ble rfl) rfl) (kf (litI (cns rfl rfl) rfl ⟨rfl, by decide⟩) (Ev.fend1 fun M136 hM137 => ?_)))))))))))))
   clear h91 h92 h93 h94 h95 h96
   have hM137 := fendM hM137 [⟨.grow, 107, 2, r128.map Notch.c⟩, ⟨.grow, 39, 2, x131.map Mark.c⟩] rfl
   have o138 := push_old hM137 o118
   have o139 := push_old hM137 o120
   have ne140 : ([] : Mem).length ≠ M116.length := by have := lt_of_get (M := M116) o118; omega
   have ne141 : M70.length ≠ M116.length := by have := lt_of_get (M := M116) o120; omega
   have o142 : M136[M116.length]? = some (.live ⟨.grow, 107, 2, r128.map Notch.c⟩) := push_at hM137 0 rfl
   have ne143 : ([] : Mem).length ≠ (M116.length + 1) := by have := lt_of_get (M := M116) o118; omega
   have ne144 : M70.length ≠ (M116.length + 1) := by have := lt_of_get (M := M116) o120; omega
   have ne145 : M116.length ≠ (M116.length + 1) := by omega
   have o146 : M136[(M116.length + 1)]? = some (.live ⟨.grow, 39, 2, x131.map Mark.c⟩) := push_at hM137 1 rfl
   obtain ⟨x147, hx148, h⟩ := bind_some h
   refine kw (apO rfl o146 rfl (elT (c := Mark.c) (xs := [(Mark.mk a3 r107)]) rfl) hx148 Mark.fl (by decide)) fun M149 hM150 => ?_
   have o151 := set_ne hM150 ne143 o138
   have o152 := set_ne hM150 ne144 o139
   have o153 := set_ne hM150 ne145 o142
   have o154 : M149[(M116.length + 1)]? = some (.live ⟨.grow, 39, 2, x147.map Mark.c⟩) := set_same hM150 o146
   refine kx (bldT zero34 (cns (pr3 rfl) (cns (pr3 rfl) (cns (pr3 rfl) rfl))) (fill1 (cs' := (.str a1.Debtor :: (.bool false :: (.nils :: ((arC (cI .i8) 0 (Ar.rep 16 0)) ++ ((.nils :: []) : List AV)))))) ⟨rfl, ble rfl⟩ rfl rfl (fill1 (cs' := (.str a1.Debtor :: (.bool r127 :: (.lsl M116.length r128.length 0 r128.length :: ((arC (cI .i8) 0 r129) ++ ((.nils :: []) : List AV)))))) ⟨rfl, ble rfl⟩ (all1 rfl (all1 (okL o153 (by simp)) (oaP (fun _ => rfl) all0))) rfl (fill1 (cs' := (.str a1.Debtor :: (.bool r127 :: (.lsl M116.length r128.length 0 r128.length :: ((arC (cI .i8) 0 r129) ++ ((.lsl (M116.length + 1) x147.length 0 x147.length :: []) : List AV)))))) ⟨rfl, ble rfl⟩ (all1 (okL o154 (by simp)) all0) rfl (fill0 rfl))))) (kw (stO h124 rfl o151 rfl rfl ⟨rfl, ble rfl⟩ (all1 rfl (all1 rfl (all1 (okL o153 (by simp)) (oaS (rest := [.lsl (M116.length + 1) x147.length 0 x147.length]) (fun _ => rfl) (all1 (okL o154 (by simp)) all0))))) rfl) fun M155 hM156 => ?_)
   have o157 : M155[([] : Mem).length]? = some (.live ⟨.box, 34, 20, [(.str a1.Debtor :: (.bool r127 :: (.lsl M116.length r128.length 0 r128.length :: ((arC (cI .i8) 0 r129) ++ ((.lsl (M116.length + 1) x147.length 0 x147.length :: []) : List AV)))))]⟩) := set_same hM156 o151
   have o158 := set_ne hM156 (Ne.symm ne112) o152
   have o159 := set_ne hM156 (Ne.symm ne140) o153
   have o160 := set_ne hM156 (Ne.symm ne143) o154
   refine kx (mvO rfl) (Rn (hA h124 (hV (.int .i64 0) rfl hZ)) fun e161 h163 h164 => sN (xx ?_))
   clear h123 h124 h125
   obtain rfl := si h
   exact eR (resC (ag := true) (sz := 20) ⟨by kernel_rfl, by kernel_rfl, by kernel_rfl⟩ (ldOA (cs' := (.str a1.Debtor :: (.bool r127 :: (.lsl M116.length r128.length 0 r128.length :: ((arC (cI .i8) 0 r129) ++ ((.lsl (M116.length + 1) x147.length 0 x147.length :: []) : List AV)))))) h163 o157 rfl rfl (ble rfl) rfl) (resT h164 res0)) (rr_tup (mp1 (rr_agg (mp1 rfl (mp1 rfl (mp1 (rr_row o159 rfl Notch.fl) (mpA (fun _ => rRes1_flat) (fun _ => rfl) (mp1 (rr_row o160 rfl Mark.fl) mp0)))))) (mp1 rfl mp0)))
  refine cT h48 (congrArg Bool.not hb49) (sq (Rg (kx (bldT zero34 rfl (fill0 rfl)) (kw (stO h46 rfl o32 rfl rfl ⟨rfl, ble rfl⟩ rfl rfl) fun M168 hM169 => ?_))))
  have o170 : M168[([] : Mem).length]? = some (.live ⟨.box, 34, 20, [(.str ([] : List UInt8) :: (.bool false :: (.nils :: ((arC (cI .i8) 0 (Ar.rep 16 0)) ++ ((.nils :: []) : List AV)))))]⟩) := set_same hM169 o32
  have o171 := set_ne hM169 (Ne.symm ne28) o33
  refine kx (mvO rfl) (Rn (hA h46 (hV (.int .i64 4) rfl hZ)) fun e172 h174 h175 => sN (xx (sR ?_)))
  clear h43 h44 h45 h46 h47 h48
  obtain rfl := si h
  exact eR (resC (ag := true) (sz := 20) ⟨by kernel_rfl, by kernel_rfl, by kernel_rfl⟩ (ldOA (cs' := (.str ([] : List UInt8) :: (.bool false :: (.nils :: ((arC (cI .i8) 0 (Ar.rep 16 0)) ++ ((.nils :: []) : List AV)))))) h174 o170 rfl rfl (ble rfl) rfl) (resT h175 res0)) rfl
 refine cT h19 (congrArg Bool.not hb20) (sq (Rg (kx (bldT zero34 rfl (fill0 rfl)) (kw (stO h18 rfl o4 rfl rfl ⟨rfl, ble rfl⟩ rfl rfl) fun M176 hM177 => ?_))))
 have o178 : M176[([] : Mem).length]? = some (.live ⟨.box, 34, 20, [(.str ([] : List UInt8) :: (.bool false :: (.nils :: ((arC (cI .i8) 0 (Ar.rep 16 0)) ++ ((.nils :: []) : List AV)))))]⟩) := set_same hM177 o4
 refine kx (mvO rfl) (Rn (hA h18 (hV (.int .i64 1) rfl hZ)) fun e179 h181 h182 => sN (xx (sR ?_)))
 clear h15 h16 h17 h18 h19
 obtain rfl := si h
 exact eR (resC (ag := true) (sz := 20) ⟨by kernel_rfl, by kernel_rfl, by kernel_rfl⟩ (ldOA (cs' := (.str ([] : List UInt8) :: (.bool false :: (.nils :: ((arC (cI .i8) 0 (Ar.rep 16 0)) ++ ((.nils :: []) : List AV)))))) h181 o178 rfl rfl (ble rfl) rfl) (resT h182 res0)) rfl
/-! ### loop.example/g01263/laws.szParty (f17) -/
noncomputable def laws_szParty (a1 : Party) (a2 : Int) : Option Int :=
 if (decide ((IntKind.i64.wrap (a2 - (a1.Name.length : Int))) < 0)) = true then
  some (-1)
 else
  some (IntKind.i64.wrap (a2 - (a1.Name.length : Int)))
def laws_szParty_enc (r : Int) : AV := .int .i64 r
theorem laws_szParty_ok (a1 : Party) (a2 : Int) (r : Int) (h : laws_szParty a1 a2 = some r) : Ev (fun k => CN k 17 [.agg [.str a1.Name, .int .u32 a1.Secret], .int .i64 a2] []) (fun p => rRes p.2 p.1 = laws_szParty_enc r) := by
 unfold laws_szParty at h
 refine Ev.enter (F := fun k => f17 (CN k) k) (fun k => callN_eq rfl Tryd.func17 rfl rfl rfl (by decide +kernel) (f17_eq _ _)) (sq (Rg (kx (bxI rfl rfl ⟨rfl, rfl, by decide⟩) (kx (mvO rfl) (Rn (hN rfl (hN rfl hZ)) fun e1 h3 h4 => sN (sq (Rg (kx (mvO h3) (kx (faP h4 ⟨ble rfl, blt rfl⟩ rfl) (kx (ldP rfl rfl) (kx (lnB Tryd.underlying9 rfl) (kx (bSub rfl rfl) (kx (mvO rfl) (Rn (hN rfl hZ) fun e5 h7 => sN (sq (sq (Rg (kx (mvO h7) (kx (bLss rfl rfl) (Rn (hA h7 (hN rfl hZ)) fun e8 h10 h11 => sN ?_))))))))))))))))))))
 clear h4 h7
 rcases ite_some h with ⟨hb12, h⟩ | ⟨hb12, h⟩
 ·refine cT h11 hb12 (sq (Rg (kx (mvO rfl) (Rn (hV (.int .i64 (-1)) rfl hZ) fun e13 h15 => sN (xx (sR ?_))))))
  clear h10 h11
  obtain rfl := si h
  exact eR (resT h15 res0) rfl
 refine cF h11 hb12 (xx (sN (sq (Rg (kx (mvO h10) (kx (mvO rfl) (Rn (hN rfl hZ) fun e16 h18 => sN (xx ?_))))))))
 clear h10 h11
 obtain rfl := si h
 exact eR (resT h18 res0) rfl
/-! ### loop.example/g01263/laws.szChain (f16) -/
noncomputable def laws_szChain (a1 : Chain) (a2 : Int) : Option Int :=
 if (decide ((IntKind.i64.wrap (a2 - (a1.Debtor.length : Int))) < 0)) = true then
  some (-1)
 else
  (laws_szHalf a1.Stock (IntKind.i64.wrap (a2 - (a1.Debtor.length : Int)))).bind fun r19 =>
  if (decide (r19 < 0)) = true then
   some (-1)
  else
   (laws_szMarkS a1.Marks r19).bind fun r34 =>
   if (decide (r34 < 0)) = true then
    some (-1)
   else
    some r34
def laws_szChain_enc (r : Int) : AV := .int .i64 r
theorem laws_szChain_ok (a1 : Chain) (a2 : Int) (r : Int) (h : laws_szChain a1 a2 = some r) : Ev (fun k => CN k 16 [.agg (.str a1.Debtor :: (.bool a1.Stock.Stock :: (.sl none (a1.Stock.Notches.map Notch.c) :: ((arC (cI .i8) 0 a1.Stock.Grain) ++ ((.sl none (a1.Marks.map Mark.c) :: []) : List AV))))), .int .i64 a2] []) (fun p => rRes p.2 p.1 = laws_szChain_enc r) := by
 unfold laws_szChain at h
 refine Ev.enter (F := fun k => f16 (CN k) k) (fun k => callN_eq rfl Tryd.func16 rfl rfl rfl (by decide +kernel) (f16_eq _ _)) (sq (Rg (kx (bxI rfl rfl ⟨rfl, rfl, by decide⟩) (kx (mvO rfl) (Rn (hN rfl (hN rfl hZ)) fun e1 h3 h4 => sN (sq (Rg (kx (mvO h3) (kx (faP h4 ⟨ble rfl, blt rfl⟩ rfl) (kx (ldP rfl rfl) (kx (lnB Tryd.underlying9 rfl) (kx (bSub rfl rfl) (kx (mvO rfl) (Rn (hN rfl (hA h4 hZ)) fun e5 h7 h8 => sN (sq (sq (Rg (kx (mvO h7) (kx (bLss rfl rfl) (Rn (hA h7 (hA h8 (hN rfl hZ))) fun e9 h11 h12 h13 => sN ?_))))))))))))))))))))
 clear h4 h7 h8
 rcases ite_some h with ⟨hb14, h⟩ | ⟨hb14, h⟩
 ·refine cT h13 hb14 (sq (Rg (kx (mvO rfl) (Rn (hV (.int .i64 (-1)) rfl hZ) fun e15 h17 => sN (xx (sR ?_))))))
  clear h11 h12 h13
  obtain rfl := si h
  exact eR (resT h17 res0) rfl
 obtain ⟨r19, hx18, h⟩ := bind_some h
 refine cF h13 hb14 (xx (sN (sq (Rg (kx (faP h12 ⟨ble rfl, blt rfl⟩ rfl) (kx (ldPA rfl rfl rfl) (kx (mvO h11) (kc (cl (v := .int .i64 r19) rfl (cns rfl (cns rfl rfl)) rfl (laws_szHalf_ok a1.Stock (IntKind.i64.wrap (a2 - (a1.Debtor.length : Int))) _ hx18) nm) (kx (mvO rfl) (Rn (hN rfl (hA h12 hZ)) fun e20 h22 h23 => sN (sq (sq (Rg (kx (mvO h22) (kx (bLss rfl rfl) (Rn (hA h22 (hA h23 (hN rfl hZ))) fun e24 h26 h27 h28 => sN ?_))))))))))))))))
 clear h12 h13 h22 h23
 rcases ite_some h with ⟨hb29, h⟩ | ⟨hb29, h⟩
 ·refine cT h28 hb29 (sq (Rg (kx (mvO rfl) (Rn (hV (.int .i64 (-1)) rfl hZ) fun e30 h32 => sN (xx (sR ?_))))))
  clear h26 h27 h28
  obtain rfl := si h
  exact eR (resT h32 res0) rfl
 obtain ⟨r34, hx33, h⟩ := bind_some h
 refine cF h28 hb29 (xx (sN (sq (Rg (kx (faP h27 ⟨ble rfl, blt rfl⟩ rfl) (kx (ldP rfl rfl) (kx (mvO h26) (kc (cl (v := .int .i64 r34) rfl (cns rfl (cns rfl rfl)) rfl (laws_szMarkS_ok a1.Marks r19 _ hx33) nm) (kx (mvO rfl) (Rn (hN rfl hZ) fun e35 h37 => sN (sq (sq (Rg (kx (mvO h37) (kx (bLss rfl rfl) (Rn (hA h37 (hN rfl hZ)) fun e38 h40 h41 => sN ?_))))))))))))))))
 clear h27 h28 h37
 rcases ite_some h with ⟨hb42, h⟩ | ⟨hb42, h⟩
 ·refine cT h41 hb42 (sq (Rg (kx (mvO rfl) (Rn (hV (.int .i64 (-1)) rfl hZ) fun e43 h45 => sN (xx (sR ?_))))))
  clear h40 h41
  obtain rfl := si h
  exact eR (resT h45 res0) rfl
 refine cF h41 hb42 (xx (sN (sq (Rg (kx (mvO h40) (kx (mvO rfl) (Rn (hN rfl hZ) fun e46 h48 => sN (xx ?_))))))))
 clear h40 h41
 obtain rfl := si h
 exact eR (resT h48 res0) rfl
/-! ### loop.example/g01263/impl.PassOn (f13) -/
def impl_PassOn_c1_Q (a1 : Chain) (a2 : Party) (a3 : List UInt8) (i901_1 : Nat) (g : Bool) (q : Out) : Prop := q.1 = .nrm ∧ eget q.2.1 2 = .str a3 ∧ eget q.2.1 3 = .pt none (.str a1.Debtor :: (.bool a1.Stock.Stock :: (.sl none (a1.Stock.Notches.map Notch.c) :: ((arC (cI .i8) 0 a1.Stock.Grain) ++ ((.sl none (a1.Marks.map Mark.c) :: []) : List AV))))) ∧ eget q.2.1 4 = .pt none [.str a2.Name, .int .u32 a2.Secret] ∧ eget q.2.1 6 = .loc i901_1 1 0 0 ∧ eget q.2.1 22 = .bool g ∧ q.2.2[i901_1]? = some (.live ⟨.box, 34, 20, [(.str ([] : List UInt8) :: (.bool false :: (.nils :: ((arC (cI .i8) 0 (Ar.rep 16 0)) ++ ((.nils :: []) : List AV)))))]⟩)
noncomputable def impl_PassOn (a1 : Chain) (a2 : Party) (a3 : List UInt8) : Option (((Ar 16 Int) × Int) ⊕ ((List UInt8) × Bool × (List Notch) × (Ar 16 Int) × (List Mark))) :=
 (impl_ValidChain a1).bind fun r12 =>
 if r12 = true then
  (impl_last a1).bind fun (r22, r23) =>
  if (a2.Name == r22) = true then
   ((impl_isName a3).bind fun r33 =>
   if r33 = true then
    some (a3 == a2.Name)
   else
    some true).bind fun y51 =>
   if y51 = true then
    some (.inl ((Ar.rep 16 0), 2))
   else
    if ((a1.Marks.length : Int) == 30) = true then
     some (.inl ((Ar.rep 16 0), 3))
    else
     (impl_last a1).bind fun (r82, r83) =>
     (impl_seal a1.Stock r83 a3 a2.Secret).bind fun r85 =>
     (impl_ownHalf a1.Stock).bind fun (r102, r103, r104) =>
     (slices_Clone_Mark a1.Marks).bind fun r107 =>
     (app 24 r107 [(Mark.mk a3 r85)]).bind fun x120 =>
     some (.inr (a1.Debtor, r102, r103, r104, x120))
  else
   some (.inl ((Ar.rep 16 0), 4))
 else
  some (.inl ((Ar.rep 16 0), 1))
def impl_PassOn_enc (r : ((Ar 16 Int) × Int) ⊕ ((List UInt8) × Bool × (List Notch) × (Ar 16 Int) × (List Mark))) : AV :=
  match r with
  | (.inl g) => .tup [.agg (.str ([] : List UInt8) :: (.bool false :: (.nils :: ((arC (cI .i8) 0 g.1) ++ ((.nils :: []) : List AV))))), .int .i64 g.2]
  | (.inr g) => .tup [.agg (.str g.1 :: (.bool g.2.1 :: (.sl (some 107) (g.2.2.1.map Notch.c) :: ((arC (cI .i8) 0 g.2.2.2.1) ++ ((.sl (some 39) (g.2.2.2.2.map Mark.c) :: []) : List AV))))), .int .i64 0]
theorem impl_PassOn_ok (a1 : Chain) (a2 : Party) (a3 : List UInt8) (r : ((Ar 16 Int) × Int) ⊕ ((List UInt8) × Bool × (List Notch) × (Ar 16 Int) × (List Mark))) (h : impl_PassOn a1 a2 a3 = some r) : Ev (fun k => CN k 13 [.agg (.str a1.Debtor :: (.bool a1.Stock.Stock :: (.sl none (a1.Stock.Notches.map Notch.c) :: ((arC (cI .i8) 0 a1.Stock.Grain) ++ ((.sl none (a1.Marks.map Mark.c) :: []) : List AV))))), .agg [.str a2.Name, .int .u32 a2.Secret], .str a3] []) (fun p => rRes p.2 p.1 = impl_PassOn_enc r) := by
 unfold impl_PassOn at h
 refine Ev.enter (F := fun k => f13 (CN k) k) (fun k => callN_eq rfl Tryd.func13 rfl rfl rfl (by decide +kernel) (f13_eq _ _)) (sq (Rg (kx (bxI rfl rfl ⟨rfl, rfl, by decide⟩) (kx (bxI rfl rfl ⟨rfl, rfl, by decide⟩) (ku (alO zero34) fun M2 hM3 => ?_)))))
 have o4 : M2[([] : Mem).length]? = some (.live ⟨.box, 34, 20, [(.str ([] : List UInt8) :: (.bool false :: (.nils :: ((arC (cI .i8) 0 (Ar.rep 16 0)) ++ ((.nils :: []) : List AV)))))]⟩) := push_new hM3
 obtain ⟨r12, hx11, h⟩ := bind_some h
 refine kx (mvO rfl) (Rn (hN rfl (hN rfl (hN rfl (hV (.loc ([] : Mem).length 1 0 0) rfl hZ)))) fun e5 h7 h8 h9 h10 => sN (sq (bl (sq (Rg (kx (ldPA h8 rfl rfl) (kc (cl (v := .bool r12) rfl (cns rfl rfl) rfl (impl_ValidChain_ok a1 _ hx11) nm) (kx (uNot rfl) (kx (mvO rfl) (Rn (hA h7 (hA h8 (hA h9 (hA h10 (hN rfl hZ))))) fun e13 h15 h16 h17 h18 h19 => sN ?_))))))))))
 clear h10 h7 h8 h9
 rcases ite_some h with ⟨hb20, h⟩ | ⟨hb20, h⟩
 ·obtain ⟨⟨r22, r23⟩, hx21, h⟩ := bind_some h
  refine cF h19 (congrArg Bool.not hb20) (sq (Rd (kf (faP h17 ⟨ble rfl, blt rfl⟩ rfl) (kf (ldP rfl rfl) (kf (ldPA h16 rfl rfl) (fc (cl (v := .agg [.str r22, .int .u32 r23]) rfl (cns rfl rfl) rfl (impl_last_ok a1 _ hx21) nm) (kf (fdC rfl rfl) (kf (sNeq rfl rfl) (kf (mvO rfl) (fZ (Rn (hA h15 (hA h16 (hA h17 (hA h18 (hN rfl hZ))))) fun e24 h26 h27 h28 h29 h30 => sN ?_)))))))))))
  clear h15 h16 h17 h18 h19
  rcases ite_some h with ⟨hb31, h⟩ | ⟨hb31, h⟩
  ·obtain ⟨r139, hr140, h⟩ := bind_some h
   refine cF h30 (congrArg Bool.not hb31) (sq ?_)
   refine Ev.cut (Q1 := impl_PassOn_c1_Q a1 a2 a3 (([] : Mem).length) r139) (by
       have h := hr140
       obtain ⟨r33, hx32, h⟩ := bind_some h
       refine Rg (kx (mvO h26) (kc (cl (v := .bool r33) rfl (cns rfl rfl) rfl (impl_isName_ok a3 _ hx32) nm) (kx (uNot rfl) (kx (mvO rfl) ?_))))
       rcases ite_some h with ⟨hb34, h⟩ | ⟨hb34, h⟩
       ·refine kx (guF rfl (congrArg Bool.not hb34) (mvO h26)) (kx (guF rfl (congrArg Bool.not hb34) (faP h28 ⟨ble rfl, blt rfl⟩ rfl)) (kx (guF rfl (congrArg Bool.not hb34) (ldP rfl rfl)) (kx (guF rfl (congrArg Bool.not hb34) (sEql rfl rfl)) (kx (pkF rfl (congrArg Bool.not hb34) rfl) (kx (mvO rfl) (Rn (hA h26 (hA h27 (hA h28 (hA h29 (hN rfl hZ))))) fun e35 h37 h38 h39 h40 h41 => ?_))))))
        clear h26 h27 h28 h29 h30
        obtain rfl := si h
        exact kd (show impl_PassOn_c1_Q a1 a2 a3 (([] : Mem).length) _ _ from ⟨rfl, h37, h38, h39, h40, h41, o4⟩)
       refine kx (gsF rfl (congrArg Bool.not hb34)) (kx (gsF rfl (congrArg Bool.not hb34)) (kx (gsF rfl (congrArg Bool.not hb34)) (kx (gsF rfl (congrArg Bool.not hb34)) (kx (pkT rfl (congrArg Bool.not hb34) rfl) (kx (mvO rfl) (Rn (hA h26 (hA h27 (hA h28 (hA h29 (hV (.bool true) rfl hZ))))) fun e42 h44 h45 h46 h47 h48 => ?_))))))
       clear h26 h27 h28 h29 h30
       obtain rfl := si h
       exact kd (show impl_PassOn_c1_Q a1 a2 a3 (([] : Mem).length) _ _ from ⟨rfl, h44, h45, h46, h47, h48, o4⟩)) ?_
   revert h hr140
   revert r139
   intro y51 hr140 h
   intro x e49 M50 hq138
   obtain ⟨rfl, h52, h53, h54, h55, h56, o57⟩ := hq138
   refine sN ?_
   rcases ite_some h with ⟨hb58, h⟩ | ⟨hb58, h⟩
   ·refine cT h56 hb58 (sq (Rg (kx (bldT zero34 rfl (fill0 rfl)) (kw (stOK h55 rfl o57 rfl rfl ⟨rfl, ble rfl⟩ rfl rfl) fun M59 hM60 => ?_))))
    have o61 : M59[([] : Mem).length]? = some (.live ⟨.box, 34, 20, [(.str ([] : List UInt8) :: (.bool false :: (.nils :: ((arC (cI .i8) 0 (Ar.rep 16 0)) ++ ((.nils :: []) : List AV)))))]⟩) := set_same hM60 o57
    refine kx (mvO rfl) (Rn (hV (.loc ([] : Mem).length 1 0 0) h55 (hV (.int .i64 2) rfl hZ)) fun e62 h64 h65 => sN (xx (bR (sR ?_))))
    clear h52 h53 h54 h55 h56
    obtain rfl := si h
    exact eR (resC (ag := true) (sz := 20) ⟨by kernel_rfl, by kernel_rfl, by kernel_rfl⟩ (ldOA (cs' := (.str ([] : List UInt8) :: (.bool false :: (.nils :: ((arC (cI .i8) 0 (Ar.rep 16 0)) ++ ((.nils :: []) : List AV)))))) h64 o61 rfl rfl (ble rfl) rfl) (resT h65 res0)) rfl
   refine cF h56 hb58 (sq (Rg (kx (faP h53 ⟨ble rfl, blt rfl⟩ rfl) (kx (ldP rfl rfl) (kx (lnS Tryd.underlying32 rfl) (kx (bEql rfl rfl) (kx (mvO rfl) (Rn (hV (.str a3) h52 (hV (.pt none (.str a1.Debtor :: (.bool a1.Stock.Stock :: (.sl none (a1.Stock.Notches.map Notch.c) :: ((arC (cI .i8) 0 a1.Stock.Grain) ++ ((.sl none (a1.Marks.map Mark.c) :: []) : List AV)))))) h53 (hV (.pt none [.str a2.Name, .int .u32 a2.Secret]) h54 (hV (.loc ([] : Mem).length 1 0 0) h55 (hN rfl hZ))))) fun e66 h68 h69 h70 h71 h72 => sN ?_))))))))
   clear h52 h53 h54 h55 h56
   rcases ite_some h with ⟨hb73, h⟩ | ⟨hb73, h⟩
   ·refine cT h72 hb73 (sq (Rg (kx (bldT zero34 rfl (fill0 rfl)) (kw (stOK h71 rfl o57 rfl rfl ⟨rfl, ble rfl⟩ rfl rfl) fun M74 hM75 => ?_))))
    have o76 : M74[([] : Mem).length]? = some (.live ⟨.box, 34, 20, [(.str ([] : List UInt8) :: (.bool false :: (.nils :: ((arC (cI .i8) 0 (Ar.rep 16 0)) ++ ((.nils :: []) : List AV)))))]⟩) := set_same hM75 o57
    refine kx (mvO rfl) (Rn (hA h71 (hV (.int .i64 3) rfl hZ)) fun e77 h79 h80 => sN (xx (bR (sR ?_))))
    clear h68 h69 h70 h71 h72
    obtain rfl := si h
    exact eR (resC (ag := true) (sz := 20) ⟨by kernel_rfl, by kernel_rfl, by kernel_rfl⟩ (ldOA (cs' := (.str ([] : List UInt8) :: (.bool false :: (.nils :: ((arC (cI .i8) 0 (Ar.rep 16 0)) ++ ((.nils :: []) : List AV)))))) h79 o76 rfl rfl (ble rfl) rfl) (resT h80 res0)) rfl
   obtain ⟨⟨r82, r83⟩, hx81, h⟩ := bind_some h
   obtain ⟨r85, hx84, h⟩ := bind_some h
   refine cF h72 hb73 (xx (bN (sN (sq (Rd (kf (mvO h68) (kf (faP h69 ⟨ble rfl, blt rfl⟩ rfl) (kf (ldPA rfl rfl rfl) (kf (ldPA h69 rfl rfl) (fc (cl (v := .agg [.str r82, .int .u32 r83]) rfl (cns rfl rfl) rfl (impl_last_ok a1 _ hx81) nm) (kf (fdC rfl rfl) (kf (mvO h68) (kf (faP h70 ⟨ble rfl, blt rfl⟩ rfl) (kf (ldP rfl rfl) (fc (cl (v := .int .u32 r85) rfl (cns rfl (cns rfl (cns rfl (cns rfl rfl)))) rfl (impl_seal_ok a1.Stock r83 a3 a2.Secret _ hx84) nm) (kf (bldT zero39 (cns (pr3 rfl) (cns (pr3 rfl) rfl)) (fill1 ⟨rfl, ble rfl⟩ rfl rfl (fill1 ⟨rfl, ble rfl⟩ rfl rfl (fill0 rfl)))) (Ev.nfpushE (alO zero39) (Ev.fend1 fun M87 hM88 => ?_))))))))))))))))))
   have hM88 := fendM hM88 [⟨.box, 39, 2, [[.str ([] : List UInt8), .int .u32 0]]⟩] rfl
   have o89 := push_old hM88 o57
   have ne90 : ([] : Mem).length ≠ M50.length := by have := lt_of_get (M := M50) o57; omega
   have o91 : M87[M50.length]? = some (.live ⟨.box, 39, 2, [[.str ([] : List UInt8), .int .u32 0]]⟩) := push_at hM88 0 rfl
   refine kw (stO rfl rfl o91 rfl rfl ⟨rfl, ble rfl⟩ rfl rfl) fun M92 hM93 => ?_
   have o94 := set_ne hM93 ne90 o89
   have o95 : M92[M50.length]? = some (.live ⟨.box, 39, 2, [[.str a3, .int .u32 r85]]⟩) := set_same hM93 o91
   obtain ⟨⟨r102, r103, r104⟩, hx101, h⟩ := bind_some h
   obtain ⟨r107, hx106, h⟩ := bind_some h
   refine Rn (hA h69 (hA h71 (hV (.loc M50.length 1 0 0) rfl hZ))) fun e96 h98 h99 h100 => sN (sq (Rd (kf (faP h98 ⟨ble rfl, blt rfl⟩ rfl) (kf (ldP rfl rfl) (kf (faP h98 ⟨ble rfl, blt rfl⟩ rfl) (kf (ldPA rfl rfl rfl) (Ev.nfcpE (Ev.callT (v := .agg (.bool r102 :: (.sl (some 107) (r103.map Notch.c) :: ((arC (cI .i8) 0 r104) ++ ([] : List AV))))) rfl (cns rfl rfl) rfl (impl_ownHalf_ok a1.Stock _ hx101) (th_gen (v' := .agg (.bool r102 :: (.lsl M92.length r103.length 0 r103.length :: ((arC (cI .i8) 0 r104) ++ ([] : List AV))))) (l := [⟨.grow, 107, 2, r103.map Notch.c⟩]) (own_agg (oa1 rfl (oa1 (own1_row' (c := Notch.c) Notch.flF) (oaA (fun _ => own1_flat) (fun _ => rfl) oa0)))) (by simp [thaw, thaw2, thaw1, thawL, co107, thA (c := (cI .i8)) (fun _ => rfl), thA0 (c := (cI .i8)) (fun _ => rfl)]) rfl rfl)) (kf (faP h98 ⟨ble rfl, blt rfl⟩ rfl) (kf (ldP rfl rfl) (Ev.nfcpE (Ev.callT (v := .sl (some 39) (r107.map Mark.c)) rfl (cns rfl rfl) rfl (slices_Clone_Mark_ok a1.Marks _ hx106) (th_gen (v' := .lsl (M92.length + 1) r107.length 0 r107.length) (l := [⟨.grow, 39, 2, r107.map Mark.c⟩]) (ownA_row (c := Mark.c) Mark.flF) (by simp [thaw, thaw2, thaw1, thawL, co39]) rfl rfl)) (kf (ldOA h100 o95 rfl rfl (ble rfl) rfl) (kf (litI (cns rfl rfl) rfl ⟨rfl, by decide⟩) (Ev.fend1 fun M109 hM110 => ?_)))))))))))))
   clear h68 h69 h70 h71 h72
   have hM110 := fendM hM110 [⟨.grow, 107, 2, r103.map Notch.c⟩, ⟨.grow, 39, 2, r107.map Mark.c⟩] rfl
   have o111 := push_old hM110 o94
   have o112 := push_old hM110 o95
   have ne113 : ([] : Mem).length ≠ M92.length := by have := lt_of_get (M := M92) o94; omega
   have ne114 : M50.length ≠ M92.length := by have := lt_of_get (M := M92) o95; omega
   have o115 : M109[M92.length]? = some (.live ⟨.grow, 107, 2, r103.map Notch.c⟩) := push_at hM110 0 rfl
   have ne116 : ([] : Mem).length ≠ (M92.length + 1) := by have := lt_of_get (M := M92) o94; omega
   have ne117 : M50.length ≠ (M92.length + 1) := by have := lt_of_get (M := M92) o95; omega
   have ne118 : M92.length ≠ (M92.length + 1) := by omega
   have o119 : M109[(M92.length + 1)]? = some (.live ⟨.grow, 39, 2, r107.map Mark.c⟩) := push_at hM110 1 rfl
   obtain ⟨x120, hx121, h⟩ := bind_some h
   refine kw (apO rfl o119 rfl (elT (c := Mark.c) (xs := [(Mark.mk a3 r85)]) rfl) hx121 Mark.fl (by decide)) fun M122 hM123 => ?_
   have o124 := set_ne hM123 ne116 o111
   have o125 := set_ne hM123 ne117 o112
   have o126 := set_ne hM123 ne118 o115
   have o127 : M122[(M92.length + 1)]? = some (.live ⟨.grow, 39, 2, x120.map Mark.c⟩) := set_same hM123 o119
   refine kx (bldT zero34 (cns (pr3 rfl) (cns (pr3 rfl) (cns (pr3 rfl) rfl))) (fill1 (cs' := (.str a1.Debtor :: (.bool false :: (.nils :: ((arC (cI .i8) 0 (Ar.rep 16 0)) ++ ((.nils :: []) : List AV)))))) ⟨rfl, ble rfl⟩ rfl rfl (fill1 (cs' := (.str a1.Debtor :: (.bool r102 :: (.lsl M92.length r103.length 0 r103.length :: ((arC (cI .i8) 0 r104) ++ ((.nils :: []) : List AV)))))) ⟨rfl, ble rfl⟩ (all1 rfl (all1 (okL o126 (by simp)) (oaP (fun _ => rfl) all0))) rfl (fill1 (cs' := (.str a1.Debtor :: (.bool r102 :: (.lsl M92.length r103.length 0 r103.length :: ((arC (cI .i8) 0 r104) ++ ((.lsl (M92.length + 1) x120.length 0 x120.length :: []) : List AV)))))) ⟨rfl, ble rfl⟩ (all1 (okL o127 (by simp)) all0) rfl (fill0 rfl))))) (kw (stOK h99 rfl o124 rfl rfl ⟨rfl, ble rfl⟩ (all1 rfl (all1 rfl (all1 (okL o126 (by simp)) (oaL (rest := [.lsl (M92.length + 1) x120.length 0 x120.length]) (fun _ => rfl) (all1 (okL o127 (by simp)) all0))))) rfl) fun M128 hM129 => ?_)
   have o130 : M128[([] : Mem).length]? = some (.live ⟨.box, 34, 20, [(.str a1.Debtor :: (.bool r102 :: (.lsl M92.length r103.length 0 r103.length :: ((arC (cI .i8) 0 r104) ++ ((.lsl (M92.length + 1) x120.length 0 x120.length :: []) : List AV)))))]⟩) := set_same hM129 o124
   have o131 := set_ne hM129 (Ne.symm ne90) o125
   have o132 := set_ne hM129 (Ne.symm ne113) o126
   have o133 := set_ne hM129 (Ne.symm ne116) o127
   refine kx (mvO rfl) (Rn (hA h99 (hV (.int .i64 0) rfl hZ)) fun e134 h136 h137 => sN (xx ?_))
   clear h100 h98 h99
   obtain rfl := si h
   exact eR (resC (ag := true) (sz := 20) ⟨by kernel_rfl, by kernel_rfl, by kernel_rfl⟩ (ldOA (cs' := (.str a1.Debtor :: (.bool r102 :: (.lsl M92.length r103.length 0 r103.length :: ((arC (cI .i8) 0 r104) ++ ((.lsl (M92.length + 1) x120.length 0 x120.length :: []) : List AV)))))) h136 o130 rfl rfl (ble rfl) rfl) (resT h137 res0)) (rr_tup (mp1 (rr_agg (mp1 rfl (mp1 rfl (mp1 (rr_row o132 rfl Notch.fl) (mpA (fun _ => rRes1_flat) (fun _ => rfl) (mp1 (rr_row o133 rfl Mark.fl) mp0)))))) (mp1 rfl mp0)))
  refine cT h30 (congrArg Bool.not hb31) (sq (Rg (kx (bldT zero34 rfl (fill0 rfl)) (kw (stOK h29 rfl o4 rfl rfl ⟨rfl, ble rfl⟩ rfl rfl) fun M141 hM142 => ?_))))
  have o143 : M141[([] : Mem).length]? = some (.live ⟨.box, 34, 20, [(.str ([] : List UInt8) :: (.bool false :: (.nils :: ((arC (cI .i8) 0 (Ar.rep 16 0)) ++ ((.nils :: []) : List AV)))))]⟩) := set_same hM142 o4
  refine kx (mvO rfl) (Rn (hA h29 (hV (.int .i64 4) rfl hZ)) fun e144 h146 h147 => sN (xx (bR (sR ?_))))
  clear h26 h27 h28 h29 h30
  obtain rfl := si h
  exact eR (resC (ag := true) (sz := 20) ⟨by kernel_rfl, by kernel_rfl, by kernel_rfl⟩ (ldOA (cs' := (.str ([] : List UInt8) :: (.bool false :: (.nils :: ((arC (cI .i8) 0 (Ar.rep 16 0)) ++ ((.nils :: []) : List AV)))))) h146 o143 rfl rfl (ble rfl) rfl) (resT h147 res0)) rfl
 refine cT h19 (congrArg Bool.not hb20) (sq (Rg (kx (bldT zero34 rfl (fill0 rfl)) (kw (stOK h18 rfl o4 rfl rfl ⟨rfl, ble rfl⟩ rfl rfl) fun M148 hM149 => ?_))))
 have o150 : M148[([] : Mem).length]? = some (.live ⟨.box, 34, 20, [(.str ([] : List UInt8) :: (.bool false :: (.nils :: ((arC (cI .i8) 0 (Ar.rep 16 0)) ++ ((.nils :: []) : List AV)))))]⟩) := set_same hM149 o4
 refine kx (mvO rfl) (Rn (hA h18 (hV (.int .i64 1) rfl hZ)) fun e151 h153 h154 => sN (xx (bR (sR ?_))))
 clear h15 h16 h17 h18 h19
 obtain rfl := si h
 exact eR (resC (ag := true) (sz := 20) ⟨by kernel_rfl, by kernel_rfl, by kernel_rfl⟩ (ldOA (cs' := (.str ([] : List UInt8) :: (.bool false :: (.nils :: ((arC (cI .i8) 0 (Ar.rep 16 0)) ++ ((.nils :: []) : List AV)))))) h153 o150 rfl rfl (ble rfl) rfl) (resT h154 res0)) rfl
/-! ### loop.example/g01263/laws.markNotchS (f86) -/
abbrev laws_markNotchS_l_b1_S := Int × Int × (List Notch)
abbrev laws_markNotchS_l_b1_R := Int × (List Notch)
def laws_markNotchS_l_b1_RS (a1 : List Notch) (j1 : Nat) (M0 : Mem) (s : laws_markNotchS_l_b1_S) (e : Env) (M : Mem) : Prop := eget e 0 = .lsl j1 s.2.2.length 0 s.2.2.length ∧ eget e 1 = .int .i64 s.1 ∧ eget e 5 = .int .i64 s.2.1 ∧ M[j1]? = some (.live ⟨.grow, 107, 2, s.2.2.map Notch.c⟩) ∧ Fr [j1] M0 M ∧ s.2.2.length = a1.length
def laws_markNotchS_l_b1_RR (a1 : List Notch) (j1 : Nat) (M0 : Mem) (g : laws_markNotchS_l_b1_R) (x : Ex) (e : Env) (M : Mem) : Prop := x = .ext 0 ∧ eget e 1 = .int .i64 g.1 ∧ M[j1]? = some (.live ⟨.grow, 107, 2, g.2.map Notch.c⟩) ∧ Fr [j1] M0 M ∧ g.2.length = a1.length
noncomputable def laws_markNotchS_l_b1 : laws_markNotchS_l_b1_S → Option (laws_markNotchS_l_b1_S ⊕ laws_markNotchS_l_b1_R) := fun (s1_1, s1_2, s1_3) =>
 if (decide (s1_2 < (s1_3.length : Int))) = true then
  (rd s1_3 s1_2).bind fun x38 =>
  (rd (s1_3.set s1_2.toNat (Notch.mk (IntKind.i8.wrap s1_1) x38.At)) s1_2).bind fun x55 =>
  some (.inl ((IntKind.i64.wrap ((IntKind.i64.wrap (s1_1 + 1)) + 1)), (IntKind.i64.wrap (s1_2 + 1)), ((s1_3.set s1_2.toNat (Notch.mk (IntKind.i8.wrap s1_1) x38.At)).set s1_2.toNat (Notch.mk x55.Kind (IntKind.i16.wrap (IntKind.i64.wrap (s1_1 + 1)))))))
 else
  some (.inr (s1_1, s1_3))
theorem laws_markNotchS_l_b1_ok (a1 : List Notch) (j1 : Nat) (M0 : Mem) (s : laws_markNotchS_l_b1_S) (r : laws_markNotchS_l_b1_S ⊕ laws_markNotchS_l_b1_R) (h : laws_markNotchS_l_b1 s = some r) (e : Env) (M : Mem) (hs : laws_markNotchS_l_b1_RS a1 j1 M0 s e M) : Ev (fun k => (f86_l2 (CN k) k (prune [0, 1, 5] e) M).bind fun q => some q) (bQ (laws_markNotchS_l_b1_RS a1 j1 M0) (laws_markNotchS_l_b1_RR a1 j1 M0) r) := by
 obtain ⟨s1_1, s1_2, s1_3⟩ := s
 unfold laws_markNotchS_l_b1 at h
 obtain ⟨h22, h24, h26, o28, fr29, hl30⟩ := hs
 generalize he21 : prune [0, 1, 5] e = e20
 have h23 := envp he21.symm rfl h22
 have h25 := envp he21.symm rfl h24
 have h27 := envp he21.symm rfl h26
 refine sq (sq (Rg (kx (mvO h27) (kx (mvO h23) (kx (lnL Tryd.underlying26 rfl o28 (by simp [hl30])) (kx (bLss rfl rfl) (Rn (hV (.lsl j1 s1_3.length 0 s1_3.length) h23 (hV (.int .i64 s1_1) h25 (hV (.int .i64 s1_2) h27 (hN rfl hZ)))) fun e31 h33 h34 h35 h36 => sN ?_)))))))
 clear h23 h25 h27
 rcases ite_some h with ⟨hb37, h⟩ | ⟨hb37, h⟩
 ·obtain ⟨x38, hx39, h⟩ := bind_some h
  refine cT h36 hb37 (xx (sN (sq (bl (sq (Rg (kx (mvO h33) (kx (mvO h35) (kx (mvO h34) (kx (cvI rfl) (kx (ixO rfl o28 rfl rfl (rd_get hx39).1 (rd_lt hx39).2) (kx (faO rfl o28 (by simp [hl30])) (kw (stR (u := x38) (u' := (Notch.mk (IntKind.i8.wrap s1_1) x38.At)) rfl rfl o28 rfl (rz2 hx39) ⟨rfl, ble rfl⟩ rfl rfl) fun M40 hM41 => ?_)))))))))))))
  rw [Nat.zero_add] at hM41
  have o42 : M40[j1]? = some (.live ⟨.grow, 107, 2, (s1_3.set s1_2.toNat (Notch.mk (IntKind.i8.wrap s1_1) x38.At)).map Notch.c⟩) := set_same hM41 o28
  have fr43 := Fr.setIn fr29 hM41 (by simp)
  have hx44 := rd_set (u' := (Notch.mk (IntKind.i8.wrap s1_1) x38.At)) hx39
  obtain ⟨x55, hx56, h⟩ := bind_some h
  refine Rn (hA h33 (hA h34 (hA h35 hZ))) fun e45 h47 h48 h49 => sN (sq (Rg (kx (mvO h48) (kx (bAdd rfl rfl) (kx (mvO rfl) (Rn (hA h47 (hN rfl (hA h49 hZ))) fun e50 h52 h53 h54 => sN (sq (Rg (kx (mvO (lslL (L' := (s1_3.set s1_2.toNat (Notch.mk (IntKind.i8.wrap s1_1) x38.At)).length) h52 (by simp [hl30]))) (kx (mvO h54) (kx (mvO h53) (kx (cvI rfl) (kx (ixO rfl o42 rfl rfl (rd_get hx56).1 (rd_lt hx56).2) (kx (faO rfl o42 (by simp [hl30])) (kw (stR (u := x55) (u' := (Notch.mk x55.Kind (IntKind.i16.wrap (IntKind.i64.wrap (s1_1 + 1))))) rfl rfl o42 rfl (rz2 hx56) ⟨rfl, ble rfl⟩ rfl rfl) fun M57 hM58 => ?_)))))))))))))))
  clear h33 h34 h35 h36 h47 h49
  rw [Nat.zero_add] at hM58
  have o59 : M57[j1]? = some (.live ⟨.grow, 107, 2, ((s1_3.set s1_2.toNat (Notch.mk (IntKind.i8.wrap s1_1) x38.At)).set s1_2.toNat (Notch.mk x55.Kind (IntKind.i16.wrap (IntKind.i64.wrap (s1_1 + 1))))).map Notch.c⟩) := set_same hM58 o42
  have fr60 := Fr.setIn fr43 hM58 (by simp)
  have hx61 := rd_set (u' := (Notch.mk x55.Kind (IntKind.i16.wrap (IntKind.i64.wrap (s1_1 + 1))))) hx56
  refine Rn (hA h52 (hA h53 (hA h54 hZ))) fun e62 h64 h65 h66 => sN (Rg (kx (mvO h65) (kx (bAdd rfl rfl) (kx (mvO rfl) (Rn (hA h64 (hN rfl (hA h66 hZ))) fun e67 h69 h70 h71 => bN (sN (Rg (kx (mvO h71) (kx (bAdd rfl rfl) (kx (mvO rfl) (Rn (hA h69 (hA h70 (hN rfl hZ))) fun e72 h74 h75 h76 => ?_)))))))))))
  clear h52 h53 h54 h64 h66 h69 h70
  obtain rfl := si h
  exact qN ⟨(lslL (L' := ((s1_3.set s1_2.toNat (Notch.mk (IntKind.i8.wrap s1_1) x38.At)).set s1_2.toNat (Notch.mk x55.Kind (IntKind.i16.wrap (IntKind.i64.wrap (s1_1 + 1))))).length) h74 (by simp [hl30])), h75, h76, o59, fr60, (by first | rfl | simp [hl30])⟩
 refine cF h36 hb37 (xx (sE ?_))
 obtain rfl := si h
 exact qE ⟨rfl, h34, o28, fr29, (by first | rfl | simp [hl30])⟩
noncomputable def laws_markNotchS_l (a1 : List Notch) (a2 : Int) : Option (Int × (List Notch)) :=
 (Lw (laws_markNotchS_l_b1) (a2, 0, a1)).bind fun (y82, y83) =>
 some (y82, y83)
def laws_markNotchS_l_Q (a1 : List Notch) (a2 : Int) (j1 : Nat) (M0 : Mem) (r : Int × (List Notch)) (p : AV × Mem) : Prop := p.1 = .int .i64 r.1 ∧ p.2[j1]? = some (.live ⟨.grow, 107, 2, r.2.map Notch.c⟩) ∧ Fr [j1] M0 p.2 ∧ r.2.length = a1.length
theorem laws_markNotchS_l_ok (a1 : List Notch) (a2 : Int) (j1 : Nat) (M0 : Mem) (oP1 : M0[j1]? = some (.live ⟨.grow, 107, 2, a1.map Notch.c⟩)) (r : Int × (List Notch)) (h : laws_markNotchS_l a1 a2 = some r) : Ev (fun k => CN k 86 [.lsl j1 a1.length 0 a1.length, .int .i64 a2] M0) (laws_markNotchS_l_Q a1 a2 j1 M0 r) := by
 unfold laws_markNotchS_l at h
 have fr0 : Fr [j1] M0 M0 := Fr.refl
 obtain ⟨⟨y82, y83⟩, hr78, h⟩ := bind_some h
 refine Ev.enter (F := fun k => f86 (CN k) k) (fun k => callN_eq rfl Tryd.func86 rfl rfl rfl (by decide +kernel) (f86_eq _ _)) (sq (Rg (kx (mvO rfl) (Rn (hV (.lsl j1 a1.length 0 a1.length) rfl (hN rfl hZ)) fun e1 h3 h4 => sN (sq (sq (Rg (kx (mvO rfl) (Rn (hA h3 (hA h4 (hV (.int .i64 0) rfl hZ))) fun e5 h7 h8 h9 => sN (bl (Ev.loop (RS := laws_markNotchS_l_b1_RS a1 j1 M0) (RR := laws_markNotchS_l_b1_RR a1 j1 M0) (fun s r h e M hs => laws_markNotchS_l_b1_ok a1 j1 M0 s r h e M hs) hr78 ⟨h7, h8, h9, oP1, fr0, rfl⟩ fun x e80 M81 hq79 => ?_)))))))))))
 clear h3 h4
 obtain ⟨rfl, h84, o85, fr86, hl87⟩ := hq79
 refine bE (sN (sq (Rg (kx (mvO h84) (kx (mvO rfl) (Rn (hN rfl hZ) fun e88 h90 => sN (xx ?_)))))))
 clear h84
 obtain rfl := si h
 exact eR (resT h90 res0) ⟨rfl, o85, fr86, (by first | rfl | simp [hl87])⟩
/-! ### loop.example/g01263/laws.markHalf (f53) -/
noncomputable def laws_markHalf_l (a1 : Bool) (a2 : List Notch) (a3 : Ar 16 Int) (a4 : Int) : Option (Int × (List Notch)) :=
 (laws_markNotchS_l a2 a4).bind fun (r14, r15) =>
 some (r14, r15)
def laws_markHalf_l_Q (a1 : Bool) (a2 : List Notch) (a3 : Ar 16 Int) (a4 : Int) (j1 : Nat) (M0 : Mem) (r : Int × (List Notch)) (p : AV × Mem) : Prop := p.1 = .int .i64 r.1 ∧ p.2[j1]? = some (.live ⟨.grow, 107, 2, r.2.map Notch.c⟩) ∧ Fr [j1] M0 p.2 ∧ r.2.length = a2.length
theorem laws_markHalf_l_ok (a1 : Bool) (a2 : List Notch) (a3 : Ar 16 Int) (a4 : Int) (j1 : Nat) (M0 : Mem) (oP1 : M0[j1]? = some (.live ⟨.grow, 107, 2, a2.map Notch.c⟩)) (r : Int × (List Notch)) (h : laws_markHalf_l a1 a2 a3 a4 = some r) : Ev (fun k => CN k 53 [.agg (.bool a1 :: (.lsl j1 a2.length 0 a2.length :: ((arC (cI .i8) 0 a3) ++ ([] : List AV)))), .int .i64 a4] M0) (laws_markHalf_l_Q a1 a2 a3 a4 j1 M0 r) := by
 unfold laws_markHalf_l at h
 have fr0 : Fr [j1] M0 M0 := Fr.refl
 refine Ev.enter (F := fun k => f53 (CN k) k) (fun k => callN_eq rfl Tryd.func53 rfl rfl rfl (by decide +kernel) (f53_eq _ _)) (sq (Rg (ku (bxO rfl rfl ⟨rfl, (all1 rfl (all1 (okL oP1 (by simp)) (oaS (fun _ => rfl) all0))), by decide⟩) fun M2 hM3 => ?_)))
 have nf4 := Nf.mk fr0
 have fr5 := Fr.push fr0 hM3
 have o6 := push_old hM3 oP1
 have ne7 := ne_new oP1
 have o8 : M2[M0.length]? = some (.live ⟨.box, 31, 18, [(.bool a1 :: (.lsl j1 a2.length 0 a2.length :: ((arC (cI .i8) 0 a3) ++ ([] : List AV))))]⟩) := push_new hM3
 obtain ⟨⟨r14, r15⟩, hx13, h⟩ := bind_some h
 refine kx (mvO rfl) (Rn (hN rfl (hV (.loc M0.length 1 0 0) rfl hZ)) fun e9 h11 h12 => sN (sq (Rg (kx (faO h12 o8 rfl) (kx (ldO rfl o8 rfl rfl rfl) (kx (mvO h11) (Ev.nxw (Ev.callW rfl (cns rfl (cns rfl rfl)) (laws_markNotchS_l_ok a2 a4 j1 M2 o6 _ hx13)) fun v18 M16 hq17 => ?_)))))))
 obtain ⟨hv18, o19, fr20, hl21⟩ := hq17
 have hv18 : v18 = .int .i64 r14 := hv18
 subst hv18
 have o22 : M16[j1]? = some (.live ⟨.grow, 107, 2, r15.map Notch.c⟩) := o19
 have hl21 : r15.length = a2.length := hl21
 have o23 : M16[M0.length]? = some (.live ⟨.box, 31, 18, [(.bool a1 :: (.lsl j1 a2.length 0 a2.length :: ((arC (cI .i8) 0 a3) ++ ([] : List AV))))]⟩) := fr20 _ _ (niC (Ne.symm ne7) niN) o8
 have fr24 : Fr [j1] M0 M16 := Fr.call fr5 fr20 (fwI (by simp) fwN)
 refine kx (mvO rfl) (Rn (hN rfl hZ) fun e25 h27 => sN (sq (Rg (kx (mvO h27) (kx (mvO rfl) (Rn (hN rfl hZ) fun e28 h30 => sN (xx ?_)))))))
 clear h12 h27
 obtain rfl := si h
 exact eR (resT h30 res0) ⟨rfl, o22, fr24, (by first | rfl | simp [hl21])⟩
/-! ### loop.example/g01263/laws.markMarkS (f54) -/
abbrev laws_markMarkS_l_b1_S := Int × Int × (List Mark)
abbrev laws_markMarkS_l_b1_R := Int × (List Mark)
def laws_markMarkS_l_b1_RS (a1 : List Mark) (j1 : Nat) (M0 : Mem) (s : laws_markMarkS_l_b1_S) (e : Env) (M : Mem) : Prop := eget e 0 = .lsl j1 s.2.2.length 0 s.2.2.length ∧ eget e 1 = .int .i64 s.1 ∧ eget e 5 = .int .i64 s.2.1 ∧ M[j1]? = some (.live ⟨.grow, 39, 2, s.2.2.map Mark.c⟩) ∧ Fr [j1] M0 M ∧ s.2.2.length = a1.length
def laws_markMarkS_l_b1_RR (a1 : List Mark) (j1 : Nat) (M0 : Mem) (g : laws_markMarkS_l_b1_R) (x : Ex) (e : Env) (M : Mem) : Prop := x = .ext 0 ∧ eget e 1 = .int .i64 g.1 ∧ M[j1]? = some (.live ⟨.grow, 39, 2, g.2.map Mark.c⟩) ∧ Fr [j1] M0 M ∧ g.2.length = a1.length
noncomputable def laws_markMarkS_l_b1 : laws_markMarkS_l_b1_S → Option (laws_markMarkS_l_b1_S ⊕ laws_markMarkS_l_b1_R) := fun (s1_1, s1_2, s1_3) =>
 if (decide (s1_2 < (s1_3.length : Int))) = true then
  (laws_markText s1_1).bind fun r39 =>
  (rd s1_3 s1_2).bind fun x40 =>
  (rd (s1_3.set s1_2.toNat (Mark.mk r39 x40.Seal)) s1_2).bind fun x57 =>
  some (.inl ((IntKind.i64.wrap ((IntKind.i64.wrap (s1_1 + 1)) + 1)), (IntKind.i64.wrap (s1_2 + 1)), ((s1_3.set s1_2.toNat (Mark.mk r39 x40.Seal)).set s1_2.toNat (Mark.mk x57.Holder (IntKind.u32.wrap (IntKind.i64.wrap (s1_1 + 1)))))))
 else
  some (.inr (s1_1, s1_3))
theorem laws_markMarkS_l_b1_ok (a1 : List Mark) (j1 : Nat) (M0 : Mem) (s : laws_markMarkS_l_b1_S) (r : laws_markMarkS_l_b1_S ⊕ laws_markMarkS_l_b1_R) (h : laws_markMarkS_l_b1 s = some r) (e : Env) (M : Mem) (hs : laws_markMarkS_l_b1_RS a1 j1 M0 s e M) : Ev (fun k => (f54_l2 (CN k) k (prune [0, 1, 5] e) M).bind fun q => some q) (bQ (laws_markMarkS_l_b1_RS a1 j1 M0) (laws_markMarkS_l_b1_RR a1 j1 M0) r) := by
 obtain ⟨s1_1, s1_2, s1_3⟩ := s
 unfold laws_markMarkS_l_b1 at h
 obtain ⟨h22, h24, h26, o28, fr29, hl30⟩ := hs
 generalize he21 : prune [0, 1, 5] e = e20
 have h23 := envp he21.symm rfl h22
 have h25 := envp he21.symm rfl h24
 have h27 := envp he21.symm rfl h26
 refine sq (sq (Rg (kx (mvO h27) (kx (mvO h23) (kx (lnL Tryd.underlying32 rfl o28 (by simp [hl30])) (kx (bLss rfl rfl) (Rn (hV (.lsl j1 s1_3.length 0 s1_3.length) h23 (hV (.int .i64 s1_1) h25 (hV (.int .i64 s1_2) h27 (hN rfl hZ)))) fun e31 h33 h34 h35 h36 => sN ?_)))))))
 clear h23 h25 h27
 rcases ite_some h with ⟨hb37, h⟩ | ⟨hb37, h⟩
 ·obtain ⟨r39, hx38, h⟩ := bind_some h
  obtain ⟨x40, hx41, h⟩ := bind_some h
  refine cT h36 hb37 (xx (sN (sq (bl (sq (Rg (kx (mvO h33) (kx (mvO h35) (kx (mvO h34) (kc (cl (v := .str r39) rfl (cns rfl rfl) rfl (laws_markText_ok s1_1 _ hx38) nm) (kx (ixO rfl o28 rfl rfl (rd_get hx41).1 (rd_lt hx41).2) (kx (faO rfl o28 (by simp [hl30])) (kw (stR (u := x40) (u' := (Mark.mk r39 x40.Seal)) rfl rfl o28 rfl (rz2 hx41) ⟨rfl, ble rfl⟩ rfl rfl) fun M42 hM43 => ?_)))))))))))))
  rw [Nat.zero_add] at hM43
  have o44 : M42[j1]? = some (.live ⟨.grow, 39, 2, (s1_3.set s1_2.toNat (Mark.mk r39 x40.Seal)).map Mark.c⟩) := set_same hM43 o28
  have fr45 := Fr.setIn fr29 hM43 (by simp)
  have hx46 := rd_set (u' := (Mark.mk r39 x40.Seal)) hx41
  obtain ⟨x57, hx58, h⟩ := bind_some h
  refine Rn (hA h33 (hA h34 (hA h35 hZ))) fun e47 h49 h50 h51 => sN (sq (Rg (kx (mvO h50) (kx (bAdd rfl rfl) (kx (mvO rfl) (Rn (hA h49 (hN rfl (hA h51 hZ))) fun e52 h54 h55 h56 => sN (sq (Rg (kx (mvO (lslL (L' := (s1_3.set s1_2.toNat (Mark.mk r39 x40.Seal)).length) h54 (by simp [hl30]))) (kx (mvO h56) (kx (mvO h55) (kx (cvI rfl) (kx (ixO rfl o44 rfl rfl (rd_get hx58).1 (rd_lt hx58).2) (kx (faO rfl o44 (by simp [hl30])) (kw (stR (u := x57) (u' := (Mark.mk x57.Holder (IntKind.u32.wrap (IntKind.i64.wrap (s1_1 + 1))))) rfl rfl o44 rfl (rz2 hx58) ⟨rfl, ble rfl⟩ rfl rfl) fun M59 hM60 => ?_)))))))))))))))
  clear h33 h34 h35 h36 h49 h51
  rw [Nat.zero_add] at hM60
  have o61 : M59[j1]? = some (.live ⟨.grow, 39, 2, ((s1_3.set s1_2.toNat (Mark.mk r39 x40.Seal)).set s1_2.toNat (Mark.mk x57.Holder (IntKind.u32.wrap (IntKind.i64.wrap (s1_1 + 1))))).map Mark.c⟩) := set_same hM60 o44
  have fr62 := Fr.setIn fr45 hM60 (by simp)
  have hx63 := rd_set (u' := (Mark.mk x57.Holder (IntKind.u32.wrap (IntKind.i64.wrap (s1_1 + 1))))) hx58
  refine Rn (hA h54 (hA h55 (hA h56 hZ))) fun e64 h66 h67 h68 => sN (Rg (kx (mvO h67) (kx (bAdd rfl rfl) (kx (mvO rfl) (Rn (hA h66 (hN rfl (hA h68 hZ))) fun e69 h71 h72 h73 => bN (sN (Rg (kx (mvO h73) (kx (bAdd rfl rfl) (kx (mvO rfl) (Rn (hA h71 (hA h72 (hN rfl hZ))) fun e74 h76 h77 h78 => ?_)))))))))))
  clear h54 h55 h56 h66 h68 h71 h72
  obtain rfl := si h
  exact qN ⟨(lslL (L' := ((s1_3.set s1_2.toNat (Mark.mk r39 x40.Seal)).set s1_2.toNat (Mark.mk x57.Holder (IntKind.u32.wrap (IntKind.i64.wrap (s1_1 + 1))))).length) h76 (by simp [hl30])), h77, h78, o61, fr62, (by first | rfl | simp [hl30])⟩
 refine cF h36 hb37 (xx (sE ?_))
 obtain rfl := si h
 exact qE ⟨rfl, h34, o28, fr29, (by first | rfl | simp [hl30])⟩
noncomputable def laws_markMarkS_l (a1 : List Mark) (a2 : Int) : Option (Int × (List Mark)) :=
 (Lw (laws_markMarkS_l_b1) (a2, 0, a1)).bind fun (y84, y85) =>
 some (y84, y85)
def laws_markMarkS_l_Q (a1 : List Mark) (a2 : Int) (j1 : Nat) (M0 : Mem) (r : Int × (List Mark)) (p : AV × Mem) : Prop := p.1 = .int .i64 r.1 ∧ p.2[j1]? = some (.live ⟨.grow, 39, 2, r.2.map Mark.c⟩) ∧ Fr [j1] M0 p.2 ∧ r.2.length = a1.length
theorem laws_markMarkS_l_ok (a1 : List Mark) (a2 : Int) (j1 : Nat) (M0 : Mem) (oP1 : M0[j1]? = some (.live ⟨.grow, 39, 2, a1.map Mark.c⟩)) (r : Int × (List Mark)) (h : laws_markMarkS_l a1 a2 = some r) : Ev (fun k => CN k 54 [.lsl j1 a1.length 0 a1.length, .int .i64 a2] M0) (laws_markMarkS_l_Q a1 a2 j1 M0 r) := by
 unfold laws_markMarkS_l at h
 have fr0 : Fr [j1] M0 M0 := Fr.refl
 obtain ⟨⟨y84, y85⟩, hr80, h⟩ := bind_some h
 refine Ev.enter (F := fun k => f54 (CN k) k) (fun k => callN_eq rfl Tryd.func54 rfl rfl rfl (by decide +kernel) (f54_eq _ _)) (sq (Rg (kx (mvO rfl) (Rn (hV (.lsl j1 a1.length 0 a1.length) rfl (hN rfl hZ)) fun e1 h3 h4 => sN (sq (sq (Rg (kx (mvO rfl) (Rn (hA h3 (hA h4 (hV (.int .i64 0) rfl hZ))) fun e5 h7 h8 h9 => sN (bl (Ev.loop (RS := laws_markMarkS_l_b1_RS a1 j1 M0) (RR := laws_markMarkS_l_b1_RR a1 j1 M0) (fun s r h e M hs => laws_markMarkS_l_b1_ok a1 j1 M0 s r h e M hs) hr80 ⟨h7, h8, h9, oP1, fr0, rfl⟩ fun x e82 M83 hq81 => ?_)))))))))))
 clear h3 h4
 obtain ⟨rfl, h86, o87, fr88, hl89⟩ := hq81
 refine bE (sN (sq (Rg (kx (mvO h86) (kx (mvO rfl) (Rn (hN rfl hZ) fun e90 h92 => sN (xx ?_)))))))
 clear h86
 obtain rfl := si h
 exact eR (resT h92 res0) ⟨rfl, o87, fr88, (by first | rfl | simp [hl89])⟩
/-! ### loop.example/g01263/laws.markChain (f22) -/
noncomputable def laws_markChain_ll (a1 : List UInt8) (a2 : Bool) (a3 : List Notch) (a4 : Ar 16 Int) (a5 : List Mark) (a6 : Int) : Option (Int × (List Notch) × (List Mark)) :=
 (laws_markHalf_l a2 a3 a4 a6).bind fun (r16, r17) =>
 (laws_markMarkS_l a5 r16).bind fun (r33, r34) =>
 some (r33, r17, r34)
def laws_markChain_ll_Q (a1 : List UInt8) (a2 : Bool) (a3 : List Notch) (a4 : Ar 16 Int) (a5 : List Mark) (a6 : Int) (j1 : Nat) (j2 : Nat) (M0 : Mem) (r : Int × (List Notch) × (List Mark)) (p : AV × Mem) : Prop := p.1 = .int .i64 r.1 ∧ p.2[j1]? = some (.live ⟨.grow, 107, 2, r.2.1.map Notch.c⟩) ∧ p.2[j2]? = some (.live ⟨.grow, 39, 2, r.2.2.map Mark.c⟩) ∧ Fr [j1, j2] M0 p.2 ∧ r.2.1.length = a3.length ∧ r.2.2.length = a5.length
theorem laws_markChain_ll_ok (a1 : List UInt8) (a2 : Bool) (a3 : List Notch) (a4 : Ar 16 Int) (a5 : List Mark) (a6 : Int) (j1 : Nat) (j2 : Nat) (ne01 : j1 ≠ j2) (M0 : Mem) (oP1 : M0[j1]? = some (.live ⟨.grow, 107, 2, a3.map Notch.c⟩)) (oP2 : M0[j2]? = some (.live ⟨.grow, 39, 2, a5.map Mark.c⟩)) (r : Int × (List Notch) × (List Mark)) (h : laws_markChain_ll a1 a2 a3 a4 a5 a6 = some r) : Ev (fun k => CN k 22 [.agg (.str a1 :: (.bool a2 :: (.lsl j1 a3.length 0 a3.length :: ((arC (cI .i8) 0 a4) ++ ((.lsl j2 a5.length 0 a5.length :: []) : List AV))))), .int .i64 a6] M0) (laws_markChain_ll_Q a1 a2 a3 a4 a5 a6 j1 j2 M0 r) := by
 unfold laws_markChain_ll at h
 have fr0 : Fr [j1, j2] M0 M0 := Fr.refl
 refine Ev.enter (F := fun k => f22 (CN k) k) (fun k => callN_eq rfl Tryd.func22 rfl rfl rfl (by decide +kernel) (f22_eq _ _)) (sq (Rg (ku (bxO rfl rfl ⟨rfl, (all1 rfl (all1 rfl (all1 (okL oP1 (by simp)) (oaS (fun _ => rfl) (all1 (okL oP2 (by simp)) all0))))), by decide⟩) fun M2 hM3 => ?_)))
 have nf4 := Nf.mk fr0
 have fr5 := Fr.push fr0 hM3
 have o6 := push_old hM3 oP1
 have ne7 := ne_new oP1
 have o8 := push_old hM3 oP2
 have ne9 := ne_new oP2
 have o10 : M2[M0.length]? = some (.live ⟨.box, 34, 20, [(.str a1 :: (.bool a2 :: (.lsl j1 a3.length 0 a3.length :: ((arC (cI .i8) 0 a4) ++ ((.lsl j2 a5.length 0 a5.length :: []) : List AV)))))]⟩) := push_new hM3
 obtain ⟨⟨r16, r17⟩, hx15, h⟩ := bind_some h
 refine kx (mvO rfl) (Rn (hN rfl (hV (.loc M0.length 1 0 0) rfl hZ)) fun e11 h13 h14 => sN (sq (Rg (kx (faO h14 o10 rfl) (kx (ldOA (cs' := (.bool a2 :: (.lsl j1 a3.length 0 a3.length :: ((arC (cI .i8) 0 a4) ++ ([] : List AV))))) rfl o10 rfl rfl (ble rfl) rfl) (kx (mvO h13) (Ev.nxw (Ev.callW rfl (cns rfl (cns rfl rfl)) (laws_markHalf_l_ok a2 a3 a4 a6 j1 M2 o6 _ hx15)) fun v20 M18 hq19 => ?_)))))))
 obtain ⟨hv20, o21, fr22, hl23⟩ := hq19
 have hv20 : v20 = .int .i64 r16 := hv20
 subst hv20
 have o24 : M18[j1]? = some (.live ⟨.grow, 107, 2, r17.map Notch.c⟩) := o21
 have hl23 : r17.length = a3.length := hl23
 have o25 : M18[j2]? = some (.live ⟨.grow, 39, 2, a5.map Mark.c⟩) := fr22 _ _ (niC (Ne.symm ne01) niN) o8
 have o26 : M18[M0.length]? = some (.live ⟨.box, 34, 20, [(.str a1 :: (.bool a2 :: (.lsl j1 a3.length 0 a3.length :: ((arC (cI .i8) 0 a4) ++ ((.lsl j2 a5.length 0 a5.length :: []) : List AV)))))]⟩) := fr22 _ _ (niC (Ne.symm ne7) niN) o10
 have fr27 : Fr [j1, j2] M0 M18 := Fr.call fr5 fr22 (fwI (by simp) fwN)
 obtain ⟨⟨r33, r34⟩, hx32, h⟩ := bind_some h
 refine kx (mvO rfl) (Rn (hN rfl (hA h14 hZ)) fun e28 h30 h31 => sN (sq (Rg (kx (faO h31 o26 rfl) (kx (ldO rfl o26 rfl rfl rfl) (kx (mvO h30) (Ev.nxw (Ev.callW rfl (cns rfl (cns rfl rfl)) (laws_markMarkS_l_ok a5 r16 j2 M18 o25 _ hx32)) fun v37 M35 hq36 => ?_)))))))
 clear h14
 obtain ⟨hv37, o38, fr39, hl40⟩ := hq36
 have hv37 : v37 = .int .i64 r33 := hv37
 subst hv37
 have o41 : M35[j2]? = some (.live ⟨.grow, 39, 2, r34.map Mark.c⟩) := o38
 have hl40 : r34.length = a5.length := hl40
 have o42 : M35[j1]? = some (.live ⟨.grow, 107, 2, r17.map Notch.c⟩) := fr39 _ _ (niC ne01 niN) o24
 have o43 : M35[M0.length]? = some (.live ⟨.box, 34, 20, [(.str a1 :: (.bool a2 :: (.lsl j1 a3.length 0 a3.length :: ((arC (cI .i8) 0 a4) ++ ((.lsl j2 a5.length 0 a5.length :: []) : List AV)))))]⟩) := fr39 _ _ (niC (Ne.symm ne9) niN) o26
 have fr44 : Fr [j1, j2] M0 M35 := Fr.call fr27 fr39 (fwI (by simp) fwN)
 refine kx (mvO rfl) (Rn (hN rfl hZ) fun e45 h47 => sN (sq (Rg (kx (mvO h47) (kx (mvO rfl) (Rn (hN rfl hZ) fun e48 h50 => sN (xx ?_)))))))
 clear h31 h47
 obtain rfl := si h
 exact eR (resT h50 res0) ⟨rfl, o42, o41, fr44, (by first | rfl | simp [hl23, hl40]), (by first | rfl | simp [hl23, hl40])⟩
/-! ### loop.example/g01263/laws.markNotchS (f86) -/
abbrev laws_markNotchS_n_b1_S := Int × Int
abbrev laws_markNotchS_n_b1_R := Int
def laws_markNotchS_n_b1_RS (M0 : Mem) (s : laws_markNotchS_n_b1_S) (e : Env) (M : Mem) : Prop := eget e 0 = .nils ∧ eget e 1 = .int .i64 s.1 ∧ eget e 5 = .int .i64 s.2 ∧ Fr [] M0 M
def laws_markNotchS_n_b1_RR (M0 : Mem) (g : laws_markNotchS_n_b1_R) (x : Ex) (e : Env) (M : Mem) : Prop := x = .ext 0 ∧ eget e 1 = .int .i64 g ∧ Fr [] M0 M
noncomputable def laws_markNotchS_n_b1 : laws_markNotchS_n_b1_S → Option (laws_markNotchS_n_b1_S ⊕ laws_markNotchS_n_b1_R) := fun (s1_1, s1_2) =>
 if (decide (s1_2 < 0)) = true then
  none
 else
  some (.inr s1_1)
theorem laws_markNotchS_n_b1_ok (M0 : Mem) (s : laws_markNotchS_n_b1_S) (r : laws_markNotchS_n_b1_S ⊕ laws_markNotchS_n_b1_R) (h : laws_markNotchS_n_b1 s = some r) (e : Env) (M : Mem) (hs : laws_markNotchS_n_b1_RS M0 s e M) : Ev (fun k => (f86_l2 (CN k) k (prune [0, 1, 5] e) M).bind fun q => some q) (bQ (laws_markNotchS_n_b1_RS M0) (laws_markNotchS_n_b1_RR M0) r) := by
 obtain ⟨s1_1, s1_2⟩ := s
 unfold laws_markNotchS_n_b1 at h
 obtain ⟨h21, h23, h25, fr27⟩ := hs
 generalize he20 : prune [0, 1, 5] e = e19
 have h22 := envp he20.symm rfl h21
 have h24 := envp he20.symm rfl h23
 have h26 := envp he20.symm rfl h25
 refine sq (sq (Rg (kx (mvO h26) (kx (mvO h22) (kx (lnN Tryd.underlying26 rfl) (kx (bLss rfl rfl) (Rn (hV .nils h22 (hV (.int .i64 s1_1) h24 (hV (.int .i64 s1_2) h26 (hN rfl hZ)))) fun e28 h30 h31 h32 h33 => sN ?_)))))))
 clear h22 h24 h26
 rcases ite_some h with ⟨hb34, h⟩ | ⟨hb34, h⟩
 ·refine cT h33 hb34 (xx (sN (sq (bl (sq (Rg (kx (mvO h30) (kx (mvO h32) (kx (mvO h31) (kx (cvI rfl) ?_))))))))))
  cases h
 refine cF h33 hb34 (xx (sE ?_))
 obtain rfl := si h
 exact qE ⟨rfl, h31, fr27⟩
noncomputable def laws_markNotchS_n (a1 : Int) : Option Int :=
 (Lw (laws_markNotchS_n_b1) (a1, 0)).bind fun y40 =>
 some y40
def laws_markNotchS_n_Q (a1 : Int) (M0 : Mem) (r : Int) (p : AV × Mem) : Prop := p.1 = .int .i64 r ∧ Fr [] M0 p.2
theorem laws_markNotchS_n_ok (a1 : Int) (M0 : Mem) (r : Int) (h : laws_markNotchS_n a1 = some r) : Ev (fun k => CN k 86 [.nils, .int .i64 a1] M0) (laws_markNotchS_n_Q a1 M0 r) := by
 unfold laws_markNotchS_n at h
 have fr0 : Fr [] M0 M0 := Fr.refl
 obtain ⟨y40, hr36, h⟩ := bind_some h
 refine Ev.enter (F := fun k => f86 (CN k) k) (fun k => callN_eq rfl Tryd.func86 rfl rfl rfl (by decide +kernel) (f86_eq _ _)) (sq (Rg (kx (mvO rfl) (Rn (hV .nils rfl (hN rfl hZ)) fun e1 h3 h4 => sN (sq (sq (Rg (kx (mvO rfl) (Rn (hA h3 (hA h4 (hV (.int .i64 0) rfl hZ))) fun e5 h7 h8 h9 => sN (bl (Ev.loop (RS := laws_markNotchS_n_b1_RS M0) (RR := laws_markNotchS_n_b1_RR M0) (fun s r h e M hs => laws_markNotchS_n_b1_ok M0 s r h e M hs) hr36 ⟨h7, h8, h9, fr0⟩ fun x e38 M39 hq37 => ?_)))))))))))
 clear h3 h4
 obtain ⟨rfl, h41, fr42⟩ := hq37
 refine bE (sN (sq (Rg (kx (mvO h41) (kx (mvO rfl) (Rn (hN rfl hZ) fun e43 h45 => sN (xx ?_)))))))
 clear h41
 obtain rfl := si h
 exact eR (resT h45 res0) ⟨rfl, fr42⟩
/-! ### loop.example/g01263/laws.markHalf (f53) -/
noncomputable def laws_markHalf_n (a1 : Bool) (a2 : Ar 16 Int) (a3 : Int) : Option Int :=
 (laws_markNotchS_n a3).bind fun r12 =>
 some r12
def laws_markHalf_n_Q (a1 : Bool) (a2 : Ar 16 Int) (a3 : Int) (M0 : Mem) (r : Int) (p : AV × Mem) : Prop := p.1 = .int .i64 r ∧ Fr [] M0 p.2
theorem laws_markHalf_n_ok (a1 : Bool) (a2 : Ar 16 Int) (a3 : Int) (M0 : Mem) (r : Int) (h : laws_markHalf_n a1 a2 a3 = some r) : Ev (fun k => CN k 53 [.agg (.bool a1 :: (.nils :: ((arC (cI .i8) 0 a2) ++ ([] : List AV)))), .int .i64 a3] M0) (laws_markHalf_n_Q a1 a2 a3 M0 r) := by
 unfold laws_markHalf_n at h
 have fr0 : Fr [] M0 M0 := Fr.refl
 refine Ev.enter (F := fun k => f53 (CN k) k) (fun k => callN_eq rfl Tryd.func53 rfl rfl rfl (by decide +kernel) (f53_eq _ _)) (sq (Rg (ku (bxO rfl rfl ⟨rfl, rfl, by decide⟩) fun M2 hM3 => ?_)))
 have nf4 := Nf.mk fr0
 have fr5 := Fr.push fr0 hM3
 have o6 : M2[M0.length]? = some (.live ⟨.box, 31, 18, [(.bool a1 :: (.nils :: ((arC (cI .i8) 0 a2) ++ ([] : List AV))))]⟩) := push_new hM3
 obtain ⟨r12, hx11, h⟩ := bind_some h
 refine kx (mvO rfl) (Rn (hN rfl (hV (.loc M0.length 1 0 0) rfl hZ)) fun e7 h9 h10 => sN (sq (Rg (kx (faO h10 o6 rfl) (kx (ldO rfl o6 rfl rfl rfl) (kx (mvO h9) (Ev.nxw (Ev.callW rfl (cns rfl (cns rfl rfl)) (laws_markNotchS_n_ok a3 M2 _ hx11)) fun v15 M13 hq14 => ?_)))))))
 obtain ⟨hv15, fr16⟩ := hq14
 have hv15 : v15 = .int .i64 r12 := hv15
 subst hv15
 have o17 : M13[M0.length]? = some (.live ⟨.box, 31, 18, [(.bool a1 :: (.nils :: ((arC (cI .i8) 0 a2) ++ ([] : List AV))))]⟩) := fr16 _ _ niN o6
 have fr18 : Fr [] M0 M13 := Fr.call fr5 fr16 fwN
 refine kx (mvO rfl) (Rn (hN rfl hZ) fun e19 h21 => sN (sq (Rg (kx (mvO h21) (kx (mvO rfl) (Rn (hN rfl hZ) fun e22 h24 => sN (xx ?_)))))))
 clear h10 h21
 obtain rfl := si h
 exact eR (resT h24 res0) ⟨rfl, fr18⟩
/-! ### loop.example/g01263/laws.markMarkS (f54) -/
abbrev laws_markMarkS_n_b1_S := Int × Int
abbrev laws_markMarkS_n_b1_R := Int
def laws_markMarkS_n_b1_RS (M0 : Mem) (s : laws_markMarkS_n_b1_S) (e : Env) (M : Mem) : Prop := eget e 0 = .nils ∧ eget e 1 = .int .i64 s.1 ∧ eget e 5 = .int .i64 s.2 ∧ Fr [] M0 M
def laws_markMarkS_n_b1_RR (M0 : Mem) (g : laws_markMarkS_n_b1_R) (x : Ex) (e : Env) (M : Mem) : Prop := x = .ext 0 ∧ eget e 1 = .int .i64 g ∧ Fr [] M0 M
noncomputable def laws_markMarkS_n_b1 : laws_markMarkS_n_b1_S → Option (laws_markMarkS_n_b1_S ⊕ laws_markMarkS_n_b1_R) := fun (s1_1, s1_2) =>
 if (decide (s1_2 < 0)) = true then
  (laws_markText s1_1).bind fun r36 =>
  none
 else
  some (.inr s1_1)
theorem laws_markMarkS_n_b1_ok (M0 : Mem) (s : laws_markMarkS_n_b1_S) (r : laws_markMarkS_n_b1_S ⊕ laws_markMarkS_n_b1_R) (h : laws_markMarkS_n_b1 s = some r) (e : Env) (M : Mem) (hs : laws_markMarkS_n_b1_RS M0 s e M) : Ev (fun k => (f54_l2 (CN k) k (prune [0, 1, 5] e) M).bind fun q => some q) (bQ (laws_markMarkS_n_b1_RS M0) (laws_markMarkS_n_b1_RR M0) r) := by
 obtain ⟨s1_1, s1_2⟩ := s
 unfold laws_markMarkS_n_b1 at h
 obtain ⟨h21, h23, h25, fr27⟩ := hs
 generalize he20 : prune [0, 1, 5] e = e19
 have h22 := envp he20.symm rfl h21
 have h24 := envp he20.symm rfl h23
 have h26 := envp he20.symm rfl h25
 refine sq (sq (Rg (kx (mvO h26) (kx (mvO h22) (kx (lnN Tryd.underlying32 rfl) (kx (bLss rfl rfl) (Rn (hV .nils h22 (hV (.int .i64 s1_1) h24 (hV (.int .i64 s1_2) h26 (hN rfl hZ)))) fun e28 h30 h31 h32 h33 => sN ?_)))))))
 clear h22 h24 h26
 rcases ite_some h with ⟨hb34, h⟩ | ⟨hb34, h⟩
 ·obtain ⟨r36, hx35, h⟩ := bind_some h
  refine cT h33 hb34 (xx (sN (sq (bl (sq (Rg (kx (mvO h30) (kx (mvO h32) (kx (mvO h31) (kc (cl (v := .str r36) rfl (cns rfl rfl) rfl (laws_markText_ok s1_1 _ hx35) nm) ?_))))))))))
  cases h
 refine cF h33 hb34 (xx (sE ?_))
 obtain rfl := si h
 exact qE ⟨rfl, h31, fr27⟩
noncomputable def laws_markMarkS_n (a1 : Int) : Option Int :=
 (Lw (laws_markMarkS_n_b1) (a1, 0)).bind fun y42 =>
 some y42
def laws_markMarkS_n_Q (a1 : Int) (M0 : Mem) (r : Int) (p : AV × Mem) : Prop := p.1 = .int .i64 r ∧ Fr [] M0 p.2
theorem laws_markMarkS_n_ok (a1 : Int) (M0 : Mem) (r : Int) (h : laws_markMarkS_n a1 = some r) : Ev (fun k => CN k 54 [.nils, .int .i64 a1] M0) (laws_markMarkS_n_Q a1 M0 r) := by
 unfold laws_markMarkS_n at h
 have fr0 : Fr [] M0 M0 := Fr.refl
 obtain ⟨y42, hr38, h⟩ := bind_some h
 refine Ev.enter (F := fun k => f54 (CN k) k) (fun k => callN_eq rfl Tryd.func54 rfl rfl rfl (by decide +kernel) (f54_eq _ _)) (sq (Rg (kx (mvO rfl) (Rn (hV .nils rfl (hN rfl hZ)) fun e1 h3 h4 => sN (sq (sq (Rg (kx (mvO rfl) (Rn (hA h3 (hA h4 (hV (.int .i64 0) rfl hZ))) fun e5 h7 h8 h9 => sN (bl (Ev.loop (RS := laws_markMarkS_n_b1_RS M0) (RR := laws_markMarkS_n_b1_RR M0) (fun s r h e M hs => laws_markMarkS_n_b1_ok M0 s r h e M hs) hr38 ⟨h7, h8, h9, fr0⟩ fun x e40 M41 hq39 => ?_)))))))))))
 clear h3 h4
 obtain ⟨rfl, h43, fr44⟩ := hq39
 refine bE (sN (sq (Rg (kx (mvO h43) (kx (mvO rfl) (Rn (hN rfl hZ) fun e45 h47 => sN (xx ?_)))))))
 clear h43
 obtain rfl := si h
 exact eR (resT h47 res0) ⟨rfl, fr44⟩
/-! ### loop.example/g01263/laws.markChain (f22) -/
noncomputable def laws_markChain_nn (a1 : List UInt8) (a2 : Bool) (a3 : Ar 16 Int) (a4 : Int) : Option Int :=
 (laws_markHalf_n a2 a3 a4).bind fun r12 =>
 (laws_markMarkS_n r12).bind fun r24 =>
 some r24
def laws_markChain_nn_Q (a1 : List UInt8) (a2 : Bool) (a3 : Ar 16 Int) (a4 : Int) (M0 : Mem) (r : Int) (p : AV × Mem) : Prop := p.1 = .int .i64 r ∧ Fr [] M0 p.2
theorem laws_markChain_nn_ok (a1 : List UInt8) (a2 : Bool) (a3 : Ar 16 Int) (a4 : Int) (M0 : Mem) (r : Int) (h : laws_markChain_nn a1 a2 a3 a4 = some r) : Ev (fun k => CN k 22 [.agg (.str a1 :: (.bool a2 :: (.nils :: ((arC (cI .i8) 0 a3) ++ ((.nils :: []) : List AV))))), .int .i64 a4] M0) (laws_markChain_nn_Q a1 a2 a3 a4 M0 r) := by
 unfold laws_markChain_nn at h
 have fr0 : Fr [] M0 M0 := Fr.refl
 refine Ev.enter (F := fun k => f22 (CN k) k) (fun k => callN_eq rfl Tryd.func22 rfl rfl rfl (by decide +kernel) (f22_eq _ _)) (sq (Rg (ku (bxO rfl rfl ⟨rfl, rfl, by decide⟩) fun M2 hM3 => ?_)))
 have nf4 := Nf.mk fr0
 have fr5 := Fr.push fr0 hM3
 have o6 : M2[M0.length]? = some (.live ⟨.box, 34, 20, [(.str a1 :: (.bool a2 :: (.nils :: ((arC (cI .i8) 0 a3) ++ ((.nils :: []) : List AV)))))]⟩) := push_new hM3
 obtain ⟨r12, hx11, h⟩ := bind_some h
 refine kx (mvO rfl) (Rn (hN rfl (hV (.loc M0.length 1 0 0) rfl hZ)) fun e7 h9 h10 => sN (sq (Rg (kx (faO h10 o6 rfl) (kx (ldOA (cs' := (.bool a2 :: (.nils :: ((arC (cI .i8) 0 a3) ++ ([] : List AV))))) rfl o6 rfl rfl (ble rfl) rfl) (kx (mvO h9) (Ev.nxw (Ev.callW rfl (cns rfl (cns rfl rfl)) (laws_markHalf_n_ok a2 a3 a4 M2 _ hx11)) fun v15 M13 hq14 => ?_)))))))
 obtain ⟨hv15, fr16⟩ := hq14
 have hv15 : v15 = .int .i64 r12 := hv15
 subst hv15
 have o17 : M13[M0.length]? = some (.live ⟨.box, 34, 20, [(.str a1 :: (.bool a2 :: (.nils :: ((arC (cI .i8) 0 a3) ++ ((.nils :: []) : List AV)))))]⟩) := fr16 _ _ niN o6
 have fr18 : Fr [] M0 M13 := Fr.call fr5 fr16 fwN
 obtain ⟨r24, hx23, h⟩ := bind_some h
 refine kx (mvO rfl) (Rn (hN rfl (hA h10 hZ)) fun e19 h21 h22 => sN (sq (Rg (kx (faO h22 o17 rfl) (kx (ldO rfl o17 rfl rfl rfl) (kx (mvO h21) (Ev.nxw (Ev.callW rfl (cns rfl (cns rfl rfl)) (laws_markMarkS_n_ok r12 M13 _ hx23)) fun v27 M25 hq26 => ?_)))))))
 clear h10
 obtain ⟨hv27, fr28⟩ := hq26
 have hv27 : v27 = .int .i64 r24 := hv27
 subst hv27
 have o29 : M25[M0.length]? = some (.live ⟨.box, 34, 20, [(.str a1 :: (.bool a2 :: (.nils :: ((arC (cI .i8) 0 a3) ++ ((.nils :: []) : List AV)))))]⟩) := fr28 _ _ niN o17
 have fr30 : Fr [] M0 M25 := Fr.call fr18 fr28 fwN
 refine kx (mvO rfl) (Rn (hN rfl hZ) fun e31 h33 => sN (sq (Rg (kx (mvO h33) (kx (mvO rfl) (Rn (hN rfl hZ) fun e34 h36 => sN (xx ?_)))))))
 clear h22 h33
 obtain rfl := si h
 exact eR (resT h36 res0) ⟨rfl, fr30⟩
end Go.Proofs.YtonpeobfmgdamabDoor

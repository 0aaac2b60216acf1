/- Printed by a program of ours (ext.py). -/
import Derived.Test.YthkbjnbbahmpkaaLnkDebtsInx0
set_option linter.unusedVariables false
set_option linter.unusedSimpArgs false
set_option maxRecDepth 100000
set_option maxHeartbeats 2000000
namespace Go.Proofs.Ythkbjnbbahmpkaa
open Go Go.Ab
/-! ### loop.example/g01263/laws.FnExactDebtsIn (f8) -/
def laws_FnExactDebtsIn_c1_Q (a1 : Book) (r27 : List Debt) (r28 : Int) (r35 : Int) (r36 : List Int) (r37 : List Tally) (r65 : Int) (i901_1 : Nat) (i901_2 : Nat) (i901_3 : Nat) (g : Bool) (q : Out) : Prop := q.1 = .nrm ∧ eget q.2.1 1 = .pt none [.int .i64 a1.Day, .sl none (a1.Cash.map (cI .i64)), .sl none (a1.Tallies.map Tally.c)] ∧ eget q.2.1 4 = .sl (some 94) (r27.map Debt.c) ∧ eget q.2.1 5 = .int .i64 r28 ∧ eget q.2.1 6 = .loc i901_3 1 0 0 ∧ eget q.2.1 7 = .nils ∧ eget q.2.1 8 = .int .i64 r65 ∧ eget q.2.1 40 = .bool g ∧ q.2.2[i901_1]? = some (.live ⟨.grow, 2, 1, r36.map (cI .i64)⟩) ∧ q.2.2[(i901_1 + 1)]? = some (.live ⟨.grow, 92, 5, r37.map Tally.c⟩) ∧ q.2.2[i901_3]? = some (.live ⟨.box, 59, 3, [[.int .i64 r35, .lsl i901_1 r36.length 0 r36.length, .lsl (i901_1 + 1) r37.length 0 r37.length]]⟩)
def laws_FnExactDebtsIn_c2_Q (a1 : Book) (r27 : List Debt) (r28 : Int) (g : Bool) (q : Out) : Prop := q.1 = .nrm ∧ eget q.2.1 1 = .pt none [.int .i64 a1.Day, .sl none (a1.Cash.map (cI .i64)), .sl none (a1.Tallies.map Tally.c)] ∧ eget q.2.1 4 = .sl (some 94) (r27.map Debt.c) ∧ eget q.2.1 5 = .int .i64 r28 ∧ eget q.2.1 7 = .nils ∧ eget q.2.1 61 = .bool g
def laws_FnExactDebtsIn_c3_Q (r210 : Int) (g : Bool) (q : Out) : Prop := q.1 = .nrm ∧ eget q.2.1 7 = .nils ∧ eget q.2.1 10 = .int .i64 r210 ∧ eget q.2.1 87 = .bool g
def laws_FnExactDebtsIn_c4_Q (r210 : Int) (g : Bool) (q : Out) : Prop := q.1 = .nrm ∧ eget q.2.1 7 = .nils ∧ eget q.2.1 10 = .int .i64 r210 ∧ eget q.2.1 87 = .bool g
def laws_FnExactDebtsIn_c5_Q (a1 : Book) (r27 : List Debt) (r28 : Int) (r35 : Int) (r36 : List Int) (r37 : List Tally) (r410 : List Debt) (i905_1 : Nat) (i905_2 : Nat) (i905_3 : Nat) (i905_4 : Nat) (g : Bool) (q : Out) : Prop := q.1 = .nrm ∧ eget q.2.1 1 = .pt none [.int .i64 a1.Day, .sl none (a1.Cash.map (cI .i64)), .sl none (a1.Tallies.map Tally.c)] ∧ eget q.2.1 4 = .sl (some 94) (r27.map Debt.c) ∧ eget q.2.1 5 = .int .i64 r28 ∧ eget q.2.1 6 = .loc i905_3 1 0 0 ∧ eget q.2.1 7 = .lsl i905_4 r410.length 0 r410.length ∧ eget q.2.1 8 = .int .i64 0 ∧ eget q.2.1 40 = .bool g ∧ q.2.2[i905_1]? = some (.live ⟨.grow, 2, 1, r36.map (cI .i64)⟩) ∧ q.2.2[(i905_1 + 1)]? = some (.live ⟨.grow, 92, 5, r37.map Tally.c⟩) ∧ q.2.2[i905_4]? = some (.live ⟨.grow, 94, 3, r410.map Debt.c⟩) ∧ q.2.2[i905_3]? = some (.live ⟨.box, 59, 3, [[.int .i64 r35, .lsl i905_1 r36.length 0 r36.length, .lsl (i905_1 + 1) r37.length 0 r37.length]]⟩)
def laws_FnExactDebtsIn_c6_Q (a1 : Book) (r27 : List Debt) (r28 : Int) (r410 : List Debt) (i906_1 : Nat) (g : Bool) (q : Out) : Prop := q.1 = .nrm ∧ eget q.2.1 1 = .pt none [.int .i64 a1.Day, .sl none (a1.Cash.map (cI .i64)), .sl none (a1.Tallies.map Tally.c)] ∧ eget q.2.1 4 = .sl (some 94) (r27.map Debt.c) ∧ eget q.2.1 5 = .int .i64 r28 ∧ eget q.2.1 7 = .lsl i906_1 r410.length 0 r410.length ∧ eget q.2.1 61 = .bool g ∧ q.2.2[i906_1]? = some (.live ⟨.grow, 94, 3, r410.map Debt.c⟩)
def laws_FnExactDebtsIn_c7_Q (r563 : Int) (r564 : List Debt) (i907_1 : Nat) (g : Bool) (q : Out) : Prop := q.1 = .nrm ∧ eget q.2.1 7 = .lsl i907_1 r564.length 0 r564.length ∧ eget q.2.1 10 = .int .i64 r563 ∧ eget q.2.1 87 = .bool g ∧ q.2.2[i907_1]? = some (.live ⟨.grow, 94, 3, r564.map Debt.c⟩)
def laws_FnExactDebtsIn_c8_Q (r563 : Int) (r564 : List Debt) (i908_1 : Nat) (g : Bool) (q : Out) : Prop := q.1 = .nrm ∧ eget q.2.1 7 = .lsl i908_1 r564.length 0 r564.length ∧ eget q.2.1 10 = .int .i64 r563 ∧ eget q.2.1 87 = .bool g ∧ q.2.2[i908_1]? = some (.live ⟨.grow, 94, 3, r564.map Debt.c⟩)
noncomputable def laws_FnExactDebtsIn (a1 : Book) : Option Bool :=
 (laws_szBook a1 1048576).bind fun r9 =>
 if (decide (r9 < 0)) = true then
  some true
 else
  (laws_toBook a1).bind fun (r23, r24, r25) =>
  (spec_DebtsIn (Book.mk r23 r24 r25)).bind fun (r27, r28) =>
  (laws_toBook a1).bind fun (r35, r36, r37) =>
  (impl_DebtsIn (Book.mk r35 r36 r37)).bind fun r => match r with
  | (.inl r65) =>
   ((laws_eqDebtS ([] : List Debt) r27).bind fun r80 =>
   if r80 = true then
    some (r65 != r28)
   else
    some true).bind fun y102 =>
   if y102 = true then
    some false
   else
    (laws_toBook a1).bind fun (r118, r119, r120) =>
    (laws_eqBook (Book.mk r35 r36 r37) (Book.mk r118 r119 r120)).bind fun r122 =>
    if r122 = true then
     (laws_markBook_ll r35 r36 r37 1).bind fun (r143, r144, r145) =>
     (if (decide (r143 < 0)) = true then
      some true
     else
      (laws_eqDebtS ([] : List Debt) r27).bind fun r174 =>
      if r174 = true then
       some (r65 != r28)
      else
       some true).bind fun y192 =>
     if y192 = true then
      some false
     else
      (laws_markDebtS_n 1).bind fun r210 =>
      (laws_heldDebtS ([] : List Debt) 1).bind fun r231 =>
      if (decide (r231 < 0)) = true then
       some false
      else
       if (r231 != r210) = true then
        some false
       else
        (laws_toBook a1).bind fun (r266, r267, r268) =>
        (impl_DebtsIn (Book.mk r266 r267 r268)).bind fun r => match r with
        | (.inl r270) =>
         ((laws_eqDebtS ([] : List Debt) r27).bind fun r280 =>
         if r280 = true then
          some (r270 != r28)
         else
          some true).bind fun y294 =>
         if y294 = true then
          some false
         else
          (laws_heldDebtS ([] : List Debt) 1).bind fun r308 =>
          if (decide (r308 < 0)) = true then
           some false
          else
           if (r308 != r210) = true then
            some false
           else
            some true
        | (.inr r335) =>
         ((laws_eqDebtS r335 r27).bind fun r345 =>
         if r345 = true then
          some (0 != r28)
         else
          some true).bind fun y359 =>
         if y359 = true then
          some false
         else
          (laws_heldDebtS ([] : List Debt) 1).bind fun r373 =>
          if (decide (r373 < 0)) = true then
           some false
          else
           if (r373 != r210) = true then
            some false
           else
            some true
    else
     some false
  | (.inr r410) =>
   ((laws_eqDebtS r410 r27).bind fun r430 =>
   if r430 = true then
    some (0 != r28)
   else
    some true).bind fun y452 =>
   if y452 = true then
    some false
   else
    (laws_toBook a1).bind fun (r469, r470, r471) =>
    (laws_eqBook (Book.mk r35 r36 r37) (Book.mk r469 r470 r471)).bind fun r473 =>
    if r473 = true then
     (laws_markBook_ll r35 r36 r37 1).bind fun (r494, r495, r496) =>
     (if (decide (r494 < 0)) = true then
      some true
     else
      (laws_eqDebtS r410 r27).bind fun r526 =>
      if r526 = true then
       some (0 != r28)
      else
       some true).bind fun y544 =>
     if y544 = true then
      some false
     else
      (laws_markDebtS_l r410 1).bind fun (r563, r564) =>
      (laws_heldDebtS r564 1).bind fun r588 =>
      if (decide (r588 < 0)) = true then
       some false
      else
       if (r588 != r563) = true then
        some false
       else
        (laws_toBook a1).bind fun (r623, r624, r625) =>
        (impl_DebtsIn (Book.mk r623 r624 r625)).bind fun r => match r with
        | (.inl r627) =>
         ((laws_eqDebtS ([] : List Debt) r27).bind fun r637 =>
         if r637 = true then
          some (r627 != r28)
         else
          some true).bind fun y651 =>
         if y651 = true then
          some false
         else
          (laws_heldDebtS r564 1).bind fun r666 =>
          if (decide (r666 < 0)) = true then
           some false
          else
           if (r666 != r563) = true then
            some false
           else
            some true
        | (.inr r693) =>
         ((laws_eqDebtS r693 r27).bind fun r703 =>
         if r703 = true then
          some (0 != r28)
         else
          some true).bind fun y717 =>
         if y717 = true then
          some false
         else
          (laws_heldDebtS r564 1).bind fun r732 =>
          if (decide (r732 < 0)) = true then
           some false
          else
           if (r732 != r563) = true then
            some false
           else
            some true
    else
     some false
def laws_FnExactDebtsIn_enc (r : Bool) : AV := .bool r
theorem laws_FnExactDebtsIn_ok (a1 : Book) (r : Bool) (h : laws_FnExactDebtsIn a1 = some r) : Ev (fun k => CN k 8 [.agg [.int .i64 a1.Day, .sl none (a1.Cash.map (cI .i64)), .sl none (a1.Tallies.map Tally.c)]] []) (fun p => rRes p.2 p.1 = laws_FnExactDebtsIn_enc r) := by
 unfold laws_FnExactDebtsIn at h
 obtain ⟨r9, hx8, h⟩ := bind_some h
 refine Ev.enter (F := fun k => f8 (CN k) k) (fun k => callN_eq rfl Try.func8 rfl rfl rfl (by decide +kernel) (f8_eq _ _)) (sq (Rg (kx (bxI rfl rfl ⟨rfl, rfl, by decide⟩) (kx (mvO rfl) (Rn (hN rfl hZ) fun e1 h3 => sN (sq (Rg (kx (mvO rfl) (Rn (hA h3 (hV (.int .i64 1048576) rfl hZ)) fun e4 h6 h7 => sN (sq (Rg (kx (ldPA h6 rfl rfl) (kx (mvO h7) (kc (cl (v := .int .i64 r9) rfl (cns rfl (cns rfl rfl)) rfl (laws_szBook_ok a1 1048576 _ hx8) nm) (kx (mvO rfl) (Rn (hA h6 (hN rfl hZ)) fun e10 h12 h13 => sN (sq (sq (Rg (kx (mvO h13) (kx (bLss rfl rfl) (Rn (hA h12 (hN rfl hZ)) fun e14 h16 h17 => sN ?_))))))))))))))))))))))
 clear h3 h6 h12 h13
 rcases ite_some h with ⟨hb18, h⟩ | ⟨hb18, h⟩
 ·refine cT h17 hb18 (sq (Rg (kx (mvO rfl) (Rn (hV (.bool true) rfl hZ) fun e19 h21 => sN (xx (sR ?_))))))
  clear h16 h17
  obtain rfl := si h
  exact eR (resT h21 res0) rfl
 obtain ⟨⟨r23, r24, r25⟩, hx22, h⟩ := bind_some h
 obtain ⟨⟨r27, r28⟩, hx26, h⟩ := bind_some h
 obtain ⟨⟨r35, r36, r37⟩, hx34, h⟩ := bind_some h
 refine cF h17 hb18 (xx (sN (sq (Rg (kx (ldPA h16 rfl rfl) (kc (cl (v := .agg [.int .i64 r23, .sl (some 2) (r24.map (cI .i64)), .sl (some 92) (r25.map Tally.c)]) rfl (cns rfl rfl) rfl (laws_toBook_ok a1 _ hx22) nm) (kc (cl (v := .tup [.sl (some 94) (r27.map Debt.c), .int .i64 r28]) rfl (cns rfl rfl) rfl (spec_DebtsIn_ok (Book.mk r23 r24 r25) _ hx26) nm) (kx (mvO rfl) (kx (exT rfl rfl) (kx (exT rfl rfl) (kx (mvO rfl) (kx (mvO rfl) (Rn (hA h16 (hN rfl (hN rfl hZ))) fun e29 h31 h32 h33 => sN (sq (Rg (kx (ldPA h31 rfl rfl) (Ev.nxcp (Ev.callT (v := .agg [.int .i64 r35, .sl (some 2) (r36.map (cI .i64)), .sl (some 92) (r37.map Tally.c)]) rfl (cns rfl rfl) rfl (laws_toBook_ok a1 _ hx34) (th_gen (v' := .agg [.int .i64 r35, .lsl ([] : Mem).length r36.length 0 r36.length, .lsl (([] : Mem).length + 1) r37.length 0 r37.length]) (l := [⟨.grow, 2, 1, r36.map (cI .i64)⟩, ⟨.grow, 92, 5, r37.map Tally.c⟩]) (own_agg (oa1 rfl (oa1 (own1_row' (c := (cI .i64)) (fun _ => rfl)) (oa1 (own1_row' (c := Tally.c) Tally.flF) oa0)))) (by simp [thaw, thaw2, thaw1, thawL, co2, co92]) rfl rfl)) fun M40 hM41 => ?_)))))))))))))))))
 clear h16 h17
 have o42 : M40[([] : Mem).length]? = some (.live ⟨.grow, 2, 1, r36.map (cI .i64)⟩) := push_at hM41 0 rfl
 have ne43 : ([] : Mem).length ≠ (([] : Mem).length + 1) := by omega
 have o44 : M40[(([] : Mem).length + 1)]? = some (.live ⟨.grow, 92, 5, r37.map Tally.c⟩) := push_at hM41 1 rfl
 refine ku (alO zero59) fun M46 hM47 => ?_
 have o48 := push_old hM47 o42
 have ne49 := ne_new o42
 have o50 := push_old hM47 o44
 have ne51 := ne_new o44
 have o52 : M46[M40.length]? = some (.live ⟨.box, 59, 3, [[.int .i64 0, .nils, .nils]]⟩) := push_new hM47
 refine kw (stO rfl rfl o52 rfl rfl ⟨rfl, ble rfl⟩ (all1 rfl (all1 (okL o48 (by simp)) (all1 (okL o50 (by simp)) all0))) rfl) fun M53 hM54 => ?_
 have o55 := set_ne hM54 ne49 o48
 have o56 := set_ne hM54 ne51 o50
 have o57 : M53[M40.length]? = some (.live ⟨.box, 59, 3, [[.int .i64 r35, .lsl ([] : Mem).length r36.length 0 r36.length, .lsl (([] : Mem).length + 1) r37.length 0 r37.length]]⟩) := set_same hM54 o52
 obtain ⟨q769, hx64, h⟩ := bind_some h
 refine Rn (hA h31 (hA h32 (hA h33 (hV (.loc M40.length 1 0 0) rfl hZ)))) fun e58 h60 h61 h62 h63 => sN (sq (Rg (kx (ldOA h63 o57 rfl rfl (ble rfl) rfl) ?_)))
 clear h31 h32 h33
 rcases q769 with r65 | r410
 ·refine Ev.nxcp (Ev.callT (v := .tup [.nils, .int .i64 r65]) rfl (cns rfl rfl) (ra1 (ra_agg (mp1 rfl (mp1 (ra1_row o55 rfl (cI_fl _)) (mp1 (ra1_row o56 rfl Tally.fl) mp0)))) ra0) (impl_DebtsIn_ok (Book.mk r35 r36 r37) _ hx64) (th_gen (v' := .tup [.nils, .int .i64 r65]) (l := []) (own_tup (oa1 rfl (oa1 rfl oa0))) (by simp [thaw, thaw2, thaw1, thawL, thaw]) rfl rfl)) fun M66 hM67 => ?_
  have o68 := push_old hM67 o55
  have o69 := push_old hM67 o56
  have o70 := push_old hM67 o57
  obtain ⟨r408, hr409, h⟩ := bind_some h
  refine kx (mvO rfl) (kx (exT rfl rfl) (kx (exT rfl rfl) (kx (mvO rfl) (kx (mvO rfl) (Rn (hA h60 (hA h61 (hA h62 (hA h63 (hV .nils rfl (hN rfl hZ)))))) fun e71 h73 h74 h75 h76 h77 h78 => sN (sq (sq ?_)))))))
  clear h60 h61 h62 h63
  refine Ev.cut (Q1 := laws_FnExactDebtsIn_c1_Q a1 r27 r28 r35 r36 r37 r65 (([] : Mem).length) (([] : Mem).length + 1) M40.length r408) (by
      have h := hr409
      obtain ⟨r80, hx79, h⟩ := bind_some h
      refine Rg (kx (mvO h77) (kx (mvO h74) (kc (cl (v := .bool r80) rfl (cns rfl (cns rfl rfl)) rfl (laws_eqDebtS_ok ([] : List Debt) r27 _ hx79) nm) (kx (uNot rfl) (kx (mvO rfl) ?_)))))
      rcases ite_some h with ⟨hb81, h⟩ | ⟨hb81, h⟩
      ·refine kx (guF rfl (congrArg Bool.not hb81) (mvO h78)) (kx (guF rfl (congrArg Bool.not hb81) (mvO h75)) (kx (guF rfl (congrArg Bool.not hb81) (bNeq rfl rfl)) (kx (pkF rfl (congrArg Bool.not hb81) rfl) (Rn (hA h73 (hA h74 (hA h75 (hA h76 (hA h77 (hA h78 (hN rfl hZ))))))) fun e82 h84 h85 h86 h87 h88 h89 h90 => ?_))))
       clear h73 h74 h75 h76 h77 h78
       obtain rfl := si h
       exact kd (show laws_FnExactDebtsIn_c1_Q a1 r27 r28 r35 r36 r37 r65 (([] : Mem).length) (([] : Mem).length + 1) M40.length _ _ from ⟨rfl, h84, h85, h86, h87, h88, h89, h90, o68, o69, o70⟩)
      refine kx (gsF rfl (congrArg Bool.not hb81)) (kx (gsF rfl (congrArg Bool.not hb81)) (kx (gsF rfl (congrArg Bool.not hb81)) (kx (pkT rfl (congrArg Bool.not hb81) rfl) (Rn (hA h73 (hA h74 (hA h75 (hA h76 (hA h77 (hA h78 (hV (.bool true) rfl hZ))))))) fun e91 h93 h94 h95 h96 h97 h98 h99 => ?_))))
      clear h73 h74 h75 h76 h77 h78
      obtain rfl := si h
      exact kd (show laws_FnExactDebtsIn_c1_Q a1 r27 r28 r35 r36 r37 r65 (([] : Mem).length) (([] : Mem).length + 1) M40.length _ _ from ⟨rfl, h93, h94, h95, h96, h97, h98, h99, o68, o69, o70⟩)) ?_
  revert h hr409
  revert r408
  intro y102 hr409 h
  intro x e100 M101 hq407
  obtain ⟨rfl, h103, h104, h105, h106, h107, h108, h109, o110, o111, o112⟩ := hq407
  refine sN ?_
  rcases ite_some h with ⟨hb113, h⟩ | ⟨hb113, h⟩
  ·refine cT h109 hb113 (sq (Rg (kx (mvO rfl) (Rn (hV (.bool false) rfl hZ) fun e114 h116 => sN (xx (sR ?_))))))
   clear h103 h104 h105 h106 h107 h108 h109
   obtain rfl := si h
   exact eR (resT h116 res0) rfl
  obtain ⟨⟨r118, r119, r120⟩, hx117, h⟩ := bind_some h
  obtain ⟨r122, hx121, h⟩ := bind_some h
  refine cF h109 hb113 (xx (sN (sq (sq (Rd (kf (ldOA h106 o112 rfl rfl (ble rfl) rfl) (kf (ldPA h103 rfl rfl) (fc (cl (v := .agg [.int .i64 r118, .sl (some 2) (r119.map (cI .i64)), .sl (some 92) (r120.map Tally.c)]) rfl (cns rfl rfl) rfl (laws_toBook_ok a1 _ hx117) nm) (fc (cl (v := .bool r122) rfl (cns rfl (cns rfl rfl)) (ra1 (ra_agg (mp1 rfl (mp1 (ra1_row o110 rfl (cI_fl _)) (mp1 (ra1_row o111 rfl Tally.fl) mp0)))) (ra1 rfl ra0)) (laws_eqBook_ok (Book.mk r35 r36 r37) (Book.mk r118 r119 r120) _ hx121) (fun _ => rfl)) (kf (uNot rfl) (fZ (Rn (hV (.pt none [.int .i64 a1.Day, .sl none (a1.Cash.map (cI .i64)), .sl none (a1.Tallies.map Tally.c)]) h103 (hV (.sl (some 94) (r27.map Debt.c)) h104 (hV (.int .i64 r28) h105 (hV (.loc M40.length 1 0 0) h106 (hV .nils h107 (hV (.int .i64 r65) h108 (hN rfl hZ))))))) fun e123 h125 h126 h127 h128 h129 h130 h131 => sN ?_))))))))))))
  clear h103 h104 h105 h106 h107 h108 h109
  rcases ite_some h with ⟨hb132, h⟩ | ⟨hb132, h⟩
  ·obtain ⟨⟨r143, r144, r145⟩, hx142, h⟩ := bind_some h
   refine cF h131 (congrArg Bool.not hb132) (xx (sN (sq (Rg (kx (mvO rfl) (Rn (hA h125 (hA h126 (hA h127 (hA h128 (hA h129 (hA h130 (hV (.int .i64 1) rfl hZ))))))) fun e133 h135 h136 h137 h138 h139 h140 h141 => sN (sq (Rg (kx (ldOA h138 o112 rfl rfl (ble rfl) rfl) (kx (mvO h141) (Ev.nxw (Ev.callW rfl (cns rfl (cns rfl rfl)) (laws_markBook_ll_ok r35 r36 r37 1 (([] : Mem).length) (([] : Mem).length + 1) ne43 M101 o110 o111 _ hx142)) fun v148 M146 hq147 => ?_)))))))))))
   clear h125 h126 h127 h128 h129 h130 h131
   obtain ⟨hv148, o149, o150, fr151, hl152, hl153⟩ := hq147
   have hv148 : v148 = .int .i64 r143 := hv148
   subst hv148
   have o154 : M146[([] : Mem).length]? = some (.live ⟨.grow, 2, 1, r144.map (cI .i64)⟩) := o149
   have o155 : M146[(([] : Mem).length + 1)]? = some (.live ⟨.grow, 92, 5, r145.map Tally.c⟩) := o150
   have hl152 : r144.length = r36.length := hl152
   have hl153 : r145.length = r37.length := hl153
   have o156 : M146[M40.length]? = some (.live ⟨.box, 59, 3, [[.int .i64 r35, .lsl ([] : Mem).length r36.length 0 r36.length, .lsl (([] : Mem).length + 1) r37.length 0 r37.length]]⟩) := fr151 _ _ (niC (Ne.symm ne49) (niC (Ne.symm ne51) niN)) o112
   obtain ⟨r402, hr403, h⟩ := bind_some h
   refine kx (mvO rfl) (Rn (hA h135 (hA h136 (hA h137 (hA h139 (hA h140 (hN rfl hZ)))))) fun e157 h159 h160 h161 h162 h163 h164 => sN (sq (sq ?_)))
   clear h135 h136 h137 h138 h139 h140
   refine Ev.cut (Q1 := laws_FnExactDebtsIn_c2_Q a1 r27 r28 r402) (by
       have h := hr403
       refine Rg (kx (mvO h164) (kx (bLss rfl rfl) (kx (mvO rfl) ?_)))
       rcases ite_some h with ⟨hb165, h⟩ | ⟨hb165, h⟩
       ·refine kx (gsF rfl hb165) (kx (gsF rfl hb165) (kc (Ev.gsF rfl hb165) (kx (gsF rfl hb165) (kx (pkT rfl hb165 rfl) (kx (mvO rfl) (kx (gsF rfl rfl) (kx (gsF rfl rfl) (kx (gsF rfl rfl) (kx (pkT rfl rfl rfl) (Rn (hA h159 (hA h160 (hA h161 (hA h162 (hV (.bool true) rfl hZ))))) fun e166 h168 h169 h170 h171 h172 => ?_))))))))))
        clear h159 h160 h161 h162 h163 h164
        obtain rfl := si h
        exact kd (show laws_FnExactDebtsIn_c2_Q a1 r27 r28 _ _ from ⟨rfl, h168, h169, h170, h171, h172⟩)
       obtain ⟨r174, hx173, h⟩ := bind_some h
       refine kx (guF rfl hb165 (mvO h162)) (kx (guF rfl hb165 (mvO h160)) (kc (Ev.guF rfl hb165 (cl (v := .bool r174) rfl (cns rfl (cns rfl rfl)) rfl (laws_eqDebtS_ok ([] : List Debt) r27 _ hx173) nm)) (kx (guF rfl hb165 (uNot rfl)) (kx (pkF rfl hb165 rfl) (kx (mvO rfl) ?_)))))
       rcases ite_some h with ⟨hb175, h⟩ | ⟨hb175, h⟩
       ·refine kx (guF rfl (congrArg Bool.not hb175) (mvO h163)) (kx (guF rfl (congrArg Bool.not hb175) (mvO h161)) (kx (guF rfl (congrArg Bool.not hb175) (bNeq rfl rfl)) (kx (pkF rfl (congrArg Bool.not hb175) rfl) (Rn (hA h159 (hA h160 (hA h161 (hA h162 (hN rfl hZ))))) fun e176 h178 h179 h180 h181 h182 => ?_))))
        clear h159 h160 h161 h162 h163 h164
        obtain rfl := si h
        exact kd (show laws_FnExactDebtsIn_c2_Q a1 r27 r28 _ _ from ⟨rfl, h178, h179, h180, h181, h182⟩)
       refine kx (gsF rfl (congrArg Bool.not hb175)) (kx (gsF rfl (congrArg Bool.not hb175)) (kx (gsF rfl (congrArg Bool.not hb175)) (kx (pkT rfl (congrArg Bool.not hb175) rfl) (Rn (hA h159 (hA h160 (hA h161 (hA h162 (hV (.bool true) rfl hZ))))) fun e183 h185 h186 h187 h188 h189 => ?_))))
       clear h159 h160 h161 h162 h163 h164
       obtain rfl := si h
       exact kd (show laws_FnExactDebtsIn_c2_Q a1 r27 r28 _ _ from ⟨rfl, h185, h186, h187, h188, h189⟩)) ?_
   revert h hr403
   revert r402
   intro y192 hr403 h
   intro x e190 M191 hq401
   obtain ⟨rfl, h193, h194, h195, h196, h197⟩ := hq401
   refine sN ?_
   rcases ite_some h with ⟨hb198, h⟩ | ⟨hb198, h⟩
   ·refine cT h197 hb198 (sq (Rg (kx (mvO rfl) (Rn (hV (.bool false) rfl hZ) fun e199 h201 => sN (xx (sR ?_))))))
    clear h193 h194 h195 h196 h197
    obtain rfl := si h
    exact eR (resT h201 res0) rfl
   obtain ⟨r210, hx209, h⟩ := bind_some h
   refine cF h197 hb198 (xx (sN (sq (Rg (kx (mvO rfl) (Rn (hV (.pt none [.int .i64 a1.Day, .sl none (a1.Cash.map (cI .i64)), .sl none (a1.Tallies.map Tally.c)]) h193 (hV (.sl (some 94) (r27.map Debt.c)) h194 (hV (.int .i64 r28) h195 (hV .nils h196 (hV (.int .i64 1) rfl hZ))))) fun e202 h204 h205 h206 h207 h208 => sN (sq (Rg (kx (mvO h207) (kx (mvO h208) (Ev.nxw (Ev.callW rfl (cns rfl (cns rfl rfl)) (laws_markDebtS_n_ok 1 M191 _ hx209)) fun v213 M211 hq212 => ?_)))))))))))
   clear h193 h194 h195 h196 h197
   obtain ⟨hv213, fr214⟩ := hq212
   have hv213 : v213 = .int .i64 r210 := hv213
   subst hv213
   obtain ⟨r231, hx230, h⟩ := bind_some h
   refine kx (mvO rfl) (Rn (hA h204 (hA h205 (hA h206 (hA h207 (hN rfl hZ))))) fun e215 h217 h218 h219 h220 h221 => sN (sq (Rg (kx (mvO rfl) (Rn (hA h217 (hA h218 (hA h219 (hA h220 (hA h221 (hV (.int .i64 1) rfl hZ)))))) fun e222 h224 h225 h226 h227 h228 h229 => sN (sq (Rg (kx (mvO h227) (kx (mvO h229) (kc (cl (v := .int .i64 r231) rfl (cns rfl (cns rfl rfl)) rfl (laws_heldDebtS_ok ([] : List Debt) 1 _ hx230) nm) (kx (mvO rfl) (Rn (hA h224 (hA h225 (hA h226 (hA h227 (hA h228 (hN rfl hZ)))))) fun e232 h234 h235 h236 h237 h238 h239 => sN (sq (sq (Rg (kx (mvO h239) (kx (bLss rfl rfl) (Rn (hA h234 (hA h235 (hA h236 (hA h237 (hA h238 (hA h239 (hN rfl hZ))))))) fun e240 h242 h243 h244 h245 h246 h247 h248 => sN ?_))))))))))))))))))
   clear h204 h205 h206 h207 h217 h218 h219 h220 h221 h224 h225 h226 h227 h228 h234 h235 h236 h237 h238 h239
   rcases ite_some h with ⟨hb249, h⟩ | ⟨hb249, h⟩
   ·refine cT h248 hb249 (sq (Rg (kx (mvO rfl) (Rn (hV (.bool false) rfl hZ) fun e250 h252 => sN (xx (sR ?_))))))
    clear h242 h243 h244 h245 h246 h247 h248
    obtain rfl := si h
    exact eR (resT h252 res0) rfl
   refine cF h248 hb249 (xx (sN (sq (sq (Rg (kx (mvO h247) (kx (mvO h246) (kx (bNeq rfl rfl) (Rn (hA h242 (hA h243 (hA h244 (hA h245 (hA h246 (hN rfl hZ)))))) fun e253 h255 h256 h257 h258 h259 h260 => sN ?_)))))))))
   clear h242 h243 h244 h245 h246 h247 h248
   rcases ite_some h with ⟨hb261, h⟩ | ⟨hb261, h⟩
   ·refine cT h260 hb261 (sq (Rg (kx (mvO rfl) (Rn (hV (.bool false) rfl hZ) fun e262 h264 => sN (xx (sR ?_))))))
    clear h255 h256 h257 h258 h259 h260
    obtain rfl := si h
    exact eR (resT h264 res0) rfl
   obtain ⟨⟨r266, r267, r268⟩, hx265, h⟩ := bind_some h
   obtain ⟨q400, hx269, h⟩ := bind_some h
   refine cF h260 hb261 (xx (sN (sq (Rg (kx (ldPA h255 rfl rfl) (kc (cl (v := .agg [.int .i64 r266, .sl (some 2) (r267.map (cI .i64)), .sl (some 92) (r268.map Tally.c)]) rfl (cns rfl rfl) rfl (laws_toBook_ok a1 _ hx265) nm) ?_))))))
   rcases q400 with r270 | r335
   ·obtain ⟨r333, hr334, h⟩ := bind_some h
    refine kc (cl (v := .tup [.nils, .int .i64 r270]) rfl (cns rfl rfl) rfl (impl_DebtsIn_ok (Book.mk r266 r267 r268) _ hx269) nm) (kx (mvO rfl) (kx (exT rfl rfl) (kx (exT rfl rfl) (kx (mvO rfl) (kx (mvO rfl) (Rn (hA h256 (hA h257 (hA h258 (hA h259 (hV .nils rfl (hN rfl hZ)))))) fun e271 h273 h274 h275 h276 h277 h278 => sN (sq (sq ?_))))))))
    clear h255 h256 h257 h258 h259 h260
    refine Ev.cut (Q1 := laws_FnExactDebtsIn_c3_Q r210 r333) (by
        have h := hr334
        obtain ⟨r280, hx279, h⟩ := bind_some h
        refine Rg (kx (mvO h277) (kx (mvO h273) (kc (cl (v := .bool r280) rfl (cns rfl (cns rfl rfl)) rfl (laws_eqDebtS_ok ([] : List Debt) r27 _ hx279) nm) (kx (uNot rfl) (kx (mvO rfl) ?_)))))
        rcases ite_some h with ⟨hb281, h⟩ | ⟨hb281, h⟩
        ·refine kx (guF rfl (congrArg Bool.not hb281) (mvO h278)) (kx (guF rfl (congrArg Bool.not hb281) (mvO h274)) (kx (guF rfl (congrArg Bool.not hb281) (bNeq rfl rfl)) (kx (pkF rfl (congrArg Bool.not hb281) rfl) (Rn (hA h275 (hA h276 (hN rfl hZ))) fun e282 h284 h285 h286 => ?_))))
         clear h273 h274 h275 h276 h277 h278
         obtain rfl := si h
         exact kd (show laws_FnExactDebtsIn_c3_Q r210 _ _ from ⟨rfl, h284, h285, h286⟩)
        refine kx (gsF rfl (congrArg Bool.not hb281)) (kx (gsF rfl (congrArg Bool.not hb281)) (kx (gsF rfl (congrArg Bool.not hb281)) (kx (pkT rfl (congrArg Bool.not hb281) rfl) (Rn (hA h275 (hA h276 (hV (.bool true) rfl hZ))) fun e287 h289 h290 h291 => ?_))))
        clear h273 h274 h275 h276 h277 h278
        obtain rfl := si h
        exact kd (show laws_FnExactDebtsIn_c3_Q r210 _ _ from ⟨rfl, h289, h290, h291⟩)) ?_
    revert h hr334
    revert r333
    intro y294 hr334 h
    intro x e292 M293 hq332
    obtain ⟨rfl, h295, h296, h297⟩ := hq332
    refine sN ?_
    rcases ite_some h with ⟨hb298, h⟩ | ⟨hb298, h⟩
    ·refine cT h297 hb298 (sq (Rg (kx (mvO rfl) (Rn (hV (.bool false) rfl hZ) fun e299 h301 => sN (xx (sR ?_))))))
     clear h295 h296 h297
     obtain rfl := si h
     exact eR (resT h301 res0) rfl
    obtain ⟨r308, hx307, h⟩ := bind_some h
    refine cF h297 hb298 (xx (sN (sq (Rg (kx (mvO rfl) (Rn (hV .nils h295 (hV (.int .i64 r210) h296 (hV (.int .i64 1) rfl hZ))) fun e302 h304 h305 h306 => sN (sq (Rg (kx (mvO h304) (kx (mvO h306) (kc (cl (v := .int .i64 r308) rfl (cns rfl (cns rfl rfl)) rfl (laws_heldDebtS_ok ([] : List Debt) 1 _ hx307) nm) (kx (mvO rfl) (Rn (hA h305 (hN rfl hZ)) fun e309 h311 h312 => sN (sq (sq (Rg (kx (mvO h312) (kx (bLss rfl rfl) (Rn (hA h311 (hA h312 (hN rfl hZ))) fun e313 h315 h316 h317 => sN ?_)))))))))))))))))))
    clear h295 h296 h297 h304 h305 h311 h312
    rcases ite_some h with ⟨hb318, h⟩ | ⟨hb318, h⟩
    ·refine cT h317 hb318 (sq (Rg (kx (mvO rfl) (Rn (hV (.bool false) rfl hZ) fun e319 h321 => sN (xx (sR ?_))))))
     clear h315 h316 h317
     obtain rfl := si h
     exact eR (resT h321 res0) rfl
    refine cF h317 hb318 (xx (sN (sq (sq (Rg (kx (mvO h316) (kx (mvO h315) (kx (bNeq rfl rfl) (Rn (hN rfl hZ) fun e322 h324 => sN ?_)))))))))
    clear h315 h316 h317
    rcases ite_some h with ⟨hb325, h⟩ | ⟨hb325, h⟩
    ·refine cT h324 hb325 (sq (Rg (kx (mvO rfl) (Rn (hV (.bool false) rfl hZ) fun e326 h328 => sN (xx (sR ?_))))))
     clear h324
     obtain rfl := si h
     exact eR (resT h328 res0) rfl
    refine cF h324 hb325 (xx (sN (sq (Rg (kx (mvO rfl) (Rn (hV (.bool true) rfl hZ) fun e329 h331 => sN (xx ?_)))))))
    clear h324
    obtain rfl := si h
    exact eR (resT h331 res0) rfl
   obtain ⟨r398, hr399, h⟩ := bind_some h
   refine kc (cl (v := .tup [.sl (some 94) (r335.map Debt.c), .int .i64 0]) rfl (cns rfl rfl) rfl (impl_DebtsIn_ok (Book.mk r266 r267 r268) _ hx269) nm) (kx (mvO rfl) (kx (exT rfl rfl) (kx (exT rfl rfl) (kx (mvO rfl) (kx (mvO rfl) (Rn (hA h256 (hA h257 (hA h258 (hA h259 (hN rfl (hV (.int .i64 0) rfl hZ)))))) fun e336 h338 h339 h340 h341 h342 h343 => sN (sq (sq ?_))))))))
   clear h255 h256 h257 h258 h259 h260
   refine Ev.cut (Q1 := laws_FnExactDebtsIn_c4_Q r210 r398) (by
       have h := hr399
       obtain ⟨r345, hx344, h⟩ := bind_some h
       refine Rg (kx (mvO h342) (kx (mvO h338) (kc (cl (v := .bool r345) rfl (cns rfl (cns rfl rfl)) rfl (laws_eqDebtS_ok r335 r27 _ hx344) nm) (kx (uNot rfl) (kx (mvO rfl) ?_)))))
       rcases ite_some h with ⟨hb346, h⟩ | ⟨hb346, h⟩
       ·refine kx (guF rfl (congrArg Bool.not hb346) (mvO h343)) (kx (guF rfl (congrArg Bool.not hb346) (mvO h339)) (kx (guF rfl (congrArg Bool.not hb346) (bNeq rfl rfl)) (kx (pkF rfl (congrArg Bool.not hb346) rfl) (Rn (hA h340 (hA h341 (hN rfl hZ))) fun e347 h349 h350 h351 => ?_))))
        clear h338 h339 h340 h341 h342 h343
        obtain rfl := si h
        exact kd (show laws_FnExactDebtsIn_c4_Q r210 _ _ from ⟨rfl, h349, h350, h351⟩)
       refine kx (gsF rfl (congrArg Bool.not hb346)) (kx (gsF rfl (congrArg Bool.not hb346)) (kx (gsF rfl (congrArg Bool.not hb346)) (kx (pkT rfl (congrArg Bool.not hb346) rfl) (Rn (hA h340 (hA h341 (hV (.bool true) rfl hZ))) fun e352 h354 h355 h356 => ?_))))
       clear h338 h339 h340 h341 h342 h343
       obtain rfl := si h
       exact kd (show laws_FnExactDebtsIn_c4_Q r210 _ _ from ⟨rfl, h354, h355, h356⟩)) ?_
   revert h hr399
   revert r398
   intro y359 hr399 h
   intro x e357 M358 hq397
   obtain ⟨rfl, h360, h361, h362⟩ := hq397
   refine sN ?_
   rcases ite_some h with ⟨hb363, h⟩ | ⟨hb363, h⟩
   ·refine cT h362 hb363 (sq (Rg (kx (mvO rfl) (Rn (hV (.bool false) rfl hZ) fun e364 h366 => sN (xx (sR ?_))))))
    clear h360 h361 h362
    obtain rfl := si h
    exact eR (resT h366 res0) rfl
   obtain ⟨r373, hx372, h⟩ := bind_some h
   refine cF h362 hb363 (xx (sN (sq (Rg (kx (mvO rfl) (Rn (hV .nils h360 (hV (.int .i64 r210) h361 (hV (.int .i64 1) rfl hZ))) fun e367 h369 h370 h371 => sN (sq (Rg (kx (mvO h369) (kx (mvO h371) (kc (cl (v := .int .i64 r373) rfl (cns rfl (cns rfl rfl)) rfl (laws_heldDebtS_ok ([] : List Debt) 1 _ hx372) nm) (kx (mvO rfl) (Rn (hA h370 (hN rfl hZ)) fun e374 h376 h377 => sN (sq (sq (Rg (kx (mvO h377) (kx (bLss rfl rfl) (Rn (hA h376 (hA h377 (hN rfl hZ))) fun e378 h380 h381 h382 => sN ?_)))))))))))))))))))
   clear h360 h361 h362 h369 h370 h376 h377
   rcases ite_some h with ⟨hb383, h⟩ | ⟨hb383, h⟩
   ·refine cT h382 hb383 (sq (Rg (kx (mvO rfl) (Rn (hV (.bool false) rfl hZ) fun e384 h386 => sN (xx (sR ?_))))))
    clear h380 h381 h382
    obtain rfl := si h
    exact eR (resT h386 res0) rfl
   refine cF h382 hb383 (xx (sN (sq (sq (Rg (kx (mvO h381) (kx (mvO h380) (kx (bNeq rfl rfl) (Rn (hN rfl hZ) fun e387 h389 => sN ?_)))))))))
   clear h380 h381 h382
   rcases ite_some h with ⟨hb390, h⟩ | ⟨hb390, h⟩
   ·refine cT h389 hb390 (sq (Rg (kx (mvO rfl) (Rn (hV (.bool false) rfl hZ) fun e391 h393 => sN (xx (sR ?_))))))
    clear h389
    obtain rfl := si h
    exact eR (resT h393 res0) rfl
   refine cF h389 hb390 (xx (sN (sq (Rg (kx (mvO rfl) (Rn (hV (.bool true) rfl hZ) fun e394 h396 => sN (xx ?_)))))))
   clear h389
   obtain rfl := si h
   exact eR (resT h396 res0) rfl
  refine cT h131 (congrArg Bool.not hb132) (sq (Rg (kx (mvO rfl) (Rn (hV (.bool false) rfl hZ) fun e404 h406 => sN (xx (sR ?_))))))
  clear h125 h126 h127 h128 h129 h130 h131
  obtain rfl := si h
  exact eR (resT h406 res0) rfl
 refine Ev.nxcp (Ev.callT (v := .tup [.sl (some 94) (r410.map Debt.c), .int .i64 0]) rfl (cns rfl rfl) (ra1 (ra_agg (mp1 rfl (mp1 (ra1_row o55 rfl (cI_fl _)) (mp1 (ra1_row o56 rfl Tally.fl) mp0)))) ra0) (impl_DebtsIn_ok (Book.mk r35 r36 r37) _ hx64) (th_gen (v' := .tup [.lsl M53.length r410.length 0 r410.length, .int .i64 0]) (l := [⟨.grow, 94, 3, r410.map Debt.c⟩]) (own_tup (oa1 (own2_row (c := Debt.c) Debt.flF) (oa1 rfl oa0))) (by simp [thaw, thaw2, thaw1, thawL, co94]) rfl rfl)) fun M412 hM413 => ?_
 have o414 := push_old hM413 o55
 have o415 := push_old hM413 o56
 have o416 := push_old hM413 o57
 have ne417 : ([] : Mem).length ≠ M53.length := by have := lt_of_get (M := M53) o55; omega
 have ne418 : (([] : Mem).length + 1) ≠ M53.length := by have := lt_of_get (M := M53) o56; omega
 have ne419 : M40.length ≠ M53.length := by have := lt_of_get (M := M53) o57; omega
 have o420 : M412[M53.length]? = some (.live ⟨.grow, 94, 3, r410.map Debt.c⟩) := push_at hM413 0 rfl
 obtain ⟨r767, hr768, h⟩ := bind_some h
 refine kx (mvO rfl) (kx (exT rfl rfl) (kx (exT rfl rfl) (kx (mvO rfl) (kx (mvO rfl) (Rn (hA h60 (hA h61 (hA h62 (hA h63 (hV (.lsl M53.length r410.length 0 r410.length) rfl (hV (.int .i64 0) rfl hZ)))))) fun e421 h423 h424 h425 h426 h427 h428 => sN (sq (sq ?_)))))))
 clear h60 h61 h62 h63
 refine Ev.cut (Q1 := laws_FnExactDebtsIn_c5_Q a1 r27 r28 r35 r36 r37 r410 (([] : Mem).length) (([] : Mem).length + 1) M40.length M53.length r767) (by
     have h := hr768
     obtain ⟨r430, hx429, h⟩ := bind_some h
     refine Rg (kx (mvO h427) (kx (mvO h424) (kc (cl (v := .bool r430) rfl (cns rfl (cns rfl rfl)) (ra1 (ra1_row o420 rfl Debt.fl) (ra1 rfl ra0)) (laws_eqDebtS_ok r410 r27 _ hx429) (fun _ => rfl)) (kx (uNot rfl) (kx (mvO rfl) ?_)))))
     rcases ite_some h with ⟨hb431, h⟩ | ⟨hb431, h⟩
     ·refine kx (guF rfl (congrArg Bool.not hb431) (mvO h428)) (kx (guF rfl (congrArg Bool.not hb431) (mvO h425)) (kx (guF rfl (congrArg Bool.not hb431) (bNeq rfl rfl)) (kx (pkF rfl (congrArg Bool.not hb431) rfl) (Rn (hA h423 (hA h424 (hA h425 (hA h426 (hA h427 (hA h428 (hN rfl hZ))))))) fun e432 h434 h435 h436 h437 h438 h439 h440 => ?_))))
      clear h423 h424 h425 h426 h427 h428
      obtain rfl := si h
      exact kd (show laws_FnExactDebtsIn_c5_Q a1 r27 r28 r35 r36 r37 r410 (([] : Mem).length) (([] : Mem).length + 1) M40.length M53.length _ _ from ⟨rfl, h434, h435, h436, h437, h438, h439, h440, o414, o415, o420, o416⟩)
     refine kx (gsF rfl (congrArg Bool.not hb431)) (kx (gsF rfl (congrArg Bool.not hb431)) (kx (gsF rfl (congrArg Bool.not hb431)) (kx (pkT rfl (congrArg Bool.not hb431) rfl) (Rn (hA h423 (hA h424 (hA h425 (hA h426 (hA h427 (hA h428 (hV (.bool true) rfl hZ))))))) fun e441 h443 h444 h445 h446 h447 h448 h449 => ?_))))
     clear h423 h424 h425 h426 h427 h428
     obtain rfl := si h
     exact kd (show laws_FnExactDebtsIn_c5_Q a1 r27 r28 r35 r36 r37 r410 (([] : Mem).length) (([] : Mem).length + 1) M40.length M53.length _ _ from ⟨rfl, h443, h444, h445, h446, h447, h448, h449, o414, o415, o420, o416⟩)) ?_
 revert h hr768
 revert r767
 intro y452 hr768 h
 intro x e450 M451 hq766
 obtain ⟨rfl, h453, h454, h455, h456, h457, h458, h459, o460, o461, o462, o463⟩ := hq766
 refine sN ?_
 rcases ite_some h with ⟨hb464, h⟩ | ⟨hb464, h⟩
 ·refine cT h459 hb464 (sq (Rg (kx (mvO rfl) (Rn (hV (.bool false) rfl hZ) fun e465 h467 => sN (xx (sR ?_))))))
  clear h453 h454 h455 h456 h457 h458 h459
  obtain rfl := si h
  exact eR (resT h467 res0) rfl
 obtain ⟨⟨r469, r470, r471⟩, hx468, h⟩ := bind_some h
 obtain ⟨r473, hx472, h⟩ := bind_some h
 refine cF h459 hb464 (xx (sN (sq (sq (Rd (kf (ldOA h456 o463 rfl rfl (ble rfl) rfl) (kf (ldPA h453 rfl rfl) (fc (cl (v := .agg [.int .i64 r469, .sl (some 2) (r470.map (cI .i64)), .sl (some 92) (r471.map Tally.c)]) rfl (cns rfl rfl) rfl (laws_toBook_ok a1 _ hx468) nm) (fc (cl (v := .bool r473) rfl (cns rfl (cns rfl rfl)) (ra1 (ra_agg (mp1 rfl (mp1 (ra1_row o460 rfl (cI_fl _)) (mp1 (ra1_row o461 rfl Tally.fl) mp0)))) (ra1 rfl ra0)) (laws_eqBook_ok (Book.mk r35 r36 r37) (Book.mk r469 r470 r471) _ hx472) (fun _ => rfl)) (kf (uNot rfl) (fZ (Rn (hV (.pt none [.int .i64 a1.Day, .sl none (a1.Cash.map (cI .i64)), .sl none (a1.Tallies.map Tally.c)]) h453 (hV (.sl (some 94) (r27.map Debt.c)) h454 (hV (.int .i64 r28) h455 (hV (.loc M40.length 1 0 0) h456 (hV (.lsl M53.length r410.length 0 r410.length) h457 (hV (.int .i64 0) h458 (hN rfl hZ))))))) fun e474 h476 h477 h478 h479 h480 h481 h482 => sN ?_))))))))))))
 clear h453 h454 h455 h456 h457 h458 h459
 rcases ite_some h with ⟨hb483, h⟩ | ⟨hb483, h⟩
 ·obtain ⟨⟨r494, r495, r496⟩, hx493, h⟩ := bind_some h
  refine cF h482 (congrArg Bool.not hb483) (xx (sN (sq (Rg (kx (mvO rfl) (Rn (hA h476 (hA h477 (hA h478 (hA h479 (hA h480 (hA h481 (hV (.int .i64 1) rfl hZ))))))) fun e484 h486 h487 h488 h489 h490 h491 h492 => sN (sq (Rg (kx (ldOA h489 o463 rfl rfl (ble rfl) rfl) (kx (mvO h492) (Ev.nxw (Ev.callW rfl (cns rfl (cns rfl rfl)) (laws_markBook_ll_ok r35 r36 r37 1 (([] : Mem).length) (([] : Mem).length + 1) ne43 M451 o460 o461 _ hx493)) fun v499 M497 hq498 => ?_)))))))))))
  clear h476 h477 h478 h479 h480 h481 h482
  obtain ⟨hv499, o500, o501, fr502, hl503, hl504⟩ := hq498
  have hv499 : v499 = .int .i64 r494 := hv499
  subst hv499
  have o505 : M497[([] : Mem).length]? = some (.live ⟨.grow, 2, 1, r495.map (cI .i64)⟩) := o500
  have o506 : M497[(([] : Mem).length + 1)]? = some (.live ⟨.grow, 92, 5, r496.map Tally.c⟩) := o501
  have hl503 : r495.length = r36.length := hl503
  have hl504 : r496.length = r37.length := hl504
  have o507 : M497[M53.length]? = some (.live ⟨.grow, 94, 3, r410.map Debt.c⟩) := fr502 _ _ (niC (Ne.symm ne417) (niC (Ne.symm ne418) niN)) o462
  have o508 : M497[M40.length]? = some (.live ⟨.box, 59, 3, [[.int .i64 r35, .lsl ([] : Mem).length r36.length 0 r36.length, .lsl (([] : Mem).length + 1) r37.length 0 r37.length]]⟩) := fr502 _ _ (niC (Ne.symm ne49) (niC (Ne.symm ne51) niN)) o463
  obtain ⟨r761, hr762, h⟩ := bind_some h
  refine kx (mvO rfl) (Rn (hA h486 (hA h487 (hA h488 (hA h490 (hA h491 (hN rfl hZ)))))) fun e509 h511 h512 h513 h514 h515 h516 => sN (sq (sq ?_)))
  clear h486 h487 h488 h489 h490 h491
  refine Ev.cut (Q1 := laws_FnExactDebtsIn_c6_Q a1 r27 r28 r410 M53.length r761) (by
      have h := hr762
      refine Rg (kx (mvO h516) (kx (bLss rfl rfl) (kx (mvO rfl) ?_)))
      rcases ite_some h with ⟨hb517, h⟩ | ⟨hb517, h⟩
      ·refine kx (gsF rfl hb517) (kx (gsF rfl hb517) (kc (Ev.gsF rfl hb517) (kx (gsF rfl hb517) (kx (pkT rfl hb517 rfl) (kx (mvO rfl) (kx (gsF rfl rfl) (kx (gsF rfl rfl) (kx (gsF rfl rfl) (kx (pkT rfl rfl rfl) (Rn (hA h511 (hA h512 (hA h513 (hA h514 (hV (.bool true) rfl hZ))))) fun e518 h520 h521 h522 h523 h524 => ?_))))))))))
       clear h511 h512 h513 h514 h515 h516
       obtain rfl := si h
       exact kd (show laws_FnExactDebtsIn_c6_Q a1 r27 r28 r410 M53.length _ _ from ⟨rfl, h520, h521, h522, h523, h524, o507⟩)
      obtain ⟨r526, hx525, h⟩ := bind_some h
      refine kx (guF rfl hb517 (mvO h514)) (kx (guF rfl hb517 (mvO h512)) (kc (Ev.guF rfl hb517 (cl (v := .bool r526) rfl (cns rfl (cns rfl rfl)) (ra1 (ra1_row o507 rfl Debt.fl) (ra1 rfl ra0)) (laws_eqDebtS_ok r410 r27 _ hx525) (fun _ => rfl))) (kx (guF rfl hb517 (uNot rfl)) (kx (pkF rfl hb517 rfl) (kx (mvO rfl) ?_)))))
      rcases ite_some h with ⟨hb527, h⟩ | ⟨hb527, h⟩
      ·refine kx (guF rfl (congrArg Bool.not hb527) (mvO h515)) (kx (guF rfl (congrArg Bool.not hb527) (mvO h513)) (kx (guF rfl (congrArg Bool.not hb527) (bNeq rfl rfl)) (kx (pkF rfl (congrArg Bool.not hb527) rfl) (Rn (hA h511 (hA h512 (hA h513 (hA h514 (hN rfl hZ))))) fun e528 h530 h531 h532 h533 h534 => ?_))))
       clear h511 h512 h513 h514 h515 h516
       obtain rfl := si h
       exact kd (show laws_FnExactDebtsIn_c6_Q a1 r27 r28 r410 M53.length _ _ from ⟨rfl, h530, h531, h532, h533, h534, o507⟩)
      refine kx (gsF rfl (congrArg Bool.not hb527)) (kx (gsF rfl (congrArg Bool.not hb527)) (kx (gsF rfl (congrArg Bool.not hb527)) (kx (pkT rfl (congrArg Bool.not hb527) rfl) (Rn (hA h511 (hA h512 (hA h513 (hA h514 (hV (.bool true) rfl hZ))))) fun e535 h537 h538 h539 h540 h541 => ?_))))
      clear h511 h512 h513 h514 h515 h516
      obtain rfl := si h
      exact kd (show laws_FnExactDebtsIn_c6_Q a1 r27 r28 r410 M53.length _ _ from ⟨rfl, h537, h538, h539, h540, h541, o507⟩)) ?_
  revert h hr762
  revert r761
  intro y544 hr762 h
  intro x e542 M543 hq760
  obtain ⟨rfl, h545, h546, h547, h548, h549, o550⟩ := hq760
  refine sN ?_
  rcases ite_some h with ⟨hb551, h⟩ | ⟨hb551, h⟩
  ·refine cT h549 hb551 (sq (Rg (kx (mvO rfl) (Rn (hV (.bool false) rfl hZ) fun e552 h554 => sN (xx (sR ?_))))))
   clear h545 h546 h547 h548 h549
   obtain rfl := si h
   exact eR (resT h554 res0) rfl
  obtain ⟨⟨r563, r564⟩, hx562, h⟩ := bind_some h
  refine cF h549 hb551 (xx (sN (sq (Rg (kx (mvO rfl) (Rn (hV (.pt none [.int .i64 a1.Day, .sl none (a1.Cash.map (cI .i64)), .sl none (a1.Tallies.map Tally.c)]) h545 (hV (.sl (some 94) (r27.map Debt.c)) h546 (hV (.int .i64 r28) h547 (hV (.lsl M53.length r410.length 0 r410.length) h548 (hV (.int .i64 1) rfl hZ))))) fun e555 h557 h558 h559 h560 h561 => sN (sq (Rg (kx (mvO h560) (kx (mvO h561) (Ev.nxw (Ev.callW rfl (cns rfl (cns rfl rfl)) (laws_markDebtS_l_ok r410 1 M53.length M543 o550 _ hx562)) fun v567 M565 hq566 => ?_)))))))))))
  clear h545 h546 h547 h548 h549
  obtain ⟨hv567, o568, fr569, hl570⟩ := hq566
  have hv567 : v567 = .int .i64 r563 := hv567
  subst hv567
  have o571 : M565[M53.length]? = some (.live ⟨.grow, 94, 3, r564.map Debt.c⟩) := o568
  have hl570 : r564.length = r410.length := hl570
  obtain ⟨r588, hx587, h⟩ := bind_some h
  refine kx (mvO rfl) (Rn (hA h557 (hA h558 (hA h559 (hA h560 (hN rfl hZ))))) fun e572 h574 h575 h576 h577 h578 => sN (sq (Rg (kx (mvO rfl) (Rn (hA h574 (hA h575 (hA h576 (hA h577 (hA h578 (hV (.int .i64 1) rfl hZ)))))) fun e579 h581 h582 h583 h584 h585 h586 => sN (sq (Rg (kx (mvO (lslL (L' := r564.length) h584 (by simp [hl503, hl504, hl570]))) (kx (mvO h586) (kc (cl (v := .int .i64 r588) rfl (cns rfl (cns rfl rfl)) (ra1 (ra1_row o571 rfl Debt.fl) (ra1 rfl ra0)) (laws_heldDebtS_ok r564 1 _ hx587) (fun _ => rfl)) (kx (mvO rfl) (Rn (hA h581 (hA h582 (hA h583 (hA h584 (hA h585 (hN rfl hZ)))))) fun e589 h591 h592 h593 h594 h595 h596 => sN (sq (sq (Rg (kx (mvO h596) (kx (bLss rfl rfl) (Rn (hA h591 (hA h592 (hA h593 (hA h594 (hA h595 (hA h596 (hN rfl hZ))))))) fun e597 h599 h600 h601 h602 h603 h604 h605 => sN ?_))))))))))))))))))
  clear h557 h558 h559 h560 h574 h575 h576 h577 h578 h581 h582 h583 h584 h585 h591 h592 h593 h594 h595 h596
  rcases ite_some h with ⟨hb606, h⟩ | ⟨hb606, h⟩
  ·refine cT h605 hb606 (sq (Rg (kx (mvO rfl) (Rn (hV (.bool false) rfl hZ) fun e607 h609 => sN (xx (sR ?_))))))
   clear h599 h600 h601 h602 h603 h604 h605
   obtain rfl := si h
   exact eR (resT h609 res0) rfl
  refine cF h605 hb606 (xx (sN (sq (sq (Rg (kx (mvO h604) (kx (mvO h603) (kx (bNeq rfl rfl) (Rn (hA h599 (hA h600 (hA h601 (hA h602 (hA h603 (hN rfl hZ)))))) fun e610 h612 h613 h614 h615 h616 h617 => sN ?_)))))))))
  clear h599 h600 h601 h602 h603 h604 h605
  rcases ite_some h with ⟨hb618, h⟩ | ⟨hb618, h⟩
  ·refine cT h617 hb618 (sq (Rg (kx (mvO rfl) (Rn (hV (.bool false) rfl hZ) fun e619 h621 => sN (xx (sR ?_))))))
   clear h612 h613 h614 h615 h616 h617
   obtain rfl := si h
   exact eR (resT h621 res0) rfl
  obtain ⟨⟨r623, r624, r625⟩, hx622, h⟩ := bind_some h
  obtain ⟨q759, hx626, h⟩ := bind_some h
  refine cF h617 hb618 (xx (sN (sq (Rg (kx (ldPA h612 rfl rfl) (kc (cl (v := .agg [.int .i64 r623, .sl (some 2) (r624.map (cI .i64)), .sl (some 92) (r625.map Tally.c)]) rfl (cns rfl rfl) rfl (laws_toBook_ok a1 _ hx622) nm) ?_))))))
  rcases q759 with r627 | r693
  ·obtain ⟨r691, hr692, h⟩ := bind_some h
   refine kc (cl (v := .tup [.nils, .int .i64 r627]) rfl (cns rfl rfl) rfl (impl_DebtsIn_ok (Book.mk r623 r624 r625) _ hx626) nm) (kx (mvO rfl) (kx (exT rfl rfl) (kx (exT rfl rfl) (kx (mvO rfl) (kx (mvO rfl) (Rn (hA h613 (hA h614 (hA h615 (hA h616 (hV .nils rfl (hN rfl hZ)))))) fun e628 h630 h631 h632 h633 h634 h635 => sN (sq (sq ?_))))))))
   clear h612 h613 h614 h615 h616 h617
   refine Ev.cut (Q1 := laws_FnExactDebtsIn_c7_Q r563 r564 M53.length r691) (by
       have h := hr692
       obtain ⟨r637, hx636, h⟩ := bind_some h
       refine Rg (kx (mvO h634) (kx (mvO h630) (kc (cl (v := .bool r637) rfl (cns rfl (cns rfl rfl)) rfl (laws_eqDebtS_ok ([] : List Debt) r27 _ hx636) nm) (kx (uNot rfl) (kx (mvO rfl) ?_)))))
       rcases ite_some h with ⟨hb638, h⟩ | ⟨hb638, h⟩
       ·refine kx (guF rfl (congrArg Bool.not hb638) (mvO h635)) (kx (guF rfl (congrArg Bool.not hb638) (mvO h631)) (kx (guF rfl (congrArg Bool.not hb638) (bNeq rfl rfl)) (kx (pkF rfl (congrArg Bool.not hb638) rfl) (Rn (hA h632 (hA h633 (hN rfl hZ))) fun e639 h641 h642 h643 => ?_))))
        clear h630 h631 h632 h633 h634 h635
        obtain rfl := si h
        exact kd (show laws_FnExactDebtsIn_c7_Q r563 r564 M53.length _ _ from ⟨rfl, (lslL (L' := r564.length) h641 (by simp [hl503, hl504, hl570])), h642, h643, o571⟩)
       refine kx (gsF rfl (congrArg Bool.not hb638)) (kx (gsF rfl (congrArg Bool.not hb638)) (kx (gsF rfl (congrArg Bool.not hb638)) (kx (pkT rfl (congrArg Bool.not hb638) rfl) (Rn (hA h632 (hA h633 (hV (.bool true) rfl hZ))) fun e644 h646 h647 h648 => ?_))))
       clear h630 h631 h632 h633 h634 h635
       obtain rfl := si h
       exact kd (show laws_FnExactDebtsIn_c7_Q r563 r564 M53.length _ _ from ⟨rfl, (lslL (L' := r564.length) h646 (by simp [hl503, hl504, hl570])), h647, h648, o571⟩)) ?_
   revert h hr692
   revert r691
   intro y651 hr692 h
   intro x e649 M650 hq690
   obtain ⟨rfl, h652, h653, h654, o655⟩ := hq690
   refine sN ?_
   rcases ite_some h with ⟨hb656, h⟩ | ⟨hb656, h⟩
   ·refine cT h654 hb656 (sq (Rg (kx (mvO rfl) (Rn (hV (.bool false) rfl hZ) fun e657 h659 => sN (xx (sR ?_))))))
    clear h652 h653 h654
    obtain rfl := si h
    exact eR (resT h659 res0) rfl
   obtain ⟨r666, hx665, h⟩ := bind_some h
   refine cF h654 hb656 (xx (sN (sq (Rg (kx (mvO rfl) (Rn (hV (.lsl M53.length r564.length 0 r564.length) h652 (hV (.int .i64 r563) h653 (hV (.int .i64 1) rfl hZ))) fun e660 h662 h663 h664 => sN (sq (Rg (kx (mvO h662) (kx (mvO h664) (kc (cl (v := .int .i64 r666) rfl (cns rfl (cns rfl rfl)) (ra1 (ra1_row o655 rfl Debt.fl) (ra1 rfl ra0)) (laws_heldDebtS_ok r564 1 _ hx665) (fun _ => rfl)) (kx (mvO rfl) (Rn (hA h663 (hN rfl hZ)) fun e667 h669 h670 => sN (sq (sq (Rg (kx (mvO h670) (kx (bLss rfl rfl) (Rn (hA h669 (hA h670 (hN rfl hZ))) fun e671 h673 h674 h675 => sN ?_)))))))))))))))))))
   clear h652 h653 h654 h662 h663 h669 h670
   rcases ite_some h with ⟨hb676, h⟩ | ⟨hb676, h⟩
   ·refine cT h675 hb676 (sq (Rg (kx (mvO rfl) (Rn (hV (.bool false) rfl hZ) fun e677 h679 => sN (xx (sR ?_))))))
    clear h673 h674 h675
    obtain rfl := si h
    exact eR (resT h679 res0) rfl
   refine cF h675 hb676 (xx (sN (sq (sq (Rg (kx (mvO h674) (kx (mvO h673) (kx (bNeq rfl rfl) (Rn (hN rfl hZ) fun e680 h682 => sN ?_)))))))))
   clear h673 h674 h675
   rcases ite_some h with ⟨hb683, h⟩ | ⟨hb683, h⟩
   ·refine cT h682 hb683 (sq (Rg (kx (mvO rfl) (Rn (hV (.bool false) rfl hZ) fun e684 h686 => sN (xx (sR ?_))))))
    clear h682
    obtain rfl := si h
    exact eR (resT h686 res0) rfl
   refine cF h682 hb683 (xx (sN (sq (Rg (kx (mvO rfl) (Rn (hV (.bool true) rfl hZ) fun e687 h689 => sN (xx ?_)))))))
   clear h682
   obtain rfl := si h
   exact eR (resT h689 res0) rfl
  obtain ⟨r757, hr758, h⟩ := bind_some h
  refine kc (cl (v := .tup [.sl (some 94) (r693.map Debt.c), .int .i64 0]) rfl (cns rfl rfl) rfl (impl_DebtsIn_ok (Book.mk r623 r624 r625) _ hx626) nm) (kx (mvO rfl) (kx (exT rfl rfl) (kx (exT rfl rfl) (kx (mvO rfl) (kx (mvO rfl) (Rn (hA h613 (hA h614 (hA h615 (hA h616 (hN rfl (hV (.int .i64 0) rfl hZ)))))) fun e694 h696 h697 h698 h699 h700 h701 => sN (sq (sq ?_))))))))
  clear h612 h613 h614 h615 h616 h617
  refine Ev.cut (Q1 := laws_FnExactDebtsIn_c8_Q r563 r564 M53.length r757) (by
      have h := hr758
      obtain ⟨r703, hx702, h⟩ := bind_some h
      refine Rg (kx (mvO h700) (kx (mvO h696) (kc (cl (v := .bool r703) rfl (cns rfl (cns rfl rfl)) rfl (laws_eqDebtS_ok r693 r27 _ hx702) nm) (kx (uNot rfl) (kx (mvO rfl) ?_)))))
      rcases ite_some h with ⟨hb704, h⟩ | ⟨hb704, h⟩
      ·refine kx (guF rfl (congrArg Bool.not hb704) (mvO h701)) (kx (guF rfl (congrArg Bool.not hb704) (mvO h697)) (kx (guF rfl (congrArg Bool.not hb704) (bNeq rfl rfl)) (kx (pkF rfl (congrArg Bool.not hb704) rfl) (Rn (hA h698 (hA h699 (hN rfl hZ))) fun e705 h707 h708 h709 => ?_))))
       clear h696 h697 h698 h699 h700 h701
       obtain rfl := si h
       exact kd (show laws_FnExactDebtsIn_c8_Q r563 r564 M53.length _ _ from ⟨rfl, (lslL (L' := r564.length) h707 (by simp [hl503, hl504, hl570])), h708, h709, o571⟩)
      refine kx (gsF rfl (congrArg Bool.not hb704)) (kx (gsF rfl (congrArg Bool.not hb704)) (kx (gsF rfl (congrArg Bool.not hb704)) (kx (pkT rfl (congrArg Bool.not hb704) rfl) (Rn (hA h698 (hA h699 (hV (.bool true) rfl hZ))) fun e710 h712 h713 h714 => ?_))))
      clear h696 h697 h698 h699 h700 h701
      obtain rfl := si h
      exact kd (show laws_FnExactDebtsIn_c8_Q r563 r564 M53.length _ _ from ⟨rfl, (lslL (L' := r564.length) h712 (by simp [hl503, hl504, hl570])), h713, h714, o571⟩)) ?_
  revert h hr758
  revert r757
  intro y717 hr758 h
  intro x e715 M716 hq756
  obtain ⟨rfl, h718, h719, h720, o721⟩ := hq756
  refine sN ?_
  rcases ite_some h with ⟨hb722, h⟩ | ⟨hb722, h⟩
  ·refine cT h720 hb722 (sq (Rg (kx (mvO rfl) (Rn (hV (.bool false) rfl hZ) fun e723 h725 => sN (xx (sR ?_))))))
   clear h718 h719 h720
   obtain rfl := si h
   exact eR (resT h725 res0) rfl
  obtain ⟨r732, hx731, h⟩ := bind_some h
  refine cF h720 hb722 (xx (sN (sq (Rg (kx (mvO rfl) (Rn (hV (.lsl M53.length r564.length 0 r564.length) h718 (hV (.int .i64 r563) h719 (hV (.int .i64 1) rfl hZ))) fun e726 h728 h729 h730 => sN (sq (Rg (kx (mvO h728) (kx (mvO h730) (kc (cl (v := .int .i64 r732) rfl (cns rfl (cns rfl rfl)) (ra1 (ra1_row o721 rfl Debt.fl) (ra1 rfl ra0)) (laws_heldDebtS_ok r564 1 _ hx731) (fun _ => rfl)) (kx (mvO rfl) (Rn (hA h729 (hN rfl hZ)) fun e733 h735 h736 => sN (sq (sq (Rg (kx (mvO h736) (kx (bLss rfl rfl) (Rn (hA h735 (hA h736 (hN rfl hZ))) fun e737 h739 h740 h741 => sN ?_)))))))))))))))))))
  clear h718 h719 h720 h728 h729 h735 h736
  rcases ite_some h with ⟨hb742, h⟩ | ⟨hb742, h⟩
  ·refine cT h741 hb742 (sq (Rg (kx (mvO rfl) (Rn (hV (.bool false) rfl hZ) fun e743 h745 => sN (xx (sR ?_))))))
   clear h739 h740 h741
   obtain rfl := si h
   exact eR (resT h745 res0) rfl
  refine cF h741 hb742 (xx (sN (sq (sq (Rg (kx (mvO h740) (kx (mvO h739) (kx (bNeq rfl rfl) (Rn (hN rfl hZ) fun e746 h748 => sN ?_)))))))))
  clear h739 h740 h741
  rcases ite_some h with ⟨hb749, h⟩ | ⟨hb749, h⟩
  ·refine cT h748 hb749 (sq (Rg (kx (mvO rfl) (Rn (hV (.bool false) rfl hZ) fun e750 h752 => sN (xx (sR ?_))))))
   clear h748
   obtain rfl := si h
   exact eR (resT h752 res0) rfl
  refine cF h748 hb749 (xx (sN (sq (Rg (kx (mvO rfl) (Rn (hV (.bool true) rfl hZ) fun e753 h755 => sN (xx ?_)))))))
  clear h748
  obtain rfl := si h
  exact eR (resT h755 res0) rfl
 refine cT h482 (congrArg Bool.not hb483) (sq (Rg (kx (mvO rfl) (Rn (hV (.bool false) rfl hZ) fun e763 h765 => sN (xx (sR ?_))))))
 clear h476 h477 h478 h479 h480 h481 h482
 obtain rfl := si h
 exact eR (resT h765 res0) rfl
end Go.Proofs.Ythkbjnbbahmpkaa

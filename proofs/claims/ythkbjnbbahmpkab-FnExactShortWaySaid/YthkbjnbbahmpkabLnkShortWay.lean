/- Printed by a program of ours (ext.py). -/
import Derived.Test.YthkbjnbbahmpkabLnkShortWayx0
set_option linter.unusedVariables false
set_option linter.unusedSimpArgs false
set_option maxRecDepth 100000
set_option maxHeartbeats 2000000
namespace Go.Proofs.Ythkbjnbbahmpkab
open Go Go.Ab
/-! ### loop.example/g01263/laws.FnExactShortWay (f4) -/
def laws_FnExactShortWay_c1_Q (a1 : Chain) (r29 : List (List UInt8)) (r30 : Int) (r37 : List UInt8) (r38 : Bool) (r39 : List Notch) (r40 : Ar 16 Int) (r41 : List Mark) (r69 : List (List UInt8)) (i901_1 : Nat) (i901_2 : Nat) (i901_3 : Nat) (i901_4 : Nat) (g : Bool) (q : Out) : Prop := q.1 = .nrm ∧ eget q.2.1 1 = .pt none (.str a1.Debtor :: (.bool a1.Stock.Stock :: (.sl none (a1.Stock.Notches.map Notch.c) :: ((arC (cI .i8) 0 a1.Stock.Grain) ++ ((.sl none (a1.Marks.map Mark.c) :: []) : List AV))))) ∧ eget q.2.1 4 = .sl (some 9) (r29.map cS) ∧ eget q.2.1 5 = .int .i64 r30 ∧ eget q.2.1 6 = .loc i901_3 1 0 0 ∧ eget q.2.1 7 = .lsl i901_4 r69.length 0 r69.length ∧ eget q.2.1 8 = .int .i64 0 ∧ eget q.2.1 40 = .bool g ∧ q.2.2[i901_1]? = some (.live ⟨.grow, 90, 2, r39.map Notch.c⟩) ∧ q.2.2[(i901_1 + 1)]? = some (.live ⟨.grow, 57, 2, r41.map Mark.c⟩) ∧ q.2.2[i901_3]? = some (.live ⟨.box, 39, 20, [(.str r37 :: (.bool r38 :: (.lsl i901_1 r39.length 0 r39.length :: ((arC (cI .i8) 0 r40) ++ ((.lsl (i901_1 + 1) r41.length 0 r41.length :: []) : List AV)))))]⟩) ∧ q.2.2[i901_4]? = some (.live ⟨.grow, 9, 1, r69.map cS⟩)
def laws_FnExactShortWay_c2_Q (a1 : Chain) (r29 : List (List UInt8)) (r30 : Int) (r69 : List (List UInt8)) (i902_1 : Nat) (g : Bool) (q : Out) : Prop := q.1 = .nrm ∧ eget q.2.1 1 = .pt none (.str a1.Debtor :: (.bool a1.Stock.Stock :: (.sl none (a1.Stock.Notches.map Notch.c) :: ((arC (cI .i8) 0 a1.Stock.Grain) ++ ((.sl none (a1.Marks.map Mark.c) :: []) : List AV))))) ∧ eget q.2.1 4 = .sl (some 9) (r29.map cS) ∧ eget q.2.1 5 = .int .i64 r30 ∧ eget q.2.1 7 = .lsl i902_1 r69.length 0 r69.length ∧ eget q.2.1 61 = .bool g ∧ q.2.2[i902_1]? = some (.live ⟨.grow, 9, 1, r69.map cS⟩)
def laws_FnExactShortWay_c3_Q (r224 : Int) (r225 : List (List UInt8)) (i903_1 : Nat) (g : Bool) (q : Out) : Prop := q.1 = .nrm ∧ eget q.2.1 7 = .lsl i903_1 r225.length 0 r225.length ∧ eget q.2.1 10 = .int .i64 r224 ∧ eget q.2.1 87 = .bool g ∧ q.2.2[i903_1]? = some (.live ⟨.grow, 9, 1, r225.map cS⟩)
def laws_FnExactShortWay_c4_Q (r224 : Int) (r225 : List (List UInt8)) (i904_1 : Nat) (g : Bool) (q : Out) : Prop := q.1 = .nrm ∧ eget q.2.1 7 = .lsl i904_1 r225.length 0 r225.length ∧ eget q.2.1 10 = .int .i64 r224 ∧ eget q.2.1 87 = .bool g ∧ q.2.2[i904_1]? = some (.live ⟨.grow, 9, 1, r225.map cS⟩)
def laws_FnExactShortWay_c5_Q (a1 : Chain) (r29 : List (List UInt8)) (r30 : Int) (r37 : List UInt8) (r38 : Bool) (r39 : List Notch) (r40 : Ar 16 Int) (r41 : List Mark) (i905_1 : Nat) (i905_2 : Nat) (i905_3 : Nat) (g : Bool) (q : Out) : Prop := q.1 = .nrm ∧ eget q.2.1 1 = .pt none (.str a1.Debtor :: (.bool a1.Stock.Stock :: (.sl none (a1.Stock.Notches.map Notch.c) :: ((arC (cI .i8) 0 a1.Stock.Grain) ++ ((.sl none (a1.Marks.map Mark.c) :: []) : List AV))))) ∧ eget q.2.1 4 = .sl (some 9) (r29.map cS) ∧ eget q.2.1 5 = .int .i64 r30 ∧ eget q.2.1 6 = .loc i905_3 1 0 0 ∧ eget q.2.1 7 = .nils ∧ eget q.2.1 8 = .int .i64 1 ∧ eget q.2.1 40 = .bool g ∧ q.2.2[i905_1]? = some (.live ⟨.grow, 90, 2, r39.map Notch.c⟩) ∧ q.2.2[(i905_1 + 1)]? = some (.live ⟨.grow, 57, 2, r41.map Mark.c⟩) ∧ q.2.2[i905_3]? = some (.live ⟨.box, 39, 20, [(.str r37 :: (.bool r38 :: (.lsl i905_1 r39.length 0 r39.length :: ((arC (cI .i8) 0 r40) ++ ((.lsl (i905_1 + 1) r41.length 0 r41.length :: []) : List AV)))))]⟩)
def laws_FnExactShortWay_c6_Q (a1 : Chain) (r29 : List (List UInt8)) (r30 : Int) (g : Bool) (q : Out) : Prop := q.1 = .nrm ∧ eget q.2.1 1 = .pt none (.str a1.Debtor :: (.bool a1.Stock.Stock :: (.sl none (a1.Stock.Notches.map Notch.c) :: ((arC (cI .i8) 0 a1.Stock.Grain) ++ ((.sl none (a1.Marks.map Mark.c) :: []) : List AV))))) ∧ eget q.2.1 4 = .sl (some 9) (r29.map cS) ∧ eget q.2.1 5 = .int .i64 r30 ∧ eget q.2.1 7 = .nils ∧ eget q.2.1 61 = .bool g
def laws_FnExactShortWay_c7_Q (r577 : Int) (g : Bool) (q : Out) : Prop := q.1 = .nrm ∧ eget q.2.1 7 = .nils ∧ eget q.2.1 10 = .int .i64 r577 ∧ eget q.2.1 87 = .bool g
def laws_FnExactShortWay_c8_Q (r577 : Int) (g : Bool) (q : Out) : Prop := q.1 = .nrm ∧ eget q.2.1 7 = .nils ∧ eget q.2.1 10 = .int .i64 r577 ∧ eget q.2.1 87 = .bool g
noncomputable def laws_FnExactShortWay (a1 : Chain) : Option Bool :=
 (laws_szChain a1 1048576).bind fun r9 =>
 if (decide (r9 < 0)) = true then
  some true
 else
  (laws_toChain a1).bind fun (r23, r24, r25, r26, r27) =>
  (spec_ShortWay (Chain.mk r23 (Half.mk r24 r25 r26) r27)).bind fun (r29, r30) =>
  (laws_toChain a1).bind fun (r37, r38, r39, r40, r41) =>
  (impl_ShortWay (Chain.mk r37 (Half.mk r38 r39 r40) r41)).bind fun r => match r with
  | (.inl r69) =>
   ((laws_eqStringS r69 r29).bind fun r89 =>
   if r89 = true then
    some (0 != r30)
   else
    some true).bind fun y111 =>
   if y111 = true then
    some false
   else
    (laws_toChain a1).bind fun (r128, r129, r130, r131, r132) =>
    (laws_eqChain (Chain.mk r37 (Half.mk r38 r39 r40) r41) (Chain.mk r128 (Half.mk r129 r130 r131) r132)).bind fun r134 =>
    if r134 = true then
     (laws_markChain_ll r37 r38 r39 r40 r41 1).bind fun (r155, r156, r157) =>
     (if (decide (r155 < 0)) = true then
      some true
     else
      (laws_eqStringS r69 r29).bind fun r187 =>
      if r187 = true then
       some (0 != r30)
      else
       some true).bind fun y205 =>
     if y205 = true then
      some false
     else
      (laws_markStringS_l r69 1).bind fun (r224, r225) =>
      (laws_heldStringS r225 1).bind fun r249 =>
      if (decide (r249 < 0)) = true then
       some false
      else
       if (r249 != r224) = true then
        some false
       else
        (laws_toChain a1).bind fun (r284, r285, r286, r287, r288) =>
        (impl_ShortWay (Chain.mk r284 (Half.mk r285 r286 r287) r288)).bind fun r => match r with
        | (.inl r290) =>
         ((laws_eqStringS r290 r29).bind fun r300 =>
         if r300 = true then
          some (0 != r30)
         else
          some true).bind fun y314 =>
         if y314 = true then
          some false
         else
          (laws_heldStringS r225 1).bind fun r329 =>
          if (decide (r329 < 0)) = true then
           some false
          else
           if (r329 != r224) = true then
            some false
           else
            some true
        | (.inr _) =>
         ((laws_eqStringS ([] : List (List UInt8)) r29).bind fun r365 =>
         if r365 = true then
          some (1 != r30)
         else
          some true).bind fun y379 =>
         if y379 = true then
          some false
         else
          (laws_heldStringS r225 1).bind fun r394 =>
          if (decide (r394 < 0)) = true then
           some false
          else
           if (r394 != r224) = true then
            some false
           else
            some true
    else
     some false
  | (.inr _) =>
   ((laws_eqStringS ([] : List (List UInt8)) r29).bind fun r445 =>
   if r445 = true then
    some (1 != r30)
   else
    some true).bind fun y467 =>
   if y467 = true then
    some false
   else
    (laws_toChain a1).bind fun (r483, r484, r485, r486, r487) =>
    (laws_eqChain (Chain.mk r37 (Half.mk r38 r39 r40) r41) (Chain.mk r483 (Half.mk r484 r485 r486) r487)).bind fun r489 =>
    if r489 = true then
     (laws_markChain_ll r37 r38 r39 r40 r41 1).bind fun (r510, r511, r512) =>
     (if (decide (r510 < 0)) = true then
      some true
     else
      (laws_eqStringS ([] : List (List UInt8)) r29).bind fun r541 =>
      if r541 = true then
       some (1 != r30)
      else
       some true).bind fun y559 =>
     if y559 = true then
      some false
     else
      (laws_markStringS_n 1).bind fun r577 =>
      (laws_heldStringS ([] : List (List UInt8)) 1).bind fun r598 =>
      if (decide (r598 < 0)) = true then
       some false
      else
       if (r598 != r577) = true then
        some false
       else
        (laws_toChain a1).bind fun (r633, r634, r635, r636, r637) =>
        (impl_ShortWay (Chain.mk r633 (Half.mk r634 r635 r636) r637)).bind fun r => match r with
        | (.inl r639) =>
         ((laws_eqStringS r639 r29).bind fun r649 =>
         if r649 = true then
          some (0 != r30)
         else
          some true).bind fun y663 =>
         if y663 = true then
          some false
         else
          (laws_heldStringS ([] : List (List UInt8)) 1).bind fun r677 =>
          if (decide (r677 < 0)) = true then
           some false
          else
           if (r677 != r577) = true then
            some false
           else
            some true
        | (.inr _) =>
         ((laws_eqStringS ([] : List (List UInt8)) r29).bind fun r713 =>
         if r713 = true then
          some (1 != r30)
         else
          some true).bind fun y727 =>
         if y727 = true then
          some false
         else
          (laws_heldStringS ([] : List (List UInt8)) 1).bind fun r741 =>
          if (decide (r741 < 0)) = true then
           some false
          else
           if (r741 != r577) = true then
            some false
           else
            some true
    else
     some false
def laws_FnExactShortWay_enc (r : Bool) : AV := .bool r
theorem laws_FnExactShortWay_ok (a1 : Chain) (r : Bool) (h : laws_FnExactShortWay a1 = some r) : Ev (fun k => CN k 4 [.agg (.str a1.Debtor :: (.bool a1.Stock.Stock :: (.sl none (a1.Stock.Notches.map Notch.c) :: ((arC (cI .i8) 0 a1.Stock.Grain) ++ ((.sl none (a1.Marks.map Mark.c) :: []) : List AV)))))] []) (fun p => rRes p.2 p.1 = laws_FnExactShortWay_enc r) := by
 unfold laws_FnExactShortWay at h
 obtain ⟨r9, hx8, h⟩ := bind_some h
 refine Ev.enter (F := fun k => f4 (CN k) k) (fun k => callN_eq rfl Try.func4 rfl rfl rfl (by decide +kernel) (f4_eq _ _)) (sq (Rg (kx (bxI rfl rfl ⟨rfl, rfl, by decide⟩) (kx (mvO rfl) (Rn (hN rfl hZ) fun e1 h3 => sN (sq (Rg (kx (mvO rfl) (Rn (hA h3 (hV (.int .i64 1048576) rfl hZ)) fun e4 h6 h7 => sN (sq (Rg (kx (ldPA h6 rfl rfl) (kx (mvO h7) (kc (cl (v := .int .i64 r9) rfl (cns rfl (cns rfl rfl)) rfl (laws_szChain_ok a1 1048576 _ hx8) nm) (kx (mvO rfl) (Rn (hA h6 (hN rfl hZ)) fun e10 h12 h13 => sN (sq (sq (Rg (kx (mvO h13) (kx (bLss rfl rfl) (Rn (hA h12 (hN rfl hZ)) fun e14 h16 h17 => sN ?_))))))))))))))))))))))
 clear h3 h6 h12 h13
 rcases ite_some h with ⟨hb18, h⟩ | ⟨hb18, h⟩
 ·refine cT h17 hb18 (sq (Rg (kx (mvO rfl) (Rn (hV (.bool true) rfl hZ) fun e19 h21 => sN (xx (sR ?_))))))
  clear h16 h17
  obtain rfl := si h
  exact eR (resT h21 res0) rfl
 obtain ⟨⟨r23, r24, r25, r26, r27⟩, hx22, h⟩ := bind_some h
 obtain ⟨⟨r29, r30⟩, hx28, h⟩ := bind_some h
 obtain ⟨⟨r37, r38, r39, r40, r41⟩, hx36, h⟩ := bind_some h
 refine cF h17 hb18 (xx (sN (sq (Rg (kx (ldPA h16 rfl rfl) (kc (cl (v := .agg (.str r23 :: (.bool r24 :: (.sl (some 90) (r25.map Notch.c) :: ((arC (cI .i8) 0 r26) ++ ((.sl (some 57) (r27.map Mark.c) :: []) : List AV)))))) rfl (cns rfl rfl) rfl (laws_toChain_ok a1 _ hx22) nm) (kc (cl (v := .tup [.sl (some 9) (r29.map cS), .int .i64 r30]) rfl (cns rfl rfl) rfl (spec_ShortWay_ok (Chain.mk r23 (Half.mk r24 r25 r26) r27) _ hx28) nm) (kx (mvO rfl) (kx (exT rfl rfl) (kx (exT rfl rfl) (kx (mvO rfl) (kx (mvO rfl) (Rn (hA h16 (hN rfl (hN rfl hZ))) fun e31 h33 h34 h35 => sN (sq (Rg (kx (ldPA h33 rfl rfl) (Ev.nxcp (Ev.callT (v := .agg (.str r37 :: (.bool r38 :: (.sl (some 90) (r39.map Notch.c) :: ((arC (cI .i8) 0 r40) ++ ((.sl (some 57) (r41.map Mark.c) :: []) : List AV)))))) rfl (cns rfl rfl) rfl (laws_toChain_ok a1 _ hx36) (th_gen (v' := .agg (.str r37 :: (.bool r38 :: (.lsl ([] : Mem).length r39.length 0 r39.length :: ((arC (cI .i8) 0 r40) ++ ((.lsl (([] : Mem).length + 1) r41.length 0 r41.length :: []) : List AV)))))) (l := [⟨.grow, 90, 2, r39.map Notch.c⟩, ⟨.grow, 57, 2, r41.map Mark.c⟩]) (own_agg (oa1 rfl (oa1 rfl (oa1 (own1_row' (c := Notch.c) Notch.flF) (oaA (fun _ => own1_flat) (fun _ => rfl) (oa1 (own1_row' (c := Mark.c) Mark.flF) oa0)))))) (by simp [thaw, thaw2, thaw1, thawL, co90, co57, thA (c := (cI .i8)) (fun _ => rfl), thA0 (c := (cI .i8)) (fun _ => rfl)]) rfl rfl)) fun M44 hM45 => ?_)))))))))))))))))
 clear h16 h17
 have o46 : M44[([] : Mem).length]? = some (.live ⟨.grow, 90, 2, r39.map Notch.c⟩) := push_at hM45 0 rfl
 have ne47 : ([] : Mem).length ≠ (([] : Mem).length + 1) := by omega
 have o48 : M44[(([] : Mem).length + 1)]? = some (.live ⟨.grow, 57, 2, r41.map Mark.c⟩) := push_at hM45 1 rfl
 refine ku (alO zero39) fun M50 hM51 => ?_
 have o52 := push_old hM51 o46
 have ne53 := ne_new o46
 have o54 := push_old hM51 o48
 have ne55 := ne_new o48
 have o56 : M50[M44.length]? = some (.live ⟨.box, 39, 20, [(.str ([] : List UInt8) :: (.bool false :: (.nils :: ((arC (cI .i8) 0 (Ar.rep 16 0)) ++ ((.nils :: []) : List AV)))))]⟩) := push_new hM51
 refine kw (stO rfl rfl o56 rfl rfl ⟨rfl, ble rfl⟩ (all1 rfl (all1 rfl (all1 (okL o52 (by simp)) (oaS (fun _ => rfl) (all1 (okL o54 (by simp)) all0))))) rfl) fun M57 hM58 => ?_
 have o59 := set_ne hM58 ne53 o52
 have o60 := set_ne hM58 ne55 o54
 have o61 : M57[M44.length]? = some (.live ⟨.box, 39, 20, [(.str r37 :: (.bool r38 :: (.lsl ([] : Mem).length r39.length 0 r39.length :: ((arC (cI .i8) 0 r40) ++ ((.lsl (([] : Mem).length + 1) r41.length 0 r41.length :: []) : List AV)))))]⟩) := set_same hM58 o56
 obtain ⟨q778, hx68, h⟩ := bind_some h
 refine Rn (hA h33 (hA h34 (hA h35 (hV (.loc M44.length 1 0 0) rfl hZ)))) fun e62 h64 h65 h66 h67 => sN (sq (Rg (kx (ldOA (cs' := (.str r37 :: (.bool r38 :: (.lsl ([] : Mem).length r39.length 0 r39.length :: ((arC (cI .i8) 0 r40) ++ ((.lsl (([] : Mem).length + 1) r41.length 0 r41.length :: []) : List AV)))))) h67 o61 rfl rfl (ble rfl) rfl) ?_)))
 clear h33 h34 h35
 rcases q778 with r69 | _
 ·refine Ev.nxcp (Ev.callT (v := .tup [.sl (some 9) (r69.map cS), .int .i64 0]) rfl (cns rfl rfl) (ra1 (ra_agg (mp1 rfl (mp1 rfl (mp1 (ra1_row o59 rfl Notch.fl) (mpA (fun _ => rArg1_flat) (fun _ => rfl) (mp1 (ra1_row o60 rfl Mark.fl) mp0)))))) ra0) (impl_ShortWay_ok (Chain.mk r37 (Half.mk r38 r39 r40) r41) _ hx68) (th_gen (v' := .tup [.lsl M57.length r69.length 0 r69.length, .int .i64 0]) (l := [⟨.grow, 9, 1, r69.map cS⟩]) (own_tup (oa1 (own2_row (c := cS) (fun _ => rfl)) (oa1 rfl oa0))) (by simp [thaw, thaw2, thaw1, thawL, co9]) rfl rfl)) fun M71 hM72 => ?_
  have o73 := push_old hM72 o59
  have o74 := push_old hM72 o60
  have o75 := push_old hM72 o61
  have ne76 : ([] : Mem).length ≠ M57.length := by have := lt_of_get (M := M57) o59; omega
  have ne77 : (([] : Mem).length + 1) ≠ M57.length := by have := lt_of_get (M := M57) o60; omega
  have ne78 : M44.length ≠ M57.length := by have := lt_of_get (M := M57) o61; omega
  have o79 : M71[M57.length]? = some (.live ⟨.grow, 9, 1, r69.map cS⟩) := push_at hM72 0 rfl
  obtain ⟨r429, hr430, h⟩ := bind_some h
  refine kx (mvO rfl) (kx (exT rfl rfl) (kx (exT rfl rfl) (kx (mvO rfl) (kx (mvO rfl) (Rn (hA h64 (hA h65 (hA h66 (hA h67 (hV (.lsl M57.length r69.length 0 r69.length) rfl (hV (.int .i64 0) rfl hZ)))))) fun e80 h82 h83 h84 h85 h86 h87 => sN (sq (sq ?_)))))))
  clear h64 h65 h66 h67
  refine Ev.cut (Q1 := laws_FnExactShortWay_c1_Q a1 r29 r30 r37 r38 r39 r40 r41 r69 (([] : Mem).length) (([] : Mem).length + 1) M44.length M57.length r429) (by
      have h := hr430
      obtain ⟨r89, hx88, h⟩ := bind_some h
      refine Rg (kx (mvO h86) (kx (mvO h83) (kc (cl (v := .bool r89) rfl (cns rfl (cns rfl rfl)) (ra1 (ra1_row o79 rfl cS_fl) (ra1 rfl ra0)) (laws_eqStringS_ok r69 r29 _ hx88) (fun _ => rfl)) (kx (uNot rfl) (kx (mvO rfl) ?_)))))
      rcases ite_some h with ⟨hb90, h⟩ | ⟨hb90, h⟩
      ·refine kx (guF rfl (congrArg Bool.not hb90) (mvO h87)) (kx (guF rfl (congrArg Bool.not hb90) (mvO h84)) (kx (guF rfl (congrArg Bool.not hb90) (bNeq rfl rfl)) (kx (pkF rfl (congrArg Bool.not hb90) rfl) (Rn (hA h82 (hA h83 (hA h84 (hA h85 (hA h86 (hA h87 (hN rfl hZ))))))) fun e91 h93 h94 h95 h96 h97 h98 h99 => ?_))))
       clear h82 h83 h84 h85 h86 h87
       obtain rfl := si h
       exact kd (show laws_FnExactShortWay_c1_Q a1 r29 r30 r37 r38 r39 r40 r41 r69 (([] : Mem).length) (([] : Mem).length + 1) M44.length M57.length _ _ from ⟨rfl, h93, h94, h95, h96, h97, h98, h99, o73, o74, o75, o79⟩)
      refine kx (gsF rfl (congrArg Bool.not hb90)) (kx (gsF rfl (congrArg Bool.not hb90)) (kx (gsF rfl (congrArg Bool.not hb90)) (kx (pkT rfl (congrArg Bool.not hb90) rfl) (Rn (hA h82 (hA h83 (hA h84 (hA h85 (hA h86 (hA h87 (hV (.bool true) rfl hZ))))))) fun e100 h102 h103 h104 h105 h106 h107 h108 => ?_))))
      clear h82 h83 h84 h85 h86 h87
      obtain rfl := si h
      exact kd (show laws_FnExactShortWay_c1_Q a1 r29 r30 r37 r38 r39 r40 r41 r69 (([] : Mem).length) (([] : Mem).length + 1) M44.length M57.length _ _ from ⟨rfl, h102, h103, h104, h105, h106, h107, h108, o73, o74, o75, o79⟩)) ?_
  revert h hr430
  revert r429
  intro y111 hr430 h
  intro x e109 M110 hq428
  obtain ⟨rfl, h112, h113, h114, h115, h116, h117, h118, o119, o120, o121, o122⟩ := hq428
  refine sN ?_
  rcases ite_some h with ⟨hb123, h⟩ | ⟨hb123, h⟩
  ·refine cT h118 hb123 (sq (Rg (kx (mvO rfl) (Rn (hV (.bool false) rfl hZ) fun e124 h126 => sN (xx (sR ?_))))))
   clear h112 h113 h114 h115 h116 h117 h118
   obtain rfl := si h
   exact eR (resT h126 res0) rfl
  obtain ⟨⟨r128, r129, r130, r131, r132⟩, hx127, h⟩ := bind_some h
  obtain ⟨r134, hx133, h⟩ := bind_some h
  refine cF h118 hb123 (xx (sN (sq (sq (Rd (kf (ldOA (cs' := (.str r37 :: (.bool r38 :: (.lsl ([] : Mem).length r39.length 0 r39.length :: ((arC (cI .i8) 0 r40) ++ ((.lsl (([] : Mem).length + 1) r41.length 0 r41.length :: []) : List AV)))))) h115 o121 rfl rfl (ble rfl) rfl) (kf (ldPA h112 rfl rfl) (fc (cl (v := .agg (.str r128 :: (.bool r129 :: (.sl (some 90) (r130.map Notch.c) :: ((arC (cI .i8) 0 r131) ++ ((.sl (some 57) (r132.map Mark.c) :: []) : List AV)))))) rfl (cns rfl rfl) rfl (laws_toChain_ok a1 _ hx127) nm) (fc (cl (v := .bool r134) rfl (cns rfl (cns rfl rfl)) (ra1 (ra_agg (mp1 rfl (mp1 rfl (mp1 (ra1_row o119 rfl Notch.fl) (mpA (fun _ => rArg1_flat) (fun _ => rfl) (mp1 (ra1_row o120 rfl Mark.fl) mp0)))))) (ra1 rfl ra0)) (laws_eqChain_ok (Chain.mk r37 (Half.mk r38 r39 r40) r41) (Chain.mk r128 (Half.mk r129 r130 r131) r132) _ hx133) (fun _ => rfl)) (kf (uNot rfl) (fZ (Rn (hV (.pt none (.str a1.Debtor :: (.bool a1.Stock.Stock :: (.sl none (a1.Stock.Notches.map Notch.c) :: ((arC (cI .i8) 0 a1.Stock.Grain) ++ ((.sl none (a1.Marks.map Mark.c) :: []) : List AV)))))) h112 (hV (.sl (some 9) (r29.map cS)) h113 (hV (.int .i64 r30) h114 (hV (.loc M44.length 1 0 0) h115 (hV (.lsl M57.length r69.length 0 r69.length) h116 (hV (.int .i64 0) h117 (hN rfl hZ))))))) fun e135 h137 h138 h139 h140 h141 h142 h143 => sN ?_))))))))))))
  clear h112 h113 h114 h115 h116 h117 h118
  rcases ite_some h with ⟨hb144, h⟩ | ⟨hb144, h⟩
  ·obtain ⟨⟨r155, r156, r157⟩, hx154, h⟩ := bind_some h
   refine cF h143 (congrArg Bool.not hb144) (xx (sN (sq (Rg (kx (mvO rfl) (Rn (hA h137 (hA h138 (hA h139 (hA h140 (hA h141 (hA h142 (hV (.int .i64 1) rfl hZ))))))) fun e145 h147 h148 h149 h150 h151 h152 h153 => sN (sq (Rg (kx (ldOA (cs' := (.str r37 :: (.bool r38 :: (.lsl ([] : Mem).length r39.length 0 r39.length :: ((arC (cI .i8) 0 r40) ++ ((.lsl (([] : Mem).length + 1) r41.length 0 r41.length :: []) : List AV)))))) h150 o121 rfl rfl (ble rfl) rfl) (kx (mvO h153) (Ev.nxw (Ev.callW rfl (cns rfl (cns rfl rfl)) (laws_markChain_ll_ok r37 r38 r39 r40 r41 1 (([] : Mem).length) (([] : Mem).length + 1) ne47 M110 o119 o120 _ hx154)) fun v160 M158 hq159 => ?_)))))))))))
   clear h137 h138 h139 h140 h141 h142 h143
   obtain ⟨hv160, o161, o162, fr163, hl164, hl165⟩ := hq159
   have hv160 : v160 = .int .i64 r155 := hv160
   subst hv160
   have o166 : M158[([] : Mem).length]? = some (.live ⟨.grow, 90, 2, r156.map Notch.c⟩) := o161
   have o167 : M158[(([] : Mem).length + 1)]? = some (.live ⟨.grow, 57, 2, r157.map Mark.c⟩) := o162
   have hl164 : r156.length = r39.length := hl164
   have hl165 : r157.length = r41.length := hl165
   have o168 : M158[M44.length]? = some (.live ⟨.box, 39, 20, [(.str r37 :: (.bool r38 :: (.lsl ([] : Mem).length r39.length 0 r39.length :: ((arC (cI .i8) 0 r40) ++ ((.lsl (([] : Mem).length + 1) r41.length 0 r41.length :: []) : List AV)))))]⟩) := fr163 _ _ (niC (Ne.symm ne53) (niC (Ne.symm ne55) niN)) o121
   have o169 : M158[M57.length]? = some (.live ⟨.grow, 9, 1, r69.map cS⟩) := fr163 _ _ (niC (Ne.symm ne76) (niC (Ne.symm ne77) niN)) o122
   obtain ⟨r423, hr424, h⟩ := bind_some h
   refine kx (mvO rfl) (Rn (hA h147 (hA h148 (hA h149 (hA h151 (hA h152 (hN rfl hZ)))))) fun e170 h172 h173 h174 h175 h176 h177 => sN (sq (sq ?_)))
   clear h147 h148 h149 h150 h151 h152
   refine Ev.cut (Q1 := laws_FnExactShortWay_c2_Q a1 r29 r30 r69 M57.length r423) (by
       have h := hr424
       refine Rg (kx (mvO h177) (kx (bLss rfl rfl) (kx (mvO rfl) ?_)))
       rcases ite_some h with ⟨hb178, h⟩ | ⟨hb178, h⟩
       ·refine kx (gsF rfl hb178) (kx (gsF rfl hb178) (kc (Ev.gsF rfl hb178) (kx (gsF rfl hb178) (kx (pkT rfl hb178 rfl) (kx (mvO rfl) (kx (gsF rfl rfl) (kx (gsF rfl rfl) (kx (gsF rfl rfl) (kx (pkT rfl rfl rfl) (Rn (hA h172 (hA h173 (hA h174 (hA h175 (hV (.bool true) rfl hZ))))) fun e179 h181 h182 h183 h184 h185 => ?_))))))))))
        clear h172 h173 h174 h175 h176 h177
        obtain rfl := si h
        exact kd (show laws_FnExactShortWay_c2_Q a1 r29 r30 r69 M57.length _ _ from ⟨rfl, h181, h182, h183, h184, h185, o169⟩)
       obtain ⟨r187, hx186, h⟩ := bind_some h
       refine kx (guF rfl hb178 (mvO h175)) (kx (guF rfl hb178 (mvO h173)) (kc (Ev.guF rfl hb178 (cl (v := .bool r187) rfl (cns rfl (cns rfl rfl)) (ra1 (ra1_row o169 rfl cS_fl) (ra1 rfl ra0)) (laws_eqStringS_ok r69 r29 _ hx186) (fun _ => rfl))) (kx (guF rfl hb178 (uNot rfl)) (kx (pkF rfl hb178 rfl) (kx (mvO rfl) ?_)))))
       rcases ite_some h with ⟨hb188, h⟩ | ⟨hb188, h⟩
       ·refine kx (guF rfl (congrArg Bool.not hb188) (mvO h176)) (kx (guF rfl (congrArg Bool.not hb188) (mvO h174)) (kx (guF rfl (congrArg Bool.not hb188) (bNeq rfl rfl)) (kx (pkF rfl (congrArg Bool.not hb188) rfl) (Rn (hA h172 (hA h173 (hA h174 (hA h175 (hN rfl hZ))))) fun e189 h191 h192 h193 h194 h195 => ?_))))
        clear h172 h173 h174 h175 h176 h177
        obtain rfl := si h
        exact kd (show laws_FnExactShortWay_c2_Q a1 r29 r30 r69 M57.length _ _ from ⟨rfl, h191, h192, h193, h194, h195, o169⟩)
       refine kx (gsF rfl (congrArg Bool.not hb188)) (kx (gsF rfl (congrArg Bool.not hb188)) (kx (gsF rfl (congrArg Bool.not hb188)) (kx (pkT rfl (congrArg Bool.not hb188) rfl) (Rn (hA h172 (hA h173 (hA h174 (hA h175 (hV (.bool true) rfl hZ))))) fun e196 h198 h199 h200 h201 h202 => ?_))))
       clear h172 h173 h174 h175 h176 h177
       obtain rfl := si h
       exact kd (show laws_FnExactShortWay_c2_Q a1 r29 r30 r69 M57.length _ _ from ⟨rfl, h198, h199, h200, h201, h202, o169⟩)) ?_
   revert h hr424
   revert r423
   intro y205 hr424 h
   intro x e203 M204 hq422
   obtain ⟨rfl, h206, h207, h208, h209, h210, o211⟩ := hq422
   refine sN ?_
   rcases ite_some h with ⟨hb212, h⟩ | ⟨hb212, h⟩
   ·refine cT h210 hb212 (sq (Rg (kx (mvO rfl) (Rn (hV (.bool false) rfl hZ) fun e213 h215 => sN (xx (sR ?_))))))
    clear h206 h207 h208 h209 h210
    obtain rfl := si h
    exact eR (resT h215 res0) rfl
   obtain ⟨⟨r224, r225⟩, hx223, h⟩ := bind_some h
   refine cF h210 hb212 (xx (sN (sq (Rg (kx (mvO rfl) (Rn (hV (.pt none (.str a1.Debtor :: (.bool a1.Stock.Stock :: (.sl none (a1.Stock.Notches.map Notch.c) :: ((arC (cI .i8) 0 a1.Stock.Grain) ++ ((.sl none (a1.Marks.map Mark.c) :: []) : List AV)))))) h206 (hV (.sl (some 9) (r29.map cS)) h207 (hV (.int .i64 r30) h208 (hV (.lsl M57.length r69.length 0 r69.length) h209 (hV (.int .i64 1) rfl hZ))))) fun e216 h218 h219 h220 h221 h222 => sN (sq (Rg (kx (mvO h221) (kx (mvO h222) (Ev.nxw (Ev.callW rfl (cns rfl (cns rfl rfl)) (laws_markStringS_l_ok r69 1 M57.length M204 o211 _ hx223)) fun v228 M226 hq227 => ?_)))))))))))
   clear h206 h207 h208 h209 h210
   obtain ⟨hv228, o229, fr230, hl231⟩ := hq227
   have hv228 : v228 = .int .i64 r224 := hv228
   subst hv228
   have o232 : M226[M57.length]? = some (.live ⟨.grow, 9, 1, r225.map cS⟩) := o229
   have hl231 : r225.length = r69.length := hl231
   obtain ⟨r249, hx248, h⟩ := bind_some h
   refine kx (mvO rfl) (Rn (hA h218 (hA h219 (hA h220 (hA h221 (hN rfl hZ))))) fun e233 h235 h236 h237 h238 h239 => sN (sq (Rg (kx (mvO rfl) (Rn (hA h235 (hA h236 (hA h237 (hA h238 (hA h239 (hV (.int .i64 1) rfl hZ)))))) fun e240 h242 h243 h244 h245 h246 h247 => sN (sq (Rg (kx (mvO (lslL (L' := r225.length) h245 (by simp [hl164, hl165, hl231]))) (kx (mvO h247) (kc (cl (v := .int .i64 r249) rfl (cns rfl (cns rfl rfl)) (ra1 (ra1_row o232 rfl cS_fl) (ra1 rfl ra0)) (laws_heldStringS_ok r225 1 _ hx248) (fun _ => rfl)) (kx (mvO rfl) (Rn (hA h242 (hA h243 (hA h244 (hA h245 (hA h246 (hN rfl hZ)))))) fun e250 h252 h253 h254 h255 h256 h257 => sN (sq (sq (Rg (kx (mvO h257) (kx (bLss rfl rfl) (Rn (hA h252 (hA h253 (hA h254 (hA h255 (hA h256 (hA h257 (hN rfl hZ))))))) fun e258 h260 h261 h262 h263 h264 h265 h266 => sN ?_))))))))))))))))))
   clear h218 h219 h220 h221 h235 h236 h237 h238 h239 h242 h243 h244 h245 h246 h252 h253 h254 h255 h256 h257
   rcases ite_some h with ⟨hb267, h⟩ | ⟨hb267, h⟩
   ·refine cT h266 hb267 (sq (Rg (kx (mvO rfl) (Rn (hV (.bool false) rfl hZ) fun e268 h270 => sN (xx (sR ?_))))))
    clear h260 h261 h262 h263 h264 h265 h266
    obtain rfl := si h
    exact eR (resT h270 res0) rfl
   refine cF h266 hb267 (xx (sN (sq (sq (Rg (kx (mvO h265) (kx (mvO h264) (kx (bNeq rfl rfl) (Rn (hA h260 (hA h261 (hA h262 (hA h263 (hA h264 (hN rfl hZ)))))) fun e271 h273 h274 h275 h276 h277 h278 => sN ?_)))))))))
   clear h260 h261 h262 h263 h264 h265 h266
   rcases ite_some h with ⟨hb279, h⟩ | ⟨hb279, h⟩
   ·refine cT h278 hb279 (sq (Rg (kx (mvO rfl) (Rn (hV (.bool false) rfl hZ) fun e280 h282 => sN (xx (sR ?_))))))
    clear h273 h274 h275 h276 h277 h278
    obtain rfl := si h
    exact eR (resT h282 res0) rfl
   obtain ⟨⟨r284, r285, r286, r287, r288⟩, hx283, h⟩ := bind_some h
   obtain ⟨q421, hx289, h⟩ := bind_some h
   refine cF h278 hb279 (xx (sN (sq (Rg (kx (ldPA h273 rfl rfl) (kc (cl (v := .agg (.str r284 :: (.bool r285 :: (.sl (some 90) (r286.map Notch.c) :: ((arC (cI .i8) 0 r287) ++ ((.sl (some 57) (r288.map Mark.c) :: []) : List AV)))))) rfl (cns rfl rfl) rfl (laws_toChain_ok a1 _ hx283) nm) ?_))))))
   rcases q421 with r290 | _
   ·obtain ⟨r354, hr355, h⟩ := bind_some h
    refine kc (cl (v := .tup [.sl (some 9) (r290.map cS), .int .i64 0]) rfl (cns rfl rfl) rfl (impl_ShortWay_ok (Chain.mk r284 (Half.mk r285 r286 r287) r288) _ hx289) nm) (kx (mvO rfl) (kx (exT rfl rfl) (kx (exT rfl rfl) (kx (mvO rfl) (kx (mvO rfl) (Rn (hA h274 (hA h275 (hA h276 (hA h277 (hN rfl (hV (.int .i64 0) rfl hZ)))))) fun e291 h293 h294 h295 h296 h297 h298 => sN (sq (sq ?_))))))))
    clear h273 h274 h275 h276 h277 h278
    refine Ev.cut (Q1 := laws_FnExactShortWay_c3_Q r224 r225 M57.length r354) (by
        have h := hr355
        obtain ⟨r300, hx299, h⟩ := bind_some h
        refine Rg (kx (mvO h297) (kx (mvO h293) (kc (cl (v := .bool r300) rfl (cns rfl (cns rfl rfl)) rfl (laws_eqStringS_ok r290 r29 _ hx299) nm) (kx (uNot rfl) (kx (mvO rfl) ?_)))))
        rcases ite_some h with ⟨hb301, h⟩ | ⟨hb301, h⟩
        ·refine kx (guF rfl (congrArg Bool.not hb301) (mvO h298)) (kx (guF rfl (congrArg Bool.not hb301) (mvO h294)) (kx (guF rfl (congrArg Bool.not hb301) (bNeq rfl rfl)) (kx (pkF rfl (congrArg Bool.not hb301) rfl) (Rn (hA h295 (hA h296 (hN rfl hZ))) fun e302 h304 h305 h306 => ?_))))
         clear h293 h294 h295 h296 h297 h298
         obtain rfl := si h
         exact kd (show laws_FnExactShortWay_c3_Q r224 r225 M57.length _ _ from ⟨rfl, (lslL (L' := r225.length) h304 (by simp [hl164, hl165, hl231])), h305, h306, o232⟩)
        refine kx (gsF rfl (congrArg Bool.not hb301)) (kx (gsF rfl (congrArg Bool.not hb301)) (kx (gsF rfl (congrArg Bool.not hb301)) (kx (pkT rfl (congrArg Bool.not hb301) rfl) (Rn (hA h295 (hA h296 (hV (.bool true) rfl hZ))) fun e307 h309 h310 h311 => ?_))))
        clear h293 h294 h295 h296 h297 h298
        obtain rfl := si h
        exact kd (show laws_FnExactShortWay_c3_Q r224 r225 M57.length _ _ from ⟨rfl, (lslL (L' := r225.length) h309 (by simp [hl164, hl165, hl231])), h310, h311, o232⟩)) ?_
    revert h hr355
    revert r354
    intro y314 hr355 h
    intro x e312 M313 hq353
    obtain ⟨rfl, h315, h316, h317, o318⟩ := hq353
    refine sN ?_
    rcases ite_some h with ⟨hb319, h⟩ | ⟨hb319, h⟩
    ·refine cT h317 hb319 (sq (Rg (kx (mvO rfl) (Rn (hV (.bool false) rfl hZ) fun e320 h322 => sN (xx (sR ?_))))))
     clear h315 h316 h317
     obtain rfl := si h
     exact eR (resT h322 res0) rfl
    obtain ⟨r329, hx328, h⟩ := bind_some h
    refine cF h317 hb319 (xx (sN (sq (Rg (kx (mvO rfl) (Rn (hV (.lsl M57.length r225.length 0 r225.length) h315 (hV (.int .i64 r224) h316 (hV (.int .i64 1) rfl hZ))) fun e323 h325 h326 h327 => sN (sq (Rg (kx (mvO h325) (kx (mvO h327) (kc (cl (v := .int .i64 r329) rfl (cns rfl (cns rfl rfl)) (ra1 (ra1_row o318 rfl cS_fl) (ra1 rfl ra0)) (laws_heldStringS_ok r225 1 _ hx328) (fun _ => rfl)) (kx (mvO rfl) (Rn (hA h326 (hN rfl hZ)) fun e330 h332 h333 => sN (sq (sq (Rg (kx (mvO h333) (kx (bLss rfl rfl) (Rn (hA h332 (hA h333 (hN rfl hZ))) fun e334 h336 h337 h338 => sN ?_)))))))))))))))))))
    clear h315 h316 h317 h325 h326 h332 h333
    rcases ite_some h with ⟨hb339, h⟩ | ⟨hb339, h⟩
    ·refine cT h338 hb339 (sq (Rg (kx (mvO rfl) (Rn (hV (.bool false) rfl hZ) fun e340 h342 => sN (xx (sR ?_))))))
     clear h336 h337 h338
     obtain rfl := si h
     exact eR (resT h342 res0) rfl
    refine cF h338 hb339 (xx (sN (sq (sq (Rg (kx (mvO h337) (kx (mvO h336) (kx (bNeq rfl rfl) (Rn (hN rfl hZ) fun e343 h345 => sN ?_)))))))))
    clear h336 h337 h338
    rcases ite_some h with ⟨hb346, h⟩ | ⟨hb346, h⟩
    ·refine cT h345 hb346 (sq (Rg (kx (mvO rfl) (Rn (hV (.bool false) rfl hZ) fun e347 h349 => sN (xx (sR ?_))))))
     clear h345
     obtain rfl := si h
     exact eR (resT h349 res0) rfl
    refine cF h345 hb346 (xx (sN (sq (Rg (kx (mvO rfl) (Rn (hV (.bool true) rfl hZ) fun e350 h352 => sN (xx ?_)))))))
    clear h345
    obtain rfl := si h
    exact eR (resT h352 res0) rfl
   obtain ⟨r419, hr420, h⟩ := bind_some h
   refine kc (cl (v := .tup [.nils, .int .i64 1]) rfl (cns rfl rfl) rfl (impl_ShortWay_ok (Chain.mk r284 (Half.mk r285 r286 r287) r288) _ hx289) nm) (kx (mvO rfl) (kx (exT rfl rfl) (kx (exT rfl rfl) (kx (mvO rfl) (kx (mvO rfl) (Rn (hA h274 (hA h275 (hA h276 (hA h277 (hV .nils rfl (hV (.int .i64 1) rfl hZ)))))) fun e356 h358 h359 h360 h361 h362 h363 => sN (sq (sq ?_))))))))
   clear h273 h274 h275 h276 h277 h278
   refine Ev.cut (Q1 := laws_FnExactShortWay_c4_Q r224 r225 M57.length r419) (by
       have h := hr420
       obtain ⟨r365, hx364, h⟩ := bind_some h
       refine Rg (kx (mvO h362) (kx (mvO h358) (kc (cl (v := .bool r365) rfl (cns rfl (cns rfl rfl)) rfl (laws_eqStringS_ok ([] : List (List UInt8)) r29 _ hx364) nm) (kx (uNot rfl) (kx (mvO rfl) ?_)))))
       rcases ite_some h with ⟨hb366, h⟩ | ⟨hb366, h⟩
       ·refine kx (guF rfl (congrArg Bool.not hb366) (mvO h363)) (kx (guF rfl (congrArg Bool.not hb366) (mvO h359)) (kx (guF rfl (congrArg Bool.not hb366) (bNeq rfl rfl)) (kx (pkF rfl (congrArg Bool.not hb366) rfl) (Rn (hA h360 (hA h361 (hN rfl hZ))) fun e367 h369 h370 h371 => ?_))))
        clear h358 h359 h360 h361 h362 h363
        obtain rfl := si h
        exact kd (show laws_FnExactShortWay_c4_Q r224 r225 M57.length _ _ from ⟨rfl, (lslL (L' := r225.length) h369 (by simp [hl164, hl165, hl231])), h370, h371, o232⟩)
       refine kx (gsF rfl (congrArg Bool.not hb366)) (kx (gsF rfl (congrArg Bool.not hb366)) (kx (gsF rfl (congrArg Bool.not hb366)) (kx (pkT rfl (congrArg Bool.not hb366) rfl) (Rn (hA h360 (hA h361 (hV (.bool true) rfl hZ))) fun e372 h374 h375 h376 => ?_))))
       clear h358 h359 h360 h361 h362 h363
       obtain rfl := si h
       exact kd (show laws_FnExactShortWay_c4_Q r224 r225 M57.length _ _ from ⟨rfl, (lslL (L' := r225.length) h374 (by simp [hl164, hl165, hl231])), h375, h376, o232⟩)) ?_
   revert h hr420
   revert r419
   intro y379 hr420 h
   intro x e377 M378 hq418
   obtain ⟨rfl, h380, h381, h382, o383⟩ := hq418
   refine sN ?_
   rcases ite_some h with ⟨hb384, h⟩ | ⟨hb384, h⟩
   ·refine cT h382 hb384 (sq (Rg (kx (mvO rfl) (Rn (hV (.bool false) rfl hZ) fun e385 h387 => sN (xx (sR ?_))))))
    clear h380 h381 h382
    obtain rfl := si h
    exact eR (resT h387 res0) rfl
   obtain ⟨r394, hx393, h⟩ := bind_some h
   refine cF h382 hb384 (xx (sN (sq (Rg (kx (mvO rfl) (Rn (hV (.lsl M57.length r225.length 0 r225.length) h380 (hV (.int .i64 r224) h381 (hV (.int .i64 1) rfl hZ))) fun e388 h390 h391 h392 => sN (sq (Rg (kx (mvO h390) (kx (mvO h392) (kc (cl (v := .int .i64 r394) rfl (cns rfl (cns rfl rfl)) (ra1 (ra1_row o383 rfl cS_fl) (ra1 rfl ra0)) (laws_heldStringS_ok r225 1 _ hx393) (fun _ => rfl)) (kx (mvO rfl) (Rn (hA h391 (hN rfl hZ)) fun e395 h397 h398 => sN (sq (sq (Rg (kx (mvO h398) (kx (bLss rfl rfl) (Rn (hA h397 (hA h398 (hN rfl hZ))) fun e399 h401 h402 h403 => sN ?_)))))))))))))))))))
   clear h380 h381 h382 h390 h391 h397 h398
   rcases ite_some h with ⟨hb404, h⟩ | ⟨hb404, h⟩
   ·refine cT h403 hb404 (sq (Rg (kx (mvO rfl) (Rn (hV (.bool false) rfl hZ) fun e405 h407 => sN (xx (sR ?_))))))
    clear h401 h402 h403
    obtain rfl := si h
    exact eR (resT h407 res0) rfl
   refine cF h403 hb404 (xx (sN (sq (sq (Rg (kx (mvO h402) (kx (mvO h401) (kx (bNeq rfl rfl) (Rn (hN rfl hZ) fun e408 h410 => sN ?_)))))))))
   clear h401 h402 h403
   rcases ite_some h with ⟨hb411, h⟩ | ⟨hb411, h⟩
   ·refine cT h410 hb411 (sq (Rg (kx (mvO rfl) (Rn (hV (.bool false) rfl hZ) fun e412 h414 => sN (xx (sR ?_))))))
    clear h410
    obtain rfl := si h
    exact eR (resT h414 res0) rfl
   refine cF h410 hb411 (xx (sN (sq (Rg (kx (mvO rfl) (Rn (hV (.bool true) rfl hZ) fun e415 h417 => sN (xx ?_)))))))
   clear h410
   obtain rfl := si h
   exact eR (resT h417 res0) rfl
  refine cT h143 (congrArg Bool.not hb144) (sq (Rg (kx (mvO rfl) (Rn (hV (.bool false) rfl hZ) fun e425 h427 => sN (xx (sR ?_))))))
  clear h137 h138 h139 h140 h141 h142 h143
  obtain rfl := si h
  exact eR (resT h427 res0) rfl
 refine Ev.nxcp (Ev.callT (v := .tup [.nils, .int .i64 1]) rfl (cns rfl rfl) (ra1 (ra_agg (mp1 rfl (mp1 rfl (mp1 (ra1_row o59 rfl Notch.fl) (mpA (fun _ => rArg1_flat) (fun _ => rfl) (mp1 (ra1_row o60 rfl Mark.fl) mp0)))))) ra0) (impl_ShortWay_ok (Chain.mk r37 (Half.mk r38 r39 r40) r41) _ hx68) (th_gen (v' := .tup [.nils, .int .i64 1]) (l := []) (own_tup (oa1 rfl (oa1 rfl oa0))) (by simp [thaw, thaw2, thaw1, thawL, thaw]) rfl rfl)) fun M431 hM432 => ?_
 have o433 := push_old hM432 o59
 have o434 := push_old hM432 o60
 have o435 := push_old hM432 o61
 obtain ⟨r776, hr777, h⟩ := bind_some h
 refine kx (mvO rfl) (kx (exT rfl rfl) (kx (exT rfl rfl) (kx (mvO rfl) (kx (mvO rfl) (Rn (hA h64 (hA h65 (hA h66 (hA h67 (hV .nils rfl (hV (.int .i64 1) rfl hZ)))))) fun e436 h438 h439 h440 h441 h442 h443 => sN (sq (sq ?_)))))))
 clear h64 h65 h66 h67
 refine Ev.cut (Q1 := laws_FnExactShortWay_c5_Q a1 r29 r30 r37 r38 r39 r40 r41 (([] : Mem).length) (([] : Mem).length + 1) M44.length r776) (by
     have h := hr777
     obtain ⟨r445, hx444, h⟩ := bind_some h
     refine Rg (kx (mvO h442) (kx (mvO h439) (kc (cl (v := .bool r445) rfl (cns rfl (cns rfl rfl)) rfl (laws_eqStringS_ok ([] : List (List UInt8)) r29 _ hx444) nm) (kx (uNot rfl) (kx (mvO rfl) ?_)))))
     rcases ite_some h with ⟨hb446, h⟩ | ⟨hb446, h⟩
     ·refine kx (guF rfl (congrArg Bool.not hb446) (mvO h443)) (kx (guF rfl (congrArg Bool.not hb446) (mvO h440)) (kx (guF rfl (congrArg Bool.not hb446) (bNeq rfl rfl)) (kx (pkF rfl (congrArg Bool.not hb446) rfl) (Rn (hA h438 (hA h439 (hA h440 (hA h441 (hA h442 (hA h443 (hN rfl hZ))))))) fun e447 h449 h450 h451 h452 h453 h454 h455 => ?_))))
      clear h438 h439 h440 h441 h442 h443
      obtain rfl := si h
      exact kd (show laws_FnExactShortWay_c5_Q a1 r29 r30 r37 r38 r39 r40 r41 (([] : Mem).length) (([] : Mem).length + 1) M44.length _ _ from ⟨rfl, h449, h450, h451, h452, h453, h454, h455, o433, o434, o435⟩)
     refine kx (gsF rfl (congrArg Bool.not hb446)) (kx (gsF rfl (congrArg Bool.not hb446)) (kx (gsF rfl (congrArg Bool.not hb446)) (kx (pkT rfl (congrArg Bool.not hb446) rfl) (Rn (hA h438 (hA h439 (hA h440 (hA h441 (hA h442 (hA h443 (hV (.bool true) rfl hZ))))))) fun e456 h458 h459 h460 h461 h462 h463 h464 => ?_))))
     clear h438 h439 h440 h441 h442 h443
     obtain rfl := si h
     exact kd (show laws_FnExactShortWay_c5_Q a1 r29 r30 r37 r38 r39 r40 r41 (([] : Mem).length) (([] : Mem).length + 1) M44.length _ _ from ⟨rfl, h458, h459, h460, h461, h462, h463, h464, o433, o434, o435⟩)) ?_
 revert h hr777
 revert r776
 intro y467 hr777 h
 intro x e465 M466 hq775
 obtain ⟨rfl, h468, h469, h470, h471, h472, h473, h474, o475, o476, o477⟩ := hq775
 refine sN ?_
 rcases ite_some h with ⟨hb478, h⟩ | ⟨hb478, h⟩
 ·refine cT h474 hb478 (sq (Rg (kx (mvO rfl) (Rn (hV (.bool false) rfl hZ) fun e479 h481 => sN (xx (sR ?_))))))
  clear h468 h469 h470 h471 h472 h473 h474
  obtain rfl := si h
  exact eR (resT h481 res0) rfl
 obtain ⟨⟨r483, r484, r485, r486, r487⟩, hx482, h⟩ := bind_some h
 obtain ⟨r489, hx488, h⟩ := bind_some h
 refine cF h474 hb478 (xx (sN (sq (sq (Rd (kf (ldOA (cs' := (.str r37 :: (.bool r38 :: (.lsl ([] : Mem).length r39.length 0 r39.length :: ((arC (cI .i8) 0 r40) ++ ((.lsl (([] : Mem).length + 1) r41.length 0 r41.length :: []) : List AV)))))) h471 o477 rfl rfl (ble rfl) rfl) (kf (ldPA h468 rfl rfl) (fc (cl (v := .agg (.str r483 :: (.bool r484 :: (.sl (some 90) (r485.map Notch.c) :: ((arC (cI .i8) 0 r486) ++ ((.sl (some 57) (r487.map Mark.c) :: []) : List AV)))))) rfl (cns rfl rfl) rfl (laws_toChain_ok a1 _ hx482) nm) (fc (cl (v := .bool r489) rfl (cns rfl (cns rfl rfl)) (ra1 (ra_agg (mp1 rfl (mp1 rfl (mp1 (ra1_row o475 rfl Notch.fl) (mpA (fun _ => rArg1_flat) (fun _ => rfl) (mp1 (ra1_row o476 rfl Mark.fl) mp0)))))) (ra1 rfl ra0)) (laws_eqChain_ok (Chain.mk r37 (Half.mk r38 r39 r40) r41) (Chain.mk r483 (Half.mk r484 r485 r486) r487) _ hx488) (fun _ => rfl)) (kf (uNot rfl) (fZ (Rn (hV (.pt none (.str a1.Debtor :: (.bool a1.Stock.Stock :: (.sl none (a1.Stock.Notches.map Notch.c) :: ((arC (cI .i8) 0 a1.Stock.Grain) ++ ((.sl none (a1.Marks.map Mark.c) :: []) : List AV)))))) h468 (hV (.sl (some 9) (r29.map cS)) h469 (hV (.int .i64 r30) h470 (hV (.loc M44.length 1 0 0) h471 (hV .nils h472 (hV (.int .i64 1) h473 (hN rfl hZ))))))) fun e490 h492 h493 h494 h495 h496 h497 h498 => sN ?_))))))))))))
 clear h468 h469 h470 h471 h472 h473 h474
 rcases ite_some h with ⟨hb499, h⟩ | ⟨hb499, h⟩
 ·obtain ⟨⟨r510, r511, r512⟩, hx509, h⟩ := bind_some h
  refine cF h498 (congrArg Bool.not hb499) (xx (sN (sq (Rg (kx (mvO rfl) (Rn (hA h492 (hA h493 (hA h494 (hA h495 (hA h496 (hA h497 (hV (.int .i64 1) rfl hZ))))))) fun e500 h502 h503 h504 h505 h506 h507 h508 => sN (sq (Rg (kx (ldOA (cs' := (.str r37 :: (.bool r38 :: (.lsl ([] : Mem).length r39.length 0 r39.length :: ((arC (cI .i8) 0 r40) ++ ((.lsl (([] : Mem).length + 1) r41.length 0 r41.length :: []) : List AV)))))) h505 o477 rfl rfl (ble rfl) rfl) (kx (mvO h508) (Ev.nxw (Ev.callW rfl (cns rfl (cns rfl rfl)) (laws_markChain_ll_ok r37 r38 r39 r40 r41 1 (([] : Mem).length) (([] : Mem).length + 1) ne47 M466 o475 o476 _ hx509)) fun v515 M513 hq514 => ?_)))))))))))
  clear h492 h493 h494 h495 h496 h497 h498
  obtain ⟨hv515, o516, o517, fr518, hl519, hl520⟩ := hq514
  have hv515 : v515 = .int .i64 r510 := hv515
  subst hv515
  have o521 : M513[([] : Mem).length]? = some (.live ⟨.grow, 90, 2, r511.map Notch.c⟩) := o516
  have o522 : M513[(([] : Mem).length + 1)]? = some (.live ⟨.grow, 57, 2, r512.map Mark.c⟩) := o517
  have hl519 : r511.length = r39.length := hl519
  have hl520 : r512.length = r41.length := hl520
  have o523 : M513[M44.length]? = some (.live ⟨.box, 39, 20, [(.str r37 :: (.bool r38 :: (.lsl ([] : Mem).length r39.length 0 r39.length :: ((arC (cI .i8) 0 r40) ++ ((.lsl (([] : Mem).length + 1) r41.length 0 r41.length :: []) : List AV)))))]⟩) := fr518 _ _ (niC (Ne.symm ne53) (niC (Ne.symm ne55) niN)) o477
  obtain ⟨r770, hr771, h⟩ := bind_some h
  refine kx (mvO rfl) (Rn (hA h502 (hA h503 (hA h504 (hA h506 (hA h507 (hN rfl hZ)))))) fun e524 h526 h527 h528 h529 h530 h531 => sN (sq (sq ?_)))
  clear h502 h503 h504 h505 h506 h507
  refine Ev.cut (Q1 := laws_FnExactShortWay_c6_Q a1 r29 r30 r770) (by
      have h := hr771
      refine Rg (kx (mvO h531) (kx (bLss rfl rfl) (kx (mvO rfl) ?_)))
      rcases ite_some h with ⟨hb532, h⟩ | ⟨hb532, h⟩
      ·refine kx (gsF rfl hb532) (kx (gsF rfl hb532) (kc (Ev.gsF rfl hb532) (kx (gsF rfl hb532) (kx (pkT rfl hb532 rfl) (kx (mvO rfl) (kx (gsF rfl rfl) (kx (gsF rfl rfl) (kx (gsF rfl rfl) (kx (pkT rfl rfl rfl) (Rn (hA h526 (hA h527 (hA h528 (hA h529 (hV (.bool true) rfl hZ))))) fun e533 h535 h536 h537 h538 h539 => ?_))))))))))
       clear h526 h527 h528 h529 h530 h531
       obtain rfl := si h
       exact kd (show laws_FnExactShortWay_c6_Q a1 r29 r30 _ _ from ⟨rfl, h535, h536, h537, h538, h539⟩)
      obtain ⟨r541, hx540, h⟩ := bind_some h
      refine kx (guF rfl hb532 (mvO h529)) (kx (guF rfl hb532 (mvO h527)) (kc (Ev.guF rfl hb532 (cl (v := .bool r541) rfl (cns rfl (cns rfl rfl)) rfl (laws_eqStringS_ok ([] : List (List UInt8)) r29 _ hx540) nm)) (kx (guF rfl hb532 (uNot rfl)) (kx (pkF rfl hb532 rfl) (kx (mvO rfl) ?_)))))
      rcases ite_some h with ⟨hb542, h⟩ | ⟨hb542, h⟩
      ·refine kx (guF rfl (congrArg Bool.not hb542) (mvO h530)) (kx (guF rfl (congrArg Bool.not hb542) (mvO h528)) (kx (guF rfl (congrArg Bool.not hb542) (bNeq rfl rfl)) (kx (pkF rfl (congrArg Bool.not hb542) rfl) (Rn (hA h526 (hA h527 (hA h528 (hA h529 (hN rfl hZ))))) fun e543 h545 h546 h547 h548 h549 => ?_))))
       clear h526 h527 h528 h529 h530 h531
       obtain rfl := si h
       exact kd (show laws_FnExactShortWay_c6_Q a1 r29 r30 _ _ from ⟨rfl, h545, h546, h547, h548, h549⟩)
      refine kx (gsF rfl (congrArg Bool.not hb542)) (kx (gsF rfl (congrArg Bool.not hb542)) (kx (gsF rfl (congrArg Bool.not hb542)) (kx (pkT rfl (congrArg Bool.not hb542) rfl) (Rn (hA h526 (hA h527 (hA h528 (hA h529 (hV (.bool true) rfl hZ))))) fun e550 h552 h553 h554 h555 h556 => ?_))))
      clear h526 h527 h528 h529 h530 h531
      obtain rfl := si h
      exact kd (show laws_FnExactShortWay_c6_Q a1 r29 r30 _ _ from ⟨rfl, h552, h553, h554, h555, h556⟩)) ?_
  revert h hr771
  revert r770
  intro y559 hr771 h
  intro x e557 M558 hq769
  obtain ⟨rfl, h560, h561, h562, h563, h564⟩ := hq769
  refine sN ?_
  rcases ite_some h with ⟨hb565, h⟩ | ⟨hb565, h⟩
  ·refine cT h564 hb565 (sq (Rg (kx (mvO rfl) (Rn (hV (.bool false) rfl hZ) fun e566 h568 => sN (xx (sR ?_))))))
   clear h560 h561 h562 h563 h564
   obtain rfl := si h
   exact eR (resT h568 res0) rfl
  obtain ⟨r577, hx576, h⟩ := bind_some h
  refine cF h564 hb565 (xx (sN (sq (Rg (kx (mvO rfl) (Rn (hV (.pt none (.str a1.Debtor :: (.bool a1.Stock.Stock :: (.sl none (a1.Stock.Notches.map Notch.c) :: ((arC (cI .i8) 0 a1.Stock.Grain) ++ ((.sl none (a1.Marks.map Mark.c) :: []) : List AV)))))) h560 (hV (.sl (some 9) (r29.map cS)) h561 (hV (.int .i64 r30) h562 (hV .nils h563 (hV (.int .i64 1) rfl hZ))))) fun e569 h571 h572 h573 h574 h575 => sN (sq (Rg (kx (mvO h574) (kx (mvO h575) (Ev.nxw (Ev.callW rfl (cns rfl (cns rfl rfl)) (laws_markStringS_n_ok 1 M558 _ hx576)) fun v580 M578 hq579 => ?_)))))))))))
  clear h560 h561 h562 h563 h564
  obtain ⟨hv580, fr581⟩ := hq579
  have hv580 : v580 = .int .i64 r577 := hv580
  subst hv580
  obtain ⟨r598, hx597, h⟩ := bind_some h
  refine kx (mvO rfl) (Rn (hA h571 (hA h572 (hA h573 (hA h574 (hN rfl hZ))))) fun e582 h584 h585 h586 h587 h588 => sN (sq (Rg (kx (mvO rfl) (Rn (hA h584 (hA h585 (hA h586 (hA h587 (hA h588 (hV (.int .i64 1) rfl hZ)))))) fun e589 h591 h592 h593 h594 h595 h596 => sN (sq (Rg (kx (mvO h594) (kx (mvO h596) (kc (cl (v := .int .i64 r598) rfl (cns rfl (cns rfl rfl)) rfl (laws_heldStringS_ok ([] : List (List UInt8)) 1 _ hx597) nm) (kx (mvO rfl) (Rn (hA h591 (hA h592 (hA h593 (hA h594 (hA h595 (hN rfl hZ)))))) fun e599 h601 h602 h603 h604 h605 h606 => sN (sq (sq (Rg (kx (mvO h606) (kx (bLss rfl rfl) (Rn (hA h601 (hA h602 (hA h603 (hA h604 (hA h605 (hA h606 (hN rfl hZ))))))) fun e607 h609 h610 h611 h612 h613 h614 h615 => sN ?_))))))))))))))))))
  clear h571 h572 h573 h574 h584 h585 h586 h587 h588 h591 h592 h593 h594 h595 h601 h602 h603 h604 h605 h606
  rcases ite_some h with ⟨hb616, h⟩ | ⟨hb616, h⟩
  ·refine cT h615 hb616 (sq (Rg (kx (mvO rfl) (Rn (hV (.bool false) rfl hZ) fun e617 h619 => sN (xx (sR ?_))))))
   clear h609 h610 h611 h612 h613 h614 h615
   obtain rfl := si h
   exact eR (resT h619 res0) rfl
  refine cF h615 hb616 (xx (sN (sq (sq (Rg (kx (mvO h614) (kx (mvO h613) (kx (bNeq rfl rfl) (Rn (hA h609 (hA h610 (hA h611 (hA h612 (hA h613 (hN rfl hZ)))))) fun e620 h622 h623 h624 h625 h626 h627 => sN ?_)))))))))
  clear h609 h610 h611 h612 h613 h614 h615
  rcases ite_some h with ⟨hb628, h⟩ | ⟨hb628, h⟩
  ·refine cT h627 hb628 (sq (Rg (kx (mvO rfl) (Rn (hV (.bool false) rfl hZ) fun e629 h631 => sN (xx (sR ?_))))))
   clear h622 h623 h624 h625 h626 h627
   obtain rfl := si h
   exact eR (resT h631 res0) rfl
  obtain ⟨⟨r633, r634, r635, r636, r637⟩, hx632, h⟩ := bind_some h
  obtain ⟨q768, hx638, h⟩ := bind_some h
  refine cF h627 hb628 (xx (sN (sq (Rg (kx (ldPA h622 rfl rfl) (kc (cl (v := .agg (.str r633 :: (.bool r634 :: (.sl (some 90) (r635.map Notch.c) :: ((arC (cI .i8) 0 r636) ++ ((.sl (some 57) (r637.map Mark.c) :: []) : List AV)))))) rfl (cns rfl rfl) rfl (laws_toChain_ok a1 _ hx632) nm) ?_))))))
  rcases q768 with r639 | _
  ·obtain ⟨r702, hr703, h⟩ := bind_some h
   refine kc (cl (v := .tup [.sl (some 9) (r639.map cS), .int .i64 0]) rfl (cns rfl rfl) rfl (impl_ShortWay_ok (Chain.mk r633 (Half.mk r634 r635 r636) r637) _ hx638) nm) (kx (mvO rfl) (kx (exT rfl rfl) (kx (exT rfl rfl) (kx (mvO rfl) (kx (mvO rfl) (Rn (hA h623 (hA h624 (hA h625 (hA h626 (hN rfl (hV (.int .i64 0) rfl hZ)))))) fun e640 h642 h643 h644 h645 h646 h647 => sN (sq (sq ?_))))))))
   clear h622 h623 h624 h625 h626 h627
   refine Ev.cut (Q1 := laws_FnExactShortWay_c7_Q r577 r702) (by
       have h := hr703
       obtain ⟨r649, hx648, h⟩ := bind_some h
       refine Rg (kx (mvO h646) (kx (mvO h642) (kc (cl (v := .bool r649) rfl (cns rfl (cns rfl rfl)) rfl (laws_eqStringS_ok r639 r29 _ hx648) nm) (kx (uNot rfl) (kx (mvO rfl) ?_)))))
       rcases ite_some h with ⟨hb650, h⟩ | ⟨hb650, h⟩
       ·refine kx (guF rfl (congrArg Bool.not hb650) (mvO h647)) (kx (guF rfl (congrArg Bool.not hb650) (mvO h643)) (kx (guF rfl (congrArg Bool.not hb650) (bNeq rfl rfl)) (kx (pkF rfl (congrArg Bool.not hb650) rfl) (Rn (hA h644 (hA h645 (hN rfl hZ))) fun e651 h653 h654 h655 => ?_))))
        clear h642 h643 h644 h645 h646 h647
        obtain rfl := si h
        exact kd (show laws_FnExactShortWay_c7_Q r577 _ _ from ⟨rfl, h653, h654, h655⟩)
       refine kx (gsF rfl (congrArg Bool.not hb650)) (kx (gsF rfl (congrArg Bool.not hb650)) (kx (gsF rfl (congrArg Bool.not hb650)) (kx (pkT rfl (congrArg Bool.not hb650) rfl) (Rn (hA h644 (hA h645 (hV (.bool true) rfl hZ))) fun e656 h658 h659 h660 => ?_))))
       clear h642 h643 h644 h645 h646 h647
       obtain rfl := si h
       exact kd (show laws_FnExactShortWay_c7_Q r577 _ _ from ⟨rfl, h658, h659, h660⟩)) ?_
   revert h hr703
   revert r702
   intro y663 hr703 h
   intro x e661 M662 hq701
   obtain ⟨rfl, h664, h665, h666⟩ := hq701
   refine sN ?_
   rcases ite_some h with ⟨hb667, h⟩ | ⟨hb667, h⟩
   ·refine cT h666 hb667 (sq (Rg (kx (mvO rfl) (Rn (hV (.bool false) rfl hZ) fun e668 h670 => sN (xx (sR ?_))))))
    clear h664 h665 h666
    obtain rfl := si h
    exact eR (resT h670 res0) rfl
   obtain ⟨r677, hx676, h⟩ := bind_some h
   refine cF h666 hb667 (xx (sN (sq (Rg (kx (mvO rfl) (Rn (hV .nils h664 (hV (.int .i64 r577) h665 (hV (.int .i64 1) rfl hZ))) fun e671 h673 h674 h675 => sN (sq (Rg (kx (mvO h673) (kx (mvO h675) (kc (cl (v := .int .i64 r677) rfl (cns rfl (cns rfl rfl)) rfl (laws_heldStringS_ok ([] : List (List UInt8)) 1 _ hx676) nm) (kx (mvO rfl) (Rn (hA h674 (hN rfl hZ)) fun e678 h680 h681 => sN (sq (sq (Rg (kx (mvO h681) (kx (bLss rfl rfl) (Rn (hA h680 (hA h681 (hN rfl hZ))) fun e682 h684 h685 h686 => sN ?_)))))))))))))))))))
   clear h664 h665 h666 h673 h674 h680 h681
   rcases ite_some h with ⟨hb687, h⟩ | ⟨hb687, h⟩
   ·refine cT h686 hb687 (sq (Rg (kx (mvO rfl) (Rn (hV (.bool false) rfl hZ) fun e688 h690 => sN (xx (sR ?_))))))
    clear h684 h685 h686
    obtain rfl := si h
    exact eR (resT h690 res0) rfl
   refine cF h686 hb687 (xx (sN (sq (sq (Rg (kx (mvO h685) (kx (mvO h684) (kx (bNeq rfl rfl) (Rn (hN rfl hZ) fun e691 h693 => sN ?_)))))))))
   clear h684 h685 h686
   rcases ite_some h with ⟨hb694, h⟩ | ⟨hb694, h⟩
   ·refine cT h693 hb694 (sq (Rg (kx (mvO rfl) (Rn (hV (.bool false) rfl hZ) fun e695 h697 => sN (xx (sR ?_))))))
    clear h693
    obtain rfl := si h
    exact eR (resT h697 res0) rfl
   refine cF h693 hb694 (xx (sN (sq (Rg (kx (mvO rfl) (Rn (hV (.bool true) rfl hZ) fun e698 h700 => sN (xx ?_)))))))
   clear h693
   obtain rfl := si h
   exact eR (resT h700 res0) rfl
  obtain ⟨r766, hr767, h⟩ := bind_some h
  refine kc (cl (v := .tup [.nils, .int .i64 1]) rfl (cns rfl rfl) rfl (impl_ShortWay_ok (Chain.mk r633 (Half.mk r634 r635 r636) r637) _ hx638) nm) (kx (mvO rfl) (kx (exT rfl rfl) (kx (exT rfl rfl) (kx (mvO rfl) (kx (mvO rfl) (Rn (hA h623 (hA h624 (hA h625 (hA h626 (hV .nils rfl (hV (.int .i64 1) rfl hZ)))))) fun e704 h706 h707 h708 h709 h710 h711 => sN (sq (sq ?_))))))))
  clear h622 h623 h624 h625 h626 h627
  refine Ev.cut (Q1 := laws_FnExactShortWay_c8_Q r577 r766) (by
      have h := hr767
      obtain ⟨r713, hx712, h⟩ := bind_some h
      refine Rg (kx (mvO h710) (kx (mvO h706) (kc (cl (v := .bool r713) rfl (cns rfl (cns rfl rfl)) rfl (laws_eqStringS_ok ([] : List (List UInt8)) r29 _ hx712) nm) (kx (uNot rfl) (kx (mvO rfl) ?_)))))
      rcases ite_some h with ⟨hb714, h⟩ | ⟨hb714, h⟩
      ·refine kx (guF rfl (congrArg Bool.not hb714) (mvO h711)) (kx (guF rfl (congrArg Bool.not hb714) (mvO h707)) (kx (guF rfl (congrArg Bool.not hb714) (bNeq rfl rfl)) (kx (pkF rfl (congrArg Bool.not hb714) rfl) (Rn (hA h708 (hA h709 (hN rfl hZ))) fun e715 h717 h718 h719 => ?_))))
       clear h706 h707 h708 h709 h710 h711
       obtain rfl := si h
       exact kd (show laws_FnExactShortWay_c8_Q r577 _ _ from ⟨rfl, h717, h718, h719⟩)
      refine kx (gsF rfl (congrArg Bool.not hb714)) (kx (gsF rfl (congrArg Bool.not hb714)) (kx (gsF rfl (congrArg Bool.not hb714)) (kx (pkT rfl (congrArg Bool.not hb714) rfl) (Rn (hA h708 (hA h709 (hV (.bool true) rfl hZ))) fun e720 h722 h723 h724 => ?_))))
      clear h706 h707 h708 h709 h710 h711
      obtain rfl := si h
      exact kd (show laws_FnExactShortWay_c8_Q r577 _ _ from ⟨rfl, h722, h723, h724⟩)) ?_
  revert h hr767
  revert r766
  intro y727 hr767 h
  intro x e725 M726 hq765
  obtain ⟨rfl, h728, h729, h730⟩ := hq765
  refine sN ?_
  rcases ite_some h with ⟨hb731, h⟩ | ⟨hb731, h⟩
  ·refine cT h730 hb731 (sq (Rg (kx (mvO rfl) (Rn (hV (.bool false) rfl hZ) fun e732 h734 => sN (xx (sR ?_))))))
   clear h728 h729 h730
   obtain rfl := si h
   exact eR (resT h734 res0) rfl
  obtain ⟨r741, hx740, h⟩ := bind_some h
  refine cF h730 hb731 (xx (sN (sq (Rg (kx (mvO rfl) (Rn (hV .nils h728 (hV (.int .i64 r577) h729 (hV (.int .i64 1) rfl hZ))) fun e735 h737 h738 h739 => sN (sq (Rg (kx (mvO h737) (kx (mvO h739) (kc (cl (v := .int .i64 r741) rfl (cns rfl (cns rfl rfl)) rfl (laws_heldStringS_ok ([] : List (List UInt8)) 1 _ hx740) nm) (kx (mvO rfl) (Rn (hA h738 (hN rfl hZ)) fun e742 h744 h745 => sN (sq (sq (Rg (kx (mvO h745) (kx (bLss rfl rfl) (Rn (hA h744 (hA h745 (hN rfl hZ))) fun e746 h748 h749 h750 => sN ?_)))))))))))))))))))
  clear h728 h729 h730 h737 h738 h744 h745
  rcases ite_some h with ⟨hb751, h⟩ | ⟨hb751, h⟩
  ·refine cT h750 hb751 (sq (Rg (kx (mvO rfl) (Rn (hV (.bool false) rfl hZ) fun e752 h754 => sN (xx (sR ?_))))))
   clear h748 h749 h750
   obtain rfl := si h
   exact eR (resT h754 res0) rfl
  refine cF h750 hb751 (xx (sN (sq (sq (Rg (kx (mvO h749) (kx (mvO h748) (kx (bNeq rfl rfl) (Rn (hN rfl hZ) fun e755 h757 => sN ?_)))))))))
  clear h748 h749 h750
  rcases ite_some h with ⟨hb758, h⟩ | ⟨hb758, h⟩
  ·refine cT h757 hb758 (sq (Rg (kx (mvO rfl) (Rn (hV (.bool false) rfl hZ) fun e759 h761 => sN (xx (sR ?_))))))
   clear h757
   obtain rfl := si h
   exact eR (resT h761 res0) rfl
  refine cF h757 hb758 (xx (sN (sq (Rg (kx (mvO rfl) (Rn (hV (.bool true) rfl hZ) fun e762 h764 => sN (xx ?_)))))))
  clear h757
  obtain rfl := si h
  exact eR (resT h764 res0) rfl
 refine cT h498 (congrArg Bool.not hb499) (sq (Rg (kx (mvO rfl) (Rn (hV (.bool false) rfl hZ) fun e772 h774 => sN (xx (sR ?_))))))
 clear h492 h493 h494 h495 h496 h497 h498
 obtain rfl := si h
 exact eR (resT h774 res0) rfl
end Go.Proofs.Ythkbjnbbahmpkab

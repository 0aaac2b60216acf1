/- Printed by a program of ours (ext.py). -/
import Derived.Test.YtpdmcpnabjifhaaLnkHistoryOfx1
set_option linter.unusedVariables false
set_option linter.unusedSimpArgs false
set_option maxRecDepth 100000
set_option maxHeartbeats 2000000
namespace Go.Proofs.Ytpdmcpnabjifhaa
open Go Go.Ab
/-! ### loop.example/g01263/laws.FnExactHistoryOf (f6) -/
def laws_FnExactHistoryOf_c1_Q (a1 : Book) (a2 : List Deal) (a3 : Int) (r56 : List Int) (r57 : Int) (r66 : Int) (r67 : List Int) (r68 : List Tally) (r98 : List Deal) (r119 : Int) (i901_1 : Nat) (i901_2 : Nat) (i901_3 : Nat) (i901_4 : Nat) (g : Bool) (q : Out) : Prop := q.1 = .nrm ∧ eget q.2.1 1 = .sl none (a2.map Deal.c) ∧ eget q.2.1 2 = .int .i64 a3 ∧ eget q.2.1 3 = .pt none [.int .i64 a1.Day, .sl none (a1.Cash.map (cI .i64)), .sl none (a1.Tallies.map Tally.c)] ∧ eget q.2.1 8 = .sl (some 2) (r56.map (cI .i64)) ∧ eget q.2.1 9 = .int .i64 r57 ∧ eget q.2.1 10 = .loc i901_3 1 0 0 ∧ eget q.2.1 11 = .lsl i901_4 r98.length 0 r98.length ∧ eget q.2.1 12 = .nils ∧ eget q.2.1 13 = .int .i64 r119 ∧ eget q.2.1 57 = .bool g ∧ q.2.2[i901_1]? = some (.live ⟨.grow, 2, 1, r67.map (cI .i64)⟩) ∧ q.2.2[(i901_1 + 1)]? = some (.live ⟨.grow, 75, 5, r68.map Tally.c⟩) ∧ q.2.2[i901_3]? = some (.live ⟨.box, 33, 3, [[.int .i64 r66, .lsl i901_1 r67.length 0 r67.length, .lsl (i901_1 + 1) r68.length 0 r68.length]]⟩) ∧ q.2.2[i901_4]? = some (.live ⟨.grow, 65, 6, r98.map Deal.c⟩)
def laws_FnExactHistoryOf_c2_Q (a1 : Book) (a2 : List Deal) (a3 : Int) (r56 : List Int) (r57 : Int) (g : Bool) (q : Out) : Prop := q.1 = .nrm ∧ eget q.2.1 1 = .sl none (a2.map Deal.c) ∧ eget q.2.1 2 = .int .i64 a3 ∧ eget q.2.1 3 = .pt none [.int .i64 a1.Day, .sl none (a1.Cash.map (cI .i64)), .sl none (a1.Tallies.map Tally.c)] ∧ eget q.2.1 8 = .sl (some 2) (r56.map (cI .i64)) ∧ eget q.2.1 9 = .int .i64 r57 ∧ eget q.2.1 12 = .nils ∧ eget q.2.1 86 = .bool g
def laws_FnExactHistoryOf_c3_Q (r335 : Int) (g : Bool) (q : Out) : Prop := q.1 = .nrm ∧ eget q.2.1 12 = .nils ∧ eget q.2.1 15 = .int .i64 r335 ∧ eget q.2.1 115 = .bool g
def laws_FnExactHistoryOf_c4_Q (r335 : Int) (g : Bool) (q : Out) : Prop := q.1 = .nrm ∧ eget q.2.1 12 = .nils ∧ eget q.2.1 15 = .int .i64 r335 ∧ eget q.2.1 115 = .bool g
def laws_FnExactHistoryOf_c5_Q (a1 : Book) (a2 : List Deal) (a3 : Int) (r56 : List Int) (r57 : Int) (r66 : Int) (r67 : List Int) (r68 : List Tally) (r98 : List Deal) (r550 : List Int) (i905_1 : Nat) (i905_2 : Nat) (i905_3 : Nat) (i905_4 : Nat) (i905_5 : Nat) (g : Bool) (q : Out) : Prop := q.1 = .nrm ∧ eget q.2.1 1 = .sl none (a2.map Deal.c) ∧ eget q.2.1 2 = .int .i64 a3 ∧ eget q.2.1 3 = .pt none [.int .i64 a1.Day, .sl none (a1.Cash.map (cI .i64)), .sl none (a1.Tallies.map Tally.c)] ∧ eget q.2.1 8 = .sl (some 2) (r56.map (cI .i64)) ∧ eget q.2.1 9 = .int .i64 r57 ∧ eget q.2.1 10 = .loc i905_3 1 0 0 ∧ eget q.2.1 11 = .lsl i905_4 r98.length 0 r98.length ∧ eget q.2.1 12 = .lsl i905_5 r550.length 0 r550.length ∧ eget q.2.1 13 = .int .i64 0 ∧ eget q.2.1 57 = .bool g ∧ q.2.2[i905_5]? = some (.live ⟨.grow, 2, 1, r550.map (cI .i64)⟩) ∧ q.2.2[i905_1]? = some (.live ⟨.grow, 2, 1, r67.map (cI .i64)⟩) ∧ q.2.2[(i905_1 + 1)]? = some (.live ⟨.grow, 75, 5, r68.map Tally.c⟩) ∧ q.2.2[i905_3]? = some (.live ⟨.box, 33, 3, [[.int .i64 r66, .lsl i905_1 r67.length 0 r67.length, .lsl (i905_1 + 1) r68.length 0 r68.length]]⟩) ∧ q.2.2[i905_4]? = some (.live ⟨.grow, 65, 6, r98.map Deal.c⟩)
def laws_FnExactHistoryOf_c6_Q (a1 : Book) (a2 : List Deal) (a3 : Int) (r56 : List Int) (r57 : Int) (r550 : List Int) (i906_1 : Nat) (g : Bool) (q : Out) : Prop := q.1 = .nrm ∧ eget q.2.1 1 = .sl none (a2.map Deal.c) ∧ eget q.2.1 2 = .int .i64 a3 ∧ eget q.2.1 3 = .pt none [.int .i64 a1.Day, .sl none (a1.Cash.map (cI .i64)), .sl none (a1.Tallies.map Tally.c)] ∧ eget q.2.1 8 = .sl (some 2) (r56.map (cI .i64)) ∧ eget q.2.1 9 = .int .i64 r57 ∧ eget q.2.1 12 = .lsl i906_1 r550.length 0 r550.length ∧ eget q.2.1 86 = .bool g ∧ q.2.2[i906_1]? = some (.live ⟨.grow, 2, 1, r550.map (cI .i64)⟩)
def laws_FnExactHistoryOf_c7_Q (r776 : Int) (r777 : List Int) (i907_1 : Nat) (g : Bool) (q : Out) : Prop := q.1 = .nrm ∧ eget q.2.1 12 = .lsl i907_1 r777.length 0 r777.length ∧ eget q.2.1 15 = .int .i64 r776 ∧ eget q.2.1 115 = .bool g ∧ q.2.2[i907_1]? = some (.live ⟨.grow, 2, 1, r777.map (cI .i64)⟩)
def laws_FnExactHistoryOf_c8_Q (r776 : Int) (r777 : List Int) (i908_1 : Nat) (g : Bool) (q : Out) : Prop := q.1 = .nrm ∧ eget q.2.1 12 = .lsl i908_1 r777.length 0 r777.length ∧ eget q.2.1 15 = .int .i64 r776 ∧ eget q.2.1 115 = .bool g ∧ q.2.2[i908_1]? = some (.live ⟨.grow, 2, 1, r777.map (cI .i64)⟩)
noncomputable def laws_FnExactHistoryOf (a1 : Book) (a2 : List Deal) (a3 : Int) : Option Bool :=
 (laws_szBook a1 1048576).bind fun r13 =>
 if (decide (r13 < 0)) = true then
  some true
 else
  (laws_szDealS a2 r13).bind fun r32 =>
  if (decide (r32 < 0)) = true then
   some true
  else
   (laws_toBook a1).bind fun (r50, r51, r52) =>
   (laws_toDealS a2).bind fun r54 =>
   (spec_HistoryOf (Book.mk r50 r51 r52) r54 a3).bind fun (r56, r57) =>
   (laws_toBook a1).bind fun (r66, r67, r68) =>
   (laws_toDealS a2).bind fun r98 =>
   (impl_HistoryOf (Book.mk r66 r67 r68) r98 a3).bind fun r => match r with
   | (.inl r119) =>
    ((laws_eqInt64S ([] : List Int) r56).bind fun r138 =>
    if r138 = true then
     some (r119 != r57)
    else
     some true).bind fun y166 =>
    if y166 = true then
     some false
    else
     (laws_toBook a1).bind fun (r186, r187, r188) =>
     (laws_eqBook (Book.mk r66 r67 r68) (Book.mk r186 r187 r188)).bind fun r190 =>
     if r190 = true then
      (laws_toDealS a2).bind fun r205 =>
      (laws_eqDealS r98 r205).bind fun r207 =>
      if r207 = true then
       (laws_markBook_ll r66 r67 r68 1).bind fun (r234, r235, r236) =>
       (laws_markDealS_l r98 r234).bind fun (r261, r262) =>
       (if (decide (r261 < 0)) = true then
        some true
       else
        (laws_eqInt64S ([] : List Int) r56).bind fun r291 =>
        if r291 = true then
         some (r119 != r57)
        else
         some true).bind fun y313 =>
       if y313 = true then
        some false
       else
        (laws_markInt64S_n 1).bind fun r335 =>
        (laws_heldInt64S ([] : List Int) 1).bind fun r360 =>
        if (decide (r360 < 0)) = true then
         some false
        else
         if (r360 != r335) = true then
          some false
         else
          (laws_toBook a1).bind fun (r401, r402, r403) =>
          (laws_toDealS a2).bind fun r405 =>
          (impl_HistoryOf (Book.mk r401 r402 r403) r405 a3).bind fun r => match r with
          | (.inl r407) =>
           ((laws_eqInt64S ([] : List Int) r56).bind fun r417 =>
           if r417 = true then
            some (r407 != r57)
           else
            some true).bind fun y431 =>
           if y431 = true then
            some false
           else
            (laws_heldInt64S ([] : List Int) 1).bind fun r445 =>
            if (decide (r445 < 0)) = true then
             some false
            else
             if (r445 != r335) = true then
              some false
             else
              some true
          | (.inr r472) =>
           ((laws_eqInt64S r472 r56).bind fun r482 =>
           if r482 = true then
            some (0 != r57)
           else
            some true).bind fun y496 =>
           if y496 = true then
            some false
           else
            (laws_heldInt64S ([] : List Int) 1).bind fun r510 =>
            if (decide (r510 < 0)) = true then
             some false
            else
             if (r510 != r335) = true then
              some false
             else
              some true
      else
       some false
     else
      some false
   | (.inr r550) =>
    ((laws_eqInt64S r550 r56).bind fun r575 =>
    if r575 = true then
     some (0 != r57)
    else
     some true).bind fun y603 =>
    if y603 = true then
     some false
    else
     (laws_toBook a1).bind fun (r624, r625, r626) =>
     (laws_eqBook (Book.mk r66 r67 r68) (Book.mk r624 r625 r626)).bind fun r628 =>
     if r628 = true then
      (laws_toDealS a2).bind fun r643 =>
      (laws_eqDealS r98 r643).bind fun r645 =>
      if r645 = true then
       (laws_markBook_ll r66 r67 r68 1).bind fun (r672, r673, r674) =>
       (laws_markDealS_l r98 r672).bind fun (r700, r701) =>
       (if (decide (r700 < 0)) = true then
        some true
       else
        (laws_eqInt64S r550 r56).bind fun r731 =>
        if r731 = true then
         some (0 != r57)
        else
         some true).bind fun y753 =>
       if y753 = true then
        some false
       else
        (laws_markInt64S_l r550 1).bind fun (r776, r777) =>
        (laws_heldInt64S r777 1).bind fun r805 =>
        if (decide (r805 < 0)) = true then
         some false
        else
         if (r805 != r776) = true then
          some false
         else
          (laws_toBook a1).bind fun (r846, r847, r848) =>
          (laws_toDealS a2).bind fun r850 =>
          (impl_HistoryOf (Book.mk r846 r847 r848) r850 a3).bind fun r => match r with
          | (.inl r852) =>
           ((laws_eqInt64S ([] : List Int) r56).bind fun r862 =>
           if r862 = true then
            some (r852 != r57)
           else
            some true).bind fun y876 =>
           if y876 = true then
            some false
           else
            (laws_heldInt64S r777 1).bind fun r891 =>
            if (decide (r891 < 0)) = true then
             some false
            else
             if (r891 != r776) = true then
              some false
             else
              some true
          | (.inr r918) =>
           ((laws_eqInt64S r918 r56).bind fun r928 =>
           if r928 = true then
            some (0 != r57)
           else
            some true).bind fun y942 =>
           if y942 = true then
            some false
           else
            (laws_heldInt64S r777 1).bind fun r957 =>
            if (decide (r957 < 0)) = true then
             some false
            else
             if (r957 != r776) = true then
              some false
             else
              some true
      else
       some false
     else
      some false
def laws_FnExactHistoryOf_enc (r : Bool) : AV := .bool r
theorem laws_FnExactHistoryOf_ok (a1 : Book) (a2 : List Deal) (a3 : Int) (r : Bool) (h : laws_FnExactHistoryOf a1 a2 a3 = some r) : Ev (fun k => CN k 6 [.agg [.int .i64 a1.Day, .sl none (a1.Cash.map (cI .i64)), .sl none (a1.Tallies.map Tally.c)], .sl none (a2.map Deal.c), .int .i64 a3] []) (fun p => rRes p.2 p.1 = laws_FnExactHistoryOf_enc r) := by
 unfold laws_FnExactHistoryOf at h
 obtain ⟨r13, hx12, h⟩ := bind_some h
 refine Ev.enter (F := fun k => f6 (CN k) k) (fun k => callN_eq rfl Try.func6 rfl rfl rfl (by decide +kernel) (f6_eq _ _)) (sq (Rg (kx (bxI rfl rfl ⟨rfl, rfl, by decide⟩) (kx (mvO rfl) (Rn (hN rfl (hN rfl (hN rfl hZ))) fun e1 h3 h4 h5 => sN (sq (Rg (kx (mvO rfl) (Rn (hA h3 (hA h4 (hA h5 (hV (.int .i64 1048576) rfl hZ)))) fun e6 h8 h9 h10 h11 => sN (sq (Rg (kx (ldPA h10 rfl rfl) (kx (mvO h11) (kc (cl (v := .int .i64 r13) rfl (cns rfl (cns rfl rfl)) rfl (laws_szBook_ok a1 1048576 _ hx12) nm) (kx (mvO rfl) (Rn (hA h8 (hA h9 (hA h10 (hN rfl hZ)))) fun e14 h16 h17 h18 h19 => sN (sq (sq (Rg (kx (mvO h19) (kx (bLss rfl rfl) (Rn (hA h16 (hA h17 (hA h18 (hA h19 (hN rfl hZ))))) fun e20 h22 h23 h24 h25 h26 => sN ?_))))))))))))))))))))))
 clear h3 h4 h5 h10 h8 h9 h16 h17 h18 h19
 rcases ite_some h with ⟨hb27, h⟩ | ⟨hb27, h⟩
 ·refine cT h26 hb27 (sq (Rg (kx (mvO rfl) (Rn (hV (.bool true) rfl hZ) fun e28 h30 => sN (xx (sR ?_))))))
  clear h22 h23 h24 h25 h26
  cases h
  exact eR (resT h30 res0) rfl
 obtain ⟨r32, hx31, h⟩ := bind_some h
 refine cF h26 hb27 (xx (sN (sq (Rg (kx (mvO h22) (kx (mvO h25) (kc (cl (v := .int .i64 r32) rfl (cns rfl (cns rfl rfl)) rfl (laws_szDealS_ok a2 r13 _ hx31) nm) (kx (mvO rfl) (Rn (hA h22 (hA h23 (hA h24 (hN rfl hZ)))) fun e33 h35 h36 h37 h38 => sN (sq (sq (Rg (kx (mvO h38) (kx (bLss rfl rfl) (Rn (hA h35 (hA h36 (hA h37 (hN rfl hZ)))) fun e39 h41 h42 h43 h44 => sN ?_)))))))))))))))
 clear h22 h23 h24 h26 h35 h36 h37 h38
 rcases ite_some h with ⟨hb45, h⟩ | ⟨hb45, h⟩
 ·refine cT h44 hb45 (sq (Rg (kx (mvO rfl) (Rn (hV (.bool true) rfl hZ) fun e46 h48 => sN (xx (sR ?_))))))
  clear h41 h42 h43 h44
  cases h
  exact eR (resT h48 res0) rfl
 obtain ⟨⟨r50, r51, r52⟩, hx49, h⟩ := bind_some h
 obtain ⟨r54, hx53, h⟩ := bind_some h
 obtain ⟨⟨r56, r57⟩, hx55, h⟩ := bind_some h
 obtain ⟨⟨r66, r67, r68⟩, hx65, h⟩ := bind_some h
 refine cF h44 hb45 (xx (sN (sq (Rg (kx (ldPA h43 rfl rfl) (kc (cl (v := .agg [.int .i64 r50, .sl (some 2) (r51.map (cI .i64)), .sl (some 75) (r52.map Tally.c)]) rfl (cns rfl rfl) rfl (laws_toBook_ok a1 _ hx49) nm) (kx (mvO h41) (kc (cl (v := .sl (some 65) (r54.map Deal.c)) rfl (cns rfl rfl) rfl (laws_toDealS_ok a2 _ hx53) nm) (kx (mvO h42) (kc (cl (v := .tup [.sl (some 2) (r56.map (cI .i64)), .int .i64 r57]) rfl (cns rfl (cns rfl (cns rfl rfl))) rfl (spec_HistoryOf_ok (Book.mk r50 r51 r52) r54 a3 _ hx55) nm) (kx (mvO rfl) (kx (exT rfl rfl) (kx (exT rfl rfl) (kx (mvO rfl) (kx (mvO rfl) (Rn (hA h41 (hA h42 (hA h43 (hN rfl (hN rfl hZ))))) fun e58 h60 h61 h62 h63 h64 => sN (sq (Rg (kx (ldPA h62 rfl rfl) (Ev.nxcp (Ev.callT (v := .agg [.int .i64 r66, .sl (some 2) (r67.map (cI .i64)), .sl (some 75) (r68.map Tally.c)]) rfl (cns rfl rfl) rfl (laws_toBook_ok a1 _ hx65) (th_gen (v' := .agg [.int .i64 r66, .lsl ([] : Mem).length r67.length 0 r67.length, .lsl (([] : Mem).length + 1) r68.length 0 r68.length]) (l := [⟨.grow, 2, 1, r67.map (cI .i64)⟩, ⟨.grow, 75, 5, r68.map Tally.c⟩]) (own_agg (oa1 rfl (oa1 (own1_row' (c := (cI .i64)) (fun _ => rfl)) (oa1 (own1_row' (c := Tally.c) Tally.flF) oa0)))) (by simp [thaw, thaw2, thaw1, thawL, co2, co75]) rfl rfl)) fun M71 hM72 => ?_))))))))))))))))))))
 clear h41 h42 h43 h44
 have o73 : M71[([] : Mem).length]? = some (.live ⟨.grow, 2, 1, r67.map (cI .i64)⟩) := push_at hM72 0 rfl
 have ne74 : ([] : Mem).length ≠ (([] : Mem).length + 1) := by omega
 have o75 : M71[(([] : Mem).length + 1)]? = some (.live ⟨.grow, 75, 5, r68.map Tally.c⟩) := push_at hM72 1 rfl
 refine ku (alO zero33) fun M77 hM78 => ?_
 have o79 := push_old hM78 o73
 have ne80 := ne_new o73
 have o81 := push_old hM78 o75
 have ne82 := ne_new o75
 have o83 : M77[M71.length]? = some (.live ⟨.box, 33, 3, [[.int .i64 0, .nils, .nils]]⟩) := push_new hM78
 refine kw (stO rfl rfl o83 rfl rfl ⟨rfl, ble rfl⟩ (all1 rfl (all1 (okL o79 (by simp)) (all1 (okL o81 (by simp)) all0))) rfl) fun M84 hM85 => ?_
 have o86 := set_ne hM85 ne80 o79
 have o87 := set_ne hM85 ne82 o81
 have o88 : M84[M71.length]? = some (.live ⟨.box, 33, 3, [[.int .i64 r66, .lsl ([] : Mem).length r67.length 0 r67.length, .lsl (([] : Mem).length + 1) r68.length 0 r68.length]]⟩) := set_same hM85 o83
 obtain ⟨r98, hx97, h⟩ := bind_some h
 refine Rn (hA h60 (hA h61 (hA h62 (hA h63 (hA h64 (hV (.loc M71.length 1 0 0) rfl hZ)))))) fun e89 h91 h92 h93 h94 h95 h96 => sN (sq (Rg (kx (mvO h91) (Ev.nxcp (Ev.callT (v := .sl (some 65) (r98.map Deal.c)) rfl (cns rfl rfl) rfl (laws_toDealS_ok a2 _ hx97) (th_gen (v' := .lsl M84.length r98.length 0 r98.length) (l := [⟨.grow, 65, 6, r98.map Deal.c⟩]) (ownA_row (c := Deal.c) Deal.flF) (by simp [thaw, thaw2, thaw1, thawL, co65]) rfl rfl)) fun M100 hM101 => ?_))))
 clear h60 h61 h62 h63 h64
 have o102 := push_old hM101 o86
 have o103 := push_old hM101 o87
 have o104 := push_old hM101 o88
 have ne105 : ([] : Mem).length ≠ M84.length := by have := lt_of_get (M := M84) o86; omega
 have ne106 : (([] : Mem).length + 1) ≠ M84.length := by have := lt_of_get (M := M84) o87; omega
 have ne107 : M71.length ≠ M84.length := by have := lt_of_get (M := M84) o88; omega
 have o108 : M100[M84.length]? = some (.live ⟨.grow, 65, 6, r98.map Deal.c⟩) := push_at hM101 0 rfl
 obtain ⟨q997, hx118, h⟩ := bind_some h
 refine kx (mvO rfl) (Rn (hA h91 (hA h92 (hA h93 (hA h94 (hA h95 (hA h96 (hV (.lsl M84.length r98.length 0 r98.length) rfl hZ))))))) fun e109 h111 h112 h113 h114 h115 h116 h117 => sN (sq (Rg (kx (ldOA h116 o104 rfl rfl (ble rfl) rfl) (kx (mvO h117) (kx (mvO h112) ?_))))))
 clear h91 h92 h93 h94 h95 h96
 rcases q997 with r119 | r550
 ·refine Ev.nxcp (Ev.callT (v := .tup [.nils, .int .i64 r119]) rfl (cns rfl (cns rfl (cns rfl rfl))) (ra1 (ra_agg (mp1 rfl (mp1 (ra1_row o102 rfl (cI_fl _)) (mp1 (ra1_row o103 rfl Tally.fl) mp0)))) (ra1 (ra1_row o108 rfl Deal.fl) (ra1 rfl ra0))) (impl_HistoryOf_ok (Book.mk r66 r67 r68) r98 a3 _ hx118) (th_gen (v' := .tup [.nils, .int .i64 r119]) (l := []) (own_tup (oa1 rfl (oa1 rfl oa0))) (by simp [thaw, thaw2, thaw1, thawL, thaw]) rfl rfl)) fun M120 hM121 => ?_
  have o122 := push_old hM121 o102
  have o123 := push_old hM121 o103
  have o124 := push_old hM121 o104
  have o125 := push_old hM121 o108
  obtain ⟨r548, hr549, h⟩ := bind_some h
  refine kx (mvO rfl) (kx (exT rfl rfl) (kx (exT rfl rfl) (kx (mvO rfl) (kx (mvO rfl) (Rn (hA h111 (hA h112 (hA h113 (hA h114 (hA h115 (hA h116 (hA h117 (hV .nils rfl (hN rfl hZ))))))))) fun e126 h128 h129 h130 h131 h132 h133 h134 h135 h136 => sN (sq (sq ?_)))))))
  clear h111 h112 h113 h114 h115 h116 h117
  refine Ev.cut (Q1 := laws_FnExactHistoryOf_c1_Q a1 a2 a3 r56 r57 r66 r67 r68 r98 r119 (([] : Mem).length) (([] : Mem).length + 1) M71.length M84.length r548) (by
      have h := hr549
      obtain ⟨r138, hx137, h⟩ := bind_some h
      refine Rg (kx (mvO h135) (kx (mvO h131) (kc (cl (v := .bool r138) rfl (cns rfl (cns rfl rfl)) rfl (laws_eqInt64S_ok ([] : List Int) r56 _ hx137) nm) (kx (uNot rfl) (kx (mvO rfl) ?_)))))
      rcases ite_some h with ⟨hb139, h⟩ | ⟨hb139, h⟩
      ·refine kx (guF rfl (congrArg Bool.not hb139) (mvO h136)) (kx (guF rfl (congrArg Bool.not hb139) (mvO h132)) (kx (guF rfl (congrArg Bool.not hb139) (bNeq rfl rfl)) (kx (pkF rfl (congrArg Bool.not hb139) rfl) (Rn (hA h128 (hA h129 (hA h130 (hA h131 (hA h132 (hA h133 (hA h134 (hA h135 (hA h136 (hN rfl hZ)))))))))) fun e140 h142 h143 h144 h145 h146 h147 h148 h149 h150 h151 => ?_))))
       clear h128 h129 h130 h131 h132 h133 h134 h135 h136
       cases h
       exact kd (show laws_FnExactHistoryOf_c1_Q a1 a2 a3 r56 r57 r66 r67 r68 r98 r119 (([] : Mem).length) (([] : Mem).length + 1) M71.length M84.length _ _ from ⟨rfl, h142, h143, h144, h145, h146, h147, h148, h149, h150, h151, o122, o123, o124, o125⟩)
      refine kx (gsF rfl (congrArg Bool.not hb139)) (kx (gsF rfl (congrArg Bool.not hb139)) (kx (gsF rfl (congrArg Bool.not hb139)) (kx (pkT rfl (congrArg Bool.not hb139) rfl) (Rn (hA h128 (hA h129 (hA h130 (hA h131 (hA h132 (hA h133 (hA h134 (hA h135 (hA h136 (hV (.bool true) rfl hZ)))))))))) fun e152 h154 h155 h156 h157 h158 h159 h160 h161 h162 h163 => ?_))))
      clear h128 h129 h130 h131 h132 h133 h134 h135 h136
      cases h
      exact kd (show laws_FnExactHistoryOf_c1_Q a1 a2 a3 r56 r57 r66 r67 r68 r98 r119 (([] : Mem).length) (([] : Mem).length + 1) M71.length M84.length _ _ from ⟨rfl, h154, h155, h156, h157, h158, h159, h160, h161, h162, h163, o122, o123, o124, o125⟩)) ?_
  revert h hr549
  revert r548
  intro y166 hr549 h
  intro x e164 M165 hq547
  obtain ⟨rfl, h167, h168, h169, h170, h171, h172, h173, h174, h175, h176, o177, o178, o179, o180⟩ := hq547
  refine sN ?_
  rcases ite_some h with ⟨hb181, h⟩ | ⟨hb181, h⟩
  ·refine cT h176 hb181 (sq (Rg (kx (mvO rfl) (Rn (hV (.bool false) rfl hZ) fun e182 h184 => sN (xx (sR ?_))))))
   clear h167 h168 h169 h170 h171 h172 h173 h174 h175 h176
   cases h
   exact eR (resT h184 res0) rfl
  obtain ⟨⟨r186, r187, r188⟩, hx185, h⟩ := bind_some h
  obtain ⟨r190, hx189, h⟩ := bind_some h
  refine cF h176 hb181 (xx (sN (sq (sq (Rd (kf (ldOA h172 o179 rfl rfl (ble rfl) rfl) (kf (ldPA h169 rfl rfl) (fc (cl (v := .agg [.int .i64 r186, .sl (some 2) (r187.map (cI .i64)), .sl (some 75) (r188.map Tally.c)]) rfl (cns rfl rfl) rfl (laws_toBook_ok a1 _ hx185) nm) (fc (cl (v := .bool r190) rfl (cns rfl (cns rfl rfl)) (ra1 (ra_agg (mp1 rfl (mp1 (ra1_row o177 rfl (cI_fl _)) (mp1 (ra1_row o178 rfl Tally.fl) mp0)))) (ra1 rfl ra0)) (laws_eqBook_ok (Book.mk r66 r67 r68) (Book.mk r186 r187 r188) _ hx189) (fun _ => rfl)) (kf (uNot rfl) (fZ (Rn (hV (.sl none (a2.map Deal.c)) h167 (hV (.int .i64 a3) h168 (hV (.pt none [.int .i64 a1.Day, .sl none (a1.Cash.map (cI .i64)), .sl none (a1.Tallies.map Tally.c)]) h169 (hV (.sl (some 2) (r56.map (cI .i64))) h170 (hV (.int .i64 r57) h171 (hV (.loc M71.length 1 0 0) h172 (hV (.lsl M84.length r98.length 0 r98.length) h173 (hV .nils h174 (hV (.int .i64 r119) h175 (hN rfl hZ)))))))))) fun e191 h193 h194 h195 h196 h197 h198 h199 h200 h201 h202 => sN ?_))))))))))))
  clear h167 h168 h169 h170 h171 h172 h173 h174 h175 h176
  rcases ite_some h with ⟨hb203, h⟩ | ⟨hb203, h⟩
  ·obtain ⟨r205, hx204, h⟩ := bind_some h
   obtain ⟨r207, hx206, h⟩ := bind_some h
   refine cF h202 (congrArg Bool.not hb203) (xx (sN (sq (sq (Rg (kx (mvO h199) (kx (mvO h193) (kc (cl (v := .sl (some 65) (r205.map Deal.c)) rfl (cns rfl rfl) rfl (laws_toDealS_ok a2 _ hx204) nm) (kc (cl (v := .bool r207) rfl (cns rfl (cns rfl rfl)) (ra1 (ra1_row o180 rfl Deal.fl) (ra1 rfl ra0)) (laws_eqDealS_ok r98 r205 _ hx206) (fun _ => rfl)) (kx (uNot rfl) (Rn (hA h193 (hA h194 (hA h195 (hA h196 (hA h197 (hA h198 (hA h199 (hA h200 (hA h201 (hN rfl hZ)))))))))) fun e208 h210 h211 h212 h213 h214 h215 h216 h217 h218 h219 => sN ?_)))))))))))
   clear h193 h194 h195 h196 h197 h198 h199 h200 h201 h202
   rcases ite_some h with ⟨hb220, h⟩ | ⟨hb220, h⟩
   ·obtain ⟨⟨r234, r235, r236⟩, hx233, h⟩ := bind_some h
    refine cF h219 (congrArg Bool.not hb220) (xx (sN (sq (Rg (kx (mvO rfl) (Rn (hA h210 (hA h211 (hA h212 (hA h213 (hA h214 (hA h215 (hA h216 (hA h217 (hA h218 (hV (.int .i64 1) rfl hZ)))))))))) fun e221 h223 h224 h225 h226 h227 h228 h229 h230 h231 h232 => sN (sq (Rg (kx (ldOA h228 o179 rfl rfl (ble rfl) rfl) (kx (mvO h232) (Ev.nxw (Ev.callW rfl (cns rfl (cns rfl rfl)) (laws_markBook_ll_ok r66 r67 r68 1 (([] : Mem).length) (([] : Mem).length + 1) ne74 M165 o177 o178 _ hx233)) fun v239 M237 hq238 => ?_)))))))))))
    clear h210 h211 h212 h213 h214 h215 h216 h217 h218 h219
    obtain ⟨hv239, o240, o241, fr242, hl243, hl244⟩ := hq238
    have hv239 : v239 = .int .i64 r234 := hv239
    subst hv239
    have o245 : M237[([] : Mem).length]? = some (.live ⟨.grow, 2, 1, r235.map (cI .i64)⟩) := o240
    have o246 : M237[(([] : Mem).length + 1)]? = some (.live ⟨.grow, 75, 5, r236.map Tally.c⟩) := o241
    have hl243 : r235.length = r67.length := hl243
    have hl244 : r236.length = r68.length := hl244
    have o247 : M237[M71.length]? = some (.live ⟨.box, 33, 3, [[.int .i64 r66, .lsl ([] : Mem).length r67.length 0 r67.length, .lsl (([] : Mem).length + 1) r68.length 0 r68.length]]⟩) := fr242 _ _ (niC (Ne.symm ne80) (niC (Ne.symm ne82) niN)) o179
    have o248 : M237[M84.length]? = some (.live ⟨.grow, 65, 6, r98.map Deal.c⟩) := fr242 _ _ (niC (Ne.symm ne105) (niC (Ne.symm ne106) niN)) o180
    obtain ⟨⟨r261, r262⟩, hx260, h⟩ := bind_some h
    refine kx (mvO rfl) (Rn (hA h223 (hA h224 (hA h225 (hA h226 (hA h227 (hA h229 (hA h230 (hA h231 (hN rfl hZ))))))))) fun e249 h251 h252 h253 h254 h255 h256 h257 h258 h259 => sN (sq (Rg (kx (mvO h256) (kx (mvO h259) (Ev.nxw (Ev.callW rfl (cns rfl (cns rfl rfl)) (laws_markDealS_l_ok r98 r234 M84.length M237 o248 _ hx260)) fun v265 M263 hq264 => ?_))))))
    clear h223 h224 h225 h226 h227 h228 h229 h230 h231
    obtain ⟨hv265, o266, fr267, hl268⟩ := hq264
    have hv265 : v265 = .int .i64 r261 := hv265
    subst hv265
    have o269 : M263[M84.length]? = some (.live ⟨.grow, 65, 6, r262.map Deal.c⟩) := o266
    have hl268 : r262.length = r98.length := hl268
    obtain ⟨r539, hr540, h⟩ := bind_some h
    refine kx (mvO rfl) (Rn (hA h251 (hA h252 (hA h253 (hA h254 (hA h255 (hA h257 (hA h258 (hN rfl hZ)))))))) fun e270 h272 h273 h274 h275 h276 h277 h278 h279 => sN (sq (sq ?_)))
    clear h251 h252 h253 h254 h255 h256 h257 h258
    refine Ev.cut (Q1 := laws_FnExactHistoryOf_c2_Q a1 a2 a3 r56 r57 r539) (by
        have h := hr540
        refine Rg (kx (mvO h279) (kx (bLss rfl rfl) (kx (mvO rfl) ?_)))
        rcases ite_some h with ⟨hb280, h⟩ | ⟨hb280, h⟩
        ·refine kx (gsF rfl hb280) (kx (gsF rfl hb280) (kc (Ev.gsF rfl hb280) (kx (gsF rfl hb280) (kx (pkT rfl hb280 rfl) (kx (mvO rfl) (kx (gsF rfl rfl) (kx (gsF rfl rfl) (kx (gsF rfl rfl) (kx (pkT rfl rfl rfl) (Rn (hA h272 (hA h273 (hA h274 (hA h275 (hA h276 (hA h277 (hV (.bool true) rfl hZ))))))) fun e281 h283 h284 h285 h286 h287 h288 h289 => ?_))))))))))
         clear h272 h273 h274 h275 h276 h277 h278 h279
         cases h
         exact kd (show laws_FnExactHistoryOf_c2_Q a1 a2 a3 r56 r57 _ _ from ⟨rfl, h283, h284, h285, h286, h287, h288, h289⟩)
        obtain ⟨r291, hx290, h⟩ := bind_some h
        refine kx (guF rfl hb280 (mvO h277)) (kx (guF rfl hb280 (mvO h275)) (kc (Ev.guF rfl hb280 (cl (v := .bool r291) rfl (cns rfl (cns rfl rfl)) rfl (laws_eqInt64S_ok ([] : List Int) r56 _ hx290) nm)) (kx (guF rfl hb280 (uNot rfl)) (kx (pkF rfl hb280 rfl) (kx (mvO rfl) ?_)))))
        rcases ite_some h with ⟨hb292, h⟩ | ⟨hb292, h⟩
        ·refine kx (guF rfl (congrArg Bool.not hb292) (mvO h278)) (kx (guF rfl (congrArg Bool.not hb292) (mvO h276)) (kx (guF rfl (congrArg Bool.not hb292) (bNeq rfl rfl)) (kx (pkF rfl (congrArg Bool.not hb292) rfl) (Rn (hA h272 (hA h273 (hA h274 (hA h275 (hA h276 (hA h277 (hN rfl hZ))))))) fun e293 h295 h296 h297 h298 h299 h300 h301 => ?_))))
         clear h272 h273 h274 h275 h276 h277 h278 h279
         cases h
         exact kd (show laws_FnExactHistoryOf_c2_Q a1 a2 a3 r56 r57 _ _ from ⟨rfl, h295, h296, h297, h298, h299, h300, h301⟩)
        refine kx (gsF rfl (congrArg Bool.not hb292)) (kx (gsF rfl (congrArg Bool.not hb292)) (kx (gsF rfl (congrArg Bool.not hb292)) (kx (pkT rfl (congrArg Bool.not hb292) rfl) (Rn (hA h272 (hA h273 (hA h274 (hA h275 (hA h276 (hA h277 (hV (.bool true) rfl hZ))))))) fun e302 h304 h305 h306 h307 h308 h309 h310 => ?_))))
        clear h272 h273 h274 h275 h276 h277 h278 h279
        cases h
        exact kd (show laws_FnExactHistoryOf_c2_Q a1 a2 a3 r56 r57 _ _ from ⟨rfl, h304, h305, h306, h307, h308, h309, h310⟩)) ?_
    revert h hr540
    revert r539
    intro y313 hr540 h
    intro x e311 M312 hq538
    obtain ⟨rfl, h314, h315, h316, h317, h318, h319, h320⟩ := hq538
    refine sN ?_
    rcases ite_some h with ⟨hb321, h⟩ | ⟨hb321, h⟩
    ·refine cT h320 hb321 (sq (Rg (kx (mvO rfl) (Rn (hV (.bool false) rfl hZ) fun e322 h324 => sN (xx (sR ?_))))))
     clear h314 h315 h316 h317 h318 h319 h320
     cases h
     exact eR (resT h324 res0) rfl
    obtain ⟨r335, hx334, h⟩ := bind_some h
    refine cF h320 hb321 (xx (sN (sq (Rg (kx (mvO rfl) (Rn (hV (.sl none (a2.map Deal.c)) h314 (hV (.int .i64 a3) h315 (hV (.pt none [.int .i64 a1.Day, .sl none (a1.Cash.map (cI .i64)), .sl none (a1.Tallies.map Tally.c)]) h316 (hV (.sl (some 2) (r56.map (cI .i64))) h317 (hV (.int .i64 r57) h318 (hV .nils h319 (hV (.int .i64 1) rfl hZ))))))) fun e325 h327 h328 h329 h330 h331 h332 h333 => sN (sq (Rg (kx (mvO h332) (kx (mvO h333) (Ev.nxw (Ev.callW rfl (cns rfl (cns rfl rfl)) (laws_markInt64S_n_ok 1 M312 _ hx334)) fun v338 M336 hq337 => ?_)))))))))))
    clear h314 h315 h316 h317 h318 h319 h320
    obtain ⟨hv338, fr339⟩ := hq337
    have hv338 : v338 = .int .i64 r335 := hv338
    subst hv338
    obtain ⟨r360, hx359, h⟩ := bind_some h
    refine kx (mvO rfl) (Rn (hA h327 (hA h328 (hA h329 (hA h330 (hA h331 (hA h332 (hN rfl hZ))))))) fun e340 h342 h343 h344 h345 h346 h347 h348 => sN (sq (Rg (kx (mvO rfl) (Rn (hA h342 (hA h343 (hA h344 (hA h345 (hA h346 (hA h347 (hA h348 (hV (.int .i64 1) rfl hZ)))))))) fun e349 h351 h352 h353 h354 h355 h356 h357 h358 => sN (sq (Rg (kx (mvO h356) (kx (mvO h358) (kc (cl (v := .int .i64 r360) rfl (cns rfl (cns rfl rfl)) rfl (laws_heldInt64S_ok ([] : List Int) 1 _ hx359) nm) (kx (mvO rfl) (Rn (hA h351 (hA h352 (hA h353 (hA h354 (hA h355 (hA h356 (hA h357 (hN rfl hZ)))))))) fun e361 h363 h364 h365 h366 h367 h368 h369 h370 => sN (sq (sq (Rg (kx (mvO h370) (kx (bLss rfl rfl) (Rn (hA h363 (hA h364 (hA h365 (hA h366 (hA h367 (hA h368 (hA h369 (hA h370 (hN rfl hZ))))))))) fun e371 h373 h374 h375 h376 h377 h378 h379 h380 h381 => sN ?_))))))))))))))))))
    clear h327 h328 h329 h330 h331 h332 h342 h343 h344 h345 h346 h347 h348 h351 h352 h353 h354 h355 h356 h357 h363 h364 h365 h366 h367 h368 h369 h370
    rcases ite_some h with ⟨hb382, h⟩ | ⟨hb382, h⟩
    ·refine cT h381 hb382 (sq (Rg (kx (mvO rfl) (Rn (hV (.bool false) rfl hZ) fun e383 h385 => sN (xx (sR ?_))))))
     clear h373 h374 h375 h376 h377 h378 h379 h380 h381
     cases h
     exact eR (resT h385 res0) rfl
    refine cF h381 hb382 (xx (sN (sq (sq (Rg (kx (mvO h380) (kx (mvO h379) (kx (bNeq rfl rfl) (Rn (hA h373 (hA h374 (hA h375 (hA h376 (hA h377 (hA h378 (hA h379 (hN rfl hZ)))))))) fun e386 h388 h389 h390 h391 h392 h393 h394 h395 => sN ?_)))))))))
    clear h373 h374 h375 h376 h377 h378 h379 h380 h381
    rcases ite_some h with ⟨hb396, h⟩ | ⟨hb396, h⟩
    ·refine cT h395 hb396 (sq (Rg (kx (mvO rfl) (Rn (hV (.bool false) rfl hZ) fun e397 h399 => sN (xx (sR ?_))))))
     clear h388 h389 h390 h391 h392 h393 h394 h395
     cases h
     exact eR (resT h399 res0) rfl
    obtain ⟨⟨r401, r402, r403⟩, hx400, h⟩ := bind_some h
    obtain ⟨r405, hx404, h⟩ := bind_some h
    obtain ⟨q537, hx406, h⟩ := bind_some h
    refine cF h395 hb396 (xx (sN (sq (Rg (kx (ldPA h390 rfl rfl) (kc (cl (v := .agg [.int .i64 r401, .sl (some 2) (r402.map (cI .i64)), .sl (some 75) (r403.map Tally.c)]) rfl (cns rfl rfl) rfl (laws_toBook_ok a1 _ hx400) nm) (kx (mvO h388) (kc (cl (v := .sl (some 65) (r405.map Deal.c)) rfl (cns rfl rfl) rfl (laws_toDealS_ok a2 _ hx404) nm) (kx (mvO h389) ?_)))))))))
    rcases q537 with r407 | r472
    ·obtain ⟨r470, hr471, h⟩ := bind_some h
     refine kc (cl (v := .tup [.nils, .int .i64 r407]) rfl (cns rfl (cns rfl (cns rfl rfl))) rfl (impl_HistoryOf_ok (Book.mk r401 r402 r403) r405 a3 _ hx406) nm) (kx (mvO rfl) (kx (exT rfl rfl) (kx (exT rfl rfl) (kx (mvO rfl) (kx (mvO rfl) (Rn (hA h391 (hA h392 (hA h393 (hA h394 (hV .nils rfl (hN rfl hZ)))))) fun e408 h410 h411 h412 h413 h414 h415 => sN (sq (sq ?_))))))))
     clear h388 h389 h390 h391 h392 h393 h394 h395
     refine Ev.cut (Q1 := laws_FnExactHistoryOf_c3_Q r335 r470) (by
         have h := hr471
         obtain ⟨r417, hx416, h⟩ := bind_some h
         refine Rg (kx (mvO h414) (kx (mvO h410) (kc (cl (v := .bool r417) rfl (cns rfl (cns rfl rfl)) rfl (laws_eqInt64S_ok ([] : List Int) r56 _ hx416) nm) (kx (uNot rfl) (kx (mvO rfl) ?_)))))
         rcases ite_some h with ⟨hb418, h⟩ | ⟨hb418, h⟩
         ·refine kx (guF rfl (congrArg Bool.not hb418) (mvO h415)) (kx (guF rfl (congrArg Bool.not hb418) (mvO h411)) (kx (guF rfl (congrArg Bool.not hb418) (bNeq rfl rfl)) (kx (pkF rfl (congrArg Bool.not hb418) rfl) (Rn (hA h412 (hA h413 (hN rfl hZ))) fun e419 h421 h422 h423 => ?_))))
          clear h410 h411 h412 h413 h414 h415
          cases h
          exact kd (show laws_FnExactHistoryOf_c3_Q r335 _ _ from ⟨rfl, h421, h422, h423⟩)
         refine kx (gsF rfl (congrArg Bool.not hb418)) (kx (gsF rfl (congrArg Bool.not hb418)) (kx (gsF rfl (congrArg Bool.not hb418)) (kx (pkT rfl (congrArg Bool.not hb418) rfl) (Rn (hA h412 (hA h413 (hV (.bool true) rfl hZ))) fun e424 h426 h427 h428 => ?_))))
         clear h410 h411 h412 h413 h414 h415
         cases h
         exact kd (show laws_FnExactHistoryOf_c3_Q r335 _ _ from ⟨rfl, h426, h427, h428⟩)) ?_
     revert h hr471
     revert r470
     intro y431 hr471 h
     intro x e429 M430 hq469
     obtain ⟨rfl, h432, h433, h434⟩ := hq469
     refine sN ?_
     rcases ite_some h with ⟨hb435, h⟩ | ⟨hb435, h⟩
     ·refine cT h434 hb435 (sq (Rg (kx (mvO rfl) (Rn (hV (.bool false) rfl hZ) fun e436 h438 => sN (xx (sR ?_))))))
      clear h432 h433 h434
      cases h
      exact eR (resT h438 res0) rfl
     obtain ⟨r445, hx444, h⟩ := bind_some h
     refine cF h434 hb435 (xx (sN (sq (Rg (kx (mvO rfl) (Rn (hV .nils h432 (hV (.int .i64 r335) h433 (hV (.int .i64 1) rfl hZ))) fun e439 h441 h442 h443 => sN (sq (Rg (kx (mvO h441) (kx (mvO h443) (kc (cl (v := .int .i64 r445) rfl (cns rfl (cns rfl rfl)) rfl (laws_heldInt64S_ok ([] : List Int) 1 _ hx444) nm) (kx (mvO rfl) (Rn (hA h442 (hN rfl hZ)) fun e446 h448 h449 => sN (sq (sq (Rg (kx (mvO h449) (kx (bLss rfl rfl) (Rn (hA h448 (hA h449 (hN rfl hZ))) fun e450 h452 h453 h454 => sN ?_)))))))))))))))))))
     clear h432 h433 h434 h441 h442 h448 h449
     rcases ite_some h with ⟨hb455, h⟩ | ⟨hb455, h⟩
     ·refine cT h454 hb455 (sq (Rg (kx (mvO rfl) (Rn (hV (.bool false) rfl hZ) fun e456 h458 => sN (xx (sR ?_))))))
      clear h452 h453 h454
      cases h
      exact eR (resT h458 res0) rfl
     refine cF h454 hb455 (xx (sN (sq (sq (Rg (kx (mvO h453) (kx (mvO h452) (kx (bNeq rfl rfl) (Rn (hN rfl hZ) fun e459 h461 => sN ?_)))))))))
     clear h452 h453 h454
     rcases ite_some h with ⟨hb462, h⟩ | ⟨hb462, h⟩
     ·refine cT h461 hb462 (sq (Rg (kx (mvO rfl) (Rn (hV (.bool false) rfl hZ) fun e463 h465 => sN (xx (sR ?_))))))
      clear h461
      cases h
      exact eR (resT h465 res0) rfl
     refine cF h461 hb462 (xx (sN (sq (Rg (kx (mvO rfl) (Rn (hV (.bool true) rfl hZ) fun e466 h468 => sN (xx ?_)))))))
     clear h461
     cases h
     exact eR (resT h468 res0) rfl
    obtain ⟨r535, hr536, h⟩ := bind_some h
    refine kc (cl (v := .tup [.sl (some 2) (r472.map (cI .i64)), .int .i64 0]) rfl (cns rfl (cns rfl (cns rfl rfl))) rfl (impl_HistoryOf_ok (Book.mk r401 r402 r403) r405 a3 _ hx406) nm) (kx (mvO rfl) (kx (exT rfl rfl) (kx (exT rfl rfl) (kx (mvO rfl) (kx (mvO rfl) (Rn (hA h391 (hA h392 (hA h393 (hA h394 (hN rfl (hV (.int .i64 0) rfl hZ)))))) fun e473 h475 h476 h477 h478 h479 h480 => sN (sq (sq ?_))))))))
    clear h388 h389 h390 h391 h392 h393 h394 h395
    refine Ev.cut (Q1 := laws_FnExactHistoryOf_c4_Q r335 r535) (by
        have h := hr536
        obtain ⟨r482, hx481, h⟩ := bind_some h
        refine Rg (kx (mvO h479) (kx (mvO h475) (kc (cl (v := .bool r482) rfl (cns rfl (cns rfl rfl)) rfl (laws_eqInt64S_ok r472 r56 _ hx481) nm) (kx (uNot rfl) (kx (mvO rfl) ?_)))))
        rcases ite_some h with ⟨hb483, h⟩ | ⟨hb483, h⟩
        ·refine kx (guF rfl (congrArg Bool.not hb483) (mvO h480)) (kx (guF rfl (congrArg Bool.not hb483) (mvO h476)) (kx (guF rfl (congrArg Bool.not hb483) (bNeq rfl rfl)) (kx (pkF rfl (congrArg Bool.not hb483) rfl) (Rn (hA h477 (hA h478 (hN rfl hZ))) fun e484 h486 h487 h488 => ?_))))
         clear h475 h476 h477 h478 h479 h480
         cases h
         exact kd (show laws_FnExactHistoryOf_c4_Q r335 _ _ from ⟨rfl, h486, h487, h488⟩)
        refine kx (gsF rfl (congrArg Bool.not hb483)) (kx (gsF rfl (congrArg Bool.not hb483)) (kx (gsF rfl (congrArg Bool.not hb483)) (kx (pkT rfl (congrArg Bool.not hb483) rfl) (Rn (hA h477 (hA h478 (hV (.bool true) rfl hZ))) fun e489 h491 h492 h493 => ?_))))
        clear h475 h476 h477 h478 h479 h480
        cases h
        exact kd (show laws_FnExactHistoryOf_c4_Q r335 _ _ from ⟨rfl, h491, h492, h493⟩)) ?_
    revert h hr536
    revert r535
    intro y496 hr536 h
    intro x e494 M495 hq534
    obtain ⟨rfl, h497, h498, h499⟩ := hq534
    refine sN ?_
    rcases ite_some h with ⟨hb500, h⟩ | ⟨hb500, h⟩
    ·refine cT h499 hb500 (sq (Rg (kx (mvO rfl) (Rn (hV (.bool false) rfl hZ) fun e501 h503 => sN (xx (sR ?_))))))
     clear h497 h498 h499
     cases h
     exact eR (resT h503 res0) rfl
    obtain ⟨r510, hx509, h⟩ := bind_some h
    refine cF h499 hb500 (xx (sN (sq (Rg (kx (mvO rfl) (Rn (hV .nils h497 (hV (.int .i64 r335) h498 (hV (.int .i64 1) rfl hZ))) fun e504 h506 h507 h508 => sN (sq (Rg (kx (mvO h506) (kx (mvO h508) (kc (cl (v := .int .i64 r510) rfl (cns rfl (cns rfl rfl)) rfl (laws_heldInt64S_ok ([] : List Int) 1 _ hx509) nm) (kx (mvO rfl) (Rn (hA h507 (hN rfl hZ)) fun e511 h513 h514 => sN (sq (sq (Rg (kx (mvO h514) (kx (bLss rfl rfl) (Rn (hA h513 (hA h514 (hN rfl hZ))) fun e515 h517 h518 h519 => sN ?_)))))))))))))))))))
    clear h497 h498 h499 h506 h507 h513 h514
    rcases ite_some h with ⟨hb520, h⟩ | ⟨hb520, h⟩
    ·refine cT h519 hb520 (sq (Rg (kx (mvO rfl) (Rn (hV (.bool false) rfl hZ) fun e521 h523 => sN (xx (sR ?_))))))
     clear h517 h518 h519
     cases h
     exact eR (resT h523 res0) rfl
    refine cF h519 hb520 (xx (sN (sq (sq (Rg (kx (mvO h518) (kx (mvO h517) (kx (bNeq rfl rfl) (Rn (hN rfl hZ) fun e524 h526 => sN ?_)))))))))
    clear h517 h518 h519
    rcases ite_some h with ⟨hb527, h⟩ | ⟨hb527, h⟩
    ·refine cT h526 hb527 (sq (Rg (kx (mvO rfl) (Rn (hV (.bool false) rfl hZ) fun e528 h530 => sN (xx (sR ?_))))))
     clear h526
     cases h
     exact eR (resT h530 res0) rfl
    refine cF h526 hb527 (xx (sN (sq (Rg (kx (mvO rfl) (Rn (hV (.bool true) rfl hZ) fun e531 h533 => sN (xx ?_)))))))
    clear h526
    cases h
    exact eR (resT h533 res0) rfl
   refine cT h219 (congrArg Bool.not hb220) (sq (Rg (kx (mvO rfl) (Rn (hV (.bool false) rfl hZ) fun e541 h543 => sN (xx (sR ?_))))))
   clear h210 h211 h212 h213 h214 h215 h216 h217 h218 h219
   cases h
   exact eR (resT h543 res0) rfl
  refine cT h202 (congrArg Bool.not hb203) (sq (Rg (kx (mvO rfl) (Rn (hV (.bool false) rfl hZ) fun e544 h546 => sN (xx (sR ?_))))))
  clear h193 h194 h195 h196 h197 h198 h199 h200 h201 h202
  cases h
  exact eR (resT h546 res0) rfl
 refine Ev.nxcp (Ev.callT (v := .tup [.sl (some 2) (r550.map (cI .i64)), .int .i64 0]) rfl (cns rfl (cns rfl (cns rfl rfl))) (ra1 (ra_agg (mp1 rfl (mp1 (ra1_row o102 rfl (cI_fl _)) (mp1 (ra1_row o103 rfl Tally.fl) mp0)))) (ra1 (ra1_row o108 rfl Deal.fl) (ra1 rfl ra0))) (impl_HistoryOf_ok (Book.mk r66 r67 r68) r98 a3 _ hx118) (th_gen (v' := .tup [.lsl M100.length r550.length 0 r550.length, .int .i64 0]) (l := [⟨.grow, 2, 1, r550.map (cI .i64)⟩]) (own_tup (oa1 (own2_row (c := (cI .i64)) (fun _ => rfl)) (oa1 rfl oa0))) (by simp [thaw, thaw2, thaw1, thawL, co2]) rfl rfl)) fun M552 hM553 => ?_
 have o554 := push_old hM553 o102
 have o555 := push_old hM553 o103
 have o556 := push_old hM553 o104
 have o557 := push_old hM553 o108
 have ne558 : ([] : Mem).length ≠ M100.length := by have := lt_of_get (M := M100) o102; omega
 have ne559 : (([] : Mem).length + 1) ≠ M100.length := by have := lt_of_get (M := M100) o103; omega
 have ne560 : M71.length ≠ M100.length := by have := lt_of_get (M := M100) o104; omega
 have ne561 : M84.length ≠ M100.length := by have := lt_of_get (M := M100) o108; omega
 have o562 : M552[M100.length]? = some (.live ⟨.grow, 2, 1, r550.map (cI .i64)⟩) := push_at hM553 0 rfl
 obtain ⟨r995, hr996, h⟩ := bind_some h
 refine kx (mvO rfl) (kx (exT rfl rfl) (kx (exT rfl rfl) (kx (mvO rfl) (kx (mvO rfl) (Rn (hA h111 (hA h112 (hA h113 (hA h114 (hA h115 (hA h116 (hA h117 (hV (.lsl M100.length r550.length 0 r550.length) rfl (hV (.int .i64 0) rfl hZ))))))))) fun e563 h565 h566 h567 h568 h569 h570 h571 h572 h573 => sN (sq (sq ?_)))))))
 clear h111 h112 h113 h114 h115 h116 h117
 refine Ev.cut (Q1 := laws_FnExactHistoryOf_c5_Q a1 a2 a3 r56 r57 r66 r67 r68 r98 r550 (([] : Mem).length) (([] : Mem).length + 1) M71.length M84.length M100.length r995) (by
     have h := hr996
     obtain ⟨r575, hx574, h⟩ := bind_some h
     refine Rg (kx (mvO h572) (kx (mvO h568) (kc (cl (v := .bool r575) rfl (cns rfl (cns rfl rfl)) (ra1 (ra1_row o562 rfl (cI_fl _)) (ra1 rfl ra0)) (laws_eqInt64S_ok r550 r56 _ hx574) (fun _ => rfl)) (kx (uNot rfl) (kx (mvO rfl) ?_)))))
     rcases ite_some h with ⟨hb576, h⟩ | ⟨hb576, h⟩
     ·refine kx (guF rfl (congrArg Bool.not hb576) (mvO h573)) (kx (guF rfl (congrArg Bool.not hb576) (mvO h569)) (kx (guF rfl (congrArg Bool.not hb576) (bNeq rfl rfl)) (kx (pkF rfl (congrArg Bool.not hb576) rfl) (Rn (hA h565 (hA h566 (hA h567 (hA h568 (hA h569 (hA h570 (hA h571 (hA h572 (hA h573 (hN rfl hZ)))))))))) fun e577 h579 h580 h581 h582 h583 h584 h585 h586 h587 h588 => ?_))))
      clear h565 h566 h567 h568 h569 h570 h571 h572 h573
      cases h
      exact kd (show laws_FnExactHistoryOf_c5_Q a1 a2 a3 r56 r57 r66 r67 r68 r98 r550 (([] : Mem).length) (([] : Mem).length + 1) M71.length M84.length M100.length _ _ from ⟨rfl, h579, h580, h581, h582, h583, h584, h585, h586, h587, h588, o562, o554, o555, o556, o557⟩)
     refine kx (gsF rfl (congrArg Bool.not hb576)) (kx (gsF rfl (congrArg Bool.not hb576)) (kx (gsF rfl (congrArg Bool.not hb576)) (kx (pkT rfl (congrArg Bool.not hb576) rfl) (Rn (hA h565 (hA h566 (hA h567 (hA h568 (hA h569 (hA h570 (hA h571 (hA h572 (hA h573 (hV (.bool true) rfl hZ)))))))))) fun e589 h591 h592 h593 h594 h595 h596 h597 h598 h599 h600 => ?_))))
     clear h565 h566 h567 h568 h569 h570 h571 h572 h573
     cases h
     exact kd (show laws_FnExactHistoryOf_c5_Q a1 a2 a3 r56 r57 r66 r67 r68 r98 r550 (([] : Mem).length) (([] : Mem).length + 1) M71.length M84.length M100.length _ _ from ⟨rfl, h591, h592, h593, h594, h595, h596, h597, h598, h599, h600, o562, o554, o555, o556, o557⟩)) ?_
 revert h hr996
 revert r995
 intro y603 hr996 h
 intro x e601 M602 hq994
 obtain ⟨rfl, h604, h605, h606, h607, h608, h609, h610, h611, h612, h613, o614, o615, o616, o617, o618⟩ := hq994
 refine sN ?_
 rcases ite_some h with ⟨hb619, h⟩ | ⟨hb619, h⟩
 ·refine cT h613 hb619 (sq (Rg (kx (mvO rfl) (Rn (hV (.bool false) rfl hZ) fun e620 h622 => sN (xx (sR ?_))))))
  clear h604 h605 h606 h607 h608 h609 h610 h611 h612 h613
  cases h
  exact eR (resT h622 res0) rfl
 obtain ⟨⟨r624, r625, r626⟩, hx623, h⟩ := bind_some h
 obtain ⟨r628, hx627, h⟩ := bind_some h
 refine cF h613 hb619 (xx (sN (sq (sq (Rd (kf (ldOA h609 o617 rfl rfl (ble rfl) rfl) (kf (ldPA h606 rfl rfl) (fc (cl (v := .agg [.int .i64 r624, .sl (some 2) (r625.map (cI .i64)), .sl (some 75) (r626.map Tally.c)]) rfl (cns rfl rfl) rfl (laws_toBook_ok a1 _ hx623) nm) (fc (cl (v := .bool r628) rfl (cns rfl (cns rfl rfl)) (ra1 (ra_agg (mp1 rfl (mp1 (ra1_row o615 rfl (cI_fl _)) (mp1 (ra1_row o616 rfl Tally.fl) mp0)))) (ra1 rfl ra0)) (laws_eqBook_ok (Book.mk r66 r67 r68) (Book.mk r624 r625 r626) _ hx627) (fun _ => rfl)) (kf (uNot rfl) (fZ (Rn (hV (.sl none (a2.map Deal.c)) h604 (hV (.int .i64 a3) h605 (hV (.pt none [.int .i64 a1.Day, .sl none (a1.Cash.map (cI .i64)), .sl none (a1.Tallies.map Tally.c)]) h606 (hV (.sl (some 2) (r56.map (cI .i64))) h607 (hV (.int .i64 r57) h608 (hV (.loc M71.length 1 0 0) h609 (hV (.lsl M84.length r98.length 0 r98.length) h610 (hV (.lsl M100.length r550.length 0 r550.length) h611 (hV (.int .i64 0) h612 (hN rfl hZ)))))))))) fun e629 h631 h632 h633 h634 h635 h636 h637 h638 h639 h640 => sN ?_))))))))))))
 clear h604 h605 h606 h607 h608 h609 h610 h611 h612 h613
 rcases ite_some h with ⟨hb641, h⟩ | ⟨hb641, h⟩
 ·obtain ⟨r643, hx642, h⟩ := bind_some h
  obtain ⟨r645, hx644, h⟩ := bind_some h
  refine cF h640 (congrArg Bool.not hb641) (xx (sN (sq (sq (Rg (kx (mvO h637) (kx (mvO h631) (kc (cl (v := .sl (some 65) (r643.map Deal.c)) rfl (cns rfl rfl) rfl (laws_toDealS_ok a2 _ hx642) nm) (kc (cl (v := .bool r645) rfl (cns rfl (cns rfl rfl)) (ra1 (ra1_row o618 rfl Deal.fl) (ra1 rfl ra0)) (laws_eqDealS_ok r98 r643 _ hx644) (fun _ => rfl)) (kx (uNot rfl) (Rn (hA h631 (hA h632 (hA h633 (hA h634 (hA h635 (hA h636 (hA h637 (hA h638 (hA h639 (hN rfl hZ)))))))))) fun e646 h648 h649 h650 h651 h652 h653 h654 h655 h656 h657 => sN ?_)))))))))))
  clear h631 h632 h633 h634 h635 h636 h637 h638 h639 h640
  rcases ite_some h with ⟨hb658, h⟩ | ⟨hb658, h⟩
  ·obtain ⟨⟨r672, r673, r674⟩, hx671, h⟩ := bind_some h
   refine cF h657 (congrArg Bool.not hb658) (xx (sN (sq (Rg (kx (mvO rfl) (Rn (hA h648 (hA h649 (hA h650 (hA h651 (hA h652 (hA h653 (hA h654 (hA h655 (hA h656 (hV (.int .i64 1) rfl hZ)))))))))) fun e659 h661 h662 h663 h664 h665 h666 h667 h668 h669 h670 => sN (sq (Rg (kx (ldOA h666 o617 rfl rfl (ble rfl) rfl) (kx (mvO h670) (Ev.nxw (Ev.callW rfl (cns rfl (cns rfl rfl)) (laws_markBook_ll_ok r66 r67 r68 1 (([] : Mem).length) (([] : Mem).length + 1) ne74 M602 o615 o616 _ hx671)) fun v677 M675 hq676 => ?_)))))))))))
   clear h648 h649 h650 h651 h652 h653 h654 h655 h656 h657
   obtain ⟨hv677, o678, o679, fr680, hl681, hl682⟩ := hq676
   have hv677 : v677 = .int .i64 r672 := hv677
   subst hv677
   have o683 : M675[([] : Mem).length]? = some (.live ⟨.grow, 2, 1, r673.map (cI .i64)⟩) := o678
   have o684 : M675[(([] : Mem).length + 1)]? = some (.live ⟨.grow, 75, 5, r674.map Tally.c⟩) := o679
   have hl681 : r673.length = r67.length := hl681
   have hl682 : r674.length = r68.length := hl682
   have o685 : M675[M100.length]? = some (.live ⟨.grow, 2, 1, r550.map (cI .i64)⟩) := fr680 _ _ (niC (Ne.symm ne558) (niC (Ne.symm ne559) niN)) o614
   have o686 : M675[M71.length]? = some (.live ⟨.box, 33, 3, [[.int .i64 r66, .lsl ([] : Mem).length r67.length 0 r67.length, .lsl (([] : Mem).length + 1) r68.length 0 r68.length]]⟩) := fr680 _ _ (niC (Ne.symm ne80) (niC (Ne.symm ne82) niN)) o617
   have o687 : M675[M84.length]? = some (.live ⟨.grow, 65, 6, r98.map Deal.c⟩) := fr680 _ _ (niC (Ne.symm ne105) (niC (Ne.symm ne106) niN)) o618
   obtain ⟨⟨r700, r701⟩, hx699, h⟩ := bind_some h
   refine kx (mvO rfl) (Rn (hA h661 (hA h662 (hA h663 (hA h664 (hA h665 (hA h667 (hA h668 (hA h669 (hN rfl hZ))))))))) fun e688 h690 h691 h692 h693 h694 h695 h696 h697 h698 => sN (sq (Rg (kx (mvO h695) (kx (mvO h698) (Ev.nxw (Ev.callW rfl (cns rfl (cns rfl rfl)) (laws_markDealS_l_ok r98 r672 M84.length M675 o687 _ hx699)) fun v704 M702 hq703 => ?_))))))
   clear h661 h662 h663 h664 h665 h666 h667 h668 h669
   obtain ⟨hv704, o705, fr706, hl707⟩ := hq703
   have hv704 : v704 = .int .i64 r700 := hv704
   subst hv704
   have o708 : M702[M84.length]? = some (.live ⟨.grow, 65, 6, r701.map Deal.c⟩) := o705
   have hl707 : r701.length = r98.length := hl707
   have o709 : M702[M100.length]? = some (.live ⟨.grow, 2, 1, r550.map (cI .i64)⟩) := fr706 _ _ (niC (Ne.symm ne561) niN) o685
   obtain ⟨r986, hr987, h⟩ := bind_some h
   refine kx (mvO rfl) (Rn (hA h690 (hA h691 (hA h692 (hA h693 (hA h694 (hA h696 (hA h697 (hN rfl hZ)))))))) fun e710 h712 h713 h714 h715 h716 h717 h718 h719 => sN (sq (sq ?_)))
   clear h690 h691 h692 h693 h694 h695 h696 h697
   refine Ev.cut (Q1 := laws_FnExactHistoryOf_c6_Q a1 a2 a3 r56 r57 r550 M100.length r986) (by
       have h := hr987
       refine Rg (kx (mvO h719) (kx (bLss rfl rfl) (kx (mvO rfl) ?_)))
       rcases ite_some h with ⟨hb720, h⟩ | ⟨hb720, h⟩
       ·refine kx (gsF rfl hb720) (kx (gsF rfl hb720) (kc (Ev.gsF rfl hb720) (kx (gsF rfl hb720) (kx (pkT rfl hb720 rfl) (kx (mvO rfl) (kx (gsF rfl rfl) (kx (gsF rfl rfl) (kx (gsF rfl rfl) (kx (pkT rfl rfl rfl) (Rn (hA h712 (hA h713 (hA h714 (hA h715 (hA h716 (hA h717 (hV (.bool true) rfl hZ))))))) fun e721 h723 h724 h725 h726 h727 h728 h729 => ?_))))))))))
        clear h712 h713 h714 h715 h716 h717 h718 h719
        cases h
        exact kd (show laws_FnExactHistoryOf_c6_Q a1 a2 a3 r56 r57 r550 M100.length _ _ from ⟨rfl, h723, h724, h725, h726, h727, h728, h729, o709⟩)
       obtain ⟨r731, hx730, h⟩ := bind_some h
       refine kx (guF rfl hb720 (mvO h717)) (kx (guF rfl hb720 (mvO h715)) (kc (Ev.guF rfl hb720 (cl (v := .bool r731) rfl (cns rfl (cns rfl rfl)) (ra1 (ra1_row o709 rfl (cI_fl _)) (ra1 rfl ra0)) (laws_eqInt64S_ok r550 r56 _ hx730) (fun _ => rfl))) (kx (guF rfl hb720 (uNot rfl)) (kx (pkF rfl hb720 rfl) (kx (mvO rfl) ?_)))))
       rcases ite_some h with ⟨hb732, h⟩ | ⟨hb732, h⟩
       ·refine kx (guF rfl (congrArg Bool.not hb732) (mvO h718)) (kx (guF rfl (congrArg Bool.not hb732) (mvO h716)) (kx (guF rfl (congrArg Bool.not hb732) (bNeq rfl rfl)) (kx (pkF rfl (congrArg Bool.not hb732) rfl) (Rn (hA h712 (hA h713 (hA h714 (hA h715 (hA h716 (hA h717 (hN rfl hZ))))))) fun e733 h735 h736 h737 h738 h739 h740 h741 => ?_))))
        clear h712 h713 h714 h715 h716 h717 h718 h719
        cases h
        exact kd (show laws_FnExactHistoryOf_c6_Q a1 a2 a3 r56 r57 r550 M100.length _ _ from ⟨rfl, h735, h736, h737, h738, h739, h740, h741, o709⟩)
       refine kx (gsF rfl (congrArg Bool.not hb732)) (kx (gsF rfl (congrArg Bool.not hb732)) (kx (gsF rfl (congrArg Bool.not hb732)) (kx (pkT rfl (congrArg Bool.not hb732) rfl) (Rn (hA h712 (hA h713 (hA h714 (hA h715 (hA h716 (hA h717 (hV (.bool true) rfl hZ))))))) fun e742 h744 h745 h746 h747 h748 h749 h750 => ?_))))
       clear h712 h713 h714 h715 h716 h717 h718 h719
       cases h
       exact kd (show laws_FnExactHistoryOf_c6_Q a1 a2 a3 r56 r57 r550 M100.length _ _ from ⟨rfl, h744, h745, h746, h747, h748, h749, h750, o709⟩)) ?_
   revert h hr987
   revert r986
   intro y753 hr987 h
   intro x e751 M752 hq985
   obtain ⟨rfl, h754, h755, h756, h757, h758, h759, h760, o761⟩ := hq985
   refine sN ?_
   rcases ite_some h with ⟨hb762, h⟩ | ⟨hb762, h⟩
   ·refine cT h760 hb762 (sq (Rg (kx (mvO rfl) (Rn (hV (.bool false) rfl hZ) fun e763 h765 => sN (xx (sR ?_))))))
    clear h754 h755 h756 h757 h758 h759 h760
    cases h
    exact eR (resT h765 res0) rfl
   obtain ⟨⟨r776, r777⟩, hx775, h⟩ := bind_some h
   refine cF h760 hb762 (xx (sN (sq (Rg (kx (mvO rfl) (Rn (hV (.sl none (a2.map Deal.c)) h754 (hV (.int .i64 a3) h755 (hV (.pt none [.int .i64 a1.Day, .sl none (a1.Cash.map (cI .i64)), .sl none (a1.Tallies.map Tally.c)]) h756 (hV (.sl (some 2) (r56.map (cI .i64))) h757 (hV (.int .i64 r57) h758 (hV (.lsl M100.length r550.length 0 r550.length) h759 (hV (.int .i64 1) rfl hZ))))))) fun e766 h768 h769 h770 h771 h772 h773 h774 => sN (sq (Rg (kx (mvO h773) (kx (mvO h774) (Ev.nxw (Ev.callW rfl (cns rfl (cns rfl rfl)) (laws_markInt64S_l_ok r550 1 M100.length M752 o761 _ hx775)) fun v780 M778 hq779 => ?_)))))))))))
   clear h754 h755 h756 h757 h758 h759 h760
   obtain ⟨hv780, o781, fr782, hl783⟩ := hq779
   have hv780 : v780 = .int .i64 r776 := hv780
   subst hv780
   have o784 : M778[M100.length]? = some (.live ⟨.grow, 2, 1, r777.map (cI .i64)⟩) := o781
   have hl783 : r777.length = r550.length := hl783
   obtain ⟨r805, hx804, h⟩ := bind_some h
   refine kx (mvO rfl) (Rn (hA h768 (hA h769 (hA h770 (hA h771 (hA h772 (hA h773 (hN rfl hZ))))))) fun e785 h787 h788 h789 h790 h791 h792 h793 => sN (sq (Rg (kx (mvO rfl) (Rn (hA h787 (hA h788 (hA h789 (hA h790 (hA h791 (hA h792 (hA h793 (hV (.int .i64 1) rfl hZ)))))))) fun e794 h796 h797 h798 h799 h800 h801 h802 h803 => sN (sq (Rg (kx (mvO (lslL (L' := r777.length) h801 (by simp [hl681, hl682, hl707, hl783]))) (kx (mvO h803) (kc (cl (v := .int .i64 r805) rfl (cns rfl (cns rfl rfl)) (ra1 (ra1_row o784 rfl (cI_fl _)) (ra1 rfl ra0)) (laws_heldInt64S_ok r777 1 _ hx804) (fun _ => rfl)) (kx (mvO rfl) (Rn (hA h796 (hA h797 (hA h798 (hA h799 (hA h800 (hA h801 (hA h802 (hN rfl hZ)))))))) fun e806 h808 h809 h810 h811 h812 h813 h814 h815 => sN (sq (sq (Rg (kx (mvO h815) (kx (bLss rfl rfl) (Rn (hA h808 (hA h809 (hA h810 (hA h811 (hA h812 (hA h813 (hA h814 (hA h815 (hN rfl hZ))))))))) fun e816 h818 h819 h820 h821 h822 h823 h824 h825 h826 => sN ?_))))))))))))))))))
   clear h768 h769 h770 h771 h772 h773 h787 h788 h789 h790 h791 h792 h793 h796 h797 h798 h799 h800 h801 h802 h808 h809 h810 h811 h812 h813 h814 h815
   rcases ite_some h with ⟨hb827, h⟩ | ⟨hb827, h⟩
   ·refine cT h826 hb827 (sq (Rg (kx (mvO rfl) (Rn (hV (.bool false) rfl hZ) fun e828 h830 => sN (xx (sR ?_))))))
    clear h818 h819 h820 h821 h822 h823 h824 h825 h826
    cases h
    exact eR (resT h830 res0) rfl
   refine cF h826 hb827 (xx (sN (sq (sq (Rg (kx (mvO h825) (kx (mvO h824) (kx (bNeq rfl rfl) (Rn (hA h818 (hA h819 (hA h820 (hA h821 (hA h822 (hA h823 (hA h824 (hN rfl hZ)))))))) fun e831 h833 h834 h835 h836 h837 h838 h839 h840 => sN ?_)))))))))
   clear h818 h819 h820 h821 h822 h823 h824 h825 h826
   rcases ite_some h with ⟨hb841, h⟩ | ⟨hb841, h⟩
   ·refine cT h840 hb841 (sq (Rg (kx (mvO rfl) (Rn (hV (.bool false) rfl hZ) fun e842 h844 => sN (xx (sR ?_))))))
    clear h833 h834 h835 h836 h837 h838 h839 h840
    cases h
    exact eR (resT h844 res0) rfl
   obtain ⟨⟨r846, r847, r848⟩, hx845, h⟩ := bind_some h
   obtain ⟨r850, hx849, h⟩ := bind_some h
   obtain ⟨q984, hx851, h⟩ := bind_some h
   refine cF h840 hb841 (xx (sN (sq (Rg (kx (ldPA h835 rfl rfl) (kc (cl (v := .agg [.int .i64 r846, .sl (some 2) (r847.map (cI .i64)), .sl (some 75) (r848.map Tally.c)]) rfl (cns rfl rfl) rfl (laws_toBook_ok a1 _ hx845) nm) (kx (mvO h833) (kc (cl (v := .sl (some 65) (r850.map Deal.c)) rfl (cns rfl rfl) rfl (laws_toDealS_ok a2 _ hx849) nm) (kx (mvO h834) ?_)))))))))
   rcases q984 with r852 | r918
   ·obtain ⟨r916, hr917, h⟩ := bind_some h
    refine kc (cl (v := .tup [.nils, .int .i64 r852]) rfl (cns rfl (cns rfl (cns rfl rfl))) rfl (impl_HistoryOf_ok (Book.mk r846 r847 r848) r850 a3 _ hx851) nm) (kx (mvO rfl) (kx (exT rfl rfl) (kx (exT rfl rfl) (kx (mvO rfl) (kx (mvO rfl) (Rn (hA h836 (hA h837 (hA h838 (hA h839 (hV .nils rfl (hN rfl hZ)))))) fun e853 h855 h856 h857 h858 h859 h860 => sN (sq (sq ?_))))))))
    clear h833 h834 h835 h836 h837 h838 h839 h840
    refine Ev.cut (Q1 := laws_FnExactHistoryOf_c7_Q r776 r777 M100.length r916) (by
        have h := hr917
        obtain ⟨r862, hx861, h⟩ := bind_some h
        refine Rg (kx (mvO h859) (kx (mvO h855) (kc (cl (v := .bool r862) rfl (cns rfl (cns rfl rfl)) rfl (laws_eqInt64S_ok ([] : List Int) r56 _ hx861) nm) (kx (uNot rfl) (kx (mvO rfl) ?_)))))
        rcases ite_some h with ⟨hb863, h⟩ | ⟨hb863, h⟩
        ·refine kx (guF rfl (congrArg Bool.not hb863) (mvO h860)) (kx (guF rfl (congrArg Bool.not hb863) (mvO h856)) (kx (guF rfl (congrArg Bool.not hb863) (bNeq rfl rfl)) (kx (pkF rfl (congrArg Bool.not hb863) rfl) (Rn (hA h857 (hA h858 (hN rfl hZ))) fun e864 h866 h867 h868 => ?_))))
         clear h855 h856 h857 h858 h859 h860
         cases h
         exact kd (show laws_FnExactHistoryOf_c7_Q r776 r777 M100.length _ _ from ⟨rfl, (lslL (L' := r777.length) h866 (by simp [hl681, hl682, hl707, hl783])), h867, h868, o784⟩)
        refine kx (gsF rfl (congrArg Bool.not hb863)) (kx (gsF rfl (congrArg Bool.not hb863)) (kx (gsF rfl (congrArg Bool.not hb863)) (kx (pkT rfl (congrArg Bool.not hb863) rfl) (Rn (hA h857 (hA h858 (hV (.bool true) rfl hZ))) fun e869 h871 h872 h873 => ?_))))
        clear h855 h856 h857 h858 h859 h860
        cases h
        exact kd (show laws_FnExactHistoryOf_c7_Q r776 r777 M100.length _ _ from ⟨rfl, (lslL (L' := r777.length) h871 (by simp [hl681, hl682, hl707, hl783])), h872, h873, o784⟩)) ?_
    revert h hr917
    revert r916
    intro y876 hr917 h
    intro x e874 M875 hq915
    obtain ⟨rfl, h877, h878, h879, o880⟩ := hq915
    refine sN ?_
    rcases ite_some h with ⟨hb881, h⟩ | ⟨hb881, h⟩
    ·refine cT h879 hb881 (sq (Rg (kx (mvO rfl) (Rn (hV (.bool false) rfl hZ) fun e882 h884 => sN (xx (sR ?_))))))
     clear h877 h878 h879
     cases h
     exact eR (resT h884 res0) rfl
    obtain ⟨r891, hx890, h⟩ := bind_some h
    refine cF h879 hb881 (xx (sN (sq (Rg (kx (mvO rfl) (Rn (hV (.lsl M100.length r777.length 0 r777.length) h877 (hV (.int .i64 r776) h878 (hV (.int .i64 1) rfl hZ))) fun e885 h887 h888 h889 => sN (sq (Rg (kx (mvO h887) (kx (mvO h889) (kc (cl (v := .int .i64 r891) rfl (cns rfl (cns rfl rfl)) (ra1 (ra1_row o880 rfl (cI_fl _)) (ra1 rfl ra0)) (laws_heldInt64S_ok r777 1 _ hx890) (fun _ => rfl)) (kx (mvO rfl) (Rn (hA h888 (hN rfl hZ)) fun e892 h894 h895 => sN (sq (sq (Rg (kx (mvO h895) (kx (bLss rfl rfl) (Rn (hA h894 (hA h895 (hN rfl hZ))) fun e896 h898 h899 h900 => sN ?_)))))))))))))))))))
    clear h877 h878 h879 h887 h888 h894 h895
    rcases ite_some h with ⟨hb901, h⟩ | ⟨hb901, h⟩
    ·refine cT h900 hb901 (sq (Rg (kx (mvO rfl) (Rn (hV (.bool false) rfl hZ) fun e902 h904 => sN (xx (sR ?_))))))
     clear h898 h899 h900
     cases h
     exact eR (resT h904 res0) rfl
    refine cF h900 hb901 (xx (sN (sq (sq (Rg (kx (mvO h899) (kx (mvO h898) (kx (bNeq rfl rfl) (Rn (hN rfl hZ) fun e905 h907 => sN ?_)))))))))
    clear h898 h899 h900
    rcases ite_some h with ⟨hb908, h⟩ | ⟨hb908, h⟩
    ·refine cT h907 hb908 (sq (Rg (kx (mvO rfl) (Rn (hV (.bool false) rfl hZ) fun e909 h911 => sN (xx (sR ?_))))))
     clear h907
     cases h
     exact eR (resT h911 res0) rfl
    refine cF h907 hb908 (xx (sN (sq (Rg (kx (mvO rfl) (Rn (hV (.bool true) rfl hZ) fun e912 h914 => sN (xx ?_)))))))
    clear h907
    cases h
    exact eR (resT h914 res0) rfl
   obtain ⟨r982, hr983, h⟩ := bind_some h
   refine kc (cl (v := .tup [.sl (some 2) (r918.map (cI .i64)), .int .i64 0]) rfl (cns rfl (cns rfl (cns rfl rfl))) rfl (impl_HistoryOf_ok (Book.mk r846 r847 r848) r850 a3 _ hx851) nm) (kx (mvO rfl) (kx (exT rfl rfl) (kx (exT rfl rfl) (kx (mvO rfl) (kx (mvO rfl) (Rn (hA h836 (hA h837 (hA h838 (hA h839 (hN rfl (hV (.int .i64 0) rfl hZ)))))) fun e919 h921 h922 h923 h924 h925 h926 => sN (sq (sq ?_))))))))
   clear h833 h834 h835 h836 h837 h838 h839 h840
   refine Ev.cut (Q1 := laws_FnExactHistoryOf_c8_Q r776 r777 M100.length r982) (by
       have h := hr983
       obtain ⟨r928, hx927, h⟩ := bind_some h
       refine Rg (kx (mvO h925) (kx (mvO h921) (kc (cl (v := .bool r928) rfl (cns rfl (cns rfl rfl)) rfl (laws_eqInt64S_ok r918 r56 _ hx927) nm) (kx (uNot rfl) (kx (mvO rfl) ?_)))))
       rcases ite_some h with ⟨hb929, h⟩ | ⟨hb929, h⟩
       ·refine kx (guF rfl (congrArg Bool.not hb929) (mvO h926)) (kx (guF rfl (congrArg Bool.not hb929) (mvO h922)) (kx (guF rfl (congrArg Bool.not hb929) (bNeq rfl rfl)) (kx (pkF rfl (congrArg Bool.not hb929) rfl) (Rn (hA h923 (hA h924 (hN rfl hZ))) fun e930 h932 h933 h934 => ?_))))
        clear h921 h922 h923 h924 h925 h926
        cases h
        exact kd (show laws_FnExactHistoryOf_c8_Q r776 r777 M100.length _ _ from ⟨rfl, (lslL (L' := r777.length) h932 (by simp [hl681, hl682, hl707, hl783])), h933, h934, o784⟩)
       refine kx (gsF rfl (congrArg Bool.not hb929)) (kx (gsF rfl (congrArg Bool.not hb929)) (kx (gsF rfl (congrArg Bool.not hb929)) (kx (pkT rfl (congrArg Bool.not hb929) rfl) (Rn (hA h923 (hA h924 (hV (.bool true) rfl hZ))) fun e935 h937 h938 h939 => ?_))))
       clear h921 h922 h923 h924 h925 h926
       cases h
       exact kd (show laws_FnExactHistoryOf_c8_Q r776 r777 M100.length _ _ from ⟨rfl, (lslL (L' := r777.length) h937 (by simp [hl681, hl682, hl707, hl783])), h938, h939, o784⟩)) ?_
   revert h hr983
   revert r982
   intro y942 hr983 h
   intro x e940 M941 hq981
   obtain ⟨rfl, h943, h944, h945, o946⟩ := hq981
   refine sN ?_
   rcases ite_some h with ⟨hb947, h⟩ | ⟨hb947, h⟩
   ·refine cT h945 hb947 (sq (Rg (kx (mvO rfl) (Rn (hV (.bool false) rfl hZ) fun e948 h950 => sN (xx (sR ?_))))))
    clear h943 h944 h945
    cases h
    exact eR (resT h950 res0) rfl
   obtain ⟨r957, hx956, h⟩ := bind_some h
   refine cF h945 hb947 (xx (sN (sq (Rg (kx (mvO rfl) (Rn (hV (.lsl M100.length r777.length 0 r777.length) h943 (hV (.int .i64 r776) h944 (hV (.int .i64 1) rfl hZ))) fun e951 h953 h954 h955 => sN (sq (Rg (kx (mvO h953) (kx (mvO h955) (kc (cl (v := .int .i64 r957) rfl (cns rfl (cns rfl rfl)) (ra1 (ra1_row o946 rfl (cI_fl _)) (ra1 rfl ra0)) (laws_heldInt64S_ok r777 1 _ hx956) (fun _ => rfl)) (kx (mvO rfl) (Rn (hA h954 (hN rfl hZ)) fun e958 h960 h961 => sN (sq (sq (Rg (kx (mvO h961) (kx (bLss rfl rfl) (Rn (hA h960 (hA h961 (hN rfl hZ))) fun e962 h964 h965 h966 => sN ?_)))))))))))))))))))
   clear h943 h944 h945 h953 h954 h960 h961
   rcases ite_some h with ⟨hb967, h⟩ | ⟨hb967, h⟩
   ·refine cT h966 hb967 (sq (Rg (kx (mvO rfl) (Rn (hV (.bool false) rfl hZ) fun e968 h970 => sN (xx (sR ?_))))))
    clear h964 h965 h966
    cases h
    exact eR (resT h970 res0) rfl
   refine cF h966 hb967 (xx (sN (sq (sq (Rg (kx (mvO h965) (kx (mvO h964) (kx (bNeq rfl rfl) (Rn (hN rfl hZ) fun e971 h973 => sN ?_)))))))))
   clear h964 h965 h966
   rcases ite_some h with ⟨hb974, h⟩ | ⟨hb974, h⟩
   ·refine cT h973 hb974 (sq (Rg (kx (mvO rfl) (Rn (hV (.bool false) rfl hZ) fun e975 h977 => sN (xx (sR ?_))))))
    clear h973
    cases h
    exact eR (resT h977 res0) rfl
   refine cF h973 hb974 (xx (sN (sq (Rg (kx (mvO rfl) (Rn (hV (.bool true) rfl hZ) fun e978 h980 => sN (xx ?_)))))))
   clear h973
   cases h
   exact eR (resT h980 res0) rfl
  refine cT h657 (congrArg Bool.not hb658) (sq (Rg (kx (mvO rfl) (Rn (hV (.bool false) rfl hZ) fun e988 h990 => sN (xx (sR ?_))))))
  clear h648 h649 h650 h651 h652 h653 h654 h655 h656 h657
  cases h
  exact eR (resT h990 res0) rfl
 refine cT h640 (congrArg Bool.not hb641) (sq (Rg (kx (mvO rfl) (Rn (hV (.bool false) rfl hZ) fun e991 h993 => sN (xx (sR ?_))))))
 clear h631 h632 h633 h634 h635 h636 h637 h638 h639 h640
 cases h
 exact eR (resT h993 res0) rfl
end Go.Proofs.Ytpdmcpnabjifhaa

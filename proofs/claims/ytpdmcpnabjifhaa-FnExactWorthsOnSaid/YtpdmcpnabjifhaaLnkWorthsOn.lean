/- Printed by a program of ours (ext.py). -/
import Derived.Test.YtpdmcpnabjifhaaLnkWorthsOnx1
set_option linter.unusedVariables false
set_option linter.unusedSimpArgs false
set_option maxRecDepth 100000
set_option maxHeartbeats 2000000
namespace Go.Proofs.Ytpdmcpnabjifhaa
open Go Go.Ab
/-! ### loop.example/g01263/laws.markInt64S (f27) -/
abbrev laws_markInt64S_n_b1_S := Int × Int
abbrev laws_markInt64S_n_b1_R := Int
def laws_markInt64S_n_b1_RS (M0 : Mem) (s : laws_markInt64S_n_b1_S) (e : Env) (M : Mem) : Prop := eget e 0 = .nils ∧ eget e 1 = .int .i64 s.1 ∧ eget e 5 = .int .i64 s.2 ∧ Fr [] M0 M
def laws_markInt64S_n_b1_RR (M0 : Mem) (g : laws_markInt64S_n_b1_R) (x : Ex) (e : Env) (M : Mem) : Prop := x = .ext 0 ∧ eget e 1 = .int .i64 g ∧ Fr [] M0 M
noncomputable def laws_markInt64S_n_b1 : laws_markInt64S_n_b1_S → Option (laws_markInt64S_n_b1_S ⊕ laws_markInt64S_n_b1_R) := fun (s1_1, s1_2) =>
 if (decide (s1_2 < 0)) = true then
  none
 else
  some (.inr s1_1)
theorem laws_markInt64S_n_b1_ok (M0 : Mem) (s : laws_markInt64S_n_b1_S) (r : laws_markInt64S_n_b1_S ⊕ laws_markInt64S_n_b1_R) (h : laws_markInt64S_n_b1 s = some r) (e : Env) (M : Mem) (hs : laws_markInt64S_n_b1_RS M0 s e M) : Ev (fun k => (f27_l2 (CN k) k (prune [0, 1, 5] e) M).bind fun q => some q) (bQ (laws_markInt64S_n_b1_RS M0) (laws_markInt64S_n_b1_RR M0) r) := by
 obtain ⟨s1_1, s1_2⟩ := s
 unfold laws_markInt64S_n_b1 at h
 obtain ⟨h21, h23, h25, fr27⟩ := hs
 generalize he20 : prune [0, 1, 5] e = e19
 have h22 := envp he20.symm rfl h21
 have h24 := envp he20.symm rfl h23
 have h26 := envp he20.symm rfl h25
 refine sq (sq (Rg (kx (mvO h26) (kx (mvO h22) (kx (lnN Try.underlying22 rfl) (kx (bLss rfl rfl) (Rn (hV .nils h22 (hV (.int .i64 s1_1) h24 (hV (.int .i64 s1_2) h26 (hN rfl hZ)))) fun e28 h30 h31 h32 h33 => sN ?_)))))))
 clear h22 h24 h26
 rcases ite_some h with ⟨hb34, h⟩ | ⟨hb34, h⟩
 ·refine cT h33 hb34 (xx (sN (sq (bl (sq (Rg (kx (mvO h30) (kx (mvO h32) (kx (mvO h31) ?_)))))))))
  cases h
 refine cF h33 hb34 (xx (sE ?_))
 cases h
 exact qE ⟨rfl, h31, fr27⟩
noncomputable def laws_markInt64S_n (a1 : Int) : Option Int :=
 (Lw (laws_markInt64S_n_b1) (a1, 0)).bind fun y40 =>
 some y40
def laws_markInt64S_n_Q (a1 : Int) (M0 : Mem) (r : Int) (p : AV × Mem) : Prop := p.1 = .int .i64 r ∧ Fr [] M0 p.2
theorem laws_markInt64S_n_ok (a1 : Int) (M0 : Mem) (r : Int) (h : laws_markInt64S_n a1 = some r) : Ev (fun k => CN k 27 [.nils, .int .i64 a1] M0) (laws_markInt64S_n_Q a1 M0 r) := by
 unfold laws_markInt64S_n at h
 have fr0 : Fr [] M0 M0 := Fr.refl
 obtain ⟨y40, hr36, h⟩ := bind_some h
 refine Ev.enter (F := fun k => f27 (CN k) k) (fun k => callN_eq rfl Try.func27 rfl rfl rfl (by decide +kernel) (f27_eq _ _)) (sq (Rg (kx (mvO rfl) (Rn (hV .nils rfl (hN rfl hZ)) fun e1 h3 h4 => sN (sq (sq (Rg (kx (mvO rfl) (Rn (hA h3 (hA h4 (hV (.int .i64 0) rfl hZ))) fun e5 h7 h8 h9 => sN (bl (Ev.loop (RS := laws_markInt64S_n_b1_RS M0) (RR := laws_markInt64S_n_b1_RR M0) (fun s r h e M hs => laws_markInt64S_n_b1_ok M0 s r h e M hs) hr36 ⟨h7, h8, h9, fr0⟩ fun x e38 M39 hq37 => ?_)))))))))))
 clear h3 h4
 obtain ⟨rfl, h41, fr42⟩ := hq37
 refine bE (sN (sq (Rg (kx (mvO h41) (kx (mvO rfl) (Rn (hN rfl hZ) fun e43 h45 => sN (xx ?_)))))))
 clear h41
 cases h
 exact eR (resT h45 res0) ⟨rfl, fr42⟩
/-! ### loop.example/g01263/laws.FnExactWorthsOn (f8) -/
def laws_FnExactWorthsOn_c1_Q (a1 : Book) (a2 : List Deal) (a3 : Int) (a4 : List Int) (r75 : List Int) (r76 : Int) (r86 : Int) (r87 : List Int) (r88 : List Tally) (r119 : List Deal) (r141 : List Int) (r166 : Int) (i901_1 : Nat) (i901_2 : Nat) (i901_3 : Nat) (i901_4 : Nat) (i901_5 : Nat) (g : Bool) (q : Out) : Prop := q.1 = .nrm ∧ eget q.2.1 1 = .sl none (a2.map Deal.c) ∧ eget q.2.1 2 = .int .i64 a3 ∧ eget q.2.1 3 = .sl none (a4.map (cI .i64)) ∧ eget q.2.1 4 = .pt none [.int .i64 a1.Day, .sl none (a1.Cash.map (cI .i64)), .sl none (a1.Tallies.map Tally.c)] ∧ eget q.2.1 10 = .sl (some 2) (r75.map (cI .i64)) ∧ eget q.2.1 11 = .int .i64 r76 ∧ eget q.2.1 12 = .loc i901_3 1 0 0 ∧ eget q.2.1 13 = .lsl i901_4 r119.length 0 r119.length ∧ eget q.2.1 14 = .lsl i901_5 r141.length 0 r141.length ∧ eget q.2.1 15 = .nils ∧ eget q.2.1 16 = .int .i64 r166 ∧ eget q.2.1 68 = .bool g ∧ q.2.2[i901_4]? = some (.live ⟨.grow, 65, 6, r119.map Deal.c⟩) ∧ q.2.2[i901_5]? = some (.live ⟨.grow, 2, 1, r141.map (cI .i64)⟩) ∧ q.2.2[i901_1]? = some (.live ⟨.grow, 2, 1, r87.map (cI .i64)⟩) ∧ q.2.2[(i901_1 + 1)]? = some (.live ⟨.grow, 75, 5, r88.map Tally.c⟩) ∧ q.2.2[i901_3]? = some (.live ⟨.box, 33, 3, [[.int .i64 r86, .lsl i901_1 r87.length 0 r87.length, .lsl (i901_1 + 1) r88.length 0 r88.length]]⟩)
def laws_FnExactWorthsOn_c2_Q (a1 : Book) (a2 : List Deal) (a3 : Int) (a4 : List Int) (r75 : List Int) (r76 : Int) (g : Bool) (q : Out) : Prop := q.1 = .nrm ∧ eget q.2.1 1 = .sl none (a2.map Deal.c) ∧ eget q.2.1 2 = .int .i64 a3 ∧ eget q.2.1 3 = .sl none (a4.map (cI .i64)) ∧ eget q.2.1 4 = .pt none [.int .i64 a1.Day, .sl none (a1.Cash.map (cI .i64)), .sl none (a1.Tallies.map Tally.c)] ∧ eget q.2.1 10 = .sl (some 2) (r75.map (cI .i64)) ∧ eget q.2.1 11 = .int .i64 r76 ∧ eget q.2.1 15 = .nils ∧ eget q.2.1 105 = .bool g
def laws_FnExactWorthsOn_c3_Q (r449 : Int) (g : Bool) (q : Out) : Prop := q.1 = .nrm ∧ eget q.2.1 15 = .nils ∧ eget q.2.1 18 = .int .i64 r449 ∧ eget q.2.1 136 = .bool g
def laws_FnExactWorthsOn_c4_Q (r449 : Int) (g : Bool) (q : Out) : Prop := q.1 = .nrm ∧ eget q.2.1 15 = .nils ∧ eget q.2.1 18 = .int .i64 r449 ∧ eget q.2.1 136 = .bool g
def laws_FnExactWorthsOn_c5_Q (a1 : Book) (a2 : List Deal) (a3 : Int) (a4 : List Int) (r75 : List Int) (r76 : Int) (r86 : Int) (r87 : List Int) (r88 : List Tally) (r119 : List Deal) (r141 : List Int) (r674 : List Int) (i905_1 : Nat) (i905_2 : Nat) (i905_3 : Nat) (i905_4 : Nat) (i905_5 : Nat) (i905_6 : Nat) (g : Bool) (q : Out) : Prop := q.1 = .nrm ∧ eget q.2.1 1 = .sl none (a2.map Deal.c) ∧ eget q.2.1 2 = .int .i64 a3 ∧ eget q.2.1 3 = .sl none (a4.map (cI .i64)) ∧ eget q.2.1 4 = .pt none [.int .i64 a1.Day, .sl none (a1.Cash.map (cI .i64)), .sl none (a1.Tallies.map Tally.c)] ∧ eget q.2.1 10 = .sl (some 2) (r75.map (cI .i64)) ∧ eget q.2.1 11 = .int .i64 r76 ∧ eget q.2.1 12 = .loc i905_3 1 0 0 ∧ eget q.2.1 13 = .lsl i905_4 r119.length 0 r119.length ∧ eget q.2.1 14 = .lsl i905_5 r141.length 0 r141.length ∧ eget q.2.1 15 = .lsl i905_6 r674.length 0 r674.length ∧ eget q.2.1 16 = .int .i64 0 ∧ eget q.2.1 68 = .bool g ∧ q.2.2[i905_4]? = some (.live ⟨.grow, 65, 6, r119.map Deal.c⟩) ∧ q.2.2[i905_5]? = some (.live ⟨.grow, 2, 1, r141.map (cI .i64)⟩) ∧ q.2.2[i905_6]? = some (.live ⟨.grow, 2, 1, r674.map (cI .i64)⟩) ∧ q.2.2[i905_1]? = some (.live ⟨.grow, 2, 1, r87.map (cI .i64)⟩) ∧ q.2.2[(i905_1 + 1)]? = some (.live ⟨.grow, 75, 5, r88.map Tally.c⟩) ∧ q.2.2[i905_3]? = some (.live ⟨.box, 33, 3, [[.int .i64 r86, .lsl i905_1 r87.length 0 r87.length, .lsl (i905_1 + 1) r88.length 0 r88.length]]⟩)
def laws_FnExactWorthsOn_c6_Q (a1 : Book) (a2 : List Deal) (a3 : Int) (a4 : List Int) (r75 : List Int) (r76 : Int) (r674 : List Int) (i906_1 : Nat) (g : Bool) (q : Out) : Prop := q.1 = .nrm ∧ eget q.2.1 1 = .sl none (a2.map Deal.c) ∧ eget q.2.1 2 = .int .i64 a3 ∧ eget q.2.1 3 = .sl none (a4.map (cI .i64)) ∧ eget q.2.1 4 = .pt none [.int .i64 a1.Day, .sl none (a1.Cash.map (cI .i64)), .sl none (a1.Tallies.map Tally.c)] ∧ eget q.2.1 10 = .sl (some 2) (r75.map (cI .i64)) ∧ eget q.2.1 11 = .int .i64 r76 ∧ eget q.2.1 15 = .lsl i906_1 r674.length 0 r674.length ∧ eget q.2.1 105 = .bool g ∧ q.2.2[i906_1]? = some (.live ⟨.grow, 2, 1, r674.map (cI .i64)⟩)
def laws_FnExactWorthsOn_c7_Q (r969 : Int) (r970 : List Int) (i907_1 : Nat) (g : Bool) (q : Out) : Prop := q.1 = .nrm ∧ eget q.2.1 15 = .lsl i907_1 r970.length 0 r970.length ∧ eget q.2.1 18 = .int .i64 r969 ∧ eget q.2.1 136 = .bool g ∧ q.2.2[i907_1]? = some (.live ⟨.grow, 2, 1, r970.map (cI .i64)⟩)
def laws_FnExactWorthsOn_c8_Q (r969 : Int) (r970 : List Int) (i908_1 : Nat) (g : Bool) (q : Out) : Prop := q.1 = .nrm ∧ eget q.2.1 15 = .lsl i908_1 r970.length 0 r970.length ∧ eget q.2.1 18 = .int .i64 r969 ∧ eget q.2.1 136 = .bool g ∧ q.2.2[i908_1]? = some (.live ⟨.grow, 2, 1, r970.map (cI .i64)⟩)
noncomputable def laws_FnExactWorthsOn (a1 : Book) (a2 : List Deal) (a3 : Int) (a4 : List Int) : Option Bool :=
 if (decide ((a4.length : Int) > 1048576)) = true then
  some true
 else
  (laws_szBook a1 1048576).bind fun r26 =>
  if (decide (r26 < 0)) = true then
   some true
  else
   (laws_szDealS a2 r26).bind fun r47 =>
   if (decide (r47 < 0)) = true then
    some true
   else
    (laws_toBook a1).bind fun (r67, r68, r69) =>
    (laws_toDealS a2).bind fun r71 =>
    (laws_toInt64S a4).bind fun r73 =>
    (spec_WorthsOn (Book.mk r67 r68 r69) r71 a3 r73).bind fun (r75, r76) =>
    (laws_toBook a1).bind fun (r86, r87, r88) =>
    (laws_toDealS a2).bind fun r119 =>
    (laws_toInt64S a4).bind fun r141 =>
    (impl_WorthsOn (Book.mk r86 r87 r88) r119 a3 r141).bind fun r => match r with
    | (.inl r166) =>
     ((laws_eqInt64S ([] : List Int) r75).bind fun r188 =>
     if r188 = true then
      some (r166 != r76)
     else
      some true).bind fun y220 =>
     if y220 = true then
      some false
     else
      (laws_toBook a1).bind fun (r243, r244, r245) =>
      (laws_eqBook (Book.mk r86 r87 r88) (Book.mk r243 r244 r245)).bind fun r247 =>
      if r247 = true then
       (laws_toDealS a2).bind fun r264 =>
       (laws_eqDealS r119 r264).bind fun r266 =>
       if r266 = true then
        (laws_toInt64S a4).bind fun r283 =>
        (laws_eqInt64S r141 r283).bind fun r285 =>
        if r285 = true then
         (laws_markBook_ll r86 r87 r88 1).bind fun (r316, r317, r318) =>
         (laws_markDealS_l r119 r316).bind fun (r346, r347) =>
         (laws_markInt64S_l r141 r346).bind fun (r369, r370) =>
         (if (decide (r369 < 0)) = true then
          some true
         else
          (laws_eqInt64S ([] : List Int) r75).bind fun r401 =>
          if r401 = true then
           some (r166 != r76)
          else
           some true).bind fun y425 =>
         if y425 = true then
          some false
         else
          (laws_markInt64S_n 1).bind fun r449 =>
          (laws_heldInt64S ([] : List Int) 1).bind fun r476 =>
          if (decide (r476 < 0)) = true then
           some false
          else
           if (r476 != r449) = true then
            some false
           else
            (laws_toBook a1).bind fun (r520, r521, r522) =>
            (laws_toDealS a2).bind fun r524 =>
            (laws_toInt64S a4).bind fun r526 =>
            (impl_WorthsOn (Book.mk r520 r521 r522) r524 a3 r526).bind fun r => match r with
            | (.inl r528) =>
             ((laws_eqInt64S ([] : List Int) r75).bind fun r538 =>
             if r538 = true then
              some (r528 != r76)
             else
              some true).bind fun y552 =>
             if y552 = true then
              some false
             else
              (laws_heldInt64S ([] : List Int) 1).bind fun r566 =>
              if (decide (r566 < 0)) = true then
               some false
              else
               if (r566 != r449) = true then
                some false
               else
                some true
            | (.inr r593) =>
             ((laws_eqInt64S r593 r75).bind fun r603 =>
             if r603 = true then
              some (0 != r76)
             else
              some true).bind fun y617 =>
             if y617 = true then
              some false
             else
              (laws_heldInt64S ([] : List Int) 1).bind fun r631 =>
              if (decide (r631 < 0)) = true then
               some false
              else
               if (r631 != r449) = true then
                some false
               else
                some true
        else
         some false
       else
        some false
      else
       some false
    | (.inr r674) =>
     ((laws_eqInt64S r674 r75).bind fun r703 =>
     if r703 = true then
      some (0 != r76)
     else
      some true).bind fun y735 =>
     if y735 = true then
      some false
     else
      (laws_toBook a1).bind fun (r759, r760, r761) =>
      (laws_eqBook (Book.mk r86 r87 r88) (Book.mk r759 r760 r761)).bind fun r763 =>
      if r763 = true then
       (laws_toDealS a2).bind fun r780 =>
       (laws_eqDealS r119 r780).bind fun r782 =>
       if r782 = true then
        (laws_toInt64S a4).bind fun r799 =>
        (laws_eqInt64S r141 r799).bind fun r801 =>
        if r801 = true then
         (laws_markBook_ll r86 r87 r88 1).bind fun (r832, r833, r834) =>
         (laws_markDealS_l r119 r832).bind fun (r863, r864) =>
         (laws_markInt64S_l r141 r863).bind fun (r887, r888) =>
         (if (decide (r887 < 0)) = true then
          some true
         else
          (laws_eqInt64S r674 r75).bind fun r920 =>
          if r920 = true then
           some (0 != r76)
          else
           some true).bind fun y944 =>
         if y944 = true then
          some false
         else
          (laws_markInt64S_l r674 1).bind fun (r969, r970) =>
          (laws_heldInt64S r970 1).bind fun r1000 =>
          if (decide (r1000 < 0)) = true then
           some false
          else
           if (r1000 != r969) = true then
            some false
           else
            (laws_toBook a1).bind fun (r1044, r1045, r1046) =>
            (laws_toDealS a2).bind fun r1048 =>
            (laws_toInt64S a4).bind fun r1050 =>
            (impl_WorthsOn (Book.mk r1044 r1045 r1046) r1048 a3 r1050).bind fun r => match r with
            | (.inl r1052) =>
             ((laws_eqInt64S ([] : List Int) r75).bind fun r1062 =>
             if r1062 = true then
              some (r1052 != r76)
             else
              some true).bind fun y1076 =>
             if y1076 = true then
              some false
             else
              (laws_heldInt64S r970 1).bind fun r1091 =>
              if (decide (r1091 < 0)) = true then
               some false
              else
               if (r1091 != r969) = true then
                some false
               else
                some true
            | (.inr r1118) =>
             ((laws_eqInt64S r1118 r75).bind fun r1128 =>
             if r1128 = true then
              some (0 != r76)
             else
              some true).bind fun y1142 =>
             if y1142 = true then
              some false
             else
              (laws_heldInt64S r970 1).bind fun r1157 =>
              if (decide (r1157 < 0)) = true then
               some false
              else
               if (r1157 != r969) = true then
                some false
               else
                some true
        else
         some false
       else
        some false
      else
       some false
def laws_FnExactWorthsOn_enc (r : Bool) : AV := .bool r
theorem laws_FnExactWorthsOn_ok (a1 : Book) (a2 : List Deal) (a3 : Int) (a4 : List Int) (r : Bool) (h : laws_FnExactWorthsOn a1 a2 a3 a4 = some r) : Ev (fun k => CN k 8 [.agg [.int .i64 a1.Day, .sl none (a1.Cash.map (cI .i64)), .sl none (a1.Tallies.map Tally.c)], .sl none (a2.map Deal.c), .int .i64 a3, .sl none (a4.map (cI .i64))] []) (fun p => rRes p.2 p.1 = laws_FnExactWorthsOn_enc r) := by
 unfold laws_FnExactWorthsOn at h
 refine Ev.enter (F := fun k => f8 (CN k) k) (fun k => callN_eq rfl Try.func8 rfl rfl rfl (by decide +kernel) (f8_eq _ _)) (sq (Rg (kx (bxI rfl rfl ⟨rfl, rfl, by decide⟩) (kx (mvO rfl) (Rn (hN rfl (hN rfl (hN rfl (hN rfl hZ)))) fun e1 h3 h4 h5 h6 => sN (sq (sq (Rg (kx (mvO h5) (kx (lnS Try.underlying22 rfl) (kx (bGtr rfl rfl) (Rn (hA h3 (hA h4 (hA h5 (hA h6 (hN rfl hZ))))) fun e7 h9 h10 h11 h12 h13 => sN ?_))))))))))))
 clear h3 h4 h5 h6
 rcases ite_some h with ⟨hb14, h⟩ | ⟨hb14, h⟩
 ·refine cT h13 hb14 (sq (Rg (kx (mvO rfl) (Rn (hV (.bool true) rfl hZ) fun e15 h17 => sN (xx (sR ?_))))))
  clear h10 h11 h12 h13 h9
  cases h
  exact eR (resT h17 res0) rfl
 obtain ⟨r26, hx25, h⟩ := bind_some h
 refine cF h13 hb14 (xx (sN (sq (Rg (kx (mvO rfl) (Rn (hA h9 (hA h10 (hA h11 (hA h12 (hV (.int .i64 1048576) rfl hZ))))) fun e18 h20 h21 h22 h23 h24 => sN (sq (Rg (kx (ldPA h23 rfl rfl) (kx (mvO h24) (kc (cl (v := .int .i64 r26) rfl (cns rfl (cns rfl rfl)) rfl (laws_szBook_ok a1 1048576 _ hx25) nm) (kx (mvO rfl) (Rn (hA h20 (hA h21 (hA h22 (hA h23 (hN rfl hZ))))) fun e27 h29 h30 h31 h32 h33 => sN (sq (sq (Rg (kx (mvO h33) (kx (bLss rfl rfl) (Rn (hA h29 (hA h30 (hA h31 (hA h32 (hA h33 (hN rfl hZ)))))) fun e34 h36 h37 h38 h39 h40 h41 => sN ?_)))))))))))))))))))
 clear h10 h11 h12 h13 h9 h20 h21 h22 h23 h29 h30 h31 h32 h33
 rcases ite_some h with ⟨hb42, h⟩ | ⟨hb42, h⟩
 ·refine cT h41 hb42 (sq (Rg (kx (mvO rfl) (Rn (hV (.bool true) rfl hZ) fun e43 h45 => sN (xx (sR ?_))))))
  clear h36 h37 h38 h39 h40 h41
  cases h
  exact eR (resT h45 res0) rfl
 obtain ⟨r47, hx46, h⟩ := bind_some h
 refine cF h41 hb42 (xx (sN (sq (Rg (kx (mvO h36) (kx (mvO h40) (kc (cl (v := .int .i64 r47) rfl (cns rfl (cns rfl rfl)) rfl (laws_szDealS_ok a2 r26 _ hx46) nm) (kx (mvO rfl) (Rn (hA h36 (hA h37 (hA h38 (hA h39 (hN rfl hZ))))) fun e48 h50 h51 h52 h53 h54 => sN (sq (sq (Rg (kx (mvO h54) (kx (bLss rfl rfl) (Rn (hA h50 (hA h51 (hA h52 (hA h53 (hN rfl hZ))))) fun e55 h57 h58 h59 h60 h61 => sN ?_)))))))))))))))
 clear h36 h37 h38 h39 h41 h50 h51 h52 h53 h54
 rcases ite_some h with ⟨hb62, h⟩ | ⟨hb62, h⟩
 ·refine cT h61 hb62 (sq (Rg (kx (mvO rfl) (Rn (hV (.bool true) rfl hZ) fun e63 h65 => sN (xx (sR ?_))))))
  clear h57 h58 h59 h60 h61
  cases h
  exact eR (resT h65 res0) rfl
 obtain ⟨⟨r67, r68, r69⟩, hx66, h⟩ := bind_some h
 obtain ⟨r71, hx70, h⟩ := bind_some h
 obtain ⟨r73, hx72, h⟩ := bind_some h
 obtain ⟨⟨r75, r76⟩, hx74, h⟩ := bind_some h
 obtain ⟨⟨r86, r87, r88⟩, hx85, h⟩ := bind_some h
 refine cF h61 hb62 (xx (sN (sq (Rg (kx (ldPA h60 rfl rfl) (kc (cl (v := .agg [.int .i64 r67, .sl (some 2) (r68.map (cI .i64)), .sl (some 75) (r69.map Tally.c)]) rfl (cns rfl rfl) rfl (laws_toBook_ok a1 _ hx66) nm) (kx (mvO h57) (kc (cl (v := .sl (some 65) (r71.map Deal.c)) rfl (cns rfl rfl) rfl (laws_toDealS_ok a2 _ hx70) nm) (kx (mvO h58) (kx (mvO h59) (kc (cl (v := .sl (some 2) (r73.map (cI .i64))) rfl (cns rfl rfl) rfl (laws_toInt64S_ok a4 _ hx72) nm) (kc (cl (v := .tup [.sl (some 2) (r75.map (cI .i64)), .int .i64 r76]) rfl (cns rfl (cns rfl (cns rfl (cns rfl rfl)))) rfl (spec_WorthsOn_ok (Book.mk r67 r68 r69) r71 a3 r73 _ hx74) nm) (kx (mvO rfl) (kx (exT rfl rfl) (kx (exT rfl rfl) (kx (mvO rfl) (kx (mvO rfl) (Rn (hA h57 (hA h58 (hA h59 (hA h60 (hN rfl (hN rfl hZ)))))) fun e77 h79 h80 h81 h82 h83 h84 => sN (sq (Rg (kx (ldPA h82 rfl rfl) (Ev.nxcp (Ev.callT (v := .agg [.int .i64 r86, .sl (some 2) (r87.map (cI .i64)), .sl (some 75) (r88.map Tally.c)]) rfl (cns rfl rfl) rfl (laws_toBook_ok a1 _ hx85) (th_gen (v' := .agg [.int .i64 r86, .lsl ([] : Mem).length r87.length 0 r87.length, .lsl (([] : Mem).length + 1) r88.length 0 r88.length]) (l := [⟨.grow, 2, 1, r87.map (cI .i64)⟩, ⟨.grow, 75, 5, r88.map Tally.c⟩]) (own_agg (oa1 rfl (oa1 (own1_row' (c := (cI .i64)) (fun _ => rfl)) (oa1 (own1_row' (c := Tally.c) Tally.flF) oa0)))) (by simp [thaw, thaw2, thaw1, thawL, co2, co75]) rfl rfl)) fun M91 hM92 => ?_))))))))))))))))))))))
 clear h57 h58 h59 h60 h61
 have o93 : M91[([] : Mem).length]? = some (.live ⟨.grow, 2, 1, r87.map (cI .i64)⟩) := push_at hM92 0 rfl
 have ne94 : ([] : Mem).length ≠ (([] : Mem).length + 1) := by omega
 have o95 : M91[(([] : Mem).length + 1)]? = some (.live ⟨.grow, 75, 5, r88.map Tally.c⟩) := push_at hM92 1 rfl
 refine ku (alO zero33) fun M97 hM98 => ?_
 have o99 := push_old hM98 o93
 have ne100 := ne_new o93
 have o101 := push_old hM98 o95
 have ne102 := ne_new o95
 have o103 : M97[M91.length]? = some (.live ⟨.box, 33, 3, [[.int .i64 0, .nils, .nils]]⟩) := push_new hM98
 refine kw (stO rfl rfl o103 rfl rfl ⟨rfl, ble rfl⟩ (all1 rfl (all1 (okL o99 (by simp)) (all1 (okL o101 (by simp)) all0))) rfl) fun M104 hM105 => ?_
 have o106 := set_ne hM105 ne100 o99
 have o107 := set_ne hM105 ne102 o101
 have o108 : M104[M91.length]? = some (.live ⟨.box, 33, 3, [[.int .i64 r86, .lsl ([] : Mem).length r87.length 0 r87.length, .lsl (([] : Mem).length + 1) r88.length 0 r88.length]]⟩) := set_same hM105 o103
 obtain ⟨r119, hx118, h⟩ := bind_some h
 refine Rn (hA h79 (hA h80 (hA h81 (hA h82 (hA h83 (hA h84 (hV (.loc M91.length 1 0 0) rfl hZ))))))) fun e109 h111 h112 h113 h114 h115 h116 h117 => sN (sq (Rg (kx (mvO h111) (Ev.nxcp (Ev.callT (v := .sl (some 65) (r119.map Deal.c)) rfl (cns rfl rfl) rfl (laws_toDealS_ok a2 _ hx118) (th_gen (v' := .lsl M104.length r119.length 0 r119.length) (l := [⟨.grow, 65, 6, r119.map Deal.c⟩]) (ownA_row (c := Deal.c) Deal.flF) (by simp [thaw, thaw2, thaw1, thawL, co65]) rfl rfl)) fun M121 hM122 => ?_))))
 clear h79 h80 h81 h82 h83 h84
 have o123 := push_old hM122 o106
 have o124 := push_old hM122 o107
 have o125 := push_old hM122 o108
 have ne126 : ([] : Mem).length ≠ M104.length := by have := lt_of_get (M := M104) o106; omega
 have ne127 : (([] : Mem).length + 1) ≠ M104.length := by have := lt_of_get (M := M104) o107; omega
 have ne128 : M91.length ≠ M104.length := by have := lt_of_get (M := M104) o108; omega
 have o129 : M121[M104.length]? = some (.live ⟨.grow, 65, 6, r119.map Deal.c⟩) := push_at hM122 0 rfl
 obtain ⟨r141, hx140, h⟩ := bind_some h
 refine kx (mvO rfl) (Rn (hA h111 (hA h112 (hA h113 (hA h114 (hA h115 (hA h116 (hA h117 (hV (.lsl M104.length r119.length 0 r119.length) rfl hZ)))))))) fun e130 h132 h133 h134 h135 h136 h137 h138 h139 => sN (sq (Rg (kx (mvO h134) (Ev.nxcp (Ev.callT (v := .sl (some 2) (r141.map (cI .i64))) rfl (cns rfl rfl) rfl (laws_toInt64S_ok a4 _ hx140) (th_gen (v' := .lsl M121.length r141.length 0 r141.length) (l := [⟨.grow, 2, 1, r141.map (cI .i64)⟩]) (ownA_row (c := (cI .i64)) (fun _ => rfl)) (by simp [thaw, thaw2, thaw1, thawL, co2]) rfl rfl)) fun M143 hM144 => ?_)))))
 clear h111 h112 h113 h114 h115 h116 h117
 have o145 := push_old hM144 o123
 have o146 := push_old hM144 o124
 have o147 := push_old hM144 o125
 have o148 := push_old hM144 o129
 have ne149 : ([] : Mem).length ≠ M121.length := by have := lt_of_get (M := M121) o123; omega
 have ne150 : (([] : Mem).length + 1) ≠ M121.length := by have := lt_of_get (M := M121) o124; omega
 have ne151 : M91.length ≠ M121.length := by have := lt_of_get (M := M121) o125; omega
 have ne152 : M104.length ≠ M121.length := by have := lt_of_get (M := M121) o129; omega
 have o153 : M143[M121.length]? = some (.live ⟨.grow, 2, 1, r141.map (cI .i64)⟩) := push_at hM144 0 rfl
 obtain ⟨q1200, hx165, h⟩ := bind_some h
 refine kx (mvO rfl) (Rn (hA h132 (hA h133 (hA h134 (hA h135 (hA h136 (hA h137 (hA h138 (hA h139 (hV (.lsl M121.length r141.length 0 r141.length) rfl hZ))))))))) fun e154 h156 h157 h158 h159 h160 h161 h162 h163 h164 => sN (sq (Rg (kx (ldOA h162 o147 rfl rfl (ble rfl) rfl) (kx (mvO h163) (kx (mvO h157) (kx (mvO h164) ?_)))))))
 clear h132 h133 h134 h135 h136 h137 h138 h139
 rcases q1200 with r166 | r674
 ·refine Ev.nxcp (Ev.callT (v := .tup [.nils, .int .i64 r166]) rfl (cns rfl (cns rfl (cns rfl (cns rfl rfl)))) (ra1 (ra_agg (mp1 rfl (mp1 (ra1_row o145 rfl (cI_fl _)) (mp1 (ra1_row o146 rfl Tally.fl) mp0)))) (ra1 (ra1_row o148 rfl Deal.fl) (ra1 rfl (ra1 (ra1_row o153 rfl (cI_fl _)) ra0)))) (impl_WorthsOn_ok (Book.mk r86 r87 r88) r119 a3 r141 _ hx165) (th_gen (v' := .tup [.nils, .int .i64 r166]) (l := []) (own_tup (oa1 rfl (oa1 rfl oa0))) (by simp [thaw, thaw2, thaw1, thawL, thaw]) rfl rfl)) fun M167 hM168 => ?_
  have o169 := push_old hM168 o145
  have o170 := push_old hM168 o146
  have o171 := push_old hM168 o147
  have o172 := push_old hM168 o148
  have o173 := push_old hM168 o153
  obtain ⟨r672, hr673, h⟩ := bind_some h
  refine kx (mvO rfl) (kx (exT rfl rfl) (kx (exT rfl rfl) (kx (mvO rfl) (kx (mvO rfl) (Rn (hA h156 (hA h157 (hA h158 (hA h159 (hA h160 (hA h161 (hA h162 (hA h163 (hA h164 (hV .nils rfl (hN rfl hZ))))))))))) fun e174 h176 h177 h178 h179 h180 h181 h182 h183 h184 h185 h186 => sN (sq (sq ?_)))))))
  clear h156 h157 h158 h159 h160 h161 h162 h163 h164
  refine Ev.cut (Q1 := laws_FnExactWorthsOn_c1_Q a1 a2 a3 a4 r75 r76 r86 r87 r88 r119 r141 r166 (([] : Mem).length) (([] : Mem).length + 1) M91.length M104.length M121.length r672) (by
      have h := hr673
      obtain ⟨r188, hx187, h⟩ := bind_some h
      refine Rg (kx (mvO h185) (kx (mvO h180) (kc (cl (v := .bool r188) rfl (cns rfl (cns rfl rfl)) rfl (laws_eqInt64S_ok ([] : List Int) r75 _ hx187) nm) (kx (uNot rfl) (kx (mvO rfl) ?_)))))
      rcases ite_some h with ⟨hb189, h⟩ | ⟨hb189, h⟩
      ·refine kx (guF rfl (congrArg Bool.not hb189) (mvO h186)) (kx (guF rfl (congrArg Bool.not hb189) (mvO h181)) (kx (guF rfl (congrArg Bool.not hb189) (bNeq rfl rfl)) (kx (pkF rfl (congrArg Bool.not hb189) rfl) (Rn (hA h176 (hA h177 (hA h178 (hA h179 (hA h180 (hA h181 (hA h182 (hA h183 (hA h184 (hA h185 (hA h186 (hN rfl hZ)))))))))))) fun e190 h192 h193 h194 h195 h196 h197 h198 h199 h200 h201 h202 h203 => ?_))))
       clear h176 h177 h178 h179 h180 h181 h182 h183 h184 h185 h186
       cases h
       exact kd (show laws_FnExactWorthsOn_c1_Q a1 a2 a3 a4 r75 r76 r86 r87 r88 r119 r141 r166 (([] : Mem).length) (([] : Mem).length + 1) M91.length M104.length M121.length _ _ from ⟨rfl, h192, h193, h194, h195, h196, h197, h198, h199, h200, h201, h202, h203, o172, o173, o169, o170, o171⟩)
      refine kx (gsF rfl (congrArg Bool.not hb189)) (kx (gsF rfl (congrArg Bool.not hb189)) (kx (gsF rfl (congrArg Bool.not hb189)) (kx (pkT rfl (congrArg Bool.not hb189) rfl) (Rn (hA h176 (hA h177 (hA h178 (hA h179 (hA h180 (hA h181 (hA h182 (hA h183 (hA h184 (hA h185 (hA h186 (hV (.bool true) rfl hZ)))))))))))) fun e204 h206 h207 h208 h209 h210 h211 h212 h213 h214 h215 h216 h217 => ?_))))
      clear h176 h177 h178 h179 h180 h181 h182 h183 h184 h185 h186
      cases h
      exact kd (show laws_FnExactWorthsOn_c1_Q a1 a2 a3 a4 r75 r76 r86 r87 r88 r119 r141 r166 (([] : Mem).length) (([] : Mem).length + 1) M91.length M104.length M121.length _ _ from ⟨rfl, h206, h207, h208, h209, h210, h211, h212, h213, h214, h215, h216, h217, o172, o173, o169, o170, o171⟩)) ?_
  revert h hr673
  revert r672
  intro y220 hr673 h
  intro x e218 M219 hq671
  obtain ⟨rfl, h221, h222, h223, h224, h225, h226, h227, h228, h229, h230, h231, h232, o233, o234, o235, o236, o237⟩ := hq671
  refine sN ?_
  rcases ite_some h with ⟨hb238, h⟩ | ⟨hb238, h⟩
  ·refine cT h232 hb238 (sq (Rg (kx (mvO rfl) (Rn (hV (.bool false) rfl hZ) fun e239 h241 => sN (xx (sR ?_))))))
   clear h221 h222 h223 h224 h225 h226 h227 h228 h229 h230 h231 h232
   cases h
   exact eR (resT h241 res0) rfl
  obtain ⟨⟨r243, r244, r245⟩, hx242, h⟩ := bind_some h
  obtain ⟨r247, hx246, h⟩ := bind_some h
  refine cF h232 hb238 (xx (sN (sq (sq (Rd (kf (ldOA h227 o237 rfl rfl (ble rfl) rfl) (kf (ldPA h224 rfl rfl) (fc (cl (v := .agg [.int .i64 r243, .sl (some 2) (r244.map (cI .i64)), .sl (some 75) (r245.map Tally.c)]) rfl (cns rfl rfl) rfl (laws_toBook_ok a1 _ hx242) nm) (fc (cl (v := .bool r247) rfl (cns rfl (cns rfl rfl)) (ra1 (ra_agg (mp1 rfl (mp1 (ra1_row o235 rfl (cI_fl _)) (mp1 (ra1_row o236 rfl Tally.fl) mp0)))) (ra1 rfl ra0)) (laws_eqBook_ok (Book.mk r86 r87 r88) (Book.mk r243 r244 r245) _ hx246) (fun _ => rfl)) (kf (uNot rfl) (fZ (Rn (hV (.sl none (a2.map Deal.c)) h221 (hA h222 (hA h223 (hV (.pt none [.int .i64 a1.Day, .sl none (a1.Cash.map (cI .i64)), .sl none (a1.Tallies.map Tally.c)]) h224 (hV (.sl (some 2) (r75.map (cI .i64))) h225 (hV (.int .i64 r76) h226 (hV (.loc M91.length 1 0 0) h227 (hV (.lsl M104.length r119.length 0 r119.length) h228 (hV (.lsl M121.length r141.length 0 r141.length) h229 (hV .nils h230 (hV (.int .i64 r166) h231 (hN rfl hZ)))))))))))) fun e248 h250 h251 h252 h253 h254 h255 h256 h257 h258 h259 h260 h261 => sN ?_))))))))))))
  clear h221 h222 h223 h224 h225 h226 h227 h228 h229 h230 h231 h232
  rcases ite_some h with ⟨hb262, h⟩ | ⟨hb262, h⟩
  ·obtain ⟨r264, hx263, h⟩ := bind_some h
   obtain ⟨r266, hx265, h⟩ := bind_some h
   refine cF h261 (congrArg Bool.not hb262) (xx (sN (sq (sq (Rg (kx (mvO h257) (kx (mvO h250) (kc (cl (v := .sl (some 65) (r264.map Deal.c)) rfl (cns rfl rfl) rfl (laws_toDealS_ok a2 _ hx263) nm) (kc (cl (v := .bool r266) rfl (cns rfl (cns rfl rfl)) (ra1 (ra1_row o233 rfl Deal.fl) (ra1 rfl ra0)) (laws_eqDealS_ok r119 r264 _ hx265) (fun _ => rfl)) (kx (uNot rfl) (Rn (hA h250 (hA h251 (hA h252 (hA h253 (hA h254 (hA h255 (hA h256 (hA h257 (hA h258 (hA h259 (hA h260 (hN rfl hZ)))))))))))) fun e267 h269 h270 h271 h272 h273 h274 h275 h276 h277 h278 h279 h280 => sN ?_)))))))))))
   clear h250 h251 h252 h253 h254 h255 h256 h257 h258 h259 h260 h261
   rcases ite_some h with ⟨hb281, h⟩ | ⟨hb281, h⟩
   ·obtain ⟨r283, hx282, h⟩ := bind_some h
    obtain ⟨r285, hx284, h⟩ := bind_some h
    refine cF h280 (congrArg Bool.not hb281) (xx (sN (sq (sq (Rg (kx (mvO h277) (kx (mvO h271) (kc (cl (v := .sl (some 2) (r283.map (cI .i64))) rfl (cns rfl rfl) rfl (laws_toInt64S_ok a4 _ hx282) nm) (kc (cl (v := .bool r285) rfl (cns rfl (cns rfl rfl)) (ra1 (ra1_row o234 rfl (cI_fl _)) (ra1 rfl ra0)) (laws_eqInt64S_ok r141 r283 _ hx284) (fun _ => rfl)) (kx (uNot rfl) (Rn (hA h269 (hA h270 (hA h271 (hA h272 (hA h273 (hA h274 (hA h275 (hA h276 (hA h277 (hA h278 (hA h279 (hN rfl hZ)))))))))))) fun e286 h288 h289 h290 h291 h292 h293 h294 h295 h296 h297 h298 h299 => sN ?_)))))))))))
    clear h269 h270 h271 h272 h273 h274 h275 h276 h277 h278 h279 h280
    rcases ite_some h with ⟨hb300, h⟩ | ⟨hb300, h⟩
    ·obtain ⟨⟨r316, r317, r318⟩, hx315, h⟩ := bind_some h
     refine cF h299 (congrArg Bool.not hb300) (xx (sN (sq (Rg (kx (mvO rfl) (Rn (hA h288 (hA h289 (hA h290 (hA h291 (hA h292 (hA h293 (hA h294 (hA h295 (hA h296 (hA h297 (hA h298 (hV (.int .i64 1) rfl hZ)))))))))))) fun e301 h303 h304 h305 h306 h307 h308 h309 h310 h311 h312 h313 h314 => sN (sq (Rg (kx (ldOA h309 o237 rfl rfl (ble rfl) rfl) (kx (mvO h314) (Ev.nxw (Ev.callW rfl (cns rfl (cns rfl rfl)) (laws_markBook_ll_ok r86 r87 r88 1 (([] : Mem).length) (([] : Mem).length + 1) ne94 M219 o235 o236 _ hx315)) fun v321 M319 hq320 => ?_)))))))))))
     clear h288 h289 h290 h291 h292 h293 h294 h295 h296 h297 h298 h299
     obtain ⟨hv321, o322, o323, fr324, hl325, hl326⟩ := hq320
     have hv321 : v321 = .int .i64 r316 := hv321
     subst hv321
     have o327 : M319[([] : Mem).length]? = some (.live ⟨.grow, 2, 1, r317.map (cI .i64)⟩) := o322
     have o328 : M319[(([] : Mem).length + 1)]? = some (.live ⟨.grow, 75, 5, r318.map Tally.c⟩) := o323
     have hl325 : r317.length = r87.length := hl325
     have hl326 : r318.length = r88.length := hl326
     have o329 : M319[M104.length]? = some (.live ⟨.grow, 65, 6, r119.map Deal.c⟩) := fr324 _ _ (niC (Ne.symm ne126) (niC (Ne.symm ne127) niN)) o233
     have o330 : M319[M121.length]? = some (.live ⟨.grow, 2, 1, r141.map (cI .i64)⟩) := fr324 _ _ (niC (Ne.symm ne149) (niC (Ne.symm ne150) niN)) o234
     have o331 : M319[M91.length]? = some (.live ⟨.box, 33, 3, [[.int .i64 r86, .lsl ([] : Mem).length r87.length 0 r87.length, .lsl (([] : Mem).length + 1) r88.length 0 r88.length]]⟩) := fr324 _ _ (niC (Ne.symm ne100) (niC (Ne.symm ne102) niN)) o237
     obtain ⟨⟨r346, r347⟩, hx345, h⟩ := bind_some h
     refine kx (mvO rfl) (Rn (hA h303 (hA h304 (hA h305 (hA h306 (hA h307 (hA h308 (hA h310 (hA h311 (hA h312 (hA h313 (hN rfl hZ))))))))))) fun e332 h334 h335 h336 h337 h338 h339 h340 h341 h342 h343 h344 => sN (sq (Rg (kx (mvO h340) (kx (mvO h344) (Ev.nxw (Ev.callW rfl (cns rfl (cns rfl rfl)) (laws_markDealS_l_ok r119 r316 M104.length M319 o329 _ hx345)) fun v350 M348 hq349 => ?_))))))
     clear h303 h304 h305 h306 h307 h308 h309 h310 h311 h312 h313
     obtain ⟨hv350, o351, fr352, hl353⟩ := hq349
     have hv350 : v350 = .int .i64 r346 := hv350
     subst hv350
     have o354 : M348[M104.length]? = some (.live ⟨.grow, 65, 6, r347.map Deal.c⟩) := o351
     have hl353 : r347.length = r119.length := hl353
     have o355 : M348[M121.length]? = some (.live ⟨.grow, 2, 1, r141.map (cI .i64)⟩) := fr352 _ _ (niC (Ne.symm ne152) niN) o330
     obtain ⟨⟨r369, r370⟩, hx368, h⟩ := bind_some h
     refine kx (mvO rfl) (Rn (hA h334 (hA h335 (hA h336 (hA h337 (hA h338 (hA h339 (hA h341 (hA h342 (hA h343 (hN rfl hZ)))))))))) fun e356 h358 h359 h360 h361 h362 h363 h364 h365 h366 h367 => sN (sq (Rg (kx (mvO h364) (kx (mvO h367) (Ev.nxw (Ev.callW rfl (cns rfl (cns rfl rfl)) (laws_markInt64S_l_ok r141 r346 M121.length M348 o355 _ hx368)) fun v373 M371 hq372 => ?_))))))
     clear h334 h335 h336 h337 h338 h339 h340 h341 h342 h343
     obtain ⟨hv373, o374, fr375, hl376⟩ := hq372
     have hv373 : v373 = .int .i64 r369 := hv373
     subst hv373
     have o377 : M371[M121.length]? = some (.live ⟨.grow, 2, 1, r370.map (cI .i64)⟩) := o374
     have hl376 : r370.length = r141.length := hl376
     obtain ⟨r660, hr661, h⟩ := bind_some h
     refine kx (mvO rfl) (Rn (hA h358 (hA h359 (hA h360 (hA h361 (hA h362 (hA h363 (hA h365 (hA h366 (hN rfl hZ))))))))) fun e378 h380 h381 h382 h383 h384 h385 h386 h387 h388 => sN (sq (sq ?_)))
     clear h358 h359 h360 h361 h362 h363 h364 h365 h366
     refine Ev.cut (Q1 := laws_FnExactWorthsOn_c2_Q a1 a2 a3 a4 r75 r76 r660) (by
         have h := hr661
         refine Rg (kx (mvO h388) (kx (bLss rfl rfl) (kx (mvO rfl) ?_)))
         rcases ite_some h with ⟨hb389, h⟩ | ⟨hb389, h⟩
         ·refine kx (gsF rfl hb389) (kx (gsF rfl hb389) (kc (Ev.gsF rfl hb389) (kx (gsF rfl hb389) (kx (pkT rfl hb389 rfl) (kx (mvO rfl) (kx (gsF rfl rfl) (kx (gsF rfl rfl) (kx (gsF rfl rfl) (kx (pkT rfl rfl rfl) (Rn (hA h380 (hA h381 (hA h382 (hA h383 (hA h384 (hA h385 (hA h386 (hV (.bool true) rfl hZ)))))))) fun e390 h392 h393 h394 h395 h396 h397 h398 h399 => ?_))))))))))
          clear h380 h381 h382 h383 h384 h385 h386 h387 h388
          cases h
          exact kd (show laws_FnExactWorthsOn_c2_Q a1 a2 a3 a4 r75 r76 _ _ from ⟨rfl, h392, h393, h394, h395, h396, h397, h398, h399⟩)
         obtain ⟨r401, hx400, h⟩ := bind_some h
         refine kx (guF rfl hb389 (mvO h386)) (kx (guF rfl hb389 (mvO h384)) (kc (Ev.guF rfl hb389 (cl (v := .bool r401) rfl (cns rfl (cns rfl rfl)) rfl (laws_eqInt64S_ok ([] : List Int) r75 _ hx400) nm)) (kx (guF rfl hb389 (uNot rfl)) (kx (pkF rfl hb389 rfl) (kx (mvO rfl) ?_)))))
         rcases ite_some h with ⟨hb402, h⟩ | ⟨hb402, h⟩
         ·refine kx (guF rfl (congrArg Bool.not hb402) (mvO h387)) (kx (guF rfl (congrArg Bool.not hb402) (mvO h385)) (kx (guF rfl (congrArg Bool.not hb402) (bNeq rfl rfl)) (kx (pkF rfl (congrArg Bool.not hb402) rfl) (Rn (hA h380 (hA h381 (hA h382 (hA h383 (hA h384 (hA h385 (hA h386 (hN rfl hZ)))))))) fun e403 h405 h406 h407 h408 h409 h410 h411 h412 => ?_))))
          clear h380 h381 h382 h383 h384 h385 h386 h387 h388
          cases h
          exact kd (show laws_FnExactWorthsOn_c2_Q a1 a2 a3 a4 r75 r76 _ _ from ⟨rfl, h405, h406, h407, h408, h409, h410, h411, h412⟩)
         refine kx (gsF rfl (congrArg Bool.not hb402)) (kx (gsF rfl (congrArg Bool.not hb402)) (kx (gsF rfl (congrArg Bool.not hb402)) (kx (pkT rfl (congrArg Bool.not hb402) rfl) (Rn (hA h380 (hA h381 (hA h382 (hA h383 (hA h384 (hA h385 (hA h386 (hV (.bool true) rfl hZ)))))))) fun e413 h415 h416 h417 h418 h419 h420 h421 h422 => ?_))))
         clear h380 h381 h382 h383 h384 h385 h386 h387 h388
         cases h
         exact kd (show laws_FnExactWorthsOn_c2_Q a1 a2 a3 a4 r75 r76 _ _ from ⟨rfl, h415, h416, h417, h418, h419, h420, h421, h422⟩)) ?_
     revert h hr661
     revert r660
     intro y425 hr661 h
     intro x e423 M424 hq659
     obtain ⟨rfl, h426, h427, h428, h429, h430, h431, h432, h433⟩ := hq659
     refine sN ?_
     rcases ite_some h with ⟨hb434, h⟩ | ⟨hb434, h⟩
     ·refine cT h433 hb434 (sq (Rg (kx (mvO rfl) (Rn (hV (.bool false) rfl hZ) fun e435 h437 => sN (xx (sR ?_))))))
      clear h426 h427 h428 h429 h430 h431 h432 h433
      cases h
      exact eR (resT h437 res0) rfl
     obtain ⟨r449, hx448, h⟩ := bind_some h
     refine cF h433 hb434 (xx (sN (sq (Rg (kx (mvO rfl) (Rn (hV (.sl none (a2.map Deal.c)) h426 (hV (.int .i64 a3) h427 (hV (.sl none (a4.map (cI .i64))) h428 (hV (.pt none [.int .i64 a1.Day, .sl none (a1.Cash.map (cI .i64)), .sl none (a1.Tallies.map Tally.c)]) h429 (hV (.sl (some 2) (r75.map (cI .i64))) h430 (hV (.int .i64 r76) h431 (hV .nils h432 (hV (.int .i64 1) rfl hZ)))))))) fun e438 h440 h441 h442 h443 h444 h445 h446 h447 => sN (sq (Rg (kx (mvO h446) (kx (mvO h447) (Ev.nxw (Ev.callW rfl (cns rfl (cns rfl rfl)) (laws_markInt64S_n_ok 1 M424 _ hx448)) fun v452 M450 hq451 => ?_)))))))))))
     clear h426 h427 h428 h429 h430 h431 h432 h433
     obtain ⟨hv452, fr453⟩ := hq451
     have hv452 : v452 = .int .i64 r449 := hv452
     subst hv452
     obtain ⟨r476, hx475, h⟩ := bind_some h
     refine kx (mvO rfl) (Rn (hA h440 (hA h441 (hA h442 (hA h443 (hA h444 (hA h445 (hA h446 (hN rfl hZ)))))))) fun e454 h456 h457 h458 h459 h460 h461 h462 h463 => sN (sq (Rg (kx (mvO rfl) (Rn (hA h456 (hA h457 (hA h458 (hA h459 (hA h460 (hA h461 (hA h462 (hA h463 (hV (.int .i64 1) rfl hZ))))))))) fun e464 h466 h467 h468 h469 h470 h471 h472 h473 h474 => sN (sq (Rg (kx (mvO h472) (kx (mvO h474) (kc (cl (v := .int .i64 r476) rfl (cns rfl (cns rfl rfl)) rfl (laws_heldInt64S_ok ([] : List Int) 1 _ hx475) nm) (kx (mvO rfl) (Rn (hA h466 (hA h467 (hA h468 (hA h469 (hA h470 (hA h471 (hA h472 (hA h473 (hN rfl hZ))))))))) fun e477 h479 h480 h481 h482 h483 h484 h485 h486 h487 => sN (sq (sq (Rg (kx (mvO h487) (kx (bLss rfl rfl) (Rn (hA h479 (hA h480 (hA h481 (hA h482 (hA h483 (hA h484 (hA h485 (hA h486 (hA h487 (hN rfl hZ)))))))))) fun e488 h490 h491 h492 h493 h494 h495 h496 h497 h498 h499 => sN ?_))))))))))))))))))
     clear h440 h441 h442 h443 h444 h445 h446 h456 h457 h458 h459 h460 h461 h462 h463 h466 h467 h468 h469 h470 h471 h472 h473 h479 h480 h481 h482 h483 h484 h485 h486 h487
     rcases ite_some h with ⟨hb500, h⟩ | ⟨hb500, h⟩
     ·refine cT h499 hb500 (sq (Rg (kx (mvO rfl) (Rn (hV (.bool false) rfl hZ) fun e501 h503 => sN (xx (sR ?_))))))
      clear h490 h491 h492 h493 h494 h495 h496 h497 h498 h499
      cases h
      exact eR (resT h503 res0) rfl
     refine cF h499 hb500 (xx (sN (sq (sq (Rg (kx (mvO h498) (kx (mvO h497) (kx (bNeq rfl rfl) (Rn (hA h490 (hA h491 (hA h492 (hA h493 (hA h494 (hA h495 (hA h496 (hA h497 (hN rfl hZ))))))))) fun e504 h506 h507 h508 h509 h510 h511 h512 h513 h514 => sN ?_)))))))))
     clear h490 h491 h492 h493 h494 h495 h496 h497 h498 h499
     rcases ite_some h with ⟨hb515, h⟩ | ⟨hb515, h⟩
     ·refine cT h514 hb515 (sq (Rg (kx (mvO rfl) (Rn (hV (.bool false) rfl hZ) fun e516 h518 => sN (xx (sR ?_))))))
      clear h506 h507 h508 h509 h510 h511 h512 h513 h514
      cases h
      exact eR (resT h518 res0) rfl
     obtain ⟨⟨r520, r521, r522⟩, hx519, h⟩ := bind_some h
     obtain ⟨r524, hx523, h⟩ := bind_some h
     obtain ⟨r526, hx525, h⟩ := bind_some h
     obtain ⟨q658, hx527, h⟩ := bind_some h
     refine cF h514 hb515 (xx (sN (sq (Rg (kx (ldPA h509 rfl rfl) (kc (cl (v := .agg [.int .i64 r520, .sl (some 2) (r521.map (cI .i64)), .sl (some 75) (r522.map Tally.c)]) rfl (cns rfl rfl) rfl (laws_toBook_ok a1 _ hx519) nm) (kx (mvO h506) (kc (cl (v := .sl (some 65) (r524.map Deal.c)) rfl (cns rfl rfl) rfl (laws_toDealS_ok a2 _ hx523) nm) (kx (mvO h507) (kx (mvO h508) (kc (cl (v := .sl (some 2) (r526.map (cI .i64))) rfl (cns rfl rfl) rfl (laws_toInt64S_ok a4 _ hx525) nm) ?_)))))))))))
     rcases q658 with r528 | r593
     ·obtain ⟨r591, hr592, h⟩ := bind_some h
      refine kc (cl (v := .tup [.nils, .int .i64 r528]) rfl (cns rfl (cns rfl (cns rfl (cns rfl rfl)))) rfl (impl_WorthsOn_ok (Book.mk r520 r521 r522) r524 a3 r526 _ hx527) nm) (kx (mvO rfl) (kx (exT rfl rfl) (kx (exT rfl rfl) (kx (mvO rfl) (kx (mvO rfl) (Rn (hA h510 (hA h511 (hA h512 (hA h513 (hV .nils rfl (hN rfl hZ)))))) fun e529 h531 h532 h533 h534 h535 h536 => sN (sq (sq ?_))))))))
      clear h506 h507 h508 h509 h510 h511 h512 h513 h514
      refine Ev.cut (Q1 := laws_FnExactWorthsOn_c3_Q r449 r591) (by
          have h := hr592
          obtain ⟨r538, hx537, h⟩ := bind_some h
          refine Rg (kx (mvO h535) (kx (mvO h531) (kc (cl (v := .bool r538) rfl (cns rfl (cns rfl rfl)) rfl (laws_eqInt64S_ok ([] : List Int) r75 _ hx537) nm) (kx (uNot rfl) (kx (mvO rfl) ?_)))))
          rcases ite_some h with ⟨hb539, h⟩ | ⟨hb539, h⟩
          ·refine kx (guF rfl (congrArg Bool.not hb539) (mvO h536)) (kx (guF rfl (congrArg Bool.not hb539) (mvO h532)) (kx (guF rfl (congrArg Bool.not hb539) (bNeq rfl rfl)) (kx (pkF rfl (congrArg Bool.not hb539) rfl) (Rn (hA h533 (hA h534 (hN rfl hZ))) fun e540 h542 h543 h544 => ?_))))
           clear h531 h532 h533 h534 h535 h536
           cases h
           exact kd (show laws_FnExactWorthsOn_c3_Q r449 _ _ from ⟨rfl, h542, h543, h544⟩)
          refine kx (gsF rfl (congrArg Bool.not hb539)) (kx (gsF rfl (congrArg Bool.not hb539)) (kx (gsF rfl (congrArg Bool.not hb539)) (kx (pkT rfl (congrArg Bool.not hb539) rfl) (Rn (hA h533 (hA h534 (hV (.bool true) rfl hZ))) fun e545 h547 h548 h549 => ?_))))
          clear h531 h532 h533 h534 h535 h536
          cases h
          exact kd (show laws_FnExactWorthsOn_c3_Q r449 _ _ from ⟨rfl, h547, h548, h549⟩)) ?_
      revert h hr592
      revert r591
      intro y552 hr592 h
      intro x e550 M551 hq590
      obtain ⟨rfl, h553, h554, h555⟩ := hq590
      refine sN ?_
      rcases ite_some h with ⟨hb556, h⟩ | ⟨hb556, h⟩
      ·refine cT h555 hb556 (sq (Rg (kx (mvO rfl) (Rn (hV (.bool false) rfl hZ) fun e557 h559 => sN (xx (sR ?_))))))
       clear h553 h554 h555
       cases h
       exact eR (resT h559 res0) rfl
      obtain ⟨r566, hx565, h⟩ := bind_some h
      refine cF h555 hb556 (xx (sN (sq (Rg (kx (mvO rfl) (Rn (hV .nils h553 (hV (.int .i64 r449) h554 (hV (.int .i64 1) rfl hZ))) fun e560 h562 h563 h564 => sN (sq (Rg (kx (mvO h562) (kx (mvO h564) (kc (cl (v := .int .i64 r566) rfl (cns rfl (cns rfl rfl)) rfl (laws_heldInt64S_ok ([] : List Int) 1 _ hx565) nm) (kx (mvO rfl) (Rn (hA h563 (hN rfl hZ)) fun e567 h569 h570 => sN (sq (sq (Rg (kx (mvO h570) (kx (bLss rfl rfl) (Rn (hA h569 (hA h570 (hN rfl hZ))) fun e571 h573 h574 h575 => sN ?_)))))))))))))))))))
      clear h553 h554 h555 h562 h563 h569 h570
      rcases ite_some h with ⟨hb576, h⟩ | ⟨hb576, h⟩
      ·refine cT h575 hb576 (sq (Rg (kx (mvO rfl) (Rn (hV (.bool false) rfl hZ) fun e577 h579 => sN (xx (sR ?_))))))
       clear h573 h574 h575
       cases h
       exact eR (resT h579 res0) rfl
      refine cF h575 hb576 (xx (sN (sq (sq (Rg (kx (mvO h574) (kx (mvO h573) (kx (bNeq rfl rfl) (Rn (hN rfl hZ) fun e580 h582 => sN ?_)))))))))
      clear h573 h574 h575
      rcases ite_some h with ⟨hb583, h⟩ | ⟨hb583, h⟩
      ·refine cT h582 hb583 (sq (Rg (kx (mvO rfl) (Rn (hV (.bool false) rfl hZ) fun e584 h586 => sN (xx (sR ?_))))))
       clear h582
       cases h
       exact eR (resT h586 res0) rfl
      refine cF h582 hb583 (xx (sN (sq (Rg (kx (mvO rfl) (Rn (hV (.bool true) rfl hZ) fun e587 h589 => sN (xx ?_)))))))
      clear h582
      cases h
      exact eR (resT h589 res0) rfl
     obtain ⟨r656, hr657, h⟩ := bind_some h
     refine kc (cl (v := .tup [.sl (some 2) (r593.map (cI .i64)), .int .i64 0]) rfl (cns rfl (cns rfl (cns rfl (cns rfl rfl)))) rfl (impl_WorthsOn_ok (Book.mk r520 r521 r522) r524 a3 r526 _ hx527) nm) (kx (mvO rfl) (kx (exT rfl rfl) (kx (exT rfl rfl) (kx (mvO rfl) (kx (mvO rfl) (Rn (hA h510 (hA h511 (hA h512 (hA h513 (hN rfl (hV (.int .i64 0) rfl hZ)))))) fun e594 h596 h597 h598 h599 h600 h601 => sN (sq (sq ?_))))))))
     clear h506 h507 h508 h509 h510 h511 h512 h513 h514
     refine Ev.cut (Q1 := laws_FnExactWorthsOn_c4_Q r449 r656) (by
         have h := hr657
         obtain ⟨r603, hx602, h⟩ := bind_some h
         refine Rg (kx (mvO h600) (kx (mvO h596) (kc (cl (v := .bool r603) rfl (cns rfl (cns rfl rfl)) rfl (laws_eqInt64S_ok r593 r75 _ hx602) nm) (kx (uNot rfl) (kx (mvO rfl) ?_)))))
         rcases ite_some h with ⟨hb604, h⟩ | ⟨hb604, h⟩
         ·refine kx (guF rfl (congrArg Bool.not hb604) (mvO h601)) (kx (guF rfl (congrArg Bool.not hb604) (mvO h597)) (kx (guF rfl (congrArg Bool.not hb604) (bNeq rfl rfl)) (kx (pkF rfl (congrArg Bool.not hb604) rfl) (Rn (hA h598 (hA h599 (hN rfl hZ))) fun e605 h607 h608 h609 => ?_))))
          clear h596 h597 h598 h599 h600 h601
          cases h
          exact kd (show laws_FnExactWorthsOn_c4_Q r449 _ _ from ⟨rfl, h607, h608, h609⟩)
         refine kx (gsF rfl (congrArg Bool.not hb604)) (kx (gsF rfl (congrArg Bool.not hb604)) (kx (gsF rfl (congrArg Bool.not hb604)) (kx (pkT rfl (congrArg Bool.not hb604) rfl) (Rn (hA h598 (hA h599 (hV (.bool true) rfl hZ))) fun e610 h612 h613 h614 => ?_))))
         clear h596 h597 h598 h599 h600 h601
         cases h
         exact kd (show laws_FnExactWorthsOn_c4_Q r449 _ _ from ⟨rfl, h612, h613, h614⟩)) ?_
     revert h hr657
     revert r656
     intro y617 hr657 h
     intro x e615 M616 hq655
     obtain ⟨rfl, h618, h619, h620⟩ := hq655
     refine sN ?_
     rcases ite_some h with ⟨hb621, h⟩ | ⟨hb621, h⟩
     ·refine cT h620 hb621 (sq (Rg (kx (mvO rfl) (Rn (hV (.bool false) rfl hZ) fun e622 h624 => sN (xx (sR ?_))))))
      clear h618 h619 h620
      cases h
      exact eR (resT h624 res0) rfl
     obtain ⟨r631, hx630, h⟩ := bind_some h
     refine cF h620 hb621 (xx (sN (sq (Rg (kx (mvO rfl) (Rn (hV .nils h618 (hV (.int .i64 r449) h619 (hV (.int .i64 1) rfl hZ))) fun e625 h627 h628 h629 => sN (sq (Rg (kx (mvO h627) (kx (mvO h629) (kc (cl (v := .int .i64 r631) rfl (cns rfl (cns rfl rfl)) rfl (laws_heldInt64S_ok ([] : List Int) 1 _ hx630) nm) (kx (mvO rfl) (Rn (hA h628 (hN rfl hZ)) fun e632 h634 h635 => sN (sq (sq (Rg (kx (mvO h635) (kx (bLss rfl rfl) (Rn (hA h634 (hA h635 (hN rfl hZ))) fun e636 h638 h639 h640 => sN ?_)))))))))))))))))))
     clear h618 h619 h620 h627 h628 h634 h635
     rcases ite_some h with ⟨hb641, h⟩ | ⟨hb641, h⟩
     ·refine cT h640 hb641 (sq (Rg (kx (mvO rfl) (Rn (hV (.bool false) rfl hZ) fun e642 h644 => sN (xx (sR ?_))))))
      clear h638 h639 h640
      cases h
      exact eR (resT h644 res0) rfl
     refine cF h640 hb641 (xx (sN (sq (sq (Rg (kx (mvO h639) (kx (mvO h638) (kx (bNeq rfl rfl) (Rn (hN rfl hZ) fun e645 h647 => sN ?_)))))))))
     clear h638 h639 h640
     rcases ite_some h with ⟨hb648, h⟩ | ⟨hb648, h⟩
     ·refine cT h647 hb648 (sq (Rg (kx (mvO rfl) (Rn (hV (.bool false) rfl hZ) fun e649 h651 => sN (xx (sR ?_))))))
      clear h647
      cases h
      exact eR (resT h651 res0) rfl
     refine cF h647 hb648 (xx (sN (sq (Rg (kx (mvO rfl) (Rn (hV (.bool true) rfl hZ) fun e652 h654 => sN (xx ?_)))))))
     clear h647
     cases h
     exact eR (resT h654 res0) rfl
    refine cT h299 (congrArg Bool.not hb300) (sq (Rg (kx (mvO rfl) (Rn (hV (.bool false) rfl hZ) fun e662 h664 => sN (xx (sR ?_))))))
    clear h288 h289 h290 h291 h292 h293 h294 h295 h296 h297 h298 h299
    cases h
    exact eR (resT h664 res0) rfl
   refine cT h280 (congrArg Bool.not hb281) (sq (Rg (kx (mvO rfl) (Rn (hV (.bool false) rfl hZ) fun e665 h667 => sN (xx (sR ?_))))))
   clear h269 h270 h271 h272 h273 h274 h275 h276 h277 h278 h279 h280
   cases h
   exact eR (resT h667 res0) rfl
  refine cT h261 (congrArg Bool.not hb262) (sq (Rg (kx (mvO rfl) (Rn (hV (.bool false) rfl hZ) fun e668 h670 => sN (xx (sR ?_))))))
  clear h250 h251 h252 h253 h254 h255 h256 h257 h258 h259 h260 h261
  cases h
  exact eR (resT h670 res0) rfl
 refine Ev.nxcp (Ev.callT (v := .tup [.sl (some 2) (r674.map (cI .i64)), .int .i64 0]) rfl (cns rfl (cns rfl (cns rfl (cns rfl rfl)))) (ra1 (ra_agg (mp1 rfl (mp1 (ra1_row o145 rfl (cI_fl _)) (mp1 (ra1_row o146 rfl Tally.fl) mp0)))) (ra1 (ra1_row o148 rfl Deal.fl) (ra1 rfl (ra1 (ra1_row o153 rfl (cI_fl _)) ra0)))) (impl_WorthsOn_ok (Book.mk r86 r87 r88) r119 a3 r141 _ hx165) (th_gen (v' := .tup [.lsl M143.length r674.length 0 r674.length, .int .i64 0]) (l := [⟨.grow, 2, 1, r674.map (cI .i64)⟩]) (own_tup (oa1 (own2_row (c := (cI .i64)) (fun _ => rfl)) (oa1 rfl oa0))) (by simp [thaw, thaw2, thaw1, thawL, co2]) rfl rfl)) fun M676 hM677 => ?_
 have o678 := push_old hM677 o145
 have o679 := push_old hM677 o146
 have o680 := push_old hM677 o147
 have o681 := push_old hM677 o148
 have o682 := push_old hM677 o153
 have ne683 : ([] : Mem).length ≠ M143.length := by have := lt_of_get (M := M143) o145; omega
 have ne684 : (([] : Mem).length + 1) ≠ M143.length := by have := lt_of_get (M := M143) o146; omega
 have ne685 : M91.length ≠ M143.length := by have := lt_of_get (M := M143) o147; omega
 have ne686 : M104.length ≠ M143.length := by have := lt_of_get (M := M143) o148; omega
 have ne687 : M121.length ≠ M143.length := by have := lt_of_get (M := M143) o153; omega
 have o688 : M676[M143.length]? = some (.live ⟨.grow, 2, 1, r674.map (cI .i64)⟩) := push_at hM677 0 rfl
 obtain ⟨r1198, hr1199, h⟩ := bind_some h
 refine kx (mvO rfl) (kx (exT rfl rfl) (kx (exT rfl rfl) (kx (mvO rfl) (kx (mvO rfl) (Rn (hA h156 (hA h157 (hA h158 (hA h159 (hA h160 (hA h161 (hA h162 (hA h163 (hA h164 (hV (.lsl M143.length r674.length 0 r674.length) rfl (hV (.int .i64 0) rfl hZ))))))))))) fun e689 h691 h692 h693 h694 h695 h696 h697 h698 h699 h700 h701 => sN (sq (sq ?_)))))))
 clear h156 h157 h158 h159 h160 h161 h162 h163 h164
 refine Ev.cut (Q1 := laws_FnExactWorthsOn_c5_Q a1 a2 a3 a4 r75 r76 r86 r87 r88 r119 r141 r674 (([] : Mem).length) (([] : Mem).length + 1) M91.length M104.length M121.length M143.length r1198) (by
     have h := hr1199
     obtain ⟨r703, hx702, h⟩ := bind_some h
     refine Rg (kx (mvO h700) (kx (mvO h695) (kc (cl (v := .bool r703) rfl (cns rfl (cns rfl rfl)) (ra1 (ra1_row o688 rfl (cI_fl _)) (ra1 rfl ra0)) (laws_eqInt64S_ok r674 r75 _ hx702) (fun _ => rfl)) (kx (uNot rfl) (kx (mvO rfl) ?_)))))
     rcases ite_some h with ⟨hb704, h⟩ | ⟨hb704, h⟩
     ·refine kx (guF rfl (congrArg Bool.not hb704) (mvO h701)) (kx (guF rfl (congrArg Bool.not hb704) (mvO h696)) (kx (guF rfl (congrArg Bool.not hb704) (bNeq rfl rfl)) (kx (pkF rfl (congrArg Bool.not hb704) rfl) (Rn (hA h691 (hA h692 (hA h693 (hA h694 (hA h695 (hA h696 (hA h697 (hA h698 (hA h699 (hA h700 (hA h701 (hN rfl hZ)))))))))))) fun e705 h707 h708 h709 h710 h711 h712 h713 h714 h715 h716 h717 h718 => ?_))))
      clear h691 h692 h693 h694 h695 h696 h697 h698 h699 h700 h701
      cases h
      exact kd (show laws_FnExactWorthsOn_c5_Q a1 a2 a3 a4 r75 r76 r86 r87 r88 r119 r141 r674 (([] : Mem).length) (([] : Mem).length + 1) M91.length M104.length M121.length M143.length _ _ from ⟨rfl, h707, h708, h709, h710, h711, h712, h713, h714, h715, h716, h717, h718, o681, o682, o688, o678, o679, o680⟩)
     refine kx (gsF rfl (congrArg Bool.not hb704)) (kx (gsF rfl (congrArg Bool.not hb704)) (kx (gsF rfl (congrArg Bool.not hb704)) (kx (pkT rfl (congrArg Bool.not hb704) rfl) (Rn (hA h691 (hA h692 (hA h693 (hA h694 (hA h695 (hA h696 (hA h697 (hA h698 (hA h699 (hA h700 (hA h701 (hV (.bool true) rfl hZ)))))))))))) fun e719 h721 h722 h723 h724 h725 h726 h727 h728 h729 h730 h731 h732 => ?_))))
     clear h691 h692 h693 h694 h695 h696 h697 h698 h699 h700 h701
     cases h
     exact kd (show laws_FnExactWorthsOn_c5_Q a1 a2 a3 a4 r75 r76 r86 r87 r88 r119 r141 r674 (([] : Mem).length) (([] : Mem).length + 1) M91.length M104.length M121.length M143.length _ _ from ⟨rfl, h721, h722, h723, h724, h725, h726, h727, h728, h729, h730, h731, h732, o681, o682, o688, o678, o679, o680⟩)) ?_
 revert h hr1199
 revert r1198
 intro y735 hr1199 h
 intro x e733 M734 hq1197
 obtain ⟨rfl, h736, h737, h738, h739, h740, h741, h742, h743, h744, h745, h746, h747, o748, o749, o750, o751, o752, o753⟩ := hq1197
 refine sN ?_
 rcases ite_some h with ⟨hb754, h⟩ | ⟨hb754, h⟩
 ·refine cT h747 hb754 (sq (Rg (kx (mvO rfl) (Rn (hV (.bool false) rfl hZ) fun e755 h757 => sN (xx (sR ?_))))))
  clear h736 h737 h738 h739 h740 h741 h742 h743 h744 h745 h746 h747
  cases h
  exact eR (resT h757 res0) rfl
 obtain ⟨⟨r759, r760, r761⟩, hx758, h⟩ := bind_some h
 obtain ⟨r763, hx762, h⟩ := bind_some h
 refine cF h747 hb754 (xx (sN (sq (sq (Rd (kf (ldOA h742 o753 rfl rfl (ble rfl) rfl) (kf (ldPA h739 rfl rfl) (fc (cl (v := .agg [.int .i64 r759, .sl (some 2) (r760.map (cI .i64)), .sl (some 75) (r761.map Tally.c)]) rfl (cns rfl rfl) rfl (laws_toBook_ok a1 _ hx758) nm) (fc (cl (v := .bool r763) rfl (cns rfl (cns rfl rfl)) (ra1 (ra_agg (mp1 rfl (mp1 (ra1_row o751 rfl (cI_fl _)) (mp1 (ra1_row o752 rfl Tally.fl) mp0)))) (ra1 rfl ra0)) (laws_eqBook_ok (Book.mk r86 r87 r88) (Book.mk r759 r760 r761) _ hx762) (fun _ => rfl)) (kf (uNot rfl) (fZ (Rn (hV (.sl none (a2.map Deal.c)) h736 (hV (.int .i64 a3) h737 (hV (.sl none (a4.map (cI .i64))) h738 (hV (.pt none [.int .i64 a1.Day, .sl none (a1.Cash.map (cI .i64)), .sl none (a1.Tallies.map Tally.c)]) h739 (hV (.sl (some 2) (r75.map (cI .i64))) h740 (hV (.int .i64 r76) h741 (hV (.loc M91.length 1 0 0) h742 (hV (.lsl M104.length r119.length 0 r119.length) h743 (hV (.lsl M121.length r141.length 0 r141.length) h744 (hV (.lsl M143.length r674.length 0 r674.length) h745 (hV (.int .i64 0) h746 (hN rfl hZ)))))))))))) fun e764 h766 h767 h768 h769 h770 h771 h772 h773 h774 h775 h776 h777 => sN ?_))))))))))))
 clear h736 h737 h738 h739 h740 h741 h742 h743 h744 h745 h746 h747
 rcases ite_some h with ⟨hb778, h⟩ | ⟨hb778, h⟩
 ·obtain ⟨r780, hx779, h⟩ := bind_some h
  obtain ⟨r782, hx781, h⟩ := bind_some h
  refine cF h777 (congrArg Bool.not hb778) (xx (sN (sq (sq (Rg (kx (mvO h773) (kx (mvO h766) (kc (cl (v := .sl (some 65) (r780.map Deal.c)) rfl (cns rfl rfl) rfl (laws_toDealS_ok a2 _ hx779) nm) (kc (cl (v := .bool r782) rfl (cns rfl (cns rfl rfl)) (ra1 (ra1_row o748 rfl Deal.fl) (ra1 rfl ra0)) (laws_eqDealS_ok r119 r780 _ hx781) (fun _ => rfl)) (kx (uNot rfl) (Rn (hA h766 (hA h767 (hA h768 (hA h769 (hA h770 (hA h771 (hA h772 (hA h773 (hA h774 (hA h775 (hA h776 (hN rfl hZ)))))))))))) fun e783 h785 h786 h787 h788 h789 h790 h791 h792 h793 h794 h795 h796 => sN ?_)))))))))))
  clear h766 h767 h768 h769 h770 h771 h772 h773 h774 h775 h776 h777
  rcases ite_some h with ⟨hb797, h⟩ | ⟨hb797, h⟩
  ·obtain ⟨r799, hx798, h⟩ := bind_some h
   obtain ⟨r801, hx800, h⟩ := bind_some h
   refine cF h796 (congrArg Bool.not hb797) (xx (sN (sq (sq (Rg (kx (mvO h793) (kx (mvO h787) (kc (cl (v := .sl (some 2) (r799.map (cI .i64))) rfl (cns rfl rfl) rfl (laws_toInt64S_ok a4 _ hx798) nm) (kc (cl (v := .bool r801) rfl (cns rfl (cns rfl rfl)) (ra1 (ra1_row o749 rfl (cI_fl _)) (ra1 rfl ra0)) (laws_eqInt64S_ok r141 r799 _ hx800) (fun _ => rfl)) (kx (uNot rfl) (Rn (hA h785 (hA h786 (hA h787 (hA h788 (hA h789 (hA h790 (hA h791 (hA h792 (hA h793 (hA h794 (hA h795 (hN rfl hZ)))))))))))) fun e802 h804 h805 h806 h807 h808 h809 h810 h811 h812 h813 h814 h815 => sN ?_)))))))))))
   clear h785 h786 h787 h788 h789 h790 h791 h792 h793 h794 h795 h796
   rcases ite_some h with ⟨hb816, h⟩ | ⟨hb816, h⟩
   ·obtain ⟨⟨r832, r833, r834⟩, hx831, h⟩ := bind_some h
    refine cF h815 (congrArg Bool.not hb816) (xx (sN (sq (Rg (kx (mvO rfl) (Rn (hA h804 (hA h805 (hA h806 (hA h807 (hA h808 (hA h809 (hA h810 (hA h811 (hA h812 (hA h813 (hA h814 (hV (.int .i64 1) rfl hZ)))))))))))) fun e817 h819 h820 h821 h822 h823 h824 h825 h826 h827 h828 h829 h830 => sN (sq (Rg (kx (ldOA h825 o753 rfl rfl (ble rfl) rfl) (kx (mvO h830) (Ev.nxw (Ev.callW rfl (cns rfl (cns rfl rfl)) (laws_markBook_ll_ok r86 r87 r88 1 (([] : Mem).length) (([] : Mem).length + 1) ne94 M734 o751 o752 _ hx831)) fun v837 M835 hq836 => ?_)))))))))))
    clear h804 h805 h806 h807 h808 h809 h810 h811 h812 h813 h814 h815
    obtain ⟨hv837, o838, o839, fr840, hl841, hl842⟩ := hq836
    have hv837 : v837 = .int .i64 r832 := hv837
    subst hv837
    have o843 : M835[([] : Mem).length]? = some (.live ⟨.grow, 2, 1, r833.map (cI .i64)⟩) := o838
    have o844 : M835[(([] : Mem).length + 1)]? = some (.live ⟨.grow, 75, 5, r834.map Tally.c⟩) := o839
    have hl841 : r833.length = r87.length := hl841
    have hl842 : r834.length = r88.length := hl842
    have o845 : M835[M104.length]? = some (.live ⟨.grow, 65, 6, r119.map Deal.c⟩) := fr840 _ _ (niC (Ne.symm ne126) (niC (Ne.symm ne127) niN)) o748
    have o846 : M835[M121.length]? = some (.live ⟨.grow, 2, 1, r141.map (cI .i64)⟩) := fr840 _ _ (niC (Ne.symm ne149) (niC (Ne.symm ne150) niN)) o749
    have o847 : M835[M143.length]? = some (.live ⟨.grow, 2, 1, r674.map (cI .i64)⟩) := fr840 _ _ (niC (Ne.symm ne683) (niC (Ne.symm ne684) niN)) o750
    have o848 : M835[M91.length]? = some (.live ⟨.box, 33, 3, [[.int .i64 r86, .lsl ([] : Mem).length r87.length 0 r87.length, .lsl (([] : Mem).length + 1) r88.length 0 r88.length]]⟩) := fr840 _ _ (niC (Ne.symm ne100) (niC (Ne.symm ne102) niN)) o753
    obtain ⟨⟨r863, r864⟩, hx862, h⟩ := bind_some h
    refine kx (mvO rfl) (Rn (hA h819 (hA h820 (hA h821 (hA h822 (hA h823 (hA h824 (hA h826 (hA h827 (hA h828 (hA h829 (hN rfl hZ))))))))))) fun e849 h851 h852 h853 h854 h855 h856 h857 h858 h859 h860 h861 => sN (sq (Rg (kx (mvO h857) (kx (mvO h861) (Ev.nxw (Ev.callW rfl (cns rfl (cns rfl rfl)) (laws_markDealS_l_ok r119 r832 M104.length M835 o845 _ hx862)) fun v867 M865 hq866 => ?_))))))
    clear h819 h820 h821 h822 h823 h824 h825 h826 h827 h828 h829
    obtain ⟨hv867, o868, fr869, hl870⟩ := hq866
    have hv867 : v867 = .int .i64 r863 := hv867
    subst hv867
    have o871 : M865[M104.length]? = some (.live ⟨.grow, 65, 6, r864.map Deal.c⟩) := o868
    have hl870 : r864.length = r119.length := hl870
    have o872 : M865[M121.length]? = some (.live ⟨.grow, 2, 1, r141.map (cI .i64)⟩) := fr869 _ _ (niC (Ne.symm ne152) niN) o846
    have o873 : M865[M143.length]? = some (.live ⟨.grow, 2, 1, r674.map (cI .i64)⟩) := fr869 _ _ (niC (Ne.symm ne686) niN) o847
    obtain ⟨⟨r887, r888⟩, hx886, h⟩ := bind_some h
    refine kx (mvO rfl) (Rn (hA h851 (hA h852 (hA h853 (hA h854 (hA h855 (hA h856 (hA h858 (hA h859 (hA h860 (hN rfl hZ)))))))))) fun e874 h876 h877 h878 h879 h880 h881 h882 h883 h884 h885 => sN (sq (Rg (kx (mvO h882) (kx (mvO h885) (Ev.nxw (Ev.callW rfl (cns rfl (cns rfl rfl)) (laws_markInt64S_l_ok r141 r863 M121.length M865 o872 _ hx886)) fun v891 M889 hq890 => ?_))))))
    clear h851 h852 h853 h854 h855 h856 h857 h858 h859 h860
    obtain ⟨hv891, o892, fr893, hl894⟩ := hq890
    have hv891 : v891 = .int .i64 r887 := hv891
    subst hv891
    have o895 : M889[M121.length]? = some (.live ⟨.grow, 2, 1, r888.map (cI .i64)⟩) := o892
    have hl894 : r888.length = r141.length := hl894
    have o896 : M889[M143.length]? = some (.live ⟨.grow, 2, 1, r674.map (cI .i64)⟩) := fr893 _ _ (niC (Ne.symm ne687) niN) o873
    obtain ⟨r1186, hr1187, h⟩ := bind_some h
    refine kx (mvO rfl) (Rn (hA h876 (hA h877 (hA h878 (hA h879 (hA h880 (hA h881 (hA h883 (hA h884 (hN rfl hZ))))))))) fun e897 h899 h900 h901 h902 h903 h904 h905 h906 h907 => sN (sq (sq ?_)))
    clear h876 h877 h878 h879 h880 h881 h882 h883 h884
    refine Ev.cut (Q1 := laws_FnExactWorthsOn_c6_Q a1 a2 a3 a4 r75 r76 r674 M143.length r1186) (by
        have h := hr1187
        refine Rg (kx (mvO h907) (kx (bLss rfl rfl) (kx (mvO rfl) ?_)))
        rcases ite_some h with ⟨hb908, h⟩ | ⟨hb908, h⟩
        ·refine kx (gsF rfl hb908) (kx (gsF rfl hb908) (kc (Ev.gsF rfl hb908) (kx (gsF rfl hb908) (kx (pkT rfl hb908 rfl) (kx (mvO rfl) (kx (gsF rfl rfl) (kx (gsF rfl rfl) (kx (gsF rfl rfl) (kx (pkT rfl rfl rfl) (Rn (hA h899 (hA h900 (hA h901 (hA h902 (hA h903 (hA h904 (hA h905 (hV (.bool true) rfl hZ)))))))) fun e909 h911 h912 h913 h914 h915 h916 h917 h918 => ?_))))))))))
         clear h899 h900 h901 h902 h903 h904 h905 h906 h907
         cases h
         exact kd (show laws_FnExactWorthsOn_c6_Q a1 a2 a3 a4 r75 r76 r674 M143.length _ _ from ⟨rfl, h911, h912, h913, h914, h915, h916, h917, h918, o896⟩)
        obtain ⟨r920, hx919, h⟩ := bind_some h
        refine kx (guF rfl hb908 (mvO h905)) (kx (guF rfl hb908 (mvO h903)) (kc (Ev.guF rfl hb908 (cl (v := .bool r920) rfl (cns rfl (cns rfl rfl)) (ra1 (ra1_row o896 rfl (cI_fl _)) (ra1 rfl ra0)) (laws_eqInt64S_ok r674 r75 _ hx919) (fun _ => rfl))) (kx (guF rfl hb908 (uNot rfl)) (kx (pkF rfl hb908 rfl) (kx (mvO rfl) ?_)))))
        rcases ite_some h with ⟨hb921, h⟩ | ⟨hb921, h⟩
        ·refine kx (guF rfl (congrArg Bool.not hb921) (mvO h906)) (kx (guF rfl (congrArg Bool.not hb921) (mvO h904)) (kx (guF rfl (congrArg Bool.not hb921) (bNeq rfl rfl)) (kx (pkF rfl (congrArg Bool.not hb921) rfl) (Rn (hA h899 (hA h900 (hA h901 (hA h902 (hA h903 (hA h904 (hA h905 (hN rfl hZ)))))))) fun e922 h924 h925 h926 h927 h928 h929 h930 h931 => ?_))))
         clear h899 h900 h901 h902 h903 h904 h905 h906 h907
         cases h
         exact kd (show laws_FnExactWorthsOn_c6_Q a1 a2 a3 a4 r75 r76 r674 M143.length _ _ from ⟨rfl, h924, h925, h926, h927, h928, h929, h930, h931, o896⟩)
        refine kx (gsF rfl (congrArg Bool.not hb921)) (kx (gsF rfl (congrArg Bool.not hb921)) (kx (gsF rfl (congrArg Bool.not hb921)) (kx (pkT rfl (congrArg Bool.not hb921) rfl) (Rn (hA h899 (hA h900 (hA h901 (hA h902 (hA h903 (hA h904 (hA h905 (hV (.bool true) rfl hZ)))))))) fun e932 h934 h935 h936 h937 h938 h939 h940 h941 => ?_))))
        clear h899 h900 h901 h902 h903 h904 h905 h906 h907
        cases h
        exact kd (show laws_FnExactWorthsOn_c6_Q a1 a2 a3 a4 r75 r76 r674 M143.length _ _ from ⟨rfl, h934, h935, h936, h937, h938, h939, h940, h941, o896⟩)) ?_
    revert h hr1187
    revert r1186
    intro y944 hr1187 h
    intro x e942 M943 hq1185
    obtain ⟨rfl, h945, h946, h947, h948, h949, h950, h951, h952, o953⟩ := hq1185
    refine sN ?_
    rcases ite_some h with ⟨hb954, h⟩ | ⟨hb954, h⟩
    ·refine cT h952 hb954 (sq (Rg (kx (mvO rfl) (Rn (hV (.bool false) rfl hZ) fun e955 h957 => sN (xx (sR ?_))))))
     clear h945 h946 h947 h948 h949 h950 h951 h952
     cases h
     exact eR (resT h957 res0) rfl
    obtain ⟨⟨r969, r970⟩, hx968, h⟩ := bind_some h
    refine cF h952 hb954 (xx (sN (sq (Rg (kx (mvO rfl) (Rn (hV (.sl none (a2.map Deal.c)) h945 (hV (.int .i64 a3) h946 (hV (.sl none (a4.map (cI .i64))) h947 (hV (.pt none [.int .i64 a1.Day, .sl none (a1.Cash.map (cI .i64)), .sl none (a1.Tallies.map Tally.c)]) h948 (hV (.sl (some 2) (r75.map (cI .i64))) h949 (hV (.int .i64 r76) h950 (hV (.lsl M143.length r674.length 0 r674.length) h951 (hV (.int .i64 1) rfl hZ)))))))) fun e958 h960 h961 h962 h963 h964 h965 h966 h967 => sN (sq (Rg (kx (mvO h966) (kx (mvO h967) (Ev.nxw (Ev.callW rfl (cns rfl (cns rfl rfl)) (laws_markInt64S_l_ok r674 1 M143.length M943 o953 _ hx968)) fun v973 M971 hq972 => ?_)))))))))))
    clear h945 h946 h947 h948 h949 h950 h951 h952
    obtain ⟨hv973, o974, fr975, hl976⟩ := hq972
    have hv973 : v973 = .int .i64 r969 := hv973
    subst hv973
    have o977 : M971[M143.length]? = some (.live ⟨.grow, 2, 1, r970.map (cI .i64)⟩) := o974
    have hl976 : r970.length = r674.length := hl976
    obtain ⟨r1000, hx999, h⟩ := bind_some h
    refine kx (mvO rfl) (Rn (hA h960 (hA h961 (hA h962 (hA h963 (hA h964 (hA h965 (hA h966 (hN rfl hZ)))))))) fun e978 h980 h981 h982 h983 h984 h985 h986 h987 => sN (sq (Rg (kx (mvO rfl) (Rn (hA h980 (hA h981 (hA h982 (hA h983 (hA h984 (hA h985 (hA h986 (hA h987 (hV (.int .i64 1) rfl hZ))))))))) fun e988 h990 h991 h992 h993 h994 h995 h996 h997 h998 => sN (sq (Rg (kx (mvO (lslL (L' := r970.length) h996 (by simp [hl841, hl842, hl870, hl894, hl976]))) (kx (mvO h998) (kc (cl (v := .int .i64 r1000) rfl (cns rfl (cns rfl rfl)) (ra1 (ra1_row o977 rfl (cI_fl _)) (ra1 rfl ra0)) (laws_heldInt64S_ok r970 1 _ hx999) (fun _ => rfl)) (kx (mvO rfl) (Rn (hA h990 (hA h991 (hA h992 (hA h993 (hA h994 (hA h995 (hA h996 (hA h997 (hN rfl hZ))))))))) fun e1001 h1003 h1004 h1005 h1006 h1007 h1008 h1009 h1010 h1011 => sN (sq (sq (Rg (kx (mvO h1011) (kx (bLss rfl rfl) (Rn (hA h1003 (hA h1004 (hA h1005 (hA h1006 (hA h1007 (hA h1008 (hA h1009 (hA h1010 (hA h1011 (hN rfl hZ)))))))))) fun e1012 h1014 h1015 h1016 h1017 h1018 h1019 h1020 h1021 h1022 h1023 => sN ?_))))))))))))))))))
    clear h960 h961 h962 h963 h964 h965 h966 h980 h981 h982 h983 h984 h985 h986 h987 h990 h991 h992 h993 h994 h995 h996 h997 h1003 h1004 h1005 h1006 h1007 h1008 h1009 h1010 h1011
    rcases ite_some h with ⟨hb1024, h⟩ | ⟨hb1024, h⟩
    ·refine cT h1023 hb1024 (sq (Rg (kx (mvO rfl) (Rn (hV (.bool false) rfl hZ) fun e1025 h1027 => sN (xx (sR ?_))))))
     clear h1014 h1015 h1016 h1017 h1018 h1019 h1020 h1021 h1022 h1023
     cases h
     exact eR (resT h1027 res0) rfl
    refine cF h1023 hb1024 (xx (sN (sq (sq (Rg (kx (mvO h1022) (kx (mvO h1021) (kx (bNeq rfl rfl) (Rn (hA h1014 (hA h1015 (hA h1016 (hA h1017 (hA h1018 (hA h1019 (hA h1020 (hA h1021 (hN rfl hZ))))))))) fun e1028 h1030 h1031 h1032 h1033 h1034 h1035 h1036 h1037 h1038 => sN ?_)))))))))
    clear h1014 h1015 h1016 h1017 h1018 h1019 h1020 h1021 h1022 h1023
    rcases ite_some h with ⟨hb1039, h⟩ | ⟨hb1039, h⟩
    ·refine cT h1038 hb1039 (sq (Rg (kx (mvO rfl) (Rn (hV (.bool false) rfl hZ) fun e1040 h1042 => sN (xx (sR ?_))))))
     clear h1030 h1031 h1032 h1033 h1034 h1035 h1036 h1037 h1038
     cases h
     exact eR (resT h1042 res0) rfl
    obtain ⟨⟨r1044, r1045, r1046⟩, hx1043, h⟩ := bind_some h
    obtain ⟨r1048, hx1047, h⟩ := bind_some h
    obtain ⟨r1050, hx1049, h⟩ := bind_some h
    obtain ⟨q1184, hx1051, h⟩ := bind_some h
    refine cF h1038 hb1039 (xx (sN (sq (Rg (kx (ldPA h1033 rfl rfl) (kc (cl (v := .agg [.int .i64 r1044, .sl (some 2) (r1045.map (cI .i64)), .sl (some 75) (r1046.map Tally.c)]) rfl (cns rfl rfl) rfl (laws_toBook_ok a1 _ hx1043) nm) (kx (mvO h1030) (kc (cl (v := .sl (some 65) (r1048.map Deal.c)) rfl (cns rfl rfl) rfl (laws_toDealS_ok a2 _ hx1047) nm) (kx (mvO h1031) (kx (mvO h1032) (kc (cl (v := .sl (some 2) (r1050.map (cI .i64))) rfl (cns rfl rfl) rfl (laws_toInt64S_ok a4 _ hx1049) nm) ?_)))))))))))
    rcases q1184 with r1052 | r1118
    ·obtain ⟨r1116, hr1117, h⟩ := bind_some h
     refine kc (cl (v := .tup [.nils, .int .i64 r1052]) rfl (cns rfl (cns rfl (cns rfl (cns rfl rfl)))) rfl (impl_WorthsOn_ok (Book.mk r1044 r1045 r1046) r1048 a3 r1050 _ hx1051) nm) (kx (mvO rfl) (kx (exT rfl rfl) (kx (exT rfl rfl) (kx (mvO rfl) (kx (mvO rfl) (Rn (hA h1034 (hA h1035 (hA h1036 (hA h1037 (hV .nils rfl (hN rfl hZ)))))) fun e1053 h1055 h1056 h1057 h1058 h1059 h1060 => sN (sq (sq ?_))))))))
     clear h1030 h1031 h1032 h1033 h1034 h1035 h1036 h1037 h1038
     refine Ev.cut (Q1 := laws_FnExactWorthsOn_c7_Q r969 r970 M143.length r1116) (by
         have h := hr1117
         obtain ⟨r1062, hx1061, h⟩ := bind_some h
         refine Rg (kx (mvO h1059) (kx (mvO h1055) (kc (cl (v := .bool r1062) rfl (cns rfl (cns rfl rfl)) rfl (laws_eqInt64S_ok ([] : List Int) r75 _ hx1061) nm) (kx (uNot rfl) (kx (mvO rfl) ?_)))))
         rcases ite_some h with ⟨hb1063, h⟩ | ⟨hb1063, h⟩
         ·refine kx (guF rfl (congrArg Bool.not hb1063) (mvO h1060)) (kx (guF rfl (congrArg Bool.not hb1063) (mvO h1056)) (kx (guF rfl (congrArg Bool.not hb1063) (bNeq rfl rfl)) (kx (pkF rfl (congrArg Bool.not hb1063) rfl) (Rn (hA h1057 (hA h1058 (hN rfl hZ))) fun e1064 h1066 h1067 h1068 => ?_))))
          clear h1055 h1056 h1057 h1058 h1059 h1060
          cases h
          exact kd (show laws_FnExactWorthsOn_c7_Q r969 r970 M143.length _ _ from ⟨rfl, (lslL (L' := r970.length) h1066 (by simp [hl841, hl842, hl870, hl894, hl976])), h1067, h1068, o977⟩)
         refine kx (gsF rfl (congrArg Bool.not hb1063)) (kx (gsF rfl (congrArg Bool.not hb1063)) (kx (gsF rfl (congrArg Bool.not hb1063)) (kx (pkT rfl (congrArg Bool.not hb1063) rfl) (Rn (hA h1057 (hA h1058 (hV (.bool true) rfl hZ))) fun e1069 h1071 h1072 h1073 => ?_))))
         clear h1055 h1056 h1057 h1058 h1059 h1060
         cases h
         exact kd (show laws_FnExactWorthsOn_c7_Q r969 r970 M143.length _ _ from ⟨rfl, (lslL (L' := r970.length) h1071 (by simp [hl841, hl842, hl870, hl894, hl976])), h1072, h1073, o977⟩)) ?_
     revert h hr1117
     revert r1116
     intro y1076 hr1117 h
     intro x e1074 M1075 hq1115
     obtain ⟨rfl, h1077, h1078, h1079, o1080⟩ := hq1115
     refine sN ?_
     rcases ite_some h with ⟨hb1081, h⟩ | ⟨hb1081, h⟩
     ·refine cT h1079 hb1081 (sq (Rg (kx (mvO rfl) (Rn (hV (.bool false) rfl hZ) fun e1082 h1084 => sN (xx (sR ?_))))))
      clear h1077 h1078 h1079
      cases h
      exact eR (resT h1084 res0) rfl
     obtain ⟨r1091, hx1090, h⟩ := bind_some h
     refine cF h1079 hb1081 (xx (sN (sq (Rg (kx (mvO rfl) (Rn (hV (.lsl M143.length r970.length 0 r970.length) h1077 (hV (.int .i64 r969) h1078 (hV (.int .i64 1) rfl hZ))) fun e1085 h1087 h1088 h1089 => sN (sq (Rg (kx (mvO h1087) (kx (mvO h1089) (kc (cl (v := .int .i64 r1091) rfl (cns rfl (cns rfl rfl)) (ra1 (ra1_row o1080 rfl (cI_fl _)) (ra1 rfl ra0)) (laws_heldInt64S_ok r970 1 _ hx1090) (fun _ => rfl)) (kx (mvO rfl) (Rn (hA h1088 (hN rfl hZ)) fun e1092 h1094 h1095 => sN (sq (sq (Rg (kx (mvO h1095) (kx (bLss rfl rfl) (Rn (hA h1094 (hA h1095 (hN rfl hZ))) fun e1096 h1098 h1099 h1100 => sN ?_)))))))))))))))))))
     clear h1077 h1078 h1079 h1087 h1088 h1094 h1095
     rcases ite_some h with ⟨hb1101, h⟩ | ⟨hb1101, h⟩
     ·refine cT h1100 hb1101 (sq (Rg (kx (mvO rfl) (Rn (hV (.bool false) rfl hZ) fun e1102 h1104 => sN (xx (sR ?_))))))
      clear h1098 h1099 h1100
      cases h
      exact eR (resT h1104 res0) rfl
     refine cF h1100 hb1101 (xx (sN (sq (sq (Rg (kx (mvO h1099) (kx (mvO h1098) (kx (bNeq rfl rfl) (Rn (hN rfl hZ) fun e1105 h1107 => sN ?_)))))))))
     clear h1098 h1099 h1100
     rcases ite_some h with ⟨hb1108, h⟩ | ⟨hb1108, h⟩
     ·refine cT h1107 hb1108 (sq (Rg (kx (mvO rfl) (Rn (hV (.bool false) rfl hZ) fun e1109 h1111 => sN (xx (sR ?_))))))
      clear h1107
      cases h
      exact eR (resT h1111 res0) rfl
     refine cF h1107 hb1108 (xx (sN (sq (Rg (kx (mvO rfl) (Rn (hV (.bool true) rfl hZ) fun e1112 h1114 => sN (xx ?_)))))))
     clear h1107
     cases h
     exact eR (resT h1114 res0) rfl
    obtain ⟨r1182, hr1183, h⟩ := bind_some h
    refine kc (cl (v := .tup [.sl (some 2) (r1118.map (cI .i64)), .int .i64 0]) rfl (cns rfl (cns rfl (cns rfl (cns rfl rfl)))) rfl (impl_WorthsOn_ok (Book.mk r1044 r1045 r1046) r1048 a3 r1050 _ hx1051) nm) (kx (mvO rfl) (kx (exT rfl rfl) (kx (exT rfl rfl) (kx (mvO rfl) (kx (mvO rfl) (Rn (hA h1034 (hA h1035 (hA h1036 (hA h1037 (hN rfl (hV (.int .i64 0) rfl hZ)))))) fun e1119 h1121 h1122 h1123 h1124 h1125 h1126 => sN (sq (sq ?_))))))))
    clear h1030 h1031 h1032 h1033 h1034 h1035 h1036 h1037 h1038
    refine Ev.cut (Q1 := laws_FnExactWorthsOn_c8_Q r969 r970 M143.length r1182) (by
        have h := hr1183
        obtain ⟨r1128, hx1127, h⟩ := bind_some h
        refine Rg (kx (mvO h1125) (kx (mvO h1121) (kc (cl (v := .bool r1128) rfl (cns rfl (cns rfl rfl)) rfl (laws_eqInt64S_ok r1118 r75 _ hx1127) nm) (kx (uNot rfl) (kx (mvO rfl) ?_)))))
        rcases ite_some h with ⟨hb1129, h⟩ | ⟨hb1129, h⟩
        ·refine kx (guF rfl (congrArg Bool.not hb1129) (mvO h1126)) (kx (guF rfl (congrArg Bool.not hb1129) (mvO h1122)) (kx (guF rfl (congrArg Bool.not hb1129) (bNeq rfl rfl)) (kx (pkF rfl (congrArg Bool.not hb1129) rfl) (Rn (hA h1123 (hA h1124 (hN rfl hZ))) fun e1130 h1132 h1133 h1134 => ?_))))
         clear h1121 h1122 h1123 h1124 h1125 h1126
         cases h
         exact kd (show laws_FnExactWorthsOn_c8_Q r969 r970 M143.length _ _ from ⟨rfl, (lslL (L' := r970.length) h1132 (by simp [hl841, hl842, hl870, hl894, hl976])), h1133, h1134, o977⟩)
        refine kx (gsF rfl (congrArg Bool.not hb1129)) (kx (gsF rfl (congrArg Bool.not hb1129)) (kx (gsF rfl (congrArg Bool.not hb1129)) (kx (pkT rfl (congrArg Bool.not hb1129) rfl) (Rn (hA h1123 (hA h1124 (hV (.bool true) rfl hZ))) fun e1135 h1137 h1138 h1139 => ?_))))
        clear h1121 h1122 h1123 h1124 h1125 h1126
        cases h
        exact kd (show laws_FnExactWorthsOn_c8_Q r969 r970 M143.length _ _ from ⟨rfl, (lslL (L' := r970.length) h1137 (by simp [hl841, hl842, hl870, hl894, hl976])), h1138, h1139, o977⟩)) ?_
    revert h hr1183
    revert r1182
    intro y1142 hr1183 h
    intro x e1140 M1141 hq1181
    obtain ⟨rfl, h1143, h1144, h1145, o1146⟩ := hq1181
    refine sN ?_
    rcases ite_some h with ⟨hb1147, h⟩ | ⟨hb1147, h⟩
    ·refine cT h1145 hb1147 (sq (Rg (kx (mvO rfl) (Rn (hV (.bool false) rfl hZ) fun e1148 h1150 => sN (xx (sR ?_))))))
     clear h1143 h1144 h1145
     cases h
     exact eR (resT h1150 res0) rfl
    obtain ⟨r1157, hx1156, h⟩ := bind_some h
    refine cF h1145 hb1147 (xx (sN (sq (Rg (kx (mvO rfl) (Rn (hV (.lsl M143.length r970.length 0 r970.length) h1143 (hV (.int .i64 r969) h1144 (hV (.int .i64 1) rfl hZ))) fun e1151 h1153 h1154 h1155 => sN (sq (Rg (kx (mvO h1153) (kx (mvO h1155) (kc (cl (v := .int .i64 r1157) rfl (cns rfl (cns rfl rfl)) (ra1 (ra1_row o1146 rfl (cI_fl _)) (ra1 rfl ra0)) (laws_heldInt64S_ok r970 1 _ hx1156) (fun _ => rfl)) (kx (mvO rfl) (Rn (hA h1154 (hN rfl hZ)) fun e1158 h1160 h1161 => sN (sq (sq (Rg (kx (mvO h1161) (kx (bLss rfl rfl) (Rn (hA h1160 (hA h1161 (hN rfl hZ))) fun e1162 h1164 h1165 h1166 => sN ?_)))))))))))))))))))
    clear h1143 h1144 h1145 h1153 h1154 h1160 h1161
    rcases ite_some h with ⟨hb1167, h⟩ | ⟨hb1167, h⟩
    ·refine cT h1166 hb1167 (sq (Rg (kx (mvO rfl) (Rn (hV (.bool false) rfl hZ) fun e1168 h1170 => sN (xx (sR ?_))))))
     clear h1164 h1165 h1166
     cases h
     exact eR (resT h1170 res0) rfl
    refine cF h1166 hb1167 (xx (sN (sq (sq (Rg (kx (mvO h1165) (kx (mvO h1164) (kx (bNeq rfl rfl) (Rn (hN rfl hZ) fun e1171 h1173 => sN ?_)))))))))
    clear h1164 h1165 h1166
    rcases ite_some h with ⟨hb1174, h⟩ | ⟨hb1174, h⟩
    ·refine cT h1173 hb1174 (sq (Rg (kx (mvO rfl) (Rn (hV (.bool false) rfl hZ) fun e1175 h1177 => sN (xx (sR ?_))))))
     clear h1173
     cases h
     exact eR (resT h1177 res0) rfl
    refine cF h1173 hb1174 (xx (sN (sq (Rg (kx (mvO rfl) (Rn (hV (.bool true) rfl hZ) fun e1178 h1180 => sN (xx ?_)))))))
    clear h1173
    cases h
    exact eR (resT h1180 res0) rfl
   refine cT h815 (congrArg Bool.not hb816) (sq (Rg (kx (mvO rfl) (Rn (hV (.bool false) rfl hZ) fun e1188 h1190 => sN (xx (sR ?_))))))
   clear h804 h805 h806 h807 h808 h809 h810 h811 h812 h813 h814 h815
   cases h
   exact eR (resT h1190 res0) rfl
  refine cT h796 (congrArg Bool.not hb797) (sq (Rg (kx (mvO rfl) (Rn (hV (.bool false) rfl hZ) fun e1191 h1193 => sN (xx (sR ?_))))))
  clear h785 h786 h787 h788 h789 h790 h791 h792 h793 h794 h795 h796
  cases h
  exact eR (resT h1193 res0) rfl
 refine cT h777 (congrArg Bool.not hb778) (sq (Rg (kx (mvO rfl) (Rn (hV (.bool false) rfl hZ) fun e1194 h1196 => sN (xx (sR ?_))))))
 clear h766 h767 h768 h769 h770 h771 h772 h773 h774 h775 h776 h777
 cases h
 exact eR (resT h1196 res0) rfl
end Go.Proofs.Ytpdmcpnabjifhaa

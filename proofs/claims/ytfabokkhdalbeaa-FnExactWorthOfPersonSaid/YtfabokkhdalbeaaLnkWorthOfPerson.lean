/- Printed by a program of ours (ext.py). -/
import Derived.Test.YtfabokkhdalbeaaLnkWorthOfPersonx0
set_option linter.unusedVariables false
set_option maxRecDepth 100000
set_option maxHeartbeats 2000000
namespace Go.Proofs.Ytfabokkhdalbeaa
open Go Go.Ab
/-! ### loop.example/g01263/laws.toBook (f15) -/
noncomputable def laws_toBook (a1 : Book) : Option (Int × (List Int) × (List Tally)) :=
  (laws_toInt64S a1.Cash).bind fun r30 =>
  (laws_toTallyS a1.Tallies).bind fun r50 =>
  some (a1.Day, r30, r50)
def laws_toBook_enc (r : Int × (List Int) × (List Tally)) : AV := .agg [.int .i64 r.1, .sl (some 2) (r.2.1.map (cI .i64)), .sl (some 104) (r.2.2.map Tally.c)]
theorem laws_toBook_ok (a1 : Book) (r : Int × (List Int) × (List Tally)) (h : laws_toBook a1 = some r) : Ev (fun k => CN k 15 [.agg [.int .i64 a1.Day, .sl none (a1.Cash.map (cI .i64)), .sl none (a1.Tallies.map Tally.c)]] []) (fun p => rRes p.2 p.1 = laws_toBook_enc r) := by
  unfold laws_toBook at h
  refine Ev.enter (F := fun k => f15 (CN k) k) (fun k => callN_eq rfl Try.func15 rfl rfl rfl (by decide +kernel) (f15_eq _ _)) ?_
  refine Ev.seq ?_
  refine Ev.reg (fun _ => rfl) ?_
  refine Ev.nxk (bxI rfl rfl ⟨rfl, rfl, by decide⟩) ?_
  refine Ev.nxpush (alO zero50) ?_
  intro M2 hM3
  have o4 : M2[([] : Mem).length]? = some (.live ⟨.box, 50, 3, [[.int .i64 0, .nils, .nils]]⟩) := push_new hM3
  refine Ev.rend ?_
  intro e5 he6
  have h7 : eget e5 1 = .pt none [.int .i64 a1.Day, .sl none (a1.Cash.map (cI .i64)), .sl none (a1.Tallies.map Tally.c)] := envp he6 rfl rfl
  have h8 : eget e5 2 = .loc ([] : Mem).length 1 0 0 := envp he6 rfl rfl
  refine Ev.kseqN ?_
  refine Ev.seq ?_
  refine Ev.reg (fun _ => rfl) ?_
  refine Ev.nxpush (alO zero50) ?_
  intro M10 hM11
  have o12 := push_old hM11 o4
  have ne13 := ne_new o4
  have o14 : M10[M2.length]? = some (.live ⟨.box, 50, 3, [[.int .i64 0, .nils, .nils]]⟩) := push_new hM11
  refine Ev.rend ?_
  intro e15 he16
  have h17 : eget e15 1 = .pt none [.int .i64 a1.Day, .sl none (a1.Cash.map (cI .i64)), .sl none (a1.Tallies.map Tally.c)] := envp he16 rfl h7
  have h18 : eget e15 2 = .loc ([] : Mem).length 1 0 0 := envp he16 rfl h8
  have h19 : eget e15 3 = .loc M2.length 1 0 0 := envp he16 rfl rfl
  clear h7 h8
  refine Ev.kseqN ?_
  refine Ev.seq ?_
  refine Ev.reg (fun _ => rfl) ?_
  refine Ev.nxk (faP h17 ⟨ble rfl, blt rfl⟩ rfl) ?_
  refine Ev.nxk (ldP rfl rfl) ?_
  refine Ev.nxk (faO h19 o14 rfl) ?_
  refine Ev.nxput (stO rfl rfl o14 rfl rfl ⟨rfl, ble rfl⟩ rfl rfl) ?_
  intro M20 hM21
  have o22 := set_ne hM21 ne13 o12
  have o23 : M20[M2.length]? = some (.live ⟨.box, 50, 3, [[.int .i64 a1.Day, .nils, .nils]]⟩) := set_same hM21 o14
  refine Ev.rend ?_
  intro e24 he25
  have h26 : eget e24 1 = .pt none [.int .i64 a1.Day, .sl none (a1.Cash.map (cI .i64)), .sl none (a1.Tallies.map Tally.c)] := envp he25 rfl h17
  have h27 : eget e24 2 = .loc ([] : Mem).length 1 0 0 := envp he25 rfl h18
  have h28 : eget e24 3 = .loc M2.length 1 0 0 := envp he25 rfl h19
  clear h17 h18 h19
  refine Ev.kseqN ?_
  refine Ev.seq ?_
  refine Ev.reg (fun _ => rfl) ?_
  refine Ev.nxk (faP h26 ⟨ble rfl, blt rfl⟩ rfl) ?_
  refine Ev.nxk (ldP rfl rfl) ?_
  obtain ⟨r30, hx29, h⟩ := bind_some h
  refine Ev.nxcp (Ev.callT (v := .sl (some 2) (r30.map (cI .i64))) rfl (cns rfl rfl) rfl (laws_toInt64S_ok a1.Cash _ hx29) (th_gen (v' := .lsl M20.length r30.length 0 r30.length) (l := [⟨.grow, 2, 1, r30.map (cI .i64)⟩]) (ownA_row (c := (cI .i64)) (fun _ => rfl)) (by simp [thaw, thaw2, thaw1, thawL, co2]) rfl rfl)) ?_
  intro M32 hM33
  have o34 := push_old hM33 o22
  have o35 := push_old hM33 o23
  have ne36 : ([] : Mem).length ≠ M20.length := by have := lt_of_get o22; omega
  have ne37 : M2.length ≠ M20.length := by have := lt_of_get o23; omega
  have o38 : M32[M20.length]? = some (.live ⟨.grow, 2, 1, r30.map (cI .i64)⟩) := push_at hM33 0 rfl
  refine Ev.nxk (faO h28 o35 rfl) ?_
  refine Ev.nxput (stO rfl rfl o35 rfl rfl ⟨rfl, ble rfl⟩ (all1 (okL o38 (by simp)) all0) rfl) ?_
  intro M39 hM40
  have o41 := set_ne hM40 ne13 o34
  have o42 : M39[M2.length]? = some (.live ⟨.box, 50, 3, [[.int .i64 a1.Day, .lsl M20.length r30.length 0 r30.length, .nils]]⟩) := set_same hM40 o35
  have o43 := set_ne hM40 (Ne.symm ne37) o38
  refine Ev.rend ?_
  intro e44 he45
  have h46 : eget e44 1 = .pt none [.int .i64 a1.Day, .sl none (a1.Cash.map (cI .i64)), .sl none (a1.Tallies.map Tally.c)] := envp he45 rfl h26
  have h47 : eget e44 2 = .loc ([] : Mem).length 1 0 0 := envp he45 rfl h27
  have h48 : eget e44 3 = .loc M2.length 1 0 0 := envp he45 rfl h28
  clear h26 h27 h28
  refine Ev.kseqN ?_
  refine Ev.seq ?_
  refine Ev.reg (fun _ => rfl) ?_
  refine Ev.nxk (faP h46 ⟨ble rfl, blt rfl⟩ rfl) ?_
  refine Ev.nxk (ldP rfl rfl) ?_
  obtain ⟨r50, hx49, h⟩ := bind_some h
  refine Ev.nxcp (Ev.callT (v := .sl (some 104) (r50.map Tally.c)) rfl (cns rfl rfl) rfl (laws_toTallyS_ok a1.Tallies _ hx49) (th_gen (v' := .lsl M39.length r50.length 0 r50.length) (l := [⟨.grow, 104, 5, r50.map Tally.c⟩]) (ownA_row (c := Tally.c) Tally.flF) (by simp [thaw, thaw2, thaw1, thawL, co104]) rfl rfl)) ?_
  intro M52 hM53
  have o54 := push_old hM53 o41
  have o55 := push_old hM53 o42
  have o56 := push_old hM53 o43
  have ne57 : ([] : Mem).length ≠ M39.length := by have := lt_of_get o41; omega
  have ne58 : M2.length ≠ M39.length := by have := lt_of_get o42; omega
  have ne59 : M20.length ≠ M39.length := by have := lt_of_get o43; omega
  have o60 : M52[M39.length]? = some (.live ⟨.grow, 104, 5, r50.map Tally.c⟩) := push_at hM53 0 rfl
  refine Ev.nxk (faO h48 o55 rfl) ?_
  refine Ev.nxput (stO rfl rfl o55 rfl rfl ⟨rfl, ble rfl⟩ (all1 (okL o60 (by simp)) all0) rfl) ?_
  intro M61 hM62
  have o63 := set_ne hM62 ne13 o54
  have o64 : M61[M2.length]? = some (.live ⟨.box, 50, 3, [[.int .i64 a1.Day, .lsl M20.length r30.length 0 r30.length, .lsl M39.length r50.length 0 r50.length]]⟩) := set_same hM62 o55
  have o65 := set_ne hM62 (Ne.symm ne37) o56
  have o66 := set_ne hM62 (Ne.symm ne58) o60
  refine Ev.rend ?_
  intro e67 he68
  have h69 : eget e67 2 = .loc ([] : Mem).length 1 0 0 := envp he68 rfl h47
  have h70 : eget e67 3 = .loc M2.length 1 0 0 := envp he68 rfl h48
  clear h46 h47 h48
  refine Ev.kseqN ?_
  refine Ev.seq ?_
  refine Ev.reg (fun _ => rfl) ?_
  refine Ev.nxk (ldOA h70 o64 rfl rfl (ble rfl) rfl) ?_
  refine Ev.nxput (stO h69 rfl o63 rfl rfl ⟨rfl, ble rfl⟩ (all1 rfl (all1 (okL o65 (by simp)) (all1 (okL o66 (by simp)) all0))) rfl) ?_
  intro M71 hM72
  have o73 : M71[([] : Mem).length]? = some (.live ⟨.box, 50, 3, [[.int .i64 a1.Day, .lsl M20.length r30.length 0 r30.length, .lsl M39.length r50.length 0 r50.length]]⟩) := set_same hM72 o63
  have o74 := set_ne hM72 (Ne.symm ne13) o64
  have o75 := set_ne hM72 (Ne.symm ne36) o65
  have o76 := set_ne hM72 (Ne.symm ne57) o66
  refine Ev.rend ?_
  intro e77 he78
  have h79 : eget e77 2 = .loc ([] : Mem).length 1 0 0 := envp he78 rfl h69
  clear h69 h70
  refine Ev.kseqN ?_
  refine Ev.ex ?_
  cases h
  exact Ev.kendR (resC (ag := true) (sz := 3) ⟨by kernel_rfl, by kernel_rfl, by kernel_rfl⟩ (ldOA h79 o73 rfl rfl (ble rfl) rfl) res0) (rr_agg (mp1 rfl (mp1 (rr_row o75 rfl (cI_fl _)) (mp1 (rr_row o76 rfl Tally.fl) mp0))))
/-! ### loop.example/g01263/laws.szBook (f13) -/
noncomputable def laws_szBook (a1 : Book) (a2 : Int) : Option Int :=
  (laws_szInt64S a1.Cash a2).bind fun r6 =>
  if (decide (r6 < 0)) = true then
    some (-1)
  else
    (laws_szTallyS a1.Tallies r6).bind fun r21 =>
    if (decide (r21 < 0)) = true then
      some (-1)
    else
      some r21
def laws_szBook_enc (r : Int) : AV := .int .i64 r
theorem laws_szBook_ok (a1 : Book) (a2 : Int) (r : Int) (h : laws_szBook a1 a2 = some r) : Ev (fun k => CN k 13 [.agg [.int .i64 a1.Day, .sl none (a1.Cash.map (cI .i64)), .sl none (a1.Tallies.map Tally.c)], .int .i64 a2] []) (fun p => rRes p.2 p.1 = laws_szBook_enc r) := by
  unfold laws_szBook at h
  refine Ev.enter (F := fun k => f13 (CN k) k) (fun k => callN_eq rfl Try.func13 rfl rfl rfl (by decide +kernel) (f13_eq _ _)) ?_
  refine Ev.seq ?_
  refine Ev.reg (fun _ => rfl) ?_
  refine Ev.nxk (bxI rfl rfl ⟨rfl, rfl, by decide⟩) ?_
  refine Ev.nxk (mvO rfl) ?_
  refine Ev.rend ?_
  intro e1 he2
  have h3 : eget e1 1 = .int .i64 a2 := envp he2 rfl rfl
  have h4 : eget e1 2 = .pt none [.int .i64 a1.Day, .sl none (a1.Cash.map (cI .i64)), .sl none (a1.Tallies.map Tally.c)] := envp he2 rfl rfl
  refine Ev.kseqN ?_
  refine Ev.seq ?_
  refine Ev.reg (fun _ => rfl) ?_
  refine Ev.nxk (faP h4 ⟨ble rfl, blt rfl⟩ rfl) ?_
  refine Ev.nxk (ldP rfl rfl) ?_
  refine Ev.nxk (mvO h3) ?_
  obtain ⟨r6, hx5, h⟩ := bind_some h
  refine Ev.nxck (Ev.call (v := .int .i64 r6) rfl (cns rfl (cns rfl rfl)) rfl (laws_szInt64S_ok a1.Cash a2 _ hx5) (fun h => nomatch (show false = true from h))) ?_
  refine Ev.nxk (mvO rfl) ?_
  refine Ev.rend ?_
  intro e7 he8
  have h9 : eget e7 1 = .int .i64 r6 := envp he8 rfl rfl
  have h10 : eget e7 2 = .pt none [.int .i64 a1.Day, .sl none (a1.Cash.map (cI .i64)), .sl none (a1.Tallies.map Tally.c)] := envp he8 rfl h4
  clear h4
  refine Ev.kseqN ?_
  refine Ev.seq ?_
  refine Ev.seq ?_
  refine Ev.reg (fun _ => rfl) ?_
  refine Ev.nxk (mvO h9) ?_
  refine Ev.nxk (bLss rfl rfl) ?_
  refine Ev.rend ?_
  intro e11 he12
  have h13 : eget e11 1 = .int .i64 r6 := envp he12 rfl h9
  have h14 : eget e11 2 = .pt none [.int .i64 a1.Day, .sl none (a1.Cash.map (cI .i64)), .sl none (a1.Tallies.map Tally.c)] := envp he12 rfl h10
  have h15 : eget e11 10 = .bool (decide (r6 < 0)) := envp he12 rfl rfl
  clear h10 h9
  refine Ev.kseqN ?_
  rcases ite_some h with ⟨hb16, h⟩ | ⟨hb16, h⟩
  · refine Ev.condT h15 hb16 ?_
    refine Ev.seq ?_
    refine Ev.reg (fun _ => rfl) ?_
    refine Ev.nxk (mvO rfl) ?_
    refine Ev.rend ?_
    intro e17 he18
    have h19 : eget e17 4 = .int .i64 (-1) := envp he18 rfl rfl
    clear h13 h14 h15
    refine Ev.kseqN ?_
    refine Ev.ex ?_
    refine Ev.kseqR ?_
    cases h
    exact Ev.kendR (resT h19 res0) rfl
  · refine Ev.condF h15 hb16 ?_
    refine Ev.ex ?_
    refine Ev.kseqN ?_
    refine Ev.seq ?_
    refine Ev.reg (fun _ => rfl) ?_
    refine Ev.nxk (faP h14 ⟨ble rfl, blt rfl⟩ rfl) ?_
    refine Ev.nxk (ldP rfl rfl) ?_
    refine Ev.nxk (mvO h13) ?_
    obtain ⟨r21, hx20, h⟩ := bind_some h
    refine Ev.nxck (Ev.call (v := .int .i64 r21) rfl (cns rfl (cns rfl rfl)) rfl (laws_szTallyS_ok a1.Tallies r6 _ hx20) (fun h => nomatch (show false = true from h))) ?_
    refine Ev.nxk (mvO rfl) ?_
    refine Ev.rend ?_
    intro e22 he23
    have h24 : eget e22 1 = .int .i64 r21 := envp he23 rfl rfl
    clear h14 h15
    refine Ev.kseqN ?_
    refine Ev.seq ?_
    refine Ev.seq ?_
    refine Ev.reg (fun _ => rfl) ?_
    refine Ev.nxk (mvO h24) ?_
    refine Ev.nxk (bLss rfl rfl) ?_
    refine Ev.rend ?_
    intro e25 he26
    have h27 : eget e25 1 = .int .i64 r21 := envp he26 rfl h24
    have h28 : eget e25 16 = .bool (decide (r21 < 0)) := envp he26 rfl rfl
    clear h24
    refine Ev.kseqN ?_
    rcases ite_some h with ⟨hb29, h⟩ | ⟨hb29, h⟩
    · refine Ev.condT h28 hb29 ?_
      refine Ev.seq ?_
      refine Ev.reg (fun _ => rfl) ?_
      refine Ev.nxk (mvO rfl) ?_
      refine Ev.rend ?_
      intro e30 he31
      have h32 : eget e30 4 = .int .i64 (-1) := envp he31 rfl rfl
      clear h27 h28
      refine Ev.kseqN ?_
      refine Ev.ex ?_
      refine Ev.kseqR ?_
      cases h
      exact Ev.kendR (resT h32 res0) rfl
    · refine Ev.condF h28 hb29 ?_
      refine Ev.ex ?_
      refine Ev.kseqN ?_
      refine Ev.seq ?_
      refine Ev.reg (fun _ => rfl) ?_
      refine Ev.nxk (mvO h27) ?_
      refine Ev.nxk (mvO rfl) ?_
      refine Ev.rend ?_
      intro e33 he34
      have h35 : eget e33 4 = .int .i64 r21 := envp he34 rfl rfl
      clear h27 h28
      refine Ev.kseqN ?_
      refine Ev.ex ?_
      cases h
      exact Ev.kendR (resT h35 res0) rfl
/-! ### loop.example/g01263/laws.FnExactWorthOfPerson (f7) -/
def laws_FnExactWorthOfPerson_c1_Q (a1 : Book) (r40 : Int) (r41 : List Int) (r42 : List Tally) (i901_1 : Nat) (i901_2 : Nat) (i901_3 : Nat) (g : Bool) (q : Out) : Prop := q.1 = .nrm ∧ eget q.2.1 2 = .pt none [.int .i64 a1.Day, .sl none (a1.Cash.map (cI .i64)), .sl none (a1.Tallies.map Tally.c)] ∧ eget q.2.1 8 = .loc i901_3 1 0 0 ∧ eget q.2.1 38 = .bool g ∧ q.2.2[i901_1]? = some (.live ⟨.grow, 2, 1, r41.map (cI .i64)⟩) ∧ q.2.2[(i901_1 + 1)]? = some (.live ⟨.grow, 104, 5, r42.map Tally.c⟩) ∧ q.2.2[i901_3]? = some (.live ⟨.box, 50, 3, [[.int .i64 r40, .lsl i901_1 r41.length 0 r41.length, .lsl (i901_1 + 1) r42.length 0 r42.length]]⟩)
noncomputable def laws_FnExactWorthOfPerson (a1 : Book) (a2 : Int) : Option Bool :=
  (laws_szBook a1 1048576).bind fun r11 =>
  if (decide (r11 < 0)) = true then
    some true
  else
    (laws_toBook a1).bind fun (r27, r28, r29) =>
    (spec_WorthOfPerson (Book.mk r27 r28 r29) a2).bind fun (r31, r32) =>
    (laws_toBook a1).bind fun (r40, r41, r42) =>
    (impl_WorthOfPerson (Book.mk r40 r41 r42) a2).bind fun (r71, r72) =>
    (if (r71 != r31) = true then
      some true
    else
      some (r72 != r32)).bind fun y94 =>
    if y94 = true then
      some false
    else
      (laws_toBook a1).bind fun (r106, r107, r108) =>
      (laws_eqBook (Book.mk r40 r41 r42) (Book.mk r106 r107 r108)).bind fun r110 =>
      if r110 = true then
        some true
      else
        some false
def laws_FnExactWorthOfPerson_enc (r : Bool) : AV := .bool r
theorem laws_FnExactWorthOfPerson_ok (a1 : Book) (a2 : Int) (r : Bool) (h : laws_FnExactWorthOfPerson a1 a2 = some r) : Ev (fun k => CN k 7 [.agg [.int .i64 a1.Day, .sl none (a1.Cash.map (cI .i64)), .sl none (a1.Tallies.map Tally.c)], .int .i64 a2] []) (fun p => rRes p.2 p.1 = laws_FnExactWorthOfPerson_enc r) := by
  unfold laws_FnExactWorthOfPerson at h
  refine Ev.enter (F := fun k => f7 (CN k) k) (fun k => callN_eq rfl Try.func7 rfl rfl rfl (by decide +kernel) (f7_eq _ _)) ?_
  refine Ev.seq ?_
  refine Ev.reg (fun _ => rfl) ?_
  refine Ev.nxk (bxI rfl rfl ⟨rfl, rfl, by decide⟩) ?_
  refine Ev.nxk (mvO rfl) ?_
  refine Ev.rend ?_
  intro e1 he2
  have h3 : eget e1 1 = .int .i64 a2 := envp he2 rfl rfl
  have h4 : eget e1 2 = .pt none [.int .i64 a1.Day, .sl none (a1.Cash.map (cI .i64)), .sl none (a1.Tallies.map Tally.c)] := envp he2 rfl rfl
  refine Ev.kseqN ?_
  refine Ev.seq ?_
  refine Ev.reg (fun _ => rfl) ?_
  refine Ev.nxk (mvO rfl) ?_
  refine Ev.rend ?_
  intro e5 he6
  have h7 : eget e5 1 = .int .i64 a2 := envp he6 rfl h3
  have h8 : eget e5 2 = .pt none [.int .i64 a1.Day, .sl none (a1.Cash.map (cI .i64)), .sl none (a1.Tallies.map Tally.c)] := envp he6 rfl h4
  have h9 : eget e5 5 = .int .i64 1048576 := envp he6 rfl rfl
  clear h3 h4
  refine Ev.kseqN ?_
  refine Ev.seq ?_
  refine Ev.reg (fun _ => rfl) ?_
  refine Ev.nxk (ldPA h8 rfl rfl) ?_
  refine Ev.nxk (mvO h9) ?_
  obtain ⟨r11, hx10, h⟩ := bind_some h
  refine Ev.nxck (Ev.call (v := .int .i64 r11) rfl (cns rfl (cns rfl rfl)) rfl (laws_szBook_ok a1 1048576 _ hx10) (fun h => nomatch (show false = true from h))) ?_
  refine Ev.nxk (mvO rfl) ?_
  refine Ev.rend ?_
  intro e12 he13
  have h14 : eget e12 1 = .int .i64 a2 := envp he13 rfl h7
  have h15 : eget e12 2 = .pt none [.int .i64 a1.Day, .sl none (a1.Cash.map (cI .i64)), .sl none (a1.Tallies.map Tally.c)] := envp he13 rfl h8
  have h16 : eget e12 5 = .int .i64 r11 := envp he13 rfl rfl
  clear h7 h8
  refine Ev.kseqN ?_
  refine Ev.seq ?_
  refine Ev.seq ?_
  refine Ev.reg (fun _ => rfl) ?_
  refine Ev.nxk (mvO h16) ?_
  refine Ev.nxk (bLss rfl rfl) ?_
  refine Ev.rend ?_
  intro e17 he18
  have h19 : eget e17 1 = .int .i64 a2 := envp he18 rfl h14
  have h20 : eget e17 2 = .pt none [.int .i64 a1.Day, .sl none (a1.Cash.map (cI .i64)), .sl none (a1.Tallies.map Tally.c)] := envp he18 rfl h15
  have h21 : eget e17 15 = .bool (decide (r11 < 0)) := envp he18 rfl rfl
  clear h14 h15 h16
  refine Ev.kseqN ?_
  rcases ite_some h with ⟨hb22, h⟩ | ⟨hb22, h⟩
  · refine Ev.condT h21 hb22 ?_
    refine Ev.seq ?_
    refine Ev.reg (fun _ => rfl) ?_
    refine Ev.nxk (mvO rfl) ?_
    refine Ev.rend ?_
    intro e23 he24
    have h25 : eget e23 4 = .bool true := envp he24 rfl rfl
    clear h19 h20 h21
    refine Ev.kseqN ?_
    refine Ev.ex ?_
    refine Ev.kseqR ?_
    cases h
    exact Ev.kendR (resT h25 res0) rfl
  · refine Ev.condF h21 hb22 ?_
    refine Ev.ex ?_
    refine Ev.kseqN ?_
    refine Ev.seq ?_
    refine Ev.reg (fun _ => rfl) ?_
    refine Ev.nxk (ldPA h20 rfl rfl) ?_
    obtain ⟨⟨r27, r28, r29⟩, hx26, h⟩ := bind_some h
    refine Ev.nxck (Ev.call (v := .agg [.int .i64 r27, .sl (some 2) (r28.map (cI .i64)), .sl (some 104) (r29.map Tally.c)]) rfl (cns rfl rfl) rfl (laws_toBook_ok a1 _ hx26) (fun h => nomatch (show false = true from h))) ?_
    refine Ev.nxk (mvO h19) ?_
    obtain ⟨⟨r31, r32⟩, hx30, h⟩ := bind_some h
    refine Ev.nxck (Ev.call (v := .tup [.int .i64 r31, .int .i64 r32]) rfl (cns rfl (cns rfl rfl)) rfl (spec_WorthOfPerson_ok (Book.mk r27 r28 r29) a2 _ hx30) (fun h => nomatch (show false = true from h))) ?_
    refine Ev.nxk (mvO rfl) ?_
    refine Ev.nxk (exT rfl rfl) ?_
    refine Ev.nxk (exT rfl rfl) ?_
    refine Ev.nxk (mvO rfl) ?_
    refine Ev.nxk (mvO rfl) ?_
    refine Ev.rend ?_
    intro e33 he34
    have h35 : eget e33 1 = .int .i64 a2 := envp he34 rfl h19
    have h36 : eget e33 2 = .pt none [.int .i64 a1.Day, .sl none (a1.Cash.map (cI .i64)), .sl none (a1.Tallies.map Tally.c)] := envp he34 rfl h20
    have h37 : eget e33 6 = .int .i64 r31 := envp he34 rfl rfl
    have h38 : eget e33 7 = .int .i64 r32 := envp he34 rfl rfl
    clear h19 h20 h21
    refine Ev.kseqN ?_
    refine Ev.seq ?_
    refine Ev.reg (fun _ => rfl) ?_
    refine Ev.nxk (ldPA h36 rfl rfl) ?_
    obtain ⟨⟨r40, r41, r42⟩, hx39, h⟩ := bind_some h
    refine Ev.nxcp (Ev.callT (v := .agg [.int .i64 r40, .sl (some 2) (r41.map (cI .i64)), .sl (some 104) (r42.map Tally.c)]) rfl (cns rfl rfl) rfl (laws_toBook_ok a1 _ hx39) (th_gen (v' := .agg [.int .i64 r40, .lsl ([] : Mem).length r41.length 0 r41.length, .lsl (([] : Mem).length + 1) r42.length 0 r42.length]) (l := [⟨.grow, 2, 1, r41.map (cI .i64)⟩, ⟨.grow, 104, 5, r42.map Tally.c⟩]) (own_agg (oa1 rfl (oa1 (own1_row' (c := (cI .i64)) (fun _ => rfl)) (oa1 (own1_row' (c := Tally.c) Tally.flF) oa0)))) (by simp [thaw, thaw2, thaw1, thawL, co2, co104]) rfl rfl)) ?_
    intro M45 hM46
    have o47 : M45[([] : Mem).length]? = some (.live ⟨.grow, 2, 1, r41.map (cI .i64)⟩) := push_at hM46 0 rfl
    have ne48 : ([] : Mem).length ≠ (([] : Mem).length + 1) := by omega
    have o49 : M45[(([] : Mem).length + 1)]? = some (.live ⟨.grow, 104, 5, r42.map Tally.c⟩) := push_at hM46 1 rfl
    refine Ev.nxpush (alO zero50) ?_
    intro M51 hM52
    have o53 := push_old hM52 o47
    have ne54 := ne_new o47
    have o55 := push_old hM52 o49
    have ne56 := ne_new o49
    have o57 : M51[M45.length]? = some (.live ⟨.box, 50, 3, [[.int .i64 0, .nils, .nils]]⟩) := push_new hM52
    refine Ev.nxput (stO rfl rfl o57 rfl rfl ⟨rfl, ble rfl⟩ (all1 rfl (all1 (okL o53 (by simp)) (all1 (okL o55 (by simp)) all0))) rfl) ?_
    intro M58 hM59
    have o60 := set_ne hM59 ne54 o53
    have o61 := set_ne hM59 ne56 o55
    have o62 : M58[M45.length]? = some (.live ⟨.box, 50, 3, [[.int .i64 r40, .lsl ([] : Mem).length r41.length 0 r41.length, .lsl (([] : Mem).length + 1) r42.length 0 r42.length]]⟩) := set_same hM59 o57
    refine Ev.rend ?_
    intro e63 he64
    have h65 : eget e63 1 = .int .i64 a2 := envp he64 rfl h35
    have h66 : eget e63 2 = .pt none [.int .i64 a1.Day, .sl none (a1.Cash.map (cI .i64)), .sl none (a1.Tallies.map Tally.c)] := envp he64 rfl h36
    have h67 : eget e63 6 = .int .i64 r31 := envp he64 rfl h37
    have h68 : eget e63 7 = .int .i64 r32 := envp he64 rfl h38
    have h69 : eget e63 8 = .loc M45.length 1 0 0 := envp he64 rfl rfl
    clear h35 h36 h37 h38
    refine Ev.kseqN ?_
    refine Ev.seq ?_
    refine Ev.reg (fun _ => rfl) ?_
    refine Ev.nxk (ldOA h69 o62 rfl rfl (ble rfl) rfl) ?_
    refine Ev.nxk (mvO h65) ?_
    obtain ⟨⟨r71, r72⟩, hx70, h⟩ := bind_some h
    refine Ev.nxck (Ev.call (v := .tup [.int .i64 r71, .int .i64 r72]) rfl (cns rfl (cns rfl rfl)) (ra1 (ra_agg (mp1 rfl (mp1 (ra1_row o60 rfl (cI_fl _)) (mp1 (ra1_row o61 rfl Tally.fl) mp0)))) (ra1 rfl ra0)) (impl_WorthOfPerson_ok (Book.mk r40 r41 r42) a2 _ hx70) (fun _ => (own_tup (oa1 rfl (oa1 rfl oa0))))) ?_
    refine Ev.nxk (mvO rfl) ?_
    refine Ev.nxk (exT rfl rfl) ?_
    refine Ev.nxk (exT rfl rfl) ?_
    refine Ev.nxk (mvO rfl) ?_
    refine Ev.nxk (mvO rfl) ?_
    refine Ev.rend ?_
    intro e73 he74
    have h75 : eget e73 2 = .pt none [.int .i64 a1.Day, .sl none (a1.Cash.map (cI .i64)), .sl none (a1.Tallies.map Tally.c)] := envp he74 rfl h66
    have h76 : eget e73 6 = .int .i64 r31 := envp he74 rfl h67
    have h77 : eget e73 7 = .int .i64 r32 := envp he74 rfl h68
    have h78 : eget e73 8 = .loc M45.length 1 0 0 := envp he74 rfl h69
    have h79 : eget e73 9 = .int .i64 r71 := envp he74 rfl rfl
    have h80 : eget e73 10 = .int .i64 r72 := envp he74 rfl rfl
    clear h65 h66 h67 h68 h69
    refine Ev.kseqN ?_
    refine Ev.seq ?_
    refine Ev.seq ?_
    obtain ⟨r122, hr123, h⟩ := bind_some h
    refine Ev.cut (Q1 := laws_FnExactWorthOfPerson_c1_Q a1 r40 r41 r42 (([] : Mem).length) (([] : Mem).length + 1) M45.length r122) (by
        have h := hr123
        refine Ev.reg (fun _ => rfl) ?_
        refine Ev.nxk (mvO h79) ?_
        refine Ev.nxk (mvO h76) ?_
        refine Ev.nxk (bNeq rfl rfl) ?_
        refine Ev.nxk (mvO rfl) ?_
        rcases ite_some h with ⟨hb81, h⟩ | ⟨hb81, h⟩
        · refine Ev.nxk (gsF rfl hb81) ?_
          refine Ev.nxk (gsF rfl hb81) ?_
          refine Ev.nxk (gsF rfl hb81) ?_
          refine Ev.nxk (pkT rfl hb81 rfl) ?_
          refine Ev.rend ?_
          intro e82 he83
          have h84 : eget e82 2 = .pt none [.int .i64 a1.Day, .sl none (a1.Cash.map (cI .i64)), .sl none (a1.Tallies.map Tally.c)] := envp he83 rfl h75
          have h85 : eget e82 8 = .loc M45.length 1 0 0 := envp he83 rfl h78
          have h86 : eget e82 38 = .bool true := envp he83 rfl rfl
          clear h75 h76 h77 h78 h79 h80
          cases h
          exact Ev.kid (show laws_FnExactWorthOfPerson_c1_Q a1 r40 r41 r42 (([] : Mem).length) (([] : Mem).length + 1) M45.length _ _ from (And.intro rfl (And.intro h84 (And.intro h85 (And.intro h86 (And.intro o60 (And.intro o61 o62)))))))
        · refine Ev.nxk (guF rfl hb81 (mvO h80)) ?_
          refine Ev.nxk (guF rfl hb81 (mvO h77)) ?_
          refine Ev.nxk (guF rfl hb81 (bNeq rfl rfl)) ?_
          refine Ev.nxk (pkF rfl hb81 rfl) ?_
          refine Ev.rend ?_
          intro e87 he88
          have h89 : eget e87 2 = .pt none [.int .i64 a1.Day, .sl none (a1.Cash.map (cI .i64)), .sl none (a1.Tallies.map Tally.c)] := envp he88 rfl h75
          have h90 : eget e87 8 = .loc M45.length 1 0 0 := envp he88 rfl h78
          have h91 : eget e87 38 = .bool (r72 != r32) := envp he88 rfl rfl
          clear h75 h76 h77 h78 h79 h80
          cases h
          exact Ev.kid (show laws_FnExactWorthOfPerson_c1_Q a1 r40 r41 r42 (([] : Mem).length) (([] : Mem).length + 1) M45.length _ _ from (And.intro rfl (And.intro h89 (And.intro h90 (And.intro h91 (And.intro o60 (And.intro o61 o62)))))))) ?_
    revert h hr123
    revert r122
    intro y94 hr123 h
    intro x e92 M93 hq121
    obtain ⟨rfl, h95, h96, h97, o98, o99, o100⟩ := hq121
    refine Ev.kseqN ?_
    rcases ite_some h with ⟨hb101, h⟩ | ⟨hb101, h⟩
    · refine Ev.condT h97 hb101 ?_
      refine Ev.seq ?_
      refine Ev.reg (fun _ => rfl) ?_
      refine Ev.nxk (mvO rfl) ?_
      refine Ev.rend ?_
      intro e102 he103
      have h104 : eget e102 4 = .bool false := envp he103 rfl rfl
      clear h95 h96 h97
      refine Ev.kseqN ?_
      refine Ev.ex ?_
      refine Ev.kseqR ?_
      cases h
      exact Ev.kendR (resT h104 res0) rfl
    · refine Ev.condF h97 hb101 ?_
      refine Ev.ex ?_
      refine Ev.kseqN ?_
      refine Ev.seq ?_
      refine Ev.seq ?_
      refine Ev.regD (fun _ => rfl) ?_
      refine Ev.nfk (ldOA h96 o100 rfl rfl (ble rfl) rfl) ?_
      refine Ev.nfk (ldPA h95 rfl rfl) ?_
      obtain ⟨⟨r106, r107, r108⟩, hx105, h⟩ := bind_some h
      refine Ev.nfc (Ev.call (v := .agg [.int .i64 r106, .sl (some 2) (r107.map (cI .i64)), .sl (some 104) (r108.map Tally.c)]) rfl (cns rfl rfl) rfl (laws_toBook_ok a1 _ hx105) (fun h => nomatch (show false = true from h))) ?_
      obtain ⟨r110, hx109, h⟩ := bind_some h
      refine Ev.nfc (Ev.call (v := .bool r110) rfl (cns rfl (cns rfl rfl)) (ra1 (ra_agg (mp1 rfl (mp1 (ra1_row o98 rfl (cI_fl _)) (mp1 (ra1_row o99 rfl Tally.fl) mp0)))) (ra1 rfl ra0)) (laws_eqBook_ok (Book.mk r40 r41 r42) (Book.mk r106 r107 r108) _ hx109) (fun _ => rfl)) ?_
      refine Ev.nfk (uNot rfl) ?_
      refine Ev.fend0 ?_
      refine Ev.rend ?_
      intro e111 he112
      have h113 : eget e111 43 = .bool (!r110) := envp he112 rfl rfl
      clear h95 h96 h97
      refine Ev.kseqN ?_
      rcases ite_some h with ⟨hb114, h⟩ | ⟨hb114, h⟩
      · refine Ev.condF h113 (congrArg Bool.not hb114) ?_
        refine Ev.ex ?_
        refine Ev.kseqN ?_
        refine Ev.seq ?_
        refine Ev.reg (fun _ => rfl) ?_
        refine Ev.nxk (mvO rfl) ?_
        refine Ev.rend ?_
        intro e115 he116
        have h117 : eget e115 4 = .bool true := envp he116 rfl rfl
        clear h113
        refine Ev.kseqN ?_
        refine Ev.ex ?_
        cases h
        exact Ev.kendR (resT h117 res0) rfl
      · refine Ev.condT h113 (congrArg Bool.not hb114) ?_
        refine Ev.seq ?_
        refine Ev.reg (fun _ => rfl) ?_
        refine Ev.nxk (mvO rfl) ?_
        refine Ev.rend ?_
        intro e118 he119
        have h120 : eget e118 4 = .bool false := envp he119 rfl rfl
        clear h113
        refine Ev.kseqN ?_
        refine Ev.ex ?_
        refine Ev.kseqR ?_
        cases h
        exact Ev.kendR (resT h120 res0) rfl
end Go.Proofs.Ytfabokkhdalbeaa

/- Printed by a program of ours (ext.py). -/
import Derived.Test.YtfabokkhdalbeadFnsDoDeal
set_option linter.unusedVariables false
set_option maxRecDepth 100000
set_option maxHeartbeats 2000000
namespace Go.Proofs.Ytfabokkhdalbead
open Go Go.Ab
structure Tally where
  Debtor : Int
  Holder : Int
  Cut : Int
  Amount : Int
  Left : Int
  deriving DecidableEq
def Tally.c (x : Tally) : List AV := [.int .i64 x.Debtor, .int .i64 x.Holder, .int .i64 x.Cut, .int .i64 x.Amount, .int .i64 x.Left]
theorem Tally.fl : Fl Tally.c 5 := fun _ => ⟨rfl, rfl⟩
theorem Tally.flF : FlF Tally.c := fun _ => rfl
structure Book where
  Day : Int
  Cash : List Int
  Tallies : List Tally
  deriving DecidableEq
def Book.c (x : Book) : List AV := [.int .i64 x.Day, .sl none (x.Cash.map (cI .i64)), .sl none (x.Tallies.map Tally.c)]
theorem Book.fl : Fl Book.c 3 := fun _ => ⟨rfl, rfl⟩
structure Deal where
  Day : Int
  Kind : Int
  Tally : Int
  From : Int
  To : Int
  Amount : Int
  deriving DecidableEq
def Deal.c (x : Deal) : List AV := [.int .i64 x.Day, .int .i8 x.Kind, .int .i64 x.Tally, .int .i64 x.From, .int .i64 x.To, .int .i64 x.Amount]
theorem Deal.fl : Fl Deal.c 6 := fun _ => ⟨rfl, rfl⟩
theorem Deal.flF : FlF Deal.c := fun _ => rfl
theorem co156 : cx.P.cellsOf 156 = 5 := by kernel_rfl
theorem co2 : cx.P.cellsOf 2 = 1 := by kernel_rfl
theorem zero156 : zeroOf cx.P 156 = [.int .i64 0, .int .i64 0, .int .i64 0, .int .i64 0, .int .i64 0] := by kernel_rfl
theorem zero2 : zeroOf cx.P 2 = [.int .i64 0] := by kernel_rfl
theorem zero56 : zeroOf cx.P 56 = [.int .i64 0, .nils, .nils] := by kernel_rfl
theorem zero60 : zeroOf cx.P 60 = [.int .i64 0, .int .i8 0, .int .i64 0, .int .i64 0, .int .i64 0, .int .i64 0] := by kernel_rfl
/-! ### slices.Clone[[]loop.example/g01263/impl.Tally,loop.example/g01263/impl.Tally] (f125) -/
noncomputable def slices_Clone_Tally (a1 : List Tally) : Option ((List Tally)) :=
 (app 40 ([] : List Tally) a1).bind fun x8 =>
 some x8
def slices_Clone_Tally_enc (r : (List Tally)) : AV := .sl (some 156) (r.map Tally.c)
theorem slices_Clone_Tally_ok (a1 : List Tally) (r : (List Tally)) (h : slices_Clone_Tally a1 = some r) : Ev (fun k => CN k 125 [.sl none (a1.map Tally.c)] []) (fun p => rRes p.2 p.1 = slices_Clone_Tally_enc r) := by
  refine Ev.prim rfl ?_
  by_cases hn : a1 = []
  · subst hn
    have e : r = [] := by simpa [slices_Clone_Tally, app] using h.symm
    subst e
    exact Ev.nilBoth (by kernel_rfl) (by kernel_rfl)
  · have hp : 0 < a1.length := List.length_pos_iff.2 hn
    refine Ev.nilNot (by simpa using hn) ?_
    unfold slices_Clone_Tally at h
    refine Ev.enter0 (F := fun _ => f125 (CN0 2) 2) (fun k => callN_eq rfl Try.func125 rfl rfl rfl (by decide +kernel) (f125_eq _ _)) ?_
    refine Ev.seq ?_
    refine Ev.reg (fun _ => rfl) ?_
    refine Ev.nxk (mvO rfl) ?_
    refine Ev.rend ?_
    intro e1 he2
    have h3 : eget e1 0 = .sl none (a1.map Tally.c) := envp he2 rfl rfl
    refine Ev.kseqN ?_
    refine Ev.seq ?_
    refine Ev.seq ?_
    refine Ev.reg (fun _ => rfl) ?_
    refine Ev.nxk (mvO h3) ?_
    refine Ev.nxk (bNilF Try.underlying54 hp rfl rfl) ?_
    refine Ev.rend ?_
    intro e4 he5
    have h6 := envp (t := 0) he5 rfl h3
    have h7 : eget e4 4 = .bool false := envp he5 rfl rfl
    clear h3
    refine Ev.kseqN ?_
    refine Ev.condF h7 rfl ?_
    refine Ev.ex ?_
    refine Ev.kseqN ?_
    refine Ev.seq ?_
    refine Ev.reg (fun _ => rfl) ?_
    refine Ev.nxk (litI rfl rfl ⟨rfl, by decide⟩) ?_
    refine Ev.nxk (mvO h6) ?_
    obtain ⟨x8, hx9, h⟩ := bind_some h
    refine Ev.nxk (aiT (c := Tally.c) (xs := ([] : List Tally)) rfl (elS rfl) hx9 Tally.fl (by decide)) ?_
    refine Ev.nxk (mvO rfl) ?_
    refine Ev.rend ?_
    intro e10 he11
    have h12 : eget e10 2 = .sl (some 156) (x8.map Tally.c) := envp he11 rfl rfl
    clear h6 h7
    refine Ev.kseqN ?_
    refine Ev.ex ?_
    cases h
    exact Ev.kendR (resT h12 res0) rfl
/-! ### slices.Clone[[]int64,int64] (f124) -/
noncomputable def slices_Clone_int64 (a1 : List Int) : Option ((List Int)) :=
 (app 8 ([] : List Int) a1).bind fun x8 =>
 some x8
def slices_Clone_int64_enc (r : (List Int)) : AV := .sl (some 2) (r.map (cI .i64))
theorem slices_Clone_int64_ok (a1 : List Int) (r : (List Int)) (h : slices_Clone_int64 a1 = some r) : Ev (fun k => CN k 124 [.sl none (a1.map (cI .i64))] []) (fun p => rRes p.2 p.1 = slices_Clone_int64_enc r) := by
  refine Ev.prim rfl ?_
  by_cases hn : a1 = []
  · subst hn
    have e : r = [] := by simpa [slices_Clone_int64, app] using h.symm
    subst e
    exact Ev.nilBoth (by kernel_rfl) (by kernel_rfl)
  · have hp : 0 < a1.length := List.length_pos_iff.2 hn
    refine Ev.nilNot (by simpa using hn) ?_
    unfold slices_Clone_int64 at h
    refine Ev.enter0 (F := fun _ => f124 (CN0 2) 2) (fun k => callN_eq rfl Try.func124 rfl rfl rfl (by decide +kernel) (f124_eq _ _)) ?_
    refine Ev.seq ?_
    refine Ev.reg (fun _ => rfl) ?_
    refine Ev.nxk (mvO rfl) ?_
    refine Ev.rend ?_
    intro e1 he2
    have h3 : eget e1 0 = .sl none (a1.map (cI .i64)) := envp he2 rfl rfl
    refine Ev.kseqN ?_
    refine Ev.seq ?_
    refine Ev.seq ?_
    refine Ev.reg (fun _ => rfl) ?_
    refine Ev.nxk (mvO h3) ?_
    refine Ev.nxk (bNilF Try.underlying47 hp rfl rfl) ?_
    refine Ev.rend ?_
    intro e4 he5
    have h6 := envp (t := 0) he5 rfl h3
    have h7 : eget e4 4 = .bool false := envp he5 rfl rfl
    clear h3
    refine Ev.kseqN ?_
    refine Ev.condF h7 rfl ?_
    refine Ev.ex ?_
    refine Ev.kseqN ?_
    refine Ev.seq ?_
    refine Ev.reg (fun _ => rfl) ?_
    refine Ev.nxk (litI rfl rfl ⟨rfl, by decide⟩) ?_
    refine Ev.nxk (mvO h6) ?_
    obtain ⟨x8, hx9, h⟩ := bind_some h
    refine Ev.nxk (aiT (c := (cI .i64)) (xs := ([] : List Int)) rfl (elS rfl) hx9 (cI_fl _) (by decide)) ?_
    refine Ev.nxk (mvO rfl) ?_
    refine Ev.rend ?_
    intro e10 he11
    have h12 : eget e10 2 = .sl (some 2) (x8.map (cI .i64)) := envp he11 rfl rfl
    clear h6 h7
    refine Ev.kseqN ?_
    refine Ev.ex ?_
    cases h
    exact Ev.kendR (resT h12 res0) rfl
/-! ### loop.example/g01263/spec.l00In (f88) -/
noncomputable def spec_l00In (a1 : Int) (a2 : Int) (a3 : Int) : Option Bool :=
 if (decide (a1 ≥ a2)) = true then
  some (decide (a1 ≤ a3))
 else
  some false
def spec_l00In_enc (r : Bool) : AV := .bool r
theorem spec_l00In_ok (a1 : Int) (a2 : Int) (a3 : Int) (r : Bool) (h : spec_l00In a1 a2 a3 = some r) : Ev (fun k => CN k 88 [.int .i64 a1, .int .i64 a2, .int .i64 a3] []) (fun p => rRes p.2 p.1 = spec_l00In_enc r) := by
 unfold spec_l00In at h
 refine Ev.enter (F := fun k => f88 (CN k) k) (fun k => callN_eq rfl Try.func88 rfl rfl rfl (by decide +kernel) (f88_eq _ _)) ?_
 refine Ev.seq ?_
 refine Ev.reg (fun _ => rfl) ?_
 refine Ev.nxk (mvO rfl) ?_
 refine Ev.rend ?_
 intro e1 he2
 have h3 : eget e1 0 = .int .i64 a1 := envp he2 rfl rfl
 have h4 : eget e1 1 = .int .i64 a2 := envp he2 rfl rfl
 have h5 : eget e1 2 = .int .i64 a3 := envp he2 rfl rfl
 refine Ev.kseqN ?_
 refine Ev.seq ?_
 refine Ev.reg (fun _ => rfl) ?_
 refine Ev.nxk (mvO h3) ?_
 refine Ev.nxk (mvO h4) ?_
 refine Ev.nxk (bGeq rfl rfl) ?_
 refine Ev.nxk (mvO rfl) ?_
 rcases ite_some h with ⟨hb6, h⟩ | ⟨hb6, h⟩
 ·refine Ev.nxk (guT rfl hb6 (mvO h3)) ?_
  refine Ev.nxk (guT rfl hb6 (mvO h5)) ?_
  refine Ev.nxk (guT rfl hb6 (bLeq rfl rfl)) ?_
  refine Ev.nxk (pkT rfl hb6 rfl) ?_
  refine Ev.nxk (mvO rfl) ?_
  refine Ev.rend ?_
  intro e7 he8
  have h9 : eget e7 6 = .bool (decide (a1 ≤ a3)) := envp he8 rfl rfl
  clear h3 h4 h5
  refine Ev.kseqN ?_
  refine Ev.ex ?_
  cases h
  exact Ev.kendR (resT h9 res0) rfl
 refine Ev.nxk (gsT rfl hb6) ?_
 refine Ev.nxk (gsT rfl hb6) ?_
 refine Ev.nxk (gsT rfl hb6) ?_
 refine Ev.nxk (pkF rfl hb6 rfl) ?_
 refine Ev.nxk (mvO rfl) ?_
 refine Ev.rend ?_
 intro e10 he11
 have h12 : eget e10 6 = .bool false := envp he11 rfl rfl
 clear h3 h4 h5
 refine Ev.kseqN ?_
 refine Ev.ex ?_
 cases h
 exact Ev.kendR (resT h12 res0) rfl
/-! ### loop.example/g01263/spec.l01Amount (f123) -/
noncomputable def spec_l01Amount (a1 : Int) : Option Bool :=
 (spec_l00In a1 0 100000000).bind fun r5 =>
 some r5
def spec_l01Amount_enc (r : Bool) : AV := .bool r
theorem spec_l01Amount_ok (a1 : Int) (r : Bool) (h : spec_l01Amount a1 = some r) : Ev (fun k => CN k 123 [.int .i64 a1] []) (fun p => rRes p.2 p.1 = spec_l01Amount_enc r) := by
 unfold spec_l01Amount at h
 refine Ev.enter (F := fun k => f123 (CN k) k) (fun k => callN_eq rfl Try.func123 rfl rfl rfl (by decide +kernel) (f123_eq _ _)) ?_
 refine Ev.seq ?_
 refine Ev.reg (fun _ => rfl) ?_
 refine Ev.nxk (mvO rfl) ?_
 refine Ev.rend ?_
 intro e1 he2
 have h3 : eget e1 0 = .int .i64 a1 := envp he2 rfl rfl
 refine Ev.kseqN ?_
 refine Ev.seq ?_
 refine Ev.reg (fun _ => rfl) ?_
 refine Ev.nxk (mvO h3) ?_
 obtain ⟨r5, hx4, h⟩ := bind_some h
 refine Ev.nxck (Ev.call (v := .bool r5) rfl (cns rfl (cns rfl (cns rfl rfl))) rfl (spec_l00In_ok a1 0 100000000 _ hx4) (fun h => nomatch (show false = true from h))) ?_
 refine Ev.nxk (mvO rfl) ?_
 refine Ev.rend ?_
 intro e6 he7
 have h8 : eget e6 2 = .bool r5 := envp he7 rfl rfl
 clear h3
 refine Ev.kseqN ?_
 refine Ev.ex ?_
 cases h
 exact Ev.kendR (resT h8 res0) rfl
/-! ### loop.example/g01263/laws.eqTally (f110) -/
noncomputable def laws_eqTally (a1 : Tally) (a2 : Tally) : Option Bool :=
 if (a1.Debtor != a2.Debtor) = true then
  some false
 else
  if (a1.Holder != a2.Holder) = true then
   some false
  else
   if (a1.Cut != a2.Cut) = true then
    some false
   else
    if (a1.Amount != a2.Amount) = true then
     some false
    else
     if (a1.Left != a2.Left) = true then
      some false
     else
      some true
def laws_eqTally_enc (r : Bool) : AV := .bool r
theorem laws_eqTally_ok (a1 : Tally) (a2 : Tally) (r : Bool) (h : laws_eqTally a1 a2 = some r) : Ev (fun k => CN k 110 [.agg [.int .i64 a1.Debtor, .int .i64 a1.Holder, .int .i64 a1.Cut, .int .i64 a1.Amount, .int .i64 a1.Left], .agg [.int .i64 a2.Debtor, .int .i64 a2.Holder, .int .i64 a2.Cut, .int .i64 a2.Amount, .int .i64 a2.Left]] []) (fun p => rRes p.2 p.1 = laws_eqTally_enc r) := by
 unfold laws_eqTally at h
 refine Ev.enter (F := fun k => f110 (CN k) k) (fun k => callN_eq rfl Try.func110 rfl rfl rfl (by decide +kernel) (f110_eq _ _)) ?_
 refine Ev.seq ?_
 refine Ev.reg (fun _ => rfl) ?_
 refine Ev.nxk (bxI rfl rfl ⟨rfl, rfl, by decide⟩) ?_
 refine Ev.nxk (bxI rfl rfl ⟨rfl, rfl, by decide⟩) ?_
 refine Ev.nxk (mvO rfl) ?_
 refine Ev.rend ?_
 intro e1 he2
 have h3 : eget e1 2 = .pt none [.int .i64 a1.Debtor, .int .i64 a1.Holder, .int .i64 a1.Cut, .int .i64 a1.Amount, .int .i64 a1.Left] := envp he2 rfl rfl
 have h4 : eget e1 3 = .pt none [.int .i64 a2.Debtor, .int .i64 a2.Holder, .int .i64 a2.Cut, .int .i64 a2.Amount, .int .i64 a2.Left] := envp he2 rfl rfl
 refine Ev.kseqN ?_
 refine Ev.seq ?_
 refine Ev.seq ?_
 refine Ev.reg (fun _ => rfl) ?_
 refine Ev.nxk (faP h3 ⟨ble rfl, blt rfl⟩ rfl) ?_
 refine Ev.nxk (ldP rfl rfl) ?_
 refine Ev.nxk (faP h4 ⟨ble rfl, blt rfl⟩ rfl) ?_
 refine Ev.nxk (ldP rfl rfl) ?_
 refine Ev.nxk (bNeq rfl rfl) ?_
 refine Ev.rend ?_
 intro e5 he6
 have h7 := envp (t := 2) he6 rfl h3
 have h8 := envp (t := 3) he6 rfl h4
 have h9 : eget e5 9 = .bool (a1.Debtor != a2.Debtor) := envp he6 rfl rfl
 clear h3 h4
 refine Ev.kseqN ?_
 rcases ite_some h with ⟨hb10, h⟩ | ⟨hb10, h⟩
 ·refine Ev.condT h9 hb10 ?_
  refine Ev.seq ?_
  refine Ev.reg (fun _ => rfl) ?_
  refine Ev.nxk (mvO rfl) ?_
  refine Ev.rend ?_
  intro e11 he12
  have h13 : eget e11 4 = .bool false := envp he12 rfl rfl
  clear h7 h8 h9
  refine Ev.kseqN ?_
  refine Ev.ex ?_
  refine Ev.kseqR ?_
  cases h
  exact Ev.kendR (resT h13 res0) rfl
 refine Ev.condF h9 hb10 ?_
 refine Ev.ex ?_
 refine Ev.kseqN ?_
 refine Ev.seq ?_
 refine Ev.seq ?_
 refine Ev.reg (fun _ => rfl) ?_
 refine Ev.nxk (faP h7 ⟨ble rfl, blt rfl⟩ rfl) ?_
 refine Ev.nxk (ldP rfl rfl) ?_
 refine Ev.nxk (faP h8 ⟨ble rfl, blt rfl⟩ rfl) ?_
 refine Ev.nxk (ldP rfl rfl) ?_
 refine Ev.nxk (bNeq rfl rfl) ?_
 refine Ev.rend ?_
 intro e14 he15
 have h16 := envp (t := 2) he15 rfl h7
 have h17 := envp (t := 3) he15 rfl h8
 have h18 : eget e14 14 = .bool (a1.Holder != a2.Holder) := envp he15 rfl rfl
 clear h7 h8 h9
 refine Ev.kseqN ?_
 rcases ite_some h with ⟨hb19, h⟩ | ⟨hb19, h⟩
 ·refine Ev.condT h18 hb19 ?_
  refine Ev.seq ?_
  refine Ev.reg (fun _ => rfl) ?_
  refine Ev.nxk (mvO rfl) ?_
  refine Ev.rend ?_
  intro e20 he21
  have h22 : eget e20 4 = .bool false := envp he21 rfl rfl
  clear h16 h17 h18
  refine Ev.kseqN ?_
  refine Ev.ex ?_
  refine Ev.kseqR ?_
  cases h
  exact Ev.kendR (resT h22 res0) rfl
 refine Ev.condF h18 hb19 ?_
 refine Ev.ex ?_
 refine Ev.kseqN ?_
 refine Ev.seq ?_
 refine Ev.seq ?_
 refine Ev.reg (fun _ => rfl) ?_
 refine Ev.nxk (faP h16 ⟨ble rfl, blt rfl⟩ rfl) ?_
 refine Ev.nxk (ldP rfl rfl) ?_
 refine Ev.nxk (faP h17 ⟨ble rfl, blt rfl⟩ rfl) ?_
 refine Ev.nxk (ldP rfl rfl) ?_
 refine Ev.nxk (bNeq rfl rfl) ?_
 refine Ev.rend ?_
 intro e23 he24
 have h25 := envp (t := 2) he24 rfl h16
 have h26 := envp (t := 3) he24 rfl h17
 have h27 : eget e23 19 = .bool (a1.Cut != a2.Cut) := envp he24 rfl rfl
 clear h16 h17 h18
 refine Ev.kseqN ?_
 rcases ite_some h with ⟨hb28, h⟩ | ⟨hb28, h⟩
 ·refine Ev.condT h27 hb28 ?_
  refine Ev.seq ?_
  refine Ev.reg (fun _ => rfl) ?_
  refine Ev.nxk (mvO rfl) ?_
  refine Ev.rend ?_
  intro e29 he30
  have h31 : eget e29 4 = .bool false := envp he30 rfl rfl
  clear h25 h26 h27
  refine Ev.kseqN ?_
  refine Ev.ex ?_
  refine Ev.kseqR ?_
  cases h
  exact Ev.kendR (resT h31 res0) rfl
 refine Ev.condF h27 hb28 ?_
 refine Ev.ex ?_
 refine Ev.kseqN ?_
 refine Ev.seq ?_
 refine Ev.seq ?_
 refine Ev.reg (fun _ => rfl) ?_
 refine Ev.nxk (faP h25 ⟨ble rfl, blt rfl⟩ rfl) ?_
 refine Ev.nxk (ldP rfl rfl) ?_
 refine Ev.nxk (faP h26 ⟨ble rfl, blt rfl⟩ rfl) ?_
 refine Ev.nxk (ldP rfl rfl) ?_
 refine Ev.nxk (bNeq rfl rfl) ?_
 refine Ev.rend ?_
 intro e32 he33
 have h34 := envp (t := 2) he33 rfl h25
 have h35 := envp (t := 3) he33 rfl h26
 have h36 : eget e32 24 = .bool (a1.Amount != a2.Amount) := envp he33 rfl rfl
 clear h25 h26 h27
 refine Ev.kseqN ?_
 rcases ite_some h with ⟨hb37, h⟩ | ⟨hb37, h⟩
 ·refine Ev.condT h36 hb37 ?_
  refine Ev.seq ?_
  refine Ev.reg (fun _ => rfl) ?_
  refine Ev.nxk (mvO rfl) ?_
  refine Ev.rend ?_
  intro e38 he39
  have h40 : eget e38 4 = .bool false := envp he39 rfl rfl
  clear h34 h35 h36
  refine Ev.kseqN ?_
  refine Ev.ex ?_
  refine Ev.kseqR ?_
  cases h
  exact Ev.kendR (resT h40 res0) rfl
 refine Ev.condF h36 hb37 ?_
 refine Ev.ex ?_
 refine Ev.kseqN ?_
 refine Ev.seq ?_
 refine Ev.seq ?_
 refine Ev.reg (fun _ => rfl) ?_
 refine Ev.nxk (faP h34 ⟨ble rfl, blt rfl⟩ rfl) ?_
 refine Ev.nxk (ldP rfl rfl) ?_
 refine Ev.nxk (faP h35 ⟨ble rfl, blt rfl⟩ rfl) ?_
 refine Ev.nxk (ldP rfl rfl) ?_
 refine Ev.nxk (bNeq rfl rfl) ?_
 refine Ev.rend ?_
 intro e41 he42
 have h43 : eget e41 29 = .bool (a1.Left != a2.Left) := envp he42 rfl rfl
 clear h34 h35 h36
 refine Ev.kseqN ?_
 rcases ite_some h with ⟨hb44, h⟩ | ⟨hb44, h⟩
 ·refine Ev.condT h43 hb44 ?_
  refine Ev.seq ?_
  refine Ev.reg (fun _ => rfl) ?_
  refine Ev.nxk (mvO rfl) ?_
  refine Ev.rend ?_
  intro e45 he46
  have h47 : eget e45 4 = .bool false := envp he46 rfl rfl
  clear h43
  refine Ev.kseqN ?_
  refine Ev.ex ?_
  refine Ev.kseqR ?_
  cases h
  exact Ev.kendR (resT h47 res0) rfl
 refine Ev.condF h43 hb44 ?_
 refine Ev.ex ?_
 refine Ev.kseqN ?_
 refine Ev.seq ?_
 refine Ev.reg (fun _ => rfl) ?_
 refine Ev.nxk (mvO rfl) ?_
 refine Ev.rend ?_
 intro e48 he49
 have h50 : eget e48 4 = .bool true := envp he49 rfl rfl
 clear h43
 refine Ev.kseqN ?_
 refine Ev.ex ?_
 cases h
 exact Ev.kendR (resT h50 res0) rfl
/-! ### loop.example/g01263/impl.ownBook (f109) -/
noncomputable def impl_ownBook (a1 : Book) : Option (Int × (List Int) × (List Tally)) :=
 (slices_Clone_int64 a1.Cash).bind fun r16 =>
 (slices_Clone_Tally a1.Tallies).bind fun r26 =>
 some (a1.Day, r16, r26)
def impl_ownBook_enc (r : Int × (List Int) × (List Tally)) : AV := .agg [.int .i64 r.1, .sl (some 2) (r.2.1.map (cI .i64)), .sl (some 156) (r.2.2.map Tally.c)]
theorem impl_ownBook_ok (a1 : Book) (r : Int × (List Int) × (List Tally)) (h : impl_ownBook a1 = some r) : Ev (fun k => CN k 109 [.agg [.int .i64 a1.Day, .sl none (a1.Cash.map (cI .i64)), .sl none (a1.Tallies.map Tally.c)]] []) (fun p => rRes p.2 p.1 = impl_ownBook_enc r) := by
 unfold impl_ownBook at h
 refine Ev.enter (F := fun k => f109 (CN k) k) (fun k => callN_eq rfl Try.func109 rfl rfl rfl (by decide +kernel) (f109_eq _ _)) ?_
 refine Ev.seq ?_
 refine Ev.reg (fun _ => rfl) ?_
 refine Ev.nxpush (bxO rfl rfl ⟨rfl, rfl, by decide⟩) ?_
 intro M2 hM3
 have o4 : M2[([] : Mem).length]? = some (.live ⟨.box, 56, 3, [[.int .i64 a1.Day, .sl none (a1.Cash.map (cI .i64)), .sl none (a1.Tallies.map Tally.c)]]⟩) := push_new hM3
 refine Ev.nxpush (alO zero56) ?_
 intro M6 hM7
 have o8 := push_old hM7 o4
 have ne9 := ne_new o4
 have o10 : M6[M2.length]? = some (.live ⟨.box, 56, 3, [[.int .i64 0, .nils, .nils]]⟩) := push_new hM7
 refine Ev.rend ?_
 intro e11 he12
 have h13 : eget e11 1 = .loc ([] : Mem).length 1 0 0 := envp he12 rfl rfl
 have h14 : eget e11 2 = .loc M2.length 1 0 0 := envp he12 rfl rfl
 refine Ev.kseqN ?_
 refine Ev.seq ?_
 refine Ev.reg (fun _ => rfl) ?_
 refine Ev.nxk (faO h13 o8 rfl) ?_
 refine Ev.nxk (ldO rfl o8 rfl rfl rfl) ?_
 obtain ⟨r16, hx15, h⟩ := bind_some h
 refine Ev.nxck (Ev.call (v := .sl (some 2) (r16.map (cI .i64))) rfl (cns rfl rfl) rfl (slices_Clone_int64_ok a1.Cash _ hx15) (fun h => nomatch (show false = true from h))) ?_
 refine Ev.nxk (faO h13 o8 rfl) ?_
 refine Ev.nxput (stOK rfl rfl o8 rfl rfl ⟨rfl, ble rfl⟩ rfl rfl) ?_
 intro M17 hM18
 have o19 : M17[([] : Mem).length]? = some (.live ⟨.box, 56, 3, [[.int .i64 a1.Day, .sl (some 2) (r16.map (cI .i64)), .sl none (a1.Tallies.map Tally.c)]]⟩) := set_same hM18 o8
 have o20 := set_ne hM18 (Ne.symm ne9) o10
 refine Ev.rend ?_
 intro e21 he22
 have h23 := envp (t := 1) he22 rfl h13
 have h24 := envp (t := 2) he22 rfl h14
 clear h13 h14
 refine Ev.kseqN ?_
 refine Ev.seq ?_
 refine Ev.reg (fun _ => rfl) ?_
 refine Ev.nxk (faO h23 o19 rfl) ?_
 refine Ev.nxk (ldO rfl o19 rfl rfl rfl) ?_
 obtain ⟨r26, hx25, h⟩ := bind_some h
 refine Ev.nxck (Ev.call (v := .sl (some 156) (r26.map Tally.c)) rfl (cns rfl rfl) rfl (slices_Clone_Tally_ok a1.Tallies _ hx25) (fun h => nomatch (show false = true from h))) ?_
 refine Ev.nxk (faO h23 o19 rfl) ?_
 refine Ev.nxput (stOK rfl rfl o19 rfl rfl ⟨rfl, ble rfl⟩ rfl rfl) ?_
 intro M27 hM28
 have o29 : M27[([] : Mem).length]? = some (.live ⟨.box, 56, 3, [[.int .i64 a1.Day, .sl (some 2) (r16.map (cI .i64)), .sl (some 156) (r26.map Tally.c)]]⟩) := set_same hM28 o19
 have o30 := set_ne hM28 (Ne.symm ne9) o20
 refine Ev.rend ?_
 intro e31 he32
 have h33 := envp (t := 1) he32 rfl h23
 have h34 := envp (t := 2) he32 rfl h24
 clear h23 h24
 refine Ev.kseqN ?_
 refine Ev.seq ?_
 refine Ev.reg (fun _ => rfl) ?_
 refine Ev.nxk (ldOA h33 o29 rfl rfl (ble rfl) rfl) ?_
 refine Ev.nxput (stOK h34 rfl o30 rfl rfl ⟨rfl, ble rfl⟩ rfl rfl) ?_
 intro M35 hM36
 have o37 := set_ne hM36 ne9 o29
 have o38 : M35[M2.length]? = some (.live ⟨.box, 56, 3, [[.int .i64 a1.Day, .sl (some 2) (r16.map (cI .i64)), .sl (some 156) (r26.map Tally.c)]]⟩) := set_same hM36 o30
 refine Ev.rend ?_
 intro e39 he40
 have h41 := envp (t := 2) he40 rfl h34
 clear h33 h34
 refine Ev.kseqN ?_
 refine Ev.ex ?_
 cases h
 exact Ev.kendR (resC (ag := true) (sz := 3) ⟨by kernel_rfl, by kernel_rfl, by kernel_rfl⟩ (ldOA h41 o38 rfl rfl (ble rfl) rfl) res0) rfl
/-! ### loop.example/g01263/impl.uses (f108) -/
noncomputable def impl_uses (a1 : Int) : Option (Bool × Bool × Bool × Bool) :=
 if (a1 == 1) = true then
  some (false, true, true, true)
 else
  if (a1 == 2) = true then
   some (true, true, true, false)
  else
   if (a1 == 3) = true then
    some (true, false, false, true)
   else
    some (true, true, false, false)
def impl_uses_enc (r : Bool × Bool × Bool × Bool) : AV := .tup [.bool r.1, .bool r.2.1, .bool r.2.2.1, .bool r.2.2.2]
theorem impl_uses_ok (a1 : Int) (r : Bool × Bool × Bool × Bool) (h : impl_uses a1 = some r) : Ev (fun k => CN k 108 [.int .i8 a1] []) (fun p => rRes p.2 p.1 = impl_uses_enc r) := by
 unfold impl_uses at h
 refine Ev.enter (F := fun k => f108 (CN k) k) (fun k => callN_eq rfl Try.func108 rfl rfl rfl (by decide +kernel) (f108_eq _ _)) ?_
 refine Ev.seq ?_
 refine Ev.reg (fun _ => rfl) ?_
 refine Ev.nxk (mvO rfl) ?_
 refine Ev.nxk (mvO rfl) ?_
 refine Ev.nxk (mvO rfl) ?_
 refine Ev.nxk (mvO rfl) ?_
 refine Ev.rend ?_
 intro e1 he2
 have h3 : eget e1 0 = .int .i8 a1 := envp he2 rfl rfl
 refine Ev.kseqN ?_
 refine Ev.seq ?_
 refine Ev.seq ?_
 refine Ev.reg (fun _ => rfl) ?_
 refine Ev.nxk (mvO h3) ?_
 refine Ev.rend ?_
 intro e4 he5
 have h6 : eget e4 6 = .int .i8 a1 := envp he5 rfl rfl
 clear h3
 refine Ev.kseqN ?_
 refine Ev.blk ?_
 refine Ev.seq ?_
 refine Ev.reg (fun _ => rfl) ?_
 refine Ev.nxk (bEql h6 rfl) ?_
 refine Ev.nxk (mvO rfl) ?_
 refine Ev.rend ?_
 intro e7 he8
 have h9 : eget e7 6 = .int .i8 a1 := envp he8 rfl h6
 have h10 : eget e7 7 = .bool (a1 == 1) := envp he8 rfl rfl
 clear h6
 refine Ev.kseqN ?_
 rcases ite_some h with ⟨hb11, h⟩ | ⟨hb11, h⟩
 ·refine Ev.condT h10 hb11 ?_
  refine Ev.seq ?_
  refine Ev.reg (fun _ => rfl) ?_
  refine Ev.nxk (mvO rfl) ?_
  refine Ev.nxk (mvO rfl) ?_
  refine Ev.nxk (mvO rfl) ?_
  refine Ev.nxk (mvO rfl) ?_
  refine Ev.rend ?_
  intro e12 he13
  have h14 : eget e12 2 = .bool false := envp he13 rfl rfl
  have h15 : eget e12 3 = .bool true := envp he13 rfl rfl
  have h16 : eget e12 4 = .bool true := envp he13 rfl rfl
  have h17 : eget e12 5 = .bool true := envp he13 rfl rfl
  clear h10 h9
  refine Ev.kseqN ?_
  refine Ev.ex ?_
  refine Ev.kblkR ?_
  refine Ev.kseqR ?_
  cases h
  exact Ev.kendR (resT h14 (resT h15 (resT h16 (resT h17 res0)))) rfl
 refine Ev.condF h10 hb11 ?_
 refine Ev.seq ?_
 refine Ev.reg (fun _ => rfl) ?_
 refine Ev.nxk (bEql h9 rfl) ?_
 refine Ev.nxk (mvO rfl) ?_
 refine Ev.rend ?_
 intro e18 he19
 have h20 : eget e18 6 = .int .i8 a1 := envp he19 rfl h9
 have h21 : eget e18 9 = .bool (a1 == 2) := envp he19 rfl rfl
 clear h10 h9
 refine Ev.kseqN ?_
 rcases ite_some h with ⟨hb22, h⟩ | ⟨hb22, h⟩
 ·refine Ev.condT h21 hb22 ?_
  refine Ev.seq ?_
  refine Ev.reg (fun _ => rfl) ?_
  refine Ev.nxk (mvO rfl) ?_
  refine Ev.nxk (mvO rfl) ?_
  refine Ev.nxk (mvO rfl) ?_
  refine Ev.nxk (mvO rfl) ?_
  refine Ev.rend ?_
  intro e23 he24
  have h25 : eget e23 2 = .bool true := envp he24 rfl rfl
  have h26 : eget e23 3 = .bool true := envp he24 rfl rfl
  have h27 : eget e23 4 = .bool true := envp he24 rfl rfl
  have h28 : eget e23 5 = .bool false := envp he24 rfl rfl
  clear h20 h21
  refine Ev.kseqN ?_
  refine Ev.ex ?_
  refine Ev.kblkR ?_
  refine Ev.kseqR ?_
  cases h
  exact Ev.kendR (resT h25 (resT h26 (resT h27 (resT h28 res0)))) rfl
 refine Ev.condF h21 hb22 ?_
 refine Ev.seq ?_
 refine Ev.reg (fun _ => rfl) ?_
 refine Ev.nxk (bEql h20 rfl) ?_
 refine Ev.nxk (mvO rfl) ?_
 refine Ev.rend ?_
 intro e29 he30
 have h31 : eget e29 11 = .bool (a1 == 3) := envp he30 rfl rfl
 clear h20 h21
 refine Ev.kseqN ?_
 rcases ite_some h with ⟨hb32, h⟩ | ⟨hb32, h⟩
 ·refine Ev.condT h31 hb32 ?_
  refine Ev.seq ?_
  refine Ev.reg (fun _ => rfl) ?_
  refine Ev.nxk (mvO rfl) ?_
  refine Ev.nxk (mvO rfl) ?_
  refine Ev.nxk (mvO rfl) ?_
  refine Ev.nxk (mvO rfl) ?_
  refine Ev.rend ?_
  intro e33 he34
  have h35 : eget e33 2 = .bool true := envp he34 rfl rfl
  have h36 : eget e33 3 = .bool false := envp he34 rfl rfl
  have h37 : eget e33 4 = .bool false := envp he34 rfl rfl
  have h38 : eget e33 5 = .bool true := envp he34 rfl rfl
  clear h31
  refine Ev.kseqN ?_
  refine Ev.ex ?_
  refine Ev.kblkR ?_
  refine Ev.kseqR ?_
  cases h
  exact Ev.kendR (resT h35 (resT h36 (resT h37 (resT h38 res0)))) rfl
 refine Ev.condF h31 hb32 ?_
 refine Ev.ex ?_
 refine Ev.kblkN ?_
 refine Ev.kseqN ?_
 refine Ev.seq ?_
 refine Ev.reg (fun _ => rfl) ?_
 refine Ev.nxk (mvO rfl) ?_
 refine Ev.nxk (mvO rfl) ?_
 refine Ev.nxk (mvO rfl) ?_
 refine Ev.nxk (mvO rfl) ?_
 refine Ev.rend ?_
 intro e39 he40
 have h41 : eget e39 2 = .bool true := envp he40 rfl rfl
 have h42 : eget e39 3 = .bool true := envp he40 rfl rfl
 have h43 : eget e39 4 = .bool false := envp he40 rfl rfl
 have h44 : eget e39 5 = .bool false := envp he40 rfl rfl
 clear h31
 refine Ev.kseqN ?_
 refine Ev.ex ?_
 cases h
 exact Ev.kendR (resT h41 (resT h42 (resT h43 (resT h44 res0)))) rfl
/-! ### loop.example/g01263/impl.ValidDeal$1 (f107) -/
noncomputable def impl_ValidDeal_1 (a1 : Bool) (a2 : Int) (a3 : Int) (a4 : Int) : Option Bool :=
 if a1 = true then
  if (decide (a2 ≥ a3)) = true then
   if (decide (a2 ≤ a4)) = true then
    some true
   else
    some false
  else
   some false
 else
  some (a2 == 0)
def impl_ValidDeal_1_enc (r : Bool) : AV := .bool r
theorem impl_ValidDeal_1_ok (a1 : Bool) (a2 : Int) (a3 : Int) (a4 : Int) (r : Bool) (h : impl_ValidDeal_1 a1 a2 a3 a4 = some r) : Ev (fun k => CN k 107 [.bool a1, .int .i64 a2, .int .i64 a3, .int .i64 a4] []) (fun p => rRes p.2 p.1 = impl_ValidDeal_1_enc r) := by
 unfold impl_ValidDeal_1 at h
 refine Ev.enter (F := fun k => f107 (CN k) k) (fun k => callN_eq rfl Try.func107 rfl rfl rfl (by decide +kernel) (f107_eq _ _)) ?_
 refine Ev.seq ?_
 refine Ev.reg (fun _ => rfl) ?_
 refine Ev.nxk (mvO rfl) ?_
 refine Ev.rend ?_
 intro e1 he2
 have h3 : eget e1 0 = .bool a1 := envp he2 rfl rfl
 have h4 : eget e1 1 = .int .i64 a2 := envp he2 rfl rfl
 have h5 : eget e1 2 = .int .i64 a3 := envp he2 rfl rfl
 have h6 : eget e1 3 = .int .i64 a4 := envp he2 rfl rfl
 refine Ev.kseqN ?_
 refine Ev.seq ?_
 refine Ev.reg (fun _ => rfl) ?_
 refine Ev.nxk (mvO h3) ?_
 refine Ev.nxk (mvO rfl) ?_
 rcases ite_some h with ⟨hb7, h⟩ | ⟨hb7, h⟩
 ·refine Ev.nxk (guT rfl hb7 (mvO h4)) ?_
  refine Ev.nxk (guT rfl hb7 (mvO h5)) ?_
  refine Ev.nxk (guT rfl hb7 (bGeq rfl rfl)) ?_
  refine Ev.nxk (pkT rfl hb7 rfl) ?_
  refine Ev.nxk (mvO rfl) ?_
  rcases ite_some h with ⟨hb8, h⟩ | ⟨hb8, h⟩
  ·refine Ev.nxk (guT rfl hb8 (mvO h4)) ?_
   refine Ev.nxk (guT rfl hb8 (mvO h6)) ?_
   refine Ev.nxk (guT rfl hb8 (bLeq rfl rfl)) ?_
   refine Ev.nxk (pkT rfl hb8 rfl) ?_
   refine Ev.nxk (mvO rfl) ?_
   rcases ite_some h with ⟨hb9, h⟩ | ⟨hb9, h⟩
   ·refine Ev.nxk (gsF rfl hb9) ?_
    refine Ev.nxk (gsF rfl hb9) ?_
    refine Ev.nxk (gsF rfl hb9) ?_
    refine Ev.nxk (gsU rfl) ?_
    refine Ev.nxk (gsU rfl) ?_
    refine Ev.nxk (gsF rfl hb9) ?_
    refine Ev.nxk (pkT rfl hb9 rfl) ?_
    refine Ev.nxk (mvO rfl) ?_
    refine Ev.rend ?_
    intro e10 he11
    have h12 : eget e10 8 = .bool true := envp he11 rfl rfl
    clear h3 h4 h5 h6
    refine Ev.kseqN ?_
    refine Ev.ex ?_
    cases h
    exact Ev.kendR (resT h12 res0) rfl
   refine Ev.nxk (guF rfl hb9 (mvO h3)) ?_
   refine Ev.nxk (guF rfl hb9 (uNot rfl)) ?_
   refine Ev.nxk (guF rfl hb9 (mvO rfl)) ?_
   refine Ev.nxk (gsT rfl (congrArg Bool.not hb7)) ?_
   refine Ev.nxk (gsT rfl (congrArg Bool.not hb7)) ?_
   refine Ev.nxk (guF rfl hb9 (pkF rfl (congrArg Bool.not hb7) rfl)) ?_
   refine Ev.nxk (pkF rfl hb9 rfl) ?_
   refine Ev.nxk (mvO rfl) ?_
   refine Ev.rend ?_
   intro e13 he14
   have h15 : eget e13 8 = .bool false := envp he14 rfl rfl
   clear h3 h4 h5 h6
   refine Ev.kseqN ?_
   refine Ev.ex ?_
   cases h
   exact Ev.kendR (resT h15 res0) rfl
  refine Ev.nxk (gsT rfl hb8) ?_
  refine Ev.nxk (gsT rfl hb8) ?_
  refine Ev.nxk (gsT rfl hb8) ?_
  refine Ev.nxk (pkF rfl hb8 rfl) ?_
  refine Ev.nxk (mvO rfl) ?_
  refine Ev.nxk (guF rfl rfl (mvO h3)) ?_
  refine Ev.nxk (guF rfl rfl (uNot rfl)) ?_
  refine Ev.nxk (guF rfl rfl (mvO rfl)) ?_
  refine Ev.nxk (gsT rfl (congrArg Bool.not hb7)) ?_
  refine Ev.nxk (gsT rfl (congrArg Bool.not hb7)) ?_
  refine Ev.nxk (guF rfl rfl (pkF rfl (congrArg Bool.not hb7) rfl)) ?_
  refine Ev.nxk (pkF rfl rfl rfl) ?_
  refine Ev.nxk (mvO rfl) ?_
  refine Ev.rend ?_
  intro e16 he17
  have h18 : eget e16 8 = .bool false := envp he17 rfl rfl
  clear h3 h4 h5 h6
  refine Ev.kseqN ?_
  refine Ev.ex ?_
  cases h
  exact Ev.kendR (resT h18 res0) rfl
 refine Ev.nxk (gsT rfl hb7) ?_
 refine Ev.nxk (gsT rfl hb7) ?_
 refine Ev.nxk (gsT rfl hb7) ?_
 refine Ev.nxk (pkF rfl hb7 rfl) ?_
 refine Ev.nxk (mvO rfl) ?_
 refine Ev.nxk (gsT rfl rfl) ?_
 refine Ev.nxk (gsT rfl rfl) ?_
 refine Ev.nxk (gsT rfl rfl) ?_
 refine Ev.nxk (pkF rfl rfl rfl) ?_
 refine Ev.nxk (mvO rfl) ?_
 refine Ev.nxk (guF rfl rfl (mvO h3)) ?_
 refine Ev.nxk (guF rfl rfl (uNot rfl)) ?_
 refine Ev.nxk (guF rfl rfl (mvO rfl)) ?_
 refine Ev.nxk (guT rfl (congrArg Bool.not hb7) (mvO h4)) ?_
 refine Ev.nxk (guT rfl (congrArg Bool.not hb7) (bEql rfl rfl)) ?_
 refine Ev.nxk (guF rfl rfl (pkT rfl (congrArg Bool.not hb7) rfl)) ?_
 refine Ev.nxk (pkF rfl rfl rfl) ?_
 refine Ev.nxk (mvO rfl) ?_
 refine Ev.rend ?_
 intro e19 he20
 have h21 : eget e19 8 = .bool (a2 == 0) := envp he20 rfl rfl
 clear h3 h4 h5 h6
 refine Ev.kseqN ?_
 refine Ev.ex ?_
 cases h
 exact Ev.kendR (resT h21 res0) rfl
/-! ### loop.example/g01263/impl.arePeople (f106) -/
abbrev impl_arePeople_b1_S := Int
abbrev impl_arePeople_b1_R := Unit ⊕ Unit
def impl_arePeople_b1_RS (a1 : Int) (a2 : List Int) (s : impl_arePeople_b1_S) (e : Env) (M : Mem) : Prop := eget e 0 = .int .i64 a1 ∧ eget e 7 = .sl none (a2.map (cI .i64)) ∧ eget e 8 = .int .i64 (a2.length : Int) ∧ eget e 9 = .int .i64 s
def impl_arePeople_b1_RR (a1 : Int) (a2 : List Int) (r : impl_arePeople_b1_R) (x : Ex) (e : Env) (M : Mem) : Prop :=
  match r with
  | (.inl g) => x = .ret ∧ eget e 4 = .bool false
  | (.inr g) => x = .ext 0 ∧ True
noncomputable def impl_arePeople_b1 (a1 : Int) (a2 : List Int) : impl_arePeople_b1_S → Option (impl_arePeople_b1_S ⊕ impl_arePeople_b1_R) := fun s1_1 =>
 if (decide (s1_1 < (a2.length : Int))) = true then
  (rd a2 s1_1).bind fun x39 =>
  if (decide (x39 < 0)) = true then
   some (.inr (.inl ()))
  else
   if (decide (x39 ≥ a1)) = true then
    some (.inr (.inl ()))
   else
    some (.inl (IntKind.i64.wrap (s1_1 + 1)))
 else
  some (.inr (.inr ()))
theorem impl_arePeople_b1_ok (a1 : Int) (a2 : List Int) (s : impl_arePeople_b1_S) (r : impl_arePeople_b1_S ⊕ impl_arePeople_b1_R) (h : impl_arePeople_b1 a1 a2 s = some r) (e : Env) (M : Mem) (hs : impl_arePeople_b1_RS a1 a2 s e M) : Ev (fun k => (f106_l2 (CN k) k (prune [0, 7, 8, 9] e) M).bind fun q => some q) (bQ (impl_arePeople_b1_RS a1 a2) (impl_arePeople_b1_RR a1 a2) r) := by
 revert h hs
 revert s
 intro s1_1 h hs
 unfold impl_arePeople_b1 at h
 obtain ⟨h23, h25, h27, h29⟩ := hs
 generalize he22 : prune [0, 7, 8, 9] e = e21
 have h24 := envp he22.symm rfl h23
 have h26 := envp he22.symm rfl h25
 have h28 := envp he22.symm rfl h27
 have h30 := envp he22.symm rfl h29
 refine Ev.seq ?_
 refine Ev.reg (fun _ => rfl) ?_
 refine Ev.nxk (bLss h30 h28) ?_
 refine Ev.rend ?_
 intro e31 he32
 have h33 : eget e31 0 = .int .i64 a1 := envp he32 rfl h24
 have h34 : eget e31 7 = .sl none (a2.map (cI .i64)) := envp he32 rfl h26
 have h35 : eget e31 8 = .int .i64 (a2.length : Int) := envp he32 rfl h28
 have h36 : eget e31 9 = .int .i64 s1_1 := envp he32 rfl h30
 have h37 : eget e31 10 = .bool (decide (s1_1 < (a2.length : Int))) := envp he32 rfl rfl
 clear h24 h26 h28 h30
 refine Ev.kseqN ?_
 refine Ev.seq ?_
 rcases ite_some h with ⟨hb38, h⟩ | ⟨hb38, h⟩
 ·refine Ev.condT h37 hb38 ?_
  refine Ev.ex ?_
  refine Ev.kseqN ?_
  refine Ev.seq ?_
  refine Ev.blk ?_
  refine Ev.seq ?_
  refine Ev.reg (fun _ => rfl) ?_
  obtain ⟨x39, hx40, h⟩ := bind_some h
  refine Ev.nxk (ixS h34 h36 hx40 (cI_fl _)) ?_
  refine Ev.nxk (ldP rfl rfl) ?_
  refine Ev.nxk (mvO rfl) ?_
  refine Ev.rend ?_
  intro e41 he42
  have h43 : eget e41 0 = .int .i64 a1 := envp he42 rfl h33
  have h44 : eget e41 6 = .int .i64 x39 := envp he42 rfl rfl
  have h45 := envp (t := 7) he42 rfl h34
  have h46 := envp (t := 8) he42 rfl h35
  have h47 := envp (t := 9) he42 rfl h36
  clear h33 h34 h35 h36 h37
  refine Ev.kseqN ?_
  refine Ev.seq ?_
  refine Ev.reg (fun _ => rfl) ?_
  refine Ev.nxk (mvO h44) ?_
  refine Ev.nxk (bLss rfl rfl) ?_
  refine Ev.nxk (mvO rfl) ?_
  rcases ite_some h with ⟨hb48, h⟩ | ⟨hb48, h⟩
  ·refine Ev.nxk (gsF rfl hb48) ?_
   refine Ev.nxk (gsF rfl hb48) ?_
   refine Ev.nxk (gsF rfl hb48) ?_
   refine Ev.nxk (pkT rfl hb48 rfl) ?_
   refine Ev.rend ?_
   intro e49 he50
   have h51 : eget e49 0 = .int .i64 a1 := envp he50 rfl h43
   have h52 := envp (t := 7) he50 rfl h45
   have h53 := envp (t := 8) he50 rfl h46
   have h54 := envp (t := 9) he50 rfl h47
   have h55 : eget e49 19 = .bool true := envp he50 rfl rfl
   clear h43 h44 h45 h46 h47
   refine Ev.kseqN ?_
   refine Ev.condT h55 rfl ?_
   refine Ev.seq ?_
   refine Ev.reg (fun _ => rfl) ?_
   refine Ev.nxk (mvO rfl) ?_
   refine Ev.rend ?_
   intro e56 he57
   have h58 : eget e56 4 = .bool false := envp he57 rfl rfl
   clear h51 h52 h53 h54 h55
   refine Ev.kseqN ?_
   refine Ev.ex ?_
   refine Ev.kblkR ?_
   refine Ev.kseqR ?_
   cases h
   exact Ev.kid (bQ_x (RS := (impl_arePeople_b1_RS a1 a2)) (RR := (impl_arePeople_b1_RR a1 a2)) (by intro h; cases h) (And.intro rfl h58))
  refine Ev.nxk (guF rfl hb48 (mvO h44)) ?_
  refine Ev.nxk (guF rfl hb48 (mvO h43)) ?_
  refine Ev.nxk (guF rfl hb48 (bGeq rfl rfl)) ?_
  refine Ev.nxk (pkF rfl hb48 rfl) ?_
  refine Ev.rend ?_
  intro e59 he60
  have h61 : eget e59 0 = .int .i64 a1 := envp he60 rfl h43
  have h62 := envp (t := 7) he60 rfl h45
  have h63 := envp (t := 8) he60 rfl h46
  have h64 := envp (t := 9) he60 rfl h47
  have h65 : eget e59 19 = .bool (decide (x39 ≥ a1)) := envp he60 rfl rfl
  clear h43 h44 h45 h46 h47
  refine Ev.kseqN ?_
  rcases ite_some h with ⟨hb66, h⟩ | ⟨hb66, h⟩
  ·refine Ev.condT h65 hb66 ?_
   refine Ev.seq ?_
   refine Ev.reg (fun _ => rfl) ?_
   refine Ev.nxk (mvO rfl) ?_
   refine Ev.rend ?_
   intro e67 he68
   have h69 : eget e67 4 = .bool false := envp he68 rfl rfl
   clear h61 h62 h63 h64 h65
   refine Ev.kseqN ?_
   refine Ev.ex ?_
   refine Ev.kblkR ?_
   refine Ev.kseqR ?_
   cases h
   exact Ev.kid (bQ_x (RS := (impl_arePeople_b1_RS a1 a2)) (RR := (impl_arePeople_b1_RR a1 a2)) (by intro h; cases h) (And.intro rfl h69))
  refine Ev.condF h65 hb66 ?_
  refine Ev.ex ?_
  refine Ev.kblkN ?_
  refine Ev.kseqN ?_
  refine Ev.reg (fun _ => rfl) ?_
  refine Ev.nxk (bAdd h64 rfl) ?_
  refine Ev.nxk (mvO rfl) ?_
  refine Ev.rend ?_
  intro e70 he71
  have h72 : eget e70 0 = .int .i64 a1 := envp he71 rfl h61
  have h73 := envp (t := 7) he71 rfl h62
  have h74 := envp (t := 8) he71 rfl h63
  have h75 : eget e70 9 = .int .i64 (IntKind.i64.wrap (s1_1 + 1)) := envp he71 rfl rfl
  clear h61 h62 h63 h65
  cases h
  exact Ev.kid (bQ_n (RS := (impl_arePeople_b1_RS a1 a2)) (RR := (impl_arePeople_b1_RR a1 a2)) (And.intro h72 (And.intro h73 (And.intro h74 h75))))
 refine Ev.condF h37 hb38 ?_
 refine Ev.ex ?_
 refine Ev.kseqE ?_
 cases h
 exact Ev.kid (bQ_x (RS := (impl_arePeople_b1_RS a1 a2)) (RR := (impl_arePeople_b1_RR a1 a2)) (by intro h; cases h) (And.intro rfl trivial))
noncomputable def impl_arePeople (a1 : Int) (a2 : List Int) : Option Bool :=
 (Lw (impl_arePeople_b1 a1 a2) 0).bind fun r => match r with
 | (.inl _) =>
  some false
 | (.inr _) =>
  some true
def impl_arePeople_enc (r : Bool) : AV := .bool r
theorem impl_arePeople_ok (a1 : Int) (a2 : List Int) (r : Bool) (h : impl_arePeople a1 a2 = some r) : Ev (fun k => CN k 106 [.int .i64 a1, .sl none (a2.map (cI .i64))] []) (fun p => rRes p.2 p.1 = impl_arePeople_enc r) := by
 unfold impl_arePeople at h
 refine Ev.enter (F := fun k => f106 (CN k) k) (fun k => callN_eq rfl Try.func106 rfl rfl rfl (by decide +kernel) (f106_eq _ _)) ?_
 refine Ev.seq ?_
 refine Ev.reg (fun _ => rfl) ?_
 refine Ev.nxk (mvO rfl) ?_
 refine Ev.rend ?_
 intro e1 he2
 have h3 : eget e1 0 = .int .i64 a1 := envp he2 rfl rfl
 have h4 : eget e1 1 = .sl none (a2.map (cI .i64)) := envp he2 rfl rfl
 refine Ev.kseqN ?_
 refine Ev.seq ?_
 refine Ev.seq ?_
 refine Ev.reg (fun _ => rfl) ?_
 refine Ev.nxk (mvO h4) ?_
 refine Ev.nxk (lnS Try.underlying47 rfl) ?_
 refine Ev.nxk (mvO rfl) ?_
 refine Ev.rend ?_
 intro e5 he6
 have h7 : eget e5 0 = .int .i64 a1 := envp he6 rfl h3
 have h8 : eget e5 7 = .sl none (a2.map (cI .i64)) := envp he6 rfl rfl
 have h9 : eget e5 8 = .int .i64 (a2.length : Int) := envp he6 rfl rfl
 have h10 : eget e5 9 = .int .i64 0 := envp he6 rfl rfl
 clear h3 h4
 refine Ev.kseqN ?_
 refine Ev.blk ?_
 obtain ⟨r76, hr77, h⟩ := bind_some h
 rcases r76 with _ | _
 ·refine Ev.loop (RS := impl_arePeople_b1_RS a1 a2) (RR := impl_arePeople_b1_RR a1 a2) (fun s r h e M hs => impl_arePeople_b1_ok a1 a2 s r h e M hs) hr77 (And.intro h7 (And.intro h8 (And.intro h9 h10))) ?_
  intro x e79 M80 hq78
  obtain ⟨rfl, h81⟩ := hq78
  refine Ev.kblkR ?_
  refine Ev.kseqR ?_
  cases h
  exact Ev.kendR (resT h81 res0) rfl
 refine Ev.loop (RS := impl_arePeople_b1_RS a1 a2) (RR := impl_arePeople_b1_RR a1 a2) (fun s r h e M hs => impl_arePeople_b1_ok a1 a2 s r h e M hs) hr77 (And.intro h7 (And.intro h8 (And.intro h9 h10))) ?_
 intro x e82 M83 hq78
 obtain ⟨rfl, _⟩ := hq78
 refine Ev.kblkE ?_
 refine Ev.kseqN ?_
 refine Ev.seq ?_
 refine Ev.reg (fun _ => rfl) ?_
 refine Ev.nxk (mvO rfl) ?_
 refine Ev.rend ?_
 intro e84 he85
 have h86 : eget e84 4 = .bool true := envp he85 rfl rfl
 refine Ev.kseqN ?_
 refine Ev.ex ?_
 cases h
 exact Ev.kendR (resT h86 res0) rfl
/-! ### loop.example/g01263/impl.isAmount (f105) -/
noncomputable def impl_isAmount (a1 : Int) : Option Bool :=
 if (decide (a1 ≥ 0)) = true then
  some (decide (a1 ≤ 100000000))
 else
  some false
def impl_isAmount_enc (r : Bool) : AV := .bool r
theorem impl_isAmount_ok (a1 : Int) (r : Bool) (h : impl_isAmount a1 = some r) : Ev (fun k => CN k 105 [.int .i64 a1] []) (fun p => rRes p.2 p.1 = impl_isAmount_enc r) := by
 unfold impl_isAmount at h
 refine Ev.enter (F := fun k => f105 (CN k) k) (fun k => callN_eq rfl Try.func105 rfl rfl rfl (by decide +kernel) (f105_eq _ _)) ?_
 refine Ev.seq ?_
 refine Ev.reg (fun _ => rfl) ?_
 refine Ev.nxk (mvO rfl) ?_
 refine Ev.rend ?_
 intro e1 he2
 have h3 : eget e1 0 = .int .i64 a1 := envp he2 rfl rfl
 refine Ev.kseqN ?_
 refine Ev.seq ?_
 refine Ev.reg (fun _ => rfl) ?_
 refine Ev.nxk (mvO h3) ?_
 refine Ev.nxk (bGeq rfl rfl) ?_
 refine Ev.nxk (mvO rfl) ?_
 rcases ite_some h with ⟨hb4, h⟩ | ⟨hb4, h⟩
 ·refine Ev.nxk (guT rfl hb4 (mvO h3)) ?_
  refine Ev.nxk (guT rfl hb4 (bLeq rfl rfl)) ?_
  refine Ev.nxk (pkT rfl hb4 rfl) ?_
  refine Ev.nxk (mvO rfl) ?_
  refine Ev.rend ?_
  intro e5 he6
  have h7 : eget e5 2 = .bool (decide (a1 ≤ 100000000)) := envp he6 rfl rfl
  clear h3
  refine Ev.kseqN ?_
  refine Ev.ex ?_
  cases h
  exact Ev.kendR (resT h7 res0) rfl
 refine Ev.nxk (gsT rfl hb4) ?_
 refine Ev.nxk (gsT rfl hb4) ?_
 refine Ev.nxk (pkF rfl hb4 rfl) ?_
 refine Ev.nxk (mvO rfl) ?_
 refine Ev.rend ?_
 intro e8 he9
 have h10 : eget e8 2 = .bool false := envp he9 rfl rfl
 clear h3
 refine Ev.kseqN ?_
 refine Ev.ex ?_
 cases h
 exact Ev.kendR (resT h10 res0) rfl
/-! ### loop.example/g01263/impl.isBookDay (f104) -/
noncomputable def impl_isBookDay (a1 : Int) : Option Bool :=
 if (decide (a1 ≥ 0)) = true then
  some (decide (a1 ≤ 100000))
 else
  some false
def impl_isBookDay_enc (r : Bool) : AV := .bool r
theorem impl_isBookDay_ok (a1 : Int) (r : Bool) (h : impl_isBookDay a1 = some r) : Ev (fun k => CN k 104 [.int .i64 a1] []) (fun p => rRes p.2 p.1 = impl_isBookDay_enc r) := by
 unfold impl_isBookDay at h
 refine Ev.enter (F := fun k => f104 (CN k) k) (fun k => callN_eq rfl Try.func104 rfl rfl rfl (by decide +kernel) (f104_eq _ _)) ?_
 refine Ev.seq ?_
 refine Ev.reg (fun _ => rfl) ?_
 refine Ev.nxk (mvO rfl) ?_
 refine Ev.rend ?_
 intro e1 he2
 have h3 : eget e1 0 = .int .i64 a1 := envp he2 rfl rfl
 refine Ev.kseqN ?_
 refine Ev.seq ?_
 refine Ev.reg (fun _ => rfl) ?_
 refine Ev.nxk (mvO h3) ?_
 refine Ev.nxk (bGeq rfl rfl) ?_
 refine Ev.nxk (mvO rfl) ?_
 rcases ite_some h with ⟨hb4, h⟩ | ⟨hb4, h⟩
 ·refine Ev.nxk (guT rfl hb4 (mvO h3)) ?_
  refine Ev.nxk (guT rfl hb4 (bLeq rfl rfl)) ?_
  refine Ev.nxk (pkT rfl hb4 rfl) ?_
  refine Ev.nxk (mvO rfl) ?_
  refine Ev.rend ?_
  intro e5 he6
  have h7 : eget e5 2 = .bool (decide (a1 ≤ 100000)) := envp he6 rfl rfl
  clear h3
  refine Ev.kseqN ?_
  refine Ev.ex ?_
  cases h
  exact Ev.kendR (resT h7 res0) rfl
 refine Ev.nxk (gsT rfl hb4) ?_
 refine Ev.nxk (gsT rfl hb4) ?_
 refine Ev.nxk (pkF rfl hb4 rfl) ?_
 refine Ev.nxk (mvO rfl) ?_
 refine Ev.rend ?_
 intro e8 he9
 have h10 : eget e8 2 = .bool false := envp he9 rfl rfl
 clear h3
 refine Ev.kseqN ?_
 refine Ev.ex ?_
 cases h
 exact Ev.kendR (resT h10 res0) rfl
/-! ### loop.example/g01263/laws.toTally (f103) -/
noncomputable def laws_toTally (a1 : Tally) : Option (Int × Int × Int × Int × Int) :=
 some (a1.Debtor, a1.Holder, a1.Cut, a1.Amount, a1.Left)
def laws_toTally_enc (r : Int × Int × Int × Int × Int) : AV := .agg [.int .i64 r.1, .int .i64 r.2.1, .int .i64 r.2.2.1, .int .i64 r.2.2.2.1, .int .i64 r.2.2.2.2]
theorem laws_toTally_ok (a1 : Tally) (r : Int × Int × Int × Int × Int) (h : laws_toTally a1 = some r) : Ev (fun k => CN k 103 [.agg [.int .i64 a1.Debtor, .int .i64 a1.Holder, .int .i64 a1.Cut, .int .i64 a1.Amount, .int .i64 a1.Left]] []) (fun p => rRes p.2 p.1 = laws_toTally_enc r) := by
 unfold laws_toTally at h
 refine Ev.enter (F := fun k => f103 (CN k) k) (fun k => callN_eq rfl Try.func103 rfl rfl rfl (by decide +kernel) (f103_eq _ _)) ?_
 refine Ev.seq ?_
 refine Ev.reg (fun _ => rfl) ?_
 refine Ev.nxk (bxI rfl rfl ⟨rfl, rfl, by decide⟩) ?_
 refine Ev.nxpush (alO zero156) ?_
 intro M2 hM3
 have o4 : M2[([] : Mem).length]? = some (.live ⟨.box, 156, 5, [[.int .i64 0, .int .i64 0, .int .i64 0, .int .i64 0, .int .i64 0]]⟩) := push_new hM3
 refine Ev.rend ?_
 intro e5 he6
 have h7 : eget e5 1 = .pt none [.int .i64 a1.Debtor, .int .i64 a1.Holder, .int .i64 a1.Cut, .int .i64 a1.Amount, .int .i64 a1.Left] := envp he6 rfl rfl
 have h8 : eget e5 2 = .loc ([] : Mem).length 1 0 0 := envp he6 rfl rfl
 refine Ev.kseqN ?_
 refine Ev.seq ?_
 refine Ev.reg (fun _ => rfl) ?_
 refine Ev.nxpush (alO zero156) ?_
 intro M10 hM11
 have o12 := push_old hM11 o4
 have ne13 := ne_new o4
 have o14 : M10[M2.length]? = some (.live ⟨.box, 156, 5, [[.int .i64 0, .int .i64 0, .int .i64 0, .int .i64 0, .int .i64 0]]⟩) := push_new hM11
 refine Ev.rend ?_
 intro e15 he16
 have h17 := envp (t := 1) he16 rfl h7
 have h18 := envp (t := 2) he16 rfl h8
 have h19 : eget e15 3 = .loc M2.length 1 0 0 := envp he16 rfl rfl
 clear h7 h8
 refine Ev.kseqN ?_
 refine Ev.seq ?_
 refine Ev.reg (fun _ => rfl) ?_
 refine Ev.nxk (faP h17 ⟨ble rfl, blt rfl⟩ rfl) ?_
 refine Ev.nxk (ldP rfl rfl) ?_
 refine Ev.nxk (faO h19 o14 rfl) ?_
 refine Ev.nxput (stO rfl rfl o14 rfl rfl ⟨rfl, ble rfl⟩ rfl rfl) ?_
 intro M20 hM21
 have o22 := set_ne hM21 ne13 o12
 have o23 : M20[M2.length]? = some (.live ⟨.box, 156, 5, [[.int .i64 a1.Debtor, .int .i64 0, .int .i64 0, .int .i64 0, .int .i64 0]]⟩) := set_same hM21 o14
 refine Ev.rend ?_
 intro e24 he25
 have h26 := envp (t := 1) he25 rfl h17
 have h27 := envp (t := 2) he25 rfl h18
 have h28 := envp (t := 3) he25 rfl h19
 clear h17 h18 h19
 refine Ev.kseqN ?_
 refine Ev.seq ?_
 refine Ev.reg (fun _ => rfl) ?_
 refine Ev.nxk (faP h26 ⟨ble rfl, blt rfl⟩ rfl) ?_
 refine Ev.nxk (ldP rfl rfl) ?_
 refine Ev.nxk (faO h28 o23 rfl) ?_
 refine Ev.nxput (stO rfl rfl o23 rfl rfl ⟨rfl, ble rfl⟩ rfl rfl) ?_
 intro M29 hM30
 have o31 := set_ne hM30 ne13 o22
 have o32 : M29[M2.length]? = some (.live ⟨.box, 156, 5, [[.int .i64 a1.Debtor, .int .i64 a1.Holder, .int .i64 0, .int .i64 0, .int .i64 0]]⟩) := set_same hM30 o23
 refine Ev.rend ?_
 intro e33 he34
 have h35 := envp (t := 1) he34 rfl h26
 have h36 := envp (t := 2) he34 rfl h27
 have h37 := envp (t := 3) he34 rfl h28
 clear h26 h27 h28
 refine Ev.kseqN ?_
 refine Ev.seq ?_
 refine Ev.reg (fun _ => rfl) ?_
 refine Ev.nxk (faP h35 ⟨ble rfl, blt rfl⟩ rfl) ?_
 refine Ev.nxk (ldP rfl rfl) ?_
 refine Ev.nxk (faO h37 o32 rfl) ?_
 refine Ev.nxput (stO rfl rfl o32 rfl rfl ⟨rfl, ble rfl⟩ rfl rfl) ?_
 intro M38 hM39
 have o40 := set_ne hM39 ne13 o31
 have o41 : M38[M2.length]? = some (.live ⟨.box, 156, 5, [[.int .i64 a1.Debtor, .int .i64 a1.Holder, .int .i64 a1.Cut, .int .i64 0, .int .i64 0]]⟩) := set_same hM39 o32
 refine Ev.rend ?_
 intro e42 he43
 have h44 := envp (t := 1) he43 rfl h35
 have h45 := envp (t := 2) he43 rfl h36
 have h46 := envp (t := 3) he43 rfl h37
 clear h35 h36 h37
 refine Ev.kseqN ?_
 refine Ev.seq ?_
 refine Ev.reg (fun _ => rfl) ?_
 refine Ev.nxk (faP h44 ⟨ble rfl, blt rfl⟩ rfl) ?_
 refine Ev.nxk (ldP rfl rfl) ?_
 refine Ev.nxk (faO h46 o41 rfl) ?_
 refine Ev.nxput (stO rfl rfl o41 rfl rfl ⟨rfl, ble rfl⟩ rfl rfl) ?_
 intro M47 hM48
 have o49 := set_ne hM48 ne13 o40
 have o50 : M47[M2.length]? = some (.live ⟨.box, 156, 5, [[.int .i64 a1.Debtor, .int .i64 a1.Holder, .int .i64 a1.Cut, .int .i64 a1.Amount, .int .i64 0]]⟩) := set_same hM48 o41
 refine Ev.rend ?_
 intro e51 he52
 have h53 := envp (t := 1) he52 rfl h44
 have h54 := envp (t := 2) he52 rfl h45
 have h55 := envp (t := 3) he52 rfl h46
 clear h44 h45 h46
 refine Ev.kseqN ?_
 refine Ev.seq ?_
 refine Ev.reg (fun _ => rfl) ?_
 refine Ev.nxk (faP h53 ⟨ble rfl, blt rfl⟩ rfl) ?_
 refine Ev.nxk (ldP rfl rfl) ?_
 refine Ev.nxk (faO h55 o50 rfl) ?_
 refine Ev.nxput (stO rfl rfl o50 rfl rfl ⟨rfl, ble rfl⟩ rfl rfl) ?_
 intro M56 hM57
 have o58 := set_ne hM57 ne13 o49
 have o59 : M56[M2.length]? = some (.live ⟨.box, 156, 5, [[.int .i64 a1.Debtor, .int .i64 a1.Holder, .int .i64 a1.Cut, .int .i64 a1.Amount, .int .i64 a1.Left]]⟩) := set_same hM57 o50
 refine Ev.rend ?_
 intro e60 he61
 have h62 := envp (t := 2) he61 rfl h54
 have h63 := envp (t := 3) he61 rfl h55
 clear h53 h54 h55
 refine Ev.kseqN ?_
 refine Ev.seq ?_
 refine Ev.reg (fun _ => rfl) ?_
 refine Ev.nxk (ldOA h63 o59 rfl rfl (ble rfl) rfl) ?_
 refine Ev.nxput (stO h62 rfl o58 rfl rfl ⟨rfl, ble rfl⟩ rfl rfl) ?_
 intro M64 hM65
 have o66 : M64[([] : Mem).length]? = some (.live ⟨.box, 156, 5, [[.int .i64 a1.Debtor, .int .i64 a1.Holder, .int .i64 a1.Cut, .int .i64 a1.Amount, .int .i64 a1.Left]]⟩) := set_same hM65 o58
 have o67 := set_ne hM65 (Ne.symm ne13) o59
 refine Ev.rend ?_
 intro e68 he69
 have h70 := envp (t := 2) he69 rfl h62
 clear h62 h63
 refine Ev.kseqN ?_
 refine Ev.ex ?_
 cases h
 exact Ev.kendR (resC (ag := true) (sz := 5) ⟨by kernel_rfl, by kernel_rfl, by kernel_rfl⟩ (ldOA h70 o66 rfl rfl (ble rfl) rfl) res0) rfl
/-! ### loop.example/g01263/spec.l07Copy (f102) -/
noncomputable def spec_l07Copy (a1 : Book) : Option (Int × (List Int) × (List Tally)) :=
 (app 8 ([] : List Int) a1.Cash).bind fun x9 =>
 (app 40 ([] : List Tally) a1.Tallies).bind fun x11 =>
 some (a1.Day, x9, x11)
def spec_l07Copy_enc (r : Int × (List Int) × (List Tally)) : AV := .agg [.int .i64 r.1, .sl (some 2) (r.2.1.map (cI .i64)), .sl (some 156) (r.2.2.map Tally.c)]
theorem spec_l07Copy_ok (a1 : Book) (r : Int × (List Int) × (List Tally)) (h : spec_l07Copy a1 = some r) : Ev (fun k => CN k 102 [.pt none [.int .i64 a1.Day, .sl none (a1.Cash.map (cI .i64)), .sl none (a1.Tallies.map Tally.c)]] []) (fun p => rRes p.2 p.1 = spec_l07Copy_enc r) := by
 unfold spec_l07Copy at h
 refine Ev.enter (F := fun k => f102 (CN k) k) (fun k => callN_eq rfl Try.func102 rfl rfl rfl (by decide +kernel) (f102_eq _ _)) ?_
 refine Ev.seq ?_
 refine Ev.reg (fun _ => rfl) ?_
 refine Ev.nxpush (alO zero56) ?_
 intro M2 hM3
 have o4 : M2[([] : Mem).length]? = some (.live ⟨.box, 56, 3, [[.int .i64 0, .nils, .nils]]⟩) := push_new hM3
 refine Ev.rend ?_
 intro e5 he6
 have h7 : eget e5 0 = .pt none [.int .i64 a1.Day, .sl none (a1.Cash.map (cI .i64)), .sl none (a1.Tallies.map Tally.c)] := envp he6 rfl rfl
 have h8 : eget e5 2 = .loc ([] : Mem).length 1 0 0 := envp he6 rfl rfl
 refine Ev.kseqN ?_
 refine Ev.seq ?_
 refine Ev.regD (fun _ => rfl) ?_
 refine Ev.nfk (mvO h7) ?_
 refine Ev.nfk (ncP rfl) ?_
 refine Ev.nfk (faP rfl ⟨ble rfl, blt rfl⟩ rfl) ?_
 refine Ev.nfk (ldP rfl rfl) ?_
 refine Ev.nfk (litI rfl rfl ⟨rfl, by decide⟩) ?_
 refine Ev.nfk (mvO h7) ?_
 refine Ev.nfk (ncP rfl) ?_
 refine Ev.nfk (faP rfl ⟨ble rfl, blt rfl⟩ rfl) ?_
 refine Ev.nfk (ldP rfl rfl) ?_
 obtain ⟨x9, hx10, h⟩ := bind_some h
 refine Ev.nfk (aiT (c := (cI .i64)) (xs := ([] : List Int)) rfl (elS rfl) hx10 (cI_fl _) (by decide)) ?_
 refine Ev.nfk (litI rfl rfl ⟨rfl, by decide⟩) ?_
 refine Ev.nfk (mvO h7) ?_
 refine Ev.nfk (ncP rfl) ?_
 refine Ev.nfk (faP rfl ⟨ble rfl, blt rfl⟩ rfl) ?_
 refine Ev.nfk (ldP rfl rfl) ?_
 obtain ⟨x11, hx12, h⟩ := bind_some h
 refine Ev.nfk (aiT (c := Tally.c) (xs := ([] : List Tally)) rfl (elS rfl) hx12 Tally.fl (by decide)) ?_
 refine Ev.nfk (bldT zero56 (cns (pr3 rfl) (cns (pr3 rfl) (cns (pr3 rfl) rfl))) (fill1 ⟨rfl, ble rfl⟩ rfl rfl (fill1 ⟨rfl, ble rfl⟩ rfl rfl (fill1 ⟨rfl, ble rfl⟩ rfl rfl (fill0 rfl))))) ?_
 refine Ev.fend0 ?_
 refine Ev.nxput (stOK h8 rfl o4 rfl rfl ⟨rfl, ble rfl⟩ rfl rfl) ?_
 intro M13 hM14
 have o15 : M13[([] : Mem).length]? = some (.live ⟨.box, 56, 3, [[.int .i64 a1.Day, .sl (some 2) (x9.map (cI .i64)), .sl (some 156) (x11.map Tally.c)]]⟩) := set_same hM14 o4
 refine Ev.rend ?_
 intro e16 he17
 have h18 := envp (t := 2) he17 rfl h8
 clear h7 h8
 refine Ev.kseqN ?_
 refine Ev.ex ?_
 cases h
 exact Ev.kendR (resC (ag := true) (sz := 3) ⟨by kernel_rfl, by kernel_rfl, by kernel_rfl⟩ (ldOA h18 o15 rfl rfl (ble rfl) rfl) res0) rfl
/-! ### loop.example/g01263/spec.l02Person (f100) -/
noncomputable def spec_l02Person (a1 : Int) (a2 : Int) : Option Bool :=
 (spec_l00In a2 0 (IntKind.i64.wrap (a1 - 1))).bind fun r6 =>
 some r6
def spec_l02Person_enc (r : Bool) : AV := .bool r
theorem spec_l02Person_ok (a1 : Int) (a2 : Int) (r : Bool) (h : spec_l02Person a1 a2 = some r) : Ev (fun k => CN k 100 [.int .i64 a1, .int .i64 a2] []) (fun p => rRes p.2 p.1 = spec_l02Person_enc r) := by
 unfold spec_l02Person at h
 refine Ev.enter (F := fun k => f100 (CN k) k) (fun k => callN_eq rfl Try.func100 rfl rfl rfl (by decide +kernel) (f100_eq _ _)) ?_
 refine Ev.seq ?_
 refine Ev.reg (fun _ => rfl) ?_
 refine Ev.nxk (mvO rfl) ?_
 refine Ev.rend ?_
 intro e1 he2
 have h3 : eget e1 0 = .int .i64 a1 := envp he2 rfl rfl
 have h4 : eget e1 1 = .int .i64 a2 := envp he2 rfl rfl
 refine Ev.kseqN ?_
 refine Ev.seq ?_
 refine Ev.reg (fun _ => rfl) ?_
 refine Ev.nxk (mvO h4) ?_
 refine Ev.nxk (mvO h3) ?_
 refine Ev.nxk (bSub rfl rfl) ?_
 obtain ⟨r6, hx5, h⟩ := bind_some h
 refine Ev.nxck (Ev.call (v := .bool r6) rfl (cns rfl (cns rfl (cns rfl rfl))) rfl (spec_l00In_ok a2 0 (IntKind.i64.wrap (a1 - 1)) _ hx5) (fun h => nomatch (show false = true from h))) ?_
 refine Ev.nxk (mvO rfl) ?_
 refine Ev.rend ?_
 intro e7 he8
 have h9 : eget e7 4 = .bool r6 := envp he8 rfl rfl
 clear h3 h4
 refine Ev.kseqN ?_
 refine Ev.ex ?_
 cases h
 exact Ev.kendR (resT h9 res0) rfl
/-! ### loop.example/g01263/spec.l07Refused (f101) -/
def spec_l07Refused_c1_Q (a1 : Book) (a2 : Deal) (r : Unit ⊕ Bool) (q : Out) : Prop :=
  match r with
  | (.inl g) => q.1 = .ret ∧ eget q.2.1 4 = .int .i64 2
  | (.inr g) => q.1 = .nrm ∧ eget q.2.1 0 = .pt none [.int .i64 a1.Day, .sl none (a1.Cash.map (cI .i64)), .sl none (a1.Tallies.map Tally.c)] ∧ eget q.2.1 1 = .pt none [.int .i64 a2.Day, .int .i8 a2.Kind, .int .i64 a2.Tally, .int .i64 a2.From, .int .i64 a2.To, .int .i64 a2.Amount] ∧ eget q.2.1 55 = .bool g
def spec_l07Refused_c2_Q (a1 : Book) (a2 : Deal) (x91 : Tally) (r : Unit ⊕ Unit) (q : Out) : Prop :=
  match r with
  | (.inl g) => q.1 = .ret ∧ eget q.2.1 4 = .int .i64 4
  | (.inr g) => q.1 = .nrm ∧ eget q.2.1 0 = .pt none [.int .i64 a1.Day, .sl none (a1.Cash.map (cI .i64)), .sl none (a1.Tallies.map Tally.c)] ∧ eget q.2.1 1 = .pt none [.int .i64 a2.Day, .int .i8 a2.Kind, .int .i64 a2.Tally, .int .i64 a2.From, .int .i64 a2.To, .int .i64 a2.Amount] ∧ eget q.2.1 6 = .pt none [.int .i64 x91.Debtor, .int .i64 x91.Holder, .int .i64 x91.Cut, .int .i64 x91.Amount, .int .i64 x91.Left] ∧ eget q.2.1 136 = .bool (decide (a2.Amount > x91.Left))
def spec_l07Refused_c3_Q (a1 : Book) (a2 : Deal) (x91 : Tally) (g : Bool) (q : Out) : Prop := q.1 = .nrm ∧ eget q.2.1 0 = .pt none [.int .i64 a1.Day, .sl none (a1.Cash.map (cI .i64)), .sl none (a1.Tallies.map Tally.c)] ∧ eget q.2.1 1 = .pt none [.int .i64 a2.Day, .int .i8 a2.Kind, .int .i64 a2.Tally, .int .i64 a2.From, .int .i64 a2.To, .int .i64 a2.Amount] ∧ eget q.2.1 6 = .pt none [.int .i64 x91.Debtor, .int .i64 x91.Holder, .int .i64 x91.Cut, .int .i64 x91.Amount, .int .i64 x91.Left] ∧ eget q.2.1 158 = .bool g
noncomputable def spec_l07Refused (a1 : Book) (a2 : Deal) : Option Int :=
 if (decide (a2.Day < a1.Day)) = true then
  some 4
 else
  (((spec_l02Person (a1.Cash.length : Int) a2.From).bind fun r21 =>
  if r21 = true then
   (spec_l02Person (a1.Cash.length : Int) a2.To).bind fun r24 =>
   if r24 = true then
    if (a2.Kind != 1) = true then
     if (decide (a2.Tally ≥ (a1.Tallies.length : Int))) = true then
      some (.inl ())
     else
      some (.inr (decide (a2.Tally ≥ (a1.Tallies.length : Int))))
    else
     some (.inr false)
   else
    some (.inl ())
  else
   some (.inl ()) : Option (Unit ⊕ Bool))).bind fun r => match r with
  | (.inl _) =>
   some 2
  | (.inr y63) =>
   if (a2.Kind == 1) = true then
    if (a2.From == a2.To) = true then
     some 4
    else
     if ((a1.Tallies.length : Int) == 40) = true then
      some 3
     else
      some 0
   else
    (rd a1.Tallies a2.Tally).bind fun x91 =>
    ((if (a2.Kind == 2) = true then
     if (a2.From == a2.To) = true then
      some (.inl ())
     else
      if (a2.Kind != 3) = true then
       if (a2.From != x91.Holder) = true then
        some (.inl ())
       else
        if (x91.Left == 0) = true then
         some (.inl ())
        else
         if (decide (a2.Amount > x91.Left)) = true then
          some (.inl ())
         else
          some (.inr ())
      else
       if (x91.Left == 0) = true then
        some (.inl ())
       else
        if (decide (a2.Amount > x91.Left)) = true then
         some (.inl ())
        else
         some (.inr ())
    else
     if (a2.Kind != 3) = true then
      if (a2.From != x91.Holder) = true then
       some (.inl ())
      else
       if (x91.Left == 0) = true then
        some (.inl ())
       else
        if (decide (a2.Amount > x91.Left)) = true then
         some (.inl ())
        else
         some (.inr ())
     else
      if (x91.Left == 0) = true then
       some (.inl ())
      else
       if (decide (a2.Amount > x91.Left)) = true then
        some (.inl ())
       else
        some (.inr ()) : Option (Unit ⊕ Unit))).bind fun r => match r with
    | (.inl _) =>
     some 4
    | (.inr _) =>
     (if (a2.Kind == 3) = true then
      (rd a1.Cash x91.Debtor).bind fun x222 =>
      some (decide (x222 < a2.Amount))
     else
      some false).bind fun y238 =>
     if y238 = true then
      some 8
     else
      if (a2.Kind == 3) = true then
       (rd a1.Cash x91.Holder).bind fun x248 =>
       if (decide ((IntKind.i64.wrap (x248 + a2.Amount)) > 100000000)) = true then
        some 3
       else
        some 0
      else
       some 0
def spec_l07Refused_enc (r : Int) : AV := .int .i64 r
theorem spec_l07Refused_ok (a1 : Book) (a2 : Deal) (r : Int) (h : spec_l07Refused a1 a2 = some r) : Ev (fun k => CN k 101 [.pt none [.int .i64 a1.Day, .sl none (a1.Cash.map (cI .i64)), .sl none (a1.Tallies.map Tally.c)], .pt none [.int .i64 a2.Day, .int .i8 a2.Kind, .int .i64 a2.Tally, .int .i64 a2.From, .int .i64 a2.To, .int .i64 a2.Amount]] []) (fun p => rRes p.2 p.1 = spec_l07Refused_enc r) := by
 unfold spec_l07Refused at h
 refine Ev.enter (F := fun k => f101 (CN k) k) (fun k => callN_eq rfl Try.func101 rfl rfl rfl (by decide +kernel) (f101_eq _ _)) ?_
 refine Ev.seq ?_
 refine Ev.reg (fun _ => rfl) ?_
 refine Ev.nxk (mvO rfl) ?_
 refine Ev.rend ?_
 intro e1 he2
 have h3 : eget e1 0 = .pt none [.int .i64 a1.Day, .sl none (a1.Cash.map (cI .i64)), .sl none (a1.Tallies.map Tally.c)] := envp he2 rfl rfl
 have h4 : eget e1 1 = .pt none [.int .i64 a2.Day, .int .i8 a2.Kind, .int .i64 a2.Tally, .int .i64 a2.From, .int .i64 a2.To, .int .i64 a2.Amount] := envp he2 rfl rfl
 refine Ev.kseqN ?_
 refine Ev.seq ?_
 refine Ev.reg (fun _ => rfl) ?_
 refine Ev.nxk (mvO h3) ?_
 refine Ev.nxk (ncP rfl) ?_
 refine Ev.nxk (faP rfl ⟨ble rfl, blt rfl⟩ rfl) ?_
 refine Ev.nxk (ldP rfl rfl) ?_
 refine Ev.nxk (lnS Try.underlying47 rfl) ?_
 refine Ev.nxk (mvO rfl) ?_
 refine Ev.rend ?_
 intro e5 he6
 have h7 := envp (t := 0) he6 rfl h3
 have h8 := envp (t := 1) he6 rfl h4
 have h9 : eget e5 5 = .int .i64 (a1.Cash.length : Int) := envp he6 rfl rfl
 clear h3 h4
 refine Ev.kseqN ?_
 refine Ev.seq ?_
 refine Ev.seq ?_
 refine Ev.regD (fun _ => rfl) ?_
 refine Ev.nfk (mvO h8) ?_
 refine Ev.nfk (ncP rfl) ?_
 refine Ev.nfk (faP rfl ⟨ble rfl, blt rfl⟩ rfl) ?_
 refine Ev.nfk (ldP rfl rfl) ?_
 refine Ev.nfk (mvO h7) ?_
 refine Ev.nfk (ncP rfl) ?_
 refine Ev.nfk (faP rfl ⟨ble rfl, blt rfl⟩ rfl) ?_
 refine Ev.nfk (ldP rfl rfl) ?_
 refine Ev.nfk (bLss rfl rfl) ?_
 refine Ev.fend0 ?_
 refine Ev.rend ?_
 intro e10 he11
 have h12 := envp (t := 0) he11 rfl h7
 have h13 := envp (t := 1) he11 rfl h8
 have h14 := envp (t := 5) he11 rfl h9
 have h15 : eget e10 20 = .bool (decide (a2.Day < a1.Day)) := envp he11 rfl rfl
 clear h7 h8 h9
 refine Ev.kseqN ?_
 rcases ite_some h with ⟨hb16, h⟩ | ⟨hb16, h⟩
 ·refine Ev.condT h15 hb16 ?_
  refine Ev.seq ?_
  refine Ev.reg (fun _ => rfl) ?_
  refine Ev.nxk (mvO rfl) ?_
  refine Ev.rend ?_
  intro e17 he18
  have h19 : eget e17 4 = .int .i64 4 := envp he18 rfl rfl
  clear h12 h13 h14 h15
  refine Ev.kseqN ?_
  refine Ev.ex ?_
  refine Ev.kseqR ?_
  cases h
  exact Ev.kendR (resT h19 res0) rfl
 refine Ev.condF h15 hb16 ?_
 refine Ev.ex ?_
 refine Ev.kseqN ?_
 refine Ev.seq ?_
 obtain ⟨r273, hr274, h⟩ := bind_some h
 refine Ev.cut (Q1 := spec_l07Refused_c1_Q a1 a2 r273) (by
     have h := hr274
     refine Ev.seq ?_
     refine Ev.regD (fun _ => rfl) ?_
     refine Ev.nfk (mvO h14) ?_
     refine Ev.nfk (mvO h13) ?_
     refine Ev.nfk (ncP rfl) ?_
     refine Ev.nfk (faP rfl ⟨ble rfl, blt rfl⟩ rfl) ?_
     refine Ev.nfk (ldP rfl rfl) ?_
     obtain ⟨r21, hx20, h⟩ := bind_some h
     refine Ev.nfc (Ev.call (v := .bool r21) rfl (cns rfl (cns rfl rfl)) rfl (spec_l02Person_ok (a1.Cash.length : Int) a2.From _ hx20) (fun h => nomatch (show false = true from h))) ?_
     refine Ev.nfk (uNot rfl) ?_
     refine Ev.nfk (mvO rfl) ?_
     rcases ite_some h with ⟨hb22, h⟩ | ⟨hb22, h⟩
     ·refine Ev.nfk (guF rfl (congrArg Bool.not hb22) (mvO h14)) ?_
      refine Ev.nfk (guF rfl (congrArg Bool.not hb22) (mvO h13)) ?_
      refine Ev.nfk (guF rfl (congrArg Bool.not hb22) (ncP rfl)) ?_
      refine Ev.nfk (guF rfl (congrArg Bool.not hb22) (faP rfl ⟨ble rfl, blt rfl⟩ rfl)) ?_
      refine Ev.nfk (guF rfl (congrArg Bool.not hb22) (ldP rfl rfl)) ?_
      obtain ⟨r24, hx23, h⟩ := bind_some h
      refine Ev.nfc (Ev.guF rfl (congrArg Bool.not hb22) (Ev.call (v := .bool r24) rfl (cns rfl (cns rfl rfl)) rfl (spec_l02Person_ok (a1.Cash.length : Int) a2.To _ hx23) (fun h => nomatch (show false = true from h)))) ?_
      refine Ev.nfk (guF rfl (congrArg Bool.not hb22) (uNot rfl)) ?_
      refine Ev.nfk (pkF rfl (congrArg Bool.not hb22) rfl) ?_
      refine Ev.nfk (mvO rfl) ?_
      rcases ite_some h with ⟨hb25, h⟩ | ⟨hb25, h⟩
      ·refine Ev.nfk (guF rfl (congrArg Bool.not hb25) (mvO h13)) ?_
       refine Ev.nfk (guF rfl (congrArg Bool.not hb25) (ncP rfl)) ?_
       refine Ev.nfk (guF rfl (congrArg Bool.not hb25) (faP rfl ⟨ble rfl, blt rfl⟩ rfl)) ?_
       refine Ev.nfk (guF rfl (congrArg Bool.not hb25) (ldP rfl rfl)) ?_
       refine Ev.nfk (guF rfl (congrArg Bool.not hb25) (bNeq rfl rfl)) ?_
       refine Ev.nfk (guF rfl (congrArg Bool.not hb25) (mvO rfl)) ?_
       rcases ite_some h with ⟨hb26, h⟩ | ⟨hb26, h⟩
       ·refine Ev.nfk (guT rfl hb26 (mvO h13)) ?_
        refine Ev.nfk (guT rfl hb26 (ncP rfl)) ?_
        refine Ev.nfk (guT rfl hb26 (faP rfl ⟨ble rfl, blt rfl⟩ rfl)) ?_
        refine Ev.nfk (guT rfl hb26 (ldP rfl rfl)) ?_
        refine Ev.nfk (guT rfl hb26 (mvO h12)) ?_
        refine Ev.nfk (guT rfl hb26 (ncP rfl)) ?_
        refine Ev.nfk (guT rfl hb26 (faP rfl ⟨ble rfl, blt rfl⟩ rfl)) ?_
        refine Ev.nfk (guT rfl hb26 (ldP rfl rfl)) ?_
        refine Ev.nfk (guT rfl hb26 (lnS Try.underlying54 rfl)) ?_
        refine Ev.nfk (guT rfl hb26 (bGeq rfl rfl)) ?_
        refine Ev.nfk (guF rfl (congrArg Bool.not hb25) (pkT rfl hb26 rfl)) ?_
        refine Ev.nfk (pkF rfl (congrArg Bool.not hb25) rfl) ?_
        refine Ev.fend0 ?_
        refine Ev.rend ?_
        intro e27 he28
        have h29 := envp (t := 0) he28 rfl h12
        have h30 := envp (t := 1) he28 rfl h13
        have h31 : eget e27 55 = .bool (decide (a2.Tally ≥ (a1.Tallies.length : Int))) := envp he28 rfl rfl
        clear h12 h13 h14 h15
        refine Ev.kseqN ?_
        rcases ite_some h with ⟨hb32, h⟩ | ⟨hb32, h⟩
        ·refine Ev.condT h31 hb32 ?_
         refine Ev.seq ?_
         refine Ev.reg (fun _ => rfl) ?_
         refine Ev.nxk (mvO rfl) ?_
         refine Ev.rend ?_
         intro e33 he34
         have h35 : eget e33 4 = .int .i64 2 := envp he34 rfl rfl
         clear h29 h30 h31
         refine Ev.kseqN ?_
         refine Ev.ex ?_
         cases h
         exact Ev.kid (show spec_l07Refused_c1_Q a1 a2 _ _ from (And.intro rfl h35))
        refine Ev.condF h31 hb32 ?_
        refine Ev.ex ?_
        cases h
        exact Ev.kid (show spec_l07Refused_c1_Q a1 a2 _ _ from (And.intro rfl (And.intro h29 (And.intro h30 h31))))
       refine Ev.nfk (gsT rfl hb26) ?_
       refine Ev.nfk (gsT rfl hb26) ?_
       refine Ev.nfk (gsT rfl hb26) ?_
       refine Ev.nfk (gsT rfl hb26) ?_
       refine Ev.nfk (gsT rfl hb26) ?_
       refine Ev.nfk (gsT rfl hb26) ?_
       refine Ev.nfk (gsT rfl hb26) ?_
       refine Ev.nfk (gsT rfl hb26) ?_
       refine Ev.nfk (gsT rfl hb26) ?_
       refine Ev.nfk (gsT rfl hb26) ?_
       refine Ev.nfk (guF rfl (congrArg Bool.not hb25) (pkF rfl hb26 rfl)) ?_
       refine Ev.nfk (pkF rfl (congrArg Bool.not hb25) rfl) ?_
       refine Ev.fend0 ?_
       refine Ev.rend ?_
       intro e36 he37
       have h38 := envp (t := 0) he37 rfl h12
       have h39 := envp (t := 1) he37 rfl h13
       have h40 : eget e36 55 = .bool false := envp he37 rfl rfl
       clear h12 h13 h14 h15
       refine Ev.kseqN ?_
       refine Ev.condF h40 rfl ?_
       refine Ev.ex ?_
       cases h
       exact Ev.kid (show spec_l07Refused_c1_Q a1 a2 _ _ from (And.intro rfl (And.intro h38 (And.intro h39 h40))))
      refine Ev.nfk (gsF rfl (congrArg Bool.not hb25)) ?_
      refine Ev.nfk (gsF rfl (congrArg Bool.not hb25)) ?_
      refine Ev.nfk (gsF rfl (congrArg Bool.not hb25)) ?_
      refine Ev.nfk (gsF rfl (congrArg Bool.not hb25)) ?_
      refine Ev.nfk (gsF rfl (congrArg Bool.not hb25)) ?_
      refine Ev.nfk (gsF rfl (congrArg Bool.not hb25)) ?_
      refine Ev.nfk (gsU rfl) ?_
      refine Ev.nfk (gsU rfl) ?_
      refine Ev.nfk (gsU rfl) ?_
      refine Ev.nfk (gsU rfl) ?_
      refine Ev.nfk (gsU rfl) ?_
      refine Ev.nfk (gsU rfl) ?_
      refine Ev.nfk (gsU rfl) ?_
      refine Ev.nfk (gsU rfl) ?_
      refine Ev.nfk (gsU rfl) ?_
      refine Ev.nfk (gsU rfl) ?_
      refine Ev.nfk (gsF rfl (congrArg Bool.not hb25)) ?_
      refine Ev.nfk (pkT rfl (congrArg Bool.not hb25) rfl) ?_
      refine Ev.fend0 ?_
      refine Ev.rend ?_
      intro e41 he42
      have h43 := envp (t := 0) he42 rfl h12
      have h44 := envp (t := 1) he42 rfl h13
      have h45 : eget e41 55 = .bool true := envp he42 rfl rfl
      clear h12 h13 h14 h15
      refine Ev.kseqN ?_
      refine Ev.condT h45 rfl ?_
      refine Ev.seq ?_
      refine Ev.reg (fun _ => rfl) ?_
      refine Ev.nxk (mvO rfl) ?_
      refine Ev.rend ?_
      intro e46 he47
      have h48 : eget e46 4 = .int .i64 2 := envp he47 rfl rfl
      clear h43 h44 h45
      refine Ev.kseqN ?_
      refine Ev.ex ?_
      cases h
      exact Ev.kid (show spec_l07Refused_c1_Q a1 a2 _ _ from (And.intro rfl h48))
     refine Ev.nfk (gsF rfl (congrArg Bool.not hb22)) ?_
     refine Ev.nfk (gsF rfl (congrArg Bool.not hb22)) ?_
     refine Ev.nfk (gsF rfl (congrArg Bool.not hb22)) ?_
     refine Ev.nfk (gsF rfl (congrArg Bool.not hb22)) ?_
     refine Ev.nfk (gsF rfl (congrArg Bool.not hb22)) ?_
     refine Ev.nfc (Ev.gsF rfl (congrArg Bool.not hb22)) ?_
     refine Ev.nfk (gsF rfl (congrArg Bool.not hb22)) ?_
     refine Ev.nfk (pkT rfl (congrArg Bool.not hb22) rfl) ?_
     refine Ev.nfk (mvO rfl) ?_
     refine Ev.nfk (gsF rfl rfl) ?_
     refine Ev.nfk (gsF rfl rfl) ?_
     refine Ev.nfk (gsF rfl rfl) ?_
     refine Ev.nfk (gsF rfl rfl) ?_
     refine Ev.nfk (gsF rfl rfl) ?_
     refine Ev.nfk (gsF rfl rfl) ?_
     refine Ev.nfk (gsU rfl) ?_
     refine Ev.nfk (gsU rfl) ?_
     refine Ev.nfk (gsU rfl) ?_
     refine Ev.nfk (gsU rfl) ?_
     refine Ev.nfk (gsU rfl) ?_
     refine Ev.nfk (gsU rfl) ?_
     refine Ev.nfk (gsU rfl) ?_
     refine Ev.nfk (gsU rfl) ?_
     refine Ev.nfk (gsU rfl) ?_
     refine Ev.nfk (gsU rfl) ?_
     refine Ev.nfk (gsF rfl rfl) ?_
     refine Ev.nfk (pkT rfl rfl rfl) ?_
     refine Ev.fend0 ?_
     refine Ev.rend ?_
     intro e49 he50
     have h51 := envp (t := 0) he50 rfl h12
     have h52 := envp (t := 1) he50 rfl h13
     have h53 : eget e49 55 = .bool true := envp he50 rfl rfl
     clear h12 h13 h14 h15
     refine Ev.kseqN ?_
     refine Ev.condT h53 rfl ?_
     refine Ev.seq ?_
     refine Ev.reg (fun _ => rfl) ?_
     refine Ev.nxk (mvO rfl) ?_
     refine Ev.rend ?_
     intro e54 he55
     have h56 : eget e54 4 = .int .i64 2 := envp he55 rfl rfl
     clear h51 h52 h53
     refine Ev.kseqN ?_
     refine Ev.ex ?_
     cases h
     exact Ev.kid (show spec_l07Refused_c1_Q a1 a2 _ _ from (And.intro rfl h56))) ?_
 rcases r273 with _ | y63
 ·intro x e57 M58 hq60
  obtain ⟨rfl, h59⟩ := hq60
  refine Ev.kseqR ?_
  cases h
  exact Ev.kendR (resT h59 res0) rfl
 intro x e61 M62 hq272
 obtain ⟨rfl, h64, h65, h66⟩ := hq272
 refine Ev.kseqN ?_
 refine Ev.seq ?_
 refine Ev.seq ?_
 refine Ev.reg (fun _ => rfl) ?_
 refine Ev.nxk (mvO h65) ?_
 refine Ev.nxk (ncP rfl) ?_
 refine Ev.nxk (faP rfl ⟨ble rfl, blt rfl⟩ rfl) ?_
 refine Ev.nxk (ldP rfl rfl) ?_
 refine Ev.nxk (bEql rfl rfl) ?_
 refine Ev.rend ?_
 intro e67 he68
 have h69 : eget e67 0 = .pt none [.int .i64 a1.Day, .sl none (a1.Cash.map (cI .i64)), .sl none (a1.Tallies.map Tally.c)] := envp he68 rfl h64
 have h70 : eget e67 1 = .pt none [.int .i64 a2.Day, .int .i8 a2.Kind, .int .i64 a2.Tally, .int .i64 a2.From, .int .i64 a2.To, .int .i64 a2.Amount] := envp he68 rfl h65
 have h71 : eget e67 60 = .bool (a2.Kind == 1) := envp he68 rfl rfl
 clear h64 h65 h66
 refine Ev.kseqN ?_
 rcases ite_some h with ⟨hb72, h⟩ | ⟨hb72, h⟩
 ·refine Ev.condT h71 hb72 ?_
  refine Ev.seq ?_
  refine Ev.seq ?_
  refine Ev.regD (fun _ => rfl) ?_
  refine Ev.nfk (mvO h70) ?_
  refine Ev.nfk (ncP rfl) ?_
  refine Ev.nfk (faP rfl ⟨ble rfl, blt rfl⟩ rfl) ?_
  refine Ev.nfk (ldP rfl rfl) ?_
  refine Ev.nfk (mvO h70) ?_
  refine Ev.nfk (ncP rfl) ?_
  refine Ev.nfk (faP rfl ⟨ble rfl, blt rfl⟩ rfl) ?_
  refine Ev.nfk (ldP rfl rfl) ?_
  refine Ev.nfk (bEql rfl rfl) ?_
  refine Ev.fend0 ?_
  refine Ev.rend ?_
  intro e73 he74
  have h75 := envp (t := 0) he74 rfl h69
  have h76 : eget e73 69 = .bool (a2.From == a2.To) := envp he74 rfl rfl
  clear h69 h70 h71
  refine Ev.kseqN ?_
  rcases ite_some h with ⟨hb77, h⟩ | ⟨hb77, h⟩
  ·refine Ev.condT h76 hb77 ?_
   refine Ev.seq ?_
   refine Ev.reg (fun _ => rfl) ?_
   refine Ev.nxk (mvO rfl) ?_
   refine Ev.rend ?_
   intro e78 he79
   have h80 : eget e78 4 = .int .i64 4 := envp he79 rfl rfl
   clear h75 h76
   refine Ev.kseqN ?_
   refine Ev.ex ?_
   refine Ev.kseqR ?_
   refine Ev.kseqR ?_
   cases h
   exact Ev.kendR (resT h80 res0) rfl
  refine Ev.condF h76 hb77 ?_
  refine Ev.ex ?_
  refine Ev.kseqN ?_
  refine Ev.seq ?_
  refine Ev.seq ?_
  refine Ev.reg (fun _ => rfl) ?_
  refine Ev.nxk (mvO h75) ?_
  refine Ev.nxk (ncP rfl) ?_
  refine Ev.nxk (faP rfl ⟨ble rfl, blt rfl⟩ rfl) ?_
  refine Ev.nxk (ldP rfl rfl) ?_
  refine Ev.nxk (lnS Try.underlying54 rfl) ?_
  refine Ev.nxk (bEql rfl rfl) ?_
  refine Ev.rend ?_
  intro e81 he82
  have h83 : eget e81 75 = .bool ((a1.Tallies.length : Int) == 40) := envp he82 rfl rfl
  clear h75 h76
  refine Ev.kseqN ?_
  rcases ite_some h with ⟨hb84, h⟩ | ⟨hb84, h⟩
  ·refine Ev.condT h83 hb84 ?_
   refine Ev.seq ?_
   refine Ev.reg (fun _ => rfl) ?_
   refine Ev.nxk (mvO rfl) ?_
   refine Ev.rend ?_
   intro e85 he86
   have h87 : eget e85 4 = .int .i64 3 := envp he86 rfl rfl
   clear h83
   refine Ev.kseqN ?_
   refine Ev.ex ?_
   refine Ev.kseqR ?_
   refine Ev.kseqR ?_
   cases h
   exact Ev.kendR (resT h87 res0) rfl
  refine Ev.condF h83 hb84 ?_
  refine Ev.ex ?_
  refine Ev.kseqN ?_
  refine Ev.seq ?_
  refine Ev.reg (fun _ => rfl) ?_
  refine Ev.nxk (mvO rfl) ?_
  refine Ev.rend ?_
  intro e88 he89
  have h90 : eget e88 4 = .int .i64 0 := envp he89 rfl rfl
  clear h83
  refine Ev.kseqN ?_
  refine Ev.ex ?_
  refine Ev.kseqR ?_
  cases h
  exact Ev.kendR (resT h90 res0) rfl
 refine Ev.condF h71 hb72 ?_
 refine Ev.ex ?_
 refine Ev.kseqN ?_
 refine Ev.seq ?_
 refine Ev.regD (fun _ => rfl) ?_
 refine Ev.nfk (mvO h69) ?_
 refine Ev.nfk (ncP rfl) ?_
 refine Ev.nfk (faP rfl ⟨ble rfl, blt rfl⟩ rfl) ?_
 refine Ev.nfk (ldP rfl rfl) ?_
 refine Ev.nfk (mvO h70) ?_
 refine Ev.nfk (ncP rfl) ?_
 refine Ev.nfk (faP rfl ⟨ble rfl, blt rfl⟩ rfl) ?_
 refine Ev.nfk (ldP rfl rfl) ?_
 obtain ⟨x91, hx92, h⟩ := bind_some h
 refine Ev.nfk (ixS rfl rfl hx92 Tally.fl) ?_
 refine Ev.nfk (mvO rfl) ?_
 refine Ev.fend0 ?_
 refine Ev.rend ?_
 intro e93 he94
 have h95 := envp (t := 0) he94 rfl h69
 have h96 := envp (t := 1) he94 rfl h70
 have h97 : eget e93 6 = .pt none [.int .i64 x91.Debtor, .int .i64 x91.Holder, .int .i64 x91.Cut, .int .i64 x91.Amount, .int .i64 x91.Left] := envp he94 rfl rfl
 clear h69 h70 h71
 refine Ev.kseqN ?_
 refine Ev.seq ?_
 obtain ⟨r270, hr271, h⟩ := bind_some h
 refine Ev.cut (Q1 := spec_l07Refused_c2_Q a1 a2 x91 r270) (by
     have h := hr271
     refine Ev.seq ?_
     refine Ev.regD (fun _ => rfl) ?_
     refine Ev.nfk (mvO h96) ?_
     refine Ev.nfk (ncP rfl) ?_
     refine Ev.nfk (faP rfl ⟨ble rfl, blt rfl⟩ rfl) ?_
     refine Ev.nfk (ldP rfl rfl) ?_
     refine Ev.nfk (bEql rfl rfl) ?_
     refine Ev.nfk (mvO rfl) ?_
     rcases ite_some h with ⟨hb98, h⟩ | ⟨hb98, h⟩
     ·refine Ev.nfk (guT rfl hb98 (mvO h96)) ?_
      refine Ev.nfk (guT rfl hb98 (ncP rfl)) ?_
      refine Ev.nfk (guT rfl hb98 (faP rfl ⟨ble rfl, blt rfl⟩ rfl)) ?_
      refine Ev.nfk (guT rfl hb98 (ldP rfl rfl)) ?_
      refine Ev.nfk (guT rfl hb98 (mvO h96)) ?_
      refine Ev.nfk (guT rfl hb98 (ncP rfl)) ?_
      refine Ev.nfk (guT rfl hb98 (faP rfl ⟨ble rfl, blt rfl⟩ rfl)) ?_
      refine Ev.nfk (guT rfl hb98 (ldP rfl rfl)) ?_
      refine Ev.nfk (guT rfl hb98 (bEql rfl rfl)) ?_
      refine Ev.nfk (pkT rfl hb98 rfl) ?_
      refine Ev.nfk (mvO rfl) ?_
      rcases ite_some h with ⟨hb99, h⟩ | ⟨hb99, h⟩
      ·refine Ev.nfk (gsF rfl hb99) ?_
       refine Ev.nfk (gsF rfl hb99) ?_
       refine Ev.nfk (gsF rfl hb99) ?_
       refine Ev.nfk (gsF rfl hb99) ?_
       refine Ev.nfk (gsF rfl hb99) ?_
       refine Ev.nfk (gsF rfl hb99) ?_
       refine Ev.nfk (gsU rfl) ?_
       refine Ev.nfk (gsU rfl) ?_
       refine Ev.nfk (gsU rfl) ?_
       refine Ev.nfk (gsU rfl) ?_
       refine Ev.nfk (gsU rfl) ?_
       refine Ev.nfk (gsU rfl) ?_
       refine Ev.nfk (gsU rfl) ?_
       refine Ev.nfk (gsU rfl) ?_
       refine Ev.nfk (gsU rfl) ?_
       refine Ev.nfk (gsF rfl hb99) ?_
       refine Ev.nfk (pkT rfl hb99 rfl) ?_
       refine Ev.nfk (mvO rfl) ?_
       refine Ev.nfk (gsF rfl rfl) ?_
       refine Ev.nfk (gsF rfl rfl) ?_
       refine Ev.nfk (gsF rfl rfl) ?_
       refine Ev.nfk (gsF rfl rfl) ?_
       refine Ev.nfk (gsF rfl rfl) ?_
       refine Ev.nfk (pkT rfl rfl rfl) ?_
       refine Ev.nfk (mvO rfl) ?_
       refine Ev.nfk (gsF rfl rfl) ?_
       refine Ev.nfk (gsF rfl rfl) ?_
       refine Ev.nfk (gsF rfl rfl) ?_
       refine Ev.nfk (gsF rfl rfl) ?_
       refine Ev.nfk (gsF rfl rfl) ?_
       refine Ev.nfk (gsF rfl rfl) ?_
       refine Ev.nfk (gsF rfl rfl) ?_
       refine Ev.nfk (gsF rfl rfl) ?_
       refine Ev.nfk (gsF rfl rfl) ?_
       refine Ev.nfk (pkT rfl rfl rfl) ?_
       refine Ev.fend0 ?_
       refine Ev.rend ?_
       intro e100 he101
       have h102 := envp (t := 0) he101 rfl h95
       have h103 := envp (t := 1) he101 rfl h96
       have h104 := envp (t := 6) he101 rfl h97
       have h105 : eget e100 136 = .bool true := envp he101 rfl rfl
       clear h95 h96 h97
       refine Ev.kseqN ?_
       refine Ev.condT h105 rfl ?_
       refine Ev.seq ?_
       refine Ev.reg (fun _ => rfl) ?_
       refine Ev.nxk (mvO rfl) ?_
       refine Ev.rend ?_
       intro e106 he107
       have h108 : eget e106 4 = .int .i64 4 := envp he107 rfl rfl
       clear h102 h103 h104 h105
       refine Ev.kseqN ?_
       refine Ev.ex ?_
       cases h
       exact Ev.kid (show spec_l07Refused_c2_Q a1 a2 x91 _ _ from (And.intro rfl h108))
      refine Ev.nfk (guF rfl hb99 (mvO h96)) ?_
      refine Ev.nfk (guF rfl hb99 (ncP rfl)) ?_
      refine Ev.nfk (guF rfl hb99 (faP rfl ⟨ble rfl, blt rfl⟩ rfl)) ?_
      refine Ev.nfk (guF rfl hb99 (ldP rfl rfl)) ?_
      refine Ev.nfk (guF rfl hb99 (bNeq rfl rfl)) ?_
      refine Ev.nfk (guF rfl hb99 (mvO rfl)) ?_
      rcases ite_some h with ⟨hb109, h⟩ | ⟨hb109, h⟩
      ·refine Ev.nfk (guT rfl hb109 (mvO h96)) ?_
       refine Ev.nfk (guT rfl hb109 (ncP rfl)) ?_
       refine Ev.nfk (guT rfl hb109 (faP rfl ⟨ble rfl, blt rfl⟩ rfl)) ?_
       refine Ev.nfk (guT rfl hb109 (ldP rfl rfl)) ?_
       refine Ev.nfk (guT rfl hb109 (mvO h97)) ?_
       refine Ev.nfk (guT rfl hb109 (ncP rfl)) ?_
       refine Ev.nfk (guT rfl hb109 (faP rfl ⟨ble rfl, blt rfl⟩ rfl)) ?_
       refine Ev.nfk (guT rfl hb109 (ldP rfl rfl)) ?_
       refine Ev.nfk (guT rfl hb109 (bNeq rfl rfl)) ?_
       refine Ev.nfk (guF rfl hb99 (pkT rfl hb109 rfl)) ?_
       refine Ev.nfk (pkF rfl hb99 rfl) ?_
       refine Ev.nfk (mvO rfl) ?_
       rcases ite_some h with ⟨hb110, h⟩ | ⟨hb110, h⟩
       ·refine Ev.nfk (gsF rfl hb110) ?_
        refine Ev.nfk (gsF rfl hb110) ?_
        refine Ev.nfk (gsF rfl hb110) ?_
        refine Ev.nfk (gsF rfl hb110) ?_
        refine Ev.nfk (gsF rfl hb110) ?_
        refine Ev.nfk (pkT rfl hb110 rfl) ?_
        refine Ev.nfk (mvO rfl) ?_
        refine Ev.nfk (gsF rfl rfl) ?_
        refine Ev.nfk (gsF rfl rfl) ?_
        refine Ev.nfk (gsF rfl rfl) ?_
        refine Ev.nfk (gsF rfl rfl) ?_
        refine Ev.nfk (gsF rfl rfl) ?_
        refine Ev.nfk (gsF rfl rfl) ?_
        refine Ev.nfk (gsF rfl rfl) ?_
        refine Ev.nfk (gsF rfl rfl) ?_
        refine Ev.nfk (gsF rfl rfl) ?_
        refine Ev.nfk (pkT rfl rfl rfl) ?_
        refine Ev.fend0 ?_
        refine Ev.rend ?_
        intro e111 he112
        have h113 := envp (t := 0) he112 rfl h95
        have h114 := envp (t := 1) he112 rfl h96
        have h115 := envp (t := 6) he112 rfl h97
        have h116 : eget e111 136 = .bool true := envp he112 rfl rfl
        clear h95 h96 h97
        refine Ev.kseqN ?_
        refine Ev.condT h116 rfl ?_
        refine Ev.seq ?_
        refine Ev.reg (fun _ => rfl) ?_
        refine Ev.nxk (mvO rfl) ?_
        refine Ev.rend ?_
        intro e117 he118
        have h119 : eget e117 4 = .int .i64 4 := envp he118 rfl rfl
        clear h113 h114 h115 h116
        refine Ev.kseqN ?_
        refine Ev.ex ?_
        cases h
        exact Ev.kid (show spec_l07Refused_c2_Q a1 a2 x91 _ _ from (And.intro rfl h119))
       refine Ev.nfk (guF rfl hb110 (mvO h97)) ?_
       refine Ev.nfk (guF rfl hb110 (ncP rfl)) ?_
       refine Ev.nfk (guF rfl hb110 (faP rfl ⟨ble rfl, blt rfl⟩ rfl)) ?_
       refine Ev.nfk (guF rfl hb110 (ldP rfl rfl)) ?_
       refine Ev.nfk (guF rfl hb110 (bEql rfl rfl)) ?_
       refine Ev.nfk (pkF rfl hb110 rfl) ?_
       refine Ev.nfk (mvO rfl) ?_
       rcases ite_some h with ⟨hb120, h⟩ | ⟨hb120, h⟩
       ·refine Ev.nfk (gsF rfl hb120) ?_
        refine Ev.nfk (gsF rfl hb120) ?_
        refine Ev.nfk (gsF rfl hb120) ?_
        refine Ev.nfk (gsF rfl hb120) ?_
        refine Ev.nfk (gsF rfl hb120) ?_
        refine Ev.nfk (gsF rfl hb120) ?_
        refine Ev.nfk (gsF rfl hb120) ?_
        refine Ev.nfk (gsF rfl hb120) ?_
        refine Ev.nfk (gsF rfl hb120) ?_
        refine Ev.nfk (pkT rfl hb120 rfl) ?_
        refine Ev.fend0 ?_
        refine Ev.rend ?_
        intro e121 he122
        have h123 := envp (t := 0) he122 rfl h95
        have h124 := envp (t := 1) he122 rfl h96
        have h125 := envp (t := 6) he122 rfl h97
        have h126 : eget e121 136 = .bool true := envp he122 rfl rfl
        clear h95 h96 h97
        refine Ev.kseqN ?_
        refine Ev.condT h126 rfl ?_
        refine Ev.seq ?_
        refine Ev.reg (fun _ => rfl) ?_
        refine Ev.nxk (mvO rfl) ?_
        refine Ev.rend ?_
        intro e127 he128
        have h129 : eget e127 4 = .int .i64 4 := envp he128 rfl rfl
        clear h123 h124 h125 h126
        refine Ev.kseqN ?_
        refine Ev.ex ?_
        cases h
        exact Ev.kid (show spec_l07Refused_c2_Q a1 a2 x91 _ _ from (And.intro rfl h129))
       refine Ev.nfk (guF rfl hb120 (mvO h96)) ?_
       refine Ev.nfk (guF rfl hb120 (ncP rfl)) ?_
       refine Ev.nfk (guF rfl hb120 (faP rfl ⟨ble rfl, blt rfl⟩ rfl)) ?_
       refine Ev.nfk (guF rfl hb120 (ldP rfl rfl)) ?_
       refine Ev.nfk (guF rfl hb120 (mvO h97)) ?_
       refine Ev.nfk (guF rfl hb120 (ncP rfl)) ?_
       refine Ev.nfk (guF rfl hb120 (faP rfl ⟨ble rfl, blt rfl⟩ rfl)) ?_
       refine Ev.nfk (guF rfl hb120 (ldP rfl rfl)) ?_
       refine Ev.nfk (guF rfl hb120 (bGtr rfl rfl)) ?_
       refine Ev.nfk (pkF rfl hb120 rfl) ?_
       refine Ev.fend0 ?_
       refine Ev.rend ?_
       intro e130 he131
       have h132 := envp (t := 0) he131 rfl h95
       have h133 := envp (t := 1) he131 rfl h96
       have h134 := envp (t := 6) he131 rfl h97
       have h135 : eget e130 136 = .bool (decide (a2.Amount > x91.Left)) := envp he131 rfl rfl
       clear h95 h96 h97
       refine Ev.kseqN ?_
       rcases ite_some h with ⟨hb136, h⟩ | ⟨hb136, h⟩
       ·refine Ev.condT h135 hb136 ?_
        refine Ev.seq ?_
        refine Ev.reg (fun _ => rfl) ?_
        refine Ev.nxk (mvO rfl) ?_
        refine Ev.rend ?_
        intro e137 he138
        have h139 : eget e137 4 = .int .i64 4 := envp he138 rfl rfl
        clear h132 h133 h134 h135
        refine Ev.kseqN ?_
        refine Ev.ex ?_
        cases h
        exact Ev.kid (show spec_l07Refused_c2_Q a1 a2 x91 _ _ from (And.intro rfl h139))
       refine Ev.condF h135 hb136 ?_
       refine Ev.ex ?_
       cases h
       exact Ev.kid (show spec_l07Refused_c2_Q a1 a2 x91 _ _ from (And.intro rfl (And.intro h132 (And.intro h133 (And.intro h134 h135)))))
      refine Ev.nfk (gsT rfl hb109) ?_
      refine Ev.nfk (gsT rfl hb109) ?_
      refine Ev.nfk (gsT rfl hb109) ?_
      refine Ev.nfk (gsT rfl hb109) ?_
      refine Ev.nfk (gsT rfl hb109) ?_
      refine Ev.nfk (gsT rfl hb109) ?_
      refine Ev.nfk (gsT rfl hb109) ?_
      refine Ev.nfk (gsT rfl hb109) ?_
      refine Ev.nfk (gsT rfl hb109) ?_
      refine Ev.nfk (guF rfl hb99 (pkF rfl hb109 rfl)) ?_
      refine Ev.nfk (pkF rfl hb99 rfl) ?_
      refine Ev.nfk (mvO rfl) ?_
      refine Ev.nfk (guF rfl rfl (mvO h97)) ?_
      refine Ev.nfk (guF rfl rfl (ncP rfl)) ?_
      refine Ev.nfk (guF rfl rfl (faP rfl ⟨ble rfl, blt rfl⟩ rfl)) ?_
      refine Ev.nfk (guF rfl rfl (ldP rfl rfl)) ?_
      refine Ev.nfk (guF rfl rfl (bEql rfl rfl)) ?_
      refine Ev.nfk (pkF rfl rfl rfl) ?_
      refine Ev.nfk (mvO rfl) ?_
      rcases ite_some h with ⟨hb140, h⟩ | ⟨hb140, h⟩
      ·refine Ev.nfk (gsF rfl hb140) ?_
       refine Ev.nfk (gsF rfl hb140) ?_
       refine Ev.nfk (gsF rfl hb140) ?_
       refine Ev.nfk (gsF rfl hb140) ?_
       refine Ev.nfk (gsF rfl hb140) ?_
       refine Ev.nfk (gsF rfl hb140) ?_
       refine Ev.nfk (gsF rfl hb140) ?_
       refine Ev.nfk (gsF rfl hb140) ?_
       refine Ev.nfk (gsF rfl hb140) ?_
       refine Ev.nfk (pkT rfl hb140 rfl) ?_
       refine Ev.fend0 ?_
       refine Ev.rend ?_
       intro e141 he142
       have h143 := envp (t := 0) he142 rfl h95
       have h144 := envp (t := 1) he142 rfl h96
       have h145 := envp (t := 6) he142 rfl h97
       have h146 : eget e141 136 = .bool true := envp he142 rfl rfl
       clear h95 h96 h97
       refine Ev.kseqN ?_
       refine Ev.condT h146 rfl ?_
       refine Ev.seq ?_
       refine Ev.reg (fun _ => rfl) ?_
       refine Ev.nxk (mvO rfl) ?_
       refine Ev.rend ?_
       intro e147 he148
       have h149 : eget e147 4 = .int .i64 4 := envp he148 rfl rfl
       clear h143 h144 h145 h146
       refine Ev.kseqN ?_
       refine Ev.ex ?_
       cases h
       exact Ev.kid (show spec_l07Refused_c2_Q a1 a2 x91 _ _ from (And.intro rfl h149))
      refine Ev.nfk (guF rfl hb140 (mvO h96)) ?_
      refine Ev.nfk (guF rfl hb140 (ncP rfl)) ?_
      refine Ev.nfk (guF rfl hb140 (faP rfl ⟨ble rfl, blt rfl⟩ rfl)) ?_
      refine Ev.nfk (guF rfl hb140 (ldP rfl rfl)) ?_
      refine Ev.nfk (guF rfl hb140 (mvO h97)) ?_
      refine Ev.nfk (guF rfl hb140 (ncP rfl)) ?_
      refine Ev.nfk (guF rfl hb140 (faP rfl ⟨ble rfl, blt rfl⟩ rfl)) ?_
      refine Ev.nfk (guF rfl hb140 (ldP rfl rfl)) ?_
      refine Ev.nfk (guF rfl hb140 (bGtr rfl rfl)) ?_
      refine Ev.nfk (pkF rfl hb140 rfl) ?_
      refine Ev.fend0 ?_
      refine Ev.rend ?_
      intro e150 he151
      have h152 := envp (t := 0) he151 rfl h95
      have h153 := envp (t := 1) he151 rfl h96
      have h154 := envp (t := 6) he151 rfl h97
      have h155 : eget e150 136 = .bool (decide (a2.Amount > x91.Left)) := envp he151 rfl rfl
      clear h95 h96 h97
      refine Ev.kseqN ?_
      rcases ite_some h with ⟨hb156, h⟩ | ⟨hb156, h⟩
      ·refine Ev.condT h155 hb156 ?_
       refine Ev.seq ?_
       refine Ev.reg (fun _ => rfl) ?_
       refine Ev.nxk (mvO rfl) ?_
       refine Ev.rend ?_
       intro e157 he158
       have h159 : eget e157 4 = .int .i64 4 := envp he158 rfl rfl
       clear h152 h153 h154 h155
       refine Ev.kseqN ?_
       refine Ev.ex ?_
       cases h
       exact Ev.kid (show spec_l07Refused_c2_Q a1 a2 x91 _ _ from (And.intro rfl h159))
      refine Ev.condF h155 hb156 ?_
      refine Ev.ex ?_
      cases h
      exact Ev.kid (show spec_l07Refused_c2_Q a1 a2 x91 _ _ from (And.intro rfl (And.intro h152 (And.intro h153 (And.intro h154 h155)))))
     refine Ev.nfk (gsT rfl hb98) ?_
     refine Ev.nfk (gsT rfl hb98) ?_
     refine Ev.nfk (gsT rfl hb98) ?_
     refine Ev.nfk (gsT rfl hb98) ?_
     refine Ev.nfk (gsT rfl hb98) ?_
     refine Ev.nfk (gsT rfl hb98) ?_
     refine Ev.nfk (gsT rfl hb98) ?_
     refine Ev.nfk (gsT rfl hb98) ?_
     refine Ev.nfk (gsT rfl hb98) ?_
     refine Ev.nfk (pkF rfl hb98 rfl) ?_
     refine Ev.nfk (mvO rfl) ?_
     refine Ev.nfk (guF rfl rfl (mvO h96)) ?_
     refine Ev.nfk (guF rfl rfl (ncP rfl)) ?_
     refine Ev.nfk (guF rfl rfl (faP rfl ⟨ble rfl, blt rfl⟩ rfl)) ?_
     refine Ev.nfk (guF rfl rfl (ldP rfl rfl)) ?_
     refine Ev.nfk (guF rfl rfl (bNeq rfl rfl)) ?_
     refine Ev.nfk (guF rfl rfl (mvO rfl)) ?_
     rcases ite_some h with ⟨hb160, h⟩ | ⟨hb160, h⟩
     ·refine Ev.nfk (guT rfl hb160 (mvO h96)) ?_
      refine Ev.nfk (guT rfl hb160 (ncP rfl)) ?_
      refine Ev.nfk (guT rfl hb160 (faP rfl ⟨ble rfl, blt rfl⟩ rfl)) ?_
      refine Ev.nfk (guT rfl hb160 (ldP rfl rfl)) ?_
      refine Ev.nfk (guT rfl hb160 (mvO h97)) ?_
      refine Ev.nfk (guT rfl hb160 (ncP rfl)) ?_
      refine Ev.nfk (guT rfl hb160 (faP rfl ⟨ble rfl, blt rfl⟩ rfl)) ?_
      refine Ev.nfk (guT rfl hb160 (ldP rfl rfl)) ?_
      refine Ev.nfk (guT rfl hb160 (bNeq rfl rfl)) ?_
      refine Ev.nfk (guF rfl rfl (pkT rfl hb160 rfl)) ?_
      refine Ev.nfk (pkF rfl rfl rfl) ?_
      refine Ev.nfk (mvO rfl) ?_
      rcases ite_some h with ⟨hb161, h⟩ | ⟨hb161, h⟩
      ·refine Ev.nfk (gsF rfl hb161) ?_
       refine Ev.nfk (gsF rfl hb161) ?_
       refine Ev.nfk (gsF rfl hb161) ?_
       refine Ev.nfk (gsF rfl hb161) ?_
       refine Ev.nfk (gsF rfl hb161) ?_
       refine Ev.nfk (pkT rfl hb161 rfl) ?_
       refine Ev.nfk (mvO rfl) ?_
       refine Ev.nfk (gsF rfl rfl) ?_
       refine Ev.nfk (gsF rfl rfl) ?_
       refine Ev.nfk (gsF rfl rfl) ?_
       refine Ev.nfk (gsF rfl rfl) ?_
       refine Ev.nfk (gsF rfl rfl) ?_
       refine Ev.nfk (gsF rfl rfl) ?_
       refine Ev.nfk (gsF rfl rfl) ?_
       refine Ev.nfk (gsF rfl rfl) ?_
       refine Ev.nfk (gsF rfl rfl) ?_
       refine Ev.nfk (pkT rfl rfl rfl) ?_
       refine Ev.fend0 ?_
       refine Ev.rend ?_
       intro e162 he163
       have h164 := envp (t := 0) he163 rfl h95
       have h165 := envp (t := 1) he163 rfl h96
       have h166 := envp (t := 6) he163 rfl h97
       have h167 : eget e162 136 = .bool true := envp he163 rfl rfl
       clear h95 h96 h97
       refine Ev.kseqN ?_
       refine Ev.condT h167 rfl ?_
       refine Ev.seq ?_
       refine Ev.reg (fun _ => rfl) ?_
       refine Ev.nxk (mvO rfl) ?_
       refine Ev.rend ?_
       intro e168 he169
       have h170 : eget e168 4 = .int .i64 4 := envp he169 rfl rfl
       clear h164 h165 h166 h167
       refine Ev.kseqN ?_
       refine Ev.ex ?_
       cases h
       exact Ev.kid (show spec_l07Refused_c2_Q a1 a2 x91 _ _ from (And.intro rfl h170))
      refine Ev.nfk (guF rfl hb161 (mvO h97)) ?_
      refine Ev.nfk (guF rfl hb161 (ncP rfl)) ?_
      refine Ev.nfk (guF rfl hb161 (faP rfl ⟨ble rfl, blt rfl⟩ rfl)) ?_
      refine Ev.nfk (guF rfl hb161 (ldP rfl rfl)) ?_
      refine Ev.nfk (guF rfl hb161 (bEql rfl rfl)) ?_
      refine Ev.nfk (pkF rfl hb161 rfl) ?_
      refine Ev.nfk (mvO rfl) ?_
      rcases ite_some h with ⟨hb171, h⟩ | ⟨hb171, h⟩
      ·refine Ev.nfk (gsF rfl hb171) ?_
       refine Ev.nfk (gsF rfl hb171) ?_
       refine Ev.nfk (gsF rfl hb171) ?_
       refine Ev.nfk (gsF rfl hb171) ?_
       refine Ev.nfk (gsF rfl hb171) ?_
       refine Ev.nfk (gsF rfl hb171) ?_
       refine Ev.nfk (gsF rfl hb171) ?_
       refine Ev.nfk (gsF rfl hb171) ?_
       refine Ev.nfk (gsF rfl hb171) ?_
       refine Ev.nfk (pkT rfl hb171 rfl) ?_
       refine Ev.fend0 ?_
       refine Ev.rend ?_
       intro e172 he173
       have h174 := envp (t := 0) he173 rfl h95
       have h175 := envp (t := 1) he173 rfl h96
       have h176 := envp (t := 6) he173 rfl h97
       have h177 : eget e172 136 = .bool true := envp he173 rfl rfl
       clear h95 h96 h97
       refine Ev.kseqN ?_
       refine Ev.condT h177 rfl ?_
       refine Ev.seq ?_
       refine Ev.reg (fun _ => rfl) ?_
       refine Ev.nxk (mvO rfl) ?_
       refine Ev.rend ?_
       intro e178 he179
       have h180 : eget e178 4 = .int .i64 4 := envp he179 rfl rfl
       clear h174 h175 h176 h177
       refine Ev.kseqN ?_
       refine Ev.ex ?_
       cases h
       exact Ev.kid (show spec_l07Refused_c2_Q a1 a2 x91 _ _ from (And.intro rfl h180))
      refine Ev.nfk (guF rfl hb171 (mvO h96)) ?_
      refine Ev.nfk (guF rfl hb171 (ncP rfl)) ?_
      refine Ev.nfk (guF rfl hb171 (faP rfl ⟨ble rfl, blt rfl⟩ rfl)) ?_
      refine Ev.nfk (guF rfl hb171 (ldP rfl rfl)) ?_
      refine Ev.nfk (guF rfl hb171 (mvO h97)) ?_
      refine Ev.nfk (guF rfl hb171 (ncP rfl)) ?_
      refine Ev.nfk (guF rfl hb171 (faP rfl ⟨ble rfl, blt rfl⟩ rfl)) ?_
      refine Ev.nfk (guF rfl hb171 (ldP rfl rfl)) ?_
      refine Ev.nfk (guF rfl hb171 (bGtr rfl rfl)) ?_
      refine Ev.nfk (pkF rfl hb171 rfl) ?_
      refine Ev.fend0 ?_
      refine Ev.rend ?_
      intro e181 he182
      have h183 := envp (t := 0) he182 rfl h95
      have h184 := envp (t := 1) he182 rfl h96
      have h185 := envp (t := 6) he182 rfl h97
      have h186 : eget e181 136 = .bool (decide (a2.Amount > x91.Left)) := envp he182 rfl rfl
      clear h95 h96 h97
      refine Ev.kseqN ?_
      rcases ite_some h with ⟨hb187, h⟩ | ⟨hb187, h⟩
      ·refine Ev.condT h186 hb187 ?_
       refine Ev.seq ?_
       refine Ev.reg (fun _ => rfl) ?_
       refine Ev.nxk (mvO rfl) ?_
       refine Ev.rend ?_
       intro e188 he189
       have h190 : eget e188 4 = .int .i64 4 := envp he189 rfl rfl
       clear h183 h184 h185 h186
       refine Ev.kseqN ?_
       refine Ev.ex ?_
       cases h
       exact Ev.kid (show spec_l07Refused_c2_Q a1 a2 x91 _ _ from (And.intro rfl h190))
      refine Ev.condF h186 hb187 ?_
      refine Ev.ex ?_
      cases h
      exact Ev.kid (show spec_l07Refused_c2_Q a1 a2 x91 _ _ from (And.intro rfl (And.intro h183 (And.intro h184 (And.intro h185 h186)))))
     refine Ev.nfk (gsT rfl hb160) ?_
     refine Ev.nfk (gsT rfl hb160) ?_
     refine Ev.nfk (gsT rfl hb160) ?_
     refine Ev.nfk (gsT rfl hb160) ?_
     refine Ev.nfk (gsT rfl hb160) ?_
     refine Ev.nfk (gsT rfl hb160) ?_
     refine Ev.nfk (gsT rfl hb160) ?_
     refine Ev.nfk (gsT rfl hb160) ?_
     refine Ev.nfk (gsT rfl hb160) ?_
     refine Ev.nfk (guF rfl rfl (pkF rfl hb160 rfl)) ?_
     refine Ev.nfk (pkF rfl rfl rfl) ?_
     refine Ev.nfk (mvO rfl) ?_
     refine Ev.nfk (guF rfl rfl (mvO h97)) ?_
     refine Ev.nfk (guF rfl rfl (ncP rfl)) ?_
     refine Ev.nfk (guF rfl rfl (faP rfl ⟨ble rfl, blt rfl⟩ rfl)) ?_
     refine Ev.nfk (guF rfl rfl (ldP rfl rfl)) ?_
     refine Ev.nfk (guF rfl rfl (bEql rfl rfl)) ?_
     refine Ev.nfk (pkF rfl rfl rfl) ?_
     refine Ev.nfk (mvO rfl) ?_
     rcases ite_some h with ⟨hb191, h⟩ | ⟨hb191, h⟩
     ·refine Ev.nfk (gsF rfl hb191) ?_
      refine Ev.nfk (gsF rfl hb191) ?_
      refine Ev.nfk (gsF rfl hb191) ?_
      refine Ev.nfk (gsF rfl hb191) ?_
      refine Ev.nfk (gsF rfl hb191) ?_
      refine Ev.nfk (gsF rfl hb191) ?_
      refine Ev.nfk (gsF rfl hb191) ?_
      refine Ev.nfk (gsF rfl hb191) ?_
      refine Ev.nfk (gsF rfl hb191) ?_
      refine Ev.nfk (pkT rfl hb191 rfl) ?_
      refine Ev.fend0 ?_
      refine Ev.rend ?_
      intro e192 he193
      have h194 := envp (t := 0) he193 rfl h95
      have h195 := envp (t := 1) he193 rfl h96
      have h196 := envp (t := 6) he193 rfl h97
      have h197 : eget e192 136 = .bool true := envp he193 rfl rfl
      clear h95 h96 h97
      refine Ev.kseqN ?_
      refine Ev.condT h197 rfl ?_
      refine Ev.seq ?_
      refine Ev.reg (fun _ => rfl) ?_
      refine Ev.nxk (mvO rfl) ?_
      refine Ev.rend ?_
      intro e198 he199
      have h200 : eget e198 4 = .int .i64 4 := envp he199 rfl rfl
      clear h194 h195 h196 h197
      refine Ev.kseqN ?_
      refine Ev.ex ?_
      cases h
      exact Ev.kid (show spec_l07Refused_c2_Q a1 a2 x91 _ _ from (And.intro rfl h200))
     refine Ev.nfk (guF rfl hb191 (mvO h96)) ?_
     refine Ev.nfk (guF rfl hb191 (ncP rfl)) ?_
     refine Ev.nfk (guF rfl hb191 (faP rfl ⟨ble rfl, blt rfl⟩ rfl)) ?_
     refine Ev.nfk (guF rfl hb191 (ldP rfl rfl)) ?_
     refine Ev.nfk (guF rfl hb191 (mvO h97)) ?_
     refine Ev.nfk (guF rfl hb191 (ncP rfl)) ?_
     refine Ev.nfk (guF rfl hb191 (faP rfl ⟨ble rfl, blt rfl⟩ rfl)) ?_
     refine Ev.nfk (guF rfl hb191 (ldP rfl rfl)) ?_
     refine Ev.nfk (guF rfl hb191 (bGtr rfl rfl)) ?_
     refine Ev.nfk (pkF rfl hb191 rfl) ?_
     refine Ev.fend0 ?_
     refine Ev.rend ?_
     intro e201 he202
     have h203 := envp (t := 0) he202 rfl h95
     have h204 := envp (t := 1) he202 rfl h96
     have h205 := envp (t := 6) he202 rfl h97
     have h206 : eget e201 136 = .bool (decide (a2.Amount > x91.Left)) := envp he202 rfl rfl
     clear h95 h96 h97
     refine Ev.kseqN ?_
     rcases ite_some h with ⟨hb207, h⟩ | ⟨hb207, h⟩
     ·refine Ev.condT h206 hb207 ?_
      refine Ev.seq ?_
      refine Ev.reg (fun _ => rfl) ?_
      refine Ev.nxk (mvO rfl) ?_
      refine Ev.rend ?_
      intro e208 he209
      have h210 : eget e208 4 = .int .i64 4 := envp he209 rfl rfl
      clear h203 h204 h205 h206
      refine Ev.kseqN ?_
      refine Ev.ex ?_
      cases h
      exact Ev.kid (show spec_l07Refused_c2_Q a1 a2 x91 _ _ from (And.intro rfl h210))
     refine Ev.condF h206 hb207 ?_
     refine Ev.ex ?_
     cases h
     exact Ev.kid (show spec_l07Refused_c2_Q a1 a2 x91 _ _ from (And.intro rfl (And.intro h203 (And.intro h204 (And.intro h205 h206)))))) ?_
 rcases r270 with _ | _
 ·intro x e211 M212 hq214
  obtain ⟨rfl, h213⟩ := hq214
  refine Ev.kseqR ?_
  cases h
  exact Ev.kendR (resT h213 res0) rfl
 intro x e215 M216 hq269
 obtain ⟨rfl, h217, h218, h219, h220⟩ := hq269
 refine Ev.kseqN ?_
 refine Ev.seq ?_
 refine Ev.seq ?_
 obtain ⟨r267, hr268, h⟩ := bind_some h
 refine Ev.cut (Q1 := spec_l07Refused_c3_Q a1 a2 x91 r267) (by
     have h := hr268
     refine Ev.regD (fun _ => rfl) ?_
     refine Ev.nfk (mvO h218) ?_
     refine Ev.nfk (ncP rfl) ?_
     refine Ev.nfk (faP rfl ⟨ble rfl, blt rfl⟩ rfl) ?_
     refine Ev.nfk (ldP rfl rfl) ?_
     refine Ev.nfk (bEql rfl rfl) ?_
     refine Ev.nfk (mvO rfl) ?_
     rcases ite_some h with ⟨hb221, h⟩ | ⟨hb221, h⟩
     ·refine Ev.nfk (guT rfl hb221 (mvO h217)) ?_
      refine Ev.nfk (guT rfl hb221 (ncP rfl)) ?_
      refine Ev.nfk (guT rfl hb221 (faP rfl ⟨ble rfl, blt rfl⟩ rfl)) ?_
      refine Ev.nfk (guT rfl hb221 (ldP rfl rfl)) ?_
      refine Ev.nfk (guT rfl hb221 (mvO h219)) ?_
      refine Ev.nfk (guT rfl hb221 (ncP rfl)) ?_
      refine Ev.nfk (guT rfl hb221 (faP rfl ⟨ble rfl, blt rfl⟩ rfl)) ?_
      refine Ev.nfk (guT rfl hb221 (ldP rfl rfl)) ?_
      obtain ⟨x222, hx223, h⟩ := bind_some h
      refine Ev.nfk (guT rfl hb221 (ixS rfl rfl hx223 (cI_fl _))) ?_
      refine Ev.nfk (guT rfl hb221 (ldP rfl rfl)) ?_
      refine Ev.nfk (guT rfl hb221 (mvO h218)) ?_
      refine Ev.nfk (guT rfl hb221 (ncP rfl)) ?_
      refine Ev.nfk (guT rfl hb221 (faP rfl ⟨ble rfl, blt rfl⟩ rfl)) ?_
      refine Ev.nfk (guT rfl hb221 (ldP rfl rfl)) ?_
      refine Ev.nfk (guT rfl hb221 (bLss rfl rfl)) ?_
      refine Ev.nfk (pkT rfl hb221 rfl) ?_
      refine Ev.fend0 ?_
      refine Ev.rend ?_
      intro e224 he225
      have h226 : eget e224 0 = .pt none [.int .i64 a1.Day, .sl none (a1.Cash.map (cI .i64)), .sl none (a1.Tallies.map Tally.c)] := envp he225 rfl h217
      have h227 : eget e224 1 = .pt none [.int .i64 a2.Day, .int .i8 a2.Kind, .int .i64 a2.Tally, .int .i64 a2.From, .int .i64 a2.To, .int .i64 a2.Amount] := envp he225 rfl h218
      have h228 : eget e224 6 = .pt none [.int .i64 x91.Debtor, .int .i64 x91.Holder, .int .i64 x91.Cut, .int .i64 x91.Amount, .int .i64 x91.Left] := envp he225 rfl h219
      have h229 : eget e224 158 = .bool (decide (x222 < a2.Amount)) := envp he225 rfl rfl
      clear h217 h218 h219 h220
      cases h
      exact Ev.kid (show spec_l07Refused_c3_Q a1 a2 x91 _ _ from (And.intro rfl (And.intro h226 (And.intro h227 (And.intro h228 h229)))))
     refine Ev.nfk (gsT rfl hb221) ?_
     refine Ev.nfk (gsT rfl hb221) ?_
     refine Ev.nfk (gsT rfl hb221) ?_
     refine Ev.nfk (gsT rfl hb221) ?_
     refine Ev.nfk (gsT rfl hb221) ?_
     refine Ev.nfk (gsT rfl hb221) ?_
     refine Ev.nfk (gsT rfl hb221) ?_
     refine Ev.nfk (gsT rfl hb221) ?_
     refine Ev.nfk (gsT rfl hb221) ?_
     refine Ev.nfk (gsT rfl hb221) ?_
     refine Ev.nfk (gsT rfl hb221) ?_
     refine Ev.nfk (gsT rfl hb221) ?_
     refine Ev.nfk (gsT rfl hb221) ?_
     refine Ev.nfk (gsT rfl hb221) ?_
     refine Ev.nfk (gsT rfl hb221) ?_
     refine Ev.nfk (pkF rfl hb221 rfl) ?_
     refine Ev.fend0 ?_
     refine Ev.rend ?_
     intro e230 he231
     have h232 : eget e230 0 = .pt none [.int .i64 a1.Day, .sl none (a1.Cash.map (cI .i64)), .sl none (a1.Tallies.map Tally.c)] := envp he231 rfl h217
     have h233 : eget e230 1 = .pt none [.int .i64 a2.Day, .int .i8 a2.Kind, .int .i64 a2.Tally, .int .i64 a2.From, .int .i64 a2.To, .int .i64 a2.Amount] := envp he231 rfl h218
     have h234 : eget e230 6 = .pt none [.int .i64 x91.Debtor, .int .i64 x91.Holder, .int .i64 x91.Cut, .int .i64 x91.Amount, .int .i64 x91.Left] := envp he231 rfl h219
     have h235 : eget e230 158 = .bool false := envp he231 rfl rfl
     clear h217 h218 h219 h220
     cases h
     exact Ev.kid (show spec_l07Refused_c3_Q a1 a2 x91 _ _ from (And.intro rfl (And.intro h232 (And.intro h233 (And.intro h234 h235)))))) ?_
 revert h hr268
 revert r267
 intro y238 hr268 h
 intro x e236 M237 hq266
 obtain ⟨rfl, h239, h240, h241, h242⟩ := hq266
 refine Ev.kseqN ?_
 rcases ite_some h with ⟨hb243, h⟩ | ⟨hb243, h⟩
 ·refine Ev.condT h242 hb243 ?_
  refine Ev.seq ?_
  refine Ev.reg (fun _ => rfl) ?_
  refine Ev.nxk (mvO rfl) ?_
  refine Ev.rend ?_
  intro e244 he245
  have h246 : eget e244 4 = .int .i64 8 := envp he245 rfl rfl
  clear h239 h240 h241 h242
  refine Ev.kseqN ?_
  refine Ev.ex ?_
  refine Ev.kseqR ?_
  cases h
  exact Ev.kendR (resT h246 res0) rfl
 refine Ev.condF h242 hb243 ?_
 refine Ev.ex ?_
 refine Ev.kseqN ?_
 refine Ev.seq ?_
 refine Ev.seq ?_
 refine Ev.regD (fun _ => rfl) ?_
 refine Ev.nfk (mvO h240) ?_
 refine Ev.nfk (ncP rfl) ?_
 refine Ev.nfk (faP rfl ⟨ble rfl, blt rfl⟩ rfl) ?_
 refine Ev.nfk (ldP rfl rfl) ?_
 refine Ev.nfk (bEql rfl rfl) ?_
 refine Ev.nfk (mvO rfl) ?_
 rcases ite_some h with ⟨hb247, h⟩ | ⟨hb247, h⟩
 ·refine Ev.nfk (guT rfl hb247 (mvO h239)) ?_
  refine Ev.nfk (guT rfl hb247 (ncP rfl)) ?_
  refine Ev.nfk (guT rfl hb247 (faP rfl ⟨ble rfl, blt rfl⟩ rfl)) ?_
  refine Ev.nfk (guT rfl hb247 (ldP rfl rfl)) ?_
  refine Ev.nfk (guT rfl hb247 (mvO h241)) ?_
  refine Ev.nfk (guT rfl hb247 (ncP rfl)) ?_
  refine Ev.nfk (guT rfl hb247 (faP rfl ⟨ble rfl, blt rfl⟩ rfl)) ?_
  refine Ev.nfk (guT rfl hb247 (ldP rfl rfl)) ?_
  obtain ⟨x248, hx249, h⟩ := bind_some h
  refine Ev.nfk (guT rfl hb247 (ixS rfl rfl hx249 (cI_fl _))) ?_
  refine Ev.nfk (guT rfl hb247 (ldP rfl rfl)) ?_
  refine Ev.nfk (guT rfl hb247 (mvO h240)) ?_
  refine Ev.nfk (guT rfl hb247 (ncP rfl)) ?_
  refine Ev.nfk (guT rfl hb247 (faP rfl ⟨ble rfl, blt rfl⟩ rfl)) ?_
  refine Ev.nfk (guT rfl hb247 (ldP rfl rfl)) ?_
  refine Ev.nfk (guT rfl hb247 (bAdd rfl rfl)) ?_
  refine Ev.nfk (guT rfl hb247 (bGtr rfl rfl)) ?_
  refine Ev.nfk (pkT rfl hb247 rfl) ?_
  refine Ev.fend0 ?_
  refine Ev.rend ?_
  intro e250 he251
  have h252 : eget e250 181 = .bool (decide ((IntKind.i64.wrap (x248 + a2.Amount)) > 100000000)) := envp he251 rfl rfl
  clear h239 h240 h241 h242
  refine Ev.kseqN ?_
  rcases ite_some h with ⟨hb253, h⟩ | ⟨hb253, h⟩
  ·refine Ev.condT h252 hb253 ?_
   refine Ev.seq ?_
   refine Ev.reg (fun _ => rfl) ?_
   refine Ev.nxk (mvO rfl) ?_
   refine Ev.rend ?_
   intro e254 he255
   have h256 : eget e254 4 = .int .i64 3 := envp he255 rfl rfl
   clear h252
   refine Ev.kseqN ?_
   refine Ev.ex ?_
   refine Ev.kseqR ?_
   cases h
   exact Ev.kendR (resT h256 res0) rfl
  refine Ev.condF h252 hb253 ?_
  refine Ev.ex ?_
  refine Ev.kseqN ?_
  refine Ev.seq ?_
  refine Ev.reg (fun _ => rfl) ?_
  refine Ev.nxk (mvO rfl) ?_
  refine Ev.rend ?_
  intro e257 he258
  have h259 : eget e257 4 = .int .i64 0 := envp he258 rfl rfl
  clear h252
  refine Ev.kseqN ?_
  refine Ev.ex ?_
  cases h
  exact Ev.kendR (resT h259 res0) rfl
 refine Ev.nfk (gsT rfl hb247) ?_
 refine Ev.nfk (gsT rfl hb247) ?_
 refine Ev.nfk (gsT rfl hb247) ?_
 refine Ev.nfk (gsT rfl hb247) ?_
 refine Ev.nfk (gsT rfl hb247) ?_
 refine Ev.nfk (gsT rfl hb247) ?_
 refine Ev.nfk (gsT rfl hb247) ?_
 refine Ev.nfk (gsT rfl hb247) ?_
 refine Ev.nfk (gsT rfl hb247) ?_
 refine Ev.nfk (gsT rfl hb247) ?_
 refine Ev.nfk (gsT rfl hb247) ?_
 refine Ev.nfk (gsT rfl hb247) ?_
 refine Ev.nfk (gsT rfl hb247) ?_
 refine Ev.nfk (gsT rfl hb247) ?_
 refine Ev.nfk (gsT rfl hb247) ?_
 refine Ev.nfk (gsT rfl hb247) ?_
 refine Ev.nfk (pkF rfl hb247 rfl) ?_
 refine Ev.fend0 ?_
 refine Ev.rend ?_
 intro e260 he261
 have h262 : eget e260 181 = .bool false := envp he261 rfl rfl
 clear h239 h240 h241 h242
 refine Ev.kseqN ?_
 refine Ev.condF h262 rfl ?_
 refine Ev.ex ?_
 refine Ev.kseqN ?_
 refine Ev.seq ?_
 refine Ev.reg (fun _ => rfl) ?_
 refine Ev.nxk (mvO rfl) ?_
 refine Ev.rend ?_
 intro e263 he264
 have h265 : eget e263 4 = .int .i64 0 := envp he264 rfl rfl
 clear h262
 refine Ev.kseqN ?_
 refine Ev.ex ?_
 cases h
 exact Ev.kendR (resT h265 res0) rfl
/-! ### loop.example/g01263/spec.l07Cash (f99) -/
abbrev spec_l07Cash_b1_S := Int
abbrev spec_l07Cash_b1_R := Unit ⊕ Unit
def spec_l07Cash_b1_RS (a1 : List Int) (s : spec_l07Cash_b1_S) (e : Env) (M : Mem) : Prop := eget e 0 = .sl none (a1.map (cI .i64)) ∧ eget e 3 = .int .i64 s
def spec_l07Cash_b1_RR (a1 : List Int) (r : spec_l07Cash_b1_R) (x : Ex) (e : Env) (M : Mem) : Prop :=
  match r with
  | (.inl g) => x = .ret ∧ eget e 2 = .bool false
  | (.inr g) => x = .ext 0 ∧ eget e 0 = .sl none (a1.map (cI .i64))
noncomputable def spec_l07Cash_b1 (a1 : List Int) : spec_l07Cash_b1_S → Option (spec_l07Cash_b1_S ⊕ spec_l07Cash_b1_R) := fun s1_1 =>
 if (decide (s1_1 < (a1.length : Int))) = true then
  (rd a1 s1_1).bind fun x26 =>
  (spec_l01Amount x26).bind fun r29 =>
  if r29 = true then
   some (.inl (IntKind.i64.wrap (s1_1 + 1)))
  else
   some (.inr (.inl ()))
 else
  some (.inr (.inr ()))
theorem spec_l07Cash_b1_ok (a1 : List Int) (s : spec_l07Cash_b1_S) (r : spec_l07Cash_b1_S ⊕ spec_l07Cash_b1_R) (h : spec_l07Cash_b1 a1 s = some r) (e : Env) (M : Mem) (hs : spec_l07Cash_b1_RS a1 s e M) : Ev (fun k => (f99_l2 (CN k) k (prune [0, 3] e) M).bind fun q => some q) (bQ (spec_l07Cash_b1_RS a1) (spec_l07Cash_b1_RR a1) r) := by
 revert h hs
 revert s
 intro s1_1 h hs
 unfold spec_l07Cash_b1 at h
 obtain ⟨h16, h18⟩ := hs
 generalize he15 : prune [0, 3] e = e14
 have h17 := envp he15.symm rfl h16
 have h19 := envp he15.symm rfl h18
 refine Ev.seq ?_
 refine Ev.seq ?_
 refine Ev.reg (fun _ => rfl) ?_
 refine Ev.nxk (mvO h19) ?_
 refine Ev.nxk (mvO h17) ?_
 refine Ev.nxk (lnS Try.underlying47 rfl) ?_
 refine Ev.nxk (bLss rfl rfl) ?_
 refine Ev.rend ?_
 intro e20 he21
 have h22 : eget e20 0 = .sl none (a1.map (cI .i64)) := envp he21 rfl h17
 have h23 : eget e20 3 = .int .i64 s1_1 := envp he21 rfl h19
 have h24 : eget e20 7 = .bool (decide (s1_1 < (a1.length : Int))) := envp he21 rfl rfl
 clear h17 h19
 refine Ev.kseqN ?_
 rcases ite_some h with ⟨hb25, h⟩ | ⟨hb25, h⟩
 ·refine Ev.condT h24 hb25 ?_
  refine Ev.ex ?_
  refine Ev.kseqN ?_
  refine Ev.seq ?_
  refine Ev.blk ?_
  refine Ev.seq ?_
  refine Ev.reg (fun _ => rfl) ?_
  refine Ev.nxk (mvO h22) ?_
  refine Ev.nxk (mvO h23) ?_
  obtain ⟨x26, hx27, h⟩ := bind_some h
  refine Ev.nxk (ixS rfl rfl hx27 (cI_fl _)) ?_
  refine Ev.nxk (ldP rfl rfl) ?_
  obtain ⟨r29, hx28, h⟩ := bind_some h
  refine Ev.nxck (Ev.call (v := .bool r29) rfl (cns rfl rfl) rfl (spec_l01Amount_ok x26 _ hx28) (fun h => nomatch (show false = true from h))) ?_
  refine Ev.nxk (uNot rfl) ?_
  refine Ev.rend ?_
  intro e30 he31
  have h32 := envp (t := 0) he31 rfl h22
  have h33 := envp (t := 3) he31 rfl h23
  have h34 : eget e30 15 = .bool (!r29) := envp he31 rfl rfl
  clear h22 h23 h24
  refine Ev.kseqN ?_
  rcases ite_some h with ⟨hb35, h⟩ | ⟨hb35, h⟩
  ·refine Ev.condF h34 (congrArg Bool.not hb35) ?_
   refine Ev.ex ?_
   refine Ev.kblkN ?_
   refine Ev.kseqN ?_
   refine Ev.reg (fun _ => rfl) ?_
   refine Ev.nxk (mvO h33) ?_
   refine Ev.nxk (bAdd rfl rfl) ?_
   refine Ev.nxk (mvO rfl) ?_
   refine Ev.rend ?_
   intro e36 he37
   have h38 := envp (t := 0) he37 rfl h32
   have h39 : eget e36 3 = .int .i64 (IntKind.i64.wrap (s1_1 + 1)) := envp he37 rfl rfl
   clear h32 h34
   cases h
   exact Ev.kid (bQ_n (RS := (spec_l07Cash_b1_RS a1)) (RR := (spec_l07Cash_b1_RR a1)) (And.intro h38 h39))
  refine Ev.condT h34 (congrArg Bool.not hb35) ?_
  refine Ev.seq ?_
  refine Ev.reg (fun _ => rfl) ?_
  refine Ev.nxk (mvO rfl) ?_
  refine Ev.rend ?_
  intro e40 he41
  have h42 : eget e40 2 = .bool false := envp he41 rfl rfl
  clear h32 h33 h34
  refine Ev.kseqN ?_
  refine Ev.ex ?_
  refine Ev.kblkR ?_
  refine Ev.kseqR ?_
  cases h
  exact Ev.kid (bQ_x (RS := (spec_l07Cash_b1_RS a1)) (RR := (spec_l07Cash_b1_RR a1)) (by intro h; cases h) (And.intro rfl h42))
 refine Ev.condF h24 hb25 ?_
 refine Ev.ex ?_
 refine Ev.kseqE ?_
 cases h
 exact Ev.kid (bQ_x (RS := (spec_l07Cash_b1_RS a1)) (RR := (spec_l07Cash_b1_RR a1)) (by intro h; cases h) (And.intro rfl h22))
noncomputable def spec_l07Cash (a1 : List Int) : Option Bool :=
 (Lw (spec_l07Cash_b1 a1) 0).bind fun r => match r with
 | (.inl _) =>
  some false
 | (.inr _) =>
  (spec_l00In (a1.length : Int) 1 16).bind fun r53 =>
  some r53
def spec_l07Cash_enc (r : Bool) : AV := .bool r
theorem spec_l07Cash_ok (a1 : List Int) (r : Bool) (h : spec_l07Cash a1 = some r) : Ev (fun k => CN k 99 [.sl none (a1.map (cI .i64))] []) (fun p => rRes p.2 p.1 = spec_l07Cash_enc r) := by
 unfold spec_l07Cash at h
 refine Ev.enter (F := fun k => f99 (CN k) k) (fun k => callN_eq rfl Try.func99 rfl rfl rfl (by decide +kernel) (f99_eq _ _)) ?_
 refine Ev.seq ?_
 refine Ev.reg (fun _ => rfl) ?_
 refine Ev.nxk (mvO rfl) ?_
 refine Ev.rend ?_
 intro e1 he2
 have h3 : eget e1 0 = .sl none (a1.map (cI .i64)) := envp he2 rfl rfl
 refine Ev.kseqN ?_
 refine Ev.seq ?_
 refine Ev.seq ?_
 refine Ev.reg (fun _ => rfl) ?_
 refine Ev.nxk (mvO rfl) ?_
 refine Ev.rend ?_
 intro e4 he5
 have h6 := envp (t := 0) he5 rfl h3
 have h7 : eget e4 3 = .int .i64 0 := envp he5 rfl rfl
 clear h3
 refine Ev.kseqN ?_
 refine Ev.blk ?_
 obtain ⟨r43, hr44, h⟩ := bind_some h
 rcases r43 with _ | _
 ·refine Ev.loop (RS := spec_l07Cash_b1_RS a1) (RR := spec_l07Cash_b1_RR a1) (fun s r h e M hs => spec_l07Cash_b1_ok a1 s r h e M hs) hr44 (And.intro h6 h7) ?_
  intro x e46 M47 hq45
  obtain ⟨rfl, h48⟩ := hq45
  refine Ev.kblkR ?_
  refine Ev.kseqR ?_
  cases h
  exact Ev.kendR (resT h48 res0) rfl
 refine Ev.loop (RS := spec_l07Cash_b1_RS a1) (RR := spec_l07Cash_b1_RR a1) (fun s r h e M hs => spec_l07Cash_b1_ok a1 s r h e M hs) hr44 (And.intro h6 h7) ?_
 intro x e49 M50 hq45
 obtain ⟨rfl, h51⟩ := hq45
 refine Ev.kblkE ?_
 refine Ev.kseqN ?_
 refine Ev.seq ?_
 refine Ev.reg (fun _ => rfl) ?_
 refine Ev.nxk (mvO h51) ?_
 refine Ev.nxk (lnS Try.underlying47 rfl) ?_
 obtain ⟨r53, hx52, h⟩ := bind_some h
 refine Ev.nxck (Ev.call (v := .bool r53) rfl (cns rfl (cns rfl (cns rfl rfl))) rfl (spec_l00In_ok (a1.length : Int) 1 16 _ hx52) (fun h => nomatch (show false = true from h))) ?_
 refine Ev.nxk (mvO rfl) ?_
 refine Ev.rend ?_
 intro e54 he55
 have h56 : eget e54 2 = .bool r53 := envp he55 rfl rfl
 clear h51
 refine Ev.kseqN ?_
 refine Ev.ex ?_
 cases h
 exact Ev.kendR (resT h56 res0) rfl
/-! ### loop.example/g01263/spec.l07Day (f98) -/
noncomputable def spec_l07Day (a1 : Int) : Option Bool :=
 (spec_l00In a1 0 100000).bind fun r5 =>
 some r5
def spec_l07Day_enc (r : Bool) : AV := .bool r
theorem spec_l07Day_ok (a1 : Int) (r : Bool) (h : spec_l07Day a1 = some r) : Ev (fun k => CN k 98 [.int .i64 a1] []) (fun p => rRes p.2 p.1 = spec_l07Day_enc r) := by
 unfold spec_l07Day at h
 refine Ev.enter (F := fun k => f98 (CN k) k) (fun k => callN_eq rfl Try.func98 rfl rfl rfl (by decide +kernel) (f98_eq _ _)) ?_
 refine Ev.seq ?_
 refine Ev.reg (fun _ => rfl) ?_
 refine Ev.nxk (mvO rfl) ?_
 refine Ev.rend ?_
 intro e1 he2
 have h3 : eget e1 0 = .int .i64 a1 := envp he2 rfl rfl
 refine Ev.kseqN ?_
 refine Ev.seq ?_
 refine Ev.reg (fun _ => rfl) ?_
 refine Ev.nxk (mvO h3) ?_
 obtain ⟨r5, hx4, h⟩ := bind_some h
 refine Ev.nxck (Ev.call (v := .bool r5) rfl (cns rfl (cns rfl (cns rfl rfl))) rfl (spec_l00In_ok a1 0 100000 _ hx4) (fun h => nomatch (show false = true from h))) ?_
 refine Ev.nxk (mvO rfl) ?_
 refine Ev.rend ?_
 intro e6 he7
 have h8 : eget e6 2 = .bool r5 := envp he7 rfl rfl
 clear h3
 refine Ev.kseqN ?_
 refine Ev.ex ?_
 cases h
 exact Ev.kendR (resT h8 res0) rfl
/-! ### loop.example/g01263/laws.heldTallyS (f71) -/
abbrev laws_heldTallyS_b1_S := Int × Int
abbrev laws_heldTallyS_b1_R := Unit ⊕ Int
def laws_heldTallyS_b1_RS (a1 : List Tally) (s : laws_heldTallyS_b1_S) (e : Env) (M : Mem) : Prop := eget e 0 = .sl none (a1.map Tally.c) ∧ eget e 1 = .int .i64 s.1 ∧ eget e 5 = .int .i64 s.2
def laws_heldTallyS_b1_RR (a1 : List Tally) (r : laws_heldTallyS_b1_R) (x : Ex) (e : Env) (M : Mem) : Prop :=
  match r with
  | (.inl g) => x = .ret ∧ eget e 4 = .int .i64 (-1)
  | (.inr g) => x = .ext 0 ∧ eget e 1 = .int .i64 g
noncomputable def laws_heldTallyS_b1 (a1 : List Tally) : laws_heldTallyS_b1_S → Option (laws_heldTallyS_b1_S ⊕ laws_heldTallyS_b1_R) := fun (s1_1, s1_2) =>
 if (decide (s1_2 < (a1.length : Int))) = true then
  (rd a1 s1_2).bind fun x33 =>
  if (x33.Debtor != s1_1) = true then
   some (.inr (.inl ()))
  else
   (rd a1 s1_2).bind fun x50 =>
   if (x50.Holder != (IntKind.i64.wrap (s1_1 + 1))) = true then
    some (.inr (.inl ()))
   else
    (rd a1 s1_2).bind fun x67 =>
    if (x67.Cut != (IntKind.i64.wrap ((IntKind.i64.wrap (s1_1 + 1)) + 1))) = true then
     some (.inr (.inl ()))
    else
     (rd a1 s1_2).bind fun x84 =>
     if (x84.Amount != (IntKind.i64.wrap ((IntKind.i64.wrap ((IntKind.i64.wrap (s1_1 + 1)) + 1)) + 1))) = true then
      some (.inr (.inl ()))
     else
      (rd a1 s1_2).bind fun x101 =>
      if (x101.Left != (IntKind.i64.wrap ((IntKind.i64.wrap ((IntKind.i64.wrap ((IntKind.i64.wrap (s1_1 + 1)) + 1)) + 1)) + 1))) = true then
       some (.inr (.inl ()))
      else
       some (.inl ((IntKind.i64.wrap ((IntKind.i64.wrap ((IntKind.i64.wrap ((IntKind.i64.wrap ((IntKind.i64.wrap (s1_1 + 1)) + 1)) + 1)) + 1)) + 1)), (IntKind.i64.wrap (s1_2 + 1))))
 else
  some (.inr (.inr s1_1))
theorem laws_heldTallyS_b1_ok (a1 : List Tally) (s : laws_heldTallyS_b1_S) (r : laws_heldTallyS_b1_S ⊕ laws_heldTallyS_b1_R) (h : laws_heldTallyS_b1 a1 s = some r) (e : Env) (M : Mem) (hs : laws_heldTallyS_b1_RS a1 s e M) : Ev (fun k => (f71_l2 (CN k) k (prune [0, 1, 5] e) M).bind fun q => some q) (bQ (laws_heldTallyS_b1_RS a1) (laws_heldTallyS_b1_RR a1) r) := by
 obtain ⟨s1_1, s1_2⟩ := s
 unfold laws_heldTallyS_b1 at h
 obtain ⟨h20, h22, h24⟩ := hs
 generalize he19 : prune [0, 1, 5] e = e18
 have h21 := envp he19.symm rfl h20
 have h23 := envp he19.symm rfl h22
 have h25 := envp he19.symm rfl h24
 refine Ev.seq ?_
 refine Ev.seq ?_
 refine Ev.reg (fun _ => rfl) ?_
 refine Ev.nxk (mvO h25) ?_
 refine Ev.nxk (mvO h21) ?_
 refine Ev.nxk (lnS Try.underlying54 rfl) ?_
 refine Ev.nxk (bLss rfl rfl) ?_
 refine Ev.rend ?_
 intro e26 he27
 have h28 : eget e26 0 = .sl none (a1.map Tally.c) := envp he27 rfl h21
 have h29 : eget e26 1 = .int .i64 s1_1 := envp he27 rfl h23
 have h30 : eget e26 5 = .int .i64 s1_2 := envp he27 rfl h25
 have h31 : eget e26 9 = .bool (decide (s1_2 < (a1.length : Int))) := envp he27 rfl rfl
 clear h21 h23 h25
 refine Ev.kseqN ?_
 rcases ite_some h with ⟨hb32, h⟩ | ⟨hb32, h⟩
 ·refine Ev.condT h31 hb32 ?_
  refine Ev.ex ?_
  refine Ev.kseqN ?_
  refine Ev.seq ?_
  refine Ev.blk ?_
  refine Ev.seq ?_
  refine Ev.seq ?_
  refine Ev.reg (fun _ => rfl) ?_
  refine Ev.nxk (mvO h28) ?_
  refine Ev.nxk (mvO h30) ?_
  obtain ⟨x33, hx34, h⟩ := bind_some h
  refine Ev.nxk (ixS rfl rfl hx34 Tally.fl) ?_
  refine Ev.nxk (faP rfl ⟨ble rfl, blt rfl⟩ rfl) ?_
  refine Ev.nxk (ldP rfl rfl) ?_
  refine Ev.nxk (mvO h29) ?_
  refine Ev.nxk (bNeq rfl rfl) ?_
  refine Ev.rend ?_
  intro e35 he36
  have h37 := envp (t := 0) he36 rfl h28
  have h38 := envp (t := 1) he36 rfl h29
  have h39 := envp (t := 5) he36 rfl h30
  have h40 : eget e35 18 = .bool (x33.Debtor != s1_1) := envp he36 rfl rfl
  clear h28 h29 h30 h31
  refine Ev.kseqN ?_
  rcases ite_some h with ⟨hb41, h⟩ | ⟨hb41, h⟩
  ·refine Ev.condT h40 hb41 ?_
   refine Ev.seq ?_
   refine Ev.reg (fun _ => rfl) ?_
   refine Ev.nxk (mvO rfl) ?_
   refine Ev.rend ?_
   intro e42 he43
   have h44 : eget e42 4 = .int .i64 (-1) := envp he43 rfl rfl
   clear h37 h38 h39 h40
   refine Ev.kseqN ?_
   refine Ev.ex ?_
   refine Ev.kseqR ?_
   refine Ev.kblkR ?_
   refine Ev.kseqR ?_
   cases h
   exact Ev.kid (bQ_x (RS := (laws_heldTallyS_b1_RS a1)) (RR := (laws_heldTallyS_b1_RR a1)) (by intro h; cases h) (And.intro rfl h44))
  refine Ev.condF h40 hb41 ?_
  refine Ev.ex ?_
  refine Ev.kseqN ?_
  refine Ev.seq ?_
  refine Ev.reg (fun _ => rfl) ?_
  refine Ev.nxk (mvO h38) ?_
  refine Ev.nxk (bAdd rfl rfl) ?_
  refine Ev.nxk (mvO rfl) ?_
  refine Ev.rend ?_
  intro e45 he46
  have h47 := envp (t := 0) he46 rfl h37
  have h48 : eget e45 1 = .int .i64 (IntKind.i64.wrap (s1_1 + 1)) := envp he46 rfl rfl
  have h49 := envp (t := 5) he46 rfl h39
  clear h37 h39 h40
  refine Ev.kseqN ?_
  refine Ev.seq ?_
  refine Ev.seq ?_
  refine Ev.reg (fun _ => rfl) ?_
  refine Ev.nxk (mvO h47) ?_
  refine Ev.nxk (mvO h49) ?_
  obtain ⟨x50, hx51, h⟩ := bind_some h
  refine Ev.nxk (ixS rfl rfl hx51 Tally.fl) ?_
  refine Ev.nxk (faP rfl ⟨ble rfl, blt rfl⟩ rfl) ?_
  refine Ev.nxk (ldP rfl rfl) ?_
  refine Ev.nxk (mvO h48) ?_
  refine Ev.nxk (bNeq rfl rfl) ?_
  refine Ev.rend ?_
  intro e52 he53
  have h54 := envp (t := 0) he53 rfl h47
  have h55 := envp (t := 1) he53 rfl h48
  have h56 := envp (t := 5) he53 rfl h49
  have h57 : eget e52 27 = .bool (x50.Holder != (IntKind.i64.wrap (s1_1 + 1))) := envp he53 rfl rfl
  clear h47 h48 h49
  refine Ev.kseqN ?_
  rcases ite_some h with ⟨hb58, h⟩ | ⟨hb58, h⟩
  ·refine Ev.condT h57 hb58 ?_
   refine Ev.seq ?_
   refine Ev.reg (fun _ => rfl) ?_
   refine Ev.nxk (mvO rfl) ?_
   refine Ev.rend ?_
   intro e59 he60
   have h61 : eget e59 4 = .int .i64 (-1) := envp he60 rfl rfl
   clear h54 h55 h56 h57
   refine Ev.kseqN ?_
   refine Ev.ex ?_
   refine Ev.kseqR ?_
   refine Ev.kblkR ?_
   refine Ev.kseqR ?_
   cases h
   exact Ev.kid (bQ_x (RS := (laws_heldTallyS_b1_RS a1)) (RR := (laws_heldTallyS_b1_RR a1)) (by intro h; cases h) (And.intro rfl h61))
  refine Ev.condF h57 hb58 ?_
  refine Ev.ex ?_
  refine Ev.kseqN ?_
  refine Ev.seq ?_
  refine Ev.reg (fun _ => rfl) ?_
  refine Ev.nxk (mvO h55) ?_
  refine Ev.nxk (bAdd rfl rfl) ?_
  refine Ev.nxk (mvO rfl) ?_
  refine Ev.rend ?_
  intro e62 he63
  have h64 := envp (t := 0) he63 rfl h54
  have h65 : eget e62 1 = .int .i64 (IntKind.i64.wrap ((IntKind.i64.wrap (s1_1 + 1)) + 1)) := envp he63 rfl rfl
  have h66 := envp (t := 5) he63 rfl h56
  clear h54 h56 h57
  refine Ev.kseqN ?_
  refine Ev.seq ?_
  refine Ev.seq ?_
  refine Ev.reg (fun _ => rfl) ?_
  refine Ev.nxk (mvO h64) ?_
  refine Ev.nxk (mvO h66) ?_
  obtain ⟨x67, hx68, h⟩ := bind_some h
  refine Ev.nxk (ixS rfl rfl hx68 Tally.fl) ?_
  refine Ev.nxk (faP rfl ⟨ble rfl, blt rfl⟩ rfl) ?_
  refine Ev.nxk (ldP rfl rfl) ?_
  refine Ev.nxk (mvO h65) ?_
  refine Ev.nxk (bNeq rfl rfl) ?_
  refine Ev.rend ?_
  intro e69 he70
  have h71 := envp (t := 0) he70 rfl h64
  have h72 := envp (t := 1) he70 rfl h65
  have h73 := envp (t := 5) he70 rfl h66
  have h74 : eget e69 36 = .bool (x67.Cut != (IntKind.i64.wrap ((IntKind.i64.wrap (s1_1 + 1)) + 1))) := envp he70 rfl rfl
  clear h64 h65 h66
  refine Ev.kseqN ?_
  rcases ite_some h with ⟨hb75, h⟩ | ⟨hb75, h⟩
  ·refine Ev.condT h74 hb75 ?_
   refine Ev.seq ?_
   refine Ev.reg (fun _ => rfl) ?_
   refine Ev.nxk (mvO rfl) ?_
   refine Ev.rend ?_
   intro e76 he77
   have h78 : eget e76 4 = .int .i64 (-1) := envp he77 rfl rfl
   clear h71 h72 h73 h74
   refine Ev.kseqN ?_
   refine Ev.ex ?_
   refine Ev.kseqR ?_
   refine Ev.kblkR ?_
   refine Ev.kseqR ?_
   cases h
   exact Ev.kid (bQ_x (RS := (laws_heldTallyS_b1_RS a1)) (RR := (laws_heldTallyS_b1_RR a1)) (by intro h; cases h) (And.intro rfl h78))
  refine Ev.condF h74 hb75 ?_
  refine Ev.ex ?_
  refine Ev.kseqN ?_
  refine Ev.seq ?_
  refine Ev.reg (fun _ => rfl) ?_
  refine Ev.nxk (mvO h72) ?_
  refine Ev.nxk (bAdd rfl rfl) ?_
  refine Ev.nxk (mvO rfl) ?_
  refine Ev.rend ?_
  intro e79 he80
  have h81 := envp (t := 0) he80 rfl h71
  have h82 : eget e79 1 = .int .i64 (IntKind.i64.wrap ((IntKind.i64.wrap ((IntKind.i64.wrap (s1_1 + 1)) + 1)) + 1)) := envp he80 rfl rfl
  have h83 := envp (t := 5) he80 rfl h73
  clear h71 h73 h74
  refine Ev.kseqN ?_
  refine Ev.seq ?_
  refine Ev.seq ?_
  refine Ev.reg (fun _ => rfl) ?_
  refine Ev.nxk (mvO h81) ?_
  refine Ev.nxk (mvO h83) ?_
  obtain ⟨x84, hx85, h⟩ := bind_some h
  refine Ev.nxk (ixS rfl rfl hx85 Tally.fl) ?_
  refine Ev.nxk (faP rfl ⟨ble rfl, blt rfl⟩ rfl) ?_
  refine Ev.nxk (ldP rfl rfl) ?_
  refine Ev.nxk (mvO h82) ?_
  refine Ev.nxk (bNeq rfl rfl) ?_
  refine Ev.rend ?_
  intro e86 he87
  have h88 := envp (t := 0) he87 rfl h81
  have h89 := envp (t := 1) he87 rfl h82
  have h90 := envp (t := 5) he87 rfl h83
  have h91 : eget e86 45 = .bool (x84.Amount != (IntKind.i64.wrap ((IntKind.i64.wrap ((IntKind.i64.wrap (s1_1 + 1)) + 1)) + 1))) := envp he87 rfl rfl
  clear h81 h82 h83
  refine Ev.kseqN ?_
  rcases ite_some h with ⟨hb92, h⟩ | ⟨hb92, h⟩
  ·refine Ev.condT h91 hb92 ?_
   refine Ev.seq ?_
   refine Ev.reg (fun _ => rfl) ?_
   refine Ev.nxk (mvO rfl) ?_
   refine Ev.rend ?_
   intro e93 he94
   have h95 : eget e93 4 = .int .i64 (-1) := envp he94 rfl rfl
   clear h88 h89 h90 h91
   refine Ev.kseqN ?_
   refine Ev.ex ?_
   refine Ev.kseqR ?_
   refine Ev.kblkR ?_
   refine Ev.kseqR ?_
   cases h
   exact Ev.kid (bQ_x (RS := (laws_heldTallyS_b1_RS a1)) (RR := (laws_heldTallyS_b1_RR a1)) (by intro h; cases h) (And.intro rfl h95))
  refine Ev.condF h91 hb92 ?_
  refine Ev.ex ?_
  refine Ev.kseqN ?_
  refine Ev.seq ?_
  refine Ev.reg (fun _ => rfl) ?_
  refine Ev.nxk (mvO h89) ?_
  refine Ev.nxk (bAdd rfl rfl) ?_
  refine Ev.nxk (mvO rfl) ?_
  refine Ev.rend ?_
  intro e96 he97
  have h98 := envp (t := 0) he97 rfl h88
  have h99 : eget e96 1 = .int .i64 (IntKind.i64.wrap ((IntKind.i64.wrap ((IntKind.i64.wrap ((IntKind.i64.wrap (s1_1 + 1)) + 1)) + 1)) + 1)) := envp he97 rfl rfl
  have h100 := envp (t := 5) he97 rfl h90
  clear h88 h90 h91
  refine Ev.kseqN ?_
  refine Ev.seq ?_
  refine Ev.seq ?_
  refine Ev.reg (fun _ => rfl) ?_
  refine Ev.nxk (mvO h98) ?_
  refine Ev.nxk (mvO h100) ?_
  obtain ⟨x101, hx102, h⟩ := bind_some h
  refine Ev.nxk (ixS rfl rfl hx102 Tally.fl) ?_
  refine Ev.nxk (faP rfl ⟨ble rfl, blt rfl⟩ rfl) ?_
  refine Ev.nxk (ldP rfl rfl) ?_
  refine Ev.nxk (mvO h99) ?_
  refine Ev.nxk (bNeq rfl rfl) ?_
  refine Ev.rend ?_
  intro e103 he104
  have h105 := envp (t := 0) he104 rfl h98
  have h106 := envp (t := 1) he104 rfl h99
  have h107 := envp (t := 5) he104 rfl h100
  have h108 : eget e103 54 = .bool (x101.Left != (IntKind.i64.wrap ((IntKind.i64.wrap ((IntKind.i64.wrap ((IntKind.i64.wrap (s1_1 + 1)) + 1)) + 1)) + 1))) := envp he104 rfl rfl
  clear h100 h98 h99
  refine Ev.kseqN ?_
  rcases ite_some h with ⟨hb109, h⟩ | ⟨hb109, h⟩
  ·refine Ev.condT h108 hb109 ?_
   refine Ev.seq ?_
   refine Ev.reg (fun _ => rfl) ?_
   refine Ev.nxk (mvO rfl) ?_
   refine Ev.rend ?_
   intro e110 he111
   have h112 : eget e110 4 = .int .i64 (-1) := envp he111 rfl rfl
   clear h105 h106 h107 h108
   refine Ev.kseqN ?_
   refine Ev.ex ?_
   refine Ev.kseqR ?_
   refine Ev.kblkR ?_
   refine Ev.kseqR ?_
   cases h
   exact Ev.kid (bQ_x (RS := (laws_heldTallyS_b1_RS a1)) (RR := (laws_heldTallyS_b1_RR a1)) (by intro h; cases h) (And.intro rfl h112))
  refine Ev.condF h108 hb109 ?_
  refine Ev.ex ?_
  refine Ev.kseqN ?_
  refine Ev.reg (fun _ => rfl) ?_
  refine Ev.nxk (mvO h106) ?_
  refine Ev.nxk (bAdd rfl rfl) ?_
  refine Ev.nxk (mvO rfl) ?_
  refine Ev.rend ?_
  intro e113 he114
  have h115 := envp (t := 0) he114 rfl h105
  have h116 : eget e113 1 = .int .i64 (IntKind.i64.wrap ((IntKind.i64.wrap ((IntKind.i64.wrap ((IntKind.i64.wrap ((IntKind.i64.wrap (s1_1 + 1)) + 1)) + 1)) + 1)) + 1)) := envp he114 rfl rfl
  have h117 := envp (t := 5) he114 rfl h107
  clear h105 h107 h108
  refine Ev.kblkN ?_
  refine Ev.kseqN ?_
  refine Ev.reg (fun _ => rfl) ?_
  refine Ev.nxk (mvO h117) ?_
  refine Ev.nxk (bAdd rfl rfl) ?_
  refine Ev.nxk (mvO rfl) ?_
  refine Ev.rend ?_
  intro e118 he119
  have h120 := envp (t := 0) he119 rfl h115
  have h121 := envp (t := 1) he119 rfl h116
  have h122 : eget e118 5 = .int .i64 (IntKind.i64.wrap (s1_2 + 1)) := envp he119 rfl rfl
  clear h115 h116
  cases h
  exact Ev.kid (bQ_n (RS := (laws_heldTallyS_b1_RS a1)) (RR := (laws_heldTallyS_b1_RR a1)) (And.intro h120 (And.intro h121 h122)))
 refine Ev.condF h31 hb32 ?_
 refine Ev.ex ?_
 refine Ev.kseqE ?_
 cases h
 exact Ev.kid (bQ_x (RS := (laws_heldTallyS_b1_RS a1)) (RR := (laws_heldTallyS_b1_RR a1)) (by intro h; cases h) (And.intro rfl h29))
noncomputable def laws_heldTallyS (a1 : List Tally) (a2 : Int) : Option Int :=
 (Lw (laws_heldTallyS_b1 a1) (a2, 0)).bind fun r => match r with
 | (.inl _) =>
  some (-1)
 | (.inr y131) =>
  some y131
def laws_heldTallyS_enc (r : Int) : AV := .int .i64 r
theorem laws_heldTallyS_ok (a1 : List Tally) (a2 : Int) (r : Int) (h : laws_heldTallyS a1 a2 = some r) : Ev (fun k => CN k 71 [.sl none (a1.map Tally.c), .int .i64 a2] []) (fun p => rRes p.2 p.1 = laws_heldTallyS_enc r) := by
 unfold laws_heldTallyS at h
 refine Ev.enter (F := fun k => f71 (CN k) k) (fun k => callN_eq rfl Try.func71 rfl rfl rfl (by decide +kernel) (f71_eq _ _)) ?_
 refine Ev.seq ?_
 refine Ev.reg (fun _ => rfl) ?_
 refine Ev.nxk (mvO rfl) ?_
 refine Ev.rend ?_
 intro e1 he2
 have h3 : eget e1 0 = .sl none (a1.map Tally.c) := envp he2 rfl rfl
 have h4 : eget e1 1 = .int .i64 a2 := envp he2 rfl rfl
 refine Ev.kseqN ?_
 refine Ev.seq ?_
 refine Ev.seq ?_
 refine Ev.reg (fun _ => rfl) ?_
 refine Ev.nxk (mvO rfl) ?_
 refine Ev.rend ?_
 intro e5 he6
 have h7 := envp (t := 0) he6 rfl h3
 have h8 : eget e5 1 = .int .i64 a2 := envp he6 rfl h4
 have h9 : eget e5 5 = .int .i64 0 := envp he6 rfl rfl
 clear h3 h4
 refine Ev.kseqN ?_
 refine Ev.blk ?_
 obtain ⟨r123, hr124, h⟩ := bind_some h
 rcases r123 with _ | y131
 ·refine Ev.loop (RS := laws_heldTallyS_b1_RS a1) (RR := laws_heldTallyS_b1_RR a1) (fun s r h e M hs => laws_heldTallyS_b1_ok a1 s r h e M hs) hr124 (And.intro h7 (And.intro h8 h9)) ?_
  intro x e126 M127 hq125
  obtain ⟨rfl, h128⟩ := hq125
  refine Ev.kblkR ?_
  refine Ev.kseqR ?_
  cases h
  exact Ev.kendR (resT h128 res0) rfl
 refine Ev.loop (RS := laws_heldTallyS_b1_RS a1) (RR := laws_heldTallyS_b1_RR a1) (fun s r h e M hs => laws_heldTallyS_b1_ok a1 s r h e M hs) hr124 (And.intro h7 (And.intro h8 h9)) ?_
 intro x e129 M130 hq125
 obtain ⟨rfl, h132⟩ := hq125
 refine Ev.kblkE ?_
 refine Ev.kseqN ?_
 refine Ev.seq ?_
 refine Ev.reg (fun _ => rfl) ?_
 refine Ev.nxk (mvO h132) ?_
 refine Ev.nxk (mvO rfl) ?_
 refine Ev.rend ?_
 intro e133 he134
 have h135 : eget e133 4 = .int .i64 y131 := envp he134 rfl rfl
 clear h132
 refine Ev.kseqN ?_
 refine Ev.ex ?_
 cases h
 exact Ev.kendR (resT h135 res0) rfl
/-! ### loop.example/g01263/laws.eqTallyS (f69) -/
abbrev laws_eqTallyS_b1_S := Int
abbrev laws_eqTallyS_b1_R := Unit ⊕ Unit
def laws_eqTallyS_b1_RS (a1 : List Tally) (a2 : List Tally) (s : laws_eqTallyS_b1_S) (e : Env) (M : Mem) : Prop := eget e 0 = .sl none (a1.map Tally.c) ∧ eget e 1 = .sl none (a2.map Tally.c) ∧ eget e 5 = .int .i64 s
def laws_eqTallyS_b1_RR (a1 : List Tally) (a2 : List Tally) (r : laws_eqTallyS_b1_R) (x : Ex) (e : Env) (M : Mem) : Prop :=
  match r with
  | (.inl g) => x = .ret ∧ eget e 4 = .bool false
  | (.inr g) => x = .ext 0 ∧ True
noncomputable def laws_eqTallyS_b1 (a1 : List Tally) (a2 : List Tally) : laws_eqTallyS_b1_S → Option (laws_eqTallyS_b1_S ⊕ laws_eqTallyS_b1_R) := fun s1_1 =>
 if (decide (s1_1 < (a1.length : Int))) = true then
  (rd a1 s1_1).bind fun x42 =>
  (rd a2 s1_1).bind fun x44 =>
  (laws_eqTally x42 x44).bind fun r47 =>
  if r47 = true then
   some (.inl (IntKind.i64.wrap (s1_1 + 1)))
  else
   some (.inr (.inl ()))
 else
  some (.inr (.inr ()))
theorem laws_eqTallyS_b1_ok (a1 : List Tally) (a2 : List Tally) (s : laws_eqTallyS_b1_S) (r : laws_eqTallyS_b1_S ⊕ laws_eqTallyS_b1_R) (h : laws_eqTallyS_b1 a1 a2 s = some r) (e : Env) (M : Mem) (hs : laws_eqTallyS_b1_RS a1 a2 s e M) : Ev (fun k => (f69_l4 (CN k) k (prune [0, 1, 5] e) M).bind fun q => some q) (bQ (laws_eqTallyS_b1_RS a1 a2) (laws_eqTallyS_b1_RR a1 a2) r) := by
 revert h hs
 revert s
 intro s1_1 h hs
 unfold laws_eqTallyS_b1 at h
 obtain ⟨h29, h31, h33⟩ := hs
 generalize he28 : prune [0, 1, 5] e = e27
 have h30 := envp he28.symm rfl h29
 have h32 := envp he28.symm rfl h31
 have h34 := envp he28.symm rfl h33
 refine Ev.seq ?_
 refine Ev.seq ?_
 refine Ev.reg (fun _ => rfl) ?_
 refine Ev.nxk (mvO h34) ?_
 refine Ev.nxk (mvO h30) ?_
 refine Ev.nxk (lnS Try.underlying54 rfl) ?_
 refine Ev.nxk (bLss rfl rfl) ?_
 refine Ev.rend ?_
 intro e35 he36
 have h37 : eget e35 0 = .sl none (a1.map Tally.c) := envp he36 rfl h30
 have h38 : eget e35 1 = .sl none (a2.map Tally.c) := envp he36 rfl h32
 have h39 : eget e35 5 = .int .i64 s1_1 := envp he36 rfl h34
 have h40 : eget e35 14 = .bool (decide (s1_1 < (a1.length : Int))) := envp he36 rfl rfl
 clear h30 h32 h34
 refine Ev.kseqN ?_
 rcases ite_some h with ⟨hb41, h⟩ | ⟨hb41, h⟩
 ·refine Ev.condT h40 hb41 ?_
  refine Ev.ex ?_
  refine Ev.kseqN ?_
  refine Ev.seq ?_
  refine Ev.blk ?_
  refine Ev.seq ?_
  refine Ev.regD (fun _ => rfl) ?_
  refine Ev.nfk (mvO h37) ?_
  refine Ev.nfk (mvO h39) ?_
  obtain ⟨x42, hx43, h⟩ := bind_some h
  refine Ev.nfk (ixS rfl rfl hx43 Tally.fl) ?_
  refine Ev.nfk (ldPA rfl rfl rfl) ?_
  refine Ev.nfk (mvO h38) ?_
  refine Ev.nfk (mvO h39) ?_
  obtain ⟨x44, hx45, h⟩ := bind_some h
  refine Ev.nfk (ixS rfl rfl hx45 Tally.fl) ?_
  refine Ev.nfk (ldPA rfl rfl rfl) ?_
  obtain ⟨r47, hx46, h⟩ := bind_some h
  refine Ev.nfc (Ev.call (v := .bool r47) rfl (cns rfl (cns rfl rfl)) rfl (laws_eqTally_ok x42 x44 _ hx46) (fun h => nomatch (show false = true from h))) ?_
  refine Ev.nfk (uNot rfl) ?_
  refine Ev.fend0 ?_
  refine Ev.rend ?_
  intro e48 he49
  have h50 := envp (t := 0) he49 rfl h37
  have h51 := envp (t := 1) he49 rfl h38
  have h52 := envp (t := 5) he49 rfl h39
  have h53 : eget e48 26 = .bool (!r47) := envp he49 rfl rfl
  clear h37 h38 h39 h40
  refine Ev.kseqN ?_
  rcases ite_some h with ⟨hb54, h⟩ | ⟨hb54, h⟩
  ·refine Ev.condF h53 (congrArg Bool.not hb54) ?_
   refine Ev.ex ?_
   refine Ev.kblkN ?_
   refine Ev.kseqN ?_
   refine Ev.reg (fun _ => rfl) ?_
   refine Ev.nxk (mvO h52) ?_
   refine Ev.nxk (bAdd rfl rfl) ?_
   refine Ev.nxk (mvO rfl) ?_
   refine Ev.rend ?_
   intro e55 he56
   have h57 := envp (t := 0) he56 rfl h50
   have h58 := envp (t := 1) he56 rfl h51
   have h59 : eget e55 5 = .int .i64 (IntKind.i64.wrap (s1_1 + 1)) := envp he56 rfl rfl
   clear h50 h51 h53
   cases h
   exact Ev.kid (bQ_n (RS := (laws_eqTallyS_b1_RS a1 a2)) (RR := (laws_eqTallyS_b1_RR a1 a2)) (And.intro h57 (And.intro h58 h59)))
  refine Ev.condT h53 (congrArg Bool.not hb54) ?_
  refine Ev.seq ?_
  refine Ev.reg (fun _ => rfl) ?_
  refine Ev.nxk (mvO rfl) ?_
  refine Ev.rend ?_
  intro e60 he61
  have h62 : eget e60 4 = .bool false := envp he61 rfl rfl
  clear h50 h51 h52 h53
  refine Ev.kseqN ?_
  refine Ev.ex ?_
  refine Ev.kblkR ?_
  refine Ev.kseqR ?_
  cases h
  exact Ev.kid (bQ_x (RS := (laws_eqTallyS_b1_RS a1 a2)) (RR := (laws_eqTallyS_b1_RR a1 a2)) (by intro h; cases h) (And.intro rfl h62))
 refine Ev.condF h40 hb41 ?_
 refine Ev.ex ?_
 refine Ev.kseqE ?_
 cases h
 exact Ev.kid (bQ_x (RS := (laws_eqTallyS_b1_RS a1 a2)) (RR := (laws_eqTallyS_b1_RR a1 a2)) (by intro h; cases h) (And.intro rfl trivial))
noncomputable def laws_eqTallyS (a1 : List Tally) (a2 : List Tally) : Option Bool :=
 if ((a1.length : Int) != (a2.length : Int)) = true then
  some false
 else
  (Lw (laws_eqTallyS_b1 a1 a2) 0).bind fun r => match r with
  | (.inl _) =>
   some false
  | (.inr _) =>
   some true
def laws_eqTallyS_enc (r : Bool) : AV := .bool r
theorem laws_eqTallyS_ok (a1 : List Tally) (a2 : List Tally) (r : Bool) (h : laws_eqTallyS a1 a2 = some r) : Ev (fun k => CN k 69 [.sl none (a1.map Tally.c), .sl none (a2.map Tally.c)] []) (fun p => rRes p.2 p.1 = laws_eqTallyS_enc r) := by
 unfold laws_eqTallyS at h
 refine Ev.enter (F := fun k => f69 (CN k) k) (fun k => callN_eq rfl Try.func69 rfl rfl rfl (by decide +kernel) (f69_eq _ _)) ?_
 refine Ev.seq ?_
 refine Ev.reg (fun _ => rfl) ?_
 refine Ev.nxk (mvO rfl) ?_
 refine Ev.rend ?_
 intro e1 he2
 have h3 : eget e1 0 = .sl none (a1.map Tally.c) := envp he2 rfl rfl
 have h4 : eget e1 1 = .sl none (a2.map Tally.c) := envp he2 rfl rfl
 refine Ev.kseqN ?_
 refine Ev.seq ?_
 refine Ev.seq ?_
 refine Ev.reg (fun _ => rfl) ?_
 refine Ev.nxk (mvO h3) ?_
 refine Ev.nxk (lnS Try.underlying54 rfl) ?_
 refine Ev.nxk (mvO h4) ?_
 refine Ev.nxk (lnS Try.underlying54 rfl) ?_
 refine Ev.nxk (bNeq rfl rfl) ?_
 refine Ev.rend ?_
 intro e5 he6
 have h7 := envp (t := 0) he6 rfl h3
 have h8 := envp (t := 1) he6 rfl h4
 have h9 : eget e5 10 = .bool ((a1.length : Int) != (a2.length : Int)) := envp he6 rfl rfl
 clear h3 h4
 refine Ev.kseqN ?_
 rcases ite_some h with ⟨hb10, h⟩ | ⟨hb10, h⟩
 ·refine Ev.condT h9 hb10 ?_
  refine Ev.seq ?_
  refine Ev.reg (fun _ => rfl) ?_
  refine Ev.nxk (mvO rfl) ?_
  refine Ev.rend ?_
  intro e11 he12
  have h13 : eget e11 4 = .bool false := envp he12 rfl rfl
  clear h7 h8 h9
  refine Ev.kseqN ?_
  refine Ev.ex ?_
  refine Ev.kseqR ?_
  cases h
  exact Ev.kendR (resT h13 res0) rfl
 refine Ev.condF h9 hb10 ?_
 refine Ev.ex ?_
 refine Ev.kseqN ?_
 refine Ev.seq ?_
 refine Ev.seq ?_
 refine Ev.reg (fun _ => rfl) ?_
 refine Ev.nxk (mvO rfl) ?_
 refine Ev.rend ?_
 intro e14 he15
 have h16 := envp (t := 0) he15 rfl h7
 have h17 := envp (t := 1) he15 rfl h8
 have h18 : eget e14 5 = .int .i64 0 := envp he15 rfl rfl
 clear h7 h8 h9
 refine Ev.kseqN ?_
 refine Ev.blk ?_
 obtain ⟨r63, hr64, h⟩ := bind_some h
 rcases r63 with _ | _
 ·refine Ev.loop (RS := laws_eqTallyS_b1_RS a1 a2) (RR := laws_eqTallyS_b1_RR a1 a2) (fun s r h e M hs => laws_eqTallyS_b1_ok a1 a2 s r h e M hs) hr64 (And.intro h16 (And.intro h17 h18)) ?_
  intro x e66 M67 hq65
  obtain ⟨rfl, h68⟩ := hq65
  refine Ev.kblkR ?_
  refine Ev.kseqR ?_
  cases h
  exact Ev.kendR (resT h68 res0) rfl
 refine Ev.loop (RS := laws_eqTallyS_b1_RS a1 a2) (RR := laws_eqTallyS_b1_RR a1 a2) (fun s r h e M hs => laws_eqTallyS_b1_ok a1 a2 s r h e M hs) hr64 (And.intro h16 (And.intro h17 h18)) ?_
 intro x e69 M70 hq65
 obtain ⟨rfl, _⟩ := hq65
 refine Ev.kblkE ?_
 refine Ev.kseqN ?_
 refine Ev.seq ?_
 refine Ev.reg (fun _ => rfl) ?_
 refine Ev.nxk (mvO rfl) ?_
 refine Ev.rend ?_
 intro e71 he72
 have h73 : eget e71 4 = .bool true := envp he72 rfl rfl
 refine Ev.kseqN ?_
 refine Ev.ex ?_
 cases h
 exact Ev.kendR (resT h73 res0) rfl
/-! ### loop.example/g01263/impl.do (f68) -/
def impl_do_c1_Q (a1 : Book) (a2 : Deal) (r33 : Bool) (r34 : Bool) (i901_1 : Nat) (i901_2 : Nat) (r : Unit ⊕ Bool) (q : Out) : Prop :=
  match r with
  | (.inl g) => q.1 = .ret ∧ eget q.2.1 4 = .loc i901_2 1 0 0 ∧ eget q.2.1 5 = .int .i64 2 ∧ q.2.2[i901_2]? = some (.live ⟨.box, 56, 3, [[.int .i64 0, .nils, .nils]]⟩)
  | (.inr g) => q.1 = .nrm ∧ eget q.2.1 2 = .loc i901_1 1 0 0 ∧ eget q.2.1 3 = .pt none [.int .i64 a2.Day, .int .i8 a2.Kind, .int .i64 a2.Tally, .int .i64 a2.From, .int .i64 a2.To, .int .i64 a2.Amount] ∧ eget q.2.1 4 = .loc i901_2 1 0 0 ∧ eget q.2.1 7 = .bool r33 ∧ eget q.2.1 8 = .bool r34 ∧ eget q.2.1 55 = .bool g ∧ q.2.2[i901_1]? = some (.live ⟨.box, 56, 3, [[.int .i64 a1.Day, .sl none (a1.Cash.map (cI .i64)), .sl none (a1.Tallies.map Tally.c)]]⟩) ∧ q.2.2[i901_2]? = some (.live ⟨.box, 56, 3, [[.int .i64 0, .nils, .nils]]⟩)
def impl_do_c2_Q (a1 : Book) (a2 : Deal) (r33 : Bool) (i902_1 : Nat) (i902_2 : Nat) (r : Unit ⊕ Bool) (q : Out) : Prop :=
  match r with
  | (.inl g) => q.1 = .ret ∧ eget q.2.1 4 = .loc i902_2 1 0 0 ∧ eget q.2.1 5 = .int .i64 4 ∧ q.2.2[i902_2]? = some (.live ⟨.box, 56, 3, [[.int .i64 0, .nils, .nils]]⟩)
  | (.inr g) => q.1 = .nrm ∧ eget q.2.1 2 = .loc i902_1 1 0 0 ∧ eget q.2.1 3 = .pt none [.int .i64 a2.Day, .int .i8 a2.Kind, .int .i64 a2.Tally, .int .i64 a2.From, .int .i64 a2.To, .int .i64 a2.Amount] ∧ eget q.2.1 4 = .loc i902_2 1 0 0 ∧ eget q.2.1 7 = .bool r33 ∧ eget q.2.1 67 = .bool g ∧ q.2.2[i902_1]? = some (.live ⟨.box, 56, 3, [[.int .i64 a1.Day, .sl none (a1.Cash.map (cI .i64)), .sl none (a1.Tallies.map Tally.c)]]⟩) ∧ q.2.2[i902_2]? = some (.live ⟨.box, 56, 3, [[.int .i64 0, .nils, .nils]]⟩)
def impl_do_c3_Q (a2 : Deal) (r278 : List Int) (r279 : List Tally) (i903_1 : Nat) (i903_2 : Nat) (i903_3 : Nat) (i903_4 : Nat) (r : Unit ⊕ Bool) (q : Out) : Prop :=
  match r with
  | (.inl g) => q.1 = .ret ∧ eget q.2.1 4 = .loc i903_2 1 0 0 ∧ eget q.2.1 5 = .int .i64 4 ∧ q.2.2[i903_2]? = some (.live ⟨.box, 56, 3, [[.int .i64 0, .nils, .nils]]⟩)
  | (.inr g) => q.1 = .nrm ∧ eget q.2.1 2 = .loc i903_1 1 0 0 ∧ eget q.2.1 3 = .pt none [.int .i64 a2.Day, .int .i8 a2.Kind, .int .i64 a2.Tally, .int .i64 a2.From, .int .i64 a2.To, .int .i64 a2.Amount] ∧ eget q.2.1 4 = .loc i903_2 1 0 0 ∧ eget q.2.1 11 = .loc (i903_3 + 1) r279.length (0 + a2.Tally.toNat) 0 ∧ eget q.2.1 134 = .bool g ∧ q.2.2[i903_1]? = some (.live ⟨.box, 56, 3, [[.int .i64 a2.Day, .lsl i903_3 r278.length 0 r278.length, .lsl (i903_3 + 1) r279.length 0 r279.length]]⟩) ∧ q.2.2[i903_3]? = some (.live ⟨.grow, 2, 1, r278.map (cI .i64)⟩) ∧ q.2.2[(i903_3 + 1)]? = some (.live ⟨.grow, 156, 5, r279.map Tally.c⟩) ∧ q.2.2[i903_2]? = some (.live ⟨.box, 56, 3, [[.int .i64 0, .nils, .nils]]⟩)
noncomputable def impl_do (a1 : Book) (a2 : Deal) : Option (Int ⊕ (Int × (List Int) × (List Tally))) :=
 if (decide (a2.Day < a1.Day)) = true then
  some (.inl 4)
 else
  (impl_uses a2.Kind).bind fun (r32, r33, r34, r35) =>
  ((if r33 = true then
   if (decide (a2.From ≥ (a1.Cash.length : Int))) = true then
    some (.inl ())
   else
    if r34 = true then
     if (decide (a2.To ≥ (a1.Cash.length : Int))) = true then
      some (.inl ())
     else
      if r32 = true then
       if (decide (a2.Tally ≥ (a1.Tallies.length : Int))) = true then
        some (.inl ())
       else
        some (.inr (decide (a2.Tally ≥ (a1.Tallies.length : Int))))
      else
       some (.inr false)
    else
     if r32 = true then
      if (decide (a2.Tally ≥ (a1.Tallies.length : Int))) = true then
       some (.inl ())
      else
       some (.inr (decide (a2.Tally ≥ (a1.Tallies.length : Int))))
     else
      some (.inr false)
  else
   if r34 = true then
    if (decide (a2.To ≥ (a1.Cash.length : Int))) = true then
     some (.inl ())
    else
     if r32 = true then
      if (decide (a2.Tally ≥ (a1.Tallies.length : Int))) = true then
       some (.inl ())
      else
       some (.inr (decide (a2.Tally ≥ (a1.Tallies.length : Int))))
     else
      some (.inr false)
   else
    if r32 = true then
     if (decide (a2.Tally ≥ (a1.Tallies.length : Int))) = true then
      some (.inl ())
     else
      some (.inr (decide (a2.Tally ≥ (a1.Tallies.length : Int))))
    else
     some (.inr false) : Option (Unit ⊕ Bool))).bind fun r => match r with
  | (.inl _) =>
   some (.inl 2)
  | (.inr y219) =>
   ((if r33 = true then
    if r34 = true then
     if (a2.From == a2.To) = true then
      some (.inl ())
     else
      some (.inr (a2.From == a2.To))
    else
     some (.inr false)
   else
    some (.inr false) : Option (Unit ⊕ Bool))).bind fun r => match r with
   | (.inl _) =>
    some (.inl 4)
   | (.inr y268) =>
    (impl_ownBook a1).bind fun (r277, r278, r279) =>
    if (a2.Kind == 1) = true then
     if ((r279.length : Int) == 40) = true then
      some (.inl 3)
     else
      (app 40 r279 [(Tally.mk a2.From a2.To a2.Day a2.Amount a2.Amount)]).bind fun x342 =>
      some (.inr (a2.Day, r278, x342))
    else
     (rd r279 a2.Tally).bind fun x370 =>
     ((if r33 = true then
      if (a2.From != x370.Holder) = true then
       some (.inl ())
      else
       if (x370.Left == 0) = true then
        some (.inl ())
       else
        if (a2.Kind == 3) = true then
         if (decide (a2.Amount > x370.Left)) = true then
          some (.inl ())
         else
          some (.inr (decide (a2.Amount > x370.Left)))
        else
         some (.inr false)
     else
      if (x370.Left == 0) = true then
       some (.inl ())
      else
       if (a2.Kind == 3) = true then
        if (decide (a2.Amount > x370.Left)) = true then
         some (.inl ())
        else
         some (.inr (decide (a2.Amount > x370.Left)))
       else
        some (.inr false) : Option (Unit ⊕ Bool))).bind fun r => match r with
     | (.inl _) =>
      some (.inl 4)
     | (.inr y494) =>
      if (a2.Kind == 2) = true then
       if (a2.To == ((Tally.mk x370.Debtor a2.To x370.Cut x370.Amount x370.Left)).Debtor) = true then
        some (.inr (a2.Day, r278, ((r279.set a2.Tally.toNat (Tally.mk x370.Debtor a2.To x370.Cut x370.Amount x370.Left)).set a2.Tally.toNat (Tally.mk ((Tally.mk x370.Debtor a2.To x370.Cut x370.Amount x370.Left)).Debtor ((Tally.mk x370.Debtor a2.To x370.Cut x370.Amount x370.Left)).Holder ((Tally.mk x370.Debtor a2.To x370.Cut x370.Amount x370.Left)).Cut ((Tally.mk x370.Debtor a2.To x370.Cut x370.Amount x370.Left)).Amount 0))))
       else
        some (.inr (a2.Day, r278, (r279.set a2.Tally.toNat (Tally.mk x370.Debtor a2.To x370.Cut x370.Amount x370.Left))))
      else
       if (a2.Kind == 3) = true then
        (rd r278 x370.Debtor).bind fun x580 =>
        if (decide (x580 < a2.Amount)) = true then
         some (.inl 8)
        else
         (rd r278 x370.Debtor).bind fun x600 =>
         (rd r278 x370.Debtor).bind fun x602 =>
         (rd (r278.set x370.Debtor.toNat (IntKind.i64.wrap (x600 - a2.Amount))) x370.Holder).bind fun x617 =>
         (rd (r278.set x370.Debtor.toNat (IntKind.i64.wrap (x600 - a2.Amount))) x370.Holder).bind fun x619 =>
         (rd ((r278.set x370.Debtor.toNat (IntKind.i64.wrap (x600 - a2.Amount))).set x370.Holder.toNat (IntKind.i64.wrap (x617 + a2.Amount))) (((Tally.mk x370.Debtor x370.Holder x370.Cut x370.Amount (IntKind.i64.wrap (x370.Left - a2.Amount)))).Holder)).bind fun x646 =>
         if (decide (x646 > 100000000)) = true then
          some (.inl 3)
         else
          some (.inr (a2.Day, ((r278.set x370.Debtor.toNat (IntKind.i64.wrap (x600 - a2.Amount))).set x370.Holder.toNat (IntKind.i64.wrap (x617 + a2.Amount))), (r279.set a2.Tally.toNat (Tally.mk x370.Debtor x370.Holder x370.Cut x370.Amount (IntKind.i64.wrap (x370.Left - a2.Amount))))))
       else
        if (a2.Kind == 4) = true then
         some (.inr (a2.Day, r278, (r279.set a2.Tally.toNat (Tally.mk x370.Debtor x370.Holder x370.Cut x370.Amount 0))))
        else
         some (.inr (a2.Day, r278, r279))
def impl_do_enc (r : Int ⊕ (Int × (List Int) × (List Tally))) : AV :=
  match r with
  | (.inl g) => .tup [.agg [.int .i64 0, .nils, .nils], .int .i64 g]
  | (.inr g) => .tup [.agg [.int .i64 g.1, .sl (some 2) (g.2.1.map (cI .i64)), .sl (some 156) (g.2.2.map Tally.c)], .int .i64 0]
theorem impl_do_ok (a1 : Book) (a2 : Deal) (r : Int ⊕ (Int × (List Int) × (List Tally))) (h : impl_do a1 a2 = some r) : Ev (fun k => CN k 68 [.agg [.int .i64 a1.Day, .sl none (a1.Cash.map (cI .i64)), .sl none (a1.Tallies.map Tally.c)], .agg [.int .i64 a2.Day, .int .i8 a2.Kind, .int .i64 a2.Tally, .int .i64 a2.From, .int .i64 a2.To, .int .i64 a2.Amount]] []) (fun p => rRes p.2 p.1 = impl_do_enc r) := by
 unfold impl_do at h
 refine Ev.enter (F := fun k => f68 (CN k) k) (fun k => callN_eq rfl Try.func68 rfl rfl rfl (by decide +kernel) (f68_eq _ _)) ?_
 refine Ev.seq ?_
 refine Ev.reg (fun _ => rfl) ?_
 refine Ev.nxpush (bxO rfl rfl ⟨rfl, rfl, by decide⟩) ?_
 intro M2 hM3
 have o4 : M2[([] : Mem).length]? = some (.live ⟨.box, 56, 3, [[.int .i64 a1.Day, .sl none (a1.Cash.map (cI .i64)), .sl none (a1.Tallies.map Tally.c)]]⟩) := push_new hM3
 refine Ev.nxk (bxI rfl rfl ⟨rfl, rfl, by decide⟩) ?_
 refine Ev.nxpush (alO zero56) ?_
 intro M6 hM7
 have o8 := push_old hM7 o4
 have ne9 := ne_new o4
 have o10 : M6[M2.length]? = some (.live ⟨.box, 56, 3, [[.int .i64 0, .nils, .nils]]⟩) := push_new hM7
 refine Ev.nxk (mvO rfl) ?_
 refine Ev.rend ?_
 intro e11 he12
 have h13 : eget e11 2 = .loc ([] : Mem).length 1 0 0 := envp he12 rfl rfl
 have h14 : eget e11 3 = .pt none [.int .i64 a2.Day, .int .i8 a2.Kind, .int .i64 a2.Tally, .int .i64 a2.From, .int .i64 a2.To, .int .i64 a2.Amount] := envp he12 rfl rfl
 have h15 : eget e11 4 = .loc M2.length 1 0 0 := envp he12 rfl rfl
 refine Ev.kseqN ?_
 refine Ev.seq ?_
 refine Ev.seq ?_
 refine Ev.reg (fun _ => rfl) ?_
 refine Ev.nxk (faP h14 ⟨ble rfl, blt rfl⟩ rfl) ?_
 refine Ev.nxk (ldP rfl rfl) ?_
 refine Ev.nxk (faO h13 o8 rfl) ?_
 refine Ev.nxk (ldO rfl o8 rfl rfl rfl) ?_
 refine Ev.nxk (bLss rfl rfl) ?_
 refine Ev.rend ?_
 intro e16 he17
 have h18 := envp (t := 2) he17 rfl h13
 have h19 := envp (t := 3) he17 rfl h14
 have h20 := envp (t := 4) he17 rfl h15
 have h21 : eget e16 16 = .bool (decide (a2.Day < a1.Day)) := envp he17 rfl rfl
 clear h13 h14 h15
 refine Ev.kseqN ?_
 rcases ite_some h with ⟨hb22, h⟩ | ⟨hb22, h⟩
 ·refine Ev.condT h21 hb22 ?_
  refine Ev.seq ?_
  refine Ev.reg (fun _ => rfl) ?_
  refine Ev.nxk (bldT zero56 rfl (fill0 rfl)) ?_
  refine Ev.nxput (stOK h20 rfl o10 rfl rfl ⟨rfl, ble rfl⟩ rfl rfl) ?_
  intro M23 hM24
  have o25 := set_ne hM24 ne9 o8
  have o26 : M23[M2.length]? = some (.live ⟨.box, 56, 3, [[.int .i64 0, .nils, .nils]]⟩) := set_same hM24 o10
  refine Ev.nxk (mvO rfl) ?_
  refine Ev.rend ?_
  intro e27 he28
  have h29 := envp (t := 4) he28 rfl h20
  have h30 : eget e27 5 = .int .i64 4 := envp he28 rfl rfl
  clear h18 h19 h20 h21
  refine Ev.kseqN ?_
  refine Ev.ex ?_
  refine Ev.kseqR ?_
  cases h
  exact Ev.kendR (resC (ag := true) (sz := 3) ⟨by kernel_rfl, by kernel_rfl, by kernel_rfl⟩ (ldOA h29 o26 rfl rfl (ble rfl) rfl) (resT h30 res0)) rfl
 refine Ev.condF h21 hb22 ?_
 refine Ev.ex ?_
 refine Ev.kseqN ?_
 refine Ev.seq ?_
 refine Ev.reg (fun _ => rfl) ?_
 refine Ev.nxk (faP h19 ⟨ble rfl, blt rfl⟩ rfl) ?_
 refine Ev.nxk (ldP rfl rfl) ?_
 obtain ⟨⟨r32, r33, r34, r35⟩, hx31, h⟩ := bind_some h
 refine Ev.nxck (Ev.call (v := .tup [.bool r32, .bool r33, .bool r34, .bool r35]) rfl (cns rfl rfl) rfl (impl_uses_ok a2.Kind _ hx31) (fun h => nomatch (show false = true from h))) ?_
 refine Ev.nxk (mvO rfl) ?_
 refine Ev.nxk (exT rfl rfl) ?_
 refine Ev.nxk (exT rfl rfl) ?_
 refine Ev.nxk (exT rfl rfl) ?_
 refine Ev.nxk (exT rfl rfl) ?_
 refine Ev.nxk (mvO rfl) ?_
 refine Ev.nxk (mvO rfl) ?_
 refine Ev.nxk (mvO rfl) ?_
 refine Ev.nxk (mvO rfl) ?_
 refine Ev.rend ?_
 intro e36 he37
 have h38 := envp (t := 2) he37 rfl h18
 have h39 := envp (t := 3) he37 rfl h19
 have h40 := envp (t := 4) he37 rfl h20
 have h41 : eget e36 6 = .bool r32 := envp he37 rfl rfl
 have h42 : eget e36 7 = .bool r33 := envp he37 rfl rfl
 have h43 : eget e36 8 = .bool r34 := envp he37 rfl rfl
 clear h18 h19 h20 h21
 refine Ev.kseqN ?_
 refine Ev.seq ?_
 refine Ev.reg (fun _ => rfl) ?_
 refine Ev.nxk (faO h38 o8 rfl) ?_
 refine Ev.nxk (ldO rfl o8 rfl rfl rfl) ?_
 refine Ev.nxk (lnS Try.underlying47 rfl) ?_
 refine Ev.nxk (mvO rfl) ?_
 refine Ev.rend ?_
 intro e44 he45
 have h46 := envp (t := 2) he45 rfl h38
 have h47 := envp (t := 3) he45 rfl h39
 have h48 := envp (t := 4) he45 rfl h40
 have h49 : eget e44 6 = .bool r32 := envp he45 rfl h41
 have h50 : eget e44 7 = .bool r33 := envp he45 rfl h42
 have h51 : eget e44 8 = .bool r34 := envp he45 rfl h43
 have h52 : eget e44 10 = .int .i64 (a1.Cash.length : Int) := envp he45 rfl rfl
 clear h38 h39 h40 h41 h42 h43
 refine Ev.kseqN ?_
 refine Ev.seq ?_
 obtain ⟨r719, hr720, h⟩ := bind_some h
 refine Ev.cut (Q1 := impl_do_c1_Q a1 a2 r33 r34 (([] : Mem).length) M2.length r719) (by
     have h := hr720
     refine Ev.seq ?_
     refine Ev.reg (fun _ => rfl) ?_
     refine Ev.nxk (mvO h50) ?_
     refine Ev.nxk (mvO rfl) ?_
     rcases ite_some h with ⟨hb53, h⟩ | ⟨hb53, h⟩
     ·refine Ev.nxk (guT rfl hb53 (faP h47 ⟨ble rfl, blt rfl⟩ rfl)) ?_
      refine Ev.nxk (guT rfl hb53 (ldP rfl rfl)) ?_
      refine Ev.nxk (guT rfl hb53 (mvO h52)) ?_
      refine Ev.nxk (guT rfl hb53 (bGeq rfl rfl)) ?_
      refine Ev.nxk (pkT rfl hb53 rfl) ?_
      refine Ev.nxk (mvO rfl) ?_
      rcases ite_some h with ⟨hb54, h⟩ | ⟨hb54, h⟩
      ·refine Ev.nxk (gsF rfl hb54) ?_
       refine Ev.nxk (gsF rfl hb54) ?_
       refine Ev.nxk (gsU rfl) ?_
       refine Ev.nxk (gsU rfl) ?_
       refine Ev.nxk (gsU rfl) ?_
       refine Ev.nxk (gsU rfl) ?_
       refine Ev.nxk (gsF rfl hb54) ?_
       refine Ev.nxk (pkT rfl hb54 rfl) ?_
       refine Ev.nxk (mvO rfl) ?_
       refine Ev.nxk (gsF rfl rfl) ?_
       refine Ev.nxk (gsF rfl rfl) ?_
       refine Ev.nxk (gsU rfl) ?_
       refine Ev.nxk (gsU rfl) ?_
       refine Ev.nxk (gsU rfl) ?_
       refine Ev.nxk (gsU rfl) ?_
       refine Ev.nxk (gsU rfl) ?_
       refine Ev.nxk (gsU rfl) ?_
       refine Ev.nxk (gsF rfl rfl) ?_
       refine Ev.nxk (pkT rfl rfl rfl) ?_
       refine Ev.rend ?_
       intro e55 he56
       have h57 := envp (t := 2) he56 rfl h46
       have h58 := envp (t := 3) he56 rfl h47
       have h59 := envp (t := 4) he56 rfl h48
       have h60 : eget e55 7 = .bool r33 := envp he56 rfl h50
       have h61 : eget e55 8 = .bool r34 := envp he56 rfl h51
       have h62 : eget e55 55 = .bool true := envp he56 rfl rfl
       clear h46 h47 h48 h49 h50 h51 h52
       refine Ev.kseqN ?_
       refine Ev.condT h62 rfl ?_
       refine Ev.seq ?_
       refine Ev.reg (fun _ => rfl) ?_
       refine Ev.nxk (bldT zero56 rfl (fill0 rfl)) ?_
       refine Ev.nxput (stOK h59 rfl o10 rfl rfl ⟨rfl, ble rfl⟩ rfl rfl) ?_
       intro M63 hM64
       have o65 := set_ne hM64 ne9 o8
       have o66 : M63[M2.length]? = some (.live ⟨.box, 56, 3, [[.int .i64 0, .nils, .nils]]⟩) := set_same hM64 o10
       refine Ev.nxk (mvO rfl) ?_
       refine Ev.rend ?_
       intro e67 he68
       have h69 := envp (t := 4) he68 rfl h59
       have h70 : eget e67 5 = .int .i64 2 := envp he68 rfl rfl
       clear h57 h58 h59 h60 h61 h62
       refine Ev.kseqN ?_
       refine Ev.ex ?_
       cases h
       exact Ev.kid (show impl_do_c1_Q a1 a2 r33 r34 (([] : Mem).length) M2.length _ _ from (And.intro rfl (And.intro h69 (And.intro h70 o66))))
      refine Ev.nxk (guF rfl hb54 (mvO h51)) ?_
      refine Ev.nxk (guF rfl hb54 (mvO rfl)) ?_
      rcases ite_some h with ⟨hb71, h⟩ | ⟨hb71, h⟩
      ·refine Ev.nxk (guT rfl hb71 (faP h47 ⟨ble rfl, blt rfl⟩ rfl)) ?_
       refine Ev.nxk (guT rfl hb71 (ldP rfl rfl)) ?_
       refine Ev.nxk (guT rfl hb71 (mvO h52)) ?_
       refine Ev.nxk (guT rfl hb71 (bGeq rfl rfl)) ?_
       refine Ev.nxk (guF rfl hb54 (pkT rfl hb71 rfl)) ?_
       refine Ev.nxk (pkF rfl hb54 rfl) ?_
       refine Ev.nxk (mvO rfl) ?_
       rcases ite_some h with ⟨hb72, h⟩ | ⟨hb72, h⟩
       ·refine Ev.nxk (gsF rfl hb72) ?_
        refine Ev.nxk (gsF rfl hb72) ?_
        refine Ev.nxk (gsU rfl) ?_
        refine Ev.nxk (gsU rfl) ?_
        refine Ev.nxk (gsU rfl) ?_
        refine Ev.nxk (gsU rfl) ?_
        refine Ev.nxk (gsU rfl) ?_
        refine Ev.nxk (gsU rfl) ?_
        refine Ev.nxk (gsF rfl hb72) ?_
        refine Ev.nxk (pkT rfl hb72 rfl) ?_
        refine Ev.rend ?_
        intro e73 he74
        have h75 := envp (t := 2) he74 rfl h46
        have h76 := envp (t := 3) he74 rfl h47
        have h77 := envp (t := 4) he74 rfl h48
        have h78 : eget e73 7 = .bool r33 := envp he74 rfl h50
        have h79 : eget e73 8 = .bool r34 := envp he74 rfl h51
        have h80 : eget e73 55 = .bool true := envp he74 rfl rfl
        clear h46 h47 h48 h49 h50 h51 h52
        refine Ev.kseqN ?_
        refine Ev.condT h80 rfl ?_
        refine Ev.seq ?_
        refine Ev.reg (fun _ => rfl) ?_
        refine Ev.nxk (bldT zero56 rfl (fill0 rfl)) ?_
        refine Ev.nxput (stOK h77 rfl o10 rfl rfl ⟨rfl, ble rfl⟩ rfl rfl) ?_
        intro M81 hM82
        have o83 := set_ne hM82 ne9 o8
        have o84 : M81[M2.length]? = some (.live ⟨.box, 56, 3, [[.int .i64 0, .nils, .nils]]⟩) := set_same hM82 o10
        refine Ev.nxk (mvO rfl) ?_
        refine Ev.rend ?_
        intro e85 he86
        have h87 := envp (t := 4) he86 rfl h77
        have h88 : eget e85 5 = .int .i64 2 := envp he86 rfl rfl
        clear h75 h76 h77 h78 h79 h80
        refine Ev.kseqN ?_
        refine Ev.ex ?_
        cases h
        exact Ev.kid (show impl_do_c1_Q a1 a2 r33 r34 (([] : Mem).length) M2.length _ _ from (And.intro rfl (And.intro h87 (And.intro h88 o84))))
       refine Ev.nxk (guF rfl hb72 (mvO h49)) ?_
       refine Ev.nxk (guF rfl hb72 (mvO rfl)) ?_
       rcases ite_some h with ⟨hb89, h⟩ | ⟨hb89, h⟩
       ·refine Ev.nxk (guT rfl hb89 (faP h47 ⟨ble rfl, blt rfl⟩ rfl)) ?_
        refine Ev.nxk (guT rfl hb89 (ldP rfl rfl)) ?_
        refine Ev.nxk (guT rfl hb89 (faO h46 o8 rfl)) ?_
        refine Ev.nxk (guT rfl hb89 (ldO rfl o8 rfl rfl rfl)) ?_
        refine Ev.nxk (guT rfl hb89 (lnS Try.underlying54 rfl)) ?_
        refine Ev.nxk (guT rfl hb89 (bGeq rfl rfl)) ?_
        refine Ev.nxk (guF rfl hb72 (pkT rfl hb89 rfl)) ?_
        refine Ev.nxk (pkF rfl hb72 rfl) ?_
        refine Ev.rend ?_
        intro e90 he91
        have h92 := envp (t := 2) he91 rfl h46
        have h93 := envp (t := 3) he91 rfl h47
        have h94 := envp (t := 4) he91 rfl h48
        have h95 : eget e90 7 = .bool r33 := envp he91 rfl h50
        have h96 : eget e90 8 = .bool r34 := envp he91 rfl h51
        have h97 : eget e90 55 = .bool (decide (a2.Tally ≥ (a1.Tallies.length : Int))) := envp he91 rfl rfl
        clear h46 h47 h48 h49 h50 h51 h52
        refine Ev.kseqN ?_
        rcases ite_some h with ⟨hb98, h⟩ | ⟨hb98, h⟩
        ·refine Ev.condT h97 hb98 ?_
         refine Ev.seq ?_
         refine Ev.reg (fun _ => rfl) ?_
         refine Ev.nxk (bldT zero56 rfl (fill0 rfl)) ?_
         refine Ev.nxput (stOK h94 rfl o10 rfl rfl ⟨rfl, ble rfl⟩ rfl rfl) ?_
         intro M99 hM100
         have o101 := set_ne hM100 ne9 o8
         have o102 : M99[M2.length]? = some (.live ⟨.box, 56, 3, [[.int .i64 0, .nils, .nils]]⟩) := set_same hM100 o10
         refine Ev.nxk (mvO rfl) ?_
         refine Ev.rend ?_
         intro e103 he104
         have h105 := envp (t := 4) he104 rfl h94
         have h106 : eget e103 5 = .int .i64 2 := envp he104 rfl rfl
         clear h92 h93 h94 h95 h96 h97
         refine Ev.kseqN ?_
         refine Ev.ex ?_
         cases h
         exact Ev.kid (show impl_do_c1_Q a1 a2 r33 r34 (([] : Mem).length) M2.length _ _ from (And.intro rfl (And.intro h105 (And.intro h106 o102))))
        refine Ev.condF h97 hb98 ?_
        refine Ev.ex ?_
        cases h
        exact Ev.kid (show impl_do_c1_Q a1 a2 r33 r34 (([] : Mem).length) M2.length _ _ from (And.intro rfl (And.intro h92 (And.intro h93 (And.intro h94 (And.intro h95 (And.intro h96 (And.intro h97 (And.intro o8 o10)))))))))
       refine Ev.nxk (gsT rfl hb89) ?_
       refine Ev.nxk (gsT rfl hb89) ?_
       refine Ev.nxk (gsT rfl hb89) ?_
       refine Ev.nxk (gsT rfl hb89) ?_
       refine Ev.nxk (gsT rfl hb89) ?_
       refine Ev.nxk (gsT rfl hb89) ?_
       refine Ev.nxk (guF rfl hb72 (pkF rfl hb89 rfl)) ?_
       refine Ev.nxk (pkF rfl hb72 rfl) ?_
       refine Ev.rend ?_
       intro e107 he108
       have h109 := envp (t := 2) he108 rfl h46
       have h110 := envp (t := 3) he108 rfl h47
       have h111 := envp (t := 4) he108 rfl h48
       have h112 : eget e107 7 = .bool r33 := envp he108 rfl h50
       have h113 : eget e107 8 = .bool r34 := envp he108 rfl h51
       have h114 : eget e107 55 = .bool false := envp he108 rfl rfl
       clear h46 h47 h48 h49 h50 h51 h52
       refine Ev.kseqN ?_
       refine Ev.condF h114 rfl ?_
       refine Ev.ex ?_
       cases h
       exact Ev.kid (show impl_do_c1_Q a1 a2 r33 r34 (([] : Mem).length) M2.length _ _ from (And.intro rfl (And.intro h109 (And.intro h110 (And.intro h111 (And.intro h112 (And.intro h113 (And.intro h114 (And.intro o8 o10)))))))))
      refine Ev.nxk (gsT rfl hb71) ?_
      refine Ev.nxk (gsT rfl hb71) ?_
      refine Ev.nxk (gsT rfl hb71) ?_
      refine Ev.nxk (gsT rfl hb71) ?_
      refine Ev.nxk (guF rfl hb54 (pkF rfl hb71 rfl)) ?_
      refine Ev.nxk (pkF rfl hb54 rfl) ?_
      refine Ev.nxk (mvO rfl) ?_
      refine Ev.nxk (guF rfl rfl (mvO h49)) ?_
      refine Ev.nxk (guF rfl rfl (mvO rfl)) ?_
      rcases ite_some h with ⟨hb115, h⟩ | ⟨hb115, h⟩
      ·refine Ev.nxk (guT rfl hb115 (faP h47 ⟨ble rfl, blt rfl⟩ rfl)) ?_
       refine Ev.nxk (guT rfl hb115 (ldP rfl rfl)) ?_
       refine Ev.nxk (guT rfl hb115 (faO h46 o8 rfl)) ?_
       refine Ev.nxk (guT rfl hb115 (ldO rfl o8 rfl rfl rfl)) ?_
       refine Ev.nxk (guT rfl hb115 (lnS Try.underlying54 rfl)) ?_
       refine Ev.nxk (guT rfl hb115 (bGeq rfl rfl)) ?_
       refine Ev.nxk (guF rfl rfl (pkT rfl hb115 rfl)) ?_
       refine Ev.nxk (pkF rfl rfl rfl) ?_
       refine Ev.rend ?_
       intro e116 he117
       have h118 := envp (t := 2) he117 rfl h46
       have h119 := envp (t := 3) he117 rfl h47
       have h120 := envp (t := 4) he117 rfl h48
       have h121 : eget e116 7 = .bool r33 := envp he117 rfl h50
       have h122 : eget e116 8 = .bool r34 := envp he117 rfl h51
       have h123 : eget e116 55 = .bool (decide (a2.Tally ≥ (a1.Tallies.length : Int))) := envp he117 rfl rfl
       clear h46 h47 h48 h49 h50 h51 h52
       refine Ev.kseqN ?_
       rcases ite_some h with ⟨hb124, h⟩ | ⟨hb124, h⟩
       ·refine Ev.condT h123 hb124 ?_
        refine Ev.seq ?_
        refine Ev.reg (fun _ => rfl) ?_
        refine Ev.nxk (bldT zero56 rfl (fill0 rfl)) ?_
        refine Ev.nxput (stOK h120 rfl o10 rfl rfl ⟨rfl, ble rfl⟩ rfl rfl) ?_
        intro M125 hM126
        have o127 := set_ne hM126 ne9 o8
        have o128 : M125[M2.length]? = some (.live ⟨.box, 56, 3, [[.int .i64 0, .nils, .nils]]⟩) := set_same hM126 o10
        refine Ev.nxk (mvO rfl) ?_
        refine Ev.rend ?_
        intro e129 he130
        have h131 := envp (t := 4) he130 rfl h120
        have h132 : eget e129 5 = .int .i64 2 := envp he130 rfl rfl
        clear h118 h119 h120 h121 h122 h123
        refine Ev.kseqN ?_
        refine Ev.ex ?_
        cases h
        exact Ev.kid (show impl_do_c1_Q a1 a2 r33 r34 (([] : Mem).length) M2.length _ _ from (And.intro rfl (And.intro h131 (And.intro h132 o128))))
       refine Ev.condF h123 hb124 ?_
       refine Ev.ex ?_
       cases h
       exact Ev.kid (show impl_do_c1_Q a1 a2 r33 r34 (([] : Mem).length) M2.length _ _ from (And.intro rfl (And.intro h118 (And.intro h119 (And.intro h120 (And.intro h121 (And.intro h122 (And.intro h123 (And.intro o8 o10)))))))))
      refine Ev.nxk (gsT rfl hb115) ?_
      refine Ev.nxk (gsT rfl hb115) ?_
      refine Ev.nxk (gsT rfl hb115) ?_
      refine Ev.nxk (gsT rfl hb115) ?_
      refine Ev.nxk (gsT rfl hb115) ?_
      refine Ev.nxk (gsT rfl hb115) ?_
      refine Ev.nxk (guF rfl rfl (pkF rfl hb115 rfl)) ?_
      refine Ev.nxk (pkF rfl rfl rfl) ?_
      refine Ev.rend ?_
      intro e133 he134
      have h135 := envp (t := 2) he134 rfl h46
      have h136 := envp (t := 3) he134 rfl h47
      have h137 := envp (t := 4) he134 rfl h48
      have h138 : eget e133 7 = .bool r33 := envp he134 rfl h50
      have h139 : eget e133 8 = .bool r34 := envp he134 rfl h51
      have h140 : eget e133 55 = .bool false := envp he134 rfl rfl
      clear h46 h47 h48 h49 h50 h51 h52
      refine Ev.kseqN ?_
      refine Ev.condF h140 rfl ?_
      refine Ev.ex ?_
      cases h
      exact Ev.kid (show impl_do_c1_Q a1 a2 r33 r34 (([] : Mem).length) M2.length _ _ from (And.intro rfl (And.intro h135 (And.intro h136 (And.intro h137 (And.intro h138 (And.intro h139 (And.intro h140 (And.intro o8 o10)))))))))
     refine Ev.nxk (gsT rfl hb53) ?_
     refine Ev.nxk (gsT rfl hb53) ?_
     refine Ev.nxk (gsT rfl hb53) ?_
     refine Ev.nxk (gsT rfl hb53) ?_
     refine Ev.nxk (pkF rfl hb53 rfl) ?_
     refine Ev.nxk (mvO rfl) ?_
     refine Ev.nxk (guF rfl rfl (mvO h51)) ?_
     refine Ev.nxk (guF rfl rfl (mvO rfl)) ?_
     rcases ite_some h with ⟨hb141, h⟩ | ⟨hb141, h⟩
     ·refine Ev.nxk (guT rfl hb141 (faP h47 ⟨ble rfl, blt rfl⟩ rfl)) ?_
      refine Ev.nxk (guT rfl hb141 (ldP rfl rfl)) ?_
      refine Ev.nxk (guT rfl hb141 (mvO h52)) ?_
      refine Ev.nxk (guT rfl hb141 (bGeq rfl rfl)) ?_
      refine Ev.nxk (guF rfl rfl (pkT rfl hb141 rfl)) ?_
      refine Ev.nxk (pkF rfl rfl rfl) ?_
      refine Ev.nxk (mvO rfl) ?_
      rcases ite_some h with ⟨hb142, h⟩ | ⟨hb142, h⟩
      ·refine Ev.nxk (gsF rfl hb142) ?_
       refine Ev.nxk (gsF rfl hb142) ?_
       refine Ev.nxk (gsU rfl) ?_
       refine Ev.nxk (gsU rfl) ?_
       refine Ev.nxk (gsU rfl) ?_
       refine Ev.nxk (gsU rfl) ?_
       refine Ev.nxk (gsU rfl) ?_
       refine Ev.nxk (gsU rfl) ?_
       refine Ev.nxk (gsF rfl hb142) ?_
       refine Ev.nxk (pkT rfl hb142 rfl) ?_
       refine Ev.rend ?_
       intro e143 he144
       have h145 := envp (t := 2) he144 rfl h46
       have h146 := envp (t := 3) he144 rfl h47
       have h147 := envp (t := 4) he144 rfl h48
       have h148 : eget e143 7 = .bool r33 := envp he144 rfl h50
       have h149 : eget e143 8 = .bool r34 := envp he144 rfl h51
       have h150 : eget e143 55 = .bool true := envp he144 rfl rfl
       clear h46 h47 h48 h49 h50 h51 h52
       refine Ev.kseqN ?_
       refine Ev.condT h150 rfl ?_
       refine Ev.seq ?_
       refine Ev.reg (fun _ => rfl) ?_
       refine Ev.nxk (bldT zero56 rfl (fill0 rfl)) ?_
       refine Ev.nxput (stOK h147 rfl o10 rfl rfl ⟨rfl, ble rfl⟩ rfl rfl) ?_
       intro M151 hM152
       have o153 := set_ne hM152 ne9 o8
       have o154 : M151[M2.length]? = some (.live ⟨.box, 56, 3, [[.int .i64 0, .nils, .nils]]⟩) := set_same hM152 o10
       refine Ev.nxk (mvO rfl) ?_
       refine Ev.rend ?_
       intro e155 he156
       have h157 := envp (t := 4) he156 rfl h147
       have h158 : eget e155 5 = .int .i64 2 := envp he156 rfl rfl
       clear h145 h146 h147 h148 h149 h150
       refine Ev.kseqN ?_
       refine Ev.ex ?_
       cases h
       exact Ev.kid (show impl_do_c1_Q a1 a2 r33 r34 (([] : Mem).length) M2.length _ _ from (And.intro rfl (And.intro h157 (And.intro h158 o154))))
      refine Ev.nxk (guF rfl hb142 (mvO h49)) ?_
      refine Ev.nxk (guF rfl hb142 (mvO rfl)) ?_
      rcases ite_some h with ⟨hb159, h⟩ | ⟨hb159, h⟩
      ·refine Ev.nxk (guT rfl hb159 (faP h47 ⟨ble rfl, blt rfl⟩ rfl)) ?_
       refine Ev.nxk (guT rfl hb159 (ldP rfl rfl)) ?_
       refine Ev.nxk (guT rfl hb159 (faO h46 o8 rfl)) ?_
       refine Ev.nxk (guT rfl hb159 (ldO rfl o8 rfl rfl rfl)) ?_
       refine Ev.nxk (guT rfl hb159 (lnS Try.underlying54 rfl)) ?_
       refine Ev.nxk (guT rfl hb159 (bGeq rfl rfl)) ?_
       refine Ev.nxk (guF rfl hb142 (pkT rfl hb159 rfl)) ?_
       refine Ev.nxk (pkF rfl hb142 rfl) ?_
       refine Ev.rend ?_
       intro e160 he161
       have h162 := envp (t := 2) he161 rfl h46
       have h163 := envp (t := 3) he161 rfl h47
       have h164 := envp (t := 4) he161 rfl h48
       have h165 : eget e160 7 = .bool r33 := envp he161 rfl h50
       have h166 : eget e160 8 = .bool r34 := envp he161 rfl h51
       have h167 : eget e160 55 = .bool (decide (a2.Tally ≥ (a1.Tallies.length : Int))) := envp he161 rfl rfl
       clear h46 h47 h48 h49 h50 h51 h52
       refine Ev.kseqN ?_
       rcases ite_some h with ⟨hb168, h⟩ | ⟨hb168, h⟩
       ·refine Ev.condT h167 hb168 ?_
        refine Ev.seq ?_
        refine Ev.reg (fun _ => rfl) ?_
        refine Ev.nxk (bldT zero56 rfl (fill0 rfl)) ?_
        refine Ev.nxput (stOK h164 rfl o10 rfl rfl ⟨rfl, ble rfl⟩ rfl rfl) ?_
        intro M169 hM170
        have o171 := set_ne hM170 ne9 o8
        have o172 : M169[M2.length]? = some (.live ⟨.box, 56, 3, [[.int .i64 0, .nils, .nils]]⟩) := set_same hM170 o10
        refine Ev.nxk (mvO rfl) ?_
        refine Ev.rend ?_
        intro e173 he174
        have h175 := envp (t := 4) he174 rfl h164
        have h176 : eget e173 5 = .int .i64 2 := envp he174 rfl rfl
        clear h162 h163 h164 h165 h166 h167
        refine Ev.kseqN ?_
        refine Ev.ex ?_
        cases h
        exact Ev.kid (show impl_do_c1_Q a1 a2 r33 r34 (([] : Mem).length) M2.length _ _ from (And.intro rfl (And.intro h175 (And.intro h176 o172))))
       refine Ev.condF h167 hb168 ?_
       refine Ev.ex ?_
       cases h
       exact Ev.kid (show impl_do_c1_Q a1 a2 r33 r34 (([] : Mem).length) M2.length _ _ from (And.intro rfl (And.intro h162 (And.intro h163 (And.intro h164 (And.intro h165 (And.intro h166 (And.intro h167 (And.intro o8 o10)))))))))
      refine Ev.nxk (gsT rfl hb159) ?_
      refine Ev.nxk (gsT rfl hb159) ?_
      refine Ev.nxk (gsT rfl hb159) ?_
      refine Ev.nxk (gsT rfl hb159) ?_
      refine Ev.nxk (gsT rfl hb159) ?_
      refine Ev.nxk (gsT rfl hb159) ?_
      refine Ev.nxk (guF rfl hb142 (pkF rfl hb159 rfl)) ?_
      refine Ev.nxk (pkF rfl hb142 rfl) ?_
      refine Ev.rend ?_
      intro e177 he178
      have h179 := envp (t := 2) he178 rfl h46
      have h180 := envp (t := 3) he178 rfl h47
      have h181 := envp (t := 4) he178 rfl h48
      have h182 : eget e177 7 = .bool r33 := envp he178 rfl h50
      have h183 : eget e177 8 = .bool r34 := envp he178 rfl h51
      have h184 : eget e177 55 = .bool false := envp he178 rfl rfl
      clear h46 h47 h48 h49 h50 h51 h52
      refine Ev.kseqN ?_
      refine Ev.condF h184 rfl ?_
      refine Ev.ex ?_
      cases h
      exact Ev.kid (show impl_do_c1_Q a1 a2 r33 r34 (([] : Mem).length) M2.length _ _ from (And.intro rfl (And.intro h179 (And.intro h180 (And.intro h181 (And.intro h182 (And.intro h183 (And.intro h184 (And.intro o8 o10)))))))))
     refine Ev.nxk (gsT rfl hb141) ?_
     refine Ev.nxk (gsT rfl hb141) ?_
     refine Ev.nxk (gsT rfl hb141) ?_
     refine Ev.nxk (gsT rfl hb141) ?_
     refine Ev.nxk (guF rfl rfl (pkF rfl hb141 rfl)) ?_
     refine Ev.nxk (pkF rfl rfl rfl) ?_
     refine Ev.nxk (mvO rfl) ?_
     refine Ev.nxk (guF rfl rfl (mvO h49)) ?_
     refine Ev.nxk (guF rfl rfl (mvO rfl)) ?_
     rcases ite_some h with ⟨hb185, h⟩ | ⟨hb185, h⟩
     ·refine Ev.nxk (guT rfl hb185 (faP h47 ⟨ble rfl, blt rfl⟩ rfl)) ?_
      refine Ev.nxk (guT rfl hb185 (ldP rfl rfl)) ?_
      refine Ev.nxk (guT rfl hb185 (faO h46 o8 rfl)) ?_
      refine Ev.nxk (guT rfl hb185 (ldO rfl o8 rfl rfl rfl)) ?_
      refine Ev.nxk (guT rfl hb185 (lnS Try.underlying54 rfl)) ?_
      refine Ev.nxk (guT rfl hb185 (bGeq rfl rfl)) ?_
      refine Ev.nxk (guF rfl rfl (pkT rfl hb185 rfl)) ?_
      refine Ev.nxk (pkF rfl rfl rfl) ?_
      refine Ev.rend ?_
      intro e186 he187
      have h188 := envp (t := 2) he187 rfl h46
      have h189 := envp (t := 3) he187 rfl h47
      have h190 := envp (t := 4) he187 rfl h48
      have h191 : eget e186 7 = .bool r33 := envp he187 rfl h50
      have h192 : eget e186 8 = .bool r34 := envp he187 rfl h51
      have h193 : eget e186 55 = .bool (decide (a2.Tally ≥ (a1.Tallies.length : Int))) := envp he187 rfl rfl
      clear h46 h47 h48 h49 h50 h51 h52
      refine Ev.kseqN ?_
      rcases ite_some h with ⟨hb194, h⟩ | ⟨hb194, h⟩
      ·refine Ev.condT h193 hb194 ?_
       refine Ev.seq ?_
       refine Ev.reg (fun _ => rfl) ?_
       refine Ev.nxk (bldT zero56 rfl (fill0 rfl)) ?_
       refine Ev.nxput (stOK h190 rfl o10 rfl rfl ⟨rfl, ble rfl⟩ rfl rfl) ?_
       intro M195 hM196
       have o197 := set_ne hM196 ne9 o8
       have o198 : M195[M2.length]? = some (.live ⟨.box, 56, 3, [[.int .i64 0, .nils, .nils]]⟩) := set_same hM196 o10
       refine Ev.nxk (mvO rfl) ?_
       refine Ev.rend ?_
       intro e199 he200
       have h201 := envp (t := 4) he200 rfl h190
       have h202 : eget e199 5 = .int .i64 2 := envp he200 rfl rfl
       clear h188 h189 h190 h191 h192 h193
       refine Ev.kseqN ?_
       refine Ev.ex ?_
       cases h
       exact Ev.kid (show impl_do_c1_Q a1 a2 r33 r34 (([] : Mem).length) M2.length _ _ from (And.intro rfl (And.intro h201 (And.intro h202 o198))))
      refine Ev.condF h193 hb194 ?_
      refine Ev.ex ?_
      cases h
      exact Ev.kid (show impl_do_c1_Q a1 a2 r33 r34 (([] : Mem).length) M2.length _ _ from (And.intro rfl (And.intro h188 (And.intro h189 (And.intro h190 (And.intro h191 (And.intro h192 (And.intro h193 (And.intro o8 o10)))))))))
     refine Ev.nxk (gsT rfl hb185) ?_
     refine Ev.nxk (gsT rfl hb185) ?_
     refine Ev.nxk (gsT rfl hb185) ?_
     refine Ev.nxk (gsT rfl hb185) ?_
     refine Ev.nxk (gsT rfl hb185) ?_
     refine Ev.nxk (gsT rfl hb185) ?_
     refine Ev.nxk (guF rfl rfl (pkF rfl hb185 rfl)) ?_
     refine Ev.nxk (pkF rfl rfl rfl) ?_
     refine Ev.rend ?_
     intro e203 he204
     have h205 := envp (t := 2) he204 rfl h46
     have h206 := envp (t := 3) he204 rfl h47
     have h207 := envp (t := 4) he204 rfl h48
     have h208 : eget e203 7 = .bool r33 := envp he204 rfl h50
     have h209 : eget e203 8 = .bool r34 := envp he204 rfl h51
     have h210 : eget e203 55 = .bool false := envp he204 rfl rfl
     clear h46 h47 h48 h49 h50 h51 h52
     refine Ev.kseqN ?_
     refine Ev.condF h210 rfl ?_
     refine Ev.ex ?_
     cases h
     exact Ev.kid (show impl_do_c1_Q a1 a2 r33 r34 (([] : Mem).length) M2.length _ _ from (And.intro rfl (And.intro h205 (And.intro h206 (And.intro h207 (And.intro h208 (And.intro h209 (And.intro h210 (And.intro o8 o10)))))))))) ?_
 rcases r719 with _ | y219
 ·intro x e211 M212 hq216
  obtain ⟨rfl, h213, h214, o215⟩ := hq216
  refine Ev.kseqR ?_
  cases h
  exact Ev.kendR (resC (ag := true) (sz := 3) ⟨by kernel_rfl, by kernel_rfl, by kernel_rfl⟩ (ldOA h213 o215 rfl rfl (ble rfl) rfl) (resT h214 res0)) rfl
 intro x e217 M218 hq718
 obtain ⟨rfl, h220, h221, h222, h223, h224, h225, o226, o227⟩ := hq718
 refine Ev.kseqN ?_
 refine Ev.seq ?_
 obtain ⟨r716, hr717, h⟩ := bind_some h
 refine Ev.cut (Q1 := impl_do_c2_Q a1 a2 r33 (([] : Mem).length) M2.length r716) (by
     have h := hr717
     refine Ev.seq ?_
     refine Ev.reg (fun _ => rfl) ?_
     refine Ev.nxk (mvO h223) ?_
     refine Ev.nxk (mvO rfl) ?_
     rcases ite_some h with ⟨hb228, h⟩ | ⟨hb228, h⟩
     ·refine Ev.nxk (guT rfl hb228 (mvO h224)) ?_
      refine Ev.nxk (pkT rfl hb228 rfl) ?_
      refine Ev.nxk (mvO rfl) ?_
      rcases ite_some h with ⟨hb229, h⟩ | ⟨hb229, h⟩
      ·refine Ev.nxk (guT rfl hb229 (faP h221 ⟨ble rfl, blt rfl⟩ rfl)) ?_
       refine Ev.nxk (guT rfl hb229 (ldP rfl rfl)) ?_
       refine Ev.nxk (guT rfl hb229 (faP h221 ⟨ble rfl, blt rfl⟩ rfl)) ?_
       refine Ev.nxk (guT rfl hb229 (ldP rfl rfl)) ?_
       refine Ev.nxk (guT rfl hb229 (bEql rfl rfl)) ?_
       refine Ev.nxk (pkT rfl hb229 rfl) ?_
       refine Ev.rend ?_
       intro e230 he231
       have h232 : eget e230 2 = .loc ([] : Mem).length 1 0 0 := envp he231 rfl h220
       have h233 : eget e230 3 = .pt none [.int .i64 a2.Day, .int .i8 a2.Kind, .int .i64 a2.Tally, .int .i64 a2.From, .int .i64 a2.To, .int .i64 a2.Amount] := envp he231 rfl h221
       have h234 : eget e230 4 = .loc M2.length 1 0 0 := envp he231 rfl h222
       have h235 : eget e230 7 = .bool r33 := envp he231 rfl h223
       have h236 : eget e230 67 = .bool (a2.From == a2.To) := envp he231 rfl rfl
       clear h220 h221 h222 h223 h224 h225
       refine Ev.kseqN ?_
       rcases ite_some h with ⟨hb237, h⟩ | ⟨hb237, h⟩
       ·refine Ev.condT h236 hb237 ?_
        refine Ev.seq ?_
        refine Ev.reg (fun _ => rfl) ?_
        refine Ev.nxk (bldT zero56 rfl (fill0 rfl)) ?_
        refine Ev.nxput (stOK h234 rfl o227 rfl rfl ⟨rfl, ble rfl⟩ rfl rfl) ?_
        intro M238 hM239
        have o240 := set_ne hM239 ne9 o226
        have o241 : M238[M2.length]? = some (.live ⟨.box, 56, 3, [[.int .i64 0, .nils, .nils]]⟩) := set_same hM239 o227
        refine Ev.nxk (mvO rfl) ?_
        refine Ev.rend ?_
        intro e242 he243
        have h244 := envp (t := 4) he243 rfl h234
        have h245 : eget e242 5 = .int .i64 4 := envp he243 rfl rfl
        clear h232 h233 h234 h235 h236
        refine Ev.kseqN ?_
        refine Ev.ex ?_
        cases h
        exact Ev.kid (show impl_do_c2_Q a1 a2 r33 (([] : Mem).length) M2.length _ _ from (And.intro rfl (And.intro h244 (And.intro h245 o241))))
       refine Ev.condF h236 hb237 ?_
       refine Ev.ex ?_
       cases h
       exact Ev.kid (show impl_do_c2_Q a1 a2 r33 (([] : Mem).length) M2.length _ _ from (And.intro rfl (And.intro h232 (And.intro h233 (And.intro h234 (And.intro h235 (And.intro h236 (And.intro o226 o227))))))))
      refine Ev.nxk (gsT rfl hb229) ?_
      refine Ev.nxk (gsT rfl hb229) ?_
      refine Ev.nxk (gsT rfl hb229) ?_
      refine Ev.nxk (gsT rfl hb229) ?_
      refine Ev.nxk (gsT rfl hb229) ?_
      refine Ev.nxk (pkF rfl hb229 rfl) ?_
      refine Ev.rend ?_
      intro e246 he247
      have h248 : eget e246 2 = .loc ([] : Mem).length 1 0 0 := envp he247 rfl h220
      have h249 : eget e246 3 = .pt none [.int .i64 a2.Day, .int .i8 a2.Kind, .int .i64 a2.Tally, .int .i64 a2.From, .int .i64 a2.To, .int .i64 a2.Amount] := envp he247 rfl h221
      have h250 : eget e246 4 = .loc M2.length 1 0 0 := envp he247 rfl h222
      have h251 : eget e246 7 = .bool r33 := envp he247 rfl h223
      have h252 : eget e246 67 = .bool false := envp he247 rfl rfl
      clear h220 h221 h222 h223 h224 h225
      refine Ev.kseqN ?_
      refine Ev.condF h252 rfl ?_
      refine Ev.ex ?_
      cases h
      exact Ev.kid (show impl_do_c2_Q a1 a2 r33 (([] : Mem).length) M2.length _ _ from (And.intro rfl (And.intro h248 (And.intro h249 (And.intro h250 (And.intro h251 (And.intro h252 (And.intro o226 o227))))))))
     refine Ev.nxk (gsT rfl hb228) ?_
     refine Ev.nxk (pkF rfl hb228 rfl) ?_
     refine Ev.nxk (mvO rfl) ?_
     refine Ev.nxk (gsT rfl rfl) ?_
     refine Ev.nxk (gsT rfl rfl) ?_
     refine Ev.nxk (gsT rfl rfl) ?_
     refine Ev.nxk (gsT rfl rfl) ?_
     refine Ev.nxk (gsT rfl rfl) ?_
     refine Ev.nxk (pkF rfl rfl rfl) ?_
     refine Ev.rend ?_
     intro e253 he254
     have h255 : eget e253 2 = .loc ([] : Mem).length 1 0 0 := envp he254 rfl h220
     have h256 : eget e253 3 = .pt none [.int .i64 a2.Day, .int .i8 a2.Kind, .int .i64 a2.Tally, .int .i64 a2.From, .int .i64 a2.To, .int .i64 a2.Amount] := envp he254 rfl h221
     have h257 : eget e253 4 = .loc M2.length 1 0 0 := envp he254 rfl h222
     have h258 : eget e253 7 = .bool r33 := envp he254 rfl h223
     have h259 : eget e253 67 = .bool false := envp he254 rfl rfl
     clear h220 h221 h222 h223 h224 h225
     refine Ev.kseqN ?_
     refine Ev.condF h259 rfl ?_
     refine Ev.ex ?_
     cases h
     exact Ev.kid (show impl_do_c2_Q a1 a2 r33 (([] : Mem).length) M2.length _ _ from (And.intro rfl (And.intro h255 (And.intro h256 (And.intro h257 (And.intro h258 (And.intro h259 (And.intro o226 o227))))))))) ?_
 rcases r716 with _ | y268
 ·intro x e260 M261 hq265
  obtain ⟨rfl, h262, h263, o264⟩ := hq265
  refine Ev.kseqR ?_
  cases h
  exact Ev.kendR (resC (ag := true) (sz := 3) ⟨by kernel_rfl, by kernel_rfl, by kernel_rfl⟩ (ldOA h262 o264 rfl rfl (ble rfl) rfl) (resT h263 res0)) rfl
 intro x e266 M267 hq715
 obtain ⟨rfl, h269, h270, h271, h272, h273, o274, o275⟩ := hq715
 refine Ev.kseqN ?_
 refine Ev.seq ?_
 refine Ev.reg (fun _ => rfl) ?_
 refine Ev.nxk (ldOA h269 o274 rfl rfl (ble rfl) rfl) ?_
 obtain ⟨⟨r277, r278, r279⟩, hx276, h⟩ := bind_some h
 refine Ev.nxcp (Ev.callT (v := .agg [.int .i64 r277, .sl (some 2) (r278.map (cI .i64)), .sl (some 156) (r279.map Tally.c)]) rfl (cns rfl rfl) rfl (impl_ownBook_ok a1 _ hx276) (th_gen (v' := .agg [.int .i64 r277, .lsl M267.length r278.length 0 r278.length, .lsl (M267.length + 1) r279.length 0 r279.length]) (l := [⟨.grow, 2, 1, r278.map (cI .i64)⟩, ⟨.grow, 156, 5, r279.map Tally.c⟩]) (own_agg (oa1 rfl (oa1 (own1_row' (c := (cI .i64)) (fun _ => rfl)) (oa1 (own1_row' (c := Tally.c) Tally.flF) oa0)))) (by simp [thaw, thaw2, thaw1, thawL, co2, co156]) rfl rfl)) ?_
 intro M282 hM283
 have o284 := push_old hM283 o274
 have o285 := push_old hM283 o275
 have ne286 : ([] : Mem).length ≠ M267.length := by have := lt_of_get (M := M267) o274; omega
 have ne287 : M2.length ≠ M267.length := by have := lt_of_get (M := M267) o275; omega
 have o288 : M282[M267.length]? = some (.live ⟨.grow, 2, 1, r278.map (cI .i64)⟩) := push_at hM283 0 rfl
 have ne289 : ([] : Mem).length ≠ (M267.length + 1) := by have := lt_of_get (M := M267) o274; omega
 have ne290 : M2.length ≠ (M267.length + 1) := by have := lt_of_get (M := M267) o275; omega
 have ne291 : M267.length ≠ (M267.length + 1) := by omega
 have o292 : M282[(M267.length + 1)]? = some (.live ⟨.grow, 156, 5, r279.map Tally.c⟩) := push_at hM283 1 rfl
 refine Ev.nxput (stOK h269 rfl o284 rfl rfl ⟨rfl, ble rfl⟩ (all1 rfl (all1 (okL o288 (by simp)) (all1 (okL o292 (by simp)) all0))) rfl) ?_
 intro M293 hM294
 have o295 : M293[([] : Mem).length]? = some (.live ⟨.box, 56, 3, [[.int .i64 r277, .lsl M267.length r278.length 0 r278.length, .lsl (M267.length + 1) r279.length 0 r279.length]]⟩) := set_same hM294 o284
 have o296 := set_ne hM294 (Ne.symm ne9) o285
 have o297 := set_ne hM294 (Ne.symm ne286) o288
 have o298 := set_ne hM294 (Ne.symm ne289) o292
 refine Ev.rend ?_
 intro e299 he300
 have h301 : eget e299 2 = .loc ([] : Mem).length 1 0 0 := envp he300 rfl h269
 have h302 : eget e299 3 = .pt none [.int .i64 a2.Day, .int .i8 a2.Kind, .int .i64 a2.Tally, .int .i64 a2.From, .int .i64 a2.To, .int .i64 a2.Amount] := envp he300 rfl h270
 have h303 : eget e299 4 = .loc M2.length 1 0 0 := envp he300 rfl h271
 have h304 : eget e299 7 = .bool r33 := envp he300 rfl h272
 clear h269 h270 h271 h272 h273
 refine Ev.kseqN ?_
 refine Ev.seq ?_
 refine Ev.reg (fun _ => rfl) ?_
 refine Ev.nxk (faP h302 ⟨ble rfl, blt rfl⟩ rfl) ?_
 refine Ev.nxk (ldP rfl rfl) ?_
 refine Ev.nxk (faO h301 o295 rfl) ?_
 refine Ev.nxput (stO rfl rfl o295 rfl rfl ⟨rfl, ble rfl⟩ rfl rfl) ?_
 intro M305 hM306
 have o307 : M305[([] : Mem).length]? = some (.live ⟨.box, 56, 3, [[.int .i64 a2.Day, .lsl M267.length r278.length 0 r278.length, .lsl (M267.length + 1) r279.length 0 r279.length]]⟩) := set_same hM306 o295
 have o308 := set_ne hM306 (Ne.symm ne9) o296
 have o309 := set_ne hM306 (Ne.symm ne286) o297
 have o310 := set_ne hM306 (Ne.symm ne289) o298
 refine Ev.rend ?_
 intro e311 he312
 have h313 := envp (t := 2) he312 rfl h301
 have h314 := envp (t := 3) he312 rfl h302
 have h315 := envp (t := 4) he312 rfl h303
 have h316 : eget e311 7 = .bool r33 := envp he312 rfl h304
 clear h301 h302 h303 h304
 refine Ev.kseqN ?_
 refine Ev.seq ?_
 refine Ev.seq ?_
 refine Ev.reg (fun _ => rfl) ?_
 refine Ev.nxk (faP h314 ⟨ble rfl, blt rfl⟩ rfl) ?_
 refine Ev.nxk (ldP rfl rfl) ?_
 refine Ev.nxk (bEql rfl rfl) ?_
 refine Ev.rend ?_
 intro e317 he318
 have h319 := envp (t := 2) he318 rfl h313
 have h320 := envp (t := 3) he318 rfl h314
 have h321 := envp (t := 4) he318 rfl h315
 have h322 : eget e317 7 = .bool r33 := envp he318 rfl h316
 have h323 : eget e317 76 = .bool (a2.Kind == 1) := envp he318 rfl rfl
 clear h313 h314 h315 h316
 refine Ev.kseqN ?_
 rcases ite_some h with ⟨hb324, h⟩ | ⟨hb324, h⟩
 ·refine Ev.condT h323 hb324 ?_
  refine Ev.seq ?_
  refine Ev.seq ?_
  refine Ev.reg (fun _ => rfl) ?_
  refine Ev.nxk (faO h319 o307 rfl) ?_
  refine Ev.nxk (ldO rfl o307 rfl rfl rfl) ?_
  refine Ev.nxk (lnL Try.underlying54 rfl o310 (by simp)) ?_
  refine Ev.nxk (bEql rfl rfl) ?_
  refine Ev.rend ?_
  intro e325 he326
  have h327 := envp (t := 2) he326 rfl h319
  have h328 := envp (t := 3) he326 rfl h320
  have h329 := envp (t := 4) he326 rfl h321
  have h330 : eget e325 80 = .bool ((r279.length : Int) == 40) := envp he326 rfl rfl
  clear h319 h320 h321 h322 h323
  refine Ev.kseqN ?_
  rcases ite_some h with ⟨hb331, h⟩ | ⟨hb331, h⟩
  ·refine Ev.condT h330 hb331 ?_
   refine Ev.seq ?_
   refine Ev.reg (fun _ => rfl) ?_
   refine Ev.nxk (bldT zero56 rfl (fill0 rfl)) ?_
   refine Ev.nxput (stOK h329 rfl o308 rfl rfl ⟨rfl, ble rfl⟩ rfl rfl) ?_
   intro M332 hM333
   have o334 := set_ne hM333 ne9 o307
   have o335 : M332[M2.length]? = some (.live ⟨.box, 56, 3, [[.int .i64 0, .nils, .nils]]⟩) := set_same hM333 o308
   have o336 := set_ne hM333 (Ne.symm ne287) o309
   have o337 := set_ne hM333 (Ne.symm ne290) o310
   refine Ev.nxk (mvO rfl) ?_
   refine Ev.rend ?_
   intro e338 he339
   have h340 := envp (t := 4) he339 rfl h329
   have h341 : eget e338 5 = .int .i64 3 := envp he339 rfl rfl
   clear h327 h328 h329 h330
   refine Ev.kseqN ?_
   refine Ev.ex ?_
   refine Ev.kseqR ?_
   refine Ev.kseqR ?_
   cases h
   exact Ev.kendR (resC (ag := true) (sz := 3) ⟨by kernel_rfl, by kernel_rfl, by kernel_rfl⟩ (ldOA h340 o335 rfl rfl (ble rfl) rfl) (resT h341 res0)) rfl
  refine Ev.condF h330 hb331 ?_
  refine Ev.ex ?_
  refine Ev.kseqN ?_
  refine Ev.seq ?_
  refine Ev.reg (fun _ => rfl) ?_
  refine Ev.nxk (faO h327 o307 rfl) ?_
  refine Ev.nxk (ldO rfl o307 rfl rfl rfl) ?_
  refine Ev.nxk (faP h328 ⟨ble rfl, blt rfl⟩ rfl) ?_
  refine Ev.nxk (ldP rfl rfl) ?_
  refine Ev.nxk (faP h328 ⟨ble rfl, blt rfl⟩ rfl) ?_
  refine Ev.nxk (ldP rfl rfl) ?_
  refine Ev.nxk (faP h328 ⟨ble rfl, blt rfl⟩ rfl) ?_
  refine Ev.nxk (ldP rfl rfl) ?_
  refine Ev.nxk (faP h328 ⟨ble rfl, blt rfl⟩ rfl) ?_
  refine Ev.nxk (ldP rfl rfl) ?_
  refine Ev.nxk (faP h328 ⟨ble rfl, blt rfl⟩ rfl) ?_
  refine Ev.nxk (ldP rfl rfl) ?_
  refine Ev.nxk (bldT zero156 (cns (pr3 rfl) (cns (pr3 rfl) (cns (pr3 rfl) (cns (pr3 rfl) (cns (pr3 rfl) rfl))))) (fill1 ⟨rfl, ble rfl⟩ rfl rfl (fill1 ⟨rfl, ble rfl⟩ rfl rfl (fill1 ⟨rfl, ble rfl⟩ rfl rfl (fill1 ⟨rfl, ble rfl⟩ rfl rfl (fill1 ⟨rfl, ble rfl⟩ rfl rfl (fill0 rfl))))))) ?_
  refine Ev.nxk (litI (cns rfl rfl) rfl ⟨rfl, by decide⟩) ?_
  obtain ⟨x342, hx343, h⟩ := bind_some h
  refine Ev.nxput (apO rfl o310 rfl (elT (c := Tally.c) (xs := [(Tally.mk a2.From a2.To a2.Day a2.Amount a2.Amount)]) rfl) hx343 Tally.fl (by decide)) ?_
  intro M344 hM345
  have o346 := set_ne hM345 ne289 o307
  have o347 := set_ne hM345 ne290 o308
  have o348 := set_ne hM345 ne291 o309
  have o349 : M344[(M267.length + 1)]? = some (.live ⟨.grow, 156, 5, x342.map Tally.c⟩) := set_same hM345 o310
  refine Ev.nxk (faO h327 o346 rfl) ?_
  refine Ev.nxput (stOK rfl rfl o346 rfl rfl ⟨rfl, ble rfl⟩ (all1 (okL o349 (by simp)) all0) rfl) ?_
  intro M350 hM351
  have o352 : M350[([] : Mem).length]? = some (.live ⟨.box, 56, 3, [[.int .i64 a2.Day, .lsl M267.length r278.length 0 r278.length, .lsl (M267.length + 1) x342.length 0 x342.length]]⟩) := set_same hM351 o346
  have o353 := set_ne hM351 (Ne.symm ne9) o347
  have o354 := set_ne hM351 (Ne.symm ne286) o348
  have o355 := set_ne hM351 (Ne.symm ne289) o349
  refine Ev.rend ?_
  intro e356 he357
  have h358 := envp (t := 2) he357 rfl h327
  have h359 := envp (t := 4) he357 rfl h329
  clear h327 h328 h329 h330
  refine Ev.kseqN ?_
  refine Ev.seq ?_
  refine Ev.reg (fun _ => rfl) ?_
  refine Ev.nxk (ldOA h358 o352 rfl rfl (ble rfl) rfl) ?_
  refine Ev.nxput (stOK h359 rfl o353 rfl rfl ⟨rfl, ble rfl⟩ (all1 rfl (all1 (okL o354 (by simp)) (all1 (okL o355 (by simp)) all0))) rfl) ?_
  intro M360 hM361
  have o362 := set_ne hM361 ne9 o352
  have o363 : M360[M2.length]? = some (.live ⟨.box, 56, 3, [[.int .i64 a2.Day, .lsl M267.length r278.length 0 r278.length, .lsl (M267.length + 1) x342.length 0 x342.length]]⟩) := set_same hM361 o353
  have o364 := set_ne hM361 (Ne.symm ne287) o354
  have o365 := set_ne hM361 (Ne.symm ne290) o355
  refine Ev.nxk (mvO rfl) ?_
  refine Ev.rend ?_
  intro e366 he367
  have h368 := envp (t := 4) he367 rfl h359
  have h369 : eget e366 5 = .int .i64 0 := envp he367 rfl rfl
  clear h358 h359
  refine Ev.kseqN ?_
  refine Ev.ex ?_
  refine Ev.kseqR ?_
  cases h
  exact Ev.kendR (resC (ag := true) (sz := 3) ⟨by kernel_rfl, by kernel_rfl, by kernel_rfl⟩ (ldOA h368 o363 rfl rfl (ble rfl) rfl) (resT h369 res0)) (rr_tup (mp1 (rr_agg (mp1 rfl (mp1 (rr_row o364 rfl (cI_fl _)) (mp1 (rr_row o365 rfl Tally.fl) mp0)))) (mp1 rfl mp0)))
 refine Ev.condF h323 hb324 ?_
 refine Ev.ex ?_
 refine Ev.kseqN ?_
 refine Ev.seq ?_
 refine Ev.reg (fun _ => rfl) ?_
 refine Ev.nxk (faO h319 o307 rfl) ?_
 refine Ev.nxk (ldO rfl o307 rfl rfl rfl) ?_
 refine Ev.nxk (faP h320 ⟨ble rfl, blt rfl⟩ rfl) ?_
 refine Ev.nxk (ldP rfl rfl) ?_
 obtain ⟨x370, hx371, h⟩ := bind_some h
 refine Ev.nxk (ixO rfl o310 rfl rfl (rd_get hx371).1 (rd_lt hx371).2) ?_
 refine Ev.nxk (mvO rfl) ?_
 refine Ev.rend ?_
 intro e372 he373
 have h374 := envp (t := 2) he373 rfl h319
 have h375 := envp (t := 3) he373 rfl h320
 have h376 := envp (t := 4) he373 rfl h321
 have h377 : eget e372 7 = .bool r33 := envp he373 rfl h322
 have h378 : eget e372 11 = .loc (M267.length + 1) r279.length (0 + a2.Tally.toNat) 0 := envp he373 rfl rfl
 clear h319 h320 h321 h322 h323
 refine Ev.kseqN ?_
 refine Ev.seq ?_
 obtain ⟨r713, hr714, h⟩ := bind_some h
 refine Ev.cut (Q1 := impl_do_c3_Q a2 r278 r279 (([] : Mem).length) M2.length M267.length (M267.length + 1) r713) (by
     have h := hr714
     refine Ev.seq ?_
     refine Ev.regD (fun _ => rfl) ?_
     refine Ev.nfk (mvO h377) ?_
     refine Ev.nfk (mvO rfl) ?_
     rcases ite_some h with ⟨hb379, h⟩ | ⟨hb379, h⟩
     ·refine Ev.nfk (guT rfl hb379 (faP h375 ⟨ble rfl, blt rfl⟩ rfl)) ?_
      refine Ev.nfk (guT rfl hb379 (ldP rfl rfl)) ?_
      refine Ev.nfk (guT rfl hb379 (mvO h378)) ?_
      refine Ev.nfk (guT rfl hb379 (ncO rfl o310 (by simp))) ?_
      refine Ev.nfk (guT rfl hb379 (faO rfl o310 (by simp))) ?_
      refine Ev.nfk (guT rfl hb379 (ldO rfl o310 (by simp) (by rw [Nat.zero_add]; exact mapg (rd_get hx371).2) rfl)) ?_
      refine Ev.nfk (guT rfl hb379 (bNeq rfl rfl)) ?_
      refine Ev.nfk (pkT rfl hb379 rfl) ?_
      refine Ev.nfk (mvO rfl) ?_
      rcases ite_some h with ⟨hb380, h⟩ | ⟨hb380, h⟩
      ·refine Ev.nfk (gsF rfl hb380) ?_
       refine Ev.nfk (gsF rfl hb380) ?_
       refine Ev.nfk (gsF rfl hb380) ?_
       refine Ev.nfk (gsF rfl hb380) ?_
       refine Ev.nfk (gsF rfl hb380) ?_
       refine Ev.nfk (pkT rfl hb380 rfl) ?_
       refine Ev.nfk (mvO rfl) ?_
       refine Ev.nfk (gsF rfl rfl) ?_
       refine Ev.nfk (gsF rfl rfl) ?_
       refine Ev.nfk (gsF rfl rfl) ?_
       refine Ev.nfk (gsF rfl rfl) ?_
       refine Ev.nfk (gsU rfl) ?_
       refine Ev.nfk (gsU rfl) ?_
       refine Ev.nfk (gsU rfl) ?_
       refine Ev.nfk (gsU rfl) ?_
       refine Ev.nfk (gsU rfl) ?_
       refine Ev.nfk (gsU rfl) ?_
       refine Ev.nfk (gsU rfl) ?_
       refine Ev.nfk (gsF rfl rfl) ?_
       refine Ev.nfk (pkT rfl rfl rfl) ?_
       refine Ev.fend0 ?_
       refine Ev.rend ?_
       intro e381 he382
       have h383 := envp (t := 2) he382 rfl h374
       have h384 := envp (t := 3) he382 rfl h375
       have h385 := envp (t := 4) he382 rfl h376
       have h386 := envp (t := 11) he382 rfl h378
       have h387 : eget e381 134 = .bool true := envp he382 rfl rfl
       clear h374 h375 h376 h377 h378
       refine Ev.kseqN ?_
       refine Ev.condT h387 rfl ?_
       refine Ev.seq ?_
       refine Ev.reg (fun _ => rfl) ?_
       refine Ev.nxk (bldT zero56 rfl (fill0 rfl)) ?_
       refine Ev.nxput (stOK h385 rfl o308 rfl rfl ⟨rfl, ble rfl⟩ rfl rfl) ?_
       intro M388 hM389
       have o390 := set_ne hM389 ne9 o307
       have o391 : M388[M2.length]? = some (.live ⟨.box, 56, 3, [[.int .i64 0, .nils, .nils]]⟩) := set_same hM389 o308
       have o392 := set_ne hM389 (Ne.symm ne287) o309
       have o393 := set_ne hM389 (Ne.symm ne290) o310
       refine Ev.nxk (mvO rfl) ?_
       refine Ev.rend ?_
       intro e394 he395
       have h396 := envp (t := 4) he395 rfl h385
       have h397 : eget e394 5 = .int .i64 4 := envp he395 rfl rfl
       clear h383 h384 h385 h386 h387
       refine Ev.kseqN ?_
       refine Ev.ex ?_
       cases h
       exact Ev.kid (show impl_do_c3_Q a2 r278 r279 (([] : Mem).length) M2.length M267.length (M267.length + 1) _ _ from (And.intro rfl (And.intro h396 (And.intro h397 o391))))
      refine Ev.nfk (guF rfl hb380 (mvO h378)) ?_
      refine Ev.nfk (guF rfl hb380 (ncO rfl o310 (by simp))) ?_
      refine Ev.nfk (guF rfl hb380 (faO rfl o310 (by simp))) ?_
      refine Ev.nfk (guF rfl hb380 (ldO rfl o310 (by simp) (by rw [Nat.zero_add]; exact mapg (rd_get hx371).2) rfl)) ?_
      refine Ev.nfk (guF rfl hb380 (bEql rfl rfl)) ?_
      refine Ev.nfk (pkF rfl hb380 rfl) ?_
      refine Ev.nfk (mvO rfl) ?_
      rcases ite_some h with ⟨hb398, h⟩ | ⟨hb398, h⟩
      ·refine Ev.nfk (gsF rfl hb398) ?_
       refine Ev.nfk (gsF rfl hb398) ?_
       refine Ev.nfk (gsF rfl hb398) ?_
       refine Ev.nfk (gsF rfl hb398) ?_
       refine Ev.nfk (gsU rfl) ?_
       refine Ev.nfk (gsU rfl) ?_
       refine Ev.nfk (gsU rfl) ?_
       refine Ev.nfk (gsU rfl) ?_
       refine Ev.nfk (gsU rfl) ?_
       refine Ev.nfk (gsU rfl) ?_
       refine Ev.nfk (gsU rfl) ?_
       refine Ev.nfk (gsF rfl hb398) ?_
       refine Ev.nfk (pkT rfl hb398 rfl) ?_
       refine Ev.fend0 ?_
       refine Ev.rend ?_
       intro e399 he400
       have h401 := envp (t := 2) he400 rfl h374
       have h402 := envp (t := 3) he400 rfl h375
       have h403 := envp (t := 4) he400 rfl h376
       have h404 := envp (t := 11) he400 rfl h378
       have h405 : eget e399 134 = .bool true := envp he400 rfl rfl
       clear h374 h375 h376 h377 h378
       refine Ev.kseqN ?_
       refine Ev.condT h405 rfl ?_
       refine Ev.seq ?_
       refine Ev.reg (fun _ => rfl) ?_
       refine Ev.nxk (bldT zero56 rfl (fill0 rfl)) ?_
       refine Ev.nxput (stOK h403 rfl o308 rfl rfl ⟨rfl, ble rfl⟩ rfl rfl) ?_
       intro M406 hM407
       have o408 := set_ne hM407 ne9 o307
       have o409 : M406[M2.length]? = some (.live ⟨.box, 56, 3, [[.int .i64 0, .nils, .nils]]⟩) := set_same hM407 o308
       have o410 := set_ne hM407 (Ne.symm ne287) o309
       have o411 := set_ne hM407 (Ne.symm ne290) o310
       refine Ev.nxk (mvO rfl) ?_
       refine Ev.rend ?_
       intro e412 he413
       have h414 := envp (t := 4) he413 rfl h403
       have h415 : eget e412 5 = .int .i64 4 := envp he413 rfl rfl
       clear h401 h402 h403 h404 h405
       refine Ev.kseqN ?_
       refine Ev.ex ?_
       cases h
       exact Ev.kid (show impl_do_c3_Q a2 r278 r279 (([] : Mem).length) M2.length M267.length (M267.length + 1) _ _ from (And.intro rfl (And.intro h414 (And.intro h415 o409))))
      refine Ev.nfk (guF rfl hb398 (faP h375 ⟨ble rfl, blt rfl⟩ rfl)) ?_
      refine Ev.nfk (guF rfl hb398 (ldP rfl rfl)) ?_
      refine Ev.nfk (guF rfl hb398 (bEql rfl rfl)) ?_
      refine Ev.nfk (guF rfl hb398 (mvO rfl)) ?_
      rcases ite_some h with ⟨hb416, h⟩ | ⟨hb416, h⟩
      ·refine Ev.nfk (guT rfl hb416 (faP h375 ⟨ble rfl, blt rfl⟩ rfl)) ?_
       refine Ev.nfk (guT rfl hb416 (ldP rfl rfl)) ?_
       refine Ev.nfk (guT rfl hb416 (mvO h378)) ?_
       refine Ev.nfk (guT rfl hb416 (ncO rfl o310 (by simp))) ?_
       refine Ev.nfk (guT rfl hb416 (faO rfl o310 (by simp))) ?_
       refine Ev.nfk (guT rfl hb416 (ldO rfl o310 (by simp) (by rw [Nat.zero_add]; exact mapg (rd_get hx371).2) rfl)) ?_
       refine Ev.nfk (guT rfl hb416 (bGtr rfl rfl)) ?_
       refine Ev.nfk (guF rfl hb398 (pkT rfl hb416 rfl)) ?_
       refine Ev.nfk (pkF rfl hb398 rfl) ?_
       refine Ev.fend0 ?_
       refine Ev.rend ?_
       intro e417 he418
       have h419 := envp (t := 2) he418 rfl h374
       have h420 := envp (t := 3) he418 rfl h375
       have h421 := envp (t := 4) he418 rfl h376
       have h422 := envp (t := 11) he418 rfl h378
       have h423 : eget e417 134 = .bool (decide (a2.Amount > x370.Left)) := envp he418 rfl rfl
       clear h374 h375 h376 h377 h378
       refine Ev.kseqN ?_
       rcases ite_some h with ⟨hb424, h⟩ | ⟨hb424, h⟩
       ·refine Ev.condT h423 hb424 ?_
        refine Ev.seq ?_
        refine Ev.reg (fun _ => rfl) ?_
        refine Ev.nxk (bldT zero56 rfl (fill0 rfl)) ?_
        refine Ev.nxput (stOK h421 rfl o308 rfl rfl ⟨rfl, ble rfl⟩ rfl rfl) ?_
        intro M425 hM426
        have o427 := set_ne hM426 ne9 o307
        have o428 : M425[M2.length]? = some (.live ⟨.box, 56, 3, [[.int .i64 0, .nils, .nils]]⟩) := set_same hM426 o308
        have o429 := set_ne hM426 (Ne.symm ne287) o309
        have o430 := set_ne hM426 (Ne.symm ne290) o310
        refine Ev.nxk (mvO rfl) ?_
        refine Ev.rend ?_
        intro e431 he432
        have h433 := envp (t := 4) he432 rfl h421
        have h434 : eget e431 5 = .int .i64 4 := envp he432 rfl rfl
        clear h419 h420 h421 h422 h423
        refine Ev.kseqN ?_
        refine Ev.ex ?_
        cases h
        exact Ev.kid (show impl_do_c3_Q a2 r278 r279 (([] : Mem).length) M2.length M267.length (M267.length + 1) _ _ from (And.intro rfl (And.intro h433 (And.intro h434 o428))))
       refine Ev.condF h423 hb424 ?_
       refine Ev.ex ?_
       cases h
       exact Ev.kid (show impl_do_c3_Q a2 r278 r279 (([] : Mem).length) M2.length M267.length (M267.length + 1) _ _ from (And.intro rfl (And.intro h419 (And.intro h420 (And.intro h421 (And.intro h422 (And.intro h423 (And.intro o307 (And.intro o309 (And.intro o310 o308))))))))))
      refine Ev.nfk (gsT rfl hb416) ?_
      refine Ev.nfk (gsT rfl hb416) ?_
      refine Ev.nfk (gsT rfl hb416) ?_
      refine Ev.nfk (gsT rfl hb416) ?_
      refine Ev.nfk (gsT rfl hb416) ?_
      refine Ev.nfk (gsT rfl hb416) ?_
      refine Ev.nfk (gsT rfl hb416) ?_
      refine Ev.nfk (guF rfl hb398 (pkF rfl hb416 rfl)) ?_
      refine Ev.nfk (pkF rfl hb398 rfl) ?_
      refine Ev.fend0 ?_
      refine Ev.rend ?_
      intro e435 he436
      have h437 := envp (t := 2) he436 rfl h374
      have h438 := envp (t := 3) he436 rfl h375
      have h439 := envp (t := 4) he436 rfl h376
      have h440 := envp (t := 11) he436 rfl h378
      have h441 : eget e435 134 = .bool false := envp he436 rfl rfl
      clear h374 h375 h376 h377 h378
      refine Ev.kseqN ?_
      refine Ev.condF h441 rfl ?_
      refine Ev.ex ?_
      cases h
      exact Ev.kid (show impl_do_c3_Q a2 r278 r279 (([] : Mem).length) M2.length M267.length (M267.length + 1) _ _ from (And.intro rfl (And.intro h437 (And.intro h438 (And.intro h439 (And.intro h440 (And.intro h441 (And.intro o307 (And.intro o309 (And.intro o310 o308))))))))))
     refine Ev.nfk (gsT rfl hb379) ?_
     refine Ev.nfk (gsT rfl hb379) ?_
     refine Ev.nfk (gsT rfl hb379) ?_
     refine Ev.nfk (gsT rfl hb379) ?_
     refine Ev.nfk (gsT rfl hb379) ?_
     refine Ev.nfk (gsT rfl hb379) ?_
     refine Ev.nfk (gsT rfl hb379) ?_
     refine Ev.nfk (pkF rfl hb379 rfl) ?_
     refine Ev.nfk (mvO rfl) ?_
     refine Ev.nfk (guF rfl rfl (mvO h378)) ?_
     refine Ev.nfk (guF rfl rfl (ncO rfl o310 (by simp))) ?_
     refine Ev.nfk (guF rfl rfl (faO rfl o310 (by simp))) ?_
     refine Ev.nfk (guF rfl rfl (ldO rfl o310 (by simp) (by rw [Nat.zero_add]; exact mapg (rd_get hx371).2) rfl)) ?_
     refine Ev.nfk (guF rfl rfl (bEql rfl rfl)) ?_
     refine Ev.nfk (pkF rfl rfl rfl) ?_
     refine Ev.nfk (mvO rfl) ?_
     rcases ite_some h with ⟨hb442, h⟩ | ⟨hb442, h⟩
     ·refine Ev.nfk (gsF rfl hb442) ?_
      refine Ev.nfk (gsF rfl hb442) ?_
      refine Ev.nfk (gsF rfl hb442) ?_
      refine Ev.nfk (gsF rfl hb442) ?_
      refine Ev.nfk (gsU rfl) ?_
      refine Ev.nfk (gsU rfl) ?_
      refine Ev.nfk (gsU rfl) ?_
      refine Ev.nfk (gsU rfl) ?_
      refine Ev.nfk (gsU rfl) ?_
      refine Ev.nfk (gsU rfl) ?_
      refine Ev.nfk (gsU rfl) ?_
      refine Ev.nfk (gsF rfl hb442) ?_
      refine Ev.nfk (pkT rfl hb442 rfl) ?_
      refine Ev.fend0 ?_
      refine Ev.rend ?_
      intro e443 he444
      have h445 := envp (t := 2) he444 rfl h374
      have h446 := envp (t := 3) he444 rfl h375
      have h447 := envp (t := 4) he444 rfl h376
      have h448 := envp (t := 11) he444 rfl h378
      have h449 : eget e443 134 = .bool true := envp he444 rfl rfl
      clear h374 h375 h376 h377 h378
      refine Ev.kseqN ?_
      refine Ev.condT h449 rfl ?_
      refine Ev.seq ?_
      refine Ev.reg (fun _ => rfl) ?_
      refine Ev.nxk (bldT zero56 rfl (fill0 rfl)) ?_
      refine Ev.nxput (stOK h447 rfl o308 rfl rfl ⟨rfl, ble rfl⟩ rfl rfl) ?_
      intro M450 hM451
      have o452 := set_ne hM451 ne9 o307
      have o453 : M450[M2.length]? = some (.live ⟨.box, 56, 3, [[.int .i64 0, .nils, .nils]]⟩) := set_same hM451 o308
      have o454 := set_ne hM451 (Ne.symm ne287) o309
      have o455 := set_ne hM451 (Ne.symm ne290) o310
      refine Ev.nxk (mvO rfl) ?_
      refine Ev.rend ?_
      intro e456 he457
      have h458 := envp (t := 4) he457 rfl h447
      have h459 : eget e456 5 = .int .i64 4 := envp he457 rfl rfl
      clear h445 h446 h447 h448 h449
      refine Ev.kseqN ?_
      refine Ev.ex ?_
      cases h
      exact Ev.kid (show impl_do_c3_Q a2 r278 r279 (([] : Mem).length) M2.length M267.length (M267.length + 1) _ _ from (And.intro rfl (And.intro h458 (And.intro h459 o453))))
     refine Ev.nfk (guF rfl hb442 (faP h375 ⟨ble rfl, blt rfl⟩ rfl)) ?_
     refine Ev.nfk (guF rfl hb442 (ldP rfl rfl)) ?_
     refine Ev.nfk (guF rfl hb442 (bEql rfl rfl)) ?_
     refine Ev.nfk (guF rfl hb442 (mvO rfl)) ?_
     rcases ite_some h with ⟨hb460, h⟩ | ⟨hb460, h⟩
     ·refine Ev.nfk (guT rfl hb460 (faP h375 ⟨ble rfl, blt rfl⟩ rfl)) ?_
      refine Ev.nfk (guT rfl hb460 (ldP rfl rfl)) ?_
      refine Ev.nfk (guT rfl hb460 (mvO h378)) ?_
      refine Ev.nfk (guT rfl hb460 (ncO rfl o310 (by simp))) ?_
      refine Ev.nfk (guT rfl hb460 (faO rfl o310 (by simp))) ?_
      refine Ev.nfk (guT rfl hb460 (ldO rfl o310 (by simp) (by rw [Nat.zero_add]; exact mapg (rd_get hx371).2) rfl)) ?_
      refine Ev.nfk (guT rfl hb460 (bGtr rfl rfl)) ?_
      refine Ev.nfk (guF rfl hb442 (pkT rfl hb460 rfl)) ?_
      refine Ev.nfk (pkF rfl hb442 rfl) ?_
      refine Ev.fend0 ?_
      refine Ev.rend ?_
      intro e461 he462
      have h463 := envp (t := 2) he462 rfl h374
      have h464 := envp (t := 3) he462 rfl h375
      have h465 := envp (t := 4) he462 rfl h376
      have h466 := envp (t := 11) he462 rfl h378
      have h467 : eget e461 134 = .bool (decide (a2.Amount > x370.Left)) := envp he462 rfl rfl
      clear h374 h375 h376 h377 h378
      refine Ev.kseqN ?_
      rcases ite_some h with ⟨hb468, h⟩ | ⟨hb468, h⟩
      ·refine Ev.condT h467 hb468 ?_
       refine Ev.seq ?_
       refine Ev.reg (fun _ => rfl) ?_
       refine Ev.nxk (bldT zero56 rfl (fill0 rfl)) ?_
       refine Ev.nxput (stOK h465 rfl o308 rfl rfl ⟨rfl, ble rfl⟩ rfl rfl) ?_
       intro M469 hM470
       have o471 := set_ne hM470 ne9 o307
       have o472 : M469[M2.length]? = some (.live ⟨.box, 56, 3, [[.int .i64 0, .nils, .nils]]⟩) := set_same hM470 o308
       have o473 := set_ne hM470 (Ne.symm ne287) o309
       have o474 := set_ne hM470 (Ne.symm ne290) o310
       refine Ev.nxk (mvO rfl) ?_
       refine Ev.rend ?_
       intro e475 he476
       have h477 := envp (t := 4) he476 rfl h465
       have h478 : eget e475 5 = .int .i64 4 := envp he476 rfl rfl
       clear h463 h464 h465 h466 h467
       refine Ev.kseqN ?_
       refine Ev.ex ?_
       cases h
       exact Ev.kid (show impl_do_c3_Q a2 r278 r279 (([] : Mem).length) M2.length M267.length (M267.length + 1) _ _ from (And.intro rfl (And.intro h477 (And.intro h478 o472))))
      refine Ev.condF h467 hb468 ?_
      refine Ev.ex ?_
      cases h
      exact Ev.kid (show impl_do_c3_Q a2 r278 r279 (([] : Mem).length) M2.length M267.length (M267.length + 1) _ _ from (And.intro rfl (And.intro h463 (And.intro h464 (And.intro h465 (And.intro h466 (And.intro h467 (And.intro o307 (And.intro o309 (And.intro o310 o308))))))))))
     refine Ev.nfk (gsT rfl hb460) ?_
     refine Ev.nfk (gsT rfl hb460) ?_
     refine Ev.nfk (gsT rfl hb460) ?_
     refine Ev.nfk (gsT rfl hb460) ?_
     refine Ev.nfk (gsT rfl hb460) ?_
     refine Ev.nfk (gsT rfl hb460) ?_
     refine Ev.nfk (gsT rfl hb460) ?_
     refine Ev.nfk (guF rfl hb442 (pkF rfl hb460 rfl)) ?_
     refine Ev.nfk (pkF rfl hb442 rfl) ?_
     refine Ev.fend0 ?_
     refine Ev.rend ?_
     intro e479 he480
     have h481 := envp (t := 2) he480 rfl h374
     have h482 := envp (t := 3) he480 rfl h375
     have h483 := envp (t := 4) he480 rfl h376
     have h484 := envp (t := 11) he480 rfl h378
     have h485 : eget e479 134 = .bool false := envp he480 rfl rfl
     clear h374 h375 h376 h377 h378
     refine Ev.kseqN ?_
     refine Ev.condF h485 rfl ?_
     refine Ev.ex ?_
     cases h
     exact Ev.kid (show impl_do_c3_Q a2 r278 r279 (([] : Mem).length) M2.length M267.length (M267.length + 1) _ _ from (And.intro rfl (And.intro h481 (And.intro h482 (And.intro h483 (And.intro h484 (And.intro h485 (And.intro o307 (And.intro o309 (And.intro o310 o308))))))))))) ?_
 rcases r713 with _ | y494
 ·intro x e486 M487 hq491
  obtain ⟨rfl, h488, h489, o490⟩ := hq491
  refine Ev.kseqR ?_
  cases h
  exact Ev.kendR (resC (ag := true) (sz := 3) ⟨by kernel_rfl, by kernel_rfl, by kernel_rfl⟩ (ldOA h488 o490 rfl rfl (ble rfl) rfl) (resT h489 res0)) rfl
 intro x e492 M493 hq712
 obtain ⟨rfl, h495, h496, h497, h498, h499, o500, o501, o502, o503⟩ := hq712
 refine Ev.kseqN ?_
 refine Ev.seq ?_
 refine Ev.seq ?_
 refine Ev.reg (fun _ => rfl) ?_
 refine Ev.nxk (faP h496 ⟨ble rfl, blt rfl⟩ rfl) ?_
 refine Ev.nxk (ldP rfl rfl) ?_
 refine Ev.rend ?_
 intro e504 he505
 have h506 : eget e504 2 = .loc ([] : Mem).length 1 0 0 := envp he505 rfl h495
 have h507 : eget e504 3 = .pt none [.int .i64 a2.Day, .int .i8 a2.Kind, .int .i64 a2.Tally, .int .i64 a2.From, .int .i64 a2.To, .int .i64 a2.Amount] := envp he505 rfl h496
 have h508 : eget e504 4 = .loc M2.length 1 0 0 := envp he505 rfl h497
 have h509 : eget e504 11 = .loc (M267.length + 1) r279.length (0 + a2.Tally.toNat) 0 := envp he505 rfl h498
 have h510 : eget e504 137 = .int .i8 a2.Kind := envp he505 rfl rfl
 clear h495 h496 h497 h498 h499
 refine Ev.kseqN ?_
 refine Ev.blk ?_
 refine Ev.seq ?_
 refine Ev.reg (fun _ => rfl) ?_
 refine Ev.nxk (bEql h510 rfl) ?_
 refine Ev.nxk (mvO rfl) ?_
 refine Ev.rend ?_
 intro e511 he512
 have h513 := envp (t := 2) he512 rfl h506
 have h514 := envp (t := 3) he512 rfl h507
 have h515 := envp (t := 4) he512 rfl h508
 have h516 := envp (t := 11) he512 rfl h509
 have h517 := envp (t := 137) he512 rfl h510
 have h518 : eget e511 138 = .bool (a2.Kind == 2) := envp he512 rfl rfl
 clear h506 h507 h508 h509 h510
 refine Ev.kseqN ?_
 rcases ite_some h with ⟨hb519, h⟩ | ⟨hb519, h⟩
 ·refine Ev.condT h518 hb519 ?_
  refine Ev.seq ?_
  refine Ev.reg (fun _ => rfl) ?_
  refine Ev.nxk (mvO h516) ?_
  refine Ev.nxk (faP h514 ⟨ble rfl, blt rfl⟩ rfl) ?_
  refine Ev.nxk (ldP rfl rfl) ?_
  refine Ev.nxk (ncO rfl o502 (by simp)) ?_
  refine Ev.nxk (faO rfl o502 (by simp)) ?_
  refine Ev.nxput (stR (u := x370) (u' := (Tally.mk x370.Debtor a2.To x370.Cut x370.Amount x370.Left)) rfl rfl o502 rfl (by rw [Nat.zero_add]; exact (rd_get hx371).2) ⟨rfl, ble rfl⟩ rfl rfl) ?_
  intro M520 hM521
  rw [Nat.zero_add] at hM521
  have o522 := set_ne hM521 ne289 o500
  have o523 := set_ne hM521 ne291 o501
  have o524 : M520[(M267.length + 1)]? = some (.live ⟨.grow, 156, 5, (r279.set a2.Tally.toNat (Tally.mk x370.Debtor a2.To x370.Cut x370.Amount x370.Left)).map Tally.c⟩) := set_same hM521 o502
  have o525 := set_ne hM521 ne290 o503
  have hx526 := rd_set (u' := (Tally.mk x370.Debtor a2.To x370.Cut x370.Amount x370.Left)) hx371
  refine Ev.rend ?_
  intro e527 he528
  have h529 := envp (t := 2) he528 rfl h513
  have h530 := envp (t := 3) he528 rfl h514
  have h531 := envp (t := 4) he528 rfl h515
  have h532 := envp (t := 11) he528 rfl h516
  clear h513 h514 h515 h516 h517 h518
  refine Ev.kseqN ?_
  refine Ev.seq ?_
  refine Ev.regD (fun _ => rfl) ?_
  refine Ev.nfk (faP h530 ⟨ble rfl, blt rfl⟩ rfl) ?_
  refine Ev.nfk (ldP rfl rfl) ?_
  refine Ev.nfk (mvO h532) ?_
  refine Ev.nfk (ncO rfl o524 (by simp)) ?_
  refine Ev.nfk (faO rfl o524 (by simp)) ?_
  refine Ev.nfk (ldO rfl o524 (by simp) (by rw [Nat.zero_add]; exact mapg (rd_get hx526).2) rfl) ?_
  refine Ev.nfk (bEql rfl rfl) ?_
  refine Ev.fend0 ?_
  refine Ev.rend ?_
  intro e533 he534
  have h535 := envp (t := 2) he534 rfl h529
  have h536 := envp (t := 4) he534 rfl h531
  have h537 := envp (t := 11) he534 rfl h532
  have h538 : eget e533 151 = .bool (a2.To == ((Tally.mk x370.Debtor a2.To x370.Cut x370.Amount x370.Left)).Debtor) := envp he534 rfl rfl
  clear h529 h530 h531 h532
  refine Ev.kseqN ?_
  rcases ite_some h with ⟨hb539, h⟩ | ⟨hb539, h⟩
  ·refine Ev.condT h538 hb539 ?_
   refine Ev.reg (fun _ => rfl) ?_
   refine Ev.nxk (mvO h537) ?_
   refine Ev.nxk (ncO rfl o524 (by simp)) ?_
   refine Ev.nxk (faO rfl o524 (by simp)) ?_
   refine Ev.nxput (stR (u := (Tally.mk x370.Debtor a2.To x370.Cut x370.Amount x370.Left)) (u' := (Tally.mk ((Tally.mk x370.Debtor a2.To x370.Cut x370.Amount x370.Left)).Debtor ((Tally.mk x370.Debtor a2.To x370.Cut x370.Amount x370.Left)).Holder ((Tally.mk x370.Debtor a2.To x370.Cut x370.Amount x370.Left)).Cut ((Tally.mk x370.Debtor a2.To x370.Cut x370.Amount x370.Left)).Amount 0)) rfl rfl o524 (by simp) (by rw [Nat.zero_add]; exact (rd_get hx526).2) ⟨rfl, ble rfl⟩ rfl rfl) ?_
   intro M540 hM541
   rw [Nat.zero_add] at hM541
   have o542 := set_ne hM541 ne289 o522
   have o543 := set_ne hM541 ne291 o523
   have o544 : M540[(M267.length + 1)]? = some (.live ⟨.grow, 156, 5, ((r279.set a2.Tally.toNat (Tally.mk x370.Debtor a2.To x370.Cut x370.Amount x370.Left)).set a2.Tally.toNat (Tally.mk ((Tally.mk x370.Debtor a2.To x370.Cut x370.Amount x370.Left)).Debtor ((Tally.mk x370.Debtor a2.To x370.Cut x370.Amount x370.Left)).Holder ((Tally.mk x370.Debtor a2.To x370.Cut x370.Amount x370.Left)).Cut ((Tally.mk x370.Debtor a2.To x370.Cut x370.Amount x370.Left)).Amount 0)).map Tally.c⟩) := set_same hM541 o524
   have o545 := set_ne hM541 ne290 o525
   have hx546 := rd_set (u' := (Tally.mk ((Tally.mk x370.Debtor a2.To x370.Cut x370.Amount x370.Left)).Debtor ((Tally.mk x370.Debtor a2.To x370.Cut x370.Amount x370.Left)).Holder ((Tally.mk x370.Debtor a2.To x370.Cut x370.Amount x370.Left)).Cut ((Tally.mk x370.Debtor a2.To x370.Cut x370.Amount x370.Left)).Amount 0)) hx526
   refine Ev.rend ?_
   intro e547 he548
   have h549 := envp (t := 2) he548 rfl h535
   have h550 := envp (t := 4) he548 rfl h536
   clear h535 h536 h537 h538
   refine Ev.kblkN ?_
   refine Ev.kseqN ?_
   refine Ev.seq ?_
   refine Ev.reg (fun _ => rfl) ?_
   refine Ev.nxk (ldOA h549 o542 rfl rfl (ble rfl) rfl) ?_
   refine Ev.nxput (stOK h550 rfl o545 rfl rfl ⟨rfl, ble rfl⟩ (all1 rfl (all1 (okL o543 (by simp)) (all1 (okL o544 (by simp)) all0))) rfl) ?_
   intro M551 hM552
   have o553 := set_ne hM552 ne9 o542
   have o554 := set_ne hM552 (Ne.symm ne287) o543
   have o555 := set_ne hM552 (Ne.symm ne290) o544
   have o556 : M551[M2.length]? = some (.live ⟨.box, 56, 3, [[.int .i64 a2.Day, .lsl M267.length r278.length 0 r278.length, .lsl (M267.length + 1) r279.length 0 r279.length]]⟩) := set_same hM552 o545
   refine Ev.nxk (mvO rfl) ?_
   refine Ev.rend ?_
   intro e557 he558
   have h559 := envp (t := 4) he558 rfl h550
   have h560 : eget e557 5 = .int .i64 0 := envp he558 rfl rfl
   clear h549 h550
   refine Ev.kseqN ?_
   refine Ev.ex ?_
   cases h
   exact Ev.kendR (resC (ag := true) (sz := 3) ⟨by kernel_rfl, by kernel_rfl, by kernel_rfl⟩ (ldOA h559 o556 rfl rfl (ble rfl) rfl) (resT h560 res0)) (rr_tup (mp1 (rr_agg (mp1 rfl (mp1 (rr_row o554 rfl (cI_fl _)) (mp1 (rr_row o555 (by simp) Tally.fl) mp0)))) (mp1 rfl mp0)))
  refine Ev.condF h538 hb539 ?_
  refine Ev.ex ?_
  refine Ev.kblkN ?_
  refine Ev.kseqN ?_
  refine Ev.seq ?_
  refine Ev.reg (fun _ => rfl) ?_
  refine Ev.nxk (ldOA h535 o522 rfl rfl (ble rfl) rfl) ?_
  refine Ev.nxput (stOK h536 rfl o525 rfl rfl ⟨rfl, ble rfl⟩ (all1 rfl (all1 (okL o523 (by simp)) (all1 (okL o524 (by simp)) all0))) rfl) ?_
  intro M561 hM562
  have o563 := set_ne hM562 ne9 o522
  have o564 := set_ne hM562 (Ne.symm ne287) o523
  have o565 := set_ne hM562 (Ne.symm ne290) o524
  have o566 : M561[M2.length]? = some (.live ⟨.box, 56, 3, [[.int .i64 a2.Day, .lsl M267.length r278.length 0 r278.length, .lsl (M267.length + 1) r279.length 0 r279.length]]⟩) := set_same hM562 o525
  refine Ev.nxk (mvO rfl) ?_
  refine Ev.rend ?_
  intro e567 he568
  have h569 := envp (t := 4) he568 rfl h536
  have h570 : eget e567 5 = .int .i64 0 := envp he568 rfl rfl
  clear h535 h536 h537 h538
  refine Ev.kseqN ?_
  refine Ev.ex ?_
  cases h
  exact Ev.kendR (resC (ag := true) (sz := 3) ⟨by kernel_rfl, by kernel_rfl, by kernel_rfl⟩ (ldOA h569 o566 rfl rfl (ble rfl) rfl) (resT h570 res0)) (rr_tup (mp1 (rr_agg (mp1 rfl (mp1 (rr_row o564 rfl (cI_fl _)) (mp1 (rr_row o565 (by simp) Tally.fl) mp0)))) (mp1 rfl mp0)))
 refine Ev.condF h518 hb519 ?_
 refine Ev.seq ?_
 refine Ev.reg (fun _ => rfl) ?_
 refine Ev.nxk (bEql h517 rfl) ?_
 refine Ev.nxk (mvO rfl) ?_
 refine Ev.rend ?_
 intro e571 he572
 have h573 := envp (t := 2) he572 rfl h513
 have h574 := envp (t := 3) he572 rfl h514
 have h575 := envp (t := 4) he572 rfl h515
 have h576 := envp (t := 11) he572 rfl h516
 have h577 := envp (t := 137) he572 rfl h517
 have h578 : eget e571 155 = .bool (a2.Kind == 3) := envp he572 rfl rfl
 clear h513 h514 h515 h516 h517 h518
 refine Ev.kseqN ?_
 rcases ite_some h with ⟨hb579, h⟩ | ⟨hb579, h⟩
 ·refine Ev.condT h578 hb579 ?_
  refine Ev.seq ?_
  refine Ev.seq ?_
  refine Ev.regD (fun _ => rfl) ?_
  refine Ev.nfk (faO h573 o500 rfl) ?_
  refine Ev.nfk (ldO rfl o500 rfl rfl rfl) ?_
  refine Ev.nfk (mvO h576) ?_
  refine Ev.nfk (ncO rfl o502 (by simp)) ?_
  refine Ev.nfk (faO rfl o502 (by simp)) ?_
  refine Ev.nfk (ldO rfl o502 (by simp) (by rw [Nat.zero_add]; exact mapg (rd_get hx371).2) rfl) ?_
  obtain ⟨x580, hx581, h⟩ := bind_some h
  refine Ev.nfk (ixO rfl o501 rfl rfl (rd_get hx581).1 (rd_lt hx581).2) ?_
  refine Ev.nfk (ldO rfl o501 (by simp) (by rw [Nat.zero_add]; exact mapg (rd_get hx581).2) rfl) ?_
  refine Ev.nfk (faP h574 ⟨ble rfl, blt rfl⟩ rfl) ?_
  refine Ev.nfk (ldP rfl rfl) ?_
  refine Ev.nfk (bLss rfl rfl) ?_
  refine Ev.fend0 ?_
  refine Ev.rend ?_
  intro e582 he583
  have h584 := envp (t := 2) he583 rfl h573
  have h585 := envp (t := 3) he583 rfl h574
  have h586 := envp (t := 4) he583 rfl h575
  have h587 := envp (t := 11) he583 rfl h576
  have h588 : eget e582 167 = .bool (decide (x580 < a2.Amount)) := envp he583 rfl rfl
  clear h573 h574 h575 h576 h577 h578
  refine Ev.kseqN ?_
  rcases ite_some h with ⟨hb589, h⟩ | ⟨hb589, h⟩
  ·refine Ev.condT h588 hb589 ?_
   refine Ev.seq ?_
   refine Ev.reg (fun _ => rfl) ?_
   refine Ev.nxk (bldT zero56 rfl (fill0 rfl)) ?_
   refine Ev.nxput (stOK h586 rfl o503 rfl rfl ⟨rfl, ble rfl⟩ rfl rfl) ?_
   intro M590 hM591
   have o592 := set_ne hM591 ne9 o500
   have o593 := set_ne hM591 (Ne.symm ne287) o501
   have o594 := set_ne hM591 (Ne.symm ne290) o502
   have o595 : M590[M2.length]? = some (.live ⟨.box, 56, 3, [[.int .i64 0, .nils, .nils]]⟩) := set_same hM591 o503
   refine Ev.nxk (mvO rfl) ?_
   refine Ev.rend ?_
   intro e596 he597
   have h598 := envp (t := 4) he597 rfl h586
   have h599 : eget e596 5 = .int .i64 8 := envp he597 rfl rfl
   clear h584 h585 h586 h587 h588
   refine Ev.kseqN ?_
   refine Ev.ex ?_
   refine Ev.kseqR ?_
   refine Ev.kblkR ?_
   refine Ev.kseqR ?_
   cases h
   exact Ev.kendR (resC (ag := true) (sz := 3) ⟨by kernel_rfl, by kernel_rfl, by kernel_rfl⟩ (ldOA h598 o595 rfl rfl (ble rfl) rfl) (resT h599 res0)) rfl
  refine Ev.condF h588 hb589 ?_
  refine Ev.ex ?_
  refine Ev.kseqN ?_
  refine Ev.seq ?_
  refine Ev.regD (fun _ => rfl) ?_
  refine Ev.nfk (faO h584 o500 rfl) ?_
  refine Ev.nfk (ldO rfl o500 rfl rfl rfl) ?_
  refine Ev.nfk (mvO h587) ?_
  refine Ev.nfk (ncO rfl o502 (by simp)) ?_
  refine Ev.nfk (faO rfl o502 (by simp)) ?_
  refine Ev.nfk (ldO rfl o502 (by simp) (by rw [Nat.zero_add]; exact mapg (rd_get hx371).2) rfl) ?_
  obtain ⟨x600, hx601, h⟩ := bind_some h
  refine Ev.nfk (ixO rfl o501 rfl rfl (rd_get hx601).1 (rd_lt hx601).2) ?_
  refine Ev.nfk (ldO rfl o501 (by simp) (by rw [Nat.zero_add]; exact mapg (rd_get hx601).2) rfl) ?_
  refine Ev.nfk (faP h585 ⟨ble rfl, blt rfl⟩ rfl) ?_
  refine Ev.nfk (ldP rfl rfl) ?_
  refine Ev.nfk (bSub rfl rfl) ?_
  obtain ⟨x602, hx603, h⟩ := bind_some h
  refine Ev.nfk (ixO rfl o501 rfl rfl (rd_get hx603).1 (rd_lt hx603).2) ?_
  refine Ev.fend0 ?_
  refine Ev.nxput (stR (u := x602) (u' := (IntKind.i64.wrap (x600 - a2.Amount))) rfl rfl o501 rfl (by rw [Nat.zero_add]; exact (rd_get hx603).2) ⟨rfl, ble rfl⟩ rfl rfl) ?_
  intro M604 hM605
  rw [Nat.zero_add] at hM605
  have o606 := set_ne hM605 ne286 o500
  have o607 : M604[M267.length]? = some (.live ⟨.grow, 2, 1, (r278.set x370.Debtor.toNat (IntKind.i64.wrap (x600 - a2.Amount))).map (cI .i64)⟩) := set_same hM605 o501
  have o608 := set_ne hM605 (Ne.symm ne291) o502
  have o609 := set_ne hM605 ne287 o503
  have hx610 := rd_set (u' := (IntKind.i64.wrap (x600 - a2.Amount))) hx603
  refine Ev.rend ?_
  intro e611 he612
  have h613 := envp (t := 2) he612 rfl h584
  have h614 := envp (t := 3) he612 rfl h585
  have h615 := envp (t := 4) he612 rfl h586
  have h616 := envp (t := 11) he612 rfl h587
  clear h584 h585 h586 h587 h588
  refine Ev.kseqN ?_
  refine Ev.seq ?_
  refine Ev.regD (fun _ => rfl) ?_
  refine Ev.nfk (faO h613 o606 rfl) ?_
  refine Ev.nfk (ldO rfl o606 rfl rfl rfl) ?_
  refine Ev.nfk (mvO h616) ?_
  refine Ev.nfk (ncO rfl o608 (by simp)) ?_
  refine Ev.nfk (faO rfl o608 (by simp)) ?_
  refine Ev.nfk (ldO rfl o608 (by simp) (by rw [Nat.zero_add]; exact mapg (rd_get hx371).2) rfl) ?_
  obtain ⟨x617, hx618, h⟩ := bind_some h
  refine Ev.nfk (ixO (lslL (L' := (r278.set x370.Debtor.toNat (IntKind.i64.wrap (x600 - a2.Amount))).length) rfl (by simp)) o607 rfl rfl (rd_get hx618).1 (rd_lt hx618).2) ?_
  refine Ev.nfk (ldO rfl o607 (by simp) (by rw [Nat.zero_add]; exact mapg (rd_get hx618).2) rfl) ?_
  refine Ev.nfk (faP h614 ⟨ble rfl, blt rfl⟩ rfl) ?_
  refine Ev.nfk (ldP rfl rfl) ?_
  refine Ev.nfk (bAdd rfl rfl) ?_
  obtain ⟨x619, hx620, h⟩ := bind_some h
  refine Ev.nfk (ixO (lslL (L' := (r278.set x370.Debtor.toNat (IntKind.i64.wrap (x600 - a2.Amount))).length) rfl (by simp)) o607 rfl rfl (rd_get hx620).1 (rd_lt hx620).2) ?_
  refine Ev.fend0 ?_
  refine Ev.nxput (stR (u := x619) (u' := (IntKind.i64.wrap (x617 + a2.Amount))) rfl rfl o607 rfl (by rw [Nat.zero_add]; exact (rd_get hx620).2) ⟨rfl, ble rfl⟩ rfl rfl) ?_
  intro M621 hM622
  rw [Nat.zero_add] at hM622
  have o623 := set_ne hM622 ne286 o606
  have o624 : M621[M267.length]? = some (.live ⟨.grow, 2, 1, ((r278.set x370.Debtor.toNat (IntKind.i64.wrap (x600 - a2.Amount))).set x370.Holder.toNat (IntKind.i64.wrap (x617 + a2.Amount))).map (cI .i64)⟩) := set_same hM622 o607
  have o625 := set_ne hM622 (Ne.symm ne291) o608
  have o626 := set_ne hM622 ne287 o609
  have hx627 := rd_set (u' := (IntKind.i64.wrap (x617 + a2.Amount))) hx620
  refine Ev.rend ?_
  intro e628 he629
  have h630 := envp (t := 2) he629 rfl h613
  have h631 := envp (t := 3) he629 rfl h614
  have h632 := envp (t := 4) he629 rfl h615
  have h633 := envp (t := 11) he629 rfl h616
  clear h613 h614 h615 h616
  refine Ev.kseqN ?_
  refine Ev.seq ?_
  refine Ev.regD (fun _ => rfl) ?_
  refine Ev.nfk (mvO h633) ?_
  refine Ev.nfk (ncO rfl o625 (by simp)) ?_
  refine Ev.nfk (faO rfl o625 (by simp)) ?_
  refine Ev.nfk (ldO rfl o625 (by simp) (by rw [Nat.zero_add]; exact mapg (rd_get hx371).2) rfl) ?_
  refine Ev.nfk (faP h631 ⟨ble rfl, blt rfl⟩ rfl) ?_
  refine Ev.nfk (ldP rfl rfl) ?_
  refine Ev.nfk (bSub rfl rfl) ?_
  refine Ev.nfk (ncO rfl o625 (by simp)) ?_
  refine Ev.nfk (faO rfl o625 (by simp)) ?_
  refine Ev.fend0 ?_
  refine Ev.nxput (stR (u := x370) (u' := (Tally.mk x370.Debtor x370.Holder x370.Cut x370.Amount (IntKind.i64.wrap (x370.Left - a2.Amount)))) rfl rfl o625 rfl (by rw [Nat.zero_add]; exact (rd_get hx371).2) ⟨rfl, ble rfl⟩ rfl rfl) ?_
  intro M634 hM635
  rw [Nat.zero_add] at hM635
  have o636 := set_ne hM635 ne289 o623
  have o637 := set_ne hM635 ne291 o624
  have o638 : M634[(M267.length + 1)]? = some (.live ⟨.grow, 156, 5, (r279.set a2.Tally.toNat (Tally.mk x370.Debtor x370.Holder x370.Cut x370.Amount (IntKind.i64.wrap (x370.Left - a2.Amount)))).map Tally.c⟩) := set_same hM635 o625
  have o639 := set_ne hM635 ne290 o626
  have hx640 := rd_set (u' := (Tally.mk x370.Debtor x370.Holder x370.Cut x370.Amount (IntKind.i64.wrap (x370.Left - a2.Amount)))) hx371
  refine Ev.rend ?_
  intro e641 he642
  have h643 := envp (t := 2) he642 rfl h630
  have h644 := envp (t := 4) he642 rfl h632
  have h645 := envp (t := 11) he642 rfl h633
  clear h630 h631 h632 h633
  refine Ev.kseqN ?_
  refine Ev.seq ?_
  refine Ev.regD (fun _ => rfl) ?_
  refine Ev.nfk (faO h643 o636 rfl) ?_
  refine Ev.nfk (ldO rfl o636 rfl rfl rfl) ?_
  refine Ev.nfk (mvO h645) ?_
  refine Ev.nfk (ncO rfl o638 (by simp)) ?_
  refine Ev.nfk (faO rfl o638 (by simp)) ?_
  refine Ev.nfk (ldO rfl o638 (by simp) (by rw [Nat.zero_add]; exact mapg (rd_get hx640).2) rfl) ?_
  obtain ⟨x646, hx647, h⟩ := bind_some h
  refine Ev.nfk (ixO (lslL (L' := ((r278.set x370.Debtor.toNat (IntKind.i64.wrap (x600 - a2.Amount))).set x370.Holder.toNat (IntKind.i64.wrap (x617 + a2.Amount))).length) rfl (by simp)) o637 rfl rfl (rd_get hx647).1 (rd_lt hx647).2) ?_
  refine Ev.nfk (ldO rfl o637 (by simp) (by rw [Nat.zero_add]; exact mapg (rd_get hx647).2) rfl) ?_
  refine Ev.nfk (bGtr rfl rfl) ?_
  refine Ev.fend0 ?_
  refine Ev.rend ?_
  intro e648 he649
  have h650 := envp (t := 2) he649 rfl h643
  have h651 := envp (t := 4) he649 rfl h644
  have h652 : eget e648 210 = .bool (decide (x646 > 100000000)) := envp he649 rfl rfl
  clear h643 h644 h645
  refine Ev.kseqN ?_
  rcases ite_some h with ⟨hb653, h⟩ | ⟨hb653, h⟩
  ·refine Ev.condT h652 hb653 ?_
   refine Ev.seq ?_
   refine Ev.reg (fun _ => rfl) ?_
   refine Ev.nxk (bldT zero56 rfl (fill0 rfl)) ?_
   refine Ev.nxput (stOK h651 rfl o639 rfl rfl ⟨rfl, ble rfl⟩ rfl rfl) ?_
   intro M654 hM655
   have o656 := set_ne hM655 ne9 o636
   have o657 := set_ne hM655 (Ne.symm ne287) o637
   have o658 := set_ne hM655 (Ne.symm ne290) o638
   have o659 : M654[M2.length]? = some (.live ⟨.box, 56, 3, [[.int .i64 0, .nils, .nils]]⟩) := set_same hM655 o639
   refine Ev.nxk (mvO rfl) ?_
   refine Ev.rend ?_
   intro e660 he661
   have h662 := envp (t := 4) he661 rfl h651
   have h663 : eget e660 5 = .int .i64 3 := envp he661 rfl rfl
   clear h650 h651 h652
   refine Ev.kseqN ?_
   refine Ev.ex ?_
   refine Ev.kblkR ?_
   refine Ev.kseqR ?_
   cases h
   exact Ev.kendR (resC (ag := true) (sz := 3) ⟨by kernel_rfl, by kernel_rfl, by kernel_rfl⟩ (ldOA h662 o659 rfl rfl (ble rfl) rfl) (resT h663 res0)) rfl
  refine Ev.condF h652 hb653 ?_
  refine Ev.ex ?_
  refine Ev.kblkN ?_
  refine Ev.kseqN ?_
  refine Ev.seq ?_
  refine Ev.reg (fun _ => rfl) ?_
  refine Ev.nxk (ldOA h650 o636 rfl rfl (ble rfl) rfl) ?_
  refine Ev.nxput (stOK h651 rfl o639 rfl rfl ⟨rfl, ble rfl⟩ (all1 rfl (all1 (okL o637 (by simp)) (all1 (okL o638 (by simp)) all0))) rfl) ?_
  intro M664 hM665
  have o666 := set_ne hM665 ne9 o636
  have o667 := set_ne hM665 (Ne.symm ne287) o637
  have o668 := set_ne hM665 (Ne.symm ne290) o638
  have o669 : M664[M2.length]? = some (.live ⟨.box, 56, 3, [[.int .i64 a2.Day, .lsl M267.length r278.length 0 r278.length, .lsl (M267.length + 1) r279.length 0 r279.length]]⟩) := set_same hM665 o639
  refine Ev.nxk (mvO rfl) ?_
  refine Ev.rend ?_
  intro e670 he671
  have h672 := envp (t := 4) he671 rfl h651
  have h673 : eget e670 5 = .int .i64 0 := envp he671 rfl rfl
  clear h650 h651 h652
  refine Ev.kseqN ?_
  refine Ev.ex ?_
  cases h
  exact Ev.kendR (resC (ag := true) (sz := 3) ⟨by kernel_rfl, by kernel_rfl, by kernel_rfl⟩ (ldOA h672 o669 rfl rfl (ble rfl) rfl) (resT h673 res0)) (rr_tup (mp1 (rr_agg (mp1 rfl (mp1 (rr_row o667 (by simp) (cI_fl _)) (mp1 (rr_row o668 (by simp) Tally.fl) mp0)))) (mp1 rfl mp0)))
 refine Ev.condF h578 hb579 ?_
 refine Ev.seq ?_
 refine Ev.reg (fun _ => rfl) ?_
 refine Ev.nxk (bEql h577 rfl) ?_
 refine Ev.nxk (mvO rfl) ?_
 refine Ev.rend ?_
 intro e674 he675
 have h676 := envp (t := 2) he675 rfl h573
 have h677 := envp (t := 4) he675 rfl h575
 have h678 := envp (t := 11) he675 rfl h576
 have h679 : eget e674 212 = .bool (a2.Kind == 4) := envp he675 rfl rfl
 clear h573 h574 h575 h576 h577 h578
 refine Ev.kseqN ?_
 rcases ite_some h with ⟨hb680, h⟩ | ⟨hb680, h⟩
 ·refine Ev.condT h679 hb680 ?_
  refine Ev.reg (fun _ => rfl) ?_
  refine Ev.nxk (mvO h678) ?_
  refine Ev.nxk (ncO rfl o502 (by simp)) ?_
  refine Ev.nxk (faO rfl o502 (by simp)) ?_
  refine Ev.nxput (stR (u := x370) (u' := (Tally.mk x370.Debtor x370.Holder x370.Cut x370.Amount 0)) rfl rfl o502 rfl (by rw [Nat.zero_add]; exact (rd_get hx371).2) ⟨rfl, ble rfl⟩ rfl rfl) ?_
  intro M681 hM682
  rw [Nat.zero_add] at hM682
  have o683 := set_ne hM682 ne289 o500
  have o684 := set_ne hM682 ne291 o501
  have o685 : M681[(M267.length + 1)]? = some (.live ⟨.grow, 156, 5, (r279.set a2.Tally.toNat (Tally.mk x370.Debtor x370.Holder x370.Cut x370.Amount 0)).map Tally.c⟩) := set_same hM682 o502
  have o686 := set_ne hM682 ne290 o503
  have hx687 := rd_set (u' := (Tally.mk x370.Debtor x370.Holder x370.Cut x370.Amount 0)) hx371
  refine Ev.rend ?_
  intro e688 he689
  have h690 := envp (t := 2) he689 rfl h676
  have h691 := envp (t := 4) he689 rfl h677
  clear h676 h677 h678 h679
  refine Ev.kblkN ?_
  refine Ev.kseqN ?_
  refine Ev.seq ?_
  refine Ev.reg (fun _ => rfl) ?_
  refine Ev.nxk (ldOA h690 o683 rfl rfl (ble rfl) rfl) ?_
  refine Ev.nxput (stOK h691 rfl o686 rfl rfl ⟨rfl, ble rfl⟩ (all1 rfl (all1 (okL o684 (by simp)) (all1 (okL o685 (by simp)) all0))) rfl) ?_
  intro M692 hM693
  have o694 := set_ne hM693 ne9 o683
  have o695 := set_ne hM693 (Ne.symm ne287) o684
  have o696 := set_ne hM693 (Ne.symm ne290) o685
  have o697 : M692[M2.length]? = some (.live ⟨.box, 56, 3, [[.int .i64 a2.Day, .lsl M267.length r278.length 0 r278.length, .lsl (M267.length + 1) r279.length 0 r279.length]]⟩) := set_same hM693 o686
  refine Ev.nxk (mvO rfl) ?_
  refine Ev.rend ?_
  intro e698 he699
  have h700 := envp (t := 4) he699 rfl h691
  have h701 : eget e698 5 = .int .i64 0 := envp he699 rfl rfl
  clear h690 h691
  refine Ev.kseqN ?_
  refine Ev.ex ?_
  cases h
  exact Ev.kendR (resC (ag := true) (sz := 3) ⟨by kernel_rfl, by kernel_rfl, by kernel_rfl⟩ (ldOA h700 o697 rfl rfl (ble rfl) rfl) (resT h701 res0)) (rr_tup (mp1 (rr_agg (mp1 rfl (mp1 (rr_row o695 rfl (cI_fl _)) (mp1 (rr_row o696 (by simp) Tally.fl) mp0)))) (mp1 rfl mp0)))
 refine Ev.condF h679 hb680 ?_
 refine Ev.ex ?_
 refine Ev.kblkN ?_
 refine Ev.kseqN ?_
 refine Ev.seq ?_
 refine Ev.reg (fun _ => rfl) ?_
 refine Ev.nxk (ldOA h676 o500 rfl rfl (ble rfl) rfl) ?_
 refine Ev.nxput (stOK h677 rfl o503 rfl rfl ⟨rfl, ble rfl⟩ (all1 rfl (all1 (okL o501 (by simp)) (all1 (okL o502 (by simp)) all0))) rfl) ?_
 intro M702 hM703
 have o704 := set_ne hM703 ne9 o500
 have o705 := set_ne hM703 (Ne.symm ne287) o501
 have o706 := set_ne hM703 (Ne.symm ne290) o502
 have o707 : M702[M2.length]? = some (.live ⟨.box, 56, 3, [[.int .i64 a2.Day, .lsl M267.length r278.length 0 r278.length, .lsl (M267.length + 1) r279.length 0 r279.length]]⟩) := set_same hM703 o503
 refine Ev.nxk (mvO rfl) ?_
 refine Ev.rend ?_
 intro e708 he709
 have h710 := envp (t := 4) he709 rfl h677
 have h711 : eget e708 5 = .int .i64 0 := envp he709 rfl rfl
 clear h676 h677 h678 h679
 refine Ev.kseqN ?_
 refine Ev.ex ?_
 cases h
 exact Ev.kendR (resC (ag := true) (sz := 3) ⟨by kernel_rfl, by kernel_rfl, by kernel_rfl⟩ (ldOA h710 o707 rfl rfl (ble rfl) rfl) (resT h711 res0)) (rr_tup (mp1 (rr_agg (mp1 rfl (mp1 (rr_row o705 rfl (cI_fl _)) (mp1 (rr_row o706 rfl Tally.fl) mp0)))) (mp1 rfl mp0)))
/-! ### loop.example/g01263/impl.ValidDeal (f67) -/
def impl_ValidDeal_c1_Q (a1 : Deal) (g : Bool) (q : Out) : Prop := q.1 = .nrm ∧ eget q.2.1 1 = .pt none [.int .i64 a1.Day, .int .i8 a1.Kind, .int .i64 a1.Tally, .int .i64 a1.From, .int .i64 a1.To, .int .i64 a1.Amount] ∧ eget q.2.1 21 = .bool g
noncomputable def impl_ValidDeal (a1 : Deal) : Option Bool :=
 (if (decide (a1.Kind < 1)) = true then
  some true
 else
  if (decide (a1.Kind > 4)) = true then
   some true
  else
   (impl_isBookDay a1.Day).bind fun r15 =>
   some (!r15)).bind fun y22 =>
 if y22 = true then
  some false
 else
  (impl_uses a1.Kind).bind fun (r34, r35, r36, r37) =>
  (impl_ValidDeal_1 r34 a1.Tally 0 39).bind fun r47 =>
  if r47 = true then
   (impl_ValidDeal_1 r35 a1.From 0 15).bind fun r50 =>
   if r50 = true then
    (impl_ValidDeal_1 r36 a1.To 0 15).bind fun r53 =>
    if r53 = true then
     (impl_ValidDeal_1 r37 a1.Amount 1 100000000).bind fun r56 =>
     some r56
    else
     some false
   else
    some false
  else
   some false
def impl_ValidDeal_enc (r : Bool) : AV := .bool r
theorem impl_ValidDeal_ok (a1 : Deal) (r : Bool) (h : impl_ValidDeal a1 = some r) : Ev (fun k => CN k 67 [.agg [.int .i64 a1.Day, .int .i8 a1.Kind, .int .i64 a1.Tally, .int .i64 a1.From, .int .i64 a1.To, .int .i64 a1.Amount]] []) (fun p => rRes p.2 p.1 = impl_ValidDeal_enc r) := by
 unfold impl_ValidDeal at h
 refine Ev.enter (F := fun k => f67 (CN k) k) (fun k => callN_eq rfl Try.func67 rfl rfl rfl (by decide +kernel) (f67_eq _ _)) ?_
 refine Ev.seq ?_
 refine Ev.reg (fun _ => rfl) ?_
 refine Ev.nxk (bxI rfl rfl ⟨rfl, rfl, by decide⟩) ?_
 refine Ev.nxk (mvO rfl) ?_
 refine Ev.rend ?_
 intro e1 he2
 have h3 : eget e1 1 = .pt none [.int .i64 a1.Day, .int .i8 a1.Kind, .int .i64 a1.Tally, .int .i64 a1.From, .int .i64 a1.To, .int .i64 a1.Amount] := envp he2 rfl rfl
 refine Ev.kseqN ?_
 refine Ev.seq ?_
 refine Ev.seq ?_
 obtain ⟨r70, hr71, h⟩ := bind_some h
 refine Ev.cut (Q1 := impl_ValidDeal_c1_Q a1 r70) (by
     have h := hr71
     refine Ev.reg (fun _ => rfl) ?_
     refine Ev.nxk (faP h3 ⟨ble rfl, blt rfl⟩ rfl) ?_
     refine Ev.nxk (ldP rfl rfl) ?_
     refine Ev.nxk (bLss rfl rfl) ?_
     refine Ev.nxk (mvO rfl) ?_
     rcases ite_some h with ⟨hb4, h⟩ | ⟨hb4, h⟩
     ·refine Ev.nxk (gsF rfl hb4) ?_
      refine Ev.nxk (gsF rfl hb4) ?_
      refine Ev.nxk (gsF rfl hb4) ?_
      refine Ev.nxk (pkT rfl hb4 rfl) ?_
      refine Ev.nxk (mvO rfl) ?_
      refine Ev.nxk (gsF rfl rfl) ?_
      refine Ev.nxk (gsF rfl rfl) ?_
      refine Ev.nxck (Ev.gsF rfl rfl) ?_
      refine Ev.nxk (gsF rfl rfl) ?_
      refine Ev.nxk (pkT rfl rfl rfl) ?_
      refine Ev.rend ?_
      intro e5 he6
      have h7 := envp (t := 1) he6 rfl h3
      have h8 : eget e5 21 = .bool true := envp he6 rfl rfl
      clear h3
      cases h
      exact Ev.kid (show impl_ValidDeal_c1_Q a1 _ _ from (And.intro rfl (And.intro h7 h8)))
     refine Ev.nxk (guF rfl hb4 (faP h3 ⟨ble rfl, blt rfl⟩ rfl)) ?_
     refine Ev.nxk (guF rfl hb4 (ldP rfl rfl)) ?_
     refine Ev.nxk (guF rfl hb4 (bGtr rfl rfl)) ?_
     refine Ev.nxk (pkF rfl hb4 rfl) ?_
     refine Ev.nxk (mvO rfl) ?_
     rcases ite_some h with ⟨hb9, h⟩ | ⟨hb9, h⟩
     ·refine Ev.nxk (gsF rfl hb9) ?_
      refine Ev.nxk (gsF rfl hb9) ?_
      refine Ev.nxck (Ev.gsF rfl hb9) ?_
      refine Ev.nxk (gsF rfl hb9) ?_
      refine Ev.nxk (pkT rfl hb9 rfl) ?_
      refine Ev.rend ?_
      intro e10 he11
      have h12 := envp (t := 1) he11 rfl h3
      have h13 : eget e10 21 = .bool true := envp he11 rfl rfl
      clear h3
      cases h
      exact Ev.kid (show impl_ValidDeal_c1_Q a1 _ _ from (And.intro rfl (And.intro h12 h13)))
     refine Ev.nxk (guF rfl hb9 (faP h3 ⟨ble rfl, blt rfl⟩ rfl)) ?_
     refine Ev.nxk (guF rfl hb9 (ldP rfl rfl)) ?_
     obtain ⟨r15, hx14, h⟩ := bind_some h
     refine Ev.nxck (Ev.guF rfl hb9 (Ev.call (v := .bool r15) rfl (cns rfl rfl) rfl (impl_isBookDay_ok a1.Day _ hx14) (fun h => nomatch (show false = true from h)))) ?_
     refine Ev.nxk (guF rfl hb9 (uNot rfl)) ?_
     refine Ev.nxk (pkF rfl hb9 rfl) ?_
     refine Ev.rend ?_
     intro e16 he17
     have h18 := envp (t := 1) he17 rfl h3
     have h19 : eget e16 21 = .bool (!r15) := envp he17 rfl rfl
     clear h3
     cases h
     exact Ev.kid (show impl_ValidDeal_c1_Q a1 _ _ from (And.intro rfl (And.intro h18 h19)))) ?_
 revert h hr71
 revert r70
 intro y22 hr71 h
 intro x e20 M21 hq69
 obtain ⟨rfl, h23, h24⟩ := hq69
 refine Ev.kseqN ?_
 rcases ite_some h with ⟨hb25, h⟩ | ⟨hb25, h⟩
 ·refine Ev.condT h24 hb25 ?_
  refine Ev.seq ?_
  refine Ev.reg (fun _ => rfl) ?_
  refine Ev.nxk (mvO rfl) ?_
  refine Ev.rend ?_
  intro e26 he27
  have h28 : eget e26 2 = .bool false := envp he27 rfl rfl
  clear h23 h24
  refine Ev.kseqN ?_
  refine Ev.ex ?_
  refine Ev.kseqR ?_
  cases h
  exact Ev.kendR (resT h28 res0) rfl
 refine Ev.condF h24 hb25 ?_
 refine Ev.ex ?_
 refine Ev.kseqN ?_
 refine Ev.seq ?_
 refine Ev.reg (fun _ => rfl) ?_
 refine Ev.nxk (mvO rfl) ?_
 refine Ev.rend ?_
 intro e29 he30
 have h31 : eget e29 1 = .pt none [.int .i64 a1.Day, .int .i8 a1.Kind, .int .i64 a1.Tally, .int .i64 a1.From, .int .i64 a1.To, .int .i64 a1.Amount] := envp he30 rfl h23
 have h32 : eget e29 3 = .fn 107 [] := envp he30 rfl rfl
 clear h23 h24
 refine Ev.kseqN ?_
 refine Ev.seq ?_
 refine Ev.reg (fun _ => rfl) ?_
 refine Ev.nxk (faP h31 ⟨ble rfl, blt rfl⟩ rfl) ?_
 refine Ev.nxk (ldP rfl rfl) ?_
 obtain ⟨⟨r34, r35, r36, r37⟩, hx33, h⟩ := bind_some h
 refine Ev.nxck (Ev.call (v := .tup [.bool r34, .bool r35, .bool r36, .bool r37]) rfl (cns rfl rfl) rfl (impl_uses_ok a1.Kind _ hx33) (fun h => nomatch (show false = true from h))) ?_
 refine Ev.nxk (mvO rfl) ?_
 refine Ev.nxk (exT rfl rfl) ?_
 refine Ev.nxk (exT rfl rfl) ?_
 refine Ev.nxk (exT rfl rfl) ?_
 refine Ev.nxk (exT rfl rfl) ?_
 refine Ev.nxk (mvO rfl) ?_
 refine Ev.nxk (mvO rfl) ?_
 refine Ev.nxk (mvO rfl) ?_
 refine Ev.nxk (mvO rfl) ?_
 refine Ev.rend ?_
 intro e38 he39
 have h40 := envp (t := 1) he39 rfl h31
 have h41 : eget e38 3 = .fn 107 [] := envp he39 rfl h32
 have h42 : eget e38 4 = .bool r34 := envp he39 rfl rfl
 have h43 : eget e38 5 = .bool r35 := envp he39 rfl rfl
 have h44 : eget e38 6 = .bool r36 := envp he39 rfl rfl
 have h45 : eget e38 7 = .bool r37 := envp he39 rfl rfl
 clear h31 h32
 refine Ev.kseqN ?_
 refine Ev.seq ?_
 refine Ev.reg (fun _ => rfl) ?_
 refine Ev.nxk (mvO h41) ?_
 refine Ev.nxk (mvO h42) ?_
 refine Ev.nxk (faP h40 ⟨ble rfl, blt rfl⟩ rfl) ?_
 refine Ev.nxk (ldP rfl rfl) ?_
 obtain ⟨r47, hx46, h⟩ := bind_some h
 refine Ev.nxck (Ev.call (v := .bool r47) rfl (cns rfl (cns rfl (cns rfl (cns rfl rfl)))) rfl (impl_ValidDeal_1_ok r34 a1.Tally 0 39 _ hx46) (fun h => nomatch (show false = true from h))) ?_
 refine Ev.nxk (mvO rfl) ?_
 rcases ite_some h with ⟨hb48, h⟩ | ⟨hb48, h⟩
 ·refine Ev.nxk (guT rfl hb48 (mvO h41)) ?_
  refine Ev.nxk (guT rfl hb48 (mvO h43)) ?_
  refine Ev.nxk (guT rfl hb48 (faP h40 ⟨ble rfl, blt rfl⟩ rfl)) ?_
  refine Ev.nxk (guT rfl hb48 (ldP rfl rfl)) ?_
  obtain ⟨r50, hx49, h⟩ := bind_some h
  refine Ev.nxck (Ev.guT rfl hb48 (Ev.call (v := .bool r50) rfl (cns rfl (cns rfl (cns rfl (cns rfl rfl)))) rfl (impl_ValidDeal_1_ok r35 a1.From 0 15 _ hx49) (fun h => nomatch (show false = true from h)))) ?_
  refine Ev.nxk (pkT rfl hb48 rfl) ?_
  refine Ev.nxk (mvO rfl) ?_
  rcases ite_some h with ⟨hb51, h⟩ | ⟨hb51, h⟩
  ·refine Ev.nxk (guT rfl hb51 (mvO h41)) ?_
   refine Ev.nxk (guT rfl hb51 (mvO h44)) ?_
   refine Ev.nxk (guT rfl hb51 (faP h40 ⟨ble rfl, blt rfl⟩ rfl)) ?_
   refine Ev.nxk (guT rfl hb51 (ldP rfl rfl)) ?_
   obtain ⟨r53, hx52, h⟩ := bind_some h
   refine Ev.nxck (Ev.guT rfl hb51 (Ev.call (v := .bool r53) rfl (cns rfl (cns rfl (cns rfl (cns rfl rfl)))) rfl (impl_ValidDeal_1_ok r36 a1.To 0 15 _ hx52) (fun h => nomatch (show false = true from h)))) ?_
   refine Ev.nxk (pkT rfl hb51 rfl) ?_
   refine Ev.nxk (mvO rfl) ?_
   rcases ite_some h with ⟨hb54, h⟩ | ⟨hb54, h⟩
   ·refine Ev.nxk (guT rfl hb54 (mvO h41)) ?_
    refine Ev.nxk (guT rfl hb54 (mvO h45)) ?_
    refine Ev.nxk (guT rfl hb54 (faP h40 ⟨ble rfl, blt rfl⟩ rfl)) ?_
    refine Ev.nxk (guT rfl hb54 (ldP rfl rfl)) ?_
    obtain ⟨r56, hx55, h⟩ := bind_some h
    refine Ev.nxck (Ev.guT rfl hb54 (Ev.call (v := .bool r56) rfl (cns rfl (cns rfl (cns rfl (cns rfl rfl)))) rfl (impl_ValidDeal_1_ok r37 a1.Amount 1 100000000 _ hx55) (fun h => nomatch (show false = true from h)))) ?_
    refine Ev.nxk (pkT rfl hb54 rfl) ?_
    refine Ev.nxk (mvO rfl) ?_
    refine Ev.rend ?_
    intro e57 he58
    have h59 : eget e57 2 = .bool r56 := envp he58 rfl rfl
    clear h40 h41 h42 h43 h44 h45
    refine Ev.kseqN ?_
    refine Ev.ex ?_
    cases h
    exact Ev.kendR (resT h59 res0) rfl
   refine Ev.nxk (gsT rfl hb54) ?_
   refine Ev.nxk (gsT rfl hb54) ?_
   refine Ev.nxk (gsT rfl hb54) ?_
   refine Ev.nxk (gsT rfl hb54) ?_
   refine Ev.nxck (Ev.gsT rfl hb54) ?_
   refine Ev.nxk (pkF rfl hb54 rfl) ?_
   refine Ev.nxk (mvO rfl) ?_
   refine Ev.rend ?_
   intro e60 he61
   have h62 : eget e60 2 = .bool false := envp he61 rfl rfl
   clear h40 h41 h42 h43 h44 h45
   refine Ev.kseqN ?_
   refine Ev.ex ?_
   cases h
   exact Ev.kendR (resT h62 res0) rfl
  refine Ev.nxk (gsT rfl hb51) ?_
  refine Ev.nxk (gsT rfl hb51) ?_
  refine Ev.nxk (gsT rfl hb51) ?_
  refine Ev.nxk (gsT rfl hb51) ?_
  refine Ev.nxck (Ev.gsT rfl hb51) ?_
  refine Ev.nxk (pkF rfl hb51 rfl) ?_
  refine Ev.nxk (mvO rfl) ?_
  refine Ev.nxk (gsT rfl rfl) ?_
  refine Ev.nxk (gsT rfl rfl) ?_
  refine Ev.nxk (gsT rfl rfl) ?_
  refine Ev.nxk (gsT rfl rfl) ?_
  refine Ev.nxck (Ev.gsT rfl rfl) ?_
  refine Ev.nxk (pkF rfl rfl rfl) ?_
  refine Ev.nxk (mvO rfl) ?_
  refine Ev.rend ?_
  intro e63 he64
  have h65 : eget e63 2 = .bool false := envp he64 rfl rfl
  clear h40 h41 h42 h43 h44 h45
  refine Ev.kseqN ?_
  refine Ev.ex ?_
  cases h
  exact Ev.kendR (resT h65 res0) rfl
 refine Ev.nxk (gsT rfl hb48) ?_
 refine Ev.nxk (gsT rfl hb48) ?_
 refine Ev.nxk (gsT rfl hb48) ?_
 refine Ev.nxk (gsT rfl hb48) ?_
 refine Ev.nxck (Ev.gsT rfl hb48) ?_
 refine Ev.nxk (pkF rfl hb48 rfl) ?_
 refine Ev.nxk (mvO rfl) ?_
 refine Ev.nxk (gsT rfl rfl) ?_
 refine Ev.nxk (gsT rfl rfl) ?_
 refine Ev.nxk (gsT rfl rfl) ?_
 refine Ev.nxk (gsT rfl rfl) ?_
 refine Ev.nxck (Ev.gsT rfl rfl) ?_
 refine Ev.nxk (pkF rfl rfl rfl) ?_
 refine Ev.nxk (mvO rfl) ?_
 refine Ev.nxk (gsT rfl rfl) ?_
 refine Ev.nxk (gsT rfl rfl) ?_
 refine Ev.nxk (gsT rfl rfl) ?_
 refine Ev.nxk (gsT rfl rfl) ?_
 refine Ev.nxck (Ev.gsT rfl rfl) ?_
 refine Ev.nxk (pkF rfl rfl rfl) ?_
 refine Ev.nxk (mvO rfl) ?_
 refine Ev.rend ?_
 intro e66 he67
 have h68 : eget e66 2 = .bool false := envp he67 rfl rfl
 clear h40 h41 h42 h43 h44 h45
 refine Ev.kseqN ?_
 refine Ev.ex ?_
 cases h
 exact Ev.kendR (resT h68 res0) rfl
end Go.Proofs.Ytfabokkhdalbead

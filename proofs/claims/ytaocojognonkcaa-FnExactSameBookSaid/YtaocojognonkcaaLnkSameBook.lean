/- Printed by a program of ours (ext.py). -/
import Derived.Test.YtaocojognonkcaaFnsSameBook
set_option linter.unusedVariables false
set_option maxRecDepth 100000
set_option maxHeartbeats 2000000
namespace Go.Proofs.Ytaocojognonkcaa
open Go Go.Ab
structure Tally where
  Debtor : Int
  Holder : Int
  Cut : Int
  Amount : Int
  Left : Int
  deriving DecidableEq
def Tally.c (x : Tally) : List AV := [.int .i64 x.Debtor, .int .i64 x.Holder, .int .i64 x.Cut, .int .i64 x.Amount, .int .i64 x.Left]
theorem Tally.fl : Fl Tally.c 5 := fun _ => ⟨rfl, rfl⟩
theorem Tally.flF : FlF Tally.c := fun _ => rfl
structure Book where
  Day : Int
  Cash : List Int
  Tallies : List Tally
  deriving DecidableEq
def Book.c (x : Book) : List AV := [.int .i64 x.Day, .sl none (x.Cash.map (cI .i64)), .sl none (x.Tallies.map Tally.c)]
theorem Book.fl : Fl Book.c 3 := fun _ => ⟨rfl, rfl⟩
theorem co2 : cx.P.cellsOf 2 = 1 := by kernel_rfl
theorem co81 : cx.P.cellsOf 81 = 5 := by kernel_rfl
theorem zero2 : zeroOf cx.P 2 = [.int .i64 0] := by kernel_rfl
theorem zero53 : zeroOf cx.P 53 = [.int .i64 0, .nils, .nils] := by kernel_rfl
theorem zero81 : zeroOf cx.P 81 = [.int .i64 0, .int .i64 0, .int .i64 0, .int .i64 0, .int .i64 0] := by kernel_rfl
/-! ### loop.example/g01263/laws.eqTally (f62) -/
noncomputable def laws_eqTally (a1 : Tally) (a2 : Tally) : Option Bool :=
  if (a1.Debtor != a2.Debtor) = true then
    some false
  else
    if (a1.Holder != a2.Holder) = true then
      some false
    else
      if (a1.Cut != a2.Cut) = true then
        some false
      else
        if (a1.Amount != a2.Amount) = true then
          some false
        else
          if (a1.Left != a2.Left) = true then
            some false
          else
            some true
def laws_eqTally_enc (r : Bool) : AV := .bool r
theorem laws_eqTally_ok (a1 : Tally) (a2 : Tally) (r : Bool) (h : laws_eqTally a1 a2 = some r) : Ev (fun k => CN k 62 [.agg [.int .i64 a1.Debtor, .int .i64 a1.Holder, .int .i64 a1.Cut, .int .i64 a1.Amount, .int .i64 a1.Left], .agg [.int .i64 a2.Debtor, .int .i64 a2.Holder, .int .i64 a2.Cut, .int .i64 a2.Amount, .int .i64 a2.Left]] []) (fun p => rRes p.2 p.1 = laws_eqTally_enc r) := by
  unfold laws_eqTally at h
  refine Ev.enter (F := fun k => f62 (CN k) k) (fun k => callN_eq rfl Try.func62 rfl rfl rfl (by decide +kernel) (f62_eq _ _)) ?_
  refine Ev.seq ?_
  refine Ev.reg (fun _ => rfl) ?_
  refine Ev.nxk (bxI rfl rfl ⟨rfl, rfl, by decide⟩) ?_
  refine Ev.nxk (bxI rfl rfl ⟨rfl, rfl, by decide⟩) ?_
  refine Ev.nxk (mvO rfl) ?_
  refine Ev.rend ?_
  intro e1 he2
  have h3 : eget e1 2 = .pt none [.int .i64 a1.Debtor, .int .i64 a1.Holder, .int .i64 a1.Cut, .int .i64 a1.Amount, .int .i64 a1.Left] := envp he2 rfl rfl
  have h4 : eget e1 3 = .pt none [.int .i64 a2.Debtor, .int .i64 a2.Holder, .int .i64 a2.Cut, .int .i64 a2.Amount, .int .i64 a2.Left] := envp he2 rfl rfl
  refine Ev.kseqN ?_
  refine Ev.seq ?_
  refine Ev.seq ?_
  refine Ev.reg (fun _ => rfl) ?_
  refine Ev.nxk (faP h3 ⟨ble rfl, blt rfl⟩ rfl) ?_
  refine Ev.nxk (ldP rfl rfl) ?_
  refine Ev.nxk (faP h4 ⟨ble rfl, blt rfl⟩ rfl) ?_
  refine Ev.nxk (ldP rfl rfl) ?_
  refine Ev.nxk (bNeq rfl rfl) ?_
  refine Ev.rend ?_
  intro e5 he6
  have h7 : eget e5 2 = .pt none [.int .i64 a1.Debtor, .int .i64 a1.Holder, .int .i64 a1.Cut, .int .i64 a1.Amount, .int .i64 a1.Left] := envp he6 rfl h3
  have h8 : eget e5 3 = .pt none [.int .i64 a2.Debtor, .int .i64 a2.Holder, .int .i64 a2.Cut, .int .i64 a2.Amount, .int .i64 a2.Left] := envp he6 rfl h4
  have h9 : eget e5 9 = .bool (a1.Debtor != a2.Debtor) := envp he6 rfl rfl
  clear h3 h4
  refine Ev.kseqN ?_
  rcases ite_some h with ⟨hb10, h⟩ | ⟨hb10, h⟩
  · refine Ev.condT h9 hb10 ?_
    refine Ev.seq ?_
    refine Ev.reg (fun _ => rfl) ?_
    refine Ev.nxk (mvO rfl) ?_
    refine Ev.rend ?_
    intro e11 he12
    have h13 : eget e11 4 = .bool false := envp he12 rfl rfl
    clear h7 h8 h9
    refine Ev.kseqN ?_
    refine Ev.ex ?_
    refine Ev.kseqR ?_
    cases h
    exact Ev.kendR (resT h13 res0) rfl
  · refine Ev.condF h9 hb10 ?_
    refine Ev.ex ?_
    refine Ev.kseqN ?_
    refine Ev.seq ?_
    refine Ev.seq ?_
    refine Ev.reg (fun _ => rfl) ?_
    refine Ev.nxk (faP h7 ⟨ble rfl, blt rfl⟩ rfl) ?_
    refine Ev.nxk (ldP rfl rfl) ?_
    refine Ev.nxk (faP h8 ⟨ble rfl, blt rfl⟩ rfl) ?_
    refine Ev.nxk (ldP rfl rfl) ?_
    refine Ev.nxk (bNeq rfl rfl) ?_
    refine Ev.rend ?_
    intro e14 he15
    have h16 : eget e14 2 = .pt none [.int .i64 a1.Debtor, .int .i64 a1.Holder, .int .i64 a1.Cut, .int .i64 a1.Amount, .int .i64 a1.Left] := envp he15 rfl h7
    have h17 : eget e14 3 = .pt none [.int .i64 a2.Debtor, .int .i64 a2.Holder, .int .i64 a2.Cut, .int .i64 a2.Amount, .int .i64 a2.Left] := envp he15 rfl h8
    have h18 : eget e14 14 = .bool (a1.Holder != a2.Holder) := envp he15 rfl rfl
    clear h7 h8 h9
    refine Ev.kseqN ?_
    rcases ite_some h with ⟨hb19, h⟩ | ⟨hb19, h⟩
    · refine Ev.condT h18 hb19 ?_
      refine Ev.seq ?_
      refine Ev.reg (fun _ => rfl) ?_
      refine Ev.nxk (mvO rfl) ?_
      refine Ev.rend ?_
      intro e20 he21
      have h22 : eget e20 4 = .bool false := envp he21 rfl rfl
      clear h16 h17 h18
      refine Ev.kseqN ?_
      refine Ev.ex ?_
      refine Ev.kseqR ?_
      cases h
      exact Ev.kendR (resT h22 res0) rfl
    · refine Ev.condF h18 hb19 ?_
      refine Ev.ex ?_
      refine Ev.kseqN ?_
      refine Ev.seq ?_
      refine Ev.seq ?_
      refine Ev.reg (fun _ => rfl) ?_
      refine Ev.nxk (faP h16 ⟨ble rfl, blt rfl⟩ rfl) ?_
      refine Ev.nxk (ldP rfl rfl) ?_
      refine Ev.nxk (faP h17 ⟨ble rfl, blt rfl⟩ rfl) ?_
      refine Ev.nxk (ldP rfl rfl) ?_
      refine Ev.nxk (bNeq rfl rfl) ?_
      refine Ev.rend ?_
      intro e23 he24
      have h25 : eget e23 2 = .pt none [.int .i64 a1.Debtor, .int .i64 a1.Holder, .int .i64 a1.Cut, .int .i64 a1.Amount, .int .i64 a1.Left] := envp he24 rfl h16
      have h26 : eget e23 3 = .pt none [.int .i64 a2.Debtor, .int .i64 a2.Holder, .int .i64 a2.Cut, .int .i64 a2.Amount, .int .i64 a2.Left] := envp he24 rfl h17
      have h27 : eget e23 19 = .bool (a1.Cut != a2.Cut) := envp he24 rfl rfl
      clear h16 h17 h18
      refine Ev.kseqN ?_
      rcases ite_some h with ⟨hb28, h⟩ | ⟨hb28, h⟩
      · refine Ev.condT h27 hb28 ?_
        refine Ev.seq ?_
        refine Ev.reg (fun _ => rfl) ?_
        refine Ev.nxk (mvO rfl) ?_
        refine Ev.rend ?_
        intro e29 he30
        have h31 : eget e29 4 = .bool false := envp he30 rfl rfl
        clear h25 h26 h27
        refine Ev.kseqN ?_
        refine Ev.ex ?_
        refine Ev.kseqR ?_
        cases h
        exact Ev.kendR (resT h31 res0) rfl
      · refine Ev.condF h27 hb28 ?_
        refine Ev.ex ?_
        refine Ev.kseqN ?_
        refine Ev.seq ?_
        refine Ev.seq ?_
        refine Ev.reg (fun _ => rfl) ?_
        refine Ev.nxk (faP h25 ⟨ble rfl, blt rfl⟩ rfl) ?_
        refine Ev.nxk (ldP rfl rfl) ?_
        refine Ev.nxk (faP h26 ⟨ble rfl, blt rfl⟩ rfl) ?_
        refine Ev.nxk (ldP rfl rfl) ?_
        refine Ev.nxk (bNeq rfl rfl) ?_
        refine Ev.rend ?_
        intro e32 he33
        have h34 : eget e32 2 = .pt none [.int .i64 a1.Debtor, .int .i64 a1.Holder, .int .i64 a1.Cut, .int .i64 a1.Amount, .int .i64 a1.Left] := envp he33 rfl h25
        have h35 : eget e32 3 = .pt none [.int .i64 a2.Debtor, .int .i64 a2.Holder, .int .i64 a2.Cut, .int .i64 a2.Amount, .int .i64 a2.Left] := envp he33 rfl h26
        have h36 : eget e32 24 = .bool (a1.Amount != a2.Amount) := envp he33 rfl rfl
        clear h25 h26 h27
        refine Ev.kseqN ?_
        rcases ite_some h with ⟨hb37, h⟩ | ⟨hb37, h⟩
        · refine Ev.condT h36 hb37 ?_
          refine Ev.seq ?_
          refine Ev.reg (fun _ => rfl) ?_
          refine Ev.nxk (mvO rfl) ?_
          refine Ev.rend ?_
          intro e38 he39
          have h40 : eget e38 4 = .bool false := envp he39 rfl rfl
          clear h34 h35 h36
          refine Ev.kseqN ?_
          refine Ev.ex ?_
          refine Ev.kseqR ?_
          cases h
          exact Ev.kendR (resT h40 res0) rfl
        · refine Ev.condF h36 hb37 ?_
          refine Ev.ex ?_
          refine Ev.kseqN ?_
          refine Ev.seq ?_
          refine Ev.seq ?_
          refine Ev.reg (fun _ => rfl) ?_
          refine Ev.nxk (faP h34 ⟨ble rfl, blt rfl⟩ rfl) ?_
          refine Ev.nxk (ldP rfl rfl) ?_
          refine Ev.nxk (faP h35 ⟨ble rfl, blt rfl⟩ rfl) ?_
          refine Ev.nxk (ldP rfl rfl) ?_
          refine Ev.nxk (bNeq rfl rfl) ?_
          refine Ev.rend ?_
          intro e41 he42
          have h43 : eget e41 29 = .bool (a1.Left != a2.Left) := envp he42 rfl rfl
          clear h34 h35 h36
          refine Ev.kseqN ?_
          rcases ite_some h with ⟨hb44, h⟩ | ⟨hb44, h⟩
          · refine Ev.condT h43 hb44 ?_
            refine Ev.seq ?_
            refine Ev.reg (fun _ => rfl) ?_
            refine Ev.nxk (mvO rfl) ?_
            refine Ev.rend ?_
            intro e45 he46
            have h47 : eget e45 4 = .bool false := envp he46 rfl rfl
            clear h43
            refine Ev.kseqN ?_
            refine Ev.ex ?_
            refine Ev.kseqR ?_
            cases h
            exact Ev.kendR (resT h47 res0) rfl
          · refine Ev.condF h43 hb44 ?_
            refine Ev.ex ?_
            refine Ev.kseqN ?_
            refine Ev.seq ?_
            refine Ev.reg (fun _ => rfl) ?_
            refine Ev.nxk (mvO rfl) ?_
            refine Ev.rend ?_
            intro e48 he49
            have h50 : eget e48 4 = .bool true := envp he49 rfl rfl
            clear h43
            refine Ev.kseqN ?_
            refine Ev.ex ?_
            cases h
            exact Ev.kendR (resT h50 res0) rfl
/-! ### loop.example/g01263/laws.toTally (f61) -/
noncomputable def laws_toTally (a1 : Tally) : Option (Int × Int × Int × Int × Int) :=
  some (a1.Debtor, a1.Holder, a1.Cut, a1.Amount, a1.Left)
def laws_toTally_enc (r : Int × Int × Int × Int × Int) : AV := .agg [.int .i64 r.1, .int .i64 r.2.1, .int .i64 r.2.2.1, .int .i64 r.2.2.2.1, .int .i64 r.2.2.2.2]
theorem laws_toTally_ok (a1 : Tally) (r : Int × Int × Int × Int × Int) (h : laws_toTally a1 = some r) : Ev (fun k => CN k 61 [.agg [.int .i64 a1.Debtor, .int .i64 a1.Holder, .int .i64 a1.Cut, .int .i64 a1.Amount, .int .i64 a1.Left]] []) (fun p => rRes p.2 p.1 = laws_toTally_enc r) := by
  unfold laws_toTally at h
  refine Ev.enter (F := fun k => f61 (CN k) k) (fun k => callN_eq rfl Try.func61 rfl rfl rfl (by decide +kernel) (f61_eq _ _)) ?_
  refine Ev.seq ?_
  refine Ev.reg (fun _ => rfl) ?_
  refine Ev.nxk (bxI rfl rfl ⟨rfl, rfl, by decide⟩) ?_
  refine Ev.nxpush (alO zero81) ?_
  intro M2 hM3
  have o4 : M2[([] : Mem).length]? = some (.live ⟨.box, 81, 5, [[.int .i64 0, .int .i64 0, .int .i64 0, .int .i64 0, .int .i64 0]]⟩) := push_new hM3
  refine Ev.rend ?_
  intro e5 he6
  have h7 : eget e5 1 = .pt none [.int .i64 a1.Debtor, .int .i64 a1.Holder, .int .i64 a1.Cut, .int .i64 a1.Amount, .int .i64 a1.Left] := envp he6 rfl rfl
  have h8 : eget e5 2 = .loc ([] : Mem).length 1 0 0 := envp he6 rfl rfl
  refine Ev.kseqN ?_
  refine Ev.seq ?_
  refine Ev.reg (fun _ => rfl) ?_
  refine Ev.nxpush (alO zero81) ?_
  intro M10 hM11
  have o12 := push_old hM11 o4
  have ne13 := ne_new o4
  have o14 : M10[M2.length]? = some (.live ⟨.box, 81, 5, [[.int .i64 0, .int .i64 0, .int .i64 0, .int .i64 0, .int .i64 0]]⟩) := push_new hM11
  refine Ev.rend ?_
  intro e15 he16
  have h17 : eget e15 1 = .pt none [.int .i64 a1.Debtor, .int .i64 a1.Holder, .int .i64 a1.Cut, .int .i64 a1.Amount, .int .i64 a1.Left] := envp he16 rfl h7
  have h18 : eget e15 2 = .loc ([] : Mem).length 1 0 0 := envp he16 rfl h8
  have h19 : eget e15 3 = .loc M2.length 1 0 0 := envp he16 rfl rfl
  clear h7 h8
  refine Ev.kseqN ?_
  refine Ev.seq ?_
  refine Ev.reg (fun _ => rfl) ?_
  refine Ev.nxk (faP h17 ⟨ble rfl, blt rfl⟩ rfl) ?_
  refine Ev.nxk (ldP rfl rfl) ?_
  refine Ev.nxk (faO h19 o14 rfl) ?_
  refine Ev.nxput (stO rfl rfl o14 rfl rfl ⟨rfl, ble rfl⟩ rfl rfl) ?_
  intro M20 hM21
  have o22 := set_ne hM21 ne13 o12
  have o23 : M20[M2.length]? = some (.live ⟨.box, 81, 5, [[.int .i64 a1.Debtor, .int .i64 0, .int .i64 0, .int .i64 0, .int .i64 0]]⟩) := set_same hM21 o14
  refine Ev.rend ?_
  intro e24 he25
  have h26 : eget e24 1 = .pt none [.int .i64 a1.Debtor, .int .i64 a1.Holder, .int .i64 a1.Cut, .int .i64 a1.Amount, .int .i64 a1.Left] := envp he25 rfl h17
  have h27 : eget e24 2 = .loc ([] : Mem).length 1 0 0 := envp he25 rfl h18
  have h28 : eget e24 3 = .loc M2.length 1 0 0 := envp he25 rfl h19
  clear h17 h18 h19
  refine Ev.kseqN ?_
  refine Ev.seq ?_
  refine Ev.reg (fun _ => rfl) ?_
  refine Ev.nxk (faP h26 ⟨ble rfl, blt rfl⟩ rfl) ?_
  refine Ev.nxk (ldP rfl rfl) ?_
  refine Ev.nxk (faO h28 o23 rfl) ?_
  refine Ev.nxput (stO rfl rfl o23 rfl rfl ⟨rfl, ble rfl⟩ rfl rfl) ?_
  intro M29 hM30
  have o31 := set_ne hM30 ne13 o22
  have o32 : M29[M2.length]? = some (.live ⟨.box, 81, 5, [[.int .i64 a1.Debtor, .int .i64 a1.Holder, .int .i64 0, .int .i64 0, .int .i64 0]]⟩) := set_same hM30 o23
  refine Ev.rend ?_
  intro e33 he34
  have h35 : eget e33 1 = .pt none [.int .i64 a1.Debtor, .int .i64 a1.Holder, .int .i64 a1.Cut, .int .i64 a1.Amount, .int .i64 a1.Left] := envp he34 rfl h26
  have h36 : eget e33 2 = .loc ([] : Mem).length 1 0 0 := envp he34 rfl h27
  have h37 : eget e33 3 = .loc M2.length 1 0 0 := envp he34 rfl h28
  clear h26 h27 h28
  refine Ev.kseqN ?_
  refine Ev.seq ?_
  refine Ev.reg (fun _ => rfl) ?_
  refine Ev.nxk (faP h35 ⟨ble rfl, blt rfl⟩ rfl) ?_
  refine Ev.nxk (ldP rfl rfl) ?_
  refine Ev.nxk (faO h37 o32 rfl) ?_
  refine Ev.nxput (stO rfl rfl o32 rfl rfl ⟨rfl, ble rfl⟩ rfl rfl) ?_
  intro M38 hM39
  have o40 := set_ne hM39 ne13 o31
  have o41 : M38[M2.length]? = some (.live ⟨.box, 81, 5, [[.int .i64 a1.Debtor, .int .i64 a1.Holder, .int .i64 a1.Cut, .int .i64 0, .int .i64 0]]⟩) := set_same hM39 o32
  refine Ev.rend ?_
  intro e42 he43
  have h44 : eget e42 1 = .pt none [.int .i64 a1.Debtor, .int .i64 a1.Holder, .int .i64 a1.Cut, .int .i64 a1.Amount, .int .i64 a1.Left] := envp he43 rfl h35
  have h45 : eget e42 2 = .loc ([] : Mem).length 1 0 0 := envp he43 rfl h36
  have h46 : eget e42 3 = .loc M2.length 1 0 0 := envp he43 rfl h37
  clear h35 h36 h37
  refine Ev.kseqN ?_
  refine Ev.seq ?_
  refine Ev.reg (fun _ => rfl) ?_
  refine Ev.nxk (faP h44 ⟨ble rfl, blt rfl⟩ rfl) ?_
  refine Ev.nxk (ldP rfl rfl) ?_
  refine Ev.nxk (faO h46 o41 rfl) ?_
  refine Ev.nxput (stO rfl rfl o41 rfl rfl ⟨rfl, ble rfl⟩ rfl rfl) ?_
  intro M47 hM48
  have o49 := set_ne hM48 ne13 o40
  have o50 : M47[M2.length]? = some (.live ⟨.box, 81, 5, [[.int .i64 a1.Debtor, .int .i64 a1.Holder, .int .i64 a1.Cut, .int .i64 a1.Amount, .int .i64 0]]⟩) := set_same hM48 o41
  refine Ev.rend ?_
  intro e51 he52
  have h53 : eget e51 1 = .pt none [.int .i64 a1.Debtor, .int .i64 a1.Holder, .int .i64 a1.Cut, .int .i64 a1.Amount, .int .i64 a1.Left] := envp he52 rfl h44
  have h54 : eget e51 2 = .loc ([] : Mem).length 1 0 0 := envp he52 rfl h45
  have h55 : eget e51 3 = .loc M2.length 1 0 0 := envp he52 rfl h46
  clear h44 h45 h46
  refine Ev.kseqN ?_
  refine Ev.seq ?_
  refine Ev.reg (fun _ => rfl) ?_
  refine Ev.nxk (faP h53 ⟨ble rfl, blt rfl⟩ rfl) ?_
  refine Ev.nxk (ldP rfl rfl) ?_
  refine Ev.nxk (faO h55 o50 rfl) ?_
  refine Ev.nxput (stO rfl rfl o50 rfl rfl ⟨rfl, ble rfl⟩ rfl rfl) ?_
  intro M56 hM57
  have o58 := set_ne hM57 ne13 o49
  have o59 : M56[M2.length]? = some (.live ⟨.box, 81, 5, [[.int .i64 a1.Debtor, .int .i64 a1.Holder, .int .i64 a1.Cut, .int .i64 a1.Amount, .int .i64 a1.Left]]⟩) := set_same hM57 o50
  refine Ev.rend ?_
  intro e60 he61
  have h62 : eget e60 2 = .loc ([] : Mem).length 1 0 0 := envp he61 rfl h54
  have h63 : eget e60 3 = .loc M2.length 1 0 0 := envp he61 rfl h55
  clear h53 h54 h55
  refine Ev.kseqN ?_
  refine Ev.seq ?_
  refine Ev.reg (fun _ => rfl) ?_
  refine Ev.nxk (ldOA h63 o59 rfl rfl (ble rfl) rfl) ?_
  refine Ev.nxput (stO h62 rfl o58 rfl rfl ⟨rfl, ble rfl⟩ rfl rfl) ?_
  intro M64 hM65
  have o66 : M64[([] : Mem).length]? = some (.live ⟨.box, 81, 5, [[.int .i64 a1.Debtor, .int .i64 a1.Holder, .int .i64 a1.Cut, .int .i64 a1.Amount, .int .i64 a1.Left]]⟩) := set_same hM65 o58
  have o67 := set_ne hM65 (Ne.symm ne13) o59
  refine Ev.rend ?_
  intro e68 he69
  have h70 : eget e68 2 = .loc ([] : Mem).length 1 0 0 := envp he69 rfl h62
  clear h62 h63
  refine Ev.kseqN ?_
  refine Ev.ex ?_
  cases h
  exact Ev.kendR (resC (ag := true) (sz := 5) ⟨by kernel_rfl, by kernel_rfl, by kernel_rfl⟩ (ldOA h70 o66 rfl rfl (ble rfl) rfl) res0) rfl
/-! ### loop.example/g01263/spec.l00Same (f60) -/
abbrev spec_l00Same_b1_S := Int
abbrev spec_l00Same_b1_R := Unit ⊕ Unit
def spec_l00Same_b1_RS (a1 : List Int) (a2 : List Int) (s : spec_l00Same_b1_S) (e : Env) (M : Mem) : Prop := eget e 0 = .sl none (a1.map (cI .i64)) ∧ eget e 1 = .sl none (a2.map (cI .i64)) ∧ eget e 5 = .int .i64 s
def spec_l00Same_b1_RR (a1 : List Int) (a2 : List Int) (r : spec_l00Same_b1_R) (x : Ex) (e : Env) (M : Mem) : Prop :=
  match r with
  | (.inl g) => x = .ret ∧ eget e 4 = .bool false
  | (.inr g) => x = .ext 0 ∧ True
noncomputable def spec_l00Same_b1 (a1 : List Int) (a2 : List Int) : spec_l00Same_b1_S → Option (spec_l00Same_b1_S ⊕ spec_l00Same_b1_R) := fun s1_1 =>
  if (decide (s1_1 < (a1.length : Int))) = true then
    (rd a1 s1_1).bind fun x42 =>
    (rd a2 s1_1).bind fun x44 =>
    if (x42 != x44) = true then
      some (.inr (.inl ()))
    else
      some (.inl (IntKind.i64.wrap (s1_1 + 1)))
  else
    some (.inr (.inr ()))
theorem spec_l00Same_b1_ok (a1 : List Int) (a2 : List Int) (s : spec_l00Same_b1_S) (r : spec_l00Same_b1_S ⊕ spec_l00Same_b1_R) (h : spec_l00Same_b1 a1 a2 s = some r) (e : Env) (M : Mem) (hs : spec_l00Same_b1_RS a1 a2 s e M) : Ev (fun k => (f60_l4 (CN k) k (prune [0, 1, 5] e) M).bind fun q => some q) (bQ (spec_l00Same_b1_RS a1 a2) (spec_l00Same_b1_RR a1 a2) r) := by
  revert h hs
  revert s
  intro s1_1 h hs
  unfold spec_l00Same_b1 at h
  obtain ⟨h29, h31, h33⟩ := hs
  generalize he28 : prune [0, 1, 5] e = e27
  have h30 := envp he28.symm rfl h29
  have h32 := envp he28.symm rfl h31
  have h34 := envp he28.symm rfl h33
  refine Ev.seq ?_
  refine Ev.seq ?_
  refine Ev.reg (fun _ => rfl) ?_
  refine Ev.nxk (mvO h34) ?_
  refine Ev.nxk (mvO h30) ?_
  refine Ev.nxk (lnS Try.underlying29 rfl) ?_
  refine Ev.nxk (bLss rfl rfl) ?_
  refine Ev.rend ?_
  intro e35 he36
  have h37 : eget e35 0 = .sl none (a1.map (cI .i64)) := envp he36 rfl h30
  have h38 : eget e35 1 = .sl none (a2.map (cI .i64)) := envp he36 rfl h32
  have h39 : eget e35 5 = .int .i64 s1_1 := envp he36 rfl h34
  have h40 : eget e35 14 = .bool (decide (s1_1 < (a1.length : Int))) := envp he36 rfl rfl
  clear h30 h32 h34
  refine Ev.kseqN ?_
  rcases ite_some h with ⟨hb41, h⟩ | ⟨hb41, h⟩
  · refine Ev.condT h40 hb41 ?_
    refine Ev.ex ?_
    refine Ev.kseqN ?_
    refine Ev.seq ?_
    refine Ev.blk ?_
    refine Ev.seq ?_
    refine Ev.regD (fun _ => rfl) ?_
    refine Ev.nfk (mvO h37) ?_
    refine Ev.nfk (mvO h39) ?_
    obtain ⟨x42, hx43, h⟩ := bind_some h
    refine Ev.nfk (ixS rfl rfl hx43 (cI_fl _)) ?_
    refine Ev.nfk (ldP rfl rfl) ?_
    refine Ev.nfk (mvO h38) ?_
    refine Ev.nfk (mvO h39) ?_
    obtain ⟨x44, hx45, h⟩ := bind_some h
    refine Ev.nfk (ixS rfl rfl hx45 (cI_fl _)) ?_
    refine Ev.nfk (ldP rfl rfl) ?_
    refine Ev.nfk (bNeq rfl rfl) ?_
    refine Ev.fend0 ?_
    refine Ev.rend ?_
    intro e46 he47
    have h48 : eget e46 0 = .sl none (a1.map (cI .i64)) := envp he47 rfl h37
    have h49 : eget e46 1 = .sl none (a2.map (cI .i64)) := envp he47 rfl h38
    have h50 : eget e46 5 = .int .i64 s1_1 := envp he47 rfl h39
    have h51 : eget e46 25 = .bool (x42 != x44) := envp he47 rfl rfl
    clear h37 h38 h39 h40
    refine Ev.kseqN ?_
    rcases ite_some h with ⟨hb52, h⟩ | ⟨hb52, h⟩
    · refine Ev.condT h51 hb52 ?_
      refine Ev.seq ?_
      refine Ev.reg (fun _ => rfl) ?_
      refine Ev.nxk (mvO rfl) ?_
      refine Ev.rend ?_
      intro e53 he54
      have h55 : eget e53 4 = .bool false := envp he54 rfl rfl
      clear h48 h49 h50 h51
      refine Ev.kseqN ?_
      refine Ev.ex ?_
      refine Ev.kblkR ?_
      refine Ev.kseqR ?_
      cases h
      exact Ev.kid (bQ_x (RS := (spec_l00Same_b1_RS a1 a2)) (RR := (spec_l00Same_b1_RR a1 a2)) (by intro h; cases h) (And.intro rfl h55))
    · refine Ev.condF h51 hb52 ?_
      refine Ev.ex ?_
      refine Ev.kblkN ?_
      refine Ev.kseqN ?_
      refine Ev.reg (fun _ => rfl) ?_
      refine Ev.nxk (mvO h50) ?_
      refine Ev.nxk (bAdd rfl rfl) ?_
      refine Ev.nxk (mvO rfl) ?_
      refine Ev.rend ?_
      intro e56 he57
      have h58 : eget e56 0 = .sl none (a1.map (cI .i64)) := envp he57 rfl h48
      have h59 : eget e56 1 = .sl none (a2.map (cI .i64)) := envp he57 rfl h49
      have h60 : eget e56 5 = .int .i64 (IntKind.i64.wrap (s1_1 + 1)) := envp he57 rfl rfl
      clear h48 h49 h51
      cases h
      exact Ev.kid (bQ_n (RS := (spec_l00Same_b1_RS a1 a2)) (RR := (spec_l00Same_b1_RR a1 a2)) (And.intro h58 (And.intro h59 h60)))
  · refine Ev.condF h40 hb41 ?_
    refine Ev.ex ?_
    refine Ev.kseqE ?_
    cases h
    exact Ev.kid (bQ_x (RS := (spec_l00Same_b1_RS a1 a2)) (RR := (spec_l00Same_b1_RR a1 a2)) (by intro h; cases h) (And.intro rfl trivial))
noncomputable def spec_l00Same (a1 : List Int) (a2 : List Int) : Option Bool :=
  if ((a1.length : Int) != (a2.length : Int)) = true then
    some false
  else
    (Lw (spec_l00Same_b1 a1 a2) 0).bind fun r => match r with
    | (.inl _) =>
      some false
    | (.inr _) =>
      some true
def spec_l00Same_enc (r : Bool) : AV := .bool r
theorem spec_l00Same_ok (a1 : List Int) (a2 : List Int) (r : Bool) (h : spec_l00Same a1 a2 = some r) : Ev (fun k => CN k 60 [.sl none (a1.map (cI .i64)), .sl none (a2.map (cI .i64))] []) (fun p => rRes p.2 p.1 = spec_l00Same_enc r) := by
  unfold spec_l00Same at h
  refine Ev.enter (F := fun k => f60 (CN k) k) (fun k => callN_eq rfl Try.func60 rfl rfl rfl (by decide +kernel) (f60_eq _ _)) ?_
  refine Ev.seq ?_
  refine Ev.reg (fun _ => rfl) ?_
  refine Ev.nxk (mvO rfl) ?_
  refine Ev.rend ?_
  intro e1 he2
  have h3 : eget e1 0 = .sl none (a1.map (cI .i64)) := envp he2 rfl rfl
  have h4 : eget e1 1 = .sl none (a2.map (cI .i64)) := envp he2 rfl rfl
  refine Ev.kseqN ?_
  refine Ev.seq ?_
  refine Ev.seq ?_
  refine Ev.reg (fun _ => rfl) ?_
  refine Ev.nxk (mvO h3) ?_
  refine Ev.nxk (lnS Try.underlying29 rfl) ?_
  refine Ev.nxk (mvO h4) ?_
  refine Ev.nxk (lnS Try.underlying29 rfl) ?_
  refine Ev.nxk (bNeq rfl rfl) ?_
  refine Ev.rend ?_
  intro e5 he6
  have h7 : eget e5 0 = .sl none (a1.map (cI .i64)) := envp he6 rfl h3
  have h8 : eget e5 1 = .sl none (a2.map (cI .i64)) := envp he6 rfl h4
  have h9 : eget e5 10 = .bool ((a1.length : Int) != (a2.length : Int)) := envp he6 rfl rfl
  clear h3 h4
  refine Ev.kseqN ?_
  rcases ite_some h with ⟨hb10, h⟩ | ⟨hb10, h⟩
  · refine Ev.condT h9 hb10 ?_
    refine Ev.seq ?_
    refine Ev.reg (fun _ => rfl) ?_
    refine Ev.nxk (mvO rfl) ?_
    refine Ev.rend ?_
    intro e11 he12
    have h13 : eget e11 4 = .bool false := envp he12 rfl rfl
    clear h7 h8 h9
    refine Ev.kseqN ?_
    refine Ev.ex ?_
    refine Ev.kseqR ?_
    cases h
    exact Ev.kendR (resT h13 res0) rfl
  · refine Ev.condF h9 hb10 ?_
    refine Ev.ex ?_
    refine Ev.kseqN ?_
    refine Ev.seq ?_
    refine Ev.seq ?_
    refine Ev.reg (fun _ => rfl) ?_
    refine Ev.nxk (mvO rfl) ?_
    refine Ev.rend ?_
    intro e14 he15
    have h16 : eget e14 0 = .sl none (a1.map (cI .i64)) := envp he15 rfl h7
    have h17 : eget e14 1 = .sl none (a2.map (cI .i64)) := envp he15 rfl h8
    have h18 : eget e14 5 = .int .i64 0 := envp he15 rfl rfl
    clear h7 h8 h9
    refine Ev.kseqN ?_
    refine Ev.blk ?_
    obtain ⟨r61, hr62, h⟩ := bind_some h
    rcases r61 with _ | _
    · refine Ev.loop (RS := spec_l00Same_b1_RS a1 a2) (RR := spec_l00Same_b1_RR a1 a2) (fun s r h e M hs => spec_l00Same_b1_ok a1 a2 s r h e M hs) hr62 (And.intro h16 (And.intro h17 h18)) ?_
      intro x e64 M65 hq63
      obtain ⟨rfl, h66⟩ := hq63
      refine Ev.kblkR ?_
      refine Ev.kseqR ?_
      cases h
      exact Ev.kendR (resT h66 res0) rfl
    · refine Ev.loop (RS := spec_l00Same_b1_RS a1 a2) (RR := spec_l00Same_b1_RR a1 a2) (fun s r h e M hs => spec_l00Same_b1_ok a1 a2 s r h e M hs) hr62 (And.intro h16 (And.intro h17 h18)) ?_
      intro x e67 M68 hq63
      obtain ⟨rfl, _⟩ := hq63
      refine Ev.kblkE ?_
      refine Ev.kseqN ?_
      refine Ev.seq ?_
      refine Ev.reg (fun _ => rfl) ?_
      refine Ev.nxk (mvO rfl) ?_
      refine Ev.rend ?_
      intro e69 he70
      have h71 : eget e69 4 = .bool true := envp he70 rfl rfl
      refine Ev.kseqN ?_
      refine Ev.ex ?_
      cases h
      exact Ev.kendR (resT h71 res0) rfl
/-! ### loop.example/g01263/laws.eqTallyS (f52) -/
abbrev laws_eqTallyS_b1_S := Int
abbrev laws_eqTallyS_b1_R := Unit ⊕ Unit
def laws_eqTallyS_b1_RS (a1 : List Tally) (a2 : List Tally) (s : laws_eqTallyS_b1_S) (e : Env) (M : Mem) : Prop := eget e 0 = .sl none (a1.map Tally.c) ∧ eget e 1 = .sl none (a2.map Tally.c) ∧ eget e 5 = .int .i64 s
def laws_eqTallyS_b1_RR (a1 : List Tally) (a2 : List Tally) (r : laws_eqTallyS_b1_R) (x : Ex) (e : Env) (M : Mem) : Prop :=
  match r with
  | (.inl g) => x = .ret ∧ eget e 4 = .bool false
  | (.inr g) => x = .ext 0 ∧ True
noncomputable def laws_eqTallyS_b1 (a1 : List Tally) (a2 : List Tally) : laws_eqTallyS_b1_S → Option (laws_eqTallyS_b1_S ⊕ laws_eqTallyS_b1_R) := fun s1_1 =>
  if (decide (s1_1 < (a1.length : Int))) = true then
    (rd a1 s1_1).bind fun x42 =>
    (rd a2 s1_1).bind fun x44 =>
    (laws_eqTally x42 x44).bind fun r47 =>
    if r47 = true then
      some (.inl (IntKind.i64.wrap (s1_1 + 1)))
    else
      some (.inr (.inl ()))
  else
    some (.inr (.inr ()))
theorem laws_eqTallyS_b1_ok (a1 : List Tally) (a2 : List Tally) (s : laws_eqTallyS_b1_S) (r : laws_eqTallyS_b1_S ⊕ laws_eqTallyS_b1_R) (h : laws_eqTallyS_b1 a1 a2 s = some r) (e : Env) (M : Mem) (hs : laws_eqTallyS_b1_RS a1 a2 s e M) : Ev (fun k => (f52_l4 (CN k) k (prune [0, 1, 5] e) M).bind fun q => some q) (bQ (laws_eqTallyS_b1_RS a1 a2) (laws_eqTallyS_b1_RR a1 a2) r) := by
  revert h hs
  revert s
  intro s1_1 h hs
  unfold laws_eqTallyS_b1 at h
  obtain ⟨h29, h31, h33⟩ := hs
  generalize he28 : prune [0, 1, 5] e = e27
  have h30 := envp he28.symm rfl h29
  have h32 := envp he28.symm rfl h31
  have h34 := envp he28.symm rfl h33
  refine Ev.seq ?_
  refine Ev.seq ?_
  refine Ev.reg (fun _ => rfl) ?_
  refine Ev.nxk (mvO h34) ?_
  refine Ev.nxk (mvO h30) ?_
  refine Ev.nxk (lnS Try.underlying51 rfl) ?_
  refine Ev.nxk (bLss rfl rfl) ?_
  refine Ev.rend ?_
  intro e35 he36
  have h37 : eget e35 0 = .sl none (a1.map Tally.c) := envp he36 rfl h30
  have h38 : eget e35 1 = .sl none (a2.map Tally.c) := envp he36 rfl h32
  have h39 : eget e35 5 = .int .i64 s1_1 := envp he36 rfl h34
  have h40 : eget e35 14 = .bool (decide (s1_1 < (a1.length : Int))) := envp he36 rfl rfl
  clear h30 h32 h34
  refine Ev.kseqN ?_
  rcases ite_some h with ⟨hb41, h⟩ | ⟨hb41, h⟩
  · refine Ev.condT h40 hb41 ?_
    refine Ev.ex ?_
    refine Ev.kseqN ?_
    refine Ev.seq ?_
    refine Ev.blk ?_
    refine Ev.seq ?_
    refine Ev.regD (fun _ => rfl) ?_
    refine Ev.nfk (mvO h37) ?_
    refine Ev.nfk (mvO h39) ?_
    obtain ⟨x42, hx43, h⟩ := bind_some h
    refine Ev.nfk (ixS rfl rfl hx43 Tally.fl) ?_
    refine Ev.nfk (ldPA rfl rfl rfl) ?_
    refine Ev.nfk (mvO h38) ?_
    refine Ev.nfk (mvO h39) ?_
    obtain ⟨x44, hx45, h⟩ := bind_some h
    refine Ev.nfk (ixS rfl rfl hx45 Tally.fl) ?_
    refine Ev.nfk (ldPA rfl rfl rfl) ?_
    obtain ⟨r47, hx46, h⟩ := bind_some h
    refine Ev.nfc (Ev.call (v := .bool r47) rfl (cns rfl (cns rfl rfl)) rfl (laws_eqTally_ok x42 x44 _ hx46) (fun h => nomatch (show false = true from h))) ?_
    refine Ev.nfk (uNot rfl) ?_
    refine Ev.fend0 ?_
    refine Ev.rend ?_
    intro e48 he49
    have h50 : eget e48 0 = .sl none (a1.map Tally.c) := envp he49 rfl h37
    have h51 : eget e48 1 = .sl none (a2.map Tally.c) := envp he49 rfl h38
    have h52 : eget e48 5 = .int .i64 s1_1 := envp he49 rfl h39
    have h53 : eget e48 26 = .bool (!r47) := envp he49 rfl rfl
    clear h37 h38 h39 h40
    refine Ev.kseqN ?_
    rcases ite_some h with ⟨hb54, h⟩ | ⟨hb54, h⟩
    · refine Ev.condF h53 (congrArg Bool.not hb54) ?_
      refine Ev.ex ?_
      refine Ev.kblkN ?_
      refine Ev.kseqN ?_
      refine Ev.reg (fun _ => rfl) ?_
      refine Ev.nxk (mvO h52) ?_
      refine Ev.nxk (bAdd rfl rfl) ?_
      refine Ev.nxk (mvO rfl) ?_
      refine Ev.rend ?_
      intro e55 he56
      have h57 : eget e55 0 = .sl none (a1.map Tally.c) := envp he56 rfl h50
      have h58 : eget e55 1 = .sl none (a2.map Tally.c) := envp he56 rfl h51
      have h59 : eget e55 5 = .int .i64 (IntKind.i64.wrap (s1_1 + 1)) := envp he56 rfl rfl
      clear h50 h51 h53
      cases h
      exact Ev.kid (bQ_n (RS := (laws_eqTallyS_b1_RS a1 a2)) (RR := (laws_eqTallyS_b1_RR a1 a2)) (And.intro h57 (And.intro h58 h59)))
    · refine Ev.condT h53 (congrArg Bool.not hb54) ?_
      refine Ev.seq ?_
      refine Ev.reg (fun _ => rfl) ?_
      refine Ev.nxk (mvO rfl) ?_
      refine Ev.rend ?_
      intro e60 he61
      have h62 : eget e60 4 = .bool false := envp he61 rfl rfl
      clear h50 h51 h52 h53
      refine Ev.kseqN ?_
      refine Ev.ex ?_
      refine Ev.kblkR ?_
      refine Ev.kseqR ?_
      cases h
      exact Ev.kid (bQ_x (RS := (laws_eqTallyS_b1_RS a1 a2)) (RR := (laws_eqTallyS_b1_RR a1 a2)) (by intro h; cases h) (And.intro rfl h62))
  · refine Ev.condF h40 hb41 ?_
    refine Ev.ex ?_
    refine Ev.kseqE ?_
    cases h
    exact Ev.kid (bQ_x (RS := (laws_eqTallyS_b1_RS a1 a2)) (RR := (laws_eqTallyS_b1_RR a1 a2)) (by intro h; cases h) (And.intro rfl trivial))
noncomputable def laws_eqTallyS (a1 : List Tally) (a2 : List Tally) : Option Bool :=
  if ((a1.length : Int) != (a2.length : Int)) = true then
    some false
  else
    (Lw (laws_eqTallyS_b1 a1 a2) 0).bind fun r => match r with
    | (.inl _) =>
      some false
    | (.inr _) =>
      some true
def laws_eqTallyS_enc (r : Bool) : AV := .bool r
theorem laws_eqTallyS_ok (a1 : List Tally) (a2 : List Tally) (r : Bool) (h : laws_eqTallyS a1 a2 = some r) : Ev (fun k => CN k 52 [.sl none (a1.map Tally.c), .sl none (a2.map Tally.c)] []) (fun p => rRes p.2 p.1 = laws_eqTallyS_enc r) := by
  unfold laws_eqTallyS at h
  refine Ev.enter (F := fun k => f52 (CN k) k) (fun k => callN_eq rfl Try.func52 rfl rfl rfl (by decide +kernel) (f52_eq _ _)) ?_
  refine Ev.seq ?_
  refine Ev.reg (fun _ => rfl) ?_
  refine Ev.nxk (mvO rfl) ?_
  refine Ev.rend ?_
  intro e1 he2
  have h3 : eget e1 0 = .sl none (a1.map Tally.c) := envp he2 rfl rfl
  have h4 : eget e1 1 = .sl none (a2.map Tally.c) := envp he2 rfl rfl
  refine Ev.kseqN ?_
  refine Ev.seq ?_
  refine Ev.seq ?_
  refine Ev.reg (fun _ => rfl) ?_
  refine Ev.nxk (mvO h3) ?_
  refine Ev.nxk (lnS Try.underlying51 rfl) ?_
  refine Ev.nxk (mvO h4) ?_
  refine Ev.nxk (lnS Try.underlying51 rfl) ?_
  refine Ev.nxk (bNeq rfl rfl) ?_
  refine Ev.rend ?_
  intro e5 he6
  have h7 : eget e5 0 = .sl none (a1.map Tally.c) := envp he6 rfl h3
  have h8 : eget e5 1 = .sl none (a2.map Tally.c) := envp he6 rfl h4
  have h9 : eget e5 10 = .bool ((a1.length : Int) != (a2.length : Int)) := envp he6 rfl rfl
  clear h3 h4
  refine Ev.kseqN ?_
  rcases ite_some h with ⟨hb10, h⟩ | ⟨hb10, h⟩
  · refine Ev.condT h9 hb10 ?_
    refine Ev.seq ?_
    refine Ev.reg (fun _ => rfl) ?_
    refine Ev.nxk (mvO rfl) ?_
    refine Ev.rend ?_
    intro e11 he12
    have h13 : eget e11 4 = .bool false := envp he12 rfl rfl
    clear h7 h8 h9
    refine Ev.kseqN ?_
    refine Ev.ex ?_
    refine Ev.kseqR ?_
    cases h
    exact Ev.kendR (resT h13 res0) rfl
  · refine Ev.condF h9 hb10 ?_
    refine Ev.ex ?_
    refine Ev.kseqN ?_
    refine Ev.seq ?_
    refine Ev.seq ?_
    refine Ev.reg (fun _ => rfl) ?_
    refine Ev.nxk (mvO rfl) ?_
    refine Ev.rend ?_
    intro e14 he15
    have h16 : eget e14 0 = .sl none (a1.map Tally.c) := envp he15 rfl h7
    have h17 : eget e14 1 = .sl none (a2.map Tally.c) := envp he15 rfl h8
    have h18 : eget e14 5 = .int .i64 0 := envp he15 rfl rfl
    clear h7 h8 h9
    refine Ev.kseqN ?_
    refine Ev.blk ?_
    obtain ⟨r63, hr64, h⟩ := bind_some h
    rcases r63 with _ | _
    · refine Ev.loop (RS := laws_eqTallyS_b1_RS a1 a2) (RR := laws_eqTallyS_b1_RR a1 a2) (fun s r h e M hs => laws_eqTallyS_b1_ok a1 a2 s r h e M hs) hr64 (And.intro h16 (And.intro h17 h18)) ?_
      intro x e66 M67 hq65
      obtain ⟨rfl, h68⟩ := hq65
      refine Ev.kblkR ?_
      refine Ev.kseqR ?_
      cases h
      exact Ev.kendR (resT h68 res0) rfl
    · refine Ev.loop (RS := laws_eqTallyS_b1_RS a1 a2) (RR := laws_eqTallyS_b1_RR a1 a2) (fun s r h e M hs => laws_eqTallyS_b1_ok a1 a2 s r h e M hs) hr64 (And.intro h16 (And.intro h17 h18)) ?_
      intro x e69 M70 hq65
      obtain ⟨rfl, _⟩ := hq65
      refine Ev.kblkE ?_
      refine Ev.kseqN ?_
      refine Ev.seq ?_
      refine Ev.reg (fun _ => rfl) ?_
      refine Ev.nxk (mvO rfl) ?_
      refine Ev.rend ?_
      intro e71 he72
      have h73 : eget e71 4 = .bool true := envp he72 rfl rfl
      refine Ev.kseqN ?_
      refine Ev.ex ?_
      cases h
      exact Ev.kendR (resT h73 res0) rfl
/-! ### slices.Equal[[]loop.example/g01263/impl.Tally,loop.example/g01263/impl.Tally] (f51) -/
abbrev slices_Equal_Tally_b1_S := Int
abbrev slices_Equal_Tally_b1_R := Unit ⊕ Unit
def slices_Equal_Tally_b1_RS (a1 : List Tally) (a2 : List Tally) (s : slices_Equal_Tally_b1_S) (e : Env) (M : Mem) : Prop := eget e 0 = .sl none (a1.map Tally.c) ∧ eget e 1 = .sl none (a2.map Tally.c) ∧ eget e 12 = .int .i64 (a1.length : Int) ∧ eget e 13 = .int .i64 s
def slices_Equal_Tally_b1_RR (a1 : List Tally) (a2 : List Tally) (r : slices_Equal_Tally_b1_R) (x : Ex) (e : Env) (M : Mem) : Prop :=
  match r with
  | (.inl g) => x = .ret ∧ eget e 4 = .bool false
  | (.inr g) => x = .ext 0 ∧ True
noncomputable def slices_Equal_Tally_b1 (a1 : List Tally) (a2 : List Tally) : slices_Equal_Tally_b1_S → Option (slices_Equal_Tally_b1_S ⊕ slices_Equal_Tally_b1_R) := fun s1_1 =>
  if (decide (s1_1 < (a1.length : Int))) = true then
    (rd a1 s1_1).bind fun x55 =>
    (rd a2 s1_1).bind fun x57 =>
    if ((x55.Debtor == x57.Debtor) && ((x55.Holder == x57.Holder) && ((x55.Cut == x57.Cut) && ((x55.Amount == x57.Amount) && ((x55.Left == x57.Left) && true))))) = true then
      some (.inl (IntKind.i64.wrap (s1_1 + 1)))
    else
      some (.inr (.inl ()))
  else
    some (.inr (.inr ()))
theorem slices_Equal_Tally_b1_ok (a1 : List Tally) (a2 : List Tally) (s : slices_Equal_Tally_b1_S) (r : slices_Equal_Tally_b1_S ⊕ slices_Equal_Tally_b1_R) (h : slices_Equal_Tally_b1 a1 a2 s = some r) (e : Env) (M : Mem) (hs : slices_Equal_Tally_b1_RS a1 a2 s e M) : Ev (fun k => (f51_l4 (CN k) k (prune [0, 1, 12, 13] e) M).bind fun q => some q) (bQ (slices_Equal_Tally_b1_RS a1 a2) (slices_Equal_Tally_b1_RR a1 a2) r) := by
  revert h hs
  revert s
  intro s1_1 h hs
  unfold slices_Equal_Tally_b1 at h
  obtain ⟨h32, h34, h36, h38⟩ := hs
  generalize he31 : prune [0, 1, 12, 13] e = e30
  have h33 := envp he31.symm rfl h32
  have h35 := envp he31.symm rfl h34
  have h37 := envp he31.symm rfl h36
  have h39 := envp he31.symm rfl h38
  refine Ev.seq ?_
  refine Ev.reg (fun _ => rfl) ?_
  refine Ev.nxk (bLss h39 h37) ?_
  refine Ev.rend ?_
  intro e40 he41
  have h42 : eget e40 0 = .sl none (a1.map Tally.c) := envp he41 rfl h33
  have h43 : eget e40 1 = .sl none (a2.map Tally.c) := envp he41 rfl h35
  have h44 : eget e40 12 = .int .i64 (a1.length : Int) := envp he41 rfl h37
  have h45 : eget e40 13 = .int .i64 s1_1 := envp he41 rfl h39
  have h46 : eget e40 14 = .bool (decide (s1_1 < (a1.length : Int))) := envp he41 rfl rfl
  clear h33 h35 h37 h39
  refine Ev.kseqN ?_
  refine Ev.seq ?_
  rcases ite_some h with ⟨hb47, h⟩ | ⟨hb47, h⟩
  · refine Ev.condT h46 hb47 ?_
    refine Ev.ex ?_
    refine Ev.kseqN ?_
    refine Ev.seq ?_
    refine Ev.blk ?_
    refine Ev.seq ?_
    refine Ev.reg (fun _ => rfl) ?_
    refine Ev.nxk (mvO h45) ?_
    refine Ev.nxk (mvO rfl) ?_
    refine Ev.rend ?_
    intro e48 he49
    have h50 : eget e48 0 = .sl none (a1.map Tally.c) := envp he49 rfl h42
    have h51 : eget e48 1 = .sl none (a2.map Tally.c) := envp he49 rfl h43
    have h52 : eget e48 5 = .int .i64 s1_1 := envp he49 rfl rfl
    have h53 : eget e48 12 = .int .i64 (a1.length : Int) := envp he49 rfl h44
    have h54 : eget e48 13 = .int .i64 s1_1 := envp he49 rfl h45
    clear h42 h43 h44 h45 h46
    refine Ev.kseqN ?_
    refine Ev.seq ?_
    refine Ev.regD (fun _ => rfl) ?_
    refine Ev.nfk (mvO h50) ?_
    refine Ev.nfk (mvO h52) ?_
    obtain ⟨x55, hx56, h⟩ := bind_some h
    refine Ev.nfk (ixS rfl rfl hx56 Tally.fl) ?_
    refine Ev.nfk (ldPA rfl rfl rfl) ?_
    refine Ev.nfk (mvO h51) ?_
    refine Ev.nfk (mvO h52) ?_
    obtain ⟨x57, hx58, h⟩ := bind_some h
    refine Ev.nfk (ixS rfl rfl hx58 Tally.fl) ?_
    refine Ev.nfk (ldPA rfl rfl rfl) ?_
    refine Ev.nfk (gNeq rfl rfl (by kernel_rfl) rfl) ?_
    refine Ev.fend0 ?_
    refine Ev.rend ?_
    intro e59 he60
    have h61 : eget e59 0 = .sl none (a1.map Tally.c) := envp he60 rfl h50
    have h62 : eget e59 1 = .sl none (a2.map Tally.c) := envp he60 rfl h51
    have h63 : eget e59 12 = .int .i64 (a1.length : Int) := envp he60 rfl h53
    have h64 : eget e59 13 = .int .i64 s1_1 := envp he60 rfl h54
    have h65 : eget e59 24 = .bool (!((x55.Debtor == x57.Debtor) && ((x55.Holder == x57.Holder) && ((x55.Cut == x57.Cut) && ((x55.Amount == x57.Amount) && ((x55.Left == x57.Left) && true)))))) := envp he60 rfl rfl
    clear h50 h51 h52 h53 h54
    refine Ev.kseqN ?_
    rcases ite_some h with ⟨hb66, h⟩ | ⟨hb66, h⟩
    · refine Ev.condF h65 (congrArg Bool.not hb66) ?_
      refine Ev.ex ?_
      refine Ev.kblkN ?_
      refine Ev.kseqN ?_
      refine Ev.reg (fun _ => rfl) ?_
      refine Ev.nxk (bAdd h64 rfl) ?_
      refine Ev.nxk (mvO rfl) ?_
      refine Ev.rend ?_
      intro e67 he68
      have h69 : eget e67 0 = .sl none (a1.map Tally.c) := envp he68 rfl h61
      have h70 : eget e67 1 = .sl none (a2.map Tally.c) := envp he68 rfl h62
      have h71 : eget e67 12 = .int .i64 (a1.length : Int) := envp he68 rfl h63
      have h72 : eget e67 13 = .int .i64 (IntKind.i64.wrap (s1_1 + 1)) := envp he68 rfl rfl
      clear h61 h62 h63 h65
      cases h
      exact Ev.kid (bQ_n (RS := (slices_Equal_Tally_b1_RS a1 a2)) (RR := (slices_Equal_Tally_b1_RR a1 a2)) (And.intro h69 (And.intro h70 (And.intro h71 h72))))
    · refine Ev.condT h65 (congrArg Bool.not hb66) ?_
      refine Ev.seq ?_
      refine Ev.reg (fun _ => rfl) ?_
      refine Ev.nxk (mvO rfl) ?_
      refine Ev.rend ?_
      intro e73 he74
      have h75 : eget e73 4 = .bool false := envp he74 rfl rfl
      clear h61 h62 h63 h64 h65
      refine Ev.kseqN ?_
      refine Ev.ex ?_
      refine Ev.kblkR ?_
      refine Ev.kseqR ?_
      cases h
      exact Ev.kid (bQ_x (RS := (slices_Equal_Tally_b1_RS a1 a2)) (RR := (slices_Equal_Tally_b1_RR a1 a2)) (by intro h; cases h) (And.intro rfl h75))
  · refine Ev.condF h46 hb47 ?_
    refine Ev.ex ?_
    refine Ev.kseqE ?_
    cases h
    exact Ev.kid (bQ_x (RS := (slices_Equal_Tally_b1_RS a1 a2)) (RR := (slices_Equal_Tally_b1_RR a1 a2)) (by intro h; cases h) (And.intro rfl trivial))
noncomputable def slices_Equal_Tally (a1 : List Tally) (a2 : List Tally) : Option Bool :=
  if ((a1.length : Int) != (a2.length : Int)) = true then
    some false
  else
    (Lw (slices_Equal_Tally_b1 a1 a2) 0).bind fun r => match r with
    | (.inl _) =>
      some false
    | (.inr _) =>
      some true
def slices_Equal_Tally_enc (r : Bool) : AV := .bool r
theorem slices_Equal_Tally_ok (a1 : List Tally) (a2 : List Tally) (r : Bool) (h : slices_Equal_Tally a1 a2 = some r) : Ev (fun k => CN k 51 [.sl none (a1.map Tally.c), .sl none (a2.map Tally.c)] []) (fun p => rRes p.2 p.1 = slices_Equal_Tally_enc r) := by
  unfold slices_Equal_Tally at h
  refine Ev.enter (F := fun k => f51 (CN k) k) (fun k => callN_eq rfl Try.func51 rfl rfl rfl (by decide +kernel) (f51_eq _ _)) ?_
  refine Ev.seq ?_
  refine Ev.reg (fun _ => rfl) ?_
  refine Ev.nxk (mvO rfl) ?_
  refine Ev.rend ?_
  intro e1 he2
  have h3 : eget e1 0 = .sl none (a1.map Tally.c) := envp he2 rfl rfl
  have h4 : eget e1 1 = .sl none (a2.map Tally.c) := envp he2 rfl rfl
  refine Ev.kseqN ?_
  refine Ev.seq ?_
  refine Ev.seq ?_
  refine Ev.reg (fun _ => rfl) ?_
  refine Ev.nxk (mvO h3) ?_
  refine Ev.nxk (lnS Try.underlying51 rfl) ?_
  refine Ev.nxk (mvO h4) ?_
  refine Ev.nxk (lnS Try.underlying51 rfl) ?_
  refine Ev.nxk (bNeq rfl rfl) ?_
  refine Ev.rend ?_
  intro e5 he6
  have h7 : eget e5 0 = .sl none (a1.map Tally.c) := envp he6 rfl h3
  have h8 : eget e5 1 = .sl none (a2.map Tally.c) := envp he6 rfl h4
  have h9 : eget e5 10 = .bool ((a1.length : Int) != (a2.length : Int)) := envp he6 rfl rfl
  clear h3 h4
  refine Ev.kseqN ?_
  rcases ite_some h with ⟨hb10, h⟩ | ⟨hb10, h⟩
  · refine Ev.condT h9 hb10 ?_
    refine Ev.seq ?_
    refine Ev.reg (fun _ => rfl) ?_
    refine Ev.nxk (mvO rfl) ?_
    refine Ev.rend ?_
    intro e11 he12
    have h13 : eget e11 4 = .bool false := envp he12 rfl rfl
    clear h7 h8 h9
    refine Ev.kseqN ?_
    refine Ev.ex ?_
    refine Ev.kseqR ?_
    cases h
    exact Ev.kendR (resT h13 res0) rfl
  · refine Ev.condF h9 hb10 ?_
    refine Ev.ex ?_
    refine Ev.kseqN ?_
    refine Ev.seq ?_
    refine Ev.seq ?_
    refine Ev.reg (fun _ => rfl) ?_
    refine Ev.nxk (mvO h7) ?_
    refine Ev.nxk (lnS Try.underlying51 rfl) ?_
    refine Ev.nxk (mvO rfl) ?_
    refine Ev.rend ?_
    intro e14 he15
    have h16 : eget e14 0 = .sl none (a1.map Tally.c) := envp he15 rfl h7
    have h17 : eget e14 1 = .sl none (a2.map Tally.c) := envp he15 rfl h8
    have h18 : eget e14 12 = .int .i64 (a1.length : Int) := envp he15 rfl rfl
    have h19 : eget e14 13 = .int .i64 0 := envp he15 rfl rfl
    clear h7 h8 h9
    refine Ev.kseqN ?_
    refine Ev.blk ?_
    obtain ⟨r76, hr77, h⟩ := bind_some h
    rcases r76 with _ | _
    · refine Ev.loop (RS := slices_Equal_Tally_b1_RS a1 a2) (RR := slices_Equal_Tally_b1_RR a1 a2) (fun s r h e M hs => slices_Equal_Tally_b1_ok a1 a2 s r h e M hs) hr77 (And.intro h16 (And.intro h17 (And.intro h18 h19))) ?_
      intro x e79 M80 hq78
      obtain ⟨rfl, h81⟩ := hq78
      refine Ev.kblkR ?_
      refine Ev.kseqR ?_
      cases h
      exact Ev.kendR (resT h81 res0) rfl
    · refine Ev.loop (RS := slices_Equal_Tally_b1_RS a1 a2) (RR := slices_Equal_Tally_b1_RR a1 a2) (fun s r h e M hs => slices_Equal_Tally_b1_ok a1 a2 s r h e M hs) hr77 (And.intro h16 (And.intro h17 (And.intro h18 h19))) ?_
      intro x e82 M83 hq78
      obtain ⟨rfl, _⟩ := hq78
      refine Ev.kblkE ?_
      refine Ev.kseqN ?_
      refine Ev.seq ?_
      refine Ev.reg (fun _ => rfl) ?_
      refine Ev.nxk (mvO rfl) ?_
      refine Ev.rend ?_
      intro e84 he85
      have h86 : eget e84 4 = .bool true := envp he85 rfl rfl
      refine Ev.kseqN ?_
      refine Ev.ex ?_
      cases h
      exact Ev.kendR (resT h86 res0) rfl
/-! ### slices.Equal[[]int64,int64] (f50) -/
abbrev slices_Equal_int64_b1_S := Int
abbrev slices_Equal_int64_b1_R := Unit ⊕ Unit
def slices_Equal_int64_b1_RS (a1 : List Int) (a2 : List Int) (s : slices_Equal_int64_b1_S) (e : Env) (M : Mem) : Prop := eget e 0 = .sl none (a1.map (cI .i64)) ∧ eget e 1 = .sl none (a2.map (cI .i64)) ∧ eget e 12 = .int .i64 (a1.length : Int) ∧ eget e 13 = .int .i64 s
def slices_Equal_int64_b1_RR (a1 : List Int) (a2 : List Int) (r : slices_Equal_int64_b1_R) (x : Ex) (e : Env) (M : Mem) : Prop :=
  match r with
  | (.inl g) => x = .ret ∧ eget e 4 = .bool false
  | (.inr g) => x = .ext 0 ∧ True
noncomputable def slices_Equal_int64_b1 (a1 : List Int) (a2 : List Int) : slices_Equal_int64_b1_S → Option (slices_Equal_int64_b1_S ⊕ slices_Equal_int64_b1_R) := fun s1_1 =>
  if (decide (s1_1 < (a1.length : Int))) = true then
    (rd a1 s1_1).bind fun x55 =>
    (rd a2 s1_1).bind fun x57 =>
    if (x55 != x57) = true then
      some (.inr (.inl ()))
    else
      some (.inl (IntKind.i64.wrap (s1_1 + 1)))
  else
    some (.inr (.inr ()))
theorem slices_Equal_int64_b1_ok (a1 : List Int) (a2 : List Int) (s : slices_Equal_int64_b1_S) (r : slices_Equal_int64_b1_S ⊕ slices_Equal_int64_b1_R) (h : slices_Equal_int64_b1 a1 a2 s = some r) (e : Env) (M : Mem) (hs : slices_Equal_int64_b1_RS a1 a2 s e M) : Ev (fun k => (f50_l4 (CN k) k (prune [0, 1, 12, 13] e) M).bind fun q => some q) (bQ (slices_Equal_int64_b1_RS a1 a2) (slices_Equal_int64_b1_RR a1 a2) r) := by
  revert h hs
  revert s
  intro s1_1 h hs
  unfold slices_Equal_int64_b1 at h
  obtain ⟨h32, h34, h36, h38⟩ := hs
  generalize he31 : prune [0, 1, 12, 13] e = e30
  have h33 := envp he31.symm rfl h32
  have h35 := envp he31.symm rfl h34
  have h37 := envp he31.symm rfl h36
  have h39 := envp he31.symm rfl h38
  refine Ev.seq ?_
  refine Ev.reg (fun _ => rfl) ?_
  refine Ev.nxk (bLss h39 h37) ?_
  refine Ev.rend ?_
  intro e40 he41
  have h42 : eget e40 0 = .sl none (a1.map (cI .i64)) := envp he41 rfl h33
  have h43 : eget e40 1 = .sl none (a2.map (cI .i64)) := envp he41 rfl h35
  have h44 : eget e40 12 = .int .i64 (a1.length : Int) := envp he41 rfl h37
  have h45 : eget e40 13 = .int .i64 s1_1 := envp he41 rfl h39
  have h46 : eget e40 14 = .bool (decide (s1_1 < (a1.length : Int))) := envp he41 rfl rfl
  clear h33 h35 h37 h39
  refine Ev.kseqN ?_
  refine Ev.seq ?_
  rcases ite_some h with ⟨hb47, h⟩ | ⟨hb47, h⟩
  · refine Ev.condT h46 hb47 ?_
    refine Ev.ex ?_
    refine Ev.kseqN ?_
    refine Ev.seq ?_
    refine Ev.blk ?_
    refine Ev.seq ?_
    refine Ev.reg (fun _ => rfl) ?_
    refine Ev.nxk (mvO h45) ?_
    refine Ev.nxk (mvO rfl) ?_
    refine Ev.rend ?_
    intro e48 he49
    have h50 : eget e48 0 = .sl none (a1.map (cI .i64)) := envp he49 rfl h42
    have h51 : eget e48 1 = .sl none (a2.map (cI .i64)) := envp he49 rfl h43
    have h52 : eget e48 5 = .int .i64 s1_1 := envp he49 rfl rfl
    have h53 : eget e48 12 = .int .i64 (a1.length : Int) := envp he49 rfl h44
    have h54 : eget e48 13 = .int .i64 s1_1 := envp he49 rfl h45
    clear h42 h43 h44 h45 h46
    refine Ev.kseqN ?_
    refine Ev.seq ?_
    refine Ev.regD (fun _ => rfl) ?_
    refine Ev.nfk (mvO h50) ?_
    refine Ev.nfk (mvO h52) ?_
    obtain ⟨x55, hx56, h⟩ := bind_some h
    refine Ev.nfk (ixS rfl rfl hx56 (cI_fl _)) ?_
    refine Ev.nfk (ldP rfl rfl) ?_
    refine Ev.nfk (mvO h51) ?_
    refine Ev.nfk (mvO h52) ?_
    obtain ⟨x57, hx58, h⟩ := bind_some h
    refine Ev.nfk (ixS rfl rfl hx58 (cI_fl _)) ?_
    refine Ev.nfk (ldP rfl rfl) ?_
    refine Ev.nfk (bNeq rfl rfl) ?_
    refine Ev.fend0 ?_
    refine Ev.rend ?_
    intro e59 he60
    have h61 : eget e59 0 = .sl none (a1.map (cI .i64)) := envp he60 rfl h50
    have h62 : eget e59 1 = .sl none (a2.map (cI .i64)) := envp he60 rfl h51
    have h63 : eget e59 12 = .int .i64 (a1.length : Int) := envp he60 rfl h53
    have h64 : eget e59 13 = .int .i64 s1_1 := envp he60 rfl h54
    have h65 : eget e59 24 = .bool (x55 != x57) := envp he60 rfl rfl
    clear h50 h51 h52 h53 h54
    refine Ev.kseqN ?_
    rcases ite_some h with ⟨hb66, h⟩ | ⟨hb66, h⟩
    · refine Ev.condT h65 hb66 ?_
      refine Ev.seq ?_
      refine Ev.reg (fun _ => rfl) ?_
      refine Ev.nxk (mvO rfl) ?_
      refine Ev.rend ?_
      intro e67 he68
      have h69 : eget e67 4 = .bool false := envp he68 rfl rfl
      clear h61 h62 h63 h64 h65
      refine Ev.kseqN ?_
      refine Ev.ex ?_
      refine Ev.kblkR ?_
      refine Ev.kseqR ?_
      cases h
      exact Ev.kid (bQ_x (RS := (slices_Equal_int64_b1_RS a1 a2)) (RR := (slices_Equal_int64_b1_RR a1 a2)) (by intro h; cases h) (And.intro rfl h69))
    · refine Ev.condF h65 hb66 ?_
      refine Ev.ex ?_
      refine Ev.kblkN ?_
      refine Ev.kseqN ?_
      refine Ev.reg (fun _ => rfl) ?_
      refine Ev.nxk (bAdd h64 rfl) ?_
      refine Ev.nxk (mvO rfl) ?_
      refine Ev.rend ?_
      intro e70 he71
      have h72 : eget e70 0 = .sl none (a1.map (cI .i64)) := envp he71 rfl h61
      have h73 : eget e70 1 = .sl none (a2.map (cI .i64)) := envp he71 rfl h62
      have h74 : eget e70 12 = .int .i64 (a1.length : Int) := envp he71 rfl h63
      have h75 : eget e70 13 = .int .i64 (IntKind.i64.wrap (s1_1 + 1)) := envp he71 rfl rfl
      clear h61 h62 h63 h65
      cases h
      exact Ev.kid (bQ_n (RS := (slices_Equal_int64_b1_RS a1 a2)) (RR := (slices_Equal_int64_b1_RR a1 a2)) (And.intro h72 (And.intro h73 (And.intro h74 h75))))
  · refine Ev.condF h46 hb47 ?_
    refine Ev.ex ?_
    refine Ev.kseqE ?_
    cases h
    exact Ev.kid (bQ_x (RS := (slices_Equal_int64_b1_RS a1 a2)) (RR := (slices_Equal_int64_b1_RR a1 a2)) (by intro h; cases h) (And.intro rfl trivial))
noncomputable def slices_Equal_int64 (a1 : List Int) (a2 : List Int) : Option Bool :=
  if ((a1.length : Int) != (a2.length : Int)) = true then
    some false
  else
    (Lw (slices_Equal_int64_b1 a1 a2) 0).bind fun r => match r with
    | (.inl _) =>
      some false
    | (.inr _) =>
      some true
def slices_Equal_int64_enc (r : Bool) : AV := .bool r
theorem slices_Equal_int64_ok (a1 : List Int) (a2 : List Int) (r : Bool) (h : slices_Equal_int64 a1 a2 = some r) : Ev (fun k => CN k 50 [.sl none (a1.map (cI .i64)), .sl none (a2.map (cI .i64))] []) (fun p => rRes p.2 p.1 = slices_Equal_int64_enc r) := by
  unfold slices_Equal_int64 at h
  refine Ev.enter (F := fun k => f50 (CN k) k) (fun k => callN_eq rfl Try.func50 rfl rfl rfl (by decide +kernel) (f50_eq _ _)) ?_
  refine Ev.seq ?_
  refine Ev.reg (fun _ => rfl) ?_
  refine Ev.nxk (mvO rfl) ?_
  refine Ev.rend ?_
  intro e1 he2
  have h3 : eget e1 0 = .sl none (a1.map (cI .i64)) := envp he2 rfl rfl
  have h4 : eget e1 1 = .sl none (a2.map (cI .i64)) := envp he2 rfl rfl
  refine Ev.kseqN ?_
  refine Ev.seq ?_
  refine Ev.seq ?_
  refine Ev.reg (fun _ => rfl) ?_
  refine Ev.nxk (mvO h3) ?_
  refine Ev.nxk (lnS Try.underlying29 rfl) ?_
  refine Ev.nxk (mvO h4) ?_
  refine Ev.nxk (lnS Try.underlying29 rfl) ?_
  refine Ev.nxk (bNeq rfl rfl) ?_
  refine Ev.rend ?_
  intro e5 he6
  have h7 : eget e5 0 = .sl none (a1.map (cI .i64)) := envp he6 rfl h3
  have h8 : eget e5 1 = .sl none (a2.map (cI .i64)) := envp he6 rfl h4
  have h9 : eget e5 10 = .bool ((a1.length : Int) != (a2.length : Int)) := envp he6 rfl rfl
  clear h3 h4
  refine Ev.kseqN ?_
  rcases ite_some h with ⟨hb10, h⟩ | ⟨hb10, h⟩
  · refine Ev.condT h9 hb10 ?_
    refine Ev.seq ?_
    refine Ev.reg (fun _ => rfl) ?_
    refine Ev.nxk (mvO rfl) ?_
    refine Ev.rend ?_
    intro e11 he12
    have h13 : eget e11 4 = .bool false := envp he12 rfl rfl
    clear h7 h8 h9
    refine Ev.kseqN ?_
    refine Ev.ex ?_
    refine Ev.kseqR ?_
    cases h
    exact Ev.kendR (resT h13 res0) rfl
  · refine Ev.condF h9 hb10 ?_
    refine Ev.ex ?_
    refine Ev.kseqN ?_
    refine Ev.seq ?_
    refine Ev.seq ?_
    refine Ev.reg (fun _ => rfl) ?_
    refine Ev.nxk (mvO h7) ?_
    refine Ev.nxk (lnS Try.underlying29 rfl) ?_
    refine Ev.nxk (mvO rfl) ?_
    refine Ev.rend ?_
    intro e14 he15
    have h16 : eget e14 0 = .sl none (a1.map (cI .i64)) := envp he15 rfl h7
    have h17 : eget e14 1 = .sl none (a2.map (cI .i64)) := envp he15 rfl h8
    have h18 : eget e14 12 = .int .i64 (a1.length : Int) := envp he15 rfl rfl
    have h19 : eget e14 13 = .int .i64 0 := envp he15 rfl rfl
    clear h7 h8 h9
    refine Ev.kseqN ?_
    refine Ev.blk ?_
    obtain ⟨r76, hr77, h⟩ := bind_some h
    rcases r76 with _ | _
    · refine Ev.loop (RS := slices_Equal_int64_b1_RS a1 a2) (RR := slices_Equal_int64_b1_RR a1 a2) (fun s r h e M hs => slices_Equal_int64_b1_ok a1 a2 s r h e M hs) hr77 (And.intro h16 (And.intro h17 (And.intro h18 h19))) ?_
      intro x e79 M80 hq78
      obtain ⟨rfl, h81⟩ := hq78
      refine Ev.kblkR ?_
      refine Ev.kseqR ?_
      cases h
      exact Ev.kendR (resT h81 res0) rfl
    · refine Ev.loop (RS := slices_Equal_int64_b1_RS a1 a2) (RR := slices_Equal_int64_b1_RR a1 a2) (fun s r h e M hs => slices_Equal_int64_b1_ok a1 a2 s r h e M hs) hr77 (And.intro h16 (And.intro h17 (And.intro h18 h19))) ?_
      intro x e82 M83 hq78
      obtain ⟨rfl, _⟩ := hq78
      refine Ev.kblkE ?_
      refine Ev.kseqN ?_
      refine Ev.seq ?_
      refine Ev.reg (fun _ => rfl) ?_
      refine Ev.nxk (mvO rfl) ?_
      refine Ev.rend ?_
      intro e84 he85
      have h86 : eget e84 4 = .bool true := envp he85 rfl rfl
      refine Ev.kseqN ?_
      refine Ev.ex ?_
      cases h
      exact Ev.kendR (resT h86 res0) rfl
/-! ### loop.example/g01263/laws.toTallyS (f49) -/
abbrev laws_toTallyS_b1_S := Int × (List Tally)
abbrev laws_toTallyS_b1_R := (List Tally)
def laws_toTallyS_b1_RS (a1 : List Tally) (i1 : Nat) (s : laws_toTallyS_b1_S) (e : Env) (M : Mem) : Prop := eget e 0 = .sl none (a1.map Tally.c) ∧ eget e 3 = .lsl i1 s.2.length 0 s.2.length ∧ eget e 4 = .int .i64 s.1 ∧ M[i1]? = some (.live ⟨.grow, 81, 5, s.2.map Tally.c⟩)
def laws_toTallyS_b1_RR (a1 : List Tally) (i1 : Nat) (g : laws_toTallyS_b1_R) (x : Ex) (e : Env) (M : Mem) : Prop := x = .ext 0 ∧ eget e 3 = .lsl i1 g.length 0 g.length ∧ M[i1]? = some (.live ⟨.grow, 81, 5, g.map Tally.c⟩)
noncomputable def laws_toTallyS_b1 (a1 : List Tally) : laws_toTallyS_b1_S → Option (laws_toTallyS_b1_S ⊕ laws_toTallyS_b1_R) := fun (s1_1, s1_2) =>
  if (decide (s1_1 < (a1.length : Int))) = true then
    (rd a1 s1_1).bind fun x44 =>
    (laws_toTally x44).bind fun (r47, r48, r49, r50, r51) =>
    (rd s1_2 s1_1).bind fun x52 =>
    some (.inl ((IntKind.i64.wrap (s1_1 + 1)), (s1_2.set s1_1.toNat (Tally.mk r47 r48 r49 r50 r51))))
  else
    some (.inr s1_2)
theorem laws_toTallyS_b1_ok (a1 : List Tally) (i1 : Nat) (s : laws_toTallyS_b1_S) (r : laws_toTallyS_b1_S ⊕ laws_toTallyS_b1_R) (h : laws_toTallyS_b1 a1 s = some r) (e : Env) (M : Mem) (hs : laws_toTallyS_b1_RS a1 i1 s e M) : Ev (fun k => (f49_l3 (CN k) k (prune [0, 3, 4] e) M).bind fun q => some q) (bQ (laws_toTallyS_b1_RS a1 i1) (laws_toTallyS_b1_RR a1 i1) r) := by
  obtain ⟨s1_1, s1_2⟩ := s
  unfold laws_toTallyS_b1 at h
  obtain ⟨h30, h32, h34, o36⟩ := hs
  generalize he29 : prune [0, 3, 4] e = e28
  have h31 := envp he29.symm rfl h30
  have h33 := envp he29.symm rfl h32
  have h35 := envp he29.symm rfl h34
  refine Ev.seq ?_
  refine Ev.seq ?_
  refine Ev.reg (fun _ => rfl) ?_
  refine Ev.nxk (mvO h35) ?_
  refine Ev.nxk (mvO h31) ?_
  refine Ev.nxk (lnS Try.underlying46 rfl) ?_
  refine Ev.nxk (bLss rfl rfl) ?_
  refine Ev.rend ?_
  intro e37 he38
  have h39 : eget e37 0 = .sl none (a1.map Tally.c) := envp he38 rfl h31
  have h40 : eget e37 3 = .lsl i1 s1_2.length 0 s1_2.length := envp he38 rfl h33
  have h41 : eget e37 4 = .int .i64 s1_1 := envp he38 rfl h35
  have h42 : eget e37 11 = .bool (decide (s1_1 < (a1.length : Int))) := envp he38 rfl rfl
  clear h31 h33 h35
  refine Ev.kseqN ?_
  rcases ite_some h with ⟨hb43, h⟩ | ⟨hb43, h⟩
  · refine Ev.condT h42 hb43 ?_
    refine Ev.ex ?_
    refine Ev.kseqN ?_
    refine Ev.seq ?_
    refine Ev.blk ?_
    refine Ev.reg (fun _ => rfl) ?_
    refine Ev.nxk (mvO h40) ?_
    refine Ev.nxk (mvO h41) ?_
    refine Ev.nxk (mvO h39) ?_
    refine Ev.nxk (mvO h41) ?_
    obtain ⟨x44, hx45, h⟩ := bind_some h
    refine Ev.nxk (ixS rfl rfl hx45 Tally.fl) ?_
    refine Ev.nxk (ldPA rfl rfl rfl) ?_
    obtain ⟨⟨r47, r48, r49, r50, r51⟩, hx46, h⟩ := bind_some h
    refine Ev.nxck (Ev.call (v := .agg [.int .i64 r47, .int .i64 r48, .int .i64 r49, .int .i64 r50, .int .i64 r51]) rfl (cns rfl rfl) rfl (laws_toTally_ok x44 _ hx46) (fun h => nomatch (show false = true from h))) ?_
    obtain ⟨x52, hx53, h⟩ := bind_some h
    refine Ev.nxk (ixO rfl o36 rfl rfl (rd_get hx53).1 (rd_lt hx53).2) ?_
    refine Ev.nxput (stR (u' := (Tally.mk r47 r48 r49 r50 r51)) rfl rfl o36 rfl (by rw [Nat.zero_add]; exact (rd_get hx53).2) ⟨rfl, ble rfl⟩ rfl rfl) ?_
    intro M54 hM55
    rw [Nat.zero_add] at hM55
    have o56 : M54[i1]? = some (.live ⟨.grow, 81, 5, (s1_2.set s1_1.toNat (Tally.mk r47 r48 r49 r50 r51)).map Tally.c⟩) := set_same hM55 o36
    refine Ev.rend ?_
    intro e59 he60
    have h61 : eget e59 0 = .sl none (a1.map Tally.c) := envp he60 rfl h39
    have h62 : eget e59 3 = .lsl i1 s1_2.length 0 s1_2.length := envp he60 rfl h40
    have h63 : eget e59 4 = .int .i64 s1_1 := envp he60 rfl h41
    clear h39 h40 h41 h42
    refine Ev.kblkN ?_
    refine Ev.kseqN ?_
    refine Ev.reg (fun _ => rfl) ?_
    refine Ev.nxk (mvO h63) ?_
    refine Ev.nxk (bAdd rfl rfl) ?_
    refine Ev.nxk (mvO rfl) ?_
    refine Ev.rend ?_
    intro e64 he65
    have h66 : eget e64 0 = .sl none (a1.map Tally.c) := envp he65 rfl h61
    have h67 : eget e64 3 = .lsl i1 s1_2.length 0 s1_2.length := envp he65 rfl h62
    have h68 : eget e64 4 = .int .i64 (IntKind.i64.wrap (s1_1 + 1)) := envp he65 rfl rfl
    clear h61 h62
    cases h
    exact Ev.kid (bQ_n (RS := (laws_toTallyS_b1_RS a1 i1)) (RR := (laws_toTallyS_b1_RR a1 i1)) (And.intro h66 (And.intro (lslL h67 (by simp)) (And.intro h68 o56))))
  · refine Ev.condF h42 hb43 ?_
    refine Ev.ex ?_
    refine Ev.kseqE ?_
    cases h
    exact Ev.kid (bQ_x (RS := (laws_toTallyS_b1_RS a1 i1)) (RR := (laws_toTallyS_b1_RR a1 i1)) (by intro h; cases h) (And.intro rfl (And.intro h40 o36)))
noncomputable def laws_toTallyS (a1 : List Tally) : Option ((List Tally)) :=
  (mkS 40 (Tally.mk 0 0 0 0 0) (a1.length : Int)).bind fun x4 =>
  (Lw (laws_toTallyS_b1 a1) (0, x4)).bind fun y74 =>
  some y74
def laws_toTallyS_enc (r : (List Tally)) : AV := .sl (some 81) (r.map Tally.c)
theorem laws_toTallyS_ok (a1 : List Tally) (r : (List Tally)) (h : laws_toTallyS a1 = some r) : Ev (fun k => CN k 49 [.sl none (a1.map Tally.c)] []) (fun p => rRes p.2 p.1 = laws_toTallyS_enc r) := by
  unfold laws_toTallyS at h
  refine Ev.enter (F := fun k => f49 (CN k) k) (fun k => callN_eq rfl Try.func49 rfl rfl rfl (by decide +kernel) (f49_eq _ _)) ?_
  refine Ev.seq ?_
  refine Ev.reg (fun _ => rfl) ?_
  refine Ev.nxk (mvO rfl) ?_
  refine Ev.rend ?_
  intro e1 he2
  have h3 : eget e1 0 = .sl none (a1.map Tally.c) := envp he2 rfl rfl
  refine Ev.kseqN ?_
  refine Ev.seq ?_
  refine Ev.reg (fun _ => rfl) ?_
  refine Ev.nxk (mvO h3) ?_
  refine Ev.nxk (lnS Try.underlying46 rfl) ?_
  obtain ⟨x4, hx5, h⟩ := bind_some h
  refine Ev.nxpush (mkO rfl rfl hx5 (c := Tally.c) zero81 Tally.fl (by decide)) ?_
  intro M7 hM8
  have o9 : M7[([] : Mem).length]? = some (.live ⟨.grow, 81, 5, x4.map Tally.c⟩) := push_new hM8
  refine Ev.nxk (mvO rfl) ?_
  refine Ev.rend ?_
  intro e10 he11
  have h12 : eget e10 0 = .sl none (a1.map Tally.c) := envp he11 rfl h3
  have h13 : eget e10 3 = .lsl ([] : Mem).length x4.length 0 x4.length := envp he11 rfl rfl
  clear h3
  refine Ev.kseqN ?_
  refine Ev.seq ?_
  refine Ev.seq ?_
  refine Ev.reg (fun _ => rfl) ?_
  refine Ev.nxk (mvO rfl) ?_
  refine Ev.rend ?_
  intro e14 he15
  have h16 : eget e14 0 = .sl none (a1.map Tally.c) := envp he15 rfl h12
  have h17 : eget e14 3 = .lsl ([] : Mem).length x4.length 0 x4.length := envp he15 rfl h13
  have h18 : eget e14 4 = .int .i64 0 := envp he15 rfl rfl
  clear h12 h13
  refine Ev.kseqN ?_
  refine Ev.blk ?_
  obtain ⟨y74, hr70, h⟩ := bind_some h
  refine Ev.loop (RS := laws_toTallyS_b1_RS a1 (([] : Mem).length)) (RR := laws_toTallyS_b1_RR a1 (([] : Mem).length)) (fun s r h e M hs => laws_toTallyS_b1_ok a1 (([] : Mem).length) s r h e M hs) hr70 (And.intro h16 (And.intro h17 (And.intro h18 o9))) ?_
  intro x e72 M73 hq71
  obtain ⟨rfl, h75, o76⟩ := hq71
  refine Ev.kblkE ?_
  refine Ev.kseqN ?_
  refine Ev.seq ?_
  refine Ev.reg (fun _ => rfl) ?_
  refine Ev.nxk (mvO h75) ?_
  refine Ev.nxk (mvO rfl) ?_
  refine Ev.rend ?_
  intro e77 he78
  have h79 : eget e77 2 = .lsl ([] : Mem).length y74.length 0 y74.length := envp he78 rfl rfl
  clear h75
  refine Ev.kseqN ?_
  refine Ev.ex ?_
  cases h
  exact Ev.kendR (resT h79 res0) (rr_row o76 Tally.fl)
/-! ### loop.example/g01263/spec.l07Same (f48) -/
abbrev spec_l07Same_b1_S := Int
abbrev spec_l07Same_b1_R := Unit ⊕ Unit
def spec_l07Same_b1_RS (a1 : Book) (a2 : Book) (s : spec_l07Same_b1_S) (e : Env) (M : Mem) : Prop := eget e 0 = .pt none [.int .i64 a1.Day, .sl none (a1.Cash.map (cI .i64)), .sl none (a1.Tallies.map Tally.c)] ∧ eget e 1 = .pt none [.int .i64 a2.Day, .sl none (a2.Cash.map (cI .i64)), .sl none (a2.Tallies.map Tally.c)] ∧ eget e 5 = .int .i64 s
def spec_l07Same_b1_RR (a1 : Book) (a2 : Book) (r : spec_l07Same_b1_R) (x : Ex) (e : Env) (M : Mem) : Prop :=
  match r with
  | (.inl g) => x = .ret ∧ eget e 4 = .bool false
  | (.inr g) => x = .ext 0 ∧ True
noncomputable def spec_l07Same_b1 (a1 : Book) (a2 : Book) : spec_l07Same_b1_S → Option (spec_l07Same_b1_S ⊕ spec_l07Same_b1_R) := fun s1_1 =>
  if (decide (s1_1 < (a1.Tallies.length : Int))) = true then
    (rd a1.Tallies s1_1).bind fun x54 =>
    (rd a2.Tallies s1_1).bind fun x56 =>
    if ((x54.Debtor == x56.Debtor) && ((x54.Holder == x56.Holder) && ((x54.Cut == x56.Cut) && ((x54.Amount == x56.Amount) && ((x54.Left == x56.Left) && true))))) = true then
      some (.inl (IntKind.i64.wrap (s1_1 + 1)))
    else
      some (.inr (.inl ()))
  else
    some (.inr (.inr ()))
theorem spec_l07Same_b1_ok (a1 : Book) (a2 : Book) (s : spec_l07Same_b1_S) (r : spec_l07Same_b1_S ⊕ spec_l07Same_b1_R) (h : spec_l07Same_b1 a1 a2 s = some r) (e : Env) (M : Mem) (hs : spec_l07Same_b1_RS a1 a2 s e M) : Ev (fun k => (f48_l4 (CN k) k (prune [0, 1, 5] e) M).bind fun q => some q) (bQ (spec_l07Same_b1_RS a1 a2) (spec_l07Same_b1_RR a1 a2) r) := by
  revert h hs
  revert s
  intro s1_1 h hs
  unfold spec_l07Same_b1 at h
  obtain ⟨h41, h43, h45⟩ := hs
  generalize he40 : prune [0, 1, 5] e = e39
  have h42 := envp he40.symm rfl h41
  have h44 := envp he40.symm rfl h43
  have h46 := envp he40.symm rfl h45
  refine Ev.seq ?_
  refine Ev.seq ?_
  refine Ev.reg (fun _ => rfl) ?_
  refine Ev.nxk (mvO h46) ?_
  refine Ev.nxk (mvO h42) ?_
  refine Ev.nxk (ncP rfl) ?_
  refine Ev.nxk (faP rfl ⟨ble rfl, blt rfl⟩ rfl) ?_
  refine Ev.nxk (ldP rfl rfl) ?_
  refine Ev.nxk (lnS Try.underlying51 rfl) ?_
  refine Ev.nxk (bLss rfl rfl) ?_
  refine Ev.rend ?_
  intro e47 he48
  have h49 : eget e47 0 = .pt none [.int .i64 a1.Day, .sl none (a1.Cash.map (cI .i64)), .sl none (a1.Tallies.map Tally.c)] := envp he48 rfl h42
  have h50 : eget e47 1 = .pt none [.int .i64 a2.Day, .sl none (a2.Cash.map (cI .i64)), .sl none (a2.Tallies.map Tally.c)] := envp he48 rfl h44
  have h51 : eget e47 5 = .int .i64 s1_1 := envp he48 rfl h46
  have h52 : eget e47 46 = .bool (decide (s1_1 < (a1.Tallies.length : Int))) := envp he48 rfl rfl
  clear h42 h44 h46
  refine Ev.kseqN ?_
  rcases ite_some h with ⟨hb53, h⟩ | ⟨hb53, h⟩
  · refine Ev.condT h52 hb53 ?_
    refine Ev.ex ?_
    refine Ev.kseqN ?_
    refine Ev.seq ?_
    refine Ev.blk ?_
    refine Ev.seq ?_
    refine Ev.regD (fun _ => rfl) ?_
    refine Ev.nfk (mvO h49) ?_
    refine Ev.nfk (ncP rfl) ?_
    refine Ev.nfk (faP rfl ⟨ble rfl, blt rfl⟩ rfl) ?_
    refine Ev.nfk (ldP rfl rfl) ?_
    refine Ev.nfk (mvO h51) ?_
    obtain ⟨x54, hx55, h⟩ := bind_some h
    refine Ev.nfk (ixS rfl rfl hx55 Tally.fl) ?_
    refine Ev.nfk (ldPA rfl rfl rfl) ?_
    refine Ev.nfk (mvO h50) ?_
    refine Ev.nfk (ncP rfl) ?_
    refine Ev.nfk (faP rfl ⟨ble rfl, blt rfl⟩ rfl) ?_
    refine Ev.nfk (ldP rfl rfl) ?_
    refine Ev.nfk (mvO h51) ?_
    obtain ⟨x56, hx57, h⟩ := bind_some h
    refine Ev.nfk (ixS rfl rfl hx57 Tally.fl) ?_
    refine Ev.nfk (ldPA rfl rfl rfl) ?_
    refine Ev.nfk (gNeq rfl rfl (by kernel_rfl) rfl) ?_
    refine Ev.fend0 ?_
    refine Ev.rend ?_
    intro e58 he59
    have h60 : eget e58 0 = .pt none [.int .i64 a1.Day, .sl none (a1.Cash.map (cI .i64)), .sl none (a1.Tallies.map Tally.c)] := envp he59 rfl h49
    have h61 : eget e58 1 = .pt none [.int .i64 a2.Day, .sl none (a2.Cash.map (cI .i64)), .sl none (a2.Tallies.map Tally.c)] := envp he59 rfl h50
    have h62 : eget e58 5 = .int .i64 s1_1 := envp he59 rfl h51
    have h63 : eget e58 63 = .bool (!((x54.Debtor == x56.Debtor) && ((x54.Holder == x56.Holder) && ((x54.Cut == x56.Cut) && ((x54.Amount == x56.Amount) && ((x54.Left == x56.Left) && true)))))) := envp he59 rfl rfl
    clear h49 h50 h51 h52
    refine Ev.kseqN ?_
    rcases ite_some h with ⟨hb64, h⟩ | ⟨hb64, h⟩
    · refine Ev.condF h63 (congrArg Bool.not hb64) ?_
      refine Ev.ex ?_
      refine Ev.kblkN ?_
      refine Ev.kseqN ?_
      refine Ev.reg (fun _ => rfl) ?_
      refine Ev.nxk (mvO h62) ?_
      refine Ev.nxk (bAdd rfl rfl) ?_
      refine Ev.nxk (mvO rfl) ?_
      refine Ev.rend ?_
      intro e65 he66
      have h67 : eget e65 0 = .pt none [.int .i64 a1.Day, .sl none (a1.Cash.map (cI .i64)), .sl none (a1.Tallies.map Tally.c)] := envp he66 rfl h60
      have h68 : eget e65 1 = .pt none [.int .i64 a2.Day, .sl none (a2.Cash.map (cI .i64)), .sl none (a2.Tallies.map Tally.c)] := envp he66 rfl h61
      have h69 : eget e65 5 = .int .i64 (IntKind.i64.wrap (s1_1 + 1)) := envp he66 rfl rfl
      clear h60 h61 h63
      cases h
      exact Ev.kid (bQ_n (RS := (spec_l07Same_b1_RS a1 a2)) (RR := (spec_l07Same_b1_RR a1 a2)) (And.intro h67 (And.intro h68 h69)))
    · refine Ev.condT h63 (congrArg Bool.not hb64) ?_
      refine Ev.seq ?_
      refine Ev.reg (fun _ => rfl) ?_
      refine Ev.nxk (mvO rfl) ?_
      refine Ev.rend ?_
      intro e70 he71
      have h72 : eget e70 4 = .bool false := envp he71 rfl rfl
      clear h60 h61 h62 h63
      refine Ev.kseqN ?_
      refine Ev.ex ?_
      refine Ev.kblkR ?_
      refine Ev.kseqR ?_
      cases h
      exact Ev.kid (bQ_x (RS := (spec_l07Same_b1_RS a1 a2)) (RR := (spec_l07Same_b1_RR a1 a2)) (by intro h; cases h) (And.intro rfl h72))
  · refine Ev.condF h52 hb53 ?_
    refine Ev.ex ?_
    refine Ev.kseqE ?_
    cases h
    exact Ev.kid (bQ_x (RS := (spec_l07Same_b1_RS a1 a2)) (RR := (spec_l07Same_b1_RR a1 a2)) (by intro h; cases h) (And.intro rfl trivial))
noncomputable def spec_l07Same (a1 : Book) (a2 : Book) : Option Bool :=
  if (a1.Day != a2.Day) = true then
    some false
  else
    (spec_l00Same a1.Cash a2.Cash).bind fun r15 =>
    if r15 = true then
      if ((a1.Tallies.length : Int) != (a2.Tallies.length : Int)) = true then
        some false
      else
        (Lw (spec_l07Same_b1 a1 a2) 0).bind fun r => match r with
        | (.inl _) =>
          some false
        | (.inr _) =>
          some true
    else
      some false
def spec_l07Same_enc (r : Bool) : AV := .bool r
theorem spec_l07Same_ok (a1 : Book) (a2 : Book) (r : Bool) (h : spec_l07Same a1 a2 = some r) : Ev (fun k => CN k 48 [.pt none [.int .i64 a1.Day, .sl none (a1.Cash.map (cI .i64)), .sl none (a1.Tallies.map Tally.c)], .pt none [.int .i64 a2.Day, .sl none (a2.Cash.map (cI .i64)), .sl none (a2.Tallies.map Tally.c)]] []) (fun p => rRes p.2 p.1 = spec_l07Same_enc r) := by
  unfold spec_l07Same at h
  refine Ev.enter (F := fun k => f48 (CN k) k) (fun k => callN_eq rfl Try.func48 rfl rfl rfl (by decide +kernel) (f48_eq _ _)) ?_
  refine Ev.seq ?_
  refine Ev.reg (fun _ => rfl) ?_
  refine Ev.nxk (mvO rfl) ?_
  refine Ev.rend ?_
  intro e1 he2
  have h3 : eget e1 0 = .pt none [.int .i64 a1.Day, .sl none (a1.Cash.map (cI .i64)), .sl none (a1.Tallies.map Tally.c)] := envp he2 rfl rfl
  have h4 : eget e1 1 = .pt none [.int .i64 a2.Day, .sl none (a2.Cash.map (cI .i64)), .sl none (a2.Tallies.map Tally.c)] := envp he2 rfl rfl
  refine Ev.kseqN ?_
  refine Ev.seq ?_
  refine Ev.seq ?_
  refine Ev.regD (fun _ => rfl) ?_
  refine Ev.nfk (mvO h3) ?_
  refine Ev.nfk (ncP rfl) ?_
  refine Ev.nfk (faP rfl ⟨ble rfl, blt rfl⟩ rfl) ?_
  refine Ev.nfk (ldP rfl rfl) ?_
  refine Ev.nfk (mvO h4) ?_
  refine Ev.nfk (ncP rfl) ?_
  refine Ev.nfk (faP rfl ⟨ble rfl, blt rfl⟩ rfl) ?_
  refine Ev.nfk (ldP rfl rfl) ?_
  refine Ev.nfk (bNeq rfl rfl) ?_
  refine Ev.nfk (mvO rfl) ?_
  rcases ite_some h with ⟨hb5, h⟩ | ⟨hb5, h⟩
  · refine Ev.nfk (gsF rfl hb5) ?_
    refine Ev.nfk (gsF rfl hb5) ?_
    refine Ev.nfk (gsF rfl hb5) ?_
    refine Ev.nfk (gsF rfl hb5) ?_
    refine Ev.nfk (gsF rfl hb5) ?_
    refine Ev.nfk (gsF rfl hb5) ?_
    refine Ev.nfk (gsF rfl hb5) ?_
    refine Ev.nfk (gsF rfl hb5) ?_
    refine Ev.nfc (Ev.gsF rfl hb5) ?_
    refine Ev.nfk (gsF rfl hb5) ?_
    refine Ev.nfk (pkT rfl hb5 rfl) ?_
    refine Ev.nfk (mvO rfl) ?_
    refine Ev.nfk (gsF rfl rfl) ?_
    refine Ev.nfk (gsF rfl rfl) ?_
    refine Ev.nfk (gsF rfl rfl) ?_
    refine Ev.nfk (gsF rfl rfl) ?_
    refine Ev.nfk (gsF rfl rfl) ?_
    refine Ev.nfk (gsF rfl rfl) ?_
    refine Ev.nfk (gsF rfl rfl) ?_
    refine Ev.nfk (gsF rfl rfl) ?_
    refine Ev.nfk (gsF rfl rfl) ?_
    refine Ev.nfk (gsF rfl rfl) ?_
    refine Ev.nfk (gsF rfl rfl) ?_
    refine Ev.nfk (pkT rfl rfl rfl) ?_
    refine Ev.fend0 ?_
    refine Ev.rend ?_
    intro e6 he7
    have h8 : eget e6 0 = .pt none [.int .i64 a1.Day, .sl none (a1.Cash.map (cI .i64)), .sl none (a1.Tallies.map Tally.c)] := envp he7 rfl h3
    have h9 : eget e6 1 = .pt none [.int .i64 a2.Day, .sl none (a2.Cash.map (cI .i64)), .sl none (a2.Tallies.map Tally.c)] := envp he7 rfl h4
    have h10 : eget e6 39 = .bool true := envp he7 rfl rfl
    clear h3 h4
    refine Ev.kseqN ?_
    refine Ev.condT h10 rfl ?_
    refine Ev.seq ?_
    refine Ev.reg (fun _ => rfl) ?_
    refine Ev.nxk (mvO rfl) ?_
    refine Ev.rend ?_
    intro e11 he12
    have h13 : eget e11 4 = .bool false := envp he12 rfl rfl
    clear h10 h8 h9
    refine Ev.kseqN ?_
    refine Ev.ex ?_
    refine Ev.kseqR ?_
    cases h
    exact Ev.kendR (resT h13 res0) rfl
  · refine Ev.nfk (guF rfl hb5 (mvO h3)) ?_
    refine Ev.nfk (guF rfl hb5 (ncP rfl)) ?_
    refine Ev.nfk (guF rfl hb5 (faP rfl ⟨ble rfl, blt rfl⟩ rfl)) ?_
    refine Ev.nfk (guF rfl hb5 (ldP rfl rfl)) ?_
    refine Ev.nfk (guF rfl hb5 (mvO h4)) ?_
    refine Ev.nfk (guF rfl hb5 (ncP rfl)) ?_
    refine Ev.nfk (guF rfl hb5 (faP rfl ⟨ble rfl, blt rfl⟩ rfl)) ?_
    refine Ev.nfk (guF rfl hb5 (ldP rfl rfl)) ?_
    obtain ⟨r15, hx14, h⟩ := bind_some h
    refine Ev.nfc (Ev.guF rfl hb5 (Ev.call (v := .bool r15) rfl (cns rfl (cns rfl rfl)) rfl (spec_l00Same_ok a1.Cash a2.Cash _ hx14) (fun h => nomatch (show false = true from h)))) ?_
    refine Ev.nfk (guF rfl hb5 (uNot rfl)) ?_
    refine Ev.nfk (pkF rfl hb5 rfl) ?_
    refine Ev.nfk (mvO rfl) ?_
    rcases ite_some h with ⟨hb16, h⟩ | ⟨hb16, h⟩
    · refine Ev.nfk (guF rfl (congrArg Bool.not hb16) (mvO h3)) ?_
      refine Ev.nfk (guF rfl (congrArg Bool.not hb16) (ncP rfl)) ?_
      refine Ev.nfk (guF rfl (congrArg Bool.not hb16) (faP rfl ⟨ble rfl, blt rfl⟩ rfl)) ?_
      refine Ev.nfk (guF rfl (congrArg Bool.not hb16) (ldP rfl rfl)) ?_
      refine Ev.nfk (guF rfl (congrArg Bool.not hb16) (lnS Try.underlying51 rfl)) ?_
      refine Ev.nfk (guF rfl (congrArg Bool.not hb16) (mvO h4)) ?_
      refine Ev.nfk (guF rfl (congrArg Bool.not hb16) (ncP rfl)) ?_
      refine Ev.nfk (guF rfl (congrArg Bool.not hb16) (faP rfl ⟨ble rfl, blt rfl⟩ rfl)) ?_
      refine Ev.nfk (guF rfl (congrArg Bool.not hb16) (ldP rfl rfl)) ?_
      refine Ev.nfk (guF rfl (congrArg Bool.not hb16) (lnS Try.underlying51 rfl)) ?_
      refine Ev.nfk (guF rfl (congrArg Bool.not hb16) (bNeq rfl rfl)) ?_
      refine Ev.nfk (pkF rfl (congrArg Bool.not hb16) rfl) ?_
      refine Ev.fend0 ?_
      refine Ev.rend ?_
      intro e17 he18
      have h19 : eget e17 0 = .pt none [.int .i64 a1.Day, .sl none (a1.Cash.map (cI .i64)), .sl none (a1.Tallies.map Tally.c)] := envp he18 rfl h3
      have h20 : eget e17 1 = .pt none [.int .i64 a2.Day, .sl none (a2.Cash.map (cI .i64)), .sl none (a2.Tallies.map Tally.c)] := envp he18 rfl h4
      have h21 : eget e17 39 = .bool ((a1.Tallies.length : Int) != (a2.Tallies.length : Int)) := envp he18 rfl rfl
      clear h3 h4
      refine Ev.kseqN ?_
      rcases ite_some h with ⟨hb22, h⟩ | ⟨hb22, h⟩
      · refine Ev.condT h21 hb22 ?_
        refine Ev.seq ?_
        refine Ev.reg (fun _ => rfl) ?_
        refine Ev.nxk (mvO rfl) ?_
        refine Ev.rend ?_
        intro e23 he24
        have h25 : eget e23 4 = .bool false := envp he24 rfl rfl
        clear h19 h20 h21
        refine Ev.kseqN ?_
        refine Ev.ex ?_
        refine Ev.kseqR ?_
        cases h
        exact Ev.kendR (resT h25 res0) rfl
      · refine Ev.condF h21 hb22 ?_
        refine Ev.ex ?_
        refine Ev.kseqN ?_
        refine Ev.seq ?_
        refine Ev.seq ?_
        refine Ev.reg (fun _ => rfl) ?_
        refine Ev.nxk (mvO rfl) ?_
        refine Ev.rend ?_
        intro e26 he27
        have h28 : eget e26 0 = .pt none [.int .i64 a1.Day, .sl none (a1.Cash.map (cI .i64)), .sl none (a1.Tallies.map Tally.c)] := envp he27 rfl h19
        have h29 : eget e26 1 = .pt none [.int .i64 a2.Day, .sl none (a2.Cash.map (cI .i64)), .sl none (a2.Tallies.map Tally.c)] := envp he27 rfl h20
        have h30 : eget e26 5 = .int .i64 0 := envp he27 rfl rfl
        clear h19 h20 h21
        refine Ev.kseqN ?_
        refine Ev.blk ?_
        obtain ⟨r73, hr74, h⟩ := bind_some h
        rcases r73 with _ | _
        · refine Ev.loop (RS := spec_l07Same_b1_RS a1 a2) (RR := spec_l07Same_b1_RR a1 a2) (fun s r h e M hs => spec_l07Same_b1_ok a1 a2 s r h e M hs) hr74 (And.intro h28 (And.intro h29 h30)) ?_
          intro x e76 M77 hq75
          obtain ⟨rfl, h78⟩ := hq75
          refine Ev.kblkR ?_
          refine Ev.kseqR ?_
          cases h
          exact Ev.kendR (resT h78 res0) rfl
        · refine Ev.loop (RS := spec_l07Same_b1_RS a1 a2) (RR := spec_l07Same_b1_RR a1 a2) (fun s r h e M hs => spec_l07Same_b1_ok a1 a2 s r h e M hs) hr74 (And.intro h28 (And.intro h29 h30)) ?_
          intro x e79 M80 hq75
          obtain ⟨rfl, _⟩ := hq75
          refine Ev.kblkE ?_
          refine Ev.kseqN ?_
          refine Ev.seq ?_
          refine Ev.reg (fun _ => rfl) ?_
          refine Ev.nxk (mvO rfl) ?_
          refine Ev.rend ?_
          intro e81 he82
          have h83 : eget e81 4 = .bool true := envp he82 rfl rfl
          refine Ev.kseqN ?_
          refine Ev.ex ?_
          cases h
          exact Ev.kendR (resT h83 res0) rfl
    · refine Ev.nfk (gsF rfl (congrArg Bool.not hb16)) ?_
      refine Ev.nfk (gsF rfl (congrArg Bool.not hb16)) ?_
      refine Ev.nfk (gsF rfl (congrArg Bool.not hb16)) ?_
      refine Ev.nfk (gsF rfl (congrArg Bool.not hb16)) ?_
      refine Ev.nfk (gsF rfl (congrArg Bool.not hb16)) ?_
      refine Ev.nfk (gsF rfl (congrArg Bool.not hb16)) ?_
      refine Ev.nfk (gsF rfl (congrArg Bool.not hb16)) ?_
      refine Ev.nfk (gsF rfl (congrArg Bool.not hb16)) ?_
      refine Ev.nfk (gsF rfl (congrArg Bool.not hb16)) ?_
      refine Ev.nfk (gsF rfl (congrArg Bool.not hb16)) ?_
      refine Ev.nfk (gsF rfl (congrArg Bool.not hb16)) ?_
      refine Ev.nfk (pkT rfl (congrArg Bool.not hb16) rfl) ?_
      refine Ev.fend0 ?_
      refine Ev.rend ?_
      intro e84 he85
      have h86 : eget e84 0 = .pt none [.int .i64 a1.Day, .sl none (a1.Cash.map (cI .i64)), .sl none (a1.Tallies.map Tally.c)] := envp he85 rfl h3
      have h87 : eget e84 1 = .pt none [.int .i64 a2.Day, .sl none (a2.Cash.map (cI .i64)), .sl none (a2.Tallies.map Tally.c)] := envp he85 rfl h4
      have h88 : eget e84 39 = .bool true := envp he85 rfl rfl
      clear h3 h4
      refine Ev.kseqN ?_
      refine Ev.condT h88 rfl ?_
      refine Ev.seq ?_
      refine Ev.reg (fun _ => rfl) ?_
      refine Ev.nxk (mvO rfl) ?_
      refine Ev.rend ?_
      intro e89 he90
      have h91 : eget e89 4 = .bool false := envp he90 rfl rfl
      clear h86 h87 h88
      refine Ev.kseqN ?_
      refine Ev.ex ?_
      refine Ev.kseqR ?_
      cases h
      exact Ev.kendR (resT h91 res0) rfl
/-! ### loop.example/g01263/laws.szTallyS (f47) -/
noncomputable def laws_szTallyS (a1 : List Tally) (a2 : Int) : Option Int :=
  if (decide ((IntKind.i64.wrap (a2 - (a1.length : Int))) < 0)) = true then
    some (-1)
  else
    some (IntKind.i64.wrap (a2 - (a1.length : Int)))
def laws_szTallyS_enc (r : Int) : AV := .int .i64 r
theorem laws_szTallyS_ok (a1 : List Tally) (a2 : Int) (r : Int) (h : laws_szTallyS a1 a2 = some r) : Ev (fun k => CN k 47 [.sl none (a1.map Tally.c), .int .i64 a2] []) (fun p => rRes p.2 p.1 = laws_szTallyS_enc r) := by
  unfold laws_szTallyS at h
  refine Ev.enter (F := fun k => f47 (CN k) k) (fun k => callN_eq rfl Try.func47 rfl rfl rfl (by decide +kernel) (f47_eq _ _)) ?_
  refine Ev.seq ?_
  refine Ev.reg (fun _ => rfl) ?_
  refine Ev.nxk (mvO rfl) ?_
  refine Ev.rend ?_
  intro e1 he2
  have h3 : eget e1 0 = .sl none (a1.map Tally.c) := envp he2 rfl rfl
  have h4 : eget e1 1 = .int .i64 a2 := envp he2 rfl rfl
  refine Ev.kseqN ?_
  refine Ev.seq ?_
  refine Ev.reg (fun _ => rfl) ?_
  refine Ev.nxk (mvO h4) ?_
  refine Ev.nxk (mvO h3) ?_
  refine Ev.nxk (lnS Try.underlying46 rfl) ?_
  refine Ev.nxk (bSub rfl rfl) ?_
  refine Ev.nxk (mvO rfl) ?_
  refine Ev.rend ?_
  intro e5 he6
  have h7 : eget e5 1 = .int .i64 (IntKind.i64.wrap (a2 - (a1.length : Int))) := envp he6 rfl rfl
  clear h3
  refine Ev.kseqN ?_
  refine Ev.seq ?_
  refine Ev.seq ?_
  refine Ev.reg (fun _ => rfl) ?_
  refine Ev.nxk (mvO h7) ?_
  refine Ev.nxk (bLss rfl rfl) ?_
  refine Ev.rend ?_
  intro e8 he9
  have h10 : eget e8 1 = .int .i64 (IntKind.i64.wrap (a2 - (a1.length : Int))) := envp he9 rfl h7
  have h11 : eget e8 10 = .bool (decide ((IntKind.i64.wrap (a2 - (a1.length : Int))) < 0)) := envp he9 rfl rfl
  clear h7
  refine Ev.kseqN ?_
  rcases ite_some h with ⟨hb12, h⟩ | ⟨hb12, h⟩
  · refine Ev.condT h11 hb12 ?_
    refine Ev.seq ?_
    refine Ev.reg (fun _ => rfl) ?_
    refine Ev.nxk (mvO rfl) ?_
    refine Ev.rend ?_
    intro e13 he14
    have h15 : eget e13 4 = .int .i64 (-1) := envp he14 rfl rfl
    clear h10 h11
    refine Ev.kseqN ?_
    refine Ev.ex ?_
    refine Ev.kseqR ?_
    cases h
    exact Ev.kendR (resT h15 res0) rfl
  · refine Ev.condF h11 hb12 ?_
    refine Ev.ex ?_
    refine Ev.kseqN ?_
    refine Ev.seq ?_
    refine Ev.reg (fun _ => rfl) ?_
    refine Ev.nxk (mvO h10) ?_
    refine Ev.nxk (mvO rfl) ?_
    refine Ev.rend ?_
    intro e16 he17
    have h18 : eget e16 4 = .int .i64 (IntKind.i64.wrap (a2 - (a1.length : Int))) := envp he17 rfl rfl
    clear h10 h11
    refine Ev.kseqN ?_
    refine Ev.ex ?_
    cases h
    exact Ev.kendR (resT h18 res0) rfl
/-! ### loop.example/g01263/laws.szInt64S (f46) -/
noncomputable def laws_szInt64S (a1 : List Int) (a2 : Int) : Option Int :=
  if (decide ((IntKind.i64.wrap (a2 - (a1.length : Int))) < 0)) = true then
    some (-1)
  else
    some (IntKind.i64.wrap (a2 - (a1.length : Int)))
def laws_szInt64S_enc (r : Int) : AV := .int .i64 r
theorem laws_szInt64S_ok (a1 : List Int) (a2 : Int) (r : Int) (h : laws_szInt64S a1 a2 = some r) : Ev (fun k => CN k 46 [.sl none (a1.map (cI .i64)), .int .i64 a2] []) (fun p => rRes p.2 p.1 = laws_szInt64S_enc r) := by
  unfold laws_szInt64S at h
  refine Ev.enter (F := fun k => f46 (CN k) k) (fun k => callN_eq rfl Try.func46 rfl rfl rfl (by decide +kernel) (f46_eq _ _)) ?_
  refine Ev.seq ?_
  refine Ev.reg (fun _ => rfl) ?_
  refine Ev.nxk (mvO rfl) ?_
  refine Ev.rend ?_
  intro e1 he2
  have h3 : eget e1 0 = .sl none (a1.map (cI .i64)) := envp he2 rfl rfl
  have h4 : eget e1 1 = .int .i64 a2 := envp he2 rfl rfl
  refine Ev.kseqN ?_
  refine Ev.seq ?_
  refine Ev.reg (fun _ => rfl) ?_
  refine Ev.nxk (mvO h4) ?_
  refine Ev.nxk (mvO h3) ?_
  refine Ev.nxk (lnS Try.underlying29 rfl) ?_
  refine Ev.nxk (bSub rfl rfl) ?_
  refine Ev.nxk (mvO rfl) ?_
  refine Ev.rend ?_
  intro e5 he6
  have h7 : eget e5 1 = .int .i64 (IntKind.i64.wrap (a2 - (a1.length : Int))) := envp he6 rfl rfl
  clear h3
  refine Ev.kseqN ?_
  refine Ev.seq ?_
  refine Ev.seq ?_
  refine Ev.reg (fun _ => rfl) ?_
  refine Ev.nxk (mvO h7) ?_
  refine Ev.nxk (bLss rfl rfl) ?_
  refine Ev.rend ?_
  intro e8 he9
  have h10 : eget e8 1 = .int .i64 (IntKind.i64.wrap (a2 - (a1.length : Int))) := envp he9 rfl h7
  have h11 : eget e8 10 = .bool (decide ((IntKind.i64.wrap (a2 - (a1.length : Int))) < 0)) := envp he9 rfl rfl
  clear h7
  refine Ev.kseqN ?_
  rcases ite_some h with ⟨hb12, h⟩ | ⟨hb12, h⟩
  · refine Ev.condT h11 hb12 ?_
    refine Ev.seq ?_
    refine Ev.reg (fun _ => rfl) ?_
    refine Ev.nxk (mvO rfl) ?_
    refine Ev.rend ?_
    intro e13 he14
    have h15 : eget e13 4 = .int .i64 (-1) := envp he14 rfl rfl
    clear h10 h11
    refine Ev.kseqN ?_
    refine Ev.ex ?_
    refine Ev.kseqR ?_
    cases h
    exact Ev.kendR (resT h15 res0) rfl
  · refine Ev.condF h11 hb12 ?_
    refine Ev.ex ?_
    refine Ev.kseqN ?_
    refine Ev.seq ?_
    refine Ev.reg (fun _ => rfl) ?_
    refine Ev.nxk (mvO h10) ?_
    refine Ev.nxk (mvO rfl) ?_
    refine Ev.rend ?_
    intro e16 he17
    have h18 : eget e16 4 = .int .i64 (IntKind.i64.wrap (a2 - (a1.length : Int))) := envp he17 rfl rfl
    clear h10 h11
    refine Ev.kseqN ?_
    refine Ev.ex ?_
    cases h
    exact Ev.kendR (resT h18 res0) rfl
/-! ### loop.example/g01263/laws.eqInt64S (f15) -/
abbrev laws_eqInt64S_b1_S := Int
abbrev laws_eqInt64S_b1_R := Unit ⊕ Unit
def laws_eqInt64S_b1_RS (a1 : List Int) (a2 : List Int) (s : laws_eqInt64S_b1_S) (e : Env) (M : Mem) : Prop := eget e 0 = .sl none (a1.map (cI .i64)) ∧ eget e 1 = .sl none (a2.map (cI .i64)) ∧ eget e 5 = .int .i64 s
def laws_eqInt64S_b1_RR (a1 : List Int) (a2 : List Int) (r : laws_eqInt64S_b1_R) (x : Ex) (e : Env) (M : Mem) : Prop :=
  match r with
  | (.inl g) => x = .ret ∧ eget e 4 = .bool false
  | (.inr g) => x = .ext 0 ∧ True
noncomputable def laws_eqInt64S_b1 (a1 : List Int) (a2 : List Int) : laws_eqInt64S_b1_S → Option (laws_eqInt64S_b1_S ⊕ laws_eqInt64S_b1_R) := fun s1_1 =>
  if (decide (s1_1 < (a1.length : Int))) = true then
    (rd a1 s1_1).bind fun x42 =>
    (rd a2 s1_1).bind fun x44 =>
    if (x42 != x44) = true then
      some (.inr (.inl ()))
    else
      some (.inl (IntKind.i64.wrap (s1_1 + 1)))
  else
    some (.inr (.inr ()))
theorem laws_eqInt64S_b1_ok (a1 : List Int) (a2 : List Int) (s : laws_eqInt64S_b1_S) (r : laws_eqInt64S_b1_S ⊕ laws_eqInt64S_b1_R) (h : laws_eqInt64S_b1 a1 a2 s = some r) (e : Env) (M : Mem) (hs : laws_eqInt64S_b1_RS a1 a2 s e M) : Ev (fun k => (f15_l4 (CN k) k (prune [0, 1, 5] e) M).bind fun q => some q) (bQ (laws_eqInt64S_b1_RS a1 a2) (laws_eqInt64S_b1_RR a1 a2) r) := by
  revert h hs
  revert s
  intro s1_1 h hs
  unfold laws_eqInt64S_b1 at h
  obtain ⟨h29, h31, h33⟩ := hs
  generalize he28 : prune [0, 1, 5] e = e27
  have h30 := envp he28.symm rfl h29
  have h32 := envp he28.symm rfl h31
  have h34 := envp he28.symm rfl h33
  refine Ev.seq ?_
  refine Ev.seq ?_
  refine Ev.reg (fun _ => rfl) ?_
  refine Ev.nxk (mvO h34) ?_
  refine Ev.nxk (mvO h30) ?_
  refine Ev.nxk (lnS Try.underlying29 rfl) ?_
  refine Ev.nxk (bLss rfl rfl) ?_
  refine Ev.rend ?_
  intro e35 he36
  have h37 : eget e35 0 = .sl none (a1.map (cI .i64)) := envp he36 rfl h30
  have h38 : eget e35 1 = .sl none (a2.map (cI .i64)) := envp he36 rfl h32
  have h39 : eget e35 5 = .int .i64 s1_1 := envp he36 rfl h34
  have h40 : eget e35 14 = .bool (decide (s1_1 < (a1.length : Int))) := envp he36 rfl rfl
  clear h30 h32 h34
  refine Ev.kseqN ?_
  rcases ite_some h with ⟨hb41, h⟩ | ⟨hb41, h⟩
  · refine Ev.condT h40 hb41 ?_
    refine Ev.ex ?_
    refine Ev.kseqN ?_
    refine Ev.seq ?_
    refine Ev.blk ?_
    refine Ev.seq ?_
    refine Ev.regD (fun _ => rfl) ?_
    refine Ev.nfk (mvO h37) ?_
    refine Ev.nfk (mvO h39) ?_
    obtain ⟨x42, hx43, h⟩ := bind_some h
    refine Ev.nfk (ixS rfl rfl hx43 (cI_fl _)) ?_
    refine Ev.nfk (ldP rfl rfl) ?_
    refine Ev.nfk (mvO h38) ?_
    refine Ev.nfk (mvO h39) ?_
    obtain ⟨x44, hx45, h⟩ := bind_some h
    refine Ev.nfk (ixS rfl rfl hx45 (cI_fl _)) ?_
    refine Ev.nfk (ldP rfl rfl) ?_
    refine Ev.nfk (bNeq rfl rfl) ?_
    refine Ev.fend0 ?_
    refine Ev.rend ?_
    intro e46 he47
    have h48 : eget e46 0 = .sl none (a1.map (cI .i64)) := envp he47 rfl h37
    have h49 : eget e46 1 = .sl none (a2.map (cI .i64)) := envp he47 rfl h38
    have h50 : eget e46 5 = .int .i64 s1_1 := envp he47 rfl h39
    have h51 : eget e46 25 = .bool (x42 != x44) := envp he47 rfl rfl
    clear h37 h38 h39 h40
    refine Ev.kseqN ?_
    rcases ite_some h with ⟨hb52, h⟩ | ⟨hb52, h⟩
    · refine Ev.condT h51 hb52 ?_
      refine Ev.seq ?_
      refine Ev.reg (fun _ => rfl) ?_
      refine Ev.nxk (mvO rfl) ?_
      refine Ev.rend ?_
      intro e53 he54
      have h55 : eget e53 4 = .bool false := envp he54 rfl rfl
      clear h48 h49 h50 h51
      refine Ev.kseqN ?_
      refine Ev.ex ?_
      refine Ev.kblkR ?_
      refine Ev.kseqR ?_
      cases h
      exact Ev.kid (bQ_x (RS := (laws_eqInt64S_b1_RS a1 a2)) (RR := (laws_eqInt64S_b1_RR a1 a2)) (by intro h; cases h) (And.intro rfl h55))
    · refine Ev.condF h51 hb52 ?_
      refine Ev.ex ?_
      refine Ev.kblkN ?_
      refine Ev.kseqN ?_
      refine Ev.reg (fun _ => rfl) ?_
      refine Ev.nxk (mvO h50) ?_
      refine Ev.nxk (bAdd rfl rfl) ?_
      refine Ev.nxk (mvO rfl) ?_
      refine Ev.rend ?_
      intro e56 he57
      have h58 : eget e56 0 = .sl none (a1.map (cI .i64)) := envp he57 rfl h48
      have h59 : eget e56 1 = .sl none (a2.map (cI .i64)) := envp he57 rfl h49
      have h60 : eget e56 5 = .int .i64 (IntKind.i64.wrap (s1_1 + 1)) := envp he57 rfl rfl
      clear h48 h49 h51
      cases h
      exact Ev.kid (bQ_n (RS := (laws_eqInt64S_b1_RS a1 a2)) (RR := (laws_eqInt64S_b1_RR a1 a2)) (And.intro h58 (And.intro h59 h60)))
  · refine Ev.condF h40 hb41 ?_
    refine Ev.ex ?_
    refine Ev.kseqE ?_
    cases h
    exact Ev.kid (bQ_x (RS := (laws_eqInt64S_b1_RS a1 a2)) (RR := (laws_eqInt64S_b1_RR a1 a2)) (by intro h; cases h) (And.intro rfl trivial))
noncomputable def laws_eqInt64S (a1 : List Int) (a2 : List Int) : Option Bool :=
  if ((a1.length : Int) != (a2.length : Int)) = true then
    some false
  else
    (Lw (laws_eqInt64S_b1 a1 a2) 0).bind fun r => match r with
    | (.inl _) =>
      some false
    | (.inr _) =>
      some true
def laws_eqInt64S_enc (r : Bool) : AV := .bool r
theorem laws_eqInt64S_ok (a1 : List Int) (a2 : List Int) (r : Bool) (h : laws_eqInt64S a1 a2 = some r) : Ev (fun k => CN k 15 [.sl none (a1.map (cI .i64)), .sl none (a2.map (cI .i64))] []) (fun p => rRes p.2 p.1 = laws_eqInt64S_enc r) := by
  unfold laws_eqInt64S at h
  refine Ev.enter (F := fun k => f15 (CN k) k) (fun k => callN_eq rfl Try.func15 rfl rfl rfl (by decide +kernel) (f15_eq _ _)) ?_
  refine Ev.seq ?_
  refine Ev.reg (fun _ => rfl) ?_
  refine Ev.nxk (mvO rfl) ?_
  refine Ev.rend ?_
  intro e1 he2
  have h3 : eget e1 0 = .sl none (a1.map (cI .i64)) := envp he2 rfl rfl
  have h4 : eget e1 1 = .sl none (a2.map (cI .i64)) := envp he2 rfl rfl
  refine Ev.kseqN ?_
  refine Ev.seq ?_
  refine Ev.seq ?_
  refine Ev.reg (fun _ => rfl) ?_
  refine Ev.nxk (mvO h3) ?_
  refine Ev.nxk (lnS Try.underlying29 rfl) ?_
  refine Ev.nxk (mvO h4) ?_
  refine Ev.nxk (lnS Try.underlying29 rfl) ?_
  refine Ev.nxk (bNeq rfl rfl) ?_
  refine Ev.rend ?_
  intro e5 he6
  have h7 : eget e5 0 = .sl none (a1.map (cI .i64)) := envp he6 rfl h3
  have h8 : eget e5 1 = .sl none (a2.map (cI .i64)) := envp he6 rfl h4
  have h9 : eget e5 10 = .bool ((a1.length : Int) != (a2.length : Int)) := envp he6 rfl rfl
  clear h3 h4
  refine Ev.kseqN ?_
  rcases ite_some h with ⟨hb10, h⟩ | ⟨hb10, h⟩
  · refine Ev.condT h9 hb10 ?_
    refine Ev.seq ?_
    refine Ev.reg (fun _ => rfl) ?_
    refine Ev.nxk (mvO rfl) ?_
    refine Ev.rend ?_
    intro e11 he12
    have h13 : eget e11 4 = .bool false := envp he12 rfl rfl
    clear h7 h8 h9
    refine Ev.kseqN ?_
    refine Ev.ex ?_
    refine Ev.kseqR ?_
    cases h
    exact Ev.kendR (resT h13 res0) rfl
  · refine Ev.condF h9 hb10 ?_
    refine Ev.ex ?_
    refine Ev.kseqN ?_
    refine Ev.seq ?_
    refine Ev.seq ?_
    refine Ev.reg (fun _ => rfl) ?_
    refine Ev.nxk (mvO rfl) ?_
    refine Ev.rend ?_
    intro e14 he15
    have h16 : eget e14 0 = .sl none (a1.map (cI .i64)) := envp he15 rfl h7
    have h17 : eget e14 1 = .sl none (a2.map (cI .i64)) := envp he15 rfl h8
    have h18 : eget e14 5 = .int .i64 0 := envp he15 rfl rfl
    clear h7 h8 h9
    refine Ev.kseqN ?_
    refine Ev.blk ?_
    obtain ⟨r61, hr62, h⟩ := bind_some h
    rcases r61 with _ | _
    · refine Ev.loop (RS := laws_eqInt64S_b1_RS a1 a2) (RR := laws_eqInt64S_b1_RR a1 a2) (fun s r h e M hs => laws_eqInt64S_b1_ok a1 a2 s r h e M hs) hr62 (And.intro h16 (And.intro h17 h18)) ?_
      intro x e64 M65 hq63
      obtain ⟨rfl, h66⟩ := hq63
      refine Ev.kblkR ?_
      refine Ev.kseqR ?_
      cases h
      exact Ev.kendR (resT h66 res0) rfl
    · refine Ev.loop (RS := laws_eqInt64S_b1_RS a1 a2) (RR := laws_eqInt64S_b1_RR a1 a2) (fun s r h e M hs => laws_eqInt64S_b1_ok a1 a2 s r h e M hs) hr62 (And.intro h16 (And.intro h17 h18)) ?_
      intro x e67 M68 hq63
      obtain ⟨rfl, _⟩ := hq63
      refine Ev.kblkE ?_
      refine Ev.kseqN ?_
      refine Ev.seq ?_
      refine Ev.reg (fun _ => rfl) ?_
      refine Ev.nxk (mvO rfl) ?_
      refine Ev.rend ?_
      intro e69 he70
      have h71 : eget e69 4 = .bool true := envp he70 rfl rfl
      refine Ev.kseqN ?_
      refine Ev.ex ?_
      cases h
      exact Ev.kendR (resT h71 res0) rfl
/-! ### loop.example/g01263/laws.eqBook (f29) -/
noncomputable def laws_eqBook (a1 : Book) (a2 : Book) : Option Bool :=
  if (a1.Day != a2.Day) = true then
    some false
  else
    (laws_eqInt64S a1.Cash a2.Cash).bind fun r15 =>
    if r15 = true then
      (laws_eqTallyS a1.Tallies a2.Tallies).bind fun r23 =>
      if r23 = true then
        some true
      else
        some false
    else
      some false
def laws_eqBook_enc (r : Bool) : AV := .bool r
theorem laws_eqBook_ok (a1 : Book) (a2 : Book) (r : Bool) (h : laws_eqBook a1 a2 = some r) : Ev (fun k => CN k 29 [.agg [.int .i64 a1.Day, .sl none (a1.Cash.map (cI .i64)), .sl none (a1.Tallies.map Tally.c)], .agg [.int .i64 a2.Day, .sl none (a2.Cash.map (cI .i64)), .sl none (a2.Tallies.map Tally.c)]] []) (fun p => rRes p.2 p.1 = laws_eqBook_enc r) := by
  unfold laws_eqBook at h
  refine Ev.enter (F := fun k => f29 (CN k) k) (fun k => callN_eq rfl Try.func29 rfl rfl rfl (by decide +kernel) (f29_eq _ _)) ?_
  refine Ev.seq ?_
  refine Ev.reg (fun _ => rfl) ?_
  refine Ev.nxk (bxI rfl rfl ⟨rfl, rfl, by decide⟩) ?_
  refine Ev.nxk (bxI rfl rfl ⟨rfl, rfl, by decide⟩) ?_
  refine Ev.nxk (mvO rfl) ?_
  refine Ev.rend ?_
  intro e1 he2
  have h3 : eget e1 2 = .pt none [.int .i64 a1.Day, .sl none (a1.Cash.map (cI .i64)), .sl none (a1.Tallies.map Tally.c)] := envp he2 rfl rfl
  have h4 : eget e1 3 = .pt none [.int .i64 a2.Day, .sl none (a2.Cash.map (cI .i64)), .sl none (a2.Tallies.map Tally.c)] := envp he2 rfl rfl
  refine Ev.kseqN ?_
  refine Ev.seq ?_
  refine Ev.seq ?_
  refine Ev.reg (fun _ => rfl) ?_
  refine Ev.nxk (faP h3 ⟨ble rfl, blt rfl⟩ rfl) ?_
  refine Ev.nxk (ldP rfl rfl) ?_
  refine Ev.nxk (faP h4 ⟨ble rfl, blt rfl⟩ rfl) ?_
  refine Ev.nxk (ldP rfl rfl) ?_
  refine Ev.nxk (bNeq rfl rfl) ?_
  refine Ev.rend ?_
  intro e5 he6
  have h7 : eget e5 2 = .pt none [.int .i64 a1.Day, .sl none (a1.Cash.map (cI .i64)), .sl none (a1.Tallies.map Tally.c)] := envp he6 rfl h3
  have h8 : eget e5 3 = .pt none [.int .i64 a2.Day, .sl none (a2.Cash.map (cI .i64)), .sl none (a2.Tallies.map Tally.c)] := envp he6 rfl h4
  have h9 : eget e5 9 = .bool (a1.Day != a2.Day) := envp he6 rfl rfl
  clear h3 h4
  refine Ev.kseqN ?_
  rcases ite_some h with ⟨hb10, h⟩ | ⟨hb10, h⟩
  · refine Ev.condT h9 hb10 ?_
    refine Ev.seq ?_
    refine Ev.reg (fun _ => rfl) ?_
    refine Ev.nxk (mvO rfl) ?_
    refine Ev.rend ?_
    intro e11 he12
    have h13 : eget e11 4 = .bool false := envp he12 rfl rfl
    clear h7 h8 h9
    refine Ev.kseqN ?_
    refine Ev.ex ?_
    refine Ev.kseqR ?_
    cases h
    exact Ev.kendR (resT h13 res0) rfl
  · refine Ev.condF h9 hb10 ?_
    refine Ev.ex ?_
    refine Ev.kseqN ?_
    refine Ev.seq ?_
    refine Ev.seq ?_
    refine Ev.reg (fun _ => rfl) ?_
    refine Ev.nxk (faP h7 ⟨ble rfl, blt rfl⟩ rfl) ?_
    refine Ev.nxk (ldP rfl rfl) ?_
    refine Ev.nxk (faP h8 ⟨ble rfl, blt rfl⟩ rfl) ?_
    refine Ev.nxk (ldP rfl rfl) ?_
    obtain ⟨r15, hx14, h⟩ := bind_some h
    refine Ev.nxck (Ev.call (v := .bool r15) rfl (cns rfl (cns rfl rfl)) rfl (laws_eqInt64S_ok a1.Cash a2.Cash _ hx14) (fun h => nomatch (show false = true from h))) ?_
    refine Ev.nxk (uNot rfl) ?_
    refine Ev.rend ?_
    intro e16 he17
    have h18 : eget e16 2 = .pt none [.int .i64 a1.Day, .sl none (a1.Cash.map (cI .i64)), .sl none (a1.Tallies.map Tally.c)] := envp he17 rfl h7
    have h19 : eget e16 3 = .pt none [.int .i64 a2.Day, .sl none (a2.Cash.map (cI .i64)), .sl none (a2.Tallies.map Tally.c)] := envp he17 rfl h8
    have h20 : eget e16 15 = .bool (!r15) := envp he17 rfl rfl
    clear h7 h8 h9
    refine Ev.kseqN ?_
    rcases ite_some h with ⟨hb21, h⟩ | ⟨hb21, h⟩
    · refine Ev.condF h20 (congrArg Bool.not hb21) ?_
      refine Ev.ex ?_
      refine Ev.kseqN ?_
      refine Ev.seq ?_
      refine Ev.seq ?_
      refine Ev.reg (fun _ => rfl) ?_
      refine Ev.nxk (faP h18 ⟨ble rfl, blt rfl⟩ rfl) ?_
      refine Ev.nxk (ldP rfl rfl) ?_
      refine Ev.nxk (faP h19 ⟨ble rfl, blt rfl⟩ rfl) ?_
      refine Ev.nxk (ldP rfl rfl) ?_
      obtain ⟨r23, hx22, h⟩ := bind_some h
      refine Ev.nxck (Ev.call (v := .bool r23) rfl (cns rfl (cns rfl rfl)) rfl (laws_eqTallyS_ok a1.Tallies a2.Tallies _ hx22) (fun h => nomatch (show false = true from h))) ?_
      refine Ev.nxk (uNot rfl) ?_
      refine Ev.rend ?_
      intro e24 he25
      have h26 : eget e24 21 = .bool (!r23) := envp he25 rfl rfl
      clear h18 h19 h20
      refine Ev.kseqN ?_
      rcases ite_some h with ⟨hb27, h⟩ | ⟨hb27, h⟩
      · refine Ev.condF h26 (congrArg Bool.not hb27) ?_
        refine Ev.ex ?_
        refine Ev.kseqN ?_
        refine Ev.seq ?_
        refine Ev.reg (fun _ => rfl) ?_
        refine Ev.nxk (mvO rfl) ?_
        refine Ev.rend ?_
        intro e28 he29
        have h30 : eget e28 4 = .bool true := envp he29 rfl rfl
        clear h26
        refine Ev.kseqN ?_
        refine Ev.ex ?_
        cases h
        exact Ev.kendR (resT h30 res0) rfl
      · refine Ev.condT h26 (congrArg Bool.not hb27) ?_
        refine Ev.seq ?_
        refine Ev.reg (fun _ => rfl) ?_
        refine Ev.nxk (mvO rfl) ?_
        refine Ev.rend ?_
        intro e31 he32
        have h33 : eget e31 4 = .bool false := envp he32 rfl rfl
        clear h26
        refine Ev.kseqN ?_
        refine Ev.ex ?_
        refine Ev.kseqR ?_
        cases h
        exact Ev.kendR (resT h33 res0) rfl
    · refine Ev.condT h20 (congrArg Bool.not hb21) ?_
      refine Ev.seq ?_
      refine Ev.reg (fun _ => rfl) ?_
      refine Ev.nxk (mvO rfl) ?_
      refine Ev.rend ?_
      intro e34 he35
      have h36 : eget e34 4 = .bool false := envp he35 rfl rfl
      clear h18 h19 h20
      refine Ev.kseqN ?_
      refine Ev.ex ?_
      refine Ev.kseqR ?_
      cases h
      exact Ev.kendR (resT h36 res0) rfl
/-! ### loop.example/g01263/impl.SameBook (f28) -/
noncomputable def impl_SameBook (a1 : Book) (a2 : Book) : Option Bool :=
  if (a1.Day == a2.Day) = true then
    (slices_Equal_int64 a1.Cash a2.Cash).bind fun r7 =>
    if r7 = true then
      (slices_Equal_Tally a1.Tallies a2.Tallies).bind fun r10 =>
      some r10
    else
      some false
  else
    some false
def impl_SameBook_enc (r : Bool) : AV := .bool r
theorem impl_SameBook_ok (a1 : Book) (a2 : Book) (r : Bool) (h : impl_SameBook a1 a2 = some r) : Ev (fun k => CN k 28 [.agg [.int .i64 a1.Day, .sl none (a1.Cash.map (cI .i64)), .sl none (a1.Tallies.map Tally.c)], .agg [.int .i64 a2.Day, .sl none (a2.Cash.map (cI .i64)), .sl none (a2.Tallies.map Tally.c)]] []) (fun p => rRes p.2 p.1 = impl_SameBook_enc r) := by
  unfold impl_SameBook at h
  refine Ev.enter (F := fun k => f28 (CN k) k) (fun k => callN_eq rfl Try.func28 rfl rfl rfl (by decide +kernel) (f28_eq _ _)) ?_
  refine Ev.seq ?_
  refine Ev.reg (fun _ => rfl) ?_
  refine Ev.nxk (bxI rfl rfl ⟨rfl, rfl, by decide⟩) ?_
  refine Ev.nxk (bxI rfl rfl ⟨rfl, rfl, by decide⟩) ?_
  refine Ev.nxk (mvO rfl) ?_
  refine Ev.rend ?_
  intro e1 he2
  have h3 : eget e1 2 = .pt none [.int .i64 a1.Day, .sl none (a1.Cash.map (cI .i64)), .sl none (a1.Tallies.map Tally.c)] := envp he2 rfl rfl
  have h4 : eget e1 3 = .pt none [.int .i64 a2.Day, .sl none (a2.Cash.map (cI .i64)), .sl none (a2.Tallies.map Tally.c)] := envp he2 rfl rfl
  refine Ev.kseqN ?_
  refine Ev.seq ?_
  refine Ev.reg (fun _ => rfl) ?_
  refine Ev.nxk (faP h3 ⟨ble rfl, blt rfl⟩ rfl) ?_
  refine Ev.nxk (ldP rfl rfl) ?_
  refine Ev.nxk (faP h4 ⟨ble rfl, blt rfl⟩ rfl) ?_
  refine Ev.nxk (ldP rfl rfl) ?_
  refine Ev.nxk (bEql rfl rfl) ?_
  refine Ev.nxk (mvO rfl) ?_
  rcases ite_some h with ⟨hb5, h⟩ | ⟨hb5, h⟩
  · refine Ev.nxk (guT rfl hb5 (faP h3 ⟨ble rfl, blt rfl⟩ rfl)) ?_
    refine Ev.nxk (guT rfl hb5 (ldP rfl rfl)) ?_
    refine Ev.nxk (guT rfl hb5 (faP h4 ⟨ble rfl, blt rfl⟩ rfl)) ?_
    refine Ev.nxk (guT rfl hb5 (ldP rfl rfl)) ?_
    obtain ⟨r7, hx6, h⟩ := bind_some h
    refine Ev.nxck (Ev.guT rfl hb5 (Ev.call (v := .bool r7) rfl (cns rfl (cns rfl rfl)) rfl (slices_Equal_int64_ok a1.Cash a2.Cash _ hx6) (fun h => nomatch (show false = true from h)))) ?_
    refine Ev.nxk (pkT rfl hb5 rfl) ?_
    refine Ev.nxk (mvO rfl) ?_
    rcases ite_some h with ⟨hb8, h⟩ | ⟨hb8, h⟩
    · refine Ev.nxk (guT rfl hb8 (faP h3 ⟨ble rfl, blt rfl⟩ rfl)) ?_
      refine Ev.nxk (guT rfl hb8 (ldP rfl rfl)) ?_
      refine Ev.nxk (guT rfl hb8 (faP h4 ⟨ble rfl, blt rfl⟩ rfl)) ?_
      refine Ev.nxk (guT rfl hb8 (ldP rfl rfl)) ?_
      obtain ⟨r10, hx9, h⟩ := bind_some h
      refine Ev.nxck (Ev.guT rfl hb8 (Ev.call (v := .bool r10) rfl (cns rfl (cns rfl rfl)) rfl (slices_Equal_Tally_ok a1.Tallies a2.Tallies _ hx9) (fun h => nomatch (show false = true from h)))) ?_
      refine Ev.nxk (pkT rfl hb8 rfl) ?_
      refine Ev.nxk (mvO rfl) ?_
      refine Ev.rend ?_
      intro e11 he12
      have h13 : eget e11 4 = .bool r10 := envp he12 rfl rfl
      clear h3 h4
      refine Ev.kseqN ?_
      refine Ev.ex ?_
      cases h
      exact Ev.kendR (resT h13 res0) rfl
    · refine Ev.nxk (gsT rfl hb8) ?_
      refine Ev.nxk (gsT rfl hb8) ?_
      refine Ev.nxk (gsT rfl hb8) ?_
      refine Ev.nxk (gsT rfl hb8) ?_
      refine Ev.nxck (Ev.gsT rfl hb8) ?_
      refine Ev.nxk (pkF rfl hb8 rfl) ?_
      refine Ev.nxk (mvO rfl) ?_
      refine Ev.rend ?_
      intro e14 he15
      have h16 : eget e14 4 = .bool false := envp he15 rfl rfl
      clear h3 h4
      refine Ev.kseqN ?_
      refine Ev.ex ?_
      cases h
      exact Ev.kendR (resT h16 res0) rfl
  · refine Ev.nxk (gsT rfl hb5) ?_
    refine Ev.nxk (gsT rfl hb5) ?_
    refine Ev.nxk (gsT rfl hb5) ?_
    refine Ev.nxk (gsT rfl hb5) ?_
    refine Ev.nxck (Ev.gsT rfl hb5) ?_
    refine Ev.nxk (pkF rfl hb5 rfl) ?_
    refine Ev.nxk (mvO rfl) ?_
    refine Ev.nxk (gsT rfl rfl) ?_
    refine Ev.nxk (gsT rfl rfl) ?_
    refine Ev.nxk (gsT rfl rfl) ?_
    refine Ev.nxk (gsT rfl rfl) ?_
    refine Ev.nxck (Ev.gsT rfl rfl) ?_
    refine Ev.nxk (pkF rfl rfl rfl) ?_
    refine Ev.nxk (mvO rfl) ?_
    refine Ev.rend ?_
    intro e17 he18
    have h19 : eget e17 4 = .bool false := envp he18 rfl rfl
    clear h3 h4
    refine Ev.kseqN ?_
    refine Ev.ex ?_
    cases h
    exact Ev.kendR (resT h19 res0) rfl
/-! ### loop.example/g01263/laws.toInt64S (f13) -/
abbrev laws_toInt64S_b1_S := Int × (List Int)
abbrev laws_toInt64S_b1_R := (List Int)
def laws_toInt64S_b1_RS (a1 : List Int) (i1 : Nat) (s : laws_toInt64S_b1_S) (e : Env) (M : Mem) : Prop := eget e 0 = .sl none (a1.map (cI .i64)) ∧ eget e 3 = .lsl i1 s.2.length 0 s.2.length ∧ eget e 4 = .int .i64 s.1 ∧ M[i1]? = some (.live ⟨.grow, 2, 1, s.2.map (cI .i64)⟩)
def laws_toInt64S_b1_RR (a1 : List Int) (i1 : Nat) (g : laws_toInt64S_b1_R) (x : Ex) (e : Env) (M : Mem) : Prop := x = .ext 0 ∧ eget e 3 = .lsl i1 g.length 0 g.length ∧ M[i1]? = some (.live ⟨.grow, 2, 1, g.map (cI .i64)⟩)
noncomputable def laws_toInt64S_b1 (a1 : List Int) : laws_toInt64S_b1_S → Option (laws_toInt64S_b1_S ⊕ laws_toInt64S_b1_R) := fun (s1_1, s1_2) =>
  if (decide (s1_1 < (a1.length : Int))) = true then
    (rd a1 s1_1).bind fun x44 =>
    (rd s1_2 s1_1).bind fun x46 =>
    some (.inl ((IntKind.i64.wrap (s1_1 + 1)), (s1_2.set s1_1.toNat x44)))
  else
    some (.inr s1_2)
theorem laws_toInt64S_b1_ok (a1 : List Int) (i1 : Nat) (s : laws_toInt64S_b1_S) (r : laws_toInt64S_b1_S ⊕ laws_toInt64S_b1_R) (h : laws_toInt64S_b1 a1 s = some r) (e : Env) (M : Mem) (hs : laws_toInt64S_b1_RS a1 i1 s e M) : Ev (fun k => (f13_l3 (CN k) k (prune [0, 3, 4] e) M).bind fun q => some q) (bQ (laws_toInt64S_b1_RS a1 i1) (laws_toInt64S_b1_RR a1 i1) r) := by
  obtain ⟨s1_1, s1_2⟩ := s
  unfold laws_toInt64S_b1 at h
  obtain ⟨h30, h32, h34, o36⟩ := hs
  generalize he29 : prune [0, 3, 4] e = e28
  have h31 := envp he29.symm rfl h30
  have h33 := envp he29.symm rfl h32
  have h35 := envp he29.symm rfl h34
  refine Ev.seq ?_
  refine Ev.seq ?_
  refine Ev.reg (fun _ => rfl) ?_
  refine Ev.nxk (mvO h35) ?_
  refine Ev.nxk (mvO h31) ?_
  refine Ev.nxk (lnS Try.underlying29 rfl) ?_
  refine Ev.nxk (bLss rfl rfl) ?_
  refine Ev.rend ?_
  intro e37 he38
  have h39 : eget e37 0 = .sl none (a1.map (cI .i64)) := envp he38 rfl h31
  have h40 : eget e37 3 = .lsl i1 s1_2.length 0 s1_2.length := envp he38 rfl h33
  have h41 : eget e37 4 = .int .i64 s1_1 := envp he38 rfl h35
  have h42 : eget e37 11 = .bool (decide (s1_1 < (a1.length : Int))) := envp he38 rfl rfl
  clear h31 h33 h35
  refine Ev.kseqN ?_
  rcases ite_some h with ⟨hb43, h⟩ | ⟨hb43, h⟩
  · refine Ev.condT h42 hb43 ?_
    refine Ev.ex ?_
    refine Ev.kseqN ?_
    refine Ev.seq ?_
    refine Ev.blk ?_
    refine Ev.reg (fun _ => rfl) ?_
    refine Ev.nxk (mvO h40) ?_
    refine Ev.nxk (mvO h41) ?_
    refine Ev.nxk (mvO h39) ?_
    refine Ev.nxk (mvO h41) ?_
    obtain ⟨x44, hx45, h⟩ := bind_some h
    refine Ev.nxk (ixS rfl rfl hx45 (cI_fl _)) ?_
    refine Ev.nxk (ldP rfl rfl) ?_
    obtain ⟨x46, hx47, h⟩ := bind_some h
    refine Ev.nxk (ixO rfl o36 rfl rfl (rd_get hx47).1 (rd_lt hx47).2) ?_
    refine Ev.nxput (stR (u' := x44) rfl rfl o36 rfl (by rw [Nat.zero_add]; exact (rd_get hx47).2) ⟨rfl, ble rfl⟩ rfl rfl) ?_
    intro M48 hM49
    rw [Nat.zero_add] at hM49
    have o50 : M48[i1]? = some (.live ⟨.grow, 2, 1, (s1_2.set s1_1.toNat x44).map (cI .i64)⟩) := set_same hM49 o36
    refine Ev.rend ?_
    intro e53 he54
    have h55 : eget e53 0 = .sl none (a1.map (cI .i64)) := envp he54 rfl h39
    have h56 : eget e53 3 = .lsl i1 s1_2.length 0 s1_2.length := envp he54 rfl h40
    have h57 : eget e53 4 = .int .i64 s1_1 := envp he54 rfl h41
    clear h39 h40 h41 h42
    refine Ev.kblkN ?_
    refine Ev.kseqN ?_
    refine Ev.reg (fun _ => rfl) ?_
    refine Ev.nxk (mvO h57) ?_
    refine Ev.nxk (bAdd rfl rfl) ?_
    refine Ev.nxk (mvO rfl) ?_
    refine Ev.rend ?_
    intro e58 he59
    have h60 : eget e58 0 = .sl none (a1.map (cI .i64)) := envp he59 rfl h55
    have h61 : eget e58 3 = .lsl i1 s1_2.length 0 s1_2.length := envp he59 rfl h56
    have h62 : eget e58 4 = .int .i64 (IntKind.i64.wrap (s1_1 + 1)) := envp he59 rfl rfl
    clear h55 h56
    cases h
    exact Ev.kid (bQ_n (RS := (laws_toInt64S_b1_RS a1 i1)) (RR := (laws_toInt64S_b1_RR a1 i1)) (And.intro h60 (And.intro (lslL h61 (by simp)) (And.intro h62 o50))))
  · refine Ev.condF h42 hb43 ?_
    refine Ev.ex ?_
    refine Ev.kseqE ?_
    cases h
    exact Ev.kid (bQ_x (RS := (laws_toInt64S_b1_RS a1 i1)) (RR := (laws_toInt64S_b1_RR a1 i1)) (by intro h; cases h) (And.intro rfl (And.intro h40 o36)))
noncomputable def laws_toInt64S (a1 : List Int) : Option ((List Int)) :=
  (mkS 8 0 (a1.length : Int)).bind fun x4 =>
  (Lw (laws_toInt64S_b1 a1) (0, x4)).bind fun y68 =>
  some y68
def laws_toInt64S_enc (r : (List Int)) : AV := .sl (some 2) (r.map (cI .i64))
theorem laws_toInt64S_ok (a1 : List Int) (r : (List Int)) (h : laws_toInt64S a1 = some r) : Ev (fun k => CN k 13 [.sl none (a1.map (cI .i64))] []) (fun p => rRes p.2 p.1 = laws_toInt64S_enc r) := by
  unfold laws_toInt64S at h
  refine Ev.enter (F := fun k => f13 (CN k) k) (fun k => callN_eq rfl Try.func13 rfl rfl rfl (by decide +kernel) (f13_eq _ _)) ?_
  refine Ev.seq ?_
  refine Ev.reg (fun _ => rfl) ?_
  refine Ev.nxk (mvO rfl) ?_
  refine Ev.rend ?_
  intro e1 he2
  have h3 : eget e1 0 = .sl none (a1.map (cI .i64)) := envp he2 rfl rfl
  refine Ev.kseqN ?_
  refine Ev.seq ?_
  refine Ev.reg (fun _ => rfl) ?_
  refine Ev.nxk (mvO h3) ?_
  refine Ev.nxk (lnS Try.underlying29 rfl) ?_
  obtain ⟨x4, hx5, h⟩ := bind_some h
  refine Ev.nxpush (mkO rfl rfl hx5 (c := (cI .i64)) zero2 (cI_fl _) (by decide)) ?_
  intro M7 hM8
  have o9 : M7[([] : Mem).length]? = some (.live ⟨.grow, 2, 1, x4.map (cI .i64)⟩) := push_new hM8
  refine Ev.nxk (mvO rfl) ?_
  refine Ev.rend ?_
  intro e10 he11
  have h12 : eget e10 0 = .sl none (a1.map (cI .i64)) := envp he11 rfl h3
  have h13 : eget e10 3 = .lsl ([] : Mem).length x4.length 0 x4.length := envp he11 rfl rfl
  clear h3
  refine Ev.kseqN ?_
  refine Ev.seq ?_
  refine Ev.seq ?_
  refine Ev.reg (fun _ => rfl) ?_
  refine Ev.nxk (mvO rfl) ?_
  refine Ev.rend ?_
  intro e14 he15
  have h16 : eget e14 0 = .sl none (a1.map (cI .i64)) := envp he15 rfl h12
  have h17 : eget e14 3 = .lsl ([] : Mem).length x4.length 0 x4.length := envp he15 rfl h13
  have h18 : eget e14 4 = .int .i64 0 := envp he15 rfl rfl
  clear h12 h13
  refine Ev.kseqN ?_
  refine Ev.blk ?_
  obtain ⟨y68, hr64, h⟩ := bind_some h
  refine Ev.loop (RS := laws_toInt64S_b1_RS a1 (([] : Mem).length)) (RR := laws_toInt64S_b1_RR a1 (([] : Mem).length)) (fun s r h e M hs => laws_toInt64S_b1_ok a1 (([] : Mem).length) s r h e M hs) hr64 (And.intro h16 (And.intro h17 (And.intro h18 o9))) ?_
  intro x e66 M67 hq65
  obtain ⟨rfl, h69, o70⟩ := hq65
  refine Ev.kblkE ?_
  refine Ev.kseqN ?_
  refine Ev.seq ?_
  refine Ev.reg (fun _ => rfl) ?_
  refine Ev.nxk (mvO h69) ?_
  refine Ev.nxk (mvO rfl) ?_
  refine Ev.rend ?_
  intro e71 he72
  have h73 : eget e71 2 = .lsl ([] : Mem).length y68.length 0 y68.length := envp he72 rfl rfl
  clear h69
  refine Ev.kseqN ?_
  refine Ev.ex ?_
  cases h
  exact Ev.kendR (resT h73 res0) (rr_row o70 (cI_fl _))
/-! ### loop.example/g01263/laws.toBook (f27) -/
noncomputable def laws_toBook (a1 : Book) : Option (Int × (List Int) × (List Tally)) :=
  (laws_toInt64S a1.Cash).bind fun r30 =>
  (laws_toTallyS a1.Tallies).bind fun r50 =>
  some (a1.Day, r30, r50)
def laws_toBook_enc (r : Int × (List Int) × (List Tally)) : AV := .agg [.int .i64 r.1, .sl (some 2) (r.2.1.map (cI .i64)), .sl (some 81) (r.2.2.map Tally.c)]
theorem laws_toBook_ok (a1 : Book) (r : Int × (List Int) × (List Tally)) (h : laws_toBook a1 = some r) : Ev (fun k => CN k 27 [.agg [.int .i64 a1.Day, .sl none (a1.Cash.map (cI .i64)), .sl none (a1.Tallies.map Tally.c)]] []) (fun p => rRes p.2 p.1 = laws_toBook_enc r) := by
  unfold laws_toBook at h
  refine Ev.enter (F := fun k => f27 (CN k) k) (fun k => callN_eq rfl Try.func27 rfl rfl rfl (by decide +kernel) (f27_eq _ _)) ?_
  refine Ev.seq ?_
  refine Ev.reg (fun _ => rfl) ?_
  refine Ev.nxk (bxI rfl rfl ⟨rfl, rfl, by decide⟩) ?_
  refine Ev.nxpush (alO zero53) ?_
  intro M2 hM3
  have o4 : M2[([] : Mem).length]? = some (.live ⟨.box, 53, 3, [[.int .i64 0, .nils, .nils]]⟩) := push_new hM3
  refine Ev.rend ?_
  intro e5 he6
  have h7 : eget e5 1 = .pt none [.int .i64 a1.Day, .sl none (a1.Cash.map (cI .i64)), .sl none (a1.Tallies.map Tally.c)] := envp he6 rfl rfl
  have h8 : eget e5 2 = .loc ([] : Mem).length 1 0 0 := envp he6 rfl rfl
  refine Ev.kseqN ?_
  refine Ev.seq ?_
  refine Ev.reg (fun _ => rfl) ?_
  refine Ev.nxpush (alO zero53) ?_
  intro M10 hM11
  have o12 := push_old hM11 o4
  have ne13 := ne_new o4
  have o14 : M10[M2.length]? = some (.live ⟨.box, 53, 3, [[.int .i64 0, .nils, .nils]]⟩) := push_new hM11
  refine Ev.rend ?_
  intro e15 he16
  have h17 : eget e15 1 = .pt none [.int .i64 a1.Day, .sl none (a1.Cash.map (cI .i64)), .sl none (a1.Tallies.map Tally.c)] := envp he16 rfl h7
  have h18 : eget e15 2 = .loc ([] : Mem).length 1 0 0 := envp he16 rfl h8
  have h19 : eget e15 3 = .loc M2.length 1 0 0 := envp he16 rfl rfl
  clear h7 h8
  refine Ev.kseqN ?_
  refine Ev.seq ?_
  refine Ev.reg (fun _ => rfl) ?_
  refine Ev.nxk (faP h17 ⟨ble rfl, blt rfl⟩ rfl) ?_
  refine Ev.nxk (ldP rfl rfl) ?_
  refine Ev.nxk (faO h19 o14 rfl) ?_
  refine Ev.nxput (stO rfl rfl o14 rfl rfl ⟨rfl, ble rfl⟩ rfl rfl) ?_
  intro M20 hM21
  have o22 := set_ne hM21 ne13 o12
  have o23 : M20[M2.length]? = some (.live ⟨.box, 53, 3, [[.int .i64 a1.Day, .nils, .nils]]⟩) := set_same hM21 o14
  refine Ev.rend ?_
  intro e24 he25
  have h26 : eget e24 1 = .pt none [.int .i64 a1.Day, .sl none (a1.Cash.map (cI .i64)), .sl none (a1.Tallies.map Tally.c)] := envp he25 rfl h17
  have h27 : eget e24 2 = .loc ([] : Mem).length 1 0 0 := envp he25 rfl h18
  have h28 : eget e24 3 = .loc M2.length 1 0 0 := envp he25 rfl h19
  clear h17 h18 h19
  refine Ev.kseqN ?_
  refine Ev.seq ?_
  refine Ev.reg (fun _ => rfl) ?_
  refine Ev.nxk (faP h26 ⟨ble rfl, blt rfl⟩ rfl) ?_
  refine Ev.nxk (ldP rfl rfl) ?_
  obtain ⟨r30, hx29, h⟩ := bind_some h
  refine Ev.nxcp (Ev.callT (v := .sl (some 2) (r30.map (cI .i64))) rfl (cns rfl rfl) rfl (laws_toInt64S_ok a1.Cash _ hx29) (th_gen (v' := .lsl M20.length r30.length 0 r30.length) (l := [⟨.grow, 2, 1, r30.map (cI .i64)⟩]) (ownA_row (c := (cI .i64)) (fun _ => rfl)) (by simp [thaw, thaw2, thaw1, thawL, co2]) rfl rfl)) ?_
  intro M32 hM33
  have o34 := push_old hM33 o22
  have o35 := push_old hM33 o23
  have ne36 : ([] : Mem).length ≠ M20.length := by have := lt_of_get o22; omega
  have ne37 : M2.length ≠ M20.length := by have := lt_of_get o23; omega
  have o38 : M32[M20.length]? = some (.live ⟨.grow, 2, 1, r30.map (cI .i64)⟩) := push_at hM33 0 rfl
  refine Ev.nxk (faO h28 o35 rfl) ?_
  refine Ev.nxput (stO rfl rfl o35 rfl rfl ⟨rfl, ble rfl⟩ (all1 (okL o38 (by simp)) all0) rfl) ?_
  intro M39 hM40
  have o41 := set_ne hM40 ne13 o34
  have o42 : M39[M2.length]? = some (.live ⟨.box, 53, 3, [[.int .i64 a1.Day, .lsl M20.length r30.length 0 r30.length, .nils]]⟩) := set_same hM40 o35
  have o43 := set_ne hM40 (Ne.symm ne37) o38
  refine Ev.rend ?_
  intro e44 he45
  have h46 : eget e44 1 = .pt none [.int .i64 a1.Day, .sl none (a1.Cash.map (cI .i64)), .sl none (a1.Tallies.map Tally.c)] := envp he45 rfl h26
  have h47 : eget e44 2 = .loc ([] : Mem).length 1 0 0 := envp he45 rfl h27
  have h48 : eget e44 3 = .loc M2.length 1 0 0 := envp he45 rfl h28
  clear h26 h27 h28
  refine Ev.kseqN ?_
  refine Ev.seq ?_
  refine Ev.reg (fun _ => rfl) ?_
  refine Ev.nxk (faP h46 ⟨ble rfl, blt rfl⟩ rfl) ?_
  refine Ev.nxk (ldP rfl rfl) ?_
  obtain ⟨r50, hx49, h⟩ := bind_some h
  refine Ev.nxcp (Ev.callT (v := .sl (some 81) (r50.map Tally.c)) rfl (cns rfl rfl) rfl (laws_toTallyS_ok a1.Tallies _ hx49) (th_gen (v' := .lsl M39.length r50.length 0 r50.length) (l := [⟨.grow, 81, 5, r50.map Tally.c⟩]) (ownA_row (c := Tally.c) Tally.flF) (by simp [thaw, thaw2, thaw1, thawL, co81]) rfl rfl)) ?_
  intro M52 hM53
  have o54 := push_old hM53 o41
  have o55 := push_old hM53 o42
  have o56 := push_old hM53 o43
  have ne57 : ([] : Mem).length ≠ M39.length := by have := lt_of_get o41; omega
  have ne58 : M2.length ≠ M39.length := by have := lt_of_get o42; omega
  have ne59 : M20.length ≠ M39.length := by have := lt_of_get o43; omega
  have o60 : M52[M39.length]? = some (.live ⟨.grow, 81, 5, r50.map Tally.c⟩) := push_at hM53 0 rfl
  refine Ev.nxk (faO h48 o55 rfl) ?_
  refine Ev.nxput (stO rfl rfl o55 rfl rfl ⟨rfl, ble rfl⟩ (all1 (okL o60 (by simp)) all0) rfl) ?_
  intro M61 hM62
  have o63 := set_ne hM62 ne13 o54
  have o64 : M61[M2.length]? = some (.live ⟨.box, 53, 3, [[.int .i64 a1.Day, .lsl M20.length r30.length 0 r30.length, .lsl M39.length r50.length 0 r50.length]]⟩) := set_same hM62 o55
  have o65 := set_ne hM62 (Ne.symm ne37) o56
  have o66 := set_ne hM62 (Ne.symm ne58) o60
  refine Ev.rend ?_
  intro e67 he68
  have h69 : eget e67 2 = .loc ([] : Mem).length 1 0 0 := envp he68 rfl h47
  have h70 : eget e67 3 = .loc M2.length 1 0 0 := envp he68 rfl h48
  clear h46 h47 h48
  refine Ev.kseqN ?_
  refine Ev.seq ?_
  refine Ev.reg (fun _ => rfl) ?_
  refine Ev.nxk (ldOA h70 o64 rfl rfl (ble rfl) rfl) ?_
  refine Ev.nxput (stO h69 rfl o63 rfl rfl ⟨rfl, ble rfl⟩ (all1 rfl (all1 (okL o65 (by simp)) (all1 (okL o66 (by simp)) all0))) rfl) ?_
  intro M71 hM72
  have o73 : M71[([] : Mem).length]? = some (.live ⟨.box, 53, 3, [[.int .i64 a1.Day, .lsl M20.length r30.length 0 r30.length, .lsl M39.length r50.length 0 r50.length]]⟩) := set_same hM72 o63
  have o74 := set_ne hM72 (Ne.symm ne13) o64
  have o75 := set_ne hM72 (Ne.symm ne36) o65
  have o76 := set_ne hM72 (Ne.symm ne57) o66
  refine Ev.rend ?_
  intro e77 he78
  have h79 : eget e77 2 = .loc ([] : Mem).length 1 0 0 := envp he78 rfl h69
  clear h69 h70
  refine Ev.kseqN ?_
  refine Ev.ex ?_
  cases h
  exact Ev.kendR (resC (ag := true) (sz := 3) ⟨by kernel_rfl, by kernel_rfl, by kernel_rfl⟩ (ldOA h79 o73 rfl rfl (ble rfl) rfl) res0) (rr_agg (mp1 rfl (mp1 (rr_row o75 (cI_fl _)) (mp1 (rr_row o76 Tally.fl) mp0))))
/-! ### loop.example/g01263/spec.SameBook (f26) -/
noncomputable def spec_SameBook (a1 : Book) (a2 : Book) : Option Bool :=
  (spec_l07Same a1 a2).bind fun r6 =>
  some r6
def spec_SameBook_enc (r : Bool) : AV := .bool r
theorem spec_SameBook_ok (a1 : Book) (a2 : Book) (r : Bool) (h : spec_SameBook a1 a2 = some r) : Ev (fun k => CN k 26 [.agg [.int .i64 a1.Day, .sl none (a1.Cash.map (cI .i64)), .sl none (a1.Tallies.map Tally.c)], .agg [.int .i64 a2.Day, .sl none (a2.Cash.map (cI .i64)), .sl none (a2.Tallies.map Tally.c)]] []) (fun p => rRes p.2 p.1 = spec_SameBook_enc r) := by
  unfold spec_SameBook at h
  refine Ev.enter (F := fun k => f26 (CN k) k) (fun k => callN_eq rfl Try.func26 rfl rfl rfl (by decide +kernel) (f26_eq _ _)) ?_
  refine Ev.seq ?_
  refine Ev.reg (fun _ => rfl) ?_
  refine Ev.nxk (bxI rfl rfl ⟨rfl, rfl, by decide⟩) ?_
  refine Ev.nxk (bxI rfl rfl ⟨rfl, rfl, by decide⟩) ?_
  refine Ev.nxk (mvO rfl) ?_
  refine Ev.rend ?_
  intro e1 he2
  have h3 : eget e1 2 = .pt none [.int .i64 a1.Day, .sl none (a1.Cash.map (cI .i64)), .sl none (a1.Tallies.map Tally.c)] := envp he2 rfl rfl
  have h4 : eget e1 3 = .pt none [.int .i64 a2.Day, .sl none (a2.Cash.map (cI .i64)), .sl none (a2.Tallies.map Tally.c)] := envp he2 rfl rfl
  refine Ev.kseqN ?_
  refine Ev.seq ?_
  refine Ev.reg (fun _ => rfl) ?_
  obtain ⟨r6, hx5, h⟩ := bind_some h
  refine Ev.nxck (Ev.call (v := .bool r6) rfl (cns h3 (cns h4 rfl)) rfl (spec_l07Same_ok a1 a2 _ hx5) (fun h => nomatch (show false = true from h))) ?_
  refine Ev.nxk (mvO rfl) ?_
  refine Ev.rend ?_
  intro e7 he8
  have h9 : eget e7 4 = .bool r6 := envp he8 rfl rfl
  clear h3 h4
  refine Ev.kseqN ?_
  refine Ev.ex ?_
  cases h
  exact Ev.kendR (resT h9 res0) rfl
/-! ### loop.example/g01263/laws.szBook (f25) -/
noncomputable def laws_szBook (a1 : Book) (a2 : Int) : Option Int :=
  (laws_szInt64S a1.Cash a2).bind fun r6 =>
  if (decide (r6 < 0)) = true then
    some (-1)
  else
    (laws_szTallyS a1.Tallies r6).bind fun r21 =>
    if (decide (r21 < 0)) = true then
      some (-1)
    else
      some r21
def laws_szBook_enc (r : Int) : AV := .int .i64 r
theorem laws_szBook_ok (a1 : Book) (a2 : Int) (r : Int) (h : laws_szBook a1 a2 = some r) : Ev (fun k => CN k 25 [.agg [.int .i64 a1.Day, .sl none (a1.Cash.map (cI .i64)), .sl none (a1.Tallies.map Tally.c)], .int .i64 a2] []) (fun p => rRes p.2 p.1 = laws_szBook_enc r) := by
  unfold laws_szBook at h
  refine Ev.enter (F := fun k => f25 (CN k) k) (fun k => callN_eq rfl Try.func25 rfl rfl rfl (by decide +kernel) (f25_eq _ _)) ?_
  refine Ev.seq ?_
  refine Ev.reg (fun _ => rfl) ?_
  refine Ev.nxk (bxI rfl rfl ⟨rfl, rfl, by decide⟩) ?_
  refine Ev.nxk (mvO rfl) ?_
  refine Ev.rend ?_
  intro e1 he2
  have h3 : eget e1 1 = .int .i64 a2 := envp he2 rfl rfl
  have h4 : eget e1 2 = .pt none [.int .i64 a1.Day, .sl none (a1.Cash.map (cI .i64)), .sl none (a1.Tallies.map Tally.c)] := envp he2 rfl rfl
  refine Ev.kseqN ?_
  refine Ev.seq ?_
  refine Ev.reg (fun _ => rfl) ?_
  refine Ev.nxk (faP h4 ⟨ble rfl, blt rfl⟩ rfl) ?_
  refine Ev.nxk (ldP rfl rfl) ?_
  refine Ev.nxk (mvO h3) ?_
  obtain ⟨r6, hx5, h⟩ := bind_some h
  refine Ev.nxck (Ev.call (v := .int .i64 r6) rfl (cns rfl (cns rfl rfl)) rfl (laws_szInt64S_ok a1.Cash a2 _ hx5) (fun h => nomatch (show false = true from h))) ?_
  refine Ev.nxk (mvO rfl) ?_
  refine Ev.rend ?_
  intro e7 he8
  have h9 : eget e7 1 = .int .i64 r6 := envp he8 rfl rfl
  have h10 : eget e7 2 = .pt none [.int .i64 a1.Day, .sl none (a1.Cash.map (cI .i64)), .sl none (a1.Tallies.map Tally.c)] := envp he8 rfl h4
  clear h4
  refine Ev.kseqN ?_
  refine Ev.seq ?_
  refine Ev.seq ?_
  refine Ev.reg (fun _ => rfl) ?_
  refine Ev.nxk (mvO h9) ?_
  refine Ev.nxk (bLss rfl rfl) ?_
  refine Ev.rend ?_
  intro e11 he12
  have h13 : eget e11 1 = .int .i64 r6 := envp he12 rfl h9
  have h14 : eget e11 2 = .pt none [.int .i64 a1.Day, .sl none (a1.Cash.map (cI .i64)), .sl none (a1.Tallies.map Tally.c)] := envp he12 rfl h10
  have h15 : eget e11 10 = .bool (decide (r6 < 0)) := envp he12 rfl rfl
  clear h10 h9
  refine Ev.kseqN ?_
  rcases ite_some h with ⟨hb16, h⟩ | ⟨hb16, h⟩
  · refine Ev.condT h15 hb16 ?_
    refine Ev.seq ?_
    refine Ev.reg (fun _ => rfl) ?_
    refine Ev.nxk (mvO rfl) ?_
    refine Ev.rend ?_
    intro e17 he18
    have h19 : eget e17 4 = .int .i64 (-1) := envp he18 rfl rfl
    clear h13 h14 h15
    refine Ev.kseqN ?_
    refine Ev.ex ?_
    refine Ev.kseqR ?_
    cases h
    exact Ev.kendR (resT h19 res0) rfl
  · refine Ev.condF h15 hb16 ?_
    refine Ev.ex ?_
    refine Ev.kseqN ?_
    refine Ev.seq ?_
    refine Ev.reg (fun _ => rfl) ?_
    refine Ev.nxk (faP h14 ⟨ble rfl, blt rfl⟩ rfl) ?_
    refine Ev.nxk (ldP rfl rfl) ?_
    refine Ev.nxk (mvO h13) ?_
    obtain ⟨r21, hx20, h⟩ := bind_some h
    refine Ev.nxck (Ev.call (v := .int .i64 r21) rfl (cns rfl (cns rfl rfl)) rfl (laws_szTallyS_ok a1.Tallies r6 _ hx20) (fun h => nomatch (show false = true from h))) ?_
    refine Ev.nxk (mvO rfl) ?_
    refine Ev.rend ?_
    intro e22 he23
    have h24 : eget e22 1 = .int .i64 r21 := envp he23 rfl rfl
    clear h14 h15
    refine Ev.kseqN ?_
    refine Ev.seq ?_
    refine Ev.seq ?_
    refine Ev.reg (fun _ => rfl) ?_
    refine Ev.nxk (mvO h24) ?_
    refine Ev.nxk (bLss rfl rfl) ?_
    refine Ev.rend ?_
    intro e25 he26
    have h27 : eget e25 1 = .int .i64 r21 := envp he26 rfl h24
    have h28 : eget e25 16 = .bool (decide (r21 < 0)) := envp he26 rfl rfl
    clear h24
    refine Ev.kseqN ?_
    rcases ite_some h with ⟨hb29, h⟩ | ⟨hb29, h⟩
    · refine Ev.condT h28 hb29 ?_
      refine Ev.seq ?_
      refine Ev.reg (fun _ => rfl) ?_
      refine Ev.nxk (mvO rfl) ?_
      refine Ev.rend ?_
      intro e30 he31
      have h32 : eget e30 4 = .int .i64 (-1) := envp he31 rfl rfl
      clear h27 h28
      refine Ev.kseqN ?_
      refine Ev.ex ?_
      refine Ev.kseqR ?_
      cases h
      exact Ev.kendR (resT h32 res0) rfl
    · refine Ev.condF h28 hb29 ?_
      refine Ev.ex ?_
      refine Ev.kseqN ?_
      refine Ev.seq ?_
      refine Ev.reg (fun _ => rfl) ?_
      refine Ev.nxk (mvO h27) ?_
      refine Ev.nxk (mvO rfl) ?_
      refine Ev.rend ?_
      intro e33 he34
      have h35 : eget e33 4 = .int .i64 r21 := envp he34 rfl rfl
      clear h27 h28
      refine Ev.kseqN ?_
      refine Ev.ex ?_
      cases h
      exact Ev.kendR (resT h35 res0) rfl
/-! ### loop.example/g01263/laws.FnExactSameBook (f7) -/
noncomputable def laws_FnExactSameBook (a1 : Book) (a2 : Book) : Option Bool :=
  (laws_szBook a1 1048576).bind fun r11 =>
  if (decide (r11 < 0)) = true then
    some true
  else
    (laws_szBook a2 r11).bind fun r28 =>
    if (decide (r28 < 0)) = true then
      some true
    else
      (laws_toBook a1).bind fun (r44, r45, r46) =>
      (laws_toBook a2).bind fun (r48, r49, r50) =>
      (spec_SameBook (Book.mk r44 r45 r46) (Book.mk r48 r49 r50)).bind fun r52 =>
      (laws_toBook a1).bind fun (r59, r60, r61) =>
      (laws_toBook a2).bind fun (r89, r90, r91) =>
      (impl_SameBook (Book.mk r59 r60 r61) (Book.mk r89 r90 r91)).bind fun r138 =>
      if (r138 == r52) = true then
        (laws_toBook a1).bind fun (r156, r157, r158) =>
        (laws_eqBook (Book.mk r59 r60 r61) (Book.mk r156 r157 r158)).bind fun r160 =>
        if r160 = true then
          (laws_toBook a2).bind fun (r168, r169, r170) =>
          (laws_eqBook (Book.mk r89 r90 r91) (Book.mk r168 r169 r170)).bind fun r172 =>
          if r172 = true then
            some true
          else
            some false
        else
          some false
      else
        some false
def laws_FnExactSameBook_enc (r : Bool) : AV := .bool r
theorem laws_FnExactSameBook_ok (a1 : Book) (a2 : Book) (r : Bool) (h : laws_FnExactSameBook a1 a2 = some r) : Ev (fun k => CN k 7 [.agg [.int .i64 a1.Day, .sl none (a1.Cash.map (cI .i64)), .sl none (a1.Tallies.map Tally.c)], .agg [.int .i64 a2.Day, .sl none (a2.Cash.map (cI .i64)), .sl none (a2.Tallies.map Tally.c)]] []) (fun p => rRes p.2 p.1 = laws_FnExactSameBook_enc r) := by
  unfold laws_FnExactSameBook at h
  refine Ev.enter (F := fun k => f7 (CN k) k) (fun k => callN_eq rfl Try.func7 rfl rfl rfl (by decide +kernel) (f7_eq _ _)) ?_
  refine Ev.seq ?_
  refine Ev.reg (fun _ => rfl) ?_
  refine Ev.nxk (bxI rfl rfl ⟨rfl, rfl, by decide⟩) ?_
  refine Ev.nxk (bxI rfl rfl ⟨rfl, rfl, by decide⟩) ?_
  refine Ev.nxk (mvO rfl) ?_
  refine Ev.rend ?_
  intro e1 he2
  have h3 : eget e1 2 = .pt none [.int .i64 a1.Day, .sl none (a1.Cash.map (cI .i64)), .sl none (a1.Tallies.map Tally.c)] := envp he2 rfl rfl
  have h4 : eget e1 3 = .pt none [.int .i64 a2.Day, .sl none (a2.Cash.map (cI .i64)), .sl none (a2.Tallies.map Tally.c)] := envp he2 rfl rfl
  refine Ev.kseqN ?_
  refine Ev.seq ?_
  refine Ev.reg (fun _ => rfl) ?_
  refine Ev.nxk (mvO rfl) ?_
  refine Ev.rend ?_
  intro e5 he6
  have h7 : eget e5 2 = .pt none [.int .i64 a1.Day, .sl none (a1.Cash.map (cI .i64)), .sl none (a1.Tallies.map Tally.c)] := envp he6 rfl h3
  have h8 : eget e5 3 = .pt none [.int .i64 a2.Day, .sl none (a2.Cash.map (cI .i64)), .sl none (a2.Tallies.map Tally.c)] := envp he6 rfl h4
  have h9 : eget e5 5 = .int .i64 1048576 := envp he6 rfl rfl
  clear h3 h4
  refine Ev.kseqN ?_
  refine Ev.seq ?_
  refine Ev.reg (fun _ => rfl) ?_
  refine Ev.nxk (ldPA h7 rfl rfl) ?_
  refine Ev.nxk (mvO h9) ?_
  obtain ⟨r11, hx10, h⟩ := bind_some h
  refine Ev.nxck (Ev.call (v := .int .i64 r11) rfl (cns rfl (cns rfl rfl)) rfl (laws_szBook_ok a1 1048576 _ hx10) (fun h => nomatch (show false = true from h))) ?_
  refine Ev.nxk (mvO rfl) ?_
  refine Ev.rend ?_
  intro e12 he13
  have h14 : eget e12 2 = .pt none [.int .i64 a1.Day, .sl none (a1.Cash.map (cI .i64)), .sl none (a1.Tallies.map Tally.c)] := envp he13 rfl h7
  have h15 : eget e12 3 = .pt none [.int .i64 a2.Day, .sl none (a2.Cash.map (cI .i64)), .sl none (a2.Tallies.map Tally.c)] := envp he13 rfl h8
  have h16 : eget e12 5 = .int .i64 r11 := envp he13 rfl rfl
  clear h7 h8
  refine Ev.kseqN ?_
  refine Ev.seq ?_
  refine Ev.seq ?_
  refine Ev.reg (fun _ => rfl) ?_
  refine Ev.nxk (mvO h16) ?_
  refine Ev.nxk (bLss rfl rfl) ?_
  refine Ev.rend ?_
  intro e17 he18
  have h19 : eget e17 2 = .pt none [.int .i64 a1.Day, .sl none (a1.Cash.map (cI .i64)), .sl none (a1.Tallies.map Tally.c)] := envp he18 rfl h14
  have h20 : eget e17 3 = .pt none [.int .i64 a2.Day, .sl none (a2.Cash.map (cI .i64)), .sl none (a2.Tallies.map Tally.c)] := envp he18 rfl h15
  have h21 : eget e17 5 = .int .i64 r11 := envp he18 rfl h16
  have h22 : eget e17 14 = .bool (decide (r11 < 0)) := envp he18 rfl rfl
  clear h14 h15 h16
  refine Ev.kseqN ?_
  rcases ite_some h with ⟨hb23, h⟩ | ⟨hb23, h⟩
  · refine Ev.condT h22 hb23 ?_
    refine Ev.seq ?_
    refine Ev.reg (fun _ => rfl) ?_
    refine Ev.nxk (mvO rfl) ?_
    refine Ev.rend ?_
    intro e24 he25
    have h26 : eget e24 4 = .bool true := envp he25 rfl rfl
    clear h19 h20 h21 h22
    refine Ev.kseqN ?_
    refine Ev.ex ?_
    refine Ev.kseqR ?_
    cases h
    exact Ev.kendR (resT h26 res0) rfl
  · refine Ev.condF h22 hb23 ?_
    refine Ev.ex ?_
    refine Ev.kseqN ?_
    refine Ev.seq ?_
    refine Ev.reg (fun _ => rfl) ?_
    refine Ev.nxk (ldPA h20 rfl rfl) ?_
    refine Ev.nxk (mvO h21) ?_
    obtain ⟨r28, hx27, h⟩ := bind_some h
    refine Ev.nxck (Ev.call (v := .int .i64 r28) rfl (cns rfl (cns rfl rfl)) rfl (laws_szBook_ok a2 r11 _ hx27) (fun h => nomatch (show false = true from h))) ?_
    refine Ev.nxk (mvO rfl) ?_
    refine Ev.rend ?_
    intro e29 he30
    have h31 : eget e29 2 = .pt none [.int .i64 a1.Day, .sl none (a1.Cash.map (cI .i64)), .sl none (a1.Tallies.map Tally.c)] := envp he30 rfl h19
    have h32 : eget e29 3 = .pt none [.int .i64 a2.Day, .sl none (a2.Cash.map (cI .i64)), .sl none (a2.Tallies.map Tally.c)] := envp he30 rfl h20
    have h33 : eget e29 5 = .int .i64 r28 := envp he30 rfl rfl
    clear h19 h20 h22
    refine Ev.kseqN ?_
    refine Ev.seq ?_
    refine Ev.seq ?_
    refine Ev.reg (fun _ => rfl) ?_
    refine Ev.nxk (mvO h33) ?_
    refine Ev.nxk (bLss rfl rfl) ?_
    refine Ev.rend ?_
    intro e34 he35
    have h36 : eget e34 2 = .pt none [.int .i64 a1.Day, .sl none (a1.Cash.map (cI .i64)), .sl none (a1.Tallies.map Tally.c)] := envp he35 rfl h31
    have h37 : eget e34 3 = .pt none [.int .i64 a2.Day, .sl none (a2.Cash.map (cI .i64)), .sl none (a2.Tallies.map Tally.c)] := envp he35 rfl h32
    have h38 : eget e34 19 = .bool (decide (r28 < 0)) := envp he35 rfl rfl
    clear h31 h32 h33
    refine Ev.kseqN ?_
    rcases ite_some h with ⟨hb39, h⟩ | ⟨hb39, h⟩
    · refine Ev.condT h38 hb39 ?_
      refine Ev.seq ?_
      refine Ev.reg (fun _ => rfl) ?_
      refine Ev.nxk (mvO rfl) ?_
      refine Ev.rend ?_
      intro e40 he41
      have h42 : eget e40 4 = .bool true := envp he41 rfl rfl
      clear h36 h37 h38
      refine Ev.kseqN ?_
      refine Ev.ex ?_
      refine Ev.kseqR ?_
      cases h
      exact Ev.kendR (resT h42 res0) rfl
    · refine Ev.condF h38 hb39 ?_
      refine Ev.ex ?_
      refine Ev.kseqN ?_
      refine Ev.seq ?_
      refine Ev.regD (fun _ => rfl) ?_
      refine Ev.nfk (ldPA h36 rfl rfl) ?_
      obtain ⟨⟨r44, r45, r46⟩, hx43, h⟩ := bind_some h
      refine Ev.nfc (Ev.call (v := .agg [.int .i64 r44, .sl (some 2) (r45.map (cI .i64)), .sl (some 81) (r46.map Tally.c)]) rfl (cns rfl rfl) rfl (laws_toBook_ok a1 _ hx43) (fun h => nomatch (show false = true from h))) ?_
      refine Ev.nfk (ldPA h37 rfl rfl) ?_
      obtain ⟨⟨r48, r49, r50⟩, hx47, h⟩ := bind_some h
      refine Ev.nfc (Ev.call (v := .agg [.int .i64 r48, .sl (some 2) (r49.map (cI .i64)), .sl (some 81) (r50.map Tally.c)]) rfl (cns rfl rfl) rfl (laws_toBook_ok a2 _ hx47) (fun h => nomatch (show false = true from h))) ?_
      obtain ⟨r52, hx51, h⟩ := bind_some h
      refine Ev.nfc (Ev.call (v := .bool r52) rfl (cns rfl (cns rfl rfl)) rfl (spec_SameBook_ok (Book.mk r44 r45 r46) (Book.mk r48 r49 r50) _ hx51) (fun h => nomatch (show false = true from h))) ?_
      refine Ev.nfk (mvO rfl) ?_
      refine Ev.fend0 ?_
      refine Ev.rend ?_
      intro e53 he54
      have h55 : eget e53 2 = .pt none [.int .i64 a1.Day, .sl none (a1.Cash.map (cI .i64)), .sl none (a1.Tallies.map Tally.c)] := envp he54 rfl h36
      have h56 : eget e53 3 = .pt none [.int .i64 a2.Day, .sl none (a2.Cash.map (cI .i64)), .sl none (a2.Tallies.map Tally.c)] := envp he54 rfl h37
      have h57 : eget e53 6 = .bool r52 := envp he54 rfl rfl
      clear h36 h37 h38
      refine Ev.kseqN ?_
      refine Ev.seq ?_
      refine Ev.reg (fun _ => rfl) ?_
      refine Ev.nxk (ldPA h55 rfl rfl) ?_
      obtain ⟨⟨r59, r60, r61⟩, hx58, h⟩ := bind_some h
      refine Ev.nxcp (Ev.callT (v := .agg [.int .i64 r59, .sl (some 2) (r60.map (cI .i64)), .sl (some 81) (r61.map Tally.c)]) rfl (cns rfl rfl) rfl (laws_toBook_ok a1 _ hx58) (th_gen (v' := .agg [.int .i64 r59, .lsl ([] : Mem).length r60.length 0 r60.length, .lsl (([] : Mem).length + 1) r61.length 0 r61.length]) (l := [⟨.grow, 2, 1, r60.map (cI .i64)⟩, ⟨.grow, 81, 5, r61.map Tally.c⟩]) (own_agg (oa1 rfl (oa1 (own1_row' (c := (cI .i64)) (fun _ => rfl)) (oa1 (own1_row' (c := Tally.c) Tally.flF) oa0)))) (by simp [thaw, thaw2, thaw1, thawL, co2, co81]) rfl rfl)) ?_
      intro M64 hM65
      have o66 : M64[([] : Mem).length]? = some (.live ⟨.grow, 2, 1, r60.map (cI .i64)⟩) := push_at hM65 0 rfl
      have ne67 : ([] : Mem).length ≠ (([] : Mem).length + 1) := by omega
      have o68 : M64[(([] : Mem).length + 1)]? = some (.live ⟨.grow, 81, 5, r61.map Tally.c⟩) := push_at hM65 1 rfl
      refine Ev.nxpush (alO zero53) ?_
      intro M70 hM71
      have o72 := push_old hM71 o66
      have ne73 := ne_new o66
      have o74 := push_old hM71 o68
      have ne75 := ne_new o68
      have o76 : M70[M64.length]? = some (.live ⟨.box, 53, 3, [[.int .i64 0, .nils, .nils]]⟩) := push_new hM71
      refine Ev.nxput (stO rfl rfl o76 rfl rfl ⟨rfl, ble rfl⟩ (all1 rfl (all1 (okL o72 (by simp)) (all1 (okL o74 (by simp)) all0))) rfl) ?_
      intro M77 hM78
      have o79 := set_ne hM78 ne73 o72
      have o80 := set_ne hM78 ne75 o74
      have o81 : M77[M64.length]? = some (.live ⟨.box, 53, 3, [[.int .i64 r59, .lsl ([] : Mem).length r60.length 0 r60.length, .lsl (([] : Mem).length + 1) r61.length 0 r61.length]]⟩) := set_same hM78 o76
      refine Ev.rend ?_
      intro e82 he83
      have h84 : eget e82 2 = .pt none [.int .i64 a1.Day, .sl none (a1.Cash.map (cI .i64)), .sl none (a1.Tallies.map Tally.c)] := envp he83 rfl h55
      have h85 : eget e82 3 = .pt none [.int .i64 a2.Day, .sl none (a2.Cash.map (cI .i64)), .sl none (a2.Tallies.map Tally.c)] := envp he83 rfl h56
      have h86 : eget e82 6 = .bool r52 := envp he83 rfl h57
      have h87 : eget e82 7 = .loc M64.length 1 0 0 := envp he83 rfl rfl
      clear h55 h56 h57
      refine Ev.kseqN ?_
      refine Ev.seq ?_
      refine Ev.reg (fun _ => rfl) ?_
      refine Ev.nxk (ldPA h85 rfl rfl) ?_
      obtain ⟨⟨r89, r90, r91⟩, hx88, h⟩ := bind_some h
      refine Ev.nxcp (Ev.callT (v := .agg [.int .i64 r89, .sl (some 2) (r90.map (cI .i64)), .sl (some 81) (r91.map Tally.c)]) rfl (cns rfl rfl) rfl (laws_toBook_ok a2 _ hx88) (th_gen (v' := .agg [.int .i64 r89, .lsl M77.length r90.length 0 r90.length, .lsl (M77.length + 1) r91.length 0 r91.length]) (l := [⟨.grow, 2, 1, r90.map (cI .i64)⟩, ⟨.grow, 81, 5, r91.map Tally.c⟩]) (own_agg (oa1 rfl (oa1 (own1_row' (c := (cI .i64)) (fun _ => rfl)) (oa1 (own1_row' (c := Tally.c) Tally.flF) oa0)))) (by simp [thaw, thaw2, thaw1, thawL, co2, co81]) rfl rfl)) ?_
      intro M94 hM95
      have o96 := push_old hM95 o79
      have o97 := push_old hM95 o80
      have o98 := push_old hM95 o81
      have ne99 : ([] : Mem).length ≠ M77.length := by have := lt_of_get o79; omega
      have ne100 : (([] : Mem).length + 1) ≠ M77.length := by have := lt_of_get o80; omega
      have ne101 : M64.length ≠ M77.length := by have := lt_of_get o81; omega
      have o102 : M94[M77.length]? = some (.live ⟨.grow, 2, 1, r90.map (cI .i64)⟩) := push_at hM95 0 rfl
      have ne103 : ([] : Mem).length ≠ (M77.length + 1) := by have := lt_of_get o79; omega
      have ne104 : (([] : Mem).length + 1) ≠ (M77.length + 1) := by have := lt_of_get o80; omega
      have ne105 : M64.length ≠ (M77.length + 1) := by have := lt_of_get o81; omega
      have ne106 : M77.length ≠ (M77.length + 1) := by omega
      have o107 : M94[(M77.length + 1)]? = some (.live ⟨.grow, 81, 5, r91.map Tally.c⟩) := push_at hM95 1 rfl
      refine Ev.nxpush (alO zero53) ?_
      intro M109 hM110
      have o111 := push_old hM110 o96
      have ne112 := ne_new o96
      have o113 := push_old hM110 o97
      have ne114 := ne_new o97
      have o115 := push_old hM110 o98
      have ne116 := ne_new o98
      have o117 := push_old hM110 o102
      have ne118 := ne_new o102
      have o119 := push_old hM110 o107
      have ne120 := ne_new o107
      have o121 : M109[M94.length]? = some (.live ⟨.box, 53, 3, [[.int .i64 0, .nils, .nils]]⟩) := push_new hM110
      refine Ev.nxput (stO rfl rfl o121 rfl rfl ⟨rfl, ble rfl⟩ (all1 rfl (all1 (okL o117 (by simp)) (all1 (okL o119 (by simp)) all0))) rfl) ?_
      intro M122 hM123
      have o124 := set_ne hM123 ne112 o111
      have o125 := set_ne hM123 ne114 o113
      have o126 := set_ne hM123 ne116 o115
      have o127 := set_ne hM123 ne118 o117
      have o128 := set_ne hM123 ne120 o119
      have o129 : M122[M94.length]? = some (.live ⟨.box, 53, 3, [[.int .i64 r89, .lsl M77.length r90.length 0 r90.length, .lsl (M77.length + 1) r91.length 0 r91.length]]⟩) := set_same hM123 o121
      refine Ev.rend ?_
      intro e130 he131
      have h132 : eget e130 2 = .pt none [.int .i64 a1.Day, .sl none (a1.Cash.map (cI .i64)), .sl none (a1.Tallies.map Tally.c)] := envp he131 rfl h84
      have h133 : eget e130 3 = .pt none [.int .i64 a2.Day, .sl none (a2.Cash.map (cI .i64)), .sl none (a2.Tallies.map Tally.c)] := envp he131 rfl h85
      have h134 : eget e130 6 = .bool r52 := envp he131 rfl h86
      have h135 : eget e130 7 = .loc M64.length 1 0 0 := envp he131 rfl h87
      have h136 : eget e130 8 = .loc M94.length 1 0 0 := envp he131 rfl rfl
      clear h84 h85 h86 h87
      refine Ev.kseqN ?_
      refine Ev.seq ?_
      refine Ev.reg (fun _ => rfl) ?_
      refine Ev.nxk (ldOA h135 o126 rfl rfl (ble rfl) rfl) ?_
      refine Ev.nxk (ldOA h136 o129 rfl rfl (ble rfl) rfl) ?_
      obtain ⟨r138, hx137, h⟩ := bind_some h
      refine Ev.nxck (Ev.call (v := .bool r138) rfl (cns rfl (cns rfl rfl)) (ra1 (ra_agg (mp1 rfl (mp1 (ra1_row o124 (cI_fl _)) (mp1 (ra1_row o125 Tally.fl) mp0)))) (ra1 (ra_agg (mp1 rfl (mp1 (ra1_row o127 (cI_fl _)) (mp1 (ra1_row o128 Tally.fl) mp0)))) ra0)) (impl_SameBook_ok (Book.mk r59 r60 r61) (Book.mk r89 r90 r91) _ hx137) (fun _ => rfl)) ?_
      refine Ev.nxk (mvO rfl) ?_
      refine Ev.rend ?_
      intro e139 he140
      have h141 : eget e139 2 = .pt none [.int .i64 a1.Day, .sl none (a1.Cash.map (cI .i64)), .sl none (a1.Tallies.map Tally.c)] := envp he140 rfl h132
      have h142 : eget e139 3 = .pt none [.int .i64 a2.Day, .sl none (a2.Cash.map (cI .i64)), .sl none (a2.Tallies.map Tally.c)] := envp he140 rfl h133
      have h143 : eget e139 6 = .bool r52 := envp he140 rfl h134
      have h144 : eget e139 7 = .loc M64.length 1 0 0 := envp he140 rfl h135
      have h145 : eget e139 8 = .loc M94.length 1 0 0 := envp he140 rfl h136
      have h146 : eget e139 9 = .bool r138 := envp he140 rfl rfl
      clear h132 h133 h134 h135 h136
      refine Ev.kseqN ?_
      refine Ev.seq ?_
      refine Ev.seq ?_
      refine Ev.reg (fun _ => rfl) ?_
      refine Ev.nxk (mvO h146) ?_
      refine Ev.nxk (mvO h143) ?_
      refine Ev.nxk (oNeq (by kernel_rfl) rfl rfl) ?_
      refine Ev.rend ?_
      intro e147 he148
      have h149 : eget e147 2 = .pt none [.int .i64 a1.Day, .sl none (a1.Cash.map (cI .i64)), .sl none (a1.Tallies.map Tally.c)] := envp he148 rfl h141
      have h150 : eget e147 3 = .pt none [.int .i64 a2.Day, .sl none (a2.Cash.map (cI .i64)), .sl none (a2.Tallies.map Tally.c)] := envp he148 rfl h142
      have h151 : eget e147 7 = .loc M64.length 1 0 0 := envp he148 rfl h144
      have h152 : eget e147 8 = .loc M94.length 1 0 0 := envp he148 rfl h145
      have h153 : eget e147 34 = .bool (!(r138 == r52)) := envp he148 rfl rfl
      clear h141 h142 h143 h144 h145 h146
      refine Ev.kseqN ?_
      rcases ite_some h with ⟨hb154, h⟩ | ⟨hb154, h⟩
      · refine Ev.condF h153 (congrArg Bool.not hb154) ?_
        refine Ev.ex ?_
        refine Ev.kseqN ?_
        refine Ev.seq ?_
        refine Ev.seq ?_
        refine Ev.regD (fun _ => rfl) ?_
        refine Ev.nfk (ldOA h151 o126 rfl rfl (ble rfl) rfl) ?_
        refine Ev.nfk (ldPA h149 rfl rfl) ?_
        obtain ⟨⟨r156, r157, r158⟩, hx155, h⟩ := bind_some h
        refine Ev.nfc (Ev.call (v := .agg [.int .i64 r156, .sl (some 2) (r157.map (cI .i64)), .sl (some 81) (r158.map Tally.c)]) rfl (cns rfl rfl) rfl (laws_toBook_ok a1 _ hx155) (fun h => nomatch (show false = true from h))) ?_
        obtain ⟨r160, hx159, h⟩ := bind_some h
        refine Ev.nfc (Ev.call (v := .bool r160) rfl (cns rfl (cns rfl rfl)) (ra1 (ra_agg (mp1 rfl (mp1 (ra1_row o124 (cI_fl _)) (mp1 (ra1_row o125 Tally.fl) mp0)))) (ra1 rfl ra0)) (laws_eqBook_ok (Book.mk r59 r60 r61) (Book.mk r156 r157 r158) _ hx159) (fun _ => rfl)) ?_
        refine Ev.nfk (uNot rfl) ?_
        refine Ev.fend0 ?_
        refine Ev.rend ?_
        intro e161 he162
        have h163 : eget e161 3 = .pt none [.int .i64 a2.Day, .sl none (a2.Cash.map (cI .i64)), .sl none (a2.Tallies.map Tally.c)] := envp he162 rfl h150
        have h164 : eget e161 8 = .loc M94.length 1 0 0 := envp he162 rfl h152
        have h165 : eget e161 39 = .bool (!r160) := envp he162 rfl rfl
        clear h149 h150 h151 h152 h153
        refine Ev.kseqN ?_
        rcases ite_some h with ⟨hb166, h⟩ | ⟨hb166, h⟩
        · refine Ev.condF h165 (congrArg Bool.not hb166) ?_
          refine Ev.ex ?_
          refine Ev.kseqN ?_
          refine Ev.seq ?_
          refine Ev.seq ?_
          refine Ev.regD (fun _ => rfl) ?_
          refine Ev.nfk (ldOA h164 o129 rfl rfl (ble rfl) rfl) ?_
          refine Ev.nfk (ldPA h163 rfl rfl) ?_
          obtain ⟨⟨r168, r169, r170⟩, hx167, h⟩ := bind_some h
          refine Ev.nfc (Ev.call (v := .agg [.int .i64 r168, .sl (some 2) (r169.map (cI .i64)), .sl (some 81) (r170.map Tally.c)]) rfl (cns rfl rfl) rfl (laws_toBook_ok a2 _ hx167) (fun h => nomatch (show false = true from h))) ?_
          obtain ⟨r172, hx171, h⟩ := bind_some h
          refine Ev.nfc (Ev.call (v := .bool r172) rfl (cns rfl (cns rfl rfl)) (ra1 (ra_agg (mp1 rfl (mp1 (ra1_row o127 (cI_fl _)) (mp1 (ra1_row o128 Tally.fl) mp0)))) (ra1 rfl ra0)) (laws_eqBook_ok (Book.mk r89 r90 r91) (Book.mk r168 r169 r170) _ hx171) (fun _ => rfl)) ?_
          refine Ev.nfk (uNot rfl) ?_
          refine Ev.fend0 ?_
          refine Ev.rend ?_
          intro e173 he174
          have h175 : eget e173 44 = .bool (!r172) := envp he174 rfl rfl
          clear h163 h164 h165
          refine Ev.kseqN ?_
          rcases ite_some h with ⟨hb176, h⟩ | ⟨hb176, h⟩
          · refine Ev.condF h175 (congrArg Bool.not hb176) ?_
            refine Ev.ex ?_
            refine Ev.kseqN ?_
            refine Ev.seq ?_
            refine Ev.reg (fun _ => rfl) ?_
            refine Ev.nxk (mvO rfl) ?_
            refine Ev.rend ?_
            intro e177 he178
            have h179 : eget e177 4 = .bool true := envp he178 rfl rfl
            clear h175
            refine Ev.kseqN ?_
            refine Ev.ex ?_
            cases h
            exact Ev.kendR (resT h179 res0) rfl
          · refine Ev.condT h175 (congrArg Bool.not hb176) ?_
            refine Ev.seq ?_
            refine Ev.reg (fun _ => rfl) ?_
            refine Ev.nxk (mvO rfl) ?_
            refine Ev.rend ?_
            intro e180 he181
            have h182 : eget e180 4 = .bool false := envp he181 rfl rfl
            clear h175
            refine Ev.kseqN ?_
            refine Ev.ex ?_
            refine Ev.kseqR ?_
            cases h
            exact Ev.kendR (resT h182 res0) rfl
        · refine Ev.condT h165 (congrArg Bool.not hb166) ?_
          refine Ev.seq ?_
          refine Ev.reg (fun _ => rfl) ?_
          refine Ev.nxk (mvO rfl) ?_
          refine Ev.rend ?_
          intro e183 he184
          have h185 : eget e183 4 = .bool false := envp he184 rfl rfl
          clear h163 h164 h165
          refine Ev.kseqN ?_
          refine Ev.ex ?_
          refine Ev.kseqR ?_
          cases h
          exact Ev.kendR (resT h185 res0) rfl
      · refine Ev.condT h153 (congrArg Bool.not hb154) ?_
        refine Ev.seq ?_
        refine Ev.reg (fun _ => rfl) ?_
        refine Ev.nxk (mvO rfl) ?_
        refine Ev.rend ?_
        intro e186 he187
        have h188 : eget e186 4 = .bool false := envp he187 rfl rfl
        clear h149 h150 h151 h152 h153
        refine Ev.kseqN ?_
        refine Ev.ex ?_
        refine Ev.kseqR ?_
        cases h
        exact Ev.kendR (resT h188 res0) rfl
end Go.Proofs.Ytaocojognonkcaa

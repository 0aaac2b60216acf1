/- Printed by a program of ours (ext.py). -/
import Derived.Test.YtaocojognonkcabFnsNewBook
set_option linter.unusedVariables false
set_option maxRecDepth 100000
set_option maxHeartbeats 2000000
namespace Go.Proofs.Ytaocojognonkcab
open Go Go.Ab
structure Tally where
  Debtor : Int
  Holder : Int
  Cut : Int
  Amount : Int
  Left : Int
  deriving DecidableEq
def Tally.c (x : Tally) : List AV := [.int .i64 x.Debtor, .int .i64 x.Holder, .int .i64 x.Cut, .int .i64 x.Amount, .int .i64 x.Left]
theorem Tally.fl : Fl Tally.c 5 := fun _ => ⟨rfl, rfl⟩
theorem Tally.flF : FlF Tally.c := fun _ => rfl
structure Book where
  Day : Int
  Cash : List Int
  Tallies : List Tally
  deriving DecidableEq
def Book.c (x : Book) : List AV := [.int .i64 x.Day, .sl none (x.Cash.map (cI .i64)), .sl none (x.Tallies.map Tally.c)]
theorem Book.fl : Fl Book.c 3 := fun _ => ⟨rfl, rfl⟩
theorem co2 : cx.P.cellsOf 2 = 1 := by kernel_rfl
theorem zero2 : zeroOf cx.P 2 = [.int .i64 0] := by kernel_rfl
theorem zero25 : zeroOf cx.P 25 = [.int .i64 0, .nils, .nils] := by kernel_rfl
theorem zero40 : zeroOf cx.P 40 = [.int .i64 0, .int .i64 0, .int .i64 0, .int .i64 0, .int .i64 0] := by kernel_rfl
/-! ### loop.example/g01263/laws.eqTally (f24) -/
noncomputable def laws_eqTally (a1 : Tally) (a2 : Tally) : Option Bool :=
  if (a1.Debtor != a2.Debtor) = true then
    some false
  else
    if (a1.Holder != a2.Holder) = true then
      some false
    else
      if (a1.Cut != a2.Cut) = true then
        some false
      else
        if (a1.Amount != a2.Amount) = true then
          some false
        else
          if (a1.Left != a2.Left) = true then
            some false
          else
            some true
def laws_eqTally_enc (r : Bool) : AV := .bool r
theorem laws_eqTally_ok (a1 : Tally) (a2 : Tally) (r : Bool) (h : laws_eqTally a1 a2 = some r) : Ev (fun k => CN k 24 [.agg [.int .i64 a1.Debtor, .int .i64 a1.Holder, .int .i64 a1.Cut, .int .i64 a1.Amount, .int .i64 a1.Left], .agg [.int .i64 a2.Debtor, .int .i64 a2.Holder, .int .i64 a2.Cut, .int .i64 a2.Amount, .int .i64 a2.Left]] []) (fun p => rRes p.2 p.1 = laws_eqTally_enc r) := by
  unfold laws_eqTally at h
  refine Ev.enter (F := fun k => f24 (CN k) k) (fun k => callN_eq rfl Try.func24 rfl rfl rfl (by decide +kernel) (f24_eq _ _)) ?_
  refine Ev.seq ?_
  refine Ev.reg (fun _ => rfl) ?_
  refine Ev.nxk (bxI rfl rfl ⟨rfl, rfl, by decide⟩) ?_
  refine Ev.nxk (bxI rfl rfl ⟨rfl, rfl, by decide⟩) ?_
  refine Ev.nxk (mvO rfl) ?_
  refine Ev.rend ?_
  intro e1 he2
  have h3 : eget e1 2 = .pt none [.int .i64 a1.Debtor, .int .i64 a1.Holder, .int .i64 a1.Cut, .int .i64 a1.Amount, .int .i64 a1.Left] := envp he2 rfl rfl
  have h4 : eget e1 3 = .pt none [.int .i64 a2.Debtor, .int .i64 a2.Holder, .int .i64 a2.Cut, .int .i64 a2.Amount, .int .i64 a2.Left] := envp he2 rfl rfl
  refine Ev.kseqN ?_
  refine Ev.seq ?_
  refine Ev.seq ?_
  refine Ev.reg (fun _ => rfl) ?_
  refine Ev.nxk (faP h3 ⟨ble rfl, blt rfl⟩ rfl) ?_
  refine Ev.nxk (ldP rfl rfl) ?_
  refine Ev.nxk (faP h4 ⟨ble rfl, blt rfl⟩ rfl) ?_
  refine Ev.nxk (ldP rfl rfl) ?_
  refine Ev.nxk (bNeq rfl rfl) ?_
  refine Ev.rend ?_
  intro e5 he6
  have h7 : eget e5 2 = .pt none [.int .i64 a1.Debtor, .int .i64 a1.Holder, .int .i64 a1.Cut, .int .i64 a1.Amount, .int .i64 a1.Left] := envp he6 rfl h3
  have h8 : eget e5 3 = .pt none [.int .i64 a2.Debtor, .int .i64 a2.Holder, .int .i64 a2.Cut, .int .i64 a2.Amount, .int .i64 a2.Left] := envp he6 rfl h4
  have h9 : eget e5 9 = .bool (a1.Debtor != a2.Debtor) := envp he6 rfl rfl
  clear h3 h4
  refine Ev.kseqN ?_
  rcases ite_some h with ⟨hb10, h⟩ | ⟨hb10, h⟩
  · refine Ev.condT h9 hb10 ?_
    refine Ev.seq ?_
    refine Ev.reg (fun _ => rfl) ?_
    refine Ev.nxk (mvO rfl) ?_
    refine Ev.rend ?_
    intro e11 he12
    have h13 : eget e11 4 = .bool false := envp he12 rfl rfl
    clear h7 h8 h9
    refine Ev.kseqN ?_
    refine Ev.ex ?_
    refine Ev.kseqR ?_
    cases h
    exact Ev.kendR (resT h13 res0) rfl
  · refine Ev.condF h9 hb10 ?_
    refine Ev.ex ?_
    refine Ev.kseqN ?_
    refine Ev.seq ?_
    refine Ev.seq ?_
    refine Ev.reg (fun _ => rfl) ?_
    refine Ev.nxk (faP h7 ⟨ble rfl, blt rfl⟩ rfl) ?_
    refine Ev.nxk (ldP rfl rfl) ?_
    refine Ev.nxk (faP h8 ⟨ble rfl, blt rfl⟩ rfl) ?_
    refine Ev.nxk (ldP rfl rfl) ?_
    refine Ev.nxk (bNeq rfl rfl) ?_
    refine Ev.rend ?_
    intro e14 he15
    have h16 : eget e14 2 = .pt none [.int .i64 a1.Debtor, .int .i64 a1.Holder, .int .i64 a1.Cut, .int .i64 a1.Amount, .int .i64 a1.Left] := envp he15 rfl h7
    have h17 : eget e14 3 = .pt none [.int .i64 a2.Debtor, .int .i64 a2.Holder, .int .i64 a2.Cut, .int .i64 a2.Amount, .int .i64 a2.Left] := envp he15 rfl h8
    have h18 : eget e14 14 = .bool (a1.Holder != a2.Holder) := envp he15 rfl rfl
    clear h7 h8 h9
    refine Ev.kseqN ?_
    rcases ite_some h with ⟨hb19, h⟩ | ⟨hb19, h⟩
    · refine Ev.condT h18 hb19 ?_
      refine Ev.seq ?_
      refine Ev.reg (fun _ => rfl) ?_
      refine Ev.nxk (mvO rfl) ?_
      refine Ev.rend ?_
      intro e20 he21
      have h22 : eget e20 4 = .bool false := envp he21 rfl rfl
      clear h16 h17 h18
      refine Ev.kseqN ?_
      refine Ev.ex ?_
      refine Ev.kseqR ?_
      cases h
      exact Ev.kendR (resT h22 res0) rfl
    · refine Ev.condF h18 hb19 ?_
      refine Ev.ex ?_
      refine Ev.kseqN ?_
      refine Ev.seq ?_
      refine Ev.seq ?_
      refine Ev.reg (fun _ => rfl) ?_
      refine Ev.nxk (faP h16 ⟨ble rfl, blt rfl⟩ rfl) ?_
      refine Ev.nxk (ldP rfl rfl) ?_
      refine Ev.nxk (faP h17 ⟨ble rfl, blt rfl⟩ rfl) ?_
      refine Ev.nxk (ldP rfl rfl) ?_
      refine Ev.nxk (bNeq rfl rfl) ?_
      refine Ev.rend ?_
      intro e23 he24
      have h25 : eget e23 2 = .pt none [.int .i64 a1.Debtor, .int .i64 a1.Holder, .int .i64 a1.Cut, .int .i64 a1.Amount, .int .i64 a1.Left] := envp he24 rfl h16
      have h26 : eget e23 3 = .pt none [.int .i64 a2.Debtor, .int .i64 a2.Holder, .int .i64 a2.Cut, .int .i64 a2.Amount, .int .i64 a2.Left] := envp he24 rfl h17
      have h27 : eget e23 19 = .bool (a1.Cut != a2.Cut) := envp he24 rfl rfl
      clear h16 h17 h18
      refine Ev.kseqN ?_
      rcases ite_some h with ⟨hb28, h⟩ | ⟨hb28, h⟩
      · refine Ev.condT h27 hb28 ?_
        refine Ev.seq ?_
        refine Ev.reg (fun _ => rfl) ?_
        refine Ev.nxk (mvO rfl) ?_
        refine Ev.rend ?_
        intro e29 he30
        have h31 : eget e29 4 = .bool false := envp he30 rfl rfl
        clear h25 h26 h27
        refine Ev.kseqN ?_
        refine Ev.ex ?_
        refine Ev.kseqR ?_
        cases h
        exact Ev.kendR (resT h31 res0) rfl
      · refine Ev.condF h27 hb28 ?_
        refine Ev.ex ?_
        refine Ev.kseqN ?_
        refine Ev.seq ?_
        refine Ev.seq ?_
        refine Ev.reg (fun _ => rfl) ?_
        refine Ev.nxk (faP h25 ⟨ble rfl, blt rfl⟩ rfl) ?_
        refine Ev.nxk (ldP rfl rfl) ?_
        refine Ev.nxk (faP h26 ⟨ble rfl, blt rfl⟩ rfl) ?_
        refine Ev.nxk (ldP rfl rfl) ?_
        refine Ev.nxk (bNeq rfl rfl) ?_
        refine Ev.rend ?_
        intro e32 he33
        have h34 : eget e32 2 = .pt none [.int .i64 a1.Debtor, .int .i64 a1.Holder, .int .i64 a1.Cut, .int .i64 a1.Amount, .int .i64 a1.Left] := envp he33 rfl h25
        have h35 : eget e32 3 = .pt none [.int .i64 a2.Debtor, .int .i64 a2.Holder, .int .i64 a2.Cut, .int .i64 a2.Amount, .int .i64 a2.Left] := envp he33 rfl h26
        have h36 : eget e32 24 = .bool (a1.Amount != a2.Amount) := envp he33 rfl rfl
        clear h25 h26 h27
        refine Ev.kseqN ?_
        rcases ite_some h with ⟨hb37, h⟩ | ⟨hb37, h⟩
        · refine Ev.condT h36 hb37 ?_
          refine Ev.seq ?_
          refine Ev.reg (fun _ => rfl) ?_
          refine Ev.nxk (mvO rfl) ?_
          refine Ev.rend ?_
          intro e38 he39
          have h40 : eget e38 4 = .bool false := envp he39 rfl rfl
          clear h34 h35 h36
          refine Ev.kseqN ?_
          refine Ev.ex ?_
          refine Ev.kseqR ?_
          cases h
          exact Ev.kendR (resT h40 res0) rfl
        · refine Ev.condF h36 hb37 ?_
          refine Ev.ex ?_
          refine Ev.kseqN ?_
          refine Ev.seq ?_
          refine Ev.seq ?_
          refine Ev.reg (fun _ => rfl) ?_
          refine Ev.nxk (faP h34 ⟨ble rfl, blt rfl⟩ rfl) ?_
          refine Ev.nxk (ldP rfl rfl) ?_
          refine Ev.nxk (faP h35 ⟨ble rfl, blt rfl⟩ rfl) ?_
          refine Ev.nxk (ldP rfl rfl) ?_
          refine Ev.nxk (bNeq rfl rfl) ?_
          refine Ev.rend ?_
          intro e41 he42
          have h43 : eget e41 29 = .bool (a1.Left != a2.Left) := envp he42 rfl rfl
          clear h34 h35 h36
          refine Ev.kseqN ?_
          rcases ite_some h with ⟨hb44, h⟩ | ⟨hb44, h⟩
          · refine Ev.condT h43 hb44 ?_
            refine Ev.seq ?_
            refine Ev.reg (fun _ => rfl) ?_
            refine Ev.nxk (mvO rfl) ?_
            refine Ev.rend ?_
            intro e45 he46
            have h47 : eget e45 4 = .bool false := envp he46 rfl rfl
            clear h43
            refine Ev.kseqN ?_
            refine Ev.ex ?_
            refine Ev.kseqR ?_
            cases h
            exact Ev.kendR (resT h47 res0) rfl
          · refine Ev.condF h43 hb44 ?_
            refine Ev.ex ?_
            refine Ev.kseqN ?_
            refine Ev.seq ?_
            refine Ev.reg (fun _ => rfl) ?_
            refine Ev.nxk (mvO rfl) ?_
            refine Ev.rend ?_
            intro e48 he49
            have h50 : eget e48 4 = .bool true := envp he49 rfl rfl
            clear h43
            refine Ev.kseqN ?_
            refine Ev.ex ?_
            cases h
            exact Ev.kendR (resT h50 res0) rfl
/-! ### loop.example/g01263/impl.arePeople (f23) -/
abbrev impl_arePeople_b1_S := Int
abbrev impl_arePeople_b1_R := Unit ⊕ Unit
def impl_arePeople_b1_RS (a1 : Int) (a2 : List Int) (s : impl_arePeople_b1_S) (e : Env) (M : Mem) : Prop := eget e 0 = .int .i64 a1 ∧ eget e 7 = .sl none (a2.map (cI .i64)) ∧ eget e 8 = .int .i64 (a2.length : Int) ∧ eget e 9 = .int .i64 s
def impl_arePeople_b1_RR (a1 : Int) (a2 : List Int) (r : impl_arePeople_b1_R) (x : Ex) (e : Env) (M : Mem) : Prop :=
  match r with
  | (.inl g) => x = .ret ∧ eget e 4 = .bool false
  | (.inr g) => x = .ext 0 ∧ True
noncomputable def impl_arePeople_b1 (a1 : Int) (a2 : List Int) : impl_arePeople_b1_S → Option (impl_arePeople_b1_S ⊕ impl_arePeople_b1_R) := fun s1_1 =>
  if (decide (s1_1 < (a2.length : Int))) = true then
    (rd a2 s1_1).bind fun x39 =>
    if (decide (x39 < 0)) = true then
      some (.inr (.inl ()))
    else
      if (decide (x39 ≥ a1)) = true then
        some (.inr (.inl ()))
      else
        some (.inl (IntKind.i64.wrap (s1_1 + 1)))
  else
    some (.inr (.inr ()))
theorem impl_arePeople_b1_ok (a1 : Int) (a2 : List Int) (s : impl_arePeople_b1_S) (r : impl_arePeople_b1_S ⊕ impl_arePeople_b1_R) (h : impl_arePeople_b1 a1 a2 s = some r) (e : Env) (M : Mem) (hs : impl_arePeople_b1_RS a1 a2 s e M) : Ev (fun k => (f23_l2 (CN k) k (prune [0, 7, 8, 9] e) M).bind fun q => some q) (bQ (impl_arePeople_b1_RS a1 a2) (impl_arePeople_b1_RR a1 a2) r) := by
  revert h hs
  revert s
  intro s1_1 h hs
  unfold impl_arePeople_b1 at h
  obtain ⟨h23, h25, h27, h29⟩ := hs
  generalize he22 : prune [0, 7, 8, 9] e = e21
  have h24 := envp he22.symm rfl h23
  have h26 := envp he22.symm rfl h25
  have h28 := envp he22.symm rfl h27
  have h30 := envp he22.symm rfl h29
  refine Ev.seq ?_
  refine Ev.reg (fun _ => rfl) ?_
  refine Ev.nxk (bLss h30 h28) ?_
  refine Ev.rend ?_
  intro e31 he32
  have h33 : eget e31 0 = .int .i64 a1 := envp he32 rfl h24
  have h34 : eget e31 7 = .sl none (a2.map (cI .i64)) := envp he32 rfl h26
  have h35 : eget e31 8 = .int .i64 (a2.length : Int) := envp he32 rfl h28
  have h36 : eget e31 9 = .int .i64 s1_1 := envp he32 rfl h30
  have h37 : eget e31 10 = .bool (decide (s1_1 < (a2.length : Int))) := envp he32 rfl rfl
  clear h24 h26 h28 h30
  refine Ev.kseqN ?_
  refine Ev.seq ?_
  rcases ite_some h with ⟨hb38, h⟩ | ⟨hb38, h⟩
  · refine Ev.condT h37 hb38 ?_
    refine Ev.ex ?_
    refine Ev.kseqN ?_
    refine Ev.seq ?_
    refine Ev.blk ?_
    refine Ev.seq ?_
    refine Ev.reg (fun _ => rfl) ?_
    obtain ⟨x39, hx40, h⟩ := bind_some h
    refine Ev.nxk (ixS h34 h36 hx40 (cI_fl _)) ?_
    refine Ev.nxk (ldP rfl rfl) ?_
    refine Ev.nxk (mvO rfl) ?_
    refine Ev.rend ?_
    intro e41 he42
    have h43 : eget e41 0 = .int .i64 a1 := envp he42 rfl h33
    have h44 : eget e41 6 = .int .i64 x39 := envp he42 rfl rfl
    have h45 : eget e41 7 = .sl none (a2.map (cI .i64)) := envp he42 rfl h34
    have h46 : eget e41 8 = .int .i64 (a2.length : Int) := envp he42 rfl h35
    have h47 : eget e41 9 = .int .i64 s1_1 := envp he42 rfl h36
    clear h33 h34 h35 h36 h37
    refine Ev.kseqN ?_
    refine Ev.seq ?_
    refine Ev.reg (fun _ => rfl) ?_
    refine Ev.nxk (mvO h44) ?_
    refine Ev.nxk (bLss rfl rfl) ?_
    refine Ev.nxk (mvO rfl) ?_
    rcases ite_some h with ⟨hb48, h⟩ | ⟨hb48, h⟩
    · refine Ev.nxk (gsF rfl hb48) ?_
      refine Ev.nxk (gsF rfl hb48) ?_
      refine Ev.nxk (gsF rfl hb48) ?_
      refine Ev.nxk (pkT rfl hb48 rfl) ?_
      refine Ev.rend ?_
      intro e49 he50
      have h51 : eget e49 0 = .int .i64 a1 := envp he50 rfl h43
      have h52 : eget e49 7 = .sl none (a2.map (cI .i64)) := envp he50 rfl h45
      have h53 : eget e49 8 = .int .i64 (a2.length : Int) := envp he50 rfl h46
      have h54 : eget e49 9 = .int .i64 s1_1 := envp he50 rfl h47
      have h55 : eget e49 19 = .bool true := envp he50 rfl rfl
      clear h43 h44 h45 h46 h47
      refine Ev.kseqN ?_
      refine Ev.condT h55 rfl ?_
      refine Ev.seq ?_
      refine Ev.reg (fun _ => rfl) ?_
      refine Ev.nxk (mvO rfl) ?_
      refine Ev.rend ?_
      intro e56 he57
      have h58 : eget e56 4 = .bool false := envp he57 rfl rfl
      clear h51 h52 h53 h54 h55
      refine Ev.kseqN ?_
      refine Ev.ex ?_
      refine Ev.kblkR ?_
      refine Ev.kseqR ?_
      cases h
      exact Ev.kid (bQ_x (RS := (impl_arePeople_b1_RS a1 a2)) (RR := (impl_arePeople_b1_RR a1 a2)) (by intro h; cases h) (And.intro rfl h58))
    · refine Ev.nxk (guF rfl hb48 (mvO h44)) ?_
      refine Ev.nxk (guF rfl hb48 (mvO h43)) ?_
      refine Ev.nxk (guF rfl hb48 (bGeq rfl rfl)) ?_
      refine Ev.nxk (pkF rfl hb48 rfl) ?_
      refine Ev.rend ?_
      intro e59 he60
      have h61 : eget e59 0 = .int .i64 a1 := envp he60 rfl h43
      have h62 : eget e59 7 = .sl none (a2.map (cI .i64)) := envp he60 rfl h45
      have h63 : eget e59 8 = .int .i64 (a2.length : Int) := envp he60 rfl h46
      have h64 : eget e59 9 = .int .i64 s1_1 := envp he60 rfl h47
      have h65 : eget e59 19 = .bool (decide (x39 ≥ a1)) := envp he60 rfl rfl
      clear h43 h44 h45 h46 h47
      refine Ev.kseqN ?_
      rcases ite_some h with ⟨hb66, h⟩ | ⟨hb66, h⟩
      · refine Ev.condT h65 hb66 ?_
        refine Ev.seq ?_
        refine Ev.reg (fun _ => rfl) ?_
        refine Ev.nxk (mvO rfl) ?_
        refine Ev.rend ?_
        intro e67 he68
        have h69 : eget e67 4 = .bool false := envp he68 rfl rfl
        clear h61 h62 h63 h64 h65
        refine Ev.kseqN ?_
        refine Ev.ex ?_
        refine Ev.kblkR ?_
        refine Ev.kseqR ?_
        cases h
        exact Ev.kid (bQ_x (RS := (impl_arePeople_b1_RS a1 a2)) (RR := (impl_arePeople_b1_RR a1 a2)) (by intro h; cases h) (And.intro rfl h69))
      · refine Ev.condF h65 hb66 ?_
        refine Ev.ex ?_
        refine Ev.kblkN ?_
        refine Ev.kseqN ?_
        refine Ev.reg (fun _ => rfl) ?_
        refine Ev.nxk (bAdd h64 rfl) ?_
        refine Ev.nxk (mvO rfl) ?_
        refine Ev.rend ?_
        intro e70 he71
        have h72 : eget e70 0 = .int .i64 a1 := envp he71 rfl h61
        have h73 : eget e70 7 = .sl none (a2.map (cI .i64)) := envp he71 rfl h62
        have h74 : eget e70 8 = .int .i64 (a2.length : Int) := envp he71 rfl h63
        have h75 : eget e70 9 = .int .i64 (IntKind.i64.wrap (s1_1 + 1)) := envp he71 rfl rfl
        clear h61 h62 h63 h65
        cases h
        exact Ev.kid (bQ_n (RS := (impl_arePeople_b1_RS a1 a2)) (RR := (impl_arePeople_b1_RR a1 a2)) (And.intro h72 (And.intro h73 (And.intro h74 h75))))
  · refine Ev.condF h37 hb38 ?_
    refine Ev.ex ?_
    refine Ev.kseqE ?_
    cases h
    exact Ev.kid (bQ_x (RS := (impl_arePeople_b1_RS a1 a2)) (RR := (impl_arePeople_b1_RR a1 a2)) (by intro h; cases h) (And.intro rfl trivial))
noncomputable def impl_arePeople (a1 : Int) (a2 : List Int) : Option Bool :=
  (Lw (impl_arePeople_b1 a1 a2) 0).bind fun r => match r with
  | (.inl _) =>
    some false
  | (.inr _) =>
    some true
def impl_arePeople_enc (r : Bool) : AV := .bool r
theorem impl_arePeople_ok (a1 : Int) (a2 : List Int) (r : Bool) (h : impl_arePeople a1 a2 = some r) : Ev (fun k => CN k 23 [.int .i64 a1, .sl none (a2.map (cI .i64))] []) (fun p => rRes p.2 p.1 = impl_arePeople_enc r) := by
  unfold impl_arePeople at h
  refine Ev.enter (F := fun k => f23 (CN k) k) (fun k => callN_eq rfl Try.func23 rfl rfl rfl (by decide +kernel) (f23_eq _ _)) ?_
  refine Ev.seq ?_
  refine Ev.reg (fun _ => rfl) ?_
  refine Ev.nxk (mvO rfl) ?_
  refine Ev.rend ?_
  intro e1 he2
  have h3 : eget e1 0 = .int .i64 a1 := envp he2 rfl rfl
  have h4 : eget e1 1 = .sl none (a2.map (cI .i64)) := envp he2 rfl rfl
  refine Ev.kseqN ?_
  refine Ev.seq ?_
  refine Ev.seq ?_
  refine Ev.reg (fun _ => rfl) ?_
  refine Ev.nxk (mvO h4) ?_
  refine Ev.nxk (lnS Try.underlying22 rfl) ?_
  refine Ev.nxk (mvO rfl) ?_
  refine Ev.rend ?_
  intro e5 he6
  have h7 : eget e5 0 = .int .i64 a1 := envp he6 rfl h3
  have h8 : eget e5 7 = .sl none (a2.map (cI .i64)) := envp he6 rfl rfl
  have h9 : eget e5 8 = .int .i64 (a2.length : Int) := envp he6 rfl rfl
  have h10 : eget e5 9 = .int .i64 0 := envp he6 rfl rfl
  clear h3 h4
  refine Ev.kseqN ?_
  refine Ev.blk ?_
  obtain ⟨r76, hr77, h⟩ := bind_some h
  rcases r76 with _ | _
  · refine Ev.loop (RS := impl_arePeople_b1_RS a1 a2) (RR := impl_arePeople_b1_RR a1 a2) (fun s r h e M hs => impl_arePeople_b1_ok a1 a2 s r h e M hs) hr77 (And.intro h7 (And.intro h8 (And.intro h9 h10))) ?_
    intro x e79 M80 hq78
    obtain ⟨rfl, h81⟩ := hq78
    refine Ev.kblkR ?_
    refine Ev.kseqR ?_
    cases h
    exact Ev.kendR (resT h81 res0) rfl
  · refine Ev.loop (RS := impl_arePeople_b1_RS a1 a2) (RR := impl_arePeople_b1_RR a1 a2) (fun s r h e M hs => impl_arePeople_b1_ok a1 a2 s r h e M hs) hr77 (And.intro h7 (And.intro h8 (And.intro h9 h10))) ?_
    intro x e82 M83 hq78
    obtain ⟨rfl, _⟩ := hq78
    refine Ev.kblkE ?_
    refine Ev.kseqN ?_
    refine Ev.seq ?_
    refine Ev.reg (fun _ => rfl) ?_
    refine Ev.nxk (mvO rfl) ?_
    refine Ev.rend ?_
    intro e84 he85
    have h86 : eget e84 4 = .bool true := envp he85 rfl rfl
    refine Ev.kseqN ?_
    refine Ev.ex ?_
    cases h
    exact Ev.kendR (resT h86 res0) rfl
/-! ### loop.example/g01263/impl.isAmount (f22) -/
noncomputable def impl_isAmount (a1 : Int) : Option Bool :=
  if (decide (a1 ≥ 0)) = true then
    some (decide (a1 ≤ 100000000))
  else
    some false
def impl_isAmount_enc (r : Bool) : AV := .bool r
theorem impl_isAmount_ok (a1 : Int) (r : Bool) (h : impl_isAmount a1 = some r) : Ev (fun k => CN k 22 [.int .i64 a1] []) (fun p => rRes p.2 p.1 = impl_isAmount_enc r) := by
  unfold impl_isAmount at h
  refine Ev.enter (F := fun k => f22 (CN k) k) (fun k => callN_eq rfl Try.func22 rfl rfl rfl (by decide +kernel) (f22_eq _ _)) ?_
  refine Ev.seq ?_
  refine Ev.reg (fun _ => rfl) ?_
  refine Ev.nxk (mvO rfl) ?_
  refine Ev.rend ?_
  intro e1 he2
  have h3 : eget e1 0 = .int .i64 a1 := envp he2 rfl rfl
  refine Ev.kseqN ?_
  refine Ev.seq ?_
  refine Ev.reg (fun _ => rfl) ?_
  refine Ev.nxk (mvO h3) ?_
  refine Ev.nxk (bGeq rfl rfl) ?_
  refine Ev.nxk (mvO rfl) ?_
  rcases ite_some h with ⟨hb4, h⟩ | ⟨hb4, h⟩
  · refine Ev.nxk (guT rfl hb4 (mvO h3)) ?_
    refine Ev.nxk (guT rfl hb4 (bLeq rfl rfl)) ?_
    refine Ev.nxk (pkT rfl hb4 rfl) ?_
    refine Ev.nxk (mvO rfl) ?_
    refine Ev.rend ?_
    intro e5 he6
    have h7 : eget e5 2 = .bool (decide (a1 ≤ 100000000)) := envp he6 rfl rfl
    clear h3
    refine Ev.kseqN ?_
    refine Ev.ex ?_
    cases h
    exact Ev.kendR (resT h7 res0) rfl
  · refine Ev.nxk (gsT rfl hb4) ?_
    refine Ev.nxk (gsT rfl hb4) ?_
    refine Ev.nxk (pkF rfl hb4 rfl) ?_
    refine Ev.nxk (mvO rfl) ?_
    refine Ev.rend ?_
    intro e8 he9
    have h10 : eget e8 2 = .bool false := envp he9 rfl rfl
    clear h3
    refine Ev.kseqN ?_
    refine Ev.ex ?_
    cases h
    exact Ev.kendR (resT h10 res0) rfl
/-! ### loop.example/g01263/impl.isBookDay (f21) -/
noncomputable def impl_isBookDay (a1 : Int) : Option Bool :=
  if (decide (a1 ≥ 0)) = true then
    some (decide (a1 ≤ 100000))
  else
    some false
def impl_isBookDay_enc (r : Bool) : AV := .bool r
theorem impl_isBookDay_ok (a1 : Int) (r : Bool) (h : impl_isBookDay a1 = some r) : Ev (fun k => CN k 21 [.int .i64 a1] []) (fun p => rRes p.2 p.1 = impl_isBookDay_enc r) := by
  unfold impl_isBookDay at h
  refine Ev.enter (F := fun k => f21 (CN k) k) (fun k => callN_eq rfl Try.func21 rfl rfl rfl (by decide +kernel) (f21_eq _ _)) ?_
  refine Ev.seq ?_
  refine Ev.reg (fun _ => rfl) ?_
  refine Ev.nxk (mvO rfl) ?_
  refine Ev.rend ?_
  intro e1 he2
  have h3 : eget e1 0 = .int .i64 a1 := envp he2 rfl rfl
  refine Ev.kseqN ?_
  refine Ev.seq ?_
  refine Ev.reg (fun _ => rfl) ?_
  refine Ev.nxk (mvO h3) ?_
  refine Ev.nxk (bGeq rfl rfl) ?_
  refine Ev.nxk (mvO rfl) ?_
  rcases ite_some h with ⟨hb4, h⟩ | ⟨hb4, h⟩
  · refine Ev.nxk (guT rfl hb4 (mvO h3)) ?_
    refine Ev.nxk (guT rfl hb4 (bLeq rfl rfl)) ?_
    refine Ev.nxk (pkT rfl hb4 rfl) ?_
    refine Ev.nxk (mvO rfl) ?_
    refine Ev.rend ?_
    intro e5 he6
    have h7 : eget e5 2 = .bool (decide (a1 ≤ 100000)) := envp he6 rfl rfl
    clear h3
    refine Ev.kseqN ?_
    refine Ev.ex ?_
    cases h
    exact Ev.kendR (resT h7 res0) rfl
  · refine Ev.nxk (gsT rfl hb4) ?_
    refine Ev.nxk (gsT rfl hb4) ?_
    refine Ev.nxk (pkF rfl hb4 rfl) ?_
    refine Ev.nxk (mvO rfl) ?_
    refine Ev.rend ?_
    intro e8 he9
    have h10 : eget e8 2 = .bool false := envp he9 rfl rfl
    clear h3
    refine Ev.kseqN ?_
    refine Ev.ex ?_
    cases h
    exact Ev.kendR (resT h10 res0) rfl
/-! ### loop.example/g01263/spec.l00In (f20) -/
noncomputable def spec_l00In (a1 : Int) (a2 : Int) (a3 : Int) : Option Bool :=
  if (decide (a1 ≥ a2)) = true then
    some (decide (a1 ≤ a3))
  else
    some false
def spec_l00In_enc (r : Bool) : AV := .bool r
theorem spec_l00In_ok (a1 : Int) (a2 : Int) (a3 : Int) (r : Bool) (h : spec_l00In a1 a2 a3 = some r) : Ev (fun k => CN k 20 [.int .i64 a1, .int .i64 a2, .int .i64 a3] []) (fun p => rRes p.2 p.1 = spec_l00In_enc r) := by
  unfold spec_l00In at h
  refine Ev.enter (F := fun k => f20 (CN k) k) (fun k => callN_eq rfl Try.func20 rfl rfl rfl (by decide +kernel) (f20_eq _ _)) ?_
  refine Ev.seq ?_
  refine Ev.reg (fun _ => rfl) ?_
  refine Ev.nxk (mvO rfl) ?_
  refine Ev.rend ?_
  intro e1 he2
  have h3 : eget e1 0 = .int .i64 a1 := envp he2 rfl rfl
  have h4 : eget e1 1 = .int .i64 a2 := envp he2 rfl rfl
  have h5 : eget e1 2 = .int .i64 a3 := envp he2 rfl rfl
  refine Ev.kseqN ?_
  refine Ev.seq ?_
  refine Ev.reg (fun _ => rfl) ?_
  refine Ev.nxk (mvO h3) ?_
  refine Ev.nxk (mvO h4) ?_
  refine Ev.nxk (bGeq rfl rfl) ?_
  refine Ev.nxk (mvO rfl) ?_
  rcases ite_some h with ⟨hb6, h⟩ | ⟨hb6, h⟩
  · refine Ev.nxk (guT rfl hb6 (mvO h3)) ?_
    refine Ev.nxk (guT rfl hb6 (mvO h5)) ?_
    refine Ev.nxk (guT rfl hb6 (bLeq rfl rfl)) ?_
    refine Ev.nxk (pkT rfl hb6 rfl) ?_
    refine Ev.nxk (mvO rfl) ?_
    refine Ev.rend ?_
    intro e7 he8
    have h9 : eget e7 6 = .bool (decide (a1 ≤ a3)) := envp he8 rfl rfl
    clear h3 h4 h5
    refine Ev.kseqN ?_
    refine Ev.ex ?_
    cases h
    exact Ev.kendR (resT h9 res0) rfl
  · refine Ev.nxk (gsT rfl hb6) ?_
    refine Ev.nxk (gsT rfl hb6) ?_
    refine Ev.nxk (gsT rfl hb6) ?_
    refine Ev.nxk (pkF rfl hb6 rfl) ?_
    refine Ev.nxk (mvO rfl) ?_
    refine Ev.rend ?_
    intro e10 he11
    have h12 : eget e10 6 = .bool false := envp he11 rfl rfl
    clear h3 h4 h5
    refine Ev.kseqN ?_
    refine Ev.ex ?_
    cases h
    exact Ev.kendR (resT h12 res0) rfl
/-! ### loop.example/g01263/spec.l01Amount (f19) -/
noncomputable def spec_l01Amount (a1 : Int) : Option Bool :=
  (spec_l00In a1 0 100000000).bind fun r5 =>
  some r5
def spec_l01Amount_enc (r : Bool) : AV := .bool r
theorem spec_l01Amount_ok (a1 : Int) (r : Bool) (h : spec_l01Amount a1 = some r) : Ev (fun k => CN k 19 [.int .i64 a1] []) (fun p => rRes p.2 p.1 = spec_l01Amount_enc r) := by
  unfold spec_l01Amount at h
  refine Ev.enter (F := fun k => f19 (CN k) k) (fun k => callN_eq rfl Try.func19 rfl rfl rfl (by decide +kernel) (f19_eq _ _)) ?_
  refine Ev.seq ?_
  refine Ev.reg (fun _ => rfl) ?_
  refine Ev.nxk (mvO rfl) ?_
  refine Ev.rend ?_
  intro e1 he2
  have h3 : eget e1 0 = .int .i64 a1 := envp he2 rfl rfl
  refine Ev.kseqN ?_
  refine Ev.seq ?_
  refine Ev.reg (fun _ => rfl) ?_
  refine Ev.nxk (mvO h3) ?_
  obtain ⟨r5, hx4, h⟩ := bind_some h
  refine Ev.nxck (Ev.call (v := .bool r5) rfl (cns rfl (cns rfl (cns rfl rfl))) rfl (spec_l00In_ok a1 0 100000000 _ hx4) (fun h => nomatch (show false = true from h))) ?_
  refine Ev.nxk (mvO rfl) ?_
  refine Ev.rend ?_
  intro e6 he7
  have h8 : eget e6 2 = .bool r5 := envp he7 rfl rfl
  clear h3
  refine Ev.kseqN ?_
  refine Ev.ex ?_
  cases h
  exact Ev.kendR (resT h8 res0) rfl
/-! ### loop.example/g01263/laws.heldTallyS (f18) -/
abbrev laws_heldTallyS_b1_S := Int × Int
abbrev laws_heldTallyS_b1_R := Unit ⊕ Int
def laws_heldTallyS_b1_RS (a1 : List Tally) (s : laws_heldTallyS_b1_S) (e : Env) (M : Mem) : Prop := eget e 0 = .sl none (a1.map Tally.c) ∧ eget e 1 = .int .i64 s.1 ∧ eget e 5 = .int .i64 s.2
def laws_heldTallyS_b1_RR (a1 : List Tally) (r : laws_heldTallyS_b1_R) (x : Ex) (e : Env) (M : Mem) : Prop :=
  match r with
  | (.inl g) => x = .ret ∧ eget e 4 = .int .i64 (-1)
  | (.inr g) => x = .ext 0 ∧ eget e 1 = .int .i64 g
noncomputable def laws_heldTallyS_b1 (a1 : List Tally) : laws_heldTallyS_b1_S → Option (laws_heldTallyS_b1_S ⊕ laws_heldTallyS_b1_R) := fun (s1_1, s1_2) =>
  if (decide (s1_2 < (a1.length : Int))) = true then
    (rd a1 s1_2).bind fun x33 =>
    if (x33.Debtor != s1_1) = true then
      some (.inr (.inl ()))
    else
      (rd a1 s1_2).bind fun x50 =>
      if (x50.Holder != (IntKind.i64.wrap (s1_1 + 1))) = true then
        some (.inr (.inl ()))
      else
        (rd a1 s1_2).bind fun x67 =>
        if (x67.Cut != (IntKind.i64.wrap ((IntKind.i64.wrap (s1_1 + 1)) + 1))) = true then
          some (.inr (.inl ()))
        else
          (rd a1 s1_2).bind fun x84 =>
          if (x84.Amount != (IntKind.i64.wrap ((IntKind.i64.wrap ((IntKind.i64.wrap (s1_1 + 1)) + 1)) + 1))) = true then
            some (.inr (.inl ()))
          else
            (rd a1 s1_2).bind fun x101 =>
            if (x101.Left != (IntKind.i64.wrap ((IntKind.i64.wrap ((IntKind.i64.wrap ((IntKind.i64.wrap (s1_1 + 1)) + 1)) + 1)) + 1))) = true then
              some (.inr (.inl ()))
            else
              some (.inl ((IntKind.i64.wrap ((IntKind.i64.wrap ((IntKind.i64.wrap ((IntKind.i64.wrap ((IntKind.i64.wrap (s1_1 + 1)) + 1)) + 1)) + 1)) + 1)), (IntKind.i64.wrap (s1_2 + 1))))
  else
    some (.inr (.inr s1_1))
theorem laws_heldTallyS_b1_ok (a1 : List Tally) (s : laws_heldTallyS_b1_S) (r : laws_heldTallyS_b1_S ⊕ laws_heldTallyS_b1_R) (h : laws_heldTallyS_b1 a1 s = some r) (e : Env) (M : Mem) (hs : laws_heldTallyS_b1_RS a1 s e M) : Ev (fun k => (f18_l2 (CN k) k (prune [0, 1, 5] e) M).bind fun q => some q) (bQ (laws_heldTallyS_b1_RS a1) (laws_heldTallyS_b1_RR a1) r) := by
  obtain ⟨s1_1, s1_2⟩ := s
  unfold laws_heldTallyS_b1 at h
  obtain ⟨h20, h22, h24⟩ := hs
  generalize he19 : prune [0, 1, 5] e = e18
  have h21 := envp he19.symm rfl h20
  have h23 := envp he19.symm rfl h22
  have h25 := envp he19.symm rfl h24
  refine Ev.seq ?_
  refine Ev.seq ?_
  refine Ev.reg (fun _ => rfl) ?_
  refine Ev.nxk (mvO h25) ?_
  refine Ev.nxk (mvO h21) ?_
  refine Ev.nxk (lnS Try.underlying23 rfl) ?_
  refine Ev.nxk (bLss rfl rfl) ?_
  refine Ev.rend ?_
  intro e26 he27
  have h28 : eget e26 0 = .sl none (a1.map Tally.c) := envp he27 rfl h21
  have h29 : eget e26 1 = .int .i64 s1_1 := envp he27 rfl h23
  have h30 : eget e26 5 = .int .i64 s1_2 := envp he27 rfl h25
  have h31 : eget e26 9 = .bool (decide (s1_2 < (a1.length : Int))) := envp he27 rfl rfl
  clear h21 h23 h25
  refine Ev.kseqN ?_
  rcases ite_some h with ⟨hb32, h⟩ | ⟨hb32, h⟩
  · refine Ev.condT h31 hb32 ?_
    refine Ev.ex ?_
    refine Ev.kseqN ?_
    refine Ev.seq ?_
    refine Ev.blk ?_
    refine Ev.seq ?_
    refine Ev.seq ?_
    refine Ev.reg (fun _ => rfl) ?_
    refine Ev.nxk (mvO h28) ?_
    refine Ev.nxk (mvO h30) ?_
    obtain ⟨x33, hx34, h⟩ := bind_some h
    refine Ev.nxk (ixS rfl rfl hx34 Tally.fl) ?_
    refine Ev.nxk (faP rfl ⟨ble rfl, blt rfl⟩ rfl) ?_
    refine Ev.nxk (ldP rfl rfl) ?_
    refine Ev.nxk (mvO h29) ?_
    refine Ev.nxk (bNeq rfl rfl) ?_
    refine Ev.rend ?_
    intro e35 he36
    have h37 : eget e35 0 = .sl none (a1.map Tally.c) := envp he36 rfl h28
    have h38 : eget e35 1 = .int .i64 s1_1 := envp he36 rfl h29
    have h39 : eget e35 5 = .int .i64 s1_2 := envp he36 rfl h30
    have h40 : eget e35 18 = .bool (x33.Debtor != s1_1) := envp he36 rfl rfl
    clear h28 h29 h30 h31
    refine Ev.kseqN ?_
    rcases ite_some h with ⟨hb41, h⟩ | ⟨hb41, h⟩
    · refine Ev.condT h40 hb41 ?_
      refine Ev.seq ?_
      refine Ev.reg (fun _ => rfl) ?_
      refine Ev.nxk (mvO rfl) ?_
      refine Ev.rend ?_
      intro e42 he43
      have h44 : eget e42 4 = .int .i64 (-1) := envp he43 rfl rfl
      clear h37 h38 h39 h40
      refine Ev.kseqN ?_
      refine Ev.ex ?_
      refine Ev.kseqR ?_
      refine Ev.kblkR ?_
      refine Ev.kseqR ?_
      cases h
      exact Ev.kid (bQ_x (RS := (laws_heldTallyS_b1_RS a1)) (RR := (laws_heldTallyS_b1_RR a1)) (by intro h; cases h) (And.intro rfl h44))
    · refine Ev.condF h40 hb41 ?_
      refine Ev.ex ?_
      refine Ev.kseqN ?_
      refine Ev.seq ?_
      refine Ev.reg (fun _ => rfl) ?_
      refine Ev.nxk (mvO h38) ?_
      refine Ev.nxk (bAdd rfl rfl) ?_
      refine Ev.nxk (mvO rfl) ?_
      refine Ev.rend ?_
      intro e45 he46
      have h47 : eget e45 0 = .sl none (a1.map Tally.c) := envp he46 rfl h37
      have h48 : eget e45 1 = .int .i64 (IntKind.i64.wrap (s1_1 + 1)) := envp he46 rfl rfl
      have h49 : eget e45 5 = .int .i64 s1_2 := envp he46 rfl h39
      clear h37 h39 h40
      refine Ev.kseqN ?_
      refine Ev.seq ?_
      refine Ev.seq ?_
      refine Ev.reg (fun _ => rfl) ?_
      refine Ev.nxk (mvO h47) ?_
      refine Ev.nxk (mvO h49) ?_
      obtain ⟨x50, hx51, h⟩ := bind_some h
      refine Ev.nxk (ixS rfl rfl hx51 Tally.fl) ?_
      refine Ev.nxk (faP rfl ⟨ble rfl, blt rfl⟩ rfl) ?_
      refine Ev.nxk (ldP rfl rfl) ?_
      refine Ev.nxk (mvO h48) ?_
      refine Ev.nxk (bNeq rfl rfl) ?_
      refine Ev.rend ?_
      intro e52 he53
      have h54 : eget e52 0 = .sl none (a1.map Tally.c) := envp he53 rfl h47
      have h55 : eget e52 1 = .int .i64 (IntKind.i64.wrap (s1_1 + 1)) := envp he53 rfl h48
      have h56 : eget e52 5 = .int .i64 s1_2 := envp he53 rfl h49
      have h57 : eget e52 27 = .bool (x50.Holder != (IntKind.i64.wrap (s1_1 + 1))) := envp he53 rfl rfl
      clear h47 h48 h49
      refine Ev.kseqN ?_
      rcases ite_some h with ⟨hb58, h⟩ | ⟨hb58, h⟩
      · refine Ev.condT h57 hb58 ?_
        refine Ev.seq ?_
        refine Ev.reg (fun _ => rfl) ?_
        refine Ev.nxk (mvO rfl) ?_
        refine Ev.rend ?_
        intro e59 he60
        have h61 : eget e59 4 = .int .i64 (-1) := envp he60 rfl rfl
        clear h54 h55 h56 h57
        refine Ev.kseqN ?_
        refine Ev.ex ?_
        refine Ev.kseqR ?_
        refine Ev.kblkR ?_
        refine Ev.kseqR ?_
        cases h
        exact Ev.kid (bQ_x (RS := (laws_heldTallyS_b1_RS a1)) (RR := (laws_heldTallyS_b1_RR a1)) (by intro h; cases h) (And.intro rfl h61))
      · refine Ev.condF h57 hb58 ?_
        refine Ev.ex ?_
        refine Ev.kseqN ?_
        refine Ev.seq ?_
        refine Ev.reg (fun _ => rfl) ?_
        refine Ev.nxk (mvO h55) ?_
        refine Ev.nxk (bAdd rfl rfl) ?_
        refine Ev.nxk (mvO rfl) ?_
        refine Ev.rend ?_
        intro e62 he63
        have h64 : eget e62 0 = .sl none (a1.map Tally.c) := envp he63 rfl h54
        have h65 : eget e62 1 = .int .i64 (IntKind.i64.wrap ((IntKind.i64.wrap (s1_1 + 1)) + 1)) := envp he63 rfl rfl
        have h66 : eget e62 5 = .int .i64 s1_2 := envp he63 rfl h56
        clear h54 h56 h57
        refine Ev.kseqN ?_
        refine Ev.seq ?_
        refine Ev.seq ?_
        refine Ev.reg (fun _ => rfl) ?_
        refine Ev.nxk (mvO h64) ?_
        refine Ev.nxk (mvO h66) ?_
        obtain ⟨x67, hx68, h⟩ := bind_some h
        refine Ev.nxk (ixS rfl rfl hx68 Tally.fl) ?_
        refine Ev.nxk (faP rfl ⟨ble rfl, blt rfl⟩ rfl) ?_
        refine Ev.nxk (ldP rfl rfl) ?_
        refine Ev.nxk (mvO h65) ?_
        refine Ev.nxk (bNeq rfl rfl) ?_
        refine Ev.rend ?_
        intro e69 he70
        have h71 : eget e69 0 = .sl none (a1.map Tally.c) := envp he70 rfl h64
        have h72 : eget e69 1 = .int .i64 (IntKind.i64.wrap ((IntKind.i64.wrap (s1_1 + 1)) + 1)) := envp he70 rfl h65
        have h73 : eget e69 5 = .int .i64 s1_2 := envp he70 rfl h66
        have h74 : eget e69 36 = .bool (x67.Cut != (IntKind.i64.wrap ((IntKind.i64.wrap (s1_1 + 1)) + 1))) := envp he70 rfl rfl
        clear h64 h65 h66
        refine Ev.kseqN ?_
        rcases ite_some h with ⟨hb75, h⟩ | ⟨hb75, h⟩
        · refine Ev.condT h74 hb75 ?_
          refine Ev.seq ?_
          refine Ev.reg (fun _ => rfl) ?_
          refine Ev.nxk (mvO rfl) ?_
          refine Ev.rend ?_
          intro e76 he77
          have h78 : eget e76 4 = .int .i64 (-1) := envp he77 rfl rfl
          clear h71 h72 h73 h74
          refine Ev.kseqN ?_
          refine Ev.ex ?_
          refine Ev.kseqR ?_
          refine Ev.kblkR ?_
          refine Ev.kseqR ?_
          cases h
          exact Ev.kid (bQ_x (RS := (laws_heldTallyS_b1_RS a1)) (RR := (laws_heldTallyS_b1_RR a1)) (by intro h; cases h) (And.intro rfl h78))
        · refine Ev.condF h74 hb75 ?_
          refine Ev.ex ?_
          refine Ev.kseqN ?_
          refine Ev.seq ?_
          refine Ev.reg (fun _ => rfl) ?_
          refine Ev.nxk (mvO h72) ?_
          refine Ev.nxk (bAdd rfl rfl) ?_
          refine Ev.nxk (mvO rfl) ?_
          refine Ev.rend ?_
          intro e79 he80
          have h81 : eget e79 0 = .sl none (a1.map Tally.c) := envp he80 rfl h71
          have h82 : eget e79 1 = .int .i64 (IntKind.i64.wrap ((IntKind.i64.wrap ((IntKind.i64.wrap (s1_1 + 1)) + 1)) + 1)) := envp he80 rfl rfl
          have h83 : eget e79 5 = .int .i64 s1_2 := envp he80 rfl h73
          clear h71 h73 h74
          refine Ev.kseqN ?_
          refine Ev.seq ?_
          refine Ev.seq ?_
          refine Ev.reg (fun _ => rfl) ?_
          refine Ev.nxk (mvO h81) ?_
          refine Ev.nxk (mvO h83) ?_
          obtain ⟨x84, hx85, h⟩ := bind_some h
          refine Ev.nxk (ixS rfl rfl hx85 Tally.fl) ?_
          refine Ev.nxk (faP rfl ⟨ble rfl, blt rfl⟩ rfl) ?_
          refine Ev.nxk (ldP rfl rfl) ?_
          refine Ev.nxk (mvO h82) ?_
          refine Ev.nxk (bNeq rfl rfl) ?_
          refine Ev.rend ?_
          intro e86 he87
          have h88 : eget e86 0 = .sl none (a1.map Tally.c) := envp he87 rfl h81
          have h89 : eget e86 1 = .int .i64 (IntKind.i64.wrap ((IntKind.i64.wrap ((IntKind.i64.wrap (s1_1 + 1)) + 1)) + 1)) := envp he87 rfl h82
          have h90 : eget e86 5 = .int .i64 s1_2 := envp he87 rfl h83
          have h91 : eget e86 45 = .bool (x84.Amount != (IntKind.i64.wrap ((IntKind.i64.wrap ((IntKind.i64.wrap (s1_1 + 1)) + 1)) + 1))) := envp he87 rfl rfl
          clear h81 h82 h83
          refine Ev.kseqN ?_
          rcases ite_some h with ⟨hb92, h⟩ | ⟨hb92, h⟩
          · refine Ev.condT h91 hb92 ?_
            refine Ev.seq ?_
            refine Ev.reg (fun _ => rfl) ?_
            refine Ev.nxk (mvO rfl) ?_
            refine Ev.rend ?_
            intro e93 he94
            have h95 : eget e93 4 = .int .i64 (-1) := envp he94 rfl rfl
            clear h88 h89 h90 h91
            refine Ev.kseqN ?_
            refine Ev.ex ?_
            refine Ev.kseqR ?_
            refine Ev.kblkR ?_
            refine Ev.kseqR ?_
            cases h
            exact Ev.kid (bQ_x (RS := (laws_heldTallyS_b1_RS a1)) (RR := (laws_heldTallyS_b1_RR a1)) (by intro h; cases h) (And.intro rfl h95))
          · refine Ev.condF h91 hb92 ?_
            refine Ev.ex ?_
            refine Ev.kseqN ?_
            refine Ev.seq ?_
            refine Ev.reg (fun _ => rfl) ?_
            refine Ev.nxk (mvO h89) ?_
            refine Ev.nxk (bAdd rfl rfl) ?_
            refine Ev.nxk (mvO rfl) ?_
            refine Ev.rend ?_
            intro e96 he97
            have h98 : eget e96 0 = .sl none (a1.map Tally.c) := envp he97 rfl h88
            have h99 : eget e96 1 = .int .i64 (IntKind.i64.wrap ((IntKind.i64.wrap ((IntKind.i64.wrap ((IntKind.i64.wrap (s1_1 + 1)) + 1)) + 1)) + 1)) := envp he97 rfl rfl
            have h100 : eget e96 5 = .int .i64 s1_2 := envp he97 rfl h90
            clear h88 h90 h91
            refine Ev.kseqN ?_
            refine Ev.seq ?_
            refine Ev.seq ?_
            refine Ev.reg (fun _ => rfl) ?_
            refine Ev.nxk (mvO h98) ?_
            refine Ev.nxk (mvO h100) ?_
            obtain ⟨x101, hx102, h⟩ := bind_some h
            refine Ev.nxk (ixS rfl rfl hx102 Tally.fl) ?_
            refine Ev.nxk (faP rfl ⟨ble rfl, blt rfl⟩ rfl) ?_
            refine Ev.nxk (ldP rfl rfl) ?_
            refine Ev.nxk (mvO h99) ?_
            refine Ev.nxk (bNeq rfl rfl) ?_
            refine Ev.rend ?_
            intro e103 he104
            have h105 : eget e103 0 = .sl none (a1.map Tally.c) := envp he104 rfl h98
            have h106 : eget e103 1 = .int .i64 (IntKind.i64.wrap ((IntKind.i64.wrap ((IntKind.i64.wrap ((IntKind.i64.wrap (s1_1 + 1)) + 1)) + 1)) + 1)) := envp he104 rfl h99
            have h107 : eget e103 5 = .int .i64 s1_2 := envp he104 rfl h100
            have h108 : eget e103 54 = .bool (x101.Left != (IntKind.i64.wrap ((IntKind.i64.wrap ((IntKind.i64.wrap ((IntKind.i64.wrap (s1_1 + 1)) + 1)) + 1)) + 1))) := envp he104 rfl rfl
            clear h100 h98 h99
            refine Ev.kseqN ?_
            rcases ite_some h with ⟨hb109, h⟩ | ⟨hb109, h⟩
            · refine Ev.condT h108 hb109 ?_
              refine Ev.seq ?_
              refine Ev.reg (fun _ => rfl) ?_
              refine Ev.nxk (mvO rfl) ?_
              refine Ev.rend ?_
              intro e110 he111
              have h112 : eget e110 4 = .int .i64 (-1) := envp he111 rfl rfl
              clear h105 h106 h107 h108
              refine Ev.kseqN ?_
              refine Ev.ex ?_
              refine Ev.kseqR ?_
              refine Ev.kblkR ?_
              refine Ev.kseqR ?_
              cases h
              exact Ev.kid (bQ_x (RS := (laws_heldTallyS_b1_RS a1)) (RR := (laws_heldTallyS_b1_RR a1)) (by intro h; cases h) (And.intro rfl h112))
            · refine Ev.condF h108 hb109 ?_
              refine Ev.ex ?_
              refine Ev.kseqN ?_
              refine Ev.reg (fun _ => rfl) ?_
              refine Ev.nxk (mvO h106) ?_
              refine Ev.nxk (bAdd rfl rfl) ?_
              refine Ev.nxk (mvO rfl) ?_
              refine Ev.rend ?_
              intro e113 he114
              have h115 : eget e113 0 = .sl none (a1.map Tally.c) := envp he114 rfl h105
              have h116 : eget e113 1 = .int .i64 (IntKind.i64.wrap ((IntKind.i64.wrap ((IntKind.i64.wrap ((IntKind.i64.wrap ((IntKind.i64.wrap (s1_1 + 1)) + 1)) + 1)) + 1)) + 1)) := envp he114 rfl rfl
              have h117 : eget e113 5 = .int .i64 s1_2 := envp he114 rfl h107
              clear h105 h107 h108
              refine Ev.kblkN ?_
              refine Ev.kseqN ?_
              refine Ev.reg (fun _ => rfl) ?_
              refine Ev.nxk (mvO h117) ?_
              refine Ev.nxk (bAdd rfl rfl) ?_
              refine Ev.nxk (mvO rfl) ?_
              refine Ev.rend ?_
              intro e118 he119
              have h120 : eget e118 0 = .sl none (a1.map Tally.c) := envp he119 rfl h115
              have h121 : eget e118 1 = .int .i64 (IntKind.i64.wrap ((IntKind.i64.wrap ((IntKind.i64.wrap ((IntKind.i64.wrap ((IntKind.i64.wrap (s1_1 + 1)) + 1)) + 1)) + 1)) + 1)) := envp he119 rfl h116
              have h122 : eget e118 5 = .int .i64 (IntKind.i64.wrap (s1_2 + 1)) := envp he119 rfl rfl
              clear h115 h116
              cases h
              exact Ev.kid (bQ_n (RS := (laws_heldTallyS_b1_RS a1)) (RR := (laws_heldTallyS_b1_RR a1)) (And.intro h120 (And.intro h121 h122)))
  · refine Ev.condF h31 hb32 ?_
    refine Ev.ex ?_
    refine Ev.kseqE ?_
    cases h
    exact Ev.kid (bQ_x (RS := (laws_heldTallyS_b1_RS a1)) (RR := (laws_heldTallyS_b1_RR a1)) (by intro h; cases h) (And.intro rfl h29))
noncomputable def laws_heldTallyS (a1 : List Tally) (a2 : Int) : Option Int :=
  (Lw (laws_heldTallyS_b1 a1) (a2, 0)).bind fun r => match r with
  | (.inl _) =>
    some (-1)
  | (.inr y131) =>
    some y131
def laws_heldTallyS_enc (r : Int) : AV := .int .i64 r
theorem laws_heldTallyS_ok (a1 : List Tally) (a2 : Int) (r : Int) (h : laws_heldTallyS a1 a2 = some r) : Ev (fun k => CN k 18 [.sl none (a1.map Tally.c), .int .i64 a2] []) (fun p => rRes p.2 p.1 = laws_heldTallyS_enc r) := by
  unfold laws_heldTallyS at h
  refine Ev.enter (F := fun k => f18 (CN k) k) (fun k => callN_eq rfl Try.func18 rfl rfl rfl (by decide +kernel) (f18_eq _ _)) ?_
  refine Ev.seq ?_
  refine Ev.reg (fun _ => rfl) ?_
  refine Ev.nxk (mvO rfl) ?_
  refine Ev.rend ?_
  intro e1 he2
  have h3 : eget e1 0 = .sl none (a1.map Tally.c) := envp he2 rfl rfl
  have h4 : eget e1 1 = .int .i64 a2 := envp he2 rfl rfl
  refine Ev.kseqN ?_
  refine Ev.seq ?_
  refine Ev.seq ?_
  refine Ev.reg (fun _ => rfl) ?_
  refine Ev.nxk (mvO rfl) ?_
  refine Ev.rend ?_
  intro e5 he6
  have h7 : eget e5 0 = .sl none (a1.map Tally.c) := envp he6 rfl h3
  have h8 : eget e5 1 = .int .i64 a2 := envp he6 rfl h4
  have h9 : eget e5 5 = .int .i64 0 := envp he6 rfl rfl
  clear h3 h4
  refine Ev.kseqN ?_
  refine Ev.blk ?_
  obtain ⟨r123, hr124, h⟩ := bind_some h
  rcases r123 with _ | y131
  · refine Ev.loop (RS := laws_heldTallyS_b1_RS a1) (RR := laws_heldTallyS_b1_RR a1) (fun s r h e M hs => laws_heldTallyS_b1_ok a1 s r h e M hs) hr124 (And.intro h7 (And.intro h8 h9)) ?_
    intro x e126 M127 hq125
    obtain ⟨rfl, h128⟩ := hq125
    refine Ev.kblkR ?_
    refine Ev.kseqR ?_
    cases h
    exact Ev.kendR (resT h128 res0) rfl
  · refine Ev.loop (RS := laws_heldTallyS_b1_RS a1) (RR := laws_heldTallyS_b1_RR a1) (fun s r h e M hs => laws_heldTallyS_b1_ok a1 s r h e M hs) hr124 (And.intro h7 (And.intro h8 h9)) ?_
    intro x e129 M130 hq125
    obtain ⟨rfl, h132⟩ := hq125
    refine Ev.kblkE ?_
    refine Ev.kseqN ?_
    refine Ev.seq ?_
    refine Ev.reg (fun _ => rfl) ?_
    refine Ev.nxk (mvO h132) ?_
    refine Ev.nxk (mvO rfl) ?_
    refine Ev.rend ?_
    intro e133 he134
    have h135 : eget e133 4 = .int .i64 y131 := envp he134 rfl rfl
    clear h132
    refine Ev.kseqN ?_
    refine Ev.ex ?_
    cases h
    exact Ev.kendR (resT h135 res0) rfl
/-! ### loop.example/g01263/laws.heldInt64S (f17) -/
abbrev laws_heldInt64S_b1_S := Int × Int
abbrev laws_heldInt64S_b1_R := Unit ⊕ Int
def laws_heldInt64S_b1_RS (a1 : List Int) (s : laws_heldInt64S_b1_S) (e : Env) (M : Mem) : Prop := eget e 0 = .sl none (a1.map (cI .i64)) ∧ eget e 1 = .int .i64 s.1 ∧ eget e 5 = .int .i64 s.2
def laws_heldInt64S_b1_RR (a1 : List Int) (r : laws_heldInt64S_b1_R) (x : Ex) (e : Env) (M : Mem) : Prop :=
  match r with
  | (.inl g) => x = .ret ∧ eget e 4 = .int .i64 (-1)
  | (.inr g) => x = .ext 0 ∧ eget e 1 = .int .i64 g
noncomputable def laws_heldInt64S_b1 (a1 : List Int) : laws_heldInt64S_b1_S → Option (laws_heldInt64S_b1_S ⊕ laws_heldInt64S_b1_R) := fun (s1_1, s1_2) =>
  if (decide (s1_2 < (a1.length : Int))) = true then
    (rd a1 s1_2).bind fun x33 =>
    if (x33 != s1_1) = true then
      some (.inr (.inl ()))
    else
      some (.inl ((IntKind.i64.wrap (s1_1 + 1)), (IntKind.i64.wrap (s1_2 + 1))))
  else
    some (.inr (.inr s1_1))
theorem laws_heldInt64S_b1_ok (a1 : List Int) (s : laws_heldInt64S_b1_S) (r : laws_heldInt64S_b1_S ⊕ laws_heldInt64S_b1_R) (h : laws_heldInt64S_b1 a1 s = some r) (e : Env) (M : Mem) (hs : laws_heldInt64S_b1_RS a1 s e M) : Ev (fun k => (f17_l2 (CN k) k (prune [0, 1, 5] e) M).bind fun q => some q) (bQ (laws_heldInt64S_b1_RS a1) (laws_heldInt64S_b1_RR a1) r) := by
  obtain ⟨s1_1, s1_2⟩ := s
  unfold laws_heldInt64S_b1 at h
  obtain ⟨h20, h22, h24⟩ := hs
  generalize he19 : prune [0, 1, 5] e = e18
  have h21 := envp he19.symm rfl h20
  have h23 := envp he19.symm rfl h22
  have h25 := envp he19.symm rfl h24
  refine Ev.seq ?_
  refine Ev.seq ?_
  refine Ev.reg (fun _ => rfl) ?_
  refine Ev.nxk (mvO h25) ?_
  refine Ev.nxk (mvO h21) ?_
  refine Ev.nxk (lnS Try.underlying22 rfl) ?_
  refine Ev.nxk (bLss rfl rfl) ?_
  refine Ev.rend ?_
  intro e26 he27
  have h28 : eget e26 0 = .sl none (a1.map (cI .i64)) := envp he27 rfl h21
  have h29 : eget e26 1 = .int .i64 s1_1 := envp he27 rfl h23
  have h30 : eget e26 5 = .int .i64 s1_2 := envp he27 rfl h25
  have h31 : eget e26 9 = .bool (decide (s1_2 < (a1.length : Int))) := envp he27 rfl rfl
  clear h21 h23 h25
  refine Ev.kseqN ?_
  rcases ite_some h with ⟨hb32, h⟩ | ⟨hb32, h⟩
  · refine Ev.condT h31 hb32 ?_
    refine Ev.ex ?_
    refine Ev.kseqN ?_
    refine Ev.seq ?_
    refine Ev.blk ?_
    refine Ev.seq ?_
    refine Ev.seq ?_
    refine Ev.reg (fun _ => rfl) ?_
    refine Ev.nxk (mvO h28) ?_
    refine Ev.nxk (mvO h30) ?_
    obtain ⟨x33, hx34, h⟩ := bind_some h
    refine Ev.nxk (ixS rfl rfl hx34 (cI_fl _)) ?_
    refine Ev.nxk (ldP rfl rfl) ?_
    refine Ev.nxk (mvO h29) ?_
    refine Ev.nxk (bNeq rfl rfl) ?_
    refine Ev.rend ?_
    intro e35 he36
    have h37 : eget e35 0 = .sl none (a1.map (cI .i64)) := envp he36 rfl h28
    have h38 : eget e35 1 = .int .i64 s1_1 := envp he36 rfl h29
    have h39 : eget e35 5 = .int .i64 s1_2 := envp he36 rfl h30
    have h40 : eget e35 17 = .bool (x33 != s1_1) := envp he36 rfl rfl
    clear h28 h29 h30 h31
    refine Ev.kseqN ?_
    rcases ite_some h with ⟨hb41, h⟩ | ⟨hb41, h⟩
    · refine Ev.condT h40 hb41 ?_
      refine Ev.seq ?_
      refine Ev.reg (fun _ => rfl) ?_
      refine Ev.nxk (mvO rfl) ?_
      refine Ev.rend ?_
      intro e42 he43
      have h44 : eget e42 4 = .int .i64 (-1) := envp he43 rfl rfl
      clear h37 h38 h39 h40
      refine Ev.kseqN ?_
      refine Ev.ex ?_
      refine Ev.kseqR ?_
      refine Ev.kblkR ?_
      refine Ev.kseqR ?_
      cases h
      exact Ev.kid (bQ_x (RS := (laws_heldInt64S_b1_RS a1)) (RR := (laws_heldInt64S_b1_RR a1)) (by intro h; cases h) (And.intro rfl h44))
    · refine Ev.condF h40 hb41 ?_
      refine Ev.ex ?_
      refine Ev.kseqN ?_
      refine Ev.reg (fun _ => rfl) ?_
      refine Ev.nxk (mvO h38) ?_
      refine Ev.nxk (bAdd rfl rfl) ?_
      refine Ev.nxk (mvO rfl) ?_
      refine Ev.rend ?_
      intro e45 he46
      have h47 : eget e45 0 = .sl none (a1.map (cI .i64)) := envp he46 rfl h37
      have h48 : eget e45 1 = .int .i64 (IntKind.i64.wrap (s1_1 + 1)) := envp he46 rfl rfl
      have h49 : eget e45 5 = .int .i64 s1_2 := envp he46 rfl h39
      clear h37 h39 h40
      refine Ev.kblkN ?_
      refine Ev.kseqN ?_
      refine Ev.reg (fun _ => rfl) ?_
      refine Ev.nxk (mvO h49) ?_
      refine Ev.nxk (bAdd rfl rfl) ?_
      refine Ev.nxk (mvO rfl) ?_
      refine Ev.rend ?_
      intro e50 he51
      have h52 : eget e50 0 = .sl none (a1.map (cI .i64)) := envp he51 rfl h47
      have h53 : eget e50 1 = .int .i64 (IntKind.i64.wrap (s1_1 + 1)) := envp he51 rfl h48
      have h54 : eget e50 5 = .int .i64 (IntKind.i64.wrap (s1_2 + 1)) := envp he51 rfl rfl
      clear h47 h48
      cases h
      exact Ev.kid (bQ_n (RS := (laws_heldInt64S_b1_RS a1)) (RR := (laws_heldInt64S_b1_RR a1)) (And.intro h52 (And.intro h53 h54)))
  · refine Ev.condF h31 hb32 ?_
    refine Ev.ex ?_
    refine Ev.kseqE ?_
    cases h
    exact Ev.kid (bQ_x (RS := (laws_heldInt64S_b1_RS a1)) (RR := (laws_heldInt64S_b1_RR a1)) (by intro h; cases h) (And.intro rfl h29))
noncomputable def laws_heldInt64S (a1 : List Int) (a2 : Int) : Option Int :=
  (Lw (laws_heldInt64S_b1 a1) (a2, 0)).bind fun r => match r with
  | (.inl _) =>
    some (-1)
  | (.inr y63) =>
    some y63
def laws_heldInt64S_enc (r : Int) : AV := .int .i64 r
theorem laws_heldInt64S_ok (a1 : List Int) (a2 : Int) (r : Int) (h : laws_heldInt64S a1 a2 = some r) : Ev (fun k => CN k 17 [.sl none (a1.map (cI .i64)), .int .i64 a2] []) (fun p => rRes p.2 p.1 = laws_heldInt64S_enc r) := by
  unfold laws_heldInt64S at h
  refine Ev.enter (F := fun k => f17 (CN k) k) (fun k => callN_eq rfl Try.func17 rfl rfl rfl (by decide +kernel) (f17_eq _ _)) ?_
  refine Ev.seq ?_
  refine Ev.reg (fun _ => rfl) ?_
  refine Ev.nxk (mvO rfl) ?_
  refine Ev.rend ?_
  intro e1 he2
  have h3 : eget e1 0 = .sl none (a1.map (cI .i64)) := envp he2 rfl rfl
  have h4 : eget e1 1 = .int .i64 a2 := envp he2 rfl rfl
  refine Ev.kseqN ?_
  refine Ev.seq ?_
  refine Ev.seq ?_
  refine Ev.reg (fun _ => rfl) ?_
  refine Ev.nxk (mvO rfl) ?_
  refine Ev.rend ?_
  intro e5 he6
  have h7 : eget e5 0 = .sl none (a1.map (cI .i64)) := envp he6 rfl h3
  have h8 : eget e5 1 = .int .i64 a2 := envp he6 rfl h4
  have h9 : eget e5 5 = .int .i64 0 := envp he6 rfl rfl
  clear h3 h4
  refine Ev.kseqN ?_
  refine Ev.blk ?_
  obtain ⟨r55, hr56, h⟩ := bind_some h
  rcases r55 with _ | y63
  · refine Ev.loop (RS := laws_heldInt64S_b1_RS a1) (RR := laws_heldInt64S_b1_RR a1) (fun s r h e M hs => laws_heldInt64S_b1_ok a1 s r h e M hs) hr56 (And.intro h7 (And.intro h8 h9)) ?_
    intro x e58 M59 hq57
    obtain ⟨rfl, h60⟩ := hq57
    refine Ev.kblkR ?_
    refine Ev.kseqR ?_
    cases h
    exact Ev.kendR (resT h60 res0) rfl
  · refine Ev.loop (RS := laws_heldInt64S_b1_RS a1) (RR := laws_heldInt64S_b1_RR a1) (fun s r h e M hs => laws_heldInt64S_b1_ok a1 s r h e M hs) hr56 (And.intro h7 (And.intro h8 h9)) ?_
    intro x e61 M62 hq57
    obtain ⟨rfl, h64⟩ := hq57
    refine Ev.kblkE ?_
    refine Ev.kseqN ?_
    refine Ev.seq ?_
    refine Ev.reg (fun _ => rfl) ?_
    refine Ev.nxk (mvO h64) ?_
    refine Ev.nxk (mvO rfl) ?_
    refine Ev.rend ?_
    intro e65 he66
    have h67 : eget e65 4 = .int .i64 y63 := envp he66 rfl rfl
    clear h64
    refine Ev.kseqN ?_
    refine Ev.ex ?_
    cases h
    exact Ev.kendR (resT h67 res0) rfl
/-! ### loop.example/g01263/laws.eqTallyS (f15) -/
abbrev laws_eqTallyS_b1_S := Int
abbrev laws_eqTallyS_b1_R := Unit ⊕ Unit
def laws_eqTallyS_b1_RS (a1 : List Tally) (a2 : List Tally) (s : laws_eqTallyS_b1_S) (e : Env) (M : Mem) : Prop := eget e 0 = .sl none (a1.map Tally.c) ∧ eget e 1 = .sl none (a2.map Tally.c) ∧ eget e 5 = .int .i64 s
def laws_eqTallyS_b1_RR (a1 : List Tally) (a2 : List Tally) (r : laws_eqTallyS_b1_R) (x : Ex) (e : Env) (M : Mem) : Prop :=
  match r with
  | (.inl g) => x = .ret ∧ eget e 4 = .bool false
  | (.inr g) => x = .ext 0 ∧ True
noncomputable def laws_eqTallyS_b1 (a1 : List Tally) (a2 : List Tally) : laws_eqTallyS_b1_S → Option (laws_eqTallyS_b1_S ⊕ laws_eqTallyS_b1_R) := fun s1_1 =>
  if (decide (s1_1 < (a1.length : Int))) = true then
    (rd a1 s1_1).bind fun x42 =>
    (rd a2 s1_1).bind fun x44 =>
    (laws_eqTally x42 x44).bind fun r47 =>
    if r47 = true then
      some (.inl (IntKind.i64.wrap (s1_1 + 1)))
    else
      some (.inr (.inl ()))
  else
    some (.inr (.inr ()))
theorem laws_eqTallyS_b1_ok (a1 : List Tally) (a2 : List Tally) (s : laws_eqTallyS_b1_S) (r : laws_eqTallyS_b1_S ⊕ laws_eqTallyS_b1_R) (h : laws_eqTallyS_b1 a1 a2 s = some r) (e : Env) (M : Mem) (hs : laws_eqTallyS_b1_RS a1 a2 s e M) : Ev (fun k => (f15_l4 (CN k) k (prune [0, 1, 5] e) M).bind fun q => some q) (bQ (laws_eqTallyS_b1_RS a1 a2) (laws_eqTallyS_b1_RR a1 a2) r) := by
  revert h hs
  revert s
  intro s1_1 h hs
  unfold laws_eqTallyS_b1 at h
  obtain ⟨h29, h31, h33⟩ := hs
  generalize he28 : prune [0, 1, 5] e = e27
  have h30 := envp he28.symm rfl h29
  have h32 := envp he28.symm rfl h31
  have h34 := envp he28.symm rfl h33
  refine Ev.seq ?_
  refine Ev.seq ?_
  refine Ev.reg (fun _ => rfl) ?_
  refine Ev.nxk (mvO h34) ?_
  refine Ev.nxk (mvO h30) ?_
  refine Ev.nxk (lnS Try.underlying23 rfl) ?_
  refine Ev.nxk (bLss rfl rfl) ?_
  refine Ev.rend ?_
  intro e35 he36
  have h37 : eget e35 0 = .sl none (a1.map Tally.c) := envp he36 rfl h30
  have h38 : eget e35 1 = .sl none (a2.map Tally.c) := envp he36 rfl h32
  have h39 : eget e35 5 = .int .i64 s1_1 := envp he36 rfl h34
  have h40 : eget e35 14 = .bool (decide (s1_1 < (a1.length : Int))) := envp he36 rfl rfl
  clear h30 h32 h34
  refine Ev.kseqN ?_
  rcases ite_some h with ⟨hb41, h⟩ | ⟨hb41, h⟩
  · refine Ev.condT h40 hb41 ?_
    refine Ev.ex ?_
    refine Ev.kseqN ?_
    refine Ev.seq ?_
    refine Ev.blk ?_
    refine Ev.seq ?_
    refine Ev.regD (fun _ => rfl) ?_
    refine Ev.nfk (mvO h37) ?_
    refine Ev.nfk (mvO h39) ?_
    obtain ⟨x42, hx43, h⟩ := bind_some h
    refine Ev.nfk (ixS rfl rfl hx43 Tally.fl) ?_
    refine Ev.nfk (ldPA rfl rfl rfl) ?_
    refine Ev.nfk (mvO h38) ?_
    refine Ev.nfk (mvO h39) ?_
    obtain ⟨x44, hx45, h⟩ := bind_some h
    refine Ev.nfk (ixS rfl rfl hx45 Tally.fl) ?_
    refine Ev.nfk (ldPA rfl rfl rfl) ?_
    obtain ⟨r47, hx46, h⟩ := bind_some h
    refine Ev.nfc (Ev.call (v := .bool r47) rfl (cns rfl (cns rfl rfl)) rfl (laws_eqTally_ok x42 x44 _ hx46) (fun h => nomatch (show false = true from h))) ?_
    refine Ev.nfk (uNot rfl) ?_
    refine Ev.fend0 ?_
    refine Ev.rend ?_
    intro e48 he49
    have h50 : eget e48 0 = .sl none (a1.map Tally.c) := envp he49 rfl h37
    have h51 : eget e48 1 = .sl none (a2.map Tally.c) := envp he49 rfl h38
    have h52 : eget e48 5 = .int .i64 s1_1 := envp he49 rfl h39
    have h53 : eget e48 26 = .bool (!r47) := envp he49 rfl rfl
    clear h37 h38 h39 h40
    refine Ev.kseqN ?_
    rcases ite_some h with ⟨hb54, h⟩ | ⟨hb54, h⟩
    · refine Ev.condF h53 (congrArg Bool.not hb54) ?_
      refine Ev.ex ?_
      refine Ev.kblkN ?_
      refine Ev.kseqN ?_
      refine Ev.reg (fun _ => rfl) ?_
      refine Ev.nxk (mvO h52) ?_
      refine Ev.nxk (bAdd rfl rfl) ?_
      refine Ev.nxk (mvO rfl) ?_
      refine Ev.rend ?_
      intro e55 he56
      have h57 : eget e55 0 = .sl none (a1.map Tally.c) := envp he56 rfl h50
      have h58 : eget e55 1 = .sl none (a2.map Tally.c) := envp he56 rfl h51
      have h59 : eget e55 5 = .int .i64 (IntKind.i64.wrap (s1_1 + 1)) := envp he56 rfl rfl
      clear h50 h51 h53
      cases h
      exact Ev.kid (bQ_n (RS := (laws_eqTallyS_b1_RS a1 a2)) (RR := (laws_eqTallyS_b1_RR a1 a2)) (And.intro h57 (And.intro h58 h59)))
    · refine Ev.condT h53 (congrArg Bool.not hb54) ?_
      refine Ev.seq ?_
      refine Ev.reg (fun _ => rfl) ?_
      refine Ev.nxk (mvO rfl) ?_
      refine Ev.rend ?_
      intro e60 he61
      have h62 : eget e60 4 = .bool false := envp he61 rfl rfl
      clear h50 h51 h52 h53
      refine Ev.kseqN ?_
      refine Ev.ex ?_
      refine Ev.kblkR ?_
      refine Ev.kseqR ?_
      cases h
      exact Ev.kid (bQ_x (RS := (laws_eqTallyS_b1_RS a1 a2)) (RR := (laws_eqTallyS_b1_RR a1 a2)) (by intro h; cases h) (And.intro rfl h62))
  · refine Ev.condF h40 hb41 ?_
    refine Ev.ex ?_
    refine Ev.kseqE ?_
    cases h
    exact Ev.kid (bQ_x (RS := (laws_eqTallyS_b1_RS a1 a2)) (RR := (laws_eqTallyS_b1_RR a1 a2)) (by intro h; cases h) (And.intro rfl trivial))
noncomputable def laws_eqTallyS (a1 : List Tally) (a2 : List Tally) : Option Bool :=
  if ((a1.length : Int) != (a2.length : Int)) = true then
    some false
  else
    (Lw (laws_eqTallyS_b1 a1 a2) 0).bind fun r => match r with
    | (.inl _) =>
      some false
    | (.inr _) =>
      some true
def laws_eqTallyS_enc (r : Bool) : AV := .bool r
theorem laws_eqTallyS_ok (a1 : List Tally) (a2 : List Tally) (r : Bool) (h : laws_eqTallyS a1 a2 = some r) : Ev (fun k => CN k 15 [.sl none (a1.map Tally.c), .sl none (a2.map Tally.c)] []) (fun p => rRes p.2 p.1 = laws_eqTallyS_enc r) := by
  unfold laws_eqTallyS at h
  refine Ev.enter (F := fun k => f15 (CN k) k) (fun k => callN_eq rfl Try.func15 rfl rfl rfl (by decide +kernel) (f15_eq _ _)) ?_
  refine Ev.seq ?_
  refine Ev.reg (fun _ => rfl) ?_
  refine Ev.nxk (mvO rfl) ?_
  refine Ev.rend ?_
  intro e1 he2
  have h3 : eget e1 0 = .sl none (a1.map Tally.c) := envp he2 rfl rfl
  have h4 : eget e1 1 = .sl none (a2.map Tally.c) := envp he2 rfl rfl
  refine Ev.kseqN ?_
  refine Ev.seq ?_
  refine Ev.seq ?_
  refine Ev.reg (fun _ => rfl) ?_
  refine Ev.nxk (mvO h3) ?_
  refine Ev.nxk (lnS Try.underlying23 rfl) ?_
  refine Ev.nxk (mvO h4) ?_
  refine Ev.nxk (lnS Try.underlying23 rfl) ?_
  refine Ev.nxk (bNeq rfl rfl) ?_
  refine Ev.rend ?_
  intro e5 he6
  have h7 : eget e5 0 = .sl none (a1.map Tally.c) := envp he6 rfl h3
  have h8 : eget e5 1 = .sl none (a2.map Tally.c) := envp he6 rfl h4
  have h9 : eget e5 10 = .bool ((a1.length : Int) != (a2.length : Int)) := envp he6 rfl rfl
  clear h3 h4
  refine Ev.kseqN ?_
  rcases ite_some h with ⟨hb10, h⟩ | ⟨hb10, h⟩
  · refine Ev.condT h9 hb10 ?_
    refine Ev.seq ?_
    refine Ev.reg (fun _ => rfl) ?_
    refine Ev.nxk (mvO rfl) ?_
    refine Ev.rend ?_
    intro e11 he12
    have h13 : eget e11 4 = .bool false := envp he12 rfl rfl
    clear h7 h8 h9
    refine Ev.kseqN ?_
    refine Ev.ex ?_
    refine Ev.kseqR ?_
    cases h
    exact Ev.kendR (resT h13 res0) rfl
  · refine Ev.condF h9 hb10 ?_
    refine Ev.ex ?_
    refine Ev.kseqN ?_
    refine Ev.seq ?_
    refine Ev.seq ?_
    refine Ev.reg (fun _ => rfl) ?_
    refine Ev.nxk (mvO rfl) ?_
    refine Ev.rend ?_
    intro e14 he15
    have h16 : eget e14 0 = .sl none (a1.map Tally.c) := envp he15 rfl h7
    have h17 : eget e14 1 = .sl none (a2.map Tally.c) := envp he15 rfl h8
    have h18 : eget e14 5 = .int .i64 0 := envp he15 rfl rfl
    clear h7 h8 h9
    refine Ev.kseqN ?_
    refine Ev.blk ?_
    obtain ⟨r63, hr64, h⟩ := bind_some h
    rcases r63 with _ | _
    · refine Ev.loop (RS := laws_eqTallyS_b1_RS a1 a2) (RR := laws_eqTallyS_b1_RR a1 a2) (fun s r h e M hs => laws_eqTallyS_b1_ok a1 a2 s r h e M hs) hr64 (And.intro h16 (And.intro h17 h18)) ?_
      intro x e66 M67 hq65
      obtain ⟨rfl, h68⟩ := hq65
      refine Ev.kblkR ?_
      refine Ev.kseqR ?_
      cases h
      exact Ev.kendR (resT h68 res0) rfl
    · refine Ev.loop (RS := laws_eqTallyS_b1_RS a1 a2) (RR := laws_eqTallyS_b1_RR a1 a2) (fun s r h e M hs => laws_eqTallyS_b1_ok a1 a2 s r h e M hs) hr64 (And.intro h16 (And.intro h17 h18)) ?_
      intro x e69 M70 hq65
      obtain ⟨rfl, _⟩ := hq65
      refine Ev.kblkE ?_
      refine Ev.kseqN ?_
      refine Ev.seq ?_
      refine Ev.reg (fun _ => rfl) ?_
      refine Ev.nxk (mvO rfl) ?_
      refine Ev.rend ?_
      intro e71 he72
      have h73 : eget e71 4 = .bool true := envp he72 rfl rfl
      refine Ev.kseqN ?_
      refine Ev.ex ?_
      cases h
      exact Ev.kendR (resT h73 res0) rfl
/-! ### loop.example/g01263/impl.ValidBook (f14) -/
def impl_ValidBook_c1_Q (a1 : Book) (g : Bool) (q : Out) : Prop := q.1 = .nrm ∧ eget q.2.1 1 = .pt none [.int .i64 a1.Day, .sl none (a1.Cash.map (cI .i64)), .sl none (a1.Tallies.map Tally.c)] ∧ eget q.2.1 3 = .int .i64 (a1.Cash.length : Int) ∧ eget q.2.1 29 = .bool g
abbrev impl_ValidBook_b1_S := Int
abbrev impl_ValidBook_b1_R := Unit ⊕ Unit
def impl_ValidBook_b1_RS (a1 : Book) (s : impl_ValidBook_b1_S) (e : Env) (M : Mem) : Prop := eget e 1 = .pt none [.int .i64 a1.Day, .sl none (a1.Cash.map (cI .i64)), .sl none (a1.Tallies.map Tally.c)] ∧ eget e 3 = .int .i64 (a1.Cash.length : Int) ∧ eget e 31 = .sl none (a1.Cash.map (cI .i64)) ∧ eget e 32 = .int .i64 (a1.Cash.length : Int) ∧ eget e 33 = .int .i64 s
def impl_ValidBook_b1_RR (a1 : Book) (r : impl_ValidBook_b1_R) (x : Ex) (e : Env) (M : Mem) : Prop :=
  match r with
  | (.inl g) => x = .ret ∧ eget e 2 = .bool false
  | (.inr g) => x = .ext 0 ∧ eget e 1 = .pt none [.int .i64 a1.Day, .sl none (a1.Cash.map (cI .i64)), .sl none (a1.Tallies.map Tally.c)] ∧ eget e 3 = .int .i64 (a1.Cash.length : Int)
noncomputable def impl_ValidBook_b1 (a1 : Book) : impl_ValidBook_b1_S → Option (impl_ValidBook_b1_S ⊕ impl_ValidBook_b1_R) := fun s1_1 =>
  if (decide (s1_1 < (a1.Cash.length : Int))) = true then
    (rd a1.Cash s1_1).bind fun x83 =>
    (impl_isAmount x83).bind fun r94 =>
    if r94 = true then
      some (.inl (IntKind.i64.wrap (s1_1 + 1)))
    else
      some (.inr (.inl ()))
  else
    some (.inr (.inr ()))
theorem impl_ValidBook_b1_ok (a1 : Book) (s : impl_ValidBook_b1_S) (r : impl_ValidBook_b1_S ⊕ impl_ValidBook_b1_R) (h : impl_ValidBook_b1 a1 s = some r) (e : Env) (M : Mem) (hs : impl_ValidBook_b1_RS a1 s e M) : Ev (fun k => (f14_l5 (CN k) k (prune [1, 3, 31, 32, 33] e) M).bind fun q => some q) (bQ (impl_ValidBook_b1_RS a1) (impl_ValidBook_b1_RR a1) r) := by
  revert h hs
  revert s
  intro s1_1 h hs
  unfold impl_ValidBook_b1 at h
  obtain ⟨h64, h66, h68, h70, h72⟩ := hs
  generalize he63 : prune [1, 3, 31, 32, 33] e = e62
  have h65 := envp he63.symm rfl h64
  have h67 := envp he63.symm rfl h66
  have h69 := envp he63.symm rfl h68
  have h71 := envp he63.symm rfl h70
  have h73 := envp he63.symm rfl h72
  refine Ev.seq ?_
  refine Ev.reg (fun _ => rfl) ?_
  refine Ev.nxk (bLss h73 h71) ?_
  refine Ev.rend ?_
  intro e74 he75
  have h76 : eget e74 1 = .pt none [.int .i64 a1.Day, .sl none (a1.Cash.map (cI .i64)), .sl none (a1.Tallies.map Tally.c)] := envp he75 rfl h65
  have h77 : eget e74 3 = .int .i64 (a1.Cash.length : Int) := envp he75 rfl h67
  have h78 : eget e74 31 = .sl none (a1.Cash.map (cI .i64)) := envp he75 rfl h69
  have h79 : eget e74 32 = .int .i64 (a1.Cash.length : Int) := envp he75 rfl h71
  have h80 : eget e74 33 = .int .i64 s1_1 := envp he75 rfl h73
  have h81 : eget e74 34 = .bool (decide (s1_1 < (a1.Cash.length : Int))) := envp he75 rfl rfl
  clear h65 h67 h69 h71 h73
  refine Ev.kseqN ?_
  refine Ev.seq ?_
  rcases ite_some h with ⟨hb82, h⟩ | ⟨hb82, h⟩
  · refine Ev.condT h81 hb82 ?_
    refine Ev.ex ?_
    refine Ev.kseqN ?_
    refine Ev.seq ?_
    refine Ev.blk ?_
    refine Ev.seq ?_
    refine Ev.reg (fun _ => rfl) ?_
    obtain ⟨x83, hx84, h⟩ := bind_some h
    refine Ev.nxk (ixS h78 h80 hx84 (cI_fl _)) ?_
    refine Ev.nxk (ldP rfl rfl) ?_
    refine Ev.nxk (mvO rfl) ?_
    refine Ev.rend ?_
    intro e85 he86
    have h87 : eget e85 1 = .pt none [.int .i64 a1.Day, .sl none (a1.Cash.map (cI .i64)), .sl none (a1.Tallies.map Tally.c)] := envp he86 rfl h76
    have h88 : eget e85 3 = .int .i64 (a1.Cash.length : Int) := envp he86 rfl h77
    have h89 : eget e85 5 = .int .i64 x83 := envp he86 rfl rfl
    have h90 : eget e85 31 = .sl none (a1.Cash.map (cI .i64)) := envp he86 rfl h78
    have h91 : eget e85 32 = .int .i64 (a1.Cash.length : Int) := envp he86 rfl h79
    have h92 : eget e85 33 = .int .i64 s1_1 := envp he86 rfl h80
    clear h76 h77 h78 h79 h80 h81
    refine Ev.kseqN ?_
    refine Ev.seq ?_
    refine Ev.reg (fun _ => rfl) ?_
    refine Ev.nxk (mvO h89) ?_
    obtain ⟨r94, hx93, h⟩ := bind_some h
    refine Ev.nxck (Ev.call (v := .bool r94) rfl (cns rfl rfl) rfl (impl_isAmount_ok x83 _ hx93) (fun h => nomatch (show false = true from h))) ?_
    refine Ev.nxk (uNot rfl) ?_
    refine Ev.rend ?_
    intro e95 he96
    have h97 : eget e95 1 = .pt none [.int .i64 a1.Day, .sl none (a1.Cash.map (cI .i64)), .sl none (a1.Tallies.map Tally.c)] := envp he96 rfl h87
    have h98 : eget e95 3 = .int .i64 (a1.Cash.length : Int) := envp he96 rfl h88
    have h99 : eget e95 31 = .sl none (a1.Cash.map (cI .i64)) := envp he96 rfl h90
    have h100 : eget e95 32 = .int .i64 (a1.Cash.length : Int) := envp he96 rfl h91
    have h101 : eget e95 33 = .int .i64 s1_1 := envp he96 rfl h92
    have h102 : eget e95 39 = .bool (!r94) := envp he96 rfl rfl
    clear h87 h88 h89 h90 h91 h92
    refine Ev.kseqN ?_
    rcases ite_some h with ⟨hb103, h⟩ | ⟨hb103, h⟩
    · refine Ev.condF h102 (congrArg Bool.not hb103) ?_
      refine Ev.ex ?_
      refine Ev.kblkN ?_
      refine Ev.kseqN ?_
      refine Ev.reg (fun _ => rfl) ?_
      refine Ev.nxk (bAdd h101 rfl) ?_
      refine Ev.nxk (mvO rfl) ?_
      refine Ev.rend ?_
      intro e104 he105
      have h106 : eget e104 1 = .pt none [.int .i64 a1.Day, .sl none (a1.Cash.map (cI .i64)), .sl none (a1.Tallies.map Tally.c)] := envp he105 rfl h97
      have h107 : eget e104 3 = .int .i64 (a1.Cash.length : Int) := envp he105 rfl h98
      have h108 : eget e104 31 = .sl none (a1.Cash.map (cI .i64)) := envp he105 rfl h99
      have h109 : eget e104 32 = .int .i64 (a1.Cash.length : Int) := envp he105 rfl h100
      have h110 : eget e104 33 = .int .i64 (IntKind.i64.wrap (s1_1 + 1)) := envp he105 rfl rfl
      clear h100 h102 h97 h98 h99
      cases h
      exact Ev.kid (bQ_n (RS := (impl_ValidBook_b1_RS a1)) (RR := (impl_ValidBook_b1_RR a1)) (And.intro h106 (And.intro h107 (And.intro h108 (And.intro h109 h110)))))
    · refine Ev.condT h102 (congrArg Bool.not hb103) ?_
      refine Ev.seq ?_
      refine Ev.reg (fun _ => rfl) ?_
      refine Ev.nxk (mvO rfl) ?_
      refine Ev.rend ?_
      intro e111 he112
      have h113 : eget e111 2 = .bool false := envp he112 rfl rfl
      clear h100 h101 h102 h97 h98 h99
      refine Ev.kseqN ?_
      refine Ev.ex ?_
      refine Ev.kblkR ?_
      refine Ev.kseqR ?_
      cases h
      exact Ev.kid (bQ_x (RS := (impl_ValidBook_b1_RS a1)) (RR := (impl_ValidBook_b1_RR a1)) (by intro h; cases h) (And.intro rfl h113))
  · refine Ev.condF h81 hb82 ?_
    refine Ev.ex ?_
    refine Ev.kseqE ?_
    cases h
    exact Ev.kid (bQ_x (RS := (impl_ValidBook_b1_RS a1)) (RR := (impl_ValidBook_b1_RR a1)) (by intro h; cases h) (And.intro rfl (And.intro h76 h77)))
abbrev impl_ValidBook_b2_S := Int × Int
abbrev impl_ValidBook_b2_R := Unit ⊕ Unit
def impl_ValidBook_b2_RS (a1 : Book) (s : impl_ValidBook_b2_S) (e : Env) (M : Mem) : Prop := eget e 1 = .pt none [.int .i64 a1.Day, .sl none (a1.Cash.map (cI .i64)), .sl none (a1.Tallies.map Tally.c)] ∧ eget e 3 = .int .i64 (a1.Cash.length : Int) ∧ eget e 6 = .int .i64 s.1 ∧ eget e 42 = .sl none (a1.Tallies.map Tally.c) ∧ eget e 43 = .int .i64 (a1.Tallies.length : Int) ∧ eget e 44 = .int .i64 s.2
def impl_ValidBook_b2_RR (a1 : Book) (r : impl_ValidBook_b2_R) (x : Ex) (e : Env) (M : Mem) : Prop :=
  match r with
  | (.inl g) => x = .ret ∧ eget e 2 = .bool false
  | (.inr g) => x = .ext 2 ∧ True
noncomputable def impl_ValidBook_b2 (a1 : Book) : impl_ValidBook_b2_S → Option (impl_ValidBook_b2_S ⊕ impl_ValidBook_b2_R) := fun (s2_1, s2_2) =>
  if (decide (s2_2 < (a1.Tallies.length : Int))) = true then
    (rd a1.Tallies s2_2).bind fun x175 =>
    (impl_arePeople (a1.Cash.length : Int) [x175.Debtor, x175.Holder]).bind fun r194 =>
    if r194 = true then
      if (decide (x175.Cut < s2_1)) = true then
        some (.inr (.inl ()))
      else
        if (decide (x175.Cut > a1.Day)) = true then
          some (.inr (.inl ()))
        else
          if (decide (x175.Amount < 1)) = true then
            some (.inr (.inl ()))
          else
            if (decide (x175.Amount > 100000000)) = true then
              some (.inr (.inl ()))
            else
              if (decide (x175.Left < 0)) = true then
                some (.inr (.inl ()))
              else
                if (decide (x175.Left > x175.Amount)) = true then
                  some (.inr (.inl ()))
                else
                  if (x175.Debtor == x175.Holder) = true then
                    if (x175.Left != 0) = true then
                      some (.inr (.inl ()))
                    else
                      some (.inl (x175.Cut, (IntKind.i64.wrap (s2_2 + 1))))
                  else
                    some (.inl (x175.Cut, (IntKind.i64.wrap (s2_2 + 1))))
    else
      some (.inr (.inl ()))
  else
    some (.inr (.inr ()))
theorem impl_ValidBook_b2_ok (a1 : Book) (s : impl_ValidBook_b2_S) (r : impl_ValidBook_b2_S ⊕ impl_ValidBook_b2_R) (h : impl_ValidBook_b2 a1 s = some r) (e : Env) (M : Mem) (hs : impl_ValidBook_b2_RS a1 s e M) : Ev (fun k => (f14_l12 (CN k) k (prune [1, 3, 6, 42, 43, 44] e) M).bind fun q => some q) (bQ (impl_ValidBook_b2_RS a1) (impl_ValidBook_b2_RR a1) r) := by
  obtain ⟨s2_1, s2_2⟩ := s
  unfold impl_ValidBook_b2 at h
  obtain ⟨h153, h155, h157, h159, h161, h163⟩ := hs
  generalize he152 : prune [1, 3, 6, 42, 43, 44] e = e151
  have h154 := envp he152.symm rfl h153
  have h156 := envp he152.symm rfl h155
  have h158 := envp he152.symm rfl h157
  have h160 := envp he152.symm rfl h159
  have h162 := envp he152.symm rfl h161
  have h164 := envp he152.symm rfl h163
  refine Ev.seq ?_
  refine Ev.reg (fun _ => rfl) ?_
  refine Ev.nxk (bLss h164 h162) ?_
  refine Ev.rend ?_
  intro e165 he166
  have h167 : eget e165 1 = .pt none [.int .i64 a1.Day, .sl none (a1.Cash.map (cI .i64)), .sl none (a1.Tallies.map Tally.c)] := envp he166 rfl h154
  have h168 : eget e165 3 = .int .i64 (a1.Cash.length : Int) := envp he166 rfl h156
  have h169 : eget e165 6 = .int .i64 s2_1 := envp he166 rfl h158
  have h170 : eget e165 42 = .sl none (a1.Tallies.map Tally.c) := envp he166 rfl h160
  have h171 : eget e165 43 = .int .i64 (a1.Tallies.length : Int) := envp he166 rfl h162
  have h172 : eget e165 44 = .int .i64 s2_2 := envp he166 rfl h164
  have h173 : eget e165 45 = .bool (decide (s2_2 < (a1.Tallies.length : Int))) := envp he166 rfl rfl
  clear h154 h156 h158 h160 h162 h164
  refine Ev.kseqN ?_
  refine Ev.seq ?_
  rcases ite_some h with ⟨hb174, h⟩ | ⟨hb174, h⟩
  · refine Ev.condT h173 hb174 ?_
    refine Ev.ex ?_
    refine Ev.kseqN ?_
    refine Ev.seq ?_
    refine Ev.blk ?_
    refine Ev.seq ?_
    refine Ev.reg (fun _ => rfl) ?_
    obtain ⟨x175, hx176, h⟩ := bind_some h
    refine Ev.nxk (ixS h170 h172 hx176 Tally.fl) ?_
    refine Ev.nxk (ldPA rfl rfl rfl) ?_
    refine Ev.nxpush (alO zero40) ?_
    intro M178 hM179
    have o180 : M178[M.length]? = some (.live ⟨.box, 40, 5, [[.int .i64 0, .int .i64 0, .int .i64 0, .int .i64 0, .int .i64 0]]⟩) := push_new hM179
    refine Ev.nxput (stO rfl rfl o180 rfl rfl ⟨rfl, ble rfl⟩ rfl rfl) ?_
    intro M181 hM182
    have o183 : M181[M.length]? = some (.live ⟨.box, 40, 5, [[.int .i64 x175.Debtor, .int .i64 x175.Holder, .int .i64 x175.Cut, .int .i64 x175.Amount, .int .i64 x175.Left]]⟩) := set_same hM182 o180
    refine Ev.rend ?_
    intro e184 he185
    have h186 : eget e184 1 = .pt none [.int .i64 a1.Day, .sl none (a1.Cash.map (cI .i64)), .sl none (a1.Tallies.map Tally.c)] := envp he185 rfl h167
    have h187 : eget e184 3 = .int .i64 (a1.Cash.length : Int) := envp he185 rfl h168
    have h188 : eget e184 6 = .int .i64 s2_1 := envp he185 rfl h169
    have h189 : eget e184 8 = .loc M.length 1 0 0 := envp he185 rfl rfl
    have h190 : eget e184 42 = .sl none (a1.Tallies.map Tally.c) := envp he185 rfl h170
    have h191 : eget e184 43 = .int .i64 (a1.Tallies.length : Int) := envp he185 rfl h171
    have h192 : eget e184 44 = .int .i64 s2_2 := envp he185 rfl h172
    clear h167 h168 h169 h170 h171 h172 h173
    refine Ev.kseqN ?_
    refine Ev.seq ?_
    refine Ev.seq ?_
    refine Ev.reg (fun _ => rfl) ?_
    refine Ev.nxk (mvO h187) ?_
    refine Ev.nxk (faO h189 o183 rfl) ?_
    refine Ev.nxk (ldO rfl o183 rfl rfl rfl) ?_
    refine Ev.nxk (faO h189 o183 rfl) ?_
    refine Ev.nxk (ldO rfl o183 rfl rfl rfl) ?_
    refine Ev.nxk (litI (cns rfl (cns rfl rfl)) rfl ⟨rfl, by decide⟩) ?_
    obtain ⟨r194, hx193, h⟩ := bind_some h
    refine Ev.nxck (Ev.call (v := .bool r194) rfl (cns rfl (cns rfl rfl)) rfl (impl_arePeople_ok (a1.Cash.length : Int) [x175.Debtor, x175.Holder] _ hx193) (fun h => nomatch (show false = true from h))) ?_
    refine Ev.nxk (uNot rfl) ?_
    refine Ev.nxk (mvO rfl) ?_
    rcases ite_some h with ⟨hb195, h⟩ | ⟨hb195, h⟩
    · refine Ev.nxk (guF rfl (congrArg Bool.not hb195) (faO h189 o183 rfl)) ?_
      refine Ev.nxk (guF rfl (congrArg Bool.not hb195) (ldO rfl o183 rfl rfl rfl)) ?_
      refine Ev.nxk (guF rfl (congrArg Bool.not hb195) (mvO h188)) ?_
      refine Ev.nxk (guF rfl (congrArg Bool.not hb195) (bLss rfl rfl)) ?_
      refine Ev.nxk (pkF rfl (congrArg Bool.not hb195) rfl) ?_
      refine Ev.nxk (mvO rfl) ?_
      rcases ite_some h with ⟨hb196, h⟩ | ⟨hb196, h⟩
      · refine Ev.nxk (gsF rfl hb196) ?_
        refine Ev.nxk (gsF rfl hb196) ?_
        refine Ev.nxk (gsF rfl hb196) ?_
        refine Ev.nxk (gsF rfl hb196) ?_
        refine Ev.nxk (gsF rfl hb196) ?_
        refine Ev.nxk (pkT rfl hb196 rfl) ?_
        refine Ev.nxk (mvO rfl) ?_
        refine Ev.nxk (gsF rfl rfl) ?_
        refine Ev.nxk (gsF rfl rfl) ?_
        refine Ev.nxk (gsF rfl rfl) ?_
        refine Ev.nxk (pkT rfl rfl rfl) ?_
        refine Ev.nxk (mvO rfl) ?_
        refine Ev.nxk (gsF rfl rfl) ?_
        refine Ev.nxk (gsF rfl rfl) ?_
        refine Ev.nxk (gsF rfl rfl) ?_
        refine Ev.nxk (pkT rfl rfl rfl) ?_
        refine Ev.nxk (mvO rfl) ?_
        refine Ev.nxk (gsF rfl rfl) ?_
        refine Ev.nxk (gsF rfl rfl) ?_
        refine Ev.nxk (gsF rfl rfl) ?_
        refine Ev.nxk (pkT rfl rfl rfl) ?_
        refine Ev.nxk (mvO rfl) ?_
        refine Ev.nxk (gsF rfl rfl) ?_
        refine Ev.nxk (gsF rfl rfl) ?_
        refine Ev.nxk (gsF rfl rfl) ?_
        refine Ev.nxk (gsF rfl rfl) ?_
        refine Ev.nxk (gsF rfl rfl) ?_
        refine Ev.nxk (pkT rfl rfl rfl) ?_
        refine Ev.nxk (mvO rfl) ?_
        refine Ev.nxk (gsF rfl rfl) ?_
        refine Ev.nxk (gsF rfl rfl) ?_
        refine Ev.nxk (gsF rfl rfl) ?_
        refine Ev.nxk (gsF rfl rfl) ?_
        refine Ev.nxk (gsF rfl rfl) ?_
        refine Ev.nxk (gsF rfl rfl) ?_
        refine Ev.nxk (gsU rfl) ?_
        refine Ev.nxk (gsU rfl) ?_
        refine Ev.nxk (gsU rfl) ?_
        refine Ev.nxk (gsF rfl rfl) ?_
        refine Ev.nxk (pkT rfl rfl rfl) ?_
        refine Ev.rend ?_
        intro e197 he198
        have h199 : eget e197 1 = .pt none [.int .i64 a1.Day, .sl none (a1.Cash.map (cI .i64)), .sl none (a1.Tallies.map Tally.c)] := envp he198 rfl h186
        have h200 : eget e197 3 = .int .i64 (a1.Cash.length : Int) := envp he198 rfl h187
        have h201 : eget e197 8 = .loc M.length 1 0 0 := envp he198 rfl h189
        have h202 : eget e197 42 = .sl none (a1.Tallies.map Tally.c) := envp he198 rfl h190
        have h203 : eget e197 43 = .int .i64 (a1.Tallies.length : Int) := envp he198 rfl h191
        have h204 : eget e197 44 = .int .i64 s2_2 := envp he198 rfl h192
        have h205 : eget e197 102 = .bool true := envp he198 rfl rfl
        clear h186 h187 h188 h189 h190 h191 h192
        refine Ev.kseqN ?_
        refine Ev.condT h205 rfl ?_
        refine Ev.seq ?_
        refine Ev.reg (fun _ => rfl) ?_
        refine Ev.nxk (mvO rfl) ?_
        refine Ev.rend ?_
        intro e206 he207
        have h208 : eget e206 2 = .bool false := envp he207 rfl rfl
        clear h199 h200 h201 h202 h203 h204 h205
        refine Ev.kseqN ?_
        refine Ev.ex ?_
        refine Ev.kseqR ?_
        refine Ev.kblkR ?_
        refine Ev.kseqR ?_
        cases h
        exact Ev.kid (bQ_x (RS := (impl_ValidBook_b2_RS a1)) (RR := (impl_ValidBook_b2_RR a1)) (by intro h; cases h) (And.intro rfl h208))
      · refine Ev.nxk (guF rfl hb196 (faO h189 o183 rfl)) ?_
        refine Ev.nxk (guF rfl hb196 (ldO rfl o183 rfl rfl rfl)) ?_
        refine Ev.nxk (guF rfl hb196 (faP h186 ⟨ble rfl, blt rfl⟩ rfl)) ?_
        refine Ev.nxk (guF rfl hb196 (ldP rfl rfl)) ?_
        refine Ev.nxk (guF rfl hb196 (bGtr rfl rfl)) ?_
        refine Ev.nxk (pkF rfl hb196 rfl) ?_
        refine Ev.nxk (mvO rfl) ?_
        rcases ite_some h with ⟨hb209, h⟩ | ⟨hb209, h⟩
        · refine Ev.nxk (gsF rfl hb209) ?_
          refine Ev.nxk (gsF rfl hb209) ?_
          refine Ev.nxk (gsF rfl hb209) ?_
          refine Ev.nxk (pkT rfl hb209 rfl) ?_
          refine Ev.nxk (mvO rfl) ?_
          refine Ev.nxk (gsF rfl rfl) ?_
          refine Ev.nxk (gsF rfl rfl) ?_
          refine Ev.nxk (gsF rfl rfl) ?_
          refine Ev.nxk (pkT rfl rfl rfl) ?_
          refine Ev.nxk (mvO rfl) ?_
          refine Ev.nxk (gsF rfl rfl) ?_
          refine Ev.nxk (gsF rfl rfl) ?_
          refine Ev.nxk (gsF rfl rfl) ?_
          refine Ev.nxk (pkT rfl rfl rfl) ?_
          refine Ev.nxk (mvO rfl) ?_
          refine Ev.nxk (gsF rfl rfl) ?_
          refine Ev.nxk (gsF rfl rfl) ?_
          refine Ev.nxk (gsF rfl rfl) ?_
          refine Ev.nxk (gsF rfl rfl) ?_
          refine Ev.nxk (gsF rfl rfl) ?_
          refine Ev.nxk (pkT rfl rfl rfl) ?_
          refine Ev.nxk (mvO rfl) ?_
          refine Ev.nxk (gsF rfl rfl) ?_
          refine Ev.nxk (gsF rfl rfl) ?_
          refine Ev.nxk (gsF rfl rfl) ?_
          refine Ev.nxk (gsF rfl rfl) ?_
          refine Ev.nxk (gsF rfl rfl) ?_
          refine Ev.nxk (gsF rfl rfl) ?_
          refine Ev.nxk (gsU rfl) ?_
          refine Ev.nxk (gsU rfl) ?_
          refine Ev.nxk (gsU rfl) ?_
          refine Ev.nxk (gsF rfl rfl) ?_
          refine Ev.nxk (pkT rfl rfl rfl) ?_
          refine Ev.rend ?_
          intro e210 he211
          have h212 : eget e210 1 = .pt none [.int .i64 a1.Day, .sl none (a1.Cash.map (cI .i64)), .sl none (a1.Tallies.map Tally.c)] := envp he211 rfl h186
          have h213 : eget e210 3 = .int .i64 (a1.Cash.length : Int) := envp he211 rfl h187
          have h214 : eget e210 8 = .loc M.length 1 0 0 := envp he211 rfl h189
          have h215 : eget e210 42 = .sl none (a1.Tallies.map Tally.c) := envp he211 rfl h190
          have h216 : eget e210 43 = .int .i64 (a1.Tallies.length : Int) := envp he211 rfl h191
          have h217 : eget e210 44 = .int .i64 s2_2 := envp he211 rfl h192
          have h218 : eget e210 102 = .bool true := envp he211 rfl rfl
          clear h186 h187 h188 h189 h190 h191 h192
          refine Ev.kseqN ?_
          refine Ev.condT h218 rfl ?_
          refine Ev.seq ?_
          refine Ev.reg (fun _ => rfl) ?_
          refine Ev.nxk (mvO rfl) ?_
          refine Ev.rend ?_
          intro e219 he220
          have h221 : eget e219 2 = .bool false := envp he220 rfl rfl
          clear h212 h213 h214 h215 h216 h217 h218
          refine Ev.kseqN ?_
          refine Ev.ex ?_
          refine Ev.kseqR ?_
          refine Ev.kblkR ?_
          refine Ev.kseqR ?_
          cases h
          exact Ev.kid (bQ_x (RS := (impl_ValidBook_b2_RS a1)) (RR := (impl_ValidBook_b2_RR a1)) (by intro h; cases h) (And.intro rfl h221))
        · refine Ev.nxk (guF rfl hb209 (faO h189 o183 rfl)) ?_
          refine Ev.nxk (guF rfl hb209 (ldO rfl o183 rfl rfl rfl)) ?_
          refine Ev.nxk (guF rfl hb209 (bLss rfl rfl)) ?_
          refine Ev.nxk (pkF rfl hb209 rfl) ?_
          refine Ev.nxk (mvO rfl) ?_
          rcases ite_some h with ⟨hb222, h⟩ | ⟨hb222, h⟩
          · refine Ev.nxk (gsF rfl hb222) ?_
            refine Ev.nxk (gsF rfl hb222) ?_
            refine Ev.nxk (gsF rfl hb222) ?_
            refine Ev.nxk (pkT rfl hb222 rfl) ?_
            refine Ev.nxk (mvO rfl) ?_
            refine Ev.nxk (gsF rfl rfl) ?_
            refine Ev.nxk (gsF rfl rfl) ?_
            refine Ev.nxk (gsF rfl rfl) ?_
            refine Ev.nxk (pkT rfl rfl rfl) ?_
            refine Ev.nxk (mvO rfl) ?_
            refine Ev.nxk (gsF rfl rfl) ?_
            refine Ev.nxk (gsF rfl rfl) ?_
            refine Ev.nxk (gsF rfl rfl) ?_
            refine Ev.nxk (gsF rfl rfl) ?_
            refine Ev.nxk (gsF rfl rfl) ?_
            refine Ev.nxk (pkT rfl rfl rfl) ?_
            refine Ev.nxk (mvO rfl) ?_
            refine Ev.nxk (gsF rfl rfl) ?_
            refine Ev.nxk (gsF rfl rfl) ?_
            refine Ev.nxk (gsF rfl rfl) ?_
            refine Ev.nxk (gsF rfl rfl) ?_
            refine Ev.nxk (gsF rfl rfl) ?_
            refine Ev.nxk (gsF rfl rfl) ?_
            refine Ev.nxk (gsU rfl) ?_
            refine Ev.nxk (gsU rfl) ?_
            refine Ev.nxk (gsU rfl) ?_
            refine Ev.nxk (gsF rfl rfl) ?_
            refine Ev.nxk (pkT rfl rfl rfl) ?_
            refine Ev.rend ?_
            intro e223 he224
            have h225 : eget e223 1 = .pt none [.int .i64 a1.Day, .sl none (a1.Cash.map (cI .i64)), .sl none (a1.Tallies.map Tally.c)] := envp he224 rfl h186
            have h226 : eget e223 3 = .int .i64 (a1.Cash.length : Int) := envp he224 rfl h187
            have h227 : eget e223 8 = .loc M.length 1 0 0 := envp he224 rfl h189
            have h228 : eget e223 42 = .sl none (a1.Tallies.map Tally.c) := envp he224 rfl h190
            have h229 : eget e223 43 = .int .i64 (a1.Tallies.length : Int) := envp he224 rfl h191
            have h230 : eget e223 44 = .int .i64 s2_2 := envp he224 rfl h192
            have h231 : eget e223 102 = .bool true := envp he224 rfl rfl
            clear h186 h187 h188 h189 h190 h191 h192
            refine Ev.kseqN ?_
            refine Ev.condT h231 rfl ?_
            refine Ev.seq ?_
            refine Ev.reg (fun _ => rfl) ?_
            refine Ev.nxk (mvO rfl) ?_
            refine Ev.rend ?_
            intro e232 he233
            have h234 : eget e232 2 = .bool false := envp he233 rfl rfl
            clear h225 h226 h227 h228 h229 h230 h231
            refine Ev.kseqN ?_
            refine Ev.ex ?_
            refine Ev.kseqR ?_
            refine Ev.kblkR ?_
            refine Ev.kseqR ?_
            cases h
            exact Ev.kid (bQ_x (RS := (impl_ValidBook_b2_RS a1)) (RR := (impl_ValidBook_b2_RR a1)) (by intro h; cases h) (And.intro rfl h234))
          · refine Ev.nxk (guF rfl hb222 (faO h189 o183 rfl)) ?_
            refine Ev.nxk (guF rfl hb222 (ldO rfl o183 rfl rfl rfl)) ?_
            refine Ev.nxk (guF rfl hb222 (bGtr rfl rfl)) ?_
            refine Ev.nxk (pkF rfl hb222 rfl) ?_
            refine Ev.nxk (mvO rfl) ?_
            rcases ite_some h with ⟨hb235, h⟩ | ⟨hb235, h⟩
            · refine Ev.nxk (gsF rfl hb235) ?_
              refine Ev.nxk (gsF rfl hb235) ?_
              refine Ev.nxk (gsF rfl hb235) ?_
              refine Ev.nxk (pkT rfl hb235 rfl) ?_
              refine Ev.nxk (mvO rfl) ?_
              refine Ev.nxk (gsF rfl rfl) ?_
              refine Ev.nxk (gsF rfl rfl) ?_
              refine Ev.nxk (gsF rfl rfl) ?_
              refine Ev.nxk (gsF rfl rfl) ?_
              refine Ev.nxk (gsF rfl rfl) ?_
              refine Ev.nxk (pkT rfl rfl rfl) ?_
              refine Ev.nxk (mvO rfl) ?_
              refine Ev.nxk (gsF rfl rfl) ?_
              refine Ev.nxk (gsF rfl rfl) ?_
              refine Ev.nxk (gsF rfl rfl) ?_
              refine Ev.nxk (gsF rfl rfl) ?_
              refine Ev.nxk (gsF rfl rfl) ?_
              refine Ev.nxk (gsF rfl rfl) ?_
              refine Ev.nxk (gsU rfl) ?_
              refine Ev.nxk (gsU rfl) ?_
              refine Ev.nxk (gsU rfl) ?_
              refine Ev.nxk (gsF rfl rfl) ?_
              refine Ev.nxk (pkT rfl rfl rfl) ?_
              refine Ev.rend ?_
              intro e236 he237
              have h238 : eget e236 1 = .pt none [.int .i64 a1.Day, .sl none (a1.Cash.map (cI .i64)), .sl none (a1.Tallies.map Tally.c)] := envp he237 rfl h186
              have h239 : eget e236 3 = .int .i64 (a1.Cash.length : Int) := envp he237 rfl h187
              have h240 : eget e236 8 = .loc M.length 1 0 0 := envp he237 rfl h189
              have h241 : eget e236 42 = .sl none (a1.Tallies.map Tally.c) := envp he237 rfl h190
              have h242 : eget e236 43 = .int .i64 (a1.Tallies.length : Int) := envp he237 rfl h191
              have h243 : eget e236 44 = .int .i64 s2_2 := envp he237 rfl h192
              have h244 : eget e236 102 = .bool true := envp he237 rfl rfl
              clear h186 h187 h188 h189 h190 h191 h192
              refine Ev.kseqN ?_
              refine Ev.condT h244 rfl ?_
              refine Ev.seq ?_
              refine Ev.reg (fun _ => rfl) ?_
              refine Ev.nxk (mvO rfl) ?_
              refine Ev.rend ?_
              intro e245 he246
              have h247 : eget e245 2 = .bool false := envp he246 rfl rfl
              clear h238 h239 h240 h241 h242 h243 h244
              refine Ev.kseqN ?_
              refine Ev.ex ?_
              refine Ev.kseqR ?_
              refine Ev.kblkR ?_
              refine Ev.kseqR ?_
              cases h
              exact Ev.kid (bQ_x (RS := (impl_ValidBook_b2_RS a1)) (RR := (impl_ValidBook_b2_RR a1)) (by intro h; cases h) (And.intro rfl h247))
            · refine Ev.nxk (guF rfl hb235 (faO h189 o183 rfl)) ?_
              refine Ev.nxk (guF rfl hb235 (ldO rfl o183 rfl rfl rfl)) ?_
              refine Ev.nxk (guF rfl hb235 (bLss rfl rfl)) ?_
              refine Ev.nxk (pkF rfl hb235 rfl) ?_
              refine Ev.nxk (mvO rfl) ?_
              rcases ite_some h with ⟨hb248, h⟩ | ⟨hb248, h⟩
              · refine Ev.nxk (gsF rfl hb248) ?_
                refine Ev.nxk (gsF rfl hb248) ?_
                refine Ev.nxk (gsF rfl hb248) ?_
                refine Ev.nxk (gsF rfl hb248) ?_
                refine Ev.nxk (gsF rfl hb248) ?_
                refine Ev.nxk (pkT rfl hb248 rfl) ?_
                refine Ev.nxk (mvO rfl) ?_
                refine Ev.nxk (gsF rfl rfl) ?_
                refine Ev.nxk (gsF rfl rfl) ?_
                refine Ev.nxk (gsF rfl rfl) ?_
                refine Ev.nxk (gsF rfl rfl) ?_
                refine Ev.nxk (gsF rfl rfl) ?_
                refine Ev.nxk (gsF rfl rfl) ?_
                refine Ev.nxk (gsU rfl) ?_
                refine Ev.nxk (gsU rfl) ?_
                refine Ev.nxk (gsU rfl) ?_
                refine Ev.nxk (gsF rfl rfl) ?_
                refine Ev.nxk (pkT rfl rfl rfl) ?_
                refine Ev.rend ?_
                intro e249 he250
                have h251 : eget e249 1 = .pt none [.int .i64 a1.Day, .sl none (a1.Cash.map (cI .i64)), .sl none (a1.Tallies.map Tally.c)] := envp he250 rfl h186
                have h252 : eget e249 3 = .int .i64 (a1.Cash.length : Int) := envp he250 rfl h187
                have h253 : eget e249 8 = .loc M.length 1 0 0 := envp he250 rfl h189
                have h254 : eget e249 42 = .sl none (a1.Tallies.map Tally.c) := envp he250 rfl h190
                have h255 : eget e249 43 = .int .i64 (a1.Tallies.length : Int) := envp he250 rfl h191
                have h256 : eget e249 44 = .int .i64 s2_2 := envp he250 rfl h192
                have h257 : eget e249 102 = .bool true := envp he250 rfl rfl
                clear h186 h187 h188 h189 h190 h191 h192
                refine Ev.kseqN ?_
                refine Ev.condT h257 rfl ?_
                refine Ev.seq ?_
                refine Ev.reg (fun _ => rfl) ?_
                refine Ev.nxk (mvO rfl) ?_
                refine Ev.rend ?_
                intro e258 he259
                have h260 : eget e258 2 = .bool false := envp he259 rfl rfl
                clear h251 h252 h253 h254 h255 h256 h257
                refine Ev.kseqN ?_
                refine Ev.ex ?_
                refine Ev.kseqR ?_
                refine Ev.kblkR ?_
                refine Ev.kseqR ?_
                cases h
                exact Ev.kid (bQ_x (RS := (impl_ValidBook_b2_RS a1)) (RR := (impl_ValidBook_b2_RR a1)) (by intro h; cases h) (And.intro rfl h260))
              · refine Ev.nxk (guF rfl hb248 (faO h189 o183 rfl)) ?_
                refine Ev.nxk (guF rfl hb248 (ldO rfl o183 rfl rfl rfl)) ?_
                refine Ev.nxk (guF rfl hb248 (faO h189 o183 rfl)) ?_
                refine Ev.nxk (guF rfl hb248 (ldO rfl o183 rfl rfl rfl)) ?_
                refine Ev.nxk (guF rfl hb248 (bGtr rfl rfl)) ?_
                refine Ev.nxk (pkF rfl hb248 rfl) ?_
                refine Ev.nxk (mvO rfl) ?_
                rcases ite_some h with ⟨hb261, h⟩ | ⟨hb261, h⟩
                · refine Ev.nxk (gsF rfl hb261) ?_
                  refine Ev.nxk (gsF rfl hb261) ?_
                  refine Ev.nxk (gsF rfl hb261) ?_
                  refine Ev.nxk (gsF rfl hb261) ?_
                  refine Ev.nxk (gsF rfl hb261) ?_
                  refine Ev.nxk (gsF rfl hb261) ?_
                  refine Ev.nxk (gsU rfl) ?_
                  refine Ev.nxk (gsU rfl) ?_
                  refine Ev.nxk (gsU rfl) ?_
                  refine Ev.nxk (gsF rfl hb261) ?_
                  refine Ev.nxk (pkT rfl hb261 rfl) ?_
                  refine Ev.rend ?_
                  intro e262 he263
                  have h264 : eget e262 1 = .pt none [.int .i64 a1.Day, .sl none (a1.Cash.map (cI .i64)), .sl none (a1.Tallies.map Tally.c)] := envp he263 rfl h186
                  have h265 : eget e262 3 = .int .i64 (a1.Cash.length : Int) := envp he263 rfl h187
                  have h266 : eget e262 8 = .loc M.length 1 0 0 := envp he263 rfl h189
                  have h267 : eget e262 42 = .sl none (a1.Tallies.map Tally.c) := envp he263 rfl h190
                  have h268 : eget e262 43 = .int .i64 (a1.Tallies.length : Int) := envp he263 rfl h191
                  have h269 : eget e262 44 = .int .i64 s2_2 := envp he263 rfl h192
                  have h270 : eget e262 102 = .bool true := envp he263 rfl rfl
                  clear h186 h187 h188 h189 h190 h191 h192
                  refine Ev.kseqN ?_
                  refine Ev.condT h270 rfl ?_
                  refine Ev.seq ?_
                  refine Ev.reg (fun _ => rfl) ?_
                  refine Ev.nxk (mvO rfl) ?_
                  refine Ev.rend ?_
                  intro e271 he272
                  have h273 : eget e271 2 = .bool false := envp he272 rfl rfl
                  clear h264 h265 h266 h267 h268 h269 h270
                  refine Ev.kseqN ?_
                  refine Ev.ex ?_
                  refine Ev.kseqR ?_
                  refine Ev.kblkR ?_
                  refine Ev.kseqR ?_
                  cases h
                  exact Ev.kid (bQ_x (RS := (impl_ValidBook_b2_RS a1)) (RR := (impl_ValidBook_b2_RR a1)) (by intro h; cases h) (And.intro rfl h273))
                · refine Ev.nxk (guF rfl hb261 (faO h189 o183 rfl)) ?_
                  refine Ev.nxk (guF rfl hb261 (ldO rfl o183 rfl rfl rfl)) ?_
                  refine Ev.nxk (guF rfl hb261 (faO h189 o183 rfl)) ?_
                  refine Ev.nxk (guF rfl hb261 (ldO rfl o183 rfl rfl rfl)) ?_
                  refine Ev.nxk (guF rfl hb261 (bEql rfl rfl)) ?_
                  refine Ev.nxk (guF rfl hb261 (mvO rfl)) ?_
                  rcases ite_some h with ⟨hb274, h⟩ | ⟨hb274, h⟩
                  · refine Ev.nxk (guT rfl hb274 (faO h189 o183 rfl)) ?_
                    refine Ev.nxk (guT rfl hb274 (ldO rfl o183 rfl rfl rfl)) ?_
                    refine Ev.nxk (guT rfl hb274 (bNeq rfl rfl)) ?_
                    refine Ev.nxk (guF rfl hb261 (pkT rfl hb274 rfl)) ?_
                    refine Ev.nxk (pkF rfl hb261 rfl) ?_
                    refine Ev.rend ?_
                    intro e275 he276
                    have h277 : eget e275 1 = .pt none [.int .i64 a1.Day, .sl none (a1.Cash.map (cI .i64)), .sl none (a1.Tallies.map Tally.c)] := envp he276 rfl h186
                    have h278 : eget e275 3 = .int .i64 (a1.Cash.length : Int) := envp he276 rfl h187
                    have h279 : eget e275 8 = .loc M.length 1 0 0 := envp he276 rfl h189
                    have h280 : eget e275 42 = .sl none (a1.Tallies.map Tally.c) := envp he276 rfl h190
                    have h281 : eget e275 43 = .int .i64 (a1.Tallies.length : Int) := envp he276 rfl h191
                    have h282 : eget e275 44 = .int .i64 s2_2 := envp he276 rfl h192
                    have h283 : eget e275 102 = .bool (x175.Left != 0) := envp he276 rfl rfl
                    clear h186 h187 h188 h189 h190 h191 h192
                    refine Ev.kseqN ?_
                    rcases ite_some h with ⟨hb284, h⟩ | ⟨hb284, h⟩
                    · refine Ev.condT h283 hb284 ?_
                      refine Ev.seq ?_
                      refine Ev.reg (fun _ => rfl) ?_
                      refine Ev.nxk (mvO rfl) ?_
                      refine Ev.rend ?_
                      intro e285 he286
                      have h287 : eget e285 2 = .bool false := envp he286 rfl rfl
                      clear h277 h278 h279 h280 h281 h282 h283
                      refine Ev.kseqN ?_
                      refine Ev.ex ?_
                      refine Ev.kseqR ?_
                      refine Ev.kblkR ?_
                      refine Ev.kseqR ?_
                      cases h
                      exact Ev.kid (bQ_x (RS := (impl_ValidBook_b2_RS a1)) (RR := (impl_ValidBook_b2_RR a1)) (by intro h; cases h) (And.intro rfl h287))
                    · refine Ev.condF h283 hb284 ?_
                      refine Ev.ex ?_
                      refine Ev.kseqN ?_
                      refine Ev.reg (fun _ => rfl) ?_
                      refine Ev.nxk (faO h279 o183 rfl) ?_
                      refine Ev.nxk (ldO rfl o183 rfl rfl rfl) ?_
                      refine Ev.nxk (mvO rfl) ?_
                      refine Ev.rend ?_
                      intro e288 he289
                      have h290 : eget e288 1 = .pt none [.int .i64 a1.Day, .sl none (a1.Cash.map (cI .i64)), .sl none (a1.Tallies.map Tally.c)] := envp he289 rfl h277
                      have h291 : eget e288 3 = .int .i64 (a1.Cash.length : Int) := envp he289 rfl h278
                      have h292 : eget e288 6 = .int .i64 x175.Cut := envp he289 rfl rfl
                      have h293 : eget e288 42 = .sl none (a1.Tallies.map Tally.c) := envp he289 rfl h280
                      have h294 : eget e288 43 = .int .i64 (a1.Tallies.length : Int) := envp he289 rfl h281
                      have h295 : eget e288 44 = .int .i64 s2_2 := envp he289 rfl h282
                      clear h277 h278 h279 h280 h281 h282 h283
                      refine Ev.kblkN ?_
                      refine Ev.kseqN ?_
                      refine Ev.reg (fun _ => rfl) ?_
                      refine Ev.nxk (bAdd h295 rfl) ?_
                      refine Ev.nxk (mvO rfl) ?_
                      refine Ev.rend ?_
                      intro e296 he297
                      have h298 : eget e296 1 = .pt none [.int .i64 a1.Day, .sl none (a1.Cash.map (cI .i64)), .sl none (a1.Tallies.map Tally.c)] := envp he297 rfl h290
                      have h299 : eget e296 3 = .int .i64 (a1.Cash.length : Int) := envp he297 rfl h291
                      have h300 : eget e296 6 = .int .i64 x175.Cut := envp he297 rfl h292
                      have h301 : eget e296 42 = .sl none (a1.Tallies.map Tally.c) := envp he297 rfl h293
                      have h302 : eget e296 43 = .int .i64 (a1.Tallies.length : Int) := envp he297 rfl h294
                      have h303 : eget e296 44 = .int .i64 (IntKind.i64.wrap (s2_2 + 1)) := envp he297 rfl rfl
                      clear h290 h291 h292 h293 h294
                      cases h
                      exact Ev.kid (bQ_n (RS := (impl_ValidBook_b2_RS a1)) (RR := (impl_ValidBook_b2_RR a1)) (And.intro h298 (And.intro h299 (And.intro h300 (And.intro h301 (And.intro h302 h303))))))
                  · refine Ev.nxk (gsT rfl hb274) ?_
                    refine Ev.nxk (gsT rfl hb274) ?_
                    refine Ev.nxk (gsT rfl hb274) ?_
                    refine Ev.nxk (guF rfl hb261 (pkF rfl hb274 rfl)) ?_
                    refine Ev.nxk (pkF rfl hb261 rfl) ?_
                    refine Ev.rend ?_
                    intro e304 he305
                    have h306 : eget e304 1 = .pt none [.int .i64 a1.Day, .sl none (a1.Cash.map (cI .i64)), .sl none (a1.Tallies.map Tally.c)] := envp he305 rfl h186
                    have h307 : eget e304 3 = .int .i64 (a1.Cash.length : Int) := envp he305 rfl h187
                    have h308 : eget e304 8 = .loc M.length 1 0 0 := envp he305 rfl h189
                    have h309 : eget e304 42 = .sl none (a1.Tallies.map Tally.c) := envp he305 rfl h190
                    have h310 : eget e304 43 = .int .i64 (a1.Tallies.length : Int) := envp he305 rfl h191
                    have h311 : eget e304 44 = .int .i64 s2_2 := envp he305 rfl h192
                    have h312 : eget e304 102 = .bool false := envp he305 rfl rfl
                    clear h186 h187 h188 h189 h190 h191 h192
                    refine Ev.kseqN ?_
                    refine Ev.condF h312 rfl ?_
                    refine Ev.ex ?_
                    refine Ev.kseqN ?_
                    refine Ev.reg (fun _ => rfl) ?_
                    refine Ev.nxk (faO h308 o183 rfl) ?_
                    refine Ev.nxk (ldO rfl o183 rfl rfl rfl) ?_
                    refine Ev.nxk (mvO rfl) ?_
                    refine Ev.rend ?_
                    intro e313 he314
                    have h315 : eget e313 1 = .pt none [.int .i64 a1.Day, .sl none (a1.Cash.map (cI .i64)), .sl none (a1.Tallies.map Tally.c)] := envp he314 rfl h306
                    have h316 : eget e313 3 = .int .i64 (a1.Cash.length : Int) := envp he314 rfl h307
                    have h317 : eget e313 6 = .int .i64 x175.Cut := envp he314 rfl rfl
                    have h318 : eget e313 42 = .sl none (a1.Tallies.map Tally.c) := envp he314 rfl h309
                    have h319 : eget e313 43 = .int .i64 (a1.Tallies.length : Int) := envp he314 rfl h310
                    have h320 : eget e313 44 = .int .i64 s2_2 := envp he314 rfl h311
                    clear h306 h307 h308 h309 h310 h311 h312
                    refine Ev.kblkN ?_
                    refine Ev.kseqN ?_
                    refine Ev.reg (fun _ => rfl) ?_
                    refine Ev.nxk (bAdd h320 rfl) ?_
                    refine Ev.nxk (mvO rfl) ?_
                    refine Ev.rend ?_
                    intro e321 he322
                    have h323 : eget e321 1 = .pt none [.int .i64 a1.Day, .sl none (a1.Cash.map (cI .i64)), .sl none (a1.Tallies.map Tally.c)] := envp he322 rfl h315
                    have h324 : eget e321 3 = .int .i64 (a1.Cash.length : Int) := envp he322 rfl h316
                    have h325 : eget e321 6 = .int .i64 x175.Cut := envp he322 rfl h317
                    have h326 : eget e321 42 = .sl none (a1.Tallies.map Tally.c) := envp he322 rfl h318
                    have h327 : eget e321 43 = .int .i64 (a1.Tallies.length : Int) := envp he322 rfl h319
                    have h328 : eget e321 44 = .int .i64 (IntKind.i64.wrap (s2_2 + 1)) := envp he322 rfl rfl
                    clear h315 h316 h317 h318 h319
                    cases h
                    exact Ev.kid (bQ_n (RS := (impl_ValidBook_b2_RS a1)) (RR := (impl_ValidBook_b2_RR a1)) (And.intro h323 (And.intro h324 (And.intro h325 (And.intro h326 (And.intro h327 h328))))))
    · refine Ev.nxk (gsF rfl (congrArg Bool.not hb195)) ?_
      refine Ev.nxk (gsF rfl (congrArg Bool.not hb195)) ?_
      refine Ev.nxk (gsF rfl (congrArg Bool.not hb195)) ?_
      refine Ev.nxk (gsF rfl (congrArg Bool.not hb195)) ?_
      refine Ev.nxk (pkT rfl (congrArg Bool.not hb195) rfl) ?_
      refine Ev.nxk (mvO rfl) ?_
      refine Ev.nxk (gsF rfl rfl) ?_
      refine Ev.nxk (gsF rfl rfl) ?_
      refine Ev.nxk (gsF rfl rfl) ?_
      refine Ev.nxk (gsF rfl rfl) ?_
      refine Ev.nxk (gsF rfl rfl) ?_
      refine Ev.nxk (pkT rfl rfl rfl) ?_
      refine Ev.nxk (mvO rfl) ?_
      refine Ev.nxk (gsF rfl rfl) ?_
      refine Ev.nxk (gsF rfl rfl) ?_
      refine Ev.nxk (gsF rfl rfl) ?_
      refine Ev.nxk (pkT rfl rfl rfl) ?_
      refine Ev.nxk (mvO rfl) ?_
      refine Ev.nxk (gsF rfl rfl) ?_
      refine Ev.nxk (gsF rfl rfl) ?_
      refine Ev.nxk (gsF rfl rfl) ?_
      refine Ev.nxk (pkT rfl rfl rfl) ?_
      refine Ev.nxk (mvO rfl) ?_
      refine Ev.nxk (gsF rfl rfl) ?_
      refine Ev.nxk (gsF rfl rfl) ?_
      refine Ev.nxk (gsF rfl rfl) ?_
      refine Ev.nxk (pkT rfl rfl rfl) ?_
      refine Ev.nxk (mvO rfl) ?_
      refine Ev.nxk (gsF rfl rfl) ?_
      refine Ev.nxk (gsF rfl rfl) ?_
      refine Ev.nxk (gsF rfl rfl) ?_
      refine Ev.nxk (gsF rfl rfl) ?_
      refine Ev.nxk (gsF rfl rfl) ?_
      refine Ev.nxk (pkT rfl rfl rfl) ?_
      refine Ev.nxk (mvO rfl) ?_
      refine Ev.nxk (gsF rfl rfl) ?_
      refine Ev.nxk (gsF rfl rfl) ?_
      refine Ev.nxk (gsF rfl rfl) ?_
      refine Ev.nxk (gsF rfl rfl) ?_
      refine Ev.nxk (gsF rfl rfl) ?_
      refine Ev.nxk (gsF rfl rfl) ?_
      refine Ev.nxk (gsU rfl) ?_
      refine Ev.nxk (gsU rfl) ?_
      refine Ev.nxk (gsU rfl) ?_
      refine Ev.nxk (gsF rfl rfl) ?_
      refine Ev.nxk (pkT rfl rfl rfl) ?_
      refine Ev.rend ?_
      intro e329 he330
      have h331 : eget e329 1 = .pt none [.int .i64 a1.Day, .sl none (a1.Cash.map (cI .i64)), .sl none (a1.Tallies.map Tally.c)] := envp he330 rfl h186
      have h332 : eget e329 3 = .int .i64 (a1.Cash.length : Int) := envp he330 rfl h187
      have h333 : eget e329 8 = .loc M.length 1 0 0 := envp he330 rfl h189
      have h334 : eget e329 42 = .sl none (a1.Tallies.map Tally.c) := envp he330 rfl h190
      have h335 : eget e329 43 = .int .i64 (a1.Tallies.length : Int) := envp he330 rfl h191
      have h336 : eget e329 44 = .int .i64 s2_2 := envp he330 rfl h192
      have h337 : eget e329 102 = .bool true := envp he330 rfl rfl
      clear h186 h187 h188 h189 h190 h191 h192
      refine Ev.kseqN ?_
      refine Ev.condT h337 rfl ?_
      refine Ev.seq ?_
      refine Ev.reg (fun _ => rfl) ?_
      refine Ev.nxk (mvO rfl) ?_
      refine Ev.rend ?_
      intro e338 he339
      have h340 : eget e338 2 = .bool false := envp he339 rfl rfl
      clear h331 h332 h333 h334 h335 h336 h337
      refine Ev.kseqN ?_
      refine Ev.ex ?_
      refine Ev.kseqR ?_
      refine Ev.kblkR ?_
      refine Ev.kseqR ?_
      cases h
      exact Ev.kid (bQ_x (RS := (impl_ValidBook_b2_RS a1)) (RR := (impl_ValidBook_b2_RR a1)) (by intro h; cases h) (And.intro rfl h340))
  · refine Ev.condF h173 hb174 ?_
    refine Ev.ex ?_
    refine Ev.kseqE ?_
    cases h
    exact Ev.kid (bQ_x (RS := (impl_ValidBook_b2_RS a1)) (RR := (impl_ValidBook_b2_RR a1)) (by intro h; cases h) (And.intro rfl trivial))
noncomputable def impl_ValidBook (a1 : Book) : Option Bool :=
  ((impl_isBookDay a1.Day).bind fun r9 =>
  if r9 = true then
    if (decide ((a1.Cash.length : Int) < 1)) = true then
      some true
    else
      if (decide ((a1.Cash.length : Int) > 16)) = true then
        some true
      else
        some (decide ((a1.Tallies.length : Int) > 40))
  else
    some true).bind fun y35 =>
  if y35 = true then
    some false
  else
    (Lw (impl_ValidBook_b1 a1) 0).bind fun r => match r with
    | (.inl _) =>
      some false
    | (.inr _) =>
      (Lw (impl_ValidBook_b2 a1) (0, 0)).bind fun r => match r with
      | (.inl _) =>
        some false
      | (.inr _) =>
        some true
def impl_ValidBook_enc (r : Bool) : AV := .bool r
theorem impl_ValidBook_ok (a1 : Book) (r : Bool) (h : impl_ValidBook a1 = some r) : Ev (fun k => CN k 14 [.agg [.int .i64 a1.Day, .sl none (a1.Cash.map (cI .i64)), .sl none (a1.Tallies.map Tally.c)]] []) (fun p => rRes p.2 p.1 = impl_ValidBook_enc r) := by
  unfold impl_ValidBook at h
  refine Ev.enter (F := fun k => f14 (CN k) k) (fun k => callN_eq rfl Try.func14 rfl rfl rfl (by decide +kernel) (f14_eq _ _)) ?_
  refine Ev.seq ?_
  refine Ev.reg (fun _ => rfl) ?_
  refine Ev.nxk (bxI rfl rfl ⟨rfl, rfl, by decide⟩) ?_
  refine Ev.nxk (mvO rfl) ?_
  refine Ev.rend ?_
  intro e1 he2
  have h3 : eget e1 1 = .pt none [.int .i64 a1.Day, .sl none (a1.Cash.map (cI .i64)), .sl none (a1.Tallies.map Tally.c)] := envp he2 rfl rfl
  refine Ev.kseqN ?_
  refine Ev.seq ?_
  refine Ev.reg (fun _ => rfl) ?_
  refine Ev.nxk (faP h3 ⟨ble rfl, blt rfl⟩ rfl) ?_
  refine Ev.nxk (ldP rfl rfl) ?_
  refine Ev.nxk (lnS Try.underlying22 rfl) ?_
  refine Ev.nxk (mvO rfl) ?_
  refine Ev.rend ?_
  intro e4 he5
  have h6 : eget e4 1 = .pt none [.int .i64 a1.Day, .sl none (a1.Cash.map (cI .i64)), .sl none (a1.Tallies.map Tally.c)] := envp he5 rfl h3
  have h7 : eget e4 3 = .int .i64 (a1.Cash.length : Int) := envp he5 rfl rfl
  clear h3
  refine Ev.kseqN ?_
  refine Ev.seq ?_
  refine Ev.seq ?_
  obtain ⟨r353, hr354, h⟩ := bind_some h
  refine Ev.cut (Q1 := impl_ValidBook_c1_Q a1 r353) (by
      have h := hr354
      refine Ev.reg (fun _ => rfl) ?_
      refine Ev.nxk (faP h6 ⟨ble rfl, blt rfl⟩ rfl) ?_
      refine Ev.nxk (ldP rfl rfl) ?_
      obtain ⟨r9, hx8, h⟩ := bind_some h
      refine Ev.nxck (Ev.call (v := .bool r9) rfl (cns rfl rfl) rfl (impl_isBookDay_ok a1.Day _ hx8) (fun h => nomatch (show false = true from h))) ?_
      refine Ev.nxk (uNot rfl) ?_
      refine Ev.nxk (mvO rfl) ?_
      rcases ite_some h with ⟨hb10, h⟩ | ⟨hb10, h⟩
      · refine Ev.nxk (guF rfl (congrArg Bool.not hb10) (mvO h7)) ?_
        refine Ev.nxk (guF rfl (congrArg Bool.not hb10) (bLss rfl rfl)) ?_
        refine Ev.nxk (pkF rfl (congrArg Bool.not hb10) rfl) ?_
        refine Ev.nxk (mvO rfl) ?_
        rcases ite_some h with ⟨hb11, h⟩ | ⟨hb11, h⟩
        · refine Ev.nxk (gsF rfl hb11) ?_
          refine Ev.nxk (gsF rfl hb11) ?_
          refine Ev.nxk (pkT rfl hb11 rfl) ?_
          refine Ev.nxk (mvO rfl) ?_
          refine Ev.nxk (gsF rfl rfl) ?_
          refine Ev.nxk (gsF rfl rfl) ?_
          refine Ev.nxk (gsF rfl rfl) ?_
          refine Ev.nxk (gsF rfl rfl) ?_
          refine Ev.nxk (pkT rfl rfl rfl) ?_
          refine Ev.rend ?_
          intro e12 he13
          have h14 : eget e12 1 = .pt none [.int .i64 a1.Day, .sl none (a1.Cash.map (cI .i64)), .sl none (a1.Tallies.map Tally.c)] := envp he13 rfl h6
          have h15 : eget e12 3 = .int .i64 (a1.Cash.length : Int) := envp he13 rfl h7
          have h16 : eget e12 29 = .bool true := envp he13 rfl rfl
          clear h6 h7
          cases h
          exact Ev.kid (show impl_ValidBook_c1_Q a1 _ _ from (And.intro rfl (And.intro h14 (And.intro h15 h16))))
        · refine Ev.nxk (guF rfl hb11 (mvO h7)) ?_
          refine Ev.nxk (guF rfl hb11 (bGtr rfl rfl)) ?_
          refine Ev.nxk (pkF rfl hb11 rfl) ?_
          refine Ev.nxk (mvO rfl) ?_
          rcases ite_some h with ⟨hb17, h⟩ | ⟨hb17, h⟩
          · refine Ev.nxk (gsF rfl hb17) ?_
            refine Ev.nxk (gsF rfl hb17) ?_
            refine Ev.nxk (gsF rfl hb17) ?_
            refine Ev.nxk (gsF rfl hb17) ?_
            refine Ev.nxk (pkT rfl hb17 rfl) ?_
            refine Ev.rend ?_
            intro e18 he19
            have h20 : eget e18 1 = .pt none [.int .i64 a1.Day, .sl none (a1.Cash.map (cI .i64)), .sl none (a1.Tallies.map Tally.c)] := envp he19 rfl h6
            have h21 : eget e18 3 = .int .i64 (a1.Cash.length : Int) := envp he19 rfl h7
            have h22 : eget e18 29 = .bool true := envp he19 rfl rfl
            clear h6 h7
            cases h
            exact Ev.kid (show impl_ValidBook_c1_Q a1 _ _ from (And.intro rfl (And.intro h20 (And.intro h21 h22))))
          · refine Ev.nxk (guF rfl hb17 (faP h6 ⟨ble rfl, blt rfl⟩ rfl)) ?_
            refine Ev.nxk (guF rfl hb17 (ldP rfl rfl)) ?_
            refine Ev.nxk (guF rfl hb17 (lnS Try.underlying23 rfl)) ?_
            refine Ev.nxk (guF rfl hb17 (bGtr rfl rfl)) ?_
            refine Ev.nxk (pkF rfl hb17 rfl) ?_
            refine Ev.rend ?_
            intro e23 he24
            have h25 : eget e23 1 = .pt none [.int .i64 a1.Day, .sl none (a1.Cash.map (cI .i64)), .sl none (a1.Tallies.map Tally.c)] := envp he24 rfl h6
            have h26 : eget e23 3 = .int .i64 (a1.Cash.length : Int) := envp he24 rfl h7
            have h27 : eget e23 29 = .bool (decide ((a1.Tallies.length : Int) > 40)) := envp he24 rfl rfl
            clear h6 h7
            cases h
            exact Ev.kid (show impl_ValidBook_c1_Q a1 _ _ from (And.intro rfl (And.intro h25 (And.intro h26 h27))))
      · refine Ev.nxk (gsF rfl (congrArg Bool.not hb10)) ?_
        refine Ev.nxk (gsF rfl (congrArg Bool.not hb10)) ?_
        refine Ev.nxk (pkT rfl (congrArg Bool.not hb10) rfl) ?_
        refine Ev.nxk (mvO rfl) ?_
        refine Ev.nxk (gsF rfl rfl) ?_
        refine Ev.nxk (gsF rfl rfl) ?_
        refine Ev.nxk (pkT rfl rfl rfl) ?_
        refine Ev.nxk (mvO rfl) ?_
        refine Ev.nxk (gsF rfl rfl) ?_
        refine Ev.nxk (gsF rfl rfl) ?_
        refine Ev.nxk (gsF rfl rfl) ?_
        refine Ev.nxk (gsF rfl rfl) ?_
        refine Ev.nxk (pkT rfl rfl rfl) ?_
        refine Ev.rend ?_
        intro e28 he29
        have h30 : eget e28 1 = .pt none [.int .i64 a1.Day, .sl none (a1.Cash.map (cI .i64)), .sl none (a1.Tallies.map Tally.c)] := envp he29 rfl h6
        have h31 : eget e28 3 = .int .i64 (a1.Cash.length : Int) := envp he29 rfl h7
        have h32 : eget e28 29 = .bool true := envp he29 rfl rfl
        clear h6 h7
        cases h
        exact Ev.kid (show impl_ValidBook_c1_Q a1 _ _ from (And.intro rfl (And.intro h30 (And.intro h31 h32))))) ?_
  revert h hr354
  revert r353
  intro y35 hr354 h
  intro x e33 M34 hq352
  obtain ⟨rfl, h36, h37, h38⟩ := hq352
  refine Ev.kseqN ?_
  rcases ite_some h with ⟨hb39, h⟩ | ⟨hb39, h⟩
  · refine Ev.condT h38 hb39 ?_
    refine Ev.seq ?_
    refine Ev.reg (fun _ => rfl) ?_
    refine Ev.nxk (mvO rfl) ?_
    refine Ev.rend ?_
    intro e40 he41
    have h42 : eget e40 2 = .bool false := envp he41 rfl rfl
    clear h36 h37 h38
    refine Ev.kseqN ?_
    refine Ev.ex ?_
    refine Ev.kseqR ?_
    cases h
    exact Ev.kendR (resT h42 res0) rfl
  · refine Ev.condF h38 hb39 ?_
    refine Ev.ex ?_
    refine Ev.kseqN ?_
    refine Ev.seq ?_
    refine Ev.seq ?_
    refine Ev.reg (fun _ => rfl) ?_
    refine Ev.nxk (faP h36 ⟨ble rfl, blt rfl⟩ rfl) ?_
    refine Ev.nxk (ldP rfl rfl) ?_
    refine Ev.nxk (lnS Try.underlying22 rfl) ?_
    refine Ev.nxk (mvO rfl) ?_
    refine Ev.rend ?_
    intro e43 he44
    have h45 : eget e43 1 = .pt none [.int .i64 a1.Day, .sl none (a1.Cash.map (cI .i64)), .sl none (a1.Tallies.map Tally.c)] := envp he44 rfl h36
    have h46 : eget e43 3 = .int .i64 (a1.Cash.length : Int) := envp he44 rfl h37
    have h47 : eget e43 31 = .sl none (a1.Cash.map (cI .i64)) := envp he44 rfl rfl
    have h48 : eget e43 32 = .int .i64 (a1.Cash.length : Int) := envp he44 rfl rfl
    have h49 : eget e43 33 = .int .i64 0 := envp he44 rfl rfl
    clear h36 h37 h38
    refine Ev.kseqN ?_
    refine Ev.blk ?_
    obtain ⟨r114, hr115, h⟩ := bind_some h
    rcases r114 with _ | _
    · refine Ev.loop (RS := impl_ValidBook_b1_RS a1) (RR := impl_ValidBook_b1_RR a1) (fun s r h e M hs => impl_ValidBook_b1_ok a1 s r h e M hs) hr115 (And.intro h45 (And.intro h46 (And.intro h47 (And.intro h48 h49)))) ?_
      intro x e117 M118 hq116
      obtain ⟨rfl, h119⟩ := hq116
      refine Ev.kblkR ?_
      refine Ev.kseqR ?_
      cases h
      exact Ev.kendR (resT h119 res0) rfl
    · refine Ev.loop (RS := impl_ValidBook_b1_RS a1) (RR := impl_ValidBook_b1_RR a1) (fun s r h e M hs => impl_ValidBook_b1_ok a1 s r h e M hs) hr115 (And.intro h45 (And.intro h46 (And.intro h47 (And.intro h48 h49)))) ?_
      intro x e120 M121 hq116
      obtain ⟨rfl, h122, h123⟩ := hq116
      refine Ev.kblkE ?_
      refine Ev.kseqN ?_
      refine Ev.seq ?_
      refine Ev.reg (fun _ => rfl) ?_
      refine Ev.nxk (mvO rfl) ?_
      refine Ev.rend ?_
      intro e124 he125
      have h126 : eget e124 1 = .pt none [.int .i64 a1.Day, .sl none (a1.Cash.map (cI .i64)), .sl none (a1.Tallies.map Tally.c)] := envp he125 rfl h122
      have h127 : eget e124 3 = .int .i64 (a1.Cash.length : Int) := envp he125 rfl h123
      have h128 : eget e124 6 = .int .i64 0 := envp he125 rfl rfl
      clear h122 h123
      refine Ev.kseqN ?_
      refine Ev.seq ?_
      refine Ev.seq ?_
      refine Ev.reg (fun _ => rfl) ?_
      refine Ev.nxk (faP h126 ⟨ble rfl, blt rfl⟩ rfl) ?_
      refine Ev.nxk (ldP rfl rfl) ?_
      refine Ev.nxk (lnS Try.underlying23 rfl) ?_
      refine Ev.nxk (mvO rfl) ?_
      refine Ev.rend ?_
      intro e129 he130
      have h131 : eget e129 1 = .pt none [.int .i64 a1.Day, .sl none (a1.Cash.map (cI .i64)), .sl none (a1.Tallies.map Tally.c)] := envp he130 rfl h126
      have h132 : eget e129 3 = .int .i64 (a1.Cash.length : Int) := envp he130 rfl h127
      have h133 : eget e129 6 = .int .i64 0 := envp he130 rfl h128
      have h134 : eget e129 42 = .sl none (a1.Tallies.map Tally.c) := envp he130 rfl rfl
      have h135 : eget e129 43 = .int .i64 (a1.Tallies.length : Int) := envp he130 rfl rfl
      have h136 : eget e129 44 = .int .i64 0 := envp he130 rfl rfl
      clear h126 h127 h128
      refine Ev.kseqN ?_
      refine Ev.blk ?_
      obtain ⟨r341, hr342, h⟩ := bind_some h
      rcases r341 with _ | _
      · refine Ev.loop (RS := impl_ValidBook_b2_RS a1) (RR := impl_ValidBook_b2_RR a1) (fun s r h e M hs => impl_ValidBook_b2_ok a1 s r h e M hs) hr342 (And.intro h131 (And.intro h132 (And.intro h133 (And.intro h134 (And.intro h135 h136))))) ?_
        intro x e344 M345 hq343
        obtain ⟨rfl, h346⟩ := hq343
        refine Ev.kblkR ?_
        refine Ev.kseqR ?_
        cases h
        exact Ev.kendR (resT h346 res0) rfl
      · refine Ev.loop (RS := impl_ValidBook_b2_RS a1) (RR := impl_ValidBook_b2_RR a1) (fun s r h e M hs => impl_ValidBook_b2_ok a1 s r h e M hs) hr342 (And.intro h131 (And.intro h132 (And.intro h133 (And.intro h134 (And.intro h135 h136))))) ?_
        intro x e347 M348 hq343
        obtain ⟨rfl, _⟩ := hq343
        refine Ev.kblkE ?_
        refine Ev.kseqN ?_
        refine Ev.seq ?_
        refine Ev.reg (fun _ => rfl) ?_
        refine Ev.nxk (mvO rfl) ?_
        refine Ev.rend ?_
        intro e349 he350
        have h351 : eget e349 2 = .bool true := envp he350 rfl rfl
        refine Ev.kseqN ?_
        refine Ev.ex ?_
        cases h
        exact Ev.kendR (resT h351 res0) rfl
/-! ### slices.Clone[[]int64,int64] (f13) -/
noncomputable def slices_Clone_int64 (a1 : List Int) : Option ((List Int)) :=
  (app 8 ([] : List Int) a1).bind fun x8 =>
  some x8
def slices_Clone_int64_enc (r : (List Int)) : AV := .sl (some 2) (r.map (cI .i64))
theorem slices_Clone_int64_ok (a1 : List Int) (r : (List Int)) (h : slices_Clone_int64 a1 = some r) : Ev (fun k => CN k 13 [.sl none (a1.map (cI .i64))] []) (fun p => rRes p.2 p.1 = slices_Clone_int64_enc r) := by
  refine Ev.prim rfl ?_
  by_cases hn : a1 = []
  · subst hn
    have e : r = [] := by simpa [slices_Clone_int64, app] using h.symm
    subst e
    exact Ev.nilBoth (by kernel_rfl) (by kernel_rfl)
  · have hp : 0 < a1.length := List.length_pos_iff.2 hn
    refine Ev.nilNot (by simpa using hn) ?_
    unfold slices_Clone_int64 at h
    refine Ev.enter0 (F := fun _ => f13 (CN0 2) 2) (fun k => callN_eq rfl Try.func13 rfl rfl rfl (by decide +kernel) (f13_eq _ _)) ?_
    refine Ev.seq ?_
    refine Ev.reg (fun _ => rfl) ?_
    refine Ev.nxk (mvO rfl) ?_
    refine Ev.rend ?_
    intro e1 he2
    have h3 : eget e1 0 = .sl none (a1.map (cI .i64)) := envp he2 rfl rfl
    refine Ev.kseqN ?_
    refine Ev.seq ?_
    refine Ev.seq ?_
    refine Ev.reg (fun _ => rfl) ?_
    refine Ev.nxk (mvO h3) ?_
    refine Ev.nxk (bNilF Try.underlying22 hp rfl rfl) ?_
    refine Ev.rend ?_
    intro e4 he5
    have h6 : eget e4 0 = .sl none (a1.map (cI .i64)) := envp he5 rfl h3
    have h7 : eget e4 4 = .bool false := envp he5 rfl rfl
    clear h3
    refine Ev.kseqN ?_
    refine Ev.condF h7 rfl ?_
    refine Ev.ex ?_
    refine Ev.kseqN ?_
    refine Ev.seq ?_
    refine Ev.reg (fun _ => rfl) ?_
    refine Ev.nxk (litI rfl rfl ⟨rfl, by decide⟩) ?_
    refine Ev.nxk (mvO h6) ?_
    obtain ⟨x8, hx9, h⟩ := bind_some h
    refine Ev.nxk (aiT (c := (cI .i64)) (xs := ([] : List Int)) rfl (elS rfl) hx9 (cI_fl _) (by decide)) ?_
    refine Ev.nxk (mvO rfl) ?_
    refine Ev.rend ?_
    intro e10 he11
    have h12 : eget e10 2 = .sl (some 2) (x8.map (cI .i64)) := envp he11 rfl rfl
    clear h6 h7
    refine Ev.kseqN ?_
    refine Ev.ex ?_
    cases h
    exact Ev.kendR (resT h12 res0) rfl
/-! ### loop.example/g01263/spec.l07Cash (f12) -/
abbrev spec_l07Cash_b1_S := Int
abbrev spec_l07Cash_b1_R := Unit ⊕ Unit
def spec_l07Cash_b1_RS (a1 : List Int) (s : spec_l07Cash_b1_S) (e : Env) (M : Mem) : Prop := eget e 0 = .sl none (a1.map (cI .i64)) ∧ eget e 3 = .int .i64 s
def spec_l07Cash_b1_RR (a1 : List Int) (r : spec_l07Cash_b1_R) (x : Ex) (e : Env) (M : Mem) : Prop :=
  match r with
  | (.inl g) => x = .ret ∧ eget e 2 = .bool false
  | (.inr g) => x = .ext 0 ∧ eget e 0 = .sl none (a1.map (cI .i64))
noncomputable def spec_l07Cash_b1 (a1 : List Int) : spec_l07Cash_b1_S → Option (spec_l07Cash_b1_S ⊕ spec_l07Cash_b1_R) := fun s1_1 =>
  if (decide (s1_1 < (a1.length : Int))) = true then
    (rd a1 s1_1).bind fun x26 =>
    (spec_l01Amount x26).bind fun r29 =>
    if r29 = true then
      some (.inl (IntKind.i64.wrap (s1_1 + 1)))
    else
      some (.inr (.inl ()))
  else
    some (.inr (.inr ()))
theorem spec_l07Cash_b1_ok (a1 : List Int) (s : spec_l07Cash_b1_S) (r : spec_l07Cash_b1_S ⊕ spec_l07Cash_b1_R) (h : spec_l07Cash_b1 a1 s = some r) (e : Env) (M : Mem) (hs : spec_l07Cash_b1_RS a1 s e M) : Ev (fun k => (f12_l2 (CN k) k (prune [0, 3] e) M).bind fun q => some q) (bQ (spec_l07Cash_b1_RS a1) (spec_l07Cash_b1_RR a1) r) := by
  revert h hs
  revert s
  intro s1_1 h hs
  unfold spec_l07Cash_b1 at h
  obtain ⟨h16, h18⟩ := hs
  generalize he15 : prune [0, 3] e = e14
  have h17 := envp he15.symm rfl h16
  have h19 := envp he15.symm rfl h18
  refine Ev.seq ?_
  refine Ev.seq ?_
  refine Ev.reg (fun _ => rfl) ?_
  refine Ev.nxk (mvO h19) ?_
  refine Ev.nxk (mvO h17) ?_
  refine Ev.nxk (lnS Try.underlying22 rfl) ?_
  refine Ev.nxk (bLss rfl rfl) ?_
  refine Ev.rend ?_
  intro e20 he21
  have h22 : eget e20 0 = .sl none (a1.map (cI .i64)) := envp he21 rfl h17
  have h23 : eget e20 3 = .int .i64 s1_1 := envp he21 rfl h19
  have h24 : eget e20 7 = .bool (decide (s1_1 < (a1.length : Int))) := envp he21 rfl rfl
  clear h17 h19
  refine Ev.kseqN ?_
  rcases ite_some h with ⟨hb25, h⟩ | ⟨hb25, h⟩
  · refine Ev.condT h24 hb25 ?_
    refine Ev.ex ?_
    refine Ev.kseqN ?_
    refine Ev.seq ?_
    refine Ev.blk ?_
    refine Ev.seq ?_
    refine Ev.reg (fun _ => rfl) ?_
    refine Ev.nxk (mvO h22) ?_
    refine Ev.nxk (mvO h23) ?_
    obtain ⟨x26, hx27, h⟩ := bind_some h
    refine Ev.nxk (ixS rfl rfl hx27 (cI_fl _)) ?_
    refine Ev.nxk (ldP rfl rfl) ?_
    obtain ⟨r29, hx28, h⟩ := bind_some h
    refine Ev.nxck (Ev.call (v := .bool r29) rfl (cns rfl rfl) rfl (spec_l01Amount_ok x26 _ hx28) (fun h => nomatch (show false = true from h))) ?_
    refine Ev.nxk (uNot rfl) ?_
    refine Ev.rend ?_
    intro e30 he31
    have h32 : eget e30 0 = .sl none (a1.map (cI .i64)) := envp he31 rfl h22
    have h33 : eget e30 3 = .int .i64 s1_1 := envp he31 rfl h23
    have h34 : eget e30 15 = .bool (!r29) := envp he31 rfl rfl
    clear h22 h23 h24
    refine Ev.kseqN ?_
    rcases ite_some h with ⟨hb35, h⟩ | ⟨hb35, h⟩
    · refine Ev.condF h34 (congrArg Bool.not hb35) ?_
      refine Ev.ex ?_
      refine Ev.kblkN ?_
      refine Ev.kseqN ?_
      refine Ev.reg (fun _ => rfl) ?_
      refine Ev.nxk (mvO h33) ?_
      refine Ev.nxk (bAdd rfl rfl) ?_
      refine Ev.nxk (mvO rfl) ?_
      refine Ev.rend ?_
      intro e36 he37
      have h38 : eget e36 0 = .sl none (a1.map (cI .i64)) := envp he37 rfl h32
      have h39 : eget e36 3 = .int .i64 (IntKind.i64.wrap (s1_1 + 1)) := envp he37 rfl rfl
      clear h32 h34
      cases h
      exact Ev.kid (bQ_n (RS := (spec_l07Cash_b1_RS a1)) (RR := (spec_l07Cash_b1_RR a1)) (And.intro h38 h39))
    · refine Ev.condT h34 (congrArg Bool.not hb35) ?_
      refine Ev.seq ?_
      refine Ev.reg (fun _ => rfl) ?_
      refine Ev.nxk (mvO rfl) ?_
      refine Ev.rend ?_
      intro e40 he41
      have h42 : eget e40 2 = .bool false := envp he41 rfl rfl
      clear h32 h33 h34
      refine Ev.kseqN ?_
      refine Ev.ex ?_
      refine Ev.kblkR ?_
      refine Ev.kseqR ?_
      cases h
      exact Ev.kid (bQ_x (RS := (spec_l07Cash_b1_RS a1)) (RR := (spec_l07Cash_b1_RR a1)) (by intro h; cases h) (And.intro rfl h42))
  · refine Ev.condF h24 hb25 ?_
    refine Ev.ex ?_
    refine Ev.kseqE ?_
    cases h
    exact Ev.kid (bQ_x (RS := (spec_l07Cash_b1_RS a1)) (RR := (spec_l07Cash_b1_RR a1)) (by intro h; cases h) (And.intro rfl h22))
noncomputable def spec_l07Cash (a1 : List Int) : Option Bool :=
  (Lw (spec_l07Cash_b1 a1) 0).bind fun r => match r with
  | (.inl _) =>
    some false
  | (.inr _) =>
    (spec_l00In (a1.length : Int) 1 16).bind fun r53 =>
    some r53
def spec_l07Cash_enc (r : Bool) : AV := .bool r
theorem spec_l07Cash_ok (a1 : List Int) (r : Bool) (h : spec_l07Cash a1 = some r) : Ev (fun k => CN k 12 [.sl none (a1.map (cI .i64))] []) (fun p => rRes p.2 p.1 = spec_l07Cash_enc r) := by
  unfold spec_l07Cash at h
  refine Ev.enter (F := fun k => f12 (CN k) k) (fun k => callN_eq rfl Try.func12 rfl rfl rfl (by decide +kernel) (f12_eq _ _)) ?_
  refine Ev.seq ?_
  refine Ev.reg (fun _ => rfl) ?_
  refine Ev.nxk (mvO rfl) ?_
  refine Ev.rend ?_
  intro e1 he2
  have h3 : eget e1 0 = .sl none (a1.map (cI .i64)) := envp he2 rfl rfl
  refine Ev.kseqN ?_
  refine Ev.seq ?_
  refine Ev.seq ?_
  refine Ev.reg (fun _ => rfl) ?_
  refine Ev.nxk (mvO rfl) ?_
  refine Ev.rend ?_
  intro e4 he5
  have h6 : eget e4 0 = .sl none (a1.map (cI .i64)) := envp he5 rfl h3
  have h7 : eget e4 3 = .int .i64 0 := envp he5 rfl rfl
  clear h3
  refine Ev.kseqN ?_
  refine Ev.blk ?_
  obtain ⟨r43, hr44, h⟩ := bind_some h
  rcases r43 with _ | _
  · refine Ev.loop (RS := spec_l07Cash_b1_RS a1) (RR := spec_l07Cash_b1_RR a1) (fun s r h e M hs => spec_l07Cash_b1_ok a1 s r h e M hs) hr44 (And.intro h6 h7) ?_
    intro x e46 M47 hq45
    obtain ⟨rfl, h48⟩ := hq45
    refine Ev.kblkR ?_
    refine Ev.kseqR ?_
    cases h
    exact Ev.kendR (resT h48 res0) rfl
  · refine Ev.loop (RS := spec_l07Cash_b1_RS a1) (RR := spec_l07Cash_b1_RR a1) (fun s r h e M hs => spec_l07Cash_b1_ok a1 s r h e M hs) hr44 (And.intro h6 h7) ?_
    intro x e49 M50 hq45
    obtain ⟨rfl, h51⟩ := hq45
    refine Ev.kblkE ?_
    refine Ev.kseqN ?_
    refine Ev.seq ?_
    refine Ev.reg (fun _ => rfl) ?_
    refine Ev.nxk (mvO h51) ?_
    refine Ev.nxk (lnS Try.underlying22 rfl) ?_
    obtain ⟨r53, hx52, h⟩ := bind_some h
    refine Ev.nxck (Ev.call (v := .bool r53) rfl (cns rfl (cns rfl (cns rfl rfl))) rfl (spec_l00In_ok (a1.length : Int) 1 16 _ hx52) (fun h => nomatch (show false = true from h))) ?_
    refine Ev.nxk (mvO rfl) ?_
    refine Ev.rend ?_
    intro e54 he55
    have h56 : eget e54 2 = .bool r53 := envp he55 rfl rfl
    clear h51
    refine Ev.kseqN ?_
    refine Ev.ex ?_
    cases h
    exact Ev.kendR (resT h56 res0) rfl
/-! ### loop.example/g01263/laws.heldBook (f11) -/
noncomputable def laws_heldBook (a1 : Book) (a2 : Int) : Option Int :=
  (laws_heldInt64S a1.Cash a2).bind fun r6 =>
  if (decide (r6 < 0)) = true then
    some (-1)
  else
    (laws_heldTallyS a1.Tallies r6).bind fun r21 =>
    if (decide (r21 < 0)) = true then
      some (-1)
    else
      some r21
def laws_heldBook_enc (r : Int) : AV := .int .i64 r
theorem laws_heldBook_ok (a1 : Book) (a2 : Int) (r : Int) (h : laws_heldBook a1 a2 = some r) : Ev (fun k => CN k 11 [.agg [.int .i64 a1.Day, .sl none (a1.Cash.map (cI .i64)), .sl none (a1.Tallies.map Tally.c)], .int .i64 a2] []) (fun p => rRes p.2 p.1 = laws_heldBook_enc r) := by
  unfold laws_heldBook at h
  refine Ev.enter (F := fun k => f11 (CN k) k) (fun k => callN_eq rfl Try.func11 rfl rfl rfl (by decide +kernel) (f11_eq _ _)) ?_
  refine Ev.seq ?_
  refine Ev.reg (fun _ => rfl) ?_
  refine Ev.nxk (bxI rfl rfl ⟨rfl, rfl, by decide⟩) ?_
  refine Ev.nxk (mvO rfl) ?_
  refine Ev.rend ?_
  intro e1 he2
  have h3 : eget e1 1 = .int .i64 a2 := envp he2 rfl rfl
  have h4 : eget e1 2 = .pt none [.int .i64 a1.Day, .sl none (a1.Cash.map (cI .i64)), .sl none (a1.Tallies.map Tally.c)] := envp he2 rfl rfl
  refine Ev.kseqN ?_
  refine Ev.seq ?_
  refine Ev.reg (fun _ => rfl) ?_
  refine Ev.nxk (faP h4 ⟨ble rfl, blt rfl⟩ rfl) ?_
  refine Ev.nxk (ldP rfl rfl) ?_
  refine Ev.nxk (mvO h3) ?_
  obtain ⟨r6, hx5, h⟩ := bind_some h
  refine Ev.nxck (Ev.call (v := .int .i64 r6) rfl (cns rfl (cns rfl rfl)) rfl (laws_heldInt64S_ok a1.Cash a2 _ hx5) (fun h => nomatch (show false = true from h))) ?_
  refine Ev.nxk (mvO rfl) ?_
  refine Ev.rend ?_
  intro e7 he8
  have h9 : eget e7 1 = .int .i64 r6 := envp he8 rfl rfl
  have h10 : eget e7 2 = .pt none [.int .i64 a1.Day, .sl none (a1.Cash.map (cI .i64)), .sl none (a1.Tallies.map Tally.c)] := envp he8 rfl h4
  clear h4
  refine Ev.kseqN ?_
  refine Ev.seq ?_
  refine Ev.seq ?_
  refine Ev.reg (fun _ => rfl) ?_
  refine Ev.nxk (mvO h9) ?_
  refine Ev.nxk (bLss rfl rfl) ?_
  refine Ev.rend ?_
  intro e11 he12
  have h13 : eget e11 1 = .int .i64 r6 := envp he12 rfl h9
  have h14 : eget e11 2 = .pt none [.int .i64 a1.Day, .sl none (a1.Cash.map (cI .i64)), .sl none (a1.Tallies.map Tally.c)] := envp he12 rfl h10
  have h15 : eget e11 10 = .bool (decide (r6 < 0)) := envp he12 rfl rfl
  clear h10 h9
  refine Ev.kseqN ?_
  rcases ite_some h with ⟨hb16, h⟩ | ⟨hb16, h⟩
  · refine Ev.condT h15 hb16 ?_
    refine Ev.seq ?_
    refine Ev.reg (fun _ => rfl) ?_
    refine Ev.nxk (mvO rfl) ?_
    refine Ev.rend ?_
    intro e17 he18
    have h19 : eget e17 4 = .int .i64 (-1) := envp he18 rfl rfl
    clear h13 h14 h15
    refine Ev.kseqN ?_
    refine Ev.ex ?_
    refine Ev.kseqR ?_
    cases h
    exact Ev.kendR (resT h19 res0) rfl
  · refine Ev.condF h15 hb16 ?_
    refine Ev.ex ?_
    refine Ev.kseqN ?_
    refine Ev.seq ?_
    refine Ev.reg (fun _ => rfl) ?_
    refine Ev.nxk (faP h14 ⟨ble rfl, blt rfl⟩ rfl) ?_
    refine Ev.nxk (ldP rfl rfl) ?_
    refine Ev.nxk (mvO h13) ?_
    obtain ⟨r21, hx20, h⟩ := bind_some h
    refine Ev.nxck (Ev.call (v := .int .i64 r21) rfl (cns rfl (cns rfl rfl)) rfl (laws_heldTallyS_ok a1.Tallies r6 _ hx20) (fun h => nomatch (show false = true from h))) ?_
    refine Ev.nxk (mvO rfl) ?_
    refine Ev.rend ?_
    intro e22 he23
    have h24 : eget e22 1 = .int .i64 r21 := envp he23 rfl rfl
    clear h14 h15
    refine Ev.kseqN ?_
    refine Ev.seq ?_
    refine Ev.seq ?_
    refine Ev.reg (fun _ => rfl) ?_
    refine Ev.nxk (mvO h24) ?_
    refine Ev.nxk (bLss rfl rfl) ?_
    refine Ev.rend ?_
    intro e25 he26
    have h27 : eget e25 1 = .int .i64 r21 := envp he26 rfl h24
    have h28 : eget e25 16 = .bool (decide (r21 < 0)) := envp he26 rfl rfl
    clear h24
    refine Ev.kseqN ?_
    rcases ite_some h with ⟨hb29, h⟩ | ⟨hb29, h⟩
    · refine Ev.condT h28 hb29 ?_
      refine Ev.seq ?_
      refine Ev.reg (fun _ => rfl) ?_
      refine Ev.nxk (mvO rfl) ?_
      refine Ev.rend ?_
      intro e30 he31
      have h32 : eget e30 4 = .int .i64 (-1) := envp he31 rfl rfl
      clear h27 h28
      refine Ev.kseqN ?_
      refine Ev.ex ?_
      refine Ev.kseqR ?_
      cases h
      exact Ev.kendR (resT h32 res0) rfl
    · refine Ev.condF h28 hb29 ?_
      refine Ev.ex ?_
      refine Ev.kseqN ?_
      refine Ev.seq ?_
      refine Ev.reg (fun _ => rfl) ?_
      refine Ev.nxk (mvO h27) ?_
      refine Ev.nxk (mvO rfl) ?_
      refine Ev.rend ?_
      intro e33 he34
      have h35 : eget e33 4 = .int .i64 r21 := envp he34 rfl rfl
      clear h27 h28
      refine Ev.kseqN ?_
      refine Ev.ex ?_
      cases h
      exact Ev.kendR (resT h35 res0) rfl
/-! ### loop.example/g01263/laws.eqInt64S (f8) -/
abbrev laws_eqInt64S_b1_S := Int
abbrev laws_eqInt64S_b1_R := Unit ⊕ Unit
def laws_eqInt64S_b1_RS (a1 : List Int) (a2 : List Int) (s : laws_eqInt64S_b1_S) (e : Env) (M : Mem) : Prop := eget e 0 = .sl none (a1.map (cI .i64)) ∧ eget e 1 = .sl none (a2.map (cI .i64)) ∧ eget e 5 = .int .i64 s
def laws_eqInt64S_b1_RR (a1 : List Int) (a2 : List Int) (r : laws_eqInt64S_b1_R) (x : Ex) (e : Env) (M : Mem) : Prop :=
  match r with
  | (.inl g) => x = .ret ∧ eget e 4 = .bool false
  | (.inr g) => x = .ext 0 ∧ True
noncomputable def laws_eqInt64S_b1 (a1 : List Int) (a2 : List Int) : laws_eqInt64S_b1_S → Option (laws_eqInt64S_b1_S ⊕ laws_eqInt64S_b1_R) := fun s1_1 =>
  if (decide (s1_1 < (a1.length : Int))) = true then
    (rd a1 s1_1).bind fun x42 =>
    (rd a2 s1_1).bind fun x44 =>
    if (x42 != x44) = true then
      some (.inr (.inl ()))
    else
      some (.inl (IntKind.i64.wrap (s1_1 + 1)))
  else
    some (.inr (.inr ()))
theorem laws_eqInt64S_b1_ok (a1 : List Int) (a2 : List Int) (s : laws_eqInt64S_b1_S) (r : laws_eqInt64S_b1_S ⊕ laws_eqInt64S_b1_R) (h : laws_eqInt64S_b1 a1 a2 s = some r) (e : Env) (M : Mem) (hs : laws_eqInt64S_b1_RS a1 a2 s e M) : Ev (fun k => (f8_l4 (CN k) k (prune [0, 1, 5] e) M).bind fun q => some q) (bQ (laws_eqInt64S_b1_RS a1 a2) (laws_eqInt64S_b1_RR a1 a2) r) := by
  revert h hs
  revert s
  intro s1_1 h hs
  unfold laws_eqInt64S_b1 at h
  obtain ⟨h29, h31, h33⟩ := hs
  generalize he28 : prune [0, 1, 5] e = e27
  have h30 := envp he28.symm rfl h29
  have h32 := envp he28.symm rfl h31
  have h34 := envp he28.symm rfl h33
  refine Ev.seq ?_
  refine Ev.seq ?_
  refine Ev.reg (fun _ => rfl) ?_
  refine Ev.nxk (mvO h34) ?_
  refine Ev.nxk (mvO h30) ?_
  refine Ev.nxk (lnS Try.underlying22 rfl) ?_
  refine Ev.nxk (bLss rfl rfl) ?_
  refine Ev.rend ?_
  intro e35 he36
  have h37 : eget e35 0 = .sl none (a1.map (cI .i64)) := envp he36 rfl h30
  have h38 : eget e35 1 = .sl none (a2.map (cI .i64)) := envp he36 rfl h32
  have h39 : eget e35 5 = .int .i64 s1_1 := envp he36 rfl h34
  have h40 : eget e35 14 = .bool (decide (s1_1 < (a1.length : Int))) := envp he36 rfl rfl
  clear h30 h32 h34
  refine Ev.kseqN ?_
  rcases ite_some h with ⟨hb41, h⟩ | ⟨hb41, h⟩
  · refine Ev.condT h40 hb41 ?_
    refine Ev.ex ?_
    refine Ev.kseqN ?_
    refine Ev.seq ?_
    refine Ev.blk ?_
    refine Ev.seq ?_
    refine Ev.regD (fun _ => rfl) ?_
    refine Ev.nfk (mvO h37) ?_
    refine Ev.nfk (mvO h39) ?_
    obtain ⟨x42, hx43, h⟩ := bind_some h
    refine Ev.nfk (ixS rfl rfl hx43 (cI_fl _)) ?_
    refine Ev.nfk (ldP rfl rfl) ?_
    refine Ev.nfk (mvO h38) ?_
    refine Ev.nfk (mvO h39) ?_
    obtain ⟨x44, hx45, h⟩ := bind_some h
    refine Ev.nfk (ixS rfl rfl hx45 (cI_fl _)) ?_
    refine Ev.nfk (ldP rfl rfl) ?_
    refine Ev.nfk (bNeq rfl rfl) ?_
    refine Ev.fend0 ?_
    refine Ev.rend ?_
    intro e46 he47
    have h48 : eget e46 0 = .sl none (a1.map (cI .i64)) := envp he47 rfl h37
    have h49 : eget e46 1 = .sl none (a2.map (cI .i64)) := envp he47 rfl h38
    have h50 : eget e46 5 = .int .i64 s1_1 := envp he47 rfl h39
    have h51 : eget e46 25 = .bool (x42 != x44) := envp he47 rfl rfl
    clear h37 h38 h39 h40
    refine Ev.kseqN ?_
    rcases ite_some h with ⟨hb52, h⟩ | ⟨hb52, h⟩
    · refine Ev.condT h51 hb52 ?_
      refine Ev.seq ?_
      refine Ev.reg (fun _ => rfl) ?_
      refine Ev.nxk (mvO rfl) ?_
      refine Ev.rend ?_
      intro e53 he54
      have h55 : eget e53 4 = .bool false := envp he54 rfl rfl
      clear h48 h49 h50 h51
      refine Ev.kseqN ?_
      refine Ev.ex ?_
      refine Ev.kblkR ?_
      refine Ev.kseqR ?_
      cases h
      exact Ev.kid (bQ_x (RS := (laws_eqInt64S_b1_RS a1 a2)) (RR := (laws_eqInt64S_b1_RR a1 a2)) (by intro h; cases h) (And.intro rfl h55))
    · refine Ev.condF h51 hb52 ?_
      refine Ev.ex ?_
      refine Ev.kblkN ?_
      refine Ev.kseqN ?_
      refine Ev.reg (fun _ => rfl) ?_
      refine Ev.nxk (mvO h50) ?_
      refine Ev.nxk (bAdd rfl rfl) ?_
      refine Ev.nxk (mvO rfl) ?_
      refine Ev.rend ?_
      intro e56 he57
      have h58 : eget e56 0 = .sl none (a1.map (cI .i64)) := envp he57 rfl h48
      have h59 : eget e56 1 = .sl none (a2.map (cI .i64)) := envp he57 rfl h49
      have h60 : eget e56 5 = .int .i64 (IntKind.i64.wrap (s1_1 + 1)) := envp he57 rfl rfl
      clear h48 h49 h51
      cases h
      exact Ev.kid (bQ_n (RS := (laws_eqInt64S_b1_RS a1 a2)) (RR := (laws_eqInt64S_b1_RR a1 a2)) (And.intro h58 (And.intro h59 h60)))
  · refine Ev.condF h40 hb41 ?_
    refine Ev.ex ?_
    refine Ev.kseqE ?_
    cases h
    exact Ev.kid (bQ_x (RS := (laws_eqInt64S_b1_RS a1 a2)) (RR := (laws_eqInt64S_b1_RR a1 a2)) (by intro h; cases h) (And.intro rfl trivial))
noncomputable def laws_eqInt64S (a1 : List Int) (a2 : List Int) : Option Bool :=
  if ((a1.length : Int) != (a2.length : Int)) = true then
    some false
  else
    (Lw (laws_eqInt64S_b1 a1 a2) 0).bind fun r => match r with
    | (.inl _) =>
      some false
    | (.inr _) =>
      some true
def laws_eqInt64S_enc (r : Bool) : AV := .bool r
theorem laws_eqInt64S_ok (a1 : List Int) (a2 : List Int) (r : Bool) (h : laws_eqInt64S a1 a2 = some r) : Ev (fun k => CN k 8 [.sl none (a1.map (cI .i64)), .sl none (a2.map (cI .i64))] []) (fun p => rRes p.2 p.1 = laws_eqInt64S_enc r) := by
  unfold laws_eqInt64S at h
  refine Ev.enter (F := fun k => f8 (CN k) k) (fun k => callN_eq rfl Try.func8 rfl rfl rfl (by decide +kernel) (f8_eq _ _)) ?_
  refine Ev.seq ?_
  refine Ev.reg (fun _ => rfl) ?_
  refine Ev.nxk (mvO rfl) ?_
  refine Ev.rend ?_
  intro e1 he2
  have h3 : eget e1 0 = .sl none (a1.map (cI .i64)) := envp he2 rfl rfl
  have h4 : eget e1 1 = .sl none (a2.map (cI .i64)) := envp he2 rfl rfl
  refine Ev.kseqN ?_
  refine Ev.seq ?_
  refine Ev.seq ?_
  refine Ev.reg (fun _ => rfl) ?_
  refine Ev.nxk (mvO h3) ?_
  refine Ev.nxk (lnS Try.underlying22 rfl) ?_
  refine Ev.nxk (mvO h4) ?_
  refine Ev.nxk (lnS Try.underlying22 rfl) ?_
  refine Ev.nxk (bNeq rfl rfl) ?_
  refine Ev.rend ?_
  intro e5 he6
  have h7 : eget e5 0 = .sl none (a1.map (cI .i64)) := envp he6 rfl h3
  have h8 : eget e5 1 = .sl none (a2.map (cI .i64)) := envp he6 rfl h4
  have h9 : eget e5 10 = .bool ((a1.length : Int) != (a2.length : Int)) := envp he6 rfl rfl
  clear h3 h4
  refine Ev.kseqN ?_
  rcases ite_some h with ⟨hb10, h⟩ | ⟨hb10, h⟩
  · refine Ev.condT h9 hb10 ?_
    refine Ev.seq ?_
    refine Ev.reg (fun _ => rfl) ?_
    refine Ev.nxk (mvO rfl) ?_
    refine Ev.rend ?_
    intro e11 he12
    have h13 : eget e11 4 = .bool false := envp he12 rfl rfl
    clear h7 h8 h9
    refine Ev.kseqN ?_
    refine Ev.ex ?_
    refine Ev.kseqR ?_
    cases h
    exact Ev.kendR (resT h13 res0) rfl
  · refine Ev.condF h9 hb10 ?_
    refine Ev.ex ?_
    refine Ev.kseqN ?_
    refine Ev.seq ?_
    refine Ev.seq ?_
    refine Ev.reg (fun _ => rfl) ?_
    refine Ev.nxk (mvO rfl) ?_
    refine Ev.rend ?_
    intro e14 he15
    have h16 : eget e14 0 = .sl none (a1.map (cI .i64)) := envp he15 rfl h7
    have h17 : eget e14 1 = .sl none (a2.map (cI .i64)) := envp he15 rfl h8
    have h18 : eget e14 5 = .int .i64 0 := envp he15 rfl rfl
    clear h7 h8 h9
    refine Ev.kseqN ?_
    refine Ev.blk ?_
    obtain ⟨r61, hr62, h⟩ := bind_some h
    rcases r61 with _ | _
    · refine Ev.loop (RS := laws_eqInt64S_b1_RS a1 a2) (RR := laws_eqInt64S_b1_RR a1 a2) (fun s r h e M hs => laws_eqInt64S_b1_ok a1 a2 s r h e M hs) hr62 (And.intro h16 (And.intro h17 h18)) ?_
      intro x e64 M65 hq63
      obtain ⟨rfl, h66⟩ := hq63
      refine Ev.kblkR ?_
      refine Ev.kseqR ?_
      cases h
      exact Ev.kendR (resT h66 res0) rfl
    · refine Ev.loop (RS := laws_eqInt64S_b1_RS a1 a2) (RR := laws_eqInt64S_b1_RR a1 a2) (fun s r h e M hs => laws_eqInt64S_b1_ok a1 a2 s r h e M hs) hr62 (And.intro h16 (And.intro h17 h18)) ?_
      intro x e67 M68 hq63
      obtain ⟨rfl, _⟩ := hq63
      refine Ev.kblkE ?_
      refine Ev.kseqN ?_
      refine Ev.seq ?_
      refine Ev.reg (fun _ => rfl) ?_
      refine Ev.nxk (mvO rfl) ?_
      refine Ev.rend ?_
      intro e69 he70
      have h71 : eget e69 4 = .bool true := envp he70 rfl rfl
      refine Ev.kseqN ?_
      refine Ev.ex ?_
      cases h
      exact Ev.kendR (resT h71 res0) rfl
/-! ### loop.example/g01263/laws.eqBook (f7) -/
noncomputable def laws_eqBook (a1 : Book) (a2 : Book) : Option Bool :=
  if (a1.Day != a2.Day) = true then
    some false
  else
    (laws_eqInt64S a1.Cash a2.Cash).bind fun r15 =>
    if r15 = true then
      (laws_eqTallyS a1.Tallies a2.Tallies).bind fun r23 =>
      if r23 = true then
        some true
      else
        some false
    else
      some false
def laws_eqBook_enc (r : Bool) : AV := .bool r
theorem laws_eqBook_ok (a1 : Book) (a2 : Book) (r : Bool) (h : laws_eqBook a1 a2 = some r) : Ev (fun k => CN k 7 [.agg [.int .i64 a1.Day, .sl none (a1.Cash.map (cI .i64)), .sl none (a1.Tallies.map Tally.c)], .agg [.int .i64 a2.Day, .sl none (a2.Cash.map (cI .i64)), .sl none (a2.Tallies.map Tally.c)]] []) (fun p => rRes p.2 p.1 = laws_eqBook_enc r) := by
  unfold laws_eqBook at h
  refine Ev.enter (F := fun k => f7 (CN k) k) (fun k => callN_eq rfl Try.func7 rfl rfl rfl (by decide +kernel) (f7_eq _ _)) ?_
  refine Ev.seq ?_
  refine Ev.reg (fun _ => rfl) ?_
  refine Ev.nxk (bxI rfl rfl ⟨rfl, rfl, by decide⟩) ?_
  refine Ev.nxk (bxI rfl rfl ⟨rfl, rfl, by decide⟩) ?_
  refine Ev.nxk (mvO rfl) ?_
  refine Ev.rend ?_
  intro e1 he2
  have h3 : eget e1 2 = .pt none [.int .i64 a1.Day, .sl none (a1.Cash.map (cI .i64)), .sl none (a1.Tallies.map Tally.c)] := envp he2 rfl rfl
  have h4 : eget e1 3 = .pt none [.int .i64 a2.Day, .sl none (a2.Cash.map (cI .i64)), .sl none (a2.Tallies.map Tally.c)] := envp he2 rfl rfl
  refine Ev.kseqN ?_
  refine Ev.seq ?_
  refine Ev.seq ?_
  refine Ev.reg (fun _ => rfl) ?_
  refine Ev.nxk (faP h3 ⟨ble rfl, blt rfl⟩ rfl) ?_
  refine Ev.nxk (ldP rfl rfl) ?_
  refine Ev.nxk (faP h4 ⟨ble rfl, blt rfl⟩ rfl) ?_
  refine Ev.nxk (ldP rfl rfl) ?_
  refine Ev.nxk (bNeq rfl rfl) ?_
  refine Ev.rend ?_
  intro e5 he6
  have h7 : eget e5 2 = .pt none [.int .i64 a1.Day, .sl none (a1.Cash.map (cI .i64)), .sl none (a1.Tallies.map Tally.c)] := envp he6 rfl h3
  have h8 : eget e5 3 = .pt none [.int .i64 a2.Day, .sl none (a2.Cash.map (cI .i64)), .sl none (a2.Tallies.map Tally.c)] := envp he6 rfl h4
  have h9 : eget e5 9 = .bool (a1.Day != a2.Day) := envp he6 rfl rfl
  clear h3 h4
  refine Ev.kseqN ?_
  rcases ite_some h with ⟨hb10, h⟩ | ⟨hb10, h⟩
  · refine Ev.condT h9 hb10 ?_
    refine Ev.seq ?_
    refine Ev.reg (fun _ => rfl) ?_
    refine Ev.nxk (mvO rfl) ?_
    refine Ev.rend ?_
    intro e11 he12
    have h13 : eget e11 4 = .bool false := envp he12 rfl rfl
    clear h7 h8 h9
    refine Ev.kseqN ?_
    refine Ev.ex ?_
    refine Ev.kseqR ?_
    cases h
    exact Ev.kendR (resT h13 res0) rfl
  · refine Ev.condF h9 hb10 ?_
    refine Ev.ex ?_
    refine Ev.kseqN ?_
    refine Ev.seq ?_
    refine Ev.seq ?_
    refine Ev.reg (fun _ => rfl) ?_
    refine Ev.nxk (faP h7 ⟨ble rfl, blt rfl⟩ rfl) ?_
    refine Ev.nxk (ldP rfl rfl) ?_
    refine Ev.nxk (faP h8 ⟨ble rfl, blt rfl⟩ rfl) ?_
    refine Ev.nxk (ldP rfl rfl) ?_
    obtain ⟨r15, hx14, h⟩ := bind_some h
    refine Ev.nxck (Ev.call (v := .bool r15) rfl (cns rfl (cns rfl rfl)) rfl (laws_eqInt64S_ok a1.Cash a2.Cash _ hx14) (fun h => nomatch (show false = true from h))) ?_
    refine Ev.nxk (uNot rfl) ?_
    refine Ev.rend ?_
    intro e16 he17
    have h18 : eget e16 2 = .pt none [.int .i64 a1.Day, .sl none (a1.Cash.map (cI .i64)), .sl none (a1.Tallies.map Tally.c)] := envp he17 rfl h7
    have h19 : eget e16 3 = .pt none [.int .i64 a2.Day, .sl none (a2.Cash.map (cI .i64)), .sl none (a2.Tallies.map Tally.c)] := envp he17 rfl h8
    have h20 : eget e16 15 = .bool (!r15) := envp he17 rfl rfl
    clear h7 h8 h9
    refine Ev.kseqN ?_
    rcases ite_some h with ⟨hb21, h⟩ | ⟨hb21, h⟩
    · refine Ev.condF h20 (congrArg Bool.not hb21) ?_
      refine Ev.ex ?_
      refine Ev.kseqN ?_
      refine Ev.seq ?_
      refine Ev.seq ?_
      refine Ev.reg (fun _ => rfl) ?_
      refine Ev.nxk (faP h18 ⟨ble rfl, blt rfl⟩ rfl) ?_
      refine Ev.nxk (ldP rfl rfl) ?_
      refine Ev.nxk (faP h19 ⟨ble rfl, blt rfl⟩ rfl) ?_
      refine Ev.nxk (ldP rfl rfl) ?_
      obtain ⟨r23, hx22, h⟩ := bind_some h
      refine Ev.nxck (Ev.call (v := .bool r23) rfl (cns rfl (cns rfl rfl)) rfl (laws_eqTallyS_ok a1.Tallies a2.Tallies _ hx22) (fun h => nomatch (show false = true from h))) ?_
      refine Ev.nxk (uNot rfl) ?_
      refine Ev.rend ?_
      intro e24 he25
      have h26 : eget e24 21 = .bool (!r23) := envp he25 rfl rfl
      clear h18 h19 h20
      refine Ev.kseqN ?_
      rcases ite_some h with ⟨hb27, h⟩ | ⟨hb27, h⟩
      · refine Ev.condF h26 (congrArg Bool.not hb27) ?_
        refine Ev.ex ?_
        refine Ev.kseqN ?_
        refine Ev.seq ?_
        refine Ev.reg (fun _ => rfl) ?_
        refine Ev.nxk (mvO rfl) ?_
        refine Ev.rend ?_
        intro e28 he29
        have h30 : eget e28 4 = .bool true := envp he29 rfl rfl
        clear h26
        refine Ev.kseqN ?_
        refine Ev.ex ?_
        cases h
        exact Ev.kendR (resT h30 res0) rfl
      · refine Ev.condT h26 (congrArg Bool.not hb27) ?_
        refine Ev.seq ?_
        refine Ev.reg (fun _ => rfl) ?_
        refine Ev.nxk (mvO rfl) ?_
        refine Ev.rend ?_
        intro e31 he32
        have h33 : eget e31 4 = .bool false := envp he32 rfl rfl
        clear h26
        refine Ev.kseqN ?_
        refine Ev.ex ?_
        refine Ev.kseqR ?_
        cases h
        exact Ev.kendR (resT h33 res0) rfl
    · refine Ev.condT h20 (congrArg Bool.not hb21) ?_
      refine Ev.seq ?_
      refine Ev.reg (fun _ => rfl) ?_
      refine Ev.nxk (mvO rfl) ?_
      refine Ev.rend ?_
      intro e34 he35
      have h36 : eget e34 4 = .bool false := envp he35 rfl rfl
      clear h18 h19 h20
      refine Ev.kseqN ?_
      refine Ev.ex ?_
      refine Ev.kseqR ?_
      cases h
      exact Ev.kendR (resT h36 res0) rfl
/-! ### loop.example/g01263/impl.NewBook (f6) -/
noncomputable def impl_NewBook (a1 : List Int) : Option (((List Int)) ⊕ Unit) :=
  (slices_Clone_int64 a1).bind fun r10 =>
  (impl_ValidBook (Book.mk 0 r10 ([] : List Tally))).bind fun r35 =>
  if r35 = true then
    some (.inl r10)
  else
    some (.inr ())
def impl_NewBook_enc (r : ((List Int)) ⊕ Unit) : AV :=
  match r with
  | (.inl g) => .tup [.agg [.int .i64 0, .sl (some 2) (g.map (cI .i64)), .nils], .int .i64 0]
  | (.inr g) => .tup [.agg [.int .i64 0, .nils, .nils], .int .i64 2]
theorem impl_NewBook_ok (a1 : List Int) (r : ((List Int)) ⊕ Unit) (h : impl_NewBook a1 = some r) : Ev (fun k => CN k 6 [.sl none (a1.map (cI .i64))] []) (fun p => rRes p.2 p.1 = impl_NewBook_enc r) := by
  unfold impl_NewBook at h
  refine Ev.enter (F := fun k => f6 (CN k) k) (fun k => callN_eq rfl Try.func6 rfl rfl rfl (by decide +kernel) (f6_eq _ _)) ?_
  refine Ev.seq ?_
  refine Ev.reg (fun _ => rfl) ?_
  refine Ev.nxpush (alO zero25) ?_
  intro M2 hM3
  have o4 : M2[([] : Mem).length]? = some (.live ⟨.box, 25, 3, [[.int .i64 0, .nils, .nils]]⟩) := push_new hM3
  refine Ev.nxk (mvO rfl) ?_
  refine Ev.rend ?_
  intro e5 he6
  have h7 : eget e5 0 = .sl none (a1.map (cI .i64)) := envp he6 rfl rfl
  have h8 : eget e5 2 = .loc ([] : Mem).length 1 0 0 := envp he6 rfl rfl
  refine Ev.kseqN ?_
  refine Ev.seq ?_
  refine Ev.reg (fun _ => rfl) ?_
  refine Ev.nxk (mvO h7) ?_
  obtain ⟨r10, hx9, h⟩ := bind_some h
  refine Ev.nxcp (Ev.callT (v := .sl (some 2) (r10.map (cI .i64))) rfl (cns rfl rfl) rfl (slices_Clone_int64_ok a1 _ hx9) (th_gen (v' := .lsl M2.length r10.length 0 r10.length) (l := [⟨.grow, 2, 1, r10.map (cI .i64)⟩]) (ownA_row (c := (cI .i64)) (fun _ => rfl)) (by simp [thaw, thaw2, thaw1, thawL, co2]) rfl rfl)) ?_
  intro M12 hM13
  have o14 := push_old hM13 o4
  have ne15 : ([] : Mem).length ≠ M2.length := by have := lt_of_get o4; omega
  have o16 : M12[M2.length]? = some (.live ⟨.grow, 2, 1, r10.map (cI .i64)⟩) := push_at hM13 0 rfl
  refine Ev.nxk (bldT zero25 (cns (pr3 rfl) rfl) (fill1 ⟨rfl, ble rfl⟩ (all1 (okL o16 (by simp)) all0) rfl (fill0 rfl))) ?_
  refine Ev.nxpush (alO zero25) ?_
  intro M18 hM19
  have o20 := push_old hM19 o14
  have ne21 := ne_new o14
  have o22 := push_old hM19 o16
  have ne23 := ne_new o16
  have o24 : M18[M12.length]? = some (.live ⟨.box, 25, 3, [[.int .i64 0, .nils, .nils]]⟩) := push_new hM19
  refine Ev.nxput (stO rfl rfl o24 rfl rfl ⟨rfl, ble rfl⟩ (all1 rfl (all1 (okL o22 (by simp)) (all1 rfl all0))) rfl) ?_
  intro M25 hM26
  have o27 := set_ne hM26 ne21 o20
  have o28 := set_ne hM26 ne23 o22
  have o29 : M25[M12.length]? = some (.live ⟨.box, 25, 3, [[.int .i64 0, .lsl M2.length r10.length 0 r10.length, .nils]]⟩) := set_same hM26 o24
  refine Ev.rend ?_
  intro e30 he31
  have h32 : eget e30 2 = .loc ([] : Mem).length 1 0 0 := envp he31 rfl h8
  have h33 : eget e30 4 = .loc M12.length 1 0 0 := envp he31 rfl rfl
  clear h7 h8
  refine Ev.kseqN ?_
  refine Ev.seq ?_
  refine Ev.seq ?_
  refine Ev.reg (fun _ => rfl) ?_
  refine Ev.nxk (ldOA h33 o29 rfl rfl (ble rfl) rfl) ?_
  obtain ⟨r35, hx34, h⟩ := bind_some h
  refine Ev.nxck (Ev.call (v := .bool r35) rfl (cns rfl rfl) (ra1 (ra_agg (mp1 rfl (mp1 (ra1_row o28 rfl (cI_fl _)) (mp1 rfl mp0)))) ra0) (impl_ValidBook_ok (Book.mk 0 r10 ([] : List Tally)) _ hx34) (fun _ => rfl)) ?_
  refine Ev.nxk (uNot rfl) ?_
  refine Ev.rend ?_
  intro e36 he37
  have h38 : eget e36 2 = .loc ([] : Mem).length 1 0 0 := envp he37 rfl h32
  have h39 : eget e36 4 = .loc M12.length 1 0 0 := envp he37 rfl h33
  have h40 : eget e36 10 = .bool (!r35) := envp he37 rfl rfl
  clear h32 h33
  refine Ev.kseqN ?_
  rcases ite_some h with ⟨hb41, h⟩ | ⟨hb41, h⟩
  · refine Ev.condF h40 (congrArg Bool.not hb41) ?_
    refine Ev.ex ?_
    refine Ev.kseqN ?_
    refine Ev.seq ?_
    refine Ev.reg (fun _ => rfl) ?_
    refine Ev.nxk (ldOA h39 o29 rfl rfl (ble rfl) rfl) ?_
    refine Ev.nxput (stO h38 rfl o27 rfl rfl ⟨rfl, ble rfl⟩ (all1 rfl (all1 (okL o28 (by simp)) (all1 rfl all0))) rfl) ?_
    intro M42 hM43
    have o44 : M42[([] : Mem).length]? = some (.live ⟨.box, 25, 3, [[.int .i64 0, .lsl M2.length r10.length 0 r10.length, .nils]]⟩) := set_same hM43 o27
    have o45 := set_ne hM43 (Ne.symm ne15) o28
    have o46 := set_ne hM43 (Ne.symm ne21) o29
    refine Ev.nxk (mvO rfl) ?_
    refine Ev.rend ?_
    intro e47 he48
    have h49 : eget e47 2 = .loc ([] : Mem).length 1 0 0 := envp he48 rfl h38
    have h50 : eget e47 3 = .int .i64 0 := envp he48 rfl rfl
    clear h38 h39 h40
    refine Ev.kseqN ?_
    refine Ev.ex ?_
    cases h
    exact Ev.kendR (resC (ag := true) (sz := 3) ⟨by kernel_rfl, by kernel_rfl, by kernel_rfl⟩ (ldOA h49 o44 rfl rfl (ble rfl) rfl) (resT h50 res0)) (rr_tup (mp1 (rr_agg (mp1 rfl (mp1 (rr_row o45 rfl (cI_fl _)) (mp1 rfl mp0)))) (mp1 rfl mp0)))
  · refine Ev.condT h40 (congrArg Bool.not hb41) ?_
    refine Ev.seq ?_
    refine Ev.reg (fun _ => rfl) ?_
    refine Ev.nxk (bldT zero25 rfl (fill0 rfl)) ?_
    refine Ev.nxput (stO h38 rfl o27 rfl rfl ⟨rfl, ble rfl⟩ rfl rfl) ?_
    intro M51 hM52
    have o53 : M51[([] : Mem).length]? = some (.live ⟨.box, 25, 3, [[.int .i64 0, .nils, .nils]]⟩) := set_same hM52 o27
    have o54 := set_ne hM52 (Ne.symm ne15) o28
    have o55 := set_ne hM52 (Ne.symm ne21) o29
    refine Ev.nxk (mvO rfl) ?_
    refine Ev.rend ?_
    intro e56 he57
    have h58 : eget e56 2 = .loc ([] : Mem).length 1 0 0 := envp he57 rfl h38
    have h59 : eget e56 3 = .int .i64 2 := envp he57 rfl rfl
    clear h38 h39 h40
    refine Ev.kseqN ?_
    refine Ev.ex ?_
    refine Ev.kseqR ?_
    cases h
    exact Ev.kendR (resC (ag := true) (sz := 3) ⟨by kernel_rfl, by kernel_rfl, by kernel_rfl⟩ (ldOA h58 o53 rfl rfl (ble rfl) rfl) (resT h59 res0)) rfl
/-! ### loop.example/g01263/laws.toInt64S (f5) -/
abbrev laws_toInt64S_b1_S := Int × (List Int)
abbrev laws_toInt64S_b1_R := (List Int)
def laws_toInt64S_b1_RS (a1 : List Int) (x4 : List Int) (i1_1 : Nat) (s : laws_toInt64S_b1_S) (e : Env) (M : Mem) : Prop := eget e 0 = .sl none (a1.map (cI .i64)) ∧ eget e 3 = .lsl i1_1 s.2.length 0 s.2.length ∧ eget e 4 = .int .i64 s.1 ∧ M[i1_1]? = some (.live ⟨.grow, 2, 1, s.2.map (cI .i64)⟩) ∧ s.2.length = x4.length
def laws_toInt64S_b1_RR (a1 : List Int) (x4 : List Int) (i1_1 : Nat) (g : laws_toInt64S_b1_R) (x : Ex) (e : Env) (M : Mem) : Prop := x = .ext 0 ∧ eget e 3 = .lsl i1_1 g.length 0 g.length ∧ M[i1_1]? = some (.live ⟨.grow, 2, 1, g.map (cI .i64)⟩) ∧ g.length = x4.length
noncomputable def laws_toInt64S_b1 (a1 : List Int) : laws_toInt64S_b1_S → Option (laws_toInt64S_b1_S ⊕ laws_toInt64S_b1_R) := fun (s1_1, s1_2) =>
  if (decide (s1_1 < (a1.length : Int))) = true then
    (rd a1 s1_1).bind fun x45 =>
    (rd s1_2 s1_1).bind fun x47 =>
    some (.inl ((IntKind.i64.wrap (s1_1 + 1)), (s1_2.set s1_1.toNat x45)))
  else
    some (.inr s1_2)
theorem laws_toInt64S_b1_ok (a1 : List Int) (x4 : List Int) (i1_1 : Nat) (s : laws_toInt64S_b1_S) (r : laws_toInt64S_b1_S ⊕ laws_toInt64S_b1_R) (h : laws_toInt64S_b1 a1 s = some r) (e : Env) (M : Mem) (hs : laws_toInt64S_b1_RS a1 x4 i1_1 s e M) : Ev (fun k => (f5_l3 (CN k) k (prune [0, 3, 4] e) M).bind fun q => some q) (bQ (laws_toInt64S_b1_RS a1 x4 i1_1) (laws_toInt64S_b1_RR a1 x4 i1_1) r) := by
  obtain ⟨s1_1, s1_2⟩ := s
  unfold laws_toInt64S_b1 at h
  obtain ⟨h30, h32, h34, o36, hl37⟩ := hs
  generalize he29 : prune [0, 3, 4] e = e28
  have h31 := envp he29.symm rfl h30
  have h33 := envp he29.symm rfl h32
  have h35 := envp he29.symm rfl h34
  refine Ev.seq ?_
  refine Ev.seq ?_
  refine Ev.reg (fun _ => rfl) ?_
  refine Ev.nxk (mvO h35) ?_
  refine Ev.nxk (mvO h31) ?_
  refine Ev.nxk (lnS Try.underlying22 rfl) ?_
  refine Ev.nxk (bLss rfl rfl) ?_
  refine Ev.rend ?_
  intro e38 he39
  have h40 : eget e38 0 = .sl none (a1.map (cI .i64)) := envp he39 rfl h31
  have h41 : eget e38 3 = .lsl i1_1 s1_2.length 0 s1_2.length := envp he39 rfl h33
  have h42 : eget e38 4 = .int .i64 s1_1 := envp he39 rfl h35
  have h43 : eget e38 11 = .bool (decide (s1_1 < (a1.length : Int))) := envp he39 rfl rfl
  clear h31 h33 h35
  refine Ev.kseqN ?_
  rcases ite_some h with ⟨hb44, h⟩ | ⟨hb44, h⟩
  · refine Ev.condT h43 hb44 ?_
    refine Ev.ex ?_
    refine Ev.kseqN ?_
    refine Ev.seq ?_
    refine Ev.blk ?_
    refine Ev.reg (fun _ => rfl) ?_
    refine Ev.nxk (mvO h41) ?_
    refine Ev.nxk (mvO h42) ?_
    refine Ev.nxk (mvO h40) ?_
    refine Ev.nxk (mvO h42) ?_
    obtain ⟨x45, hx46, h⟩ := bind_some h
    refine Ev.nxk (ixS rfl rfl hx46 (cI_fl _)) ?_
    refine Ev.nxk (ldP rfl rfl) ?_
    obtain ⟨x47, hx48, h⟩ := bind_some h
    refine Ev.nxk (ixO rfl o36 rfl rfl (rd_get hx48).1 (rd_lt hx48).2) ?_
    refine Ev.nxput (stR (u' := x45) rfl rfl o36 rfl (by rw [Nat.zero_add]; exact (rd_get hx48).2) ⟨rfl, ble rfl⟩ rfl rfl) ?_
    intro M49 hM50
    rw [Nat.zero_add] at hM50
    have o51 : M49[i1_1]? = some (.live ⟨.grow, 2, 1, (s1_2.set s1_1.toNat x45).map (cI .i64)⟩) := set_same hM50 o36
    refine Ev.rend ?_
    intro e52 he53
    have h54 : eget e52 0 = .sl none (a1.map (cI .i64)) := envp he53 rfl h40
    have h55 : eget e52 3 = .lsl i1_1 s1_2.length 0 s1_2.length := envp he53 rfl h41
    have h56 : eget e52 4 = .int .i64 s1_1 := envp he53 rfl h42
    clear h40 h41 h42 h43
    refine Ev.kblkN ?_
    refine Ev.kseqN ?_
    refine Ev.reg (fun _ => rfl) ?_
    refine Ev.nxk (mvO h56) ?_
    refine Ev.nxk (bAdd rfl rfl) ?_
    refine Ev.nxk (mvO rfl) ?_
    refine Ev.rend ?_
    intro e57 he58
    have h59 : eget e57 0 = .sl none (a1.map (cI .i64)) := envp he58 rfl h54
    have h60 : eget e57 3 = .lsl i1_1 s1_2.length 0 s1_2.length := envp he58 rfl h55
    have h61 : eget e57 4 = .int .i64 (IntKind.i64.wrap (s1_1 + 1)) := envp he58 rfl rfl
    clear h54 h55
    cases h
    exact Ev.kid (bQ_n (RS := (laws_toInt64S_b1_RS a1 x4 i1_1)) (RR := (laws_toInt64S_b1_RR a1 x4 i1_1)) (And.intro h59 (And.intro (lslL (L' := (s1_2.set s1_1.toNat x45).length) h60 (by simp [hl37])) (And.intro h61 (And.intro o51 (by first | rfl | simp [hl37]))))))
  · refine Ev.condF h43 hb44 ?_
    refine Ev.ex ?_
    refine Ev.kseqE ?_
    cases h
    exact Ev.kid (bQ_x (RS := (laws_toInt64S_b1_RS a1 x4 i1_1)) (RR := (laws_toInt64S_b1_RR a1 x4 i1_1)) (by intro h; cases h) (And.intro rfl (And.intro h41 (And.intro o36 (by first | rfl | simp [hl37])))))
noncomputable def laws_toInt64S (a1 : List Int) : Option ((List Int)) :=
  (mkS 8 0 (a1.length : Int)).bind fun x4 =>
  (Lw (laws_toInt64S_b1 a1) (0, x4)).bind fun y67 =>
  some y67
def laws_toInt64S_enc (r : (List Int)) : AV := .sl (some 2) (r.map (cI .i64))
theorem laws_toInt64S_ok (a1 : List Int) (r : (List Int)) (h : laws_toInt64S a1 = some r) : Ev (fun k => CN k 5 [.sl none (a1.map (cI .i64))] []) (fun p => rRes p.2 p.1 = laws_toInt64S_enc r) := by
  unfold laws_toInt64S at h
  refine Ev.enter (F := fun k => f5 (CN k) k) (fun k => callN_eq rfl Try.func5 rfl rfl rfl (by decide +kernel) (f5_eq _ _)) ?_
  refine Ev.seq ?_
  refine Ev.reg (fun _ => rfl) ?_
  refine Ev.nxk (mvO rfl) ?_
  refine Ev.rend ?_
  intro e1 he2
  have h3 : eget e1 0 = .sl none (a1.map (cI .i64)) := envp he2 rfl rfl
  refine Ev.kseqN ?_
  refine Ev.seq ?_
  refine Ev.reg (fun _ => rfl) ?_
  refine Ev.nxk (mvO h3) ?_
  refine Ev.nxk (lnS Try.underlying22 rfl) ?_
  obtain ⟨x4, hx5, h⟩ := bind_some h
  refine Ev.nxpush (mkO rfl rfl hx5 (c := (cI .i64)) zero2 (cI_fl _) (by decide)) ?_
  intro M7 hM8
  have o9 : M7[([] : Mem).length]? = some (.live ⟨.grow, 2, 1, x4.map (cI .i64)⟩) := push_new hM8
  refine Ev.nxk (mvO rfl) ?_
  refine Ev.rend ?_
  intro e10 he11
  have h12 : eget e10 0 = .sl none (a1.map (cI .i64)) := envp he11 rfl h3
  have h13 : eget e10 3 = .lsl ([] : Mem).length x4.length 0 x4.length := envp he11 rfl rfl
  clear h3
  refine Ev.kseqN ?_
  refine Ev.seq ?_
  refine Ev.seq ?_
  refine Ev.reg (fun _ => rfl) ?_
  refine Ev.nxk (mvO rfl) ?_
  refine Ev.rend ?_
  intro e14 he15
  have h16 : eget e14 0 = .sl none (a1.map (cI .i64)) := envp he15 rfl h12
  have h17 : eget e14 3 = .lsl ([] : Mem).length x4.length 0 x4.length := envp he15 rfl h13
  have h18 : eget e14 4 = .int .i64 0 := envp he15 rfl rfl
  clear h12 h13
  refine Ev.kseqN ?_
  refine Ev.blk ?_
  obtain ⟨y67, hr63, h⟩ := bind_some h
  refine Ev.loop (RS := laws_toInt64S_b1_RS a1 x4 (([] : Mem).length)) (RR := laws_toInt64S_b1_RR a1 x4 (([] : Mem).length)) (fun s r h e M hs => laws_toInt64S_b1_ok a1 x4 (([] : Mem).length) s r h e M hs) hr63 (And.intro h16 (And.intro h17 (And.intro h18 (And.intro o9 rfl)))) ?_
  intro x e65 M66 hq64
  obtain ⟨rfl, h68, o69, hl70⟩ := hq64
  refine Ev.kblkE ?_
  refine Ev.kseqN ?_
  refine Ev.seq ?_
  refine Ev.reg (fun _ => rfl) ?_
  refine Ev.nxk (mvO h68) ?_
  refine Ev.nxk (mvO rfl) ?_
  refine Ev.rend ?_
  intro e71 he72
  have h73 : eget e71 2 = .lsl ([] : Mem).length y67.length 0 y67.length := envp he72 rfl rfl
  clear h68
  refine Ev.kseqN ?_
  refine Ev.ex ?_
  cases h
  exact Ev.kendR (resT h73 res0) (rr_row o69 rfl (cI_fl _))
/-! ### loop.example/g01263/spec.NewBook (f4) -/
noncomputable def spec_NewBook (a1 : List Int) : Option (((List Int)) ⊕ Unit) :=
  (spec_l07Cash a1).bind fun r10 =>
  if r10 = true then
    (app 8 ([] : List Int) a1).bind fun x23 =>
    some (.inl x23)
  else
    some (.inr ())
def spec_NewBook_enc (r : ((List Int)) ⊕ Unit) : AV :=
  match r with
  | (.inl g) => .tup [.agg [.int .i64 0, .sl (some 2) (g.map (cI .i64)), .nils], .int .i64 0]
  | (.inr g) => .tup [.agg [.int .i64 0, .nils, .nils], .int .i64 2]
theorem spec_NewBook_ok (a1 : List Int) (r : ((List Int)) ⊕ Unit) (h : spec_NewBook a1 = some r) : Ev (fun k => CN k 4 [.sl none (a1.map (cI .i64))] []) (fun p => rRes p.2 p.1 = spec_NewBook_enc r) := by
  unfold spec_NewBook at h
  refine Ev.enter (F := fun k => f4 (CN k) k) (fun k => callN_eq rfl Try.func4 rfl rfl rfl (by decide +kernel) (f4_eq _ _)) ?_
  refine Ev.seq ?_
  refine Ev.reg (fun _ => rfl) ?_
  refine Ev.nxpush (alO zero25) ?_
  intro M2 hM3
  have o4 : M2[([] : Mem).length]? = some (.live ⟨.box, 25, 3, [[.int .i64 0, .nils, .nils]]⟩) := push_new hM3
  refine Ev.nxk (mvO rfl) ?_
  refine Ev.rend ?_
  intro e5 he6
  have h7 : eget e5 0 = .sl none (a1.map (cI .i64)) := envp he6 rfl rfl
  have h8 : eget e5 2 = .loc ([] : Mem).length 1 0 0 := envp he6 rfl rfl
  refine Ev.kseqN ?_
  refine Ev.seq ?_
  refine Ev.seq ?_
  refine Ev.reg (fun _ => rfl) ?_
  refine Ev.nxk (mvO h7) ?_
  obtain ⟨r10, hx9, h⟩ := bind_some h
  refine Ev.nxck (Ev.call (v := .bool r10) rfl (cns rfl rfl) rfl (spec_l07Cash_ok a1 _ hx9) (fun h => nomatch (show false = true from h))) ?_
  refine Ev.nxk (uNot rfl) ?_
  refine Ev.rend ?_
  intro e11 he12
  have h13 : eget e11 0 = .sl none (a1.map (cI .i64)) := envp he12 rfl h7
  have h14 : eget e11 2 = .loc ([] : Mem).length 1 0 0 := envp he12 rfl h8
  have h15 : eget e11 6 = .bool (!r10) := envp he12 rfl rfl
  clear h7 h8
  refine Ev.kseqN ?_
  rcases ite_some h with ⟨hb16, h⟩ | ⟨hb16, h⟩
  · refine Ev.condF h15 (congrArg Bool.not hb16) ?_
    refine Ev.ex ?_
    refine Ev.kseqN ?_
    refine Ev.seq ?_
    refine Ev.reg (fun _ => rfl) ?_
    refine Ev.nxpush (litO (xs := ([] : List Int)) (c := (cI .i64)) rfl rfl (by decide)) ?_
    intro M18 hM19
    have o20 := push_old hM19 o4
    have ne21 := ne_new o4
    have o22 : M18[M2.length]? = some (.live ⟨.grow, 2, 1, ([] : List Int).map (cI .i64)⟩) := push_new hM19
    refine Ev.nxk (mvO h13) ?_
    obtain ⟨x23, hx24, h⟩ := bind_some h
    refine Ev.nxput (apO rfl o22 rfl (elS rfl) hx24 (cI_fl _) (by decide)) ?_
    intro M25 hM26
    have o27 := set_ne hM26 ne21 o20
    have o28 : M25[M2.length]? = some (.live ⟨.grow, 2, 1, x23.map (cI .i64)⟩) := set_same hM26 o22
    refine Ev.nxk (bldT zero25 (cns (pr3 rfl) rfl) (fill1 ⟨rfl, ble rfl⟩ (all1 (okL o28 (by simp)) all0) rfl (fill0 rfl))) ?_
    refine Ev.nxput (stO h14 rfl o27 rfl rfl ⟨rfl, ble rfl⟩ (all1 rfl (all1 (okL o28 (by simp)) (all1 rfl all0))) rfl) ?_
    intro M29 hM30
    have o31 : M29[([] : Mem).length]? = some (.live ⟨.box, 25, 3, [[.int .i64 0, .lsl M2.length x23.length 0 x23.length, .nils]]⟩) := set_same hM30 o27
    have o32 := set_ne hM30 (Ne.symm ne21) o28
    refine Ev.nxk (mvO rfl) ?_
    refine Ev.rend ?_
    intro e33 he34
    have h35 : eget e33 2 = .loc ([] : Mem).length 1 0 0 := envp he34 rfl h14
    have h36 : eget e33 3 = .int .i64 0 := envp he34 rfl rfl
    clear h13 h14 h15
    refine Ev.kseqN ?_
    refine Ev.ex ?_
    cases h
    exact Ev.kendR (resC (ag := true) (sz := 3) ⟨by kernel_rfl, by kernel_rfl, by kernel_rfl⟩ (ldOA h35 o31 rfl rfl (ble rfl) rfl) (resT h36 res0)) (rr_tup (mp1 (rr_agg (mp1 rfl (mp1 (rr_row o32 rfl (cI_fl _)) (mp1 rfl mp0)))) (mp1 rfl mp0)))
  · refine Ev.condT h15 (congrArg Bool.not hb16) ?_
    refine Ev.seq ?_
    refine Ev.reg (fun _ => rfl) ?_
    refine Ev.nxk (bldT zero25 rfl (fill0 rfl)) ?_
    refine Ev.nxput (stO h14 rfl o4 rfl rfl ⟨rfl, ble rfl⟩ rfl rfl) ?_
    intro M37 hM38
    have o39 : M37[([] : Mem).length]? = some (.live ⟨.box, 25, 3, [[.int .i64 0, .nils, .nils]]⟩) := set_same hM38 o4
    refine Ev.nxk (mvO rfl) ?_
    refine Ev.rend ?_
    intro e40 he41
    have h42 : eget e40 2 = .loc ([] : Mem).length 1 0 0 := envp he41 rfl h14
    have h43 : eget e40 3 = .int .i64 2 := envp he41 rfl rfl
    clear h13 h14 h15
    refine Ev.kseqN ?_
    refine Ev.ex ?_
    refine Ev.kseqR ?_
    cases h
    exact Ev.kendR (resC (ag := true) (sz := 3) ⟨by kernel_rfl, by kernel_rfl, by kernel_rfl⟩ (ldOA h42 o39 rfl rfl (ble rfl) rfl) (resT h43 res0)) rfl
/-! ### loop.example/g01263/laws.markInt64S (f9) -/
abbrev laws_markInt64S_l_b1_S := Int × Int × (List Int)
abbrev laws_markInt64S_l_b1_R := Int × (List Int)
def laws_markInt64S_l_b1_RS (a1 : List Int) (j1 : Nat) (M0 : Mem) (s : laws_markInt64S_l_b1_S) (e : Env) (M : Mem) : Prop := eget e 0 = .lsl j1 s.2.2.length 0 s.2.2.length ∧ eget e 1 = .int .i64 s.1 ∧ eget e 5 = .int .i64 s.2.1 ∧ M[j1]? = some (.live ⟨.grow, 2, 1, s.2.2.map (cI .i64)⟩) ∧ Fr [j1] M0 M ∧ s.2.2.length = a1.length
def laws_markInt64S_l_b1_RR (a1 : List Int) (j1 : Nat) (M0 : Mem) (g : laws_markInt64S_l_b1_R) (x : Ex) (e : Env) (M : Mem) : Prop := x = .ext 0 ∧ eget e 1 = .int .i64 g.1 ∧ M[j1]? = some (.live ⟨.grow, 2, 1, g.2.map (cI .i64)⟩) ∧ Fr [j1] M0 M ∧ g.2.length = a1.length
noncomputable def laws_markInt64S_l_b1 : laws_markInt64S_l_b1_S → Option (laws_markInt64S_l_b1_S ⊕ laws_markInt64S_l_b1_R) := fun (s1_1, s1_2, s1_3) =>
  if (decide (s1_2 < (s1_3.length : Int))) = true then
    (rd s1_3 s1_2).bind fun x38 =>
    some (.inl ((IntKind.i64.wrap (s1_1 + 1)), (IntKind.i64.wrap (s1_2 + 1)), (s1_3.set s1_2.toNat s1_1)))
  else
    some (.inr (s1_1, s1_3))
theorem laws_markInt64S_l_b1_ok (a1 : List Int) (j1 : Nat) (M0 : Mem) (s : laws_markInt64S_l_b1_S) (r : laws_markInt64S_l_b1_S ⊕ laws_markInt64S_l_b1_R) (h : laws_markInt64S_l_b1 s = some r) (e : Env) (M : Mem) (hs : laws_markInt64S_l_b1_RS a1 j1 M0 s e M) : Ev (fun k => (f9_l2 (CN k) k (prune [0, 1, 5] e) M).bind fun q => some q) (bQ (laws_markInt64S_l_b1_RS a1 j1 M0) (laws_markInt64S_l_b1_RR a1 j1 M0) r) := by
  obtain ⟨s1_1, s1_2, s1_3⟩ := s
  unfold laws_markInt64S_l_b1 at h
  obtain ⟨h22, h24, h26, o28, fr29, hl30⟩ := hs
  generalize he21 : prune [0, 1, 5] e = e20
  have h23 := envp he21.symm rfl h22
  have h25 := envp he21.symm rfl h24
  have h27 := envp he21.symm rfl h26
  refine Ev.seq ?_
  refine Ev.seq ?_
  refine Ev.reg (fun _ => rfl) ?_
  refine Ev.nxk (mvO h27) ?_
  refine Ev.nxk (mvO h23) ?_
  refine Ev.nxk (lnL Try.underlying22 rfl o28 (by simp [hl30])) ?_
  refine Ev.nxk (bLss rfl rfl) ?_
  refine Ev.rend ?_
  intro e31 he32
  have h33 : eget e31 0 = .lsl j1 s1_3.length 0 s1_3.length := envp he32 rfl h23
  have h34 : eget e31 1 = .int .i64 s1_1 := envp he32 rfl h25
  have h35 : eget e31 5 = .int .i64 s1_2 := envp he32 rfl h27
  have h36 : eget e31 9 = .bool (decide (s1_2 < (s1_3.length : Int))) := envp he32 rfl rfl
  clear h23 h25 h27
  refine Ev.kseqN ?_
  rcases ite_some h with ⟨hb37, h⟩ | ⟨hb37, h⟩
  · refine Ev.condT h36 hb37 ?_
    refine Ev.ex ?_
    refine Ev.kseqN ?_
    refine Ev.seq ?_
    refine Ev.blk ?_
    refine Ev.seq ?_
    refine Ev.reg (fun _ => rfl) ?_
    refine Ev.nxk (mvO h33) ?_
    refine Ev.nxk (mvO h35) ?_
    refine Ev.nxk (mvO h34) ?_
    obtain ⟨x38, hx39, h⟩ := bind_some h
    refine Ev.nxk (ixO rfl o28 rfl rfl (rd_get hx39).1 (rd_lt hx39).2) ?_
    refine Ev.nxput (stR (u' := s1_1) rfl rfl o28 rfl (by rw [Nat.zero_add]; exact (rd_get hx39).2) ⟨rfl, ble rfl⟩ rfl rfl) ?_
    intro M40 hM41
    rw [Nat.zero_add] at hM41
    have o42 : M40[j1]? = some (.live ⟨.grow, 2, 1, (s1_3.set s1_2.toNat s1_1).map (cI .i64)⟩) := set_same hM41 o28
    have fr43 := Fr.setIn fr29 hM41 (by simp)
    refine Ev.rend ?_
    intro e44 he45
    have h46 : eget e44 0 = .lsl j1 s1_3.length 0 s1_3.length := envp he45 rfl h33
    have h47 : eget e44 1 = .int .i64 s1_1 := envp he45 rfl h34
    have h48 : eget e44 5 = .int .i64 s1_2 := envp he45 rfl h35
    clear h33 h34 h35 h36
    refine Ev.kseqN ?_
    refine Ev.reg (fun _ => rfl) ?_
    refine Ev.nxk (mvO h47) ?_
    refine Ev.nxk (bAdd rfl rfl) ?_
    refine Ev.nxk (mvO rfl) ?_
    refine Ev.rend ?_
    intro e49 he50
    have h51 : eget e49 0 = .lsl j1 s1_3.length 0 s1_3.length := envp he50 rfl h46
    have h52 : eget e49 1 = .int .i64 (IntKind.i64.wrap (s1_1 + 1)) := envp he50 rfl rfl
    have h53 : eget e49 5 = .int .i64 s1_2 := envp he50 rfl h48
    clear h46 h48
    refine Ev.kblkN ?_
    refine Ev.kseqN ?_
    refine Ev.reg (fun _ => rfl) ?_
    refine Ev.nxk (mvO h53) ?_
    refine Ev.nxk (bAdd rfl rfl) ?_
    refine Ev.nxk (mvO rfl) ?_
    refine Ev.rend ?_
    intro e54 he55
    have h56 : eget e54 0 = .lsl j1 s1_3.length 0 s1_3.length := envp he55 rfl h51
    have h57 : eget e54 1 = .int .i64 (IntKind.i64.wrap (s1_1 + 1)) := envp he55 rfl h52
    have h58 : eget e54 5 = .int .i64 (IntKind.i64.wrap (s1_2 + 1)) := envp he55 rfl rfl
    clear h51 h52
    cases h
    exact Ev.kid (bQ_n (RS := (laws_markInt64S_l_b1_RS a1 j1 M0)) (RR := (laws_markInt64S_l_b1_RR a1 j1 M0)) (And.intro (lslL (L' := (s1_3.set s1_2.toNat s1_1).length) h56 (by simp [hl30])) (And.intro h57 (And.intro h58 (And.intro o42 (And.intro fr43 (by first | rfl | simp [hl30])))))))
  · refine Ev.condF h36 hb37 ?_
    refine Ev.ex ?_
    refine Ev.kseqE ?_
    cases h
    exact Ev.kid (bQ_x (RS := (laws_markInt64S_l_b1_RS a1 j1 M0)) (RR := (laws_markInt64S_l_b1_RR a1 j1 M0)) (by intro h; cases h) (And.intro rfl (And.intro h34 (And.intro o28 (And.intro fr29 (by first | rfl | simp [hl30]))))))
noncomputable def laws_markInt64S_l (a1 : List Int) (a2 : Int) : Option (Int × (List Int)) :=
  (Lw (laws_markInt64S_l_b1) (a2, 0, a1)).bind fun (y64, y65) =>
  some (y64, y65)
def laws_markInt64S_l_Q (a1 : List Int) (a2 : Int) (j1 : Nat) (M0 : Mem) (r : Int × (List Int)) (p : AV × Mem) : Prop := p.1 = .int .i64 r.1 ∧ p.2[j1]? = some (.live ⟨.grow, 2, 1, r.2.map (cI .i64)⟩) ∧ Fr [j1] M0 p.2 ∧ r.2.length = a1.length
theorem laws_markInt64S_l_ok (a1 : List Int) (a2 : Int) (j1 : Nat) (M0 : Mem) (oP1 : M0[j1]? = some (.live ⟨.grow, 2, 1, a1.map (cI .i64)⟩)) (r : Int × (List Int)) (h : laws_markInt64S_l a1 a2 = some r) : Ev (fun k => CN k 9 [.lsl j1 a1.length 0 a1.length, .int .i64 a2] M0) (laws_markInt64S_l_Q a1 a2 j1 M0 r) := by
  unfold laws_markInt64S_l at h
  have fr0 : Fr [j1] M0 M0 := Fr.refl
  refine Ev.enter (F := fun k => f9 (CN k) k) (fun k => callN_eq rfl Try.func9 rfl rfl rfl (by decide +kernel) (f9_eq _ _)) ?_
  refine Ev.seq ?_
  refine Ev.reg (fun _ => rfl) ?_
  refine Ev.nxk (mvO rfl) ?_
  refine Ev.rend ?_
  intro e1 he2
  have h3 : eget e1 0 = .lsl j1 a1.length 0 a1.length := envp he2 rfl rfl
  have h4 : eget e1 1 = .int .i64 a2 := envp he2 rfl rfl
  refine Ev.kseqN ?_
  refine Ev.seq ?_
  refine Ev.seq ?_
  refine Ev.reg (fun _ => rfl) ?_
  refine Ev.nxk (mvO rfl) ?_
  refine Ev.rend ?_
  intro e5 he6
  have h7 : eget e5 0 = .lsl j1 a1.length 0 a1.length := envp he6 rfl h3
  have h8 : eget e5 1 = .int .i64 a2 := envp he6 rfl h4
  have h9 : eget e5 5 = .int .i64 0 := envp he6 rfl rfl
  clear h3 h4
  refine Ev.kseqN ?_
  refine Ev.blk ?_
  obtain ⟨⟨y64, y65⟩, hr60, h⟩ := bind_some h
  refine Ev.loop (RS := laws_markInt64S_l_b1_RS a1 j1 M0) (RR := laws_markInt64S_l_b1_RR a1 j1 M0) (fun s r h e M hs => laws_markInt64S_l_b1_ok a1 j1 M0 s r h e M hs) hr60 (And.intro h7 (And.intro h8 (And.intro h9 (And.intro oP1 (And.intro fr0 rfl))))) ?_
  intro x e62 M63 hq61
  obtain ⟨rfl, h66, o67, fr68, hl69⟩ := hq61
  refine Ev.kblkE ?_
  refine Ev.kseqN ?_
  refine Ev.seq ?_
  refine Ev.reg (fun _ => rfl) ?_
  refine Ev.nxk (mvO h66) ?_
  refine Ev.nxk (mvO rfl) ?_
  refine Ev.rend ?_
  intro e70 he71
  have h72 : eget e70 4 = .int .i64 y64 := envp he71 rfl rfl
  clear h66
  refine Ev.kseqN ?_
  refine Ev.ex ?_
  cases h
  exact Ev.kendR (resT h72 res0) (And.intro rfl (And.intro o67 (And.intro fr68 (by first | rfl | simp [hl69]))))
/-! ### loop.example/g01263/laws.markTallyS (f16) -/
abbrev laws_markTallyS_n_b1_S := Int × Int
abbrev laws_markTallyS_n_b1_R := Int
def laws_markTallyS_n_b1_RS (M0 : Mem) (s : laws_markTallyS_n_b1_S) (e : Env) (M : Mem) : Prop := eget e 0 = .nils ∧ eget e 1 = .int .i64 s.1 ∧ eget e 5 = .int .i64 s.2 ∧ Fr [] M0 M
def laws_markTallyS_n_b1_RR (M0 : Mem) (g : laws_markTallyS_n_b1_R) (x : Ex) (e : Env) (M : Mem) : Prop := x = .ext 0 ∧ eget e 1 = .int .i64 g ∧ Fr [] M0 M
noncomputable def laws_markTallyS_n_b1 : laws_markTallyS_n_b1_S → Option (laws_markTallyS_n_b1_S ⊕ laws_markTallyS_n_b1_R) := fun (s1_1, s1_2) =>
  if (decide (s1_2 < 0)) = true then
    none
  else
    some (.inr s1_1)
theorem laws_markTallyS_n_b1_ok (M0 : Mem) (s : laws_markTallyS_n_b1_S) (r : laws_markTallyS_n_b1_S ⊕ laws_markTallyS_n_b1_R) (h : laws_markTallyS_n_b1 s = some r) (e : Env) (M : Mem) (hs : laws_markTallyS_n_b1_RS M0 s e M) : Ev (fun k => (f16_l2 (CN k) k (prune [0, 1, 5] e) M).bind fun q => some q) (bQ (laws_markTallyS_n_b1_RS M0) (laws_markTallyS_n_b1_RR M0) r) := by
  obtain ⟨s1_1, s1_2⟩ := s
  unfold laws_markTallyS_n_b1 at h
  obtain ⟨h21, h23, h25, fr27⟩ := hs
  generalize he20 : prune [0, 1, 5] e = e19
  have h22 := envp he20.symm rfl h21
  have h24 := envp he20.symm rfl h23
  have h26 := envp he20.symm rfl h25
  refine Ev.seq ?_
  refine Ev.seq ?_
  refine Ev.reg (fun _ => rfl) ?_
  refine Ev.nxk (mvO h26) ?_
  refine Ev.nxk (mvO h22) ?_
  refine Ev.nxk (lnN Try.underlying23 rfl) ?_
  refine Ev.nxk (bLss rfl rfl) ?_
  refine Ev.rend ?_
  intro e28 he29
  have h30 : eget e28 0 = .nils := envp he29 rfl h22
  have h31 : eget e28 1 = .int .i64 s1_1 := envp he29 rfl h24
  have h32 : eget e28 5 = .int .i64 s1_2 := envp he29 rfl h26
  have h33 : eget e28 9 = .bool (decide (s1_2 < 0)) := envp he29 rfl rfl
  clear h22 h24 h26
  refine Ev.kseqN ?_
  rcases ite_some h with ⟨hb34, h⟩ | ⟨hb34, h⟩
  · refine Ev.condT h33 hb34 ?_
    refine Ev.ex ?_
    refine Ev.kseqN ?_
    refine Ev.seq ?_
    refine Ev.blk ?_
    refine Ev.seq ?_
    refine Ev.reg (fun _ => rfl) ?_
    refine Ev.nxk (mvO h30) ?_
    refine Ev.nxk (mvO h32) ?_
    refine Ev.nxk (mvO h31) ?_
    cases h
  · refine Ev.condF h33 hb34 ?_
    refine Ev.ex ?_
    refine Ev.kseqE ?_
    cases h
    exact Ev.kid (bQ_x (RS := (laws_markTallyS_n_b1_RS M0)) (RR := (laws_markTallyS_n_b1_RR M0)) (by intro h; cases h) (And.intro rfl (And.intro h31 fr27)))
noncomputable def laws_markTallyS_n (a1 : Int) : Option Int :=
  (Lw (laws_markTallyS_n_b1) (a1, 0)).bind fun y40 =>
  some y40
def laws_markTallyS_n_Q (a1 : Int) (M0 : Mem) (r : Int) (p : AV × Mem) : Prop := p.1 = .int .i64 r ∧ Fr [] M0 p.2
theorem laws_markTallyS_n_ok (a1 : Int) (M0 : Mem) (r : Int) (h : laws_markTallyS_n a1 = some r) : Ev (fun k => CN k 16 [.nils, .int .i64 a1] M0) (laws_markTallyS_n_Q a1 M0 r) := by
  unfold laws_markTallyS_n at h
  have fr0 : Fr [] M0 M0 := Fr.refl
  refine Ev.enter (F := fun k => f16 (CN k) k) (fun k => callN_eq rfl Try.func16 rfl rfl rfl (by decide +kernel) (f16_eq _ _)) ?_
  refine Ev.seq ?_
  refine Ev.reg (fun _ => rfl) ?_
  refine Ev.nxk (mvO rfl) ?_
  refine Ev.rend ?_
  intro e1 he2
  have h3 : eget e1 0 = .nils := envp he2 rfl rfl
  have h4 : eget e1 1 = .int .i64 a1 := envp he2 rfl rfl
  refine Ev.kseqN ?_
  refine Ev.seq ?_
  refine Ev.seq ?_
  refine Ev.reg (fun _ => rfl) ?_
  refine Ev.nxk (mvO rfl) ?_
  refine Ev.rend ?_
  intro e5 he6
  have h7 : eget e5 0 = .nils := envp he6 rfl h3
  have h8 : eget e5 1 = .int .i64 a1 := envp he6 rfl h4
  have h9 : eget e5 5 = .int .i64 0 := envp he6 rfl rfl
  clear h3 h4
  refine Ev.kseqN ?_
  refine Ev.blk ?_
  obtain ⟨y40, hr36, h⟩ := bind_some h
  refine Ev.loop (RS := laws_markTallyS_n_b1_RS M0) (RR := laws_markTallyS_n_b1_RR M0) (fun s r h e M hs => laws_markTallyS_n_b1_ok M0 s r h e M hs) hr36 (And.intro h7 (And.intro h8 (And.intro h9 fr0))) ?_
  intro x e38 M39 hq37
  obtain ⟨rfl, h41, fr42⟩ := hq37
  refine Ev.kblkE ?_
  refine Ev.kseqN ?_
  refine Ev.seq ?_
  refine Ev.reg (fun _ => rfl) ?_
  refine Ev.nxk (mvO h41) ?_
  refine Ev.nxk (mvO rfl) ?_
  refine Ev.rend ?_
  intro e43 he44
  have h45 : eget e43 4 = .int .i64 y40 := envp he44 rfl rfl
  clear h41
  refine Ev.kseqN ?_
  refine Ev.ex ?_
  cases h
  exact Ev.kendR (resT h45 res0) (And.intro rfl fr42)
/-! ### loop.example/g01263/laws.markBook (f10) -/
noncomputable def laws_markBook_ln (a1 : Int) (a2 : List Int) (a3 : Int) : Option (Int × (List Int)) :=
  (laws_markInt64S_l a2 a3).bind fun (r14, r15) =>
  (laws_markTallyS_n r14).bind fun r30 =>
  some (r30, r15)
def laws_markBook_ln_Q (a1 : Int) (a2 : List Int) (a3 : Int) (j1 : Nat) (M0 : Mem) (r : Int × (List Int)) (p : AV × Mem) : Prop := p.1 = .int .i64 r.1 ∧ p.2[j1]? = some (.live ⟨.grow, 2, 1, r.2.map (cI .i64)⟩) ∧ Fr [j1] M0 p.2 ∧ r.2.length = a2.length
theorem laws_markBook_ln_ok (a1 : Int) (a2 : List Int) (a3 : Int) (j1 : Nat) (M0 : Mem) (oP1 : M0[j1]? = some (.live ⟨.grow, 2, 1, a2.map (cI .i64)⟩)) (r : Int × (List Int)) (h : laws_markBook_ln a1 a2 a3 = some r) : Ev (fun k => CN k 10 [.agg [.int .i64 a1, .lsl j1 a2.length 0 a2.length, .nils], .int .i64 a3] M0) (laws_markBook_ln_Q a1 a2 a3 j1 M0 r) := by
  unfold laws_markBook_ln at h
  have fr0 : Fr [j1] M0 M0 := Fr.refl
  refine Ev.enter (F := fun k => f10 (CN k) k) (fun k => callN_eq rfl Try.func10 rfl rfl rfl (by decide +kernel) (f10_eq _ _)) ?_
  refine Ev.seq ?_
  refine Ev.reg (fun _ => rfl) ?_
  refine Ev.nxpush (bxO rfl rfl ⟨rfl, (all1 rfl (all1 (okL oP1 (by simp)) (all1 rfl all0))), by decide⟩) ?_
  intro M2 hM3
  have nf4 := Nf.mk fr0
  have fr5 := Fr.push fr0 hM3
  have o6 := push_old hM3 oP1
  have ne7 := ne_new oP1
  have o8 : M2[M0.length]? = some (.live ⟨.box, 25, 3, [[.int .i64 a1, .lsl j1 a2.length 0 a2.length, .nils]]⟩) := push_new hM3
  refine Ev.nxk (mvO rfl) ?_
  refine Ev.rend ?_
  intro e9 he10
  have h11 : eget e9 1 = .int .i64 a3 := envp he10 rfl rfl
  have h12 : eget e9 2 = .loc M0.length 1 0 0 := envp he10 rfl rfl
  refine Ev.kseqN ?_
  refine Ev.seq ?_
  refine Ev.reg (fun _ => rfl) ?_
  refine Ev.nxk (faO h12 o8 rfl) ?_
  refine Ev.nxk (ldO rfl o8 rfl rfl rfl) ?_
  refine Ev.nxk (mvO h11) ?_
  obtain ⟨⟨r14, r15⟩, hx13, h⟩ := bind_some h
  refine Ev.nxw (Ev.callW rfl (cns rfl (cns rfl rfl)) (laws_markInt64S_l_ok a2 a3 j1 M2 o6 _ hx13)) ?_
  intro v18 M16 hq17
  obtain ⟨hv18, o19, fr20, hl21⟩ := hq17
  have hv18 : v18 = .int .i64 r14 := hv18
  subst hv18
  have o22 : M16[j1]? = some (.live ⟨.grow, 2, 1, r15.map (cI .i64)⟩) := o19
  have hl21 : r15.length = a2.length := hl21
  have o23 : M16[M0.length]? = some (.live ⟨.box, 25, 3, [[.int .i64 a1, .lsl j1 a2.length 0 a2.length, .nils]]⟩) := fr20 _ _ (niC (Ne.symm ne7) niN) o8
  have fr24 : Fr [j1] M0 M16 := Fr.call fr5 fr20 (fwI (by simp) fwN)
  refine Ev.nxk (mvO rfl) ?_
  refine Ev.rend ?_
  intro e25 he26
  have h27 : eget e25 1 = .int .i64 r14 := envp he26 rfl rfl
  have h28 : eget e25 2 = .loc M0.length 1 0 0 := envp he26 rfl h12
  clear h12
  refine Ev.kseqN ?_
  refine Ev.seq ?_
  refine Ev.reg (fun _ => rfl) ?_
  refine Ev.nxk (faO h28 o23 rfl) ?_
  refine Ev.nxk (ldO rfl o23 rfl rfl rfl) ?_
  refine Ev.nxk (mvO h27) ?_
  obtain ⟨r30, hx29, h⟩ := bind_some h
  refine Ev.nxw (Ev.callW rfl (cns rfl (cns rfl rfl)) (laws_markTallyS_n_ok r14 M16 _ hx29)) ?_
  intro v33 M31 hq32
  obtain ⟨hv33, fr34⟩ := hq32
  have hv33 : v33 = .int .i64 r30 := hv33
  subst hv33
  have o35 : M31[j1]? = some (.live ⟨.grow, 2, 1, r15.map (cI .i64)⟩) := fr34 _ _ niN o22
  have o36 : M31[M0.length]? = some (.live ⟨.box, 25, 3, [[.int .i64 a1, .lsl j1 a2.length 0 a2.length, .nils]]⟩) := fr34 _ _ niN o23
  have fr37 : Fr [j1] M0 M31 := Fr.call fr24 fr34 fwN
  refine Ev.nxk (mvO rfl) ?_
  refine Ev.rend ?_
  intro e38 he39
  have h40 : eget e38 1 = .int .i64 r30 := envp he39 rfl rfl
  clear h28
  refine Ev.kseqN ?_
  refine Ev.seq ?_
  refine Ev.reg (fun _ => rfl) ?_
  refine Ev.nxk (mvO h40) ?_
  refine Ev.nxk (mvO rfl) ?_
  refine Ev.rend ?_
  intro e41 he42
  have h43 : eget e41 4 = .int .i64 r30 := envp he42 rfl rfl
  clear h40
  refine Ev.kseqN ?_
  refine Ev.ex ?_
  cases h
  exact Ev.kendR (resT h43 res0) (And.intro rfl (And.intro o35 (And.intro fr37 (by first | rfl | simp [hl21]))))
/-! ### loop.example/g01263/laws.markInt64S (f9) -/
abbrev laws_markInt64S_n_b1_S := Int × Int
abbrev laws_markInt64S_n_b1_R := Int
def laws_markInt64S_n_b1_RS (M0 : Mem) (s : laws_markInt64S_n_b1_S) (e : Env) (M : Mem) : Prop := eget e 0 = .nils ∧ eget e 1 = .int .i64 s.1 ∧ eget e 5 = .int .i64 s.2 ∧ Fr [] M0 M
def laws_markInt64S_n_b1_RR (M0 : Mem) (g : laws_markInt64S_n_b1_R) (x : Ex) (e : Env) (M : Mem) : Prop := x = .ext 0 ∧ eget e 1 = .int .i64 g ∧ Fr [] M0 M
noncomputable def laws_markInt64S_n_b1 : laws_markInt64S_n_b1_S → Option (laws_markInt64S_n_b1_S ⊕ laws_markInt64S_n_b1_R) := fun (s1_1, s1_2) =>
  if (decide (s1_2 < 0)) = true then
    none
  else
    some (.inr s1_1)
theorem laws_markInt64S_n_b1_ok (M0 : Mem) (s : laws_markInt64S_n_b1_S) (r : laws_markInt64S_n_b1_S ⊕ laws_markInt64S_n_b1_R) (h : laws_markInt64S_n_b1 s = some r) (e : Env) (M : Mem) (hs : laws_markInt64S_n_b1_RS M0 s e M) : Ev (fun k => (f9_l2 (CN k) k (prune [0, 1, 5] e) M).bind fun q => some q) (bQ (laws_markInt64S_n_b1_RS M0) (laws_markInt64S_n_b1_RR M0) r) := by
  obtain ⟨s1_1, s1_2⟩ := s
  unfold laws_markInt64S_n_b1 at h
  obtain ⟨h21, h23, h25, fr27⟩ := hs
  generalize he20 : prune [0, 1, 5] e = e19
  have h22 := envp he20.symm rfl h21
  have h24 := envp he20.symm rfl h23
  have h26 := envp he20.symm rfl h25
  refine Ev.seq ?_
  refine Ev.seq ?_
  refine Ev.reg (fun _ => rfl) ?_
  refine Ev.nxk (mvO h26) ?_
  refine Ev.nxk (mvO h22) ?_
  refine Ev.nxk (lnN Try.underlying22 rfl) ?_
  refine Ev.nxk (bLss rfl rfl) ?_
  refine Ev.rend ?_
  intro e28 he29
  have h30 : eget e28 0 = .nils := envp he29 rfl h22
  have h31 : eget e28 1 = .int .i64 s1_1 := envp he29 rfl h24
  have h32 : eget e28 5 = .int .i64 s1_2 := envp he29 rfl h26
  have h33 : eget e28 9 = .bool (decide (s1_2 < 0)) := envp he29 rfl rfl
  clear h22 h24 h26
  refine Ev.kseqN ?_
  rcases ite_some h with ⟨hb34, h⟩ | ⟨hb34, h⟩
  · refine Ev.condT h33 hb34 ?_
    refine Ev.ex ?_
    refine Ev.kseqN ?_
    refine Ev.seq ?_
    refine Ev.blk ?_
    refine Ev.seq ?_
    refine Ev.reg (fun _ => rfl) ?_
    refine Ev.nxk (mvO h30) ?_
    refine Ev.nxk (mvO h32) ?_
    refine Ev.nxk (mvO h31) ?_
    cases h
  · refine Ev.condF h33 hb34 ?_
    refine Ev.ex ?_
    refine Ev.kseqE ?_
    cases h
    exact Ev.kid (bQ_x (RS := (laws_markInt64S_n_b1_RS M0)) (RR := (laws_markInt64S_n_b1_RR M0)) (by intro h; cases h) (And.intro rfl (And.intro h31 fr27)))
noncomputable def laws_markInt64S_n (a1 : Int) : Option Int :=
  (Lw (laws_markInt64S_n_b1) (a1, 0)).bind fun y40 =>
  some y40
def laws_markInt64S_n_Q (a1 : Int) (M0 : Mem) (r : Int) (p : AV × Mem) : Prop := p.1 = .int .i64 r ∧ Fr [] M0 p.2
theorem laws_markInt64S_n_ok (a1 : Int) (M0 : Mem) (r : Int) (h : laws_markInt64S_n a1 = some r) : Ev (fun k => CN k 9 [.nils, .int .i64 a1] M0) (laws_markInt64S_n_Q a1 M0 r) := by
  unfold laws_markInt64S_n at h
  have fr0 : Fr [] M0 M0 := Fr.refl
  refine Ev.enter (F := fun k => f9 (CN k) k) (fun k => callN_eq rfl Try.func9 rfl rfl rfl (by decide +kernel) (f9_eq _ _)) ?_
  refine Ev.seq ?_
  refine Ev.reg (fun _ => rfl) ?_
  refine Ev.nxk (mvO rfl) ?_
  refine Ev.rend ?_
  intro e1 he2
  have h3 : eget e1 0 = .nils := envp he2 rfl rfl
  have h4 : eget e1 1 = .int .i64 a1 := envp he2 rfl rfl
  refine Ev.kseqN ?_
  refine Ev.seq ?_
  refine Ev.seq ?_
  refine Ev.reg (fun _ => rfl) ?_
  refine Ev.nxk (mvO rfl) ?_
  refine Ev.rend ?_
  intro e5 he6
  have h7 : eget e5 0 = .nils := envp he6 rfl h3
  have h8 : eget e5 1 = .int .i64 a1 := envp he6 rfl h4
  have h9 : eget e5 5 = .int .i64 0 := envp he6 rfl rfl
  clear h3 h4
  refine Ev.kseqN ?_
  refine Ev.blk ?_
  obtain ⟨y40, hr36, h⟩ := bind_some h
  refine Ev.loop (RS := laws_markInt64S_n_b1_RS M0) (RR := laws_markInt64S_n_b1_RR M0) (fun s r h e M hs => laws_markInt64S_n_b1_ok M0 s r h e M hs) hr36 (And.intro h7 (And.intro h8 (And.intro h9 fr0))) ?_
  intro x e38 M39 hq37
  obtain ⟨rfl, h41, fr42⟩ := hq37
  refine Ev.kblkE ?_
  refine Ev.kseqN ?_
  refine Ev.seq ?_
  refine Ev.reg (fun _ => rfl) ?_
  refine Ev.nxk (mvO h41) ?_
  refine Ev.nxk (mvO rfl) ?_
  refine Ev.rend ?_
  intro e43 he44
  have h45 : eget e43 4 = .int .i64 y40 := envp he44 rfl rfl
  clear h41
  refine Ev.kseqN ?_
  refine Ev.ex ?_
  cases h
  exact Ev.kendR (resT h45 res0) (And.intro rfl fr42)
/-! ### loop.example/g01263/laws.markBook (f10) -/
noncomputable def laws_markBook_nn (a1 : Int) (a2 : Int) : Option Int :=
  (laws_markInt64S_n a2).bind fun r12 =>
  (laws_markTallyS_n r12).bind fun r24 =>
  some r24
def laws_markBook_nn_Q (a1 : Int) (a2 : Int) (M0 : Mem) (r : Int) (p : AV × Mem) : Prop := p.1 = .int .i64 r ∧ Fr [] M0 p.2
theorem laws_markBook_nn_ok (a1 : Int) (a2 : Int) (M0 : Mem) (r : Int) (h : laws_markBook_nn a1 a2 = some r) : Ev (fun k => CN k 10 [.agg [.int .i64 a1, .nils, .nils], .int .i64 a2] M0) (laws_markBook_nn_Q a1 a2 M0 r) := by
  unfold laws_markBook_nn at h
  have fr0 : Fr [] M0 M0 := Fr.refl
  refine Ev.enter (F := fun k => f10 (CN k) k) (fun k => callN_eq rfl Try.func10 rfl rfl rfl (by decide +kernel) (f10_eq _ _)) ?_
  refine Ev.seq ?_
  refine Ev.reg (fun _ => rfl) ?_
  refine Ev.nxpush (bxO rfl rfl ⟨rfl, rfl, by decide⟩) ?_
  intro M2 hM3
  have nf4 := Nf.mk fr0
  have fr5 := Fr.push fr0 hM3
  have o6 : M2[M0.length]? = some (.live ⟨.box, 25, 3, [[.int .i64 a1, .nils, .nils]]⟩) := push_new hM3
  refine Ev.nxk (mvO rfl) ?_
  refine Ev.rend ?_
  intro e7 he8
  have h9 : eget e7 1 = .int .i64 a2 := envp he8 rfl rfl
  have h10 : eget e7 2 = .loc M0.length 1 0 0 := envp he8 rfl rfl
  refine Ev.kseqN ?_
  refine Ev.seq ?_
  refine Ev.reg (fun _ => rfl) ?_
  refine Ev.nxk (faO h10 o6 rfl) ?_
  refine Ev.nxk (ldO rfl o6 rfl rfl rfl) ?_
  refine Ev.nxk (mvO h9) ?_
  obtain ⟨r12, hx11, h⟩ := bind_some h
  refine Ev.nxw (Ev.callW rfl (cns rfl (cns rfl rfl)) (laws_markInt64S_n_ok a2 M2 _ hx11)) ?_
  intro v15 M13 hq14
  obtain ⟨hv15, fr16⟩ := hq14
  have hv15 : v15 = .int .i64 r12 := hv15
  subst hv15
  have o17 : M13[M0.length]? = some (.live ⟨.box, 25, 3, [[.int .i64 a1, .nils, .nils]]⟩) := fr16 _ _ niN o6
  have fr18 : Fr [] M0 M13 := Fr.call fr5 fr16 fwN
  refine Ev.nxk (mvO rfl) ?_
  refine Ev.rend ?_
  intro e19 he20
  have h21 : eget e19 1 = .int .i64 r12 := envp he20 rfl rfl
  have h22 : eget e19 2 = .loc M0.length 1 0 0 := envp he20 rfl h10
  clear h10
  refine Ev.kseqN ?_
  refine Ev.seq ?_
  refine Ev.reg (fun _ => rfl) ?_
  refine Ev.nxk (faO h22 o17 rfl) ?_
  refine Ev.nxk (ldO rfl o17 rfl rfl rfl) ?_
  refine Ev.nxk (mvO h21) ?_
  obtain ⟨r24, hx23, h⟩ := bind_some h
  refine Ev.nxw (Ev.callW rfl (cns rfl (cns rfl rfl)) (laws_markTallyS_n_ok r12 M13 _ hx23)) ?_
  intro v27 M25 hq26
  obtain ⟨hv27, fr28⟩ := hq26
  have hv27 : v27 = .int .i64 r24 := hv27
  subst hv27
  have o29 : M25[M0.length]? = some (.live ⟨.box, 25, 3, [[.int .i64 a1, .nils, .nils]]⟩) := fr28 _ _ niN o17
  have fr30 : Fr [] M0 M25 := Fr.call fr18 fr28 fwN
  refine Ev.nxk (mvO rfl) ?_
  refine Ev.rend ?_
  intro e31 he32
  have h33 : eget e31 1 = .int .i64 r24 := envp he32 rfl rfl
  clear h22
  refine Ev.kseqN ?_
  refine Ev.seq ?_
  refine Ev.reg (fun _ => rfl) ?_
  refine Ev.nxk (mvO h33) ?_
  refine Ev.nxk (mvO rfl) ?_
  refine Ev.rend ?_
  intro e34 he35
  have h36 : eget e34 4 = .int .i64 r24 := envp he35 rfl rfl
  clear h33
  refine Ev.kseqN ?_
  refine Ev.ex ?_
  cases h
  exact Ev.kendR (resT h36 res0) (And.intro rfl fr30)
end Go.Proofs.Ytaocojognonkcab

/- Printed by a program of ours (ext.py). -/
import Derived.Test.YtaocojognonkcaaFnsValidParties
set_option linter.unusedVariables false
set_option maxRecDepth 100000
set_option maxHeartbeats 2000000
namespace Go.Proofs.Ytaocojognonkcaa
open Go Go.Ab
structure Party where
  Name : List UInt8
  Secret : Int
  deriving DecidableEq
def Party.c (x : Party) : List AV := [.str x.Name, .int .u32 x.Secret]
theorem Party.fl : Fl Party.c 2 := fun _ => ⟨rfl, rfl⟩
theorem Party.flF : FlF Party.c := fun _ => rfl
theorem zero69 : zeroOf cx.P 69 = [.str ([] : List UInt8), .int .u32 0] := by kernel_rfl
/-! ### loop.example/g01263/impl.isLetters (f57) -/
abbrev impl_isLetters_b1_S := Int
abbrev impl_isLetters_b1_R := Unit ⊕ Unit
def impl_isLetters_b1_RS (a1 : List UInt8) (a2 : Int) (s : impl_isLetters_b1_S) (e : Env) (M : Mem) : Prop := eget e 0 = .str a1 ∧ eget e 1 = .int .i64 a2 ∧ eget e 7 = .int .i64 (a1.length : Int) ∧ eget e 8 = .int .i64 s
def impl_isLetters_b1_RR (a1 : List UInt8) (a2 : Int) (r : impl_isLetters_b1_R) (x : Ex) (e : Env) (M : Mem) : Prop :=
  match r with
  | (.inl g) => x = .ret ∧ eget e 4 = .bool false
  | (.inr g) => x = .ext 0 ∧ eget e 0 = .str a1 ∧ eget e 1 = .int .i64 a2
noncomputable def impl_isLetters_b1 (a1 : List UInt8) : impl_isLetters_b1_S → Option (impl_isLetters_b1_S ⊕ impl_isLetters_b1_R) := fun s1_1 =>
  if (decide (s1_1 < (a1.length : Int))) = true then
    (rd a1 s1_1).bind fun x46 =>
    if (decide ((x46.toNat : Int) < 97)) = true then
      some (.inr (.inl ()))
    else
      (rd a1 s1_1).bind fun x59 =>
      if (decide ((x59.toNat : Int) > 122)) = true then
        some (.inr (.inl ()))
      else
        some (.inl (IntKind.i64.wrap (s1_1 + 1)))
  else
    some (.inr (.inr ()))
theorem impl_isLetters_b1_ok (a1 : List UInt8) (a2 : Int) (s : impl_isLetters_b1_S) (r : impl_isLetters_b1_S ⊕ impl_isLetters_b1_R) (h : impl_isLetters_b1 a1 s = some r) (e : Env) (M : Mem) (hs : impl_isLetters_b1_RS a1 a2 s e M) : Ev (fun k => (f57_l2 (CN k) k (prune [0, 1, 7, 8] e) M).bind fun q => some q) (bQ (impl_isLetters_b1_RS a1 a2) (impl_isLetters_b1_RR a1 a2) r) := by
  revert h hs
  revert s
  intro s1_1 h hs
  unfold impl_isLetters_b1 at h
  obtain ⟨h23, h25, h27, h29⟩ := hs
  generalize he22 : prune [0, 1, 7, 8] e = e21
  have h24 := envp he22.symm rfl h23
  have h26 := envp he22.symm rfl h25
  have h28 := envp he22.symm rfl h27
  have h30 := envp he22.symm rfl h29
  refine Ev.seq ?_
  refine Ev.reg (fun _ => rfl) ?_
  refine Ev.nxk (bLss h30 h28) ?_
  refine Ev.rend ?_
  intro e31 he32
  have h33 : eget e31 0 = .str a1 := envp he32 rfl h24
  have h34 : eget e31 1 = .int .i64 a2 := envp he32 rfl h26
  have h35 : eget e31 7 = .int .i64 (a1.length : Int) := envp he32 rfl h28
  have h36 : eget e31 8 = .int .i64 s1_1 := envp he32 rfl h30
  have h37 : eget e31 9 = .bool (decide (s1_1 < (a1.length : Int))) := envp he32 rfl rfl
  clear h24 h26 h28 h30
  refine Ev.kseqN ?_
  refine Ev.seq ?_
  rcases ite_some h with ⟨hb38, h⟩ | ⟨hb38, h⟩
  · refine Ev.condT h37 hb38 ?_
    refine Ev.ex ?_
    refine Ev.kseqN ?_
    refine Ev.seq ?_
    refine Ev.blk ?_
    refine Ev.seq ?_
    refine Ev.reg (fun _ => rfl) ?_
    refine Ev.nxk (mvO h36) ?_
    refine Ev.nxk (mvO rfl) ?_
    refine Ev.rend ?_
    intro e39 he40
    have h41 : eget e39 0 = .str a1 := envp he40 rfl h33
    have h42 : eget e39 1 = .int .i64 a2 := envp he40 rfl h34
    have h43 : eget e39 5 = .int .i64 s1_1 := envp he40 rfl rfl
    have h44 : eget e39 7 = .int .i64 (a1.length : Int) := envp he40 rfl h35
    have h45 : eget e39 8 = .int .i64 s1_1 := envp he40 rfl h36
    clear h33 h34 h35 h36 h37
    refine Ev.kseqN ?_
    refine Ev.seq ?_
    refine Ev.reg (fun _ => rfl) ?_
    refine Ev.nxk (mvO h41) ?_
    refine Ev.nxk (mvO h43) ?_
    obtain ⟨x46, hx47, h⟩ := bind_some h
    refine Ev.nxk (ixB rfl rfl hx47) ?_
    refine Ev.nxk (bLss rfl rfl) ?_
    refine Ev.nxk (mvO rfl) ?_
    rcases ite_some h with ⟨hb48, h⟩ | ⟨hb48, h⟩
    · refine Ev.nxk (gsF rfl hb48) ?_
      refine Ev.nxk (gsF rfl hb48) ?_
      refine Ev.nxk (gsF rfl hb48) ?_
      refine Ev.nxk (gsF rfl hb48) ?_
      refine Ev.nxk (pkT rfl hb48 rfl) ?_
      refine Ev.rend ?_
      intro e49 he50
      have h51 : eget e49 0 = .str a1 := envp he50 rfl h41
      have h52 : eget e49 1 = .int .i64 a2 := envp he50 rfl h42
      have h53 : eget e49 7 = .int .i64 (a1.length : Int) := envp he50 rfl h44
      have h54 : eget e49 8 = .int .i64 s1_1 := envp he50 rfl h45
      have h55 : eget e49 20 = .bool true := envp he50 rfl rfl
      clear h41 h42 h43 h44 h45
      refine Ev.kseqN ?_
      refine Ev.condT h55 rfl ?_
      refine Ev.seq ?_
      refine Ev.reg (fun _ => rfl) ?_
      refine Ev.nxk (mvO rfl) ?_
      refine Ev.rend ?_
      intro e56 he57
      have h58 : eget e56 4 = .bool false := envp he57 rfl rfl
      clear h51 h52 h53 h54 h55
      refine Ev.kseqN ?_
      refine Ev.ex ?_
      refine Ev.kblkR ?_
      refine Ev.kseqR ?_
      cases h
      exact Ev.kid (bQ_x (RS := (impl_isLetters_b1_RS a1 a2)) (RR := (impl_isLetters_b1_RR a1 a2)) (by intro h; cases h) (And.intro rfl h58))
    · refine Ev.nxk (guF rfl hb48 (mvO h41)) ?_
      refine Ev.nxk (guF rfl hb48 (mvO h43)) ?_
      obtain ⟨x59, hx60, h⟩ := bind_some h
      refine Ev.nxk (guF rfl hb48 (ixB rfl rfl hx60)) ?_
      refine Ev.nxk (guF rfl hb48 (bGtr rfl rfl)) ?_
      refine Ev.nxk (pkF rfl hb48 rfl) ?_
      refine Ev.rend ?_
      intro e61 he62
      have h63 : eget e61 0 = .str a1 := envp he62 rfl h41
      have h64 : eget e61 1 = .int .i64 a2 := envp he62 rfl h42
      have h65 : eget e61 7 = .int .i64 (a1.length : Int) := envp he62 rfl h44
      have h66 : eget e61 8 = .int .i64 s1_1 := envp he62 rfl h45
      have h67 : eget e61 20 = .bool (decide ((x59.toNat : Int) > 122)) := envp he62 rfl rfl
      clear h41 h42 h43 h44 h45
      refine Ev.kseqN ?_
      rcases ite_some h with ⟨hb68, h⟩ | ⟨hb68, h⟩
      · refine Ev.condT h67 hb68 ?_
        refine Ev.seq ?_
        refine Ev.reg (fun _ => rfl) ?_
        refine Ev.nxk (mvO rfl) ?_
        refine Ev.rend ?_
        intro e69 he70
        have h71 : eget e69 4 = .bool false := envp he70 rfl rfl
        clear h63 h64 h65 h66 h67
        refine Ev.kseqN ?_
        refine Ev.ex ?_
        refine Ev.kblkR ?_
        refine Ev.kseqR ?_
        cases h
        exact Ev.kid (bQ_x (RS := (impl_isLetters_b1_RS a1 a2)) (RR := (impl_isLetters_b1_RR a1 a2)) (by intro h; cases h) (And.intro rfl h71))
      · refine Ev.condF h67 hb68 ?_
        refine Ev.ex ?_
        refine Ev.kblkN ?_
        refine Ev.kseqN ?_
        refine Ev.reg (fun _ => rfl) ?_
        refine Ev.nxk (bAdd h66 rfl) ?_
        refine Ev.nxk (mvO rfl) ?_
        refine Ev.rend ?_
        intro e72 he73
        have h74 : eget e72 0 = .str a1 := envp he73 rfl h63
        have h75 : eget e72 1 = .int .i64 a2 := envp he73 rfl h64
        have h76 : eget e72 7 = .int .i64 (a1.length : Int) := envp he73 rfl h65
        have h77 : eget e72 8 = .int .i64 (IntKind.i64.wrap (s1_1 + 1)) := envp he73 rfl rfl
        clear h63 h64 h65 h67
        cases h
        exact Ev.kid (bQ_n (RS := (impl_isLetters_b1_RS a1 a2)) (RR := (impl_isLetters_b1_RR a1 a2)) (And.intro h74 (And.intro h75 (And.intro h76 h77))))
  · refine Ev.condF h37 hb38 ?_
    refine Ev.ex ?_
    refine Ev.kseqE ?_
    cases h
    exact Ev.kid (bQ_x (RS := (impl_isLetters_b1_RS a1 a2)) (RR := (impl_isLetters_b1_RR a1 a2)) (by intro h; cases h) (And.intro rfl (And.intro h33 h34)))
noncomputable def impl_isLetters (a1 : List UInt8) (a2 : Int) : Option Bool :=
  (Lw (impl_isLetters_b1 a1) 0).bind fun r => match r with
  | (.inl _) =>
    some false
  | (.inr _) =>
    if (decide ((a1.length : Int) ≥ 1)) = true then
      some (decide ((a1.length : Int) ≤ a2))
    else
      some false
def impl_isLetters_enc (r : Bool) : AV := .bool r
theorem impl_isLetters_ok (a1 : List UInt8) (a2 : Int) (r : Bool) (h : impl_isLetters a1 a2 = some r) : Ev (fun k => CN k 57 [.str a1, .int .i64 a2] []) (fun p => rRes p.2 p.1 = impl_isLetters_enc r) := by
  unfold impl_isLetters at h
  refine Ev.enter (F := fun k => f57 (CN k) k) (fun k => callN_eq rfl Try.func57 rfl rfl rfl (by decide +kernel) (f57_eq _ _)) ?_
  refine Ev.seq ?_
  refine Ev.reg (fun _ => rfl) ?_
  refine Ev.nxk (mvO rfl) ?_
  refine Ev.rend ?_
  intro e1 he2
  have h3 : eget e1 0 = .str a1 := envp he2 rfl rfl
  have h4 : eget e1 1 = .int .i64 a2 := envp he2 rfl rfl
  refine Ev.kseqN ?_
  refine Ev.seq ?_
  refine Ev.seq ?_
  refine Ev.reg (fun _ => rfl) ?_
  refine Ev.nxk (mvO h3) ?_
  refine Ev.nxk (lnB Try.underlying9 rfl) ?_
  refine Ev.nxk (mvO rfl) ?_
  refine Ev.rend ?_
  intro e5 he6
  have h7 : eget e5 0 = .str a1 := envp he6 rfl h3
  have h8 : eget e5 1 = .int .i64 a2 := envp he6 rfl h4
  have h9 : eget e5 7 = .int .i64 (a1.length : Int) := envp he6 rfl rfl
  have h10 : eget e5 8 = .int .i64 0 := envp he6 rfl rfl
  clear h3 h4
  refine Ev.kseqN ?_
  refine Ev.blk ?_
  obtain ⟨r78, hr79, h⟩ := bind_some h
  rcases r78 with _ | _
  · refine Ev.loop (RS := impl_isLetters_b1_RS a1 a2) (RR := impl_isLetters_b1_RR a1 a2) (fun s r h e M hs => impl_isLetters_b1_ok a1 a2 s r h e M hs) hr79 (And.intro h7 (And.intro h8 (And.intro h9 h10))) ?_
    intro x e81 M82 hq80
    obtain ⟨rfl, h83⟩ := hq80
    refine Ev.kblkR ?_
    refine Ev.kseqR ?_
    cases h
    exact Ev.kendR (resT h83 res0) rfl
  · refine Ev.loop (RS := impl_isLetters_b1_RS a1 a2) (RR := impl_isLetters_b1_RR a1 a2) (fun s r h e M hs => impl_isLetters_b1_ok a1 a2 s r h e M hs) hr79 (And.intro h7 (And.intro h8 (And.intro h9 h10))) ?_
    intro x e84 M85 hq80
    obtain ⟨rfl, h86, h87⟩ := hq80
    refine Ev.kblkE ?_
    refine Ev.kseqN ?_
    refine Ev.seq ?_
    refine Ev.reg (fun _ => rfl) ?_
    refine Ev.nxk (mvO h86) ?_
    refine Ev.nxk (lnB Try.underlying9 rfl) ?_
    refine Ev.nxk (bGeq rfl rfl) ?_
    refine Ev.nxk (mvO rfl) ?_
    rcases ite_some h with ⟨hb88, h⟩ | ⟨hb88, h⟩
    · refine Ev.nxk (guT rfl hb88 (mvO h86)) ?_
      refine Ev.nxk (guT rfl hb88 (lnB Try.underlying9 rfl)) ?_
      refine Ev.nxk (guT rfl hb88 (mvO h87)) ?_
      refine Ev.nxk (guT rfl hb88 (bLeq rfl rfl)) ?_
      refine Ev.nxk (pkT rfl hb88 rfl) ?_
      refine Ev.nxk (mvO rfl) ?_
      refine Ev.rend ?_
      intro e89 he90
      have h91 : eget e89 4 = .bool (decide ((a1.length : Int) ≤ a2)) := envp he90 rfl rfl
      clear h86 h87
      refine Ev.kseqN ?_
      refine Ev.ex ?_
      cases h
      exact Ev.kendR (resT h91 res0) rfl
    · refine Ev.nxk (gsT rfl hb88) ?_
      refine Ev.nxk (gsT rfl hb88) ?_
      refine Ev.nxk (gsT rfl hb88) ?_
      refine Ev.nxk (gsT rfl hb88) ?_
      refine Ev.nxk (pkF rfl hb88 rfl) ?_
      refine Ev.nxk (mvO rfl) ?_
      refine Ev.rend ?_
      intro e92 he93
      have h94 : eget e92 4 = .bool false := envp he93 rfl rfl
      clear h86 h87
      refine Ev.kseqN ?_
      refine Ev.ex ?_
      cases h
      exact Ev.kendR (resT h94 res0) rfl
/-! ### loop.example/g01263/spec.l06Name (f56) -/
abbrev spec_l06Name_b1_S := Int
abbrev spec_l06Name_b1_R := Unit ⊕ Unit
def spec_l06Name_b1_RS (a1 : List UInt8) (s : spec_l06Name_b1_S) (e : Env) (M : Mem) : Prop := eget e 0 = .str a1 ∧ eget e 3 = .int .i64 s
def spec_l06Name_b1_RR (a1 : List UInt8) (r : spec_l06Name_b1_R) (x : Ex) (e : Env) (M : Mem) : Prop :=
  match r with
  | (.inl g) => x = .ret ∧ eget e 2 = .bool false
  | (.inr g) => x = .ext 0 ∧ eget e 0 = .str a1
noncomputable def spec_l06Name_b1 (a1 : List UInt8) : spec_l06Name_b1_S → Option (spec_l06Name_b1_S ⊕ spec_l06Name_b1_R) := fun s1_1 =>
  if (decide (s1_1 < (a1.length : Int))) = true then
    (rd a1 s1_1).bind fun x26 =>
    if (decide ((x26.toNat : Int) < 97)) = true then
      some (.inr (.inl ()))
    else
      (rd a1 s1_1).bind fun x37 =>
      if (decide ((x37.toNat : Int) > 122)) = true then
        some (.inr (.inl ()))
      else
        some (.inl (IntKind.i64.wrap (s1_1 + 1)))
  else
    some (.inr (.inr ()))
theorem spec_l06Name_b1_ok (a1 : List UInt8) (s : spec_l06Name_b1_S) (r : spec_l06Name_b1_S ⊕ spec_l06Name_b1_R) (h : spec_l06Name_b1 a1 s = some r) (e : Env) (M : Mem) (hs : spec_l06Name_b1_RS a1 s e M) : Ev (fun k => (f56_l2 (CN k) k (prune [0, 3] e) M).bind fun q => some q) (bQ (spec_l06Name_b1_RS a1) (spec_l06Name_b1_RR a1) r) := by
  revert h hs
  revert s
  intro s1_1 h hs
  unfold spec_l06Name_b1 at h
  obtain ⟨h16, h18⟩ := hs
  generalize he15 : prune [0, 3] e = e14
  have h17 := envp he15.symm rfl h16
  have h19 := envp he15.symm rfl h18
  refine Ev.seq ?_
  refine Ev.seq ?_
  refine Ev.reg (fun _ => rfl) ?_
  refine Ev.nxk (mvO h19) ?_
  refine Ev.nxk (mvO h17) ?_
  refine Ev.nxk (lnB Try.underlying9 rfl) ?_
  refine Ev.nxk (bLss rfl rfl) ?_
  refine Ev.rend ?_
  intro e20 he21
  have h22 : eget e20 0 = .str a1 := envp he21 rfl h17
  have h23 : eget e20 3 = .int .i64 s1_1 := envp he21 rfl h19
  have h24 : eget e20 7 = .bool (decide (s1_1 < (a1.length : Int))) := envp he21 rfl rfl
  clear h17 h19
  refine Ev.kseqN ?_
  rcases ite_some h with ⟨hb25, h⟩ | ⟨hb25, h⟩
  · refine Ev.condT h24 hb25 ?_
    refine Ev.ex ?_
    refine Ev.kseqN ?_
    refine Ev.seq ?_
    refine Ev.blk ?_
    refine Ev.seq ?_
    refine Ev.reg (fun _ => rfl) ?_
    refine Ev.nxk (mvO h22) ?_
    refine Ev.nxk (mvO h23) ?_
    obtain ⟨x26, hx27, h⟩ := bind_some h
    refine Ev.nxk (ixB rfl rfl hx27) ?_
    refine Ev.nxk (bLss rfl rfl) ?_
    refine Ev.nxk (mvO rfl) ?_
    rcases ite_some h with ⟨hb28, h⟩ | ⟨hb28, h⟩
    · refine Ev.nxk (gsF rfl hb28) ?_
      refine Ev.nxk (gsF rfl hb28) ?_
      refine Ev.nxk (gsF rfl hb28) ?_
      refine Ev.nxk (gsF rfl hb28) ?_
      refine Ev.nxk (pkT rfl hb28 rfl) ?_
      refine Ev.rend ?_
      intro e29 he30
      have h31 : eget e29 0 = .str a1 := envp he30 rfl h22
      have h32 : eget e29 3 = .int .i64 s1_1 := envp he30 rfl h23
      have h33 : eget e29 19 = .bool true := envp he30 rfl rfl
      clear h22 h23 h24
      refine Ev.kseqN ?_
      refine Ev.condT h33 rfl ?_
      refine Ev.seq ?_
      refine Ev.reg (fun _ => rfl) ?_
      refine Ev.nxk (mvO rfl) ?_
      refine Ev.rend ?_
      intro e34 he35
      have h36 : eget e34 2 = .bool false := envp he35 rfl rfl
      clear h31 h32 h33
      refine Ev.kseqN ?_
      refine Ev.ex ?_
      refine Ev.kblkR ?_
      refine Ev.kseqR ?_
      cases h
      exact Ev.kid (bQ_x (RS := (spec_l06Name_b1_RS a1)) (RR := (spec_l06Name_b1_RR a1)) (by intro h; cases h) (And.intro rfl h36))
    · refine Ev.nxk (guF rfl hb28 (mvO h22)) ?_
      refine Ev.nxk (guF rfl hb28 (mvO h23)) ?_
      obtain ⟨x37, hx38, h⟩ := bind_some h
      refine Ev.nxk (guF rfl hb28 (ixB rfl rfl hx38)) ?_
      refine Ev.nxk (guF rfl hb28 (bGtr rfl rfl)) ?_
      refine Ev.nxk (pkF rfl hb28 rfl) ?_
      refine Ev.rend ?_
      intro e39 he40
      have h41 : eget e39 0 = .str a1 := envp he40 rfl h22
      have h42 : eget e39 3 = .int .i64 s1_1 := envp he40 rfl h23
      have h43 : eget e39 19 = .bool (decide ((x37.toNat : Int) > 122)) := envp he40 rfl rfl
      clear h22 h23 h24
      refine Ev.kseqN ?_
      rcases ite_some h with ⟨hb44, h⟩ | ⟨hb44, h⟩
      · refine Ev.condT h43 hb44 ?_
        refine Ev.seq ?_
        refine Ev.reg (fun _ => rfl) ?_
        refine Ev.nxk (mvO rfl) ?_
        refine Ev.rend ?_
        intro e45 he46
        have h47 : eget e45 2 = .bool false := envp he46 rfl rfl
        clear h41 h42 h43
        refine Ev.kseqN ?_
        refine Ev.ex ?_
        refine Ev.kblkR ?_
        refine Ev.kseqR ?_
        cases h
        exact Ev.kid (bQ_x (RS := (spec_l06Name_b1_RS a1)) (RR := (spec_l06Name_b1_RR a1)) (by intro h; cases h) (And.intro rfl h47))
      · refine Ev.condF h43 hb44 ?_
        refine Ev.ex ?_
        refine Ev.kblkN ?_
        refine Ev.kseqN ?_
        refine Ev.reg (fun _ => rfl) ?_
        refine Ev.nxk (mvO h42) ?_
        refine Ev.nxk (bAdd rfl rfl) ?_
        refine Ev.nxk (mvO rfl) ?_
        refine Ev.rend ?_
        intro e48 he49
        have h50 : eget e48 0 = .str a1 := envp he49 rfl h41
        have h51 : eget e48 3 = .int .i64 (IntKind.i64.wrap (s1_1 + 1)) := envp he49 rfl rfl
        clear h41 h43
        cases h
        exact Ev.kid (bQ_n (RS := (spec_l06Name_b1_RS a1)) (RR := (spec_l06Name_b1_RR a1)) (And.intro h50 h51))
  · refine Ev.condF h24 hb25 ?_
    refine Ev.ex ?_
    refine Ev.kseqE ?_
    cases h
    exact Ev.kid (bQ_x (RS := (spec_l06Name_b1_RS a1)) (RR := (spec_l06Name_b1_RR a1)) (by intro h; cases h) (And.intro rfl h22))
noncomputable def spec_l06Name (a1 : List UInt8) : Option Bool :=
  (Lw (spec_l06Name_b1 a1) 0).bind fun r => match r with
  | (.inl _) =>
    some false
  | (.inr _) =>
    if (a1 == ([] : List UInt8)) = true then
      some false
    else
      some (decide ((a1.length : Int) ≤ 12))
def spec_l06Name_enc (r : Bool) : AV := .bool r
theorem spec_l06Name_ok (a1 : List UInt8) (r : Bool) (h : spec_l06Name a1 = some r) : Ev (fun k => CN k 56 [.str a1] []) (fun p => rRes p.2 p.1 = spec_l06Name_enc r) := by
  unfold spec_l06Name at h
  refine Ev.enter (F := fun k => f56 (CN k) k) (fun k => callN_eq rfl Try.func56 rfl rfl rfl (by decide +kernel) (f56_eq _ _)) ?_
  refine Ev.seq ?_
  refine Ev.reg (fun _ => rfl) ?_
  refine Ev.nxk (mvO rfl) ?_
  refine Ev.rend ?_
  intro e1 he2
  have h3 : eget e1 0 = .str a1 := envp he2 rfl rfl
  refine Ev.kseqN ?_
  refine Ev.seq ?_
  refine Ev.seq ?_
  refine Ev.reg (fun _ => rfl) ?_
  refine Ev.nxk (mvO rfl) ?_
  refine Ev.rend ?_
  intro e4 he5
  have h6 : eget e4 0 = .str a1 := envp he5 rfl h3
  have h7 : eget e4 3 = .int .i64 0 := envp he5 rfl rfl
  clear h3
  refine Ev.kseqN ?_
  refine Ev.blk ?_
  obtain ⟨r52, hr53, h⟩ := bind_some h
  rcases r52 with _ | _
  · refine Ev.loop (RS := spec_l06Name_b1_RS a1) (RR := spec_l06Name_b1_RR a1) (fun s r h e M hs => spec_l06Name_b1_ok a1 s r h e M hs) hr53 (And.intro h6 h7) ?_
    intro x e55 M56 hq54
    obtain ⟨rfl, h57⟩ := hq54
    refine Ev.kblkR ?_
    refine Ev.kseqR ?_
    cases h
    exact Ev.kendR (resT h57 res0) rfl
  · refine Ev.loop (RS := spec_l06Name_b1_RS a1) (RR := spec_l06Name_b1_RR a1) (fun s r h e M hs => spec_l06Name_b1_ok a1 s r h e M hs) hr53 (And.intro h6 h7) ?_
    intro x e58 M59 hq54
    obtain ⟨rfl, h60⟩ := hq54
    refine Ev.kblkE ?_
    refine Ev.kseqN ?_
    refine Ev.seq ?_
    refine Ev.reg (fun _ => rfl) ?_
    refine Ev.nxk (mvO h60) ?_
    refine Ev.nxk (sNeq rfl rfl) ?_
    refine Ev.nxk (mvO rfl) ?_
    rcases ite_some h with ⟨hb61, h⟩ | ⟨hb61, h⟩
    · refine Ev.nxk (gsT rfl (congrArg Bool.not hb61)) ?_
      refine Ev.nxk (gsT rfl (congrArg Bool.not hb61)) ?_
      refine Ev.nxk (gsT rfl (congrArg Bool.not hb61)) ?_
      refine Ev.nxk (pkF rfl (congrArg Bool.not hb61) rfl) ?_
      refine Ev.nxk (mvO rfl) ?_
      refine Ev.rend ?_
      intro e62 he63
      have h64 : eget e62 2 = .bool false := envp he63 rfl rfl
      clear h60
      refine Ev.kseqN ?_
      refine Ev.ex ?_
      cases h
      exact Ev.kendR (resT h64 res0) rfl
    · refine Ev.nxk (guT rfl (congrArg Bool.not hb61) (mvO h60)) ?_
      refine Ev.nxk (guT rfl (congrArg Bool.not hb61) (lnB Try.underlying9 rfl)) ?_
      refine Ev.nxk (guT rfl (congrArg Bool.not hb61) (bLeq rfl rfl)) ?_
      refine Ev.nxk (pkT rfl (congrArg Bool.not hb61) rfl) ?_
      refine Ev.nxk (mvO rfl) ?_
      refine Ev.rend ?_
      intro e65 he66
      have h67 : eget e65 2 = .bool (decide ((a1.length : Int) ≤ 12)) := envp he66 rfl rfl
      clear h60
      refine Ev.kseqN ?_
      refine Ev.ex ?_
      cases h
      exact Ev.kendR (resT h67 res0) rfl
/-! ### loop.example/g01263/spec.l06Find (f45) -/
abbrev spec_l06Find_b1_S := Int
abbrev spec_l06Find_b1_R := Int ⊕ Unit
def spec_l06Find_b1_RS (a1 : List Party) (a2 : List UInt8) (s : spec_l06Find_b1_S) (e : Env) (M : Mem) : Prop := eget e 0 = .sl none (a1.map Party.c) ∧ eget e 1 = .str a2 ∧ eget e 5 = .int .i64 s
def spec_l06Find_b1_RR (a1 : List Party) (a2 : List UInt8) (r : spec_l06Find_b1_R) (x : Ex) (e : Env) (M : Mem) : Prop :=
  match r with
  | (.inl g) => x = .ret ∧ eget e 4 = .int .i64 g
  | (.inr g) => x = .ext 0 ∧ True
noncomputable def spec_l06Find_b1 (a1 : List Party) (a2 : List UInt8) : spec_l06Find_b1_S → Option (spec_l06Find_b1_S ⊕ spec_l06Find_b1_R) := fun s1_1 =>
  if (decide (s1_1 < (a1.length : Int))) = true then
    (rd a1 s1_1).bind fun x33 =>
    if (x33.Name == a2) = true then
      some (.inr (.inl s1_1))
    else
      some (.inl (IntKind.i64.wrap (s1_1 + 1)))
  else
    some (.inr (.inr ()))
theorem spec_l06Find_b1_ok (a1 : List Party) (a2 : List UInt8) (s : spec_l06Find_b1_S) (r : spec_l06Find_b1_S ⊕ spec_l06Find_b1_R) (h : spec_l06Find_b1 a1 a2 s = some r) (e : Env) (M : Mem) (hs : spec_l06Find_b1_RS a1 a2 s e M) : Ev (fun k => (f45_l2 (CN k) k (prune [0, 1, 5] e) M).bind fun q => some q) (bQ (spec_l06Find_b1_RS a1 a2) (spec_l06Find_b1_RR a1 a2) r) := by
  revert h hs
  revert s
  intro s1_1 h hs
  unfold spec_l06Find_b1 at h
  obtain ⟨h20, h22, h24⟩ := hs
  generalize he19 : prune [0, 1, 5] e = e18
  have h21 := envp he19.symm rfl h20
  have h23 := envp he19.symm rfl h22
  have h25 := envp he19.symm rfl h24
  refine Ev.seq ?_
  refine Ev.seq ?_
  refine Ev.reg (fun _ => rfl) ?_
  refine Ev.nxk (mvO h25) ?_
  refine Ev.nxk (mvO h21) ?_
  refine Ev.nxk (lnS Try.underlying39 rfl) ?_
  refine Ev.nxk (bLss rfl rfl) ?_
  refine Ev.rend ?_
  intro e26 he27
  have h28 : eget e26 0 = .sl none (a1.map Party.c) := envp he27 rfl h21
  have h29 : eget e26 1 = .str a2 := envp he27 rfl h23
  have h30 : eget e26 5 = .int .i64 s1_1 := envp he27 rfl h25
  have h31 : eget e26 9 = .bool (decide (s1_1 < (a1.length : Int))) := envp he27 rfl rfl
  clear h21 h23 h25
  refine Ev.kseqN ?_
  rcases ite_some h with ⟨hb32, h⟩ | ⟨hb32, h⟩
  · refine Ev.condT h31 hb32 ?_
    refine Ev.ex ?_
    refine Ev.kseqN ?_
    refine Ev.seq ?_
    refine Ev.blk ?_
    refine Ev.seq ?_
    refine Ev.reg (fun _ => rfl) ?_
    refine Ev.nxk (mvO h28) ?_
    refine Ev.nxk (mvO h30) ?_
    obtain ⟨x33, hx34, h⟩ := bind_some h
    refine Ev.nxk (ixS rfl rfl hx34 Party.fl) ?_
    refine Ev.nxk (faP rfl ⟨ble rfl, blt rfl⟩ rfl) ?_
    refine Ev.nxk (ldP rfl rfl) ?_
    refine Ev.nxk (mvO h29) ?_
    refine Ev.nxk (sEql rfl rfl) ?_
    refine Ev.rend ?_
    intro e35 he36
    have h37 : eget e35 0 = .sl none (a1.map Party.c) := envp he36 rfl h28
    have h38 : eget e35 1 = .str a2 := envp he36 rfl h29
    have h39 : eget e35 5 = .int .i64 s1_1 := envp he36 rfl h30
    have h40 : eget e35 18 = .bool (x33.Name == a2) := envp he36 rfl rfl
    clear h28 h29 h30 h31
    refine Ev.kseqN ?_
    rcases ite_some h with ⟨hb41, h⟩ | ⟨hb41, h⟩
    · refine Ev.condT h40 hb41 ?_
      refine Ev.seq ?_
      refine Ev.reg (fun _ => rfl) ?_
      refine Ev.nxk (mvO h39) ?_
      refine Ev.nxk (mvO rfl) ?_
      refine Ev.rend ?_
      intro e42 he43
      have h44 : eget e42 4 = .int .i64 s1_1 := envp he43 rfl rfl
      clear h37 h38 h39 h40
      refine Ev.kseqN ?_
      refine Ev.ex ?_
      refine Ev.kblkR ?_
      refine Ev.kseqR ?_
      cases h
      exact Ev.kid (bQ_x (RS := (spec_l06Find_b1_RS a1 a2)) (RR := (spec_l06Find_b1_RR a1 a2)) (by intro h; cases h) (And.intro rfl h44))
    · refine Ev.condF h40 hb41 ?_
      refine Ev.ex ?_
      refine Ev.kblkN ?_
      refine Ev.kseqN ?_
      refine Ev.reg (fun _ => rfl) ?_
      refine Ev.nxk (mvO h39) ?_
      refine Ev.nxk (bAdd rfl rfl) ?_
      refine Ev.nxk (mvO rfl) ?_
      refine Ev.rend ?_
      intro e45 he46
      have h47 : eget e45 0 = .sl none (a1.map Party.c) := envp he46 rfl h37
      have h48 : eget e45 1 = .str a2 := envp he46 rfl h38
      have h49 : eget e45 5 = .int .i64 (IntKind.i64.wrap (s1_1 + 1)) := envp he46 rfl rfl
      clear h37 h38 h40
      cases h
      exact Ev.kid (bQ_n (RS := (spec_l06Find_b1_RS a1 a2)) (RR := (spec_l06Find_b1_RR a1 a2)) (And.intro h47 (And.intro h48 h49)))
  · refine Ev.condF h31 hb32 ?_
    refine Ev.ex ?_
    refine Ev.kseqE ?_
    cases h
    exact Ev.kid (bQ_x (RS := (spec_l06Find_b1_RS a1 a2)) (RR := (spec_l06Find_b1_RR a1 a2)) (by intro h; cases h) (And.intro rfl trivial))
noncomputable def spec_l06Find (a1 : List Party) (a2 : List UInt8) : Option Int :=
  (Lw (spec_l06Find_b1 a1 a2) 0).bind fun r => match r with
  | (.inl y55) =>
    some y55
  | (.inr _) =>
    some (-1)
def spec_l06Find_enc (r : Int) : AV := .int .i64 r
theorem spec_l06Find_ok (a1 : List Party) (a2 : List UInt8) (r : Int) (h : spec_l06Find a1 a2 = some r) : Ev (fun k => CN k 45 [.sl none (a1.map Party.c), .str a2] []) (fun p => rRes p.2 p.1 = spec_l06Find_enc r) := by
  unfold spec_l06Find at h
  refine Ev.enter (F := fun k => f45 (CN k) k) (fun k => callN_eq rfl Try.func45 rfl rfl rfl (by decide +kernel) (f45_eq _ _)) ?_
  refine Ev.seq ?_
  refine Ev.reg (fun _ => rfl) ?_
  refine Ev.nxk (mvO rfl) ?_
  refine Ev.rend ?_
  intro e1 he2
  have h3 : eget e1 0 = .sl none (a1.map Party.c) := envp he2 rfl rfl
  have h4 : eget e1 1 = .str a2 := envp he2 rfl rfl
  refine Ev.kseqN ?_
  refine Ev.seq ?_
  refine Ev.seq ?_
  refine Ev.reg (fun _ => rfl) ?_
  refine Ev.nxk (mvO rfl) ?_
  refine Ev.rend ?_
  intro e5 he6
  have h7 : eget e5 0 = .sl none (a1.map Party.c) := envp he6 rfl h3
  have h8 : eget e5 1 = .str a2 := envp he6 rfl h4
  have h9 : eget e5 5 = .int .i64 0 := envp he6 rfl rfl
  clear h3 h4
  refine Ev.kseqN ?_
  refine Ev.blk ?_
  obtain ⟨r50, hr51, h⟩ := bind_some h
  rcases r50 with y55 | _
  · refine Ev.loop (RS := spec_l06Find_b1_RS a1 a2) (RR := spec_l06Find_b1_RR a1 a2) (fun s r h e M hs => spec_l06Find_b1_ok a1 a2 s r h e M hs) hr51 (And.intro h7 (And.intro h8 h9)) ?_
    intro x e53 M54 hq52
    obtain ⟨rfl, h56⟩ := hq52
    refine Ev.kblkR ?_
    refine Ev.kseqR ?_
    cases h
    exact Ev.kendR (resT h56 res0) rfl
  · refine Ev.loop (RS := spec_l06Find_b1_RS a1 a2) (RR := spec_l06Find_b1_RR a1 a2) (fun s r h e M hs => spec_l06Find_b1_ok a1 a2 s r h e M hs) hr51 (And.intro h7 (And.intro h8 h9)) ?_
    intro x e57 M58 hq52
    obtain ⟨rfl, _⟩ := hq52
    refine Ev.kblkE ?_
    refine Ev.kseqN ?_
    refine Ev.seq ?_
    refine Ev.reg (fun _ => rfl) ?_
    refine Ev.nxk (mvO rfl) ?_
    refine Ev.rend ?_
    intro e59 he60
    have h61 : eget e59 4 = .int .i64 (-1) := envp he60 rfl rfl
    refine Ev.kseqN ?_
    refine Ev.ex ?_
    cases h
    exact Ev.kendR (resT h61 res0) rfl
/-! ### loop.example/g01263/laws.eqParty (f44) -/
noncomputable def laws_eqParty (a1 : Party) (a2 : Party) : Option Bool :=
  if (a1.Name == a2.Name) = true then
    if (a1.Secret != a2.Secret) = true then
      some false
    else
      some true
  else
    some false
def laws_eqParty_enc (r : Bool) : AV := .bool r
theorem laws_eqParty_ok (a1 : Party) (a2 : Party) (r : Bool) (h : laws_eqParty a1 a2 = some r) : Ev (fun k => CN k 44 [.agg [.str a1.Name, .int .u32 a1.Secret], .agg [.str a2.Name, .int .u32 a2.Secret]] []) (fun p => rRes p.2 p.1 = laws_eqParty_enc r) := by
  unfold laws_eqParty at h
  refine Ev.enter (F := fun k => f44 (CN k) k) (fun k => callN_eq rfl Try.func44 rfl rfl rfl (by decide +kernel) (f44_eq _ _)) ?_
  refine Ev.seq ?_
  refine Ev.reg (fun _ => rfl) ?_
  refine Ev.nxk (bxI rfl rfl ⟨rfl, rfl, by decide⟩) ?_
  refine Ev.nxk (bxI rfl rfl ⟨rfl, rfl, by decide⟩) ?_
  refine Ev.nxk (mvO rfl) ?_
  refine Ev.rend ?_
  intro e1 he2
  have h3 : eget e1 2 = .pt none [.str a1.Name, .int .u32 a1.Secret] := envp he2 rfl rfl
  have h4 : eget e1 3 = .pt none [.str a2.Name, .int .u32 a2.Secret] := envp he2 rfl rfl
  refine Ev.kseqN ?_
  refine Ev.seq ?_
  refine Ev.seq ?_
  refine Ev.reg (fun _ => rfl) ?_
  refine Ev.nxk (faP h3 ⟨ble rfl, blt rfl⟩ rfl) ?_
  refine Ev.nxk (ldP rfl rfl) ?_
  refine Ev.nxk (faP h4 ⟨ble rfl, blt rfl⟩ rfl) ?_
  refine Ev.nxk (ldP rfl rfl) ?_
  refine Ev.nxk (sNeq rfl rfl) ?_
  refine Ev.rend ?_
  intro e5 he6
  have h7 : eget e5 2 = .pt none [.str a1.Name, .int .u32 a1.Secret] := envp he6 rfl h3
  have h8 : eget e5 3 = .pt none [.str a2.Name, .int .u32 a2.Secret] := envp he6 rfl h4
  have h9 : eget e5 9 = .bool (!(a1.Name == a2.Name)) := envp he6 rfl rfl
  clear h3 h4
  refine Ev.kseqN ?_
  rcases ite_some h with ⟨hb10, h⟩ | ⟨hb10, h⟩
  · refine Ev.condF h9 (congrArg Bool.not hb10) ?_
    refine Ev.ex ?_
    refine Ev.kseqN ?_
    refine Ev.seq ?_
    refine Ev.seq ?_
    refine Ev.reg (fun _ => rfl) ?_
    refine Ev.nxk (faP h7 ⟨ble rfl, blt rfl⟩ rfl) ?_
    refine Ev.nxk (ldP rfl rfl) ?_
    refine Ev.nxk (faP h8 ⟨ble rfl, blt rfl⟩ rfl) ?_
    refine Ev.nxk (ldP rfl rfl) ?_
    refine Ev.nxk (bNeq rfl rfl) ?_
    refine Ev.rend ?_
    intro e11 he12
    have h13 : eget e11 14 = .bool (a1.Secret != a2.Secret) := envp he12 rfl rfl
    clear h7 h8 h9
    refine Ev.kseqN ?_
    rcases ite_some h with ⟨hb14, h⟩ | ⟨hb14, h⟩
    · refine Ev.condT h13 hb14 ?_
      refine Ev.seq ?_
      refine Ev.reg (fun _ => rfl) ?_
      refine Ev.nxk (mvO rfl) ?_
      refine Ev.rend ?_
      intro e15 he16
      have h17 : eget e15 4 = .bool false := envp he16 rfl rfl
      clear h13
      refine Ev.kseqN ?_
      refine Ev.ex ?_
      refine Ev.kseqR ?_
      cases h
      exact Ev.kendR (resT h17 res0) rfl
    · refine Ev.condF h13 hb14 ?_
      refine Ev.ex ?_
      refine Ev.kseqN ?_
      refine Ev.seq ?_
      refine Ev.reg (fun _ => rfl) ?_
      refine Ev.nxk (mvO rfl) ?_
      refine Ev.rend ?_
      intro e18 he19
      have h20 : eget e18 4 = .bool true := envp he19 rfl rfl
      clear h13
      refine Ev.kseqN ?_
      refine Ev.ex ?_
      cases h
      exact Ev.kendR (resT h20 res0) rfl
  · refine Ev.condT h9 (congrArg Bool.not hb10) ?_
    refine Ev.seq ?_
    refine Ev.reg (fun _ => rfl) ?_
    refine Ev.nxk (mvO rfl) ?_
    refine Ev.rend ?_
    intro e21 he22
    have h23 : eget e21 4 = .bool false := envp he22 rfl rfl
    clear h7 h8 h9
    refine Ev.kseqN ?_
    refine Ev.ex ?_
    refine Ev.kseqR ?_
    cases h
    exact Ev.kendR (resT h23 res0) rfl
/-! ### loop.example/g01263/impl.find$1 (f59) -/
noncomputable def impl_find_1 (a1 : Party) (a2 : List UInt8) : Option Bool :=
  some (a1.Name == a2)
def impl_find_1_enc (r : Bool) : AV := .bool r
theorem impl_find_1_ok (a1 : Party) (a2 : List UInt8) (r : Bool) (h : impl_find_1 a1 a2 = some r) : Ev (fun k => CN k 59 [.agg [.str a1.Name, .int .u32 a1.Secret], .pt none [.str a2]] []) (fun p => rRes p.2 p.1 = impl_find_1_enc r) := by
  unfold impl_find_1 at h
  refine Ev.enter (F := fun k => f59 (CN k) k) (fun k => callN_eq rfl Try.func59 rfl rfl rfl (by decide +kernel) (f59_eq _ _)) ?_
  refine Ev.seq ?_
  refine Ev.reg (fun _ => rfl) ?_
  refine Ev.nxk (bxI rfl rfl ⟨rfl, rfl, by decide⟩) ?_
  refine Ev.nxk (mvO rfl) ?_
  refine Ev.rend ?_
  intro e1 he2
  have h3 : eget e1 1 = .pt none [.str a2] := envp he2 rfl rfl
  have h4 : eget e1 2 = .pt none [.str a1.Name, .int .u32 a1.Secret] := envp he2 rfl rfl
  refine Ev.kseqN ?_
  refine Ev.seq ?_
  refine Ev.reg (fun _ => rfl) ?_
  refine Ev.nxk (faP h4 ⟨ble rfl, blt rfl⟩ rfl) ?_
  refine Ev.nxk (ldP rfl rfl) ?_
  refine Ev.nxk (ldP h3 rfl) ?_
  refine Ev.nxk (sEql rfl rfl) ?_
  refine Ev.nxk (mvO rfl) ?_
  refine Ev.rend ?_
  intro e5 he6
  have h7 : eget e5 3 = .bool (a1.Name == a2) := envp he6 rfl rfl
  clear h3 h4
  refine Ev.kseqN ?_
  refine Ev.ex ?_
  cases h
  exact Ev.kendR (resT h7 res0) rfl
/-! ### slices.IndexFunc[[]loop.example/g01263/impl.Party,loop.example/g01263/impl.Party] (f58) -/
abbrev slices_IndexFunc_Party_b1_S := Int
abbrev slices_IndexFunc_Party_b1_R := Int ⊕ Unit
def slices_IndexFunc_Party_b1_RS (a1 : List Party) (a2 : List UInt8) (s : slices_IndexFunc_Party_b1_S) (e : Env) (M : Mem) : Prop := eget e 0 = .sl none (a1.map Party.c) ∧ eget e 1 = .fn 59 [.pt none [.str a2]] ∧ eget e 7 = .int .i64 (a1.length : Int) ∧ eget e 8 = .int .i64 s
def slices_IndexFunc_Party_b1_RR (a1 : List Party) (a2 : List UInt8) (r : slices_IndexFunc_Party_b1_R) (x : Ex) (e : Env) (M : Mem) : Prop :=
  match r with
  | (.inl g) => x = .ret ∧ eget e 4 = .int .i64 g
  | (.inr g) => x = .ext 0 ∧ True
noncomputable def slices_IndexFunc_Party_b1 (a1 : List Party) (a2 : List UInt8) : slices_IndexFunc_Party_b1_S → Option (slices_IndexFunc_Party_b1_S ⊕ slices_IndexFunc_Party_b1_R) := fun s1_1 =>
  if (decide (s1_1 < (a1.length : Int))) = true then
    (rd a1 s1_1).bind fun x46 =>
    (impl_find_1 x46 a2).bind fun r49 =>
    if r49 = true then
      some (.inr (.inl s1_1))
    else
      some (.inl (IntKind.i64.wrap (s1_1 + 1)))
  else
    some (.inr (.inr ()))
theorem slices_IndexFunc_Party_b1_ok (a1 : List Party) (a2 : List UInt8) (s : slices_IndexFunc_Party_b1_S) (r : slices_IndexFunc_Party_b1_S ⊕ slices_IndexFunc_Party_b1_R) (h : slices_IndexFunc_Party_b1 a1 a2 s = some r) (e : Env) (M : Mem) (hs : slices_IndexFunc_Party_b1_RS a1 a2 s e M) : Ev (fun k => (f58_l2 (CN k) k (prune [0, 1, 7, 8] e) M).bind fun q => some q) (bQ (slices_IndexFunc_Party_b1_RS a1 a2) (slices_IndexFunc_Party_b1_RR a1 a2) r) := by
  revert h hs
  revert s
  intro s1_1 h hs
  unfold slices_IndexFunc_Party_b1 at h
  obtain ⟨h23, h25, h27, h29⟩ := hs
  generalize he22 : prune [0, 1, 7, 8] e = e21
  have h24 := envp he22.symm rfl h23
  have h26 := envp he22.symm rfl h25
  have h28 := envp he22.symm rfl h27
  have h30 := envp he22.symm rfl h29
  refine Ev.seq ?_
  refine Ev.reg (fun _ => rfl) ?_
  refine Ev.nxk (bLss h30 h28) ?_
  refine Ev.rend ?_
  intro e31 he32
  have h33 : eget e31 0 = .sl none (a1.map Party.c) := envp he32 rfl h24
  have h34 : eget e31 1 = .fn 59 [.pt none [.str a2]] := envp he32 rfl h26
  have h35 : eget e31 7 = .int .i64 (a1.length : Int) := envp he32 rfl h28
  have h36 : eget e31 8 = .int .i64 s1_1 := envp he32 rfl h30
  have h37 : eget e31 9 = .bool (decide (s1_1 < (a1.length : Int))) := envp he32 rfl rfl
  clear h24 h26 h28 h30
  refine Ev.kseqN ?_
  refine Ev.seq ?_
  rcases ite_some h with ⟨hb38, h⟩ | ⟨hb38, h⟩
  · refine Ev.condT h37 hb38 ?_
    refine Ev.ex ?_
    refine Ev.kseqN ?_
    refine Ev.seq ?_
    refine Ev.blk ?_
    refine Ev.seq ?_
    refine Ev.reg (fun _ => rfl) ?_
    refine Ev.nxk (mvO h36) ?_
    refine Ev.nxk (mvO rfl) ?_
    refine Ev.rend ?_
    intro e39 he40
    have h41 : eget e39 0 = .sl none (a1.map Party.c) := envp he40 rfl h33
    have h42 : eget e39 1 = .fn 59 [.pt none [.str a2]] := envp he40 rfl h34
    have h43 : eget e39 5 = .int .i64 s1_1 := envp he40 rfl rfl
    have h44 : eget e39 7 = .int .i64 (a1.length : Int) := envp he40 rfl h35
    have h45 : eget e39 8 = .int .i64 s1_1 := envp he40 rfl h36
    clear h33 h34 h35 h36 h37
    refine Ev.kseqN ?_
    refine Ev.seq ?_
    refine Ev.reg (fun _ => rfl) ?_
    refine Ev.nxk (mvO h42) ?_
    refine Ev.nxk (mvO h41) ?_
    refine Ev.nxk (mvO h43) ?_
    obtain ⟨x46, hx47, h⟩ := bind_some h
    refine Ev.nxk (ixS rfl rfl hx47 Party.fl) ?_
    refine Ev.nxk (ldPA rfl rfl rfl) ?_
    obtain ⟨r49, hx48, h⟩ := bind_some h
    refine Ev.nxck (Ev.call (v := .bool r49) rfl (cns rfl (cns rfl rfl)) rfl (impl_find_1_ok x46 a2 _ hx48) (fun h => nomatch (show false = true from h))) ?_
    refine Ev.rend ?_
    intro e50 he51
    have h52 : eget e50 0 = .sl none (a1.map Party.c) := envp he51 rfl h41
    have h53 : eget e50 1 = .fn 59 [.pt none [.str a2]] := envp he51 rfl h42
    have h54 : eget e50 5 = .int .i64 s1_1 := envp he51 rfl h43
    have h55 : eget e50 7 = .int .i64 (a1.length : Int) := envp he51 rfl h44
    have h56 : eget e50 8 = .int .i64 s1_1 := envp he51 rfl h45
    have h57 : eget e50 16 = .bool r49 := envp he51 rfl rfl
    clear h41 h42 h43 h44 h45
    refine Ev.kseqN ?_
    rcases ite_some h with ⟨hb58, h⟩ | ⟨hb58, h⟩
    · refine Ev.condT h57 hb58 ?_
      refine Ev.seq ?_
      refine Ev.reg (fun _ => rfl) ?_
      refine Ev.nxk (mvO h54) ?_
      refine Ev.nxk (mvO rfl) ?_
      refine Ev.rend ?_
      intro e59 he60
      have h61 : eget e59 4 = .int .i64 s1_1 := envp he60 rfl rfl
      clear h52 h53 h54 h55 h56 h57
      refine Ev.kseqN ?_
      refine Ev.ex ?_
      refine Ev.kblkR ?_
      refine Ev.kseqR ?_
      cases h
      exact Ev.kid (bQ_x (RS := (slices_IndexFunc_Party_b1_RS a1 a2)) (RR := (slices_IndexFunc_Party_b1_RR a1 a2)) (by intro h; cases h) (And.intro rfl h61))
    · refine Ev.condF h57 hb58 ?_
      refine Ev.ex ?_
      refine Ev.kblkN ?_
      refine Ev.kseqN ?_
      refine Ev.reg (fun _ => rfl) ?_
      refine Ev.nxk (bAdd h56 rfl) ?_
      refine Ev.nxk (mvO rfl) ?_
      refine Ev.rend ?_
      intro e62 he63
      have h64 : eget e62 0 = .sl none (a1.map Party.c) := envp he63 rfl h52
      have h65 : eget e62 1 = .fn 59 [.pt none [.str a2]] := envp he63 rfl h53
      have h66 : eget e62 7 = .int .i64 (a1.length : Int) := envp he63 rfl h55
      have h67 : eget e62 8 = .int .i64 (IntKind.i64.wrap (s1_1 + 1)) := envp he63 rfl rfl
      clear h52 h53 h54 h55 h57
      cases h
      exact Ev.kid (bQ_n (RS := (slices_IndexFunc_Party_b1_RS a1 a2)) (RR := (slices_IndexFunc_Party_b1_RR a1 a2)) (And.intro h64 (And.intro h65 (And.intro h66 h67))))
  · refine Ev.condF h37 hb38 ?_
    refine Ev.ex ?_
    refine Ev.kseqE ?_
    cases h
    exact Ev.kid (bQ_x (RS := (slices_IndexFunc_Party_b1_RS a1 a2)) (RR := (slices_IndexFunc_Party_b1_RR a1 a2)) (by intro h; cases h) (And.intro rfl trivial))
noncomputable def slices_IndexFunc_Party (a1 : List Party) (a2 : List UInt8) : Option Int :=
  (Lw (slices_IndexFunc_Party_b1 a1 a2) 0).bind fun r => match r with
  | (.inl y73) =>
    some y73
  | (.inr _) =>
    some (-1)
def slices_IndexFunc_Party_enc (r : Int) : AV := .int .i64 r
theorem slices_IndexFunc_Party_ok (a1 : List Party) (a2 : List UInt8) (r : Int) (h : slices_IndexFunc_Party a1 a2 = some r) : Ev (fun k => CN k 58 [.sl none (a1.map Party.c), .fn 59 [.pt none [.str a2]]] []) (fun p => rRes p.2 p.1 = slices_IndexFunc_Party_enc r) := by
  unfold slices_IndexFunc_Party at h
  refine Ev.enter (F := fun k => f58 (CN k) k) (fun k => callN_eq rfl Try.func58 rfl rfl rfl (by decide +kernel) (f58_eq _ _)) ?_
  refine Ev.seq ?_
  refine Ev.reg (fun _ => rfl) ?_
  refine Ev.nxk (mvO rfl) ?_
  refine Ev.rend ?_
  intro e1 he2
  have h3 : eget e1 0 = .sl none (a1.map Party.c) := envp he2 rfl rfl
  have h4 : eget e1 1 = .fn 59 [.pt none [.str a2]] := envp he2 rfl rfl
  refine Ev.kseqN ?_
  refine Ev.seq ?_
  refine Ev.seq ?_
  refine Ev.reg (fun _ => rfl) ?_
  refine Ev.nxk (mvO h3) ?_
  refine Ev.nxk (lnS Try.underlying39 rfl) ?_
  refine Ev.nxk (mvO rfl) ?_
  refine Ev.rend ?_
  intro e5 he6
  have h7 : eget e5 0 = .sl none (a1.map Party.c) := envp he6 rfl h3
  have h8 : eget e5 1 = .fn 59 [.pt none [.str a2]] := envp he6 rfl h4
  have h9 : eget e5 7 = .int .i64 (a1.length : Int) := envp he6 rfl rfl
  have h10 : eget e5 8 = .int .i64 0 := envp he6 rfl rfl
  clear h3 h4
  refine Ev.kseqN ?_
  refine Ev.blk ?_
  obtain ⟨r68, hr69, h⟩ := bind_some h
  rcases r68 with y73 | _
  · refine Ev.loop (RS := slices_IndexFunc_Party_b1_RS a1 a2) (RR := slices_IndexFunc_Party_b1_RR a1 a2) (fun s r h e M hs => slices_IndexFunc_Party_b1_ok a1 a2 s r h e M hs) hr69 (And.intro h7 (And.intro h8 (And.intro h9 h10))) ?_
    intro x e71 M72 hq70
    obtain ⟨rfl, h74⟩ := hq70
    refine Ev.kblkR ?_
    refine Ev.kseqR ?_
    cases h
    exact Ev.kendR (resT h74 res0) rfl
  · refine Ev.loop (RS := slices_IndexFunc_Party_b1_RS a1 a2) (RR := slices_IndexFunc_Party_b1_RR a1 a2) (fun s r h e M hs => slices_IndexFunc_Party_b1_ok a1 a2 s r h e M hs) hr69 (And.intro h7 (And.intro h8 (And.intro h9 h10))) ?_
    intro x e75 M76 hq70
    obtain ⟨rfl, _⟩ := hq70
    refine Ev.kblkE ?_
    refine Ev.kseqN ?_
    refine Ev.seq ?_
    refine Ev.reg (fun _ => rfl) ?_
    refine Ev.nxk (mvO rfl) ?_
    refine Ev.rend ?_
    intro e77 he78
    have h79 : eget e77 4 = .int .i64 (-1) := envp he78 rfl rfl
    refine Ev.kseqN ?_
    refine Ev.ex ?_
    cases h
    exact Ev.kendR (resT h79 res0) rfl
/-! ### loop.example/g01263/impl.find (f43) -/
noncomputable def impl_find (a1 : List Party) (a2 : List UInt8) : Option Int :=
  (slices_IndexFunc_Party a1 a2).bind fun r6 =>
  some r6
def impl_find_enc (r : Int) : AV := .int .i64 r
theorem impl_find_ok (a1 : List Party) (a2 : List UInt8) (r : Int) (h : impl_find a1 a2 = some r) : Ev (fun k => CN k 43 [.sl none (a1.map Party.c), .str a2] []) (fun p => rRes p.2 p.1 = impl_find_enc r) := by
  unfold impl_find at h
  refine Ev.enter (F := fun k => f43 (CN k) k) (fun k => callN_eq rfl Try.func43 rfl rfl rfl (by decide +kernel) (f43_eq _ _)) ?_
  refine Ev.seq ?_
  refine Ev.reg (fun _ => rfl) ?_
  refine Ev.nxk (bxI rfl rfl ⟨rfl, rfl, by decide⟩) ?_
  refine Ev.nxk (mvO rfl) ?_
  refine Ev.rend ?_
  intro e1 he2
  have h3 : eget e1 0 = .sl none (a1.map Party.c) := envp he2 rfl rfl
  have h4 : eget e1 3 = .pt none [.str a2] := envp he2 rfl rfl
  refine Ev.kseqN ?_
  refine Ev.seq ?_
  refine Ev.reg (fun _ => rfl) ?_
  refine Ev.nxk (mvO h3) ?_
  refine Ev.nxk (mvO (congrArg (AV.fn 59) (cns h4 rfl))) ?_
  obtain ⟨r6, hx5, h⟩ := bind_some h
  refine Ev.nxck (Ev.call (v := .int .i64 r6) rfl (cns rfl (cns rfl rfl)) rfl (slices_IndexFunc_Party_ok a1 a2 _ hx5) (fun h => nomatch (show false = true from h))) ?_
  refine Ev.nxk (mvO rfl) ?_
  refine Ev.rend ?_
  intro e7 he8
  have h9 : eget e7 4 = .int .i64 r6 := envp he8 rfl rfl
  clear h3 h4
  refine Ev.kseqN ?_
  refine Ev.ex ?_
  cases h
  exact Ev.kendR (resT h9 res0) rfl
/-! ### loop.example/g01263/impl.isName (f42) -/
noncomputable def impl_isName (a1 : List UInt8) : Option Bool :=
  (impl_isLetters a1 12).bind fun r5 =>
  some r5
def impl_isName_enc (r : Bool) : AV := .bool r
theorem impl_isName_ok (a1 : List UInt8) (r : Bool) (h : impl_isName a1 = some r) : Ev (fun k => CN k 42 [.str a1] []) (fun p => rRes p.2 p.1 = impl_isName_enc r) := by
  unfold impl_isName at h
  refine Ev.enter (F := fun k => f42 (CN k) k) (fun k => callN_eq rfl Try.func42 rfl rfl rfl (by decide +kernel) (f42_eq _ _)) ?_
  refine Ev.seq ?_
  refine Ev.reg (fun _ => rfl) ?_
  refine Ev.nxk (mvO rfl) ?_
  refine Ev.rend ?_
  intro e1 he2
  have h3 : eget e1 0 = .str a1 := envp he2 rfl rfl
  refine Ev.kseqN ?_
  refine Ev.seq ?_
  refine Ev.reg (fun _ => rfl) ?_
  refine Ev.nxk (mvO h3) ?_
  obtain ⟨r5, hx4, h⟩ := bind_some h
  refine Ev.nxck (Ev.call (v := .bool r5) rfl (cns rfl (cns rfl rfl)) rfl (impl_isLetters_ok a1 12 _ hx4) (fun h => nomatch (show false = true from h))) ?_
  refine Ev.nxk (mvO rfl) ?_
  refine Ev.rend ?_
  intro e6 he7
  have h8 : eget e6 2 = .bool r5 := envp he7 rfl rfl
  clear h3
  refine Ev.kseqN ?_
  refine Ev.ex ?_
  cases h
  exact Ev.kendR (resT h8 res0) rfl
/-! ### loop.example/g01263/laws.toParty (f41) -/
noncomputable def laws_toParty (a1 : Party) : Option ((List UInt8) × Int) :=
  some (a1.Name, a1.Secret)
def laws_toParty_enc (r : (List UInt8) × Int) : AV := .agg [.str r.1, .int .u32 r.2]
theorem laws_toParty_ok (a1 : Party) (r : (List UInt8) × Int) (h : laws_toParty a1 = some r) : Ev (fun k => CN k 41 [.agg [.str a1.Name, .int .u32 a1.Secret]] []) (fun p => rRes p.2 p.1 = laws_toParty_enc r) := by
  unfold laws_toParty at h
  refine Ev.enter (F := fun k => f41 (CN k) k) (fun k => callN_eq rfl Try.func41 rfl rfl rfl (by decide +kernel) (f41_eq _ _)) ?_
  refine Ev.seq ?_
  refine Ev.reg (fun _ => rfl) ?_
  refine Ev.nxk (bxI rfl rfl ⟨rfl, rfl, by decide⟩) ?_
  refine Ev.nxpush (alO zero69) ?_
  intro M2 hM3
  have o4 : M2[([] : Mem).length]? = some (.live ⟨.box, 69, 2, [[.str ([] : List UInt8), .int .u32 0]]⟩) := push_new hM3
  refine Ev.rend ?_
  intro e5 he6
  have h7 : eget e5 1 = .pt none [.str a1.Name, .int .u32 a1.Secret] := envp he6 rfl rfl
  have h8 : eget e5 2 = .loc ([] : Mem).length 1 0 0 := envp he6 rfl rfl
  refine Ev.kseqN ?_
  refine Ev.seq ?_
  refine Ev.reg (fun _ => rfl) ?_
  refine Ev.nxpush (alO zero69) ?_
  intro M10 hM11
  have o12 := push_old hM11 o4
  have ne13 := ne_new o4
  have o14 : M10[M2.length]? = some (.live ⟨.box, 69, 2, [[.str ([] : List UInt8), .int .u32 0]]⟩) := push_new hM11
  refine Ev.rend ?_
  intro e15 he16
  have h17 : eget e15 1 = .pt none [.str a1.Name, .int .u32 a1.Secret] := envp he16 rfl h7
  have h18 : eget e15 2 = .loc ([] : Mem).length 1 0 0 := envp he16 rfl h8
  have h19 : eget e15 3 = .loc M2.length 1 0 0 := envp he16 rfl rfl
  clear h7 h8
  refine Ev.kseqN ?_
  refine Ev.seq ?_
  refine Ev.reg (fun _ => rfl) ?_
  refine Ev.nxk (faP h17 ⟨ble rfl, blt rfl⟩ rfl) ?_
  refine Ev.nxk (ldP rfl rfl) ?_
  refine Ev.nxk (faO h19 o14 rfl) ?_
  refine Ev.nxput (stO rfl rfl o14 rfl rfl ⟨rfl, ble rfl⟩ rfl rfl) ?_
  intro M20 hM21
  have o22 := set_ne hM21 ne13 o12
  have o23 : M20[M2.length]? = some (.live ⟨.box, 69, 2, [[.str a1.Name, .int .u32 0]]⟩) := set_same hM21 o14
  refine Ev.rend ?_
  intro e24 he25
  have h26 : eget e24 1 = .pt none [.str a1.Name, .int .u32 a1.Secret] := envp he25 rfl h17
  have h27 : eget e24 2 = .loc ([] : Mem).length 1 0 0 := envp he25 rfl h18
  have h28 : eget e24 3 = .loc M2.length 1 0 0 := envp he25 rfl h19
  clear h17 h18 h19
  refine Ev.kseqN ?_
  refine Ev.seq ?_
  refine Ev.reg (fun _ => rfl) ?_
  refine Ev.nxk (faP h26 ⟨ble rfl, blt rfl⟩ rfl) ?_
  refine Ev.nxk (ldP rfl rfl) ?_
  refine Ev.nxk (faO h28 o23 rfl) ?_
  refine Ev.nxput (stO rfl rfl o23 rfl rfl ⟨rfl, ble rfl⟩ rfl rfl) ?_
  intro M29 hM30
  have o31 := set_ne hM30 ne13 o22
  have o32 : M29[M2.length]? = some (.live ⟨.box, 69, 2, [[.str a1.Name, .int .u32 a1.Secret]]⟩) := set_same hM30 o23
  refine Ev.rend ?_
  intro e33 he34
  have h35 : eget e33 2 = .loc ([] : Mem).length 1 0 0 := envp he34 rfl h27
  have h36 : eget e33 3 = .loc M2.length 1 0 0 := envp he34 rfl h28
  clear h26 h27 h28
  refine Ev.kseqN ?_
  refine Ev.seq ?_
  refine Ev.reg (fun _ => rfl) ?_
  refine Ev.nxk (ldOA h36 o32 rfl rfl (ble rfl) rfl) ?_
  refine Ev.nxput (stO h35 rfl o31 rfl rfl ⟨rfl, ble rfl⟩ rfl rfl) ?_
  intro M37 hM38
  have o39 : M37[([] : Mem).length]? = some (.live ⟨.box, 69, 2, [[.str a1.Name, .int .u32 a1.Secret]]⟩) := set_same hM38 o31
  have o40 := set_ne hM38 (Ne.symm ne13) o32
  refine Ev.rend ?_
  intro e41 he42
  have h43 : eget e41 2 = .loc ([] : Mem).length 1 0 0 := envp he42 rfl h35
  clear h35 h36
  refine Ev.kseqN ?_
  refine Ev.ex ?_
  cases h
  exact Ev.kendR (resC (ag := true) (sz := 2) ⟨by kernel_rfl, by kernel_rfl, by kernel_rfl⟩ (ldOA h43 o39 rfl rfl (ble rfl) rfl) res0) rfl
/-! ### loop.example/g01263/spec.l06Parties (f40) -/
abbrev spec_l06Parties_b1_S := Int
abbrev spec_l06Parties_b1_R := Unit ⊕ Unit
def spec_l06Parties_b1_RS (a1 : List Party) (s : spec_l06Parties_b1_S) (e : Env) (M : Mem) : Prop := eget e 0 = .sl none (a1.map Party.c) ∧ eget e 3 = .int .i64 s
def spec_l06Parties_b1_RR (a1 : List Party) (r : spec_l06Parties_b1_R) (x : Ex) (e : Env) (M : Mem) : Prop :=
  match r with
  | (.inl g) => x = .ret ∧ eget e 2 = .bool false
  | (.inr g) => x = .ext 0 ∧ True
noncomputable def spec_l06Parties_b1 (a1 : List Party) : spec_l06Parties_b1_S → Option (spec_l06Parties_b1_S ⊕ spec_l06Parties_b1_R) := fun s1_1 =>
  if (decide (s1_1 < (a1.length : Int))) = true then
    (rd a1 s1_1).bind fun x34 =>
    (spec_l06Name x34.Name).bind fun r37 =>
    if r37 = true then
      (rd a1 s1_1).bind fun x39 =>
      (spec_l06Find a1 x39.Name).bind fun r42 =>
      if (r42 != s1_1) = true then
        some (.inr (.inl ()))
      else
        some (.inl (IntKind.i64.wrap (s1_1 + 1)))
    else
      some (.inr (.inl ()))
  else
    some (.inr (.inr ()))
theorem spec_l06Parties_b1_ok (a1 : List Party) (s : spec_l06Parties_b1_S) (r : spec_l06Parties_b1_S ⊕ spec_l06Parties_b1_R) (h : spec_l06Parties_b1 a1 s = some r) (e : Env) (M : Mem) (hs : spec_l06Parties_b1_RS a1 s e M) : Ev (fun k => (f40_l4 (CN k) k (prune [0, 3] e) M).bind fun q => some q) (bQ (spec_l06Parties_b1_RS a1) (spec_l06Parties_b1_RR a1) r) := by
  revert h hs
  revert s
  intro s1_1 h hs
  unfold spec_l06Parties_b1 at h
  obtain ⟨h24, h26⟩ := hs
  generalize he23 : prune [0, 3] e = e22
  have h25 := envp he23.symm rfl h24
  have h27 := envp he23.symm rfl h26
  refine Ev.seq ?_
  refine Ev.seq ?_
  refine Ev.reg (fun _ => rfl) ?_
  refine Ev.nxk (mvO h27) ?_
  refine Ev.nxk (mvO h25) ?_
  refine Ev.nxk (lnS Try.underlying39 rfl) ?_
  refine Ev.nxk (bLss rfl rfl) ?_
  refine Ev.rend ?_
  intro e28 he29
  have h30 : eget e28 0 = .sl none (a1.map Party.c) := envp he29 rfl h25
  have h31 : eget e28 3 = .int .i64 s1_1 := envp he29 rfl h27
  have h32 : eget e28 10 = .bool (decide (s1_1 < (a1.length : Int))) := envp he29 rfl rfl
  clear h25 h27
  refine Ev.kseqN ?_
  rcases ite_some h with ⟨hb33, h⟩ | ⟨hb33, h⟩
  · refine Ev.condT h32 hb33 ?_
    refine Ev.ex ?_
    refine Ev.kseqN ?_
    refine Ev.seq ?_
    refine Ev.blk ?_
    refine Ev.seq ?_
    refine Ev.reg (fun _ => rfl) ?_
    refine Ev.nxk (mvO h30) ?_
    refine Ev.nxk (mvO h31) ?_
    obtain ⟨x34, hx35, h⟩ := bind_some h
    refine Ev.nxk (ixS rfl rfl hx35 Party.fl) ?_
    refine Ev.nxk (faP rfl ⟨ble rfl, blt rfl⟩ rfl) ?_
    refine Ev.nxk (ldP rfl rfl) ?_
    obtain ⟨r37, hx36, h⟩ := bind_some h
    refine Ev.nxck (Ev.call (v := .bool r37) rfl (cns rfl rfl) rfl (spec_l06Name_ok x34.Name _ hx36) (fun h => nomatch (show false = true from h))) ?_
    refine Ev.nxk (uNot rfl) ?_
    refine Ev.nxk (mvO rfl) ?_
    rcases ite_some h with ⟨hb38, h⟩ | ⟨hb38, h⟩
    · refine Ev.nxk (guF rfl (congrArg Bool.not hb38) (mvO h30)) ?_
      refine Ev.nxk (guF rfl (congrArg Bool.not hb38) (mvO h30)) ?_
      refine Ev.nxk (guF rfl (congrArg Bool.not hb38) (mvO h31)) ?_
      obtain ⟨x39, hx40, h⟩ := bind_some h
      refine Ev.nxk (guF rfl (congrArg Bool.not hb38) (ixS rfl rfl hx40 Party.fl)) ?_
      refine Ev.nxk (guF rfl (congrArg Bool.not hb38) (faP rfl ⟨ble rfl, blt rfl⟩ rfl)) ?_
      refine Ev.nxk (guF rfl (congrArg Bool.not hb38) (ldP rfl rfl)) ?_
      obtain ⟨r42, hx41, h⟩ := bind_some h
      refine Ev.nxck (Ev.guF rfl (congrArg Bool.not hb38) (Ev.call (v := .int .i64 r42) rfl (cns rfl (cns rfl rfl)) rfl (spec_l06Find_ok a1 x39.Name _ hx41) (fun h => nomatch (show false = true from h)))) ?_
      refine Ev.nxk (guF rfl (congrArg Bool.not hb38) (mvO h31)) ?_
      refine Ev.nxk (guF rfl (congrArg Bool.not hb38) (bNeq rfl rfl)) ?_
      refine Ev.nxk (pkF rfl (congrArg Bool.not hb38) rfl) ?_
      refine Ev.rend ?_
      intro e43 he44
      have h45 : eget e43 0 = .sl none (a1.map Party.c) := envp he44 rfl h30
      have h46 : eget e43 3 = .int .i64 s1_1 := envp he44 rfl h31
      have h47 : eget e43 30 = .bool (r42 != s1_1) := envp he44 rfl rfl
      clear h30 h31 h32
      refine Ev.kseqN ?_
      rcases ite_some h with ⟨hb48, h⟩ | ⟨hb48, h⟩
      · refine Ev.condT h47 hb48 ?_
        refine Ev.seq ?_
        refine Ev.reg (fun _ => rfl) ?_
        refine Ev.nxk (mvO rfl) ?_
        refine Ev.rend ?_
        intro e49 he50
        have h51 : eget e49 2 = .bool false := envp he50 rfl rfl
        clear h45 h46 h47
        refine Ev.kseqN ?_
        refine Ev.ex ?_
        refine Ev.kblkR ?_
        refine Ev.kseqR ?_
        cases h
        exact Ev.kid (bQ_x (RS := (spec_l06Parties_b1_RS a1)) (RR := (spec_l06Parties_b1_RR a1)) (by intro h; cases h) (And.intro rfl h51))
      · refine Ev.condF h47 hb48 ?_
        refine Ev.ex ?_
        refine Ev.kblkN ?_
        refine Ev.kseqN ?_
        refine Ev.reg (fun _ => rfl) ?_
        refine Ev.nxk (mvO h46) ?_
        refine Ev.nxk (bAdd rfl rfl) ?_
        refine Ev.nxk (mvO rfl) ?_
        refine Ev.rend ?_
        intro e52 he53
        have h54 : eget e52 0 = .sl none (a1.map Party.c) := envp he53 rfl h45
        have h55 : eget e52 3 = .int .i64 (IntKind.i64.wrap (s1_1 + 1)) := envp he53 rfl rfl
        clear h45 h47
        cases h
        exact Ev.kid (bQ_n (RS := (spec_l06Parties_b1_RS a1)) (RR := (spec_l06Parties_b1_RR a1)) (And.intro h54 h55))
    · refine Ev.nxk (gsF rfl (congrArg Bool.not hb38)) ?_
      refine Ev.nxk (gsF rfl (congrArg Bool.not hb38)) ?_
      refine Ev.nxk (gsF rfl (congrArg Bool.not hb38)) ?_
      refine Ev.nxk (gsF rfl (congrArg Bool.not hb38)) ?_
      refine Ev.nxk (gsF rfl (congrArg Bool.not hb38)) ?_
      refine Ev.nxk (gsF rfl (congrArg Bool.not hb38)) ?_
      refine Ev.nxck (Ev.gsF rfl (congrArg Bool.not hb38)) ?_
      refine Ev.nxk (gsF rfl (congrArg Bool.not hb38)) ?_
      refine Ev.nxk (gsF rfl (congrArg Bool.not hb38)) ?_
      refine Ev.nxk (pkT rfl (congrArg Bool.not hb38) rfl) ?_
      refine Ev.rend ?_
      intro e56 he57
      have h58 : eget e56 0 = .sl none (a1.map Party.c) := envp he57 rfl h30
      have h59 : eget e56 3 = .int .i64 s1_1 := envp he57 rfl h31
      have h60 : eget e56 30 = .bool true := envp he57 rfl rfl
      clear h30 h31 h32
      refine Ev.kseqN ?_
      refine Ev.condT h60 rfl ?_
      refine Ev.seq ?_
      refine Ev.reg (fun _ => rfl) ?_
      refine Ev.nxk (mvO rfl) ?_
      refine Ev.rend ?_
      intro e61 he62
      have h63 : eget e61 2 = .bool false := envp he62 rfl rfl
      clear h58 h59 h60
      refine Ev.kseqN ?_
      refine Ev.ex ?_
      refine Ev.kblkR ?_
      refine Ev.kseqR ?_
      cases h
      exact Ev.kid (bQ_x (RS := (spec_l06Parties_b1_RS a1)) (RR := (spec_l06Parties_b1_RR a1)) (by intro h; cases h) (And.intro rfl h63))
  · refine Ev.condF h32 hb33 ?_
    refine Ev.ex ?_
    refine Ev.kseqE ?_
    cases h
    exact Ev.kid (bQ_x (RS := (spec_l06Parties_b1_RS a1)) (RR := (spec_l06Parties_b1_RR a1)) (by intro h; cases h) (And.intro rfl trivial))
noncomputable def spec_l06Parties (a1 : List Party) : Option Bool :=
  if (decide ((a1.length : Int) > 20)) = true then
    some false
  else
    (Lw (spec_l06Parties_b1 a1) 0).bind fun r => match r with
    | (.inl _) =>
      some false
    | (.inr _) =>
      some true
def spec_l06Parties_enc (r : Bool) : AV := .bool r
theorem spec_l06Parties_ok (a1 : List Party) (r : Bool) (h : spec_l06Parties a1 = some r) : Ev (fun k => CN k 40 [.sl none (a1.map Party.c)] []) (fun p => rRes p.2 p.1 = spec_l06Parties_enc r) := by
  unfold spec_l06Parties at h
  refine Ev.enter (F := fun k => f40 (CN k) k) (fun k => callN_eq rfl Try.func40 rfl rfl rfl (by decide +kernel) (f40_eq _ _)) ?_
  refine Ev.seq ?_
  refine Ev.reg (fun _ => rfl) ?_
  refine Ev.nxk (mvO rfl) ?_
  refine Ev.rend ?_
  intro e1 he2
  have h3 : eget e1 0 = .sl none (a1.map Party.c) := envp he2 rfl rfl
  refine Ev.kseqN ?_
  refine Ev.seq ?_
  refine Ev.seq ?_
  refine Ev.reg (fun _ => rfl) ?_
  refine Ev.nxk (mvO h3) ?_
  refine Ev.nxk (lnS Try.underlying39 rfl) ?_
  refine Ev.nxk (bGtr rfl rfl) ?_
  refine Ev.rend ?_
  intro e4 he5
  have h6 : eget e4 0 = .sl none (a1.map Party.c) := envp he5 rfl h3
  have h7 : eget e4 6 = .bool (decide ((a1.length : Int) > 20)) := envp he5 rfl rfl
  clear h3
  refine Ev.kseqN ?_
  rcases ite_some h with ⟨hb8, h⟩ | ⟨hb8, h⟩
  · refine Ev.condT h7 hb8 ?_
    refine Ev.seq ?_
    refine Ev.reg (fun _ => rfl) ?_
    refine Ev.nxk (mvO rfl) ?_
    refine Ev.rend ?_
    intro e9 he10
    have h11 : eget e9 2 = .bool false := envp he10 rfl rfl
    clear h6 h7
    refine Ev.kseqN ?_
    refine Ev.ex ?_
    refine Ev.kseqR ?_
    cases h
    exact Ev.kendR (resT h11 res0) rfl
  · refine Ev.condF h7 hb8 ?_
    refine Ev.ex ?_
    refine Ev.kseqN ?_
    refine Ev.seq ?_
    refine Ev.seq ?_
    refine Ev.reg (fun _ => rfl) ?_
    refine Ev.nxk (mvO rfl) ?_
    refine Ev.rend ?_
    intro e12 he13
    have h14 : eget e12 0 = .sl none (a1.map Party.c) := envp he13 rfl h6
    have h15 : eget e12 3 = .int .i64 0 := envp he13 rfl rfl
    clear h6 h7
    refine Ev.kseqN ?_
    refine Ev.blk ?_
    obtain ⟨r64, hr65, h⟩ := bind_some h
    rcases r64 with _ | _
    · refine Ev.loop (RS := spec_l06Parties_b1_RS a1) (RR := spec_l06Parties_b1_RR a1) (fun s r h e M hs => spec_l06Parties_b1_ok a1 s r h e M hs) hr65 (And.intro h14 h15) ?_
      intro x e67 M68 hq66
      obtain ⟨rfl, h69⟩ := hq66
      refine Ev.kblkR ?_
      refine Ev.kseqR ?_
      cases h
      exact Ev.kendR (resT h69 res0) rfl
    · refine Ev.loop (RS := spec_l06Parties_b1_RS a1) (RR := spec_l06Parties_b1_RR a1) (fun s r h e M hs => spec_l06Parties_b1_ok a1 s r h e M hs) hr65 (And.intro h14 h15) ?_
      intro x e70 M71 hq66
      obtain ⟨rfl, _⟩ := hq66
      refine Ev.kblkE ?_
      refine Ev.kseqN ?_
      refine Ev.seq ?_
      refine Ev.reg (fun _ => rfl) ?_
      refine Ev.nxk (mvO rfl) ?_
      refine Ev.rend ?_
      intro e72 he73
      have h74 : eget e72 2 = .bool true := envp he73 rfl rfl
      refine Ev.kseqN ?_
      refine Ev.ex ?_
      cases h
      exact Ev.kendR (resT h74 res0) rfl
/-! ### loop.example/g01263/laws.szParty (f39) -/
noncomputable def laws_szParty (a1 : Party) (a2 : Int) : Option Int :=
  if (decide ((IntKind.i64.wrap (a2 - (a1.Name.length : Int))) < 0)) = true then
    some (-1)
  else
    some (IntKind.i64.wrap (a2 - (a1.Name.length : Int)))
def laws_szParty_enc (r : Int) : AV := .int .i64 r
theorem laws_szParty_ok (a1 : Party) (a2 : Int) (r : Int) (h : laws_szParty a1 a2 = some r) : Ev (fun k => CN k 39 [.agg [.str a1.Name, .int .u32 a1.Secret], .int .i64 a2] []) (fun p => rRes p.2 p.1 = laws_szParty_enc r) := by
  unfold laws_szParty at h
  refine Ev.enter (F := fun k => f39 (CN k) k) (fun k => callN_eq rfl Try.func39 rfl rfl rfl (by decide +kernel) (f39_eq _ _)) ?_
  refine Ev.seq ?_
  refine Ev.reg (fun _ => rfl) ?_
  refine Ev.nxk (bxI rfl rfl ⟨rfl, rfl, by decide⟩) ?_
  refine Ev.nxk (mvO rfl) ?_
  refine Ev.rend ?_
  intro e1 he2
  have h3 : eget e1 1 = .int .i64 a2 := envp he2 rfl rfl
  have h4 : eget e1 2 = .pt none [.str a1.Name, .int .u32 a1.Secret] := envp he2 rfl rfl
  refine Ev.kseqN ?_
  refine Ev.seq ?_
  refine Ev.reg (fun _ => rfl) ?_
  refine Ev.nxk (mvO h3) ?_
  refine Ev.nxk (faP h4 ⟨ble rfl, blt rfl⟩ rfl) ?_
  refine Ev.nxk (ldP rfl rfl) ?_
  refine Ev.nxk (lnB Try.underlying9 rfl) ?_
  refine Ev.nxk (bSub rfl rfl) ?_
  refine Ev.nxk (mvO rfl) ?_
  refine Ev.rend ?_
  intro e5 he6
  have h7 : eget e5 1 = .int .i64 (IntKind.i64.wrap (a2 - (a1.Name.length : Int))) := envp he6 rfl rfl
  clear h4
  refine Ev.kseqN ?_
  refine Ev.seq ?_
  refine Ev.seq ?_
  refine Ev.reg (fun _ => rfl) ?_
  refine Ev.nxk (mvO h7) ?_
  refine Ev.nxk (bLss rfl rfl) ?_
  refine Ev.rend ?_
  intro e8 he9
  have h10 : eget e8 1 = .int .i64 (IntKind.i64.wrap (a2 - (a1.Name.length : Int))) := envp he9 rfl h7
  have h11 : eget e8 11 = .bool (decide ((IntKind.i64.wrap (a2 - (a1.Name.length : Int))) < 0)) := envp he9 rfl rfl
  clear h7
  refine Ev.kseqN ?_
  rcases ite_some h with ⟨hb12, h⟩ | ⟨hb12, h⟩
  · refine Ev.condT h11 hb12 ?_
    refine Ev.seq ?_
    refine Ev.reg (fun _ => rfl) ?_
    refine Ev.nxk (mvO rfl) ?_
    refine Ev.rend ?_
    intro e13 he14
    have h15 : eget e13 4 = .int .i64 (-1) := envp he14 rfl rfl
    clear h10 h11
    refine Ev.kseqN ?_
    refine Ev.ex ?_
    refine Ev.kseqR ?_
    cases h
    exact Ev.kendR (resT h15 res0) rfl
  · refine Ev.condF h11 hb12 ?_
    refine Ev.ex ?_
    refine Ev.kseqN ?_
    refine Ev.seq ?_
    refine Ev.reg (fun _ => rfl) ?_
    refine Ev.nxk (mvO h10) ?_
    refine Ev.nxk (mvO rfl) ?_
    refine Ev.rend ?_
    intro e16 he17
    have h18 : eget e16 4 = .int .i64 (IntKind.i64.wrap (a2 - (a1.Name.length : Int))) := envp he17 rfl rfl
    clear h10 h11
    refine Ev.kseqN ?_
    refine Ev.ex ?_
    cases h
    exact Ev.kendR (resT h18 res0) rfl
/-! ### loop.example/g01263/laws.eqPartyS (f22) -/
abbrev laws_eqPartyS_b1_S := Int
abbrev laws_eqPartyS_b1_R := Unit ⊕ Unit
def laws_eqPartyS_b1_RS (a1 : List Party) (a2 : List Party) (s : laws_eqPartyS_b1_S) (e : Env) (M : Mem) : Prop := eget e 0 = .sl none (a1.map Party.c) ∧ eget e 1 = .sl none (a2.map Party.c) ∧ eget e 5 = .int .i64 s
def laws_eqPartyS_b1_RR (a1 : List Party) (a2 : List Party) (r : laws_eqPartyS_b1_R) (x : Ex) (e : Env) (M : Mem) : Prop :=
  match r with
  | (.inl g) => x = .ret ∧ eget e 4 = .bool false
  | (.inr g) => x = .ext 0 ∧ True
noncomputable def laws_eqPartyS_b1 (a1 : List Party) (a2 : List Party) : laws_eqPartyS_b1_S → Option (laws_eqPartyS_b1_S ⊕ laws_eqPartyS_b1_R) := fun s1_1 =>
  if (decide (s1_1 < (a1.length : Int))) = true then
    (rd a1 s1_1).bind fun x42 =>
    (rd a2 s1_1).bind fun x44 =>
    (laws_eqParty x42 x44).bind fun r47 =>
    if r47 = true then
      some (.inl (IntKind.i64.wrap (s1_1 + 1)))
    else
      some (.inr (.inl ()))
  else
    some (.inr (.inr ()))
theorem laws_eqPartyS_b1_ok (a1 : List Party) (a2 : List Party) (s : laws_eqPartyS_b1_S) (r : laws_eqPartyS_b1_S ⊕ laws_eqPartyS_b1_R) (h : laws_eqPartyS_b1 a1 a2 s = some r) (e : Env) (M : Mem) (hs : laws_eqPartyS_b1_RS a1 a2 s e M) : Ev (fun k => (f22_l4 (CN k) k (prune [0, 1, 5] e) M).bind fun q => some q) (bQ (laws_eqPartyS_b1_RS a1 a2) (laws_eqPartyS_b1_RR a1 a2) r) := by
  revert h hs
  revert s
  intro s1_1 h hs
  unfold laws_eqPartyS_b1 at h
  obtain ⟨h29, h31, h33⟩ := hs
  generalize he28 : prune [0, 1, 5] e = e27
  have h30 := envp he28.symm rfl h29
  have h32 := envp he28.symm rfl h31
  have h34 := envp he28.symm rfl h33
  refine Ev.seq ?_
  refine Ev.seq ?_
  refine Ev.reg (fun _ => rfl) ?_
  refine Ev.nxk (mvO h34) ?_
  refine Ev.nxk (mvO h30) ?_
  refine Ev.nxk (lnS Try.underlying39 rfl) ?_
  refine Ev.nxk (bLss rfl rfl) ?_
  refine Ev.rend ?_
  intro e35 he36
  have h37 : eget e35 0 = .sl none (a1.map Party.c) := envp he36 rfl h30
  have h38 : eget e35 1 = .sl none (a2.map Party.c) := envp he36 rfl h32
  have h39 : eget e35 5 = .int .i64 s1_1 := envp he36 rfl h34
  have h40 : eget e35 14 = .bool (decide (s1_1 < (a1.length : Int))) := envp he36 rfl rfl
  clear h30 h32 h34
  refine Ev.kseqN ?_
  rcases ite_some h with ⟨hb41, h⟩ | ⟨hb41, h⟩
  · refine Ev.condT h40 hb41 ?_
    refine Ev.ex ?_
    refine Ev.kseqN ?_
    refine Ev.seq ?_
    refine Ev.blk ?_
    refine Ev.seq ?_
    refine Ev.regD (fun _ => rfl) ?_
    refine Ev.nfk (mvO h37) ?_
    refine Ev.nfk (mvO h39) ?_
    obtain ⟨x42, hx43, h⟩ := bind_some h
    refine Ev.nfk (ixS rfl rfl hx43 Party.fl) ?_
    refine Ev.nfk (ldPA rfl rfl rfl) ?_
    refine Ev.nfk (mvO h38) ?_
    refine Ev.nfk (mvO h39) ?_
    obtain ⟨x44, hx45, h⟩ := bind_some h
    refine Ev.nfk (ixS rfl rfl hx45 Party.fl) ?_
    refine Ev.nfk (ldPA rfl rfl rfl) ?_
    obtain ⟨r47, hx46, h⟩ := bind_some h
    refine Ev.nfc (Ev.call (v := .bool r47) rfl (cns rfl (cns rfl rfl)) rfl (laws_eqParty_ok x42 x44 _ hx46) (fun h => nomatch (show false = true from h))) ?_
    refine Ev.nfk (uNot rfl) ?_
    refine Ev.fend0 ?_
    refine Ev.rend ?_
    intro e48 he49
    have h50 : eget e48 0 = .sl none (a1.map Party.c) := envp he49 rfl h37
    have h51 : eget e48 1 = .sl none (a2.map Party.c) := envp he49 rfl h38
    have h52 : eget e48 5 = .int .i64 s1_1 := envp he49 rfl h39
    have h53 : eget e48 26 = .bool (!r47) := envp he49 rfl rfl
    clear h37 h38 h39 h40
    refine Ev.kseqN ?_
    rcases ite_some h with ⟨hb54, h⟩ | ⟨hb54, h⟩
    · refine Ev.condF h53 (congrArg Bool.not hb54) ?_
      refine Ev.ex ?_
      refine Ev.kblkN ?_
      refine Ev.kseqN ?_
      refine Ev.reg (fun _ => rfl) ?_
      refine Ev.nxk (mvO h52) ?_
      refine Ev.nxk (bAdd rfl rfl) ?_
      refine Ev.nxk (mvO rfl) ?_
      refine Ev.rend ?_
      intro e55 he56
      have h57 : eget e55 0 = .sl none (a1.map Party.c) := envp he56 rfl h50
      have h58 : eget e55 1 = .sl none (a2.map Party.c) := envp he56 rfl h51
      have h59 : eget e55 5 = .int .i64 (IntKind.i64.wrap (s1_1 + 1)) := envp he56 rfl rfl
      clear h50 h51 h53
      cases h
      exact Ev.kid (bQ_n (RS := (laws_eqPartyS_b1_RS a1 a2)) (RR := (laws_eqPartyS_b1_RR a1 a2)) (And.intro h57 (And.intro h58 h59)))
    · refine Ev.condT h53 (congrArg Bool.not hb54) ?_
      refine Ev.seq ?_
      refine Ev.reg (fun _ => rfl) ?_
      refine Ev.nxk (mvO rfl) ?_
      refine Ev.rend ?_
      intro e60 he61
      have h62 : eget e60 4 = .bool false := envp he61 rfl rfl
      clear h50 h51 h52 h53
      refine Ev.kseqN ?_
      refine Ev.ex ?_
      refine Ev.kblkR ?_
      refine Ev.kseqR ?_
      cases h
      exact Ev.kid (bQ_x (RS := (laws_eqPartyS_b1_RS a1 a2)) (RR := (laws_eqPartyS_b1_RR a1 a2)) (by intro h; cases h) (And.intro rfl h62))
  · refine Ev.condF h40 hb41 ?_
    refine Ev.ex ?_
    refine Ev.kseqE ?_
    cases h
    exact Ev.kid (bQ_x (RS := (laws_eqPartyS_b1_RS a1 a2)) (RR := (laws_eqPartyS_b1_RR a1 a2)) (by intro h; cases h) (And.intro rfl trivial))
noncomputable def laws_eqPartyS (a1 : List Party) (a2 : List Party) : Option Bool :=
  if ((a1.length : Int) != (a2.length : Int)) = true then
    some false
  else
    (Lw (laws_eqPartyS_b1 a1 a2) 0).bind fun r => match r with
    | (.inl _) =>
      some false
    | (.inr _) =>
      some true
def laws_eqPartyS_enc (r : Bool) : AV := .bool r
theorem laws_eqPartyS_ok (a1 : List Party) (a2 : List Party) (r : Bool) (h : laws_eqPartyS a1 a2 = some r) : Ev (fun k => CN k 22 [.sl none (a1.map Party.c), .sl none (a2.map Party.c)] []) (fun p => rRes p.2 p.1 = laws_eqPartyS_enc r) := by
  unfold laws_eqPartyS at h
  refine Ev.enter (F := fun k => f22 (CN k) k) (fun k => callN_eq rfl Try.func22 rfl rfl rfl (by decide +kernel) (f22_eq _ _)) ?_
  refine Ev.seq ?_
  refine Ev.reg (fun _ => rfl) ?_
  refine Ev.nxk (mvO rfl) ?_
  refine Ev.rend ?_
  intro e1 he2
  have h3 : eget e1 0 = .sl none (a1.map Party.c) := envp he2 rfl rfl
  have h4 : eget e1 1 = .sl none (a2.map Party.c) := envp he2 rfl rfl
  refine Ev.kseqN ?_
  refine Ev.seq ?_
  refine Ev.seq ?_
  refine Ev.reg (fun _ => rfl) ?_
  refine Ev.nxk (mvO h3) ?_
  refine Ev.nxk (lnS Try.underlying39 rfl) ?_
  refine Ev.nxk (mvO h4) ?_
  refine Ev.nxk (lnS Try.underlying39 rfl) ?_
  refine Ev.nxk (bNeq rfl rfl) ?_
  refine Ev.rend ?_
  intro e5 he6
  have h7 : eget e5 0 = .sl none (a1.map Party.c) := envp he6 rfl h3
  have h8 : eget e5 1 = .sl none (a2.map Party.c) := envp he6 rfl h4
  have h9 : eget e5 10 = .bool ((a1.length : Int) != (a2.length : Int)) := envp he6 rfl rfl
  clear h3 h4
  refine Ev.kseqN ?_
  rcases ite_some h with ⟨hb10, h⟩ | ⟨hb10, h⟩
  · refine Ev.condT h9 hb10 ?_
    refine Ev.seq ?_
    refine Ev.reg (fun _ => rfl) ?_
    refine Ev.nxk (mvO rfl) ?_
    refine Ev.rend ?_
    intro e11 he12
    have h13 : eget e11 4 = .bool false := envp he12 rfl rfl
    clear h7 h8 h9
    refine Ev.kseqN ?_
    refine Ev.ex ?_
    refine Ev.kseqR ?_
    cases h
    exact Ev.kendR (resT h13 res0) rfl
  · refine Ev.condF h9 hb10 ?_
    refine Ev.ex ?_
    refine Ev.kseqN ?_
    refine Ev.seq ?_
    refine Ev.seq ?_
    refine Ev.reg (fun _ => rfl) ?_
    refine Ev.nxk (mvO rfl) ?_
    refine Ev.rend ?_
    intro e14 he15
    have h16 : eget e14 0 = .sl none (a1.map Party.c) := envp he15 rfl h7
    have h17 : eget e14 1 = .sl none (a2.map Party.c) := envp he15 rfl h8
    have h18 : eget e14 5 = .int .i64 0 := envp he15 rfl rfl
    clear h7 h8 h9
    refine Ev.kseqN ?_
    refine Ev.blk ?_
    obtain ⟨r63, hr64, h⟩ := bind_some h
    rcases r63 with _ | _
    · refine Ev.loop (RS := laws_eqPartyS_b1_RS a1 a2) (RR := laws_eqPartyS_b1_RR a1 a2) (fun s r h e M hs => laws_eqPartyS_b1_ok a1 a2 s r h e M hs) hr64 (And.intro h16 (And.intro h17 h18)) ?_
      intro x e66 M67 hq65
      obtain ⟨rfl, h68⟩ := hq65
      refine Ev.kblkR ?_
      refine Ev.kseqR ?_
      cases h
      exact Ev.kendR (resT h68 res0) rfl
    · refine Ev.loop (RS := laws_eqPartyS_b1_RS a1 a2) (RR := laws_eqPartyS_b1_RR a1 a2) (fun s r h e M hs => laws_eqPartyS_b1_ok a1 a2 s r h e M hs) hr64 (And.intro h16 (And.intro h17 h18)) ?_
      intro x e69 M70 hq65
      obtain ⟨rfl, _⟩ := hq65
      refine Ev.kblkE ?_
      refine Ev.kseqN ?_
      refine Ev.seq ?_
      refine Ev.reg (fun _ => rfl) ?_
      refine Ev.nxk (mvO rfl) ?_
      refine Ev.rend ?_
      intro e71 he72
      have h73 : eget e71 4 = .bool true := envp he72 rfl rfl
      refine Ev.kseqN ?_
      refine Ev.ex ?_
      cases h
      exact Ev.kendR (resT h73 res0) rfl
/-! ### loop.example/g01263/impl.ValidParties (f21) -/
abbrev impl_ValidParties_b1_S := Int
abbrev impl_ValidParties_b1_R := Unit ⊕ Unit
def impl_ValidParties_b1_RS (a1 : List Party) (s : impl_ValidParties_b1_S) (e : Env) (M : Mem) : Prop := eget e 0 = .sl none (a1.map Party.c) ∧ eget e 5 = .sl none (a1.map Party.c) ∧ eget e 6 = .int .i64 (a1.length : Int) ∧ eget e 7 = .int .i64 s
def impl_ValidParties_b1_RR (a1 : List Party) (r : impl_ValidParties_b1_R) (x : Ex) (e : Env) (M : Mem) : Prop :=
  match r with
  | (.inl g) => x = .ret ∧ eget e 2 = .bool false
  | (.inr g) => x = .ext 0 ∧ eget e 0 = .sl none (a1.map Party.c)
noncomputable def impl_ValidParties_b1 (a1 : List Party) : impl_ValidParties_b1_S → Option (impl_ValidParties_b1_S ⊕ impl_ValidParties_b1_R) := fun s1_1 =>
  if (decide (s1_1 < (a1.length : Int))) = true then
    (rd a1 s1_1).bind fun x38 =>
    (impl_isName x38.Name).bind fun r56 =>
    if r56 = true then
      (slc a1 0 s1_1).bind fun x58 =>
      (impl_find x58 x38.Name).bind fun r61 =>
      if (decide (r61 ≥ 0)) = true then
        some (.inr (.inl ()))
      else
        some (.inl (IntKind.i64.wrap (s1_1 + 1)))
    else
      some (.inr (.inl ()))
  else
    some (.inr (.inr ()))
theorem impl_ValidParties_b1_ok (a1 : List Party) (s : impl_ValidParties_b1_S) (r : impl_ValidParties_b1_S ⊕ impl_ValidParties_b1_R) (h : impl_ValidParties_b1 a1 s = some r) (e : Env) (M : Mem) (hs : impl_ValidParties_b1_RS a1 s e M) : Ev (fun k => (f21_l2 (CN k) k (prune [0, 5, 6, 7] e) M).bind fun q => some q) (bQ (impl_ValidParties_b1_RS a1) (impl_ValidParties_b1_RR a1) r) := by
  revert h hs
  revert s
  intro s1_1 h hs
  unfold impl_ValidParties_b1 at h
  obtain ⟨h22, h24, h26, h28⟩ := hs
  generalize he21 : prune [0, 5, 6, 7] e = e20
  have h23 := envp he21.symm rfl h22
  have h25 := envp he21.symm rfl h24
  have h27 := envp he21.symm rfl h26
  have h29 := envp he21.symm rfl h28
  refine Ev.seq ?_
  refine Ev.reg (fun _ => rfl) ?_
  refine Ev.nxk (bLss h29 h27) ?_
  refine Ev.rend ?_
  intro e30 he31
  have h32 : eget e30 0 = .sl none (a1.map Party.c) := envp he31 rfl h23
  have h33 : eget e30 5 = .sl none (a1.map Party.c) := envp he31 rfl h25
  have h34 : eget e30 6 = .int .i64 (a1.length : Int) := envp he31 rfl h27
  have h35 : eget e30 7 = .int .i64 s1_1 := envp he31 rfl h29
  have h36 : eget e30 8 = .bool (decide (s1_1 < (a1.length : Int))) := envp he31 rfl rfl
  clear h23 h25 h27 h29
  refine Ev.kseqN ?_
  refine Ev.seq ?_
  rcases ite_some h with ⟨hb37, h⟩ | ⟨hb37, h⟩
  · refine Ev.condT h36 hb37 ?_
    refine Ev.ex ?_
    refine Ev.kseqN ?_
    refine Ev.seq ?_
    refine Ev.blk ?_
    refine Ev.seq ?_
    refine Ev.reg (fun _ => rfl) ?_
    refine Ev.nxk (mvO h35) ?_
    obtain ⟨x38, hx39, h⟩ := bind_some h
    refine Ev.nxk (ixS h33 h35 hx39 Party.fl) ?_
    refine Ev.nxk (ldPA rfl rfl rfl) ?_
    refine Ev.nxpush (alO zero69) ?_
    intro M41 hM42
    have o43 : M41[M.length]? = some (.live ⟨.box, 69, 2, [[.str ([] : List UInt8), .int .u32 0]]⟩) := push_new hM42
    refine Ev.nxk (mvO rfl) ?_
    refine Ev.nxput (stO rfl rfl o43 rfl rfl ⟨rfl, ble rfl⟩ rfl rfl) ?_
    intro M44 hM45
    have o46 : M44[M.length]? = some (.live ⟨.box, 69, 2, [[.str x38.Name, .int .u32 x38.Secret]]⟩) := set_same hM45 o43
    refine Ev.rend ?_
    intro e47 he48
    have h49 : eget e47 0 = .sl none (a1.map Party.c) := envp he48 rfl h32
    have h50 : eget e47 3 = .int .i64 s1_1 := envp he48 rfl rfl
    have h51 : eget e47 4 = .loc M.length 1 0 0 := envp he48 rfl rfl
    have h52 : eget e47 5 = .sl none (a1.map Party.c) := envp he48 rfl h33
    have h53 : eget e47 6 = .int .i64 (a1.length : Int) := envp he48 rfl h34
    have h54 : eget e47 7 = .int .i64 s1_1 := envp he48 rfl h35
    clear h32 h33 h34 h35 h36
    refine Ev.kseqN ?_
    refine Ev.seq ?_
    refine Ev.regD (fun _ => rfl) ?_
    refine Ev.nfk (faO h51 o46 rfl) ?_
    refine Ev.nfk (ldO rfl o46 rfl rfl rfl) ?_
    obtain ⟨r56, hx55, h⟩ := bind_some h
    refine Ev.nfc (Ev.call (v := .bool r56) rfl (cns rfl rfl) rfl (impl_isName_ok x38.Name _ hx55) (fun h => nomatch (show false = true from h))) ?_
    refine Ev.nfk (uNot rfl) ?_
    refine Ev.nfk (mvO rfl) ?_
    rcases ite_some h with ⟨hb57, h⟩ | ⟨hb57, h⟩
    · refine Ev.nfk (guF rfl (congrArg Bool.not hb57) (mvO h49)) ?_
      refine Ev.nfk (guF rfl (congrArg Bool.not hb57) (mvO h50)) ?_
      obtain ⟨x58, hx59, h⟩ := bind_some h
      refine Ev.nfk (guF rfl (congrArg Bool.not hb57) (slS rfl rfl (bnd1 rfl) hx59 Party.fl)) ?_
      refine Ev.nfk (guF rfl (congrArg Bool.not hb57) (faO h51 o46 rfl)) ?_
      refine Ev.nfk (guF rfl (congrArg Bool.not hb57) (ldO rfl o46 rfl rfl rfl)) ?_
      obtain ⟨r61, hx60, h⟩ := bind_some h
      refine Ev.nfc (Ev.guF rfl (congrArg Bool.not hb57) (Ev.call (v := .int .i64 r61) rfl (cns rfl (cns rfl rfl)) rfl (impl_find_ok x58 x38.Name _ hx60) (fun h => nomatch (show false = true from h)))) ?_
      refine Ev.nfk (guF rfl (congrArg Bool.not hb57) (bGeq rfl rfl)) ?_
      refine Ev.nfk (pkF rfl (congrArg Bool.not hb57) rfl) ?_
      refine Ev.fend0 ?_
      refine Ev.rend ?_
      intro e62 he63
      have h64 : eget e62 0 = .sl none (a1.map Party.c) := envp he63 rfl h49
      have h65 : eget e62 5 = .sl none (a1.map Party.c) := envp he63 rfl h52
      have h66 : eget e62 6 = .int .i64 (a1.length : Int) := envp he63 rfl h53
      have h67 : eget e62 7 = .int .i64 s1_1 := envp he63 rfl h54
      have h68 : eget e62 24 = .bool (decide (r61 ≥ 0)) := envp he63 rfl rfl
      clear h49 h50 h51 h52 h53 h54
      refine Ev.kseqN ?_
      rcases ite_some h with ⟨hb69, h⟩ | ⟨hb69, h⟩
      · refine Ev.condT h68 hb69 ?_
        refine Ev.seq ?_
        refine Ev.reg (fun _ => rfl) ?_
        refine Ev.nxk (mvO rfl) ?_
        refine Ev.rend ?_
        intro e70 he71
        have h72 : eget e70 2 = .bool false := envp he71 rfl rfl
        clear h64 h65 h66 h67 h68
        refine Ev.kseqN ?_
        refine Ev.ex ?_
        refine Ev.kblkR ?_
        refine Ev.kseqR ?_
        cases h
        exact Ev.kid (bQ_x (RS := (impl_ValidParties_b1_RS a1)) (RR := (impl_ValidParties_b1_RR a1)) (by intro h; cases h) (And.intro rfl h72))
      · refine Ev.condF h68 hb69 ?_
        refine Ev.ex ?_
        refine Ev.kblkN ?_
        refine Ev.kseqN ?_
        refine Ev.reg (fun _ => rfl) ?_
        refine Ev.nxk (bAdd h67 rfl) ?_
        refine Ev.nxk (mvO rfl) ?_
        refine Ev.rend ?_
        intro e73 he74
        have h75 : eget e73 0 = .sl none (a1.map Party.c) := envp he74 rfl h64
        have h76 : eget e73 5 = .sl none (a1.map Party.c) := envp he74 rfl h65
        have h77 : eget e73 6 = .int .i64 (a1.length : Int) := envp he74 rfl h66
        have h78 : eget e73 7 = .int .i64 (IntKind.i64.wrap (s1_1 + 1)) := envp he74 rfl rfl
        clear h64 h65 h66 h68
        cases h
        exact Ev.kid (bQ_n (RS := (impl_ValidParties_b1_RS a1)) (RR := (impl_ValidParties_b1_RR a1)) (And.intro h75 (And.intro h76 (And.intro h77 h78))))
    · refine Ev.nfk (gsF rfl (congrArg Bool.not hb57)) ?_
      refine Ev.nfk (gsF rfl (congrArg Bool.not hb57)) ?_
      refine Ev.nfk (gsF rfl (congrArg Bool.not hb57)) ?_
      refine Ev.nfk (gsF rfl (congrArg Bool.not hb57)) ?_
      refine Ev.nfk (gsF rfl (congrArg Bool.not hb57)) ?_
      refine Ev.nfc (Ev.gsF rfl (congrArg Bool.not hb57)) ?_
      refine Ev.nfk (gsF rfl (congrArg Bool.not hb57)) ?_
      refine Ev.nfk (pkT rfl (congrArg Bool.not hb57) rfl) ?_
      refine Ev.fend0 ?_
      refine Ev.rend ?_
      intro e79 he80
      have h81 : eget e79 0 = .sl none (a1.map Party.c) := envp he80 rfl h49
      have h82 : eget e79 5 = .sl none (a1.map Party.c) := envp he80 rfl h52
      have h83 : eget e79 6 = .int .i64 (a1.length : Int) := envp he80 rfl h53
      have h84 : eget e79 7 = .int .i64 s1_1 := envp he80 rfl h54
      have h85 : eget e79 24 = .bool true := envp he80 rfl rfl
      clear h49 h50 h51 h52 h53 h54
      refine Ev.kseqN ?_
      refine Ev.condT h85 rfl ?_
      refine Ev.seq ?_
      refine Ev.reg (fun _ => rfl) ?_
      refine Ev.nxk (mvO rfl) ?_
      refine Ev.rend ?_
      intro e86 he87
      have h88 : eget e86 2 = .bool false := envp he87 rfl rfl
      clear h81 h82 h83 h84 h85
      refine Ev.kseqN ?_
      refine Ev.ex ?_
      refine Ev.kblkR ?_
      refine Ev.kseqR ?_
      cases h
      exact Ev.kid (bQ_x (RS := (impl_ValidParties_b1_RS a1)) (RR := (impl_ValidParties_b1_RR a1)) (by intro h; cases h) (And.intro rfl h88))
  · refine Ev.condF h36 hb37 ?_
    refine Ev.ex ?_
    refine Ev.kseqE ?_
    cases h
    exact Ev.kid (bQ_x (RS := (impl_ValidParties_b1_RS a1)) (RR := (impl_ValidParties_b1_RR a1)) (by intro h; cases h) (And.intro rfl h32))
noncomputable def impl_ValidParties (a1 : List Party) : Option Bool :=
  (Lw (impl_ValidParties_b1 a1) 0).bind fun r => match r with
  | (.inl _) =>
    some false
  | (.inr _) =>
    some (decide ((a1.length : Int) ≤ 20))
def impl_ValidParties_enc (r : Bool) : AV := .bool r
theorem impl_ValidParties_ok (a1 : List Party) (r : Bool) (h : impl_ValidParties a1 = some r) : Ev (fun k => CN k 21 [.sl none (a1.map Party.c)] []) (fun p => rRes p.2 p.1 = impl_ValidParties_enc r) := by
  unfold impl_ValidParties at h
  refine Ev.enter (F := fun k => f21 (CN k) k) (fun k => callN_eq rfl Try.func21 rfl rfl rfl (by decide +kernel) (f21_eq _ _)) ?_
  refine Ev.seq ?_
  refine Ev.reg (fun _ => rfl) ?_
  refine Ev.nxk (mvO rfl) ?_
  refine Ev.rend ?_
  intro e1 he2
  have h3 : eget e1 0 = .sl none (a1.map Party.c) := envp he2 rfl rfl
  refine Ev.kseqN ?_
  refine Ev.seq ?_
  refine Ev.seq ?_
  refine Ev.reg (fun _ => rfl) ?_
  refine Ev.nxk (mvO h3) ?_
  refine Ev.nxk (lnS Try.underlying39 rfl) ?_
  refine Ev.nxk (mvO rfl) ?_
  refine Ev.rend ?_
  intro e4 he5
  have h6 : eget e4 0 = .sl none (a1.map Party.c) := envp he5 rfl h3
  have h7 : eget e4 5 = .sl none (a1.map Party.c) := envp he5 rfl rfl
  have h8 : eget e4 6 = .int .i64 (a1.length : Int) := envp he5 rfl rfl
  have h9 : eget e4 7 = .int .i64 0 := envp he5 rfl rfl
  clear h3
  refine Ev.kseqN ?_
  refine Ev.blk ?_
  obtain ⟨r89, hr90, h⟩ := bind_some h
  rcases r89 with _ | _
  · refine Ev.loop (RS := impl_ValidParties_b1_RS a1) (RR := impl_ValidParties_b1_RR a1) (fun s r h e M hs => impl_ValidParties_b1_ok a1 s r h e M hs) hr90 (And.intro h6 (And.intro h7 (And.intro h8 h9))) ?_
    intro x e92 M93 hq91
    obtain ⟨rfl, h94⟩ := hq91
    refine Ev.kblkR ?_
    refine Ev.kseqR ?_
    cases h
    exact Ev.kendR (resT h94 res0) rfl
  · refine Ev.loop (RS := impl_ValidParties_b1_RS a1) (RR := impl_ValidParties_b1_RR a1) (fun s r h e M hs => impl_ValidParties_b1_ok a1 s r h e M hs) hr90 (And.intro h6 (And.intro h7 (And.intro h8 h9))) ?_
    intro x e95 M96 hq91
    obtain ⟨rfl, h97⟩ := hq91
    refine Ev.kblkE ?_
    refine Ev.kseqN ?_
    refine Ev.seq ?_
    refine Ev.reg (fun _ => rfl) ?_
    refine Ev.nxk (mvO h97) ?_
    refine Ev.nxk (lnS Try.underlying39 rfl) ?_
    refine Ev.nxk (bLeq rfl rfl) ?_
    refine Ev.nxk (mvO rfl) ?_
    refine Ev.rend ?_
    intro e98 he99
    have h100 : eget e98 2 = .bool (decide ((a1.length : Int) ≤ 20)) := envp he99 rfl rfl
    clear h97
    refine Ev.kseqN ?_
    refine Ev.ex ?_
    cases h
    exact Ev.kendR (resT h100 res0) rfl
/-! ### loop.example/g01263/laws.toPartyS (f20) -/
abbrev laws_toPartyS_b1_S := Int × (List Party)
abbrev laws_toPartyS_b1_R := (List Party)
def laws_toPartyS_b1_RS (a1 : List Party) (x4 : List Party) (i1_1 : Nat) (s : laws_toPartyS_b1_S) (e : Env) (M : Mem) : Prop := eget e 0 = .sl none (a1.map Party.c) ∧ eget e 3 = .lsl i1_1 s.2.length 0 s.2.length ∧ eget e 4 = .int .i64 s.1 ∧ M[i1_1]? = some (.live ⟨.grow, 69, 2, s.2.map Party.c⟩) ∧ s.2.length = x4.length
def laws_toPartyS_b1_RR (a1 : List Party) (x4 : List Party) (i1_1 : Nat) (g : laws_toPartyS_b1_R) (x : Ex) (e : Env) (M : Mem) : Prop := x = .ext 0 ∧ eget e 3 = .lsl i1_1 g.length 0 g.length ∧ M[i1_1]? = some (.live ⟨.grow, 69, 2, g.map Party.c⟩) ∧ g.length = x4.length
noncomputable def laws_toPartyS_b1 (a1 : List Party) : laws_toPartyS_b1_S → Option (laws_toPartyS_b1_S ⊕ laws_toPartyS_b1_R) := fun (s1_1, s1_2) =>
  if (decide (s1_1 < (a1.length : Int))) = true then
    (rd a1 s1_1).bind fun x45 =>
    (laws_toParty x45).bind fun (r48, r49) =>
    (rd s1_2 s1_1).bind fun x50 =>
    some (.inl ((IntKind.i64.wrap (s1_1 + 1)), (s1_2.set s1_1.toNat (Party.mk r48 r49))))
  else
    some (.inr s1_2)
theorem laws_toPartyS_b1_ok (a1 : List Party) (x4 : List Party) (i1_1 : Nat) (s : laws_toPartyS_b1_S) (r : laws_toPartyS_b1_S ⊕ laws_toPartyS_b1_R) (h : laws_toPartyS_b1 a1 s = some r) (e : Env) (M : Mem) (hs : laws_toPartyS_b1_RS a1 x4 i1_1 s e M) : Ev (fun k => (f20_l3 (CN k) k (prune [0, 3, 4] e) M).bind fun q => some q) (bQ (laws_toPartyS_b1_RS a1 x4 i1_1) (laws_toPartyS_b1_RR a1 x4 i1_1) r) := by
  obtain ⟨s1_1, s1_2⟩ := s
  unfold laws_toPartyS_b1 at h
  obtain ⟨h30, h32, h34, o36, hl37⟩ := hs
  generalize he29 : prune [0, 3, 4] e = e28
  have h31 := envp he29.symm rfl h30
  have h33 := envp he29.symm rfl h32
  have h35 := envp he29.symm rfl h34
  refine Ev.seq ?_
  refine Ev.seq ?_
  refine Ev.reg (fun _ => rfl) ?_
  refine Ev.nxk (mvO h35) ?_
  refine Ev.nxk (mvO h31) ?_
  refine Ev.nxk (lnS Try.underlying36 rfl) ?_
  refine Ev.nxk (bLss rfl rfl) ?_
  refine Ev.rend ?_
  intro e38 he39
  have h40 : eget e38 0 = .sl none (a1.map Party.c) := envp he39 rfl h31
  have h41 : eget e38 3 = .lsl i1_1 s1_2.length 0 s1_2.length := envp he39 rfl h33
  have h42 : eget e38 4 = .int .i64 s1_1 := envp he39 rfl h35
  have h43 : eget e38 11 = .bool (decide (s1_1 < (a1.length : Int))) := envp he39 rfl rfl
  clear h31 h33 h35
  refine Ev.kseqN ?_
  rcases ite_some h with ⟨hb44, h⟩ | ⟨hb44, h⟩
  · refine Ev.condT h43 hb44 ?_
    refine Ev.ex ?_
    refine Ev.kseqN ?_
    refine Ev.seq ?_
    refine Ev.blk ?_
    refine Ev.reg (fun _ => rfl) ?_
    refine Ev.nxk (mvO h41) ?_
    refine Ev.nxk (mvO h42) ?_
    refine Ev.nxk (mvO h40) ?_
    refine Ev.nxk (mvO h42) ?_
    obtain ⟨x45, hx46, h⟩ := bind_some h
    refine Ev.nxk (ixS rfl rfl hx46 Party.fl) ?_
    refine Ev.nxk (ldPA rfl rfl rfl) ?_
    obtain ⟨⟨r48, r49⟩, hx47, h⟩ := bind_some h
    refine Ev.nxck (Ev.call (v := .agg [.str r48, .int .u32 r49]) rfl (cns rfl rfl) rfl (laws_toParty_ok x45 _ hx47) (fun h => nomatch (show false = true from h))) ?_
    obtain ⟨x50, hx51, h⟩ := bind_some h
    refine Ev.nxk (ixO rfl o36 rfl rfl (rd_get hx51).1 (rd_lt hx51).2) ?_
    refine Ev.nxput (stR (u' := (Party.mk r48 r49)) rfl rfl o36 rfl (by rw [Nat.zero_add]; exact (rd_get hx51).2) ⟨rfl, ble rfl⟩ rfl rfl) ?_
    intro M52 hM53
    rw [Nat.zero_add] at hM53
    have o54 : M52[i1_1]? = some (.live ⟨.grow, 69, 2, (s1_2.set s1_1.toNat (Party.mk r48 r49)).map Party.c⟩) := set_same hM53 o36
    refine Ev.rend ?_
    intro e55 he56
    have h57 : eget e55 0 = .sl none (a1.map Party.c) := envp he56 rfl h40
    have h58 : eget e55 3 = .lsl i1_1 s1_2.length 0 s1_2.length := envp he56 rfl h41
    have h59 : eget e55 4 = .int .i64 s1_1 := envp he56 rfl h42
    clear h40 h41 h42 h43
    refine Ev.kblkN ?_
    refine Ev.kseqN ?_
    refine Ev.reg (fun _ => rfl) ?_
    refine Ev.nxk (mvO h59) ?_
    refine Ev.nxk (bAdd rfl rfl) ?_
    refine Ev.nxk (mvO rfl) ?_
    refine Ev.rend ?_
    intro e60 he61
    have h62 : eget e60 0 = .sl none (a1.map Party.c) := envp he61 rfl h57
    have h63 : eget e60 3 = .lsl i1_1 s1_2.length 0 s1_2.length := envp he61 rfl h58
    have h64 : eget e60 4 = .int .i64 (IntKind.i64.wrap (s1_1 + 1)) := envp he61 rfl rfl
    clear h57 h58
    cases h
    exact Ev.kid (bQ_n (RS := (laws_toPartyS_b1_RS a1 x4 i1_1)) (RR := (laws_toPartyS_b1_RR a1 x4 i1_1)) (And.intro h62 (And.intro (lslL (L' := (s1_2.set s1_1.toNat (Party.mk r48 r49)).length) h63 (by simp [hl37])) (And.intro h64 (And.intro o54 (by first | rfl | simp [hl37]))))))
  · refine Ev.condF h43 hb44 ?_
    refine Ev.ex ?_
    refine Ev.kseqE ?_
    cases h
    exact Ev.kid (bQ_x (RS := (laws_toPartyS_b1_RS a1 x4 i1_1)) (RR := (laws_toPartyS_b1_RR a1 x4 i1_1)) (by intro h; cases h) (And.intro rfl (And.intro h41 (And.intro o36 (by first | rfl | simp [hl37])))))
noncomputable def laws_toPartyS (a1 : List Party) : Option ((List Party)) :=
  (mkS 24 (Party.mk ([] : List UInt8) 0) (a1.length : Int)).bind fun x4 =>
  (Lw (laws_toPartyS_b1 a1) (0, x4)).bind fun y70 =>
  some y70
def laws_toPartyS_enc (r : (List Party)) : AV := .sl (some 69) (r.map Party.c)
theorem laws_toPartyS_ok (a1 : List Party) (r : (List Party)) (h : laws_toPartyS a1 = some r) : Ev (fun k => CN k 20 [.sl none (a1.map Party.c)] []) (fun p => rRes p.2 p.1 = laws_toPartyS_enc r) := by
  unfold laws_toPartyS at h
  refine Ev.enter (F := fun k => f20 (CN k) k) (fun k => callN_eq rfl Try.func20 rfl rfl rfl (by decide +kernel) (f20_eq _ _)) ?_
  refine Ev.seq ?_
  refine Ev.reg (fun _ => rfl) ?_
  refine Ev.nxk (mvO rfl) ?_
  refine Ev.rend ?_
  intro e1 he2
  have h3 : eget e1 0 = .sl none (a1.map Party.c) := envp he2 rfl rfl
  refine Ev.kseqN ?_
  refine Ev.seq ?_
  refine Ev.reg (fun _ => rfl) ?_
  refine Ev.nxk (mvO h3) ?_
  refine Ev.nxk (lnS Try.underlying36 rfl) ?_
  obtain ⟨x4, hx5, h⟩ := bind_some h
  refine Ev.nxpush (mkO rfl rfl hx5 (c := Party.c) zero69 Party.fl (by decide)) ?_
  intro M7 hM8
  have o9 : M7[([] : Mem).length]? = some (.live ⟨.grow, 69, 2, x4.map Party.c⟩) := push_new hM8
  refine Ev.nxk (mvO rfl) ?_
  refine Ev.rend ?_
  intro e10 he11
  have h12 : eget e10 0 = .sl none (a1.map Party.c) := envp he11 rfl h3
  have h13 : eget e10 3 = .lsl ([] : Mem).length x4.length 0 x4.length := envp he11 rfl rfl
  clear h3
  refine Ev.kseqN ?_
  refine Ev.seq ?_
  refine Ev.seq ?_
  refine Ev.reg (fun _ => rfl) ?_
  refine Ev.nxk (mvO rfl) ?_
  refine Ev.rend ?_
  intro e14 he15
  have h16 : eget e14 0 = .sl none (a1.map Party.c) := envp he15 rfl h12
  have h17 : eget e14 3 = .lsl ([] : Mem).length x4.length 0 x4.length := envp he15 rfl h13
  have h18 : eget e14 4 = .int .i64 0 := envp he15 rfl rfl
  clear h12 h13
  refine Ev.kseqN ?_
  refine Ev.blk ?_
  obtain ⟨y70, hr66, h⟩ := bind_some h
  refine Ev.loop (RS := laws_toPartyS_b1_RS a1 x4 (([] : Mem).length)) (RR := laws_toPartyS_b1_RR a1 x4 (([] : Mem).length)) (fun s r h e M hs => laws_toPartyS_b1_ok a1 x4 (([] : Mem).length) s r h e M hs) hr66 (And.intro h16 (And.intro h17 (And.intro h18 (And.intro o9 rfl)))) ?_
  intro x e68 M69 hq67
  obtain ⟨rfl, h71, o72, hl73⟩ := hq67
  refine Ev.kblkE ?_
  refine Ev.kseqN ?_
  refine Ev.seq ?_
  refine Ev.reg (fun _ => rfl) ?_
  refine Ev.nxk (mvO h71) ?_
  refine Ev.nxk (mvO rfl) ?_
  refine Ev.rend ?_
  intro e74 he75
  have h76 : eget e74 2 = .lsl ([] : Mem).length y70.length 0 y70.length := envp he75 rfl rfl
  clear h71
  refine Ev.kseqN ?_
  refine Ev.ex ?_
  cases h
  exact Ev.kendR (resT h76 res0) (rr_row o72 Party.fl)
/-! ### loop.example/g01263/spec.ValidParties (f19) -/
noncomputable def spec_ValidParties (a1 : List Party) : Option Bool :=
  (spec_l06Parties a1).bind fun r5 =>
  some r5
def spec_ValidParties_enc (r : Bool) : AV := .bool r
theorem spec_ValidParties_ok (a1 : List Party) (r : Bool) (h : spec_ValidParties a1 = some r) : Ev (fun k => CN k 19 [.sl none (a1.map Party.c)] []) (fun p => rRes p.2 p.1 = spec_ValidParties_enc r) := by
  unfold spec_ValidParties at h
  refine Ev.enter (F := fun k => f19 (CN k) k) (fun k => callN_eq rfl Try.func19 rfl rfl rfl (by decide +kernel) (f19_eq _ _)) ?_
  refine Ev.seq ?_
  refine Ev.reg (fun _ => rfl) ?_
  refine Ev.nxk (mvO rfl) ?_
  refine Ev.rend ?_
  intro e1 he2
  have h3 : eget e1 0 = .sl none (a1.map Party.c) := envp he2 rfl rfl
  refine Ev.kseqN ?_
  refine Ev.seq ?_
  refine Ev.reg (fun _ => rfl) ?_
  refine Ev.nxk (mvO h3) ?_
  obtain ⟨r5, hx4, h⟩ := bind_some h
  refine Ev.nxck (Ev.call (v := .bool r5) rfl (cns rfl rfl) rfl (spec_l06Parties_ok a1 _ hx4) (fun h => nomatch (show false = true from h))) ?_
  refine Ev.nxk (mvO rfl) ?_
  refine Ev.rend ?_
  intro e6 he7
  have h8 : eget e6 2 = .bool r5 := envp he7 rfl rfl
  clear h3
  refine Ev.kseqN ?_
  refine Ev.ex ?_
  cases h
  exact Ev.kendR (resT h8 res0) rfl
/-! ### loop.example/g01263/laws.szPartyS (f18) -/
abbrev laws_szPartyS_b1_S := Int × Int
abbrev laws_szPartyS_b1_R := Unit ⊕ Int
def laws_szPartyS_b1_RS (a1 : List Party) (s : laws_szPartyS_b1_S) (e : Env) (M : Mem) : Prop := eget e 0 = .sl none (a1.map Party.c) ∧ eget e 1 = .int .i64 s.1 ∧ eget e 5 = .int .i64 s.2
def laws_szPartyS_b1_RR (a1 : List Party) (r : laws_szPartyS_b1_R) (x : Ex) (e : Env) (M : Mem) : Prop :=
  match r with
  | (.inl g) => x = .ret ∧ eget e 4 = .int .i64 (-1)
  | (.inr g) => x = .ext 0 ∧ eget e 1 = .int .i64 g
noncomputable def laws_szPartyS_b1 (a1 : List Party) : laws_szPartyS_b1_S → Option (laws_szPartyS_b1_S ⊕ laws_szPartyS_b1_R) := fun (s1_1, s1_2) =>
  if (decide (s1_2 < (a1.length : Int))) = true then
    (rd a1 s1_2).bind fun x46 =>
    (laws_szParty x46 s1_1).bind fun r49 =>
    if (decide (r49 < 0)) = true then
      some (.inr (.inl ()))
    else
      some (.inl (r49, (IntKind.i64.wrap (s1_2 + 1))))
  else
    some (.inr (.inr s1_1))
theorem laws_szPartyS_b1_ok (a1 : List Party) (s : laws_szPartyS_b1_S) (r : laws_szPartyS_b1_S ⊕ laws_szPartyS_b1_R) (h : laws_szPartyS_b1 a1 s = some r) (e : Env) (M : Mem) (hs : laws_szPartyS_b1_RS a1 s e M) : Ev (fun k => (f18_l5 (CN k) k (prune [0, 1, 5] e) M).bind fun q => some q) (bQ (laws_szPartyS_b1_RS a1) (laws_szPartyS_b1_RR a1) r) := by
  obtain ⟨s1_1, s1_2⟩ := s
  unfold laws_szPartyS_b1 at h
  obtain ⟨h33, h35, h37⟩ := hs
  generalize he32 : prune [0, 1, 5] e = e31
  have h34 := envp he32.symm rfl h33
  have h36 := envp he32.symm rfl h35
  have h38 := envp he32.symm rfl h37
  refine Ev.seq ?_
  refine Ev.seq ?_
  refine Ev.reg (fun _ => rfl) ?_
  refine Ev.nxk (mvO h38) ?_
  refine Ev.nxk (mvO h34) ?_
  refine Ev.nxk (lnS Try.underlying36 rfl) ?_
  refine Ev.nxk (bLss rfl rfl) ?_
  refine Ev.rend ?_
  intro e39 he40
  have h41 : eget e39 0 = .sl none (a1.map Party.c) := envp he40 rfl h34
  have h42 : eget e39 1 = .int .i64 s1_1 := envp he40 rfl h36
  have h43 : eget e39 5 = .int .i64 s1_2 := envp he40 rfl h38
  have h44 : eget e39 15 = .bool (decide (s1_2 < (a1.length : Int))) := envp he40 rfl rfl
  clear h34 h36 h38
  refine Ev.kseqN ?_
  rcases ite_some h with ⟨hb45, h⟩ | ⟨hb45, h⟩
  · refine Ev.condT h44 hb45 ?_
    refine Ev.ex ?_
    refine Ev.kseqN ?_
    refine Ev.seq ?_
    refine Ev.blk ?_
    refine Ev.seq ?_
    refine Ev.reg (fun _ => rfl) ?_
    refine Ev.nxk (mvO h41) ?_
    refine Ev.nxk (mvO h43) ?_
    obtain ⟨x46, hx47, h⟩ := bind_some h
    refine Ev.nxk (ixS rfl rfl hx47 Party.fl) ?_
    refine Ev.nxk (ldPA rfl rfl rfl) ?_
    refine Ev.nxk (mvO h42) ?_
    obtain ⟨r49, hx48, h⟩ := bind_some h
    refine Ev.nxck (Ev.call (v := .int .i64 r49) rfl (cns rfl (cns rfl rfl)) rfl (laws_szParty_ok x46 s1_1 _ hx48) (fun h => nomatch (show false = true from h))) ?_
    refine Ev.nxk (mvO rfl) ?_
    refine Ev.rend ?_
    intro e50 he51
    have h52 : eget e50 0 = .sl none (a1.map Party.c) := envp he51 rfl h41
    have h53 : eget e50 1 = .int .i64 r49 := envp he51 rfl rfl
    have h54 : eget e50 5 = .int .i64 s1_2 := envp he51 rfl h43
    clear h41 h43 h44
    refine Ev.kseqN ?_
    refine Ev.seq ?_
    refine Ev.reg (fun _ => rfl) ?_
    refine Ev.nxk (mvO h53) ?_
    refine Ev.nxk (bLss rfl rfl) ?_
    refine Ev.rend ?_
    intro e55 he56
    have h57 : eget e55 0 = .sl none (a1.map Party.c) := envp he56 rfl h52
    have h58 : eget e55 1 = .int .i64 r49 := envp he56 rfl h53
    have h59 : eget e55 5 = .int .i64 s1_2 := envp he56 rfl h54
    have h60 : eget e55 25 = .bool (decide (r49 < 0)) := envp he56 rfl rfl
    clear h52 h53 h54
    refine Ev.kseqN ?_
    rcases ite_some h with ⟨hb61, h⟩ | ⟨hb61, h⟩
    · refine Ev.condT h60 hb61 ?_
      refine Ev.seq ?_
      refine Ev.reg (fun _ => rfl) ?_
      refine Ev.nxk (mvO rfl) ?_
      refine Ev.rend ?_
      intro e62 he63
      have h64 : eget e62 4 = .int .i64 (-1) := envp he63 rfl rfl
      clear h57 h58 h59 h60
      refine Ev.kseqN ?_
      refine Ev.ex ?_
      refine Ev.kblkR ?_
      refine Ev.kseqR ?_
      cases h
      exact Ev.kid (bQ_x (RS := (laws_szPartyS_b1_RS a1)) (RR := (laws_szPartyS_b1_RR a1)) (by intro h; cases h) (And.intro rfl h64))
    · refine Ev.condF h60 hb61 ?_
      refine Ev.ex ?_
      refine Ev.kblkN ?_
      refine Ev.kseqN ?_
      refine Ev.reg (fun _ => rfl) ?_
      refine Ev.nxk (mvO h59) ?_
      refine Ev.nxk (bAdd rfl rfl) ?_
      refine Ev.nxk (mvO rfl) ?_
      refine Ev.rend ?_
      intro e65 he66
      have h67 : eget e65 0 = .sl none (a1.map Party.c) := envp he66 rfl h57
      have h68 : eget e65 1 = .int .i64 r49 := envp he66 rfl h58
      have h69 : eget e65 5 = .int .i64 (IntKind.i64.wrap (s1_2 + 1)) := envp he66 rfl rfl
      clear h57 h58 h60
      cases h
      exact Ev.kid (bQ_n (RS := (laws_szPartyS_b1_RS a1)) (RR := (laws_szPartyS_b1_RR a1)) (And.intro h67 (And.intro h68 h69)))
  · refine Ev.condF h44 hb45 ?_
    refine Ev.ex ?_
    refine Ev.kseqE ?_
    cases h
    exact Ev.kid (bQ_x (RS := (laws_szPartyS_b1_RS a1)) (RR := (laws_szPartyS_b1_RR a1)) (by intro h; cases h) (And.intro rfl h42))
noncomputable def laws_szPartyS (a1 : List Party) (a2 : Int) : Option Int :=
  if (decide ((IntKind.i64.wrap (a2 - (a1.length : Int))) < 0)) = true then
    some (-1)
  else
    (Lw (laws_szPartyS_b1 a1) ((IntKind.i64.wrap (a2 - (a1.length : Int))), 0)).bind fun r => match r with
    | (.inl _) =>
      some (-1)
    | (.inr y78) =>
      some y78
def laws_szPartyS_enc (r : Int) : AV := .int .i64 r
theorem laws_szPartyS_ok (a1 : List Party) (a2 : Int) (r : Int) (h : laws_szPartyS a1 a2 = some r) : Ev (fun k => CN k 18 [.sl none (a1.map Party.c), .int .i64 a2] []) (fun p => rRes p.2 p.1 = laws_szPartyS_enc r) := by
  unfold laws_szPartyS at h
  refine Ev.enter (F := fun k => f18 (CN k) k) (fun k => callN_eq rfl Try.func18 rfl rfl rfl (by decide +kernel) (f18_eq _ _)) ?_
  refine Ev.seq ?_
  refine Ev.reg (fun _ => rfl) ?_
  refine Ev.nxk (mvO rfl) ?_
  refine Ev.rend ?_
  intro e1 he2
  have h3 : eget e1 0 = .sl none (a1.map Party.c) := envp he2 rfl rfl
  have h4 : eget e1 1 = .int .i64 a2 := envp he2 rfl rfl
  refine Ev.kseqN ?_
  refine Ev.seq ?_
  refine Ev.reg (fun _ => rfl) ?_
  refine Ev.nxk (mvO h4) ?_
  refine Ev.nxk (mvO h3) ?_
  refine Ev.nxk (lnS Try.underlying36 rfl) ?_
  refine Ev.nxk (bSub rfl rfl) ?_
  refine Ev.nxk (mvO rfl) ?_
  refine Ev.rend ?_
  intro e5 he6
  have h7 : eget e5 0 = .sl none (a1.map Party.c) := envp he6 rfl h3
  have h8 : eget e5 1 = .int .i64 (IntKind.i64.wrap (a2 - (a1.length : Int))) := envp he6 rfl rfl
  clear h3
  refine Ev.kseqN ?_
  refine Ev.seq ?_
  refine Ev.seq ?_
  refine Ev.reg (fun _ => rfl) ?_
  refine Ev.nxk (mvO h8) ?_
  refine Ev.nxk (bLss rfl rfl) ?_
  refine Ev.rend ?_
  intro e9 he10
  have h11 : eget e9 0 = .sl none (a1.map Party.c) := envp he10 rfl h7
  have h12 : eget e9 1 = .int .i64 (IntKind.i64.wrap (a2 - (a1.length : Int))) := envp he10 rfl h8
  have h13 : eget e9 11 = .bool (decide ((IntKind.i64.wrap (a2 - (a1.length : Int))) < 0)) := envp he10 rfl rfl
  clear h7 h8
  refine Ev.kseqN ?_
  rcases ite_some h with ⟨hb14, h⟩ | ⟨hb14, h⟩
  · refine Ev.condT h13 hb14 ?_
    refine Ev.seq ?_
    refine Ev.reg (fun _ => rfl) ?_
    refine Ev.nxk (mvO rfl) ?_
    refine Ev.rend ?_
    intro e15 he16
    have h17 : eget e15 4 = .int .i64 (-1) := envp he16 rfl rfl
    clear h11 h12 h13
    refine Ev.kseqN ?_
    refine Ev.ex ?_
    refine Ev.kseqR ?_
    cases h
    exact Ev.kendR (resT h17 res0) rfl
  · refine Ev.condF h13 hb14 ?_
    refine Ev.ex ?_
    refine Ev.kseqN ?_
    refine Ev.seq ?_
    refine Ev.seq ?_
    refine Ev.reg (fun _ => rfl) ?_
    refine Ev.nxk (mvO rfl) ?_
    refine Ev.rend ?_
    intro e18 he19
    have h20 : eget e18 0 = .sl none (a1.map Party.c) := envp he19 rfl h11
    have h21 : eget e18 1 = .int .i64 (IntKind.i64.wrap (a2 - (a1.length : Int))) := envp he19 rfl h12
    have h22 : eget e18 5 = .int .i64 0 := envp he19 rfl rfl
    clear h11 h12 h13
    refine Ev.kseqN ?_
    refine Ev.blk ?_
    obtain ⟨r70, hr71, h⟩ := bind_some h
    rcases r70 with _ | y78
    · refine Ev.loop (RS := laws_szPartyS_b1_RS a1) (RR := laws_szPartyS_b1_RR a1) (fun s r h e M hs => laws_szPartyS_b1_ok a1 s r h e M hs) hr71 (And.intro h20 (And.intro h21 h22)) ?_
      intro x e73 M74 hq72
      obtain ⟨rfl, h75⟩ := hq72
      refine Ev.kblkR ?_
      refine Ev.kseqR ?_
      cases h
      exact Ev.kendR (resT h75 res0) rfl
    · refine Ev.loop (RS := laws_szPartyS_b1_RS a1) (RR := laws_szPartyS_b1_RR a1) (fun s r h e M hs => laws_szPartyS_b1_ok a1 s r h e M hs) hr71 (And.intro h20 (And.intro h21 h22)) ?_
      intro x e76 M77 hq72
      obtain ⟨rfl, h79⟩ := hq72
      refine Ev.kblkE ?_
      refine Ev.kseqN ?_
      refine Ev.seq ?_
      refine Ev.reg (fun _ => rfl) ?_
      refine Ev.nxk (mvO h79) ?_
      refine Ev.nxk (mvO rfl) ?_
      refine Ev.rend ?_
      intro e80 he81
      have h82 : eget e80 4 = .int .i64 y78 := envp he81 rfl rfl
      clear h79
      refine Ev.kseqN ?_
      refine Ev.ex ?_
      cases h
      exact Ev.kendR (resT h82 res0) rfl
/-! ### loop.example/g01263/laws.FnExactValidParties (f5) -/
noncomputable def laws_FnExactValidParties (a1 : List Party) : Option Bool :=
  (laws_szPartyS a1 1048576).bind fun r9 =>
  if (decide (r9 < 0)) = true then
    some true
  else
    (laws_toPartyS a1).bind fun r23 =>
    (spec_ValidParties r23).bind fun r25 =>
    (laws_toPartyS a1).bind fun r31 =>
    (impl_ValidParties r31).bind fun r38 =>
    if (r38 == r25) = true then
      (laws_toPartyS a1).bind fun r52 =>
      (laws_eqPartyS r31 r52).bind fun r54 =>
      if r54 = true then
        some true
      else
        some false
    else
      some false
def laws_FnExactValidParties_enc (r : Bool) : AV := .bool r
theorem laws_FnExactValidParties_ok (a1 : List Party) (r : Bool) (h : laws_FnExactValidParties a1 = some r) : Ev (fun k => CN k 5 [.sl none (a1.map Party.c)] []) (fun p => rRes p.2 p.1 = laws_FnExactValidParties_enc r) := by
  unfold laws_FnExactValidParties at h
  refine Ev.enter (F := fun k => f5 (CN k) k) (fun k => callN_eq rfl Try.func5 rfl rfl rfl (by decide +kernel) (f5_eq _ _)) ?_
  refine Ev.seq ?_
  refine Ev.reg (fun _ => rfl) ?_
  refine Ev.nxk (mvO rfl) ?_
  refine Ev.rend ?_
  intro e1 he2
  have h3 : eget e1 0 = .sl none (a1.map Party.c) := envp he2 rfl rfl
  refine Ev.kseqN ?_
  refine Ev.seq ?_
  refine Ev.reg (fun _ => rfl) ?_
  refine Ev.nxk (mvO rfl) ?_
  refine Ev.rend ?_
  intro e4 he5
  have h6 : eget e4 0 = .sl none (a1.map Party.c) := envp he5 rfl h3
  have h7 : eget e4 3 = .int .i64 1048576 := envp he5 rfl rfl
  clear h3
  refine Ev.kseqN ?_
  refine Ev.seq ?_
  refine Ev.reg (fun _ => rfl) ?_
  refine Ev.nxk (mvO h6) ?_
  refine Ev.nxk (mvO h7) ?_
  obtain ⟨r9, hx8, h⟩ := bind_some h
  refine Ev.nxck (Ev.call (v := .int .i64 r9) rfl (cns rfl (cns rfl rfl)) rfl (laws_szPartyS_ok a1 1048576 _ hx8) (fun h => nomatch (show false = true from h))) ?_
  refine Ev.nxk (mvO rfl) ?_
  refine Ev.rend ?_
  intro e10 he11
  have h12 : eget e10 0 = .sl none (a1.map Party.c) := envp he11 rfl h6
  have h13 : eget e10 3 = .int .i64 r9 := envp he11 rfl rfl
  clear h6
  refine Ev.kseqN ?_
  refine Ev.seq ?_
  refine Ev.seq ?_
  refine Ev.reg (fun _ => rfl) ?_
  refine Ev.nxk (mvO h13) ?_
  refine Ev.nxk (bLss rfl rfl) ?_
  refine Ev.rend ?_
  intro e14 he15
  have h16 : eget e14 0 = .sl none (a1.map Party.c) := envp he15 rfl h12
  have h17 : eget e14 11 = .bool (decide (r9 < 0)) := envp he15 rfl rfl
  clear h12 h13
  refine Ev.kseqN ?_
  rcases ite_some h with ⟨hb18, h⟩ | ⟨hb18, h⟩
  · refine Ev.condT h17 hb18 ?_
    refine Ev.seq ?_
    refine Ev.reg (fun _ => rfl) ?_
    refine Ev.nxk (mvO rfl) ?_
    refine Ev.rend ?_
    intro e19 he20
    have h21 : eget e19 2 = .bool true := envp he20 rfl rfl
    clear h16 h17
    refine Ev.kseqN ?_
    refine Ev.ex ?_
    refine Ev.kseqR ?_
    cases h
    exact Ev.kendR (resT h21 res0) rfl
  · refine Ev.condF h17 hb18 ?_
    refine Ev.ex ?_
    refine Ev.kseqN ?_
    refine Ev.seq ?_
    refine Ev.reg (fun _ => rfl) ?_
    refine Ev.nxk (mvO h16) ?_
    obtain ⟨r23, hx22, h⟩ := bind_some h
    refine Ev.nxck (Ev.call (v := .sl (some 69) (r23.map Party.c)) rfl (cns rfl rfl) rfl (laws_toPartyS_ok a1 _ hx22) (fun h => nomatch (show false = true from h))) ?_
    obtain ⟨r25, hx24, h⟩ := bind_some h
    refine Ev.nxck (Ev.call (v := .bool r25) rfl (cns rfl rfl) rfl (spec_ValidParties_ok r23 _ hx24) (fun h => nomatch (show false = true from h))) ?_
    refine Ev.nxk (mvO rfl) ?_
    refine Ev.rend ?_
    intro e26 he27
    have h28 : eget e26 0 = .sl none (a1.map Party.c) := envp he27 rfl h16
    have h29 : eget e26 4 = .bool r25 := envp he27 rfl rfl
    clear h16 h17
    refine Ev.kseqN ?_
    refine Ev.seq ?_
    refine Ev.reg (fun _ => rfl) ?_
    refine Ev.nxk (mvO h28) ?_
    obtain ⟨r31, hx30, h⟩ := bind_some h
    refine Ev.nxck (Ev.call (v := .sl (some 69) (r31.map Party.c)) rfl (cns rfl rfl) rfl (laws_toPartyS_ok a1 _ hx30) (fun h => nomatch (show false = true from h))) ?_
    refine Ev.nxk (mvO rfl) ?_
    refine Ev.rend ?_
    intro e32 he33
    have h34 : eget e32 0 = .sl none (a1.map Party.c) := envp he33 rfl h28
    have h35 : eget e32 4 = .bool r25 := envp he33 rfl h29
    have h36 : eget e32 5 = .sl (some 69) (r31.map Party.c) := envp he33 rfl rfl
    clear h28 h29
    refine Ev.kseqN ?_
    refine Ev.seq ?_
    refine Ev.reg (fun _ => rfl) ?_
    refine Ev.nxk (mvO h36) ?_
    obtain ⟨r38, hx37, h⟩ := bind_some h
    refine Ev.nxck (Ev.call (v := .bool r38) rfl (cns rfl rfl) rfl (impl_ValidParties_ok r31 _ hx37) (fun h => nomatch (show false = true from h))) ?_
    refine Ev.nxk (mvO rfl) ?_
    refine Ev.rend ?_
    intro e39 he40
    have h41 : eget e39 0 = .sl none (a1.map Party.c) := envp he40 rfl h34
    have h42 : eget e39 4 = .bool r25 := envp he40 rfl h35
    have h43 : eget e39 5 = .sl (some 69) (r31.map Party.c) := envp he40 rfl h36
    have h44 : eget e39 6 = .bool r38 := envp he40 rfl rfl
    clear h34 h35 h36
    refine Ev.kseqN ?_
    refine Ev.seq ?_
    refine Ev.seq ?_
    refine Ev.reg (fun _ => rfl) ?_
    refine Ev.nxk (mvO h44) ?_
    refine Ev.nxk (mvO h42) ?_
    refine Ev.nxk (oNeq (by kernel_rfl) rfl rfl) ?_
    refine Ev.rend ?_
    intro e45 he46
    have h47 : eget e45 0 = .sl none (a1.map Party.c) := envp he46 rfl h41
    have h48 : eget e45 5 = .sl (some 69) (r31.map Party.c) := envp he46 rfl h43
    have h49 : eget e45 21 = .bool (!(r38 == r25)) := envp he46 rfl rfl
    clear h41 h42 h43 h44
    refine Ev.kseqN ?_
    rcases ite_some h with ⟨hb50, h⟩ | ⟨hb50, h⟩
    · refine Ev.condF h49 (congrArg Bool.not hb50) ?_
      refine Ev.ex ?_
      refine Ev.kseqN ?_
      refine Ev.seq ?_
      refine Ev.seq ?_
      refine Ev.reg (fun _ => rfl) ?_
      refine Ev.nxk (mvO h48) ?_
      refine Ev.nxk (mvO h47) ?_
      obtain ⟨r52, hx51, h⟩ := bind_some h
      refine Ev.nxck (Ev.call (v := .sl (some 69) (r52.map Party.c)) rfl (cns rfl rfl) rfl (laws_toPartyS_ok a1 _ hx51) (fun h => nomatch (show false = true from h))) ?_
      obtain ⟨r54, hx53, h⟩ := bind_some h
      refine Ev.nxck (Ev.call (v := .bool r54) rfl (cns rfl (cns rfl rfl)) rfl (laws_eqPartyS_ok r31 r52 _ hx53) (fun h => nomatch (show false = true from h))) ?_
      refine Ev.nxk (uNot rfl) ?_
      refine Ev.rend ?_
      intro e55 he56
      have h57 : eget e55 26 = .bool (!r54) := envp he56 rfl rfl
      clear h47 h48 h49
      refine Ev.kseqN ?_
      rcases ite_some h with ⟨hb58, h⟩ | ⟨hb58, h⟩
      · refine Ev.condF h57 (congrArg Bool.not hb58) ?_
        refine Ev.ex ?_
        refine Ev.kseqN ?_
        refine Ev.seq ?_
        refine Ev.reg (fun _ => rfl) ?_
        refine Ev.nxk (mvO rfl) ?_
        refine Ev.rend ?_
        intro e59 he60
        have h61 : eget e59 2 = .bool true := envp he60 rfl rfl
        clear h57
        refine Ev.kseqN ?_
        refine Ev.ex ?_
        cases h
        exact Ev.kendR (resT h61 res0) rfl
      · refine Ev.condT h57 (congrArg Bool.not hb58) ?_
        refine Ev.seq ?_
        refine Ev.reg (fun _ => rfl) ?_
        refine Ev.nxk (mvO rfl) ?_
        refine Ev.rend ?_
        intro e62 he63
        have h64 : eget e62 2 = .bool false := envp he63 rfl rfl
        clear h57
        refine Ev.kseqN ?_
        refine Ev.ex ?_
        refine Ev.kseqR ?_
        cases h
        exact Ev.kendR (resT h64 res0) rfl
    · refine Ev.condT h49 (congrArg Bool.not hb50) ?_
      refine Ev.seq ?_
      refine Ev.reg (fun _ => rfl) ?_
      refine Ev.nxk (mvO rfl) ?_
      refine Ev.rend ?_
      intro e65 he66
      have h67 : eget e65 2 = .bool false := envp he66 rfl rfl
      clear h47 h48 h49
      refine Ev.kseqN ?_
      refine Ev.ex ?_
      refine Ev.kseqR ?_
      cases h
      exact Ev.kendR (resT h67 res0) rfl
end Go.Proofs.Ytaocojognonkcaa

/- Printed by a program of ours (ext.py). -/
import Derived.Test.YtfabokkhdalbeabFnsHoldsNow
set_option linter.unusedVariables false
set_option maxRecDepth 100000
set_option maxHeartbeats 2000000
namespace Go.Proofs.Ytfabokkhdalbeab
open Go Go.Ab
structure Tally where
  Debtor : Int
  Holder : Int
  Cut : Int
  Amount : Int
  Left : Int
  deriving DecidableEq
def Tally.c (x : Tally) : List AV := [.int .i64 x.Debtor, .int .i64 x.Holder, .int .i64 x.Cut, .int .i64 x.Amount, .int .i64 x.Left]
theorem Tally.fl : Fl Tally.c 5 := fun _ => ⟨rfl, rfl⟩
theorem Tally.flF : FlF Tally.c := fun _ => rfl
structure Book where
  Day : Int
  Cash : List Int
  Tallies : List Tally
  deriving DecidableEq
def Book.c (x : Book) : List AV := [.int .i64 x.Day, .sl none (x.Cash.map (cI .i64)), .sl none (x.Tallies.map Tally.c)]
theorem Book.fl : Fl Book.c 3 := fun _ => ⟨rfl, rfl⟩
theorem co2 : cx.P.cellsOf 2 = 1 := by kernel_rfl
theorem co78 : cx.P.cellsOf 78 = 5 := by kernel_rfl
theorem zero2 : zeroOf cx.P 2 = [.int .i64 0] := by kernel_rfl
theorem zero31 : zeroOf cx.P 31 = [.int .i64 0, .nils, .nils] := by kernel_rfl
theorem zero78 : zeroOf cx.P 78 = [.int .i64 0, .int .i64 0, .int .i64 0, .int .i64 0, .int .i64 0] := by kernel_rfl
/-! ### loop.example/g01263/spec.l00In (f65) -/
noncomputable def spec_l00In (a1 : Int) (a2 : Int) (a3 : Int) : Option Bool :=
  if (decide (a1 ≥ a2)) = true then
    some (decide (a1 ≤ a3))
  else
    some false
def spec_l00In_enc (r : Bool) : AV := .bool r
theorem spec_l00In_ok (a1 : Int) (a2 : Int) (a3 : Int) (r : Bool) (h : spec_l00In a1 a2 a3 = some r) : Ev (fun k => CN k 65 [.int .i64 a1, .int .i64 a2, .int .i64 a3] []) (fun p => rRes p.2 p.1 = spec_l00In_enc r) := by
  unfold spec_l00In at h
  refine Ev.enter (F := fun k => f65 (CN k) k) (fun k => callN_eq rfl Try.func65 rfl rfl rfl (by decide +kernel) (f65_eq _ _)) ?_
  refine Ev.seq ?_
  refine Ev.reg (fun _ => rfl) ?_
  refine Ev.nxk (mvO rfl) ?_
  refine Ev.rend ?_
  intro e1 he2
  have h3 : eget e1 0 = .int .i64 a1 := envp he2 rfl rfl
  have h4 : eget e1 1 = .int .i64 a2 := envp he2 rfl rfl
  have h5 : eget e1 2 = .int .i64 a3 := envp he2 rfl rfl
  refine Ev.kseqN ?_
  refine Ev.seq ?_
  refine Ev.reg (fun _ => rfl) ?_
  refine Ev.nxk (mvO h3) ?_
  refine Ev.nxk (mvO h4) ?_
  refine Ev.nxk (bGeq rfl rfl) ?_
  refine Ev.nxk (mvO rfl) ?_
  rcases ite_some h with ⟨hb6, h⟩ | ⟨hb6, h⟩
  · refine Ev.nxk (guT rfl hb6 (mvO h3)) ?_
    refine Ev.nxk (guT rfl hb6 (mvO h5)) ?_
    refine Ev.nxk (guT rfl hb6 (bLeq rfl rfl)) ?_
    refine Ev.nxk (pkT rfl hb6 rfl) ?_
    refine Ev.nxk (mvO rfl) ?_
    refine Ev.rend ?_
    intro e7 he8
    have h9 : eget e7 6 = .bool (decide (a1 ≤ a3)) := envp he8 rfl rfl
    clear h3 h4 h5
    refine Ev.kseqN ?_
    refine Ev.ex ?_
    cases h
    exact Ev.kendR (resT h9 res0) rfl
  · refine Ev.nxk (gsT rfl hb6) ?_
    refine Ev.nxk (gsT rfl hb6) ?_
    refine Ev.nxk (gsT rfl hb6) ?_
    refine Ev.nxk (pkF rfl hb6 rfl) ?_
    refine Ev.nxk (mvO rfl) ?_
    refine Ev.rend ?_
    intro e10 he11
    have h12 : eget e10 6 = .bool false := envp he11 rfl rfl
    clear h3 h4 h5
    refine Ev.kseqN ?_
    refine Ev.ex ?_
    cases h
    exact Ev.kendR (resT h12 res0) rfl
/-! ### loop.example/g01263/spec.l01Amount (f99) -/
noncomputable def spec_l01Amount (a1 : Int) : Option Bool :=
  (spec_l00In a1 0 100000000).bind fun r5 =>
  some r5
def spec_l01Amount_enc (r : Bool) : AV := .bool r
theorem spec_l01Amount_ok (a1 : Int) (r : Bool) (h : spec_l01Amount a1 = some r) : Ev (fun k => CN k 99 [.int .i64 a1] []) (fun p => rRes p.2 p.1 = spec_l01Amount_enc r) := by
  unfold spec_l01Amount at h
  refine Ev.enter (F := fun k => f99 (CN k) k) (fun k => callN_eq rfl Try.func99 rfl rfl rfl (by decide +kernel) (f99_eq _ _)) ?_
  refine Ev.seq ?_
  refine Ev.reg (fun _ => rfl) ?_
  refine Ev.nxk (mvO rfl) ?_
  refine Ev.rend ?_
  intro e1 he2
  have h3 : eget e1 0 = .int .i64 a1 := envp he2 rfl rfl
  refine Ev.kseqN ?_
  refine Ev.seq ?_
  refine Ev.reg (fun _ => rfl) ?_
  refine Ev.nxk (mvO h3) ?_
  obtain ⟨r5, hx4, h⟩ := bind_some h
  refine Ev.nxck (Ev.call (v := .bool r5) rfl (cns rfl (cns rfl (cns rfl rfl))) rfl (spec_l00In_ok a1 0 100000000 _ hx4) (fun h => nomatch (show false = true from h))) ?_
  refine Ev.nxk (mvO rfl) ?_
  refine Ev.rend ?_
  intro e6 he7
  have h8 : eget e6 2 = .bool r5 := envp he7 rfl rfl
  clear h3
  refine Ev.kseqN ?_
  refine Ev.ex ?_
  cases h
  exact Ev.kendR (resT h8 res0) rfl
/-! ### loop.example/g01263/impl.isAmount (f84) -/
noncomputable def impl_isAmount (a1 : Int) : Option Bool :=
  if (decide (a1 ≥ 0)) = true then
    some (decide (a1 ≤ 100000000))
  else
    some false
def impl_isAmount_enc (r : Bool) : AV := .bool r
theorem impl_isAmount_ok (a1 : Int) (r : Bool) (h : impl_isAmount a1 = some r) : Ev (fun k => CN k 84 [.int .i64 a1] []) (fun p => rRes p.2 p.1 = impl_isAmount_enc r) := by
  unfold impl_isAmount at h
  refine Ev.enter (F := fun k => f84 (CN k) k) (fun k => callN_eq rfl Try.func84 rfl rfl rfl (by decide +kernel) (f84_eq _ _)) ?_
  refine Ev.seq ?_
  refine Ev.reg (fun _ => rfl) ?_
  refine Ev.nxk (mvO rfl) ?_
  refine Ev.rend ?_
  intro e1 he2
  have h3 : eget e1 0 = .int .i64 a1 := envp he2 rfl rfl
  refine Ev.kseqN ?_
  refine Ev.seq ?_
  refine Ev.reg (fun _ => rfl) ?_
  refine Ev.nxk (mvO h3) ?_
  refine Ev.nxk (bGeq rfl rfl) ?_
  refine Ev.nxk (mvO rfl) ?_
  rcases ite_some h with ⟨hb4, h⟩ | ⟨hb4, h⟩
  · refine Ev.nxk (guT rfl hb4 (mvO h3)) ?_
    refine Ev.nxk (guT rfl hb4 (bLeq rfl rfl)) ?_
    refine Ev.nxk (pkT rfl hb4 rfl) ?_
    refine Ev.nxk (mvO rfl) ?_
    refine Ev.rend ?_
    intro e5 he6
    have h7 : eget e5 2 = .bool (decide (a1 ≤ 100000000)) := envp he6 rfl rfl
    clear h3
    refine Ev.kseqN ?_
    refine Ev.ex ?_
    cases h
    exact Ev.kendR (resT h7 res0) rfl
  · refine Ev.nxk (gsT rfl hb4) ?_
    refine Ev.nxk (gsT rfl hb4) ?_
    refine Ev.nxk (pkF rfl hb4 rfl) ?_
    refine Ev.nxk (mvO rfl) ?_
    refine Ev.rend ?_
    intro e8 he9
    have h10 : eget e8 2 = .bool false := envp he9 rfl rfl
    clear h3
    refine Ev.kseqN ?_
    refine Ev.ex ?_
    cases h
    exact Ev.kendR (resT h10 res0) rfl
/-! ### loop.example/g01263/impl.isBookDay (f83) -/
noncomputable def impl_isBookDay (a1 : Int) : Option Bool :=
  if (decide (a1 ≥ 0)) = true then
    some (decide (a1 ≤ 100000))
  else
    some false
def impl_isBookDay_enc (r : Bool) : AV := .bool r
theorem impl_isBookDay_ok (a1 : Int) (r : Bool) (h : impl_isBookDay a1 = some r) : Ev (fun k => CN k 83 [.int .i64 a1] []) (fun p => rRes p.2 p.1 = impl_isBookDay_enc r) := by
  unfold impl_isBookDay at h
  refine Ev.enter (F := fun k => f83 (CN k) k) (fun k => callN_eq rfl Try.func83 rfl rfl rfl (by decide +kernel) (f83_eq _ _)) ?_
  refine Ev.seq ?_
  refine Ev.reg (fun _ => rfl) ?_
  refine Ev.nxk (mvO rfl) ?_
  refine Ev.rend ?_
  intro e1 he2
  have h3 : eget e1 0 = .int .i64 a1 := envp he2 rfl rfl
  refine Ev.kseqN ?_
  refine Ev.seq ?_
  refine Ev.reg (fun _ => rfl) ?_
  refine Ev.nxk (mvO h3) ?_
  refine Ev.nxk (bGeq rfl rfl) ?_
  refine Ev.nxk (mvO rfl) ?_
  rcases ite_some h with ⟨hb4, h⟩ | ⟨hb4, h⟩
  · refine Ev.nxk (guT rfl hb4 (mvO h3)) ?_
    refine Ev.nxk (guT rfl hb4 (bLeq rfl rfl)) ?_
    refine Ev.nxk (pkT rfl hb4 rfl) ?_
    refine Ev.nxk (mvO rfl) ?_
    refine Ev.rend ?_
    intro e5 he6
    have h7 : eget e5 2 = .bool (decide (a1 ≤ 100000)) := envp he6 rfl rfl
    clear h3
    refine Ev.kseqN ?_
    refine Ev.ex ?_
    cases h
    exact Ev.kendR (resT h7 res0) rfl
  · refine Ev.nxk (gsT rfl hb4) ?_
    refine Ev.nxk (gsT rfl hb4) ?_
    refine Ev.nxk (pkF rfl hb4 rfl) ?_
    refine Ev.nxk (mvO rfl) ?_
    refine Ev.rend ?_
    intro e8 he9
    have h10 : eget e8 2 = .bool false := envp he9 rfl rfl
    clear h3
    refine Ev.kseqN ?_
    refine Ev.ex ?_
    cases h
    exact Ev.kendR (resT h10 res0) rfl
/-! ### loop.example/g01263/spec.l07Cash (f82) -/
abbrev spec_l07Cash_b1_S := Int
abbrev spec_l07Cash_b1_R := Unit ⊕ Unit
def spec_l07Cash_b1_RS (a1 : List Int) (s : spec_l07Cash_b1_S) (e : Env) (M : Mem) : Prop := eget e 0 = .sl none (a1.map (cI .i64)) ∧ eget e 3 = .int .i64 s
def spec_l07Cash_b1_RR (a1 : List Int) (r : spec_l07Cash_b1_R) (x : Ex) (e : Env) (M : Mem) : Prop :=
  match r with
  | (.inl g) => x = .ret ∧ eget e 2 = .bool false
  | (.inr g) => x = .ext 0 ∧ eget e 0 = .sl none (a1.map (cI .i64))
noncomputable def spec_l07Cash_b1 (a1 : List Int) : spec_l07Cash_b1_S → Option (spec_l07Cash_b1_S ⊕ spec_l07Cash_b1_R) := fun s1_1 =>
  if (decide (s1_1 < (a1.length : Int))) = true then
    (rd a1 s1_1).bind fun x26 =>
    (spec_l01Amount x26).bind fun r29 =>
    if r29 = true then
      some (.inl (IntKind.i64.wrap (s1_1 + 1)))
    else
      some (.inr (.inl ()))
  else
    some (.inr (.inr ()))
theorem spec_l07Cash_b1_ok (a1 : List Int) (s : spec_l07Cash_b1_S) (r : spec_l07Cash_b1_S ⊕ spec_l07Cash_b1_R) (h : spec_l07Cash_b1 a1 s = some r) (e : Env) (M : Mem) (hs : spec_l07Cash_b1_RS a1 s e M) : Ev (fun k => (f82_l2 (CN k) k (prune [0, 3] e) M).bind fun q => some q) (bQ (spec_l07Cash_b1_RS a1) (spec_l07Cash_b1_RR a1) r) := by
  revert h hs
  revert s
  intro s1_1 h hs
  unfold spec_l07Cash_b1 at h
  obtain ⟨h16, h18⟩ := hs
  generalize he15 : prune [0, 3] e = e14
  have h17 := envp he15.symm rfl h16
  have h19 := envp he15.symm rfl h18
  refine Ev.seq ?_
  refine Ev.seq ?_
  refine Ev.reg (fun _ => rfl) ?_
  refine Ev.nxk (mvO h19) ?_
  refine Ev.nxk (mvO h17) ?_
  refine Ev.nxk (lnS Try.underlying22 rfl) ?_
  refine Ev.nxk (bLss rfl rfl) ?_
  refine Ev.rend ?_
  intro e20 he21
  have h22 : eget e20 0 = .sl none (a1.map (cI .i64)) := envp he21 rfl h17
  have h23 : eget e20 3 = .int .i64 s1_1 := envp he21 rfl h19
  have h24 : eget e20 7 = .bool (decide (s1_1 < (a1.length : Int))) := envp he21 rfl rfl
  clear h17 h19
  refine Ev.kseqN ?_
  rcases ite_some h with ⟨hb25, h⟩ | ⟨hb25, h⟩
  · refine Ev.condT h24 hb25 ?_
    refine Ev.ex ?_
    refine Ev.kseqN ?_
    refine Ev.seq ?_
    refine Ev.blk ?_
    refine Ev.seq ?_
    refine Ev.reg (fun _ => rfl) ?_
    refine Ev.nxk (mvO h22) ?_
    refine Ev.nxk (mvO h23) ?_
    obtain ⟨x26, hx27, h⟩ := bind_some h
    refine Ev.nxk (ixS rfl rfl hx27 (cI_fl _)) ?_
    refine Ev.nxk (ldP rfl rfl) ?_
    obtain ⟨r29, hx28, h⟩ := bind_some h
    refine Ev.nxck (Ev.call (v := .bool r29) rfl (cns rfl rfl) rfl (spec_l01Amount_ok x26 _ hx28) (fun h => nomatch (show false = true from h))) ?_
    refine Ev.nxk (uNot rfl) ?_
    refine Ev.rend ?_
    intro e30 he31
    have h32 : eget e30 0 = .sl none (a1.map (cI .i64)) := envp he31 rfl h22
    have h33 : eget e30 3 = .int .i64 s1_1 := envp he31 rfl h23
    have h34 : eget e30 15 = .bool (!r29) := envp he31 rfl rfl
    clear h22 h23 h24
    refine Ev.kseqN ?_
    rcases ite_some h with ⟨hb35, h⟩ | ⟨hb35, h⟩
    · refine Ev.condF h34 (congrArg Bool.not hb35) ?_
      refine Ev.ex ?_
      refine Ev.kblkN ?_
      refine Ev.kseqN ?_
      refine Ev.reg (fun _ => rfl) ?_
      refine Ev.nxk (mvO h33) ?_
      refine Ev.nxk (bAdd rfl rfl) ?_
      refine Ev.nxk (mvO rfl) ?_
      refine Ev.rend ?_
      intro e36 he37
      have h38 : eget e36 0 = .sl none (a1.map (cI .i64)) := envp he37 rfl h32
      have h39 : eget e36 3 = .int .i64 (IntKind.i64.wrap (s1_1 + 1)) := envp he37 rfl rfl
      clear h32 h34
      cases h
      exact Ev.kid (bQ_n (RS := (spec_l07Cash_b1_RS a1)) (RR := (spec_l07Cash_b1_RR a1)) (And.intro h38 h39))
    · refine Ev.condT h34 (congrArg Bool.not hb35) ?_
      refine Ev.seq ?_
      refine Ev.reg (fun _ => rfl) ?_
      refine Ev.nxk (mvO rfl) ?_
      refine Ev.rend ?_
      intro e40 he41
      have h42 : eget e40 2 = .bool false := envp he41 rfl rfl
      clear h32 h33 h34
      refine Ev.kseqN ?_
      refine Ev.ex ?_
      refine Ev.kblkR ?_
      refine Ev.kseqR ?_
      cases h
      exact Ev.kid (bQ_x (RS := (spec_l07Cash_b1_RS a1)) (RR := (spec_l07Cash_b1_RR a1)) (by intro h; cases h) (And.intro rfl h42))
  · refine Ev.condF h24 hb25 ?_
    refine Ev.ex ?_
    refine Ev.kseqE ?_
    cases h
    exact Ev.kid (bQ_x (RS := (spec_l07Cash_b1_RS a1)) (RR := (spec_l07Cash_b1_RR a1)) (by intro h; cases h) (And.intro rfl h22))
noncomputable def spec_l07Cash (a1 : List Int) : Option Bool :=
  (Lw (spec_l07Cash_b1 a1) 0).bind fun r => match r with
  | (.inl _) =>
    some false
  | (.inr _) =>
    (spec_l00In (a1.length : Int) 1 16).bind fun r53 =>
    some r53
def spec_l07Cash_enc (r : Bool) : AV := .bool r
theorem spec_l07Cash_ok (a1 : List Int) (r : Bool) (h : spec_l07Cash a1 = some r) : Ev (fun k => CN k 82 [.sl none (a1.map (cI .i64))] []) (fun p => rRes p.2 p.1 = spec_l07Cash_enc r) := by
  unfold spec_l07Cash at h
  refine Ev.enter (F := fun k => f82 (CN k) k) (fun k => callN_eq rfl Try.func82 rfl rfl rfl (by decide +kernel) (f82_eq _ _)) ?_
  refine Ev.seq ?_
  refine Ev.reg (fun _ => rfl) ?_
  refine Ev.nxk (mvO rfl) ?_
  refine Ev.rend ?_
  intro e1 he2
  have h3 : eget e1 0 = .sl none (a1.map (cI .i64)) := envp he2 rfl rfl
  refine Ev.kseqN ?_
  refine Ev.seq ?_
  refine Ev.seq ?_
  refine Ev.reg (fun _ => rfl) ?_
  refine Ev.nxk (mvO rfl) ?_
  refine Ev.rend ?_
  intro e4 he5
  have h6 : eget e4 0 = .sl none (a1.map (cI .i64)) := envp he5 rfl h3
  have h7 : eget e4 3 = .int .i64 0 := envp he5 rfl rfl
  clear h3
  refine Ev.kseqN ?_
  refine Ev.blk ?_
  obtain ⟨r43, hr44, h⟩ := bind_some h
  rcases r43 with _ | _
  · refine Ev.loop (RS := spec_l07Cash_b1_RS a1) (RR := spec_l07Cash_b1_RR a1) (fun s r h e M hs => spec_l07Cash_b1_ok a1 s r h e M hs) hr44 (And.intro h6 h7) ?_
    intro x e46 M47 hq45
    obtain ⟨rfl, h48⟩ := hq45
    refine Ev.kblkR ?_
    refine Ev.kseqR ?_
    cases h
    exact Ev.kendR (resT h48 res0) rfl
  · refine Ev.loop (RS := spec_l07Cash_b1_RS a1) (RR := spec_l07Cash_b1_RR a1) (fun s r h e M hs => spec_l07Cash_b1_ok a1 s r h e M hs) hr44 (And.intro h6 h7) ?_
    intro x e49 M50 hq45
    obtain ⟨rfl, h51⟩ := hq45
    refine Ev.kblkE ?_
    refine Ev.kseqN ?_
    refine Ev.seq ?_
    refine Ev.reg (fun _ => rfl) ?_
    refine Ev.nxk (mvO h51) ?_
    refine Ev.nxk (lnS Try.underlying22 rfl) ?_
    obtain ⟨r53, hx52, h⟩ := bind_some h
    refine Ev.nxck (Ev.call (v := .bool r53) rfl (cns rfl (cns rfl (cns rfl rfl))) rfl (spec_l00In_ok (a1.length : Int) 1 16 _ hx52) (fun h => nomatch (show false = true from h))) ?_
    refine Ev.nxk (mvO rfl) ?_
    refine Ev.rend ?_
    intro e54 he55
    have h56 : eget e54 2 = .bool r53 := envp he55 rfl rfl
    clear h51
    refine Ev.kseqN ?_
    refine Ev.ex ?_
    cases h
    exact Ev.kendR (resT h56 res0) rfl
/-! ### loop.example/g01263/spec.l07Day (f81) -/
noncomputable def spec_l07Day (a1 : Int) : Option Bool :=
  (spec_l00In a1 0 100000).bind fun r5 =>
  some r5
def spec_l07Day_enc (r : Bool) : AV := .bool r
theorem spec_l07Day_ok (a1 : Int) (r : Bool) (h : spec_l07Day a1 = some r) : Ev (fun k => CN k 81 [.int .i64 a1] []) (fun p => rRes p.2 p.1 = spec_l07Day_enc r) := by
  unfold spec_l07Day at h
  refine Ev.enter (F := fun k => f81 (CN k) k) (fun k => callN_eq rfl Try.func81 rfl rfl rfl (by decide +kernel) (f81_eq _ _)) ?_
  refine Ev.seq ?_
  refine Ev.reg (fun _ => rfl) ?_
  refine Ev.nxk (mvO rfl) ?_
  refine Ev.rend ?_
  intro e1 he2
  have h3 : eget e1 0 = .int .i64 a1 := envp he2 rfl rfl
  refine Ev.kseqN ?_
  refine Ev.seq ?_
  refine Ev.reg (fun _ => rfl) ?_
  refine Ev.nxk (mvO h3) ?_
  obtain ⟨r5, hx4, h⟩ := bind_some h
  refine Ev.nxck (Ev.call (v := .bool r5) rfl (cns rfl (cns rfl (cns rfl rfl))) rfl (spec_l00In_ok a1 0 100000 _ hx4) (fun h => nomatch (show false = true from h))) ?_
  refine Ev.nxk (mvO rfl) ?_
  refine Ev.rend ?_
  intro e6 he7
  have h8 : eget e6 2 = .bool r5 := envp he7 rfl rfl
  clear h3
  refine Ev.kseqN ?_
  refine Ev.ex ?_
  cases h
  exact Ev.kendR (resT h8 res0) rfl
/-! ### loop.example/g01263/laws.eqTally (f60) -/
noncomputable def laws_eqTally (a1 : Tally) (a2 : Tally) : Option Bool :=
  if (a1.Debtor != a2.Debtor) = true then
    some false
  else
    if (a1.Holder != a2.Holder) = true then
      some false
    else
      if (a1.Cut != a2.Cut) = true then
        some false
      else
        if (a1.Amount != a2.Amount) = true then
          some false
        else
          if (a1.Left != a2.Left) = true then
            some false
          else
            some true
def laws_eqTally_enc (r : Bool) : AV := .bool r
theorem laws_eqTally_ok (a1 : Tally) (a2 : Tally) (r : Bool) (h : laws_eqTally a1 a2 = some r) : Ev (fun k => CN k 60 [.agg [.int .i64 a1.Debtor, .int .i64 a1.Holder, .int .i64 a1.Cut, .int .i64 a1.Amount, .int .i64 a1.Left], .agg [.int .i64 a2.Debtor, .int .i64 a2.Holder, .int .i64 a2.Cut, .int .i64 a2.Amount, .int .i64 a2.Left]] []) (fun p => rRes p.2 p.1 = laws_eqTally_enc r) := by
  unfold laws_eqTally at h
  refine Ev.enter (F := fun k => f60 (CN k) k) (fun k => callN_eq rfl Try.func60 rfl rfl rfl (by decide +kernel) (f60_eq _ _)) ?_
  refine Ev.seq ?_
  refine Ev.reg (fun _ => rfl) ?_
  refine Ev.nxk (bxI rfl rfl ⟨rfl, rfl, by decide⟩) ?_
  refine Ev.nxk (bxI rfl rfl ⟨rfl, rfl, by decide⟩) ?_
  refine Ev.nxk (mvO rfl) ?_
  refine Ev.rend ?_
  intro e1 he2
  have h3 : eget e1 2 = .pt none [.int .i64 a1.Debtor, .int .i64 a1.Holder, .int .i64 a1.Cut, .int .i64 a1.Amount, .int .i64 a1.Left] := envp he2 rfl rfl
  have h4 : eget e1 3 = .pt none [.int .i64 a2.Debtor, .int .i64 a2.Holder, .int .i64 a2.Cut, .int .i64 a2.Amount, .int .i64 a2.Left] := envp he2 rfl rfl
  refine Ev.kseqN ?_
  refine Ev.seq ?_
  refine Ev.seq ?_
  refine Ev.reg (fun _ => rfl) ?_
  refine Ev.nxk (faP h3 ⟨ble rfl, blt rfl⟩ rfl) ?_
  refine Ev.nxk (ldP rfl rfl) ?_
  refine Ev.nxk (faP h4 ⟨ble rfl, blt rfl⟩ rfl) ?_
  refine Ev.nxk (ldP rfl rfl) ?_
  refine Ev.nxk (bNeq rfl rfl) ?_
  refine Ev.rend ?_
  intro e5 he6
  have h7 : eget e5 2 = .pt none [.int .i64 a1.Debtor, .int .i64 a1.Holder, .int .i64 a1.Cut, .int .i64 a1.Amount, .int .i64 a1.Left] := envp he6 rfl h3
  have h8 : eget e5 3 = .pt none [.int .i64 a2.Debtor, .int .i64 a2.Holder, .int .i64 a2.Cut, .int .i64 a2.Amount, .int .i64 a2.Left] := envp he6 rfl h4
  have h9 : eget e5 9 = .bool (a1.Debtor != a2.Debtor) := envp he6 rfl rfl
  clear h3 h4
  refine Ev.kseqN ?_
  rcases ite_some h with ⟨hb10, h⟩ | ⟨hb10, h⟩
  · refine Ev.condT h9 hb10 ?_
    refine Ev.seq ?_
    refine Ev.reg (fun _ => rfl) ?_
    refine Ev.nxk (mvO rfl) ?_
    refine Ev.rend ?_
    intro e11 he12
    have h13 : eget e11 4 = .bool false := envp he12 rfl rfl
    clear h7 h8 h9
    refine Ev.kseqN ?_
    refine Ev.ex ?_
    refine Ev.kseqR ?_
    cases h
    exact Ev.kendR (resT h13 res0) rfl
  · refine Ev.condF h9 hb10 ?_
    refine Ev.ex ?_
    refine Ev.kseqN ?_
    refine Ev.seq ?_
    refine Ev.seq ?_
    refine Ev.reg (fun _ => rfl) ?_
    refine Ev.nxk (faP h7 ⟨ble rfl, blt rfl⟩ rfl) ?_
    refine Ev.nxk (ldP rfl rfl) ?_
    refine Ev.nxk (faP h8 ⟨ble rfl, blt rfl⟩ rfl) ?_
    refine Ev.nxk (ldP rfl rfl) ?_
    refine Ev.nxk (bNeq rfl rfl) ?_
    refine Ev.rend ?_
    intro e14 he15
    have h16 : eget e14 2 = .pt none [.int .i64 a1.Debtor, .int .i64 a1.Holder, .int .i64 a1.Cut, .int .i64 a1.Amount, .int .i64 a1.Left] := envp he15 rfl h7
    have h17 : eget e14 3 = .pt none [.int .i64 a2.Debtor, .int .i64 a2.Holder, .int .i64 a2.Cut, .int .i64 a2.Amount, .int .i64 a2.Left] := envp he15 rfl h8
    have h18 : eget e14 14 = .bool (a1.Holder != a2.Holder) := envp he15 rfl rfl
    clear h7 h8 h9
    refine Ev.kseqN ?_
    rcases ite_some h with ⟨hb19, h⟩ | ⟨hb19, h⟩
    · refine Ev.condT h18 hb19 ?_
      refine Ev.seq ?_
      refine Ev.reg (fun _ => rfl) ?_
      refine Ev.nxk (mvO rfl) ?_
      refine Ev.rend ?_
      intro e20 he21
      have h22 : eget e20 4 = .bool false := envp he21 rfl rfl
      clear h16 h17 h18
      refine Ev.kseqN ?_
      refine Ev.ex ?_
      refine Ev.kseqR ?_
      cases h
      exact Ev.kendR (resT h22 res0) rfl
    · refine Ev.condF h18 hb19 ?_
      refine Ev.ex ?_
      refine Ev.kseqN ?_
      refine Ev.seq ?_
      refine Ev.seq ?_
      refine Ev.reg (fun _ => rfl) ?_
      refine Ev.nxk (faP h16 ⟨ble rfl, blt rfl⟩ rfl) ?_
      refine Ev.nxk (ldP rfl rfl) ?_
      refine Ev.nxk (faP h17 ⟨ble rfl, blt rfl⟩ rfl) ?_
      refine Ev.nxk (ldP rfl rfl) ?_
      refine Ev.nxk (bNeq rfl rfl) ?_
      refine Ev.rend ?_
      intro e23 he24
      have h25 : eget e23 2 = .pt none [.int .i64 a1.Debtor, .int .i64 a1.Holder, .int .i64 a1.Cut, .int .i64 a1.Amount, .int .i64 a1.Left] := envp he24 rfl h16
      have h26 : eget e23 3 = .pt none [.int .i64 a2.Debtor, .int .i64 a2.Holder, .int .i64 a2.Cut, .int .i64 a2.Amount, .int .i64 a2.Left] := envp he24 rfl h17
      have h27 : eget e23 19 = .bool (a1.Cut != a2.Cut) := envp he24 rfl rfl
      clear h16 h17 h18
      refine Ev.kseqN ?_
      rcases ite_some h with ⟨hb28, h⟩ | ⟨hb28, h⟩
      · refine Ev.condT h27 hb28 ?_
        refine Ev.seq ?_
        refine Ev.reg (fun _ => rfl) ?_
        refine Ev.nxk (mvO rfl) ?_
        refine Ev.rend ?_
        intro e29 he30
        have h31 : eget e29 4 = .bool false := envp he30 rfl rfl
        clear h25 h26 h27
        refine Ev.kseqN ?_
        refine Ev.ex ?_
        refine Ev.kseqR ?_
        cases h
        exact Ev.kendR (resT h31 res0) rfl
      · refine Ev.condF h27 hb28 ?_
        refine Ev.ex ?_
        refine Ev.kseqN ?_
        refine Ev.seq ?_
        refine Ev.seq ?_
        refine Ev.reg (fun _ => rfl) ?_
        refine Ev.nxk (faP h25 ⟨ble rfl, blt rfl⟩ rfl) ?_
        refine Ev.nxk (ldP rfl rfl) ?_
        refine Ev.nxk (faP h26 ⟨ble rfl, blt rfl⟩ rfl) ?_
        refine Ev.nxk (ldP rfl rfl) ?_
        refine Ev.nxk (bNeq rfl rfl) ?_
        refine Ev.rend ?_
        intro e32 he33
        have h34 : eget e32 2 = .pt none [.int .i64 a1.Debtor, .int .i64 a1.Holder, .int .i64 a1.Cut, .int .i64 a1.Amount, .int .i64 a1.Left] := envp he33 rfl h25
        have h35 : eget e32 3 = .pt none [.int .i64 a2.Debtor, .int .i64 a2.Holder, .int .i64 a2.Cut, .int .i64 a2.Amount, .int .i64 a2.Left] := envp he33 rfl h26
        have h36 : eget e32 24 = .bool (a1.Amount != a2.Amount) := envp he33 rfl rfl
        clear h25 h26 h27
        refine Ev.kseqN ?_
        rcases ite_some h with ⟨hb37, h⟩ | ⟨hb37, h⟩
        · refine Ev.condT h36 hb37 ?_
          refine Ev.seq ?_
          refine Ev.reg (fun _ => rfl) ?_
          refine Ev.nxk (mvO rfl) ?_
          refine Ev.rend ?_
          intro e38 he39
          have h40 : eget e38 4 = .bool false := envp he39 rfl rfl
          clear h34 h35 h36
          refine Ev.kseqN ?_
          refine Ev.ex ?_
          refine Ev.kseqR ?_
          cases h
          exact Ev.kendR (resT h40 res0) rfl
        · refine Ev.condF h36 hb37 ?_
          refine Ev.ex ?_
          refine Ev.kseqN ?_
          refine Ev.seq ?_
          refine Ev.seq ?_
          refine Ev.reg (fun _ => rfl) ?_
          refine Ev.nxk (faP h34 ⟨ble rfl, blt rfl⟩ rfl) ?_
          refine Ev.nxk (ldP rfl rfl) ?_
          refine Ev.nxk (faP h35 ⟨ble rfl, blt rfl⟩ rfl) ?_
          refine Ev.nxk (ldP rfl rfl) ?_
          refine Ev.nxk (bNeq rfl rfl) ?_
          refine Ev.rend ?_
          intro e41 he42
          have h43 : eget e41 29 = .bool (a1.Left != a2.Left) := envp he42 rfl rfl
          clear h34 h35 h36
          refine Ev.kseqN ?_
          rcases ite_some h with ⟨hb44, h⟩ | ⟨hb44, h⟩
          · refine Ev.condT h43 hb44 ?_
            refine Ev.seq ?_
            refine Ev.reg (fun _ => rfl) ?_
            refine Ev.nxk (mvO rfl) ?_
            refine Ev.rend ?_
            intro e45 he46
            have h47 : eget e45 4 = .bool false := envp he46 rfl rfl
            clear h43
            refine Ev.kseqN ?_
            refine Ev.ex ?_
            refine Ev.kseqR ?_
            cases h
            exact Ev.kendR (resT h47 res0) rfl
          · refine Ev.condF h43 hb44 ?_
            refine Ev.ex ?_
            refine Ev.kseqN ?_
            refine Ev.seq ?_
            refine Ev.reg (fun _ => rfl) ?_
            refine Ev.nxk (mvO rfl) ?_
            refine Ev.rend ?_
            intro e48 he49
            have h50 : eget e48 4 = .bool true := envp he49 rfl rfl
            clear h43
            refine Ev.kseqN ?_
            refine Ev.ex ?_
            cases h
            exact Ev.kendR (resT h50 res0) rfl
/-! ### loop.example/g01263/impl.arePeople (f59) -/
abbrev impl_arePeople_b1_S := Int
abbrev impl_arePeople_b1_R := Unit ⊕ Unit
def impl_arePeople_b1_RS (a1 : Int) (a2 : List Int) (s : impl_arePeople_b1_S) (e : Env) (M : Mem) : Prop := eget e 0 = .int .i64 a1 ∧ eget e 7 = .sl none (a2.map (cI .i64)) ∧ eget e 8 = .int .i64 (a2.length : Int) ∧ eget e 9 = .int .i64 s
def impl_arePeople_b1_RR (a1 : Int) (a2 : List Int) (r : impl_arePeople_b1_R) (x : Ex) (e : Env) (M : Mem) : Prop :=
  match r with
  | (.inl g) => x = .ret ∧ eget e 4 = .bool false
  | (.inr g) => x = .ext 0 ∧ True
noncomputable def impl_arePeople_b1 (a1 : Int) (a2 : List Int) : impl_arePeople_b1_S → Option (impl_arePeople_b1_S ⊕ impl_arePeople_b1_R) := fun s1_1 =>
  if (decide (s1_1 < (a2.length : Int))) = true then
    (rd a2 s1_1).bind fun x39 =>
    if (decide (x39 < 0)) = true then
      some (.inr (.inl ()))
    else
      if (decide (x39 ≥ a1)) = true then
        some (.inr (.inl ()))
      else
        some (.inl (IntKind.i64.wrap (s1_1 + 1)))
  else
    some (.inr (.inr ()))
theorem impl_arePeople_b1_ok (a1 : Int) (a2 : List Int) (s : impl_arePeople_b1_S) (r : impl_arePeople_b1_S ⊕ impl_arePeople_b1_R) (h : impl_arePeople_b1 a1 a2 s = some r) (e : Env) (M : Mem) (hs : impl_arePeople_b1_RS a1 a2 s e M) : Ev (fun k => (f59_l2 (CN k) k (prune [0, 7, 8, 9] e) M).bind fun q => some q) (bQ (impl_arePeople_b1_RS a1 a2) (impl_arePeople_b1_RR a1 a2) r) := by
  revert h hs
  revert s
  intro s1_1 h hs
  unfold impl_arePeople_b1 at h
  obtain ⟨h23, h25, h27, h29⟩ := hs
  generalize he22 : prune [0, 7, 8, 9] e = e21
  have h24 := envp he22.symm rfl h23
  have h26 := envp he22.symm rfl h25
  have h28 := envp he22.symm rfl h27
  have h30 := envp he22.symm rfl h29
  refine Ev.seq ?_
  refine Ev.reg (fun _ => rfl) ?_
  refine Ev.nxk (bLss h30 h28) ?_
  refine Ev.rend ?_
  intro e31 he32
  have h33 : eget e31 0 = .int .i64 a1 := envp he32 rfl h24
  have h34 : eget e31 7 = .sl none (a2.map (cI .i64)) := envp he32 rfl h26
  have h35 : eget e31 8 = .int .i64 (a2.length : Int) := envp he32 rfl h28
  have h36 : eget e31 9 = .int .i64 s1_1 := envp he32 rfl h30
  have h37 : eget e31 10 = .bool (decide (s1_1 < (a2.length : Int))) := envp he32 rfl rfl
  clear h24 h26 h28 h30
  refine Ev.kseqN ?_
  refine Ev.seq ?_
  rcases ite_some h with ⟨hb38, h⟩ | ⟨hb38, h⟩
  · refine Ev.condT h37 hb38 ?_
    refine Ev.ex ?_
    refine Ev.kseqN ?_
    refine Ev.seq ?_
    refine Ev.blk ?_
    refine Ev.seq ?_
    refine Ev.reg (fun _ => rfl) ?_
    obtain ⟨x39, hx40, h⟩ := bind_some h
    refine Ev.nxk (ixS h34 h36 hx40 (cI_fl _)) ?_
    refine Ev.nxk (ldP rfl rfl) ?_
    refine Ev.nxk (mvO rfl) ?_
    refine Ev.rend ?_
    intro e41 he42
    have h43 : eget e41 0 = .int .i64 a1 := envp he42 rfl h33
    have h44 : eget e41 6 = .int .i64 x39 := envp he42 rfl rfl
    have h45 : eget e41 7 = .sl none (a2.map (cI .i64)) := envp he42 rfl h34
    have h46 : eget e41 8 = .int .i64 (a2.length : Int) := envp he42 rfl h35
    have h47 : eget e41 9 = .int .i64 s1_1 := envp he42 rfl h36
    clear h33 h34 h35 h36 h37
    refine Ev.kseqN ?_
    refine Ev.seq ?_
    refine Ev.reg (fun _ => rfl) ?_
    refine Ev.nxk (mvO h44) ?_
    refine Ev.nxk (bLss rfl rfl) ?_
    refine Ev.nxk (mvO rfl) ?_
    rcases ite_some h with ⟨hb48, h⟩ | ⟨hb48, h⟩
    · refine Ev.nxk (gsF rfl hb48) ?_
      refine Ev.nxk (gsF rfl hb48) ?_
      refine Ev.nxk (gsF rfl hb48) ?_
      refine Ev.nxk (pkT rfl hb48 rfl) ?_
      refine Ev.rend ?_
      intro e49 he50
      have h51 : eget e49 0 = .int .i64 a1 := envp he50 rfl h43
      have h52 : eget e49 7 = .sl none (a2.map (cI .i64)) := envp he50 rfl h45
      have h53 : eget e49 8 = .int .i64 (a2.length : Int) := envp he50 rfl h46
      have h54 : eget e49 9 = .int .i64 s1_1 := envp he50 rfl h47
      have h55 : eget e49 19 = .bool true := envp he50 rfl rfl
      clear h43 h44 h45 h46 h47
      refine Ev.kseqN ?_
      refine Ev.condT h55 rfl ?_
      refine Ev.seq ?_
      refine Ev.reg (fun _ => rfl) ?_
      refine Ev.nxk (mvO rfl) ?_
      refine Ev.rend ?_
      intro e56 he57
      have h58 : eget e56 4 = .bool false := envp he57 rfl rfl
      clear h51 h52 h53 h54 h55
      refine Ev.kseqN ?_
      refine Ev.ex ?_
      refine Ev.kblkR ?_
      refine Ev.kseqR ?_
      cases h
      exact Ev.kid (bQ_x (RS := (impl_arePeople_b1_RS a1 a2)) (RR := (impl_arePeople_b1_RR a1 a2)) (by intro h; cases h) (And.intro rfl h58))
    · refine Ev.nxk (guF rfl hb48 (mvO h44)) ?_
      refine Ev.nxk (guF rfl hb48 (mvO h43)) ?_
      refine Ev.nxk (guF rfl hb48 (bGeq rfl rfl)) ?_
      refine Ev.nxk (pkF rfl hb48 rfl) ?_
      refine Ev.rend ?_
      intro e59 he60
      have h61 : eget e59 0 = .int .i64 a1 := envp he60 rfl h43
      have h62 : eget e59 7 = .sl none (a2.map (cI .i64)) := envp he60 rfl h45
      have h63 : eget e59 8 = .int .i64 (a2.length : Int) := envp he60 rfl h46
      have h64 : eget e59 9 = .int .i64 s1_1 := envp he60 rfl h47
      have h65 : eget e59 19 = .bool (decide (x39 ≥ a1)) := envp he60 rfl rfl
      clear h43 h44 h45 h46 h47
      refine Ev.kseqN ?_
      rcases ite_some h with ⟨hb66, h⟩ | ⟨hb66, h⟩
      · refine Ev.condT h65 hb66 ?_
        refine Ev.seq ?_
        refine Ev.reg (fun _ => rfl) ?_
        refine Ev.nxk (mvO rfl) ?_
        refine Ev.rend ?_
        intro e67 he68
        have h69 : eget e67 4 = .bool false := envp he68 rfl rfl
        clear h61 h62 h63 h64 h65
        refine Ev.kseqN ?_
        refine Ev.ex ?_
        refine Ev.kblkR ?_
        refine Ev.kseqR ?_
        cases h
        exact Ev.kid (bQ_x (RS := (impl_arePeople_b1_RS a1 a2)) (RR := (impl_arePeople_b1_RR a1 a2)) (by intro h; cases h) (And.intro rfl h69))
      · refine Ev.condF h65 hb66 ?_
        refine Ev.ex ?_
        refine Ev.kblkN ?_
        refine Ev.kseqN ?_
        refine Ev.reg (fun _ => rfl) ?_
        refine Ev.nxk (bAdd h64 rfl) ?_
        refine Ev.nxk (mvO rfl) ?_
        refine Ev.rend ?_
        intro e70 he71
        have h72 : eget e70 0 = .int .i64 a1 := envp he71 rfl h61
        have h73 : eget e70 7 = .sl none (a2.map (cI .i64)) := envp he71 rfl h62
        have h74 : eget e70 8 = .int .i64 (a2.length : Int) := envp he71 rfl h63
        have h75 : eget e70 9 = .int .i64 (IntKind.i64.wrap (s1_1 + 1)) := envp he71 rfl rfl
        clear h61 h62 h63 h65
        cases h
        exact Ev.kid (bQ_n (RS := (impl_arePeople_b1_RS a1 a2)) (RR := (impl_arePeople_b1_RR a1 a2)) (And.intro h72 (And.intro h73 (And.intro h74 h75))))
  · refine Ev.condF h37 hb38 ?_
    refine Ev.ex ?_
    refine Ev.kseqE ?_
    cases h
    exact Ev.kid (bQ_x (RS := (impl_arePeople_b1_RS a1 a2)) (RR := (impl_arePeople_b1_RR a1 a2)) (by intro h; cases h) (And.intro rfl trivial))
noncomputable def impl_arePeople (a1 : Int) (a2 : List Int) : Option Bool :=
  (Lw (impl_arePeople_b1 a1 a2) 0).bind fun r => match r with
  | (.inl _) =>
    some false
  | (.inr _) =>
    some true
def impl_arePeople_enc (r : Bool) : AV := .bool r
theorem impl_arePeople_ok (a1 : Int) (a2 : List Int) (r : Bool) (h : impl_arePeople a1 a2 = some r) : Ev (fun k => CN k 59 [.int .i64 a1, .sl none (a2.map (cI .i64))] []) (fun p => rRes p.2 p.1 = impl_arePeople_enc r) := by
  unfold impl_arePeople at h
  refine Ev.enter (F := fun k => f59 (CN k) k) (fun k => callN_eq rfl Try.func59 rfl rfl rfl (by decide +kernel) (f59_eq _ _)) ?_
  refine Ev.seq ?_
  refine Ev.reg (fun _ => rfl) ?_
  refine Ev.nxk (mvO rfl) ?_
  refine Ev.rend ?_
  intro e1 he2
  have h3 : eget e1 0 = .int .i64 a1 := envp he2 rfl rfl
  have h4 : eget e1 1 = .sl none (a2.map (cI .i64)) := envp he2 rfl rfl
  refine Ev.kseqN ?_
  refine Ev.seq ?_
  refine Ev.seq ?_
  refine Ev.reg (fun _ => rfl) ?_
  refine Ev.nxk (mvO h4) ?_
  refine Ev.nxk (lnS Try.underlying22 rfl) ?_
  refine Ev.nxk (mvO rfl) ?_
  refine Ev.rend ?_
  intro e5 he6
  have h7 : eget e5 0 = .int .i64 a1 := envp he6 rfl h3
  have h8 : eget e5 7 = .sl none (a2.map (cI .i64)) := envp he6 rfl rfl
  have h9 : eget e5 8 = .int .i64 (a2.length : Int) := envp he6 rfl rfl
  have h10 : eget e5 9 = .int .i64 0 := envp he6 rfl rfl
  clear h3 h4
  refine Ev.kseqN ?_
  refine Ev.blk ?_
  obtain ⟨r76, hr77, h⟩ := bind_some h
  rcases r76 with _ | _
  · refine Ev.loop (RS := impl_arePeople_b1_RS a1 a2) (RR := impl_arePeople_b1_RR a1 a2) (fun s r h e M hs => impl_arePeople_b1_ok a1 a2 s r h e M hs) hr77 (And.intro h7 (And.intro h8 (And.intro h9 h10))) ?_
    intro x e79 M80 hq78
    obtain ⟨rfl, h81⟩ := hq78
    refine Ev.kblkR ?_
    refine Ev.kseqR ?_
    cases h
    exact Ev.kendR (resT h81 res0) rfl
  · refine Ev.loop (RS := impl_arePeople_b1_RS a1 a2) (RR := impl_arePeople_b1_RR a1 a2) (fun s r h e M hs => impl_arePeople_b1_ok a1 a2 s r h e M hs) hr77 (And.intro h7 (And.intro h8 (And.intro h9 h10))) ?_
    intro x e82 M83 hq78
    obtain ⟨rfl, _⟩ := hq78
    refine Ev.kblkE ?_
    refine Ev.kseqN ?_
    refine Ev.seq ?_
    refine Ev.reg (fun _ => rfl) ?_
    refine Ev.nxk (mvO rfl) ?_
    refine Ev.rend ?_
    intro e84 he85
    have h86 : eget e84 4 = .bool true := envp he85 rfl rfl
    refine Ev.kseqN ?_
    refine Ev.ex ?_
    cases h
    exact Ev.kendR (resT h86 res0) rfl
/-! ### loop.example/g01263/impl.ValidBook (f58) -/
def impl_ValidBook_c1_Q (a1 : Book) (g : Bool) (q : Out) : Prop := q.1 = .nrm ∧ eget q.2.1 1 = .pt none [.int .i64 a1.Day, .sl none (a1.Cash.map (cI .i64)), .sl none (a1.Tallies.map Tally.c)] ∧ eget q.2.1 3 = .int .i64 (a1.Cash.length : Int) ∧ eget q.2.1 29 = .bool g
abbrev impl_ValidBook_b1_S := Int
abbrev impl_ValidBook_b1_R := Unit ⊕ Unit
def impl_ValidBook_b1_RS (a1 : Book) (s : impl_ValidBook_b1_S) (e : Env) (M : Mem) : Prop := eget e 1 = .pt none [.int .i64 a1.Day, .sl none (a1.Cash.map (cI .i64)), .sl none (a1.Tallies.map Tally.c)] ∧ eget e 3 = .int .i64 (a1.Cash.length : Int) ∧ eget e 31 = .sl none (a1.Cash.map (cI .i64)) ∧ eget e 32 = .int .i64 (a1.Cash.length : Int) ∧ eget e 33 = .int .i64 s
def impl_ValidBook_b1_RR (a1 : Book) (r : impl_ValidBook_b1_R) (x : Ex) (e : Env) (M : Mem) : Prop :=
  match r with
  | (.inl g) => x = .ret ∧ eget e 2 = .bool false
  | (.inr g) => x = .ext 0 ∧ eget e 1 = .pt none [.int .i64 a1.Day, .sl none (a1.Cash.map (cI .i64)), .sl none (a1.Tallies.map Tally.c)] ∧ eget e 3 = .int .i64 (a1.Cash.length : Int)
noncomputable def impl_ValidBook_b1 (a1 : Book) : impl_ValidBook_b1_S → Option (impl_ValidBook_b1_S ⊕ impl_ValidBook_b1_R) := fun s1_1 =>
  if (decide (s1_1 < (a1.Cash.length : Int))) = true then
    (rd a1.Cash s1_1).bind fun x83 =>
    (impl_isAmount x83).bind fun r94 =>
    if r94 = true then
      some (.inl (IntKind.i64.wrap (s1_1 + 1)))
    else
      some (.inr (.inl ()))
  else
    some (.inr (.inr ()))
theorem impl_ValidBook_b1_ok (a1 : Book) (s : impl_ValidBook_b1_S) (r : impl_ValidBook_b1_S ⊕ impl_ValidBook_b1_R) (h : impl_ValidBook_b1 a1 s = some r) (e : Env) (M : Mem) (hs : impl_ValidBook_b1_RS a1 s e M) : Ev (fun k => (f58_l5 (CN k) k (prune [1, 3, 31, 32, 33] e) M).bind fun q => some q) (bQ (impl_ValidBook_b1_RS a1) (impl_ValidBook_b1_RR a1) r) := by
  revert h hs
  revert s
  intro s1_1 h hs
  unfold impl_ValidBook_b1 at h
  obtain ⟨h64, h66, h68, h70, h72⟩ := hs
  generalize he63 : prune [1, 3, 31, 32, 33] e = e62
  have h65 := envp he63.symm rfl h64
  have h67 := envp he63.symm rfl h66
  have h69 := envp he63.symm rfl h68
  have h71 := envp he63.symm rfl h70
  have h73 := envp he63.symm rfl h72
  refine Ev.seq ?_
  refine Ev.reg (fun _ => rfl) ?_
  refine Ev.nxk (bLss h73 h71) ?_
  refine Ev.rend ?_
  intro e74 he75
  have h76 : eget e74 1 = .pt none [.int .i64 a1.Day, .sl none (a1.Cash.map (cI .i64)), .sl none (a1.Tallies.map Tally.c)] := envp he75 rfl h65
  have h77 : eget e74 3 = .int .i64 (a1.Cash.length : Int) := envp he75 rfl h67
  have h78 : eget e74 31 = .sl none (a1.Cash.map (cI .i64)) := envp he75 rfl h69
  have h79 : eget e74 32 = .int .i64 (a1.Cash.length : Int) := envp he75 rfl h71
  have h80 : eget e74 33 = .int .i64 s1_1 := envp he75 rfl h73
  have h81 : eget e74 34 = .bool (decide (s1_1 < (a1.Cash.length : Int))) := envp he75 rfl rfl
  clear h65 h67 h69 h71 h73
  refine Ev.kseqN ?_
  refine Ev.seq ?_
  rcases ite_some h with ⟨hb82, h⟩ | ⟨hb82, h⟩
  · refine Ev.condT h81 hb82 ?_
    refine Ev.ex ?_
    refine Ev.kseqN ?_
    refine Ev.seq ?_
    refine Ev.blk ?_
    refine Ev.seq ?_
    refine Ev.reg (fun _ => rfl) ?_
    obtain ⟨x83, hx84, h⟩ := bind_some h
    refine Ev.nxk (ixS h78 h80 hx84 (cI_fl _)) ?_
    refine Ev.nxk (ldP rfl rfl) ?_
    refine Ev.nxk (mvO rfl) ?_
    refine Ev.rend ?_
    intro e85 he86
    have h87 : eget e85 1 = .pt none [.int .i64 a1.Day, .sl none (a1.Cash.map (cI .i64)), .sl none (a1.Tallies.map Tally.c)] := envp he86 rfl h76
    have h88 : eget e85 3 = .int .i64 (a1.Cash.length : Int) := envp he86 rfl h77
    have h89 : eget e85 5 = .int .i64 x83 := envp he86 rfl rfl
    have h90 : eget e85 31 = .sl none (a1.Cash.map (cI .i64)) := envp he86 rfl h78
    have h91 : eget e85 32 = .int .i64 (a1.Cash.length : Int) := envp he86 rfl h79
    have h92 : eget e85 33 = .int .i64 s1_1 := envp he86 rfl h80
    clear h76 h77 h78 h79 h80 h81
    refine Ev.kseqN ?_
    refine Ev.seq ?_
    refine Ev.reg (fun _ => rfl) ?_
    refine Ev.nxk (mvO h89) ?_
    obtain ⟨r94, hx93, h⟩ := bind_some h
    refine Ev.nxck (Ev.call (v := .bool r94) rfl (cns rfl rfl) rfl (impl_isAmount_ok x83 _ hx93) (fun h => nomatch (show false = true from h))) ?_
    refine Ev.nxk (uNot rfl) ?_
    refine Ev.rend ?_
    intro e95 he96
    have h97 : eget e95 1 = .pt none [.int .i64 a1.Day, .sl none (a1.Cash.map (cI .i64)), .sl none (a1.Tallies.map Tally.c)] := envp he96 rfl h87
    have h98 : eget e95 3 = .int .i64 (a1.Cash.length : Int) := envp he96 rfl h88
    have h99 : eget e95 31 = .sl none (a1.Cash.map (cI .i64)) := envp he96 rfl h90
    have h100 : eget e95 32 = .int .i64 (a1.Cash.length : Int) := envp he96 rfl h91
    have h101 : eget e95 33 = .int .i64 s1_1 := envp he96 rfl h92
    have h102 : eget e95 39 = .bool (!r94) := envp he96 rfl rfl
    clear h87 h88 h89 h90 h91 h92
    refine Ev.kseqN ?_
    rcases ite_some h with ⟨hb103, h⟩ | ⟨hb103, h⟩
    · refine Ev.condF h102 (congrArg Bool.not hb103) ?_
      refine Ev.ex ?_
      refine Ev.kblkN ?_
      refine Ev.kseqN ?_
      refine Ev.reg (fun _ => rfl) ?_
      refine Ev.nxk (bAdd h101 rfl) ?_
      refine Ev.nxk (mvO rfl) ?_
      refine Ev.rend ?_
      intro e104 he105
      have h106 : eget e104 1 = .pt none [.int .i64 a1.Day, .sl none (a1.Cash.map (cI .i64)), .sl none (a1.Tallies.map Tally.c)] := envp he105 rfl h97
      have h107 : eget e104 3 = .int .i64 (a1.Cash.length : Int) := envp he105 rfl h98
      have h108 : eget e104 31 = .sl none (a1.Cash.map (cI .i64)) := envp he105 rfl h99
      have h109 : eget e104 32 = .int .i64 (a1.Cash.length : Int) := envp he105 rfl h100
      have h110 : eget e104 33 = .int .i64 (IntKind.i64.wrap (s1_1 + 1)) := envp he105 rfl rfl
      clear h100 h102 h97 h98 h99
      cases h
      exact Ev.kid (bQ_n (RS := (impl_ValidBook_b1_RS a1)) (RR := (impl_ValidBook_b1_RR a1)) (And.intro h106 (And.intro h107 (And.intro h108 (And.intro h109 h110)))))
    · refine Ev.condT h102 (congrArg Bool.not hb103) ?_
      refine Ev.seq ?_
      refine Ev.reg (fun _ => rfl) ?_
      refine Ev.nxk (mvO rfl) ?_
      refine Ev.rend ?_
      intro e111 he112
      have h113 : eget e111 2 = .bool false := envp he112 rfl rfl
      clear h100 h101 h102 h97 h98 h99
      refine Ev.kseqN ?_
      refine Ev.ex ?_
      refine Ev.kblkR ?_
      refine Ev.kseqR ?_
      cases h
      exact Ev.kid (bQ_x (RS := (impl_ValidBook_b1_RS a1)) (RR := (impl_ValidBook_b1_RR a1)) (by intro h; cases h) (And.intro rfl h113))
  · refine Ev.condF h81 hb82 ?_
    refine Ev.ex ?_
    refine Ev.kseqE ?_
    cases h
    exact Ev.kid (bQ_x (RS := (impl_ValidBook_b1_RS a1)) (RR := (impl_ValidBook_b1_RR a1)) (by intro h; cases h) (And.intro rfl (And.intro h76 h77)))
abbrev impl_ValidBook_b2_S := Int × Int
abbrev impl_ValidBook_b2_R := Unit ⊕ Unit
def impl_ValidBook_b2_RS (a1 : Book) (s : impl_ValidBook_b2_S) (e : Env) (M : Mem) : Prop := eget e 1 = .pt none [.int .i64 a1.Day, .sl none (a1.Cash.map (cI .i64)), .sl none (a1.Tallies.map Tally.c)] ∧ eget e 3 = .int .i64 (a1.Cash.length : Int) ∧ eget e 6 = .int .i64 s.1 ∧ eget e 42 = .sl none (a1.Tallies.map Tally.c) ∧ eget e 43 = .int .i64 (a1.Tallies.length : Int) ∧ eget e 44 = .int .i64 s.2
def impl_ValidBook_b2_RR (a1 : Book) (r : impl_ValidBook_b2_R) (x : Ex) (e : Env) (M : Mem) : Prop :=
  match r with
  | (.inl g) => x = .ret ∧ eget e 2 = .bool false
  | (.inr g) => x = .ext 2 ∧ True
noncomputable def impl_ValidBook_b2 (a1 : Book) : impl_ValidBook_b2_S → Option (impl_ValidBook_b2_S ⊕ impl_ValidBook_b2_R) := fun (s2_1, s2_2) =>
  if (decide (s2_2 < (a1.Tallies.length : Int))) = true then
    (rd a1.Tallies s2_2).bind fun x175 =>
    (impl_arePeople (a1.Cash.length : Int) [x175.Debtor, x175.Holder]).bind fun r194 =>
    if r194 = true then
      if (decide (x175.Cut < s2_1)) = true then
        some (.inr (.inl ()))
      else
        if (decide (x175.Cut > a1.Day)) = true then
          some (.inr (.inl ()))
        else
          if (decide (x175.Amount < 1)) = true then
            some (.inr (.inl ()))
          else
            if (decide (x175.Amount > 100000000)) = true then
              some (.inr (.inl ()))
            else
              if (decide (x175.Left < 0)) = true then
                some (.inr (.inl ()))
              else
                if (decide (x175.Left > x175.Amount)) = true then
                  some (.inr (.inl ()))
                else
                  if (x175.Debtor == x175.Holder) = true then
                    if (x175.Left != 0) = true then
                      some (.inr (.inl ()))
                    else
                      some (.inl (x175.Cut, (IntKind.i64.wrap (s2_2 + 1))))
                  else
                    some (.inl (x175.Cut, (IntKind.i64.wrap (s2_2 + 1))))
    else
      some (.inr (.inl ()))
  else
    some (.inr (.inr ()))
theorem impl_ValidBook_b2_ok (a1 : Book) (s : impl_ValidBook_b2_S) (r : impl_ValidBook_b2_S ⊕ impl_ValidBook_b2_R) (h : impl_ValidBook_b2 a1 s = some r) (e : Env) (M : Mem) (hs : impl_ValidBook_b2_RS a1 s e M) : Ev (fun k => (f58_l12 (CN k) k (prune [1, 3, 6, 42, 43, 44] e) M).bind fun q => some q) (bQ (impl_ValidBook_b2_RS a1) (impl_ValidBook_b2_RR a1) r) := by
  obtain ⟨s2_1, s2_2⟩ := s
  unfold impl_ValidBook_b2 at h
  obtain ⟨h153, h155, h157, h159, h161, h163⟩ := hs
  generalize he152 : prune [1, 3, 6, 42, 43, 44] e = e151
  have h154 := envp he152.symm rfl h153
  have h156 := envp he152.symm rfl h155
  have h158 := envp he152.symm rfl h157
  have h160 := envp he152.symm rfl h159
  have h162 := envp he152.symm rfl h161
  have h164 := envp he152.symm rfl h163
  refine Ev.seq ?_
  refine Ev.reg (fun _ => rfl) ?_
  refine Ev.nxk (bLss h164 h162) ?_
  refine Ev.rend ?_
  intro e165 he166
  have h167 : eget e165 1 = .pt none [.int .i64 a1.Day, .sl none (a1.Cash.map (cI .i64)), .sl none (a1.Tallies.map Tally.c)] := envp he166 rfl h154
  have h168 : eget e165 3 = .int .i64 (a1.Cash.length : Int) := envp he166 rfl h156
  have h169 : eget e165 6 = .int .i64 s2_1 := envp he166 rfl h158
  have h170 : eget e165 42 = .sl none (a1.Tallies.map Tally.c) := envp he166 rfl h160
  have h171 : eget e165 43 = .int .i64 (a1.Tallies.length : Int) := envp he166 rfl h162
  have h172 : eget e165 44 = .int .i64 s2_2 := envp he166 rfl h164
  have h173 : eget e165 45 = .bool (decide (s2_2 < (a1.Tallies.length : Int))) := envp he166 rfl rfl
  clear h154 h156 h158 h160 h162 h164
  refine Ev.kseqN ?_
  refine Ev.seq ?_
  rcases ite_some h with ⟨hb174, h⟩ | ⟨hb174, h⟩
  · refine Ev.condT h173 hb174 ?_
    refine Ev.ex ?_
    refine Ev.kseqN ?_
    refine Ev.seq ?_
    refine Ev.blk ?_
    refine Ev.seq ?_
    refine Ev.reg (fun _ => rfl) ?_
    obtain ⟨x175, hx176, h⟩ := bind_some h
    refine Ev.nxk (ixS h170 h172 hx176 Tally.fl) ?_
    refine Ev.nxk (ldPA rfl rfl rfl) ?_
    refine Ev.nxpush (alO zero78) ?_
    intro M178 hM179
    have o180 : M178[M.length]? = some (.live ⟨.box, 78, 5, [[.int .i64 0, .int .i64 0, .int .i64 0, .int .i64 0, .int .i64 0]]⟩) := push_new hM179
    refine Ev.nxput (stO rfl rfl o180 rfl rfl ⟨rfl, ble rfl⟩ rfl rfl) ?_
    intro M181 hM182
    have o183 : M181[M.length]? = some (.live ⟨.box, 78, 5, [[.int .i64 x175.Debtor, .int .i64 x175.Holder, .int .i64 x175.Cut, .int .i64 x175.Amount, .int .i64 x175.Left]]⟩) := set_same hM182 o180
    refine Ev.rend ?_
    intro e184 he185
    have h186 : eget e184 1 = .pt none [.int .i64 a1.Day, .sl none (a1.Cash.map (cI .i64)), .sl none (a1.Tallies.map Tally.c)] := envp he185 rfl h167
    have h187 : eget e184 3 = .int .i64 (a1.Cash.length : Int) := envp he185 rfl h168
    have h188 : eget e184 6 = .int .i64 s2_1 := envp he185 rfl h169
    have h189 : eget e184 8 = .loc M.length 1 0 0 := envp he185 rfl rfl
    have h190 : eget e184 42 = .sl none (a1.Tallies.map Tally.c) := envp he185 rfl h170
    have h191 : eget e184 43 = .int .i64 (a1.Tallies.length : Int) := envp he185 rfl h171
    have h192 : eget e184 44 = .int .i64 s2_2 := envp he185 rfl h172
    clear h167 h168 h169 h170 h171 h172 h173
    refine Ev.kseqN ?_
    refine Ev.seq ?_
    refine Ev.seq ?_
    refine Ev.reg (fun _ => rfl) ?_
    refine Ev.nxk (mvO h187) ?_
    refine Ev.nxk (faO h189 o183 rfl) ?_
    refine Ev.nxk (ldO rfl o183 rfl rfl rfl) ?_
    refine Ev.nxk (faO h189 o183 rfl) ?_
    refine Ev.nxk (ldO rfl o183 rfl rfl rfl) ?_
    refine Ev.nxk (litI (cns rfl (cns rfl rfl)) rfl ⟨rfl, by decide⟩) ?_
    obtain ⟨r194, hx193, h⟩ := bind_some h
    refine Ev.nxck (Ev.call (v := .bool r194) rfl (cns rfl (cns rfl rfl)) rfl (impl_arePeople_ok (a1.Cash.length : Int) [x175.Debtor, x175.Holder] _ hx193) (fun h => nomatch (show false = true from h))) ?_
    refine Ev.nxk (uNot rfl) ?_
    refine Ev.nxk (mvO rfl) ?_
    rcases ite_some h with ⟨hb195, h⟩ | ⟨hb195, h⟩
    · refine Ev.nxk (guF rfl (congrArg Bool.not hb195) (faO h189 o183 rfl)) ?_
      refine Ev.nxk (guF rfl (congrArg Bool.not hb195) (ldO rfl o183 rfl rfl rfl)) ?_
      refine Ev.nxk (guF rfl (congrArg Bool.not hb195) (mvO h188)) ?_
      refine Ev.nxk (guF rfl (congrArg Bool.not hb195) (bLss rfl rfl)) ?_
      refine Ev.nxk (pkF rfl (congrArg Bool.not hb195) rfl) ?_
      refine Ev.nxk (mvO rfl) ?_
      rcases ite_some h with ⟨hb196, h⟩ | ⟨hb196, h⟩
      · refine Ev.nxk (gsF rfl hb196) ?_
        refine Ev.nxk (gsF rfl hb196) ?_
        refine Ev.nxk (gsF rfl hb196) ?_
        refine Ev.nxk (gsF rfl hb196) ?_
        refine Ev.nxk (gsF rfl hb196) ?_
        refine Ev.nxk (pkT rfl hb196 rfl) ?_
        refine Ev.nxk (mvO rfl) ?_
        refine Ev.nxk (gsF rfl rfl) ?_
        refine Ev.nxk (gsF rfl rfl) ?_
        refine Ev.nxk (gsF rfl rfl) ?_
        refine Ev.nxk (pkT rfl rfl rfl) ?_
        refine Ev.nxk (mvO rfl) ?_
        refine Ev.nxk (gsF rfl rfl) ?_
        refine Ev.nxk (gsF rfl rfl) ?_
        refine Ev.nxk (gsF rfl rfl) ?_
        refine Ev.nxk (pkT rfl rfl rfl) ?_
        refine Ev.nxk (mvO rfl) ?_
        refine Ev.nxk (gsF rfl rfl) ?_
        refine Ev.nxk (gsF rfl rfl) ?_
        refine Ev.nxk (gsF rfl rfl) ?_
        refine Ev.nxk (pkT rfl rfl rfl) ?_
        refine Ev.nxk (mvO rfl) ?_
        refine Ev.nxk (gsF rfl rfl) ?_
        refine Ev.nxk (gsF rfl rfl) ?_
        refine Ev.nxk (gsF rfl rfl) ?_
        refine Ev.nxk (gsF rfl rfl) ?_
        refine Ev.nxk (gsF rfl rfl) ?_
        refine Ev.nxk (pkT rfl rfl rfl) ?_
        refine Ev.nxk (mvO rfl) ?_
        refine Ev.nxk (gsF rfl rfl) ?_
        refine Ev.nxk (gsF rfl rfl) ?_
        refine Ev.nxk (gsF rfl rfl) ?_
        refine Ev.nxk (gsF rfl rfl) ?_
        refine Ev.nxk (gsF rfl rfl) ?_
        refine Ev.nxk (gsF rfl rfl) ?_
        refine Ev.nxk (gsU rfl) ?_
        refine Ev.nxk (gsU rfl) ?_
        refine Ev.nxk (gsU rfl) ?_
        refine Ev.nxk (gsF rfl rfl) ?_
        refine Ev.nxk (pkT rfl rfl rfl) ?_
        refine Ev.rend ?_
        intro e197 he198
        have h199 : eget e197 1 = .pt none [.int .i64 a1.Day, .sl none (a1.Cash.map (cI .i64)), .sl none (a1.Tallies.map Tally.c)] := envp he198 rfl h186
        have h200 : eget e197 3 = .int .i64 (a1.Cash.length : Int) := envp he198 rfl h187
        have h201 : eget e197 8 = .loc M.length 1 0 0 := envp he198 rfl h189
        have h202 : eget e197 42 = .sl none (a1.Tallies.map Tally.c) := envp he198 rfl h190
        have h203 : eget e197 43 = .int .i64 (a1.Tallies.length : Int) := envp he198 rfl h191
        have h204 : eget e197 44 = .int .i64 s2_2 := envp he198 rfl h192
        have h205 : eget e197 102 = .bool true := envp he198 rfl rfl
        clear h186 h187 h188 h189 h190 h191 h192
        refine Ev.kseqN ?_
        refine Ev.condT h205 rfl ?_
        refine Ev.seq ?_
        refine Ev.reg (fun _ => rfl) ?_
        refine Ev.nxk (mvO rfl) ?_
        refine Ev.rend ?_
        intro e206 he207
        have h208 : eget e206 2 = .bool false := envp he207 rfl rfl
        clear h199 h200 h201 h202 h203 h204 h205
        refine Ev.kseqN ?_
        refine Ev.ex ?_
        refine Ev.kseqR ?_
        refine Ev.kblkR ?_
        refine Ev.kseqR ?_
        cases h
        exact Ev.kid (bQ_x (RS := (impl_ValidBook_b2_RS a1)) (RR := (impl_ValidBook_b2_RR a1)) (by intro h; cases h) (And.intro rfl h208))
      · refine Ev.nxk (guF rfl hb196 (faO h189 o183 rfl)) ?_
        refine Ev.nxk (guF rfl hb196 (ldO rfl o183 rfl rfl rfl)) ?_
        refine Ev.nxk (guF rfl hb196 (faP h186 ⟨ble rfl, blt rfl⟩ rfl)) ?_
        refine Ev.nxk (guF rfl hb196 (ldP rfl rfl)) ?_
        refine Ev.nxk (guF rfl hb196 (bGtr rfl rfl)) ?_
        refine Ev.nxk (pkF rfl hb196 rfl) ?_
        refine Ev.nxk (mvO rfl) ?_
        rcases ite_some h with ⟨hb209, h⟩ | ⟨hb209, h⟩
        · refine Ev.nxk (gsF rfl hb209) ?_
          refine Ev.nxk (gsF rfl hb209) ?_
          refine Ev.nxk (gsF rfl hb209) ?_
          refine Ev.nxk (pkT rfl hb209 rfl) ?_
          refine Ev.nxk (mvO rfl) ?_
          refine Ev.nxk (gsF rfl rfl) ?_
          refine Ev.nxk (gsF rfl rfl) ?_
          refine Ev.nxk (gsF rfl rfl) ?_
          refine Ev.nxk (pkT rfl rfl rfl) ?_
          refine Ev.nxk (mvO rfl) ?_
          refine Ev.nxk (gsF rfl rfl) ?_
          refine Ev.nxk (gsF rfl rfl) ?_
          refine Ev.nxk (gsF rfl rfl) ?_
          refine Ev.nxk (pkT rfl rfl rfl) ?_
          refine Ev.nxk (mvO rfl) ?_
          refine Ev.nxk (gsF rfl rfl) ?_
          refine Ev.nxk (gsF rfl rfl) ?_
          refine Ev.nxk (gsF rfl rfl) ?_
          refine Ev.nxk (gsF rfl rfl) ?_
          refine Ev.nxk (gsF rfl rfl) ?_
          refine Ev.nxk (pkT rfl rfl rfl) ?_
          refine Ev.nxk (mvO rfl) ?_
          refine Ev.nxk (gsF rfl rfl) ?_
          refine Ev.nxk (gsF rfl rfl) ?_
          refine Ev.nxk (gsF rfl rfl) ?_
          refine Ev.nxk (gsF rfl rfl) ?_
          refine Ev.nxk (gsF rfl rfl) ?_
          refine Ev.nxk (gsF rfl rfl) ?_
          refine Ev.nxk (gsU rfl) ?_
          refine Ev.nxk (gsU rfl) ?_
          refine Ev.nxk (gsU rfl) ?_
          refine Ev.nxk (gsF rfl rfl) ?_
          refine Ev.nxk (pkT rfl rfl rfl) ?_
          refine Ev.rend ?_
          intro e210 he211
          have h212 : eget e210 1 = .pt none [.int .i64 a1.Day, .sl none (a1.Cash.map (cI .i64)), .sl none (a1.Tallies.map Tally.c)] := envp he211 rfl h186
          have h213 : eget e210 3 = .int .i64 (a1.Cash.length : Int) := envp he211 rfl h187
          have h214 : eget e210 8 = .loc M.length 1 0 0 := envp he211 rfl h189
          have h215 : eget e210 42 = .sl none (a1.Tallies.map Tally.c) := envp he211 rfl h190
          have h216 : eget e210 43 = .int .i64 (a1.Tallies.length : Int) := envp he211 rfl h191
          have h217 : eget e210 44 = .int .i64 s2_2 := envp he211 rfl h192
          have h218 : eget e210 102 = .bool true := envp he211 rfl rfl
          clear h186 h187 h188 h189 h190 h191 h192
          refine Ev.kseqN ?_
          refine Ev.condT h218 rfl ?_
          refine Ev.seq ?_
          refine Ev.reg (fun _ => rfl) ?_
          refine Ev.nxk (mvO rfl) ?_
          refine Ev.rend ?_
          intro e219 he220
          have h221 : eget e219 2 = .bool false := envp he220 rfl rfl
          clear h212 h213 h214 h215 h216 h217 h218
          refine Ev.kseqN ?_
          refine Ev.ex ?_
          refine Ev.kseqR ?_
          refine Ev.kblkR ?_
          refine Ev.kseqR ?_
          cases h
          exact Ev.kid (bQ_x (RS := (impl_ValidBook_b2_RS a1)) (RR := (impl_ValidBook_b2_RR a1)) (by intro h; cases h) (And.intro rfl h221))
        · refine Ev.nxk (guF rfl hb209 (faO h189 o183 rfl)) ?_
          refine Ev.nxk (guF rfl hb209 (ldO rfl o183 rfl rfl rfl)) ?_
          refine Ev.nxk (guF rfl hb209 (bLss rfl rfl)) ?_
          refine Ev.nxk (pkF rfl hb209 rfl) ?_
          refine Ev.nxk (mvO rfl) ?_
          rcases ite_some h with ⟨hb222, h⟩ | ⟨hb222, h⟩
          · refine Ev.nxk (gsF rfl hb222) ?_
            refine Ev.nxk (gsF rfl hb222) ?_
            refine Ev.nxk (gsF rfl hb222) ?_
            refine Ev.nxk (pkT rfl hb222 rfl) ?_
            refine Ev.nxk (mvO rfl) ?_
            refine Ev.nxk (gsF rfl rfl) ?_
            refine Ev.nxk (gsF rfl rfl) ?_
            refine Ev.nxk (gsF rfl rfl) ?_
            refine Ev.nxk (pkT rfl rfl rfl) ?_
            refine Ev.nxk (mvO rfl) ?_
            refine Ev.nxk (gsF rfl rfl) ?_
            refine Ev.nxk (gsF rfl rfl) ?_
            refine Ev.nxk (gsF rfl rfl) ?_
            refine Ev.nxk (gsF rfl rfl) ?_
            refine Ev.nxk (gsF rfl rfl) ?_
            refine Ev.nxk (pkT rfl rfl rfl) ?_
            refine Ev.nxk (mvO rfl) ?_
            refine Ev.nxk (gsF rfl rfl) ?_
            refine Ev.nxk (gsF rfl rfl) ?_
            refine Ev.nxk (gsF rfl rfl) ?_
            refine Ev.nxk (gsF rfl rfl) ?_
            refine Ev.nxk (gsF rfl rfl) ?_
            refine Ev.nxk (gsF rfl rfl) ?_
            refine Ev.nxk (gsU rfl) ?_
            refine Ev.nxk (gsU rfl) ?_
            refine Ev.nxk (gsU rfl) ?_
            refine Ev.nxk (gsF rfl rfl) ?_
            refine Ev.nxk (pkT rfl rfl rfl) ?_
            refine Ev.rend ?_
            intro e223 he224
            have h225 : eget e223 1 = .pt none [.int .i64 a1.Day, .sl none (a1.Cash.map (cI .i64)), .sl none (a1.Tallies.map Tally.c)] := envp he224 rfl h186
            have h226 : eget e223 3 = .int .i64 (a1.Cash.length : Int) := envp he224 rfl h187
            have h227 : eget e223 8 = .loc M.length 1 0 0 := envp he224 rfl h189
            have h228 : eget e223 42 = .sl none (a1.Tallies.map Tally.c) := envp he224 rfl h190
            have h229 : eget e223 43 = .int .i64 (a1.Tallies.length : Int) := envp he224 rfl h191
            have h230 : eget e223 44 = .int .i64 s2_2 := envp he224 rfl h192
            have h231 : eget e223 102 = .bool true := envp he224 rfl rfl
            clear h186 h187 h188 h189 h190 h191 h192
            refine Ev.kseqN ?_
            refine Ev.condT h231 rfl ?_
            refine Ev.seq ?_
            refine Ev.reg (fun _ => rfl) ?_
            refine Ev.nxk (mvO rfl) ?_
            refine Ev.rend ?_
            intro e232 he233
            have h234 : eget e232 2 = .bool false := envp he233 rfl rfl
            clear h225 h226 h227 h228 h229 h230 h231
            refine Ev.kseqN ?_
            refine Ev.ex ?_
            refine Ev.kseqR ?_
            refine Ev.kblkR ?_
            refine Ev.kseqR ?_
            cases h
            exact Ev.kid (bQ_x (RS := (impl_ValidBook_b2_RS a1)) (RR := (impl_ValidBook_b2_RR a1)) (by intro h; cases h) (And.intro rfl h234))
          · refine Ev.nxk (guF rfl hb222 (faO h189 o183 rfl)) ?_
            refine Ev.nxk (guF rfl hb222 (ldO rfl o183 rfl rfl rfl)) ?_
            refine Ev.nxk (guF rfl hb222 (bGtr rfl rfl)) ?_
            refine Ev.nxk (pkF rfl hb222 rfl) ?_
            refine Ev.nxk (mvO rfl) ?_
            rcases ite_some h with ⟨hb235, h⟩ | ⟨hb235, h⟩
            · refine Ev.nxk (gsF rfl hb235) ?_
              refine Ev.nxk (gsF rfl hb235) ?_
              refine Ev.nxk (gsF rfl hb235) ?_
              refine Ev.nxk (pkT rfl hb235 rfl) ?_
              refine Ev.nxk (mvO rfl) ?_
              refine Ev.nxk (gsF rfl rfl) ?_
              refine Ev.nxk (gsF rfl rfl) ?_
              refine Ev.nxk (gsF rfl rfl) ?_
              refine Ev.nxk (gsF rfl rfl) ?_
              refine Ev.nxk (gsF rfl rfl) ?_
              refine Ev.nxk (pkT rfl rfl rfl) ?_
              refine Ev.nxk (mvO rfl) ?_
              refine Ev.nxk (gsF rfl rfl) ?_
              refine Ev.nxk (gsF rfl rfl) ?_
              refine Ev.nxk (gsF rfl rfl) ?_
              refine Ev.nxk (gsF rfl rfl) ?_
              refine Ev.nxk (gsF rfl rfl) ?_
              refine Ev.nxk (gsF rfl rfl) ?_
              refine Ev.nxk (gsU rfl) ?_
              refine Ev.nxk (gsU rfl) ?_
              refine Ev.nxk (gsU rfl) ?_
              refine Ev.nxk (gsF rfl rfl) ?_
              refine Ev.nxk (pkT rfl rfl rfl) ?_
              refine Ev.rend ?_
              intro e236 he237
              have h238 : eget e236 1 = .pt none [.int .i64 a1.Day, .sl none (a1.Cash.map (cI .i64)), .sl none (a1.Tallies.map Tally.c)] := envp he237 rfl h186
              have h239 : eget e236 3 = .int .i64 (a1.Cash.length : Int) := envp he237 rfl h187
              have h240 : eget e236 8 = .loc M.length 1 0 0 := envp he237 rfl h189
              have h241 : eget e236 42 = .sl none (a1.Tallies.map Tally.c) := envp he237 rfl h190
              have h242 : eget e236 43 = .int .i64 (a1.Tallies.length : Int) := envp he237 rfl h191
              have h243 : eget e236 44 = .int .i64 s2_2 := envp he237 rfl h192
              have h244 : eget e236 102 = .bool true := envp he237 rfl rfl
              clear h186 h187 h188 h189 h190 h191 h192
              refine Ev.kseqN ?_
              refine Ev.condT h244 rfl ?_
              refine Ev.seq ?_
              refine Ev.reg (fun _ => rfl) ?_
              refine Ev.nxk (mvO rfl) ?_
              refine Ev.rend ?_
              intro e245 he246
              have h247 : eget e245 2 = .bool false := envp he246 rfl rfl
              clear h238 h239 h240 h241 h242 h243 h244
              refine Ev.kseqN ?_
              refine Ev.ex ?_
              refine Ev.kseqR ?_
              refine Ev.kblkR ?_
              refine Ev.kseqR ?_
              cases h
              exact Ev.kid (bQ_x (RS := (impl_ValidBook_b2_RS a1)) (RR := (impl_ValidBook_b2_RR a1)) (by intro h; cases h) (And.intro rfl h247))
            · refine Ev.nxk (guF rfl hb235 (faO h189 o183 rfl)) ?_
              refine Ev.nxk (guF rfl hb235 (ldO rfl o183 rfl rfl rfl)) ?_
              refine Ev.nxk (guF rfl hb235 (bLss rfl rfl)) ?_
              refine Ev.nxk (pkF rfl hb235 rfl) ?_
              refine Ev.nxk (mvO rfl) ?_
              rcases ite_some h with ⟨hb248, h⟩ | ⟨hb248, h⟩
              · refine Ev.nxk (gsF rfl hb248) ?_
                refine Ev.nxk (gsF rfl hb248) ?_
                refine Ev.nxk (gsF rfl hb248) ?_
                refine Ev.nxk (gsF rfl hb248) ?_
                refine Ev.nxk (gsF rfl hb248) ?_
                refine Ev.nxk (pkT rfl hb248 rfl) ?_
                refine Ev.nxk (mvO rfl) ?_
                refine Ev.nxk (gsF rfl rfl) ?_
                refine Ev.nxk (gsF rfl rfl) ?_
                refine Ev.nxk (gsF rfl rfl) ?_
                refine Ev.nxk (gsF rfl rfl) ?_
                refine Ev.nxk (gsF rfl rfl) ?_
                refine Ev.nxk (gsF rfl rfl) ?_
                refine Ev.nxk (gsU rfl) ?_
                refine Ev.nxk (gsU rfl) ?_
                refine Ev.nxk (gsU rfl) ?_
                refine Ev.nxk (gsF rfl rfl) ?_
                refine Ev.nxk (pkT rfl rfl rfl) ?_
                refine Ev.rend ?_
                intro e249 he250
                have h251 : eget e249 1 = .pt none [.int .i64 a1.Day, .sl none (a1.Cash.map (cI .i64)), .sl none (a1.Tallies.map Tally.c)] := envp he250 rfl h186
                have h252 : eget e249 3 = .int .i64 (a1.Cash.length : Int) := envp he250 rfl h187
                have h253 : eget e249 8 = .loc M.length 1 0 0 := envp he250 rfl h189
                have h254 : eget e249 42 = .sl none (a1.Tallies.map Tally.c) := envp he250 rfl h190
                have h255 : eget e249 43 = .int .i64 (a1.Tallies.length : Int) := envp he250 rfl h191
                have h256 : eget e249 44 = .int .i64 s2_2 := envp he250 rfl h192
                have h257 : eget e249 102 = .bool true := envp he250 rfl rfl
                clear h186 h187 h188 h189 h190 h191 h192
                refine Ev.kseqN ?_
                refine Ev.condT h257 rfl ?_
                refine Ev.seq ?_
                refine Ev.reg (fun _ => rfl) ?_
                refine Ev.nxk (mvO rfl) ?_
                refine Ev.rend ?_
                intro e258 he259
                have h260 : eget e258 2 = .bool false := envp he259 rfl rfl
                clear h251 h252 h253 h254 h255 h256 h257
                refine Ev.kseqN ?_
                refine Ev.ex ?_
                refine Ev.kseqR ?_
                refine Ev.kblkR ?_
                refine Ev.kseqR ?_
                cases h
                exact Ev.kid (bQ_x (RS := (impl_ValidBook_b2_RS a1)) (RR := (impl_ValidBook_b2_RR a1)) (by intro h; cases h) (And.intro rfl h260))
              · refine Ev.nxk (guF rfl hb248 (faO h189 o183 rfl)) ?_
                refine Ev.nxk (guF rfl hb248 (ldO rfl o183 rfl rfl rfl)) ?_
                refine Ev.nxk (guF rfl hb248 (faO h189 o183 rfl)) ?_
                refine Ev.nxk (guF rfl hb248 (ldO rfl o183 rfl rfl rfl)) ?_
                refine Ev.nxk (guF rfl hb248 (bGtr rfl rfl)) ?_
                refine Ev.nxk (pkF rfl hb248 rfl) ?_
                refine Ev.nxk (mvO rfl) ?_
                rcases ite_some h with ⟨hb261, h⟩ | ⟨hb261, h⟩
                · refine Ev.nxk (gsF rfl hb261) ?_
                  refine Ev.nxk (gsF rfl hb261) ?_
                  refine Ev.nxk (gsF rfl hb261) ?_
                  refine Ev.nxk (gsF rfl hb261) ?_
                  refine Ev.nxk (gsF rfl hb261) ?_
                  refine Ev.nxk (gsF rfl hb261) ?_
                  refine Ev.nxk (gsU rfl) ?_
                  refine Ev.nxk (gsU rfl) ?_
                  refine Ev.nxk (gsU rfl) ?_
                  refine Ev.nxk (gsF rfl hb261) ?_
                  refine Ev.nxk (pkT rfl hb261 rfl) ?_
                  refine Ev.rend ?_
                  intro e262 he263
                  have h264 : eget e262 1 = .pt none [.int .i64 a1.Day, .sl none (a1.Cash.map (cI .i64)), .sl none (a1.Tallies.map Tally.c)] := envp he263 rfl h186
                  have h265 : eget e262 3 = .int .i64 (a1.Cash.length : Int) := envp he263 rfl h187
                  have h266 : eget e262 8 = .loc M.length 1 0 0 := envp he263 rfl h189
                  have h267 : eget e262 42 = .sl none (a1.Tallies.map Tally.c) := envp he263 rfl h190
                  have h268 : eget e262 43 = .int .i64 (a1.Tallies.length : Int) := envp he263 rfl h191
                  have h269 : eget e262 44 = .int .i64 s2_2 := envp he263 rfl h192
                  have h270 : eget e262 102 = .bool true := envp he263 rfl rfl
                  clear h186 h187 h188 h189 h190 h191 h192
                  refine Ev.kseqN ?_
                  refine Ev.condT h270 rfl ?_
                  refine Ev.seq ?_
                  refine Ev.reg (fun _ => rfl) ?_
                  refine Ev.nxk (mvO rfl) ?_
                  refine Ev.rend ?_
                  intro e271 he272
                  have h273 : eget e271 2 = .bool false := envp he272 rfl rfl
                  clear h264 h265 h266 h267 h268 h269 h270
                  refine Ev.kseqN ?_
                  refine Ev.ex ?_
                  refine Ev.kseqR ?_
                  refine Ev.kblkR ?_
                  refine Ev.kseqR ?_
                  cases h
                  exact Ev.kid (bQ_x (RS := (impl_ValidBook_b2_RS a1)) (RR := (impl_ValidBook_b2_RR a1)) (by intro h; cases h) (And.intro rfl h273))
                · refine Ev.nxk (guF rfl hb261 (faO h189 o183 rfl)) ?_
                  refine Ev.nxk (guF rfl hb261 (ldO rfl o183 rfl rfl rfl)) ?_
                  refine Ev.nxk (guF rfl hb261 (faO h189 o183 rfl)) ?_
                  refine Ev.nxk (guF rfl hb261 (ldO rfl o183 rfl rfl rfl)) ?_
                  refine Ev.nxk (guF rfl hb261 (bEql rfl rfl)) ?_
                  refine Ev.nxk (guF rfl hb261 (mvO rfl)) ?_
                  rcases ite_some h with ⟨hb274, h⟩ | ⟨hb274, h⟩
                  · refine Ev.nxk (guT rfl hb274 (faO h189 o183 rfl)) ?_
                    refine Ev.nxk (guT rfl hb274 (ldO rfl o183 rfl rfl rfl)) ?_
                    refine Ev.nxk (guT rfl hb274 (bNeq rfl rfl)) ?_
                    refine Ev.nxk (guF rfl hb261 (pkT rfl hb274 rfl)) ?_
                    refine Ev.nxk (pkF rfl hb261 rfl) ?_
                    refine Ev.rend ?_
                    intro e275 he276
                    have h277 : eget e275 1 = .pt none [.int .i64 a1.Day, .sl none (a1.Cash.map (cI .i64)), .sl none (a1.Tallies.map Tally.c)] := envp he276 rfl h186
                    have h278 : eget e275 3 = .int .i64 (a1.Cash.length : Int) := envp he276 rfl h187
                    have h279 : eget e275 8 = .loc M.length 1 0 0 := envp he276 rfl h189
                    have h280 : eget e275 42 = .sl none (a1.Tallies.map Tally.c) := envp he276 rfl h190
                    have h281 : eget e275 43 = .int .i64 (a1.Tallies.length : Int) := envp he276 rfl h191
                    have h282 : eget e275 44 = .int .i64 s2_2 := envp he276 rfl h192
                    have h283 : eget e275 102 = .bool (x175.Left != 0) := envp he276 rfl rfl
                    clear h186 h187 h188 h189 h190 h191 h192
                    refine Ev.kseqN ?_
                    rcases ite_some h with ⟨hb284, h⟩ | ⟨hb284, h⟩
                    · refine Ev.condT h283 hb284 ?_
                      refine Ev.seq ?_
                      refine Ev.reg (fun _ => rfl) ?_
                      refine Ev.nxk (mvO rfl) ?_
                      refine Ev.rend ?_
                      intro e285 he286
                      have h287 : eget e285 2 = .bool false := envp he286 rfl rfl
                      clear h277 h278 h279 h280 h281 h282 h283
                      refine Ev.kseqN ?_
                      refine Ev.ex ?_
                      refine Ev.kseqR ?_
                      refine Ev.kblkR ?_
                      refine Ev.kseqR ?_
                      cases h
                      exact Ev.kid (bQ_x (RS := (impl_ValidBook_b2_RS a1)) (RR := (impl_ValidBook_b2_RR a1)) (by intro h; cases h) (And.intro rfl h287))
                    · refine Ev.condF h283 hb284 ?_
                      refine Ev.ex ?_
                      refine Ev.kseqN ?_
                      refine Ev.reg (fun _ => rfl) ?_
                      refine Ev.nxk (faO h279 o183 rfl) ?_
                      refine Ev.nxk (ldO rfl o183 rfl rfl rfl) ?_
                      refine Ev.nxk (mvO rfl) ?_
                      refine Ev.rend ?_
                      intro e288 he289
                      have h290 : eget e288 1 = .pt none [.int .i64 a1.Day, .sl none (a1.Cash.map (cI .i64)), .sl none (a1.Tallies.map Tally.c)] := envp he289 rfl h277
                      have h291 : eget e288 3 = .int .i64 (a1.Cash.length : Int) := envp he289 rfl h278
                      have h292 : eget e288 6 = .int .i64 x175.Cut := envp he289 rfl rfl
                      have h293 : eget e288 42 = .sl none (a1.Tallies.map Tally.c) := envp he289 rfl h280
                      have h294 : eget e288 43 = .int .i64 (a1.Tallies.length : Int) := envp he289 rfl h281
                      have h295 : eget e288 44 = .int .i64 s2_2 := envp he289 rfl h282
                      clear h277 h278 h279 h280 h281 h282 h283
                      refine Ev.kblkN ?_
                      refine Ev.kseqN ?_
                      refine Ev.reg (fun _ => rfl) ?_
                      refine Ev.nxk (bAdd h295 rfl) ?_
                      refine Ev.nxk (mvO rfl) ?_
                      refine Ev.rend ?_
                      intro e296 he297
                      have h298 : eget e296 1 = .pt none [.int .i64 a1.Day, .sl none (a1.Cash.map (cI .i64)), .sl none (a1.Tallies.map Tally.c)] := envp he297 rfl h290
                      have h299 : eget e296 3 = .int .i64 (a1.Cash.length : Int) := envp he297 rfl h291
                      have h300 : eget e296 6 = .int .i64 x175.Cut := envp he297 rfl h292
                      have h301 : eget e296 42 = .sl none (a1.Tallies.map Tally.c) := envp he297 rfl h293
                      have h302 : eget e296 43 = .int .i64 (a1.Tallies.length : Int) := envp he297 rfl h294
                      have h303 : eget e296 44 = .int .i64 (IntKind.i64.wrap (s2_2 + 1)) := envp he297 rfl rfl
                      clear h290 h291 h292 h293 h294
                      cases h
                      exact Ev.kid (bQ_n (RS := (impl_ValidBook_b2_RS a1)) (RR := (impl_ValidBook_b2_RR a1)) (And.intro h298 (And.intro h299 (And.intro h300 (And.intro h301 (And.intro h302 h303))))))
                  · refine Ev.nxk (gsT rfl hb274) ?_
                    refine Ev.nxk (gsT rfl hb274) ?_
                    refine Ev.nxk (gsT rfl hb274) ?_
                    refine Ev.nxk (guF rfl hb261 (pkF rfl hb274 rfl)) ?_
                    refine Ev.nxk (pkF rfl hb261 rfl) ?_
                    refine Ev.rend ?_
                    intro e304 he305
                    have h306 : eget e304 1 = .pt none [.int .i64 a1.Day, .sl none (a1.Cash.map (cI .i64)), .sl none (a1.Tallies.map Tally.c)] := envp he305 rfl h186
                    have h307 : eget e304 3 = .int .i64 (a1.Cash.length : Int) := envp he305 rfl h187
                    have h308 : eget e304 8 = .loc M.length 1 0 0 := envp he305 rfl h189
                    have h309 : eget e304 42 = .sl none (a1.Tallies.map Tally.c) := envp he305 rfl h190
                    have h310 : eget e304 43 = .int .i64 (a1.Tallies.length : Int) := envp he305 rfl h191
                    have h311 : eget e304 44 = .int .i64 s2_2 := envp he305 rfl h192
                    have h312 : eget e304 102 = .bool false := envp he305 rfl rfl
                    clear h186 h187 h188 h189 h190 h191 h192
                    refine Ev.kseqN ?_
                    refine Ev.condF h312 rfl ?_
                    refine Ev.ex ?_
                    refine Ev.kseqN ?_
                    refine Ev.reg (fun _ => rfl) ?_
                    refine Ev.nxk (faO h308 o183 rfl) ?_
                    refine Ev.nxk (ldO rfl o183 rfl rfl rfl) ?_
                    refine Ev.nxk (mvO rfl) ?_
                    refine Ev.rend ?_
                    intro e313 he314
                    have h315 : eget e313 1 = .pt none [.int .i64 a1.Day, .sl none (a1.Cash.map (cI .i64)), .sl none (a1.Tallies.map Tally.c)] := envp he314 rfl h306
                    have h316 : eget e313 3 = .int .i64 (a1.Cash.length : Int) := envp he314 rfl h307
                    have h317 : eget e313 6 = .int .i64 x175.Cut := envp he314 rfl rfl
                    have h318 : eget e313 42 = .sl none (a1.Tallies.map Tally.c) := envp he314 rfl h309
                    have h319 : eget e313 43 = .int .i64 (a1.Tallies.length : Int) := envp he314 rfl h310
                    have h320 : eget e313 44 = .int .i64 s2_2 := envp he314 rfl h311
                    clear h306 h307 h308 h309 h310 h311 h312
                    refine Ev.kblkN ?_
                    refine Ev.kseqN ?_
                    refine Ev.reg (fun _ => rfl) ?_
                    refine Ev.nxk (bAdd h320 rfl) ?_
                    refine Ev.nxk (mvO rfl) ?_
                    refine Ev.rend ?_
                    intro e321 he322
                    have h323 : eget e321 1 = .pt none [.int .i64 a1.Day, .sl none (a1.Cash.map (cI .i64)), .sl none (a1.Tallies.map Tally.c)] := envp he322 rfl h315
                    have h324 : eget e321 3 = .int .i64 (a1.Cash.length : Int) := envp he322 rfl h316
                    have h325 : eget e321 6 = .int .i64 x175.Cut := envp he322 rfl h317
                    have h326 : eget e321 42 = .sl none (a1.Tallies.map Tally.c) := envp he322 rfl h318
                    have h327 : eget e321 43 = .int .i64 (a1.Tallies.length : Int) := envp he322 rfl h319
                    have h328 : eget e321 44 = .int .i64 (IntKind.i64.wrap (s2_2 + 1)) := envp he322 rfl rfl
                    clear h315 h316 h317 h318 h319
                    cases h
                    exact Ev.kid (bQ_n (RS := (impl_ValidBook_b2_RS a1)) (RR := (impl_ValidBook_b2_RR a1)) (And.intro h323 (And.intro h324 (And.intro h325 (And.intro h326 (And.intro h327 h328))))))
    · refine Ev.nxk (gsF rfl (congrArg Bool.not hb195)) ?_
      refine Ev.nxk (gsF rfl (congrArg Bool.not hb195)) ?_
      refine Ev.nxk (gsF rfl (congrArg Bool.not hb195)) ?_
      refine Ev.nxk (gsF rfl (congrArg Bool.not hb195)) ?_
      refine Ev.nxk (pkT rfl (congrArg Bool.not hb195) rfl) ?_
      refine Ev.nxk (mvO rfl) ?_
      refine Ev.nxk (gsF rfl rfl) ?_
      refine Ev.nxk (gsF rfl rfl) ?_
      refine Ev.nxk (gsF rfl rfl) ?_
      refine Ev.nxk (gsF rfl rfl) ?_
      refine Ev.nxk (gsF rfl rfl) ?_
      refine Ev.nxk (pkT rfl rfl rfl) ?_
      refine Ev.nxk (mvO rfl) ?_
      refine Ev.nxk (gsF rfl rfl) ?_
      refine Ev.nxk (gsF rfl rfl) ?_
      refine Ev.nxk (gsF rfl rfl) ?_
      refine Ev.nxk (pkT rfl rfl rfl) ?_
      refine Ev.nxk (mvO rfl) ?_
      refine Ev.nxk (gsF rfl rfl) ?_
      refine Ev.nxk (gsF rfl rfl) ?_
      refine Ev.nxk (gsF rfl rfl) ?_
      refine Ev.nxk (pkT rfl rfl rfl) ?_
      refine Ev.nxk (mvO rfl) ?_
      refine Ev.nxk (gsF rfl rfl) ?_
      refine Ev.nxk (gsF rfl rfl) ?_
      refine Ev.nxk (gsF rfl rfl) ?_
      refine Ev.nxk (pkT rfl rfl rfl) ?_
      refine Ev.nxk (mvO rfl) ?_
      refine Ev.nxk (gsF rfl rfl) ?_
      refine Ev.nxk (gsF rfl rfl) ?_
      refine Ev.nxk (gsF rfl rfl) ?_
      refine Ev.nxk (gsF rfl rfl) ?_
      refine Ev.nxk (gsF rfl rfl) ?_
      refine Ev.nxk (pkT rfl rfl rfl) ?_
      refine Ev.nxk (mvO rfl) ?_
      refine Ev.nxk (gsF rfl rfl) ?_
      refine Ev.nxk (gsF rfl rfl) ?_
      refine Ev.nxk (gsF rfl rfl) ?_
      refine Ev.nxk (gsF rfl rfl) ?_
      refine Ev.nxk (gsF rfl rfl) ?_
      refine Ev.nxk (gsF rfl rfl) ?_
      refine Ev.nxk (gsU rfl) ?_
      refine Ev.nxk (gsU rfl) ?_
      refine Ev.nxk (gsU rfl) ?_
      refine Ev.nxk (gsF rfl rfl) ?_
      refine Ev.nxk (pkT rfl rfl rfl) ?_
      refine Ev.rend ?_
      intro e329 he330
      have h331 : eget e329 1 = .pt none [.int .i64 a1.Day, .sl none (a1.Cash.map (cI .i64)), .sl none (a1.Tallies.map Tally.c)] := envp he330 rfl h186
      have h332 : eget e329 3 = .int .i64 (a1.Cash.length : Int) := envp he330 rfl h187
      have h333 : eget e329 8 = .loc M.length 1 0 0 := envp he330 rfl h189
      have h334 : eget e329 42 = .sl none (a1.Tallies.map Tally.c) := envp he330 rfl h190
      have h335 : eget e329 43 = .int .i64 (a1.Tallies.length : Int) := envp he330 rfl h191
      have h336 : eget e329 44 = .int .i64 s2_2 := envp he330 rfl h192
      have h337 : eget e329 102 = .bool true := envp he330 rfl rfl
      clear h186 h187 h188 h189 h190 h191 h192
      refine Ev.kseqN ?_
      refine Ev.condT h337 rfl ?_
      refine Ev.seq ?_
      refine Ev.reg (fun _ => rfl) ?_
      refine Ev.nxk (mvO rfl) ?_
      refine Ev.rend ?_
      intro e338 he339
      have h340 : eget e338 2 = .bool false := envp he339 rfl rfl
      clear h331 h332 h333 h334 h335 h336 h337
      refine Ev.kseqN ?_
      refine Ev.ex ?_
      refine Ev.kseqR ?_
      refine Ev.kblkR ?_
      refine Ev.kseqR ?_
      cases h
      exact Ev.kid (bQ_x (RS := (impl_ValidBook_b2_RS a1)) (RR := (impl_ValidBook_b2_RR a1)) (by intro h; cases h) (And.intro rfl h340))
  · refine Ev.condF h173 hb174 ?_
    refine Ev.ex ?_
    refine Ev.kseqE ?_
    cases h
    exact Ev.kid (bQ_x (RS := (impl_ValidBook_b2_RS a1)) (RR := (impl_ValidBook_b2_RR a1)) (by intro h; cases h) (And.intro rfl trivial))
noncomputable def impl_ValidBook (a1 : Book) : Option Bool :=
  ((impl_isBookDay a1.Day).bind fun r9 =>
  if r9 = true then
    if (decide ((a1.Cash.length : Int) < 1)) = true then
      some true
    else
      if (decide ((a1.Cash.length : Int) > 16)) = true then
        some true
      else
        some (decide ((a1.Tallies.length : Int) > 40))
  else
    some true).bind fun y35 =>
  if y35 = true then
    some false
  else
    (Lw (impl_ValidBook_b1 a1) 0).bind fun r => match r with
    | (.inl _) =>
      some false
    | (.inr _) =>
      (Lw (impl_ValidBook_b2 a1) (0, 0)).bind fun r => match r with
      | (.inl _) =>
        some false
      | (.inr _) =>
        some true
def impl_ValidBook_enc (r : Bool) : AV := .bool r
theorem impl_ValidBook_ok (a1 : Book) (r : Bool) (h : impl_ValidBook a1 = some r) : Ev (fun k => CN k 58 [.agg [.int .i64 a1.Day, .sl none (a1.Cash.map (cI .i64)), .sl none (a1.Tallies.map Tally.c)]] []) (fun p => rRes p.2 p.1 = impl_ValidBook_enc r) := by
  unfold impl_ValidBook at h
  refine Ev.enter (F := fun k => f58 (CN k) k) (fun k => callN_eq rfl Try.func58 rfl rfl rfl (by decide +kernel) (f58_eq _ _)) ?_
  refine Ev.seq ?_
  refine Ev.reg (fun _ => rfl) ?_
  refine Ev.nxk (bxI rfl rfl ⟨rfl, rfl, by decide⟩) ?_
  refine Ev.nxk (mvO rfl) ?_
  refine Ev.rend ?_
  intro e1 he2
  have h3 : eget e1 1 = .pt none [.int .i64 a1.Day, .sl none (a1.Cash.map (cI .i64)), .sl none (a1.Tallies.map Tally.c)] := envp he2 rfl rfl
  refine Ev.kseqN ?_
  refine Ev.seq ?_
  refine Ev.reg (fun _ => rfl) ?_
  refine Ev.nxk (faP h3 ⟨ble rfl, blt rfl⟩ rfl) ?_
  refine Ev.nxk (ldP rfl rfl) ?_
  refine Ev.nxk (lnS Try.underlying22 rfl) ?_
  refine Ev.nxk (mvO rfl) ?_
  refine Ev.rend ?_
  intro e4 he5
  have h6 : eget e4 1 = .pt none [.int .i64 a1.Day, .sl none (a1.Cash.map (cI .i64)), .sl none (a1.Tallies.map Tally.c)] := envp he5 rfl h3
  have h7 : eget e4 3 = .int .i64 (a1.Cash.length : Int) := envp he5 rfl rfl
  clear h3
  refine Ev.kseqN ?_
  refine Ev.seq ?_
  refine Ev.seq ?_
  obtain ⟨r353, hr354, h⟩ := bind_some h
  refine Ev.cut (Q1 := impl_ValidBook_c1_Q a1 r353) (by
      have h := hr354
      refine Ev.reg (fun _ => rfl) ?_
      refine Ev.nxk (faP h6 ⟨ble rfl, blt rfl⟩ rfl) ?_
      refine Ev.nxk (ldP rfl rfl) ?_
      obtain ⟨r9, hx8, h⟩ := bind_some h
      refine Ev.nxck (Ev.call (v := .bool r9) rfl (cns rfl rfl) rfl (impl_isBookDay_ok a1.Day _ hx8) (fun h => nomatch (show false = true from h))) ?_
      refine Ev.nxk (uNot rfl) ?_
      refine Ev.nxk (mvO rfl) ?_
      rcases ite_some h with ⟨hb10, h⟩ | ⟨hb10, h⟩
      · refine Ev.nxk (guF rfl (congrArg Bool.not hb10) (mvO h7)) ?_
        refine Ev.nxk (guF rfl (congrArg Bool.not hb10) (bLss rfl rfl)) ?_
        refine Ev.nxk (pkF rfl (congrArg Bool.not hb10) rfl) ?_
        refine Ev.nxk (mvO rfl) ?_
        rcases ite_some h with ⟨hb11, h⟩ | ⟨hb11, h⟩
        · refine Ev.nxk (gsF rfl hb11) ?_
          refine Ev.nxk (gsF rfl hb11) ?_
          refine Ev.nxk (pkT rfl hb11 rfl) ?_
          refine Ev.nxk (mvO rfl) ?_
          refine Ev.nxk (gsF rfl rfl) ?_
          refine Ev.nxk (gsF rfl rfl) ?_
          refine Ev.nxk (gsF rfl rfl) ?_
          refine Ev.nxk (gsF rfl rfl) ?_
          refine Ev.nxk (pkT rfl rfl rfl) ?_
          refine Ev.rend ?_
          intro e12 he13
          have h14 : eget e12 1 = .pt none [.int .i64 a1.Day, .sl none (a1.Cash.map (cI .i64)), .sl none (a1.Tallies.map Tally.c)] := envp he13 rfl h6
          have h15 : eget e12 3 = .int .i64 (a1.Cash.length : Int) := envp he13 rfl h7
          have h16 : eget e12 29 = .bool true := envp he13 rfl rfl
          clear h6 h7
          cases h
          exact Ev.kid (show impl_ValidBook_c1_Q a1 _ _ from (And.intro rfl (And.intro h14 (And.intro h15 h16))))
        · refine Ev.nxk (guF rfl hb11 (mvO h7)) ?_
          refine Ev.nxk (guF rfl hb11 (bGtr rfl rfl)) ?_
          refine Ev.nxk (pkF rfl hb11 rfl) ?_
          refine Ev.nxk (mvO rfl) ?_
          rcases ite_some h with ⟨hb17, h⟩ | ⟨hb17, h⟩
          · refine Ev.nxk (gsF rfl hb17) ?_
            refine Ev.nxk (gsF rfl hb17) ?_
            refine Ev.nxk (gsF rfl hb17) ?_
            refine Ev.nxk (gsF rfl hb17) ?_
            refine Ev.nxk (pkT rfl hb17 rfl) ?_
            refine Ev.rend ?_
            intro e18 he19
            have h20 : eget e18 1 = .pt none [.int .i64 a1.Day, .sl none (a1.Cash.map (cI .i64)), .sl none (a1.Tallies.map Tally.c)] := envp he19 rfl h6
            have h21 : eget e18 3 = .int .i64 (a1.Cash.length : Int) := envp he19 rfl h7
            have h22 : eget e18 29 = .bool true := envp he19 rfl rfl
            clear h6 h7
            cases h
            exact Ev.kid (show impl_ValidBook_c1_Q a1 _ _ from (And.intro rfl (And.intro h20 (And.intro h21 h22))))
          · refine Ev.nxk (guF rfl hb17 (faP h6 ⟨ble rfl, blt rfl⟩ rfl)) ?_
            refine Ev.nxk (guF rfl hb17 (ldP rfl rfl)) ?_
            refine Ev.nxk (guF rfl hb17 (lnS Try.underlying29 rfl)) ?_
            refine Ev.nxk (guF rfl hb17 (bGtr rfl rfl)) ?_
            refine Ev.nxk (pkF rfl hb17 rfl) ?_
            refine Ev.rend ?_
            intro e23 he24
            have h25 : eget e23 1 = .pt none [.int .i64 a1.Day, .sl none (a1.Cash.map (cI .i64)), .sl none (a1.Tallies.map Tally.c)] := envp he24 rfl h6
            have h26 : eget e23 3 = .int .i64 (a1.Cash.length : Int) := envp he24 rfl h7
            have h27 : eget e23 29 = .bool (decide ((a1.Tallies.length : Int) > 40)) := envp he24 rfl rfl
            clear h6 h7
            cases h
            exact Ev.kid (show impl_ValidBook_c1_Q a1 _ _ from (And.intro rfl (And.intro h25 (And.intro h26 h27))))
      · refine Ev.nxk (gsF rfl (congrArg Bool.not hb10)) ?_
        refine Ev.nxk (gsF rfl (congrArg Bool.not hb10)) ?_
        refine Ev.nxk (pkT rfl (congrArg Bool.not hb10) rfl) ?_
        refine Ev.nxk (mvO rfl) ?_
        refine Ev.nxk (gsF rfl rfl) ?_
        refine Ev.nxk (gsF rfl rfl) ?_
        refine Ev.nxk (pkT rfl rfl rfl) ?_
        refine Ev.nxk (mvO rfl) ?_
        refine Ev.nxk (gsF rfl rfl) ?_
        refine Ev.nxk (gsF rfl rfl) ?_
        refine Ev.nxk (gsF rfl rfl) ?_
        refine Ev.nxk (gsF rfl rfl) ?_
        refine Ev.nxk (pkT rfl rfl rfl) ?_
        refine Ev.rend ?_
        intro e28 he29
        have h30 : eget e28 1 = .pt none [.int .i64 a1.Day, .sl none (a1.Cash.map (cI .i64)), .sl none (a1.Tallies.map Tally.c)] := envp he29 rfl h6
        have h31 : eget e28 3 = .int .i64 (a1.Cash.length : Int) := envp he29 rfl h7
        have h32 : eget e28 29 = .bool true := envp he29 rfl rfl
        clear h6 h7
        cases h
        exact Ev.kid (show impl_ValidBook_c1_Q a1 _ _ from (And.intro rfl (And.intro h30 (And.intro h31 h32))))) ?_
  revert h hr354
  revert r353
  intro y35 hr354 h
  intro x e33 M34 hq352
  obtain ⟨rfl, h36, h37, h38⟩ := hq352
  refine Ev.kseqN ?_
  rcases ite_some h with ⟨hb39, h⟩ | ⟨hb39, h⟩
  · refine Ev.condT h38 hb39 ?_
    refine Ev.seq ?_
    refine Ev.reg (fun _ => rfl) ?_
    refine Ev.nxk (mvO rfl) ?_
    refine Ev.rend ?_
    intro e40 he41
    have h42 : eget e40 2 = .bool false := envp he41 rfl rfl
    clear h36 h37 h38
    refine Ev.kseqN ?_
    refine Ev.ex ?_
    refine Ev.kseqR ?_
    cases h
    exact Ev.kendR (resT h42 res0) rfl
  · refine Ev.condF h38 hb39 ?_
    refine Ev.ex ?_
    refine Ev.kseqN ?_
    refine Ev.seq ?_
    refine Ev.seq ?_
    refine Ev.reg (fun _ => rfl) ?_
    refine Ev.nxk (faP h36 ⟨ble rfl, blt rfl⟩ rfl) ?_
    refine Ev.nxk (ldP rfl rfl) ?_
    refine Ev.nxk (lnS Try.underlying22 rfl) ?_
    refine Ev.nxk (mvO rfl) ?_
    refine Ev.rend ?_
    intro e43 he44
    have h45 : eget e43 1 = .pt none [.int .i64 a1.Day, .sl none (a1.Cash.map (cI .i64)), .sl none (a1.Tallies.map Tally.c)] := envp he44 rfl h36
    have h46 : eget e43 3 = .int .i64 (a1.Cash.length : Int) := envp he44 rfl h37
    have h47 : eget e43 31 = .sl none (a1.Cash.map (cI .i64)) := envp he44 rfl rfl
    have h48 : eget e43 32 = .int .i64 (a1.Cash.length : Int) := envp he44 rfl rfl
    have h49 : eget e43 33 = .int .i64 0 := envp he44 rfl rfl
    clear h36 h37 h38
    refine Ev.kseqN ?_
    refine Ev.blk ?_
    obtain ⟨r114, hr115, h⟩ := bind_some h
    rcases r114 with _ | _
    · refine Ev.loop (RS := impl_ValidBook_b1_RS a1) (RR := impl_ValidBook_b1_RR a1) (fun s r h e M hs => impl_ValidBook_b1_ok a1 s r h e M hs) hr115 (And.intro h45 (And.intro h46 (And.intro h47 (And.intro h48 h49)))) ?_
      intro x e117 M118 hq116
      obtain ⟨rfl, h119⟩ := hq116
      refine Ev.kblkR ?_
      refine Ev.kseqR ?_
      cases h
      exact Ev.kendR (resT h119 res0) rfl
    · refine Ev.loop (RS := impl_ValidBook_b1_RS a1) (RR := impl_ValidBook_b1_RR a1) (fun s r h e M hs => impl_ValidBook_b1_ok a1 s r h e M hs) hr115 (And.intro h45 (And.intro h46 (And.intro h47 (And.intro h48 h49)))) ?_
      intro x e120 M121 hq116
      obtain ⟨rfl, h122, h123⟩ := hq116
      refine Ev.kblkE ?_
      refine Ev.kseqN ?_
      refine Ev.seq ?_
      refine Ev.reg (fun _ => rfl) ?_
      refine Ev.nxk (mvO rfl) ?_
      refine Ev.rend ?_
      intro e124 he125
      have h126 : eget e124 1 = .pt none [.int .i64 a1.Day, .sl none (a1.Cash.map (cI .i64)), .sl none (a1.Tallies.map Tally.c)] := envp he125 rfl h122
      have h127 : eget e124 3 = .int .i64 (a1.Cash.length : Int) := envp he125 rfl h123
      have h128 : eget e124 6 = .int .i64 0 := envp he125 rfl rfl
      clear h122 h123
      refine Ev.kseqN ?_
      refine Ev.seq ?_
      refine Ev.seq ?_
      refine Ev.reg (fun _ => rfl) ?_
      refine Ev.nxk (faP h126 ⟨ble rfl, blt rfl⟩ rfl) ?_
      refine Ev.nxk (ldP rfl rfl) ?_
      refine Ev.nxk (lnS Try.underlying29 rfl) ?_
      refine Ev.nxk (mvO rfl) ?_
      refine Ev.rend ?_
      intro e129 he130
      have h131 : eget e129 1 = .pt none [.int .i64 a1.Day, .sl none (a1.Cash.map (cI .i64)), .sl none (a1.Tallies.map Tally.c)] := envp he130 rfl h126
      have h132 : eget e129 3 = .int .i64 (a1.Cash.length : Int) := envp he130 rfl h127
      have h133 : eget e129 6 = .int .i64 0 := envp he130 rfl h128
      have h134 : eget e129 42 = .sl none (a1.Tallies.map Tally.c) := envp he130 rfl rfl
      have h135 : eget e129 43 = .int .i64 (a1.Tallies.length : Int) := envp he130 rfl rfl
      have h136 : eget e129 44 = .int .i64 0 := envp he130 rfl rfl
      clear h126 h127 h128
      refine Ev.kseqN ?_
      refine Ev.blk ?_
      obtain ⟨r341, hr342, h⟩ := bind_some h
      rcases r341 with _ | _
      · refine Ev.loop (RS := impl_ValidBook_b2_RS a1) (RR := impl_ValidBook_b2_RR a1) (fun s r h e M hs => impl_ValidBook_b2_ok a1 s r h e M hs) hr342 (And.intro h131 (And.intro h132 (And.intro h133 (And.intro h134 (And.intro h135 h136))))) ?_
        intro x e344 M345 hq343
        obtain ⟨rfl, h346⟩ := hq343
        refine Ev.kblkR ?_
        refine Ev.kseqR ?_
        cases h
        exact Ev.kendR (resT h346 res0) rfl
      · refine Ev.loop (RS := impl_ValidBook_b2_RS a1) (RR := impl_ValidBook_b2_RR a1) (fun s r h e M hs => impl_ValidBook_b2_ok a1 s r h e M hs) hr342 (And.intro h131 (And.intro h132 (And.intro h133 (And.intro h134 (And.intro h135 h136))))) ?_
        intro x e347 M348 hq343
        obtain ⟨rfl, _⟩ := hq343
        refine Ev.kblkE ?_
        refine Ev.kseqN ?_
        refine Ev.seq ?_
        refine Ev.reg (fun _ => rfl) ?_
        refine Ev.nxk (mvO rfl) ?_
        refine Ev.rend ?_
        intro e349 he350
        have h351 : eget e349 2 = .bool true := envp he350 rfl rfl
        refine Ev.kseqN ?_
        refine Ev.ex ?_
        cases h
        exact Ev.kendR (resT h351 res0) rfl
/-! ### loop.example/g01263/laws.toTally (f57) -/
noncomputable def laws_toTally (a1 : Tally) : Option (Int × Int × Int × Int × Int) :=
  some (a1.Debtor, a1.Holder, a1.Cut, a1.Amount, a1.Left)
def laws_toTally_enc (r : Int × Int × Int × Int × Int) : AV := .agg [.int .i64 r.1, .int .i64 r.2.1, .int .i64 r.2.2.1, .int .i64 r.2.2.2.1, .int .i64 r.2.2.2.2]
theorem laws_toTally_ok (a1 : Tally) (r : Int × Int × Int × Int × Int) (h : laws_toTally a1 = some r) : Ev (fun k => CN k 57 [.agg [.int .i64 a1.Debtor, .int .i64 a1.Holder, .int .i64 a1.Cut, .int .i64 a1.Amount, .int .i64 a1.Left]] []) (fun p => rRes p.2 p.1 = laws_toTally_enc r) := by
  unfold laws_toTally at h
  refine Ev.enter (F := fun k => f57 (CN k) k) (fun k => callN_eq rfl Try.func57 rfl rfl rfl (by decide +kernel) (f57_eq _ _)) ?_
  refine Ev.seq ?_
  refine Ev.reg (fun _ => rfl) ?_
  refine Ev.nxk (bxI rfl rfl ⟨rfl, rfl, by decide⟩) ?_
  refine Ev.nxpush (alO zero78) ?_
  intro M2 hM3
  have o4 : M2[([] : Mem).length]? = some (.live ⟨.box, 78, 5, [[.int .i64 0, .int .i64 0, .int .i64 0, .int .i64 0, .int .i64 0]]⟩) := push_new hM3
  refine Ev.rend ?_
  intro e5 he6
  have h7 : eget e5 1 = .pt none [.int .i64 a1.Debtor, .int .i64 a1.Holder, .int .i64 a1.Cut, .int .i64 a1.Amount, .int .i64 a1.Left] := envp he6 rfl rfl
  have h8 : eget e5 2 = .loc ([] : Mem).length 1 0 0 := envp he6 rfl rfl
  refine Ev.kseqN ?_
  refine Ev.seq ?_
  refine Ev.reg (fun _ => rfl) ?_
  refine Ev.nxpush (alO zero78) ?_
  intro M10 hM11
  have o12 := push_old hM11 o4
  have ne13 := ne_new o4
  have o14 : M10[M2.length]? = some (.live ⟨.box, 78, 5, [[.int .i64 0, .int .i64 0, .int .i64 0, .int .i64 0, .int .i64 0]]⟩) := push_new hM11
  refine Ev.rend ?_
  intro e15 he16
  have h17 : eget e15 1 = .pt none [.int .i64 a1.Debtor, .int .i64 a1.Holder, .int .i64 a1.Cut, .int .i64 a1.Amount, .int .i64 a1.Left] := envp he16 rfl h7
  have h18 : eget e15 2 = .loc ([] : Mem).length 1 0 0 := envp he16 rfl h8
  have h19 : eget e15 3 = .loc M2.length 1 0 0 := envp he16 rfl rfl
  clear h7 h8
  refine Ev.kseqN ?_
  refine Ev.seq ?_
  refine Ev.reg (fun _ => rfl) ?_
  refine Ev.nxk (faP h17 ⟨ble rfl, blt rfl⟩ rfl) ?_
  refine Ev.nxk (ldP rfl rfl) ?_
  refine Ev.nxk (faO h19 o14 rfl) ?_
  refine Ev.nxput (stO rfl rfl o14 rfl rfl ⟨rfl, ble rfl⟩ rfl rfl) ?_
  intro M20 hM21
  have o22 := set_ne hM21 ne13 o12
  have o23 : M20[M2.length]? = some (.live ⟨.box, 78, 5, [[.int .i64 a1.Debtor, .int .i64 0, .int .i64 0, .int .i64 0, .int .i64 0]]⟩) := set_same hM21 o14
  refine Ev.rend ?_
  intro e24 he25
  have h26 : eget e24 1 = .pt none [.int .i64 a1.Debtor, .int .i64 a1.Holder, .int .i64 a1.Cut, .int .i64 a1.Amount, .int .i64 a1.Left] := envp he25 rfl h17
  have h27 : eget e24 2 = .loc ([] : Mem).length 1 0 0 := envp he25 rfl h18
  have h28 : eget e24 3 = .loc M2.length 1 0 0 := envp he25 rfl h19
  clear h17 h18 h19
  refine Ev.kseqN ?_
  refine Ev.seq ?_
  refine Ev.reg (fun _ => rfl) ?_
  refine Ev.nxk (faP h26 ⟨ble rfl, blt rfl⟩ rfl) ?_
  refine Ev.nxk (ldP rfl rfl) ?_
  refine Ev.nxk (faO h28 o23 rfl) ?_
  refine Ev.nxput (stO rfl rfl o23 rfl rfl ⟨rfl, ble rfl⟩ rfl rfl) ?_
  intro M29 hM30
  have o31 := set_ne hM30 ne13 o22
  have o32 : M29[M2.length]? = some (.live ⟨.box, 78, 5, [[.int .i64 a1.Debtor, .int .i64 a1.Holder, .int .i64 0, .int .i64 0, .int .i64 0]]⟩) := set_same hM30 o23
  refine Ev.rend ?_
  intro e33 he34
  have h35 : eget e33 1 = .pt none [.int .i64 a1.Debtor, .int .i64 a1.Holder, .int .i64 a1.Cut, .int .i64 a1.Amount, .int .i64 a1.Left] := envp he34 rfl h26
  have h36 : eget e33 2 = .loc ([] : Mem).length 1 0 0 := envp he34 rfl h27
  have h37 : eget e33 3 = .loc M2.length 1 0 0 := envp he34 rfl h28
  clear h26 h27 h28
  refine Ev.kseqN ?_
  refine Ev.seq ?_
  refine Ev.reg (fun _ => rfl) ?_
  refine Ev.nxk (faP h35 ⟨ble rfl, blt rfl⟩ rfl) ?_
  refine Ev.nxk (ldP rfl rfl) ?_
  refine Ev.nxk (faO h37 o32 rfl) ?_
  refine Ev.nxput (stO rfl rfl o32 rfl rfl ⟨rfl, ble rfl⟩ rfl rfl) ?_
  intro M38 hM39
  have o40 := set_ne hM39 ne13 o31
  have o41 : M38[M2.length]? = some (.live ⟨.box, 78, 5, [[.int .i64 a1.Debtor, .int .i64 a1.Holder, .int .i64 a1.Cut, .int .i64 0, .int .i64 0]]⟩) := set_same hM39 o32
  refine Ev.rend ?_
  intro e42 he43
  have h44 : eget e42 1 = .pt none [.int .i64 a1.Debtor, .int .i64 a1.Holder, .int .i64 a1.Cut, .int .i64 a1.Amount, .int .i64 a1.Left] := envp he43 rfl h35
  have h45 : eget e42 2 = .loc ([] : Mem).length 1 0 0 := envp he43 rfl h36
  have h46 : eget e42 3 = .loc M2.length 1 0 0 := envp he43 rfl h37
  clear h35 h36 h37
  refine Ev.kseqN ?_
  refine Ev.seq ?_
  refine Ev.reg (fun _ => rfl) ?_
  refine Ev.nxk (faP h44 ⟨ble rfl, blt rfl⟩ rfl) ?_
  refine Ev.nxk (ldP rfl rfl) ?_
  refine Ev.nxk (faO h46 o41 rfl) ?_
  refine Ev.nxput (stO rfl rfl o41 rfl rfl ⟨rfl, ble rfl⟩ rfl rfl) ?_
  intro M47 hM48
  have o49 := set_ne hM48 ne13 o40
  have o50 : M47[M2.length]? = some (.live ⟨.box, 78, 5, [[.int .i64 a1.Debtor, .int .i64 a1.Holder, .int .i64 a1.Cut, .int .i64 a1.Amount, .int .i64 0]]⟩) := set_same hM48 o41
  refine Ev.rend ?_
  intro e51 he52
  have h53 : eget e51 1 = .pt none [.int .i64 a1.Debtor, .int .i64 a1.Holder, .int .i64 a1.Cut, .int .i64 a1.Amount, .int .i64 a1.Left] := envp he52 rfl h44
  have h54 : eget e51 2 = .loc ([] : Mem).length 1 0 0 := envp he52 rfl h45
  have h55 : eget e51 3 = .loc M2.length 1 0 0 := envp he52 rfl h46
  clear h44 h45 h46
  refine Ev.kseqN ?_
  refine Ev.seq ?_
  refine Ev.reg (fun _ => rfl) ?_
  refine Ev.nxk (faP h53 ⟨ble rfl, blt rfl⟩ rfl) ?_
  refine Ev.nxk (ldP rfl rfl) ?_
  refine Ev.nxk (faO h55 o50 rfl) ?_
  refine Ev.nxput (stO rfl rfl o50 rfl rfl ⟨rfl, ble rfl⟩ rfl rfl) ?_
  intro M56 hM57
  have o58 := set_ne hM57 ne13 o49
  have o59 : M56[M2.length]? = some (.live ⟨.box, 78, 5, [[.int .i64 a1.Debtor, .int .i64 a1.Holder, .int .i64 a1.Cut, .int .i64 a1.Amount, .int .i64 a1.Left]]⟩) := set_same hM57 o50
  refine Ev.rend ?_
  intro e60 he61
  have h62 : eget e60 2 = .loc ([] : Mem).length 1 0 0 := envp he61 rfl h54
  have h63 : eget e60 3 = .loc M2.length 1 0 0 := envp he61 rfl h55
  clear h53 h54 h55
  refine Ev.kseqN ?_
  refine Ev.seq ?_
  refine Ev.reg (fun _ => rfl) ?_
  refine Ev.nxk (ldOA h63 o59 rfl rfl (ble rfl) rfl) ?_
  refine Ev.nxput (stO h62 rfl o58 rfl rfl ⟨rfl, ble rfl⟩ rfl rfl) ?_
  intro M64 hM65
  have o66 : M64[([] : Mem).length]? = some (.live ⟨.box, 78, 5, [[.int .i64 a1.Debtor, .int .i64 a1.Holder, .int .i64 a1.Cut, .int .i64 a1.Amount, .int .i64 a1.Left]]⟩) := set_same hM65 o58
  have o67 := set_ne hM65 (Ne.symm ne13) o59
  refine Ev.rend ?_
  intro e68 he69
  have h70 : eget e68 2 = .loc ([] : Mem).length 1 0 0 := envp he69 rfl h62
  clear h62 h63
  refine Ev.kseqN ?_
  refine Ev.ex ?_
  cases h
  exact Ev.kendR (resC (ag := true) (sz := 5) ⟨by kernel_rfl, by kernel_rfl, by kernel_rfl⟩ (ldOA h70 o66 rfl rfl (ble rfl) rfl) res0) rfl
/-! ### loop.example/g01263/spec.l02Person (f56) -/
noncomputable def spec_l02Person (a1 : Int) (a2 : Int) : Option Bool :=
  (spec_l00In a2 0 (IntKind.i64.wrap (a1 - 1))).bind fun r6 =>
  some r6
def spec_l02Person_enc (r : Bool) : AV := .bool r
theorem spec_l02Person_ok (a1 : Int) (a2 : Int) (r : Bool) (h : spec_l02Person a1 a2 = some r) : Ev (fun k => CN k 56 [.int .i64 a1, .int .i64 a2] []) (fun p => rRes p.2 p.1 = spec_l02Person_enc r) := by
  unfold spec_l02Person at h
  refine Ev.enter (F := fun k => f56 (CN k) k) (fun k => callN_eq rfl Try.func56 rfl rfl rfl (by decide +kernel) (f56_eq _ _)) ?_
  refine Ev.seq ?_
  refine Ev.reg (fun _ => rfl) ?_
  refine Ev.nxk (mvO rfl) ?_
  refine Ev.rend ?_
  intro e1 he2
  have h3 : eget e1 0 = .int .i64 a1 := envp he2 rfl rfl
  have h4 : eget e1 1 = .int .i64 a2 := envp he2 rfl rfl
  refine Ev.kseqN ?_
  refine Ev.seq ?_
  refine Ev.reg (fun _ => rfl) ?_
  refine Ev.nxk (mvO h4) ?_
  refine Ev.nxk (mvO h3) ?_
  refine Ev.nxk (bSub rfl rfl) ?_
  obtain ⟨r6, hx5, h⟩ := bind_some h
  refine Ev.nxck (Ev.call (v := .bool r6) rfl (cns rfl (cns rfl (cns rfl rfl))) rfl (spec_l00In_ok a2 0 (IntKind.i64.wrap (a1 - 1)) _ hx5) (fun h => nomatch (show false = true from h))) ?_
  refine Ev.nxk (mvO rfl) ?_
  refine Ev.rend ?_
  intro e7 he8
  have h9 : eget e7 4 = .bool r6 := envp he8 rfl rfl
  clear h3 h4
  refine Ev.kseqN ?_
  refine Ev.ex ?_
  cases h
  exact Ev.kendR (resT h9 res0) rfl
/-! ### loop.example/g01263/spec.l07Ok (f55) -/
def spec_l07Ok_c1_Q (a1 : Book) (g : Bool) (q : Out) : Prop := q.1 = .nrm ∧ eget q.2.1 0 = .pt none [.int .i64 a1.Day, .sl none (a1.Cash.map (cI .i64)), .sl none (a1.Tallies.map Tally.c)] ∧ eget q.2.1 27 = .bool g
def spec_l07Ok_c3_Q (a1 : Book) (s1_1 : Int) (x63 : Tally) (g : Bool) (q : Out) : Prop := q.1 = .nrm ∧ eget q.2.1 0 = .pt none [.int .i64 a1.Day, .sl none (a1.Cash.map (cI .i64)), .sl none (a1.Tallies.map Tally.c)] ∧ eget q.2.1 3 = .int .i64 (a1.Cash.length : Int) ∧ eget q.2.1 4 = .int .i64 s1_1 ∧ eget q.2.1 5 = .pt none [.int .i64 x63.Debtor, .int .i64 x63.Holder, .int .i64 x63.Cut, .int .i64 x63.Amount, .int .i64 x63.Left] ∧ eget q.2.1 95 = .bool g
abbrev spec_l07Ok_b1_S := Int
abbrev spec_l07Ok_b1_R := Unit ⊕ Unit
def spec_l07Ok_b1_RS (a1 : Book) (s : spec_l07Ok_b1_S) (e : Env) (M : Mem) : Prop := eget e 0 = .pt none [.int .i64 a1.Day, .sl none (a1.Cash.map (cI .i64)), .sl none (a1.Tallies.map Tally.c)] ∧ eget e 3 = .int .i64 (a1.Cash.length : Int) ∧ eget e 4 = .int .i64 s
def spec_l07Ok_b1_RR (a1 : Book) (r : spec_l07Ok_b1_R) (x : Ex) (e : Env) (M : Mem) : Prop :=
  match r with
  | (.inl g) => x = .ret ∧ eget e 2 = .bool false
  | (.inr g) => x = .ext 0 ∧ True
noncomputable def spec_l07Ok_b1 (a1 : Book) : spec_l07Ok_b1_S → Option (spec_l07Ok_b1_S ⊕ spec_l07Ok_b1_R) := fun s1_1 =>
  if (decide (s1_1 < (a1.Tallies.length : Int))) = true then
    (rd a1.Tallies s1_1).bind fun x63 =>
    ((spec_l02Person (a1.Cash.length : Int) x63.Debtor).bind fun r72 =>
    if r72 = true then
      (spec_l02Person (a1.Cash.length : Int) x63.Holder).bind fun r75 =>
      if r75 = true then
        (spec_l00In x63.Cut 0 a1.Day).bind fun r78 =>
        if r78 = true then
          (spec_l00In x63.Amount 1 100000000).bind fun r81 =>
          if r81 = true then
            (spec_l00In x63.Left 0 x63.Amount).bind fun r84 =>
            some (!r84)
          else
            some true
        else
          some true
      else
        some true
    else
      some true).bind fun y122 =>
    if y122 = true then
      some (.inr (.inl ()))
    else
      if (x63.Debtor == x63.Holder) = true then
        if (x63.Left != 0) = true then
          some (.inr (.inl ()))
        else
          if (decide (s1_1 > 0)) = true then
            (rd a1.Tallies (IntKind.i64.wrap (s1_1 - 1))).bind fun x144 =>
            if (decide (x63.Cut < x144.Cut)) = true then
              some (.inr (.inl ()))
            else
              some (.inl (IntKind.i64.wrap (s1_1 + 1)))
          else
            some (.inl (IntKind.i64.wrap (s1_1 + 1)))
      else
        if (decide (s1_1 > 0)) = true then
          (rd a1.Tallies (IntKind.i64.wrap (s1_1 - 1))).bind fun x173 =>
          if (decide (x63.Cut < x173.Cut)) = true then
            some (.inr (.inl ()))
          else
            some (.inl (IntKind.i64.wrap (s1_1 + 1)))
        else
          some (.inl (IntKind.i64.wrap (s1_1 + 1)))
  else
    some (.inr (.inr ()))
theorem spec_l07Ok_b1_ok (a1 : Book) (s : spec_l07Ok_b1_S) (r : spec_l07Ok_b1_S ⊕ spec_l07Ok_b1_R) (h : spec_l07Ok_b1 a1 s = some r) (e : Env) (M : Mem) (hs : spec_l07Ok_b1_RS a1 s e M) : Ev (fun k => (f55_l5 (CN k) k (prune [0, 3, 4] e) M).bind fun q => some q) (bQ (spec_l07Ok_b1_RS a1) (spec_l07Ok_b1_RR a1) r) := by
  revert h hs
  revert s
  intro s1_1 h hs
  unfold spec_l07Ok_b1 at h
  obtain ⟨h50, h52, h54⟩ := hs
  generalize he49 : prune [0, 3, 4] e = e48
  have h51 := envp he49.symm rfl h50
  have h53 := envp he49.symm rfl h52
  have h55 := envp he49.symm rfl h54
  refine Ev.seq ?_
  refine Ev.seq ?_
  refine Ev.reg (fun _ => rfl) ?_
  refine Ev.nxk (mvO h55) ?_
  refine Ev.nxk (mvO h51) ?_
  refine Ev.nxk (ncP rfl) ?_
  refine Ev.nxk (faP rfl ⟨ble rfl, blt rfl⟩ rfl) ?_
  refine Ev.nxk (ldP rfl rfl) ?_
  refine Ev.nxk (lnS Try.underlying29 rfl) ?_
  refine Ev.nxk (bLss rfl rfl) ?_
  refine Ev.rend ?_
  intro e56 he57
  have h58 : eget e56 0 = .pt none [.int .i64 a1.Day, .sl none (a1.Cash.map (cI .i64)), .sl none (a1.Tallies.map Tally.c)] := envp he57 rfl h51
  have h59 : eget e56 3 = .int .i64 (a1.Cash.length : Int) := envp he57 rfl h53
  have h60 : eget e56 4 = .int .i64 s1_1 := envp he57 rfl h55
  have h61 : eget e56 39 = .bool (decide (s1_1 < (a1.Tallies.length : Int))) := envp he57 rfl rfl
  clear h51 h53 h55
  refine Ev.kseqN ?_
  rcases ite_some h with ⟨hb62, h⟩ | ⟨hb62, h⟩
  · refine Ev.condT h61 hb62 ?_
    refine Ev.ex ?_
    refine Ev.kseqN ?_
    refine Ev.seq ?_
    refine Ev.blk ?_
    refine Ev.seq ?_
    refine Ev.reg (fun _ => rfl) ?_
    refine Ev.nxk (mvO h58) ?_
    refine Ev.nxk (ncP rfl) ?_
    refine Ev.nxk (faP rfl ⟨ble rfl, blt rfl⟩ rfl) ?_
    refine Ev.nxk (ldP rfl rfl) ?_
    refine Ev.nxk (mvO h60) ?_
    obtain ⟨x63, hx64, h⟩ := bind_some h
    refine Ev.nxk (ixS rfl rfl hx64 Tally.fl) ?_
    refine Ev.nxk (mvO rfl) ?_
    refine Ev.rend ?_
    intro e65 he66
    have h67 : eget e65 0 = .pt none [.int .i64 a1.Day, .sl none (a1.Cash.map (cI .i64)), .sl none (a1.Tallies.map Tally.c)] := envp he66 rfl h58
    have h68 : eget e65 3 = .int .i64 (a1.Cash.length : Int) := envp he66 rfl h59
    have h69 : eget e65 4 = .int .i64 s1_1 := envp he66 rfl h60
    have h70 : eget e65 5 = .pt none [.int .i64 x63.Debtor, .int .i64 x63.Holder, .int .i64 x63.Cut, .int .i64 x63.Amount, .int .i64 x63.Left] := envp he66 rfl rfl
    clear h58 h59 h60 h61
    refine Ev.kseqN ?_
    refine Ev.seq ?_
    refine Ev.seq ?_
    obtain ⟨r202, hr203, h⟩ := bind_some h
    refine Ev.cut (Q1 := spec_l07Ok_c3_Q a1 s1_1 x63 r202) (by
        have h := hr203
        refine Ev.regD (fun _ => rfl) ?_
        refine Ev.nfk (mvO h68) ?_
        refine Ev.nfk (mvO h70) ?_
        refine Ev.nfk (ncP rfl) ?_
        refine Ev.nfk (faP rfl ⟨ble rfl, blt rfl⟩ rfl) ?_
        refine Ev.nfk (ldP rfl rfl) ?_
        obtain ⟨r72, hx71, h⟩ := bind_some h
        refine Ev.nfc (Ev.call (v := .bool r72) rfl (cns rfl (cns rfl rfl)) rfl (spec_l02Person_ok (a1.Cash.length : Int) x63.Debtor _ hx71) (fun h => nomatch (show false = true from h))) ?_
        refine Ev.nfk (uNot rfl) ?_
        refine Ev.nfk (mvO rfl) ?_
        rcases ite_some h with ⟨hb73, h⟩ | ⟨hb73, h⟩
        · refine Ev.nfk (guF rfl (congrArg Bool.not hb73) (mvO h68)) ?_
          refine Ev.nfk (guF rfl (congrArg Bool.not hb73) (mvO h70)) ?_
          refine Ev.nfk (guF rfl (congrArg Bool.not hb73) (ncP rfl)) ?_
          refine Ev.nfk (guF rfl (congrArg Bool.not hb73) (faP rfl ⟨ble rfl, blt rfl⟩ rfl)) ?_
          refine Ev.nfk (guF rfl (congrArg Bool.not hb73) (ldP rfl rfl)) ?_
          obtain ⟨r75, hx74, h⟩ := bind_some h
          refine Ev.nfc (Ev.guF rfl (congrArg Bool.not hb73) (Ev.call (v := .bool r75) rfl (cns rfl (cns rfl rfl)) rfl (spec_l02Person_ok (a1.Cash.length : Int) x63.Holder _ hx74) (fun h => nomatch (show false = true from h)))) ?_
          refine Ev.nfk (guF rfl (congrArg Bool.not hb73) (uNot rfl)) ?_
          refine Ev.nfk (pkF rfl (congrArg Bool.not hb73) rfl) ?_
          refine Ev.nfk (mvO rfl) ?_
          rcases ite_some h with ⟨hb76, h⟩ | ⟨hb76, h⟩
          · refine Ev.nfk (guF rfl (congrArg Bool.not hb76) (mvO h70)) ?_
            refine Ev.nfk (guF rfl (congrArg Bool.not hb76) (ncP rfl)) ?_
            refine Ev.nfk (guF rfl (congrArg Bool.not hb76) (faP rfl ⟨ble rfl, blt rfl⟩ rfl)) ?_
            refine Ev.nfk (guF rfl (congrArg Bool.not hb76) (ldP rfl rfl)) ?_
            refine Ev.nfk (guF rfl (congrArg Bool.not hb76) (mvO h67)) ?_
            refine Ev.nfk (guF rfl (congrArg Bool.not hb76) (ncP rfl)) ?_
            refine Ev.nfk (guF rfl (congrArg Bool.not hb76) (faP rfl ⟨ble rfl, blt rfl⟩ rfl)) ?_
            refine Ev.nfk (guF rfl (congrArg Bool.not hb76) (ldP rfl rfl)) ?_
            obtain ⟨r78, hx77, h⟩ := bind_some h
            refine Ev.nfc (Ev.guF rfl (congrArg Bool.not hb76) (Ev.call (v := .bool r78) rfl (cns rfl (cns rfl (cns rfl rfl))) rfl (spec_l00In_ok x63.Cut 0 a1.Day _ hx77) (fun h => nomatch (show false = true from h)))) ?_
            refine Ev.nfk (guF rfl (congrArg Bool.not hb76) (uNot rfl)) ?_
            refine Ev.nfk (pkF rfl (congrArg Bool.not hb76) rfl) ?_
            refine Ev.nfk (mvO rfl) ?_
            rcases ite_some h with ⟨hb79, h⟩ | ⟨hb79, h⟩
            · refine Ev.nfk (guF rfl (congrArg Bool.not hb79) (mvO h70)) ?_
              refine Ev.nfk (guF rfl (congrArg Bool.not hb79) (ncP rfl)) ?_
              refine Ev.nfk (guF rfl (congrArg Bool.not hb79) (faP rfl ⟨ble rfl, blt rfl⟩ rfl)) ?_
              refine Ev.nfk (guF rfl (congrArg Bool.not hb79) (ldP rfl rfl)) ?_
              obtain ⟨r81, hx80, h⟩ := bind_some h
              refine Ev.nfc (Ev.guF rfl (congrArg Bool.not hb79) (Ev.call (v := .bool r81) rfl (cns rfl (cns rfl (cns rfl rfl))) rfl (spec_l00In_ok x63.Amount 1 100000000 _ hx80) (fun h => nomatch (show false = true from h)))) ?_
              refine Ev.nfk (guF rfl (congrArg Bool.not hb79) (uNot rfl)) ?_
              refine Ev.nfk (pkF rfl (congrArg Bool.not hb79) rfl) ?_
              refine Ev.nfk (mvO rfl) ?_
              rcases ite_some h with ⟨hb82, h⟩ | ⟨hb82, h⟩
              · refine Ev.nfk (guF rfl (congrArg Bool.not hb82) (mvO h70)) ?_
                refine Ev.nfk (guF rfl (congrArg Bool.not hb82) (ncP rfl)) ?_
                refine Ev.nfk (guF rfl (congrArg Bool.not hb82) (faP rfl ⟨ble rfl, blt rfl⟩ rfl)) ?_
                refine Ev.nfk (guF rfl (congrArg Bool.not hb82) (ldP rfl rfl)) ?_
                refine Ev.nfk (guF rfl (congrArg Bool.not hb82) (mvO h70)) ?_
                refine Ev.nfk (guF rfl (congrArg Bool.not hb82) (ncP rfl)) ?_
                refine Ev.nfk (guF rfl (congrArg Bool.not hb82) (faP rfl ⟨ble rfl, blt rfl⟩ rfl)) ?_
                refine Ev.nfk (guF rfl (congrArg Bool.not hb82) (ldP rfl rfl)) ?_
                obtain ⟨r84, hx83, h⟩ := bind_some h
                refine Ev.nfc (Ev.guF rfl (congrArg Bool.not hb82) (Ev.call (v := .bool r84) rfl (cns rfl (cns rfl (cns rfl rfl))) rfl (spec_l00In_ok x63.Left 0 x63.Amount _ hx83) (fun h => nomatch (show false = true from h)))) ?_
                refine Ev.nfk (guF rfl (congrArg Bool.not hb82) (uNot rfl)) ?_
                refine Ev.nfk (pkF rfl (congrArg Bool.not hb82) rfl) ?_
                refine Ev.fend0 ?_
                refine Ev.rend ?_
                intro e85 he86
                have h87 : eget e85 0 = .pt none [.int .i64 a1.Day, .sl none (a1.Cash.map (cI .i64)), .sl none (a1.Tallies.map Tally.c)] := envp he86 rfl h67
                have h88 : eget e85 3 = .int .i64 (a1.Cash.length : Int) := envp he86 rfl h68
                have h89 : eget e85 4 = .int .i64 s1_1 := envp he86 rfl h69
                have h90 : eget e85 5 = .pt none [.int .i64 x63.Debtor, .int .i64 x63.Holder, .int .i64 x63.Cut, .int .i64 x63.Amount, .int .i64 x63.Left] := envp he86 rfl h70
                have h91 : eget e85 95 = .bool (!r84) := envp he86 rfl rfl
                clear h67 h68 h69 h70
                cases h
                exact Ev.kid (show spec_l07Ok_c3_Q a1 s1_1 x63 _ _ from (And.intro rfl (And.intro h87 (And.intro h88 (And.intro h89 (And.intro h90 h91))))))
              · refine Ev.nfk (gsF rfl (congrArg Bool.not hb82)) ?_
                refine Ev.nfk (gsF rfl (congrArg Bool.not hb82)) ?_
                refine Ev.nfk (gsF rfl (congrArg Bool.not hb82)) ?_
                refine Ev.nfk (gsF rfl (congrArg Bool.not hb82)) ?_
                refine Ev.nfk (gsF rfl (congrArg Bool.not hb82)) ?_
                refine Ev.nfk (gsF rfl (congrArg Bool.not hb82)) ?_
                refine Ev.nfk (gsF rfl (congrArg Bool.not hb82)) ?_
                refine Ev.nfk (gsF rfl (congrArg Bool.not hb82)) ?_
                refine Ev.nfc (Ev.gsF rfl (congrArg Bool.not hb82)) ?_
                refine Ev.nfk (gsF rfl (congrArg Bool.not hb82)) ?_
                refine Ev.nfk (pkT rfl (congrArg Bool.not hb82) rfl) ?_
                refine Ev.fend0 ?_
                refine Ev.rend ?_
                intro e92 he93
                have h94 : eget e92 0 = .pt none [.int .i64 a1.Day, .sl none (a1.Cash.map (cI .i64)), .sl none (a1.Tallies.map Tally.c)] := envp he93 rfl h67
                have h95 : eget e92 3 = .int .i64 (a1.Cash.length : Int) := envp he93 rfl h68
                have h96 : eget e92 4 = .int .i64 s1_1 := envp he93 rfl h69
                have h97 : eget e92 5 = .pt none [.int .i64 x63.Debtor, .int .i64 x63.Holder, .int .i64 x63.Cut, .int .i64 x63.Amount, .int .i64 x63.Left] := envp he93 rfl h70
                have h98 : eget e92 95 = .bool true := envp he93 rfl rfl
                clear h67 h68 h69 h70
                cases h
                exact Ev.kid (show spec_l07Ok_c3_Q a1 s1_1 x63 _ _ from (And.intro rfl (And.intro h94 (And.intro h95 (And.intro h96 (And.intro h97 h98))))))
            · refine Ev.nfk (gsF rfl (congrArg Bool.not hb79)) ?_
              refine Ev.nfk (gsF rfl (congrArg Bool.not hb79)) ?_
              refine Ev.nfk (gsF rfl (congrArg Bool.not hb79)) ?_
              refine Ev.nfk (gsF rfl (congrArg Bool.not hb79)) ?_
              refine Ev.nfc (Ev.gsF rfl (congrArg Bool.not hb79)) ?_
              refine Ev.nfk (gsF rfl (congrArg Bool.not hb79)) ?_
              refine Ev.nfk (pkT rfl (congrArg Bool.not hb79) rfl) ?_
              refine Ev.nfk (mvO rfl) ?_
              refine Ev.nfk (gsF rfl rfl) ?_
              refine Ev.nfk (gsF rfl rfl) ?_
              refine Ev.nfk (gsF rfl rfl) ?_
              refine Ev.nfk (gsF rfl rfl) ?_
              refine Ev.nfk (gsF rfl rfl) ?_
              refine Ev.nfk (gsF rfl rfl) ?_
              refine Ev.nfk (gsF rfl rfl) ?_
              refine Ev.nfk (gsF rfl rfl) ?_
              refine Ev.nfc (Ev.gsF rfl rfl) ?_
              refine Ev.nfk (gsF rfl rfl) ?_
              refine Ev.nfk (pkT rfl rfl rfl) ?_
              refine Ev.fend0 ?_
              refine Ev.rend ?_
              intro e99 he100
              have h101 : eget e99 0 = .pt none [.int .i64 a1.Day, .sl none (a1.Cash.map (cI .i64)), .sl none (a1.Tallies.map Tally.c)] := envp he100 rfl h67
              have h102 : eget e99 3 = .int .i64 (a1.Cash.length : Int) := envp he100 rfl h68
              have h103 : eget e99 4 = .int .i64 s1_1 := envp he100 rfl h69
              have h104 : eget e99 5 = .pt none [.int .i64 x63.Debtor, .int .i64 x63.Holder, .int .i64 x63.Cut, .int .i64 x63.Amount, .int .i64 x63.Left] := envp he100 rfl h70
              have h105 : eget e99 95 = .bool true := envp he100 rfl rfl
              clear h67 h68 h69 h70
              cases h
              exact Ev.kid (show spec_l07Ok_c3_Q a1 s1_1 x63 _ _ from (And.intro rfl (And.intro h101 (And.intro h102 (And.intro h103 (And.intro h104 h105))))))
          · refine Ev.nfk (gsF rfl (congrArg Bool.not hb76)) ?_
            refine Ev.nfk (gsF rfl (congrArg Bool.not hb76)) ?_
            refine Ev.nfk (gsF rfl (congrArg Bool.not hb76)) ?_
            refine Ev.nfk (gsF rfl (congrArg Bool.not hb76)) ?_
            refine Ev.nfk (gsF rfl (congrArg Bool.not hb76)) ?_
            refine Ev.nfk (gsF rfl (congrArg Bool.not hb76)) ?_
            refine Ev.nfk (gsF rfl (congrArg Bool.not hb76)) ?_
            refine Ev.nfk (gsF rfl (congrArg Bool.not hb76)) ?_
            refine Ev.nfc (Ev.gsF rfl (congrArg Bool.not hb76)) ?_
            refine Ev.nfk (gsF rfl (congrArg Bool.not hb76)) ?_
            refine Ev.nfk (pkT rfl (congrArg Bool.not hb76) rfl) ?_
            refine Ev.nfk (mvO rfl) ?_
            refine Ev.nfk (gsF rfl rfl) ?_
            refine Ev.nfk (gsF rfl rfl) ?_
            refine Ev.nfk (gsF rfl rfl) ?_
            refine Ev.nfk (gsF rfl rfl) ?_
            refine Ev.nfc (Ev.gsF rfl rfl) ?_
            refine Ev.nfk (gsF rfl rfl) ?_
            refine Ev.nfk (pkT rfl rfl rfl) ?_
            refine Ev.nfk (mvO rfl) ?_
            refine Ev.nfk (gsF rfl rfl) ?_
            refine Ev.nfk (gsF rfl rfl) ?_
            refine Ev.nfk (gsF rfl rfl) ?_
            refine Ev.nfk (gsF rfl rfl) ?_
            refine Ev.nfk (gsF rfl rfl) ?_
            refine Ev.nfk (gsF rfl rfl) ?_
            refine Ev.nfk (gsF rfl rfl) ?_
            refine Ev.nfk (gsF rfl rfl) ?_
            refine Ev.nfc (Ev.gsF rfl rfl) ?_
            refine Ev.nfk (gsF rfl rfl) ?_
            refine Ev.nfk (pkT rfl rfl rfl) ?_
            refine Ev.fend0 ?_
            refine Ev.rend ?_
            intro e106 he107
            have h108 : eget e106 0 = .pt none [.int .i64 a1.Day, .sl none (a1.Cash.map (cI .i64)), .sl none (a1.Tallies.map Tally.c)] := envp he107 rfl h67
            have h109 : eget e106 3 = .int .i64 (a1.Cash.length : Int) := envp he107 rfl h68
            have h110 : eget e106 4 = .int .i64 s1_1 := envp he107 rfl h69
            have h111 : eget e106 5 = .pt none [.int .i64 x63.Debtor, .int .i64 x63.Holder, .int .i64 x63.Cut, .int .i64 x63.Amount, .int .i64 x63.Left] := envp he107 rfl h70
            have h112 : eget e106 95 = .bool true := envp he107 rfl rfl
            clear h67 h68 h69 h70
            cases h
            exact Ev.kid (show spec_l07Ok_c3_Q a1 s1_1 x63 _ _ from (And.intro rfl (And.intro h108 (And.intro h109 (And.intro h110 (And.intro h111 h112))))))
        · refine Ev.nfk (gsF rfl (congrArg Bool.not hb73)) ?_
          refine Ev.nfk (gsF rfl (congrArg Bool.not hb73)) ?_
          refine Ev.nfk (gsF rfl (congrArg Bool.not hb73)) ?_
          refine Ev.nfk (gsF rfl (congrArg Bool.not hb73)) ?_
          refine Ev.nfk (gsF rfl (congrArg Bool.not hb73)) ?_
          refine Ev.nfc (Ev.gsF rfl (congrArg Bool.not hb73)) ?_
          refine Ev.nfk (gsF rfl (congrArg Bool.not hb73)) ?_
          refine Ev.nfk (pkT rfl (congrArg Bool.not hb73) rfl) ?_
          refine Ev.nfk (mvO rfl) ?_
          refine Ev.nfk (gsF rfl rfl) ?_
          refine Ev.nfk (gsF rfl rfl) ?_
          refine Ev.nfk (gsF rfl rfl) ?_
          refine Ev.nfk (gsF rfl rfl) ?_
          refine Ev.nfk (gsF rfl rfl) ?_
          refine Ev.nfk (gsF rfl rfl) ?_
          refine Ev.nfk (gsF rfl rfl) ?_
          refine Ev.nfk (gsF rfl rfl) ?_
          refine Ev.nfc (Ev.gsF rfl rfl) ?_
          refine Ev.nfk (gsF rfl rfl) ?_
          refine Ev.nfk (pkT rfl rfl rfl) ?_
          refine Ev.nfk (mvO rfl) ?_
          refine Ev.nfk (gsF rfl rfl) ?_
          refine Ev.nfk (gsF rfl rfl) ?_
          refine Ev.nfk (gsF rfl rfl) ?_
          refine Ev.nfk (gsF rfl rfl) ?_
          refine Ev.nfc (Ev.gsF rfl rfl) ?_
          refine Ev.nfk (gsF rfl rfl) ?_
          refine Ev.nfk (pkT rfl rfl rfl) ?_
          refine Ev.nfk (mvO rfl) ?_
          refine Ev.nfk (gsF rfl rfl) ?_
          refine Ev.nfk (gsF rfl rfl) ?_
          refine Ev.nfk (gsF rfl rfl) ?_
          refine Ev.nfk (gsF rfl rfl) ?_
          refine Ev.nfk (gsF rfl rfl) ?_
          refine Ev.nfk (gsF rfl rfl) ?_
          refine Ev.nfk (gsF rfl rfl) ?_
          refine Ev.nfk (gsF rfl rfl) ?_
          refine Ev.nfc (Ev.gsF rfl rfl) ?_
          refine Ev.nfk (gsF rfl rfl) ?_
          refine Ev.nfk (pkT rfl rfl rfl) ?_
          refine Ev.fend0 ?_
          refine Ev.rend ?_
          intro e113 he114
          have h115 : eget e113 0 = .pt none [.int .i64 a1.Day, .sl none (a1.Cash.map (cI .i64)), .sl none (a1.Tallies.map Tally.c)] := envp he114 rfl h67
          have h116 : eget e113 3 = .int .i64 (a1.Cash.length : Int) := envp he114 rfl h68
          have h117 : eget e113 4 = .int .i64 s1_1 := envp he114 rfl h69
          have h118 : eget e113 5 = .pt none [.int .i64 x63.Debtor, .int .i64 x63.Holder, .int .i64 x63.Cut, .int .i64 x63.Amount, .int .i64 x63.Left] := envp he114 rfl h70
          have h119 : eget e113 95 = .bool true := envp he114 rfl rfl
          clear h67 h68 h69 h70
          cases h
          exact Ev.kid (show spec_l07Ok_c3_Q a1 s1_1 x63 _ _ from (And.intro rfl (And.intro h115 (And.intro h116 (And.intro h117 (And.intro h118 h119))))))) ?_
    revert h hr203
    revert r202
    intro y122 hr203 h
    intro x e120 M121 hq201
    obtain ⟨rfl, h123, h124, h125, h126, h127⟩ := hq201
    refine Ev.kseqN ?_
    rcases ite_some h with ⟨hb128, h⟩ | ⟨hb128, h⟩
    · refine Ev.condT h127 hb128 ?_
      refine Ev.seq ?_
      refine Ev.reg (fun _ => rfl) ?_
      refine Ev.nxk (mvO rfl) ?_
      refine Ev.rend ?_
      intro e129 he130
      have h131 : eget e129 2 = .bool false := envp he130 rfl rfl
      clear h123 h124 h125 h126 h127
      refine Ev.kseqN ?_
      refine Ev.ex ?_
      refine Ev.kseqR ?_
      refine Ev.kblkR ?_
      refine Ev.kseqR ?_
      cases h
      exact Ev.kid (bQ_x (RS := (spec_l07Ok_b1_RS a1)) (RR := (spec_l07Ok_b1_RR a1)) (by intro h; cases h) (And.intro rfl h131))
    · refine Ev.condF h127 hb128 ?_
      refine Ev.ex ?_
      refine Ev.kseqN ?_
      refine Ev.seq ?_
      refine Ev.regD (fun _ => rfl) ?_
      refine Ev.nfk (mvO h126) ?_
      refine Ev.nfk (ncP rfl) ?_
      refine Ev.nfk (faP rfl ⟨ble rfl, blt rfl⟩ rfl) ?_
      refine Ev.nfk (ldP rfl rfl) ?_
      refine Ev.nfk (mvO h126) ?_
      refine Ev.nfk (ncP rfl) ?_
      refine Ev.nfk (faP rfl ⟨ble rfl, blt rfl⟩ rfl) ?_
      refine Ev.nfk (ldP rfl rfl) ?_
      refine Ev.nfk (bEql rfl rfl) ?_
      refine Ev.nfk (mvO rfl) ?_
      rcases ite_some h with ⟨hb132, h⟩ | ⟨hb132, h⟩
      · refine Ev.nfk (guT rfl hb132 (mvO h126)) ?_
        refine Ev.nfk (guT rfl hb132 (ncP rfl)) ?_
        refine Ev.nfk (guT rfl hb132 (faP rfl ⟨ble rfl, blt rfl⟩ rfl)) ?_
        refine Ev.nfk (guT rfl hb132 (ldP rfl rfl)) ?_
        refine Ev.nfk (guT rfl hb132 (bNeq rfl rfl)) ?_
        refine Ev.nfk (pkT rfl hb132 rfl) ?_
        refine Ev.nfk (mvO rfl) ?_
        rcases ite_some h with ⟨hb133, h⟩ | ⟨hb133, h⟩
        · refine Ev.nfk (gsF rfl hb133) ?_
          refine Ev.nfk (gsF rfl hb133) ?_
          refine Ev.nfk (gsF rfl hb133) ?_
          refine Ev.nfk (gsU rfl) ?_
          refine Ev.nfk (gsU rfl) ?_
          refine Ev.nfk (gsU rfl) ?_
          refine Ev.nfk (gsU rfl) ?_
          refine Ev.nfk (gsU rfl) ?_
          refine Ev.nfk (gsU rfl) ?_
          refine Ev.nfk (gsU rfl) ?_
          refine Ev.nfk (gsU rfl) ?_
          refine Ev.nfk (gsU rfl) ?_
          refine Ev.nfk (gsU rfl) ?_
          refine Ev.nfk (gsU rfl) ?_
          refine Ev.nfk (gsU rfl) ?_
          refine Ev.nfk (gsU rfl) ?_
          refine Ev.nfk (gsU rfl) ?_
          refine Ev.nfk (gsF rfl hb133) ?_
          refine Ev.nfk (pkT rfl hb133 rfl) ?_
          refine Ev.fend0 ?_
          refine Ev.rend ?_
          intro e134 he135
          have h136 : eget e134 0 = .pt none [.int .i64 a1.Day, .sl none (a1.Cash.map (cI .i64)), .sl none (a1.Tallies.map Tally.c)] := envp he135 rfl h123
          have h137 : eget e134 3 = .int .i64 (a1.Cash.length : Int) := envp he135 rfl h124
          have h138 : eget e134 4 = .int .i64 s1_1 := envp he135 rfl h125
          have h139 : eget e134 131 = .bool true := envp he135 rfl rfl
          clear h123 h124 h125 h126 h127
          refine Ev.kseqN ?_
          refine Ev.condT h139 rfl ?_
          refine Ev.seq ?_
          refine Ev.reg (fun _ => rfl) ?_
          refine Ev.nxk (mvO rfl) ?_
          refine Ev.rend ?_
          intro e140 he141
          have h142 : eget e140 2 = .bool false := envp he141 rfl rfl
          clear h136 h137 h138 h139
          refine Ev.kseqN ?_
          refine Ev.ex ?_
          refine Ev.kblkR ?_
          refine Ev.kseqR ?_
          cases h
          exact Ev.kid (bQ_x (RS := (spec_l07Ok_b1_RS a1)) (RR := (spec_l07Ok_b1_RR a1)) (by intro h; cases h) (And.intro rfl h142))
        · refine Ev.nfk (guF rfl hb133 (mvO h125)) ?_
          refine Ev.nfk (guF rfl hb133 (bGtr rfl rfl)) ?_
          refine Ev.nfk (guF rfl hb133 (mvO rfl)) ?_
          rcases ite_some h with ⟨hb143, h⟩ | ⟨hb143, h⟩
          · refine Ev.nfk (guT rfl hb143 (mvO h126)) ?_
            refine Ev.nfk (guT rfl hb143 (ncP rfl)) ?_
            refine Ev.nfk (guT rfl hb143 (faP rfl ⟨ble rfl, blt rfl⟩ rfl)) ?_
            refine Ev.nfk (guT rfl hb143 (ldP rfl rfl)) ?_
            refine Ev.nfk (guT rfl hb143 (mvO h123)) ?_
            refine Ev.nfk (guT rfl hb143 (ncP rfl)) ?_
            refine Ev.nfk (guT rfl hb143 (faP rfl ⟨ble rfl, blt rfl⟩ rfl)) ?_
            refine Ev.nfk (guT rfl hb143 (ldP rfl rfl)) ?_
            refine Ev.nfk (guT rfl hb143 (mvO h125)) ?_
            refine Ev.nfk (guT rfl hb143 (bSub rfl rfl)) ?_
            obtain ⟨x144, hx145, h⟩ := bind_some h
            refine Ev.nfk (guT rfl hb143 (ixS rfl rfl hx145 Tally.fl)) ?_
            refine Ev.nfk (guT rfl hb143 (faP rfl ⟨ble rfl, blt rfl⟩ rfl)) ?_
            refine Ev.nfk (guT rfl hb143 (ldP rfl rfl)) ?_
            refine Ev.nfk (guT rfl hb143 (bLss rfl rfl)) ?_
            refine Ev.nfk (guF rfl hb133 (pkT rfl hb143 rfl)) ?_
            refine Ev.nfk (pkF rfl hb133 rfl) ?_
            refine Ev.fend0 ?_
            refine Ev.rend ?_
            intro e146 he147
            have h148 : eget e146 0 = .pt none [.int .i64 a1.Day, .sl none (a1.Cash.map (cI .i64)), .sl none (a1.Tallies.map Tally.c)] := envp he147 rfl h123
            have h149 : eget e146 3 = .int .i64 (a1.Cash.length : Int) := envp he147 rfl h124
            have h150 : eget e146 4 = .int .i64 s1_1 := envp he147 rfl h125
            have h151 : eget e146 131 = .bool (decide (x63.Cut < x144.Cut)) := envp he147 rfl rfl
            clear h123 h124 h125 h126 h127
            refine Ev.kseqN ?_
            rcases ite_some h with ⟨hb152, h⟩ | ⟨hb152, h⟩
            · refine Ev.condT h151 hb152 ?_
              refine Ev.seq ?_
              refine Ev.reg (fun _ => rfl) ?_
              refine Ev.nxk (mvO rfl) ?_
              refine Ev.rend ?_
              intro e153 he154
              have h155 : eget e153 2 = .bool false := envp he154 rfl rfl
              clear h148 h149 h150 h151
              refine Ev.kseqN ?_
              refine Ev.ex ?_
              refine Ev.kblkR ?_
              refine Ev.kseqR ?_
              cases h
              exact Ev.kid (bQ_x (RS := (spec_l07Ok_b1_RS a1)) (RR := (spec_l07Ok_b1_RR a1)) (by intro h; cases h) (And.intro rfl h155))
            · refine Ev.condF h151 hb152 ?_
              refine Ev.ex ?_
              refine Ev.kblkN ?_
              refine Ev.kseqN ?_
              refine Ev.reg (fun _ => rfl) ?_
              refine Ev.nxk (mvO h150) ?_
              refine Ev.nxk (bAdd rfl rfl) ?_
              refine Ev.nxk (mvO rfl) ?_
              refine Ev.rend ?_
              intro e156 he157
              have h158 : eget e156 0 = .pt none [.int .i64 a1.Day, .sl none (a1.Cash.map (cI .i64)), .sl none (a1.Tallies.map Tally.c)] := envp he157 rfl h148
              have h159 : eget e156 3 = .int .i64 (a1.Cash.length : Int) := envp he157 rfl h149
              have h160 : eget e156 4 = .int .i64 (IntKind.i64.wrap (s1_1 + 1)) := envp he157 rfl rfl
              clear h148 h149 h151
              cases h
              exact Ev.kid (bQ_n (RS := (spec_l07Ok_b1_RS a1)) (RR := (spec_l07Ok_b1_RR a1)) (And.intro h158 (And.intro h159 h160)))
          · refine Ev.nfk (gsT rfl hb143) ?_
            refine Ev.nfk (gsT rfl hb143) ?_
            refine Ev.nfk (gsT rfl hb143) ?_
            refine Ev.nfk (gsT rfl hb143) ?_
            refine Ev.nfk (gsT rfl hb143) ?_
            refine Ev.nfk (gsT rfl hb143) ?_
            refine Ev.nfk (gsT rfl hb143) ?_
            refine Ev.nfk (gsT rfl hb143) ?_
            refine Ev.nfk (gsT rfl hb143) ?_
            refine Ev.nfk (gsT rfl hb143) ?_
            refine Ev.nfk (gsT rfl hb143) ?_
            refine Ev.nfk (gsT rfl hb143) ?_
            refine Ev.nfk (gsT rfl hb143) ?_
            refine Ev.nfk (gsT rfl hb143) ?_
            refine Ev.nfk (guF rfl hb133 (pkF rfl hb143 rfl)) ?_
            refine Ev.nfk (pkF rfl hb133 rfl) ?_
            refine Ev.fend0 ?_
            refine Ev.rend ?_
            intro e161 he162
            have h163 : eget e161 0 = .pt none [.int .i64 a1.Day, .sl none (a1.Cash.map (cI .i64)), .sl none (a1.Tallies.map Tally.c)] := envp he162 rfl h123
            have h164 : eget e161 3 = .int .i64 (a1.Cash.length : Int) := envp he162 rfl h124
            have h165 : eget e161 4 = .int .i64 s1_1 := envp he162 rfl h125
            have h166 : eget e161 131 = .bool false := envp he162 rfl rfl
            clear h123 h124 h125 h126 h127
            refine Ev.kseqN ?_
            refine Ev.condF h166 rfl ?_
            refine Ev.ex ?_
            refine Ev.kblkN ?_
            refine Ev.kseqN ?_
            refine Ev.reg (fun _ => rfl) ?_
            refine Ev.nxk (mvO h165) ?_
            refine Ev.nxk (bAdd rfl rfl) ?_
            refine Ev.nxk (mvO rfl) ?_
            refine Ev.rend ?_
            intro e167 he168
            have h169 : eget e167 0 = .pt none [.int .i64 a1.Day, .sl none (a1.Cash.map (cI .i64)), .sl none (a1.Tallies.map Tally.c)] := envp he168 rfl h163
            have h170 : eget e167 3 = .int .i64 (a1.Cash.length : Int) := envp he168 rfl h164
            have h171 : eget e167 4 = .int .i64 (IntKind.i64.wrap (s1_1 + 1)) := envp he168 rfl rfl
            clear h163 h164 h166
            cases h
            exact Ev.kid (bQ_n (RS := (spec_l07Ok_b1_RS a1)) (RR := (spec_l07Ok_b1_RR a1)) (And.intro h169 (And.intro h170 h171)))
      · refine Ev.nfk (gsT rfl hb132) ?_
        refine Ev.nfk (gsT rfl hb132) ?_
        refine Ev.nfk (gsT rfl hb132) ?_
        refine Ev.nfk (gsT rfl hb132) ?_
        refine Ev.nfk (gsT rfl hb132) ?_
        refine Ev.nfk (pkF rfl hb132 rfl) ?_
        refine Ev.nfk (mvO rfl) ?_
        refine Ev.nfk (guF rfl rfl (mvO h125)) ?_
        refine Ev.nfk (guF rfl rfl (bGtr rfl rfl)) ?_
        refine Ev.nfk (guF rfl rfl (mvO rfl)) ?_
        rcases ite_some h with ⟨hb172, h⟩ | ⟨hb172, h⟩
        · refine Ev.nfk (guT rfl hb172 (mvO h126)) ?_
          refine Ev.nfk (guT rfl hb172 (ncP rfl)) ?_
          refine Ev.nfk (guT rfl hb172 (faP rfl ⟨ble rfl, blt rfl⟩ rfl)) ?_
          refine Ev.nfk (guT rfl hb172 (ldP rfl rfl)) ?_
          refine Ev.nfk (guT rfl hb172 (mvO h123)) ?_
          refine Ev.nfk (guT rfl hb172 (ncP rfl)) ?_
          refine Ev.nfk (guT rfl hb172 (faP rfl ⟨ble rfl, blt rfl⟩ rfl)) ?_
          refine Ev.nfk (guT rfl hb172 (ldP rfl rfl)) ?_
          refine Ev.nfk (guT rfl hb172 (mvO h125)) ?_
          refine Ev.nfk (guT rfl hb172 (bSub rfl rfl)) ?_
          obtain ⟨x173, hx174, h⟩ := bind_some h
          refine Ev.nfk (guT rfl hb172 (ixS rfl rfl hx174 Tally.fl)) ?_
          refine Ev.nfk (guT rfl hb172 (faP rfl ⟨ble rfl, blt rfl⟩ rfl)) ?_
          refine Ev.nfk (guT rfl hb172 (ldP rfl rfl)) ?_
          refine Ev.nfk (guT rfl hb172 (bLss rfl rfl)) ?_
          refine Ev.nfk (guF rfl rfl (pkT rfl hb172 rfl)) ?_
          refine Ev.nfk (pkF rfl rfl rfl) ?_
          refine Ev.fend0 ?_
          refine Ev.rend ?_
          intro e175 he176
          have h177 : eget e175 0 = .pt none [.int .i64 a1.Day, .sl none (a1.Cash.map (cI .i64)), .sl none (a1.Tallies.map Tally.c)] := envp he176 rfl h123
          have h178 : eget e175 3 = .int .i64 (a1.Cash.length : Int) := envp he176 rfl h124
          have h179 : eget e175 4 = .int .i64 s1_1 := envp he176 rfl h125
          have h180 : eget e175 131 = .bool (decide (x63.Cut < x173.Cut)) := envp he176 rfl rfl
          clear h123 h124 h125 h126 h127
          refine Ev.kseqN ?_
          rcases ite_some h with ⟨hb181, h⟩ | ⟨hb181, h⟩
          · refine Ev.condT h180 hb181 ?_
            refine Ev.seq ?_
            refine Ev.reg (fun _ => rfl) ?_
            refine Ev.nxk (mvO rfl) ?_
            refine Ev.rend ?_
            intro e182 he183
            have h184 : eget e182 2 = .bool false := envp he183 rfl rfl
            clear h177 h178 h179 h180
            refine Ev.kseqN ?_
            refine Ev.ex ?_
            refine Ev.kblkR ?_
            refine Ev.kseqR ?_
            cases h
            exact Ev.kid (bQ_x (RS := (spec_l07Ok_b1_RS a1)) (RR := (spec_l07Ok_b1_RR a1)) (by intro h; cases h) (And.intro rfl h184))
          · refine Ev.condF h180 hb181 ?_
            refine Ev.ex ?_
            refine Ev.kblkN ?_
            refine Ev.kseqN ?_
            refine Ev.reg (fun _ => rfl) ?_
            refine Ev.nxk (mvO h179) ?_
            refine Ev.nxk (bAdd rfl rfl) ?_
            refine Ev.nxk (mvO rfl) ?_
            refine Ev.rend ?_
            intro e185 he186
            have h187 : eget e185 0 = .pt none [.int .i64 a1.Day, .sl none (a1.Cash.map (cI .i64)), .sl none (a1.Tallies.map Tally.c)] := envp he186 rfl h177
            have h188 : eget e185 3 = .int .i64 (a1.Cash.length : Int) := envp he186 rfl h178
            have h189 : eget e185 4 = .int .i64 (IntKind.i64.wrap (s1_1 + 1)) := envp he186 rfl rfl
            clear h177 h178 h180
            cases h
            exact Ev.kid (bQ_n (RS := (spec_l07Ok_b1_RS a1)) (RR := (spec_l07Ok_b1_RR a1)) (And.intro h187 (And.intro h188 h189)))
        · refine Ev.nfk (gsT rfl hb172) ?_
          refine Ev.nfk (gsT rfl hb172) ?_
          refine Ev.nfk (gsT rfl hb172) ?_
          refine Ev.nfk (gsT rfl hb172) ?_
          refine Ev.nfk (gsT rfl hb172) ?_
          refine Ev.nfk (gsT rfl hb172) ?_
          refine Ev.nfk (gsT rfl hb172) ?_
          refine Ev.nfk (gsT rfl hb172) ?_
          refine Ev.nfk (gsT rfl hb172) ?_
          refine Ev.nfk (gsT rfl hb172) ?_
          refine Ev.nfk (gsT rfl hb172) ?_
          refine Ev.nfk (gsT rfl hb172) ?_
          refine Ev.nfk (gsT rfl hb172) ?_
          refine Ev.nfk (gsT rfl hb172) ?_
          refine Ev.nfk (guF rfl rfl (pkF rfl hb172 rfl)) ?_
          refine Ev.nfk (pkF rfl rfl rfl) ?_
          refine Ev.fend0 ?_
          refine Ev.rend ?_
          intro e190 he191
          have h192 : eget e190 0 = .pt none [.int .i64 a1.Day, .sl none (a1.Cash.map (cI .i64)), .sl none (a1.Tallies.map Tally.c)] := envp he191 rfl h123
          have h193 : eget e190 3 = .int .i64 (a1.Cash.length : Int) := envp he191 rfl h124
          have h194 : eget e190 4 = .int .i64 s1_1 := envp he191 rfl h125
          have h195 : eget e190 131 = .bool false := envp he191 rfl rfl
          clear h123 h124 h125 h126 h127
          refine Ev.kseqN ?_
          refine Ev.condF h195 rfl ?_
          refine Ev.ex ?_
          refine Ev.kblkN ?_
          refine Ev.kseqN ?_
          refine Ev.reg (fun _ => rfl) ?_
          refine Ev.nxk (mvO h194) ?_
          refine Ev.nxk (bAdd rfl rfl) ?_
          refine Ev.nxk (mvO rfl) ?_
          refine Ev.rend ?_
          intro e196 he197
          have h198 : eget e196 0 = .pt none [.int .i64 a1.Day, .sl none (a1.Cash.map (cI .i64)), .sl none (a1.Tallies.map Tally.c)] := envp he197 rfl h192
          have h199 : eget e196 3 = .int .i64 (a1.Cash.length : Int) := envp he197 rfl h193
          have h200 : eget e196 4 = .int .i64 (IntKind.i64.wrap (s1_1 + 1)) := envp he197 rfl rfl
          clear h192 h193 h195
          cases h
          exact Ev.kid (bQ_n (RS := (spec_l07Ok_b1_RS a1)) (RR := (spec_l07Ok_b1_RR a1)) (And.intro h198 (And.intro h199 h200)))
  · refine Ev.condF h61 hb62 ?_
    refine Ev.ex ?_
    refine Ev.kseqE ?_
    cases h
    exact Ev.kid (bQ_x (RS := (spec_l07Ok_b1_RS a1)) (RR := (spec_l07Ok_b1_RR a1)) (by intro h; cases h) (And.intro rfl trivial))
noncomputable def spec_l07Ok (a1 : Book) : Option Bool :=
  ((spec_l07Day a1.Day).bind fun r5 =>
  if r5 = true then
    (spec_l07Cash a1.Cash).bind fun r8 =>
    if r8 = true then
      some (decide ((a1.Tallies.length : Int) > 40))
    else
      some true
  else
    some true).bind fun y24 =>
  if y24 = true then
    some false
  else
    (Lw (spec_l07Ok_b1 a1) 0).bind fun r => match r with
    | (.inl _) =>
      some false
    | (.inr _) =>
      some true
def spec_l07Ok_enc (r : Bool) : AV := .bool r
theorem spec_l07Ok_ok (a1 : Book) (r : Bool) (h : spec_l07Ok a1 = some r) : Ev (fun k => CN k 55 [.pt none [.int .i64 a1.Day, .sl none (a1.Cash.map (cI .i64)), .sl none (a1.Tallies.map Tally.c)]] []) (fun p => rRes p.2 p.1 = spec_l07Ok_enc r) := by
  unfold spec_l07Ok at h
  refine Ev.enter (F := fun k => f55 (CN k) k) (fun k => callN_eq rfl Try.func55 rfl rfl rfl (by decide +kernel) (f55_eq _ _)) ?_
  refine Ev.seq ?_
  refine Ev.reg (fun _ => rfl) ?_
  refine Ev.nxk (mvO rfl) ?_
  refine Ev.rend ?_
  intro e1 he2
  have h3 : eget e1 0 = .pt none [.int .i64 a1.Day, .sl none (a1.Cash.map (cI .i64)), .sl none (a1.Tallies.map Tally.c)] := envp he2 rfl rfl
  refine Ev.kseqN ?_
  refine Ev.seq ?_
  refine Ev.seq ?_
  obtain ⟨r216, hr217, h⟩ := bind_some h
  refine Ev.cut (Q1 := spec_l07Ok_c1_Q a1 r216) (by
      have h := hr217
      refine Ev.reg (fun _ => rfl) ?_
      refine Ev.nxk (mvO h3) ?_
      refine Ev.nxk (ncP rfl) ?_
      refine Ev.nxk (faP rfl ⟨ble rfl, blt rfl⟩ rfl) ?_
      refine Ev.nxk (ldP rfl rfl) ?_
      obtain ⟨r5, hx4, h⟩ := bind_some h
      refine Ev.nxck (Ev.call (v := .bool r5) rfl (cns rfl rfl) rfl (spec_l07Day_ok a1.Day _ hx4) (fun h => nomatch (show false = true from h))) ?_
      refine Ev.nxk (uNot rfl) ?_
      refine Ev.nxk (mvO rfl) ?_
      rcases ite_some h with ⟨hb6, h⟩ | ⟨hb6, h⟩
      · refine Ev.nxk (guF rfl (congrArg Bool.not hb6) (mvO h3)) ?_
        refine Ev.nxk (guF rfl (congrArg Bool.not hb6) (ncP rfl)) ?_
        refine Ev.nxk (guF rfl (congrArg Bool.not hb6) (faP rfl ⟨ble rfl, blt rfl⟩ rfl)) ?_
        refine Ev.nxk (guF rfl (congrArg Bool.not hb6) (ldP rfl rfl)) ?_
        obtain ⟨r8, hx7, h⟩ := bind_some h
        refine Ev.nxck (Ev.guF rfl (congrArg Bool.not hb6) (Ev.call (v := .bool r8) rfl (cns rfl rfl) rfl (spec_l07Cash_ok a1.Cash _ hx7) (fun h => nomatch (show false = true from h)))) ?_
        refine Ev.nxk (guF rfl (congrArg Bool.not hb6) (uNot rfl)) ?_
        refine Ev.nxk (pkF rfl (congrArg Bool.not hb6) rfl) ?_
        refine Ev.nxk (mvO rfl) ?_
        rcases ite_some h with ⟨hb9, h⟩ | ⟨hb9, h⟩
        · refine Ev.nxk (guF rfl (congrArg Bool.not hb9) (mvO h3)) ?_
          refine Ev.nxk (guF rfl (congrArg Bool.not hb9) (ncP rfl)) ?_
          refine Ev.nxk (guF rfl (congrArg Bool.not hb9) (faP rfl ⟨ble rfl, blt rfl⟩ rfl)) ?_
          refine Ev.nxk (guF rfl (congrArg Bool.not hb9) (ldP rfl rfl)) ?_
          refine Ev.nxk (guF rfl (congrArg Bool.not hb9) (lnS Try.underlying29 rfl)) ?_
          refine Ev.nxk (guF rfl (congrArg Bool.not hb9) (bGtr rfl rfl)) ?_
          refine Ev.nxk (pkF rfl (congrArg Bool.not hb9) rfl) ?_
          refine Ev.rend ?_
          intro e10 he11
          have h12 : eget e10 0 = .pt none [.int .i64 a1.Day, .sl none (a1.Cash.map (cI .i64)), .sl none (a1.Tallies.map Tally.c)] := envp he11 rfl h3
          have h13 : eget e10 27 = .bool (decide ((a1.Tallies.length : Int) > 40)) := envp he11 rfl rfl
          clear h3
          cases h
          exact Ev.kid (show spec_l07Ok_c1_Q a1 _ _ from (And.intro rfl (And.intro h12 h13)))
        · refine Ev.nxk (gsF rfl (congrArg Bool.not hb9)) ?_
          refine Ev.nxk (gsF rfl (congrArg Bool.not hb9)) ?_
          refine Ev.nxk (gsF rfl (congrArg Bool.not hb9)) ?_
          refine Ev.nxk (gsF rfl (congrArg Bool.not hb9)) ?_
          refine Ev.nxk (gsF rfl (congrArg Bool.not hb9)) ?_
          refine Ev.nxk (gsF rfl (congrArg Bool.not hb9)) ?_
          refine Ev.nxk (pkT rfl (congrArg Bool.not hb9) rfl) ?_
          refine Ev.rend ?_
          intro e14 he15
          have h16 : eget e14 0 = .pt none [.int .i64 a1.Day, .sl none (a1.Cash.map (cI .i64)), .sl none (a1.Tallies.map Tally.c)] := envp he15 rfl h3
          have h17 : eget e14 27 = .bool true := envp he15 rfl rfl
          clear h3
          cases h
          exact Ev.kid (show spec_l07Ok_c1_Q a1 _ _ from (And.intro rfl (And.intro h16 h17)))
      · refine Ev.nxk (gsF rfl (congrArg Bool.not hb6)) ?_
        refine Ev.nxk (gsF rfl (congrArg Bool.not hb6)) ?_
        refine Ev.nxk (gsF rfl (congrArg Bool.not hb6)) ?_
        refine Ev.nxk (gsF rfl (congrArg Bool.not hb6)) ?_
        refine Ev.nxck (Ev.gsF rfl (congrArg Bool.not hb6)) ?_
        refine Ev.nxk (gsF rfl (congrArg Bool.not hb6)) ?_
        refine Ev.nxk (pkT rfl (congrArg Bool.not hb6) rfl) ?_
        refine Ev.nxk (mvO rfl) ?_
        refine Ev.nxk (gsF rfl rfl) ?_
        refine Ev.nxk (gsF rfl rfl) ?_
        refine Ev.nxk (gsF rfl rfl) ?_
        refine Ev.nxk (gsF rfl rfl) ?_
        refine Ev.nxk (gsF rfl rfl) ?_
        refine Ev.nxk (gsF rfl rfl) ?_
        refine Ev.nxk (pkT rfl rfl rfl) ?_
        refine Ev.rend ?_
        intro e18 he19
        have h20 : eget e18 0 = .pt none [.int .i64 a1.Day, .sl none (a1.Cash.map (cI .i64)), .sl none (a1.Tallies.map Tally.c)] := envp he19 rfl h3
        have h21 : eget e18 27 = .bool true := envp he19 rfl rfl
        clear h3
        cases h
        exact Ev.kid (show spec_l07Ok_c1_Q a1 _ _ from (And.intro rfl (And.intro h20 h21)))) ?_
  revert h hr217
  revert r216
  intro y24 hr217 h
  intro x e22 M23 hq215
  obtain ⟨rfl, h25, h26⟩ := hq215
  refine Ev.kseqN ?_
  rcases ite_some h with ⟨hb27, h⟩ | ⟨hb27, h⟩
  · refine Ev.condT h26 hb27 ?_
    refine Ev.seq ?_
    refine Ev.reg (fun _ => rfl) ?_
    refine Ev.nxk (mvO rfl) ?_
    refine Ev.rend ?_
    intro e28 he29
    have h30 : eget e28 2 = .bool false := envp he29 rfl rfl
    clear h25 h26
    refine Ev.kseqN ?_
    refine Ev.ex ?_
    refine Ev.kseqR ?_
    cases h
    exact Ev.kendR (resT h30 res0) rfl
  · refine Ev.condF h26 hb27 ?_
    refine Ev.ex ?_
    refine Ev.kseqN ?_
    refine Ev.seq ?_
    refine Ev.reg (fun _ => rfl) ?_
    refine Ev.nxk (mvO h25) ?_
    refine Ev.nxk (ncP rfl) ?_
    refine Ev.nxk (faP rfl ⟨ble rfl, blt rfl⟩ rfl) ?_
    refine Ev.nxk (ldP rfl rfl) ?_
    refine Ev.nxk (lnS Try.underlying22 rfl) ?_
    refine Ev.nxk (mvO rfl) ?_
    refine Ev.rend ?_
    intro e31 he32
    have h33 : eget e31 0 = .pt none [.int .i64 a1.Day, .sl none (a1.Cash.map (cI .i64)), .sl none (a1.Tallies.map Tally.c)] := envp he32 rfl h25
    have h34 : eget e31 3 = .int .i64 (a1.Cash.length : Int) := envp he32 rfl rfl
    clear h25 h26
    refine Ev.kseqN ?_
    refine Ev.seq ?_
    refine Ev.seq ?_
    refine Ev.reg (fun _ => rfl) ?_
    refine Ev.nxk (mvO rfl) ?_
    refine Ev.rend ?_
    intro e35 he36
    have h37 : eget e35 0 = .pt none [.int .i64 a1.Day, .sl none (a1.Cash.map (cI .i64)), .sl none (a1.Tallies.map Tally.c)] := envp he36 rfl h33
    have h38 : eget e35 3 = .int .i64 (a1.Cash.length : Int) := envp he36 rfl h34
    have h39 : eget e35 4 = .int .i64 0 := envp he36 rfl rfl
    clear h33 h34
    refine Ev.kseqN ?_
    refine Ev.blk ?_
    obtain ⟨r204, hr205, h⟩ := bind_some h
    rcases r204 with _ | _
    · refine Ev.loop (RS := spec_l07Ok_b1_RS a1) (RR := spec_l07Ok_b1_RR a1) (fun s r h e M hs => spec_l07Ok_b1_ok a1 s r h e M hs) hr205 (And.intro h37 (And.intro h38 h39)) ?_
      intro x e207 M208 hq206
      obtain ⟨rfl, h209⟩ := hq206
      refine Ev.kblkR ?_
      refine Ev.kseqR ?_
      cases h
      exact Ev.kendR (resT h209 res0) rfl
    · refine Ev.loop (RS := spec_l07Ok_b1_RS a1) (RR := spec_l07Ok_b1_RR a1) (fun s r h e M hs => spec_l07Ok_b1_ok a1 s r h e M hs) hr205 (And.intro h37 (And.intro h38 h39)) ?_
      intro x e210 M211 hq206
      obtain ⟨rfl, _⟩ := hq206
      refine Ev.kblkE ?_
      refine Ev.kseqN ?_
      refine Ev.seq ?_
      refine Ev.reg (fun _ => rfl) ?_
      refine Ev.nxk (mvO rfl) ?_
      refine Ev.rend ?_
      intro e212 he213
      have h214 : eget e212 2 = .bool true := envp he213 rfl rfl
      refine Ev.kseqN ?_
      refine Ev.ex ?_
      cases h
      exact Ev.kendR (resT h214 res0) rfl
/-! ### loop.example/g01263/laws.eqTallyS (f37) -/
abbrev laws_eqTallyS_b1_S := Int
abbrev laws_eqTallyS_b1_R := Unit ⊕ Unit
def laws_eqTallyS_b1_RS (a1 : List Tally) (a2 : List Tally) (s : laws_eqTallyS_b1_S) (e : Env) (M : Mem) : Prop := eget e 0 = .sl none (a1.map Tally.c) ∧ eget e 1 = .sl none (a2.map Tally.c) ∧ eget e 5 = .int .i64 s
def laws_eqTallyS_b1_RR (a1 : List Tally) (a2 : List Tally) (r : laws_eqTallyS_b1_R) (x : Ex) (e : Env) (M : Mem) : Prop :=
  match r with
  | (.inl g) => x = .ret ∧ eget e 4 = .bool false
  | (.inr g) => x = .ext 0 ∧ True
noncomputable def laws_eqTallyS_b1 (a1 : List Tally) (a2 : List Tally) : laws_eqTallyS_b1_S → Option (laws_eqTallyS_b1_S ⊕ laws_eqTallyS_b1_R) := fun s1_1 =>
  if (decide (s1_1 < (a1.length : Int))) = true then
    (rd a1 s1_1).bind fun x42 =>
    (rd a2 s1_1).bind fun x44 =>
    (laws_eqTally x42 x44).bind fun r47 =>
    if r47 = true then
      some (.inl (IntKind.i64.wrap (s1_1 + 1)))
    else
      some (.inr (.inl ()))
  else
    some (.inr (.inr ()))
theorem laws_eqTallyS_b1_ok (a1 : List Tally) (a2 : List Tally) (s : laws_eqTallyS_b1_S) (r : laws_eqTallyS_b1_S ⊕ laws_eqTallyS_b1_R) (h : laws_eqTallyS_b1 a1 a2 s = some r) (e : Env) (M : Mem) (hs : laws_eqTallyS_b1_RS a1 a2 s e M) : Ev (fun k => (f37_l4 (CN k) k (prune [0, 1, 5] e) M).bind fun q => some q) (bQ (laws_eqTallyS_b1_RS a1 a2) (laws_eqTallyS_b1_RR a1 a2) r) := by
  revert h hs
  revert s
  intro s1_1 h hs
  unfold laws_eqTallyS_b1 at h
  obtain ⟨h29, h31, h33⟩ := hs
  generalize he28 : prune [0, 1, 5] e = e27
  have h30 := envp he28.symm rfl h29
  have h32 := envp he28.symm rfl h31
  have h34 := envp he28.symm rfl h33
  refine Ev.seq ?_
  refine Ev.seq ?_
  refine Ev.reg (fun _ => rfl) ?_
  refine Ev.nxk (mvO h34) ?_
  refine Ev.nxk (mvO h30) ?_
  refine Ev.nxk (lnS Try.underlying29 rfl) ?_
  refine Ev.nxk (bLss rfl rfl) ?_
  refine Ev.rend ?_
  intro e35 he36
  have h37 : eget e35 0 = .sl none (a1.map Tally.c) := envp he36 rfl h30
  have h38 : eget e35 1 = .sl none (a2.map Tally.c) := envp he36 rfl h32
  have h39 : eget e35 5 = .int .i64 s1_1 := envp he36 rfl h34
  have h40 : eget e35 14 = .bool (decide (s1_1 < (a1.length : Int))) := envp he36 rfl rfl
  clear h30 h32 h34
  refine Ev.kseqN ?_
  rcases ite_some h with ⟨hb41, h⟩ | ⟨hb41, h⟩
  · refine Ev.condT h40 hb41 ?_
    refine Ev.ex ?_
    refine Ev.kseqN ?_
    refine Ev.seq ?_
    refine Ev.blk ?_
    refine Ev.seq ?_
    refine Ev.regD (fun _ => rfl) ?_
    refine Ev.nfk (mvO h37) ?_
    refine Ev.nfk (mvO h39) ?_
    obtain ⟨x42, hx43, h⟩ := bind_some h
    refine Ev.nfk (ixS rfl rfl hx43 Tally.fl) ?_
    refine Ev.nfk (ldPA rfl rfl rfl) ?_
    refine Ev.nfk (mvO h38) ?_
    refine Ev.nfk (mvO h39) ?_
    obtain ⟨x44, hx45, h⟩ := bind_some h
    refine Ev.nfk (ixS rfl rfl hx45 Tally.fl) ?_
    refine Ev.nfk (ldPA rfl rfl rfl) ?_
    obtain ⟨r47, hx46, h⟩ := bind_some h
    refine Ev.nfc (Ev.call (v := .bool r47) rfl (cns rfl (cns rfl rfl)) rfl (laws_eqTally_ok x42 x44 _ hx46) (fun h => nomatch (show false = true from h))) ?_
    refine Ev.nfk (uNot rfl) ?_
    refine Ev.fend0 ?_
    refine Ev.rend ?_
    intro e48 he49
    have h50 : eget e48 0 = .sl none (a1.map Tally.c) := envp he49 rfl h37
    have h51 : eget e48 1 = .sl none (a2.map Tally.c) := envp he49 rfl h38
    have h52 : eget e48 5 = .int .i64 s1_1 := envp he49 rfl h39
    have h53 : eget e48 26 = .bool (!r47) := envp he49 rfl rfl
    clear h37 h38 h39 h40
    refine Ev.kseqN ?_
    rcases ite_some h with ⟨hb54, h⟩ | ⟨hb54, h⟩
    · refine Ev.condF h53 (congrArg Bool.not hb54) ?_
      refine Ev.ex ?_
      refine Ev.kblkN ?_
      refine Ev.kseqN ?_
      refine Ev.reg (fun _ => rfl) ?_
      refine Ev.nxk (mvO h52) ?_
      refine Ev.nxk (bAdd rfl rfl) ?_
      refine Ev.nxk (mvO rfl) ?_
      refine Ev.rend ?_
      intro e55 he56
      have h57 : eget e55 0 = .sl none (a1.map Tally.c) := envp he56 rfl h50
      have h58 : eget e55 1 = .sl none (a2.map Tally.c) := envp he56 rfl h51
      have h59 : eget e55 5 = .int .i64 (IntKind.i64.wrap (s1_1 + 1)) := envp he56 rfl rfl
      clear h50 h51 h53
      cases h
      exact Ev.kid (bQ_n (RS := (laws_eqTallyS_b1_RS a1 a2)) (RR := (laws_eqTallyS_b1_RR a1 a2)) (And.intro h57 (And.intro h58 h59)))
    · refine Ev.condT h53 (congrArg Bool.not hb54) ?_
      refine Ev.seq ?_
      refine Ev.reg (fun _ => rfl) ?_
      refine Ev.nxk (mvO rfl) ?_
      refine Ev.rend ?_
      intro e60 he61
      have h62 : eget e60 4 = .bool false := envp he61 rfl rfl
      clear h50 h51 h52 h53
      refine Ev.kseqN ?_
      refine Ev.ex ?_
      refine Ev.kblkR ?_
      refine Ev.kseqR ?_
      cases h
      exact Ev.kid (bQ_x (RS := (laws_eqTallyS_b1_RS a1 a2)) (RR := (laws_eqTallyS_b1_RR a1 a2)) (by intro h; cases h) (And.intro rfl h62))
  · refine Ev.condF h40 hb41 ?_
    refine Ev.ex ?_
    refine Ev.kseqE ?_
    cases h
    exact Ev.kid (bQ_x (RS := (laws_eqTallyS_b1_RS a1 a2)) (RR := (laws_eqTallyS_b1_RR a1 a2)) (by intro h; cases h) (And.intro rfl trivial))
noncomputable def laws_eqTallyS (a1 : List Tally) (a2 : List Tally) : Option Bool :=
  if ((a1.length : Int) != (a2.length : Int)) = true then
    some false
  else
    (Lw (laws_eqTallyS_b1 a1 a2) 0).bind fun r => match r with
    | (.inl _) =>
      some false
    | (.inr _) =>
      some true
def laws_eqTallyS_enc (r : Bool) : AV := .bool r
theorem laws_eqTallyS_ok (a1 : List Tally) (a2 : List Tally) (r : Bool) (h : laws_eqTallyS a1 a2 = some r) : Ev (fun k => CN k 37 [.sl none (a1.map Tally.c), .sl none (a2.map Tally.c)] []) (fun p => rRes p.2 p.1 = laws_eqTallyS_enc r) := by
  unfold laws_eqTallyS at h
  refine Ev.enter (F := fun k => f37 (CN k) k) (fun k => callN_eq rfl Try.func37 rfl rfl rfl (by decide +kernel) (f37_eq _ _)) ?_
  refine Ev.seq ?_
  refine Ev.reg (fun _ => rfl) ?_
  refine Ev.nxk (mvO rfl) ?_
  refine Ev.rend ?_
  intro e1 he2
  have h3 : eget e1 0 = .sl none (a1.map Tally.c) := envp he2 rfl rfl
  have h4 : eget e1 1 = .sl none (a2.map Tally.c) := envp he2 rfl rfl
  refine Ev.kseqN ?_
  refine Ev.seq ?_
  refine Ev.seq ?_
  refine Ev.reg (fun _ => rfl) ?_
  refine Ev.nxk (mvO h3) ?_
  refine Ev.nxk (lnS Try.underlying29 rfl) ?_
  refine Ev.nxk (mvO h4) ?_
  refine Ev.nxk (lnS Try.underlying29 rfl) ?_
  refine Ev.nxk (bNeq rfl rfl) ?_
  refine Ev.rend ?_
  intro e5 he6
  have h7 : eget e5 0 = .sl none (a1.map Tally.c) := envp he6 rfl h3
  have h8 : eget e5 1 = .sl none (a2.map Tally.c) := envp he6 rfl h4
  have h9 : eget e5 10 = .bool ((a1.length : Int) != (a2.length : Int)) := envp he6 rfl rfl
  clear h3 h4
  refine Ev.kseqN ?_
  rcases ite_some h with ⟨hb10, h⟩ | ⟨hb10, h⟩
  · refine Ev.condT h9 hb10 ?_
    refine Ev.seq ?_
    refine Ev.reg (fun _ => rfl) ?_
    refine Ev.nxk (mvO rfl) ?_
    refine Ev.rend ?_
    intro e11 he12
    have h13 : eget e11 4 = .bool false := envp he12 rfl rfl
    clear h7 h8 h9
    refine Ev.kseqN ?_
    refine Ev.ex ?_
    refine Ev.kseqR ?_
    cases h
    exact Ev.kendR (resT h13 res0) rfl
  · refine Ev.condF h9 hb10 ?_
    refine Ev.ex ?_
    refine Ev.kseqN ?_
    refine Ev.seq ?_
    refine Ev.seq ?_
    refine Ev.reg (fun _ => rfl) ?_
    refine Ev.nxk (mvO rfl) ?_
    refine Ev.rend ?_
    intro e14 he15
    have h16 : eget e14 0 = .sl none (a1.map Tally.c) := envp he15 rfl h7
    have h17 : eget e14 1 = .sl none (a2.map Tally.c) := envp he15 rfl h8
    have h18 : eget e14 5 = .int .i64 0 := envp he15 rfl rfl
    clear h7 h8 h9
    refine Ev.kseqN ?_
    refine Ev.blk ?_
    obtain ⟨r63, hr64, h⟩ := bind_some h
    rcases r63 with _ | _
    · refine Ev.loop (RS := laws_eqTallyS_b1_RS a1 a2) (RR := laws_eqTallyS_b1_RR a1 a2) (fun s r h e M hs => laws_eqTallyS_b1_ok a1 a2 s r h e M hs) hr64 (And.intro h16 (And.intro h17 h18)) ?_
      intro x e66 M67 hq65
      obtain ⟨rfl, h68⟩ := hq65
      refine Ev.kblkR ?_
      refine Ev.kseqR ?_
      cases h
      exact Ev.kendR (resT h68 res0) rfl
    · refine Ev.loop (RS := laws_eqTallyS_b1_RS a1 a2) (RR := laws_eqTallyS_b1_RR a1 a2) (fun s r h e M hs => laws_eqTallyS_b1_ok a1 a2 s r h e M hs) hr64 (And.intro h16 (And.intro h17 h18)) ?_
      intro x e69 M70 hq65
      obtain ⟨rfl, _⟩ := hq65
      refine Ev.kblkE ?_
      refine Ev.kseqN ?_
      refine Ev.seq ?_
      refine Ev.reg (fun _ => rfl) ?_
      refine Ev.nxk (mvO rfl) ?_
      refine Ev.rend ?_
      intro e71 he72
      have h73 : eget e71 4 = .bool true := envp he72 rfl rfl
      refine Ev.kseqN ?_
      refine Ev.ex ?_
      cases h
      exact Ev.kendR (resT h73 res0) rfl
/-! ### loop.example/g01263/impl.personCode (f36) -/
noncomputable def impl_personCode (a1 : Book) (a2 : Int) : Option Int :=
  (impl_ValidBook a1).bind fun r6 =>
  if r6 = true then
    (impl_arePeople (a1.Cash.length : Int) [a2]).bind fun r14 =>
    if r14 = true then
      some 0
    else
      some 2
  else
    some 1
def impl_personCode_enc (r : Int) : AV := .int .i64 r
theorem impl_personCode_ok (a1 : Book) (a2 : Int) (r : Int) (h : impl_personCode a1 a2 = some r) : Ev (fun k => CN k 36 [.agg [.int .i64 a1.Day, .sl none (a1.Cash.map (cI .i64)), .sl none (a1.Tallies.map Tally.c)], .int .i64 a2] []) (fun p => rRes p.2 p.1 = impl_personCode_enc r) := by
  unfold impl_personCode at h
  refine Ev.enter (F := fun k => f36 (CN k) k) (fun k => callN_eq rfl Try.func36 rfl rfl rfl (by decide +kernel) (f36_eq _ _)) ?_
  refine Ev.seq ?_
  refine Ev.reg (fun _ => rfl) ?_
  refine Ev.nxk (bxI rfl rfl ⟨rfl, rfl, by decide⟩) ?_
  refine Ev.nxk (mvO rfl) ?_
  refine Ev.rend ?_
  intro e1 he2
  have h3 : eget e1 1 = .int .i64 a2 := envp he2 rfl rfl
  have h4 : eget e1 2 = .pt none [.int .i64 a1.Day, .sl none (a1.Cash.map (cI .i64)), .sl none (a1.Tallies.map Tally.c)] := envp he2 rfl rfl
  refine Ev.kseqN ?_
  refine Ev.seq ?_
  refine Ev.blk ?_
  refine Ev.seq ?_
  refine Ev.reg (fun _ => rfl) ?_
  refine Ev.nxk (ldPA h4 rfl rfl) ?_
  obtain ⟨r6, hx5, h⟩ := bind_some h
  refine Ev.nxck (Ev.call (v := .bool r6) rfl (cns rfl rfl) rfl (impl_ValidBook_ok a1 _ hx5) (fun h => nomatch (show false = true from h))) ?_
  refine Ev.nxk (uNot rfl) ?_
  refine Ev.nxk (mvO rfl) ?_
  refine Ev.rend ?_
  intro e7 he8
  have h9 : eget e7 1 = .int .i64 a2 := envp he8 rfl h3
  have h10 : eget e7 2 = .pt none [.int .i64 a1.Day, .sl none (a1.Cash.map (cI .i64)), .sl none (a1.Tallies.map Tally.c)] := envp he8 rfl h4
  have h11 : eget e7 5 = .bool (!r6) := envp he8 rfl rfl
  clear h3 h4
  refine Ev.kseqN ?_
  rcases ite_some h with ⟨hb12, h⟩ | ⟨hb12, h⟩
  · refine Ev.condF h11 (congrArg Bool.not hb12) ?_
    refine Ev.seq ?_
    refine Ev.reg (fun _ => rfl) ?_
    refine Ev.nxk (faP h10 ⟨ble rfl, blt rfl⟩ rfl) ?_
    refine Ev.nxk (ldP rfl rfl) ?_
    refine Ev.nxk (lnS Try.underlying22 rfl) ?_
    refine Ev.nxk (mvO h9) ?_
    refine Ev.nxk (litI (cns rfl rfl) rfl ⟨rfl, by decide⟩) ?_
    obtain ⟨r14, hx13, h⟩ := bind_some h
    refine Ev.nxck (Ev.call (v := .bool r14) rfl (cns rfl (cns rfl rfl)) rfl (impl_arePeople_ok (a1.Cash.length : Int) [a2] _ hx13) (fun h => nomatch (show false = true from h))) ?_
    refine Ev.nxk (uNot rfl) ?_
    refine Ev.nxk (mvO rfl) ?_
    refine Ev.rend ?_
    intro e15 he16
    have h17 : eget e15 9 = .bool (!r14) := envp he16 rfl rfl
    clear h10 h11 h9
    refine Ev.kseqN ?_
    rcases ite_some h with ⟨hb18, h⟩ | ⟨hb18, h⟩
    · refine Ev.condF h17 (congrArg Bool.not hb18) ?_
      refine Ev.ex ?_
      refine Ev.kblkN ?_
      refine Ev.kseqN ?_
      refine Ev.seq ?_
      refine Ev.reg (fun _ => rfl) ?_
      refine Ev.nxk (mvO rfl) ?_
      refine Ev.rend ?_
      intro e19 he20
      have h21 : eget e19 4 = .int .i64 0 := envp he20 rfl rfl
      clear h17
      refine Ev.kseqN ?_
      refine Ev.ex ?_
      cases h
      exact Ev.kendR (resT h21 res0) rfl
    · refine Ev.condT h17 (congrArg Bool.not hb18) ?_
      refine Ev.seq ?_
      refine Ev.reg (fun _ => rfl) ?_
      refine Ev.nxk (mvO rfl) ?_
      refine Ev.rend ?_
      intro e22 he23
      have h24 : eget e22 4 = .int .i64 2 := envp he23 rfl rfl
      clear h17
      refine Ev.kseqN ?_
      refine Ev.ex ?_
      refine Ev.kblkR ?_
      refine Ev.kseqR ?_
      cases h
      exact Ev.kendR (resT h24 res0) rfl
  · refine Ev.condT h11 (congrArg Bool.not hb12) ?_
    refine Ev.seq ?_
    refine Ev.reg (fun _ => rfl) ?_
    refine Ev.nxk (mvO rfl) ?_
    refine Ev.rend ?_
    intro e25 he26
    have h27 : eget e25 4 = .int .i64 1 := envp he26 rfl rfl
    clear h10 h11 h9
    refine Ev.kseqN ?_
    refine Ev.ex ?_
    refine Ev.kblkR ?_
    refine Ev.kseqR ?_
    cases h
    exact Ev.kendR (resT h27 res0) rfl
/-! ### loop.example/g01263/laws.toTallyS (f35) -/
abbrev laws_toTallyS_b1_S := Int × (List Tally)
abbrev laws_toTallyS_b1_R := (List Tally)
def laws_toTallyS_b1_RS (a1 : List Tally) (x4 : List Tally) (i1_1 : Nat) (s : laws_toTallyS_b1_S) (e : Env) (M : Mem) : Prop := eget e 0 = .sl none (a1.map Tally.c) ∧ eget e 3 = .lsl i1_1 s.2.length 0 s.2.length ∧ eget e 4 = .int .i64 s.1 ∧ M[i1_1]? = some (.live ⟨.grow, 78, 5, s.2.map Tally.c⟩) ∧ s.2.length = x4.length
def laws_toTallyS_b1_RR (a1 : List Tally) (x4 : List Tally) (i1_1 : Nat) (g : laws_toTallyS_b1_R) (x : Ex) (e : Env) (M : Mem) : Prop := x = .ext 0 ∧ eget e 3 = .lsl i1_1 g.length 0 g.length ∧ M[i1_1]? = some (.live ⟨.grow, 78, 5, g.map Tally.c⟩) ∧ g.length = x4.length
noncomputable def laws_toTallyS_b1 (a1 : List Tally) : laws_toTallyS_b1_S → Option (laws_toTallyS_b1_S ⊕ laws_toTallyS_b1_R) := fun (s1_1, s1_2) =>
  if (decide (s1_1 < (a1.length : Int))) = true then
    (rd a1 s1_1).bind fun x45 =>
    (laws_toTally x45).bind fun (r48, r49, r50, r51, r52) =>
    (rd s1_2 s1_1).bind fun x53 =>
    some (.inl ((IntKind.i64.wrap (s1_1 + 1)), (s1_2.set s1_1.toNat (Tally.mk r48 r49 r50 r51 r52))))
  else
    some (.inr s1_2)
theorem laws_toTallyS_b1_ok (a1 : List Tally) (x4 : List Tally) (i1_1 : Nat) (s : laws_toTallyS_b1_S) (r : laws_toTallyS_b1_S ⊕ laws_toTallyS_b1_R) (h : laws_toTallyS_b1 a1 s = some r) (e : Env) (M : Mem) (hs : laws_toTallyS_b1_RS a1 x4 i1_1 s e M) : Ev (fun k => (f35_l3 (CN k) k (prune [0, 3, 4] e) M).bind fun q => some q) (bQ (laws_toTallyS_b1_RS a1 x4 i1_1) (laws_toTallyS_b1_RR a1 x4 i1_1) r) := by
  obtain ⟨s1_1, s1_2⟩ := s
  unfold laws_toTallyS_b1 at h
  obtain ⟨h30, h32, h34, o36, hl37⟩ := hs
  generalize he29 : prune [0, 3, 4] e = e28
  have h31 := envp he29.symm rfl h30
  have h33 := envp he29.symm rfl h32
  have h35 := envp he29.symm rfl h34
  refine Ev.seq ?_
  refine Ev.seq ?_
  refine Ev.reg (fun _ => rfl) ?_
  refine Ev.nxk (mvO h35) ?_
  refine Ev.nxk (mvO h31) ?_
  refine Ev.nxk (lnS Try.underlying23 rfl) ?_
  refine Ev.nxk (bLss rfl rfl) ?_
  refine Ev.rend ?_
  intro e38 he39
  have h40 : eget e38 0 = .sl none (a1.map Tally.c) := envp he39 rfl h31
  have h41 : eget e38 3 = .lsl i1_1 s1_2.length 0 s1_2.length := envp he39 rfl h33
  have h42 : eget e38 4 = .int .i64 s1_1 := envp he39 rfl h35
  have h43 : eget e38 11 = .bool (decide (s1_1 < (a1.length : Int))) := envp he39 rfl rfl
  clear h31 h33 h35
  refine Ev.kseqN ?_
  rcases ite_some h with ⟨hb44, h⟩ | ⟨hb44, h⟩
  · refine Ev.condT h43 hb44 ?_
    refine Ev.ex ?_
    refine Ev.kseqN ?_
    refine Ev.seq ?_
    refine Ev.blk ?_
    refine Ev.reg (fun _ => rfl) ?_
    refine Ev.nxk (mvO h41) ?_
    refine Ev.nxk (mvO h42) ?_
    refine Ev.nxk (mvO h40) ?_
    refine Ev.nxk (mvO h42) ?_
    obtain ⟨x45, hx46, h⟩ := bind_some h
    refine Ev.nxk (ixS rfl rfl hx46 Tally.fl) ?_
    refine Ev.nxk (ldPA rfl rfl rfl) ?_
    obtain ⟨⟨r48, r49, r50, r51, r52⟩, hx47, h⟩ := bind_some h
    refine Ev.nxck (Ev.call (v := .agg [.int .i64 r48, .int .i64 r49, .int .i64 r50, .int .i64 r51, .int .i64 r52]) rfl (cns rfl rfl) rfl (laws_toTally_ok x45 _ hx47) (fun h => nomatch (show false = true from h))) ?_
    obtain ⟨x53, hx54, h⟩ := bind_some h
    refine Ev.nxk (ixO rfl o36 rfl rfl (rd_get hx54).1 (rd_lt hx54).2) ?_
    refine Ev.nxput (stR (u := x53) (u' := (Tally.mk r48 r49 r50 r51 r52)) rfl rfl o36 rfl (by rw [Nat.zero_add]; exact (rd_get hx54).2) ⟨rfl, ble rfl⟩ rfl rfl) ?_
    intro M55 hM56
    rw [Nat.zero_add] at hM56
    have o57 : M55[i1_1]? = some (.live ⟨.grow, 78, 5, (s1_2.set s1_1.toNat (Tally.mk r48 r49 r50 r51 r52)).map Tally.c⟩) := set_same hM56 o36
    refine Ev.rend ?_
    intro e58 he59
    have h60 : eget e58 0 = .sl none (a1.map Tally.c) := envp he59 rfl h40
    have h61 : eget e58 3 = .lsl i1_1 s1_2.length 0 s1_2.length := envp he59 rfl h41
    have h62 : eget e58 4 = .int .i64 s1_1 := envp he59 rfl h42
    clear h40 h41 h42 h43
    refine Ev.kblkN ?_
    refine Ev.kseqN ?_
    refine Ev.reg (fun _ => rfl) ?_
    refine Ev.nxk (mvO h62) ?_
    refine Ev.nxk (bAdd rfl rfl) ?_
    refine Ev.nxk (mvO rfl) ?_
    refine Ev.rend ?_
    intro e63 he64
    have h65 : eget e63 0 = .sl none (a1.map Tally.c) := envp he64 rfl h60
    have h66 : eget e63 3 = .lsl i1_1 s1_2.length 0 s1_2.length := envp he64 rfl h61
    have h67 : eget e63 4 = .int .i64 (IntKind.i64.wrap (s1_1 + 1)) := envp he64 rfl rfl
    clear h60 h61
    cases h
    exact Ev.kid (bQ_n (RS := (laws_toTallyS_b1_RS a1 x4 i1_1)) (RR := (laws_toTallyS_b1_RR a1 x4 i1_1)) (And.intro h65 (And.intro (lslL (L' := (s1_2.set s1_1.toNat (Tally.mk r48 r49 r50 r51 r52)).length) h66 (by simp [hl37])) (And.intro h67 (And.intro o57 (by first | rfl | simp [hl37]))))))
  · refine Ev.condF h43 hb44 ?_
    refine Ev.ex ?_
    refine Ev.kseqE ?_
    cases h
    exact Ev.kid (bQ_x (RS := (laws_toTallyS_b1_RS a1 x4 i1_1)) (RR := (laws_toTallyS_b1_RR a1 x4 i1_1)) (by intro h; cases h) (And.intro rfl (And.intro h41 (And.intro o36 (by first | rfl | simp [hl37])))))
noncomputable def laws_toTallyS (a1 : List Tally) : Option ((List Tally)) :=
  (mkS 40 (Tally.mk 0 0 0 0 0) (a1.length : Int)).bind fun x4 =>
  (Lw (laws_toTallyS_b1 a1) (0, x4)).bind fun y73 =>
  some y73
def laws_toTallyS_enc (r : (List Tally)) : AV := .sl (some 78) (r.map Tally.c)
theorem laws_toTallyS_ok (a1 : List Tally) (r : (List Tally)) (h : laws_toTallyS a1 = some r) : Ev (fun k => CN k 35 [.sl none (a1.map Tally.c)] []) (fun p => rRes p.2 p.1 = laws_toTallyS_enc r) := by
  unfold laws_toTallyS at h
  refine Ev.enter (F := fun k => f35 (CN k) k) (fun k => callN_eq rfl Try.func35 rfl rfl rfl (by decide +kernel) (f35_eq _ _)) ?_
  refine Ev.seq ?_
  refine Ev.reg (fun _ => rfl) ?_
  refine Ev.nxk (mvO rfl) ?_
  refine Ev.rend ?_
  intro e1 he2
  have h3 : eget e1 0 = .sl none (a1.map Tally.c) := envp he2 rfl rfl
  refine Ev.kseqN ?_
  refine Ev.seq ?_
  refine Ev.reg (fun _ => rfl) ?_
  refine Ev.nxk (mvO h3) ?_
  refine Ev.nxk (lnS Try.underlying23 rfl) ?_
  obtain ⟨x4, hx5, h⟩ := bind_some h
  refine Ev.nxpush (mkO rfl rfl hx5 (c := Tally.c) zero78 Tally.fl (by decide)) ?_
  intro M7 hM8
  have o9 : M7[([] : Mem).length]? = some (.live ⟨.grow, 78, 5, x4.map Tally.c⟩) := push_new hM8
  refine Ev.nxk (mvO rfl) ?_
  refine Ev.rend ?_
  intro e10 he11
  have h12 : eget e10 0 = .sl none (a1.map Tally.c) := envp he11 rfl h3
  have h13 : eget e10 3 = .lsl ([] : Mem).length x4.length 0 x4.length := envp he11 rfl rfl
  clear h3
  refine Ev.kseqN ?_
  refine Ev.seq ?_
  refine Ev.seq ?_
  refine Ev.reg (fun _ => rfl) ?_
  refine Ev.nxk (mvO rfl) ?_
  refine Ev.rend ?_
  intro e14 he15
  have h16 : eget e14 0 = .sl none (a1.map Tally.c) := envp he15 rfl h12
  have h17 : eget e14 3 = .lsl ([] : Mem).length x4.length 0 x4.length := envp he15 rfl h13
  have h18 : eget e14 4 = .int .i64 0 := envp he15 rfl rfl
  clear h12 h13
  refine Ev.kseqN ?_
  refine Ev.blk ?_
  obtain ⟨y73, hr69, h⟩ := bind_some h
  refine Ev.loop (RS := laws_toTallyS_b1_RS a1 x4 (([] : Mem).length)) (RR := laws_toTallyS_b1_RR a1 x4 (([] : Mem).length)) (fun s r h e M hs => laws_toTallyS_b1_ok a1 x4 (([] : Mem).length) s r h e M hs) hr69 (And.intro h16 (And.intro h17 (And.intro h18 (And.intro o9 rfl)))) ?_
  intro x e71 M72 hq70
  obtain ⟨rfl, h74, o75, hl76⟩ := hq70
  refine Ev.kblkE ?_
  refine Ev.kseqN ?_
  refine Ev.seq ?_
  refine Ev.reg (fun _ => rfl) ?_
  refine Ev.nxk (mvO h74) ?_
  refine Ev.nxk (mvO rfl) ?_
  refine Ev.rend ?_
  intro e77 he78
  have h79 : eget e77 2 = .lsl ([] : Mem).length y73.length 0 y73.length := envp he78 rfl rfl
  clear h74
  refine Ev.kseqN ?_
  refine Ev.ex ?_
  cases h
  exact Ev.kendR (resT h79 res0) (rr_row o75 rfl Tally.fl)
/-! ### loop.example/g01263/laws.toInt64S (f34) -/
abbrev laws_toInt64S_b1_S := Int × (List Int)
abbrev laws_toInt64S_b1_R := (List Int)
def laws_toInt64S_b1_RS (a1 : List Int) (x4 : List Int) (i1_1 : Nat) (s : laws_toInt64S_b1_S) (e : Env) (M : Mem) : Prop := eget e 0 = .sl none (a1.map (cI .i64)) ∧ eget e 3 = .lsl i1_1 s.2.length 0 s.2.length ∧ eget e 4 = .int .i64 s.1 ∧ M[i1_1]? = some (.live ⟨.grow, 2, 1, s.2.map (cI .i64)⟩) ∧ s.2.length = x4.length
def laws_toInt64S_b1_RR (a1 : List Int) (x4 : List Int) (i1_1 : Nat) (g : laws_toInt64S_b1_R) (x : Ex) (e : Env) (M : Mem) : Prop := x = .ext 0 ∧ eget e 3 = .lsl i1_1 g.length 0 g.length ∧ M[i1_1]? = some (.live ⟨.grow, 2, 1, g.map (cI .i64)⟩) ∧ g.length = x4.length
noncomputable def laws_toInt64S_b1 (a1 : List Int) : laws_toInt64S_b1_S → Option (laws_toInt64S_b1_S ⊕ laws_toInt64S_b1_R) := fun (s1_1, s1_2) =>
  if (decide (s1_1 < (a1.length : Int))) = true then
    (rd a1 s1_1).bind fun x45 =>
    (rd s1_2 s1_1).bind fun x47 =>
    some (.inl ((IntKind.i64.wrap (s1_1 + 1)), (s1_2.set s1_1.toNat x45)))
  else
    some (.inr s1_2)
theorem laws_toInt64S_b1_ok (a1 : List Int) (x4 : List Int) (i1_1 : Nat) (s : laws_toInt64S_b1_S) (r : laws_toInt64S_b1_S ⊕ laws_toInt64S_b1_R) (h : laws_toInt64S_b1 a1 s = some r) (e : Env) (M : Mem) (hs : laws_toInt64S_b1_RS a1 x4 i1_1 s e M) : Ev (fun k => (f34_l3 (CN k) k (prune [0, 3, 4] e) M).bind fun q => some q) (bQ (laws_toInt64S_b1_RS a1 x4 i1_1) (laws_toInt64S_b1_RR a1 x4 i1_1) r) := by
  obtain ⟨s1_1, s1_2⟩ := s
  unfold laws_toInt64S_b1 at h
  obtain ⟨h30, h32, h34, o36, hl37⟩ := hs
  generalize he29 : prune [0, 3, 4] e = e28
  have h31 := envp he29.symm rfl h30
  have h33 := envp he29.symm rfl h32
  have h35 := envp he29.symm rfl h34
  refine Ev.seq ?_
  refine Ev.seq ?_
  refine Ev.reg (fun _ => rfl) ?_
  refine Ev.nxk (mvO h35) ?_
  refine Ev.nxk (mvO h31) ?_
  refine Ev.nxk (lnS Try.underlying22 rfl) ?_
  refine Ev.nxk (bLss rfl rfl) ?_
  refine Ev.rend ?_
  intro e38 he39
  have h40 : eget e38 0 = .sl none (a1.map (cI .i64)) := envp he39 rfl h31
  have h41 : eget e38 3 = .lsl i1_1 s1_2.length 0 s1_2.length := envp he39 rfl h33
  have h42 : eget e38 4 = .int .i64 s1_1 := envp he39 rfl h35
  have h43 : eget e38 11 = .bool (decide (s1_1 < (a1.length : Int))) := envp he39 rfl rfl
  clear h31 h33 h35
  refine Ev.kseqN ?_
  rcases ite_some h with ⟨hb44, h⟩ | ⟨hb44, h⟩
  · refine Ev.condT h43 hb44 ?_
    refine Ev.ex ?_
    refine Ev.kseqN ?_
    refine Ev.seq ?_
    refine Ev.blk ?_
    refine Ev.reg (fun _ => rfl) ?_
    refine Ev.nxk (mvO h41) ?_
    refine Ev.nxk (mvO h42) ?_
    refine Ev.nxk (mvO h40) ?_
    refine Ev.nxk (mvO h42) ?_
    obtain ⟨x45, hx46, h⟩ := bind_some h
    refine Ev.nxk (ixS rfl rfl hx46 (cI_fl _)) ?_
    refine Ev.nxk (ldP rfl rfl) ?_
    obtain ⟨x47, hx48, h⟩ := bind_some h
    refine Ev.nxk (ixO rfl o36 rfl rfl (rd_get hx48).1 (rd_lt hx48).2) ?_
    refine Ev.nxput (stR (u := x47) (u' := x45) rfl rfl o36 rfl (by rw [Nat.zero_add]; exact (rd_get hx48).2) ⟨rfl, ble rfl⟩ rfl rfl) ?_
    intro M49 hM50
    rw [Nat.zero_add] at hM50
    have o51 : M49[i1_1]? = some (.live ⟨.grow, 2, 1, (s1_2.set s1_1.toNat x45).map (cI .i64)⟩) := set_same hM50 o36
    refine Ev.rend ?_
    intro e52 he53
    have h54 : eget e52 0 = .sl none (a1.map (cI .i64)) := envp he53 rfl h40
    have h55 : eget e52 3 = .lsl i1_1 s1_2.length 0 s1_2.length := envp he53 rfl h41
    have h56 : eget e52 4 = .int .i64 s1_1 := envp he53 rfl h42
    clear h40 h41 h42 h43
    refine Ev.kblkN ?_
    refine Ev.kseqN ?_
    refine Ev.reg (fun _ => rfl) ?_
    refine Ev.nxk (mvO h56) ?_
    refine Ev.nxk (bAdd rfl rfl) ?_
    refine Ev.nxk (mvO rfl) ?_
    refine Ev.rend ?_
    intro e57 he58
    have h59 : eget e57 0 = .sl none (a1.map (cI .i64)) := envp he58 rfl h54
    have h60 : eget e57 3 = .lsl i1_1 s1_2.length 0 s1_2.length := envp he58 rfl h55
    have h61 : eget e57 4 = .int .i64 (IntKind.i64.wrap (s1_1 + 1)) := envp he58 rfl rfl
    clear h54 h55
    cases h
    exact Ev.kid (bQ_n (RS := (laws_toInt64S_b1_RS a1 x4 i1_1)) (RR := (laws_toInt64S_b1_RR a1 x4 i1_1)) (And.intro h59 (And.intro (lslL (L' := (s1_2.set s1_1.toNat x45).length) h60 (by simp [hl37])) (And.intro h61 (And.intro o51 (by first | rfl | simp [hl37]))))))
  · refine Ev.condF h43 hb44 ?_
    refine Ev.ex ?_
    refine Ev.kseqE ?_
    cases h
    exact Ev.kid (bQ_x (RS := (laws_toInt64S_b1_RS a1 x4 i1_1)) (RR := (laws_toInt64S_b1_RR a1 x4 i1_1)) (by intro h; cases h) (And.intro rfl (And.intro h41 (And.intro o36 (by first | rfl | simp [hl37])))))
noncomputable def laws_toInt64S (a1 : List Int) : Option ((List Int)) :=
  (mkS 8 0 (a1.length : Int)).bind fun x4 =>
  (Lw (laws_toInt64S_b1 a1) (0, x4)).bind fun y67 =>
  some y67
def laws_toInt64S_enc (r : (List Int)) : AV := .sl (some 2) (r.map (cI .i64))
theorem laws_toInt64S_ok (a1 : List Int) (r : (List Int)) (h : laws_toInt64S a1 = some r) : Ev (fun k => CN k 34 [.sl none (a1.map (cI .i64))] []) (fun p => rRes p.2 p.1 = laws_toInt64S_enc r) := by
  unfold laws_toInt64S at h
  refine Ev.enter (F := fun k => f34 (CN k) k) (fun k => callN_eq rfl Try.func34 rfl rfl rfl (by decide +kernel) (f34_eq _ _)) ?_
  refine Ev.seq ?_
  refine Ev.reg (fun _ => rfl) ?_
  refine Ev.nxk (mvO rfl) ?_
  refine Ev.rend ?_
  intro e1 he2
  have h3 : eget e1 0 = .sl none (a1.map (cI .i64)) := envp he2 rfl rfl
  refine Ev.kseqN ?_
  refine Ev.seq ?_
  refine Ev.reg (fun _ => rfl) ?_
  refine Ev.nxk (mvO h3) ?_
  refine Ev.nxk (lnS Try.underlying22 rfl) ?_
  obtain ⟨x4, hx5, h⟩ := bind_some h
  refine Ev.nxpush (mkO rfl rfl hx5 (c := (cI .i64)) zero2 (cI_fl _) (by decide)) ?_
  intro M7 hM8
  have o9 : M7[([] : Mem).length]? = some (.live ⟨.grow, 2, 1, x4.map (cI .i64)⟩) := push_new hM8
  refine Ev.nxk (mvO rfl) ?_
  refine Ev.rend ?_
  intro e10 he11
  have h12 : eget e10 0 = .sl none (a1.map (cI .i64)) := envp he11 rfl h3
  have h13 : eget e10 3 = .lsl ([] : Mem).length x4.length 0 x4.length := envp he11 rfl rfl
  clear h3
  refine Ev.kseqN ?_
  refine Ev.seq ?_
  refine Ev.seq ?_
  refine Ev.reg (fun _ => rfl) ?_
  refine Ev.nxk (mvO rfl) ?_
  refine Ev.rend ?_
  intro e14 he15
  have h16 : eget e14 0 = .sl none (a1.map (cI .i64)) := envp he15 rfl h12
  have h17 : eget e14 3 = .lsl ([] : Mem).length x4.length 0 x4.length := envp he15 rfl h13
  have h18 : eget e14 4 = .int .i64 0 := envp he15 rfl rfl
  clear h12 h13
  refine Ev.kseqN ?_
  refine Ev.blk ?_
  obtain ⟨y67, hr63, h⟩ := bind_some h
  refine Ev.loop (RS := laws_toInt64S_b1_RS a1 x4 (([] : Mem).length)) (RR := laws_toInt64S_b1_RR a1 x4 (([] : Mem).length)) (fun s r h e M hs => laws_toInt64S_b1_ok a1 x4 (([] : Mem).length) s r h e M hs) hr63 (And.intro h16 (And.intro h17 (And.intro h18 (And.intro o9 rfl)))) ?_
  intro x e65 M66 hq64
  obtain ⟨rfl, h68, o69, hl70⟩ := hq64
  refine Ev.kblkE ?_
  refine Ev.kseqN ?_
  refine Ev.seq ?_
  refine Ev.reg (fun _ => rfl) ?_
  refine Ev.nxk (mvO h68) ?_
  refine Ev.nxk (mvO rfl) ?_
  refine Ev.rend ?_
  intro e71 he72
  have h73 : eget e71 2 = .lsl ([] : Mem).length y67.length 0 y67.length := envp he72 rfl rfl
  clear h68
  refine Ev.kseqN ?_
  refine Ev.ex ?_
  cases h
  exact Ev.kendR (resT h73 res0) (rr_row o69 rfl (cI_fl _))
/-! ### loop.example/g01263/spec.l07One (f33) -/
noncomputable def spec_l07One (a1 : Book) (a2 : Int) : Option Int :=
  (spec_l07Ok a1).bind fun r6 =>
  if r6 = true then
    (spec_l02Person (a1.Cash.length : Int) a2).bind fun r14 =>
    if r14 = true then
      some 0
    else
      some 2
  else
    some 1
def spec_l07One_enc (r : Int) : AV := .int .i64 r
theorem spec_l07One_ok (a1 : Book) (a2 : Int) (r : Int) (h : spec_l07One a1 a2 = some r) : Ev (fun k => CN k 33 [.pt none [.int .i64 a1.Day, .sl none (a1.Cash.map (cI .i64)), .sl none (a1.Tallies.map Tally.c)], .int .i64 a2] []) (fun p => rRes p.2 p.1 = spec_l07One_enc r) := by
  unfold spec_l07One at h
  refine Ev.enter (F := fun k => f33 (CN k) k) (fun k => callN_eq rfl Try.func33 rfl rfl rfl (by decide +kernel) (f33_eq _ _)) ?_
  refine Ev.seq ?_
  refine Ev.reg (fun _ => rfl) ?_
  refine Ev.nxk (mvO rfl) ?_
  refine Ev.rend ?_
  intro e1 he2
  have h3 : eget e1 0 = .pt none [.int .i64 a1.Day, .sl none (a1.Cash.map (cI .i64)), .sl none (a1.Tallies.map Tally.c)] := envp he2 rfl rfl
  have h4 : eget e1 1 = .int .i64 a2 := envp he2 rfl rfl
  refine Ev.kseqN ?_
  refine Ev.seq ?_
  refine Ev.seq ?_
  refine Ev.reg (fun _ => rfl) ?_
  refine Ev.nxk (mvO h3) ?_
  obtain ⟨r6, hx5, h⟩ := bind_some h
  refine Ev.nxck (Ev.call (v := .bool r6) rfl (cns rfl rfl) rfl (spec_l07Ok_ok a1 _ hx5) (fun h => nomatch (show false = true from h))) ?_
  refine Ev.nxk (uNot rfl) ?_
  refine Ev.rend ?_
  intro e7 he8
  have h9 : eget e7 0 = .pt none [.int .i64 a1.Day, .sl none (a1.Cash.map (cI .i64)), .sl none (a1.Tallies.map Tally.c)] := envp he8 rfl h3
  have h10 : eget e7 1 = .int .i64 a2 := envp he8 rfl h4
  have h11 : eget e7 7 = .bool (!r6) := envp he8 rfl rfl
  clear h3 h4
  refine Ev.kseqN ?_
  rcases ite_some h with ⟨hb12, h⟩ | ⟨hb12, h⟩
  · refine Ev.condF h11 (congrArg Bool.not hb12) ?_
    refine Ev.ex ?_
    refine Ev.kseqN ?_
    refine Ev.seq ?_
    refine Ev.seq ?_
    refine Ev.reg (fun _ => rfl) ?_
    refine Ev.nxk (mvO h9) ?_
    refine Ev.nxk (ncP rfl) ?_
    refine Ev.nxk (faP rfl ⟨ble rfl, blt rfl⟩ rfl) ?_
    refine Ev.nxk (ldP rfl rfl) ?_
    refine Ev.nxk (lnS Try.underlying22 rfl) ?_
    refine Ev.nxk (mvO h10) ?_
    obtain ⟨r14, hx13, h⟩ := bind_some h
    refine Ev.nxck (Ev.call (v := .bool r14) rfl (cns rfl (cns rfl rfl)) rfl (spec_l02Person_ok (a1.Cash.length : Int) a2 _ hx13) (fun h => nomatch (show false = true from h))) ?_
    refine Ev.nxk (uNot rfl) ?_
    refine Ev.rend ?_
    intro e15 he16
    have h17 : eget e15 15 = .bool (!r14) := envp he16 rfl rfl
    clear h10 h11 h9
    refine Ev.kseqN ?_
    rcases ite_some h with ⟨hb18, h⟩ | ⟨hb18, h⟩
    · refine Ev.condF h17 (congrArg Bool.not hb18) ?_
      refine Ev.ex ?_
      refine Ev.kseqN ?_
      refine Ev.seq ?_
      refine Ev.reg (fun _ => rfl) ?_
      refine Ev.nxk (mvO rfl) ?_
      refine Ev.rend ?_
      intro e19 he20
      have h21 : eget e19 4 = .int .i64 0 := envp he20 rfl rfl
      clear h17
      refine Ev.kseqN ?_
      refine Ev.ex ?_
      cases h
      exact Ev.kendR (resT h21 res0) rfl
    · refine Ev.condT h17 (congrArg Bool.not hb18) ?_
      refine Ev.seq ?_
      refine Ev.reg (fun _ => rfl) ?_
      refine Ev.nxk (mvO rfl) ?_
      refine Ev.rend ?_
      intro e22 he23
      have h24 : eget e22 4 = .int .i64 2 := envp he23 rfl rfl
      clear h17
      refine Ev.kseqN ?_
      refine Ev.ex ?_
      refine Ev.kseqR ?_
      cases h
      exact Ev.kendR (resT h24 res0) rfl
  · refine Ev.condT h11 (congrArg Bool.not hb12) ?_
    refine Ev.seq ?_
    refine Ev.reg (fun _ => rfl) ?_
    refine Ev.nxk (mvO rfl) ?_
    refine Ev.rend ?_
    intro e25 he26
    have h27 : eget e25 4 = .int .i64 1 := envp he26 rfl rfl
    clear h10 h11 h9
    refine Ev.kseqN ?_
    refine Ev.ex ?_
    refine Ev.kseqR ?_
    cases h
    exact Ev.kendR (resT h27 res0) rfl
/-! ### loop.example/g01263/laws.szTallyS (f32) -/
noncomputable def laws_szTallyS (a1 : List Tally) (a2 : Int) : Option Int :=
  if (decide ((IntKind.i64.wrap (a2 - (a1.length : Int))) < 0)) = true then
    some (-1)
  else
    some (IntKind.i64.wrap (a2 - (a1.length : Int)))
def laws_szTallyS_enc (r : Int) : AV := .int .i64 r
theorem laws_szTallyS_ok (a1 : List Tally) (a2 : Int) (r : Int) (h : laws_szTallyS a1 a2 = some r) : Ev (fun k => CN k 32 [.sl none (a1.map Tally.c), .int .i64 a2] []) (fun p => rRes p.2 p.1 = laws_szTallyS_enc r) := by
  unfold laws_szTallyS at h
  refine Ev.enter (F := fun k => f32 (CN k) k) (fun k => callN_eq rfl Try.func32 rfl rfl rfl (by decide +kernel) (f32_eq _ _)) ?_
  refine Ev.seq ?_
  refine Ev.reg (fun _ => rfl) ?_
  refine Ev.nxk (mvO rfl) ?_
  refine Ev.rend ?_
  intro e1 he2
  have h3 : eget e1 0 = .sl none (a1.map Tally.c) := envp he2 rfl rfl
  have h4 : eget e1 1 = .int .i64 a2 := envp he2 rfl rfl
  refine Ev.kseqN ?_
  refine Ev.seq ?_
  refine Ev.reg (fun _ => rfl) ?_
  refine Ev.nxk (mvO h4) ?_
  refine Ev.nxk (mvO h3) ?_
  refine Ev.nxk (lnS Try.underlying23 rfl) ?_
  refine Ev.nxk (bSub rfl rfl) ?_
  refine Ev.nxk (mvO rfl) ?_
  refine Ev.rend ?_
  intro e5 he6
  have h7 : eget e5 1 = .int .i64 (IntKind.i64.wrap (a2 - (a1.length : Int))) := envp he6 rfl rfl
  clear h3
  refine Ev.kseqN ?_
  refine Ev.seq ?_
  refine Ev.seq ?_
  refine Ev.reg (fun _ => rfl) ?_
  refine Ev.nxk (mvO h7) ?_
  refine Ev.nxk (bLss rfl rfl) ?_
  refine Ev.rend ?_
  intro e8 he9
  have h10 : eget e8 1 = .int .i64 (IntKind.i64.wrap (a2 - (a1.length : Int))) := envp he9 rfl h7
  have h11 : eget e8 10 = .bool (decide ((IntKind.i64.wrap (a2 - (a1.length : Int))) < 0)) := envp he9 rfl rfl
  clear h7
  refine Ev.kseqN ?_
  rcases ite_some h with ⟨hb12, h⟩ | ⟨hb12, h⟩
  · refine Ev.condT h11 hb12 ?_
    refine Ev.seq ?_
    refine Ev.reg (fun _ => rfl) ?_
    refine Ev.nxk (mvO rfl) ?_
    refine Ev.rend ?_
    intro e13 he14
    have h15 : eget e13 4 = .int .i64 (-1) := envp he14 rfl rfl
    clear h10 h11
    refine Ev.kseqN ?_
    refine Ev.ex ?_
    refine Ev.kseqR ?_
    cases h
    exact Ev.kendR (resT h15 res0) rfl
  · refine Ev.condF h11 hb12 ?_
    refine Ev.ex ?_
    refine Ev.kseqN ?_
    refine Ev.seq ?_
    refine Ev.reg (fun _ => rfl) ?_
    refine Ev.nxk (mvO h10) ?_
    refine Ev.nxk (mvO rfl) ?_
    refine Ev.rend ?_
    intro e16 he17
    have h18 : eget e16 4 = .int .i64 (IntKind.i64.wrap (a2 - (a1.length : Int))) := envp he17 rfl rfl
    clear h10 h11
    refine Ev.kseqN ?_
    refine Ev.ex ?_
    cases h
    exact Ev.kendR (resT h18 res0) rfl
/-! ### loop.example/g01263/laws.szInt64S (f31) -/
noncomputable def laws_szInt64S (a1 : List Int) (a2 : Int) : Option Int :=
  if (decide ((IntKind.i64.wrap (a2 - (a1.length : Int))) < 0)) = true then
    some (-1)
  else
    some (IntKind.i64.wrap (a2 - (a1.length : Int)))
def laws_szInt64S_enc (r : Int) : AV := .int .i64 r
theorem laws_szInt64S_ok (a1 : List Int) (a2 : Int) (r : Int) (h : laws_szInt64S a1 a2 = some r) : Ev (fun k => CN k 31 [.sl none (a1.map (cI .i64)), .int .i64 a2] []) (fun p => rRes p.2 p.1 = laws_szInt64S_enc r) := by
  unfold laws_szInt64S at h
  refine Ev.enter (F := fun k => f31 (CN k) k) (fun k => callN_eq rfl Try.func31 rfl rfl rfl (by decide +kernel) (f31_eq _ _)) ?_
  refine Ev.seq ?_
  refine Ev.reg (fun _ => rfl) ?_
  refine Ev.nxk (mvO rfl) ?_
  refine Ev.rend ?_
  intro e1 he2
  have h3 : eget e1 0 = .sl none (a1.map (cI .i64)) := envp he2 rfl rfl
  have h4 : eget e1 1 = .int .i64 a2 := envp he2 rfl rfl
  refine Ev.kseqN ?_
  refine Ev.seq ?_
  refine Ev.reg (fun _ => rfl) ?_
  refine Ev.nxk (mvO h4) ?_
  refine Ev.nxk (mvO h3) ?_
  refine Ev.nxk (lnS Try.underlying22 rfl) ?_
  refine Ev.nxk (bSub rfl rfl) ?_
  refine Ev.nxk (mvO rfl) ?_
  refine Ev.rend ?_
  intro e5 he6
  have h7 : eget e5 1 = .int .i64 (IntKind.i64.wrap (a2 - (a1.length : Int))) := envp he6 rfl rfl
  clear h3
  refine Ev.kseqN ?_
  refine Ev.seq ?_
  refine Ev.seq ?_
  refine Ev.reg (fun _ => rfl) ?_
  refine Ev.nxk (mvO h7) ?_
  refine Ev.nxk (bLss rfl rfl) ?_
  refine Ev.rend ?_
  intro e8 he9
  have h10 : eget e8 1 = .int .i64 (IntKind.i64.wrap (a2 - (a1.length : Int))) := envp he9 rfl h7
  have h11 : eget e8 10 = .bool (decide ((IntKind.i64.wrap (a2 - (a1.length : Int))) < 0)) := envp he9 rfl rfl
  clear h7
  refine Ev.kseqN ?_
  rcases ite_some h with ⟨hb12, h⟩ | ⟨hb12, h⟩
  · refine Ev.condT h11 hb12 ?_
    refine Ev.seq ?_
    refine Ev.reg (fun _ => rfl) ?_
    refine Ev.nxk (mvO rfl) ?_
    refine Ev.rend ?_
    intro e13 he14
    have h15 : eget e13 4 = .int .i64 (-1) := envp he14 rfl rfl
    clear h10 h11
    refine Ev.kseqN ?_
    refine Ev.ex ?_
    refine Ev.kseqR ?_
    cases h
    exact Ev.kendR (resT h15 res0) rfl
  · refine Ev.condF h11 hb12 ?_
    refine Ev.ex ?_
    refine Ev.kseqN ?_
    refine Ev.seq ?_
    refine Ev.reg (fun _ => rfl) ?_
    refine Ev.nxk (mvO h10) ?_
    refine Ev.nxk (mvO rfl) ?_
    refine Ev.rend ?_
    intro e16 he17
    have h18 : eget e16 4 = .int .i64 (IntKind.i64.wrap (a2 - (a1.length : Int))) := envp he17 rfl rfl
    clear h10 h11
    refine Ev.kseqN ?_
    refine Ev.ex ?_
    cases h
    exact Ev.kendR (resT h18 res0) rfl
/-! ### loop.example/g01263/laws.heldInt64S (f16) -/
abbrev laws_heldInt64S_b1_S := Int × Int
abbrev laws_heldInt64S_b1_R := Unit ⊕ Int
def laws_heldInt64S_b1_RS (a1 : List Int) (s : laws_heldInt64S_b1_S) (e : Env) (M : Mem) : Prop := eget e 0 = .sl none (a1.map (cI .i64)) ∧ eget e 1 = .int .i64 s.1 ∧ eget e 5 = .int .i64 s.2
def laws_heldInt64S_b1_RR (a1 : List Int) (r : laws_heldInt64S_b1_R) (x : Ex) (e : Env) (M : Mem) : Prop :=
  match r with
  | (.inl g) => x = .ret ∧ eget e 4 = .int .i64 (-1)
  | (.inr g) => x = .ext 0 ∧ eget e 1 = .int .i64 g
noncomputable def laws_heldInt64S_b1 (a1 : List Int) : laws_heldInt64S_b1_S → Option (laws_heldInt64S_b1_S ⊕ laws_heldInt64S_b1_R) := fun (s1_1, s1_2) =>
  if (decide (s1_2 < (a1.length : Int))) = true then
    (rd a1 s1_2).bind fun x33 =>
    if (x33 != s1_1) = true then
      some (.inr (.inl ()))
    else
      some (.inl ((IntKind.i64.wrap (s1_1 + 1)), (IntKind.i64.wrap (s1_2 + 1))))
  else
    some (.inr (.inr s1_1))
theorem laws_heldInt64S_b1_ok (a1 : List Int) (s : laws_heldInt64S_b1_S) (r : laws_heldInt64S_b1_S ⊕ laws_heldInt64S_b1_R) (h : laws_heldInt64S_b1 a1 s = some r) (e : Env) (M : Mem) (hs : laws_heldInt64S_b1_RS a1 s e M) : Ev (fun k => (f16_l2 (CN k) k (prune [0, 1, 5] e) M).bind fun q => some q) (bQ (laws_heldInt64S_b1_RS a1) (laws_heldInt64S_b1_RR a1) r) := by
  obtain ⟨s1_1, s1_2⟩ := s
  unfold laws_heldInt64S_b1 at h
  obtain ⟨h20, h22, h24⟩ := hs
  generalize he19 : prune [0, 1, 5] e = e18
  have h21 := envp he19.symm rfl h20
  have h23 := envp he19.symm rfl h22
  have h25 := envp he19.symm rfl h24
  refine Ev.seq ?_
  refine Ev.seq ?_
  refine Ev.reg (fun _ => rfl) ?_
  refine Ev.nxk (mvO h25) ?_
  refine Ev.nxk (mvO h21) ?_
  refine Ev.nxk (lnS Try.underlying22 rfl) ?_
  refine Ev.nxk (bLss rfl rfl) ?_
  refine Ev.rend ?_
  intro e26 he27
  have h28 : eget e26 0 = .sl none (a1.map (cI .i64)) := envp he27 rfl h21
  have h29 : eget e26 1 = .int .i64 s1_1 := envp he27 rfl h23
  have h30 : eget e26 5 = .int .i64 s1_2 := envp he27 rfl h25
  have h31 : eget e26 9 = .bool (decide (s1_2 < (a1.length : Int))) := envp he27 rfl rfl
  clear h21 h23 h25
  refine Ev.kseqN ?_
  rcases ite_some h with ⟨hb32, h⟩ | ⟨hb32, h⟩
  · refine Ev.condT h31 hb32 ?_
    refine Ev.ex ?_
    refine Ev.kseqN ?_
    refine Ev.seq ?_
    refine Ev.blk ?_
    refine Ev.seq ?_
    refine Ev.seq ?_
    refine Ev.reg (fun _ => rfl) ?_
    refine Ev.nxk (mvO h28) ?_
    refine Ev.nxk (mvO h30) ?_
    obtain ⟨x33, hx34, h⟩ := bind_some h
    refine Ev.nxk (ixS rfl rfl hx34 (cI_fl _)) ?_
    refine Ev.nxk (ldP rfl rfl) ?_
    refine Ev.nxk (mvO h29) ?_
    refine Ev.nxk (bNeq rfl rfl) ?_
    refine Ev.rend ?_
    intro e35 he36
    have h37 : eget e35 0 = .sl none (a1.map (cI .i64)) := envp he36 rfl h28
    have h38 : eget e35 1 = .int .i64 s1_1 := envp he36 rfl h29
    have h39 : eget e35 5 = .int .i64 s1_2 := envp he36 rfl h30
    have h40 : eget e35 17 = .bool (x33 != s1_1) := envp he36 rfl rfl
    clear h28 h29 h30 h31
    refine Ev.kseqN ?_
    rcases ite_some h with ⟨hb41, h⟩ | ⟨hb41, h⟩
    · refine Ev.condT h40 hb41 ?_
      refine Ev.seq ?_
      refine Ev.reg (fun _ => rfl) ?_
      refine Ev.nxk (mvO rfl) ?_
      refine Ev.rend ?_
      intro e42 he43
      have h44 : eget e42 4 = .int .i64 (-1) := envp he43 rfl rfl
      clear h37 h38 h39 h40
      refine Ev.kseqN ?_
      refine Ev.ex ?_
      refine Ev.kseqR ?_
      refine Ev.kblkR ?_
      refine Ev.kseqR ?_
      cases h
      exact Ev.kid (bQ_x (RS := (laws_heldInt64S_b1_RS a1)) (RR := (laws_heldInt64S_b1_RR a1)) (by intro h; cases h) (And.intro rfl h44))
    · refine Ev.condF h40 hb41 ?_
      refine Ev.ex ?_
      refine Ev.kseqN ?_
      refine Ev.reg (fun _ => rfl) ?_
      refine Ev.nxk (mvO h38) ?_
      refine Ev.nxk (bAdd rfl rfl) ?_
      refine Ev.nxk (mvO rfl) ?_
      refine Ev.rend ?_
      intro e45 he46
      have h47 : eget e45 0 = .sl none (a1.map (cI .i64)) := envp he46 rfl h37
      have h48 : eget e45 1 = .int .i64 (IntKind.i64.wrap (s1_1 + 1)) := envp he46 rfl rfl
      have h49 : eget e45 5 = .int .i64 s1_2 := envp he46 rfl h39
      clear h37 h39 h40
      refine Ev.kblkN ?_
      refine Ev.kseqN ?_
      refine Ev.reg (fun _ => rfl) ?_
      refine Ev.nxk (mvO h49) ?_
      refine Ev.nxk (bAdd rfl rfl) ?_
      refine Ev.nxk (mvO rfl) ?_
      refine Ev.rend ?_
      intro e50 he51
      have h52 : eget e50 0 = .sl none (a1.map (cI .i64)) := envp he51 rfl h47
      have h53 : eget e50 1 = .int .i64 (IntKind.i64.wrap (s1_1 + 1)) := envp he51 rfl h48
      have h54 : eget e50 5 = .int .i64 (IntKind.i64.wrap (s1_2 + 1)) := envp he51 rfl rfl
      clear h47 h48
      cases h
      exact Ev.kid (bQ_n (RS := (laws_heldInt64S_b1_RS a1)) (RR := (laws_heldInt64S_b1_RR a1)) (And.intro h52 (And.intro h53 h54)))
  · refine Ev.condF h31 hb32 ?_
    refine Ev.ex ?_
    refine Ev.kseqE ?_
    cases h
    exact Ev.kid (bQ_x (RS := (laws_heldInt64S_b1_RS a1)) (RR := (laws_heldInt64S_b1_RR a1)) (by intro h; cases h) (And.intro rfl h29))
noncomputable def laws_heldInt64S (a1 : List Int) (a2 : Int) : Option Int :=
  (Lw (laws_heldInt64S_b1 a1) (a2, 0)).bind fun r => match r with
  | (.inl _) =>
    some (-1)
  | (.inr y63) =>
    some y63
def laws_heldInt64S_enc (r : Int) : AV := .int .i64 r
theorem laws_heldInt64S_ok (a1 : List Int) (a2 : Int) (r : Int) (h : laws_heldInt64S a1 a2 = some r) : Ev (fun k => CN k 16 [.sl none (a1.map (cI .i64)), .int .i64 a2] []) (fun p => rRes p.2 p.1 = laws_heldInt64S_enc r) := by
  unfold laws_heldInt64S at h
  refine Ev.enter (F := fun k => f16 (CN k) k) (fun k => callN_eq rfl Try.func16 rfl rfl rfl (by decide +kernel) (f16_eq _ _)) ?_
  refine Ev.seq ?_
  refine Ev.reg (fun _ => rfl) ?_
  refine Ev.nxk (mvO rfl) ?_
  refine Ev.rend ?_
  intro e1 he2
  have h3 : eget e1 0 = .sl none (a1.map (cI .i64)) := envp he2 rfl rfl
  have h4 : eget e1 1 = .int .i64 a2 := envp he2 rfl rfl
  refine Ev.kseqN ?_
  refine Ev.seq ?_
  refine Ev.seq ?_
  refine Ev.reg (fun _ => rfl) ?_
  refine Ev.nxk (mvO rfl) ?_
  refine Ev.rend ?_
  intro e5 he6
  have h7 : eget e5 0 = .sl none (a1.map (cI .i64)) := envp he6 rfl h3
  have h8 : eget e5 1 = .int .i64 a2 := envp he6 rfl h4
  have h9 : eget e5 5 = .int .i64 0 := envp he6 rfl rfl
  clear h3 h4
  refine Ev.kseqN ?_
  refine Ev.blk ?_
  obtain ⟨r55, hr56, h⟩ := bind_some h
  rcases r55 with _ | y63
  · refine Ev.loop (RS := laws_heldInt64S_b1_RS a1) (RR := laws_heldInt64S_b1_RR a1) (fun s r h e M hs => laws_heldInt64S_b1_ok a1 s r h e M hs) hr56 (And.intro h7 (And.intro h8 h9)) ?_
    intro x e58 M59 hq57
    obtain ⟨rfl, h60⟩ := hq57
    refine Ev.kblkR ?_
    refine Ev.kseqR ?_
    cases h
    exact Ev.kendR (resT h60 res0) rfl
  · refine Ev.loop (RS := laws_heldInt64S_b1_RS a1) (RR := laws_heldInt64S_b1_RR a1) (fun s r h e M hs => laws_heldInt64S_b1_ok a1 s r h e M hs) hr56 (And.intro h7 (And.intro h8 h9)) ?_
    intro x e61 M62 hq57
    obtain ⟨rfl, h64⟩ := hq57
    refine Ev.kblkE ?_
    refine Ev.kseqN ?_
    refine Ev.seq ?_
    refine Ev.reg (fun _ => rfl) ?_
    refine Ev.nxk (mvO h64) ?_
    refine Ev.nxk (mvO rfl) ?_
    refine Ev.rend ?_
    intro e65 he66
    have h67 : eget e65 4 = .int .i64 y63 := envp he66 rfl rfl
    clear h64
    refine Ev.kseqN ?_
    refine Ev.ex ?_
    cases h
    exact Ev.kendR (resT h67 res0) rfl
/-! ### loop.example/g01263/laws.eqInt64S (f12) -/
abbrev laws_eqInt64S_b1_S := Int
abbrev laws_eqInt64S_b1_R := Unit ⊕ Unit
def laws_eqInt64S_b1_RS (a1 : List Int) (a2 : List Int) (s : laws_eqInt64S_b1_S) (e : Env) (M : Mem) : Prop := eget e 0 = .sl none (a1.map (cI .i64)) ∧ eget e 1 = .sl none (a2.map (cI .i64)) ∧ eget e 5 = .int .i64 s
def laws_eqInt64S_b1_RR (a1 : List Int) (a2 : List Int) (r : laws_eqInt64S_b1_R) (x : Ex) (e : Env) (M : Mem) : Prop :=
  match r with
  | (.inl g) => x = .ret ∧ eget e 4 = .bool false
  | (.inr g) => x = .ext 0 ∧ True
noncomputable def laws_eqInt64S_b1 (a1 : List Int) (a2 : List Int) : laws_eqInt64S_b1_S → Option (laws_eqInt64S_b1_S ⊕ laws_eqInt64S_b1_R) := fun s1_1 =>
  if (decide (s1_1 < (a1.length : Int))) = true then
    (rd a1 s1_1).bind fun x42 =>
    (rd a2 s1_1).bind fun x44 =>
    if (x42 != x44) = true then
      some (.inr (.inl ()))
    else
      some (.inl (IntKind.i64.wrap (s1_1 + 1)))
  else
    some (.inr (.inr ()))
theorem laws_eqInt64S_b1_ok (a1 : List Int) (a2 : List Int) (s : laws_eqInt64S_b1_S) (r : laws_eqInt64S_b1_S ⊕ laws_eqInt64S_b1_R) (h : laws_eqInt64S_b1 a1 a2 s = some r) (e : Env) (M : Mem) (hs : laws_eqInt64S_b1_RS a1 a2 s e M) : Ev (fun k => (f12_l4 (CN k) k (prune [0, 1, 5] e) M).bind fun q => some q) (bQ (laws_eqInt64S_b1_RS a1 a2) (laws_eqInt64S_b1_RR a1 a2) r) := by
  revert h hs
  revert s
  intro s1_1 h hs
  unfold laws_eqInt64S_b1 at h
  obtain ⟨h29, h31, h33⟩ := hs
  generalize he28 : prune [0, 1, 5] e = e27
  have h30 := envp he28.symm rfl h29
  have h32 := envp he28.symm rfl h31
  have h34 := envp he28.symm rfl h33
  refine Ev.seq ?_
  refine Ev.seq ?_
  refine Ev.reg (fun _ => rfl) ?_
  refine Ev.nxk (mvO h34) ?_
  refine Ev.nxk (mvO h30) ?_
  refine Ev.nxk (lnS Try.underlying22 rfl) ?_
  refine Ev.nxk (bLss rfl rfl) ?_
  refine Ev.rend ?_
  intro e35 he36
  have h37 : eget e35 0 = .sl none (a1.map (cI .i64)) := envp he36 rfl h30
  have h38 : eget e35 1 = .sl none (a2.map (cI .i64)) := envp he36 rfl h32
  have h39 : eget e35 5 = .int .i64 s1_1 := envp he36 rfl h34
  have h40 : eget e35 14 = .bool (decide (s1_1 < (a1.length : Int))) := envp he36 rfl rfl
  clear h30 h32 h34
  refine Ev.kseqN ?_
  rcases ite_some h with ⟨hb41, h⟩ | ⟨hb41, h⟩
  · refine Ev.condT h40 hb41 ?_
    refine Ev.ex ?_
    refine Ev.kseqN ?_
    refine Ev.seq ?_
    refine Ev.blk ?_
    refine Ev.seq ?_
    refine Ev.regD (fun _ => rfl) ?_
    refine Ev.nfk (mvO h37) ?_
    refine Ev.nfk (mvO h39) ?_
    obtain ⟨x42, hx43, h⟩ := bind_some h
    refine Ev.nfk (ixS rfl rfl hx43 (cI_fl _)) ?_
    refine Ev.nfk (ldP rfl rfl) ?_
    refine Ev.nfk (mvO h38) ?_
    refine Ev.nfk (mvO h39) ?_
    obtain ⟨x44, hx45, h⟩ := bind_some h
    refine Ev.nfk (ixS rfl rfl hx45 (cI_fl _)) ?_
    refine Ev.nfk (ldP rfl rfl) ?_
    refine Ev.nfk (bNeq rfl rfl) ?_
    refine Ev.fend0 ?_
    refine Ev.rend ?_
    intro e46 he47
    have h48 : eget e46 0 = .sl none (a1.map (cI .i64)) := envp he47 rfl h37
    have h49 : eget e46 1 = .sl none (a2.map (cI .i64)) := envp he47 rfl h38
    have h50 : eget e46 5 = .int .i64 s1_1 := envp he47 rfl h39
    have h51 : eget e46 25 = .bool (x42 != x44) := envp he47 rfl rfl
    clear h37 h38 h39 h40
    refine Ev.kseqN ?_
    rcases ite_some h with ⟨hb52, h⟩ | ⟨hb52, h⟩
    · refine Ev.condT h51 hb52 ?_
      refine Ev.seq ?_
      refine Ev.reg (fun _ => rfl) ?_
      refine Ev.nxk (mvO rfl) ?_
      refine Ev.rend ?_
      intro e53 he54
      have h55 : eget e53 4 = .bool false := envp he54 rfl rfl
      clear h48 h49 h50 h51
      refine Ev.kseqN ?_
      refine Ev.ex ?_
      refine Ev.kblkR ?_
      refine Ev.kseqR ?_
      cases h
      exact Ev.kid (bQ_x (RS := (laws_eqInt64S_b1_RS a1 a2)) (RR := (laws_eqInt64S_b1_RR a1 a2)) (by intro h; cases h) (And.intro rfl h55))
    · refine Ev.condF h51 hb52 ?_
      refine Ev.ex ?_
      refine Ev.kblkN ?_
      refine Ev.kseqN ?_
      refine Ev.reg (fun _ => rfl) ?_
      refine Ev.nxk (mvO h50) ?_
      refine Ev.nxk (bAdd rfl rfl) ?_
      refine Ev.nxk (mvO rfl) ?_
      refine Ev.rend ?_
      intro e56 he57
      have h58 : eget e56 0 = .sl none (a1.map (cI .i64)) := envp he57 rfl h48
      have h59 : eget e56 1 = .sl none (a2.map (cI .i64)) := envp he57 rfl h49
      have h60 : eget e56 5 = .int .i64 (IntKind.i64.wrap (s1_1 + 1)) := envp he57 rfl rfl
      clear h48 h49 h51
      cases h
      exact Ev.kid (bQ_n (RS := (laws_eqInt64S_b1_RS a1 a2)) (RR := (laws_eqInt64S_b1_RR a1 a2)) (And.intro h58 (And.intro h59 h60)))
  · refine Ev.condF h40 hb41 ?_
    refine Ev.ex ?_
    refine Ev.kseqE ?_
    cases h
    exact Ev.kid (bQ_x (RS := (laws_eqInt64S_b1_RS a1 a2)) (RR := (laws_eqInt64S_b1_RR a1 a2)) (by intro h; cases h) (And.intro rfl trivial))
noncomputable def laws_eqInt64S (a1 : List Int) (a2 : List Int) : Option Bool :=
  if ((a1.length : Int) != (a2.length : Int)) = true then
    some false
  else
    (Lw (laws_eqInt64S_b1 a1 a2) 0).bind fun r => match r with
    | (.inl _) =>
      some false
    | (.inr _) =>
      some true
def laws_eqInt64S_enc (r : Bool) : AV := .bool r
theorem laws_eqInt64S_ok (a1 : List Int) (a2 : List Int) (r : Bool) (h : laws_eqInt64S a1 a2 = some r) : Ev (fun k => CN k 12 [.sl none (a1.map (cI .i64)), .sl none (a2.map (cI .i64))] []) (fun p => rRes p.2 p.1 = laws_eqInt64S_enc r) := by
  unfold laws_eqInt64S at h
  refine Ev.enter (F := fun k => f12 (CN k) k) (fun k => callN_eq rfl Try.func12 rfl rfl rfl (by decide +kernel) (f12_eq _ _)) ?_
  refine Ev.seq ?_
  refine Ev.reg (fun _ => rfl) ?_
  refine Ev.nxk (mvO rfl) ?_
  refine Ev.rend ?_
  intro e1 he2
  have h3 : eget e1 0 = .sl none (a1.map (cI .i64)) := envp he2 rfl rfl
  have h4 : eget e1 1 = .sl none (a2.map (cI .i64)) := envp he2 rfl rfl
  refine Ev.kseqN ?_
  refine Ev.seq ?_
  refine Ev.seq ?_
  refine Ev.reg (fun _ => rfl) ?_
  refine Ev.nxk (mvO h3) ?_
  refine Ev.nxk (lnS Try.underlying22 rfl) ?_
  refine Ev.nxk (mvO h4) ?_
  refine Ev.nxk (lnS Try.underlying22 rfl) ?_
  refine Ev.nxk (bNeq rfl rfl) ?_
  refine Ev.rend ?_
  intro e5 he6
  have h7 : eget e5 0 = .sl none (a1.map (cI .i64)) := envp he6 rfl h3
  have h8 : eget e5 1 = .sl none (a2.map (cI .i64)) := envp he6 rfl h4
  have h9 : eget e5 10 = .bool ((a1.length : Int) != (a2.length : Int)) := envp he6 rfl rfl
  clear h3 h4
  refine Ev.kseqN ?_
  rcases ite_some h with ⟨hb10, h⟩ | ⟨hb10, h⟩
  · refine Ev.condT h9 hb10 ?_
    refine Ev.seq ?_
    refine Ev.reg (fun _ => rfl) ?_
    refine Ev.nxk (mvO rfl) ?_
    refine Ev.rend ?_
    intro e11 he12
    have h13 : eget e11 4 = .bool false := envp he12 rfl rfl
    clear h7 h8 h9
    refine Ev.kseqN ?_
    refine Ev.ex ?_
    refine Ev.kseqR ?_
    cases h
    exact Ev.kendR (resT h13 res0) rfl
  · refine Ev.condF h9 hb10 ?_
    refine Ev.ex ?_
    refine Ev.kseqN ?_
    refine Ev.seq ?_
    refine Ev.seq ?_
    refine Ev.reg (fun _ => rfl) ?_
    refine Ev.nxk (mvO rfl) ?_
    refine Ev.rend ?_
    intro e14 he15
    have h16 : eget e14 0 = .sl none (a1.map (cI .i64)) := envp he15 rfl h7
    have h17 : eget e14 1 = .sl none (a2.map (cI .i64)) := envp he15 rfl h8
    have h18 : eget e14 5 = .int .i64 0 := envp he15 rfl rfl
    clear h7 h8 h9
    refine Ev.kseqN ?_
    refine Ev.blk ?_
    obtain ⟨r61, hr62, h⟩ := bind_some h
    rcases r61 with _ | _
    · refine Ev.loop (RS := laws_eqInt64S_b1_RS a1 a2) (RR := laws_eqInt64S_b1_RR a1 a2) (fun s r h e M hs => laws_eqInt64S_b1_ok a1 a2 s r h e M hs) hr62 (And.intro h16 (And.intro h17 h18)) ?_
      intro x e64 M65 hq63
      obtain ⟨rfl, h66⟩ := hq63
      refine Ev.kblkR ?_
      refine Ev.kseqR ?_
      cases h
      exact Ev.kendR (resT h66 res0) rfl
    · refine Ev.loop (RS := laws_eqInt64S_b1_RS a1 a2) (RR := laws_eqInt64S_b1_RR a1 a2) (fun s r h e M hs => laws_eqInt64S_b1_ok a1 a2 s r h e M hs) hr62 (And.intro h16 (And.intro h17 h18)) ?_
      intro x e67 M68 hq63
      obtain ⟨rfl, _⟩ := hq63
      refine Ev.kblkE ?_
      refine Ev.kseqN ?_
      refine Ev.seq ?_
      refine Ev.reg (fun _ => rfl) ?_
      refine Ev.nxk (mvO rfl) ?_
      refine Ev.rend ?_
      intro e69 he70
      have h71 : eget e69 4 = .bool true := envp he70 rfl rfl
      refine Ev.kseqN ?_
      refine Ev.ex ?_
      cases h
      exact Ev.kendR (resT h71 res0) rfl
/-! ### loop.example/g01263/laws.eqBook (f13) -/
noncomputable def laws_eqBook (a1 : Book) (a2 : Book) : Option Bool :=
  if (a1.Day != a2.Day) = true then
    some false
  else
    (laws_eqInt64S a1.Cash a2.Cash).bind fun r15 =>
    if r15 = true then
      (laws_eqTallyS a1.Tallies a2.Tallies).bind fun r23 =>
      if r23 = true then
        some true
      else
        some false
    else
      some false
def laws_eqBook_enc (r : Bool) : AV := .bool r
theorem laws_eqBook_ok (a1 : Book) (a2 : Book) (r : Bool) (h : laws_eqBook a1 a2 = some r) : Ev (fun k => CN k 13 [.agg [.int .i64 a1.Day, .sl none (a1.Cash.map (cI .i64)), .sl none (a1.Tallies.map Tally.c)], .agg [.int .i64 a2.Day, .sl none (a2.Cash.map (cI .i64)), .sl none (a2.Tallies.map Tally.c)]] []) (fun p => rRes p.2 p.1 = laws_eqBook_enc r) := by
  unfold laws_eqBook at h
  refine Ev.enter (F := fun k => f13 (CN k) k) (fun k => callN_eq rfl Try.func13 rfl rfl rfl (by decide +kernel) (f13_eq _ _)) ?_
  refine Ev.seq ?_
  refine Ev.reg (fun _ => rfl) ?_
  refine Ev.nxk (bxI rfl rfl ⟨rfl, rfl, by decide⟩) ?_
  refine Ev.nxk (bxI rfl rfl ⟨rfl, rfl, by decide⟩) ?_
  refine Ev.nxk (mvO rfl) ?_
  refine Ev.rend ?_
  intro e1 he2
  have h3 : eget e1 2 = .pt none [.int .i64 a1.Day, .sl none (a1.Cash.map (cI .i64)), .sl none (a1.Tallies.map Tally.c)] := envp he2 rfl rfl
  have h4 : eget e1 3 = .pt none [.int .i64 a2.Day, .sl none (a2.Cash.map (cI .i64)), .sl none (a2.Tallies.map Tally.c)] := envp he2 rfl rfl
  refine Ev.kseqN ?_
  refine Ev.seq ?_
  refine Ev.seq ?_
  refine Ev.reg (fun _ => rfl) ?_
  refine Ev.nxk (faP h3 ⟨ble rfl, blt rfl⟩ rfl) ?_
  refine Ev.nxk (ldP rfl rfl) ?_
  refine Ev.nxk (faP h4 ⟨ble rfl, blt rfl⟩ rfl) ?_
  refine Ev.nxk (ldP rfl rfl) ?_
  refine Ev.nxk (bNeq rfl rfl) ?_
  refine Ev.rend ?_
  intro e5 he6
  have h7 : eget e5 2 = .pt none [.int .i64 a1.Day, .sl none (a1.Cash.map (cI .i64)), .sl none (a1.Tallies.map Tally.c)] := envp he6 rfl h3
  have h8 : eget e5 3 = .pt none [.int .i64 a2.Day, .sl none (a2.Cash.map (cI .i64)), .sl none (a2.Tallies.map Tally.c)] := envp he6 rfl h4
  have h9 : eget e5 9 = .bool (a1.Day != a2.Day) := envp he6 rfl rfl
  clear h3 h4
  refine Ev.kseqN ?_
  rcases ite_some h with ⟨hb10, h⟩ | ⟨hb10, h⟩
  · refine Ev.condT h9 hb10 ?_
    refine Ev.seq ?_
    refine Ev.reg (fun _ => rfl) ?_
    refine Ev.nxk (mvO rfl) ?_
    refine Ev.rend ?_
    intro e11 he12
    have h13 : eget e11 4 = .bool false := envp he12 rfl rfl
    clear h7 h8 h9
    refine Ev.kseqN ?_
    refine Ev.ex ?_
    refine Ev.kseqR ?_
    cases h
    exact Ev.kendR (resT h13 res0) rfl
  · refine Ev.condF h9 hb10 ?_
    refine Ev.ex ?_
    refine Ev.kseqN ?_
    refine Ev.seq ?_
    refine Ev.seq ?_
    refine Ev.reg (fun _ => rfl) ?_
    refine Ev.nxk (faP h7 ⟨ble rfl, blt rfl⟩ rfl) ?_
    refine Ev.nxk (ldP rfl rfl) ?_
    refine Ev.nxk (faP h8 ⟨ble rfl, blt rfl⟩ rfl) ?_
    refine Ev.nxk (ldP rfl rfl) ?_
    obtain ⟨r15, hx14, h⟩ := bind_some h
    refine Ev.nxck (Ev.call (v := .bool r15) rfl (cns rfl (cns rfl rfl)) rfl (laws_eqInt64S_ok a1.Cash a2.Cash _ hx14) (fun h => nomatch (show false = true from h))) ?_
    refine Ev.nxk (uNot rfl) ?_
    refine Ev.rend ?_
    intro e16 he17
    have h18 : eget e16 2 = .pt none [.int .i64 a1.Day, .sl none (a1.Cash.map (cI .i64)), .sl none (a1.Tallies.map Tally.c)] := envp he17 rfl h7
    have h19 : eget e16 3 = .pt none [.int .i64 a2.Day, .sl none (a2.Cash.map (cI .i64)), .sl none (a2.Tallies.map Tally.c)] := envp he17 rfl h8
    have h20 : eget e16 15 = .bool (!r15) := envp he17 rfl rfl
    clear h7 h8 h9
    refine Ev.kseqN ?_
    rcases ite_some h with ⟨hb21, h⟩ | ⟨hb21, h⟩
    · refine Ev.condF h20 (congrArg Bool.not hb21) ?_
      refine Ev.ex ?_
      refine Ev.kseqN ?_
      refine Ev.seq ?_
      refine Ev.seq ?_
      refine Ev.reg (fun _ => rfl) ?_
      refine Ev.nxk (faP h18 ⟨ble rfl, blt rfl⟩ rfl) ?_
      refine Ev.nxk (ldP rfl rfl) ?_
      refine Ev.nxk (faP h19 ⟨ble rfl, blt rfl⟩ rfl) ?_
      refine Ev.nxk (ldP rfl rfl) ?_
      obtain ⟨r23, hx22, h⟩ := bind_some h
      refine Ev.nxck (Ev.call (v := .bool r23) rfl (cns rfl (cns rfl rfl)) rfl (laws_eqTallyS_ok a1.Tallies a2.Tallies _ hx22) (fun h => nomatch (show false = true from h))) ?_
      refine Ev.nxk (uNot rfl) ?_
      refine Ev.rend ?_
      intro e24 he25
      have h26 : eget e24 21 = .bool (!r23) := envp he25 rfl rfl
      clear h18 h19 h20
      refine Ev.kseqN ?_
      rcases ite_some h with ⟨hb27, h⟩ | ⟨hb27, h⟩
      · refine Ev.condF h26 (congrArg Bool.not hb27) ?_
        refine Ev.ex ?_
        refine Ev.kseqN ?_
        refine Ev.seq ?_
        refine Ev.reg (fun _ => rfl) ?_
        refine Ev.nxk (mvO rfl) ?_
        refine Ev.rend ?_
        intro e28 he29
        have h30 : eget e28 4 = .bool true := envp he29 rfl rfl
        clear h26
        refine Ev.kseqN ?_
        refine Ev.ex ?_
        cases h
        exact Ev.kendR (resT h30 res0) rfl
      · refine Ev.condT h26 (congrArg Bool.not hb27) ?_
        refine Ev.seq ?_
        refine Ev.reg (fun _ => rfl) ?_
        refine Ev.nxk (mvO rfl) ?_
        refine Ev.rend ?_
        intro e31 he32
        have h33 : eget e31 4 = .bool false := envp he32 rfl rfl
        clear h26
        refine Ev.kseqN ?_
        refine Ev.ex ?_
        refine Ev.kseqR ?_
        cases h
        exact Ev.kendR (resT h33 res0) rfl
    · refine Ev.condT h20 (congrArg Bool.not hb21) ?_
      refine Ev.seq ?_
      refine Ev.reg (fun _ => rfl) ?_
      refine Ev.nxk (mvO rfl) ?_
      refine Ev.rend ?_
      intro e34 he35
      have h36 : eget e34 4 = .bool false := envp he35 rfl rfl
      clear h18 h19 h20
      refine Ev.kseqN ?_
      refine Ev.ex ?_
      refine Ev.kseqR ?_
      cases h
      exact Ev.kendR (resT h36 res0) rfl
/-! ### loop.example/g01263/impl.HoldsNow (f11) -/
abbrev impl_HoldsNow_b1_S := Int × (List Int)
abbrev impl_HoldsNow_b1_R := (List Int)
def impl_HoldsNow_b1_RS (a1 : Book) (a2 : Int) (i1_1 : Nat) (s : impl_HoldsNow_b1_S) (e : Env) (M : Mem) : Prop := eget e 1 = .int .i64 a2 ∧ eget e 7 = .lsl i1_1 s.2.length 0 s.2.length ∧ eget e 18 = .sl none (a1.Tallies.map Tally.c) ∧ eget e 19 = .int .i64 (a1.Tallies.length : Int) ∧ eget e 20 = .int .i64 s.1 ∧ M[i1_1]? = some (.live ⟨.grow, 2, 1, s.2.map (cI .i64)⟩)
def impl_HoldsNow_b1_RR (a1 : Book) (a2 : Int) (i1_1 : Nat) (g : impl_HoldsNow_b1_R) (x : Ex) (e : Env) (M : Mem) : Prop := x = .ext 0 ∧ eget e 7 = .lsl i1_1 g.length 0 g.length ∧ M[i1_1]? = some (.live ⟨.grow, 2, 1, g.map (cI .i64)⟩)
noncomputable def impl_HoldsNow_b1 (a1 : Book) (a2 : Int) : impl_HoldsNow_b1_S → Option (impl_HoldsNow_b1_S ⊕ impl_HoldsNow_b1_R) := fun (s1_1, s1_2) =>
  if (decide (s1_1 < (a1.Tallies.length : Int))) = true then
    (rd a1.Tallies s1_1).bind fun x74 =>
    if (x74.Holder == a2) = true then
      if (decide (x74.Left > 0)) = true then
        (app 8 s1_2 [s1_1]).bind fun x106 =>
        some (.inl ((IntKind.i64.wrap (s1_1 + 1)), x106))
      else
        some (.inl ((IntKind.i64.wrap (s1_1 + 1)), s1_2))
    else
      some (.inl ((IntKind.i64.wrap (s1_1 + 1)), s1_2))
  else
    some (.inr s1_2)
theorem impl_HoldsNow_b1_ok (a1 : Book) (a2 : Int) (i1_1 : Nat) (s : impl_HoldsNow_b1_S) (r : impl_HoldsNow_b1_S ⊕ impl_HoldsNow_b1_R) (h : impl_HoldsNow_b1 a1 a2 s = some r) (e : Env) (M : Mem) (hs : impl_HoldsNow_b1_RS a1 a2 i1_1 s e M) : Ev (fun k => (f11_l6 (CN k) k (prune [1, 7, 18, 19, 20] e) M).bind fun q => some q) (bQ (impl_HoldsNow_b1_RS a1 a2 i1_1) (impl_HoldsNow_b1_RR a1 a2 i1_1) r) := by
  obtain ⟨s1_1, s1_2⟩ := s
  unfold impl_HoldsNow_b1 at h
  obtain ⟨h54, h56, h58, h60, h62, o64⟩ := hs
  generalize he53 : prune [1, 7, 18, 19, 20] e = e52
  have h55 := envp he53.symm rfl h54
  have h57 := envp he53.symm rfl h56
  have h59 := envp he53.symm rfl h58
  have h61 := envp he53.symm rfl h60
  have h63 := envp he53.symm rfl h62
  refine Ev.seq ?_
  refine Ev.reg (fun _ => rfl) ?_
  refine Ev.nxk (bLss h63 h61) ?_
  refine Ev.rend ?_
  intro e65 he66
  have h67 : eget e65 1 = .int .i64 a2 := envp he66 rfl h55
  have h68 : eget e65 7 = .lsl i1_1 s1_2.length 0 s1_2.length := envp he66 rfl h57
  have h69 : eget e65 18 = .sl none (a1.Tallies.map Tally.c) := envp he66 rfl h59
  have h70 : eget e65 19 = .int .i64 (a1.Tallies.length : Int) := envp he66 rfl h61
  have h71 : eget e65 20 = .int .i64 s1_1 := envp he66 rfl h63
  have h72 : eget e65 21 = .bool (decide (s1_1 < (a1.Tallies.length : Int))) := envp he66 rfl rfl
  clear h55 h57 h59 h61 h63
  refine Ev.kseqN ?_
  refine Ev.seq ?_
  rcases ite_some h with ⟨hb73, h⟩ | ⟨hb73, h⟩
  · refine Ev.condT h72 hb73 ?_
    refine Ev.ex ?_
    refine Ev.kseqN ?_
    refine Ev.seq ?_
    refine Ev.blk ?_
    refine Ev.seq ?_
    refine Ev.reg (fun _ => rfl) ?_
    refine Ev.nxk (mvO h71) ?_
    obtain ⟨x74, hx75, h⟩ := bind_some h
    refine Ev.nxk (ixS h69 h71 hx75 Tally.fl) ?_
    refine Ev.nxk (ldPA rfl rfl rfl) ?_
    refine Ev.nxpush (alO zero78) ?_
    intro M77 hM78
    have o79 := push_old hM78 o64
    have ne80 := ne_new o64
    have o81 : M77[M.length]? = some (.live ⟨.box, 78, 5, [[.int .i64 0, .int .i64 0, .int .i64 0, .int .i64 0, .int .i64 0]]⟩) := push_new hM78
    refine Ev.nxk (mvO rfl) ?_
    refine Ev.nxput (stO rfl rfl o81 rfl rfl ⟨rfl, ble rfl⟩ rfl rfl) ?_
    intro M82 hM83
    have o84 := set_ne hM83 ne80 o79
    have o85 : M82[M.length]? = some (.live ⟨.box, 78, 5, [[.int .i64 x74.Debtor, .int .i64 x74.Holder, .int .i64 x74.Cut, .int .i64 x74.Amount, .int .i64 x74.Left]]⟩) := set_same hM83 o81
    refine Ev.rend ?_
    intro e86 he87
    have h88 : eget e86 1 = .int .i64 a2 := envp he87 rfl h67
    have h89 : eget e86 7 = .lsl i1_1 s1_2.length 0 s1_2.length := envp he87 rfl h68
    have h90 : eget e86 8 = .int .i64 s1_1 := envp he87 rfl rfl
    have h91 : eget e86 9 = .loc M.length 1 0 0 := envp he87 rfl rfl
    have h92 : eget e86 18 = .sl none (a1.Tallies.map Tally.c) := envp he87 rfl h69
    have h93 : eget e86 19 = .int .i64 (a1.Tallies.length : Int) := envp he87 rfl h70
    have h94 : eget e86 20 = .int .i64 s1_1 := envp he87 rfl h71
    clear h67 h68 h69 h70 h71 h72
    refine Ev.kseqN ?_
    refine Ev.seq ?_
    refine Ev.reg (fun _ => rfl) ?_
    refine Ev.nxk (faO h91 o85 rfl) ?_
    refine Ev.nxk (ldO rfl o85 rfl rfl rfl) ?_
    refine Ev.nxk (mvO h88) ?_
    refine Ev.nxk (bEql rfl rfl) ?_
    refine Ev.nxk (mvO rfl) ?_
    rcases ite_some h with ⟨hb95, h⟩ | ⟨hb95, h⟩
    · refine Ev.nxk (guT rfl hb95 (faO h91 o85 rfl)) ?_
      refine Ev.nxk (guT rfl hb95 (ldO rfl o85 rfl rfl rfl)) ?_
      refine Ev.nxk (guT rfl hb95 (bGtr rfl rfl)) ?_
      refine Ev.nxk (pkT rfl hb95 rfl) ?_
      refine Ev.rend ?_
      intro e96 he97
      have h98 : eget e96 1 = .int .i64 a2 := envp he97 rfl h88
      have h99 : eget e96 7 = .lsl i1_1 s1_2.length 0 s1_2.length := envp he97 rfl h89
      have h100 : eget e96 8 = .int .i64 s1_1 := envp he97 rfl h90
      have h101 : eget e96 18 = .sl none (a1.Tallies.map Tally.c) := envp he97 rfl h92
      have h102 : eget e96 19 = .int .i64 (a1.Tallies.length : Int) := envp he97 rfl h93
      have h103 : eget e96 20 = .int .i64 s1_1 := envp he97 rfl h94
      have h104 : eget e96 33 = .bool (decide (x74.Left > 0)) := envp he97 rfl rfl
      clear h88 h89 h90 h91 h92 h93 h94
      refine Ev.kseqN ?_
      rcases ite_some h with ⟨hb105, h⟩ | ⟨hb105, h⟩
      · refine Ev.condT h104 hb105 ?_
        refine Ev.reg (fun _ => rfl) ?_
        refine Ev.nxk (mvO h99) ?_
        refine Ev.nxk (mvO h100) ?_
        refine Ev.nxk (litI (cns rfl rfl) rfl ⟨rfl, by decide⟩) ?_
        obtain ⟨x106, hx107, h⟩ := bind_some h
        refine Ev.nxput (apO rfl o84 rfl (elT (c := (cI .i64)) (xs := [s1_1]) rfl) hx107 (cI_fl _) (by decide)) ?_
        intro M108 hM109
        have o110 : M108[i1_1]? = some (.live ⟨.grow, 2, 1, x106.map (cI .i64)⟩) := set_same hM109 o84
        refine Ev.nxk (mvO rfl) ?_
        refine Ev.rend ?_
        intro e111 he112
        have h113 : eget e111 1 = .int .i64 a2 := envp he112 rfl h98
        have h114 : eget e111 7 = .lsl i1_1 x106.length 0 x106.length := envp he112 rfl rfl
        have h115 : eget e111 18 = .sl none (a1.Tallies.map Tally.c) := envp he112 rfl h101
        have h116 : eget e111 19 = .int .i64 (a1.Tallies.length : Int) := envp he112 rfl h102
        have h117 : eget e111 20 = .int .i64 s1_1 := envp he112 rfl h103
        clear h100 h101 h102 h103 h104 h98
        refine Ev.kblkN ?_
        refine Ev.kseqN ?_
        refine Ev.reg (fun _ => rfl) ?_
        refine Ev.nxk (bAdd h117 rfl) ?_
        refine Ev.nxk (mvO rfl) ?_
        refine Ev.rend ?_
        intro e118 he119
        have h120 : eget e118 1 = .int .i64 a2 := envp he119 rfl h113
        have h121 : eget e118 7 = .lsl i1_1 x106.length 0 x106.length := envp he119 rfl h114
        have h122 : eget e118 18 = .sl none (a1.Tallies.map Tally.c) := envp he119 rfl h115
        have h123 : eget e118 19 = .int .i64 (a1.Tallies.length : Int) := envp he119 rfl h116
        have h124 : eget e118 20 = .int .i64 (IntKind.i64.wrap (s1_1 + 1)) := envp he119 rfl rfl
        clear h113 h114 h115 h116
        cases h
        exact Ev.kid (bQ_n (RS := (impl_HoldsNow_b1_RS a1 a2 i1_1)) (RR := (impl_HoldsNow_b1_RR a1 a2 i1_1)) (And.intro h120 (And.intro h121 (And.intro h122 (And.intro h123 (And.intro h124 o110))))))
      · refine Ev.condF h104 hb105 ?_
        refine Ev.ex ?_
        refine Ev.kblkN ?_
        refine Ev.kseqN ?_
        refine Ev.reg (fun _ => rfl) ?_
        refine Ev.nxk (bAdd h103 rfl) ?_
        refine Ev.nxk (mvO rfl) ?_
        refine Ev.rend ?_
        intro e125 he126
        have h127 : eget e125 1 = .int .i64 a2 := envp he126 rfl h98
        have h128 : eget e125 7 = .lsl i1_1 s1_2.length 0 s1_2.length := envp he126 rfl h99
        have h129 : eget e125 18 = .sl none (a1.Tallies.map Tally.c) := envp he126 rfl h101
        have h130 : eget e125 19 = .int .i64 (a1.Tallies.length : Int) := envp he126 rfl h102
        have h131 : eget e125 20 = .int .i64 (IntKind.i64.wrap (s1_1 + 1)) := envp he126 rfl rfl
        clear h100 h101 h102 h104 h98 h99
        cases h
        exact Ev.kid (bQ_n (RS := (impl_HoldsNow_b1_RS a1 a2 i1_1)) (RR := (impl_HoldsNow_b1_RR a1 a2 i1_1)) (And.intro h127 (And.intro h128 (And.intro h129 (And.intro h130 (And.intro h131 o84))))))
    · refine Ev.nxk (gsT rfl hb95) ?_
      refine Ev.nxk (gsT rfl hb95) ?_
      refine Ev.nxk (gsT rfl hb95) ?_
      refine Ev.nxk (pkF rfl hb95 rfl) ?_
      refine Ev.rend ?_
      intro e132 he133
      have h134 : eget e132 1 = .int .i64 a2 := envp he133 rfl h88
      have h135 : eget e132 7 = .lsl i1_1 s1_2.length 0 s1_2.length := envp he133 rfl h89
      have h136 : eget e132 8 = .int .i64 s1_1 := envp he133 rfl h90
      have h137 : eget e132 18 = .sl none (a1.Tallies.map Tally.c) := envp he133 rfl h92
      have h138 : eget e132 19 = .int .i64 (a1.Tallies.length : Int) := envp he133 rfl h93
      have h139 : eget e132 20 = .int .i64 s1_1 := envp he133 rfl h94
      have h140 : eget e132 33 = .bool false := envp he133 rfl rfl
      clear h88 h89 h90 h91 h92 h93 h94
      refine Ev.kseqN ?_
      refine Ev.condF h140 rfl ?_
      refine Ev.ex ?_
      refine Ev.kblkN ?_
      refine Ev.kseqN ?_
      refine Ev.reg (fun _ => rfl) ?_
      refine Ev.nxk (bAdd h139 rfl) ?_
      refine Ev.nxk (mvO rfl) ?_
      refine Ev.rend ?_
      intro e141 he142
      have h143 : eget e141 1 = .int .i64 a2 := envp he142 rfl h134
      have h144 : eget e141 7 = .lsl i1_1 s1_2.length 0 s1_2.length := envp he142 rfl h135
      have h145 : eget e141 18 = .sl none (a1.Tallies.map Tally.c) := envp he142 rfl h137
      have h146 : eget e141 19 = .int .i64 (a1.Tallies.length : Int) := envp he142 rfl h138
      have h147 : eget e141 20 = .int .i64 (IntKind.i64.wrap (s1_1 + 1)) := envp he142 rfl rfl
      clear h134 h135 h136 h137 h138 h140
      cases h
      exact Ev.kid (bQ_n (RS := (impl_HoldsNow_b1_RS a1 a2 i1_1)) (RR := (impl_HoldsNow_b1_RR a1 a2 i1_1)) (And.intro h143 (And.intro h144 (And.intro h145 (And.intro h146 (And.intro h147 o84))))))
  · refine Ev.condF h72 hb73 ?_
    refine Ev.ex ?_
    refine Ev.kseqE ?_
    cases h
    exact Ev.kid (bQ_x (RS := (impl_HoldsNow_b1_RS a1 a2 i1_1)) (RR := (impl_HoldsNow_b1_RR a1 a2 i1_1)) (by intro h; cases h) (And.intro rfl (And.intro h68 o64)))
noncomputable def impl_HoldsNow (a1 : Book) (a2 : Int) : Option (Int ⊕ ((List Int))) :=
  (impl_personCode a1 a2).bind fun r6 =>
  if (r6 != 0) = true then
    some (.inl r6)
  else
    (Lw (impl_HoldsNow_b1 a1 a2) (0, ([] : List Int))).bind fun y153 =>
    some (.inr y153)
def impl_HoldsNow_enc (r : Int ⊕ ((List Int))) : AV :=
  match r with
  | (.inl g) => .tup [.nils, .int .i64 g]
  | (.inr g) => .tup [.sl (some 2) (g.map (cI .i64)), .int .i64 0]
theorem impl_HoldsNow_ok (a1 : Book) (a2 : Int) (r : Int ⊕ ((List Int))) (h : impl_HoldsNow a1 a2 = some r) : Ev (fun k => CN k 11 [.agg [.int .i64 a1.Day, .sl none (a1.Cash.map (cI .i64)), .sl none (a1.Tallies.map Tally.c)], .int .i64 a2] []) (fun p => rRes p.2 p.1 = impl_HoldsNow_enc r) := by
  unfold impl_HoldsNow at h
  refine Ev.enter (F := fun k => f11 (CN k) k) (fun k => callN_eq rfl Try.func11 rfl rfl rfl (by decide +kernel) (f11_eq _ _)) ?_
  refine Ev.seq ?_
  refine Ev.reg (fun _ => rfl) ?_
  refine Ev.nxk (bxI rfl rfl ⟨rfl, rfl, by decide⟩) ?_
  refine Ev.nxk (mvO rfl) ?_
  refine Ev.nxk (mvO rfl) ?_
  refine Ev.rend ?_
  intro e1 he2
  have h3 : eget e1 1 = .int .i64 a2 := envp he2 rfl rfl
  have h4 : eget e1 2 = .pt none [.int .i64 a1.Day, .sl none (a1.Cash.map (cI .i64)), .sl none (a1.Tallies.map Tally.c)] := envp he2 rfl rfl
  refine Ev.kseqN ?_
  refine Ev.seq ?_
  refine Ev.seq ?_
  refine Ev.reg (fun _ => rfl) ?_
  refine Ev.nxk (ldPA h4 rfl rfl) ?_
  refine Ev.nxk (mvO h3) ?_
  obtain ⟨r6, hx5, h⟩ := bind_some h
  refine Ev.nxck (Ev.call (v := .int .i64 r6) rfl (cns rfl (cns rfl rfl)) rfl (impl_personCode_ok a1 a2 _ hx5) (fun h => nomatch (show false = true from h))) ?_
  refine Ev.nxk (mvO rfl) ?_
  refine Ev.rend ?_
  intro e7 he8
  have h9 : eget e7 1 = .int .i64 a2 := envp he8 rfl h3
  have h10 : eget e7 2 = .pt none [.int .i64 a1.Day, .sl none (a1.Cash.map (cI .i64)), .sl none (a1.Tallies.map Tally.c)] := envp he8 rfl h4
  have h11 : eget e7 6 = .int .i64 r6 := envp he8 rfl rfl
  clear h3 h4
  refine Ev.kseqN ?_
  refine Ev.seq ?_
  refine Ev.reg (fun _ => rfl) ?_
  refine Ev.nxk (mvO h11) ?_
  refine Ev.nxk (bNeq rfl rfl) ?_
  refine Ev.rend ?_
  intro e12 he13
  have h14 : eget e12 1 = .int .i64 a2 := envp he13 rfl h9
  have h15 : eget e12 2 = .pt none [.int .i64 a1.Day, .sl none (a1.Cash.map (cI .i64)), .sl none (a1.Tallies.map Tally.c)] := envp he13 rfl h10
  have h16 : eget e12 6 = .int .i64 r6 := envp he13 rfl h11
  have h17 : eget e12 14 = .bool (r6 != 0) := envp he13 rfl rfl
  clear h10 h11 h9
  refine Ev.kseqN ?_
  rcases ite_some h with ⟨hb18, h⟩ | ⟨hb18, h⟩
  · refine Ev.condT h17 hb18 ?_
    refine Ev.seq ?_
    refine Ev.reg (fun _ => rfl) ?_
    refine Ev.nxk (mvO h16) ?_
    refine Ev.nxk (mvO rfl) ?_
    refine Ev.nxk (mvO rfl) ?_
    refine Ev.rend ?_
    intro e19 he20
    have h21 : eget e19 4 = .nils := envp he20 rfl rfl
    have h22 : eget e19 5 = .int .i64 r6 := envp he20 rfl rfl
    clear h14 h15 h16 h17
    refine Ev.kseqN ?_
    refine Ev.ex ?_
    refine Ev.kseqR ?_
    cases h
    exact Ev.kendR (resT h21 (resT h22 res0)) rfl
  · refine Ev.condF h17 hb18 ?_
    refine Ev.ex ?_
    refine Ev.kseqN ?_
    refine Ev.seq ?_
    refine Ev.reg (fun _ => rfl) ?_
    refine Ev.nxpush (litO (xs := ([] : List Int)) (c := (cI .i64)) rfl rfl (by decide)) ?_
    intro M24 hM25
    have o26 : M24[([] : Mem).length]? = some (.live ⟨.grow, 2, 1, ([] : List Int).map (cI .i64)⟩) := push_new hM25
    refine Ev.nxk (mvO rfl) ?_
    refine Ev.rend ?_
    intro e27 he28
    have h29 : eget e27 1 = .int .i64 a2 := envp he28 rfl h14
    have h30 : eget e27 2 = .pt none [.int .i64 a1.Day, .sl none (a1.Cash.map (cI .i64)), .sl none (a1.Tallies.map Tally.c)] := envp he28 rfl h15
    have h31 : eget e27 7 = .lsl ([] : Mem).length ([] : List Int).length 0 ([] : List Int).length := envp he28 rfl rfl
    clear h14 h15 h16 h17
    refine Ev.kseqN ?_
    refine Ev.seq ?_
    refine Ev.seq ?_
    refine Ev.reg (fun _ => rfl) ?_
    refine Ev.nxk (faP h30 ⟨ble rfl, blt rfl⟩ rfl) ?_
    refine Ev.nxk (ldP rfl rfl) ?_
    refine Ev.nxk (lnS Try.underlying29 rfl) ?_
    refine Ev.nxk (mvO rfl) ?_
    refine Ev.rend ?_
    intro e32 he33
    have h34 : eget e32 1 = .int .i64 a2 := envp he33 rfl h29
    have h35 : eget e32 7 = .lsl ([] : Mem).length ([] : List Int).length 0 ([] : List Int).length := envp he33 rfl h31
    have h36 : eget e32 18 = .sl none (a1.Tallies.map Tally.c) := envp he33 rfl rfl
    have h37 : eget e32 19 = .int .i64 (a1.Tallies.length : Int) := envp he33 rfl rfl
    have h38 : eget e32 20 = .int .i64 0 := envp he33 rfl rfl
    clear h29 h30 h31
    refine Ev.kseqN ?_
    refine Ev.blk ?_
    obtain ⟨y153, hr149, h⟩ := bind_some h
    refine Ev.loop (RS := impl_HoldsNow_b1_RS a1 a2 (([] : Mem).length)) (RR := impl_HoldsNow_b1_RR a1 a2 (([] : Mem).length)) (fun s r h e M hs => impl_HoldsNow_b1_ok a1 a2 (([] : Mem).length) s r h e M hs) hr149 (And.intro h34 (And.intro h35 (And.intro h36 (And.intro h37 (And.intro h38 o26))))) ?_
    intro x e151 M152 hq150
    obtain ⟨rfl, h154, o155⟩ := hq150
    refine Ev.kblkE ?_
    refine Ev.kseqN ?_
    refine Ev.seq ?_
    refine Ev.reg (fun _ => rfl) ?_
    refine Ev.nxk (mvO h154) ?_
    refine Ev.nxk (mvO rfl) ?_
    refine Ev.nxk (mvO rfl) ?_
    refine Ev.rend ?_
    intro e156 he157
    have h158 : eget e156 4 = .lsl ([] : Mem).length y153.length 0 y153.length := envp he157 rfl rfl
    have h159 : eget e156 5 = .int .i64 0 := envp he157 rfl rfl
    clear h154
    refine Ev.kseqN ?_
    refine Ev.ex ?_
    cases h
    exact Ev.kendR (resT h158 (resT h159 res0)) (rr_tup (mp1 (rr_row o155 rfl (cI_fl _)) (mp1 rfl mp0)))
/-! ### loop.example/g01263/laws.toBook (f10) -/
noncomputable def laws_toBook (a1 : Book) : Option (Int × (List Int) × (List Tally)) :=
  (laws_toInt64S a1.Cash).bind fun r30 =>
  (laws_toTallyS a1.Tallies).bind fun r50 =>
  some (a1.Day, r30, r50)
def laws_toBook_enc (r : Int × (List Int) × (List Tally)) : AV := .agg [.int .i64 r.1, .sl (some 2) (r.2.1.map (cI .i64)), .sl (some 78) (r.2.2.map Tally.c)]
theorem laws_toBook_ok (a1 : Book) (r : Int × (List Int) × (List Tally)) (h : laws_toBook a1 = some r) : Ev (fun k => CN k 10 [.agg [.int .i64 a1.Day, .sl none (a1.Cash.map (cI .i64)), .sl none (a1.Tallies.map Tally.c)]] []) (fun p => rRes p.2 p.1 = laws_toBook_enc r) := by
  unfold laws_toBook at h
  refine Ev.enter (F := fun k => f10 (CN k) k) (fun k => callN_eq rfl Try.func10 rfl rfl rfl (by decide +kernel) (f10_eq _ _)) ?_
  refine Ev.seq ?_
  refine Ev.reg (fun _ => rfl) ?_
  refine Ev.nxk (bxI rfl rfl ⟨rfl, rfl, by decide⟩) ?_
  refine Ev.nxpush (alO zero31) ?_
  intro M2 hM3
  have o4 : M2[([] : Mem).length]? = some (.live ⟨.box, 31, 3, [[.int .i64 0, .nils, .nils]]⟩) := push_new hM3
  refine Ev.rend ?_
  intro e5 he6
  have h7 : eget e5 1 = .pt none [.int .i64 a1.Day, .sl none (a1.Cash.map (cI .i64)), .sl none (a1.Tallies.map Tally.c)] := envp he6 rfl rfl
  have h8 : eget e5 2 = .loc ([] : Mem).length 1 0 0 := envp he6 rfl rfl
  refine Ev.kseqN ?_
  refine Ev.seq ?_
  refine Ev.reg (fun _ => rfl) ?_
  refine Ev.nxpush (alO zero31) ?_
  intro M10 hM11
  have o12 := push_old hM11 o4
  have ne13 := ne_new o4
  have o14 : M10[M2.length]? = some (.live ⟨.box, 31, 3, [[.int .i64 0, .nils, .nils]]⟩) := push_new hM11
  refine Ev.rend ?_
  intro e15 he16
  have h17 : eget e15 1 = .pt none [.int .i64 a1.Day, .sl none (a1.Cash.map (cI .i64)), .sl none (a1.Tallies.map Tally.c)] := envp he16 rfl h7
  have h18 : eget e15 2 = .loc ([] : Mem).length 1 0 0 := envp he16 rfl h8
  have h19 : eget e15 3 = .loc M2.length 1 0 0 := envp he16 rfl rfl
  clear h7 h8
  refine Ev.kseqN ?_
  refine Ev.seq ?_
  refine Ev.reg (fun _ => rfl) ?_
  refine Ev.nxk (faP h17 ⟨ble rfl, blt rfl⟩ rfl) ?_
  refine Ev.nxk (ldP rfl rfl) ?_
  refine Ev.nxk (faO h19 o14 rfl) ?_
  refine Ev.nxput (stO rfl rfl o14 rfl rfl ⟨rfl, ble rfl⟩ rfl rfl) ?_
  intro M20 hM21
  have o22 := set_ne hM21 ne13 o12
  have o23 : M20[M2.length]? = some (.live ⟨.box, 31, 3, [[.int .i64 a1.Day, .nils, .nils]]⟩) := set_same hM21 o14
  refine Ev.rend ?_
  intro e24 he25
  have h26 : eget e24 1 = .pt none [.int .i64 a1.Day, .sl none (a1.Cash.map (cI .i64)), .sl none (a1.Tallies.map Tally.c)] := envp he25 rfl h17
  have h27 : eget e24 2 = .loc ([] : Mem).length 1 0 0 := envp he25 rfl h18
  have h28 : eget e24 3 = .loc M2.length 1 0 0 := envp he25 rfl h19
  clear h17 h18 h19
  refine Ev.kseqN ?_
  refine Ev.seq ?_
  refine Ev.reg (fun _ => rfl) ?_
  refine Ev.nxk (faP h26 ⟨ble rfl, blt rfl⟩ rfl) ?_
  refine Ev.nxk (ldP rfl rfl) ?_
  obtain ⟨r30, hx29, h⟩ := bind_some h
  refine Ev.nxcp (Ev.callT (v := .sl (some 2) (r30.map (cI .i64))) rfl (cns rfl rfl) rfl (laws_toInt64S_ok a1.Cash _ hx29) (th_gen (v' := .lsl M20.length r30.length 0 r30.length) (l := [⟨.grow, 2, 1, r30.map (cI .i64)⟩]) (ownA_row (c := (cI .i64)) (fun _ => rfl)) (by simp [thaw, thaw2, thaw1, thawL, co2]) rfl rfl)) ?_
  intro M32 hM33
  have o34 := push_old hM33 o22
  have o35 := push_old hM33 o23
  have ne36 : ([] : Mem).length ≠ M20.length := by have := lt_of_get o22; omega
  have ne37 : M2.length ≠ M20.length := by have := lt_of_get o23; omega
  have o38 : M32[M20.length]? = some (.live ⟨.grow, 2, 1, r30.map (cI .i64)⟩) := push_at hM33 0 rfl
  refine Ev.nxk (faO h28 o35 rfl) ?_
  refine Ev.nxput (stO rfl rfl o35 rfl rfl ⟨rfl, ble rfl⟩ (all1 (okL o38 (by simp)) all0) rfl) ?_
  intro M39 hM40
  have o41 := set_ne hM40 ne13 o34
  have o42 : M39[M2.length]? = some (.live ⟨.box, 31, 3, [[.int .i64 a1.Day, .lsl M20.length r30.length 0 r30.length, .nils]]⟩) := set_same hM40 o35
  have o43 := set_ne hM40 (Ne.symm ne37) o38
  refine Ev.rend ?_
  intro e44 he45
  have h46 : eget e44 1 = .pt none [.int .i64 a1.Day, .sl none (a1.Cash.map (cI .i64)), .sl none (a1.Tallies.map Tally.c)] := envp he45 rfl h26
  have h47 : eget e44 2 = .loc ([] : Mem).length 1 0 0 := envp he45 rfl h27
  have h48 : eget e44 3 = .loc M2.length 1 0 0 := envp he45 rfl h28
  clear h26 h27 h28
  refine Ev.kseqN ?_
  refine Ev.seq ?_
  refine Ev.reg (fun _ => rfl) ?_
  refine Ev.nxk (faP h46 ⟨ble rfl, blt rfl⟩ rfl) ?_
  refine Ev.nxk (ldP rfl rfl) ?_
  obtain ⟨r50, hx49, h⟩ := bind_some h
  refine Ev.nxcp (Ev.callT (v := .sl (some 78) (r50.map Tally.c)) rfl (cns rfl rfl) rfl (laws_toTallyS_ok a1.Tallies _ hx49) (th_gen (v' := .lsl M39.length r50.length 0 r50.length) (l := [⟨.grow, 78, 5, r50.map Tally.c⟩]) (ownA_row (c := Tally.c) Tally.flF) (by simp [thaw, thaw2, thaw1, thawL, co78]) rfl rfl)) ?_
  intro M52 hM53
  have o54 := push_old hM53 o41
  have o55 := push_old hM53 o42
  have o56 := push_old hM53 o43
  have ne57 : ([] : Mem).length ≠ M39.length := by have := lt_of_get o41; omega
  have ne58 : M2.length ≠ M39.length := by have := lt_of_get o42; omega
  have ne59 : M20.length ≠ M39.length := by have := lt_of_get o43; omega
  have o60 : M52[M39.length]? = some (.live ⟨.grow, 78, 5, r50.map Tally.c⟩) := push_at hM53 0 rfl
  refine Ev.nxk (faO h48 o55 rfl) ?_
  refine Ev.nxput (stO rfl rfl o55 rfl rfl ⟨rfl, ble rfl⟩ (all1 (okL o60 (by simp)) all0) rfl) ?_
  intro M61 hM62
  have o63 := set_ne hM62 ne13 o54
  have o64 : M61[M2.length]? = some (.live ⟨.box, 31, 3, [[.int .i64 a1.Day, .lsl M20.length r30.length 0 r30.length, .lsl M39.length r50.length 0 r50.length]]⟩) := set_same hM62 o55
  have o65 := set_ne hM62 (Ne.symm ne37) o56
  have o66 := set_ne hM62 (Ne.symm ne58) o60
  refine Ev.rend ?_
  intro e67 he68
  have h69 : eget e67 2 = .loc ([] : Mem).length 1 0 0 := envp he68 rfl h47
  have h70 : eget e67 3 = .loc M2.length 1 0 0 := envp he68 rfl h48
  clear h46 h47 h48
  refine Ev.kseqN ?_
  refine Ev.seq ?_
  refine Ev.reg (fun _ => rfl) ?_
  refine Ev.nxk (ldOA h70 o64 rfl rfl (ble rfl) rfl) ?_
  refine Ev.nxput (stO h69 rfl o63 rfl rfl ⟨rfl, ble rfl⟩ (all1 rfl (all1 (okL o65 (by simp)) (all1 (okL o66 (by simp)) all0))) rfl) ?_
  intro M71 hM72
  have o73 : M71[([] : Mem).length]? = some (.live ⟨.box, 31, 3, [[.int .i64 a1.Day, .lsl M20.length r30.length 0 r30.length, .lsl M39.length r50.length 0 r50.length]]⟩) := set_same hM72 o63
  have o74 := set_ne hM72 (Ne.symm ne13) o64
  have o75 := set_ne hM72 (Ne.symm ne36) o65
  have o76 := set_ne hM72 (Ne.symm ne57) o66
  refine Ev.rend ?_
  intro e77 he78
  have h79 : eget e77 2 = .loc ([] : Mem).length 1 0 0 := envp he78 rfl h69
  clear h69 h70
  refine Ev.kseqN ?_
  refine Ev.ex ?_
  cases h
  exact Ev.kendR (resC (ag := true) (sz := 3) ⟨by kernel_rfl, by kernel_rfl, by kernel_rfl⟩ (ldOA h79 o73 rfl rfl (ble rfl) rfl) res0) (rr_agg (mp1 rfl (mp1 (rr_row o75 rfl (cI_fl _)) (mp1 (rr_row o76 rfl Tally.fl) mp0))))
/-! ### loop.example/g01263/spec.HoldsNow (f9) -/
abbrev spec_HoldsNow_b1_S := Int × (List Int)
abbrev spec_HoldsNow_b1_R := (List Int)
def spec_HoldsNow_b1_RS (a1 : Book) (a2 : Int) (i1_1 : Nat) (s : spec_HoldsNow_b1_S) (e : Env) (M : Mem) : Prop := eget e 1 = .int .i64 a2 ∧ eget e 2 = .pt none [.int .i64 a1.Day, .sl none (a1.Cash.map (cI .i64)), .sl none (a1.Tallies.map Tally.c)] ∧ eget e 7 = .lsl i1_1 s.2.length 0 s.2.length ∧ eget e 8 = .int .i64 s.1 ∧ M[i1_1]? = some (.live ⟨.grow, 2, 1, s.2.map (cI .i64)⟩)
def spec_HoldsNow_b1_RR (a1 : Book) (a2 : Int) (i1_1 : Nat) (g : spec_HoldsNow_b1_R) (x : Ex) (e : Env) (M : Mem) : Prop := x = .ext 0 ∧ eget e 7 = .lsl i1_1 g.length 0 g.length ∧ M[i1_1]? = some (.live ⟨.grow, 2, 1, g.map (cI .i64)⟩)
noncomputable def spec_HoldsNow_b1 (a1 : Book) (a2 : Int) : spec_HoldsNow_b1_S → Option (spec_HoldsNow_b1_S ⊕ spec_HoldsNow_b1_R) := fun (s1_1, s1_2) =>
  if (decide (s1_1 < (a1.Tallies.length : Int))) = true then
    (rd a1.Tallies s1_1).bind fun x72 =>
    if (x72.Holder == a2) = true then
      (rd a1.Tallies s1_1).bind fun x75 =>
      if (decide (x75.Left > 0)) = true then
        (app 8 s1_2 [s1_1]).bind fun x85 =>
        some (.inl ((IntKind.i64.wrap (s1_1 + 1)), x85))
      else
        some (.inl ((IntKind.i64.wrap (s1_1 + 1)), s1_2))
    else
      some (.inl ((IntKind.i64.wrap (s1_1 + 1)), s1_2))
  else
    some (.inr s1_2)
theorem spec_HoldsNow_b1_ok (a1 : Book) (a2 : Int) (i1_1 : Nat) (s : spec_HoldsNow_b1_S) (r : spec_HoldsNow_b1_S ⊕ spec_HoldsNow_b1_R) (h : spec_HoldsNow_b1 a1 a2 s = some r) (e : Env) (M : Mem) (hs : spec_HoldsNow_b1_RS a1 a2 i1_1 s e M) : Ev (fun k => (f9_l6 (CN k) k (prune [1, 2, 7, 8] e) M).bind fun q => some q) (bQ (spec_HoldsNow_b1_RS a1 a2 i1_1) (spec_HoldsNow_b1_RR a1 a2 i1_1) r) := by
  obtain ⟨s1_1, s1_2⟩ := s
  unfold spec_HoldsNow_b1 at h
  obtain ⟨h55, h57, h59, h61, o63⟩ := hs
  generalize he54 : prune [1, 2, 7, 8] e = e53
  have h56 := envp he54.symm rfl h55
  have h58 := envp he54.symm rfl h57
  have h60 := envp he54.symm rfl h59
  have h62 := envp he54.symm rfl h61
  refine Ev.seq ?_
  refine Ev.seq ?_
  refine Ev.reg (fun _ => rfl) ?_
  refine Ev.nxk (mvO h62) ?_
  refine Ev.nxk (faP h58 ⟨ble rfl, blt rfl⟩ rfl) ?_
  refine Ev.nxk (ldP rfl rfl) ?_
  refine Ev.nxk (lnS Try.underlying29 rfl) ?_
  refine Ev.nxk (bLss rfl rfl) ?_
  refine Ev.rend ?_
  intro e64 he65
  have h66 : eget e64 1 = .int .i64 a2 := envp he65 rfl h56
  have h67 : eget e64 2 = .pt none [.int .i64 a1.Day, .sl none (a1.Cash.map (cI .i64)), .sl none (a1.Tallies.map Tally.c)] := envp he65 rfl h58
  have h68 : eget e64 7 = .lsl i1_1 s1_2.length 0 s1_2.length := envp he65 rfl h60
  have h69 : eget e64 8 = .int .i64 s1_1 := envp he65 rfl h62
  have h70 : eget e64 20 = .bool (decide (s1_1 < (a1.Tallies.length : Int))) := envp he65 rfl rfl
  clear h56 h58 h60 h62
  refine Ev.kseqN ?_
  rcases ite_some h with ⟨hb71, h⟩ | ⟨hb71, h⟩
  · refine Ev.condT h70 hb71 ?_
    refine Ev.ex ?_
    refine Ev.kseqN ?_
    refine Ev.seq ?_
    refine Ev.blk ?_
    refine Ev.seq ?_
    refine Ev.reg (fun _ => rfl) ?_
    refine Ev.nxk (faP h67 ⟨ble rfl, blt rfl⟩ rfl) ?_
    refine Ev.nxk (ldP rfl rfl) ?_
    refine Ev.nxk (mvO h69) ?_
    obtain ⟨x72, hx73, h⟩ := bind_some h
    refine Ev.nxk (ixS rfl rfl hx73 Tally.fl) ?_
    refine Ev.nxk (faP rfl ⟨ble rfl, blt rfl⟩ rfl) ?_
    refine Ev.nxk (ldP rfl rfl) ?_
    refine Ev.nxk (mvO h66) ?_
    refine Ev.nxk (bEql rfl rfl) ?_
    refine Ev.nxk (mvO rfl) ?_
    rcases ite_some h with ⟨hb74, h⟩ | ⟨hb74, h⟩
    · refine Ev.nxk (guT rfl hb74 (faP h67 ⟨ble rfl, blt rfl⟩ rfl)) ?_
      refine Ev.nxk (guT rfl hb74 (ldP rfl rfl)) ?_
      refine Ev.nxk (guT rfl hb74 (mvO h69)) ?_
      obtain ⟨x75, hx76, h⟩ := bind_some h
      refine Ev.nxk (guT rfl hb74 (ixS rfl rfl hx76 Tally.fl)) ?_
      refine Ev.nxk (guT rfl hb74 (faP rfl ⟨ble rfl, blt rfl⟩ rfl)) ?_
      refine Ev.nxk (guT rfl hb74 (ldP rfl rfl)) ?_
      refine Ev.nxk (guT rfl hb74 (bGtr rfl rfl)) ?_
      refine Ev.nxk (pkT rfl hb74 rfl) ?_
      refine Ev.rend ?_
      intro e77 he78
      have h79 : eget e77 1 = .int .i64 a2 := envp he78 rfl h66
      have h80 : eget e77 2 = .pt none [.int .i64 a1.Day, .sl none (a1.Cash.map (cI .i64)), .sl none (a1.Tallies.map Tally.c)] := envp he78 rfl h67
      have h81 : eget e77 7 = .lsl i1_1 s1_2.length 0 s1_2.length := envp he78 rfl h68
      have h82 : eget e77 8 = .int .i64 s1_1 := envp he78 rfl h69
      have h83 : eget e77 39 = .bool (decide (x75.Left > 0)) := envp he78 rfl rfl
      clear h66 h67 h68 h69 h70
      refine Ev.kseqN ?_
      rcases ite_some h with ⟨hb84, h⟩ | ⟨hb84, h⟩
      · refine Ev.condT h83 hb84 ?_
        refine Ev.reg (fun _ => rfl) ?_
        refine Ev.nxk (mvO h81) ?_
        refine Ev.nxk (mvO h82) ?_
        refine Ev.nxk (litI (cns rfl rfl) rfl ⟨rfl, by decide⟩) ?_
        obtain ⟨x85, hx86, h⟩ := bind_some h
        refine Ev.nxput (apO rfl o63 rfl (elT (c := (cI .i64)) (xs := [s1_1]) rfl) hx86 (cI_fl _) (by decide)) ?_
        intro M87 hM88
        have o89 : M87[i1_1]? = some (.live ⟨.grow, 2, 1, x85.map (cI .i64)⟩) := set_same hM88 o63
        refine Ev.nxk (mvO rfl) ?_
        refine Ev.rend ?_
        intro e90 he91
        have h92 : eget e90 1 = .int .i64 a2 := envp he91 rfl h79
        have h93 : eget e90 2 = .pt none [.int .i64 a1.Day, .sl none (a1.Cash.map (cI .i64)), .sl none (a1.Tallies.map Tally.c)] := envp he91 rfl h80
        have h94 : eget e90 7 = .lsl i1_1 x85.length 0 x85.length := envp he91 rfl rfl
        have h95 : eget e90 8 = .int .i64 s1_1 := envp he91 rfl h82
        clear h79 h80 h82 h83
        refine Ev.kblkN ?_
        refine Ev.kseqN ?_
        refine Ev.reg (fun _ => rfl) ?_
        refine Ev.nxk (mvO h95) ?_
        refine Ev.nxk (bAdd rfl rfl) ?_
        refine Ev.nxk (mvO rfl) ?_
        refine Ev.rend ?_
        intro e96 he97
        have h98 : eget e96 1 = .int .i64 a2 := envp he97 rfl h92
        have h99 : eget e96 2 = .pt none [.int .i64 a1.Day, .sl none (a1.Cash.map (cI .i64)), .sl none (a1.Tallies.map Tally.c)] := envp he97 rfl h93
        have h100 : eget e96 7 = .lsl i1_1 x85.length 0 x85.length := envp he97 rfl h94
        have h101 : eget e96 8 = .int .i64 (IntKind.i64.wrap (s1_1 + 1)) := envp he97 rfl rfl
        clear h92 h93 h94
        cases h
        exact Ev.kid (bQ_n (RS := (spec_HoldsNow_b1_RS a1 a2 i1_1)) (RR := (spec_HoldsNow_b1_RR a1 a2 i1_1)) (And.intro h98 (And.intro h99 (And.intro h100 (And.intro h101 o89)))))
      · refine Ev.condF h83 hb84 ?_
        refine Ev.ex ?_
        refine Ev.kblkN ?_
        refine Ev.kseqN ?_
        refine Ev.reg (fun _ => rfl) ?_
        refine Ev.nxk (mvO h82) ?_
        refine Ev.nxk (bAdd rfl rfl) ?_
        refine Ev.nxk (mvO rfl) ?_
        refine Ev.rend ?_
        intro e102 he103
        have h104 : eget e102 1 = .int .i64 a2 := envp he103 rfl h79
        have h105 : eget e102 2 = .pt none [.int .i64 a1.Day, .sl none (a1.Cash.map (cI .i64)), .sl none (a1.Tallies.map Tally.c)] := envp he103 rfl h80
        have h106 : eget e102 7 = .lsl i1_1 s1_2.length 0 s1_2.length := envp he103 rfl h81
        have h107 : eget e102 8 = .int .i64 (IntKind.i64.wrap (s1_1 + 1)) := envp he103 rfl rfl
        clear h79 h80 h81 h83
        cases h
        exact Ev.kid (bQ_n (RS := (spec_HoldsNow_b1_RS a1 a2 i1_1)) (RR := (spec_HoldsNow_b1_RR a1 a2 i1_1)) (And.intro h104 (And.intro h105 (And.intro h106 (And.intro h107 o63)))))
    · refine Ev.nxk (gsT rfl hb74) ?_
      refine Ev.nxk (gsT rfl hb74) ?_
      refine Ev.nxk (gsT rfl hb74) ?_
      refine Ev.nxk (gsT rfl hb74) ?_
      refine Ev.nxk (gsT rfl hb74) ?_
      refine Ev.nxk (gsT rfl hb74) ?_
      refine Ev.nxk (gsT rfl hb74) ?_
      refine Ev.nxk (pkF rfl hb74 rfl) ?_
      refine Ev.rend ?_
      intro e108 he109
      have h110 : eget e108 1 = .int .i64 a2 := envp he109 rfl h66
      have h111 : eget e108 2 = .pt none [.int .i64 a1.Day, .sl none (a1.Cash.map (cI .i64)), .sl none (a1.Tallies.map Tally.c)] := envp he109 rfl h67
      have h112 : eget e108 7 = .lsl i1_1 s1_2.length 0 s1_2.length := envp he109 rfl h68
      have h113 : eget e108 8 = .int .i64 s1_1 := envp he109 rfl h69
      have h114 : eget e108 39 = .bool false := envp he109 rfl rfl
      clear h66 h67 h68 h69 h70
      refine Ev.kseqN ?_
      refine Ev.condF h114 rfl ?_
      refine Ev.ex ?_
      refine Ev.kblkN ?_
      refine Ev.kseqN ?_
      refine Ev.reg (fun _ => rfl) ?_
      refine Ev.nxk (mvO h113) ?_
      refine Ev.nxk (bAdd rfl rfl) ?_
      refine Ev.nxk (mvO rfl) ?_
      refine Ev.rend ?_
      intro e115 he116
      have h117 : eget e115 1 = .int .i64 a2 := envp he116 rfl h110
      have h118 : eget e115 2 = .pt none [.int .i64 a1.Day, .sl none (a1.Cash.map (cI .i64)), .sl none (a1.Tallies.map Tally.c)] := envp he116 rfl h111
      have h119 : eget e115 7 = .lsl i1_1 s1_2.length 0 s1_2.length := envp he116 rfl h112
      have h120 : eget e115 8 = .int .i64 (IntKind.i64.wrap (s1_1 + 1)) := envp he116 rfl rfl
      clear h110 h111 h112 h114
      cases h
      exact Ev.kid (bQ_n (RS := (spec_HoldsNow_b1_RS a1 a2 i1_1)) (RR := (spec_HoldsNow_b1_RR a1 a2 i1_1)) (And.intro h117 (And.intro h118 (And.intro h119 (And.intro h120 o63)))))
  · refine Ev.condF h70 hb71 ?_
    refine Ev.ex ?_
    refine Ev.kseqE ?_
    cases h
    exact Ev.kid (bQ_x (RS := (spec_HoldsNow_b1_RS a1 a2 i1_1)) (RR := (spec_HoldsNow_b1_RR a1 a2 i1_1)) (by intro h; cases h) (And.intro rfl (And.intro h68 o63)))
noncomputable def spec_HoldsNow (a1 : Book) (a2 : Int) : Option ((List Int) × Int) :=
  (spec_l07One a1 a2).bind fun r6 =>
  if (r6 != 0) = true then
    some (([] : List Int), r6)
  else
    (Lw (spec_HoldsNow_b1 a1 a2) (0, ([] : List Int))).bind fun y126 =>
    some (y126, 0)
def spec_HoldsNow_enc (r : (List Int) × Int) : AV := .tup [.sl (some 2) (r.1.map (cI .i64)), .int .i64 r.2]
theorem spec_HoldsNow_ok (a1 : Book) (a2 : Int) (r : (List Int) × Int) (h : spec_HoldsNow a1 a2 = some r) : Ev (fun k => CN k 9 [.agg [.int .i64 a1.Day, .sl none (a1.Cash.map (cI .i64)), .sl none (a1.Tallies.map Tally.c)], .int .i64 a2] []) (fun p => rRes p.2 p.1 = spec_HoldsNow_enc r) := by
  unfold spec_HoldsNow at h
  refine Ev.enter (F := fun k => f9 (CN k) k) (fun k => callN_eq rfl Try.func9 rfl rfl rfl (by decide +kernel) (f9_eq _ _)) ?_
  refine Ev.seq ?_
  refine Ev.reg (fun _ => rfl) ?_
  refine Ev.nxk (bxI rfl rfl ⟨rfl, rfl, by decide⟩) ?_
  refine Ev.nxk (mvO rfl) ?_
  refine Ev.nxk (mvO rfl) ?_
  refine Ev.rend ?_
  intro e1 he2
  have h3 : eget e1 1 = .int .i64 a2 := envp he2 rfl rfl
  have h4 : eget e1 2 = .pt none [.int .i64 a1.Day, .sl none (a1.Cash.map (cI .i64)), .sl none (a1.Tallies.map Tally.c)] := envp he2 rfl rfl
  refine Ev.kseqN ?_
  refine Ev.seq ?_
  refine Ev.seq ?_
  refine Ev.reg (fun _ => rfl) ?_
  refine Ev.nxk (mvO h3) ?_
  obtain ⟨r6, hx5, h⟩ := bind_some h
  refine Ev.nxck (Ev.call (v := .int .i64 r6) rfl (cns h4 (cns rfl rfl)) rfl (spec_l07One_ok a1 a2 _ hx5) (fun h => nomatch (show false = true from h))) ?_
  refine Ev.nxk (mvO rfl) ?_
  refine Ev.rend ?_
  intro e7 he8
  have h9 : eget e7 1 = .int .i64 a2 := envp he8 rfl h3
  have h10 : eget e7 2 = .pt none [.int .i64 a1.Day, .sl none (a1.Cash.map (cI .i64)), .sl none (a1.Tallies.map Tally.c)] := envp he8 rfl h4
  have h11 : eget e7 6 = .int .i64 r6 := envp he8 rfl rfl
  clear h3 h4
  refine Ev.kseqN ?_
  refine Ev.seq ?_
  refine Ev.reg (fun _ => rfl) ?_
  refine Ev.nxk (mvO h11) ?_
  refine Ev.nxk (bNeq rfl rfl) ?_
  refine Ev.rend ?_
  intro e12 he13
  have h14 : eget e12 1 = .int .i64 a2 := envp he13 rfl h9
  have h15 : eget e12 2 = .pt none [.int .i64 a1.Day, .sl none (a1.Cash.map (cI .i64)), .sl none (a1.Tallies.map Tally.c)] := envp he13 rfl h10
  have h16 : eget e12 6 = .int .i64 r6 := envp he13 rfl h11
  have h17 : eget e12 12 = .bool (r6 != 0) := envp he13 rfl rfl
  clear h10 h11 h9
  refine Ev.kseqN ?_
  rcases ite_some h with ⟨hb18, h⟩ | ⟨hb18, h⟩
  · refine Ev.condT h17 hb18 ?_
    refine Ev.seq ?_
    refine Ev.reg (fun _ => rfl) ?_
    refine Ev.nxpush (litO (xs := ([] : List Int)) (c := (cI .i64)) rfl rfl (by decide)) ?_
    intro M20 hM21
    have o22 : M20[([] : Mem).length]? = some (.live ⟨.grow, 2, 1, ([] : List Int).map (cI .i64)⟩) := push_new hM21
    refine Ev.nxk (mvO h16) ?_
    refine Ev.nxk (mvO rfl) ?_
    refine Ev.nxk (mvO rfl) ?_
    refine Ev.rend ?_
    intro e23 he24
    have h25 : eget e23 4 = .lsl ([] : Mem).length ([] : List Int).length 0 ([] : List Int).length := envp he24 rfl rfl
    have h26 : eget e23 5 = .int .i64 r6 := envp he24 rfl rfl
    clear h14 h15 h16 h17
    refine Ev.kseqN ?_
    refine Ev.ex ?_
    refine Ev.kseqR ?_
    cases h
    exact Ev.kendR (resT h25 (resT h26 res0)) (rr_tup (mp1 (rr_row o22 rfl (cI_fl _)) (mp1 rfl mp0)))
  · refine Ev.condF h17 hb18 ?_
    refine Ev.ex ?_
    refine Ev.kseqN ?_
    refine Ev.seq ?_
    refine Ev.reg (fun _ => rfl) ?_
    refine Ev.nxpush (litO (xs := ([] : List Int)) (c := (cI .i64)) rfl rfl (by decide)) ?_
    intro M28 hM29
    have o30 : M28[([] : Mem).length]? = some (.live ⟨.grow, 2, 1, ([] : List Int).map (cI .i64)⟩) := push_new hM29
    refine Ev.nxk (mvO rfl) ?_
    refine Ev.rend ?_
    intro e31 he32
    have h33 : eget e31 1 = .int .i64 a2 := envp he32 rfl h14
    have h34 : eget e31 2 = .pt none [.int .i64 a1.Day, .sl none (a1.Cash.map (cI .i64)), .sl none (a1.Tallies.map Tally.c)] := envp he32 rfl h15
    have h35 : eget e31 7 = .lsl ([] : Mem).length ([] : List Int).length 0 ([] : List Int).length := envp he32 rfl rfl
    clear h14 h15 h16 h17
    refine Ev.kseqN ?_
    refine Ev.seq ?_
    refine Ev.seq ?_
    refine Ev.reg (fun _ => rfl) ?_
    refine Ev.nxk (mvO rfl) ?_
    refine Ev.rend ?_
    intro e36 he37
    have h38 : eget e36 1 = .int .i64 a2 := envp he37 rfl h33
    have h39 : eget e36 2 = .pt none [.int .i64 a1.Day, .sl none (a1.Cash.map (cI .i64)), .sl none (a1.Tallies.map Tally.c)] := envp he37 rfl h34
    have h40 : eget e36 7 = .lsl ([] : Mem).length ([] : List Int).length 0 ([] : List Int).length := envp he37 rfl h35
    have h41 : eget e36 8 = .int .i64 0 := envp he37 rfl rfl
    clear h33 h34 h35
    refine Ev.kseqN ?_
    refine Ev.blk ?_
    obtain ⟨y126, hr122, h⟩ := bind_some h
    refine Ev.loop (RS := spec_HoldsNow_b1_RS a1 a2 (([] : Mem).length)) (RR := spec_HoldsNow_b1_RR a1 a2 (([] : Mem).length)) (fun s r h e M hs => spec_HoldsNow_b1_ok a1 a2 (([] : Mem).length) s r h e M hs) hr122 (And.intro h38 (And.intro h39 (And.intro h40 (And.intro h41 o30)))) ?_
    intro x e124 M125 hq123
    obtain ⟨rfl, h127, o128⟩ := hq123
    refine Ev.kblkE ?_
    refine Ev.kseqN ?_
    refine Ev.seq ?_
    refine Ev.reg (fun _ => rfl) ?_
    refine Ev.nxk (mvO h127) ?_
    refine Ev.nxk (mvO rfl) ?_
    refine Ev.nxk (mvO rfl) ?_
    refine Ev.rend ?_
    intro e129 he130
    have h131 : eget e129 4 = .lsl ([] : Mem).length y126.length 0 y126.length := envp he130 rfl rfl
    have h132 : eget e129 5 = .int .i64 0 := envp he130 rfl rfl
    clear h127
    refine Ev.kseqN ?_
    refine Ev.ex ?_
    cases h
    exact Ev.kendR (resT h131 (resT h132 res0)) (rr_tup (mp1 (rr_row o128 rfl (cI_fl _)) (mp1 rfl mp0)))
end Go.Proofs.Ytfabokkhdalbeab

/- Printed by a program of ours (ext.py). -/
import Derived.Test.YtaocojognonkcaaFnsValidDeal
set_option linter.unusedVariables false
set_option maxRecDepth 100000
set_option maxHeartbeats 2000000
namespace Go.Proofs.Ytaocojognonkcaa
open Go Go.Ab
structure Deal where
  Day : Int
  Kind : Int
  Tally : Int
  From : Int
  To : Int
  Amount : Int
  deriving DecidableEq
def Deal.c (x : Deal) : List AV := [.int .i64 x.Day, .int .i8 x.Kind, .int .i64 x.Tally, .int .i64 x.From, .int .i64 x.To, .int .i64 x.Amount]
theorem Deal.fl : Fl Deal.c 6 := fun _ => ⟨rfl, rfl⟩
theorem Deal.flF : FlF Deal.c := fun _ => rfl
theorem zero26 : zeroOf cx.P 26 = [.int .i64 0, .int .i8 0, .int .i64 0, .int .i64 0, .int .i64 0, .int .i64 0] := by kernel_rfl
/-! ### loop.example/g01263/spec.l00In (f37) -/
noncomputable def spec_l00In (a1 : Int) (a2 : Int) (a3 : Int) : Option Bool :=
  if (decide (a1 ≥ a2)) = true then
    some (decide (a1 ≤ a3))
  else
    some false
def spec_l00In_enc (r : Bool) : AV := .bool r
theorem spec_l00In_ok (a1 : Int) (a2 : Int) (a3 : Int) (r : Bool) (h : spec_l00In a1 a2 a3 = some r) : Ev (fun k => CN k 37 [.int .i64 a1, .int .i64 a2, .int .i64 a3] []) (fun p => rRes p.2 p.1 = spec_l00In_enc r) := by
  unfold spec_l00In at h
  refine Ev.enter (F := fun k => f37 (CN k) k) (fun k => callN_eq rfl Try.func37 rfl rfl rfl (by decide +kernel) (f37_eq _ _)) ?_
  refine Ev.seq ?_
  refine Ev.reg (fun _ => rfl) ?_
  refine Ev.nxk (mvO rfl) ?_
  refine Ev.rend ?_
  intro e1 he2
  have h3 : eget e1 0 = .int .i64 a1 := envp he2 rfl rfl
  have h4 : eget e1 1 = .int .i64 a2 := envp he2 rfl rfl
  have h5 : eget e1 2 = .int .i64 a3 := envp he2 rfl rfl
  refine Ev.kseqN ?_
  refine Ev.seq ?_
  refine Ev.reg (fun _ => rfl) ?_
  refine Ev.nxk (mvO h3) ?_
  refine Ev.nxk (mvO h4) ?_
  refine Ev.nxk (bGeq rfl rfl) ?_
  refine Ev.nxk (mvO rfl) ?_
  rcases ite_some h with ⟨hb6, h⟩ | ⟨hb6, h⟩
  · refine Ev.nxk (guT rfl hb6 (mvO h3)) ?_
    refine Ev.nxk (guT rfl hb6 (mvO h5)) ?_
    refine Ev.nxk (guT rfl hb6 (bLeq rfl rfl)) ?_
    refine Ev.nxk (pkT rfl hb6 rfl) ?_
    refine Ev.nxk (mvO rfl) ?_
    refine Ev.rend ?_
    intro e7 he8
    have h9 : eget e7 6 = .bool (decide (a1 ≤ a3)) := envp he8 rfl rfl
    clear h3 h4 h5
    refine Ev.kseqN ?_
    refine Ev.ex ?_
    cases h
    exact Ev.kendR (resT h9 res0) rfl
  · refine Ev.nxk (gsT rfl hb6) ?_
    refine Ev.nxk (gsT rfl hb6) ?_
    refine Ev.nxk (gsT rfl hb6) ?_
    refine Ev.nxk (pkF rfl hb6 rfl) ?_
    refine Ev.nxk (mvO rfl) ?_
    refine Ev.rend ?_
    intro e10 he11
    have h12 : eget e10 6 = .bool false := envp he11 rfl rfl
    clear h3 h4 h5
    refine Ev.kseqN ?_
    refine Ev.ex ?_
    cases h
    exact Ev.kendR (resT h12 res0) rfl
/-! ### loop.example/g01263/spec.l07Day (f55) -/
noncomputable def spec_l07Day (a1 : Int) : Option Bool :=
  (spec_l00In a1 0 100000).bind fun r5 =>
  some r5
def spec_l07Day_enc (r : Bool) : AV := .bool r
theorem spec_l07Day_ok (a1 : Int) (r : Bool) (h : spec_l07Day a1 = some r) : Ev (fun k => CN k 55 [.int .i64 a1] []) (fun p => rRes p.2 p.1 = spec_l07Day_enc r) := by
  unfold spec_l07Day at h
  refine Ev.enter (F := fun k => f55 (CN k) k) (fun k => callN_eq rfl Try.func55 rfl rfl rfl (by decide +kernel) (f55_eq _ _)) ?_
  refine Ev.seq ?_
  refine Ev.reg (fun _ => rfl) ?_
  refine Ev.nxk (mvO rfl) ?_
  refine Ev.rend ?_
  intro e1 he2
  have h3 : eget e1 0 = .int .i64 a1 := envp he2 rfl rfl
  refine Ev.kseqN ?_
  refine Ev.seq ?_
  refine Ev.reg (fun _ => rfl) ?_
  refine Ev.nxk (mvO h3) ?_
  obtain ⟨r5, hx4, h⟩ := bind_some h
  refine Ev.nxck (Ev.call (v := .bool r5) rfl (cns rfl (cns rfl (cns rfl rfl))) rfl (spec_l00In_ok a1 0 100000 _ hx4) (fun h => nomatch (show false = true from h))) ?_
  refine Ev.nxk (mvO rfl) ?_
  refine Ev.rend ?_
  intro e6 he7
  have h8 : eget e6 2 = .bool r5 := envp he7 rfl rfl
  clear h3
  refine Ev.kseqN ?_
  refine Ev.ex ?_
  cases h
  exact Ev.kendR (resT h8 res0) rfl
/-! ### loop.example/g01263/impl.uses (f35) -/
noncomputable def impl_uses (a1 : Int) : Option (Bool × Bool × Bool × Bool) :=
  if (a1 == 1) = true then
    some (false, true, true, true)
  else
    if (a1 == 2) = true then
      some (true, true, true, false)
    else
      if (a1 == 3) = true then
        some (true, false, false, true)
      else
        some (true, true, false, false)
def impl_uses_enc (r : Bool × Bool × Bool × Bool) : AV := .tup [.bool r.1, .bool r.2.1, .bool r.2.2.1, .bool r.2.2.2]
theorem impl_uses_ok (a1 : Int) (r : Bool × Bool × Bool × Bool) (h : impl_uses a1 = some r) : Ev (fun k => CN k 35 [.int .i8 a1] []) (fun p => rRes p.2 p.1 = impl_uses_enc r) := by
  unfold impl_uses at h
  refine Ev.enter (F := fun k => f35 (CN k) k) (fun k => callN_eq rfl Try.func35 rfl rfl rfl (by decide +kernel) (f35_eq _ _)) ?_
  refine Ev.seq ?_
  refine Ev.reg (fun _ => rfl) ?_
  refine Ev.nxk (mvO rfl) ?_
  refine Ev.nxk (mvO rfl) ?_
  refine Ev.nxk (mvO rfl) ?_
  refine Ev.nxk (mvO rfl) ?_
  refine Ev.rend ?_
  intro e1 he2
  have h3 : eget e1 0 = .int .i8 a1 := envp he2 rfl rfl
  refine Ev.kseqN ?_
  refine Ev.seq ?_
  refine Ev.seq ?_
  refine Ev.reg (fun _ => rfl) ?_
  refine Ev.nxk (mvO h3) ?_
  refine Ev.rend ?_
  intro e4 he5
  have h6 : eget e4 6 = .int .i8 a1 := envp he5 rfl rfl
  clear h3
  refine Ev.kseqN ?_
  refine Ev.blk ?_
  refine Ev.seq ?_
  refine Ev.reg (fun _ => rfl) ?_
  refine Ev.nxk (bEql h6 rfl) ?_
  refine Ev.nxk (mvO rfl) ?_
  refine Ev.rend ?_
  intro e7 he8
  have h9 : eget e7 6 = .int .i8 a1 := envp he8 rfl h6
  have h10 : eget e7 7 = .bool (a1 == 1) := envp he8 rfl rfl
  clear h6
  refine Ev.kseqN ?_
  rcases ite_some h with ⟨hb11, h⟩ | ⟨hb11, h⟩
  · refine Ev.condT h10 hb11 ?_
    refine Ev.seq ?_
    refine Ev.reg (fun _ => rfl) ?_
    refine Ev.nxk (mvO rfl) ?_
    refine Ev.nxk (mvO rfl) ?_
    refine Ev.nxk (mvO rfl) ?_
    refine Ev.nxk (mvO rfl) ?_
    refine Ev.rend ?_
    intro e12 he13
    have h14 : eget e12 2 = .bool false := envp he13 rfl rfl
    have h15 : eget e12 3 = .bool true := envp he13 rfl rfl
    have h16 : eget e12 4 = .bool true := envp he13 rfl rfl
    have h17 : eget e12 5 = .bool true := envp he13 rfl rfl
    clear h10 h9
    refine Ev.kseqN ?_
    refine Ev.ex ?_
    refine Ev.kblkR ?_
    refine Ev.kseqR ?_
    cases h
    exact Ev.kendR (resT h14 (resT h15 (resT h16 (resT h17 res0)))) rfl
  · refine Ev.condF h10 hb11 ?_
    refine Ev.seq ?_
    refine Ev.reg (fun _ => rfl) ?_
    refine Ev.nxk (bEql h9 rfl) ?_
    refine Ev.nxk (mvO rfl) ?_
    refine Ev.rend ?_
    intro e18 he19
    have h20 : eget e18 6 = .int .i8 a1 := envp he19 rfl h9
    have h21 : eget e18 9 = .bool (a1 == 2) := envp he19 rfl rfl
    clear h10 h9
    refine Ev.kseqN ?_
    rcases ite_some h with ⟨hb22, h⟩ | ⟨hb22, h⟩
    · refine Ev.condT h21 hb22 ?_
      refine Ev.seq ?_
      refine Ev.reg (fun _ => rfl) ?_
      refine Ev.nxk (mvO rfl) ?_
      refine Ev.nxk (mvO rfl) ?_
      refine Ev.nxk (mvO rfl) ?_
      refine Ev.nxk (mvO rfl) ?_
      refine Ev.rend ?_
      intro e23 he24
      have h25 : eget e23 2 = .bool true := envp he24 rfl rfl
      have h26 : eget e23 3 = .bool true := envp he24 rfl rfl
      have h27 : eget e23 4 = .bool true := envp he24 rfl rfl
      have h28 : eget e23 5 = .bool false := envp he24 rfl rfl
      clear h20 h21
      refine Ev.kseqN ?_
      refine Ev.ex ?_
      refine Ev.kblkR ?_
      refine Ev.kseqR ?_
      cases h
      exact Ev.kendR (resT h25 (resT h26 (resT h27 (resT h28 res0)))) rfl
    · refine Ev.condF h21 hb22 ?_
      refine Ev.seq ?_
      refine Ev.reg (fun _ => rfl) ?_
      refine Ev.nxk (bEql h20 rfl) ?_
      refine Ev.nxk (mvO rfl) ?_
      refine Ev.rend ?_
      intro e29 he30
      have h31 : eget e29 11 = .bool (a1 == 3) := envp he30 rfl rfl
      clear h20 h21
      refine Ev.kseqN ?_
      rcases ite_some h with ⟨hb32, h⟩ | ⟨hb32, h⟩
      · refine Ev.condT h31 hb32 ?_
        refine Ev.seq ?_
        refine Ev.reg (fun _ => rfl) ?_
        refine Ev.nxk (mvO rfl) ?_
        refine Ev.nxk (mvO rfl) ?_
        refine Ev.nxk (mvO rfl) ?_
        refine Ev.nxk (mvO rfl) ?_
        refine Ev.rend ?_
        intro e33 he34
        have h35 : eget e33 2 = .bool true := envp he34 rfl rfl
        have h36 : eget e33 3 = .bool false := envp he34 rfl rfl
        have h37 : eget e33 4 = .bool false := envp he34 rfl rfl
        have h38 : eget e33 5 = .bool true := envp he34 rfl rfl
        clear h31
        refine Ev.kseqN ?_
        refine Ev.ex ?_
        refine Ev.kblkR ?_
        refine Ev.kseqR ?_
        cases h
        exact Ev.kendR (resT h35 (resT h36 (resT h37 (resT h38 res0)))) rfl
      · refine Ev.condF h31 hb32 ?_
        refine Ev.ex ?_
        refine Ev.kblkN ?_
        refine Ev.kseqN ?_
        refine Ev.seq ?_
        refine Ev.reg (fun _ => rfl) ?_
        refine Ev.nxk (mvO rfl) ?_
        refine Ev.nxk (mvO rfl) ?_
        refine Ev.nxk (mvO rfl) ?_
        refine Ev.nxk (mvO rfl) ?_
        refine Ev.rend ?_
        intro e39 he40
        have h41 : eget e39 2 = .bool true := envp he40 rfl rfl
        have h42 : eget e39 3 = .bool true := envp he40 rfl rfl
        have h43 : eget e39 4 = .bool false := envp he40 rfl rfl
        have h44 : eget e39 5 = .bool false := envp he40 rfl rfl
        clear h31
        refine Ev.kseqN ?_
        refine Ev.ex ?_
        cases h
        exact Ev.kendR (resT h41 (resT h42 (resT h43 (resT h44 res0)))) rfl
/-! ### loop.example/g01263/impl.ValidDeal$1 (f34) -/
noncomputable def impl_ValidDeal_1 (a1 : Bool) (a2 : Int) (a3 : Int) (a4 : Int) : Option Bool :=
  if a1 = true then
    if (decide (a2 ≥ a3)) = true then
      if (decide (a2 ≤ a4)) = true then
        some true
      else
        some false
    else
      some false
  else
    some (a2 == 0)
def impl_ValidDeal_1_enc (r : Bool) : AV := .bool r
theorem impl_ValidDeal_1_ok (a1 : Bool) (a2 : Int) (a3 : Int) (a4 : Int) (r : Bool) (h : impl_ValidDeal_1 a1 a2 a3 a4 = some r) : Ev (fun k => CN k 34 [.bool a1, .int .i64 a2, .int .i64 a3, .int .i64 a4] []) (fun p => rRes p.2 p.1 = impl_ValidDeal_1_enc r) := by
  unfold impl_ValidDeal_1 at h
  refine Ev.enter (F := fun k => f34 (CN k) k) (fun k => callN_eq rfl Try.func34 rfl rfl rfl (by decide +kernel) (f34_eq _ _)) ?_
  refine Ev.seq ?_
  refine Ev.reg (fun _ => rfl) ?_
  refine Ev.nxk (mvO rfl) ?_
  refine Ev.rend ?_
  intro e1 he2
  have h3 : eget e1 0 = .bool a1 := envp he2 rfl rfl
  have h4 : eget e1 1 = .int .i64 a2 := envp he2 rfl rfl
  have h5 : eget e1 2 = .int .i64 a3 := envp he2 rfl rfl
  have h6 : eget e1 3 = .int .i64 a4 := envp he2 rfl rfl
  refine Ev.kseqN ?_
  refine Ev.seq ?_
  refine Ev.reg (fun _ => rfl) ?_
  refine Ev.nxk (mvO h3) ?_
  refine Ev.nxk (mvO rfl) ?_
  rcases ite_some h with ⟨hb7, h⟩ | ⟨hb7, h⟩
  · refine Ev.nxk (guT rfl hb7 (mvO h4)) ?_
    refine Ev.nxk (guT rfl hb7 (mvO h5)) ?_
    refine Ev.nxk (guT rfl hb7 (bGeq rfl rfl)) ?_
    refine Ev.nxk (pkT rfl hb7 rfl) ?_
    refine Ev.nxk (mvO rfl) ?_
    rcases ite_some h with ⟨hb8, h⟩ | ⟨hb8, h⟩
    · refine Ev.nxk (guT rfl hb8 (mvO h4)) ?_
      refine Ev.nxk (guT rfl hb8 (mvO h6)) ?_
      refine Ev.nxk (guT rfl hb8 (bLeq rfl rfl)) ?_
      refine Ev.nxk (pkT rfl hb8 rfl) ?_
      refine Ev.nxk (mvO rfl) ?_
      rcases ite_some h with ⟨hb9, h⟩ | ⟨hb9, h⟩
      · refine Ev.nxk (gsF rfl hb9) ?_
        refine Ev.nxk (gsF rfl hb9) ?_
        refine Ev.nxk (gsF rfl hb9) ?_
        refine Ev.nxk (gsU rfl) ?_
        refine Ev.nxk (gsU rfl) ?_
        refine Ev.nxk (gsF rfl hb9) ?_
        refine Ev.nxk (pkT rfl hb9 rfl) ?_
        refine Ev.nxk (mvO rfl) ?_
        refine Ev.rend ?_
        intro e10 he11
        have h12 : eget e10 8 = .bool true := envp he11 rfl rfl
        clear h3 h4 h5 h6
        refine Ev.kseqN ?_
        refine Ev.ex ?_
        cases h
        exact Ev.kendR (resT h12 res0) rfl
      · refine Ev.nxk (guF rfl hb9 (mvO h3)) ?_
        refine Ev.nxk (guF rfl hb9 (uNot rfl)) ?_
        refine Ev.nxk (guF rfl hb9 (mvO rfl)) ?_
        refine Ev.nxk (gsT rfl (congrArg Bool.not hb7)) ?_
        refine Ev.nxk (gsT rfl (congrArg Bool.not hb7)) ?_
        refine Ev.nxk (guF rfl hb9 (pkF rfl (congrArg Bool.not hb7) rfl)) ?_
        refine Ev.nxk (pkF rfl hb9 rfl) ?_
        refine Ev.nxk (mvO rfl) ?_
        refine Ev.rend ?_
        intro e13 he14
        have h15 : eget e13 8 = .bool false := envp he14 rfl rfl
        clear h3 h4 h5 h6
        refine Ev.kseqN ?_
        refine Ev.ex ?_
        cases h
        exact Ev.kendR (resT h15 res0) rfl
    · refine Ev.nxk (gsT rfl hb8) ?_
      refine Ev.nxk (gsT rfl hb8) ?_
      refine Ev.nxk (gsT rfl hb8) ?_
      refine Ev.nxk (pkF rfl hb8 rfl) ?_
      refine Ev.nxk (mvO rfl) ?_
      refine Ev.nxk (guF rfl rfl (mvO h3)) ?_
      refine Ev.nxk (guF rfl rfl (uNot rfl)) ?_
      refine Ev.nxk (guF rfl rfl (mvO rfl)) ?_
      refine Ev.nxk (gsT rfl (congrArg Bool.not hb7)) ?_
      refine Ev.nxk (gsT rfl (congrArg Bool.not hb7)) ?_
      refine Ev.nxk (guF rfl rfl (pkF rfl (congrArg Bool.not hb7) rfl)) ?_
      refine Ev.nxk (pkF rfl rfl rfl) ?_
      refine Ev.nxk (mvO rfl) ?_
      refine Ev.rend ?_
      intro e16 he17
      have h18 : eget e16 8 = .bool false := envp he17 rfl rfl
      clear h3 h4 h5 h6
      refine Ev.kseqN ?_
      refine Ev.ex ?_
      cases h
      exact Ev.kendR (resT h18 res0) rfl
  · refine Ev.nxk (gsT rfl hb7) ?_
    refine Ev.nxk (gsT rfl hb7) ?_
    refine Ev.nxk (gsT rfl hb7) ?_
    refine Ev.nxk (pkF rfl hb7 rfl) ?_
    refine Ev.nxk (mvO rfl) ?_
    refine Ev.nxk (gsT rfl rfl) ?_
    refine Ev.nxk (gsT rfl rfl) ?_
    refine Ev.nxk (gsT rfl rfl) ?_
    refine Ev.nxk (pkF rfl rfl rfl) ?_
    refine Ev.nxk (mvO rfl) ?_
    refine Ev.nxk (guF rfl rfl (mvO h3)) ?_
    refine Ev.nxk (guF rfl rfl (uNot rfl)) ?_
    refine Ev.nxk (guF rfl rfl (mvO rfl)) ?_
    refine Ev.nxk (guT rfl (congrArg Bool.not hb7) (mvO h4)) ?_
    refine Ev.nxk (guT rfl (congrArg Bool.not hb7) (bEql rfl rfl)) ?_
    refine Ev.nxk (guF rfl rfl (pkT rfl (congrArg Bool.not hb7) rfl)) ?_
    refine Ev.nxk (pkF rfl rfl rfl) ?_
    refine Ev.nxk (mvO rfl) ?_
    refine Ev.rend ?_
    intro e19 he20
    have h21 : eget e19 8 = .bool (a2 == 0) := envp he20 rfl rfl
    clear h3 h4 h5 h6
    refine Ev.kseqN ?_
    refine Ev.ex ?_
    cases h
    exact Ev.kendR (resT h21 res0) rfl
/-! ### loop.example/g01263/impl.isBookDay (f33) -/
noncomputable def impl_isBookDay (a1 : Int) : Option Bool :=
  if (decide (a1 ≥ 0)) = true then
    some (decide (a1 ≤ 100000))
  else
    some false
def impl_isBookDay_enc (r : Bool) : AV := .bool r
theorem impl_isBookDay_ok (a1 : Int) (r : Bool) (h : impl_isBookDay a1 = some r) : Ev (fun k => CN k 33 [.int .i64 a1] []) (fun p => rRes p.2 p.1 = impl_isBookDay_enc r) := by
  unfold impl_isBookDay at h
  refine Ev.enter (F := fun k => f33 (CN k) k) (fun k => callN_eq rfl Try.func33 rfl rfl rfl (by decide +kernel) (f33_eq _ _)) ?_
  refine Ev.seq ?_
  refine Ev.reg (fun _ => rfl) ?_
  refine Ev.nxk (mvO rfl) ?_
  refine Ev.rend ?_
  intro e1 he2
  have h3 : eget e1 0 = .int .i64 a1 := envp he2 rfl rfl
  refine Ev.kseqN ?_
  refine Ev.seq ?_
  refine Ev.reg (fun _ => rfl) ?_
  refine Ev.nxk (mvO h3) ?_
  refine Ev.nxk (bGeq rfl rfl) ?_
  refine Ev.nxk (mvO rfl) ?_
  rcases ite_some h with ⟨hb4, h⟩ | ⟨hb4, h⟩
  · refine Ev.nxk (guT rfl hb4 (mvO h3)) ?_
    refine Ev.nxk (guT rfl hb4 (bLeq rfl rfl)) ?_
    refine Ev.nxk (pkT rfl hb4 rfl) ?_
    refine Ev.nxk (mvO rfl) ?_
    refine Ev.rend ?_
    intro e5 he6
    have h7 : eget e5 2 = .bool (decide (a1 ≤ 100000)) := envp he6 rfl rfl
    clear h3
    refine Ev.kseqN ?_
    refine Ev.ex ?_
    cases h
    exact Ev.kendR (resT h7 res0) rfl
  · refine Ev.nxk (gsT rfl hb4) ?_
    refine Ev.nxk (gsT rfl hb4) ?_
    refine Ev.nxk (pkF rfl hb4 rfl) ?_
    refine Ev.nxk (mvO rfl) ?_
    refine Ev.rend ?_
    intro e8 he9
    have h10 : eget e8 2 = .bool false := envp he9 rfl rfl
    clear h3
    refine Ev.kseqN ?_
    refine Ev.ex ?_
    cases h
    exact Ev.kendR (resT h10 res0) rfl
/-! ### loop.example/g01263/spec.l07Deal (f32) -/
noncomputable def spec_l07Deal (a1 : Deal) : Option Bool :=
  (spec_l00In a1.Tally 0 39).bind fun r5 =>
  (spec_l00In a1.From 0 15).bind fun r11 =>
  (spec_l00In a1.To 0 15).bind fun r18 =>
  (spec_l00In a1.Amount 1 100000000).bind fun r26 =>
  (spec_l07Day a1.Day).bind fun r35 =>
  if r35 = true then
    if (a1.Kind == 1) = true then
      if (a1.Tally == 0) = true then
        if r11 = true then
          if r18 = true then
            some r26
          else
            some false
        else
          some false
      else
        some false
    else
      if (a1.Kind == 2) = true then
        if r5 = true then
          if r11 = true then
            if r18 = true then
              some (a1.Amount == 0)
            else
              some false
          else
            some false
        else
          some false
      else
        if (a1.Kind == 3) = true then
          if r5 = true then
            if (a1.From == 0) = true then
              if (a1.To == 0) = true then
                some r26
              else
                some false
            else
              some false
          else
            some false
        else
          if (a1.Kind == 4) = true then
            if r5 = true then
              if r11 = true then
                if (a1.To == 0) = true then
                  some (a1.Amount == 0)
                else
                  some false
              else
                some false
            else
              some false
          else
            some false
  else
    some false
def spec_l07Deal_enc (r : Bool) : AV := .bool r
theorem spec_l07Deal_ok (a1 : Deal) (r : Bool) (h : spec_l07Deal a1 = some r) : Ev (fun k => CN k 32 [.pt none [.int .i64 a1.Day, .int .i8 a1.Kind, .int .i64 a1.Tally, .int .i64 a1.From, .int .i64 a1.To, .int .i64 a1.Amount]] []) (fun p => rRes p.2 p.1 = spec_l07Deal_enc r) := by
  unfold spec_l07Deal at h
  refine Ev.enter (F := fun k => f32 (CN k) k) (fun k => callN_eq rfl Try.func32 rfl rfl rfl (by decide +kernel) (f32_eq _ _)) ?_
  refine Ev.seq ?_
  refine Ev.reg (fun _ => rfl) ?_
  refine Ev.nxk (mvO rfl) ?_
  refine Ev.rend ?_
  intro e1 he2
  have h3 : eget e1 0 = .pt none [.int .i64 a1.Day, .int .i8 a1.Kind, .int .i64 a1.Tally, .int .i64 a1.From, .int .i64 a1.To, .int .i64 a1.Amount] := envp he2 rfl rfl
  refine Ev.kseqN ?_
  refine Ev.seq ?_
  refine Ev.reg (fun _ => rfl) ?_
  refine Ev.nxk (mvO h3) ?_
  refine Ev.nxk (ncP rfl) ?_
  refine Ev.nxk (faP rfl ⟨ble rfl, blt rfl⟩ rfl) ?_
  refine Ev.nxk (ldP rfl rfl) ?_
  obtain ⟨r5, hx4, h⟩ := bind_some h
  refine Ev.nxck (Ev.call (v := .bool r5) rfl (cns rfl (cns rfl (cns rfl rfl))) rfl (spec_l00In_ok a1.Tally 0 39 _ hx4) (fun h => nomatch (show false = true from h))) ?_
  refine Ev.nxk (mvO rfl) ?_
  refine Ev.rend ?_
  intro e6 he7
  have h8 : eget e6 0 = .pt none [.int .i64 a1.Day, .int .i8 a1.Kind, .int .i64 a1.Tally, .int .i64 a1.From, .int .i64 a1.To, .int .i64 a1.Amount] := envp he7 rfl h3
  have h9 : eget e6 3 = .bool r5 := envp he7 rfl rfl
  clear h3
  refine Ev.kseqN ?_
  refine Ev.seq ?_
  refine Ev.reg (fun _ => rfl) ?_
  refine Ev.nxk (mvO h8) ?_
  refine Ev.nxk (ncP rfl) ?_
  refine Ev.nxk (faP rfl ⟨ble rfl, blt rfl⟩ rfl) ?_
  refine Ev.nxk (ldP rfl rfl) ?_
  obtain ⟨r11, hx10, h⟩ := bind_some h
  refine Ev.nxck (Ev.call (v := .bool r11) rfl (cns rfl (cns rfl (cns rfl rfl))) rfl (spec_l00In_ok a1.From 0 15 _ hx10) (fun h => nomatch (show false = true from h))) ?_
  refine Ev.nxk (mvO rfl) ?_
  refine Ev.rend ?_
  intro e12 he13
  have h14 : eget e12 0 = .pt none [.int .i64 a1.Day, .int .i8 a1.Kind, .int .i64 a1.Tally, .int .i64 a1.From, .int .i64 a1.To, .int .i64 a1.Amount] := envp he13 rfl h8
  have h15 : eget e12 3 = .bool r5 := envp he13 rfl h9
  have h16 : eget e12 4 = .bool r11 := envp he13 rfl rfl
  clear h8 h9
  refine Ev.kseqN ?_
  refine Ev.seq ?_
  refine Ev.reg (fun _ => rfl) ?_
  refine Ev.nxk (mvO h14) ?_
  refine Ev.nxk (ncP rfl) ?_
  refine Ev.nxk (faP rfl ⟨ble rfl, blt rfl⟩ rfl) ?_
  refine Ev.nxk (ldP rfl rfl) ?_
  obtain ⟨r18, hx17, h⟩ := bind_some h
  refine Ev.nxck (Ev.call (v := .bool r18) rfl (cns rfl (cns rfl (cns rfl rfl))) rfl (spec_l00In_ok a1.To 0 15 _ hx17) (fun h => nomatch (show false = true from h))) ?_
  refine Ev.nxk (mvO rfl) ?_
  refine Ev.rend ?_
  intro e19 he20
  have h21 : eget e19 0 = .pt none [.int .i64 a1.Day, .int .i8 a1.Kind, .int .i64 a1.Tally, .int .i64 a1.From, .int .i64 a1.To, .int .i64 a1.Amount] := envp he20 rfl h14
  have h22 : eget e19 3 = .bool r5 := envp he20 rfl h15
  have h23 : eget e19 4 = .bool r11 := envp he20 rfl h16
  have h24 : eget e19 5 = .bool r18 := envp he20 rfl rfl
  clear h14 h15 h16
  refine Ev.kseqN ?_
  refine Ev.seq ?_
  refine Ev.reg (fun _ => rfl) ?_
  refine Ev.nxk (mvO h21) ?_
  refine Ev.nxk (ncP rfl) ?_
  refine Ev.nxk (faP rfl ⟨ble rfl, blt rfl⟩ rfl) ?_
  refine Ev.nxk (ldP rfl rfl) ?_
  obtain ⟨r26, hx25, h⟩ := bind_some h
  refine Ev.nxck (Ev.call (v := .bool r26) rfl (cns rfl (cns rfl (cns rfl rfl))) rfl (spec_l00In_ok a1.Amount 1 100000000 _ hx25) (fun h => nomatch (show false = true from h))) ?_
  refine Ev.nxk (mvO rfl) ?_
  refine Ev.rend ?_
  intro e27 he28
  have h29 : eget e27 0 = .pt none [.int .i64 a1.Day, .int .i8 a1.Kind, .int .i64 a1.Tally, .int .i64 a1.From, .int .i64 a1.To, .int .i64 a1.Amount] := envp he28 rfl h21
  have h30 : eget e27 3 = .bool r5 := envp he28 rfl h22
  have h31 : eget e27 4 = .bool r11 := envp he28 rfl h23
  have h32 : eget e27 5 = .bool r18 := envp he28 rfl h24
  have h33 : eget e27 6 = .bool r26 := envp he28 rfl rfl
  clear h21 h22 h23 h24
  refine Ev.kseqN ?_
  refine Ev.seq ?_
  refine Ev.seq ?_
  refine Ev.reg (fun _ => rfl) ?_
  refine Ev.nxk (mvO h29) ?_
  refine Ev.nxk (ncP rfl) ?_
  refine Ev.nxk (faP rfl ⟨ble rfl, blt rfl⟩ rfl) ?_
  refine Ev.nxk (ldP rfl rfl) ?_
  obtain ⟨r35, hx34, h⟩ := bind_some h
  refine Ev.nxck (Ev.call (v := .bool r35) rfl (cns rfl rfl) rfl (spec_l07Day_ok a1.Day _ hx34) (fun h => nomatch (show false = true from h))) ?_
  refine Ev.nxk (uNot rfl) ?_
  refine Ev.rend ?_
  intro e36 he37
  have h38 : eget e36 0 = .pt none [.int .i64 a1.Day, .int .i8 a1.Kind, .int .i64 a1.Tally, .int .i64 a1.From, .int .i64 a1.To, .int .i64 a1.Amount] := envp he37 rfl h29
  have h39 : eget e36 3 = .bool r5 := envp he37 rfl h30
  have h40 : eget e36 4 = .bool r11 := envp he37 rfl h31
  have h41 : eget e36 5 = .bool r18 := envp he37 rfl h32
  have h42 : eget e36 6 = .bool r26 := envp he37 rfl h33
  have h43 : eget e36 32 = .bool (!r35) := envp he37 rfl rfl
  clear h29 h30 h31 h32 h33
  refine Ev.kseqN ?_
  rcases ite_some h with ⟨hb44, h⟩ | ⟨hb44, h⟩
  · refine Ev.condF h43 (congrArg Bool.not hb44) ?_
    refine Ev.ex ?_
    refine Ev.kseqN ?_
    refine Ev.seq ?_
    refine Ev.seq ?_
    refine Ev.reg (fun _ => rfl) ?_
    refine Ev.nxk (mvO h38) ?_
    refine Ev.nxk (ncP rfl) ?_
    refine Ev.nxk (faP rfl ⟨ble rfl, blt rfl⟩ rfl) ?_
    refine Ev.nxk (ldP rfl rfl) ?_
    refine Ev.rend ?_
    intro e45 he46
    have h47 : eget e45 0 = .pt none [.int .i64 a1.Day, .int .i8 a1.Kind, .int .i64 a1.Tally, .int .i64 a1.From, .int .i64 a1.To, .int .i64 a1.Amount] := envp he46 rfl h38
    have h48 : eget e45 3 = .bool r5 := envp he46 rfl h39
    have h49 : eget e45 4 = .bool r11 := envp he46 rfl h40
    have h50 : eget e45 5 = .bool r18 := envp he46 rfl h41
    have h51 : eget e45 6 = .bool r26 := envp he46 rfl h42
    have h52 : eget e45 36 = .int .i8 a1.Kind := envp he46 rfl rfl
    clear h38 h39 h40 h41 h42 h43
    refine Ev.kseqN ?_
    refine Ev.blk ?_
    refine Ev.seq ?_
    refine Ev.reg (fun _ => rfl) ?_
    refine Ev.nxk (bEql h52 rfl) ?_
    refine Ev.nxk (mvO rfl) ?_
    refine Ev.rend ?_
    intro e53 he54
    have h55 : eget e53 0 = .pt none [.int .i64 a1.Day, .int .i8 a1.Kind, .int .i64 a1.Tally, .int .i64 a1.From, .int .i64 a1.To, .int .i64 a1.Amount] := envp he54 rfl h47
    have h56 : eget e53 3 = .bool r5 := envp he54 rfl h48
    have h57 : eget e53 4 = .bool r11 := envp he54 rfl h49
    have h58 : eget e53 5 = .bool r18 := envp he54 rfl h50
    have h59 : eget e53 6 = .bool r26 := envp he54 rfl h51
    have h60 : eget e53 36 = .int .i8 a1.Kind := envp he54 rfl h52
    have h61 : eget e53 37 = .bool (a1.Kind == 1) := envp he54 rfl rfl
    clear h47 h48 h49 h50 h51 h52
    refine Ev.kseqN ?_
    rcases ite_some h with ⟨hb62, h⟩ | ⟨hb62, h⟩
    · refine Ev.condT h61 hb62 ?_
      refine Ev.seq ?_
      refine Ev.reg (fun _ => rfl) ?_
      refine Ev.nxk (mvO h55) ?_
      refine Ev.nxk (ncP rfl) ?_
      refine Ev.nxk (faP rfl ⟨ble rfl, blt rfl⟩ rfl) ?_
      refine Ev.nxk (ldP rfl rfl) ?_
      refine Ev.nxk (bEql rfl rfl) ?_
      refine Ev.nxk (mvO rfl) ?_
      rcases ite_some h with ⟨hb63, h⟩ | ⟨hb63, h⟩
      · refine Ev.nxk (guT rfl hb63 (mvO h57)) ?_
        refine Ev.nxk (pkT rfl hb63 rfl) ?_
        refine Ev.nxk (mvO rfl) ?_
        rcases ite_some h with ⟨hb64, h⟩ | ⟨hb64, h⟩
        · refine Ev.nxk (guT rfl hb64 (mvO h58)) ?_
          refine Ev.nxk (pkT rfl hb64 rfl) ?_
          refine Ev.nxk (mvO rfl) ?_
          rcases ite_some h with ⟨hb65, h⟩ | ⟨hb65, h⟩
          · refine Ev.nxk (guT rfl hb65 (mvO h59)) ?_
            refine Ev.nxk (pkT rfl hb65 rfl) ?_
            refine Ev.nxk (mvO rfl) ?_
            refine Ev.rend ?_
            intro e66 he67
            have h68 : eget e66 2 = .bool r26 := envp he67 rfl rfl
            clear h55 h56 h57 h58 h59 h60 h61
            refine Ev.kseqN ?_
            refine Ev.ex ?_
            refine Ev.kblkR ?_
            refine Ev.kseqR ?_
            cases h
            exact Ev.kendR (resT h68 res0) rfl
          · refine Ev.nxk (gsT rfl hb65) ?_
            refine Ev.nxk (pkF rfl hb65 rfl) ?_
            refine Ev.nxk (mvO rfl) ?_
            refine Ev.rend ?_
            intro e69 he70
            have h71 : eget e69 2 = .bool false := envp he70 rfl rfl
            clear h55 h56 h57 h58 h59 h60 h61
            refine Ev.kseqN ?_
            refine Ev.ex ?_
            refine Ev.kblkR ?_
            refine Ev.kseqR ?_
            cases h
            exact Ev.kendR (resT h71 res0) rfl
        · refine Ev.nxk (gsT rfl hb64) ?_
          refine Ev.nxk (pkF rfl hb64 rfl) ?_
          refine Ev.nxk (mvO rfl) ?_
          refine Ev.nxk (gsT rfl rfl) ?_
          refine Ev.nxk (pkF rfl rfl rfl) ?_
          refine Ev.nxk (mvO rfl) ?_
          refine Ev.rend ?_
          intro e72 he73
          have h74 : eget e72 2 = .bool false := envp he73 rfl rfl
          clear h55 h56 h57 h58 h59 h60 h61
          refine Ev.kseqN ?_
          refine Ev.ex ?_
          refine Ev.kblkR ?_
          refine Ev.kseqR ?_
          cases h
          exact Ev.kendR (resT h74 res0) rfl
      · refine Ev.nxk (gsT rfl hb63) ?_
        refine Ev.nxk (pkF rfl hb63 rfl) ?_
        refine Ev.nxk (mvO rfl) ?_
        refine Ev.nxk (gsT rfl rfl) ?_
        refine Ev.nxk (pkF rfl rfl rfl) ?_
        refine Ev.nxk (mvO rfl) ?_
        refine Ev.nxk (gsT rfl rfl) ?_
        refine Ev.nxk (pkF rfl rfl rfl) ?_
        refine Ev.nxk (mvO rfl) ?_
        refine Ev.rend ?_
        intro e75 he76
        have h77 : eget e75 2 = .bool false := envp he76 rfl rfl
        clear h55 h56 h57 h58 h59 h60 h61
        refine Ev.kseqN ?_
        refine Ev.ex ?_
        refine Ev.kblkR ?_
        refine Ev.kseqR ?_
        cases h
        exact Ev.kendR (resT h77 res0) rfl
    · refine Ev.condF h61 hb62 ?_
      refine Ev.seq ?_
      refine Ev.reg (fun _ => rfl) ?_
      refine Ev.nxk (bEql h60 rfl) ?_
      refine Ev.nxk (mvO rfl) ?_
      refine Ev.rend ?_
      intro e78 he79
      have h80 : eget e78 0 = .pt none [.int .i64 a1.Day, .int .i8 a1.Kind, .int .i64 a1.Tally, .int .i64 a1.From, .int .i64 a1.To, .int .i64 a1.Amount] := envp he79 rfl h55
      have h81 : eget e78 3 = .bool r5 := envp he79 rfl h56
      have h82 : eget e78 4 = .bool r11 := envp he79 rfl h57
      have h83 : eget e78 5 = .bool r18 := envp he79 rfl h58
      have h84 : eget e78 6 = .bool r26 := envp he79 rfl h59
      have h85 : eget e78 36 = .int .i8 a1.Kind := envp he79 rfl h60
      have h86 : eget e78 53 = .bool (a1.Kind == 2) := envp he79 rfl rfl
      clear h55 h56 h57 h58 h59 h60 h61
      refine Ev.kseqN ?_
      rcases ite_some h with ⟨hb87, h⟩ | ⟨hb87, h⟩
      · refine Ev.condT h86 hb87 ?_
        refine Ev.seq ?_
        refine Ev.reg (fun _ => rfl) ?_
        refine Ev.nxk (mvO h81) ?_
        refine Ev.nxk (mvO rfl) ?_
        rcases ite_some h with ⟨hb88, h⟩ | ⟨hb88, h⟩
        · refine Ev.nxk (guT rfl hb88 (mvO h82)) ?_
          refine Ev.nxk (pkT rfl hb88 rfl) ?_
          refine Ev.nxk (mvO rfl) ?_
          rcases ite_some h with ⟨hb89, h⟩ | ⟨hb89, h⟩
          · refine Ev.nxk (guT rfl hb89 (mvO h83)) ?_
            refine Ev.nxk (pkT rfl hb89 rfl) ?_
            refine Ev.nxk (mvO rfl) ?_
            rcases ite_some h with ⟨hb90, h⟩ | ⟨hb90, h⟩
            · refine Ev.nxk (guT rfl hb90 (mvO h80)) ?_
              refine Ev.nxk (guT rfl hb90 (ncP rfl)) ?_
              refine Ev.nxk (guT rfl hb90 (faP rfl ⟨ble rfl, blt rfl⟩ rfl)) ?_
              refine Ev.nxk (guT rfl hb90 (ldP rfl rfl)) ?_
              refine Ev.nxk (guT rfl hb90 (bEql rfl rfl)) ?_
              refine Ev.nxk (pkT rfl hb90 rfl) ?_
              refine Ev.nxk (mvO rfl) ?_
              refine Ev.rend ?_
              intro e91 he92
              have h93 : eget e91 2 = .bool (a1.Amount == 0) := envp he92 rfl rfl
              clear h80 h81 h82 h83 h84 h85 h86
              refine Ev.kseqN ?_
              refine Ev.ex ?_
              refine Ev.kblkR ?_
              refine Ev.kseqR ?_
              cases h
              exact Ev.kendR (resT h93 res0) rfl
            · refine Ev.nxk (gsT rfl hb90) ?_
              refine Ev.nxk (gsT rfl hb90) ?_
              refine Ev.nxk (gsT rfl hb90) ?_
              refine Ev.nxk (gsT rfl hb90) ?_
              refine Ev.nxk (gsT rfl hb90) ?_
              refine Ev.nxk (pkF rfl hb90 rfl) ?_
              refine Ev.nxk (mvO rfl) ?_
              refine Ev.rend ?_
              intro e94 he95
              have h96 : eget e94 2 = .bool false := envp he95 rfl rfl
              clear h80 h81 h82 h83 h84 h85 h86
              refine Ev.kseqN ?_
              refine Ev.ex ?_
              refine Ev.kblkR ?_
              refine Ev.kseqR ?_
              cases h
              exact Ev.kendR (resT h96 res0) rfl
          · refine Ev.nxk (gsT rfl hb89) ?_
            refine Ev.nxk (pkF rfl hb89 rfl) ?_
            refine Ev.nxk (mvO rfl) ?_
            refine Ev.nxk (gsT rfl rfl) ?_
            refine Ev.nxk (gsT rfl rfl) ?_
            refine Ev.nxk (gsT rfl rfl) ?_
            refine Ev.nxk (gsT rfl rfl) ?_
            refine Ev.nxk (gsT rfl rfl) ?_
            refine Ev.nxk (pkF rfl rfl rfl) ?_
            refine Ev.nxk (mvO rfl) ?_
            refine Ev.rend ?_
            intro e97 he98
            have h99 : eget e97 2 = .bool false := envp he98 rfl rfl
            clear h80 h81 h82 h83 h84 h85 h86
            refine Ev.kseqN ?_
            refine Ev.ex ?_
            refine Ev.kblkR ?_
            refine Ev.kseqR ?_
            cases h
            exact Ev.kendR (resT h99 res0) rfl
        · refine Ev.nxk (gsT rfl hb88) ?_
          refine Ev.nxk (pkF rfl hb88 rfl) ?_
          refine Ev.nxk (mvO rfl) ?_
          refine Ev.nxk (gsT rfl rfl) ?_
          refine Ev.nxk (pkF rfl rfl rfl) ?_
          refine Ev.nxk (mvO rfl) ?_
          refine Ev.nxk (gsT rfl rfl) ?_
          refine Ev.nxk (gsT rfl rfl) ?_
          refine Ev.nxk (gsT rfl rfl) ?_
          refine Ev.nxk (gsT rfl rfl) ?_
          refine Ev.nxk (gsT rfl rfl) ?_
          refine Ev.nxk (pkF rfl rfl rfl) ?_
          refine Ev.nxk (mvO rfl) ?_
          refine Ev.rend ?_
          intro e100 he101
          have h102 : eget e100 2 = .bool false := envp he101 rfl rfl
          clear h80 h81 h82 h83 h84 h85 h86
          refine Ev.kseqN ?_
          refine Ev.ex ?_
          refine Ev.kblkR ?_
          refine Ev.kseqR ?_
          cases h
          exact Ev.kendR (resT h102 res0) rfl
      · refine Ev.condF h86 hb87 ?_
        refine Ev.seq ?_
        refine Ev.reg (fun _ => rfl) ?_
        refine Ev.nxk (bEql h85 rfl) ?_
        refine Ev.nxk (mvO rfl) ?_
        refine Ev.rend ?_
        intro e103 he104
        have h105 : eget e103 0 = .pt none [.int .i64 a1.Day, .int .i8 a1.Kind, .int .i64 a1.Tally, .int .i64 a1.From, .int .i64 a1.To, .int .i64 a1.Amount] := envp he104 rfl h80
        have h106 : eget e103 3 = .bool r5 := envp he104 rfl h81
        have h107 : eget e103 4 = .bool r11 := envp he104 rfl h82
        have h108 : eget e103 6 = .bool r26 := envp he104 rfl h84
        have h109 : eget e103 36 = .int .i8 a1.Kind := envp he104 rfl h85
        have h110 : eget e103 69 = .bool (a1.Kind == 3) := envp he104 rfl rfl
        clear h80 h81 h82 h83 h84 h85 h86
        refine Ev.kseqN ?_
        rcases ite_some h with ⟨hb111, h⟩ | ⟨hb111, h⟩
        · refine Ev.condT h110 hb111 ?_
          refine Ev.seq ?_
          refine Ev.reg (fun _ => rfl) ?_
          refine Ev.nxk (mvO h106) ?_
          refine Ev.nxk (mvO rfl) ?_
          rcases ite_some h with ⟨hb112, h⟩ | ⟨hb112, h⟩
          · refine Ev.nxk (guT rfl hb112 (mvO h105)) ?_
            refine Ev.nxk (guT rfl hb112 (ncP rfl)) ?_
            refine Ev.nxk (guT rfl hb112 (faP rfl ⟨ble rfl, blt rfl⟩ rfl)) ?_
            refine Ev.nxk (guT rfl hb112 (ldP rfl rfl)) ?_
            refine Ev.nxk (guT rfl hb112 (bEql rfl rfl)) ?_
            refine Ev.nxk (pkT rfl hb112 rfl) ?_
            refine Ev.nxk (mvO rfl) ?_
            rcases ite_some h with ⟨hb113, h⟩ | ⟨hb113, h⟩
            · refine Ev.nxk (guT rfl hb113 (mvO h105)) ?_
              refine Ev.nxk (guT rfl hb113 (ncP rfl)) ?_
              refine Ev.nxk (guT rfl hb113 (faP rfl ⟨ble rfl, blt rfl⟩ rfl)) ?_
              refine Ev.nxk (guT rfl hb113 (ldP rfl rfl)) ?_
              refine Ev.nxk (guT rfl hb113 (bEql rfl rfl)) ?_
              refine Ev.nxk (pkT rfl hb113 rfl) ?_
              refine Ev.nxk (mvO rfl) ?_
              rcases ite_some h with ⟨hb114, h⟩ | ⟨hb114, h⟩
              · refine Ev.nxk (guT rfl hb114 (mvO h108)) ?_
                refine Ev.nxk (pkT rfl hb114 rfl) ?_
                refine Ev.nxk (mvO rfl) ?_
                refine Ev.rend ?_
                intro e115 he116
                have h117 : eget e115 2 = .bool r26 := envp he116 rfl rfl
                clear h105 h106 h107 h108 h109 h110
                refine Ev.kseqN ?_
                refine Ev.ex ?_
                refine Ev.kblkR ?_
                refine Ev.kseqR ?_
                cases h
                exact Ev.kendR (resT h117 res0) rfl
              · refine Ev.nxk (gsT rfl hb114) ?_
                refine Ev.nxk (pkF rfl hb114 rfl) ?_
                refine Ev.nxk (mvO rfl) ?_
                refine Ev.rend ?_
                intro e118 he119
                have h120 : eget e118 2 = .bool false := envp he119 rfl rfl
                clear h105 h106 h107 h108 h109 h110
                refine Ev.kseqN ?_
                refine Ev.ex ?_
                refine Ev.kblkR ?_
                refine Ev.kseqR ?_
                cases h
                exact Ev.kendR (resT h120 res0) rfl
            · refine Ev.nxk (gsT rfl hb113) ?_
              refine Ev.nxk (gsT rfl hb113) ?_
              refine Ev.nxk (gsT rfl hb113) ?_
              refine Ev.nxk (gsT rfl hb113) ?_
              refine Ev.nxk (gsT rfl hb113) ?_
              refine Ev.nxk (pkF rfl hb113 rfl) ?_
              refine Ev.nxk (mvO rfl) ?_
              refine Ev.nxk (gsT rfl rfl) ?_
              refine Ev.nxk (pkF rfl rfl rfl) ?_
              refine Ev.nxk (mvO rfl) ?_
              refine Ev.rend ?_
              intro e121 he122
              have h123 : eget e121 2 = .bool false := envp he122 rfl rfl
              clear h105 h106 h107 h108 h109 h110
              refine Ev.kseqN ?_
              refine Ev.ex ?_
              refine Ev.kblkR ?_
              refine Ev.kseqR ?_
              cases h
              exact Ev.kendR (resT h123 res0) rfl
          · refine Ev.nxk (gsT rfl hb112) ?_
            refine Ev.nxk (gsT rfl hb112) ?_
            refine Ev.nxk (gsT rfl hb112) ?_
            refine Ev.nxk (gsT rfl hb112) ?_
            refine Ev.nxk (gsT rfl hb112) ?_
            refine Ev.nxk (pkF rfl hb112 rfl) ?_
            refine Ev.nxk (mvO rfl) ?_
            refine Ev.nxk (gsT rfl rfl) ?_
            refine Ev.nxk (gsT rfl rfl) ?_
            refine Ev.nxk (gsT rfl rfl) ?_
            refine Ev.nxk (gsT rfl rfl) ?_
            refine Ev.nxk (gsT rfl rfl) ?_
            refine Ev.nxk (pkF rfl rfl rfl) ?_
            refine Ev.nxk (mvO rfl) ?_
            refine Ev.nxk (gsT rfl rfl) ?_
            refine Ev.nxk (pkF rfl rfl rfl) ?_
            refine Ev.nxk (mvO rfl) ?_
            refine Ev.rend ?_
            intro e124 he125
            have h126 : eget e124 2 = .bool false := envp he125 rfl rfl
            clear h105 h106 h107 h108 h109 h110
            refine Ev.kseqN ?_
            refine Ev.ex ?_
            refine Ev.kblkR ?_
            refine Ev.kseqR ?_
            cases h
            exact Ev.kendR (resT h126 res0) rfl
        · refine Ev.condF h110 hb111 ?_
          refine Ev.seq ?_
          refine Ev.reg (fun _ => rfl) ?_
          refine Ev.nxk (bEql h109 rfl) ?_
          refine Ev.nxk (mvO rfl) ?_
          refine Ev.rend ?_
          intro e127 he128
          have h129 : eget e127 0 = .pt none [.int .i64 a1.Day, .int .i8 a1.Kind, .int .i64 a1.Tally, .int .i64 a1.From, .int .i64 a1.To, .int .i64 a1.Amount] := envp he128 rfl h105
          have h130 : eget e127 3 = .bool r5 := envp he128 rfl h106
          have h131 : eget e127 4 = .bool r11 := envp he128 rfl h107
          have h132 : eget e127 89 = .bool (a1.Kind == 4) := envp he128 rfl rfl
          clear h105 h106 h107 h108 h109 h110
          refine Ev.kseqN ?_
          rcases ite_some h with ⟨hb133, h⟩ | ⟨hb133, h⟩
          · refine Ev.condT h132 hb133 ?_
            refine Ev.seq ?_
            refine Ev.reg (fun _ => rfl) ?_
            refine Ev.nxk (mvO h130) ?_
            refine Ev.nxk (mvO rfl) ?_
            rcases ite_some h with ⟨hb134, h⟩ | ⟨hb134, h⟩
            · refine Ev.nxk (guT rfl hb134 (mvO h131)) ?_
              refine Ev.nxk (pkT rfl hb134 rfl) ?_
              refine Ev.nxk (mvO rfl) ?_
              rcases ite_some h with ⟨hb135, h⟩ | ⟨hb135, h⟩
              · refine Ev.nxk (guT rfl hb135 (mvO h129)) ?_
                refine Ev.nxk (guT rfl hb135 (ncP rfl)) ?_
                refine Ev.nxk (guT rfl hb135 (faP rfl ⟨ble rfl, blt rfl⟩ rfl)) ?_
                refine Ev.nxk (guT rfl hb135 (ldP rfl rfl)) ?_
                refine Ev.nxk (guT rfl hb135 (bEql rfl rfl)) ?_
                refine Ev.nxk (pkT rfl hb135 rfl) ?_
                refine Ev.nxk (mvO rfl) ?_
                rcases ite_some h with ⟨hb136, h⟩ | ⟨hb136, h⟩
                · refine Ev.nxk (guT rfl hb136 (mvO h129)) ?_
                  refine Ev.nxk (guT rfl hb136 (ncP rfl)) ?_
                  refine Ev.nxk (guT rfl hb136 (faP rfl ⟨ble rfl, blt rfl⟩ rfl)) ?_
                  refine Ev.nxk (guT rfl hb136 (ldP rfl rfl)) ?_
                  refine Ev.nxk (guT rfl hb136 (bEql rfl rfl)) ?_
                  refine Ev.nxk (pkT rfl hb136 rfl) ?_
                  refine Ev.nxk (mvO rfl) ?_
                  refine Ev.rend ?_
                  intro e137 he138
                  have h139 : eget e137 2 = .bool (a1.Amount == 0) := envp he138 rfl rfl
                  clear h129 h130 h131 h132
                  refine Ev.kseqN ?_
                  refine Ev.ex ?_
                  refine Ev.kblkR ?_
                  refine Ev.kseqR ?_
                  cases h
                  exact Ev.kendR (resT h139 res0) rfl
                · refine Ev.nxk (gsT rfl hb136) ?_
                  refine Ev.nxk (gsT rfl hb136) ?_
                  refine Ev.nxk (gsT rfl hb136) ?_
                  refine Ev.nxk (gsT rfl hb136) ?_
                  refine Ev.nxk (gsT rfl hb136) ?_
                  refine Ev.nxk (pkF rfl hb136 rfl) ?_
                  refine Ev.nxk (mvO rfl) ?_
                  refine Ev.rend ?_
                  intro e140 he141
                  have h142 : eget e140 2 = .bool false := envp he141 rfl rfl
                  clear h129 h130 h131 h132
                  refine Ev.kseqN ?_
                  refine Ev.ex ?_
                  refine Ev.kblkR ?_
                  refine Ev.kseqR ?_
                  cases h
                  exact Ev.kendR (resT h142 res0) rfl
              · refine Ev.nxk (gsT rfl hb135) ?_
                refine Ev.nxk (gsT rfl hb135) ?_
                refine Ev.nxk (gsT rfl hb135) ?_
                refine Ev.nxk (gsT rfl hb135) ?_
                refine Ev.nxk (gsT rfl hb135) ?_
                refine Ev.nxk (pkF rfl hb135 rfl) ?_
                refine Ev.nxk (mvO rfl) ?_
                refine Ev.nxk (gsT rfl rfl) ?_
                refine Ev.nxk (gsT rfl rfl) ?_
                refine Ev.nxk (gsT rfl rfl) ?_
                refine Ev.nxk (gsT rfl rfl) ?_
                refine Ev.nxk (gsT rfl rfl) ?_
                refine Ev.nxk (pkF rfl rfl rfl) ?_
                refine Ev.nxk (mvO rfl) ?_
                refine Ev.rend ?_
                intro e143 he144
                have h145 : eget e143 2 = .bool false := envp he144 rfl rfl
                clear h129 h130 h131 h132
                refine Ev.kseqN ?_
                refine Ev.ex ?_
                refine Ev.kblkR ?_
                refine Ev.kseqR ?_
                cases h
                exact Ev.kendR (resT h145 res0) rfl
            · refine Ev.nxk (gsT rfl hb134) ?_
              refine Ev.nxk (pkF rfl hb134 rfl) ?_
              refine Ev.nxk (mvO rfl) ?_
              refine Ev.nxk (gsT rfl rfl) ?_
              refine Ev.nxk (gsT rfl rfl) ?_
              refine Ev.nxk (gsT rfl rfl) ?_
              refine Ev.nxk (gsT rfl rfl) ?_
              refine Ev.nxk (gsT rfl rfl) ?_
              refine Ev.nxk (pkF rfl rfl rfl) ?_
              refine Ev.nxk (mvO rfl) ?_
              refine Ev.nxk (gsT rfl rfl) ?_
              refine Ev.nxk (gsT rfl rfl) ?_
              refine Ev.nxk (gsT rfl rfl) ?_
              refine Ev.nxk (gsT rfl rfl) ?_
              refine Ev.nxk (gsT rfl rfl) ?_
              refine Ev.nxk (pkF rfl rfl rfl) ?_
              refine Ev.nxk (mvO rfl) ?_
              refine Ev.rend ?_
              intro e146 he147
              have h148 : eget e146 2 = .bool false := envp he147 rfl rfl
              clear h129 h130 h131 h132
              refine Ev.kseqN ?_
              refine Ev.ex ?_
              refine Ev.kblkR ?_
              refine Ev.kseqR ?_
              cases h
              exact Ev.kendR (resT h148 res0) rfl
          · refine Ev.condF h132 hb133 ?_
            refine Ev.ex ?_
            refine Ev.kblkN ?_
            refine Ev.kseqN ?_
            refine Ev.seq ?_
            refine Ev.reg (fun _ => rfl) ?_
            refine Ev.nxk (mvO rfl) ?_
            refine Ev.rend ?_
            intro e149 he150
            have h151 : eget e149 2 = .bool false := envp he150 rfl rfl
            clear h129 h130 h131 h132
            refine Ev.kseqN ?_
            refine Ev.ex ?_
            cases h
            exact Ev.kendR (resT h151 res0) rfl
  · refine Ev.condT h43 (congrArg Bool.not hb44) ?_
    refine Ev.seq ?_
    refine Ev.reg (fun _ => rfl) ?_
    refine Ev.nxk (mvO rfl) ?_
    refine Ev.rend ?_
    intro e152 he153
    have h154 : eget e152 2 = .bool false := envp he153 rfl rfl
    clear h38 h39 h40 h41 h42 h43
    refine Ev.kseqN ?_
    refine Ev.ex ?_
    refine Ev.kseqR ?_
    cases h
    exact Ev.kendR (resT h154 res0) rfl
/-! ### loop.example/g01263/impl.ValidDeal (f11) -/
def impl_ValidDeal_c1_Q (a1 : Deal) (g : Bool) (q : Out) : Prop := q.1 = .nrm ∧ eget q.2.1 1 = .pt none [.int .i64 a1.Day, .int .i8 a1.Kind, .int .i64 a1.Tally, .int .i64 a1.From, .int .i64 a1.To, .int .i64 a1.Amount] ∧ eget q.2.1 21 = .bool g
noncomputable def impl_ValidDeal (a1 : Deal) : Option Bool :=
  (if (decide (a1.Kind < 1)) = true then
    some true
  else
    if (decide (a1.Kind > 4)) = true then
      some true
    else
      (impl_isBookDay a1.Day).bind fun r15 =>
      some (!r15)).bind fun y22 =>
  if y22 = true then
    some false
  else
    (impl_uses a1.Kind).bind fun (r34, r35, r36, r37) =>
    (impl_ValidDeal_1 r34 a1.Tally 0 39).bind fun r47 =>
    if r47 = true then
      (impl_ValidDeal_1 r35 a1.From 0 15).bind fun r50 =>
      if r50 = true then
        (impl_ValidDeal_1 r36 a1.To 0 15).bind fun r53 =>
        if r53 = true then
          (impl_ValidDeal_1 r37 a1.Amount 1 100000000).bind fun r56 =>
          some r56
        else
          some false
      else
        some false
    else
      some false
def impl_ValidDeal_enc (r : Bool) : AV := .bool r
theorem impl_ValidDeal_ok (a1 : Deal) (r : Bool) (h : impl_ValidDeal a1 = some r) : Ev (fun k => CN k 11 [.agg [.int .i64 a1.Day, .int .i8 a1.Kind, .int .i64 a1.Tally, .int .i64 a1.From, .int .i64 a1.To, .int .i64 a1.Amount]] []) (fun p => rRes p.2 p.1 = impl_ValidDeal_enc r) := by
  unfold impl_ValidDeal at h
  refine Ev.enter (F := fun k => f11 (CN k) k) (fun k => callN_eq rfl Try.func11 rfl rfl rfl (by decide +kernel) (f11_eq _ _)) ?_
  refine Ev.seq ?_
  refine Ev.reg (fun _ => rfl) ?_
  refine Ev.nxk (bxI rfl rfl ⟨rfl, rfl, by decide⟩) ?_
  refine Ev.nxk (mvO rfl) ?_
  refine Ev.rend ?_
  intro e1 he2
  have h3 : eget e1 1 = .pt none [.int .i64 a1.Day, .int .i8 a1.Kind, .int .i64 a1.Tally, .int .i64 a1.From, .int .i64 a1.To, .int .i64 a1.Amount] := envp he2 rfl rfl
  refine Ev.kseqN ?_
  refine Ev.seq ?_
  refine Ev.seq ?_
  obtain ⟨r70, hr71, h⟩ := bind_some h
  refine Ev.cut (Q1 := impl_ValidDeal_c1_Q a1 r70) (by
      have h := hr71
      refine Ev.reg (fun _ => rfl) ?_
      refine Ev.nxk (faP h3 ⟨ble rfl, blt rfl⟩ rfl) ?_
      refine Ev.nxk (ldP rfl rfl) ?_
      refine Ev.nxk (bLss rfl rfl) ?_
      refine Ev.nxk (mvO rfl) ?_
      rcases ite_some h with ⟨hb4, h⟩ | ⟨hb4, h⟩
      · refine Ev.nxk (gsF rfl hb4) ?_
        refine Ev.nxk (gsF rfl hb4) ?_
        refine Ev.nxk (gsF rfl hb4) ?_
        refine Ev.nxk (pkT rfl hb4 rfl) ?_
        refine Ev.nxk (mvO rfl) ?_
        refine Ev.nxk (gsF rfl rfl) ?_
        refine Ev.nxk (gsF rfl rfl) ?_
        refine Ev.nxck (Ev.gsF rfl rfl) ?_
        refine Ev.nxk (gsF rfl rfl) ?_
        refine Ev.nxk (pkT rfl rfl rfl) ?_
        refine Ev.rend ?_
        intro e5 he6
        have h7 : eget e5 1 = .pt none [.int .i64 a1.Day, .int .i8 a1.Kind, .int .i64 a1.Tally, .int .i64 a1.From, .int .i64 a1.To, .int .i64 a1.Amount] := envp he6 rfl h3
        have h8 : eget e5 21 = .bool true := envp he6 rfl rfl
        clear h3
        cases h
        exact Ev.kid (show impl_ValidDeal_c1_Q a1 _ _ from (And.intro rfl (And.intro h7 h8)))
      · refine Ev.nxk (guF rfl hb4 (faP h3 ⟨ble rfl, blt rfl⟩ rfl)) ?_
        refine Ev.nxk (guF rfl hb4 (ldP rfl rfl)) ?_
        refine Ev.nxk (guF rfl hb4 (bGtr rfl rfl)) ?_
        refine Ev.nxk (pkF rfl hb4 rfl) ?_
        refine Ev.nxk (mvO rfl) ?_
        rcases ite_some h with ⟨hb9, h⟩ | ⟨hb9, h⟩
        · refine Ev.nxk (gsF rfl hb9) ?_
          refine Ev.nxk (gsF rfl hb9) ?_
          refine Ev.nxck (Ev.gsF rfl hb9) ?_
          refine Ev.nxk (gsF rfl hb9) ?_
          refine Ev.nxk (pkT rfl hb9 rfl) ?_
          refine Ev.rend ?_
          intro e10 he11
          have h12 : eget e10 1 = .pt none [.int .i64 a1.Day, .int .i8 a1.Kind, .int .i64 a1.Tally, .int .i64 a1.From, .int .i64 a1.To, .int .i64 a1.Amount] := envp he11 rfl h3
          have h13 : eget e10 21 = .bool true := envp he11 rfl rfl
          clear h3
          cases h
          exact Ev.kid (show impl_ValidDeal_c1_Q a1 _ _ from (And.intro rfl (And.intro h12 h13)))
        · refine Ev.nxk (guF rfl hb9 (faP h3 ⟨ble rfl, blt rfl⟩ rfl)) ?_
          refine Ev.nxk (guF rfl hb9 (ldP rfl rfl)) ?_
          obtain ⟨r15, hx14, h⟩ := bind_some h
          refine Ev.nxck (Ev.guF rfl hb9 (Ev.call (v := .bool r15) rfl (cns rfl rfl) rfl (impl_isBookDay_ok a1.Day _ hx14) (fun h => nomatch (show false = true from h)))) ?_
          refine Ev.nxk (guF rfl hb9 (uNot rfl)) ?_
          refine Ev.nxk (pkF rfl hb9 rfl) ?_
          refine Ev.rend ?_
          intro e16 he17
          have h18 : eget e16 1 = .pt none [.int .i64 a1.Day, .int .i8 a1.Kind, .int .i64 a1.Tally, .int .i64 a1.From, .int .i64 a1.To, .int .i64 a1.Amount] := envp he17 rfl h3
          have h19 : eget e16 21 = .bool (!r15) := envp he17 rfl rfl
          clear h3
          cases h
          exact Ev.kid (show impl_ValidDeal_c1_Q a1 _ _ from (And.intro rfl (And.intro h18 h19)))) ?_
  revert h hr71
  revert r70
  intro y22 hr71 h
  intro x e20 M21 hq69
  obtain ⟨rfl, h23, h24⟩ := hq69
  refine Ev.kseqN ?_
  rcases ite_some h with ⟨hb25, h⟩ | ⟨hb25, h⟩
  · refine Ev.condT h24 hb25 ?_
    refine Ev.seq ?_
    refine Ev.reg (fun _ => rfl) ?_
    refine Ev.nxk (mvO rfl) ?_
    refine Ev.rend ?_
    intro e26 he27
    have h28 : eget e26 2 = .bool false := envp he27 rfl rfl
    clear h23 h24
    refine Ev.kseqN ?_
    refine Ev.ex ?_
    refine Ev.kseqR ?_
    cases h
    exact Ev.kendR (resT h28 res0) rfl
  · refine Ev.condF h24 hb25 ?_
    refine Ev.ex ?_
    refine Ev.kseqN ?_
    refine Ev.seq ?_
    refine Ev.reg (fun _ => rfl) ?_
    refine Ev.nxk (mvO rfl) ?_
    refine Ev.rend ?_
    intro e29 he30
    have h31 : eget e29 1 = .pt none [.int .i64 a1.Day, .int .i8 a1.Kind, .int .i64 a1.Tally, .int .i64 a1.From, .int .i64 a1.To, .int .i64 a1.Amount] := envp he30 rfl h23
    have h32 : eget e29 3 = .fn 34 [] := envp he30 rfl rfl
    clear h23 h24
    refine Ev.kseqN ?_
    refine Ev.seq ?_
    refine Ev.reg (fun _ => rfl) ?_
    refine Ev.nxk (faP h31 ⟨ble rfl, blt rfl⟩ rfl) ?_
    refine Ev.nxk (ldP rfl rfl) ?_
    obtain ⟨⟨r34, r35, r36, r37⟩, hx33, h⟩ := bind_some h
    refine Ev.nxck (Ev.call (v := .tup [.bool r34, .bool r35, .bool r36, .bool r37]) rfl (cns rfl rfl) rfl (impl_uses_ok a1.Kind _ hx33) (fun h => nomatch (show false = true from h))) ?_
    refine Ev.nxk (mvO rfl) ?_
    refine Ev.nxk (exT rfl rfl) ?_
    refine Ev.nxk (exT rfl rfl) ?_
    refine Ev.nxk (exT rfl rfl) ?_
    refine Ev.nxk (exT rfl rfl) ?_
    refine Ev.nxk (mvO rfl) ?_
    refine Ev.nxk (mvO rfl) ?_
    refine Ev.nxk (mvO rfl) ?_
    refine Ev.nxk (mvO rfl) ?_
    refine Ev.rend ?_
    intro e38 he39
    have h40 : eget e38 1 = .pt none [.int .i64 a1.Day, .int .i8 a1.Kind, .int .i64 a1.Tally, .int .i64 a1.From, .int .i64 a1.To, .int .i64 a1.Amount] := envp he39 rfl h31
    have h41 : eget e38 3 = .fn 34 [] := envp he39 rfl h32
    have h42 : eget e38 4 = .bool r34 := envp he39 rfl rfl
    have h43 : eget e38 5 = .bool r35 := envp he39 rfl rfl
    have h44 : eget e38 6 = .bool r36 := envp he39 rfl rfl
    have h45 : eget e38 7 = .bool r37 := envp he39 rfl rfl
    clear h31 h32
    refine Ev.kseqN ?_
    refine Ev.seq ?_
    refine Ev.reg (fun _ => rfl) ?_
    refine Ev.nxk (mvO h41) ?_
    refine Ev.nxk (mvO h42) ?_
    refine Ev.nxk (faP h40 ⟨ble rfl, blt rfl⟩ rfl) ?_
    refine Ev.nxk (ldP rfl rfl) ?_
    obtain ⟨r47, hx46, h⟩ := bind_some h
    refine Ev.nxck (Ev.call (v := .bool r47) rfl (cns rfl (cns rfl (cns rfl (cns rfl rfl)))) rfl (impl_ValidDeal_1_ok r34 a1.Tally 0 39 _ hx46) (fun h => nomatch (show false = true from h))) ?_
    refine Ev.nxk (mvO rfl) ?_
    rcases ite_some h with ⟨hb48, h⟩ | ⟨hb48, h⟩
    · refine Ev.nxk (guT rfl hb48 (mvO h41)) ?_
      refine Ev.nxk (guT rfl hb48 (mvO h43)) ?_
      refine Ev.nxk (guT rfl hb48 (faP h40 ⟨ble rfl, blt rfl⟩ rfl)) ?_
      refine Ev.nxk (guT rfl hb48 (ldP rfl rfl)) ?_
      obtain ⟨r50, hx49, h⟩ := bind_some h
      refine Ev.nxck (Ev.guT rfl hb48 (Ev.call (v := .bool r50) rfl (cns rfl (cns rfl (cns rfl (cns rfl rfl)))) rfl (impl_ValidDeal_1_ok r35 a1.From 0 15 _ hx49) (fun h => nomatch (show false = true from h)))) ?_
      refine Ev.nxk (pkT rfl hb48 rfl) ?_
      refine Ev.nxk (mvO rfl) ?_
      rcases ite_some h with ⟨hb51, h⟩ | ⟨hb51, h⟩
      · refine Ev.nxk (guT rfl hb51 (mvO h41)) ?_
        refine Ev.nxk (guT rfl hb51 (mvO h44)) ?_
        refine Ev.nxk (guT rfl hb51 (faP h40 ⟨ble rfl, blt rfl⟩ rfl)) ?_
        refine Ev.nxk (guT rfl hb51 (ldP rfl rfl)) ?_
        obtain ⟨r53, hx52, h⟩ := bind_some h
        refine Ev.nxck (Ev.guT rfl hb51 (Ev.call (v := .bool r53) rfl (cns rfl (cns rfl (cns rfl (cns rfl rfl)))) rfl (impl_ValidDeal_1_ok r36 a1.To 0 15 _ hx52) (fun h => nomatch (show false = true from h)))) ?_
        refine Ev.nxk (pkT rfl hb51 rfl) ?_
        refine Ev.nxk (mvO rfl) ?_
        rcases ite_some h with ⟨hb54, h⟩ | ⟨hb54, h⟩
        · refine Ev.nxk (guT rfl hb54 (mvO h41)) ?_
          refine Ev.nxk (guT rfl hb54 (mvO h45)) ?_
          refine Ev.nxk (guT rfl hb54 (faP h40 ⟨ble rfl, blt rfl⟩ rfl)) ?_
          refine Ev.nxk (guT rfl hb54 (ldP rfl rfl)) ?_
          obtain ⟨r56, hx55, h⟩ := bind_some h
          refine Ev.nxck (Ev.guT rfl hb54 (Ev.call (v := .bool r56) rfl (cns rfl (cns rfl (cns rfl (cns rfl rfl)))) rfl (impl_ValidDeal_1_ok r37 a1.Amount 1 100000000 _ hx55) (fun h => nomatch (show false = true from h)))) ?_
          refine Ev.nxk (pkT rfl hb54 rfl) ?_
          refine Ev.nxk (mvO rfl) ?_
          refine Ev.rend ?_
          intro e57 he58
          have h59 : eget e57 2 = .bool r56 := envp he58 rfl rfl
          clear h40 h41 h42 h43 h44 h45
          refine Ev.kseqN ?_
          refine Ev.ex ?_
          cases h
          exact Ev.kendR (resT h59 res0) rfl
        · refine Ev.nxk (gsT rfl hb54) ?_
          refine Ev.nxk (gsT rfl hb54) ?_
          refine Ev.nxk (gsT rfl hb54) ?_
          refine Ev.nxk (gsT rfl hb54) ?_
          refine Ev.nxck (Ev.gsT rfl hb54) ?_
          refine Ev.nxk (pkF rfl hb54 rfl) ?_
          refine Ev.nxk (mvO rfl) ?_
          refine Ev.rend ?_
          intro e60 he61
          have h62 : eget e60 2 = .bool false := envp he61 rfl rfl
          clear h40 h41 h42 h43 h44 h45
          refine Ev.kseqN ?_
          refine Ev.ex ?_
          cases h
          exact Ev.kendR (resT h62 res0) rfl
      · refine Ev.nxk (gsT rfl hb51) ?_
        refine Ev.nxk (gsT rfl hb51) ?_
        refine Ev.nxk (gsT rfl hb51) ?_
        refine Ev.nxk (gsT rfl hb51) ?_
        refine Ev.nxck (Ev.gsT rfl hb51) ?_
        refine Ev.nxk (pkF rfl hb51 rfl) ?_
        refine Ev.nxk (mvO rfl) ?_
        refine Ev.nxk (gsT rfl rfl) ?_
        refine Ev.nxk (gsT rfl rfl) ?_
        refine Ev.nxk (gsT rfl rfl) ?_
        refine Ev.nxk (gsT rfl rfl) ?_
        refine Ev.nxck (Ev.gsT rfl rfl) ?_
        refine Ev.nxk (pkF rfl rfl rfl) ?_
        refine Ev.nxk (mvO rfl) ?_
        refine Ev.rend ?_
        intro e63 he64
        have h65 : eget e63 2 = .bool false := envp he64 rfl rfl
        clear h40 h41 h42 h43 h44 h45
        refine Ev.kseqN ?_
        refine Ev.ex ?_
        cases h
        exact Ev.kendR (resT h65 res0) rfl
    · refine Ev.nxk (gsT rfl hb48) ?_
      refine Ev.nxk (gsT rfl hb48) ?_
      refine Ev.nxk (gsT rfl hb48) ?_
      refine Ev.nxk (gsT rfl hb48) ?_
      refine Ev.nxck (Ev.gsT rfl hb48) ?_
      refine Ev.nxk (pkF rfl hb48 rfl) ?_
      refine Ev.nxk (mvO rfl) ?_
      refine Ev.nxk (gsT rfl rfl) ?_
      refine Ev.nxk (gsT rfl rfl) ?_
      refine Ev.nxk (gsT rfl rfl) ?_
      refine Ev.nxk (gsT rfl rfl) ?_
      refine Ev.nxck (Ev.gsT rfl rfl) ?_
      refine Ev.nxk (pkF rfl rfl rfl) ?_
      refine Ev.nxk (mvO rfl) ?_
      refine Ev.nxk (gsT rfl rfl) ?_
      refine Ev.nxk (gsT rfl rfl) ?_
      refine Ev.nxk (gsT rfl rfl) ?_
      refine Ev.nxk (gsT rfl rfl) ?_
      refine Ev.nxck (Ev.gsT rfl rfl) ?_
      refine Ev.nxk (pkF rfl rfl rfl) ?_
      refine Ev.nxk (mvO rfl) ?_
      refine Ev.rend ?_
      intro e66 he67
      have h68 : eget e66 2 = .bool false := envp he67 rfl rfl
      clear h40 h41 h42 h43 h44 h45
      refine Ev.kseqN ?_
      refine Ev.ex ?_
      cases h
      exact Ev.kendR (resT h68 res0) rfl
/-! ### loop.example/g01263/laws.toDeal (f10) -/
noncomputable def laws_toDeal (a1 : Deal) : Option (Int × Int × Int × Int × Int × Int) :=
  some (a1.Day, a1.Kind, a1.Tally, a1.From, a1.To, a1.Amount)
def laws_toDeal_enc (r : Int × Int × Int × Int × Int × Int) : AV := .agg [.int .i64 r.1, .int .i8 r.2.1, .int .i64 r.2.2.1, .int .i64 r.2.2.2.1, .int .i64 r.2.2.2.2.1, .int .i64 r.2.2.2.2.2]
theorem laws_toDeal_ok (a1 : Deal) (r : Int × Int × Int × Int × Int × Int) (h : laws_toDeal a1 = some r) : Ev (fun k => CN k 10 [.agg [.int .i64 a1.Day, .int .i8 a1.Kind, .int .i64 a1.Tally, .int .i64 a1.From, .int .i64 a1.To, .int .i64 a1.Amount]] []) (fun p => rRes p.2 p.1 = laws_toDeal_enc r) := by
  unfold laws_toDeal at h
  refine Ev.enter (F := fun k => f10 (CN k) k) (fun k => callN_eq rfl Try.func10 rfl rfl rfl (by decide +kernel) (f10_eq _ _)) ?_
  refine Ev.seq ?_
  refine Ev.reg (fun _ => rfl) ?_
  refine Ev.nxk (bxI rfl rfl ⟨rfl, rfl, by decide⟩) ?_
  refine Ev.nxpush (alO zero26) ?_
  intro M2 hM3
  have o4 : M2[([] : Mem).length]? = some (.live ⟨.box, 26, 6, [[.int .i64 0, .int .i8 0, .int .i64 0, .int .i64 0, .int .i64 0, .int .i64 0]]⟩) := push_new hM3
  refine Ev.rend ?_
  intro e5 he6
  have h7 : eget e5 1 = .pt none [.int .i64 a1.Day, .int .i8 a1.Kind, .int .i64 a1.Tally, .int .i64 a1.From, .int .i64 a1.To, .int .i64 a1.Amount] := envp he6 rfl rfl
  have h8 : eget e5 2 = .loc ([] : Mem).length 1 0 0 := envp he6 rfl rfl
  refine Ev.kseqN ?_
  refine Ev.seq ?_
  refine Ev.reg (fun _ => rfl) ?_
  refine Ev.nxpush (alO zero26) ?_
  intro M10 hM11
  have o12 := push_old hM11 o4
  have ne13 := ne_new o4
  have o14 : M10[M2.length]? = some (.live ⟨.box, 26, 6, [[.int .i64 0, .int .i8 0, .int .i64 0, .int .i64 0, .int .i64 0, .int .i64 0]]⟩) := push_new hM11
  refine Ev.rend ?_
  intro e15 he16
  have h17 : eget e15 1 = .pt none [.int .i64 a1.Day, .int .i8 a1.Kind, .int .i64 a1.Tally, .int .i64 a1.From, .int .i64 a1.To, .int .i64 a1.Amount] := envp he16 rfl h7
  have h18 : eget e15 2 = .loc ([] : Mem).length 1 0 0 := envp he16 rfl h8
  have h19 : eget e15 3 = .loc M2.length 1 0 0 := envp he16 rfl rfl
  clear h7 h8
  refine Ev.kseqN ?_
  refine Ev.seq ?_
  refine Ev.reg (fun _ => rfl) ?_
  refine Ev.nxk (faP h17 ⟨ble rfl, blt rfl⟩ rfl) ?_
  refine Ev.nxk (ldP rfl rfl) ?_
  refine Ev.nxk (faO h19 o14 rfl) ?_
  refine Ev.nxput (stO rfl rfl o14 rfl rfl ⟨rfl, ble rfl⟩ rfl rfl) ?_
  intro M20 hM21
  have o22 := set_ne hM21 ne13 o12
  have o23 : M20[M2.length]? = some (.live ⟨.box, 26, 6, [[.int .i64 a1.Day, .int .i8 0, .int .i64 0, .int .i64 0, .int .i64 0, .int .i64 0]]⟩) := set_same hM21 o14
  refine Ev.rend ?_
  intro e24 he25
  have h26 : eget e24 1 = .pt none [.int .i64 a1.Day, .int .i8 a1.Kind, .int .i64 a1.Tally, .int .i64 a1.From, .int .i64 a1.To, .int .i64 a1.Amount] := envp he25 rfl h17
  have h27 : eget e24 2 = .loc ([] : Mem).length 1 0 0 := envp he25 rfl h18
  have h28 : eget e24 3 = .loc M2.length 1 0 0 := envp he25 rfl h19
  clear h17 h18 h19
  refine Ev.kseqN ?_
  refine Ev.seq ?_
  refine Ev.reg (fun _ => rfl) ?_
  refine Ev.nxk (faP h26 ⟨ble rfl, blt rfl⟩ rfl) ?_
  refine Ev.nxk (ldP rfl rfl) ?_
  refine Ev.nxk (faO h28 o23 rfl) ?_
  refine Ev.nxput (stO rfl rfl o23 rfl rfl ⟨rfl, ble rfl⟩ rfl rfl) ?_
  intro M29 hM30
  have o31 := set_ne hM30 ne13 o22
  have o32 : M29[M2.length]? = some (.live ⟨.box, 26, 6, [[.int .i64 a1.Day, .int .i8 a1.Kind, .int .i64 0, .int .i64 0, .int .i64 0, .int .i64 0]]⟩) := set_same hM30 o23
  refine Ev.rend ?_
  intro e33 he34
  have h35 : eget e33 1 = .pt none [.int .i64 a1.Day, .int .i8 a1.Kind, .int .i64 a1.Tally, .int .i64 a1.From, .int .i64 a1.To, .int .i64 a1.Amount] := envp he34 rfl h26
  have h36 : eget e33 2 = .loc ([] : Mem).length 1 0 0 := envp he34 rfl h27
  have h37 : eget e33 3 = .loc M2.length 1 0 0 := envp he34 rfl h28
  clear h26 h27 h28
  refine Ev.kseqN ?_
  refine Ev.seq ?_
  refine Ev.reg (fun _ => rfl) ?_
  refine Ev.nxk (faP h35 ⟨ble rfl, blt rfl⟩ rfl) ?_
  refine Ev.nxk (ldP rfl rfl) ?_
  refine Ev.nxk (faO h37 o32 rfl) ?_
  refine Ev.nxput (stO rfl rfl o32 rfl rfl ⟨rfl, ble rfl⟩ rfl rfl) ?_
  intro M38 hM39
  have o40 := set_ne hM39 ne13 o31
  have o41 : M38[M2.length]? = some (.live ⟨.box, 26, 6, [[.int .i64 a1.Day, .int .i8 a1.Kind, .int .i64 a1.Tally, .int .i64 0, .int .i64 0, .int .i64 0]]⟩) := set_same hM39 o32
  refine Ev.rend ?_
  intro e42 he43
  have h44 : eget e42 1 = .pt none [.int .i64 a1.Day, .int .i8 a1.Kind, .int .i64 a1.Tally, .int .i64 a1.From, .int .i64 a1.To, .int .i64 a1.Amount] := envp he43 rfl h35
  have h45 : eget e42 2 = .loc ([] : Mem).length 1 0 0 := envp he43 rfl h36
  have h46 : eget e42 3 = .loc M2.length 1 0 0 := envp he43 rfl h37
  clear h35 h36 h37
  refine Ev.kseqN ?_
  refine Ev.seq ?_
  refine Ev.reg (fun _ => rfl) ?_
  refine Ev.nxk (faP h44 ⟨ble rfl, blt rfl⟩ rfl) ?_
  refine Ev.nxk (ldP rfl rfl) ?_
  refine Ev.nxk (faO h46 o41 rfl) ?_
  refine Ev.nxput (stO rfl rfl o41 rfl rfl ⟨rfl, ble rfl⟩ rfl rfl) ?_
  intro M47 hM48
  have o49 := set_ne hM48 ne13 o40
  have o50 : M47[M2.length]? = some (.live ⟨.box, 26, 6, [[.int .i64 a1.Day, .int .i8 a1.Kind, .int .i64 a1.Tally, .int .i64 a1.From, .int .i64 0, .int .i64 0]]⟩) := set_same hM48 o41
  refine Ev.rend ?_
  intro e51 he52
  have h53 : eget e51 1 = .pt none [.int .i64 a1.Day, .int .i8 a1.Kind, .int .i64 a1.Tally, .int .i64 a1.From, .int .i64 a1.To, .int .i64 a1.Amount] := envp he52 rfl h44
  have h54 : eget e51 2 = .loc ([] : Mem).length 1 0 0 := envp he52 rfl h45
  have h55 : eget e51 3 = .loc M2.length 1 0 0 := envp he52 rfl h46
  clear h44 h45 h46
  refine Ev.kseqN ?_
  refine Ev.seq ?_
  refine Ev.reg (fun _ => rfl) ?_
  refine Ev.nxk (faP h53 ⟨ble rfl, blt rfl⟩ rfl) ?_
  refine Ev.nxk (ldP rfl rfl) ?_
  refine Ev.nxk (faO h55 o50 rfl) ?_
  refine Ev.nxput (stO rfl rfl o50 rfl rfl ⟨rfl, ble rfl⟩ rfl rfl) ?_
  intro M56 hM57
  have o58 := set_ne hM57 ne13 o49
  have o59 : M56[M2.length]? = some (.live ⟨.box, 26, 6, [[.int .i64 a1.Day, .int .i8 a1.Kind, .int .i64 a1.Tally, .int .i64 a1.From, .int .i64 a1.To, .int .i64 0]]⟩) := set_same hM57 o50
  refine Ev.rend ?_
  intro e60 he61
  have h62 : eget e60 1 = .pt none [.int .i64 a1.Day, .int .i8 a1.Kind, .int .i64 a1.Tally, .int .i64 a1.From, .int .i64 a1.To, .int .i64 a1.Amount] := envp he61 rfl h53
  have h63 : eget e60 2 = .loc ([] : Mem).length 1 0 0 := envp he61 rfl h54
  have h64 : eget e60 3 = .loc M2.length 1 0 0 := envp he61 rfl h55
  clear h53 h54 h55
  refine Ev.kseqN ?_
  refine Ev.seq ?_
  refine Ev.reg (fun _ => rfl) ?_
  refine Ev.nxk (faP h62 ⟨ble rfl, blt rfl⟩ rfl) ?_
  refine Ev.nxk (ldP rfl rfl) ?_
  refine Ev.nxk (faO h64 o59 rfl) ?_
  refine Ev.nxput (stO rfl rfl o59 rfl rfl ⟨rfl, ble rfl⟩ rfl rfl) ?_
  intro M65 hM66
  have o67 := set_ne hM66 ne13 o58
  have o68 : M65[M2.length]? = some (.live ⟨.box, 26, 6, [[.int .i64 a1.Day, .int .i8 a1.Kind, .int .i64 a1.Tally, .int .i64 a1.From, .int .i64 a1.To, .int .i64 a1.Amount]]⟩) := set_same hM66 o59
  refine Ev.rend ?_
  intro e69 he70
  have h71 : eget e69 2 = .loc ([] : Mem).length 1 0 0 := envp he70 rfl h63
  have h72 : eget e69 3 = .loc M2.length 1 0 0 := envp he70 rfl h64
  clear h62 h63 h64
  refine Ev.kseqN ?_
  refine Ev.seq ?_
  refine Ev.reg (fun _ => rfl) ?_
  refine Ev.nxk (ldOA h72 o68 rfl rfl (ble rfl) rfl) ?_
  refine Ev.nxput (stO h71 rfl o67 rfl rfl ⟨rfl, ble rfl⟩ rfl rfl) ?_
  intro M73 hM74
  have o75 : M73[([] : Mem).length]? = some (.live ⟨.box, 26, 6, [[.int .i64 a1.Day, .int .i8 a1.Kind, .int .i64 a1.Tally, .int .i64 a1.From, .int .i64 a1.To, .int .i64 a1.Amount]]⟩) := set_same hM74 o67
  have o76 := set_ne hM74 (Ne.symm ne13) o68
  refine Ev.rend ?_
  intro e77 he78
  have h79 : eget e77 2 = .loc ([] : Mem).length 1 0 0 := envp he78 rfl h71
  clear h71 h72
  refine Ev.kseqN ?_
  refine Ev.ex ?_
  cases h
  exact Ev.kendR (resC (ag := true) (sz := 6) ⟨by kernel_rfl, by kernel_rfl, by kernel_rfl⟩ (ldOA h79 o75 rfl rfl (ble rfl) rfl) res0) rfl
/-! ### loop.example/g01263/spec.ValidDeal (f9) -/
noncomputable def spec_ValidDeal (a1 : Deal) : Option Bool :=
  (spec_l07Deal a1).bind fun r5 =>
  some r5
def spec_ValidDeal_enc (r : Bool) : AV := .bool r
theorem spec_ValidDeal_ok (a1 : Deal) (r : Bool) (h : spec_ValidDeal a1 = some r) : Ev (fun k => CN k 9 [.agg [.int .i64 a1.Day, .int .i8 a1.Kind, .int .i64 a1.Tally, .int .i64 a1.From, .int .i64 a1.To, .int .i64 a1.Amount]] []) (fun p => rRes p.2 p.1 = spec_ValidDeal_enc r) := by
  unfold spec_ValidDeal at h
  refine Ev.enter (F := fun k => f9 (CN k) k) (fun k => callN_eq rfl Try.func9 rfl rfl rfl (by decide +kernel) (f9_eq _ _)) ?_
  refine Ev.seq ?_
  refine Ev.reg (fun _ => rfl) ?_
  refine Ev.nxk (bxI rfl rfl ⟨rfl, rfl, by decide⟩) ?_
  refine Ev.nxk (mvO rfl) ?_
  refine Ev.rend ?_
  intro e1 he2
  have h3 : eget e1 1 = .pt none [.int .i64 a1.Day, .int .i8 a1.Kind, .int .i64 a1.Tally, .int .i64 a1.From, .int .i64 a1.To, .int .i64 a1.Amount] := envp he2 rfl rfl
  refine Ev.kseqN ?_
  refine Ev.seq ?_
  refine Ev.reg (fun _ => rfl) ?_
  obtain ⟨r5, hx4, h⟩ := bind_some h
  refine Ev.nxck (Ev.call (v := .bool r5) rfl (cns h3 rfl) rfl (spec_l07Deal_ok a1 _ hx4) (fun h => nomatch (show false = true from h))) ?_
  refine Ev.nxk (mvO rfl) ?_
  refine Ev.rend ?_
  intro e6 he7
  have h8 : eget e6 2 = .bool r5 := envp he7 rfl rfl
  clear h3
  refine Ev.kseqN ?_
  refine Ev.ex ?_
  cases h
  exact Ev.kendR (resT h8 res0) rfl
/-! ### loop.example/g01263/laws.FnExactValidDeal (f3) -/
noncomputable def laws_FnExactValidDeal (a1 : Deal) : Option Bool :=
  (laws_toDeal a1).bind fun (r5, r6, r7, r8, r9, r10) =>
  (spec_ValidDeal (Deal.mk r5 r6 r7 r8 r9 r10)).bind fun r12 =>
  (laws_toDeal a1).bind fun (r18, r19, r20, r21, r22, r23) =>
  (impl_ValidDeal (Deal.mk r18 r19 r20 r21 r22 r23)).bind fun r25 =>
  if (r25 == r12) = true then
    some true
  else
    some false
def laws_FnExactValidDeal_enc (r : Bool) : AV := .bool r
theorem laws_FnExactValidDeal_ok (a1 : Deal) (r : Bool) (h : laws_FnExactValidDeal a1 = some r) : Ev (fun k => CN k 3 [.agg [.int .i64 a1.Day, .int .i8 a1.Kind, .int .i64 a1.Tally, .int .i64 a1.From, .int .i64 a1.To, .int .i64 a1.Amount]] []) (fun p => rRes p.2 p.1 = laws_FnExactValidDeal_enc r) := by
  unfold laws_FnExactValidDeal at h
  refine Ev.enter (F := fun k => f3 (CN k) k) (fun k => callN_eq rfl Try.func3 rfl rfl rfl (by decide +kernel) (f3_eq _ _)) ?_
  refine Ev.seq ?_
  refine Ev.reg (fun _ => rfl) ?_
  refine Ev.nxk (bxI rfl rfl ⟨rfl, rfl, by decide⟩) ?_
  refine Ev.nxk (mvO rfl) ?_
  refine Ev.rend ?_
  intro e1 he2
  have h3 : eget e1 1 = .pt none [.int .i64 a1.Day, .int .i8 a1.Kind, .int .i64 a1.Tally, .int .i64 a1.From, .int .i64 a1.To, .int .i64 a1.Amount] := envp he2 rfl rfl
  refine Ev.kseqN ?_
  refine Ev.seq ?_
  refine Ev.reg (fun _ => rfl) ?_
  refine Ev.nxk (ldPA h3 rfl rfl) ?_
  obtain ⟨⟨r5, r6, r7, r8, r9, r10⟩, hx4, h⟩ := bind_some h
  refine Ev.nxck (Ev.call (v := .agg [.int .i64 r5, .int .i8 r6, .int .i64 r7, .int .i64 r8, .int .i64 r9, .int .i64 r10]) rfl (cns rfl rfl) rfl (laws_toDeal_ok a1 _ hx4) (fun h => nomatch (show false = true from h))) ?_
  obtain ⟨r12, hx11, h⟩ := bind_some h
  refine Ev.nxck (Ev.call (v := .bool r12) rfl (cns rfl rfl) rfl (spec_ValidDeal_ok (Deal.mk r5 r6 r7 r8 r9 r10) _ hx11) (fun h => nomatch (show false = true from h))) ?_
  refine Ev.nxk (mvO rfl) ?_
  refine Ev.rend ?_
  intro e13 he14
  have h15 : eget e13 1 = .pt none [.int .i64 a1.Day, .int .i8 a1.Kind, .int .i64 a1.Tally, .int .i64 a1.From, .int .i64 a1.To, .int .i64 a1.Amount] := envp he14 rfl h3
  have h16 : eget e13 3 = .bool r12 := envp he14 rfl rfl
  clear h3
  refine Ev.kseqN ?_
  refine Ev.seq ?_
  refine Ev.reg (fun _ => rfl) ?_
  refine Ev.nxk (ldPA h15 rfl rfl) ?_
  obtain ⟨⟨r18, r19, r20, r21, r22, r23⟩, hx17, h⟩ := bind_some h
  refine Ev.nxck (Ev.call (v := .agg [.int .i64 r18, .int .i8 r19, .int .i64 r20, .int .i64 r21, .int .i64 r22, .int .i64 r23]) rfl (cns rfl rfl) rfl (laws_toDeal_ok a1 _ hx17) (fun h => nomatch (show false = true from h))) ?_
  obtain ⟨r25, hx24, h⟩ := bind_some h
  refine Ev.nxck (Ev.call (v := .bool r25) rfl (cns rfl rfl) rfl (impl_ValidDeal_ok (Deal.mk r18 r19 r20 r21 r22 r23) _ hx24) (fun h => nomatch (show false = true from h))) ?_
  refine Ev.nxk (mvO rfl) ?_
  refine Ev.rend ?_
  intro e26 he27
  have h28 : eget e26 3 = .bool r12 := envp he27 rfl h16
  have h29 : eget e26 4 = .bool r25 := envp he27 rfl rfl
  clear h15 h16
  refine Ev.kseqN ?_
  refine Ev.seq ?_
  refine Ev.seq ?_
  refine Ev.reg (fun _ => rfl) ?_
  refine Ev.nxk (mvO h29) ?_
  refine Ev.nxk (mvO h28) ?_
  refine Ev.nxk (oNeq (by kernel_rfl) rfl rfl) ?_
  refine Ev.rend ?_
  intro e30 he31
  have h32 : eget e30 13 = .bool (!(r25 == r12)) := envp he31 rfl rfl
  clear h28 h29
  refine Ev.kseqN ?_
  rcases ite_some h with ⟨hb33, h⟩ | ⟨hb33, h⟩
  · refine Ev.condF h32 (congrArg Bool.not hb33) ?_
    refine Ev.ex ?_
    refine Ev.kseqN ?_
    refine Ev.seq ?_
    refine Ev.reg (fun _ => rfl) ?_
    refine Ev.nxk (mvO rfl) ?_
    refine Ev.rend ?_
    intro e34 he35
    have h36 : eget e34 2 = .bool true := envp he35 rfl rfl
    clear h32
    refine Ev.kseqN ?_
    refine Ev.ex ?_
    cases h
    exact Ev.kendR (resT h36 res0) rfl
  · refine Ev.condT h32 (congrArg Bool.not hb33) ?_
    refine Ev.seq ?_
    refine Ev.reg (fun _ => rfl) ?_
    refine Ev.nxk (mvO rfl) ?_
    refine Ev.rend ?_
    intro e37 he38
    have h39 : eget e37 2 = .bool false := envp he38 rfl rfl
    clear h32
    refine Ev.kseqN ?_
    refine Ev.ex ?_
    refine Ev.kseqR ?_
    cases h
    exact Ev.kendR (resT h39 res0) rfl
end Go.Proofs.Ytaocojognonkcaa

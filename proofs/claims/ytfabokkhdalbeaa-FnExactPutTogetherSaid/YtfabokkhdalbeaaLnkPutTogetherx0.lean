/- Printed by a program of ours (ext.py). -/
import Derived.Test.YtfabokkhdalbeaaFnsPutTogether
set_option linter.unusedVariables false
set_option maxRecDepth 100000
set_option maxHeartbeats 2000000
namespace Go.Proofs.Ytfabokkhdalbeaa
open Go Go.Ab
structure Deal where
  Day : Int
  Kind : Int
  Tally : Int
  From : Int
  To : Int
  Amount : Int
  deriving DecidableEq
def Deal.c (x : Deal) : List AV := [.int .i64 x.Day, .int .i8 x.Kind, .int .i64 x.Tally, .int .i64 x.From, .int .i64 x.To, .int .i64 x.Amount]
theorem Deal.fl : Fl Deal.c 6 := fun _ => ⟨rfl, rfl⟩
theorem Deal.flF : FlF Deal.c := fun _ => rfl
theorem co85 : cx.P.cellsOf 85 = 6 := by kernel_rfl
theorem zero85 : zeroOf cx.P 85 = [.int .i64 0, .int .i8 0, .int .i64 0, .int .i64 0, .int .i64 0, .int .i64 0] := by kernel_rfl
/-! ### loop.example/g01263/impl.uses (f85) -/
noncomputable def impl_uses (a1 : Int) : Option (Bool × Bool × Bool × Bool) :=
  if (a1 == 1) = true then
    some (false, true, true, true)
  else
    if (a1 == 2) = true then
      some (true, true, true, false)
    else
      if (a1 == 3) = true then
        some (true, false, false, true)
      else
        some (true, true, false, false)
def impl_uses_enc (r : Bool × Bool × Bool × Bool) : AV := .tup [.bool r.1, .bool r.2.1, .bool r.2.2.1, .bool r.2.2.2]
theorem impl_uses_ok (a1 : Int) (r : Bool × Bool × Bool × Bool) (h : impl_uses a1 = some r) : Ev (fun k => CN k 85 [.int .i8 a1] []) (fun p => rRes p.2 p.1 = impl_uses_enc r) := by
  unfold impl_uses at h
  refine Ev.enter (F := fun k => f85 (CN k) k) (fun k => callN_eq rfl Try.func85 rfl rfl rfl (by decide +kernel) (f85_eq _ _)) ?_
  refine Ev.seq ?_
  refine Ev.reg (fun _ => rfl) ?_
  refine Ev.nxk (mvO rfl) ?_
  refine Ev.nxk (mvO rfl) ?_
  refine Ev.nxk (mvO rfl) ?_
  refine Ev.nxk (mvO rfl) ?_
  refine Ev.rend ?_
  intro e1 he2
  have h3 : eget e1 0 = .int .i8 a1 := envp he2 rfl rfl
  refine Ev.kseqN ?_
  refine Ev.seq ?_
  refine Ev.seq ?_
  refine Ev.reg (fun _ => rfl) ?_
  refine Ev.nxk (mvO h3) ?_
  refine Ev.rend ?_
  intro e4 he5
  have h6 : eget e4 6 = .int .i8 a1 := envp he5 rfl rfl
  clear h3
  refine Ev.kseqN ?_
  refine Ev.blk ?_
  refine Ev.seq ?_
  refine Ev.reg (fun _ => rfl) ?_
  refine Ev.nxk (bEql h6 rfl) ?_
  refine Ev.nxk (mvO rfl) ?_
  refine Ev.rend ?_
  intro e7 he8
  have h9 : eget e7 6 = .int .i8 a1 := envp he8 rfl h6
  have h10 : eget e7 7 = .bool (a1 == 1) := envp he8 rfl rfl
  clear h6
  refine Ev.kseqN ?_
  rcases ite_some h with ⟨hb11, h⟩ | ⟨hb11, h⟩
  · refine Ev.condT h10 hb11 ?_
    refine Ev.seq ?_
    refine Ev.reg (fun _ => rfl) ?_
    refine Ev.nxk (mvO rfl) ?_
    refine Ev.nxk (mvO rfl) ?_
    refine Ev.nxk (mvO rfl) ?_
    refine Ev.nxk (mvO rfl) ?_
    refine Ev.rend ?_
    intro e12 he13
    have h14 : eget e12 2 = .bool false := envp he13 rfl rfl
    have h15 : eget e12 3 = .bool true := envp he13 rfl rfl
    have h16 : eget e12 4 = .bool true := envp he13 rfl rfl
    have h17 : eget e12 5 = .bool true := envp he13 rfl rfl
    clear h10 h9
    refine Ev.kseqN ?_
    refine Ev.ex ?_
    refine Ev.kblkR ?_
    refine Ev.kseqR ?_
    cases h
    exact Ev.kendR (resT h14 (resT h15 (resT h16 (resT h17 res0)))) rfl
  · refine Ev.condF h10 hb11 ?_
    refine Ev.seq ?_
    refine Ev.reg (fun _ => rfl) ?_
    refine Ev.nxk (bEql h9 rfl) ?_
    refine Ev.nxk (mvO rfl) ?_
    refine Ev.rend ?_
    intro e18 he19
    have h20 : eget e18 6 = .int .i8 a1 := envp he19 rfl h9
    have h21 : eget e18 9 = .bool (a1 == 2) := envp he19 rfl rfl
    clear h10 h9
    refine Ev.kseqN ?_
    rcases ite_some h with ⟨hb22, h⟩ | ⟨hb22, h⟩
    · refine Ev.condT h21 hb22 ?_
      refine Ev.seq ?_
      refine Ev.reg (fun _ => rfl) ?_
      refine Ev.nxk (mvO rfl) ?_
      refine Ev.nxk (mvO rfl) ?_
      refine Ev.nxk (mvO rfl) ?_
      refine Ev.nxk (mvO rfl) ?_
      refine Ev.rend ?_
      intro e23 he24
      have h25 : eget e23 2 = .bool true := envp he24 rfl rfl
      have h26 : eget e23 3 = .bool true := envp he24 rfl rfl
      have h27 : eget e23 4 = .bool true := envp he24 rfl rfl
      have h28 : eget e23 5 = .bool false := envp he24 rfl rfl
      clear h20 h21
      refine Ev.kseqN ?_
      refine Ev.ex ?_
      refine Ev.kblkR ?_
      refine Ev.kseqR ?_
      cases h
      exact Ev.kendR (resT h25 (resT h26 (resT h27 (resT h28 res0)))) rfl
    · refine Ev.condF h21 hb22 ?_
      refine Ev.seq ?_
      refine Ev.reg (fun _ => rfl) ?_
      refine Ev.nxk (bEql h20 rfl) ?_
      refine Ev.nxk (mvO rfl) ?_
      refine Ev.rend ?_
      intro e29 he30
      have h31 : eget e29 11 = .bool (a1 == 3) := envp he30 rfl rfl
      clear h20 h21
      refine Ev.kseqN ?_
      rcases ite_some h with ⟨hb32, h⟩ | ⟨hb32, h⟩
      · refine Ev.condT h31 hb32 ?_
        refine Ev.seq ?_
        refine Ev.reg (fun _ => rfl) ?_
        refine Ev.nxk (mvO rfl) ?_
        refine Ev.nxk (mvO rfl) ?_
        refine Ev.nxk (mvO rfl) ?_
        refine Ev.nxk (mvO rfl) ?_
        refine Ev.rend ?_
        intro e33 he34
        have h35 : eget e33 2 = .bool true := envp he34 rfl rfl
        have h36 : eget e33 3 = .bool false := envp he34 rfl rfl
        have h37 : eget e33 4 = .bool false := envp he34 rfl rfl
        have h38 : eget e33 5 = .bool true := envp he34 rfl rfl
        clear h31
        refine Ev.kseqN ?_
        refine Ev.ex ?_
        refine Ev.kblkR ?_
        refine Ev.kseqR ?_
        cases h
        exact Ev.kendR (resT h35 (resT h36 (resT h37 (resT h38 res0)))) rfl
      · refine Ev.condF h31 hb32 ?_
        refine Ev.ex ?_
        refine Ev.kblkN ?_
        refine Ev.kseqN ?_
        refine Ev.seq ?_
        refine Ev.reg (fun _ => rfl) ?_
        refine Ev.nxk (mvO rfl) ?_
        refine Ev.nxk (mvO rfl) ?_
        refine Ev.nxk (mvO rfl) ?_
        refine Ev.nxk (mvO rfl) ?_
        refine Ev.rend ?_
        intro e39 he40
        have h41 : eget e39 2 = .bool true := envp he40 rfl rfl
        have h42 : eget e39 3 = .bool true := envp he40 rfl rfl
        have h43 : eget e39 4 = .bool false := envp he40 rfl rfl
        have h44 : eget e39 5 = .bool false := envp he40 rfl rfl
        clear h31
        refine Ev.kseqN ?_
        refine Ev.ex ?_
        cases h
        exact Ev.kendR (resT h41 (resT h42 (resT h43 (resT h44 res0)))) rfl
/-! ### loop.example/g01263/impl.ValidDeal$1 (f84) -/
noncomputable def impl_ValidDeal_1 (a1 : Bool) (a2 : Int) (a3 : Int) (a4 : Int) : Option Bool :=
  if a1 = true then
    if (decide (a2 ≥ a3)) = true then
      if (decide (a2 ≤ a4)) = true then
        some true
      else
        some false
    else
      some false
  else
    some (a2 == 0)
def impl_ValidDeal_1_enc (r : Bool) : AV := .bool r
theorem impl_ValidDeal_1_ok (a1 : Bool) (a2 : Int) (a3 : Int) (a4 : Int) (r : Bool) (h : impl_ValidDeal_1 a1 a2 a3 a4 = some r) : Ev (fun k => CN k 84 [.bool a1, .int .i64 a2, .int .i64 a3, .int .i64 a4] []) (fun p => rRes p.2 p.1 = impl_ValidDeal_1_enc r) := by
  unfold impl_ValidDeal_1 at h
  refine Ev.enter (F := fun k => f84 (CN k) k) (fun k => callN_eq rfl Try.func84 rfl rfl rfl (by decide +kernel) (f84_eq _ _)) ?_
  refine Ev.seq ?_
  refine Ev.reg (fun _ => rfl) ?_
  refine Ev.nxk (mvO rfl) ?_
  refine Ev.rend ?_
  intro e1 he2
  have h3 : eget e1 0 = .bool a1 := envp he2 rfl rfl
  have h4 : eget e1 1 = .int .i64 a2 := envp he2 rfl rfl
  have h5 : eget e1 2 = .int .i64 a3 := envp he2 rfl rfl
  have h6 : eget e1 3 = .int .i64 a4 := envp he2 rfl rfl
  refine Ev.kseqN ?_
  refine Ev.seq ?_
  refine Ev.reg (fun _ => rfl) ?_
  refine Ev.nxk (mvO h3) ?_
  refine Ev.nxk (mvO rfl) ?_
  rcases ite_some h with ⟨hb7, h⟩ | ⟨hb7, h⟩
  · refine Ev.nxk (guT rfl hb7 (mvO h4)) ?_
    refine Ev.nxk (guT rfl hb7 (mvO h5)) ?_
    refine Ev.nxk (guT rfl hb7 (bGeq rfl rfl)) ?_
    refine Ev.nxk (pkT rfl hb7 rfl) ?_
    refine Ev.nxk (mvO rfl) ?_
    rcases ite_some h with ⟨hb8, h⟩ | ⟨hb8, h⟩
    · refine Ev.nxk (guT rfl hb8 (mvO h4)) ?_
      refine Ev.nxk (guT rfl hb8 (mvO h6)) ?_
      refine Ev.nxk (guT rfl hb8 (bLeq rfl rfl)) ?_
      refine Ev.nxk (pkT rfl hb8 rfl) ?_
      refine Ev.nxk (mvO rfl) ?_
      rcases ite_some h with ⟨hb9, h⟩ | ⟨hb9, h⟩
      · refine Ev.nxk (gsF rfl hb9) ?_
        refine Ev.nxk (gsF rfl hb9) ?_
        refine Ev.nxk (gsF rfl hb9) ?_
        refine Ev.nxk (gsU rfl) ?_
        refine Ev.nxk (gsU rfl) ?_
        refine Ev.nxk (gsF rfl hb9) ?_
        refine Ev.nxk (pkT rfl hb9 rfl) ?_
        refine Ev.nxk (mvO rfl) ?_
        refine Ev.rend ?_
        intro e10 he11
        have h12 : eget e10 8 = .bool true := envp he11 rfl rfl
        clear h3 h4 h5 h6
        refine Ev.kseqN ?_
        refine Ev.ex ?_
        cases h
        exact Ev.kendR (resT h12 res0) rfl
      · refine Ev.nxk (guF rfl hb9 (mvO h3)) ?_
        refine Ev.nxk (guF rfl hb9 (uNot rfl)) ?_
        refine Ev.nxk (guF rfl hb9 (mvO rfl)) ?_
        refine Ev.nxk (gsT rfl (congrArg Bool.not hb7)) ?_
        refine Ev.nxk (gsT rfl (congrArg Bool.not hb7)) ?_
        refine Ev.nxk (guF rfl hb9 (pkF rfl (congrArg Bool.not hb7) rfl)) ?_
        refine Ev.nxk (pkF rfl hb9 rfl) ?_
        refine Ev.nxk (mvO rfl) ?_
        refine Ev.rend ?_
        intro e13 he14
        have h15 : eget e13 8 = .bool false := envp he14 rfl rfl
        clear h3 h4 h5 h6
        refine Ev.kseqN ?_
        refine Ev.ex ?_
        cases h
        exact Ev.kendR (resT h15 res0) rfl
    · refine Ev.nxk (gsT rfl hb8) ?_
      refine Ev.nxk (gsT rfl hb8) ?_
      refine Ev.nxk (gsT rfl hb8) ?_
      refine Ev.nxk (pkF rfl hb8 rfl) ?_
      refine Ev.nxk (mvO rfl) ?_
      refine Ev.nxk (guF rfl rfl (mvO h3)) ?_
      refine Ev.nxk (guF rfl rfl (uNot rfl)) ?_
      refine Ev.nxk (guF rfl rfl (mvO rfl)) ?_
      refine Ev.nxk (gsT rfl (congrArg Bool.not hb7)) ?_
      refine Ev.nxk (gsT rfl (congrArg Bool.not hb7)) ?_
      refine Ev.nxk (guF rfl rfl (pkF rfl (congrArg Bool.not hb7) rfl)) ?_
      refine Ev.nxk (pkF rfl rfl rfl) ?_
      refine Ev.nxk (mvO rfl) ?_
      refine Ev.rend ?_
      intro e16 he17
      have h18 : eget e16 8 = .bool false := envp he17 rfl rfl
      clear h3 h4 h5 h6
      refine Ev.kseqN ?_
      refine Ev.ex ?_
      cases h
      exact Ev.kendR (resT h18 res0) rfl
  · refine Ev.nxk (gsT rfl hb7) ?_
    refine Ev.nxk (gsT rfl hb7) ?_
    refine Ev.nxk (gsT rfl hb7) ?_
    refine Ev.nxk (pkF rfl hb7 rfl) ?_
    refine Ev.nxk (mvO rfl) ?_
    refine Ev.nxk (gsT rfl rfl) ?_
    refine Ev.nxk (gsT rfl rfl) ?_
    refine Ev.nxk (gsT rfl rfl) ?_
    refine Ev.nxk (pkF rfl rfl rfl) ?_
    refine Ev.nxk (mvO rfl) ?_
    refine Ev.nxk (guF rfl rfl (mvO h3)) ?_
    refine Ev.nxk (guF rfl rfl (uNot rfl)) ?_
    refine Ev.nxk (guF rfl rfl (mvO rfl)) ?_
    refine Ev.nxk (guT rfl (congrArg Bool.not hb7) (mvO h4)) ?_
    refine Ev.nxk (guT rfl (congrArg Bool.not hb7) (bEql rfl rfl)) ?_
    refine Ev.nxk (guF rfl rfl (pkT rfl (congrArg Bool.not hb7) rfl)) ?_
    refine Ev.nxk (pkF rfl rfl rfl) ?_
    refine Ev.nxk (mvO rfl) ?_
    refine Ev.rend ?_
    intro e19 he20
    have h21 : eget e19 8 = .bool (a2 == 0) := envp he20 rfl rfl
    clear h3 h4 h5 h6
    refine Ev.kseqN ?_
    refine Ev.ex ?_
    cases h
    exact Ev.kendR (resT h21 res0) rfl
/-! ### loop.example/g01263/impl.isBookDay (f82) -/
noncomputable def impl_isBookDay (a1 : Int) : Option Bool :=
  if (decide (a1 ≥ 0)) = true then
    some (decide (a1 ≤ 100000))
  else
    some false
def impl_isBookDay_enc (r : Bool) : AV := .bool r
theorem impl_isBookDay_ok (a1 : Int) (r : Bool) (h : impl_isBookDay a1 = some r) : Ev (fun k => CN k 82 [.int .i64 a1] []) (fun p => rRes p.2 p.1 = impl_isBookDay_enc r) := by
  unfold impl_isBookDay at h
  refine Ev.enter (F := fun k => f82 (CN k) k) (fun k => callN_eq rfl Try.func82 rfl rfl rfl (by decide +kernel) (f82_eq _ _)) ?_
  refine Ev.seq ?_
  refine Ev.reg (fun _ => rfl) ?_
  refine Ev.nxk (mvO rfl) ?_
  refine Ev.rend ?_
  intro e1 he2
  have h3 : eget e1 0 = .int .i64 a1 := envp he2 rfl rfl
  refine Ev.kseqN ?_
  refine Ev.seq ?_
  refine Ev.reg (fun _ => rfl) ?_
  refine Ev.nxk (mvO h3) ?_
  refine Ev.nxk (bGeq rfl rfl) ?_
  refine Ev.nxk (mvO rfl) ?_
  rcases ite_some h with ⟨hb4, h⟩ | ⟨hb4, h⟩
  · refine Ev.nxk (guT rfl hb4 (mvO h3)) ?_
    refine Ev.nxk (guT rfl hb4 (bLeq rfl rfl)) ?_
    refine Ev.nxk (pkT rfl hb4 rfl) ?_
    refine Ev.nxk (mvO rfl) ?_
    refine Ev.rend ?_
    intro e5 he6
    have h7 : eget e5 2 = .bool (decide (a1 ≤ 100000)) := envp he6 rfl rfl
    clear h3
    refine Ev.kseqN ?_
    refine Ev.ex ?_
    cases h
    exact Ev.kendR (resT h7 res0) rfl
  · refine Ev.nxk (gsT rfl hb4) ?_
    refine Ev.nxk (gsT rfl hb4) ?_
    refine Ev.nxk (pkF rfl hb4 rfl) ?_
    refine Ev.nxk (mvO rfl) ?_
    refine Ev.rend ?_
    intro e8 he9
    have h10 : eget e8 2 = .bool false := envp he9 rfl rfl
    clear h3
    refine Ev.kseqN ?_
    refine Ev.ex ?_
    cases h
    exact Ev.kendR (resT h10 res0) rfl
/-! ### loop.example/g01263/spec.l00In (f81) -/
noncomputable def spec_l00In (a1 : Int) (a2 : Int) (a3 : Int) : Option Bool :=
  if (decide (a1 ≥ a2)) = true then
    some (decide (a1 ≤ a3))
  else
    some false
def spec_l00In_enc (r : Bool) : AV := .bool r
theorem spec_l00In_ok (a1 : Int) (a2 : Int) (a3 : Int) (r : Bool) (h : spec_l00In a1 a2 a3 = some r) : Ev (fun k => CN k 81 [.int .i64 a1, .int .i64 a2, .int .i64 a3] []) (fun p => rRes p.2 p.1 = spec_l00In_enc r) := by
  unfold spec_l00In at h
  refine Ev.enter (F := fun k => f81 (CN k) k) (fun k => callN_eq rfl Try.func81 rfl rfl rfl (by decide +kernel) (f81_eq _ _)) ?_
  refine Ev.seq ?_
  refine Ev.reg (fun _ => rfl) ?_
  refine Ev.nxk (mvO rfl) ?_
  refine Ev.rend ?_
  intro e1 he2
  have h3 : eget e1 0 = .int .i64 a1 := envp he2 rfl rfl
  have h4 : eget e1 1 = .int .i64 a2 := envp he2 rfl rfl
  have h5 : eget e1 2 = .int .i64 a3 := envp he2 rfl rfl
  refine Ev.kseqN ?_
  refine Ev.seq ?_
  refine Ev.reg (fun _ => rfl) ?_
  refine Ev.nxk (mvO h3) ?_
  refine Ev.nxk (mvO h4) ?_
  refine Ev.nxk (bGeq rfl rfl) ?_
  refine Ev.nxk (mvO rfl) ?_
  rcases ite_some h with ⟨hb6, h⟩ | ⟨hb6, h⟩
  · refine Ev.nxk (guT rfl hb6 (mvO h3)) ?_
    refine Ev.nxk (guT rfl hb6 (mvO h5)) ?_
    refine Ev.nxk (guT rfl hb6 (bLeq rfl rfl)) ?_
    refine Ev.nxk (pkT rfl hb6 rfl) ?_
    refine Ev.nxk (mvO rfl) ?_
    refine Ev.rend ?_
    intro e7 he8
    have h9 : eget e7 6 = .bool (decide (a1 ≤ a3)) := envp he8 rfl rfl
    clear h3 h4 h5
    refine Ev.kseqN ?_
    refine Ev.ex ?_
    cases h
    exact Ev.kendR (resT h9 res0) rfl
  · refine Ev.nxk (gsT rfl hb6) ?_
    refine Ev.nxk (gsT rfl hb6) ?_
    refine Ev.nxk (gsT rfl hb6) ?_
    refine Ev.nxk (pkF rfl hb6 rfl) ?_
    refine Ev.nxk (mvO rfl) ?_
    refine Ev.rend ?_
    intro e10 he11
    have h12 : eget e10 6 = .bool false := envp he11 rfl rfl
    clear h3 h4 h5
    refine Ev.kseqN ?_
    refine Ev.ex ?_
    cases h
    exact Ev.kendR (resT h12 res0) rfl
/-! ### loop.example/g01263/spec.l07Day (f79) -/
noncomputable def spec_l07Day (a1 : Int) : Option Bool :=
  (spec_l00In a1 0 100000).bind fun r5 =>
  some r5
def spec_l07Day_enc (r : Bool) : AV := .bool r
theorem spec_l07Day_ok (a1 : Int) (r : Bool) (h : spec_l07Day a1 = some r) : Ev (fun k => CN k 79 [.int .i64 a1] []) (fun p => rRes p.2 p.1 = spec_l07Day_enc r) := by
  unfold spec_l07Day at h
  refine Ev.enter (F := fun k => f79 (CN k) k) (fun k => callN_eq rfl Try.func79 rfl rfl rfl (by decide +kernel) (f79_eq _ _)) ?_
  refine Ev.seq ?_
  refine Ev.reg (fun _ => rfl) ?_
  refine Ev.nxk (mvO rfl) ?_
  refine Ev.rend ?_
  intro e1 he2
  have h3 : eget e1 0 = .int .i64 a1 := envp he2 rfl rfl
  refine Ev.kseqN ?_
  refine Ev.seq ?_
  refine Ev.reg (fun _ => rfl) ?_
  refine Ev.nxk (mvO h3) ?_
  obtain ⟨r5, hx4, h⟩ := bind_some h
  refine Ev.nxck (Ev.call (v := .bool r5) rfl (cns rfl (cns rfl (cns rfl rfl))) rfl (spec_l00In_ok a1 0 100000 _ hx4) (fun h => nomatch (show false = true from h))) ?_
  refine Ev.nxk (mvO rfl) ?_
  refine Ev.rend ?_
  intro e6 he7
  have h8 : eget e6 2 = .bool r5 := envp he7 rfl rfl
  clear h3
  refine Ev.kseqN ?_
  refine Ev.ex ?_
  cases h
  exact Ev.kendR (resT h8 res0) rfl
/-! ### loop.example/g01263/impl.inOrder$1 (f76) -/
noncomputable def impl_inOrder_1 (a1 : Deal) (a2 : Deal) : Option Int :=
  some (IntKind.i64.wrap (a1.Day - a2.Day))
def impl_inOrder_1_enc (r : Int) : AV := .int .i64 r
theorem impl_inOrder_1_ok (a1 : Deal) (a2 : Deal) (r : Int) (h : impl_inOrder_1 a1 a2 = some r) : Ev (fun k => CN k 76 [.agg [.int .i64 a1.Day, .int .i8 a1.Kind, .int .i64 a1.Tally, .int .i64 a1.From, .int .i64 a1.To, .int .i64 a1.Amount], .agg [.int .i64 a2.Day, .int .i8 a2.Kind, .int .i64 a2.Tally, .int .i64 a2.From, .int .i64 a2.To, .int .i64 a2.Amount]] []) (fun p => rRes p.2 p.1 = impl_inOrder_1_enc r) := by
  unfold impl_inOrder_1 at h
  refine Ev.enter (F := fun k => f76 (CN k) k) (fun k => callN_eq rfl Try.func76 rfl rfl rfl (by decide +kernel) (f76_eq _ _)) ?_
  refine Ev.seq ?_
  refine Ev.reg (fun _ => rfl) ?_
  refine Ev.nxk (bxI rfl rfl ⟨rfl, rfl, by decide⟩) ?_
  refine Ev.nxk (bxI rfl rfl ⟨rfl, rfl, by decide⟩) ?_
  refine Ev.nxk (mvO rfl) ?_
  refine Ev.rend ?_
  intro e1 he2
  have h3 : eget e1 2 = .pt none [.int .i64 a1.Day, .int .i8 a1.Kind, .int .i64 a1.Tally, .int .i64 a1.From, .int .i64 a1.To, .int .i64 a1.Amount] := envp he2 rfl rfl
  have h4 : eget e1 3 = .pt none [.int .i64 a2.Day, .int .i8 a2.Kind, .int .i64 a2.Tally, .int .i64 a2.From, .int .i64 a2.To, .int .i64 a2.Amount] := envp he2 rfl rfl
  refine Ev.kseqN ?_
  refine Ev.seq ?_
  refine Ev.reg (fun _ => rfl) ?_
  refine Ev.nxk (faP h3 ⟨ble rfl, blt rfl⟩ rfl) ?_
  refine Ev.nxk (ldP rfl rfl) ?_
  refine Ev.nxk (faP h4 ⟨ble rfl, blt rfl⟩ rfl) ?_
  refine Ev.nxk (ldP rfl rfl) ?_
  refine Ev.nxk (bSub rfl rfl) ?_
  refine Ev.nxk (mvO rfl) ?_
  refine Ev.rend ?_
  intro e5 he6
  have h7 : eget e5 4 = .int .i64 (IntKind.i64.wrap (a1.Day - a2.Day)) := envp he6 rfl rfl
  clear h3 h4
  refine Ev.kseqN ?_
  refine Ev.ex ?_
  cases h
  exact Ev.kendR (resT h7 res0) rfl
/-! ### loop.example/g01263/impl.ValidDeal (f74) -/
def impl_ValidDeal_c1_Q (a1 : Deal) (g : Bool) (q : Out) : Prop := q.1 = .nrm ∧ eget q.2.1 1 = .pt none [.int .i64 a1.Day, .int .i8 a1.Kind, .int .i64 a1.Tally, .int .i64 a1.From, .int .i64 a1.To, .int .i64 a1.Amount] ∧ eget q.2.1 21 = .bool g
noncomputable def impl_ValidDeal (a1 : Deal) : Option Bool :=
  (if (decide (a1.Kind < 1)) = true then
    some true
  else
    if (decide (a1.Kind > 4)) = true then
      some true
    else
      (impl_isBookDay a1.Day).bind fun r15 =>
      some (!r15)).bind fun y22 =>
  if y22 = true then
    some false
  else
    (impl_uses a1.Kind).bind fun (r34, r35, r36, r37) =>
    (impl_ValidDeal_1 r34 a1.Tally 0 39).bind fun r47 =>
    if r47 = true then
      (impl_ValidDeal_1 r35 a1.From 0 15).bind fun r50 =>
      if r50 = true then
        (impl_ValidDeal_1 r36 a1.To 0 15).bind fun r53 =>
        if r53 = true then
          (impl_ValidDeal_1 r37 a1.Amount 1 100000000).bind fun r56 =>
          some r56
        else
          some false
      else
        some false
    else
      some false
def impl_ValidDeal_enc (r : Bool) : AV := .bool r
theorem impl_ValidDeal_ok (a1 : Deal) (r : Bool) (h : impl_ValidDeal a1 = some r) : Ev (fun k => CN k 74 [.agg [.int .i64 a1.Day, .int .i8 a1.Kind, .int .i64 a1.Tally, .int .i64 a1.From, .int .i64 a1.To, .int .i64 a1.Amount]] []) (fun p => rRes p.2 p.1 = impl_ValidDeal_enc r) := by
  unfold impl_ValidDeal at h
  refine Ev.enter (F := fun k => f74 (CN k) k) (fun k => callN_eq rfl Try.func74 rfl rfl rfl (by decide +kernel) (f74_eq _ _)) ?_
  refine Ev.seq ?_
  refine Ev.reg (fun _ => rfl) ?_
  refine Ev.nxk (bxI rfl rfl ⟨rfl, rfl, by decide⟩) ?_
  refine Ev.nxk (mvO rfl) ?_
  refine Ev.rend ?_
  intro e1 he2
  have h3 : eget e1 1 = .pt none [.int .i64 a1.Day, .int .i8 a1.Kind, .int .i64 a1.Tally, .int .i64 a1.From, .int .i64 a1.To, .int .i64 a1.Amount] := envp he2 rfl rfl
  refine Ev.kseqN ?_
  refine Ev.seq ?_
  refine Ev.seq ?_
  obtain ⟨r70, hr71, h⟩ := bind_some h
  refine Ev.cut (Q1 := impl_ValidDeal_c1_Q a1 r70) (by
      have h := hr71
      refine Ev.reg (fun _ => rfl) ?_
      refine Ev.nxk (faP h3 ⟨ble rfl, blt rfl⟩ rfl) ?_
      refine Ev.nxk (ldP rfl rfl) ?_
      refine Ev.nxk (bLss rfl rfl) ?_
      refine Ev.nxk (mvO rfl) ?_
      rcases ite_some h with ⟨hb4, h⟩ | ⟨hb4, h⟩
      · refine Ev.nxk (gsF rfl hb4) ?_
        refine Ev.nxk (gsF rfl hb4) ?_
        refine Ev.nxk (gsF rfl hb4) ?_
        refine Ev.nxk (pkT rfl hb4 rfl) ?_
        refine Ev.nxk (mvO rfl) ?_
        refine Ev.nxk (gsF rfl rfl) ?_
        refine Ev.nxk (gsF rfl rfl) ?_
        refine Ev.nxck (Ev.gsF rfl rfl) ?_
        refine Ev.nxk (gsF rfl rfl) ?_
        refine Ev.nxk (pkT rfl rfl rfl) ?_
        refine Ev.rend ?_
        intro e5 he6
        have h7 : eget e5 1 = .pt none [.int .i64 a1.Day, .int .i8 a1.Kind, .int .i64 a1.Tally, .int .i64 a1.From, .int .i64 a1.To, .int .i64 a1.Amount] := envp he6 rfl h3
        have h8 : eget e5 21 = .bool true := envp he6 rfl rfl
        clear h3
        cases h
        exact Ev.kid (show impl_ValidDeal_c1_Q a1 _ _ from (And.intro rfl (And.intro h7 h8)))
      · refine Ev.nxk (guF rfl hb4 (faP h3 ⟨ble rfl, blt rfl⟩ rfl)) ?_
        refine Ev.nxk (guF rfl hb4 (ldP rfl rfl)) ?_
        refine Ev.nxk (guF rfl hb4 (bGtr rfl rfl)) ?_
        refine Ev.nxk (pkF rfl hb4 rfl) ?_
        refine Ev.nxk (mvO rfl) ?_
        rcases ite_some h with ⟨hb9, h⟩ | ⟨hb9, h⟩
        · refine Ev.nxk (gsF rfl hb9) ?_
          refine Ev.nxk (gsF rfl hb9) ?_
          refine Ev.nxck (Ev.gsF rfl hb9) ?_
          refine Ev.nxk (gsF rfl hb9) ?_
          refine Ev.nxk (pkT rfl hb9 rfl) ?_
          refine Ev.rend ?_
          intro e10 he11
          have h12 : eget e10 1 = .pt none [.int .i64 a1.Day, .int .i8 a1.Kind, .int .i64 a1.Tally, .int .i64 a1.From, .int .i64 a1.To, .int .i64 a1.Amount] := envp he11 rfl h3
          have h13 : eget e10 21 = .bool true := envp he11 rfl rfl
          clear h3
          cases h
          exact Ev.kid (show impl_ValidDeal_c1_Q a1 _ _ from (And.intro rfl (And.intro h12 h13)))
        · refine Ev.nxk (guF rfl hb9 (faP h3 ⟨ble rfl, blt rfl⟩ rfl)) ?_
          refine Ev.nxk (guF rfl hb9 (ldP rfl rfl)) ?_
          obtain ⟨r15, hx14, h⟩ := bind_some h
          refine Ev.nxck (Ev.guF rfl hb9 (Ev.call (v := .bool r15) rfl (cns rfl rfl) rfl (impl_isBookDay_ok a1.Day _ hx14) (fun h => nomatch (show false = true from h)))) ?_
          refine Ev.nxk (guF rfl hb9 (uNot rfl)) ?_
          refine Ev.nxk (pkF rfl hb9 rfl) ?_
          refine Ev.rend ?_
          intro e16 he17
          have h18 : eget e16 1 = .pt none [.int .i64 a1.Day, .int .i8 a1.Kind, .int .i64 a1.Tally, .int .i64 a1.From, .int .i64 a1.To, .int .i64 a1.Amount] := envp he17 rfl h3
          have h19 : eget e16 21 = .bool (!r15) := envp he17 rfl rfl
          clear h3
          cases h
          exact Ev.kid (show impl_ValidDeal_c1_Q a1 _ _ from (And.intro rfl (And.intro h18 h19)))) ?_
  revert h hr71
  revert r70
  intro y22 hr71 h
  intro x e20 M21 hq69
  obtain ⟨rfl, h23, h24⟩ := hq69
  refine Ev.kseqN ?_
  rcases ite_some h with ⟨hb25, h⟩ | ⟨hb25, h⟩
  · refine Ev.condT h24 hb25 ?_
    refine Ev.seq ?_
    refine Ev.reg (fun _ => rfl) ?_
    refine Ev.nxk (mvO rfl) ?_
    refine Ev.rend ?_
    intro e26 he27
    have h28 : eget e26 2 = .bool false := envp he27 rfl rfl
    clear h23 h24
    refine Ev.kseqN ?_
    refine Ev.ex ?_
    refine Ev.kseqR ?_
    cases h
    exact Ev.kendR (resT h28 res0) rfl
  · refine Ev.condF h24 hb25 ?_
    refine Ev.ex ?_
    refine Ev.kseqN ?_
    refine Ev.seq ?_
    refine Ev.reg (fun _ => rfl) ?_
    refine Ev.nxk (mvO rfl) ?_
    refine Ev.rend ?_
    intro e29 he30
    have h31 : eget e29 1 = .pt none [.int .i64 a1.Day, .int .i8 a1.Kind, .int .i64 a1.Tally, .int .i64 a1.From, .int .i64 a1.To, .int .i64 a1.Amount] := envp he30 rfl h23
    have h32 : eget e29 3 = .fn 84 [] := envp he30 rfl rfl
    clear h23 h24
    refine Ev.kseqN ?_
    refine Ev.seq ?_
    refine Ev.reg (fun _ => rfl) ?_
    refine Ev.nxk (faP h31 ⟨ble rfl, blt rfl⟩ rfl) ?_
    refine Ev.nxk (ldP rfl rfl) ?_
    obtain ⟨⟨r34, r35, r36, r37⟩, hx33, h⟩ := bind_some h
    refine Ev.nxck (Ev.call (v := .tup [.bool r34, .bool r35, .bool r36, .bool r37]) rfl (cns rfl rfl) rfl (impl_uses_ok a1.Kind _ hx33) (fun h => nomatch (show false = true from h))) ?_
    refine Ev.nxk (mvO rfl) ?_
    refine Ev.nxk (exT rfl rfl) ?_
    refine Ev.nxk (exT rfl rfl) ?_
    refine Ev.nxk (exT rfl rfl) ?_
    refine Ev.nxk (exT rfl rfl) ?_
    refine Ev.nxk (mvO rfl) ?_
    refine Ev.nxk (mvO rfl) ?_
    refine Ev.nxk (mvO rfl) ?_
    refine Ev.nxk (mvO rfl) ?_
    refine Ev.rend ?_
    intro e38 he39
    have h40 : eget e38 1 = .pt none [.int .i64 a1.Day, .int .i8 a1.Kind, .int .i64 a1.Tally, .int .i64 a1.From, .int .i64 a1.To, .int .i64 a1.Amount] := envp he39 rfl h31
    have h41 : eget e38 3 = .fn 84 [] := envp he39 rfl h32
    have h42 : eget e38 4 = .bool r34 := envp he39 rfl rfl
    have h43 : eget e38 5 = .bool r35 := envp he39 rfl rfl
    have h44 : eget e38 6 = .bool r36 := envp he39 rfl rfl
    have h45 : eget e38 7 = .bool r37 := envp he39 rfl rfl
    clear h31 h32
    refine Ev.kseqN ?_
    refine Ev.seq ?_
    refine Ev.reg (fun _ => rfl) ?_
    refine Ev.nxk (mvO h41) ?_
    refine Ev.nxk (mvO h42) ?_
    refine Ev.nxk (faP h40 ⟨ble rfl, blt rfl⟩ rfl) ?_
    refine Ev.nxk (ldP rfl rfl) ?_
    obtain ⟨r47, hx46, h⟩ := bind_some h
    refine Ev.nxck (Ev.call (v := .bool r47) rfl (cns rfl (cns rfl (cns rfl (cns rfl rfl)))) rfl (impl_ValidDeal_1_ok r34 a1.Tally 0 39 _ hx46) (fun h => nomatch (show false = true from h))) ?_
    refine Ev.nxk (mvO rfl) ?_
    rcases ite_some h with ⟨hb48, h⟩ | ⟨hb48, h⟩
    · refine Ev.nxk (guT rfl hb48 (mvO h41)) ?_
      refine Ev.nxk (guT rfl hb48 (mvO h43)) ?_
      refine Ev.nxk (guT rfl hb48 (faP h40 ⟨ble rfl, blt rfl⟩ rfl)) ?_
      refine Ev.nxk (guT rfl hb48 (ldP rfl rfl)) ?_
      obtain ⟨r50, hx49, h⟩ := bind_some h
      refine Ev.nxck (Ev.guT rfl hb48 (Ev.call (v := .bool r50) rfl (cns rfl (cns rfl (cns rfl (cns rfl rfl)))) rfl (impl_ValidDeal_1_ok r35 a1.From 0 15 _ hx49) (fun h => nomatch (show false = true from h)))) ?_
      refine Ev.nxk (pkT rfl hb48 rfl) ?_
      refine Ev.nxk (mvO rfl) ?_
      rcases ite_some h with ⟨hb51, h⟩ | ⟨hb51, h⟩
      · refine Ev.nxk (guT rfl hb51 (mvO h41)) ?_
        refine Ev.nxk (guT rfl hb51 (mvO h44)) ?_
        refine Ev.nxk (guT rfl hb51 (faP h40 ⟨ble rfl, blt rfl⟩ rfl)) ?_
        refine Ev.nxk (guT rfl hb51 (ldP rfl rfl)) ?_
        obtain ⟨r53, hx52, h⟩ := bind_some h
        refine Ev.nxck (Ev.guT rfl hb51 (Ev.call (v := .bool r53) rfl (cns rfl (cns rfl (cns rfl (cns rfl rfl)))) rfl (impl_ValidDeal_1_ok r36 a1.To 0 15 _ hx52) (fun h => nomatch (show false = true from h)))) ?_
        refine Ev.nxk (pkT rfl hb51 rfl) ?_
        refine Ev.nxk (mvO rfl) ?_
        rcases ite_some h with ⟨hb54, h⟩ | ⟨hb54, h⟩
        · refine Ev.nxk (guT rfl hb54 (mvO h41)) ?_
          refine Ev.nxk (guT rfl hb54 (mvO h45)) ?_
          refine Ev.nxk (guT rfl hb54 (faP h40 ⟨ble rfl, blt rfl⟩ rfl)) ?_
          refine Ev.nxk (guT rfl hb54 (ldP rfl rfl)) ?_
          obtain ⟨r56, hx55, h⟩ := bind_some h
          refine Ev.nxck (Ev.guT rfl hb54 (Ev.call (v := .bool r56) rfl (cns rfl (cns rfl (cns rfl (cns rfl rfl)))) rfl (impl_ValidDeal_1_ok r37 a1.Amount 1 100000000 _ hx55) (fun h => nomatch (show false = true from h)))) ?_
          refine Ev.nxk (pkT rfl hb54 rfl) ?_
          refine Ev.nxk (mvO rfl) ?_
          refine Ev.rend ?_
          intro e57 he58
          have h59 : eget e57 2 = .bool r56 := envp he58 rfl rfl
          clear h40 h41 h42 h43 h44 h45
          refine Ev.kseqN ?_
          refine Ev.ex ?_
          cases h
          exact Ev.kendR (resT h59 res0) rfl
        · refine Ev.nxk (gsT rfl hb54) ?_
          refine Ev.nxk (gsT rfl hb54) ?_
          refine Ev.nxk (gsT rfl hb54) ?_
          refine Ev.nxk (gsT rfl hb54) ?_
          refine Ev.nxck (Ev.gsT rfl hb54) ?_
          refine Ev.nxk (pkF rfl hb54 rfl) ?_
          refine Ev.nxk (mvO rfl) ?_
          refine Ev.rend ?_
          intro e60 he61
          have h62 : eget e60 2 = .bool false := envp he61 rfl rfl
          clear h40 h41 h42 h43 h44 h45
          refine Ev.kseqN ?_
          refine Ev.ex ?_
          cases h
          exact Ev.kendR (resT h62 res0) rfl
      · refine Ev.nxk (gsT rfl hb51) ?_
        refine Ev.nxk (gsT rfl hb51) ?_
        refine Ev.nxk (gsT rfl hb51) ?_
        refine Ev.nxk (gsT rfl hb51) ?_
        refine Ev.nxck (Ev.gsT rfl hb51) ?_
        refine Ev.nxk (pkF rfl hb51 rfl) ?_
        refine Ev.nxk (mvO rfl) ?_
        refine Ev.nxk (gsT rfl rfl) ?_
        refine Ev.nxk (gsT rfl rfl) ?_
        refine Ev.nxk (gsT rfl rfl) ?_
        refine Ev.nxk (gsT rfl rfl) ?_
        refine Ev.nxck (Ev.gsT rfl rfl) ?_
        refine Ev.nxk (pkF rfl rfl rfl) ?_
        refine Ev.nxk (mvO rfl) ?_
        refine Ev.rend ?_
        intro e63 he64
        have h65 : eget e63 2 = .bool false := envp he64 rfl rfl
        clear h40 h41 h42 h43 h44 h45
        refine Ev.kseqN ?_
        refine Ev.ex ?_
        cases h
        exact Ev.kendR (resT h65 res0) rfl
    · refine Ev.nxk (gsT rfl hb48) ?_
      refine Ev.nxk (gsT rfl hb48) ?_
      refine Ev.nxk (gsT rfl hb48) ?_
      refine Ev.nxk (gsT rfl hb48) ?_
      refine Ev.nxck (Ev.gsT rfl hb48) ?_
      refine Ev.nxk (pkF rfl hb48 rfl) ?_
      refine Ev.nxk (mvO rfl) ?_
      refine Ev.nxk (gsT rfl rfl) ?_
      refine Ev.nxk (gsT rfl rfl) ?_
      refine Ev.nxk (gsT rfl rfl) ?_
      refine Ev.nxk (gsT rfl rfl) ?_
      refine Ev.nxck (Ev.gsT rfl rfl) ?_
      refine Ev.nxk (pkF rfl rfl rfl) ?_
      refine Ev.nxk (mvO rfl) ?_
      refine Ev.nxk (gsT rfl rfl) ?_
      refine Ev.nxk (gsT rfl rfl) ?_
      refine Ev.nxk (gsT rfl rfl) ?_
      refine Ev.nxk (gsT rfl rfl) ?_
      refine Ev.nxck (Ev.gsT rfl rfl) ?_
      refine Ev.nxk (pkF rfl rfl rfl) ?_
      refine Ev.nxk (mvO rfl) ?_
      refine Ev.rend ?_
      intro e66 he67
      have h68 : eget e66 2 = .bool false := envp he67 rfl rfl
      clear h40 h41 h42 h43 h44 h45
      refine Ev.kseqN ?_
      refine Ev.ex ?_
      cases h
      exact Ev.kendR (resT h68 res0) rfl
/-! ### loop.example/g01263/spec.l07Deal (f73) -/
noncomputable def spec_l07Deal (a1 : Deal) : Option Bool :=
  (spec_l00In a1.Tally 0 39).bind fun r5 =>
  (spec_l00In a1.From 0 15).bind fun r11 =>
  (spec_l00In a1.To 0 15).bind fun r18 =>
  (spec_l00In a1.Amount 1 100000000).bind fun r26 =>
  (spec_l07Day a1.Day).bind fun r35 =>
  if r35 = true then
    if (a1.Kind == 1) = true then
      if (a1.Tally == 0) = true then
        if r11 = true then
          if r18 = true then
            some r26
          else
            some false
        else
          some false
      else
        some false
    else
      if (a1.Kind == 2) = true then
        if r5 = true then
          if r11 = true then
            if r18 = true then
              some (a1.Amount == 0)
            else
              some false
          else
            some false
        else
          some false
      else
        if (a1.Kind == 3) = true then
          if r5 = true then
            if (a1.From == 0) = true then
              if (a1.To == 0) = true then
                some r26
              else
                some false
            else
              some false
          else
            some false
        else
          if (a1.Kind == 4) = true then
            if r5 = true then
              if r11 = true then
                if (a1.To == 0) = true then
                  some (a1.Amount == 0)
                else
                  some false
              else
                some false
            else
              some false
          else
            some false
  else
    some false
def spec_l07Deal_enc (r : Bool) : AV := .bool r
theorem spec_l07Deal_ok (a1 : Deal) (r : Bool) (h : spec_l07Deal a1 = some r) : Ev (fun k => CN k 73 [.pt none [.int .i64 a1.Day, .int .i8 a1.Kind, .int .i64 a1.Tally, .int .i64 a1.From, .int .i64 a1.To, .int .i64 a1.Amount]] []) (fun p => rRes p.2 p.1 = spec_l07Deal_enc r) := by
  unfold spec_l07Deal at h
  refine Ev.enter (F := fun k => f73 (CN k) k) (fun k => callN_eq rfl Try.func73 rfl rfl rfl (by decide +kernel) (f73_eq _ _)) ?_
  refine Ev.seq ?_
  refine Ev.reg (fun _ => rfl) ?_
  refine Ev.nxk (mvO rfl) ?_
  refine Ev.rend ?_
  intro e1 he2
  have h3 : eget e1 0 = .pt none [.int .i64 a1.Day, .int .i8 a1.Kind, .int .i64 a1.Tally, .int .i64 a1.From, .int .i64 a1.To, .int .i64 a1.Amount] := envp he2 rfl rfl
  refine Ev.kseqN ?_
  refine Ev.seq ?_
  refine Ev.reg (fun _ => rfl) ?_
  refine Ev.nxk (mvO h3) ?_
  refine Ev.nxk (ncP rfl) ?_
  refine Ev.nxk (faP rfl ⟨ble rfl, blt rfl⟩ rfl) ?_
  refine Ev.nxk (ldP rfl rfl) ?_
  obtain ⟨r5, hx4, h⟩ := bind_some h
  refine Ev.nxck (Ev.call (v := .bool r5) rfl (cns rfl (cns rfl (cns rfl rfl))) rfl (spec_l00In_ok a1.Tally 0 39 _ hx4) (fun h => nomatch (show false = true from h))) ?_
  refine Ev.nxk (mvO rfl) ?_
  refine Ev.rend ?_
  intro e6 he7
  have h8 : eget e6 0 = .pt none [.int .i64 a1.Day, .int .i8 a1.Kind, .int .i64 a1.Tally, .int .i64 a1.From, .int .i64 a1.To, .int .i64 a1.Amount] := envp he7 rfl h3
  have h9 : eget e6 3 = .bool r5 := envp he7 rfl rfl
  clear h3
  refine Ev.kseqN ?_
  refine Ev.seq ?_
  refine Ev.reg (fun _ => rfl) ?_
  refine Ev.nxk (mvO h8) ?_
  refine Ev.nxk (ncP rfl) ?_
  refine Ev.nxk (faP rfl ⟨ble rfl, blt rfl⟩ rfl) ?_
  refine Ev.nxk (ldP rfl rfl) ?_
  obtain ⟨r11, hx10, h⟩ := bind_some h
  refine Ev.nxck (Ev.call (v := .bool r11) rfl (cns rfl (cns rfl (cns rfl rfl))) rfl (spec_l00In_ok a1.From 0 15 _ hx10) (fun h => nomatch (show false = true from h))) ?_
  refine Ev.nxk (mvO rfl) ?_
  refine Ev.rend ?_
  intro e12 he13
  have h14 : eget e12 0 = .pt none [.int .i64 a1.Day, .int .i8 a1.Kind, .int .i64 a1.Tally, .int .i64 a1.From, .int .i64 a1.To, .int .i64 a1.Amount] := envp he13 rfl h8
  have h15 : eget e12 3 = .bool r5 := envp he13 rfl h9
  have h16 : eget e12 4 = .bool r11 := envp he13 rfl rfl
  clear h8 h9
  refine Ev.kseqN ?_
  refine Ev.seq ?_
  refine Ev.reg (fun _ => rfl) ?_
  refine Ev.nxk (mvO h14) ?_
  refine Ev.nxk (ncP rfl) ?_
  refine Ev.nxk (faP rfl ⟨ble rfl, blt rfl⟩ rfl) ?_
  refine Ev.nxk (ldP rfl rfl) ?_
  obtain ⟨r18, hx17, h⟩ := bind_some h
  refine Ev.nxck (Ev.call (v := .bool r18) rfl (cns rfl (cns rfl (cns rfl rfl))) rfl (spec_l00In_ok a1.To 0 15 _ hx17) (fun h => nomatch (show false = true from h))) ?_
  refine Ev.nxk (mvO rfl) ?_
  refine Ev.rend ?_
  intro e19 he20
  have h21 : eget e19 0 = .pt none [.int .i64 a1.Day, .int .i8 a1.Kind, .int .i64 a1.Tally, .int .i64 a1.From, .int .i64 a1.To, .int .i64 a1.Amount] := envp he20 rfl h14
  have h22 : eget e19 3 = .bool r5 := envp he20 rfl h15
  have h23 : eget e19 4 = .bool r11 := envp he20 rfl h16
  have h24 : eget e19 5 = .bool r18 := envp he20 rfl rfl
  clear h14 h15 h16
  refine Ev.kseqN ?_
  refine Ev.seq ?_
  refine Ev.reg (fun _ => rfl) ?_
  refine Ev.nxk (mvO h21) ?_
  refine Ev.nxk (ncP rfl) ?_
  refine Ev.nxk (faP rfl ⟨ble rfl, blt rfl⟩ rfl) ?_
  refine Ev.nxk (ldP rfl rfl) ?_
  obtain ⟨r26, hx25, h⟩ := bind_some h
  refine Ev.nxck (Ev.call (v := .bool r26) rfl (cns rfl (cns rfl (cns rfl rfl))) rfl (spec_l00In_ok a1.Amount 1 100000000 _ hx25) (fun h => nomatch (show false = true from h))) ?_
  refine Ev.nxk (mvO rfl) ?_
  refine Ev.rend ?_
  intro e27 he28
  have h29 : eget e27 0 = .pt none [.int .i64 a1.Day, .int .i8 a1.Kind, .int .i64 a1.Tally, .int .i64 a1.From, .int .i64 a1.To, .int .i64 a1.Amount] := envp he28 rfl h21
  have h30 : eget e27 3 = .bool r5 := envp he28 rfl h22
  have h31 : eget e27 4 = .bool r11 := envp he28 rfl h23
  have h32 : eget e27 5 = .bool r18 := envp he28 rfl h24
  have h33 : eget e27 6 = .bool r26 := envp he28 rfl rfl
  clear h21 h22 h23 h24
  refine Ev.kseqN ?_
  refine Ev.seq ?_
  refine Ev.seq ?_
  refine Ev.reg (fun _ => rfl) ?_
  refine Ev.nxk (mvO h29) ?_
  refine Ev.nxk (ncP rfl) ?_
  refine Ev.nxk (faP rfl ⟨ble rfl, blt rfl⟩ rfl) ?_
  refine Ev.nxk (ldP rfl rfl) ?_
  obtain ⟨r35, hx34, h⟩ := bind_some h
  refine Ev.nxck (Ev.call (v := .bool r35) rfl (cns rfl rfl) rfl (spec_l07Day_ok a1.Day _ hx34) (fun h => nomatch (show false = true from h))) ?_
  refine Ev.nxk (uNot rfl) ?_
  refine Ev.rend ?_
  intro e36 he37
  have h38 : eget e36 0 = .pt none [.int .i64 a1.Day, .int .i8 a1.Kind, .int .i64 a1.Tally, .int .i64 a1.From, .int .i64 a1.To, .int .i64 a1.Amount] := envp he37 rfl h29
  have h39 : eget e36 3 = .bool r5 := envp he37 rfl h30
  have h40 : eget e36 4 = .bool r11 := envp he37 rfl h31
  have h41 : eget e36 5 = .bool r18 := envp he37 rfl h32
  have h42 : eget e36 6 = .bool r26 := envp he37 rfl h33
  have h43 : eget e36 32 = .bool (!r35) := envp he37 rfl rfl
  clear h29 h30 h31 h32 h33
  refine Ev.kseqN ?_
  rcases ite_some h with ⟨hb44, h⟩ | ⟨hb44, h⟩
  · refine Ev.condF h43 (congrArg Bool.not hb44) ?_
    refine Ev.ex ?_
    refine Ev.kseqN ?_
    refine Ev.seq ?_
    refine Ev.seq ?_
    refine Ev.reg (fun _ => rfl) ?_
    refine Ev.nxk (mvO h38) ?_
    refine Ev.nxk (ncP rfl) ?_
    refine Ev.nxk (faP rfl ⟨ble rfl, blt rfl⟩ rfl) ?_
    refine Ev.nxk (ldP rfl rfl) ?_
    refine Ev.rend ?_
    intro e45 he46
    have h47 : eget e45 0 = .pt none [.int .i64 a1.Day, .int .i8 a1.Kind, .int .i64 a1.Tally, .int .i64 a1.From, .int .i64 a1.To, .int .i64 a1.Amount] := envp he46 rfl h38
    have h48 : eget e45 3 = .bool r5 := envp he46 rfl h39
    have h49 : eget e45 4 = .bool r11 := envp he46 rfl h40
    have h50 : eget e45 5 = .bool r18 := envp he46 rfl h41
    have h51 : eget e45 6 = .bool r26 := envp he46 rfl h42
    have h52 : eget e45 36 = .int .i8 a1.Kind := envp he46 rfl rfl
    clear h38 h39 h40 h41 h42 h43
    refine Ev.kseqN ?_
    refine Ev.blk ?_
    refine Ev.seq ?_
    refine Ev.reg (fun _ => rfl) ?_
    refine Ev.nxk (bEql h52 rfl) ?_
    refine Ev.nxk (mvO rfl) ?_
    refine Ev.rend ?_
    intro e53 he54
    have h55 : eget e53 0 = .pt none [.int .i64 a1.Day, .int .i8 a1.Kind, .int .i64 a1.Tally, .int .i64 a1.From, .int .i64 a1.To, .int .i64 a1.Amount] := envp he54 rfl h47
    have h56 : eget e53 3 = .bool r5 := envp he54 rfl h48
    have h57 : eget e53 4 = .bool r11 := envp he54 rfl h49
    have h58 : eget e53 5 = .bool r18 := envp he54 rfl h50
    have h59 : eget e53 6 = .bool r26 := envp he54 rfl h51
    have h60 : eget e53 36 = .int .i8 a1.Kind := envp he54 rfl h52
    have h61 : eget e53 37 = .bool (a1.Kind == 1) := envp he54 rfl rfl
    clear h47 h48 h49 h50 h51 h52
    refine Ev.kseqN ?_
    rcases ite_some h with ⟨hb62, h⟩ | ⟨hb62, h⟩
    · refine Ev.condT h61 hb62 ?_
      refine Ev.seq ?_
      refine Ev.reg (fun _ => rfl) ?_
      refine Ev.nxk (mvO h55) ?_
      refine Ev.nxk (ncP rfl) ?_
      refine Ev.nxk (faP rfl ⟨ble rfl, blt rfl⟩ rfl) ?_
      refine Ev.nxk (ldP rfl rfl) ?_
      refine Ev.nxk (bEql rfl rfl) ?_
      refine Ev.nxk (mvO rfl) ?_
      rcases ite_some h with ⟨hb63, h⟩ | ⟨hb63, h⟩
      · refine Ev.nxk (guT rfl hb63 (mvO h57)) ?_
        refine Ev.nxk (pkT rfl hb63 rfl) ?_
        refine Ev.nxk (mvO rfl) ?_
        rcases ite_some h with ⟨hb64, h⟩ | ⟨hb64, h⟩
        · refine Ev.nxk (guT rfl hb64 (mvO h58)) ?_
          refine Ev.nxk (pkT rfl hb64 rfl) ?_
          refine Ev.nxk (mvO rfl) ?_
          rcases ite_some h with ⟨hb65, h⟩ | ⟨hb65, h⟩
          · refine Ev.nxk (guT rfl hb65 (mvO h59)) ?_
            refine Ev.nxk (pkT rfl hb65 rfl) ?_
            refine Ev.nxk (mvO rfl) ?_
            refine Ev.rend ?_
            intro e66 he67
            have h68 : eget e66 2 = .bool r26 := envp he67 rfl rfl
            clear h55 h56 h57 h58 h59 h60 h61
            refine Ev.kseqN ?_
            refine Ev.ex ?_
            refine Ev.kblkR ?_
            refine Ev.kseqR ?_
            cases h
            exact Ev.kendR (resT h68 res0) rfl
          · refine Ev.nxk (gsT rfl hb65) ?_
            refine Ev.nxk (pkF rfl hb65 rfl) ?_
            refine Ev.nxk (mvO rfl) ?_
            refine Ev.rend ?_
            intro e69 he70
            have h71 : eget e69 2 = .bool false := envp he70 rfl rfl
            clear h55 h56 h57 h58 h59 h60 h61
            refine Ev.kseqN ?_
            refine Ev.ex ?_
            refine Ev.kblkR ?_
            refine Ev.kseqR ?_
            cases h
            exact Ev.kendR (resT h71 res0) rfl
        · refine Ev.nxk (gsT rfl hb64) ?_
          refine Ev.nxk (pkF rfl hb64 rfl) ?_
          refine Ev.nxk (mvO rfl) ?_
          refine Ev.nxk (gsT rfl rfl) ?_
          refine Ev.nxk (pkF rfl rfl rfl) ?_
          refine Ev.nxk (mvO rfl) ?_
          refine Ev.rend ?_
          intro e72 he73
          have h74 : eget e72 2 = .bool false := envp he73 rfl rfl
          clear h55 h56 h57 h58 h59 h60 h61
          refine Ev.kseqN ?_
          refine Ev.ex ?_
          refine Ev.kblkR ?_
          refine Ev.kseqR ?_
          cases h
          exact Ev.kendR (resT h74 res0) rfl
      · refine Ev.nxk (gsT rfl hb63) ?_
        refine Ev.nxk (pkF rfl hb63 rfl) ?_
        refine Ev.nxk (mvO rfl) ?_
        refine Ev.nxk (gsT rfl rfl) ?_
        refine Ev.nxk (pkF rfl rfl rfl) ?_
        refine Ev.nxk (mvO rfl) ?_
        refine Ev.nxk (gsT rfl rfl) ?_
        refine Ev.nxk (pkF rfl rfl rfl) ?_
        refine Ev.nxk (mvO rfl) ?_
        refine Ev.rend ?_
        intro e75 he76
        have h77 : eget e75 2 = .bool false := envp he76 rfl rfl
        clear h55 h56 h57 h58 h59 h60 h61
        refine Ev.kseqN ?_
        refine Ev.ex ?_
        refine Ev.kblkR ?_
        refine Ev.kseqR ?_
        cases h
        exact Ev.kendR (resT h77 res0) rfl
    · refine Ev.condF h61 hb62 ?_
      refine Ev.seq ?_
      refine Ev.reg (fun _ => rfl) ?_
      refine Ev.nxk (bEql h60 rfl) ?_
      refine Ev.nxk (mvO rfl) ?_
      refine Ev.rend ?_
      intro e78 he79
      have h80 : eget e78 0 = .pt none [.int .i64 a1.Day, .int .i8 a1.Kind, .int .i64 a1.Tally, .int .i64 a1.From, .int .i64 a1.To, .int .i64 a1.Amount] := envp he79 rfl h55
      have h81 : eget e78 3 = .bool r5 := envp he79 rfl h56
      have h82 : eget e78 4 = .bool r11 := envp he79 rfl h57
      have h83 : eget e78 5 = .bool r18 := envp he79 rfl h58
      have h84 : eget e78 6 = .bool r26 := envp he79 rfl h59
      have h85 : eget e78 36 = .int .i8 a1.Kind := envp he79 rfl h60
      have h86 : eget e78 53 = .bool (a1.Kind == 2) := envp he79 rfl rfl
      clear h55 h56 h57 h58 h59 h60 h61
      refine Ev.kseqN ?_
      rcases ite_some h with ⟨hb87, h⟩ | ⟨hb87, h⟩
      · refine Ev.condT h86 hb87 ?_
        refine Ev.seq ?_
        refine Ev.reg (fun _ => rfl) ?_
        refine Ev.nxk (mvO h81) ?_
        refine Ev.nxk (mvO rfl) ?_
        rcases ite_some h with ⟨hb88, h⟩ | ⟨hb88, h⟩
        · refine Ev.nxk (guT rfl hb88 (mvO h82)) ?_
          refine Ev.nxk (pkT rfl hb88 rfl) ?_
          refine Ev.nxk (mvO rfl) ?_
          rcases ite_some h with ⟨hb89, h⟩ | ⟨hb89, h⟩
          · refine Ev.nxk (guT rfl hb89 (mvO h83)) ?_
            refine Ev.nxk (pkT rfl hb89 rfl) ?_
            refine Ev.nxk (mvO rfl) ?_
            rcases ite_some h with ⟨hb90, h⟩ | ⟨hb90, h⟩
            · refine Ev.nxk (guT rfl hb90 (mvO h80)) ?_
              refine Ev.nxk (guT rfl hb90 (ncP rfl)) ?_
              refine Ev.nxk (guT rfl hb90 (faP rfl ⟨ble rfl, blt rfl⟩ rfl)) ?_
              refine Ev.nxk (guT rfl hb90 (ldP rfl rfl)) ?_
              refine Ev.nxk (guT rfl hb90 (bEql rfl rfl)) ?_
              refine Ev.nxk (pkT rfl hb90 rfl) ?_
              refine Ev.nxk (mvO rfl) ?_
              refine Ev.rend ?_
              intro e91 he92
              have h93 : eget e91 2 = .bool (a1.Amount == 0) := envp he92 rfl rfl
              clear h80 h81 h82 h83 h84 h85 h86
              refine Ev.kseqN ?_
              refine Ev.ex ?_
              refine Ev.kblkR ?_
              refine Ev.kseqR ?_
              cases h
              exact Ev.kendR (resT h93 res0) rfl
            · refine Ev.nxk (gsT rfl hb90) ?_
              refine Ev.nxk (gsT rfl hb90) ?_
              refine Ev.nxk (gsT rfl hb90) ?_
              refine Ev.nxk (gsT rfl hb90) ?_
              refine Ev.nxk (gsT rfl hb90) ?_
              refine Ev.nxk (pkF rfl hb90 rfl) ?_
              refine Ev.nxk (mvO rfl) ?_
              refine Ev.rend ?_
              intro e94 he95
              have h96 : eget e94 2 = .bool false := envp he95 rfl rfl
              clear h80 h81 h82 h83 h84 h85 h86
              refine Ev.kseqN ?_
              refine Ev.ex ?_
              refine Ev.kblkR ?_
              refine Ev.kseqR ?_
              cases h
              exact Ev.kendR (resT h96 res0) rfl
          · refine Ev.nxk (gsT rfl hb89) ?_
            refine Ev.nxk (pkF rfl hb89 rfl) ?_
            refine Ev.nxk (mvO rfl) ?_
            refine Ev.nxk (gsT rfl rfl) ?_
            refine Ev.nxk (gsT rfl rfl) ?_
            refine Ev.nxk (gsT rfl rfl) ?_
            refine Ev.nxk (gsT rfl rfl) ?_
            refine Ev.nxk (gsT rfl rfl) ?_
            refine Ev.nxk (pkF rfl rfl rfl) ?_
            refine Ev.nxk (mvO rfl) ?_
            refine Ev.rend ?_
            intro e97 he98
            have h99 : eget e97 2 = .bool false := envp he98 rfl rfl
            clear h80 h81 h82 h83 h84 h85 h86
            refine Ev.kseqN ?_
            refine Ev.ex ?_
            refine Ev.kblkR ?_
            refine Ev.kseqR ?_
            cases h
            exact Ev.kendR (resT h99 res0) rfl
        · refine Ev.nxk (gsT rfl hb88) ?_
          refine Ev.nxk (pkF rfl hb88 rfl) ?_
          refine Ev.nxk (mvO rfl) ?_
          refine Ev.nxk (gsT rfl rfl) ?_
          refine Ev.nxk (pkF rfl rfl rfl) ?_
          refine Ev.nxk (mvO rfl) ?_
          refine Ev.nxk (gsT rfl rfl) ?_
          refine Ev.nxk (gsT rfl rfl) ?_
          refine Ev.nxk (gsT rfl rfl) ?_
          refine Ev.nxk (gsT rfl rfl) ?_
          refine Ev.nxk (gsT rfl rfl) ?_
          refine Ev.nxk (pkF rfl rfl rfl) ?_
          refine Ev.nxk (mvO rfl) ?_
          refine Ev.rend ?_
          intro e100 he101
          have h102 : eget e100 2 = .bool false := envp he101 rfl rfl
          clear h80 h81 h82 h83 h84 h85 h86
          refine Ev.kseqN ?_
          refine Ev.ex ?_
          refine Ev.kblkR ?_
          refine Ev.kseqR ?_
          cases h
          exact Ev.kendR (resT h102 res0) rfl
      · refine Ev.condF h86 hb87 ?_
        refine Ev.seq ?_
        refine Ev.reg (fun _ => rfl) ?_
        refine Ev.nxk (bEql h85 rfl) ?_
        refine Ev.nxk (mvO rfl) ?_
        refine Ev.rend ?_
        intro e103 he104
        have h105 : eget e103 0 = .pt none [.int .i64 a1.Day, .int .i8 a1.Kind, .int .i64 a1.Tally, .int .i64 a1.From, .int .i64 a1.To, .int .i64 a1.Amount] := envp he104 rfl h80
        have h106 : eget e103 3 = .bool r5 := envp he104 rfl h81
        have h107 : eget e103 4 = .bool r11 := envp he104 rfl h82
        have h108 : eget e103 6 = .bool r26 := envp he104 rfl h84
        have h109 : eget e103 36 = .int .i8 a1.Kind := envp he104 rfl h85
        have h110 : eget e103 69 = .bool (a1.Kind == 3) := envp he104 rfl rfl
        clear h80 h81 h82 h83 h84 h85 h86
        refine Ev.kseqN ?_
        rcases ite_some h with ⟨hb111, h⟩ | ⟨hb111, h⟩
        · refine Ev.condT h110 hb111 ?_
          refine Ev.seq ?_
          refine Ev.reg (fun _ => rfl) ?_
          refine Ev.nxk (mvO h106) ?_
          refine Ev.nxk (mvO rfl) ?_
          rcases ite_some h with ⟨hb112, h⟩ | ⟨hb112, h⟩
          · refine Ev.nxk (guT rfl hb112 (mvO h105)) ?_
            refine Ev.nxk (guT rfl hb112 (ncP rfl)) ?_
            refine Ev.nxk (guT rfl hb112 (faP rfl ⟨ble rfl, blt rfl⟩ rfl)) ?_
            refine Ev.nxk (guT rfl hb112 (ldP rfl rfl)) ?_
            refine Ev.nxk (guT rfl hb112 (bEql rfl rfl)) ?_
            refine Ev.nxk (pkT rfl hb112 rfl) ?_
            refine Ev.nxk (mvO rfl) ?_
            rcases ite_some h with ⟨hb113, h⟩ | ⟨hb113, h⟩
            · refine Ev.nxk (guT rfl hb113 (mvO h105)) ?_
              refine Ev.nxk (guT rfl hb113 (ncP rfl)) ?_
              refine Ev.nxk (guT rfl hb113 (faP rfl ⟨ble rfl, blt rfl⟩ rfl)) ?_
              refine Ev.nxk (guT rfl hb113 (ldP rfl rfl)) ?_
              refine Ev.nxk (guT rfl hb113 (bEql rfl rfl)) ?_
              refine Ev.nxk (pkT rfl hb113 rfl) ?_
              refine Ev.nxk (mvO rfl) ?_
              rcases ite_some h with ⟨hb114, h⟩ | ⟨hb114, h⟩
              · refine Ev.nxk (guT rfl hb114 (mvO h108)) ?_
                refine Ev.nxk (pkT rfl hb114 rfl) ?_
                refine Ev.nxk (mvO rfl) ?_
                refine Ev.rend ?_
                intro e115 he116
                have h117 : eget e115 2 = .bool r26 := envp he116 rfl rfl
                clear h105 h106 h107 h108 h109 h110
                refine Ev.kseqN ?_
                refine Ev.ex ?_
                refine Ev.kblkR ?_
                refine Ev.kseqR ?_
                cases h
                exact Ev.kendR (resT h117 res0) rfl
              · refine Ev.nxk (gsT rfl hb114) ?_
                refine Ev.nxk (pkF rfl hb114 rfl) ?_
                refine Ev.nxk (mvO rfl) ?_
                refine Ev.rend ?_
                intro e118 he119
                have h120 : eget e118 2 = .bool false := envp he119 rfl rfl
                clear h105 h106 h107 h108 h109 h110
                refine Ev.kseqN ?_
                refine Ev.ex ?_
                refine Ev.kblkR ?_
                refine Ev.kseqR ?_
                cases h
                exact Ev.kendR (resT h120 res0) rfl
            · refine Ev.nxk (gsT rfl hb113) ?_
              refine Ev.nxk (gsT rfl hb113) ?_
              refine Ev.nxk (gsT rfl hb113) ?_
              refine Ev.nxk (gsT rfl hb113) ?_
              refine Ev.nxk (gsT rfl hb113) ?_
              refine Ev.nxk (pkF rfl hb113 rfl) ?_
              refine Ev.nxk (mvO rfl) ?_
              refine Ev.nxk (gsT rfl rfl) ?_
              refine Ev.nxk (pkF rfl rfl rfl) ?_
              refine Ev.nxk (mvO rfl) ?_
              refine Ev.rend ?_
              intro e121 he122
              have h123 : eget e121 2 = .bool false := envp he122 rfl rfl
              clear h105 h106 h107 h108 h109 h110
              refine Ev.kseqN ?_
              refine Ev.ex ?_
              refine Ev.kblkR ?_
              refine Ev.kseqR ?_
              cases h
              exact Ev.kendR (resT h123 res0) rfl
          · refine Ev.nxk (gsT rfl hb112) ?_
            refine Ev.nxk (gsT rfl hb112) ?_
            refine Ev.nxk (gsT rfl hb112) ?_
            refine Ev.nxk (gsT rfl hb112) ?_
            refine Ev.nxk (gsT rfl hb112) ?_
            refine Ev.nxk (pkF rfl hb112 rfl) ?_
            refine Ev.nxk (mvO rfl) ?_
            refine Ev.nxk (gsT rfl rfl) ?_
            refine Ev.nxk (gsT rfl rfl) ?_
            refine Ev.nxk (gsT rfl rfl) ?_
            refine Ev.nxk (gsT rfl rfl) ?_
            refine Ev.nxk (gsT rfl rfl) ?_
            refine Ev.nxk (pkF rfl rfl rfl) ?_
            refine Ev.nxk (mvO rfl) ?_
            refine Ev.nxk (gsT rfl rfl) ?_
            refine Ev.nxk (pkF rfl rfl rfl) ?_
            refine Ev.nxk (mvO rfl) ?_
            refine Ev.rend ?_
            intro e124 he125
            have h126 : eget e124 2 = .bool false := envp he125 rfl rfl
            clear h105 h106 h107 h108 h109 h110
            refine Ev.kseqN ?_
            refine Ev.ex ?_
            refine Ev.kblkR ?_
            refine Ev.kseqR ?_
            cases h
            exact Ev.kendR (resT h126 res0) rfl
        · refine Ev.condF h110 hb111 ?_
          refine Ev.seq ?_
          refine Ev.reg (fun _ => rfl) ?_
          refine Ev.nxk (bEql h109 rfl) ?_
          refine Ev.nxk (mvO rfl) ?_
          refine Ev.rend ?_
          intro e127 he128
          have h129 : eget e127 0 = .pt none [.int .i64 a1.Day, .int .i8 a1.Kind, .int .i64 a1.Tally, .int .i64 a1.From, .int .i64 a1.To, .int .i64 a1.Amount] := envp he128 rfl h105
          have h130 : eget e127 3 = .bool r5 := envp he128 rfl h106
          have h131 : eget e127 4 = .bool r11 := envp he128 rfl h107
          have h132 : eget e127 89 = .bool (a1.Kind == 4) := envp he128 rfl rfl
          clear h105 h106 h107 h108 h109 h110
          refine Ev.kseqN ?_
          rcases ite_some h with ⟨hb133, h⟩ | ⟨hb133, h⟩
          · refine Ev.condT h132 hb133 ?_
            refine Ev.seq ?_
            refine Ev.reg (fun _ => rfl) ?_
            refine Ev.nxk (mvO h130) ?_
            refine Ev.nxk (mvO rfl) ?_
            rcases ite_some h with ⟨hb134, h⟩ | ⟨hb134, h⟩
            · refine Ev.nxk (guT rfl hb134 (mvO h131)) ?_
              refine Ev.nxk (pkT rfl hb134 rfl) ?_
              refine Ev.nxk (mvO rfl) ?_
              rcases ite_some h with ⟨hb135, h⟩ | ⟨hb135, h⟩
              · refine Ev.nxk (guT rfl hb135 (mvO h129)) ?_
                refine Ev.nxk (guT rfl hb135 (ncP rfl)) ?_
                refine Ev.nxk (guT rfl hb135 (faP rfl ⟨ble rfl, blt rfl⟩ rfl)) ?_
                refine Ev.nxk (guT rfl hb135 (ldP rfl rfl)) ?_
                refine Ev.nxk (guT rfl hb135 (bEql rfl rfl)) ?_
                refine Ev.nxk (pkT rfl hb135 rfl) ?_
                refine Ev.nxk (mvO rfl) ?_
                rcases ite_some h with ⟨hb136, h⟩ | ⟨hb136, h⟩
                · refine Ev.nxk (guT rfl hb136 (mvO h129)) ?_
                  refine Ev.nxk (guT rfl hb136 (ncP rfl)) ?_
                  refine Ev.nxk (guT rfl hb136 (faP rfl ⟨ble rfl, blt rfl⟩ rfl)) ?_
                  refine Ev.nxk (guT rfl hb136 (ldP rfl rfl)) ?_
                  refine Ev.nxk (guT rfl hb136 (bEql rfl rfl)) ?_
                  refine Ev.nxk (pkT rfl hb136 rfl) ?_
                  refine Ev.nxk (mvO rfl) ?_
                  refine Ev.rend ?_
                  intro e137 he138
                  have h139 : eget e137 2 = .bool (a1.Amount == 0) := envp he138 rfl rfl
                  clear h129 h130 h131 h132
                  refine Ev.kseqN ?_
                  refine Ev.ex ?_
                  refine Ev.kblkR ?_
                  refine Ev.kseqR ?_
                  cases h
                  exact Ev.kendR (resT h139 res0) rfl
                · refine Ev.nxk (gsT rfl hb136) ?_
                  refine Ev.nxk (gsT rfl hb136) ?_
                  refine Ev.nxk (gsT rfl hb136) ?_
                  refine Ev.nxk (gsT rfl hb136) ?_
                  refine Ev.nxk (gsT rfl hb136) ?_
                  refine Ev.nxk (pkF rfl hb136 rfl) ?_
                  refine Ev.nxk (mvO rfl) ?_
                  refine Ev.rend ?_
                  intro e140 he141
                  have h142 : eget e140 2 = .bool false := envp he141 rfl rfl
                  clear h129 h130 h131 h132
                  refine Ev.kseqN ?_
                  refine Ev.ex ?_
                  refine Ev.kblkR ?_
                  refine Ev.kseqR ?_
                  cases h
                  exact Ev.kendR (resT h142 res0) rfl
              · refine Ev.nxk (gsT rfl hb135) ?_
                refine Ev.nxk (gsT rfl hb135) ?_
                refine Ev.nxk (gsT rfl hb135) ?_
                refine Ev.nxk (gsT rfl hb135) ?_
                refine Ev.nxk (gsT rfl hb135) ?_
                refine Ev.nxk (pkF rfl hb135 rfl) ?_
                refine Ev.nxk (mvO rfl) ?_
                refine Ev.nxk (gsT rfl rfl) ?_
                refine Ev.nxk (gsT rfl rfl) ?_
                refine Ev.nxk (gsT rfl rfl) ?_
                refine Ev.nxk (gsT rfl rfl) ?_
                refine Ev.nxk (gsT rfl rfl) ?_
                refine Ev.nxk (pkF rfl rfl rfl) ?_
                refine Ev.nxk (mvO rfl) ?_
                refine Ev.rend ?_
                intro e143 he144
                have h145 : eget e143 2 = .bool false := envp he144 rfl rfl
                clear h129 h130 h131 h132
                refine Ev.kseqN ?_
                refine Ev.ex ?_
                refine Ev.kblkR ?_
                refine Ev.kseqR ?_
                cases h
                exact Ev.kendR (resT h145 res0) rfl
            · refine Ev.nxk (gsT rfl hb134) ?_
              refine Ev.nxk (pkF rfl hb134 rfl) ?_
              refine Ev.nxk (mvO rfl) ?_
              refine Ev.nxk (gsT rfl rfl) ?_
              refine Ev.nxk (gsT rfl rfl) ?_
              refine Ev.nxk (gsT rfl rfl) ?_
              refine Ev.nxk (gsT rfl rfl) ?_
              refine Ev.nxk (gsT rfl rfl) ?_
              refine Ev.nxk (pkF rfl rfl rfl) ?_
              refine Ev.nxk (mvO rfl) ?_
              refine Ev.nxk (gsT rfl rfl) ?_
              refine Ev.nxk (gsT rfl rfl) ?_
              refine Ev.nxk (gsT rfl rfl) ?_
              refine Ev.nxk (gsT rfl rfl) ?_
              refine Ev.nxk (gsT rfl rfl) ?_
              refine Ev.nxk (pkF rfl rfl rfl) ?_
              refine Ev.nxk (mvO rfl) ?_
              refine Ev.rend ?_
              intro e146 he147
              have h148 : eget e146 2 = .bool false := envp he147 rfl rfl
              clear h129 h130 h131 h132
              refine Ev.kseqN ?_
              refine Ev.ex ?_
              refine Ev.kblkR ?_
              refine Ev.kseqR ?_
              cases h
              exact Ev.kendR (resT h148 res0) rfl
          · refine Ev.condF h132 hb133 ?_
            refine Ev.ex ?_
            refine Ev.kblkN ?_
            refine Ev.kseqN ?_
            refine Ev.seq ?_
            refine Ev.reg (fun _ => rfl) ?_
            refine Ev.nxk (mvO rfl) ?_
            refine Ev.rend ?_
            intro e149 he150
            have h151 : eget e149 2 = .bool false := envp he150 rfl rfl
            clear h129 h130 h131 h132
            refine Ev.kseqN ?_
            refine Ev.ex ?_
            cases h
            exact Ev.kendR (resT h151 res0) rfl
  · refine Ev.condT h43 (congrArg Bool.not hb44) ?_
    refine Ev.seq ?_
    refine Ev.reg (fun _ => rfl) ?_
    refine Ev.nxk (mvO rfl) ?_
    refine Ev.rend ?_
    intro e152 he153
    have h154 : eget e152 2 = .bool false := envp he153 rfl rfl
    clear h38 h39 h40 h41 h42 h43
    refine Ev.kseqN ?_
    refine Ev.ex ?_
    refine Ev.kseqR ?_
    cases h
    exact Ev.kendR (resT h154 res0) rfl
/-! ### loop.example/g01263/laws.eqDeal (f54) -/
noncomputable def laws_eqDeal (a1 : Deal) (a2 : Deal) : Option Bool :=
  if (a1.Day != a2.Day) = true then
    some false
  else
    if (a1.Kind != a2.Kind) = true then
      some false
    else
      if (a1.Tally != a2.Tally) = true then
        some false
      else
        if (a1.From != a2.From) = true then
          some false
        else
          if (a1.To != a2.To) = true then
            some false
          else
            if (a1.Amount != a2.Amount) = true then
              some false
            else
              some true
def laws_eqDeal_enc (r : Bool) : AV := .bool r
theorem laws_eqDeal_ok (a1 : Deal) (a2 : Deal) (r : Bool) (h : laws_eqDeal a1 a2 = some r) : Ev (fun k => CN k 54 [.agg [.int .i64 a1.Day, .int .i8 a1.Kind, .int .i64 a1.Tally, .int .i64 a1.From, .int .i64 a1.To, .int .i64 a1.Amount], .agg [.int .i64 a2.Day, .int .i8 a2.Kind, .int .i64 a2.Tally, .int .i64 a2.From, .int .i64 a2.To, .int .i64 a2.Amount]] []) (fun p => rRes p.2 p.1 = laws_eqDeal_enc r) := by
  unfold laws_eqDeal at h
  refine Ev.enter (F := fun k => f54 (CN k) k) (fun k => callN_eq rfl Try.func54 rfl rfl rfl (by decide +kernel) (f54_eq _ _)) ?_
  refine Ev.seq ?_
  refine Ev.reg (fun _ => rfl) ?_
  refine Ev.nxk (bxI rfl rfl ⟨rfl, rfl, by decide⟩) ?_
  refine Ev.nxk (bxI rfl rfl ⟨rfl, rfl, by decide⟩) ?_
  refine Ev.nxk (mvO rfl) ?_
  refine Ev.rend ?_
  intro e1 he2
  have h3 : eget e1 2 = .pt none [.int .i64 a1.Day, .int .i8 a1.Kind, .int .i64 a1.Tally, .int .i64 a1.From, .int .i64 a1.To, .int .i64 a1.Amount] := envp he2 rfl rfl
  have h4 : eget e1 3 = .pt none [.int .i64 a2.Day, .int .i8 a2.Kind, .int .i64 a2.Tally, .int .i64 a2.From, .int .i64 a2.To, .int .i64 a2.Amount] := envp he2 rfl rfl
  refine Ev.kseqN ?_
  refine Ev.seq ?_
  refine Ev.seq ?_
  refine Ev.reg (fun _ => rfl) ?_
  refine Ev.nxk (faP h3 ⟨ble rfl, blt rfl⟩ rfl) ?_
  refine Ev.nxk (ldP rfl rfl) ?_
  refine Ev.nxk (faP h4 ⟨ble rfl, blt rfl⟩ rfl) ?_
  refine Ev.nxk (ldP rfl rfl) ?_
  refine Ev.nxk (bNeq rfl rfl) ?_
  refine Ev.rend ?_
  intro e5 he6
  have h7 : eget e5 2 = .pt none [.int .i64 a1.Day, .int .i8 a1.Kind, .int .i64 a1.Tally, .int .i64 a1.From, .int .i64 a1.To, .int .i64 a1.Amount] := envp he6 rfl h3
  have h8 : eget e5 3 = .pt none [.int .i64 a2.Day, .int .i8 a2.Kind, .int .i64 a2.Tally, .int .i64 a2.From, .int .i64 a2.To, .int .i64 a2.Amount] := envp he6 rfl h4
  have h9 : eget e5 9 = .bool (a1.Day != a2.Day) := envp he6 rfl rfl
  clear h3 h4
  refine Ev.kseqN ?_
  rcases ite_some h with ⟨hb10, h⟩ | ⟨hb10, h⟩
  · refine Ev.condT h9 hb10 ?_
    refine Ev.seq ?_
    refine Ev.reg (fun _ => rfl) ?_
    refine Ev.nxk (mvO rfl) ?_
    refine Ev.rend ?_
    intro e11 he12
    have h13 : eget e11 4 = .bool false := envp he12 rfl rfl
    clear h7 h8 h9
    refine Ev.kseqN ?_
    refine Ev.ex ?_
    refine Ev.kseqR ?_
    cases h
    exact Ev.kendR (resT h13 res0) rfl
  · refine Ev.condF h9 hb10 ?_
    refine Ev.ex ?_
    refine Ev.kseqN ?_
    refine Ev.seq ?_
    refine Ev.seq ?_
    refine Ev.reg (fun _ => rfl) ?_
    refine Ev.nxk (faP h7 ⟨ble rfl, blt rfl⟩ rfl) ?_
    refine Ev.nxk (ldP rfl rfl) ?_
    refine Ev.nxk (faP h8 ⟨ble rfl, blt rfl⟩ rfl) ?_
    refine Ev.nxk (ldP rfl rfl) ?_
    refine Ev.nxk (bNeq rfl rfl) ?_
    refine Ev.rend ?_
    intro e14 he15
    have h16 : eget e14 2 = .pt none [.int .i64 a1.Day, .int .i8 a1.Kind, .int .i64 a1.Tally, .int .i64 a1.From, .int .i64 a1.To, .int .i64 a1.Amount] := envp he15 rfl h7
    have h17 : eget e14 3 = .pt none [.int .i64 a2.Day, .int .i8 a2.Kind, .int .i64 a2.Tally, .int .i64 a2.From, .int .i64 a2.To, .int .i64 a2.Amount] := envp he15 rfl h8
    have h18 : eget e14 14 = .bool (a1.Kind != a2.Kind) := envp he15 rfl rfl
    clear h7 h8 h9
    refine Ev.kseqN ?_
    rcases ite_some h with ⟨hb19, h⟩ | ⟨hb19, h⟩
    · refine Ev.condT h18 hb19 ?_
      refine Ev.seq ?_
      refine Ev.reg (fun _ => rfl) ?_
      refine Ev.nxk (mvO rfl) ?_
      refine Ev.rend ?_
      intro e20 he21
      have h22 : eget e20 4 = .bool false := envp he21 rfl rfl
      clear h16 h17 h18
      refine Ev.kseqN ?_
      refine Ev.ex ?_
      refine Ev.kseqR ?_
      cases h
      exact Ev.kendR (resT h22 res0) rfl
    · refine Ev.condF h18 hb19 ?_
      refine Ev.ex ?_
      refine Ev.kseqN ?_
      refine Ev.seq ?_
      refine Ev.seq ?_
      refine Ev.reg (fun _ => rfl) ?_
      refine Ev.nxk (faP h16 ⟨ble rfl, blt rfl⟩ rfl) ?_
      refine Ev.nxk (ldP rfl rfl) ?_
      refine Ev.nxk (faP h17 ⟨ble rfl, blt rfl⟩ rfl) ?_
      refine Ev.nxk (ldP rfl rfl) ?_
      refine Ev.nxk (bNeq rfl rfl) ?_
      refine Ev.rend ?_
      intro e23 he24
      have h25 : eget e23 2 = .pt none [.int .i64 a1.Day, .int .i8 a1.Kind, .int .i64 a1.Tally, .int .i64 a1.From, .int .i64 a1.To, .int .i64 a1.Amount] := envp he24 rfl h16
      have h26 : eget e23 3 = .pt none [.int .i64 a2.Day, .int .i8 a2.Kind, .int .i64 a2.Tally, .int .i64 a2.From, .int .i64 a2.To, .int .i64 a2.Amount] := envp he24 rfl h17
      have h27 : eget e23 19 = .bool (a1.Tally != a2.Tally) := envp he24 rfl rfl
      clear h16 h17 h18
      refine Ev.kseqN ?_
      rcases ite_some h with ⟨hb28, h⟩ | ⟨hb28, h⟩
      · refine Ev.condT h27 hb28 ?_
        refine Ev.seq ?_
        refine Ev.reg (fun _ => rfl) ?_
        refine Ev.nxk (mvO rfl) ?_
        refine Ev.rend ?_
        intro e29 he30
        have h31 : eget e29 4 = .bool false := envp he30 rfl rfl
        clear h25 h26 h27
        refine Ev.kseqN ?_
        refine Ev.ex ?_
        refine Ev.kseqR ?_
        cases h
        exact Ev.kendR (resT h31 res0) rfl
      · refine Ev.condF h27 hb28 ?_
        refine Ev.ex ?_
        refine Ev.kseqN ?_
        refine Ev.seq ?_
        refine Ev.seq ?_
        refine Ev.reg (fun _ => rfl) ?_
        refine Ev.nxk (faP h25 ⟨ble rfl, blt rfl⟩ rfl) ?_
        refine Ev.nxk (ldP rfl rfl) ?_
        refine Ev.nxk (faP h26 ⟨ble rfl, blt rfl⟩ rfl) ?_
        refine Ev.nxk (ldP rfl rfl) ?_
        refine Ev.nxk (bNeq rfl rfl) ?_
        refine Ev.rend ?_
        intro e32 he33
        have h34 : eget e32 2 = .pt none [.int .i64 a1.Day, .int .i8 a1.Kind, .int .i64 a1.Tally, .int .i64 a1.From, .int .i64 a1.To, .int .i64 a1.Amount] := envp he33 rfl h25
        have h35 : eget e32 3 = .pt none [.int .i64 a2.Day, .int .i8 a2.Kind, .int .i64 a2.Tally, .int .i64 a2.From, .int .i64 a2.To, .int .i64 a2.Amount] := envp he33 rfl h26
        have h36 : eget e32 24 = .bool (a1.From != a2.From) := envp he33 rfl rfl
        clear h25 h26 h27
        refine Ev.kseqN ?_
        rcases ite_some h with ⟨hb37, h⟩ | ⟨hb37, h⟩
        · refine Ev.condT h36 hb37 ?_
          refine Ev.seq ?_
          refine Ev.reg (fun _ => rfl) ?_
          refine Ev.nxk (mvO rfl) ?_
          refine Ev.rend ?_
          intro e38 he39
          have h40 : eget e38 4 = .bool false := envp he39 rfl rfl
          clear h34 h35 h36
          refine Ev.kseqN ?_
          refine Ev.ex ?_
          refine Ev.kseqR ?_
          cases h
          exact Ev.kendR (resT h40 res0) rfl
        · refine Ev.condF h36 hb37 ?_
          refine Ev.ex ?_
          refine Ev.kseqN ?_
          refine Ev.seq ?_
          refine Ev.seq ?_
          refine Ev.reg (fun _ => rfl) ?_
          refine Ev.nxk (faP h34 ⟨ble rfl, blt rfl⟩ rfl) ?_
          refine Ev.nxk (ldP rfl rfl) ?_
          refine Ev.nxk (faP h35 ⟨ble rfl, blt rfl⟩ rfl) ?_
          refine Ev.nxk (ldP rfl rfl) ?_
          refine Ev.nxk (bNeq rfl rfl) ?_
          refine Ev.rend ?_
          intro e41 he42
          have h43 : eget e41 2 = .pt none [.int .i64 a1.Day, .int .i8 a1.Kind, .int .i64 a1.Tally, .int .i64 a1.From, .int .i64 a1.To, .int .i64 a1.Amount] := envp he42 rfl h34
          have h44 : eget e41 3 = .pt none [.int .i64 a2.Day, .int .i8 a2.Kind, .int .i64 a2.Tally, .int .i64 a2.From, .int .i64 a2.To, .int .i64 a2.Amount] := envp he42 rfl h35
          have h45 : eget e41 29 = .bool (a1.To != a2.To) := envp he42 rfl rfl
          clear h34 h35 h36
          refine Ev.kseqN ?_
          rcases ite_some h with ⟨hb46, h⟩ | ⟨hb46, h⟩
          · refine Ev.condT h45 hb46 ?_
            refine Ev.seq ?_
            refine Ev.reg (fun _ => rfl) ?_
            refine Ev.nxk (mvO rfl) ?_
            refine Ev.rend ?_
            intro e47 he48
            have h49 : eget e47 4 = .bool false := envp he48 rfl rfl
            clear h43 h44 h45
            refine Ev.kseqN ?_
            refine Ev.ex ?_
            refine Ev.kseqR ?_
            cases h
            exact Ev.kendR (resT h49 res0) rfl
          · refine Ev.condF h45 hb46 ?_
            refine Ev.ex ?_
            refine Ev.kseqN ?_
            refine Ev.seq ?_
            refine Ev.seq ?_
            refine Ev.reg (fun _ => rfl) ?_
            refine Ev.nxk (faP h43 ⟨ble rfl, blt rfl⟩ rfl) ?_
            refine Ev.nxk (ldP rfl rfl) ?_
            refine Ev.nxk (faP h44 ⟨ble rfl, blt rfl⟩ rfl) ?_
            refine Ev.nxk (ldP rfl rfl) ?_
            refine Ev.nxk (bNeq rfl rfl) ?_
            refine Ev.rend ?_
            intro e50 he51
            have h52 : eget e50 34 = .bool (a1.Amount != a2.Amount) := envp he51 rfl rfl
            clear h43 h44 h45
            refine Ev.kseqN ?_
            rcases ite_some h with ⟨hb53, h⟩ | ⟨hb53, h⟩
            · refine Ev.condT h52 hb53 ?_
              refine Ev.seq ?_
              refine Ev.reg (fun _ => rfl) ?_
              refine Ev.nxk (mvO rfl) ?_
              refine Ev.rend ?_
              intro e54 he55
              have h56 : eget e54 4 = .bool false := envp he55 rfl rfl
              clear h52
              refine Ev.kseqN ?_
              refine Ev.ex ?_
              refine Ev.kseqR ?_
              cases h
              exact Ev.kendR (resT h56 res0) rfl
            · refine Ev.condF h52 hb53 ?_
              refine Ev.ex ?_
              refine Ev.kseqN ?_
              refine Ev.seq ?_
              refine Ev.reg (fun _ => rfl) ?_
              refine Ev.nxk (mvO rfl) ?_
              refine Ev.rend ?_
              intro e57 he58
              have h59 : eget e57 4 = .bool true := envp he58 rfl rfl
              clear h52
              refine Ev.kseqN ?_
              refine Ev.ex ?_
              cases h
              exact Ev.kendR (resT h59 res0) rfl
/-! ### slices.IsSortedFunc[[]loop.example/g01263/impl.Deal,loop.example/g01263/impl.Deal] (f75) -/
abbrev slices_IsSortedFunc_Deal__impl_inOrder_1_b1_S := Int
abbrev slices_IsSortedFunc_Deal__impl_inOrder_1_b1_R := Unit ⊕ Unit
def slices_IsSortedFunc_Deal__impl_inOrder_1_b1_RS (a1 : List Deal) (s : slices_IsSortedFunc_Deal__impl_inOrder_1_b1_S) (e : Env) (M : Mem) : Prop := eget e 0 = .sl none (a1.map Deal.c) ∧ eget e 1 = .fn 76 [] ∧ eget e 5 = .int .i64 s
def slices_IsSortedFunc_Deal__impl_inOrder_1_b1_RR (a1 : List Deal) (r : slices_IsSortedFunc_Deal__impl_inOrder_1_b1_R) (x : Ex) (e : Env) (M : Mem) : Prop :=
  match r with
  | (.inl g) => x = .ret ∧ eget e 4 = .bool false
  | (.inr g) => x = .ext 0 ∧ True
noncomputable def slices_IsSortedFunc_Deal__impl_inOrder_1_b1 (a1 : List Deal) : slices_IsSortedFunc_Deal__impl_inOrder_1_b1_S → Option (slices_IsSortedFunc_Deal__impl_inOrder_1_b1_S ⊕ slices_IsSortedFunc_Deal__impl_inOrder_1_b1_R) := fun s1_1 =>
  if (decide (s1_1 > 0)) = true then
    (rd a1 s1_1).bind fun x33 =>
    (rd a1 (IntKind.i64.wrap (s1_1 - 1))).bind fun x35 =>
    (impl_inOrder_1 x33 x35).bind fun r38 =>
    if (decide (r38 < 0)) = true then
      some (.inr (.inl ()))
    else
      some (.inl (IntKind.i64.wrap (s1_1 - 1)))
  else
    some (.inr (.inr ()))
theorem slices_IsSortedFunc_Deal__impl_inOrder_1_b1_ok (a1 : List Deal) (s : slices_IsSortedFunc_Deal__impl_inOrder_1_b1_S) (r : slices_IsSortedFunc_Deal__impl_inOrder_1_b1_S ⊕ slices_IsSortedFunc_Deal__impl_inOrder_1_b1_R) (h : slices_IsSortedFunc_Deal__impl_inOrder_1_b1 a1 s = some r) (e : Env) (M : Mem) (hs : slices_IsSortedFunc_Deal__impl_inOrder_1_b1_RS a1 s e M) : Ev (fun k => (f75_l2 (CN k) k (prune [0, 1, 5] e) M).bind fun q => some q) (bQ (slices_IsSortedFunc_Deal__impl_inOrder_1_b1_RS a1) (slices_IsSortedFunc_Deal__impl_inOrder_1_b1_RR a1) r) := by
  revert h hs
  revert s
  intro s1_1 h hs
  unfold slices_IsSortedFunc_Deal__impl_inOrder_1_b1 at h
  obtain ⟨h20, h22, h24⟩ := hs
  generalize he19 : prune [0, 1, 5] e = e18
  have h21 := envp he19.symm rfl h20
  have h23 := envp he19.symm rfl h22
  have h25 := envp he19.symm rfl h24
  refine Ev.seq ?_
  refine Ev.seq ?_
  refine Ev.reg (fun _ => rfl) ?_
  refine Ev.nxk (mvO h25) ?_
  refine Ev.nxk (bGtr rfl rfl) ?_
  refine Ev.rend ?_
  intro e26 he27
  have h28 : eget e26 0 = .sl none (a1.map Deal.c) := envp he27 rfl h21
  have h29 : eget e26 1 = .fn 76 [] := envp he27 rfl h23
  have h30 : eget e26 5 = .int .i64 s1_1 := envp he27 rfl h25
  have h31 : eget e26 10 = .bool (decide (s1_1 > 0)) := envp he27 rfl rfl
  clear h21 h23 h25
  refine Ev.kseqN ?_
  rcases ite_some h with ⟨hb32, h⟩ | ⟨hb32, h⟩
  · refine Ev.condT h31 hb32 ?_
    refine Ev.ex ?_
    refine Ev.kseqN ?_
    refine Ev.seq ?_
    refine Ev.blk ?_
    refine Ev.seq ?_
    refine Ev.regD (fun _ => rfl) ?_
    refine Ev.nfk (mvO h29) ?_
    refine Ev.nfk (mvO h28) ?_
    refine Ev.nfk (mvO h30) ?_
    obtain ⟨x33, hx34, h⟩ := bind_some h
    refine Ev.nfk (ixS rfl rfl hx34 Deal.fl) ?_
    refine Ev.nfk (ldPA rfl rfl rfl) ?_
    refine Ev.nfk (mvO h28) ?_
    refine Ev.nfk (mvO h30) ?_
    refine Ev.nfk (bSub rfl rfl) ?_
    obtain ⟨x35, hx36, h⟩ := bind_some h
    refine Ev.nfk (ixS rfl rfl hx36 Deal.fl) ?_
    refine Ev.nfk (ldPA rfl rfl rfl) ?_
    obtain ⟨r38, hx37, h⟩ := bind_some h
    refine Ev.nfc (Ev.call (v := .int .i64 r38) rfl (cns rfl (cns rfl rfl)) rfl (impl_inOrder_1_ok x33 x35 _ hx37) (fun h => nomatch (show false = true from h))) ?_
    refine Ev.nfk (bLss rfl rfl) ?_
    refine Ev.fend0 ?_
    refine Ev.rend ?_
    intro e39 he40
    have h41 : eget e39 0 = .sl none (a1.map Deal.c) := envp he40 rfl h28
    have h42 : eget e39 1 = .fn 76 [] := envp he40 rfl h29
    have h43 : eget e39 5 = .int .i64 s1_1 := envp he40 rfl h30
    have h44 : eget e39 24 = .bool (decide (r38 < 0)) := envp he40 rfl rfl
    clear h28 h29 h30 h31
    refine Ev.kseqN ?_
    rcases ite_some h with ⟨hb45, h⟩ | ⟨hb45, h⟩
    · refine Ev.condT h44 hb45 ?_
      refine Ev.seq ?_
      refine Ev.reg (fun _ => rfl) ?_
      refine Ev.nxk (mvO rfl) ?_
      refine Ev.rend ?_
      intro e46 he47
      have h48 : eget e46 4 = .bool false := envp he47 rfl rfl
      clear h41 h42 h43 h44
      refine Ev.kseqN ?_
      refine Ev.ex ?_
      refine Ev.kblkR ?_
      refine Ev.kseqR ?_
      cases h
      exact Ev.kid (bQ_x (RS := (slices_IsSortedFunc_Deal__impl_inOrder_1_b1_RS a1)) (RR := (slices_IsSortedFunc_Deal__impl_inOrder_1_b1_RR a1)) (by intro h; cases h) (And.intro rfl h48))
    · refine Ev.condF h44 hb45 ?_
      refine Ev.ex ?_
      refine Ev.kblkN ?_
      refine Ev.kseqN ?_
      refine Ev.reg (fun _ => rfl) ?_
      refine Ev.nxk (mvO h43) ?_
      refine Ev.nxk (bSub rfl rfl) ?_
      refine Ev.nxk (mvO rfl) ?_
      refine Ev.rend ?_
      intro e49 he50
      have h51 : eget e49 0 = .sl none (a1.map Deal.c) := envp he50 rfl h41
      have h52 : eget e49 1 = .fn 76 [] := envp he50 rfl h42
      have h53 : eget e49 5 = .int .i64 (IntKind.i64.wrap (s1_1 - 1)) := envp he50 rfl rfl
      clear h41 h42 h44
      cases h
      exact Ev.kid (bQ_n (RS := (slices_IsSortedFunc_Deal__impl_inOrder_1_b1_RS a1)) (RR := (slices_IsSortedFunc_Deal__impl_inOrder_1_b1_RR a1)) (And.intro h51 (And.intro h52 h53)))
  · refine Ev.condF h31 hb32 ?_
    refine Ev.ex ?_
    refine Ev.kseqE ?_
    cases h
    exact Ev.kid (bQ_x (RS := (slices_IsSortedFunc_Deal__impl_inOrder_1_b1_RS a1)) (RR := (slices_IsSortedFunc_Deal__impl_inOrder_1_b1_RR a1)) (by intro h; cases h) (And.intro rfl trivial))
noncomputable def slices_IsSortedFunc_Deal__impl_inOrder_1 (a1 : List Deal) : Option Bool :=
  (Lw (slices_IsSortedFunc_Deal__impl_inOrder_1_b1 a1) (IntKind.i64.wrap ((a1.length : Int) - 1))).bind fun r => match r with
  | (.inl _) =>
    some false
  | (.inr _) =>
    some true
def slices_IsSortedFunc_Deal__impl_inOrder_1_enc (r : Bool) : AV := .bool r
theorem slices_IsSortedFunc_Deal__impl_inOrder_1_ok (a1 : List Deal) (r : Bool) (h : slices_IsSortedFunc_Deal__impl_inOrder_1 a1 = some r) : Ev (fun k => CN k 75 [.sl none (a1.map Deal.c), .fn 76 []] []) (fun p => rRes p.2 p.1 = slices_IsSortedFunc_Deal__impl_inOrder_1_enc r) := by
  unfold slices_IsSortedFunc_Deal__impl_inOrder_1 at h
  refine Ev.enter (F := fun k => f75 (CN k) k) (fun k => callN_eq rfl Try.func75 rfl rfl rfl (by decide +kernel) (f75_eq _ _)) ?_
  refine Ev.seq ?_
  refine Ev.reg (fun _ => rfl) ?_
  refine Ev.nxk (mvO rfl) ?_
  refine Ev.rend ?_
  intro e1 he2
  have h3 : eget e1 0 = .sl none (a1.map Deal.c) := envp he2 rfl rfl
  have h4 : eget e1 1 = .fn 76 [] := envp he2 rfl rfl
  refine Ev.kseqN ?_
  refine Ev.seq ?_
  refine Ev.seq ?_
  refine Ev.reg (fun _ => rfl) ?_
  refine Ev.nxk (mvO h3) ?_
  refine Ev.nxk (lnS Try.underlying56 rfl) ?_
  refine Ev.nxk (bSub rfl rfl) ?_
  refine Ev.nxk (mvO rfl) ?_
  refine Ev.rend ?_
  intro e5 he6
  have h7 : eget e5 0 = .sl none (a1.map Deal.c) := envp he6 rfl h3
  have h8 : eget e5 1 = .fn 76 [] := envp he6 rfl h4
  have h9 : eget e5 5 = .int .i64 (IntKind.i64.wrap ((a1.length : Int) - 1)) := envp he6 rfl rfl
  clear h3 h4
  refine Ev.kseqN ?_
  refine Ev.blk ?_
  obtain ⟨r54, hr55, h⟩ := bind_some h
  rcases r54 with _ | _
  · refine Ev.loop (RS := slices_IsSortedFunc_Deal__impl_inOrder_1_b1_RS a1) (RR := slices_IsSortedFunc_Deal__impl_inOrder_1_b1_RR a1) (fun s r h e M hs => slices_IsSortedFunc_Deal__impl_inOrder_1_b1_ok a1 s r h e M hs) hr55 (And.intro h7 (And.intro h8 h9)) ?_
    intro x e57 M58 hq56
    obtain ⟨rfl, h59⟩ := hq56
    refine Ev.kblkR ?_
    refine Ev.kseqR ?_
    cases h
    exact Ev.kendR (resT h59 res0) rfl
  · refine Ev.loop (RS := slices_IsSortedFunc_Deal__impl_inOrder_1_b1_RS a1) (RR := slices_IsSortedFunc_Deal__impl_inOrder_1_b1_RR a1) (fun s r h e M hs => slices_IsSortedFunc_Deal__impl_inOrder_1_b1_ok a1 s r h e M hs) hr55 (And.intro h7 (And.intro h8 h9)) ?_
    intro x e60 M61 hq56
    obtain ⟨rfl, _⟩ := hq56
    refine Ev.kblkE ?_
    refine Ev.kseqN ?_
    refine Ev.seq ?_
    refine Ev.reg (fun _ => rfl) ?_
    refine Ev.nxk (mvO rfl) ?_
    refine Ev.rend ?_
    intro e62 he63
    have h64 : eget e62 4 = .bool true := envp he63 rfl rfl
    refine Ev.kseqN ?_
    refine Ev.ex ?_
    cases h
    exact Ev.kendR (resT h64 res0) rfl
/-! ### loop.example/g01263/impl.inOrder (f53) -/
noncomputable def impl_inOrder (a1 : List Deal) : Option Bool :=
  (slices_IsSortedFunc_Deal__impl_inOrder_1 a1).bind fun r5 =>
  some r5
def impl_inOrder_enc (r : Bool) : AV := .bool r
theorem impl_inOrder_ok (a1 : List Deal) (r : Bool) (h : impl_inOrder a1 = some r) : Ev (fun k => CN k 53 [.sl none (a1.map Deal.c)] []) (fun p => rRes p.2 p.1 = impl_inOrder_enc r) := by
  unfold impl_inOrder at h
  refine Ev.enter (F := fun k => f53 (CN k) k) (fun k => callN_eq rfl Try.func53 rfl rfl rfl (by decide +kernel) (f53_eq _ _)) ?_
  refine Ev.seq ?_
  refine Ev.reg (fun _ => rfl) ?_
  refine Ev.nxk (mvO rfl) ?_
  refine Ev.rend ?_
  intro e1 he2
  have h3 : eget e1 0 = .sl none (a1.map Deal.c) := envp he2 rfl rfl
  refine Ev.kseqN ?_
  refine Ev.seq ?_
  refine Ev.reg (fun _ => rfl) ?_
  refine Ev.nxk (mvO h3) ?_
  obtain ⟨r5, hx4, h⟩ := bind_some h
  refine Ev.nxck (Ev.call (v := .bool r5) rfl (cns rfl (cns rfl rfl)) rfl (slices_IsSortedFunc_Deal__impl_inOrder_1_ok a1 _ hx4) (fun h => nomatch (show false = true from h))) ?_
  refine Ev.nxk (mvO rfl) ?_
  refine Ev.rend ?_
  intro e6 he7
  have h8 : eget e6 2 = .bool r5 := envp he7 rfl rfl
  clear h3
  refine Ev.kseqN ?_
  refine Ev.ex ?_
  cases h
  exact Ev.kendR (resT h8 res0) rfl
/-! ### loop.example/g01263/impl.areDeals (f52) -/
abbrev impl_areDeals_b1_S := Int
abbrev impl_areDeals_b1_R := Unit ⊕ Unit
def impl_areDeals_b1_RS (a1 : List Deal) (s : impl_areDeals_b1_S) (e : Env) (M : Mem) : Prop := eget e 5 = .sl none (a1.map Deal.c) ∧ eget e 6 = .int .i64 (a1.length : Int) ∧ eget e 7 = .int .i64 s
def impl_areDeals_b1_RR (a1 : List Deal) (r : impl_areDeals_b1_R) (x : Ex) (e : Env) (M : Mem) : Prop :=
  match r with
  | (.inl g) => x = .ret ∧ eget e 2 = .bool false
  | (.inr g) => x = .ext 0 ∧ True
noncomputable def impl_areDeals_b1 (a1 : List Deal) : impl_areDeals_b1_S → Option (impl_areDeals_b1_S ⊕ impl_areDeals_b1_R) := fun s1_1 =>
  if (decide (s1_1 < (a1.length : Int))) = true then
    (rd a1 s1_1).bind fun x32 =>
    (impl_ValidDeal x32).bind fun r48 =>
    if r48 = true then
      some (.inl (IntKind.i64.wrap (s1_1 + 1)))
    else
      some (.inr (.inl ()))
  else
    some (.inr (.inr ()))
theorem impl_areDeals_b1_ok (a1 : List Deal) (s : impl_areDeals_b1_S) (r : impl_areDeals_b1_S ⊕ impl_areDeals_b1_R) (h : impl_areDeals_b1 a1 s = some r) (e : Env) (M : Mem) (hs : impl_areDeals_b1_RS a1 s e M) : Ev (fun k => (f52_l2 (CN k) k (prune [5, 6, 7] e) M).bind fun q => some q) (bQ (impl_areDeals_b1_RS a1) (impl_areDeals_b1_RR a1) r) := by
  revert h hs
  revert s
  intro s1_1 h hs
  unfold impl_areDeals_b1 at h
  obtain ⟨h19, h21, h23⟩ := hs
  generalize he18 : prune [5, 6, 7] e = e17
  have h20 := envp he18.symm rfl h19
  have h22 := envp he18.symm rfl h21
  have h24 := envp he18.symm rfl h23
  refine Ev.seq ?_
  refine Ev.reg (fun _ => rfl) ?_
  refine Ev.nxk (bLss h24 h22) ?_
  refine Ev.rend ?_
  intro e25 he26
  have h27 : eget e25 5 = .sl none (a1.map Deal.c) := envp he26 rfl h20
  have h28 : eget e25 6 = .int .i64 (a1.length : Int) := envp he26 rfl h22
  have h29 : eget e25 7 = .int .i64 s1_1 := envp he26 rfl h24
  have h30 : eget e25 8 = .bool (decide (s1_1 < (a1.length : Int))) := envp he26 rfl rfl
  clear h20 h22 h24
  refine Ev.kseqN ?_
  refine Ev.seq ?_
  rcases ite_some h with ⟨hb31, h⟩ | ⟨hb31, h⟩
  · refine Ev.condT h30 hb31 ?_
    refine Ev.ex ?_
    refine Ev.kseqN ?_
    refine Ev.seq ?_
    refine Ev.blk ?_
    refine Ev.seq ?_
    refine Ev.reg (fun _ => rfl) ?_
    obtain ⟨x32, hx33, h⟩ := bind_some h
    refine Ev.nxk (ixS h27 h29 hx33 Deal.fl) ?_
    refine Ev.nxk (ldPA rfl rfl rfl) ?_
    refine Ev.nxpush (alO zero85) ?_
    intro M35 hM36
    have o37 : M35[M.length]? = some (.live ⟨.box, 85, 6, [[.int .i64 0, .int .i8 0, .int .i64 0, .int .i64 0, .int .i64 0, .int .i64 0]]⟩) := push_new hM36
    refine Ev.nxput (stO rfl rfl o37 rfl rfl ⟨rfl, ble rfl⟩ rfl rfl) ?_
    intro M38 hM39
    have o40 : M38[M.length]? = some (.live ⟨.box, 85, 6, [[.int .i64 x32.Day, .int .i8 x32.Kind, .int .i64 x32.Tally, .int .i64 x32.From, .int .i64 x32.To, .int .i64 x32.Amount]]⟩) := set_same hM39 o37
    refine Ev.rend ?_
    intro e41 he42
    have h43 : eget e41 4 = .loc M.length 1 0 0 := envp he42 rfl rfl
    have h44 : eget e41 5 = .sl none (a1.map Deal.c) := envp he42 rfl h27
    have h45 : eget e41 6 = .int .i64 (a1.length : Int) := envp he42 rfl h28
    have h46 : eget e41 7 = .int .i64 s1_1 := envp he42 rfl h29
    clear h27 h28 h29 h30
    refine Ev.kseqN ?_
    refine Ev.seq ?_
    refine Ev.reg (fun _ => rfl) ?_
    refine Ev.nxk (ldOA h43 o40 rfl rfl (ble rfl) rfl) ?_
    obtain ⟨r48, hx47, h⟩ := bind_some h
    refine Ev.nxck (Ev.call (v := .bool r48) rfl (cns rfl rfl) rfl (impl_ValidDeal_ok x32 _ hx47) (fun h => nomatch (show false = true from h))) ?_
    refine Ev.nxk (uNot rfl) ?_
    refine Ev.rend ?_
    intro e49 he50
    have h51 : eget e49 5 = .sl none (a1.map Deal.c) := envp he50 rfl h44
    have h52 : eget e49 6 = .int .i64 (a1.length : Int) := envp he50 rfl h45
    have h53 : eget e49 7 = .int .i64 s1_1 := envp he50 rfl h46
    have h54 : eget e49 13 = .bool (!r48) := envp he50 rfl rfl
    clear h43 h44 h45 h46
    refine Ev.kseqN ?_
    rcases ite_some h with ⟨hb55, h⟩ | ⟨hb55, h⟩
    · refine Ev.condF h54 (congrArg Bool.not hb55) ?_
      refine Ev.ex ?_
      refine Ev.kblkN ?_
      refine Ev.kseqN ?_
      refine Ev.reg (fun _ => rfl) ?_
      refine Ev.nxk (bAdd h53 rfl) ?_
      refine Ev.nxk (mvO rfl) ?_
      refine Ev.rend ?_
      intro e56 he57
      have h58 : eget e56 5 = .sl none (a1.map Deal.c) := envp he57 rfl h51
      have h59 : eget e56 6 = .int .i64 (a1.length : Int) := envp he57 rfl h52
      have h60 : eget e56 7 = .int .i64 (IntKind.i64.wrap (s1_1 + 1)) := envp he57 rfl rfl
      clear h51 h52 h54
      cases h
      exact Ev.kid (bQ_n (RS := (impl_areDeals_b1_RS a1)) (RR := (impl_areDeals_b1_RR a1)) (And.intro h58 (And.intro h59 h60)))
    · refine Ev.condT h54 (congrArg Bool.not hb55) ?_
      refine Ev.seq ?_
      refine Ev.reg (fun _ => rfl) ?_
      refine Ev.nxk (mvO rfl) ?_
      refine Ev.rend ?_
      intro e61 he62
      have h63 : eget e61 2 = .bool false := envp he62 rfl rfl
      clear h51 h52 h53 h54
      refine Ev.kseqN ?_
      refine Ev.ex ?_
      refine Ev.kblkR ?_
      refine Ev.kseqR ?_
      cases h
      exact Ev.kid (bQ_x (RS := (impl_areDeals_b1_RS a1)) (RR := (impl_areDeals_b1_RR a1)) (by intro h; cases h) (And.intro rfl h63))
  · refine Ev.condF h30 hb31 ?_
    refine Ev.ex ?_
    refine Ev.kseqE ?_
    cases h
    exact Ev.kid (bQ_x (RS := (impl_areDeals_b1_RS a1)) (RR := (impl_areDeals_b1_RR a1)) (by intro h; cases h) (And.intro rfl trivial))
noncomputable def impl_areDeals (a1 : List Deal) : Option Bool :=
  (Lw (impl_areDeals_b1 a1) 0).bind fun r => match r with
  | (.inl _) =>
    some false
  | (.inr _) =>
    some true
def impl_areDeals_enc (r : Bool) : AV := .bool r
theorem impl_areDeals_ok (a1 : List Deal) (r : Bool) (h : impl_areDeals a1 = some r) : Ev (fun k => CN k 52 [.sl none (a1.map Deal.c)] []) (fun p => rRes p.2 p.1 = impl_areDeals_enc r) := by
  unfold impl_areDeals at h
  refine Ev.enter (F := fun k => f52 (CN k) k) (fun k => callN_eq rfl Try.func52 rfl rfl rfl (by decide +kernel) (f52_eq _ _)) ?_
  refine Ev.seq ?_
  refine Ev.reg (fun _ => rfl) ?_
  refine Ev.nxk (mvO rfl) ?_
  refine Ev.rend ?_
  intro e1 he2
  have h3 : eget e1 0 = .sl none (a1.map Deal.c) := envp he2 rfl rfl
  refine Ev.kseqN ?_
  refine Ev.seq ?_
  refine Ev.seq ?_
  refine Ev.reg (fun _ => rfl) ?_
  refine Ev.nxk (mvO h3) ?_
  refine Ev.nxk (lnS Try.underlying56 rfl) ?_
  refine Ev.nxk (mvO rfl) ?_
  refine Ev.rend ?_
  intro e4 he5
  have h6 : eget e4 5 = .sl none (a1.map Deal.c) := envp he5 rfl rfl
  have h7 : eget e4 6 = .int .i64 (a1.length : Int) := envp he5 rfl rfl
  have h8 : eget e4 7 = .int .i64 0 := envp he5 rfl rfl
  clear h3
  refine Ev.kseqN ?_
  refine Ev.blk ?_
  obtain ⟨r64, hr65, h⟩ := bind_some h
  rcases r64 with _ | _
  · refine Ev.loop (RS := impl_areDeals_b1_RS a1) (RR := impl_areDeals_b1_RR a1) (fun s r h e M hs => impl_areDeals_b1_ok a1 s r h e M hs) hr65 (And.intro h6 (And.intro h7 h8)) ?_
    intro x e67 M68 hq66
    obtain ⟨rfl, h69⟩ := hq66
    refine Ev.kblkR ?_
    refine Ev.kseqR ?_
    cases h
    exact Ev.kendR (resT h69 res0) rfl
  · refine Ev.loop (RS := impl_areDeals_b1_RS a1) (RR := impl_areDeals_b1_RR a1) (fun s r h e M hs => impl_areDeals_b1_ok a1 s r h e M hs) hr65 (And.intro h6 (And.intro h7 h8)) ?_
    intro x e70 M71 hq66
    obtain ⟨rfl, _⟩ := hq66
    refine Ev.kblkE ?_
    refine Ev.kseqN ?_
    refine Ev.seq ?_
    refine Ev.reg (fun _ => rfl) ?_
    refine Ev.nxk (mvO rfl) ?_
    refine Ev.rend ?_
    intro e72 he73
    have h74 : eget e72 2 = .bool true := envp he73 rfl rfl
    refine Ev.kseqN ?_
    refine Ev.ex ?_
    cases h
    exact Ev.kendR (resT h74 res0) rfl
/-! ### loop.example/g01263/laws.toDeal (f51) -/
noncomputable def laws_toDeal (a1 : Deal) : Option (Int × Int × Int × Int × Int × Int) :=
  some (a1.Day, a1.Kind, a1.Tally, a1.From, a1.To, a1.Amount)
def laws_toDeal_enc (r : Int × Int × Int × Int × Int × Int) : AV := .agg [.int .i64 r.1, .int .i8 r.2.1, .int .i64 r.2.2.1, .int .i64 r.2.2.2.1, .int .i64 r.2.2.2.2.1, .int .i64 r.2.2.2.2.2]
theorem laws_toDeal_ok (a1 : Deal) (r : Int × Int × Int × Int × Int × Int) (h : laws_toDeal a1 = some r) : Ev (fun k => CN k 51 [.agg [.int .i64 a1.Day, .int .i8 a1.Kind, .int .i64 a1.Tally, .int .i64 a1.From, .int .i64 a1.To, .int .i64 a1.Amount]] []) (fun p => rRes p.2 p.1 = laws_toDeal_enc r) := by
  unfold laws_toDeal at h
  refine Ev.enter (F := fun k => f51 (CN k) k) (fun k => callN_eq rfl Try.func51 rfl rfl rfl (by decide +kernel) (f51_eq _ _)) ?_
  refine Ev.seq ?_
  refine Ev.reg (fun _ => rfl) ?_
  refine Ev.nxk (bxI rfl rfl ⟨rfl, rfl, by decide⟩) ?_
  refine Ev.nxpush (alO zero85) ?_
  intro M2 hM3
  have o4 : M2[([] : Mem).length]? = some (.live ⟨.box, 85, 6, [[.int .i64 0, .int .i8 0, .int .i64 0, .int .i64 0, .int .i64 0, .int .i64 0]]⟩) := push_new hM3
  refine Ev.rend ?_
  intro e5 he6
  have h7 : eget e5 1 = .pt none [.int .i64 a1.Day, .int .i8 a1.Kind, .int .i64 a1.Tally, .int .i64 a1.From, .int .i64 a1.To, .int .i64 a1.Amount] := envp he6 rfl rfl
  have h8 : eget e5 2 = .loc ([] : Mem).length 1 0 0 := envp he6 rfl rfl
  refine Ev.kseqN ?_
  refine Ev.seq ?_
  refine Ev.reg (fun _ => rfl) ?_
  refine Ev.nxpush (alO zero85) ?_
  intro M10 hM11
  have o12 := push_old hM11 o4
  have ne13 := ne_new o4
  have o14 : M10[M2.length]? = some (.live ⟨.box, 85, 6, [[.int .i64 0, .int .i8 0, .int .i64 0, .int .i64 0, .int .i64 0, .int .i64 0]]⟩) := push_new hM11
  refine Ev.rend ?_
  intro e15 he16
  have h17 : eget e15 1 = .pt none [.int .i64 a1.Day, .int .i8 a1.Kind, .int .i64 a1.Tally, .int .i64 a1.From, .int .i64 a1.To, .int .i64 a1.Amount] := envp he16 rfl h7
  have h18 : eget e15 2 = .loc ([] : Mem).length 1 0 0 := envp he16 rfl h8
  have h19 : eget e15 3 = .loc M2.length 1 0 0 := envp he16 rfl rfl
  clear h7 h8
  refine Ev.kseqN ?_
  refine Ev.seq ?_
  refine Ev.reg (fun _ => rfl) ?_
  refine Ev.nxk (faP h17 ⟨ble rfl, blt rfl⟩ rfl) ?_
  refine Ev.nxk (ldP rfl rfl) ?_
  refine Ev.nxk (faO h19 o14 rfl) ?_
  refine Ev.nxput (stO rfl rfl o14 rfl rfl ⟨rfl, ble rfl⟩ rfl rfl) ?_
  intro M20 hM21
  have o22 := set_ne hM21 ne13 o12
  have o23 : M20[M2.length]? = some (.live ⟨.box, 85, 6, [[.int .i64 a1.Day, .int .i8 0, .int .i64 0, .int .i64 0, .int .i64 0, .int .i64 0]]⟩) := set_same hM21 o14
  refine Ev.rend ?_
  intro e24 he25
  have h26 : eget e24 1 = .pt none [.int .i64 a1.Day, .int .i8 a1.Kind, .int .i64 a1.Tally, .int .i64 a1.From, .int .i64 a1.To, .int .i64 a1.Amount] := envp he25 rfl h17
  have h27 : eget e24 2 = .loc ([] : Mem).length 1 0 0 := envp he25 rfl h18
  have h28 : eget e24 3 = .loc M2.length 1 0 0 := envp he25 rfl h19
  clear h17 h18 h19
  refine Ev.kseqN ?_
  refine Ev.seq ?_
  refine Ev.reg (fun _ => rfl) ?_
  refine Ev.nxk (faP h26 ⟨ble rfl, blt rfl⟩ rfl) ?_
  refine Ev.nxk (ldP rfl rfl) ?_
  refine Ev.nxk (faO h28 o23 rfl) ?_
  refine Ev.nxput (stO rfl rfl o23 rfl rfl ⟨rfl, ble rfl⟩ rfl rfl) ?_
  intro M29 hM30
  have o31 := set_ne hM30 ne13 o22
  have o32 : M29[M2.length]? = some (.live ⟨.box, 85, 6, [[.int .i64 a1.Day, .int .i8 a1.Kind, .int .i64 0, .int .i64 0, .int .i64 0, .int .i64 0]]⟩) := set_same hM30 o23
  refine Ev.rend ?_
  intro e33 he34
  have h35 : eget e33 1 = .pt none [.int .i64 a1.Day, .int .i8 a1.Kind, .int .i64 a1.Tally, .int .i64 a1.From, .int .i64 a1.To, .int .i64 a1.Amount] := envp he34 rfl h26
  have h36 : eget e33 2 = .loc ([] : Mem).length 1 0 0 := envp he34 rfl h27
  have h37 : eget e33 3 = .loc M2.length 1 0 0 := envp he34 rfl h28
  clear h26 h27 h28
  refine Ev.kseqN ?_
  refine Ev.seq ?_
  refine Ev.reg (fun _ => rfl) ?_
  refine Ev.nxk (faP h35 ⟨ble rfl, blt rfl⟩ rfl) ?_
  refine Ev.nxk (ldP rfl rfl) ?_
  refine Ev.nxk (faO h37 o32 rfl) ?_
  refine Ev.nxput (stO rfl rfl o32 rfl rfl ⟨rfl, ble rfl⟩ rfl rfl) ?_
  intro M38 hM39
  have o40 := set_ne hM39 ne13 o31
  have o41 : M38[M2.length]? = some (.live ⟨.box, 85, 6, [[.int .i64 a1.Day, .int .i8 a1.Kind, .int .i64 a1.Tally, .int .i64 0, .int .i64 0, .int .i64 0]]⟩) := set_same hM39 o32
  refine Ev.rend ?_
  intro e42 he43
  have h44 : eget e42 1 = .pt none [.int .i64 a1.Day, .int .i8 a1.Kind, .int .i64 a1.Tally, .int .i64 a1.From, .int .i64 a1.To, .int .i64 a1.Amount] := envp he43 rfl h35
  have h45 : eget e42 2 = .loc ([] : Mem).length 1 0 0 := envp he43 rfl h36
  have h46 : eget e42 3 = .loc M2.length 1 0 0 := envp he43 rfl h37
  clear h35 h36 h37
  refine Ev.kseqN ?_
  refine Ev.seq ?_
  refine Ev.reg (fun _ => rfl) ?_
  refine Ev.nxk (faP h44 ⟨ble rfl, blt rfl⟩ rfl) ?_
  refine Ev.nxk (ldP rfl rfl) ?_
  refine Ev.nxk (faO h46 o41 rfl) ?_
  refine Ev.nxput (stO rfl rfl o41 rfl rfl ⟨rfl, ble rfl⟩ rfl rfl) ?_
  intro M47 hM48
  have o49 := set_ne hM48 ne13 o40
  have o50 : M47[M2.length]? = some (.live ⟨.box, 85, 6, [[.int .i64 a1.Day, .int .i8 a1.Kind, .int .i64 a1.Tally, .int .i64 a1.From, .int .i64 0, .int .i64 0]]⟩) := set_same hM48 o41
  refine Ev.rend ?_
  intro e51 he52
  have h53 : eget e51 1 = .pt none [.int .i64 a1.Day, .int .i8 a1.Kind, .int .i64 a1.Tally, .int .i64 a1.From, .int .i64 a1.To, .int .i64 a1.Amount] := envp he52 rfl h44
  have h54 : eget e51 2 = .loc ([] : Mem).length 1 0 0 := envp he52 rfl h45
  have h55 : eget e51 3 = .loc M2.length 1 0 0 := envp he52 rfl h46
  clear h44 h45 h46
  refine Ev.kseqN ?_
  refine Ev.seq ?_
  refine Ev.reg (fun _ => rfl) ?_
  refine Ev.nxk (faP h53 ⟨ble rfl, blt rfl⟩ rfl) ?_
  refine Ev.nxk (ldP rfl rfl) ?_
  refine Ev.nxk (faO h55 o50 rfl) ?_
  refine Ev.nxput (stO rfl rfl o50 rfl rfl ⟨rfl, ble rfl⟩ rfl rfl) ?_
  intro M56 hM57
  have o58 := set_ne hM57 ne13 o49
  have o59 : M56[M2.length]? = some (.live ⟨.box, 85, 6, [[.int .i64 a1.Day, .int .i8 a1.Kind, .int .i64 a1.Tally, .int .i64 a1.From, .int .i64 a1.To, .int .i64 0]]⟩) := set_same hM57 o50
  refine Ev.rend ?_
  intro e60 he61
  have h62 : eget e60 1 = .pt none [.int .i64 a1.Day, .int .i8 a1.Kind, .int .i64 a1.Tally, .int .i64 a1.From, .int .i64 a1.To, .int .i64 a1.Amount] := envp he61 rfl h53
  have h63 : eget e60 2 = .loc ([] : Mem).length 1 0 0 := envp he61 rfl h54
  have h64 : eget e60 3 = .loc M2.length 1 0 0 := envp he61 rfl h55
  clear h53 h54 h55
  refine Ev.kseqN ?_
  refine Ev.seq ?_
  refine Ev.reg (fun _ => rfl) ?_
  refine Ev.nxk (faP h62 ⟨ble rfl, blt rfl⟩ rfl) ?_
  refine Ev.nxk (ldP rfl rfl) ?_
  refine Ev.nxk (faO h64 o59 rfl) ?_
  refine Ev.nxput (stO rfl rfl o59 rfl rfl ⟨rfl, ble rfl⟩ rfl rfl) ?_
  intro M65 hM66
  have o67 := set_ne hM66 ne13 o58
  have o68 : M65[M2.length]? = some (.live ⟨.box, 85, 6, [[.int .i64 a1.Day, .int .i8 a1.Kind, .int .i64 a1.Tally, .int .i64 a1.From, .int .i64 a1.To, .int .i64 a1.Amount]]⟩) := set_same hM66 o59
  refine Ev.rend ?_
  intro e69 he70
  have h71 : eget e69 2 = .loc ([] : Mem).length 1 0 0 := envp he70 rfl h63
  have h72 : eget e69 3 = .loc M2.length 1 0 0 := envp he70 rfl h64
  clear h62 h63 h64
  refine Ev.kseqN ?_
  refine Ev.seq ?_
  refine Ev.reg (fun _ => rfl) ?_
  refine Ev.nxk (ldOA h72 o68 rfl rfl (ble rfl) rfl) ?_
  refine Ev.nxput (stO h71 rfl o67 rfl rfl ⟨rfl, ble rfl⟩ rfl rfl) ?_
  intro M73 hM74
  have o75 : M73[([] : Mem).length]? = some (.live ⟨.box, 85, 6, [[.int .i64 a1.Day, .int .i8 a1.Kind, .int .i64 a1.Tally, .int .i64 a1.From, .int .i64 a1.To, .int .i64 a1.Amount]]⟩) := set_same hM74 o67
  have o76 := set_ne hM74 (Ne.symm ne13) o68
  refine Ev.rend ?_
  intro e77 he78
  have h79 : eget e77 2 = .loc ([] : Mem).length 1 0 0 := envp he78 rfl h71
  clear h71 h72
  refine Ev.kseqN ?_
  refine Ev.ex ?_
  cases h
  exact Ev.kendR (resC (ag := true) (sz := 6) ⟨by kernel_rfl, by kernel_rfl, by kernel_rfl⟩ (ldOA h79 o75 rfl rfl (ble rfl) rfl) res0) rfl
/-! ### loop.example/g01263/spec.l07Ordered (f50) -/
abbrev spec_l07Ordered_b1_S := Int
abbrev spec_l07Ordered_b1_R := Unit ⊕ Unit
def spec_l07Ordered_b1_RS (a1 : List Deal) (s : spec_l07Ordered_b1_S) (e : Env) (M : Mem) : Prop := eget e 0 = .sl none (a1.map Deal.c) ∧ eget e 3 = .int .i64 s
def spec_l07Ordered_b1_RR (a1 : List Deal) (r : spec_l07Ordered_b1_R) (x : Ex) (e : Env) (M : Mem) : Prop :=
  match r with
  | (.inl g) => x = .ret ∧ eget e 2 = .bool false
  | (.inr g) => x = .ext 0 ∧ True
noncomputable def spec_l07Ordered_b1 (a1 : List Deal) : spec_l07Ordered_b1_S → Option (spec_l07Ordered_b1_S ⊕ spec_l07Ordered_b1_R) := fun s1_1 =>
  if (decide (s1_1 < (a1.length : Int))) = true then
    (rd a1 s1_1).bind fun x26 =>
    (rd a1 (IntKind.i64.wrap (s1_1 - 1))).bind fun x28 =>
    if (decide (x26.Day < x28.Day)) = true then
      some (.inr (.inl ()))
    else
      some (.inl (IntKind.i64.wrap (s1_1 + 1)))
  else
    some (.inr (.inr ()))
theorem spec_l07Ordered_b1_ok (a1 : List Deal) (s : spec_l07Ordered_b1_S) (r : spec_l07Ordered_b1_S ⊕ spec_l07Ordered_b1_R) (h : spec_l07Ordered_b1 a1 s = some r) (e : Env) (M : Mem) (hs : spec_l07Ordered_b1_RS a1 s e M) : Ev (fun k => (f50_l2 (CN k) k (prune [0, 3] e) M).bind fun q => some q) (bQ (spec_l07Ordered_b1_RS a1) (spec_l07Ordered_b1_RR a1) r) := by
  revert h hs
  revert s
  intro s1_1 h hs
  unfold spec_l07Ordered_b1 at h
  obtain ⟨h16, h18⟩ := hs
  generalize he15 : prune [0, 3] e = e14
  have h17 := envp he15.symm rfl h16
  have h19 := envp he15.symm rfl h18
  refine Ev.seq ?_
  refine Ev.seq ?_
  refine Ev.reg (fun _ => rfl) ?_
  refine Ev.nxk (mvO h19) ?_
  refine Ev.nxk (mvO h17) ?_
  refine Ev.nxk (lnS Try.underlying56 rfl) ?_
  refine Ev.nxk (bLss rfl rfl) ?_
  refine Ev.rend ?_
  intro e20 he21
  have h22 : eget e20 0 = .sl none (a1.map Deal.c) := envp he21 rfl h17
  have h23 : eget e20 3 = .int .i64 s1_1 := envp he21 rfl h19
  have h24 : eget e20 7 = .bool (decide (s1_1 < (a1.length : Int))) := envp he21 rfl rfl
  clear h17 h19
  refine Ev.kseqN ?_
  rcases ite_some h with ⟨hb25, h⟩ | ⟨hb25, h⟩
  · refine Ev.condT h24 hb25 ?_
    refine Ev.ex ?_
    refine Ev.kseqN ?_
    refine Ev.seq ?_
    refine Ev.blk ?_
    refine Ev.seq ?_
    refine Ev.regD (fun _ => rfl) ?_
    refine Ev.nfk (mvO h22) ?_
    refine Ev.nfk (mvO h23) ?_
    obtain ⟨x26, hx27, h⟩ := bind_some h
    refine Ev.nfk (ixS rfl rfl hx27 Deal.fl) ?_
    refine Ev.nfk (faP rfl ⟨ble rfl, blt rfl⟩ rfl) ?_
    refine Ev.nfk (ldP rfl rfl) ?_
    refine Ev.nfk (mvO h22) ?_
    refine Ev.nfk (mvO h23) ?_
    refine Ev.nfk (bSub rfl rfl) ?_
    obtain ⟨x28, hx29, h⟩ := bind_some h
    refine Ev.nfk (ixS rfl rfl hx29 Deal.fl) ?_
    refine Ev.nfk (faP rfl ⟨ble rfl, blt rfl⟩ rfl) ?_
    refine Ev.nfk (ldP rfl rfl) ?_
    refine Ev.nfk (bLss rfl rfl) ?_
    refine Ev.fend0 ?_
    refine Ev.rend ?_
    intro e30 he31
    have h32 : eget e30 0 = .sl none (a1.map Deal.c) := envp he31 rfl h22
    have h33 : eget e30 3 = .int .i64 s1_1 := envp he31 rfl h23
    have h34 : eget e30 21 = .bool (decide (x26.Day < x28.Day)) := envp he31 rfl rfl
    clear h22 h23 h24
    refine Ev.kseqN ?_
    rcases ite_some h with ⟨hb35, h⟩ | ⟨hb35, h⟩
    · refine Ev.condT h34 hb35 ?_
      refine Ev.seq ?_
      refine Ev.reg (fun _ => rfl) ?_
      refine Ev.nxk (mvO rfl) ?_
      refine Ev.rend ?_
      intro e36 he37
      have h38 : eget e36 2 = .bool false := envp he37 rfl rfl
      clear h32 h33 h34
      refine Ev.kseqN ?_
      refine Ev.ex ?_
      refine Ev.kblkR ?_
      refine Ev.kseqR ?_
      cases h
      exact Ev.kid (bQ_x (RS := (spec_l07Ordered_b1_RS a1)) (RR := (spec_l07Ordered_b1_RR a1)) (by intro h; cases h) (And.intro rfl h38))
    · refine Ev.condF h34 hb35 ?_
      refine Ev.ex ?_
      refine Ev.kblkN ?_
      refine Ev.kseqN ?_
      refine Ev.reg (fun _ => rfl) ?_
      refine Ev.nxk (mvO h33) ?_
      refine Ev.nxk (bAdd rfl rfl) ?_
      refine Ev.nxk (mvO rfl) ?_
      refine Ev.rend ?_
      intro e39 he40
      have h41 : eget e39 0 = .sl none (a1.map Deal.c) := envp he40 rfl h32
      have h42 : eget e39 3 = .int .i64 (IntKind.i64.wrap (s1_1 + 1)) := envp he40 rfl rfl
      clear h32 h34
      cases h
      exact Ev.kid (bQ_n (RS := (spec_l07Ordered_b1_RS a1)) (RR := (spec_l07Ordered_b1_RR a1)) (And.intro h41 h42))
  · refine Ev.condF h24 hb25 ?_
    refine Ev.ex ?_
    refine Ev.kseqE ?_
    cases h
    exact Ev.kid (bQ_x (RS := (spec_l07Ordered_b1_RS a1)) (RR := (spec_l07Ordered_b1_RR a1)) (by intro h; cases h) (And.intro rfl trivial))
noncomputable def spec_l07Ordered (a1 : List Deal) : Option Bool :=
  (Lw (spec_l07Ordered_b1 a1) 1).bind fun r => match r with
  | (.inl _) =>
    some false
  | (.inr _) =>
    some true
def spec_l07Ordered_enc (r : Bool) : AV := .bool r
theorem spec_l07Ordered_ok (a1 : List Deal) (r : Bool) (h : spec_l07Ordered a1 = some r) : Ev (fun k => CN k 50 [.sl none (a1.map Deal.c)] []) (fun p => rRes p.2 p.1 = spec_l07Ordered_enc r) := by
  unfold spec_l07Ordered at h
  refine Ev.enter (F := fun k => f50 (CN k) k) (fun k => callN_eq rfl Try.func50 rfl rfl rfl (by decide +kernel) (f50_eq _ _)) ?_
  refine Ev.seq ?_
  refine Ev.reg (fun _ => rfl) ?_
  refine Ev.nxk (mvO rfl) ?_
  refine Ev.rend ?_
  intro e1 he2
  have h3 : eget e1 0 = .sl none (a1.map Deal.c) := envp he2 rfl rfl
  refine Ev.kseqN ?_
  refine Ev.seq ?_
  refine Ev.seq ?_
  refine Ev.reg (fun _ => rfl) ?_
  refine Ev.nxk (mvO rfl) ?_
  refine Ev.rend ?_
  intro e4 he5
  have h6 : eget e4 0 = .sl none (a1.map Deal.c) := envp he5 rfl h3
  have h7 : eget e4 3 = .int .i64 1 := envp he5 rfl rfl
  clear h3
  refine Ev.kseqN ?_
  refine Ev.blk ?_
  obtain ⟨r43, hr44, h⟩ := bind_some h
  rcases r43 with _ | _
  · refine Ev.loop (RS := spec_l07Ordered_b1_RS a1) (RR := spec_l07Ordered_b1_RR a1) (fun s r h e M hs => spec_l07Ordered_b1_ok a1 s r h e M hs) hr44 (And.intro h6 h7) ?_
    intro x e46 M47 hq45
    obtain ⟨rfl, h48⟩ := hq45
    refine Ev.kblkR ?_
    refine Ev.kseqR ?_
    cases h
    exact Ev.kendR (resT h48 res0) rfl
  · refine Ev.loop (RS := spec_l07Ordered_b1_RS a1) (RR := spec_l07Ordered_b1_RR a1) (fun s r h e M hs => spec_l07Ordered_b1_ok a1 s r h e M hs) hr44 (And.intro h6 h7) ?_
    intro x e49 M50 hq45
    obtain ⟨rfl, _⟩ := hq45
    refine Ev.kblkE ?_
    refine Ev.kseqN ?_
    refine Ev.seq ?_
    refine Ev.reg (fun _ => rfl) ?_
    refine Ev.nxk (mvO rfl) ?_
    refine Ev.rend ?_
    intro e51 he52
    have h53 : eget e51 2 = .bool true := envp he52 rfl rfl
    refine Ev.kseqN ?_
    refine Ev.ex ?_
    cases h
    exact Ev.kendR (resT h53 res0) rfl
/-! ### loop.example/g01263/spec.l07Deals (f49) -/
abbrev spec_l07Deals_b1_S := Int
abbrev spec_l07Deals_b1_R := Unit ⊕ Unit
def spec_l07Deals_b1_RS (a1 : List Deal) (s : spec_l07Deals_b1_S) (e : Env) (M : Mem) : Prop := eget e 0 = .sl none (a1.map Deal.c) ∧ eget e 3 = .int .i64 s
def spec_l07Deals_b1_RR (a1 : List Deal) (r : spec_l07Deals_b1_R) (x : Ex) (e : Env) (M : Mem) : Prop :=
  match r with
  | (.inl g) => x = .ret ∧ eget e 2 = .bool false
  | (.inr g) => x = .ext 0 ∧ True
noncomputable def spec_l07Deals_b1 (a1 : List Deal) : spec_l07Deals_b1_S → Option (spec_l07Deals_b1_S ⊕ spec_l07Deals_b1_R) := fun s1_1 =>
  if (decide (s1_1 < (a1.length : Int))) = true then
    (rd a1 s1_1).bind fun x26 =>
    (spec_l07Deal x26).bind fun r29 =>
    if r29 = true then
      some (.inl (IntKind.i64.wrap (s1_1 + 1)))
    else
      some (.inr (.inl ()))
  else
    some (.inr (.inr ()))
theorem spec_l07Deals_b1_ok (a1 : List Deal) (s : spec_l07Deals_b1_S) (r : spec_l07Deals_b1_S ⊕ spec_l07Deals_b1_R) (h : spec_l07Deals_b1 a1 s = some r) (e : Env) (M : Mem) (hs : spec_l07Deals_b1_RS a1 s e M) : Ev (fun k => (f49_l2 (CN k) k (prune [0, 3] e) M).bind fun q => some q) (bQ (spec_l07Deals_b1_RS a1) (spec_l07Deals_b1_RR a1) r) := by
  revert h hs
  revert s
  intro s1_1 h hs
  unfold spec_l07Deals_b1 at h
  obtain ⟨h16, h18⟩ := hs
  generalize he15 : prune [0, 3] e = e14
  have h17 := envp he15.symm rfl h16
  have h19 := envp he15.symm rfl h18
  refine Ev.seq ?_
  refine Ev.seq ?_
  refine Ev.reg (fun _ => rfl) ?_
  refine Ev.nxk (mvO h19) ?_
  refine Ev.nxk (mvO h17) ?_
  refine Ev.nxk (lnS Try.underlying56 rfl) ?_
  refine Ev.nxk (bLss rfl rfl) ?_
  refine Ev.rend ?_
  intro e20 he21
  have h22 : eget e20 0 = .sl none (a1.map Deal.c) := envp he21 rfl h17
  have h23 : eget e20 3 = .int .i64 s1_1 := envp he21 rfl h19
  have h24 : eget e20 7 = .bool (decide (s1_1 < (a1.length : Int))) := envp he21 rfl rfl
  clear h17 h19
  refine Ev.kseqN ?_
  rcases ite_some h with ⟨hb25, h⟩ | ⟨hb25, h⟩
  · refine Ev.condT h24 hb25 ?_
    refine Ev.ex ?_
    refine Ev.kseqN ?_
    refine Ev.seq ?_
    refine Ev.blk ?_
    refine Ev.seq ?_
    refine Ev.reg (fun _ => rfl) ?_
    refine Ev.nxk (mvO h22) ?_
    refine Ev.nxk (mvO h23) ?_
    obtain ⟨x26, hx27, h⟩ := bind_some h
    refine Ev.nxk (ixS rfl rfl hx27 Deal.fl) ?_
    obtain ⟨r29, hx28, h⟩ := bind_some h
    refine Ev.nxck (Ev.call (v := .bool r29) rfl (cns rfl rfl) rfl (spec_l07Deal_ok x26 _ hx28) (fun h => nomatch (show false = true from h))) ?_
    refine Ev.nxk (uNot rfl) ?_
    refine Ev.rend ?_
    intro e30 he31
    have h32 : eget e30 0 = .sl none (a1.map Deal.c) := envp he31 rfl h22
    have h33 : eget e30 3 = .int .i64 s1_1 := envp he31 rfl h23
    have h34 : eget e30 14 = .bool (!r29) := envp he31 rfl rfl
    clear h22 h23 h24
    refine Ev.kseqN ?_
    rcases ite_some h with ⟨hb35, h⟩ | ⟨hb35, h⟩
    · refine Ev.condF h34 (congrArg Bool.not hb35) ?_
      refine Ev.ex ?_
      refine Ev.kblkN ?_
      refine Ev.kseqN ?_
      refine Ev.reg (fun _ => rfl) ?_
      refine Ev.nxk (mvO h33) ?_
      refine Ev.nxk (bAdd rfl rfl) ?_
      refine Ev.nxk (mvO rfl) ?_
      refine Ev.rend ?_
      intro e36 he37
      have h38 : eget e36 0 = .sl none (a1.map Deal.c) := envp he37 rfl h32
      have h39 : eget e36 3 = .int .i64 (IntKind.i64.wrap (s1_1 + 1)) := envp he37 rfl rfl
      clear h32 h34
      cases h
      exact Ev.kid (bQ_n (RS := (spec_l07Deals_b1_RS a1)) (RR := (spec_l07Deals_b1_RR a1)) (And.intro h38 h39))
    · refine Ev.condT h34 (congrArg Bool.not hb35) ?_
      refine Ev.seq ?_
      refine Ev.reg (fun _ => rfl) ?_
      refine Ev.nxk (mvO rfl) ?_
      refine Ev.rend ?_
      intro e40 he41
      have h42 : eget e40 2 = .bool false := envp he41 rfl rfl
      clear h32 h33 h34
      refine Ev.kseqN ?_
      refine Ev.ex ?_
      refine Ev.kblkR ?_
      refine Ev.kseqR ?_
      cases h
      exact Ev.kid (bQ_x (RS := (spec_l07Deals_b1_RS a1)) (RR := (spec_l07Deals_b1_RR a1)) (by intro h; cases h) (And.intro rfl h42))
  · refine Ev.condF h24 hb25 ?_
    refine Ev.ex ?_
    refine Ev.kseqE ?_
    cases h
    exact Ev.kid (bQ_x (RS := (spec_l07Deals_b1_RS a1)) (RR := (spec_l07Deals_b1_RR a1)) (by intro h; cases h) (And.intro rfl trivial))
noncomputable def spec_l07Deals (a1 : List Deal) : Option Bool :=
  (Lw (spec_l07Deals_b1 a1) 0).bind fun r => match r with
  | (.inl _) =>
    some false
  | (.inr _) =>
    some true
def spec_l07Deals_enc (r : Bool) : AV := .bool r
theorem spec_l07Deals_ok (a1 : List Deal) (r : Bool) (h : spec_l07Deals a1 = some r) : Ev (fun k => CN k 49 [.sl none (a1.map Deal.c)] []) (fun p => rRes p.2 p.1 = spec_l07Deals_enc r) := by
  unfold spec_l07Deals at h
  refine Ev.enter (F := fun k => f49 (CN k) k) (fun k => callN_eq rfl Try.func49 rfl rfl rfl (by decide +kernel) (f49_eq _ _)) ?_
  refine Ev.seq ?_
  refine Ev.reg (fun _ => rfl) ?_
  refine Ev.nxk (mvO rfl) ?_
  refine Ev.rend ?_
  intro e1 he2
  have h3 : eget e1 0 = .sl none (a1.map Deal.c) := envp he2 rfl rfl
  refine Ev.kseqN ?_
  refine Ev.seq ?_
  refine Ev.seq ?_
  refine Ev.reg (fun _ => rfl) ?_
  refine Ev.nxk (mvO rfl) ?_
  refine Ev.rend ?_
  intro e4 he5
  have h6 : eget e4 0 = .sl none (a1.map Deal.c) := envp he5 rfl h3
  have h7 : eget e4 3 = .int .i64 0 := envp he5 rfl rfl
  clear h3
  refine Ev.kseqN ?_
  refine Ev.blk ?_
  obtain ⟨r43, hr44, h⟩ := bind_some h
  rcases r43 with _ | _
  · refine Ev.loop (RS := spec_l07Deals_b1_RS a1) (RR := spec_l07Deals_b1_RR a1) (fun s r h e M hs => spec_l07Deals_b1_ok a1 s r h e M hs) hr44 (And.intro h6 h7) ?_
    intro x e46 M47 hq45
    obtain ⟨rfl, h48⟩ := hq45
    refine Ev.kblkR ?_
    refine Ev.kseqR ?_
    cases h
    exact Ev.kendR (resT h48 res0) rfl
  · refine Ev.loop (RS := spec_l07Deals_b1_RS a1) (RR := spec_l07Deals_b1_RR a1) (fun s r h e M hs => spec_l07Deals_b1_ok a1 s r h e M hs) hr44 (And.intro h6 h7) ?_
    intro x e49 M50 hq45
    obtain ⟨rfl, _⟩ := hq45
    refine Ev.kblkE ?_
    refine Ev.kseqN ?_
    refine Ev.seq ?_
    refine Ev.reg (fun _ => rfl) ?_
    refine Ev.nxk (mvO rfl) ?_
    refine Ev.rend ?_
    intro e51 he52
    have h53 : eget e51 2 = .bool true := envp he52 rfl rfl
    refine Ev.kseqN ?_
    refine Ev.ex ?_
    cases h
    exact Ev.kendR (resT h53 res0) rfl
/-! ### loop.example/g01263/laws.heldDealS (f26) -/
abbrev laws_heldDealS_b1_S := Int × Int
abbrev laws_heldDealS_b1_R := Unit ⊕ Int
def laws_heldDealS_b1_RS (a1 : List Deal) (s : laws_heldDealS_b1_S) (e : Env) (M : Mem) : Prop := eget e 0 = .sl none (a1.map Deal.c) ∧ eget e 1 = .int .i64 s.1 ∧ eget e 5 = .int .i64 s.2
def laws_heldDealS_b1_RR (a1 : List Deal) (r : laws_heldDealS_b1_R) (x : Ex) (e : Env) (M : Mem) : Prop :=
  match r with
  | (.inl g) => x = .ret ∧ eget e 4 = .int .i64 (-1)
  | (.inr g) => x = .ext 0 ∧ eget e 1 = .int .i64 g
noncomputable def laws_heldDealS_b1 (a1 : List Deal) : laws_heldDealS_b1_S → Option (laws_heldDealS_b1_S ⊕ laws_heldDealS_b1_R) := fun (s1_1, s1_2) =>
  if (decide (s1_2 < (a1.length : Int))) = true then
    (rd a1 s1_2).bind fun x33 =>
    if (x33.Day != s1_1) = true then
      some (.inr (.inl ()))
    else
      (rd a1 s1_2).bind fun x50 =>
      if (x50.Kind != (IntKind.i8.wrap (IntKind.i64.wrap (s1_1 + 1)))) = true then
        some (.inr (.inl ()))
      else
        (rd a1 s1_2).bind fun x67 =>
        if (x67.Tally != (IntKind.i64.wrap ((IntKind.i64.wrap (s1_1 + 1)) + 1))) = true then
          some (.inr (.inl ()))
        else
          (rd a1 s1_2).bind fun x84 =>
          if (x84.From != (IntKind.i64.wrap ((IntKind.i64.wrap ((IntKind.i64.wrap (s1_1 + 1)) + 1)) + 1))) = true then
            some (.inr (.inl ()))
          else
            (rd a1 s1_2).bind fun x101 =>
            if (x101.To != (IntKind.i64.wrap ((IntKind.i64.wrap ((IntKind.i64.wrap ((IntKind.i64.wrap (s1_1 + 1)) + 1)) + 1)) + 1))) = true then
              some (.inr (.inl ()))
            else
              (rd a1 s1_2).bind fun x118 =>
              if (x118.Amount != (IntKind.i64.wrap ((IntKind.i64.wrap ((IntKind.i64.wrap ((IntKind.i64.wrap ((IntKind.i64.wrap (s1_1 + 1)) + 1)) + 1)) + 1)) + 1))) = true then
                some (.inr (.inl ()))
              else
                some (.inl ((IntKind.i64.wrap ((IntKind.i64.wrap ((IntKind.i64.wrap ((IntKind.i64.wrap ((IntKind.i64.wrap ((IntKind.i64.wrap (s1_1 + 1)) + 1)) + 1)) + 1)) + 1)) + 1)), (IntKind.i64.wrap (s1_2 + 1))))
  else
    some (.inr (.inr s1_1))
theorem laws_heldDealS_b1_ok (a1 : List Deal) (s : laws_heldDealS_b1_S) (r : laws_heldDealS_b1_S ⊕ laws_heldDealS_b1_R) (h : laws_heldDealS_b1 a1 s = some r) (e : Env) (M : Mem) (hs : laws_heldDealS_b1_RS a1 s e M) : Ev (fun k => (f26_l2 (CN k) k (prune [0, 1, 5] e) M).bind fun q => some q) (bQ (laws_heldDealS_b1_RS a1) (laws_heldDealS_b1_RR a1) r) := by
  obtain ⟨s1_1, s1_2⟩ := s
  unfold laws_heldDealS_b1 at h
  obtain ⟨h20, h22, h24⟩ := hs
  generalize he19 : prune [0, 1, 5] e = e18
  have h21 := envp he19.symm rfl h20
  have h23 := envp he19.symm rfl h22
  have h25 := envp he19.symm rfl h24
  refine Ev.seq ?_
  refine Ev.seq ?_
  refine Ev.reg (fun _ => rfl) ?_
  refine Ev.nxk (mvO h25) ?_
  refine Ev.nxk (mvO h21) ?_
  refine Ev.nxk (lnS Try.underlying56 rfl) ?_
  refine Ev.nxk (bLss rfl rfl) ?_
  refine Ev.rend ?_
  intro e26 he27
  have h28 : eget e26 0 = .sl none (a1.map Deal.c) := envp he27 rfl h21
  have h29 : eget e26 1 = .int .i64 s1_1 := envp he27 rfl h23
  have h30 : eget e26 5 = .int .i64 s1_2 := envp he27 rfl h25
  have h31 : eget e26 9 = .bool (decide (s1_2 < (a1.length : Int))) := envp he27 rfl rfl
  clear h21 h23 h25
  refine Ev.kseqN ?_
  rcases ite_some h with ⟨hb32, h⟩ | ⟨hb32, h⟩
  · refine Ev.condT h31 hb32 ?_
    refine Ev.ex ?_
    refine Ev.kseqN ?_
    refine Ev.seq ?_
    refine Ev.blk ?_
    refine Ev.seq ?_
    refine Ev.seq ?_
    refine Ev.reg (fun _ => rfl) ?_
    refine Ev.nxk (mvO h28) ?_
    refine Ev.nxk (mvO h30) ?_
    obtain ⟨x33, hx34, h⟩ := bind_some h
    refine Ev.nxk (ixS rfl rfl hx34 Deal.fl) ?_
    refine Ev.nxk (faP rfl ⟨ble rfl, blt rfl⟩ rfl) ?_
    refine Ev.nxk (ldP rfl rfl) ?_
    refine Ev.nxk (mvO h29) ?_
    refine Ev.nxk (bNeq rfl rfl) ?_
    refine Ev.rend ?_
    intro e35 he36
    have h37 : eget e35 0 = .sl none (a1.map Deal.c) := envp he36 rfl h28
    have h38 : eget e35 1 = .int .i64 s1_1 := envp he36 rfl h29
    have h39 : eget e35 5 = .int .i64 s1_2 := envp he36 rfl h30
    have h40 : eget e35 18 = .bool (x33.Day != s1_1) := envp he36 rfl rfl
    clear h28 h29 h30 h31
    refine Ev.kseqN ?_
    rcases ite_some h with ⟨hb41, h⟩ | ⟨hb41, h⟩
    · refine Ev.condT h40 hb41 ?_
      refine Ev.seq ?_
      refine Ev.reg (fun _ => rfl) ?_
      refine Ev.nxk (mvO rfl) ?_
      refine Ev.rend ?_
      intro e42 he43
      have h44 : eget e42 4 = .int .i64 (-1) := envp he43 rfl rfl
      clear h37 h38 h39 h40
      refine Ev.kseqN ?_
      refine Ev.ex ?_
      refine Ev.kseqR ?_
      refine Ev.kblkR ?_
      refine Ev.kseqR ?_
      cases h
      exact Ev.kid (bQ_x (RS := (laws_heldDealS_b1_RS a1)) (RR := (laws_heldDealS_b1_RR a1)) (by intro h; cases h) (And.intro rfl h44))
    · refine Ev.condF h40 hb41 ?_
      refine Ev.ex ?_
      refine Ev.kseqN ?_
      refine Ev.seq ?_
      refine Ev.reg (fun _ => rfl) ?_
      refine Ev.nxk (mvO h38) ?_
      refine Ev.nxk (bAdd rfl rfl) ?_
      refine Ev.nxk (mvO rfl) ?_
      refine Ev.rend ?_
      intro e45 he46
      have h47 : eget e45 0 = .sl none (a1.map Deal.c) := envp he46 rfl h37
      have h48 : eget e45 1 = .int .i64 (IntKind.i64.wrap (s1_1 + 1)) := envp he46 rfl rfl
      have h49 : eget e45 5 = .int .i64 s1_2 := envp he46 rfl h39
      clear h37 h39 h40
      refine Ev.kseqN ?_
      refine Ev.seq ?_
      refine Ev.seq ?_
      refine Ev.reg (fun _ => rfl) ?_
      refine Ev.nxk (mvO h47) ?_
      refine Ev.nxk (mvO h49) ?_
      obtain ⟨x50, hx51, h⟩ := bind_some h
      refine Ev.nxk (ixS rfl rfl hx51 Deal.fl) ?_
      refine Ev.nxk (faP rfl ⟨ble rfl, blt rfl⟩ rfl) ?_
      refine Ev.nxk (ldP rfl rfl) ?_
      refine Ev.nxk (mvO h48) ?_
      refine Ev.nxk (cvI rfl) ?_
      refine Ev.nxk (bNeq rfl rfl) ?_
      refine Ev.rend ?_
      intro e52 he53
      have h54 : eget e52 0 = .sl none (a1.map Deal.c) := envp he53 rfl h47
      have h55 : eget e52 1 = .int .i64 (IntKind.i64.wrap (s1_1 + 1)) := envp he53 rfl h48
      have h56 : eget e52 5 = .int .i64 s1_2 := envp he53 rfl h49
      have h57 : eget e52 28 = .bool (x50.Kind != (IntKind.i8.wrap (IntKind.i64.wrap (s1_1 + 1)))) := envp he53 rfl rfl
      clear h47 h48 h49
      refine Ev.kseqN ?_
      rcases ite_some h with ⟨hb58, h⟩ | ⟨hb58, h⟩
      · refine Ev.condT h57 hb58 ?_
        refine Ev.seq ?_
        refine Ev.reg (fun _ => rfl) ?_
        refine Ev.nxk (mvO rfl) ?_
        refine Ev.rend ?_
        intro e59 he60
        have h61 : eget e59 4 = .int .i64 (-1) := envp he60 rfl rfl
        clear h54 h55 h56 h57
        refine Ev.kseqN ?_
        refine Ev.ex ?_
        refine Ev.kseqR ?_
        refine Ev.kblkR ?_
        refine Ev.kseqR ?_
        cases h
        exact Ev.kid (bQ_x (RS := (laws_heldDealS_b1_RS a1)) (RR := (laws_heldDealS_b1_RR a1)) (by intro h; cases h) (And.intro rfl h61))
      · refine Ev.condF h57 hb58 ?_
        refine Ev.ex ?_
        refine Ev.kseqN ?_
        refine Ev.seq ?_
        refine Ev.reg (fun _ => rfl) ?_
        refine Ev.nxk (mvO h55) ?_
        refine Ev.nxk (bAdd rfl rfl) ?_
        refine Ev.nxk (mvO rfl) ?_
        refine Ev.rend ?_
        intro e62 he63
        have h64 : eget e62 0 = .sl none (a1.map Deal.c) := envp he63 rfl h54
        have h65 : eget e62 1 = .int .i64 (IntKind.i64.wrap ((IntKind.i64.wrap (s1_1 + 1)) + 1)) := envp he63 rfl rfl
        have h66 : eget e62 5 = .int .i64 s1_2 := envp he63 rfl h56
        clear h54 h56 h57
        refine Ev.kseqN ?_
        refine Ev.seq ?_
        refine Ev.seq ?_
        refine Ev.reg (fun _ => rfl) ?_
        refine Ev.nxk (mvO h64) ?_
        refine Ev.nxk (mvO h66) ?_
        obtain ⟨x67, hx68, h⟩ := bind_some h
        refine Ev.nxk (ixS rfl rfl hx68 Deal.fl) ?_
        refine Ev.nxk (faP rfl ⟨ble rfl, blt rfl⟩ rfl) ?_
        refine Ev.nxk (ldP rfl rfl) ?_
        refine Ev.nxk (mvO h65) ?_
        refine Ev.nxk (bNeq rfl rfl) ?_
        refine Ev.rend ?_
        intro e69 he70
        have h71 : eget e69 0 = .sl none (a1.map Deal.c) := envp he70 rfl h64
        have h72 : eget e69 1 = .int .i64 (IntKind.i64.wrap ((IntKind.i64.wrap (s1_1 + 1)) + 1)) := envp he70 rfl h65
        have h73 : eget e69 5 = .int .i64 s1_2 := envp he70 rfl h66
        have h74 : eget e69 37 = .bool (x67.Tally != (IntKind.i64.wrap ((IntKind.i64.wrap (s1_1 + 1)) + 1))) := envp he70 rfl rfl
        clear h64 h65 h66
        refine Ev.kseqN ?_
        rcases ite_some h with ⟨hb75, h⟩ | ⟨hb75, h⟩
        · refine Ev.condT h74 hb75 ?_
          refine Ev.seq ?_
          refine Ev.reg (fun _ => rfl) ?_
          refine Ev.nxk (mvO rfl) ?_
          refine Ev.rend ?_
          intro e76 he77
          have h78 : eget e76 4 = .int .i64 (-1) := envp he77 rfl rfl
          clear h71 h72 h73 h74
          refine Ev.kseqN ?_
          refine Ev.ex ?_
          refine Ev.kseqR ?_
          refine Ev.kblkR ?_
          refine Ev.kseqR ?_
          cases h
          exact Ev.kid (bQ_x (RS := (laws_heldDealS_b1_RS a1)) (RR := (laws_heldDealS_b1_RR a1)) (by intro h; cases h) (And.intro rfl h78))
        · refine Ev.condF h74 hb75 ?_
          refine Ev.ex ?_
          refine Ev.kseqN ?_
          refine Ev.seq ?_
          refine Ev.reg (fun _ => rfl) ?_
          refine Ev.nxk (mvO h72) ?_
          refine Ev.nxk (bAdd rfl rfl) ?_
          refine Ev.nxk (mvO rfl) ?_
          refine Ev.rend ?_
          intro e79 he80
          have h81 : eget e79 0 = .sl none (a1.map Deal.c) := envp he80 rfl h71
          have h82 : eget e79 1 = .int .i64 (IntKind.i64.wrap ((IntKind.i64.wrap ((IntKind.i64.wrap (s1_1 + 1)) + 1)) + 1)) := envp he80 rfl rfl
          have h83 : eget e79 5 = .int .i64 s1_2 := envp he80 rfl h73
          clear h71 h73 h74
          refine Ev.kseqN ?_
          refine Ev.seq ?_
          refine Ev.seq ?_
          refine Ev.reg (fun _ => rfl) ?_
          refine Ev.nxk (mvO h81) ?_
          refine Ev.nxk (mvO h83) ?_
          obtain ⟨x84, hx85, h⟩ := bind_some h
          refine Ev.nxk (ixS rfl rfl hx85 Deal.fl) ?_
          refine Ev.nxk (faP rfl ⟨ble rfl, blt rfl⟩ rfl) ?_
          refine Ev.nxk (ldP rfl rfl) ?_
          refine Ev.nxk (mvO h82) ?_
          refine Ev.nxk (bNeq rfl rfl) ?_
          refine Ev.rend ?_
          intro e86 he87
          have h88 : eget e86 0 = .sl none (a1.map Deal.c) := envp he87 rfl h81
          have h89 : eget e86 1 = .int .i64 (IntKind.i64.wrap ((IntKind.i64.wrap ((IntKind.i64.wrap (s1_1 + 1)) + 1)) + 1)) := envp he87 rfl h82
          have h90 : eget e86 5 = .int .i64 s1_2 := envp he87 rfl h83
          have h91 : eget e86 46 = .bool (x84.From != (IntKind.i64.wrap ((IntKind.i64.wrap ((IntKind.i64.wrap (s1_1 + 1)) + 1)) + 1))) := envp he87 rfl rfl
          clear h81 h82 h83
          refine Ev.kseqN ?_
          rcases ite_some h with ⟨hb92, h⟩ | ⟨hb92, h⟩
          · refine Ev.condT h91 hb92 ?_
            refine Ev.seq ?_
            refine Ev.reg (fun _ => rfl) ?_
            refine Ev.nxk (mvO rfl) ?_
            refine Ev.rend ?_
            intro e93 he94
            have h95 : eget e93 4 = .int .i64 (-1) := envp he94 rfl rfl
            clear h88 h89 h90 h91
            refine Ev.kseqN ?_
            refine Ev.ex ?_
            refine Ev.kseqR ?_
            refine Ev.kblkR ?_
            refine Ev.kseqR ?_
            cases h
            exact Ev.kid (bQ_x (RS := (laws_heldDealS_b1_RS a1)) (RR := (laws_heldDealS_b1_RR a1)) (by intro h; cases h) (And.intro rfl h95))
          · refine Ev.condF h91 hb92 ?_
            refine Ev.ex ?_
            refine Ev.kseqN ?_
            refine Ev.seq ?_
            refine Ev.reg (fun _ => rfl) ?_
            refine Ev.nxk (mvO h89) ?_
            refine Ev.nxk (bAdd rfl rfl) ?_
            refine Ev.nxk (mvO rfl) ?_
            refine Ev.rend ?_
            intro e96 he97
            have h98 : eget e96 0 = .sl none (a1.map Deal.c) := envp he97 rfl h88
            have h99 : eget e96 1 = .int .i64 (IntKind.i64.wrap ((IntKind.i64.wrap ((IntKind.i64.wrap ((IntKind.i64.wrap (s1_1 + 1)) + 1)) + 1)) + 1)) := envp he97 rfl rfl
            have h100 : eget e96 5 = .int .i64 s1_2 := envp he97 rfl h90
            clear h88 h90 h91
            refine Ev.kseqN ?_
            refine Ev.seq ?_
            refine Ev.seq ?_
            refine Ev.reg (fun _ => rfl) ?_
            refine Ev.nxk (mvO h98) ?_
            refine Ev.nxk (mvO h100) ?_
            obtain ⟨x101, hx102, h⟩ := bind_some h
            refine Ev.nxk (ixS rfl rfl hx102 Deal.fl) ?_
            refine Ev.nxk (faP rfl ⟨ble rfl, blt rfl⟩ rfl) ?_
            refine Ev.nxk (ldP rfl rfl) ?_
            refine Ev.nxk (mvO h99) ?_
            refine Ev.nxk (bNeq rfl rfl) ?_
            refine Ev.rend ?_
            intro e103 he104
            have h105 : eget e103 0 = .sl none (a1.map Deal.c) := envp he104 rfl h98
            have h106 : eget e103 1 = .int .i64 (IntKind.i64.wrap ((IntKind.i64.wrap ((IntKind.i64.wrap ((IntKind.i64.wrap (s1_1 + 1)) + 1)) + 1)) + 1)) := envp he104 rfl h99
            have h107 : eget e103 5 = .int .i64 s1_2 := envp he104 rfl h100
            have h108 : eget e103 55 = .bool (x101.To != (IntKind.i64.wrap ((IntKind.i64.wrap ((IntKind.i64.wrap ((IntKind.i64.wrap (s1_1 + 1)) + 1)) + 1)) + 1))) := envp he104 rfl rfl
            clear h100 h98 h99
            refine Ev.kseqN ?_
            rcases ite_some h with ⟨hb109, h⟩ | ⟨hb109, h⟩
            · refine Ev.condT h108 hb109 ?_
              refine Ev.seq ?_
              refine Ev.reg (fun _ => rfl) ?_
              refine Ev.nxk (mvO rfl) ?_
              refine Ev.rend ?_
              intro e110 he111
              have h112 : eget e110 4 = .int .i64 (-1) := envp he111 rfl rfl
              clear h105 h106 h107 h108
              refine Ev.kseqN ?_
              refine Ev.ex ?_
              refine Ev.kseqR ?_
              refine Ev.kblkR ?_
              refine Ev.kseqR ?_
              cases h
              exact Ev.kid (bQ_x (RS := (laws_heldDealS_b1_RS a1)) (RR := (laws_heldDealS_b1_RR a1)) (by intro h; cases h) (And.intro rfl h112))
            · refine Ev.condF h108 hb109 ?_
              refine Ev.ex ?_
              refine Ev.kseqN ?_
              refine Ev.seq ?_
              refine Ev.reg (fun _ => rfl) ?_
              refine Ev.nxk (mvO h106) ?_
              refine Ev.nxk (bAdd rfl rfl) ?_
              refine Ev.nxk (mvO rfl) ?_
              refine Ev.rend ?_
              intro e113 he114
              have h115 : eget e113 0 = .sl none (a1.map Deal.c) := envp he114 rfl h105
              have h116 : eget e113 1 = .int .i64 (IntKind.i64.wrap ((IntKind.i64.wrap ((IntKind.i64.wrap ((IntKind.i64.wrap ((IntKind.i64.wrap (s1_1 + 1)) + 1)) + 1)) + 1)) + 1)) := envp he114 rfl rfl
              have h117 : eget e113 5 = .int .i64 s1_2 := envp he114 rfl h107
              clear h105 h107 h108
              refine Ev.kseqN ?_
              refine Ev.seq ?_
              refine Ev.seq ?_
              refine Ev.reg (fun _ => rfl) ?_
              refine Ev.nxk (mvO h115) ?_
              refine Ev.nxk (mvO h117) ?_
              obtain ⟨x118, hx119, h⟩ := bind_some h
              refine Ev.nxk (ixS rfl rfl hx119 Deal.fl) ?_
              refine Ev.nxk (faP rfl ⟨ble rfl, blt rfl⟩ rfl) ?_
              refine Ev.nxk (ldP rfl rfl) ?_
              refine Ev.nxk (mvO h116) ?_
              refine Ev.nxk (bNeq rfl rfl) ?_
              refine Ev.rend ?_
              intro e120 he121
              have h122 : eget e120 0 = .sl none (a1.map Deal.c) := envp he121 rfl h115
              have h123 : eget e120 1 = .int .i64 (IntKind.i64.wrap ((IntKind.i64.wrap ((IntKind.i64.wrap ((IntKind.i64.wrap ((IntKind.i64.wrap (s1_1 + 1)) + 1)) + 1)) + 1)) + 1)) := envp he121 rfl h116
              have h124 : eget e120 5 = .int .i64 s1_2 := envp he121 rfl h117
              have h125 : eget e120 64 = .bool (x118.Amount != (IntKind.i64.wrap ((IntKind.i64.wrap ((IntKind.i64.wrap ((IntKind.i64.wrap ((IntKind.i64.wrap (s1_1 + 1)) + 1)) + 1)) + 1)) + 1))) := envp he121 rfl rfl
              clear h115 h116 h117
              refine Ev.kseqN ?_
              rcases ite_some h with ⟨hb126, h⟩ | ⟨hb126, h⟩
              · refine Ev.condT h125 hb126 ?_
                refine Ev.seq ?_
                refine Ev.reg (fun _ => rfl) ?_
                refine Ev.nxk (mvO rfl) ?_
                refine Ev.rend ?_
                intro e127 he128
                have h129 : eget e127 4 = .int .i64 (-1) := envp he128 rfl rfl
                clear h122 h123 h124 h125
                refine Ev.kseqN ?_
                refine Ev.ex ?_
                refine Ev.kseqR ?_
                refine Ev.kblkR ?_
                refine Ev.kseqR ?_
                cases h
                exact Ev.kid (bQ_x (RS := (laws_heldDealS_b1_RS a1)) (RR := (laws_heldDealS_b1_RR a1)) (by intro h; cases h) (And.intro rfl h129))
              · refine Ev.condF h125 hb126 ?_
                refine Ev.ex ?_
                refine Ev.kseqN ?_
                refine Ev.reg (fun _ => rfl) ?_
                refine Ev.nxk (mvO h123) ?_
                refine Ev.nxk (bAdd rfl rfl) ?_
                refine Ev.nxk (mvO rfl) ?_
                refine Ev.rend ?_
                intro e130 he131
                have h132 : eget e130 0 = .sl none (a1.map Deal.c) := envp he131 rfl h122
                have h133 : eget e130 1 = .int .i64 (IntKind.i64.wrap ((IntKind.i64.wrap ((IntKind.i64.wrap ((IntKind.i64.wrap ((IntKind.i64.wrap ((IntKind.i64.wrap (s1_1 + 1)) + 1)) + 1)) + 1)) + 1)) + 1)) := envp he131 rfl rfl
                have h134 : eget e130 5 = .int .i64 s1_2 := envp he131 rfl h124
                clear h122 h124 h125
                refine Ev.kblkN ?_
                refine Ev.kseqN ?_
                refine Ev.reg (fun _ => rfl) ?_
                refine Ev.nxk (mvO h134) ?_
                refine Ev.nxk (bAdd rfl rfl) ?_
                refine Ev.nxk (mvO rfl) ?_
                refine Ev.rend ?_
                intro e135 he136
                have h137 : eget e135 0 = .sl none (a1.map Deal.c) := envp he136 rfl h132
                have h138 : eget e135 1 = .int .i64 (IntKind.i64.wrap ((IntKind.i64.wrap ((IntKind.i64.wrap ((IntKind.i64.wrap ((IntKind.i64.wrap ((IntKind.i64.wrap (s1_1 + 1)) + 1)) + 1)) + 1)) + 1)) + 1)) := envp he136 rfl h133
                have h139 : eget e135 5 = .int .i64 (IntKind.i64.wrap (s1_2 + 1)) := envp he136 rfl rfl
                clear h132 h133
                cases h
                exact Ev.kid (bQ_n (RS := (laws_heldDealS_b1_RS a1)) (RR := (laws_heldDealS_b1_RR a1)) (And.intro h137 (And.intro h138 h139)))
  · refine Ev.condF h31 hb32 ?_
    refine Ev.ex ?_
    refine Ev.kseqE ?_
    cases h
    exact Ev.kid (bQ_x (RS := (laws_heldDealS_b1_RS a1)) (RR := (laws_heldDealS_b1_RR a1)) (by intro h; cases h) (And.intro rfl h29))
noncomputable def laws_heldDealS (a1 : List Deal) (a2 : Int) : Option Int :=
  (Lw (laws_heldDealS_b1 a1) (a2, 0)).bind fun r => match r with
  | (.inl _) =>
    some (-1)
  | (.inr y148) =>
    some y148
def laws_heldDealS_enc (r : Int) : AV := .int .i64 r
theorem laws_heldDealS_ok (a1 : List Deal) (a2 : Int) (r : Int) (h : laws_heldDealS a1 a2 = some r) : Ev (fun k => CN k 26 [.sl none (a1.map Deal.c), .int .i64 a2] []) (fun p => rRes p.2 p.1 = laws_heldDealS_enc r) := by
  unfold laws_heldDealS at h
  refine Ev.enter (F := fun k => f26 (CN k) k) (fun k => callN_eq rfl Try.func26 rfl rfl rfl (by decide +kernel) (f26_eq _ _)) ?_
  refine Ev.seq ?_
  refine Ev.reg (fun _ => rfl) ?_
  refine Ev.nxk (mvO rfl) ?_
  refine Ev.rend ?_
  intro e1 he2
  have h3 : eget e1 0 = .sl none (a1.map Deal.c) := envp he2 rfl rfl
  have h4 : eget e1 1 = .int .i64 a2 := envp he2 rfl rfl
  refine Ev.kseqN ?_
  refine Ev.seq ?_
  refine Ev.seq ?_
  refine Ev.reg (fun _ => rfl) ?_
  refine Ev.nxk (mvO rfl) ?_
  refine Ev.rend ?_
  intro e5 he6
  have h7 : eget e5 0 = .sl none (a1.map Deal.c) := envp he6 rfl h3
  have h8 : eget e5 1 = .int .i64 a2 := envp he6 rfl h4
  have h9 : eget e5 5 = .int .i64 0 := envp he6 rfl rfl
  clear h3 h4
  refine Ev.kseqN ?_
  refine Ev.blk ?_
  obtain ⟨r140, hr141, h⟩ := bind_some h
  rcases r140 with _ | y148
  · refine Ev.loop (RS := laws_heldDealS_b1_RS a1) (RR := laws_heldDealS_b1_RR a1) (fun s r h e M hs => laws_heldDealS_b1_ok a1 s r h e M hs) hr141 (And.intro h7 (And.intro h8 h9)) ?_
    intro x e143 M144 hq142
    obtain ⟨rfl, h145⟩ := hq142
    refine Ev.kblkR ?_
    refine Ev.kseqR ?_
    cases h
    exact Ev.kendR (resT h145 res0) rfl
  · refine Ev.loop (RS := laws_heldDealS_b1_RS a1) (RR := laws_heldDealS_b1_RR a1) (fun s r h e M hs => laws_heldDealS_b1_ok a1 s r h e M hs) hr141 (And.intro h7 (And.intro h8 h9)) ?_
    intro x e146 M147 hq142
    obtain ⟨rfl, h149⟩ := hq142
    refine Ev.kblkE ?_
    refine Ev.kseqN ?_
    refine Ev.seq ?_
    refine Ev.reg (fun _ => rfl) ?_
    refine Ev.nxk (mvO h149) ?_
    refine Ev.nxk (mvO rfl) ?_
    refine Ev.rend ?_
    intro e150 he151
    have h152 : eget e150 4 = .int .i64 y148 := envp he151 rfl rfl
    clear h149
    refine Ev.kseqN ?_
    refine Ev.ex ?_
    cases h
    exact Ev.kendR (resT h152 res0) rfl
/-! ### loop.example/g01263/laws.eqDealS (f24) -/
abbrev laws_eqDealS_b1_S := Int
abbrev laws_eqDealS_b1_R := Unit ⊕ Unit
def laws_eqDealS_b1_RS (a1 : List Deal) (a2 : List Deal) (s : laws_eqDealS_b1_S) (e : Env) (M : Mem) : Prop := eget e 0 = .sl none (a1.map Deal.c) ∧ eget e 1 = .sl none (a2.map Deal.c) ∧ eget e 5 = .int .i64 s
def laws_eqDealS_b1_RR (a1 : List Deal) (a2 : List Deal) (r : laws_eqDealS_b1_R) (x : Ex) (e : Env) (M : Mem) : Prop :=
  match r with
  | (.inl g) => x = .ret ∧ eget e 4 = .bool false
  | (.inr g) => x = .ext 0 ∧ True
noncomputable def laws_eqDealS_b1 (a1 : List Deal) (a2 : List Deal) : laws_eqDealS_b1_S → Option (laws_eqDealS_b1_S ⊕ laws_eqDealS_b1_R) := fun s1_1 =>
  if (decide (s1_1 < (a1.length : Int))) = true then
    (rd a1 s1_1).bind fun x42 =>
    (rd a2 s1_1).bind fun x44 =>
    (laws_eqDeal x42 x44).bind fun r47 =>
    if r47 = true then
      some (.inl (IntKind.i64.wrap (s1_1 + 1)))
    else
      some (.inr (.inl ()))
  else
    some (.inr (.inr ()))
theorem laws_eqDealS_b1_ok (a1 : List Deal) (a2 : List Deal) (s : laws_eqDealS_b1_S) (r : laws_eqDealS_b1_S ⊕ laws_eqDealS_b1_R) (h : laws_eqDealS_b1 a1 a2 s = some r) (e : Env) (M : Mem) (hs : laws_eqDealS_b1_RS a1 a2 s e M) : Ev (fun k => (f24_l4 (CN k) k (prune [0, 1, 5] e) M).bind fun q => some q) (bQ (laws_eqDealS_b1_RS a1 a2) (laws_eqDealS_b1_RR a1 a2) r) := by
  revert h hs
  revert s
  intro s1_1 h hs
  unfold laws_eqDealS_b1 at h
  obtain ⟨h29, h31, h33⟩ := hs
  generalize he28 : prune [0, 1, 5] e = e27
  have h30 := envp he28.symm rfl h29
  have h32 := envp he28.symm rfl h31
  have h34 := envp he28.symm rfl h33
  refine Ev.seq ?_
  refine Ev.seq ?_
  refine Ev.reg (fun _ => rfl) ?_
  refine Ev.nxk (mvO h34) ?_
  refine Ev.nxk (mvO h30) ?_
  refine Ev.nxk (lnS Try.underlying56 rfl) ?_
  refine Ev.nxk (bLss rfl rfl) ?_
  refine Ev.rend ?_
  intro e35 he36
  have h37 : eget e35 0 = .sl none (a1.map Deal.c) := envp he36 rfl h30
  have h38 : eget e35 1 = .sl none (a2.map Deal.c) := envp he36 rfl h32
  have h39 : eget e35 5 = .int .i64 s1_1 := envp he36 rfl h34
  have h40 : eget e35 14 = .bool (decide (s1_1 < (a1.length : Int))) := envp he36 rfl rfl
  clear h30 h32 h34
  refine Ev.kseqN ?_
  rcases ite_some h with ⟨hb41, h⟩ | ⟨hb41, h⟩
  · refine Ev.condT h40 hb41 ?_
    refine Ev.ex ?_
    refine Ev.kseqN ?_
    refine Ev.seq ?_
    refine Ev.blk ?_
    refine Ev.seq ?_
    refine Ev.regD (fun _ => rfl) ?_
    refine Ev.nfk (mvO h37) ?_
    refine Ev.nfk (mvO h39) ?_
    obtain ⟨x42, hx43, h⟩ := bind_some h
    refine Ev.nfk (ixS rfl rfl hx43 Deal.fl) ?_
    refine Ev.nfk (ldPA rfl rfl rfl) ?_
    refine Ev.nfk (mvO h38) ?_
    refine Ev.nfk (mvO h39) ?_
    obtain ⟨x44, hx45, h⟩ := bind_some h
    refine Ev.nfk (ixS rfl rfl hx45 Deal.fl) ?_
    refine Ev.nfk (ldPA rfl rfl rfl) ?_
    obtain ⟨r47, hx46, h⟩ := bind_some h
    refine Ev.nfc (Ev.call (v := .bool r47) rfl (cns rfl (cns rfl rfl)) rfl (laws_eqDeal_ok x42 x44 _ hx46) (fun h => nomatch (show false = true from h))) ?_
    refine Ev.nfk (uNot rfl) ?_
    refine Ev.fend0 ?_
    refine Ev.rend ?_
    intro e48 he49
    have h50 : eget e48 0 = .sl none (a1.map Deal.c) := envp he49 rfl h37
    have h51 : eget e48 1 = .sl none (a2.map Deal.c) := envp he49 rfl h38
    have h52 : eget e48 5 = .int .i64 s1_1 := envp he49 rfl h39
    have h53 : eget e48 26 = .bool (!r47) := envp he49 rfl rfl
    clear h37 h38 h39 h40
    refine Ev.kseqN ?_
    rcases ite_some h with ⟨hb54, h⟩ | ⟨hb54, h⟩
    · refine Ev.condF h53 (congrArg Bool.not hb54) ?_
      refine Ev.ex ?_
      refine Ev.kblkN ?_
      refine Ev.kseqN ?_
      refine Ev.reg (fun _ => rfl) ?_
      refine Ev.nxk (mvO h52) ?_
      refine Ev.nxk (bAdd rfl rfl) ?_
      refine Ev.nxk (mvO rfl) ?_
      refine Ev.rend ?_
      intro e55 he56
      have h57 : eget e55 0 = .sl none (a1.map Deal.c) := envp he56 rfl h50
      have h58 : eget e55 1 = .sl none (a2.map Deal.c) := envp he56 rfl h51
      have h59 : eget e55 5 = .int .i64 (IntKind.i64.wrap (s1_1 + 1)) := envp he56 rfl rfl
      clear h50 h51 h53
      cases h
      exact Ev.kid (bQ_n (RS := (laws_eqDealS_b1_RS a1 a2)) (RR := (laws_eqDealS_b1_RR a1 a2)) (And.intro h57 (And.intro h58 h59)))
    · refine Ev.condT h53 (congrArg Bool.not hb54) ?_
      refine Ev.seq ?_
      refine Ev.reg (fun _ => rfl) ?_
      refine Ev.nxk (mvO rfl) ?_
      refine Ev.rend ?_
      intro e60 he61
      have h62 : eget e60 4 = .bool false := envp he61 rfl rfl
      clear h50 h51 h52 h53
      refine Ev.kseqN ?_
      refine Ev.ex ?_
      refine Ev.kblkR ?_
      refine Ev.kseqR ?_
      cases h
      exact Ev.kid (bQ_x (RS := (laws_eqDealS_b1_RS a1 a2)) (RR := (laws_eqDealS_b1_RR a1 a2)) (by intro h; cases h) (And.intro rfl h62))
  · refine Ev.condF h40 hb41 ?_
    refine Ev.ex ?_
    refine Ev.kseqE ?_
    cases h
    exact Ev.kid (bQ_x (RS := (laws_eqDealS_b1_RS a1 a2)) (RR := (laws_eqDealS_b1_RR a1 a2)) (by intro h; cases h) (And.intro rfl trivial))
noncomputable def laws_eqDealS (a1 : List Deal) (a2 : List Deal) : Option Bool :=
  if ((a1.length : Int) != (a2.length : Int)) = true then
    some false
  else
    (Lw (laws_eqDealS_b1 a1 a2) 0).bind fun r => match r with
    | (.inl _) =>
      some false
    | (.inr _) =>
      some true
def laws_eqDealS_enc (r : Bool) : AV := .bool r
theorem laws_eqDealS_ok (a1 : List Deal) (a2 : List Deal) (r : Bool) (h : laws_eqDealS a1 a2 = some r) : Ev (fun k => CN k 24 [.sl none (a1.map Deal.c), .sl none (a2.map Deal.c)] []) (fun p => rRes p.2 p.1 = laws_eqDealS_enc r) := by
  unfold laws_eqDealS at h
  refine Ev.enter (F := fun k => f24 (CN k) k) (fun k => callN_eq rfl Try.func24 rfl rfl rfl (by decide +kernel) (f24_eq _ _)) ?_
  refine Ev.seq ?_
  refine Ev.reg (fun _ => rfl) ?_
  refine Ev.nxk (mvO rfl) ?_
  refine Ev.rend ?_
  intro e1 he2
  have h3 : eget e1 0 = .sl none (a1.map Deal.c) := envp he2 rfl rfl
  have h4 : eget e1 1 = .sl none (a2.map Deal.c) := envp he2 rfl rfl
  refine Ev.kseqN ?_
  refine Ev.seq ?_
  refine Ev.seq ?_
  refine Ev.reg (fun _ => rfl) ?_
  refine Ev.nxk (mvO h3) ?_
  refine Ev.nxk (lnS Try.underlying56 rfl) ?_
  refine Ev.nxk (mvO h4) ?_
  refine Ev.nxk (lnS Try.underlying56 rfl) ?_
  refine Ev.nxk (bNeq rfl rfl) ?_
  refine Ev.rend ?_
  intro e5 he6
  have h7 : eget e5 0 = .sl none (a1.map Deal.c) := envp he6 rfl h3
  have h8 : eget e5 1 = .sl none (a2.map Deal.c) := envp he6 rfl h4
  have h9 : eget e5 10 = .bool ((a1.length : Int) != (a2.length : Int)) := envp he6 rfl rfl
  clear h3 h4
  refine Ev.kseqN ?_
  rcases ite_some h with ⟨hb10, h⟩ | ⟨hb10, h⟩
  · refine Ev.condT h9 hb10 ?_
    refine Ev.seq ?_
    refine Ev.reg (fun _ => rfl) ?_
    refine Ev.nxk (mvO rfl) ?_
    refine Ev.rend ?_
    intro e11 he12
    have h13 : eget e11 4 = .bool false := envp he12 rfl rfl
    clear h7 h8 h9
    refine Ev.kseqN ?_
    refine Ev.ex ?_
    refine Ev.kseqR ?_
    cases h
    exact Ev.kendR (resT h13 res0) rfl
  · refine Ev.condF h9 hb10 ?_
    refine Ev.ex ?_
    refine Ev.kseqN ?_
    refine Ev.seq ?_
    refine Ev.seq ?_
    refine Ev.reg (fun _ => rfl) ?_
    refine Ev.nxk (mvO rfl) ?_
    refine Ev.rend ?_
    intro e14 he15
    have h16 : eget e14 0 = .sl none (a1.map Deal.c) := envp he15 rfl h7
    have h17 : eget e14 1 = .sl none (a2.map Deal.c) := envp he15 rfl h8
    have h18 : eget e14 5 = .int .i64 0 := envp he15 rfl rfl
    clear h7 h8 h9
    refine Ev.kseqN ?_
    refine Ev.blk ?_
    obtain ⟨r63, hr64, h⟩ := bind_some h
    rcases r63 with _ | _
    · refine Ev.loop (RS := laws_eqDealS_b1_RS a1 a2) (RR := laws_eqDealS_b1_RR a1 a2) (fun s r h e M hs => laws_eqDealS_b1_ok a1 a2 s r h e M hs) hr64 (And.intro h16 (And.intro h17 h18)) ?_
      intro x e66 M67 hq65
      obtain ⟨rfl, h68⟩ := hq65
      refine Ev.kblkR ?_
      refine Ev.kseqR ?_
      cases h
      exact Ev.kendR (resT h68 res0) rfl
    · refine Ev.loop (RS := laws_eqDealS_b1_RS a1 a2) (RR := laws_eqDealS_b1_RR a1 a2) (fun s r h e M hs => laws_eqDealS_b1_ok a1 a2 s r h e M hs) hr64 (And.intro h16 (And.intro h17 h18)) ?_
      intro x e69 M70 hq65
      obtain ⟨rfl, _⟩ := hq65
      refine Ev.kblkE ?_
      refine Ev.kseqN ?_
      refine Ev.seq ?_
      refine Ev.reg (fun _ => rfl) ?_
      refine Ev.nxk (mvO rfl) ?_
      refine Ev.rend ?_
      intro e71 he72
      have h73 : eget e71 4 = .bool true := envp he72 rfl rfl
      refine Ev.kseqN ?_
      refine Ev.ex ?_
      cases h
      exact Ev.kendR (resT h73 res0) rfl
/-! ### loop.example/g01263/impl.PutTogether (f23) -/
def impl_PutTogether_c1_Q (a1 : List Deal) (a2 : List Deal) (g : Bool) (q : Out) : Prop := q.1 = .nrm ∧ eget q.2.1 0 = .sl none (a1.map Deal.c) ∧ eget q.2.1 1 = .sl none (a2.map Deal.c) ∧ eget q.2.1 7 = .bool g
def impl_PutTogether_c2_Q (a1 : List Deal) (a2 : List Deal) (g : Bool) (q : Out) : Prop := q.1 = .nrm ∧ eget q.2.1 0 = .sl none (a1.map Deal.c) ∧ eget q.2.1 1 = .sl none (a2.map Deal.c) ∧ eget q.2.1 16 = .bool g
def impl_PutTogether_c3_Q (a1 : List Deal) (a2 : List Deal) (g : Bool) (q : Out) : Prop := q.1 = .nrm ∧ eget q.2.1 0 = .sl none (a1.map Deal.c) ∧ eget q.2.1 1 = .sl none (a2.map Deal.c) ∧ eget q.2.1 25 = .bool g
def impl_PutTogether_c6_Q (s1_1 : List Deal) (s1_2 : List Deal) (s1_3 : List Deal) (i1_1 : Nat) (g : Bool) (q : Out) : Prop := q.1 = .nrm ∧ eget q.2.1 0 = .sl none (s1_1.map Deal.c) ∧ eget q.2.1 1 = .sl none (s1_2.map Deal.c) ∧ eget q.2.1 6 = .lsl i1_1 s1_3.length 0 s1_3.length ∧ eget q.2.1 66 = .bool g ∧ q.2.2[i1_1]? = some (.live ⟨.grow, 85, 6, s1_3.map Deal.c⟩)
abbrev impl_PutTogether_b1_S := (List Deal) × (List Deal) × (List Deal)
abbrev impl_PutTogether_b1_R := (List Deal)
def impl_PutTogether_b1_RS (i1_1 : Nat) (s : impl_PutTogether_b1_S) (e : Env) (M : Mem) : Prop := eget e 0 = .sl none (s.1.map Deal.c) ∧ eget e 1 = .sl none (s.2.1.map Deal.c) ∧ eget e 6 = .lsl i1_1 s.2.2.length 0 s.2.2.length ∧ M[i1_1]? = some (.live ⟨.grow, 85, 6, s.2.2.map Deal.c⟩)
def impl_PutTogether_b1_RR (i1_1 : Nat) (g : impl_PutTogether_b1_R) (x : Ex) (e : Env) (M : Mem) : Prop := x = .ext 1 ∧ eget e 6 = .lsl i1_1 g.length 0 g.length ∧ M[i1_1]? = some (.live ⟨.grow, 85, 6, g.map Deal.c⟩)
noncomputable def impl_PutTogether_b1 : impl_PutTogether_b1_S → Option (impl_PutTogether_b1_S ⊕ impl_PutTogether_b1_R) := fun (s1_1, s1_2, s1_3) =>
  if (decide ((IntKind.i64.wrap ((s1_1.length : Int) + (s1_2.length : Int))) > 0)) = true then
    (if (decide ((s1_2.length : Int) > 0)) = true then
      if ((s1_1.length : Int) == 0) = true then
        some true
      else
        (rd s1_2 0).bind fun x131 =>
        (rd s1_1 0).bind fun x133 =>
        some (decide (x131.Day < x133.Day))
    else
      some false).bind fun y149 =>
    if y149 = true then
      (rd s1_2 0).bind fun x156 =>
      (app 48 s1_3 [x156]).bind fun x158 =>
      (slc s1_2 1 (s1_2.length : Int)).bind fun x168 =>
      some (.inl (s1_1, x168, x158))
    else
      (rd s1_1 0).bind fun x175 =>
      (app 48 s1_3 [x175]).bind fun x177 =>
      (slc s1_1 1 (s1_1.length : Int)).bind fun x187 =>
      some (.inl (x187, s1_2, x177))
  else
    some (.inr s1_3)
theorem impl_PutTogether_b1_ok (i1_1 : Nat) (s : impl_PutTogether_b1_S) (r : impl_PutTogether_b1_S ⊕ impl_PutTogether_b1_R) (h : impl_PutTogether_b1 s = some r) (e : Env) (M : Mem) (hs : impl_PutTogether_b1_RS i1_1 s e M) : Ev (fun k => (f23_l10 (CN k) k (prune [0, 1, 6] e) M).bind fun q => some q) (bQ (impl_PutTogether_b1_RS i1_1) (impl_PutTogether_b1_RR i1_1) r) := by
  obtain ⟨s1_1, s1_2, s1_3⟩ := s
  unfold impl_PutTogether_b1 at h
  obtain ⟨h109, h111, h113, o115⟩ := hs
  generalize he108 : prune [0, 1, 6] e = e107
  have h110 := envp he108.symm rfl h109
  have h112 := envp he108.symm rfl h111
  have h114 := envp he108.symm rfl h113
  refine Ev.seq ?_
  refine Ev.seq ?_
  refine Ev.reg (fun _ => rfl) ?_
  refine Ev.nxk (mvO h110) ?_
  refine Ev.nxk (lnS Try.underlying56 rfl) ?_
  refine Ev.nxk (mvO h112) ?_
  refine Ev.nxk (lnS Try.underlying56 rfl) ?_
  refine Ev.nxk (bAdd rfl rfl) ?_
  refine Ev.nxk (bGtr rfl rfl) ?_
  refine Ev.rend ?_
  intro e116 he117
  have h118 : eget e116 0 = .sl none (s1_1.map Deal.c) := envp he117 rfl h110
  have h119 : eget e116 1 = .sl none (s1_2.map Deal.c) := envp he117 rfl h112
  have h120 : eget e116 6 = .lsl i1_1 s1_3.length 0 s1_3.length := envp he117 rfl h114
  have h121 : eget e116 47 = .bool (decide ((IntKind.i64.wrap ((s1_1.length : Int) + (s1_2.length : Int))) > 0)) := envp he117 rfl rfl
  clear h110 h112 h114
  refine Ev.kseqN ?_
  rcases ite_some h with ⟨hb122, h⟩ | ⟨hb122, h⟩
  · refine Ev.condT h121 hb122 ?_
    refine Ev.ex ?_
    refine Ev.kseqN ?_
    refine Ev.blk ?_
    refine Ev.seq ?_
    obtain ⟨r195, hr196, h⟩ := bind_some h
    refine Ev.cut (Q1 := impl_PutTogether_c6_Q s1_1 s1_2 s1_3 i1_1 r195) (by
        have h := hr196
        refine Ev.regD (fun _ => rfl) ?_
        refine Ev.nfk (mvO h119) ?_
        refine Ev.nfk (lnS Try.underlying56 rfl) ?_
        refine Ev.nfk (bGtr rfl rfl) ?_
        refine Ev.nfk (mvO rfl) ?_
        rcases ite_some h with ⟨hb123, h⟩ | ⟨hb123, h⟩
        · refine Ev.nfk (guT rfl hb123 (mvO h118)) ?_
          refine Ev.nfk (guT rfl hb123 (lnS Try.underlying56 rfl)) ?_
          refine Ev.nfk (guT rfl hb123 (bEql rfl rfl)) ?_
          refine Ev.nfk (guT rfl hb123 (mvO rfl)) ?_
          rcases ite_some h with ⟨hb124, h⟩ | ⟨hb124, h⟩
          · refine Ev.nfk (gsF rfl hb124) ?_
            refine Ev.nfk (gsF rfl hb124) ?_
            refine Ev.nfk (gsF rfl hb124) ?_
            refine Ev.nfk (gsF rfl hb124) ?_
            refine Ev.nfk (gsF rfl hb124) ?_
            refine Ev.nfk (gsF rfl hb124) ?_
            refine Ev.nfk (gsF rfl hb124) ?_
            refine Ev.nfk (gsF rfl hb124) ?_
            refine Ev.nfk (gsF rfl hb124) ?_
            refine Ev.nfk (guT rfl hb123 (pkT rfl hb124 rfl)) ?_
            refine Ev.nfk (pkT rfl hb123 rfl) ?_
            refine Ev.fend0 ?_
            refine Ev.rend ?_
            intro e125 he126
            have h127 : eget e125 0 = .sl none (s1_1.map Deal.c) := envp he126 rfl h118
            have h128 : eget e125 1 = .sl none (s1_2.map Deal.c) := envp he126 rfl h119
            have h129 : eget e125 6 = .lsl i1_1 s1_3.length 0 s1_3.length := envp he126 rfl h120
            have h130 : eget e125 66 = .bool true := envp he126 rfl rfl
            clear h118 h119 h120 h121
            cases h
            exact Ev.kid (show impl_PutTogether_c6_Q s1_1 s1_2 s1_3 i1_1 _ _ from (And.intro rfl (And.intro h127 (And.intro h128 (And.intro h129 (And.intro h130 o115))))))
          · refine Ev.nfk (guF rfl hb124 (mvO h119)) ?_
            obtain ⟨x131, hx132, h⟩ := bind_some h
            refine Ev.nfk (guF rfl hb124 (ixS rfl rfl hx132 Deal.fl)) ?_
            refine Ev.nfk (guF rfl hb124 (faP rfl ⟨ble rfl, blt rfl⟩ rfl)) ?_
            refine Ev.nfk (guF rfl hb124 (ldP rfl rfl)) ?_
            refine Ev.nfk (guF rfl hb124 (mvO h118)) ?_
            obtain ⟨x133, hx134, h⟩ := bind_some h
            refine Ev.nfk (guF rfl hb124 (ixS rfl rfl hx134 Deal.fl)) ?_
            refine Ev.nfk (guF rfl hb124 (faP rfl ⟨ble rfl, blt rfl⟩ rfl)) ?_
            refine Ev.nfk (guF rfl hb124 (ldP rfl rfl)) ?_
            refine Ev.nfk (guF rfl hb124 (bLss rfl rfl)) ?_
            refine Ev.nfk (guT rfl hb123 (pkF rfl hb124 rfl)) ?_
            refine Ev.nfk (pkT rfl hb123 rfl) ?_
            refine Ev.fend0 ?_
            refine Ev.rend ?_
            intro e135 he136
            have h137 : eget e135 0 = .sl none (s1_1.map Deal.c) := envp he136 rfl h118
            have h138 : eget e135 1 = .sl none (s1_2.map Deal.c) := envp he136 rfl h119
            have h139 : eget e135 6 = .lsl i1_1 s1_3.length 0 s1_3.length := envp he136 rfl h120
            have h140 : eget e135 66 = .bool (decide (x131.Day < x133.Day)) := envp he136 rfl rfl
            clear h118 h119 h120 h121
            cases h
            exact Ev.kid (show impl_PutTogether_c6_Q s1_1 s1_2 s1_3 i1_1 _ _ from (And.intro rfl (And.intro h137 (And.intro h138 (And.intro h139 (And.intro h140 o115))))))
        · refine Ev.nfk (gsT rfl hb123) ?_
          refine Ev.nfk (gsT rfl hb123) ?_
          refine Ev.nfk (gsT rfl hb123) ?_
          refine Ev.nfk (gsT rfl hb123) ?_
          refine Ev.nfk (gsU rfl) ?_
          refine Ev.nfk (gsU rfl) ?_
          refine Ev.nfk (gsU rfl) ?_
          refine Ev.nfk (gsU rfl) ?_
          refine Ev.nfk (gsU rfl) ?_
          refine Ev.nfk (gsU rfl) ?_
          refine Ev.nfk (gsU rfl) ?_
          refine Ev.nfk (gsU rfl) ?_
          refine Ev.nfk (gsU rfl) ?_
          refine Ev.nfk (gsT rfl hb123) ?_
          refine Ev.nfk (pkF rfl hb123 rfl) ?_
          refine Ev.fend0 ?_
          refine Ev.rend ?_
          intro e141 he142
          have h143 : eget e141 0 = .sl none (s1_1.map Deal.c) := envp he142 rfl h118
          have h144 : eget e141 1 = .sl none (s1_2.map Deal.c) := envp he142 rfl h119
          have h145 : eget e141 6 = .lsl i1_1 s1_3.length 0 s1_3.length := envp he142 rfl h120
          have h146 : eget e141 66 = .bool false := envp he142 rfl rfl
          clear h118 h119 h120 h121
          cases h
          exact Ev.kid (show impl_PutTogether_c6_Q s1_1 s1_2 s1_3 i1_1 _ _ from (And.intro rfl (And.intro h143 (And.intro h144 (And.intro h145 (And.intro h146 o115))))))) ?_
    revert h hr196
    revert r195
    intro y149 hr196 h
    intro x e147 M148 hq194
    obtain ⟨rfl, h150, h151, h152, h153, o154⟩ := hq194
    refine Ev.kseqN ?_
    rcases ite_some h with ⟨hb155, h⟩ | ⟨hb155, h⟩
    · refine Ev.condT h153 hb155 ?_
      refine Ev.seq ?_
      refine Ev.reg (fun _ => rfl) ?_
      refine Ev.nxk (mvO h152) ?_
      refine Ev.nxk (mvO h151) ?_
      obtain ⟨x156, hx157, h⟩ := bind_some h
      refine Ev.nxk (ixS rfl rfl hx157 Deal.fl) ?_
      refine Ev.nxk (ldPA rfl rfl rfl) ?_
      refine Ev.nxk (litI (cns rfl rfl) rfl ⟨rfl, by decide⟩) ?_
      obtain ⟨x158, hx159, h⟩ := bind_some h
      refine Ev.nxput (apO rfl o154 rfl (elT (c := Deal.c) (xs := [x156]) rfl) hx159 Deal.fl (by decide)) ?_
      intro M160 hM161
      have o162 : M160[i1_1]? = some (.live ⟨.grow, 85, 6, x158.map Deal.c⟩) := set_same hM161 o154
      refine Ev.nxk (mvO rfl) ?_
      refine Ev.rend ?_
      intro e163 he164
      have h165 : eget e163 0 = .sl none (s1_1.map Deal.c) := envp he164 rfl h150
      have h166 : eget e163 1 = .sl none (s1_2.map Deal.c) := envp he164 rfl h151
      have h167 : eget e163 6 = .lsl i1_1 x158.length 0 x158.length := envp he164 rfl rfl
      clear h150 h151 h153
      refine Ev.kseqN ?_
      refine Ev.reg (fun _ => rfl) ?_
      refine Ev.nxk (mvO h166) ?_
      obtain ⟨x168, hx169, h⟩ := bind_some h
      refine Ev.nxk (slS rfl (bnd1 rfl) rfl hx169 Deal.fl) ?_
      refine Ev.nxk (mvO rfl) ?_
      refine Ev.rend ?_
      intro e170 he171
      have h172 : eget e170 0 = .sl none (s1_1.map Deal.c) := envp he171 rfl h165
      have h173 : eget e170 1 = .sl none (x168.map Deal.c) := envp he171 rfl rfl
      have h174 : eget e170 6 = .lsl i1_1 x158.length 0 x158.length := envp he171 rfl h167
      clear h165 h167
      refine Ev.kblkN ?_
      cases h
      exact Ev.kid (bQ_n (RS := (impl_PutTogether_b1_RS i1_1)) (RR := (impl_PutTogether_b1_RR i1_1)) (And.intro h172 (And.intro h173 (And.intro h174 o162))))
    · refine Ev.condF h153 hb155 ?_
      refine Ev.seq ?_
      refine Ev.reg (fun _ => rfl) ?_
      refine Ev.nxk (mvO h152) ?_
      refine Ev.nxk (mvO h150) ?_
      obtain ⟨x175, hx176, h⟩ := bind_some h
      refine Ev.nxk (ixS rfl rfl hx176 Deal.fl) ?_
      refine Ev.nxk (ldPA rfl rfl rfl) ?_
      refine Ev.nxk (litI (cns rfl rfl) rfl ⟨rfl, by decide⟩) ?_
      obtain ⟨x177, hx178, h⟩ := bind_some h
      refine Ev.nxput (apO rfl o154 rfl (elT (c := Deal.c) (xs := [x175]) rfl) hx178 Deal.fl (by decide)) ?_
      intro M179 hM180
      have o181 : M179[i1_1]? = some (.live ⟨.grow, 85, 6, x177.map Deal.c⟩) := set_same hM180 o154
      refine Ev.nxk (mvO rfl) ?_
      refine Ev.rend ?_
      intro e182 he183
      have h184 : eget e182 0 = .sl none (s1_1.map Deal.c) := envp he183 rfl h150
      have h185 : eget e182 1 = .sl none (s1_2.map Deal.c) := envp he183 rfl h151
      have h186 : eget e182 6 = .lsl i1_1 x177.length 0 x177.length := envp he183 rfl rfl
      clear h150 h151 h153
      refine Ev.kseqN ?_
      refine Ev.reg (fun _ => rfl) ?_
      refine Ev.nxk (mvO h184) ?_
      obtain ⟨x187, hx188, h⟩ := bind_some h
      refine Ev.nxk (slS rfl (bnd1 rfl) rfl hx188 Deal.fl) ?_
      refine Ev.nxk (mvO rfl) ?_
      refine Ev.rend ?_
      intro e189 he190
      have h191 : eget e189 0 = .sl none (x187.map Deal.c) := envp he190 rfl rfl
      have h192 : eget e189 1 = .sl none (s1_2.map Deal.c) := envp he190 rfl h185
      have h193 : eget e189 6 = .lsl i1_1 x177.length 0 x177.length := envp he190 rfl h186
      clear h185 h186
      refine Ev.kblkN ?_
      cases h
      exact Ev.kid (bQ_n (RS := (impl_PutTogether_b1_RS i1_1)) (RR := (impl_PutTogether_b1_RR i1_1)) (And.intro h191 (And.intro h192 (And.intro h193 o181))))
  · refine Ev.condF h121 hb122 ?_
    refine Ev.ex ?_
    refine Ev.kseqE ?_
    cases h
    exact Ev.kid (bQ_x (RS := (impl_PutTogether_b1_RS i1_1)) (RR := (impl_PutTogether_b1_RR i1_1)) (by intro h; cases h) (And.intro rfl (And.intro h120 o115)))
noncomputable def impl_PutTogether (a1 : List Deal) (a2 : List Deal) : Option (Int ⊕ ((List Deal))) :=
  ((impl_areDeals a1).bind fun r6 =>
  if r6 = true then
    (impl_areDeals a2).bind fun r9 =>
    some (!r9)
  else
    some true).bind fun y22 =>
  if y22 = true then
    some (.inl 1)
  else
    (if (decide ((a1.length : Int) > 80)) = true then
      some true
    else
      some (decide ((a2.length : Int) > 80))).bind fun y44 =>
    if y44 = true then
      some (.inl 3)
    else
      ((impl_inOrder a1).bind fun r54 =>
      if r54 = true then
        (impl_inOrder a2).bind fun r57 =>
        some (!r57)
      else
        some true).bind fun y70 =>
      if y70 = true then
        some (.inl 4)
      else
        if (decide ((IntKind.i64.wrap ((a1.length : Int) + (a2.length : Int))) > 80)) = true then
          some (.inl 3)
        else
          (Lw (impl_PutTogether_b1) (a1, a2, ([] : List Deal))).bind fun y202 =>
          some (.inr y202)
def impl_PutTogether_enc (r : Int ⊕ ((List Deal))) : AV :=
  match r with
  | (.inl g) => .tup [.nils, .int .i64 g]
  | (.inr g) => .tup [.sl (some 85) (g.map Deal.c), .int .i64 0]
theorem impl_PutTogether_ok (a1 : List Deal) (a2 : List Deal) (r : Int ⊕ ((List Deal))) (h : impl_PutTogether a1 a2 = some r) : Ev (fun k => CN k 23 [.sl none (a1.map Deal.c), .sl none (a2.map Deal.c)] []) (fun p => rRes p.2 p.1 = impl_PutTogether_enc r) := by
  unfold impl_PutTogether at h
  refine Ev.enter (F := fun k => f23 (CN k) k) (fun k => callN_eq rfl Try.func23 rfl rfl rfl (by decide +kernel) (f23_eq _ _)) ?_
  refine Ev.seq ?_
  refine Ev.reg (fun _ => rfl) ?_
  refine Ev.nxk (mvO rfl) ?_
  refine Ev.nxk (mvO rfl) ?_
  refine Ev.rend ?_
  intro e1 he2
  have h3 : eget e1 0 = .sl none (a1.map Deal.c) := envp he2 rfl rfl
  have h4 : eget e1 1 = .sl none (a2.map Deal.c) := envp he2 rfl rfl
  refine Ev.kseqN ?_
  refine Ev.seq ?_
  refine Ev.blk ?_
  refine Ev.seq ?_
  obtain ⟨r216, hr217, h⟩ := bind_some h
  refine Ev.cut (Q1 := impl_PutTogether_c1_Q a1 a2 r216) (by
      have h := hr217
      refine Ev.reg (fun _ => rfl) ?_
      refine Ev.nxk (mvO h3) ?_
      obtain ⟨r6, hx5, h⟩ := bind_some h
      refine Ev.nxck (Ev.call (v := .bool r6) rfl (cns rfl rfl) rfl (impl_areDeals_ok a1 _ hx5) (fun h => nomatch (show false = true from h))) ?_
      refine Ev.nxk (uNot rfl) ?_
      refine Ev.nxk (mvO rfl) ?_
      rcases ite_some h with ⟨hb7, h⟩ | ⟨hb7, h⟩
      · refine Ev.nxk (guF rfl (congrArg Bool.not hb7) (mvO h4)) ?_
        obtain ⟨r9, hx8, h⟩ := bind_some h
        refine Ev.nxck (Ev.guF rfl (congrArg Bool.not hb7) (Ev.call (v := .bool r9) rfl (cns rfl rfl) rfl (impl_areDeals_ok a2 _ hx8) (fun h => nomatch (show false = true from h)))) ?_
        refine Ev.nxk (guF rfl (congrArg Bool.not hb7) (uNot rfl)) ?_
        refine Ev.nxk (pkF rfl (congrArg Bool.not hb7) rfl) ?_
        refine Ev.nxk (mvO rfl) ?_
        refine Ev.rend ?_
        intro e10 he11
        have h12 : eget e10 0 = .sl none (a1.map Deal.c) := envp he11 rfl h3
        have h13 : eget e10 1 = .sl none (a2.map Deal.c) := envp he11 rfl h4
        have h14 : eget e10 7 = .bool (!r9) := envp he11 rfl rfl
        clear h3 h4
        cases h
        exact Ev.kid (show impl_PutTogether_c1_Q a1 a2 _ _ from (And.intro rfl (And.intro h12 (And.intro h13 h14))))
      · refine Ev.nxk (gsF rfl (congrArg Bool.not hb7)) ?_
        refine Ev.nxck (Ev.gsF rfl (congrArg Bool.not hb7)) ?_
        refine Ev.nxk (gsF rfl (congrArg Bool.not hb7)) ?_
        refine Ev.nxk (pkT rfl (congrArg Bool.not hb7) rfl) ?_
        refine Ev.nxk (mvO rfl) ?_
        refine Ev.rend ?_
        intro e15 he16
        have h17 : eget e15 0 = .sl none (a1.map Deal.c) := envp he16 rfl h3
        have h18 : eget e15 1 = .sl none (a2.map Deal.c) := envp he16 rfl h4
        have h19 : eget e15 7 = .bool true := envp he16 rfl rfl
        clear h3 h4
        cases h
        exact Ev.kid (show impl_PutTogether_c1_Q a1 a2 _ _ from (And.intro rfl (And.intro h17 (And.intro h18 h19))))) ?_
  revert h hr217
  revert r216
  intro y22 hr217 h
  intro x e20 M21 hq215
  obtain ⟨rfl, h23, h24, h25⟩ := hq215
  refine Ev.kseqN ?_
  rcases ite_some h with ⟨hb26, h⟩ | ⟨hb26, h⟩
  · refine Ev.condT h25 hb26 ?_
    refine Ev.seq ?_
    refine Ev.reg (fun _ => rfl) ?_
    refine Ev.nxk (mvO rfl) ?_
    refine Ev.nxk (mvO rfl) ?_
    refine Ev.rend ?_
    intro e27 he28
    have h29 : eget e27 4 = .nils := envp he28 rfl rfl
    have h30 : eget e27 5 = .int .i64 1 := envp he28 rfl rfl
    clear h23 h24 h25
    refine Ev.kseqN ?_
    refine Ev.ex ?_
    refine Ev.kblkR ?_
    refine Ev.kseqR ?_
    cases h
    exact Ev.kendR (resT h29 (resT h30 res0)) rfl
  · refine Ev.condF h25 hb26 ?_
    refine Ev.seq ?_
    obtain ⟨r213, hr214, h⟩ := bind_some h
    refine Ev.cut (Q1 := impl_PutTogether_c2_Q a1 a2 r213) (by
        have h := hr214
        refine Ev.reg (fun _ => rfl) ?_
        refine Ev.nxk (mvO h23) ?_
        refine Ev.nxk (lnS Try.underlying56 rfl) ?_
        refine Ev.nxk (bGtr rfl rfl) ?_
        refine Ev.nxk (mvO rfl) ?_
        rcases ite_some h with ⟨hb31, h⟩ | ⟨hb31, h⟩
        · refine Ev.nxk (gsF rfl hb31) ?_
          refine Ev.nxk (gsF rfl hb31) ?_
          refine Ev.nxk (gsF rfl hb31) ?_
          refine Ev.nxk (pkT rfl hb31 rfl) ?_
          refine Ev.nxk (mvO rfl) ?_
          refine Ev.rend ?_
          intro e32 he33
          have h34 : eget e32 0 = .sl none (a1.map Deal.c) := envp he33 rfl h23
          have h35 : eget e32 1 = .sl none (a2.map Deal.c) := envp he33 rfl h24
          have h36 : eget e32 16 = .bool true := envp he33 rfl rfl
          clear h23 h24 h25
          cases h
          exact Ev.kid (show impl_PutTogether_c2_Q a1 a2 _ _ from (And.intro rfl (And.intro h34 (And.intro h35 h36))))
        · refine Ev.nxk (guF rfl hb31 (mvO h24)) ?_
          refine Ev.nxk (guF rfl hb31 (lnS Try.underlying56 rfl)) ?_
          refine Ev.nxk (guF rfl hb31 (bGtr rfl rfl)) ?_
          refine Ev.nxk (pkF rfl hb31 rfl) ?_
          refine Ev.nxk (mvO rfl) ?_
          refine Ev.rend ?_
          intro e37 he38
          have h39 : eget e37 0 = .sl none (a1.map Deal.c) := envp he38 rfl h23
          have h40 : eget e37 1 = .sl none (a2.map Deal.c) := envp he38 rfl h24
          have h41 : eget e37 16 = .bool (decide ((a2.length : Int) > 80)) := envp he38 rfl rfl
          clear h23 h24 h25
          cases h
          exact Ev.kid (show impl_PutTogether_c2_Q a1 a2 _ _ from (And.intro rfl (And.intro h39 (And.intro h40 h41))))) ?_
    revert h hr214
    revert r213
    intro y44 hr214 h
    intro x e42 M43 hq212
    obtain ⟨rfl, h45, h46, h47⟩ := hq212
    refine Ev.kseqN ?_
    rcases ite_some h with ⟨hb48, h⟩ | ⟨hb48, h⟩
    · refine Ev.condT h47 hb48 ?_
      refine Ev.seq ?_
      refine Ev.reg (fun _ => rfl) ?_
      refine Ev.nxk (mvO rfl) ?_
      refine Ev.nxk (mvO rfl) ?_
      refine Ev.rend ?_
      intro e49 he50
      have h51 : eget e49 4 = .nils := envp he50 rfl rfl
      have h52 : eget e49 5 = .int .i64 3 := envp he50 rfl rfl
      clear h45 h46 h47
      refine Ev.kseqN ?_
      refine Ev.ex ?_
      refine Ev.kblkR ?_
      refine Ev.kseqR ?_
      cases h
      exact Ev.kendR (resT h51 (resT h52 res0)) rfl
    · refine Ev.condF h47 hb48 ?_
      refine Ev.seq ?_
      obtain ⟨r210, hr211, h⟩ := bind_some h
      refine Ev.cut (Q1 := impl_PutTogether_c3_Q a1 a2 r210) (by
          have h := hr211
          refine Ev.reg (fun _ => rfl) ?_
          refine Ev.nxk (mvO h45) ?_
          obtain ⟨r54, hx53, h⟩ := bind_some h
          refine Ev.nxck (Ev.call (v := .bool r54) rfl (cns rfl rfl) rfl (impl_inOrder_ok a1 _ hx53) (fun h => nomatch (show false = true from h))) ?_
          refine Ev.nxk (uNot rfl) ?_
          refine Ev.nxk (mvO rfl) ?_
          rcases ite_some h with ⟨hb55, h⟩ | ⟨hb55, h⟩
          · refine Ev.nxk (guF rfl (congrArg Bool.not hb55) (mvO h46)) ?_
            obtain ⟨r57, hx56, h⟩ := bind_some h
            refine Ev.nxck (Ev.guF rfl (congrArg Bool.not hb55) (Ev.call (v := .bool r57) rfl (cns rfl rfl) rfl (impl_inOrder_ok a2 _ hx56) (fun h => nomatch (show false = true from h)))) ?_
            refine Ev.nxk (guF rfl (congrArg Bool.not hb55) (uNot rfl)) ?_
            refine Ev.nxk (pkF rfl (congrArg Bool.not hb55) rfl) ?_
            refine Ev.nxk (mvO rfl) ?_
            refine Ev.rend ?_
            intro e58 he59
            have h60 : eget e58 0 = .sl none (a1.map Deal.c) := envp he59 rfl h45
            have h61 : eget e58 1 = .sl none (a2.map Deal.c) := envp he59 rfl h46
            have h62 : eget e58 25 = .bool (!r57) := envp he59 rfl rfl
            clear h45 h46 h47
            cases h
            exact Ev.kid (show impl_PutTogether_c3_Q a1 a2 _ _ from (And.intro rfl (And.intro h60 (And.intro h61 h62))))
          · refine Ev.nxk (gsF rfl (congrArg Bool.not hb55)) ?_
            refine Ev.nxck (Ev.gsF rfl (congrArg Bool.not hb55)) ?_
            refine Ev.nxk (gsF rfl (congrArg Bool.not hb55)) ?_
            refine Ev.nxk (pkT rfl (congrArg Bool.not hb55) rfl) ?_
            refine Ev.nxk (mvO rfl) ?_
            refine Ev.rend ?_
            intro e63 he64
            have h65 : eget e63 0 = .sl none (a1.map Deal.c) := envp he64 rfl h45
            have h66 : eget e63 1 = .sl none (a2.map Deal.c) := envp he64 rfl h46
            have h67 : eget e63 25 = .bool true := envp he64 rfl rfl
            clear h45 h46 h47
            cases h
            exact Ev.kid (show impl_PutTogether_c3_Q a1 a2 _ _ from (And.intro rfl (And.intro h65 (And.intro h66 h67))))) ?_
      revert h hr211
      revert r210
      intro y70 hr211 h
      intro x e68 M69 hq209
      obtain ⟨rfl, h71, h72, h73⟩ := hq209
      refine Ev.kseqN ?_
      rcases ite_some h with ⟨hb74, h⟩ | ⟨hb74, h⟩
      · refine Ev.condT h73 hb74 ?_
        refine Ev.seq ?_
        refine Ev.reg (fun _ => rfl) ?_
        refine Ev.nxk (mvO rfl) ?_
        refine Ev.nxk (mvO rfl) ?_
        refine Ev.rend ?_
        intro e75 he76
        have h77 : eget e75 4 = .nils := envp he76 rfl rfl
        have h78 : eget e75 5 = .int .i64 4 := envp he76 rfl rfl
        clear h71 h72 h73
        refine Ev.kseqN ?_
        refine Ev.ex ?_
        refine Ev.kblkR ?_
        refine Ev.kseqR ?_
        cases h
        exact Ev.kendR (resT h77 (resT h78 res0)) rfl
      · refine Ev.condF h73 hb74 ?_
        refine Ev.seq ?_
        refine Ev.reg (fun _ => rfl) ?_
        refine Ev.nxk (mvO h71) ?_
        refine Ev.nxk (lnS Try.underlying56 rfl) ?_
        refine Ev.nxk (mvO h72) ?_
        refine Ev.nxk (lnS Try.underlying56 rfl) ?_
        refine Ev.nxk (bAdd rfl rfl) ?_
        refine Ev.nxk (bGtr rfl rfl) ?_
        refine Ev.nxk (mvO rfl) ?_
        refine Ev.rend ?_
        intro e79 he80
        have h81 : eget e79 0 = .sl none (a1.map Deal.c) := envp he80 rfl h71
        have h82 : eget e79 1 = .sl none (a2.map Deal.c) := envp he80 rfl h72
        have h83 : eget e79 34 = .bool (decide ((IntKind.i64.wrap ((a1.length : Int) + (a2.length : Int))) > 80)) := envp he80 rfl rfl
        clear h71 h72 h73
        refine Ev.kseqN ?_
        rcases ite_some h with ⟨hb84, h⟩ | ⟨hb84, h⟩
        · refine Ev.condT h83 hb84 ?_
          refine Ev.seq ?_
          refine Ev.reg (fun _ => rfl) ?_
          refine Ev.nxk (mvO rfl) ?_
          refine Ev.nxk (mvO rfl) ?_
          refine Ev.rend ?_
          intro e85 he86
          have h87 : eget e85 4 = .nils := envp he86 rfl rfl
          have h88 : eget e85 5 = .int .i64 3 := envp he86 rfl rfl
          clear h81 h82 h83
          refine Ev.kseqN ?_
          refine Ev.ex ?_
          refine Ev.kblkR ?_
          refine Ev.kseqR ?_
          cases h
          exact Ev.kendR (resT h87 (resT h88 res0)) rfl
        · refine Ev.condF h83 hb84 ?_
          refine Ev.ex ?_
          refine Ev.kblkN ?_
          refine Ev.kseqN ?_
          refine Ev.seq ?_
          refine Ev.reg (fun _ => rfl) ?_
          refine Ev.nxpush (litO (xs := ([] : List Deal)) (c := Deal.c) rfl rfl (by decide)) ?_
          intro M90 hM91
          have o92 : M90[M69.length]? = some (.live ⟨.grow, 85, 6, ([] : List Deal).map Deal.c⟩) := push_new hM91
          refine Ev.nxk (mvO rfl) ?_
          refine Ev.rend ?_
          intro e93 he94
          have h95 : eget e93 0 = .sl none (a1.map Deal.c) := envp he94 rfl h81
          have h96 : eget e93 1 = .sl none (a2.map Deal.c) := envp he94 rfl h82
          have h97 : eget e93 6 = .lsl M69.length ([] : List Deal).length 0 ([] : List Deal).length := envp he94 rfl rfl
          clear h81 h82 h83
          refine Ev.kseqN ?_
          refine Ev.seq ?_
          refine Ev.blk ?_
          obtain ⟨y202, hr198, h⟩ := bind_some h
          refine Ev.loop (RS := impl_PutTogether_b1_RS M69.length) (RR := impl_PutTogether_b1_RR M69.length) (fun s r h e M hs => impl_PutTogether_b1_ok M69.length s r h e M hs) hr198 (And.intro h95 (And.intro h96 (And.intro h97 o92))) ?_
          intro x e200 M201 hq199
          obtain ⟨rfl, h203, o204⟩ := hq199
          refine Ev.kblkE ?_
          refine Ev.kseqN ?_
          refine Ev.seq ?_
          refine Ev.reg (fun _ => rfl) ?_
          refine Ev.nxk (mvO h203) ?_
          refine Ev.nxk (mvO rfl) ?_
          refine Ev.nxk (mvO rfl) ?_
          refine Ev.rend ?_
          intro e205 he206
          have h207 : eget e205 4 = .lsl M69.length y202.length 0 y202.length := envp he206 rfl rfl
          have h208 : eget e205 5 = .int .i64 0 := envp he206 rfl rfl
          clear h203
          refine Ev.kseqN ?_
          refine Ev.ex ?_
          cases h
          exact Ev.kendR (resT h207 (resT h208 res0)) (rr_tup (mp1 (rr_row o204 rfl Deal.fl) (mp1 rfl mp0)))
/-! ### loop.example/g01263/laws.toDealS (f22) -/
abbrev laws_toDealS_b1_S := Int × (List Deal)
abbrev laws_toDealS_b1_R := (List Deal)
def laws_toDealS_b1_RS (a1 : List Deal) (x4 : List Deal) (i1_1 : Nat) (s : laws_toDealS_b1_S) (e : Env) (M : Mem) : Prop := eget e 0 = .sl none (a1.map Deal.c) ∧ eget e 3 = .lsl i1_1 s.2.length 0 s.2.length ∧ eget e 4 = .int .i64 s.1 ∧ M[i1_1]? = some (.live ⟨.grow, 85, 6, s.2.map Deal.c⟩) ∧ s.2.length = x4.length
def laws_toDealS_b1_RR (a1 : List Deal) (x4 : List Deal) (i1_1 : Nat) (g : laws_toDealS_b1_R) (x : Ex) (e : Env) (M : Mem) : Prop := x = .ext 0 ∧ eget e 3 = .lsl i1_1 g.length 0 g.length ∧ M[i1_1]? = some (.live ⟨.grow, 85, 6, g.map Deal.c⟩) ∧ g.length = x4.length
noncomputable def laws_toDealS_b1 (a1 : List Deal) : laws_toDealS_b1_S → Option (laws_toDealS_b1_S ⊕ laws_toDealS_b1_R) := fun (s1_1, s1_2) =>
  if (decide (s1_1 < (a1.length : Int))) = true then
    (rd a1 s1_1).bind fun x45 =>
    (laws_toDeal x45).bind fun (r48, r49, r50, r51, r52, r53) =>
    (rd s1_2 s1_1).bind fun x54 =>
    some (.inl ((IntKind.i64.wrap (s1_1 + 1)), (s1_2.set s1_1.toNat (Deal.mk r48 r49 r50 r51 r52 r53))))
  else
    some (.inr s1_2)
theorem laws_toDealS_b1_ok (a1 : List Deal) (x4 : List Deal) (i1_1 : Nat) (s : laws_toDealS_b1_S) (r : laws_toDealS_b1_S ⊕ laws_toDealS_b1_R) (h : laws_toDealS_b1 a1 s = some r) (e : Env) (M : Mem) (hs : laws_toDealS_b1_RS a1 x4 i1_1 s e M) : Ev (fun k => (f22_l3 (CN k) k (prune [0, 3, 4] e) M).bind fun q => some q) (bQ (laws_toDealS_b1_RS a1 x4 i1_1) (laws_toDealS_b1_RR a1 x4 i1_1) r) := by
  obtain ⟨s1_1, s1_2⟩ := s
  unfold laws_toDealS_b1 at h
  obtain ⟨h30, h32, h34, o36, hl37⟩ := hs
  generalize he29 : prune [0, 3, 4] e = e28
  have h31 := envp he29.symm rfl h30
  have h33 := envp he29.symm rfl h32
  have h35 := envp he29.symm rfl h34
  refine Ev.seq ?_
  refine Ev.seq ?_
  refine Ev.reg (fun _ => rfl) ?_
  refine Ev.nxk (mvO h35) ?_
  refine Ev.nxk (mvO h31) ?_
  refine Ev.nxk (lnS Try.underlying54 rfl) ?_
  refine Ev.nxk (bLss rfl rfl) ?_
  refine Ev.rend ?_
  intro e38 he39
  have h40 : eget e38 0 = .sl none (a1.map Deal.c) := envp he39 rfl h31
  have h41 : eget e38 3 = .lsl i1_1 s1_2.length 0 s1_2.length := envp he39 rfl h33
  have h42 : eget e38 4 = .int .i64 s1_1 := envp he39 rfl h35
  have h43 : eget e38 11 = .bool (decide (s1_1 < (a1.length : Int))) := envp he39 rfl rfl
  clear h31 h33 h35
  refine Ev.kseqN ?_
  rcases ite_some h with ⟨hb44, h⟩ | ⟨hb44, h⟩
  · refine Ev.condT h43 hb44 ?_
    refine Ev.ex ?_
    refine Ev.kseqN ?_
    refine Ev.seq ?_
    refine Ev.blk ?_
    refine Ev.reg (fun _ => rfl) ?_
    refine Ev.nxk (mvO h41) ?_
    refine Ev.nxk (mvO h42) ?_
    refine Ev.nxk (mvO h40) ?_
    refine Ev.nxk (mvO h42) ?_
    obtain ⟨x45, hx46, h⟩ := bind_some h
    refine Ev.nxk (ixS rfl rfl hx46 Deal.fl) ?_
    refine Ev.nxk (ldPA rfl rfl rfl) ?_
    obtain ⟨⟨r48, r49, r50, r51, r52, r53⟩, hx47, h⟩ := bind_some h
    refine Ev.nxck (Ev.call (v := .agg [.int .i64 r48, .int .i8 r49, .int .i64 r50, .int .i64 r51, .int .i64 r52, .int .i64 r53]) rfl (cns rfl rfl) rfl (laws_toDeal_ok x45 _ hx47) (fun h => nomatch (show false = true from h))) ?_
    obtain ⟨x54, hx55, h⟩ := bind_some h
    refine Ev.nxk (ixO rfl o36 rfl rfl (rd_get hx55).1 (rd_lt hx55).2) ?_
    refine Ev.nxput (stR (u := x54) (u' := (Deal.mk r48 r49 r50 r51 r52 r53)) rfl rfl o36 rfl (by rw [Nat.zero_add]; exact (rd_get hx55).2) ⟨rfl, ble rfl⟩ rfl rfl) ?_
    intro M56 hM57
    rw [Nat.zero_add] at hM57
    have o58 : M56[i1_1]? = some (.live ⟨.grow, 85, 6, (s1_2.set s1_1.toNat (Deal.mk r48 r49 r50 r51 r52 r53)).map Deal.c⟩) := set_same hM57 o36
    refine Ev.rend ?_
    intro e59 he60
    have h61 : eget e59 0 = .sl none (a1.map Deal.c) := envp he60 rfl h40
    have h62 : eget e59 3 = .lsl i1_1 s1_2.length 0 s1_2.length := envp he60 rfl h41
    have h63 : eget e59 4 = .int .i64 s1_1 := envp he60 rfl h42
    clear h40 h41 h42 h43
    refine Ev.kblkN ?_
    refine Ev.kseqN ?_
    refine Ev.reg (fun _ => rfl) ?_
    refine Ev.nxk (mvO h63) ?_
    refine Ev.nxk (bAdd rfl rfl) ?_
    refine Ev.nxk (mvO rfl) ?_
    refine Ev.rend ?_
    intro e64 he65
    have h66 : eget e64 0 = .sl none (a1.map Deal.c) := envp he65 rfl h61
    have h67 : eget e64 3 = .lsl i1_1 s1_2.length 0 s1_2.length := envp he65 rfl h62
    have h68 : eget e64 4 = .int .i64 (IntKind.i64.wrap (s1_1 + 1)) := envp he65 rfl rfl
    clear h61 h62
    cases h
    exact Ev.kid (bQ_n (RS := (laws_toDealS_b1_RS a1 x4 i1_1)) (RR := (laws_toDealS_b1_RR a1 x4 i1_1)) (And.intro h66 (And.intro (lslL (L' := (s1_2.set s1_1.toNat (Deal.mk r48 r49 r50 r51 r52 r53)).length) h67 (by simp [hl37])) (And.intro h68 (And.intro o58 (by first | rfl | simp [hl37]))))))
  · refine Ev.condF h43 hb44 ?_
    refine Ev.ex ?_
    refine Ev.kseqE ?_
    cases h
    exact Ev.kid (bQ_x (RS := (laws_toDealS_b1_RS a1 x4 i1_1)) (RR := (laws_toDealS_b1_RR a1 x4 i1_1)) (by intro h; cases h) (And.intro rfl (And.intro h41 (And.intro o36 (by first | rfl | simp [hl37])))))
noncomputable def laws_toDealS (a1 : List Deal) : Option ((List Deal)) :=
  (mkS 48 (Deal.mk 0 0 0 0 0 0) (a1.length : Int)).bind fun x4 =>
  (Lw (laws_toDealS_b1 a1) (0, x4)).bind fun y74 =>
  some y74
def laws_toDealS_enc (r : (List Deal)) : AV := .sl (some 85) (r.map Deal.c)
theorem laws_toDealS_ok (a1 : List Deal) (r : (List Deal)) (h : laws_toDealS a1 = some r) : Ev (fun k => CN k 22 [.sl none (a1.map Deal.c)] []) (fun p => rRes p.2 p.1 = laws_toDealS_enc r) := by
  unfold laws_toDealS at h
  refine Ev.enter (F := fun k => f22 (CN k) k) (fun k => callN_eq rfl Try.func22 rfl rfl rfl (by decide +kernel) (f22_eq _ _)) ?_
  refine Ev.seq ?_
  refine Ev.reg (fun _ => rfl) ?_
  refine Ev.nxk (mvO rfl) ?_
  refine Ev.rend ?_
  intro e1 he2
  have h3 : eget e1 0 = .sl none (a1.map Deal.c) := envp he2 rfl rfl
  refine Ev.kseqN ?_
  refine Ev.seq ?_
  refine Ev.reg (fun _ => rfl) ?_
  refine Ev.nxk (mvO h3) ?_
  refine Ev.nxk (lnS Try.underlying54 rfl) ?_
  obtain ⟨x4, hx5, h⟩ := bind_some h
  refine Ev.nxpush (mkO rfl rfl hx5 (c := Deal.c) zero85 Deal.fl (by decide)) ?_
  intro M7 hM8
  have o9 : M7[([] : Mem).length]? = some (.live ⟨.grow, 85, 6, x4.map Deal.c⟩) := push_new hM8
  refine Ev.nxk (mvO rfl) ?_
  refine Ev.rend ?_
  intro e10 he11
  have h12 : eget e10 0 = .sl none (a1.map Deal.c) := envp he11 rfl h3
  have h13 : eget e10 3 = .lsl ([] : Mem).length x4.length 0 x4.length := envp he11 rfl rfl
  clear h3
  refine Ev.kseqN ?_
  refine Ev.seq ?_
  refine Ev.seq ?_
  refine Ev.reg (fun _ => rfl) ?_
  refine Ev.nxk (mvO rfl) ?_
  refine Ev.rend ?_
  intro e14 he15
  have h16 : eget e14 0 = .sl none (a1.map Deal.c) := envp he15 rfl h12
  have h17 : eget e14 3 = .lsl ([] : Mem).length x4.length 0 x4.length := envp he15 rfl h13
  have h18 : eget e14 4 = .int .i64 0 := envp he15 rfl rfl
  clear h12 h13
  refine Ev.kseqN ?_
  refine Ev.blk ?_
  obtain ⟨y74, hr70, h⟩ := bind_some h
  refine Ev.loop (RS := laws_toDealS_b1_RS a1 x4 (([] : Mem).length)) (RR := laws_toDealS_b1_RR a1 x4 (([] : Mem).length)) (fun s r h e M hs => laws_toDealS_b1_ok a1 x4 (([] : Mem).length) s r h e M hs) hr70 (And.intro h16 (And.intro h17 (And.intro h18 (And.intro o9 rfl)))) ?_
  intro x e72 M73 hq71
  obtain ⟨rfl, h75, o76, hl77⟩ := hq71
  refine Ev.kblkE ?_
  refine Ev.kseqN ?_
  refine Ev.seq ?_
  refine Ev.reg (fun _ => rfl) ?_
  refine Ev.nxk (mvO h75) ?_
  refine Ev.nxk (mvO rfl) ?_
  refine Ev.rend ?_
  intro e78 he79
  have h80 : eget e78 2 = .lsl ([] : Mem).length y74.length 0 y74.length := envp he79 rfl rfl
  clear h75
  refine Ev.kseqN ?_
  refine Ev.ex ?_
  cases h
  exact Ev.kendR (resT h80 res0) (rr_row o76 rfl Deal.fl)
/-! ### loop.example/g01263/spec.PutTogether (f21) -/
def spec_PutTogether_c1_Q (a1 : List Deal) (a2 : List Deal) (g : Bool) (q : Out) : Prop := q.1 = .nrm ∧ eget q.2.1 0 = .sl none (a1.map Deal.c) ∧ eget q.2.1 1 = .sl none (a2.map Deal.c) ∧ eget q.2.1 16 = .bool g
def spec_PutTogether_c2_Q (a1 : List Deal) (a2 : List Deal) (g : Bool) (q : Out) : Prop := q.1 = .nrm ∧ eget q.2.1 0 = .sl none (a1.map Deal.c) ∧ eget q.2.1 1 = .sl none (a2.map Deal.c) ∧ eget q.2.1 25 = .bool g
def spec_PutTogether_c3_Q (a1 : List Deal) (a2 : List Deal) (g : Bool) (q : Out) : Prop := q.1 = .nrm ∧ eget q.2.1 0 = .sl none (a1.map Deal.c) ∧ eget q.2.1 1 = .sl none (a2.map Deal.c) ∧ eget q.2.1 34 = .bool g
def spec_PutTogether_c8_Q (a1 : List Deal) (a2 : List Deal) (s1_1 : Int) (s1_2 : Int) (s1_3 : List Deal) (i1_1 : Nat) (r : Bool ⊕ Unit) (q : Out) : Prop :=
  match r with
  | (.inl g) => q.1 = .nrm ∧ eget q.2.1 0 = .sl none (a1.map Deal.c) ∧ eget q.2.1 1 = .sl none (a2.map Deal.c) ∧ eget q.2.1 6 = .lsl i1_1 s1_3.length 0 s1_3.length ∧ eget q.2.1 7 = .int .i64 s1_1 ∧ eget q.2.1 8 = .int .i64 s1_2 ∧ eget q.2.1 53 = .bool g ∧ q.2.2[i1_1]? = some (.live ⟨.grow, 85, 6, s1_3.map Deal.c⟩)
  | (.inr g) => q.1 = (.ext 0) ∧ eget q.2.1 0 = .sl none (a1.map Deal.c) ∧ eget q.2.1 1 = .sl none (a2.map Deal.c) ∧ eget q.2.1 6 = .lsl i1_1 s1_3.length 0 s1_3.length ∧ eget q.2.1 7 = .int .i64 s1_1 ∧ eget q.2.1 8 = .int .i64 s1_2 ∧ eget q.2.1 53 = .bool (decide (s1_2 < (a2.length : Int))) ∧ q.2.2[i1_1]? = some (.live ⟨.grow, 85, 6, s1_3.map Deal.c⟩)
def spec_PutTogether_c9_Q (a1 : List Deal) (a2 : List Deal) (s1_1 : Int) (s1_2 : Int) (s1_3 : List Deal) (i1_1 : Nat) (g : Bool) (q : Out) : Prop := q.1 = .nrm ∧ eget q.2.1 0 = .sl none (a1.map Deal.c) ∧ eget q.2.1 1 = .sl none (a2.map Deal.c) ∧ eget q.2.1 6 = .lsl i1_1 s1_3.length 0 s1_3.length ∧ eget q.2.1 7 = .int .i64 s1_1 ∧ eget q.2.1 8 = .int .i64 s1_2 ∧ eget q.2.1 76 = .bool g ∧ q.2.2[i1_1]? = some (.live ⟨.grow, 85, 6, s1_3.map Deal.c⟩)
abbrev spec_PutTogether_b1_S := Int × Int × (List Deal)
abbrev spec_PutTogether_b1_R := (List Deal)
def spec_PutTogether_b1_RS (a1 : List Deal) (a2 : List Deal) (i1_1 : Nat) (s : spec_PutTogether_b1_S) (e : Env) (M : Mem) : Prop := eget e 0 = .sl none (a1.map Deal.c) ∧ eget e 1 = .sl none (a2.map Deal.c) ∧ eget e 6 = .lsl i1_1 s.2.2.length 0 s.2.2.length ∧ eget e 7 = .int .i64 s.1 ∧ eget e 8 = .int .i64 s.2.1 ∧ M[i1_1]? = some (.live ⟨.grow, 85, 6, s.2.2.map Deal.c⟩)
def spec_PutTogether_b1_RR (a1 : List Deal) (a2 : List Deal) (i1_1 : Nat) (g : spec_PutTogether_b1_R) (x : Ex) (e : Env) (M : Mem) : Prop := x = .ext 0 ∧ eget e 6 = .lsl i1_1 g.length 0 g.length ∧ M[i1_1]? = some (.live ⟨.grow, 85, 6, g.map Deal.c⟩)
noncomputable def spec_PutTogether_b1 (a1 : List Deal) (a2 : List Deal) : spec_PutTogether_b1_S → Option (spec_PutTogether_b1_S ⊕ spec_PutTogether_b1_R) := fun (s1_1, s1_2, s1_3) =>
  ((if (decide (s1_1 < (a1.length : Int))) = true then
    some (.inl true)
  else
    if (decide (s1_2 < (a2.length : Int))) = true then
      some (.inl (decide (s1_2 < (a2.length : Int))))
    else
      some (.inr ()) : Option (Bool ⊕ Unit))).bind fun r => match r with
  | (.inl y173) =>
    (if (s1_1 == (a1.length : Int)) = true then
      some true
    else
      if (decide (s1_2 < (a2.length : Int))) = true then
        (rd a2 s1_2).bind fun x191 =>
        (rd a1 s1_1).bind fun x193 =>
        some (decide (x191.Day < x193.Day))
      else
        some false).bind fun y213 =>
    if y213 = true then
      (rd a2 s1_2).bind fun x222 =>
      (app 48 s1_3 [x222]).bind fun x224 =>
      some (.inl (s1_1, (IntKind.i64.wrap (s1_2 + 1)), x224))
    else
      (rd a1 s1_1).bind fun x243 =>
      (app 48 s1_3 [x243]).bind fun x245 =>
      some (.inl ((IntKind.i64.wrap (s1_1 + 1)), s1_2, x245))
  | (.inr _) =>
    some (.inr s1_3)
theorem spec_PutTogether_b1_ok (a1 : List Deal) (a2 : List Deal) (i1_1 : Nat) (s : spec_PutTogether_b1_S) (r : spec_PutTogether_b1_S ⊕ spec_PutTogether_b1_R) (h : spec_PutTogether_b1 a1 a2 s = some r) (e : Env) (M : Mem) (hs : spec_PutTogether_b1_RS a1 a2 i1_1 s e M) : Ev (fun k => (f21_l12 (CN k) k (prune [0, 1, 6, 7, 8] e) M).bind fun q => some q) (bQ (spec_PutTogether_b1_RS a1 a2 i1_1) (spec_PutTogether_b1_RR a1 a2 i1_1) r) := by
  obtain ⟨s1_1, s1_2, s1_3⟩ := s
  unfold spec_PutTogether_b1 at h
  obtain ⟨h142, h144, h146, h148, h150, o152⟩ := hs
  generalize he141 : prune [0, 1, 6, 7, 8] e = e140
  have h143 := envp he141.symm rfl h142
  have h145 := envp he141.symm rfl h144
  have h147 := envp he141.symm rfl h146
  have h149 := envp he141.symm rfl h148
  have h151 := envp he141.symm rfl h150
  refine Ev.seq ?_
  obtain ⟨r278, hr279, h⟩ := bind_some h
  refine Ev.cut (Q1 := spec_PutTogether_c8_Q a1 a2 s1_1 s1_2 s1_3 i1_1 r278) (by
      have h := hr279
      refine Ev.seq ?_
      refine Ev.reg (fun _ => rfl) ?_
      refine Ev.nxk (mvO h149) ?_
      refine Ev.nxk (mvO h143) ?_
      refine Ev.nxk (lnS Try.underlying56 rfl) ?_
      refine Ev.nxk (bLss rfl rfl) ?_
      refine Ev.nxk (mvO rfl) ?_
      rcases ite_some h with ⟨hb153, h⟩ | ⟨hb153, h⟩
      · refine Ev.nxk (gsF rfl hb153) ?_
        refine Ev.nxk (gsF rfl hb153) ?_
        refine Ev.nxk (gsF rfl hb153) ?_
        refine Ev.nxk (gsF rfl hb153) ?_
        refine Ev.nxk (pkT rfl hb153 rfl) ?_
        refine Ev.rend ?_
        intro e154 he155
        have h156 : eget e154 0 = .sl none (a1.map Deal.c) := envp he155 rfl h143
        have h157 : eget e154 1 = .sl none (a2.map Deal.c) := envp he155 rfl h145
        have h158 : eget e154 6 = .lsl i1_1 s1_3.length 0 s1_3.length := envp he155 rfl h147
        have h159 : eget e154 7 = .int .i64 s1_1 := envp he155 rfl h149
        have h160 : eget e154 8 = .int .i64 s1_2 := envp he155 rfl h151
        have h161 : eget e154 53 = .bool true := envp he155 rfl rfl
        clear h143 h145 h147 h149 h151
        refine Ev.kseqN ?_
        refine Ev.condT h161 rfl ?_
        refine Ev.ex ?_
        cases h
        exact Ev.kid (show spec_PutTogether_c8_Q a1 a2 s1_1 s1_2 s1_3 i1_1 _ _ from (And.intro rfl (And.intro h156 (And.intro h157 (And.intro h158 (And.intro h159 (And.intro h160 (And.intro h161 o152))))))))
      · refine Ev.nxk (guF rfl hb153 (mvO h151)) ?_
        refine Ev.nxk (guF rfl hb153 (mvO h145)) ?_
        refine Ev.nxk (guF rfl hb153 (lnS Try.underlying56 rfl)) ?_
        refine Ev.nxk (guF rfl hb153 (bLss rfl rfl)) ?_
        refine Ev.nxk (pkF rfl hb153 rfl) ?_
        refine Ev.rend ?_
        intro e162 he163
        have h164 : eget e162 0 = .sl none (a1.map Deal.c) := envp he163 rfl h143
        have h165 : eget e162 1 = .sl none (a2.map Deal.c) := envp he163 rfl h145
        have h166 : eget e162 6 = .lsl i1_1 s1_3.length 0 s1_3.length := envp he163 rfl h147
        have h167 : eget e162 7 = .int .i64 s1_1 := envp he163 rfl h149
        have h168 : eget e162 8 = .int .i64 s1_2 := envp he163 rfl h151
        have h169 : eget e162 53 = .bool (decide (s1_2 < (a2.length : Int))) := envp he163 rfl rfl
        clear h143 h145 h147 h149 h151
        refine Ev.kseqN ?_
        rcases ite_some h with ⟨hb170, h⟩ | ⟨hb170, h⟩
        · refine Ev.condT h169 hb170 ?_
          refine Ev.ex ?_
          cases h
          exact Ev.kid (show spec_PutTogether_c8_Q a1 a2 s1_1 s1_2 s1_3 i1_1 _ _ from (And.intro rfl (And.intro h164 (And.intro h165 (And.intro h166 (And.intro h167 (And.intro h168 (And.intro h169 o152))))))))
        · refine Ev.condF h169 hb170 ?_
          refine Ev.ex ?_
          cases h
          exact Ev.kid (show spec_PutTogether_c8_Q a1 a2 s1_1 s1_2 s1_3 i1_1 _ _ from (And.intro rfl (And.intro h164 (And.intro h165 (And.intro h166 (And.intro h167 (And.intro h168 (And.intro h169 o152))))))))) ?_
  rcases r278 with y173 | _
  · intro x e171 M172 hq267
    obtain ⟨rfl, h174, h175, h176, h177, h178, h179, o180⟩ := hq267
    refine Ev.kseqN ?_
    refine Ev.blk ?_
    refine Ev.seq ?_
    obtain ⟨r265, hr266, h⟩ := bind_some h
    refine Ev.cut (Q1 := spec_PutTogether_c9_Q a1 a2 s1_1 s1_2 s1_3 i1_1 r265) (by
        have h := hr266
        refine Ev.regD (fun _ => rfl) ?_
        refine Ev.nfk (mvO h177) ?_
        refine Ev.nfk (mvO h174) ?_
        refine Ev.nfk (lnS Try.underlying56 rfl) ?_
        refine Ev.nfk (bEql rfl rfl) ?_
        refine Ev.nfk (mvO rfl) ?_
        rcases ite_some h with ⟨hb181, h⟩ | ⟨hb181, h⟩
        · refine Ev.nfk (gsF rfl hb181) ?_
          refine Ev.nfk (gsF rfl hb181) ?_
          refine Ev.nfk (gsF rfl hb181) ?_
          refine Ev.nfk (gsF rfl hb181) ?_
          refine Ev.nfk (gsF rfl hb181) ?_
          refine Ev.nfk (gsU rfl) ?_
          refine Ev.nfk (gsU rfl) ?_
          refine Ev.nfk (gsU rfl) ?_
          refine Ev.nfk (gsU rfl) ?_
          refine Ev.nfk (gsU rfl) ?_
          refine Ev.nfk (gsU rfl) ?_
          refine Ev.nfk (gsU rfl) ?_
          refine Ev.nfk (gsU rfl) ?_
          refine Ev.nfk (gsU rfl) ?_
          refine Ev.nfk (gsU rfl) ?_
          refine Ev.nfk (gsU rfl) ?_
          refine Ev.nfk (gsF rfl hb181) ?_
          refine Ev.nfk (pkT rfl hb181 rfl) ?_
          refine Ev.fend0 ?_
          refine Ev.rend ?_
          intro e182 he183
          have h184 : eget e182 0 = .sl none (a1.map Deal.c) := envp he183 rfl h174
          have h185 : eget e182 1 = .sl none (a2.map Deal.c) := envp he183 rfl h175
          have h186 : eget e182 6 = .lsl i1_1 s1_3.length 0 s1_3.length := envp he183 rfl h176
          have h187 : eget e182 7 = .int .i64 s1_1 := envp he183 rfl h177
          have h188 : eget e182 8 = .int .i64 s1_2 := envp he183 rfl h178
          have h189 : eget e182 76 = .bool true := envp he183 rfl rfl
          clear h174 h175 h176 h177 h178 h179
          cases h
          exact Ev.kid (show spec_PutTogether_c9_Q a1 a2 s1_1 s1_2 s1_3 i1_1 _ _ from (And.intro rfl (And.intro h184 (And.intro h185 (And.intro h186 (And.intro h187 (And.intro h188 (And.intro h189 o180))))))))
        · refine Ev.nfk (guF rfl hb181 (mvO h178)) ?_
          refine Ev.nfk (guF rfl hb181 (mvO h175)) ?_
          refine Ev.nfk (guF rfl hb181 (lnS Try.underlying56 rfl)) ?_
          refine Ev.nfk (guF rfl hb181 (bLss rfl rfl)) ?_
          refine Ev.nfk (guF rfl hb181 (mvO rfl)) ?_
          rcases ite_some h with ⟨hb190, h⟩ | ⟨hb190, h⟩
          · refine Ev.nfk (guT rfl hb190 (mvO h175)) ?_
            refine Ev.nfk (guT rfl hb190 (mvO h178)) ?_
            obtain ⟨x191, hx192, h⟩ := bind_some h
            refine Ev.nfk (guT rfl hb190 (ixS rfl rfl hx192 Deal.fl)) ?_
            refine Ev.nfk (guT rfl hb190 (faP rfl ⟨ble rfl, blt rfl⟩ rfl)) ?_
            refine Ev.nfk (guT rfl hb190 (ldP rfl rfl)) ?_
            refine Ev.nfk (guT rfl hb190 (mvO h174)) ?_
            refine Ev.nfk (guT rfl hb190 (mvO h177)) ?_
            obtain ⟨x193, hx194, h⟩ := bind_some h
            refine Ev.nfk (guT rfl hb190 (ixS rfl rfl hx194 Deal.fl)) ?_
            refine Ev.nfk (guT rfl hb190 (faP rfl ⟨ble rfl, blt rfl⟩ rfl)) ?_
            refine Ev.nfk (guT rfl hb190 (ldP rfl rfl)) ?_
            refine Ev.nfk (guT rfl hb190 (bLss rfl rfl)) ?_
            refine Ev.nfk (guF rfl hb181 (pkT rfl hb190 rfl)) ?_
            refine Ev.nfk (pkF rfl hb181 rfl) ?_
            refine Ev.fend0 ?_
            refine Ev.rend ?_
            intro e195 he196
            have h197 : eget e195 0 = .sl none (a1.map Deal.c) := envp he196 rfl h174
            have h198 : eget e195 1 = .sl none (a2.map Deal.c) := envp he196 rfl h175
            have h199 : eget e195 6 = .lsl i1_1 s1_3.length 0 s1_3.length := envp he196 rfl h176
            have h200 : eget e195 7 = .int .i64 s1_1 := envp he196 rfl h177
            have h201 : eget e195 8 = .int .i64 s1_2 := envp he196 rfl h178
            have h202 : eget e195 76 = .bool (decide (x191.Day < x193.Day)) := envp he196 rfl rfl
            clear h174 h175 h176 h177 h178 h179
            cases h
            exact Ev.kid (show spec_PutTogether_c9_Q a1 a2 s1_1 s1_2 s1_3 i1_1 _ _ from (And.intro rfl (And.intro h197 (And.intro h198 (And.intro h199 (And.intro h200 (And.intro h201 (And.intro h202 o180))))))))
          · refine Ev.nfk (gsT rfl hb190) ?_
            refine Ev.nfk (gsT rfl hb190) ?_
            refine Ev.nfk (gsT rfl hb190) ?_
            refine Ev.nfk (gsT rfl hb190) ?_
            refine Ev.nfk (gsT rfl hb190) ?_
            refine Ev.nfk (gsT rfl hb190) ?_
            refine Ev.nfk (gsT rfl hb190) ?_
            refine Ev.nfk (gsT rfl hb190) ?_
            refine Ev.nfk (gsT rfl hb190) ?_
            refine Ev.nfk (gsT rfl hb190) ?_
            refine Ev.nfk (gsT rfl hb190) ?_
            refine Ev.nfk (guF rfl hb181 (pkF rfl hb190 rfl)) ?_
            refine Ev.nfk (pkF rfl hb181 rfl) ?_
            refine Ev.fend0 ?_
            refine Ev.rend ?_
            intro e203 he204
            have h205 : eget e203 0 = .sl none (a1.map Deal.c) := envp he204 rfl h174
            have h206 : eget e203 1 = .sl none (a2.map Deal.c) := envp he204 rfl h175
            have h207 : eget e203 6 = .lsl i1_1 s1_3.length 0 s1_3.length := envp he204 rfl h176
            have h208 : eget e203 7 = .int .i64 s1_1 := envp he204 rfl h177
            have h209 : eget e203 8 = .int .i64 s1_2 := envp he204 rfl h178
            have h210 : eget e203 76 = .bool false := envp he204 rfl rfl
            clear h174 h175 h176 h177 h178 h179
            cases h
            exact Ev.kid (show spec_PutTogether_c9_Q a1 a2 s1_1 s1_2 s1_3 i1_1 _ _ from (And.intro rfl (And.intro h205 (And.intro h206 (And.intro h207 (And.intro h208 (And.intro h209 (And.intro h210 o180))))))))) ?_
    revert h hr266
    revert r265
    intro y213 hr266 h
    intro x e211 M212 hq264
    obtain ⟨rfl, h214, h215, h216, h217, h218, h219, o220⟩ := hq264
    refine Ev.kseqN ?_
    rcases ite_some h with ⟨hb221, h⟩ | ⟨hb221, h⟩
    · refine Ev.condT h219 hb221 ?_
      refine Ev.seq ?_
      refine Ev.reg (fun _ => rfl) ?_
      refine Ev.nxk (mvO h216) ?_
      refine Ev.nxk (mvO h215) ?_
      refine Ev.nxk (mvO h218) ?_
      obtain ⟨x222, hx223, h⟩ := bind_some h
      refine Ev.nxk (ixS rfl rfl hx223 Deal.fl) ?_
      refine Ev.nxk (ldPA rfl rfl rfl) ?_
      refine Ev.nxk (litI (cns rfl rfl) rfl ⟨rfl, by decide⟩) ?_
      obtain ⟨x224, hx225, h⟩ := bind_some h
      refine Ev.nxput (apO rfl o220 rfl (elT (c := Deal.c) (xs := [x222]) rfl) hx225 Deal.fl (by decide)) ?_
      intro M226 hM227
      have o228 : M226[i1_1]? = some (.live ⟨.grow, 85, 6, x224.map Deal.c⟩) := set_same hM227 o220
      refine Ev.nxk (mvO rfl) ?_
      refine Ev.rend ?_
      intro e229 he230
      have h231 : eget e229 0 = .sl none (a1.map Deal.c) := envp he230 rfl h214
      have h232 : eget e229 1 = .sl none (a2.map Deal.c) := envp he230 rfl h215
      have h233 : eget e229 6 = .lsl i1_1 x224.length 0 x224.length := envp he230 rfl rfl
      have h234 : eget e229 7 = .int .i64 s1_1 := envp he230 rfl h217
      have h235 : eget e229 8 = .int .i64 s1_2 := envp he230 rfl h218
      clear h214 h215 h217 h218 h219
      refine Ev.kseqN ?_
      refine Ev.reg (fun _ => rfl) ?_
      refine Ev.nxk (mvO h235) ?_
      refine Ev.nxk (bAdd rfl rfl) ?_
      refine Ev.nxk (mvO rfl) ?_
      refine Ev.rend ?_
      intro e236 he237
      have h238 : eget e236 0 = .sl none (a1.map Deal.c) := envp he237 rfl h231
      have h239 : eget e236 1 = .sl none (a2.map Deal.c) := envp he237 rfl h232
      have h240 : eget e236 6 = .lsl i1_1 x224.length 0 x224.length := envp he237 rfl h233
      have h241 : eget e236 7 = .int .i64 s1_1 := envp he237 rfl h234
      have h242 : eget e236 8 = .int .i64 (IntKind.i64.wrap (s1_2 + 1)) := envp he237 rfl rfl
      clear h231 h232 h233 h234
      refine Ev.kblkN ?_
      cases h
      exact Ev.kid (bQ_n (RS := (spec_PutTogether_b1_RS a1 a2 i1_1)) (RR := (spec_PutTogether_b1_RR a1 a2 i1_1)) (And.intro h238 (And.intro h239 (And.intro h240 (And.intro h241 (And.intro h242 o228))))))
    · refine Ev.condF h219 hb221 ?_
      refine Ev.seq ?_
      refine Ev.reg (fun _ => rfl) ?_
      refine Ev.nxk (mvO h216) ?_
      refine Ev.nxk (mvO h214) ?_
      refine Ev.nxk (mvO h217) ?_
      obtain ⟨x243, hx244, h⟩ := bind_some h
      refine Ev.nxk (ixS rfl rfl hx244 Deal.fl) ?_
      refine Ev.nxk (ldPA rfl rfl rfl) ?_
      refine Ev.nxk (litI (cns rfl rfl) rfl ⟨rfl, by decide⟩) ?_
      obtain ⟨x245, hx246, h⟩ := bind_some h
      refine Ev.nxput (apO rfl o220 rfl (elT (c := Deal.c) (xs := [x243]) rfl) hx246 Deal.fl (by decide)) ?_
      intro M247 hM248
      have o249 : M247[i1_1]? = some (.live ⟨.grow, 85, 6, x245.map Deal.c⟩) := set_same hM248 o220
      refine Ev.nxk (mvO rfl) ?_
      refine Ev.rend ?_
      intro e250 he251
      have h252 : eget e250 0 = .sl none (a1.map Deal.c) := envp he251 rfl h214
      have h253 : eget e250 1 = .sl none (a2.map Deal.c) := envp he251 rfl h215
      have h254 : eget e250 6 = .lsl i1_1 x245.length 0 x245.length := envp he251 rfl rfl
      have h255 : eget e250 7 = .int .i64 s1_1 := envp he251 rfl h217
      have h256 : eget e250 8 = .int .i64 s1_2 := envp he251 rfl h218
      clear h214 h215 h217 h218 h219
      refine Ev.kseqN ?_
      refine Ev.reg (fun _ => rfl) ?_
      refine Ev.nxk (mvO h255) ?_
      refine Ev.nxk (bAdd rfl rfl) ?_
      refine Ev.nxk (mvO rfl) ?_
      refine Ev.rend ?_
      intro e257 he258
      have h259 : eget e257 0 = .sl none (a1.map Deal.c) := envp he258 rfl h252
      have h260 : eget e257 1 = .sl none (a2.map Deal.c) := envp he258 rfl h253
      have h261 : eget e257 6 = .lsl i1_1 x245.length 0 x245.length := envp he258 rfl h254
      have h262 : eget e257 7 = .int .i64 (IntKind.i64.wrap (s1_1 + 1)) := envp he258 rfl rfl
      have h263 : eget e257 8 = .int .i64 s1_2 := envp he258 rfl h256
      clear h252 h253 h254 h256
      refine Ev.kblkN ?_
      cases h
      exact Ev.kid (bQ_n (RS := (spec_PutTogether_b1_RS a1 a2 i1_1)) (RR := (spec_PutTogether_b1_RR a1 a2 i1_1)) (And.intro h259 (And.intro h260 (And.intro h261 (And.intro h262 (And.intro h263 o249))))))
  · intro x e268 M269 hq277
    obtain ⟨rfl, h270, h271, h272, h273, h274, h275, o276⟩ := hq277
    refine Ev.kseqE ?_
    cases h
    exact Ev.kid (bQ_x (RS := (spec_PutTogether_b1_RS a1 a2 i1_1)) (RR := (spec_PutTogether_b1_RR a1 a2 i1_1)) (by intro h; cases h) (And.intro rfl (And.intro h272 o276)))
noncomputable def spec_PutTogether (a1 : List Deal) (a2 : List Deal) : Option ((List Deal) × Int) :=
  ((spec_l07Deals a1).bind fun r6 =>
  if r6 = true then
    (spec_l07Deals a2).bind fun r9 =>
    some (!r9)
  else
    some true).bind fun y22 =>
  if y22 = true then
    some (([] : List Deal), 1)
  else
    (if (decide ((a1.length : Int) > 80)) = true then
      some true
    else
      some (decide ((a2.length : Int) > 80))).bind fun y48 =>
    if y48 = true then
      some (([] : List Deal), 3)
    else
      ((spec_l07Ordered a1).bind fun r62 =>
      if r62 = true then
        (spec_l07Ordered a2).bind fun r65 =>
        some (!r65)
      else
        some true).bind fun y78 =>
      if y78 = true then
        some (([] : List Deal), 4)
      else
        if (decide ((IntKind.i64.wrap ((a1.length : Int) + (a2.length : Int))) > 80)) = true then
          some (([] : List Deal), 3)
        else
          (Lw (spec_PutTogether_b1 a1 a2) (0, 0, ([] : List Deal))).bind fun y285 =>
          some (y285, 0)
def spec_PutTogether_enc (r : (List Deal) × Int) : AV := .tup [.sl (some 85) (r.1.map Deal.c), .int .i64 r.2]
theorem spec_PutTogether_ok (a1 : List Deal) (a2 : List Deal) (r : (List Deal) × Int) (h : spec_PutTogether a1 a2 = some r) : Ev (fun k => CN k 21 [.sl none (a1.map Deal.c), .sl none (a2.map Deal.c)] []) (fun p => rRes p.2 p.1 = spec_PutTogether_enc r) := by
  unfold spec_PutTogether at h
  refine Ev.enter (F := fun k => f21 (CN k) k) (fun k => callN_eq rfl Try.func21 rfl rfl rfl (by decide +kernel) (f21_eq _ _)) ?_
  refine Ev.seq ?_
  refine Ev.reg (fun _ => rfl) ?_
  refine Ev.nxk (mvO rfl) ?_
  refine Ev.nxk (mvO rfl) ?_
  refine Ev.rend ?_
  intro e1 he2
  have h3 : eget e1 0 = .sl none (a1.map Deal.c) := envp he2 rfl rfl
  have h4 : eget e1 1 = .sl none (a2.map Deal.c) := envp he2 rfl rfl
  refine Ev.kseqN ?_
  refine Ev.seq ?_
  refine Ev.seq ?_
  obtain ⟨r299, hr300, h⟩ := bind_some h
  refine Ev.cut (Q1 := spec_PutTogether_c1_Q a1 a2 r299) (by
      have h := hr300
      refine Ev.reg (fun _ => rfl) ?_
      refine Ev.nxk (mvO h3) ?_
      obtain ⟨r6, hx5, h⟩ := bind_some h
      refine Ev.nxck (Ev.call (v := .bool r6) rfl (cns rfl rfl) rfl (spec_l07Deals_ok a1 _ hx5) (fun h => nomatch (show false = true from h))) ?_
      refine Ev.nxk (uNot rfl) ?_
      refine Ev.nxk (mvO rfl) ?_
      rcases ite_some h with ⟨hb7, h⟩ | ⟨hb7, h⟩
      · refine Ev.nxk (guF rfl (congrArg Bool.not hb7) (mvO h4)) ?_
        obtain ⟨r9, hx8, h⟩ := bind_some h
        refine Ev.nxck (Ev.guF rfl (congrArg Bool.not hb7) (Ev.call (v := .bool r9) rfl (cns rfl rfl) rfl (spec_l07Deals_ok a2 _ hx8) (fun h => nomatch (show false = true from h)))) ?_
        refine Ev.nxk (guF rfl (congrArg Bool.not hb7) (uNot rfl)) ?_
        refine Ev.nxk (pkF rfl (congrArg Bool.not hb7) rfl) ?_
        refine Ev.rend ?_
        intro e10 he11
        have h12 : eget e10 0 = .sl none (a1.map Deal.c) := envp he11 rfl h3
        have h13 : eget e10 1 = .sl none (a2.map Deal.c) := envp he11 rfl h4
        have h14 : eget e10 16 = .bool (!r9) := envp he11 rfl rfl
        clear h3 h4
        cases h
        exact Ev.kid (show spec_PutTogether_c1_Q a1 a2 _ _ from (And.intro rfl (And.intro h12 (And.intro h13 h14))))
      · refine Ev.nxk (gsF rfl (congrArg Bool.not hb7)) ?_
        refine Ev.nxck (Ev.gsF rfl (congrArg Bool.not hb7)) ?_
        refine Ev.nxk (gsF rfl (congrArg Bool.not hb7)) ?_
        refine Ev.nxk (pkT rfl (congrArg Bool.not hb7) rfl) ?_
        refine Ev.rend ?_
        intro e15 he16
        have h17 : eget e15 0 = .sl none (a1.map Deal.c) := envp he16 rfl h3
        have h18 : eget e15 1 = .sl none (a2.map Deal.c) := envp he16 rfl h4
        have h19 : eget e15 16 = .bool true := envp he16 rfl rfl
        clear h3 h4
        cases h
        exact Ev.kid (show spec_PutTogether_c1_Q a1 a2 _ _ from (And.intro rfl (And.intro h17 (And.intro h18 h19))))) ?_
  revert h hr300
  revert r299
  intro y22 hr300 h
  intro x e20 M21 hq298
  obtain ⟨rfl, h23, h24, h25⟩ := hq298
  refine Ev.kseqN ?_
  rcases ite_some h with ⟨hb26, h⟩ | ⟨hb26, h⟩
  · refine Ev.condT h25 hb26 ?_
    refine Ev.seq ?_
    refine Ev.reg (fun _ => rfl) ?_
    refine Ev.nxpush (litO (xs := ([] : List Deal)) (c := Deal.c) rfl rfl (by decide)) ?_
    intro M28 hM29
    have o30 : M28[M21.length]? = some (.live ⟨.grow, 85, 6, ([] : List Deal).map Deal.c⟩) := push_new hM29
    refine Ev.nxk (mvO rfl) ?_
    refine Ev.nxk (mvO rfl) ?_
    refine Ev.rend ?_
    intro e31 he32
    have h33 : eget e31 4 = .lsl M21.length ([] : List Deal).length 0 ([] : List Deal).length := envp he32 rfl rfl
    have h34 : eget e31 5 = .int .i64 1 := envp he32 rfl rfl
    clear h23 h24 h25
    refine Ev.kseqN ?_
    refine Ev.ex ?_
    refine Ev.kseqR ?_
    cases h
    exact Ev.kendR (resT h33 (resT h34 res0)) (rr_tup (mp1 (rr_row o30 rfl Deal.fl) (mp1 rfl mp0)))
  · refine Ev.condF h25 hb26 ?_
    refine Ev.ex ?_
    refine Ev.kseqN ?_
    refine Ev.seq ?_
    refine Ev.seq ?_
    obtain ⟨r296, hr297, h⟩ := bind_some h
    refine Ev.cut (Q1 := spec_PutTogether_c2_Q a1 a2 r296) (by
        have h := hr297
        refine Ev.reg (fun _ => rfl) ?_
        refine Ev.nxk (mvO h23) ?_
        refine Ev.nxk (lnS Try.underlying56 rfl) ?_
        refine Ev.nxk (bGtr rfl rfl) ?_
        refine Ev.nxk (mvO rfl) ?_
        rcases ite_some h with ⟨hb35, h⟩ | ⟨hb35, h⟩
        · refine Ev.nxk (gsF rfl hb35) ?_
          refine Ev.nxk (gsF rfl hb35) ?_
          refine Ev.nxk (gsF rfl hb35) ?_
          refine Ev.nxk (pkT rfl hb35 rfl) ?_
          refine Ev.rend ?_
          intro e36 he37
          have h38 : eget e36 0 = .sl none (a1.map Deal.c) := envp he37 rfl h23
          have h39 : eget e36 1 = .sl none (a2.map Deal.c) := envp he37 rfl h24
          have h40 : eget e36 25 = .bool true := envp he37 rfl rfl
          clear h23 h24 h25
          cases h
          exact Ev.kid (show spec_PutTogether_c2_Q a1 a2 _ _ from (And.intro rfl (And.intro h38 (And.intro h39 h40))))
        · refine Ev.nxk (guF rfl hb35 (mvO h24)) ?_
          refine Ev.nxk (guF rfl hb35 (lnS Try.underlying56 rfl)) ?_
          refine Ev.nxk (guF rfl hb35 (bGtr rfl rfl)) ?_
          refine Ev.nxk (pkF rfl hb35 rfl) ?_
          refine Ev.rend ?_
          intro e41 he42
          have h43 : eget e41 0 = .sl none (a1.map Deal.c) := envp he42 rfl h23
          have h44 : eget e41 1 = .sl none (a2.map Deal.c) := envp he42 rfl h24
          have h45 : eget e41 25 = .bool (decide ((a2.length : Int) > 80)) := envp he42 rfl rfl
          clear h23 h24 h25
          cases h
          exact Ev.kid (show spec_PutTogether_c2_Q a1 a2 _ _ from (And.intro rfl (And.intro h43 (And.intro h44 h45))))) ?_
    revert h hr297
    revert r296
    intro y48 hr297 h
    intro x e46 M47 hq295
    obtain ⟨rfl, h49, h50, h51⟩ := hq295
    refine Ev.kseqN ?_
    rcases ite_some h with ⟨hb52, h⟩ | ⟨hb52, h⟩
    · refine Ev.condT h51 hb52 ?_
      refine Ev.seq ?_
      refine Ev.reg (fun _ => rfl) ?_
      refine Ev.nxpush (litO (xs := ([] : List Deal)) (c := Deal.c) rfl rfl (by decide)) ?_
      intro M54 hM55
      have o56 : M54[M47.length]? = some (.live ⟨.grow, 85, 6, ([] : List Deal).map Deal.c⟩) := push_new hM55
      refine Ev.nxk (mvO rfl) ?_
      refine Ev.nxk (mvO rfl) ?_
      refine Ev.rend ?_
      intro e57 he58
      have h59 : eget e57 4 = .lsl M47.length ([] : List Deal).length 0 ([] : List Deal).length := envp he58 rfl rfl
      have h60 : eget e57 5 = .int .i64 3 := envp he58 rfl rfl
      clear h49 h50 h51
      refine Ev.kseqN ?_
      refine Ev.ex ?_
      refine Ev.kseqR ?_
      cases h
      exact Ev.kendR (resT h59 (resT h60 res0)) (rr_tup (mp1 (rr_row o56 rfl Deal.fl) (mp1 rfl mp0)))
    · refine Ev.condF h51 hb52 ?_
      refine Ev.ex ?_
      refine Ev.kseqN ?_
      refine Ev.seq ?_
      refine Ev.seq ?_
      obtain ⟨r293, hr294, h⟩ := bind_some h
      refine Ev.cut (Q1 := spec_PutTogether_c3_Q a1 a2 r293) (by
          have h := hr294
          refine Ev.reg (fun _ => rfl) ?_
          refine Ev.nxk (mvO h49) ?_
          obtain ⟨r62, hx61, h⟩ := bind_some h
          refine Ev.nxck (Ev.call (v := .bool r62) rfl (cns rfl rfl) rfl (spec_l07Ordered_ok a1 _ hx61) (fun h => nomatch (show false = true from h))) ?_
          refine Ev.nxk (uNot rfl) ?_
          refine Ev.nxk (mvO rfl) ?_
          rcases ite_some h with ⟨hb63, h⟩ | ⟨hb63, h⟩
          · refine Ev.nxk (guF rfl (congrArg Bool.not hb63) (mvO h50)) ?_
            obtain ⟨r65, hx64, h⟩ := bind_some h
            refine Ev.nxck (Ev.guF rfl (congrArg Bool.not hb63) (Ev.call (v := .bool r65) rfl (cns rfl rfl) rfl (spec_l07Ordered_ok a2 _ hx64) (fun h => nomatch (show false = true from h)))) ?_
            refine Ev.nxk (guF rfl (congrArg Bool.not hb63) (uNot rfl)) ?_
            refine Ev.nxk (pkF rfl (congrArg Bool.not hb63) rfl) ?_
            refine Ev.rend ?_
            intro e66 he67
            have h68 : eget e66 0 = .sl none (a1.map Deal.c) := envp he67 rfl h49
            have h69 : eget e66 1 = .sl none (a2.map Deal.c) := envp he67 rfl h50
            have h70 : eget e66 34 = .bool (!r65) := envp he67 rfl rfl
            clear h49 h50 h51
            cases h
            exact Ev.kid (show spec_PutTogether_c3_Q a1 a2 _ _ from (And.intro rfl (And.intro h68 (And.intro h69 h70))))
          · refine Ev.nxk (gsF rfl (congrArg Bool.not hb63)) ?_
            refine Ev.nxck (Ev.gsF rfl (congrArg Bool.not hb63)) ?_
            refine Ev.nxk (gsF rfl (congrArg Bool.not hb63)) ?_
            refine Ev.nxk (pkT rfl (congrArg Bool.not hb63) rfl) ?_
            refine Ev.rend ?_
            intro e71 he72
            have h73 : eget e71 0 = .sl none (a1.map Deal.c) := envp he72 rfl h49
            have h74 : eget e71 1 = .sl none (a2.map Deal.c) := envp he72 rfl h50
            have h75 : eget e71 34 = .bool true := envp he72 rfl rfl
            clear h49 h50 h51
            cases h
            exact Ev.kid (show spec_PutTogether_c3_Q a1 a2 _ _ from (And.intro rfl (And.intro h73 (And.intro h74 h75))))) ?_
      revert h hr294
      revert r293
      intro y78 hr294 h
      intro x e76 M77 hq292
      obtain ⟨rfl, h79, h80, h81⟩ := hq292
      refine Ev.kseqN ?_
      rcases ite_some h with ⟨hb82, h⟩ | ⟨hb82, h⟩
      · refine Ev.condT h81 hb82 ?_
        refine Ev.seq ?_
        refine Ev.reg (fun _ => rfl) ?_
        refine Ev.nxpush (litO (xs := ([] : List Deal)) (c := Deal.c) rfl rfl (by decide)) ?_
        intro M84 hM85
        have o86 : M84[M77.length]? = some (.live ⟨.grow, 85, 6, ([] : List Deal).map Deal.c⟩) := push_new hM85
        refine Ev.nxk (mvO rfl) ?_
        refine Ev.nxk (mvO rfl) ?_
        refine Ev.rend ?_
        intro e87 he88
        have h89 : eget e87 4 = .lsl M77.length ([] : List Deal).length 0 ([] : List Deal).length := envp he88 rfl rfl
        have h90 : eget e87 5 = .int .i64 4 := envp he88 rfl rfl
        clear h79 h80 h81
        refine Ev.kseqN ?_
        refine Ev.ex ?_
        refine Ev.kseqR ?_
        cases h
        exact Ev.kendR (resT h89 (resT h90 res0)) (rr_tup (mp1 (rr_row o86 rfl Deal.fl) (mp1 rfl mp0)))
      · refine Ev.condF h81 hb82 ?_
        refine Ev.ex ?_
        refine Ev.kseqN ?_
        refine Ev.seq ?_
        refine Ev.seq ?_
        refine Ev.reg (fun _ => rfl) ?_
        refine Ev.nxk (mvO h79) ?_
        refine Ev.nxk (lnS Try.underlying56 rfl) ?_
        refine Ev.nxk (mvO h80) ?_
        refine Ev.nxk (lnS Try.underlying56 rfl) ?_
        refine Ev.nxk (bAdd rfl rfl) ?_
        refine Ev.nxk (bGtr rfl rfl) ?_
        refine Ev.rend ?_
        intro e91 he92
        have h93 : eget e91 0 = .sl none (a1.map Deal.c) := envp he92 rfl h79
        have h94 : eget e91 1 = .sl none (a2.map Deal.c) := envp he92 rfl h80
        have h95 : eget e91 41 = .bool (decide ((IntKind.i64.wrap ((a1.length : Int) + (a2.length : Int))) > 80)) := envp he92 rfl rfl
        clear h79 h80 h81
        refine Ev.kseqN ?_
        rcases ite_some h with ⟨hb96, h⟩ | ⟨hb96, h⟩
        · refine Ev.condT h95 hb96 ?_
          refine Ev.seq ?_
          refine Ev.reg (fun _ => rfl) ?_
          refine Ev.nxpush (litO (xs := ([] : List Deal)) (c := Deal.c) rfl rfl (by decide)) ?_
          intro M98 hM99
          have o100 : M98[M77.length]? = some (.live ⟨.grow, 85, 6, ([] : List Deal).map Deal.c⟩) := push_new hM99
          refine Ev.nxk (mvO rfl) ?_
          refine Ev.nxk (mvO rfl) ?_
          refine Ev.rend ?_
          intro e101 he102
          have h103 : eget e101 4 = .lsl M77.length ([] : List Deal).length 0 ([] : List Deal).length := envp he102 rfl rfl
          have h104 : eget e101 5 = .int .i64 3 := envp he102 rfl rfl
          clear h93 h94 h95
          refine Ev.kseqN ?_
          refine Ev.ex ?_
          refine Ev.kseqR ?_
          cases h
          exact Ev.kendR (resT h103 (resT h104 res0)) (rr_tup (mp1 (rr_row o100 rfl Deal.fl) (mp1 rfl mp0)))
        · refine Ev.condF h95 hb96 ?_
          refine Ev.ex ?_
          refine Ev.kseqN ?_
          refine Ev.seq ?_
          refine Ev.reg (fun _ => rfl) ?_
          refine Ev.nxpush (litO (xs := ([] : List Deal)) (c := Deal.c) rfl rfl (by decide)) ?_
          intro M106 hM107
          have o108 : M106[M77.length]? = some (.live ⟨.grow, 85, 6, ([] : List Deal).map Deal.c⟩) := push_new hM107
          refine Ev.nxk (mvO rfl) ?_
          refine Ev.rend ?_
          intro e109 he110
          have h111 : eget e109 0 = .sl none (a1.map Deal.c) := envp he110 rfl h93
          have h112 : eget e109 1 = .sl none (a2.map Deal.c) := envp he110 rfl h94
          have h113 : eget e109 6 = .lsl M77.length ([] : List Deal).length 0 ([] : List Deal).length := envp he110 rfl rfl
          clear h93 h94 h95
          refine Ev.kseqN ?_
          refine Ev.seq ?_
          refine Ev.reg (fun _ => rfl) ?_
          refine Ev.nxk (mvO rfl) ?_
          refine Ev.rend ?_
          intro e114 he115
          have h116 : eget e114 0 = .sl none (a1.map Deal.c) := envp he115 rfl h111
          have h117 : eget e114 1 = .sl none (a2.map Deal.c) := envp he115 rfl h112
          have h118 : eget e114 6 = .lsl M77.length ([] : List Deal).length 0 ([] : List Deal).length := envp he115 rfl h113
          have h119 : eget e114 7 = .int .i64 0 := envp he115 rfl rfl
          clear h111 h112 h113
          refine Ev.kseqN ?_
          refine Ev.seq ?_
          refine Ev.reg (fun _ => rfl) ?_
          refine Ev.nxk (mvO rfl) ?_
          refine Ev.rend ?_
          intro e120 he121
          have h122 : eget e120 0 = .sl none (a1.map Deal.c) := envp he121 rfl h116
          have h123 : eget e120 1 = .sl none (a2.map Deal.c) := envp he121 rfl h117
          have h124 : eget e120 6 = .lsl M77.length ([] : List Deal).length 0 ([] : List Deal).length := envp he121 rfl h118
          have h125 : eget e120 7 = .int .i64 0 := envp he121 rfl h119
          have h126 : eget e120 8 = .int .i64 0 := envp he121 rfl rfl
          clear h116 h117 h118 h119
          refine Ev.kseqN ?_
          refine Ev.seq ?_
          refine Ev.blk ?_
          obtain ⟨y285, hr281, h⟩ := bind_some h
          refine Ev.loop (RS := spec_PutTogether_b1_RS a1 a2 M77.length) (RR := spec_PutTogether_b1_RR a1 a2 M77.length) (fun s r h e M hs => spec_PutTogether_b1_ok a1 a2 M77.length s r h e M hs) hr281 (And.intro h122 (And.intro h123 (And.intro h124 (And.intro h125 (And.intro h126 o108))))) ?_
          intro x e283 M284 hq282
          obtain ⟨rfl, h286, o287⟩ := hq282
          refine Ev.kblkE ?_
          refine Ev.kseqN ?_
          refine Ev.seq ?_
          refine Ev.reg (fun _ => rfl) ?_
          refine Ev.nxk (mvO h286) ?_
          refine Ev.nxk (mvO rfl) ?_
          refine Ev.nxk (mvO rfl) ?_
          refine Ev.rend ?_
          intro e288 he289
          have h290 : eget e288 4 = .lsl M77.length y285.length 0 y285.length := envp he289 rfl rfl
          have h291 : eget e288 5 = .int .i64 0 := envp he289 rfl rfl
          clear h286
          refine Ev.kseqN ?_
          refine Ev.ex ?_
          cases h
          exact Ev.kendR (resT h290 (resT h291 res0)) (rr_tup (mp1 (rr_row o287 rfl Deal.fl) (mp1 rfl mp0)))
/-! ### loop.example/g01263/laws.szDealS (f20) -/
noncomputable def laws_szDealS (a1 : List Deal) (a2 : Int) : Option Int :=
  if (decide ((IntKind.i64.wrap (a2 - (a1.length : Int))) < 0)) = true then
    some (-1)
  else
    some (IntKind.i64.wrap (a2 - (a1.length : Int)))
def laws_szDealS_enc (r : Int) : AV := .int .i64 r
theorem laws_szDealS_ok (a1 : List Deal) (a2 : Int) (r : Int) (h : laws_szDealS a1 a2 = some r) : Ev (fun k => CN k 20 [.sl none (a1.map Deal.c), .int .i64 a2] []) (fun p => rRes p.2 p.1 = laws_szDealS_enc r) := by
  unfold laws_szDealS at h
  refine Ev.enter (F := fun k => f20 (CN k) k) (fun k => callN_eq rfl Try.func20 rfl rfl rfl (by decide +kernel) (f20_eq _ _)) ?_
  refine Ev.seq ?_
  refine Ev.reg (fun _ => rfl) ?_
  refine Ev.nxk (mvO rfl) ?_
  refine Ev.rend ?_
  intro e1 he2
  have h3 : eget e1 0 = .sl none (a1.map Deal.c) := envp he2 rfl rfl
  have h4 : eget e1 1 = .int .i64 a2 := envp he2 rfl rfl
  refine Ev.kseqN ?_
  refine Ev.seq ?_
  refine Ev.reg (fun _ => rfl) ?_
  refine Ev.nxk (mvO h4) ?_
  refine Ev.nxk (mvO h3) ?_
  refine Ev.nxk (lnS Try.underlying54 rfl) ?_
  refine Ev.nxk (bSub rfl rfl) ?_
  refine Ev.nxk (mvO rfl) ?_
  refine Ev.rend ?_
  intro e5 he6
  have h7 : eget e5 1 = .int .i64 (IntKind.i64.wrap (a2 - (a1.length : Int))) := envp he6 rfl rfl
  clear h3
  refine Ev.kseqN ?_
  refine Ev.seq ?_
  refine Ev.seq ?_
  refine Ev.reg (fun _ => rfl) ?_
  refine Ev.nxk (mvO h7) ?_
  refine Ev.nxk (bLss rfl rfl) ?_
  refine Ev.rend ?_
  intro e8 he9
  have h10 : eget e8 1 = .int .i64 (IntKind.i64.wrap (a2 - (a1.length : Int))) := envp he9 rfl h7
  have h11 : eget e8 10 = .bool (decide ((IntKind.i64.wrap (a2 - (a1.length : Int))) < 0)) := envp he9 rfl rfl
  clear h7
  refine Ev.kseqN ?_
  rcases ite_some h with ⟨hb12, h⟩ | ⟨hb12, h⟩
  · refine Ev.condT h11 hb12 ?_
    refine Ev.seq ?_
    refine Ev.reg (fun _ => rfl) ?_
    refine Ev.nxk (mvO rfl) ?_
    refine Ev.rend ?_
    intro e13 he14
    have h15 : eget e13 4 = .int .i64 (-1) := envp he14 rfl rfl
    clear h10 h11
    refine Ev.kseqN ?_
    refine Ev.ex ?_
    refine Ev.kseqR ?_
    cases h
    exact Ev.kendR (resT h15 res0) rfl
  · refine Ev.condF h11 hb12 ?_
    refine Ev.ex ?_
    refine Ev.kseqN ?_
    refine Ev.seq ?_
    refine Ev.reg (fun _ => rfl) ?_
    refine Ev.nxk (mvO h10) ?_
    refine Ev.nxk (mvO rfl) ?_
    refine Ev.rend ?_
    intro e16 he17
    have h18 : eget e16 4 = .int .i64 (IntKind.i64.wrap (a2 - (a1.length : Int))) := envp he17 rfl rfl
    clear h10 h11
    refine Ev.kseqN ?_
    refine Ev.ex ?_
    cases h
    exact Ev.kendR (resT h18 res0) rfl
/-! ### loop.example/g01263/laws.markDealS (f25) -/
abbrev laws_markDealS_l_b1_S := Int × Int × (List Deal)
abbrev laws_markDealS_l_b1_R := Int × (List Deal)
def laws_markDealS_l_b1_RS (a1 : List Deal) (j1 : Nat) (M0 : Mem) (s : laws_markDealS_l_b1_S) (e : Env) (M : Mem) : Prop := eget e 0 = .lsl j1 s.2.2.length 0 s.2.2.length ∧ eget e 1 = .int .i64 s.1 ∧ eget e 5 = .int .i64 s.2.1 ∧ M[j1]? = some (.live ⟨.grow, 85, 6, s.2.2.map Deal.c⟩) ∧ Fr [j1] M0 M ∧ s.2.2.length = a1.length
def laws_markDealS_l_b1_RR (a1 : List Deal) (j1 : Nat) (M0 : Mem) (g : laws_markDealS_l_b1_R) (x : Ex) (e : Env) (M : Mem) : Prop := x = .ext 0 ∧ eget e 1 = .int .i64 g.1 ∧ M[j1]? = some (.live ⟨.grow, 85, 6, g.2.map Deal.c⟩) ∧ Fr [j1] M0 M ∧ g.2.length = a1.length
noncomputable def laws_markDealS_l_b1 : laws_markDealS_l_b1_S → Option (laws_markDealS_l_b1_S ⊕ laws_markDealS_l_b1_R) := fun (s1_1, s1_2, s1_3) =>
  if (decide (s1_2 < (s1_3.length : Int))) = true then
    (rd s1_3 s1_2).bind fun x38 =>
    (rd (s1_3.set s1_2.toNat (Deal.mk s1_1 x38.Kind x38.Tally x38.From x38.To x38.Amount)) s1_2).bind fun x54 =>
    (rd ((s1_3.set s1_2.toNat (Deal.mk s1_1 x38.Kind x38.Tally x38.From x38.To x38.Amount)).set s1_2.toNat (Deal.mk x54.Day (IntKind.i8.wrap (IntKind.i64.wrap (s1_1 + 1))) x54.Tally x54.From x54.To x54.Amount)) s1_2).bind fun x70 =>
    (rd (((s1_3.set s1_2.toNat (Deal.mk s1_1 x38.Kind x38.Tally x38.From x38.To x38.Amount)).set s1_2.toNat (Deal.mk x54.Day (IntKind.i8.wrap (IntKind.i64.wrap (s1_1 + 1))) x54.Tally x54.From x54.To x54.Amount)).set s1_2.toNat (Deal.mk x70.Day x70.Kind (IntKind.i64.wrap ((IntKind.i64.wrap (s1_1 + 1)) + 1)) x70.From x70.To x70.Amount)) s1_2).bind fun x86 =>
    (rd ((((s1_3.set s1_2.toNat (Deal.mk s1_1 x38.Kind x38.Tally x38.From x38.To x38.Amount)).set s1_2.toNat (Deal.mk x54.Day (IntKind.i8.wrap (IntKind.i64.wrap (s1_1 + 1))) x54.Tally x54.From x54.To x54.Amount)).set s1_2.toNat (Deal.mk x70.Day x70.Kind (IntKind.i64.wrap ((IntKind.i64.wrap (s1_1 + 1)) + 1)) x70.From x70.To x70.Amount)).set s1_2.toNat (Deal.mk x86.Day x86.Kind x86.Tally (IntKind.i64.wrap ((IntKind.i64.wrap ((IntKind.i64.wrap (s1_1 + 1)) + 1)) + 1)) x86.To x86.Amount)) s1_2).bind fun x102 =>
    (rd (((((s1_3.set s1_2.toNat (Deal.mk s1_1 x38.Kind x38.Tally x38.From x38.To x38.Amount)).set s1_2.toNat (Deal.mk x54.Day (IntKind.i8.wrap (IntKind.i64.wrap (s1_1 + 1))) x54.Tally x54.From x54.To x54.Amount)).set s1_2.toNat (Deal.mk x70.Day x70.Kind (IntKind.i64.wrap ((IntKind.i64.wrap (s1_1 + 1)) + 1)) x70.From x70.To x70.Amount)).set s1_2.toNat (Deal.mk x86.Day x86.Kind x86.Tally (IntKind.i64.wrap ((IntKind.i64.wrap ((IntKind.i64.wrap (s1_1 + 1)) + 1)) + 1)) x86.To x86.Amount)).set s1_2.toNat (Deal.mk x102.Day x102.Kind x102.Tally x102.From (IntKind.i64.wrap ((IntKind.i64.wrap ((IntKind.i64.wrap ((IntKind.i64.wrap (s1_1 + 1)) + 1)) + 1)) + 1)) x102.Amount)) s1_2).bind fun x118 =>
    some (.inl ((IntKind.i64.wrap ((IntKind.i64.wrap ((IntKind.i64.wrap ((IntKind.i64.wrap ((IntKind.i64.wrap ((IntKind.i64.wrap (s1_1 + 1)) + 1)) + 1)) + 1)) + 1)) + 1)), (IntKind.i64.wrap (s1_2 + 1)), ((((((s1_3.set s1_2.toNat (Deal.mk s1_1 x38.Kind x38.Tally x38.From x38.To x38.Amount)).set s1_2.toNat (Deal.mk x54.Day (IntKind.i8.wrap (IntKind.i64.wrap (s1_1 + 1))) x54.Tally x54.From x54.To x54.Amount)).set s1_2.toNat (Deal.mk x70.Day x70.Kind (IntKind.i64.wrap ((IntKind.i64.wrap (s1_1 + 1)) + 1)) x70.From x70.To x70.Amount)).set s1_2.toNat (Deal.mk x86.Day x86.Kind x86.Tally (IntKind.i64.wrap ((IntKind.i64.wrap ((IntKind.i64.wrap (s1_1 + 1)) + 1)) + 1)) x86.To x86.Amount)).set s1_2.toNat (Deal.mk x102.Day x102.Kind x102.Tally x102.From (IntKind.i64.wrap ((IntKind.i64.wrap ((IntKind.i64.wrap ((IntKind.i64.wrap (s1_1 + 1)) + 1)) + 1)) + 1)) x102.Amount)).set s1_2.toNat (Deal.mk x118.Day x118.Kind x118.Tally x118.From x118.To (IntKind.i64.wrap ((IntKind.i64.wrap ((IntKind.i64.wrap ((IntKind.i64.wrap ((IntKind.i64.wrap (s1_1 + 1)) + 1)) + 1)) + 1)) + 1))))))
  else
    some (.inr (s1_1, s1_3))
theorem laws_markDealS_l_b1_ok (a1 : List Deal) (j1 : Nat) (M0 : Mem) (s : laws_markDealS_l_b1_S) (r : laws_markDealS_l_b1_S ⊕ laws_markDealS_l_b1_R) (h : laws_markDealS_l_b1 s = some r) (e : Env) (M : Mem) (hs : laws_markDealS_l_b1_RS a1 j1 M0 s e M) : Ev (fun k => (f25_l2 (CN k) k (prune [0, 1, 5] e) M).bind fun q => some q) (bQ (laws_markDealS_l_b1_RS a1 j1 M0) (laws_markDealS_l_b1_RR a1 j1 M0) r) := by
  obtain ⟨s1_1, s1_2, s1_3⟩ := s
  unfold laws_markDealS_l_b1 at h
  obtain ⟨h22, h24, h26, o28, fr29, hl30⟩ := hs
  generalize he21 : prune [0, 1, 5] e = e20
  have h23 := envp he21.symm rfl h22
  have h25 := envp he21.symm rfl h24
  have h27 := envp he21.symm rfl h26
  refine Ev.seq ?_
  refine Ev.seq ?_
  refine Ev.reg (fun _ => rfl) ?_
  refine Ev.nxk (mvO h27) ?_
  refine Ev.nxk (mvO h23) ?_
  refine Ev.nxk (lnL Try.underlying56 rfl o28 (by simp [hl30])) ?_
  refine Ev.nxk (bLss rfl rfl) ?_
  refine Ev.rend ?_
  intro e31 he32
  have h33 : eget e31 0 = .lsl j1 s1_3.length 0 s1_3.length := envp he32 rfl h23
  have h34 : eget e31 1 = .int .i64 s1_1 := envp he32 rfl h25
  have h35 : eget e31 5 = .int .i64 s1_2 := envp he32 rfl h27
  have h36 : eget e31 9 = .bool (decide (s1_2 < (s1_3.length : Int))) := envp he32 rfl rfl
  clear h23 h25 h27
  refine Ev.kseqN ?_
  rcases ite_some h with ⟨hb37, h⟩ | ⟨hb37, h⟩
  · refine Ev.condT h36 hb37 ?_
    refine Ev.ex ?_
    refine Ev.kseqN ?_
    refine Ev.seq ?_
    refine Ev.blk ?_
    refine Ev.seq ?_
    refine Ev.reg (fun _ => rfl) ?_
    refine Ev.nxk (mvO h33) ?_
    refine Ev.nxk (mvO h35) ?_
    refine Ev.nxk (mvO h34) ?_
    obtain ⟨x38, hx39, h⟩ := bind_some h
    refine Ev.nxk (ixO rfl o28 rfl rfl (rd_get hx39).1 (rd_lt hx39).2) ?_
    refine Ev.nxk (faO rfl o28 (by simp [hl30])) ?_
    refine Ev.nxput (stR (u := x38) (u' := (Deal.mk s1_1 x38.Kind x38.Tally x38.From x38.To x38.Amount)) rfl rfl o28 rfl (by rw [Nat.zero_add]; exact (rd_get hx39).2) ⟨rfl, ble rfl⟩ rfl rfl) ?_
    intro M40 hM41
    rw [Nat.zero_add] at hM41
    have o42 : M40[j1]? = some (.live ⟨.grow, 85, 6, (s1_3.set s1_2.toNat (Deal.mk s1_1 x38.Kind x38.Tally x38.From x38.To x38.Amount)).map Deal.c⟩) := set_same hM41 o28
    have fr43 := Fr.setIn fr29 hM41 (by simp)
    refine Ev.rend ?_
    intro e44 he45
    have h46 : eget e44 0 = .lsl j1 s1_3.length 0 s1_3.length := envp he45 rfl h33
    have h47 : eget e44 1 = .int .i64 s1_1 := envp he45 rfl h34
    have h48 : eget e44 5 = .int .i64 s1_2 := envp he45 rfl h35
    clear h33 h34 h35 h36
    refine Ev.kseqN ?_
    refine Ev.seq ?_
    refine Ev.reg (fun _ => rfl) ?_
    refine Ev.nxk (mvO h47) ?_
    refine Ev.nxk (bAdd rfl rfl) ?_
    refine Ev.nxk (mvO rfl) ?_
    refine Ev.rend ?_
    intro e49 he50
    have h51 : eget e49 0 = .lsl j1 s1_3.length 0 s1_3.length := envp he50 rfl h46
    have h52 : eget e49 1 = .int .i64 (IntKind.i64.wrap (s1_1 + 1)) := envp he50 rfl rfl
    have h53 : eget e49 5 = .int .i64 s1_2 := envp he50 rfl h48
    clear h46 h48
    refine Ev.kseqN ?_
    refine Ev.seq ?_
    refine Ev.reg (fun _ => rfl) ?_
    refine Ev.nxk (mvO (lslL (L' := (s1_3.set s1_2.toNat (Deal.mk s1_1 x38.Kind x38.Tally x38.From x38.To x38.Amount)).length) h51 (by simp [hl30]))) ?_
    refine Ev.nxk (mvO h53) ?_
    refine Ev.nxk (mvO h52) ?_
    refine Ev.nxk (cvI rfl) ?_
    obtain ⟨x54, hx55, h⟩ := bind_some h
    refine Ev.nxk (ixO rfl o42 rfl rfl (rd_get hx55).1 (rd_lt hx55).2) ?_
    refine Ev.nxk (faO rfl o42 (by simp [hl30])) ?_
    refine Ev.nxput (stR (u := x54) (u' := (Deal.mk x54.Day (IntKind.i8.wrap (IntKind.i64.wrap (s1_1 + 1))) x54.Tally x54.From x54.To x54.Amount)) rfl rfl o42 rfl (by rw [Nat.zero_add]; exact (rd_get hx55).2) ⟨rfl, ble rfl⟩ rfl rfl) ?_
    intro M56 hM57
    rw [Nat.zero_add] at hM57
    have o58 : M56[j1]? = some (.live ⟨.grow, 85, 6, ((s1_3.set s1_2.toNat (Deal.mk s1_1 x38.Kind x38.Tally x38.From x38.To x38.Amount)).set s1_2.toNat (Deal.mk x54.Day (IntKind.i8.wrap (IntKind.i64.wrap (s1_1 + 1))) x54.Tally x54.From x54.To x54.Amount)).map Deal.c⟩) := set_same hM57 o42
    have fr59 := Fr.setIn fr43 hM57 (by simp)
    refine Ev.rend ?_
    intro e60 he61
    have h62 : eget e60 0 = .lsl j1 s1_3.length 0 s1_3.length := envp he61 rfl h51
    have h63 : eget e60 1 = .int .i64 (IntKind.i64.wrap (s1_1 + 1)) := envp he61 rfl h52
    have h64 : eget e60 5 = .int .i64 s1_2 := envp he61 rfl h53
    clear h51 h52 h53
    refine Ev.kseqN ?_
    refine Ev.seq ?_
    refine Ev.reg (fun _ => rfl) ?_
    refine Ev.nxk (mvO h63) ?_
    refine Ev.nxk (bAdd rfl rfl) ?_
    refine Ev.nxk (mvO rfl) ?_
    refine Ev.rend ?_
    intro e65 he66
    have h67 : eget e65 0 = .lsl j1 s1_3.length 0 s1_3.length := envp he66 rfl h62
    have h68 : eget e65 1 = .int .i64 (IntKind.i64.wrap ((IntKind.i64.wrap (s1_1 + 1)) + 1)) := envp he66 rfl rfl
    have h69 : eget e65 5 = .int .i64 s1_2 := envp he66 rfl h64
    clear h62 h64
    refine Ev.kseqN ?_
    refine Ev.seq ?_
    refine Ev.reg (fun _ => rfl) ?_
    refine Ev.nxk (mvO (lslL (L' := ((s1_3.set s1_2.toNat (Deal.mk s1_1 x38.Kind x38.Tally x38.From x38.To x38.Amount)).set s1_2.toNat (Deal.mk x54.Day (IntKind.i8.wrap (IntKind.i64.wrap (s1_1 + 1))) x54.Tally x54.From x54.To x54.Amount)).length) h67 (by simp [hl30]))) ?_
    refine Ev.nxk (mvO h69) ?_
    refine Ev.nxk (mvO h68) ?_
    obtain ⟨x70, hx71, h⟩ := bind_some h
    refine Ev.nxk (ixO rfl o58 rfl rfl (rd_get hx71).1 (rd_lt hx71).2) ?_
    refine Ev.nxk (faO rfl o58 (by simp [hl30])) ?_
    refine Ev.nxput (stR (u := x70) (u' := (Deal.mk x70.Day x70.Kind (IntKind.i64.wrap ((IntKind.i64.wrap (s1_1 + 1)) + 1)) x70.From x70.To x70.Amount)) rfl rfl o58 rfl (by rw [Nat.zero_add]; exact (rd_get hx71).2) ⟨rfl, ble rfl⟩ rfl rfl) ?_
    intro M72 hM73
    rw [Nat.zero_add] at hM73
    have o74 : M72[j1]? = some (.live ⟨.grow, 85, 6, (((s1_3.set s1_2.toNat (Deal.mk s1_1 x38.Kind x38.Tally x38.From x38.To x38.Amount)).set s1_2.toNat (Deal.mk x54.Day (IntKind.i8.wrap (IntKind.i64.wrap (s1_1 + 1))) x54.Tally x54.From x54.To x54.Amount)).set s1_2.toNat (Deal.mk x70.Day x70.Kind (IntKind.i64.wrap ((IntKind.i64.wrap (s1_1 + 1)) + 1)) x70.From x70.To x70.Amount)).map Deal.c⟩) := set_same hM73 o58
    have fr75 := Fr.setIn fr59 hM73 (by simp)
    refine Ev.rend ?_
    intro e76 he77
    have h78 : eget e76 0 = .lsl j1 s1_3.length 0 s1_3.length := envp he77 rfl h67
    have h79 : eget e76 1 = .int .i64 (IntKind.i64.wrap ((IntKind.i64.wrap (s1_1 + 1)) + 1)) := envp he77 rfl h68
    have h80 : eget e76 5 = .int .i64 s1_2 := envp he77 rfl h69
    clear h67 h68 h69
    refine Ev.kseqN ?_
    refine Ev.seq ?_
    refine Ev.reg (fun _ => rfl) ?_
    refine Ev.nxk (mvO h79) ?_
    refine Ev.nxk (bAdd rfl rfl) ?_
    refine Ev.nxk (mvO rfl) ?_
    refine Ev.rend ?_
    intro e81 he82
    have h83 : eget e81 0 = .lsl j1 s1_3.length 0 s1_3.length := envp he82 rfl h78
    have h84 : eget e81 1 = .int .i64 (IntKind.i64.wrap ((IntKind.i64.wrap ((IntKind.i64.wrap (s1_1 + 1)) + 1)) + 1)) := envp he82 rfl rfl
    have h85 : eget e81 5 = .int .i64 s1_2 := envp he82 rfl h80
    clear h78 h80
    refine Ev.kseqN ?_
    refine Ev.seq ?_
    refine Ev.reg (fun _ => rfl) ?_
    refine Ev.nxk (mvO (lslL (L' := (((s1_3.set s1_2.toNat (Deal.mk s1_1 x38.Kind x38.Tally x38.From x38.To x38.Amount)).set s1_2.toNat (Deal.mk x54.Day (IntKind.i8.wrap (IntKind.i64.wrap (s1_1 + 1))) x54.Tally x54.From x54.To x54.Amount)).set s1_2.toNat (Deal.mk x70.Day x70.Kind (IntKind.i64.wrap ((IntKind.i64.wrap (s1_1 + 1)) + 1)) x70.From x70.To x70.Amount)).length) h83 (by simp [hl30]))) ?_
    refine Ev.nxk (mvO h85) ?_
    refine Ev.nxk (mvO h84) ?_
    obtain ⟨x86, hx87, h⟩ := bind_some h
    refine Ev.nxk (ixO rfl o74 rfl rfl (rd_get hx87).1 (rd_lt hx87).2) ?_
    refine Ev.nxk (faO rfl o74 (by simp [hl30])) ?_
    refine Ev.nxput (stR (u := x86) (u' := (Deal.mk x86.Day x86.Kind x86.Tally (IntKind.i64.wrap ((IntKind.i64.wrap ((IntKind.i64.wrap (s1_1 + 1)) + 1)) + 1)) x86.To x86.Amount)) rfl rfl o74 rfl (by rw [Nat.zero_add]; exact (rd_get hx87).2) ⟨rfl, ble rfl⟩ rfl rfl) ?_
    intro M88 hM89
    rw [Nat.zero_add] at hM89
    have o90 : M88[j1]? = some (.live ⟨.grow, 85, 6, ((((s1_3.set s1_2.toNat (Deal.mk s1_1 x38.Kind x38.Tally x38.From x38.To x38.Amount)).set s1_2.toNat (Deal.mk x54.Day (IntKind.i8.wrap (IntKind.i64.wrap (s1_1 + 1))) x54.Tally x54.From x54.To x54.Amount)).set s1_2.toNat (Deal.mk x70.Day x70.Kind (IntKind.i64.wrap ((IntKind.i64.wrap (s1_1 + 1)) + 1)) x70.From x70.To x70.Amount)).set s1_2.toNat (Deal.mk x86.Day x86.Kind x86.Tally (IntKind.i64.wrap ((IntKind.i64.wrap ((IntKind.i64.wrap (s1_1 + 1)) + 1)) + 1)) x86.To x86.Amount)).map Deal.c⟩) := set_same hM89 o74
    have fr91 := Fr.setIn fr75 hM89 (by simp)
    refine Ev.rend ?_
    intro e92 he93
    have h94 : eget e92 0 = .lsl j1 s1_3.length 0 s1_3.length := envp he93 rfl h83
    have h95 : eget e92 1 = .int .i64 (IntKind.i64.wrap ((IntKind.i64.wrap ((IntKind.i64.wrap (s1_1 + 1)) + 1)) + 1)) := envp he93 rfl h84
    have h96 : eget e92 5 = .int .i64 s1_2 := envp he93 rfl h85
    clear h83 h84 h85
    refine Ev.kseqN ?_
    refine Ev.seq ?_
    refine Ev.reg (fun _ => rfl) ?_
    refine Ev.nxk (mvO h95) ?_
    refine Ev.nxk (bAdd rfl rfl) ?_
    refine Ev.nxk (mvO rfl) ?_
    refine Ev.rend ?_
    intro e97 he98
    have h99 : eget e97 0 = .lsl j1 s1_3.length 0 s1_3.length := envp he98 rfl h94
    have h100 : eget e97 1 = .int .i64 (IntKind.i64.wrap ((IntKind.i64.wrap ((IntKind.i64.wrap ((IntKind.i64.wrap (s1_1 + 1)) + 1)) + 1)) + 1)) := envp he98 rfl rfl
    have h101 : eget e97 5 = .int .i64 s1_2 := envp he98 rfl h96
    clear h94 h96
    refine Ev.kseqN ?_
    refine Ev.seq ?_
    refine Ev.reg (fun _ => rfl) ?_
    refine Ev.nxk (mvO (lslL (L' := ((((s1_3.set s1_2.toNat (Deal.mk s1_1 x38.Kind x38.Tally x38.From x38.To x38.Amount)).set s1_2.toNat (Deal.mk x54.Day (IntKind.i8.wrap (IntKind.i64.wrap (s1_1 + 1))) x54.Tally x54.From x54.To x54.Amount)).set s1_2.toNat (Deal.mk x70.Day x70.Kind (IntKind.i64.wrap ((IntKind.i64.wrap (s1_1 + 1)) + 1)) x70.From x70.To x70.Amount)).set s1_2.toNat (Deal.mk x86.Day x86.Kind x86.Tally (IntKind.i64.wrap ((IntKind.i64.wrap ((IntKind.i64.wrap (s1_1 + 1)) + 1)) + 1)) x86.To x86.Amount)).length) h99 (by simp [hl30]))) ?_
    refine Ev.nxk (mvO h101) ?_
    refine Ev.nxk (mvO h100) ?_
    obtain ⟨x102, hx103, h⟩ := bind_some h
    refine Ev.nxk (ixO rfl o90 rfl rfl (rd_get hx103).1 (rd_lt hx103).2) ?_
    refine Ev.nxk (faO rfl o90 (by simp [hl30])) ?_
    refine Ev.nxput (stR (u := x102) (u' := (Deal.mk x102.Day x102.Kind x102.Tally x102.From (IntKind.i64.wrap ((IntKind.i64.wrap ((IntKind.i64.wrap ((IntKind.i64.wrap (s1_1 + 1)) + 1)) + 1)) + 1)) x102.Amount)) rfl rfl o90 rfl (by rw [Nat.zero_add]; exact (rd_get hx103).2) ⟨rfl, ble rfl⟩ rfl rfl) ?_
    intro M104 hM105
    rw [Nat.zero_add] at hM105
    have o106 : M104[j1]? = some (.live ⟨.grow, 85, 6, (((((s1_3.set s1_2.toNat (Deal.mk s1_1 x38.Kind x38.Tally x38.From x38.To x38.Amount)).set s1_2.toNat (Deal.mk x54.Day (IntKind.i8.wrap (IntKind.i64.wrap (s1_1 + 1))) x54.Tally x54.From x54.To x54.Amount)).set s1_2.toNat (Deal.mk x70.Day x70.Kind (IntKind.i64.wrap ((IntKind.i64.wrap (s1_1 + 1)) + 1)) x70.From x70.To x70.Amount)).set s1_2.toNat (Deal.mk x86.Day x86.Kind x86.Tally (IntKind.i64.wrap ((IntKind.i64.wrap ((IntKind.i64.wrap (s1_1 + 1)) + 1)) + 1)) x86.To x86.Amount)).set s1_2.toNat (Deal.mk x102.Day x102.Kind x102.Tally x102.From (IntKind.i64.wrap ((IntKind.i64.wrap ((IntKind.i64.wrap ((IntKind.i64.wrap (s1_1 + 1)) + 1)) + 1)) + 1)) x102.Amount)).map Deal.c⟩) := set_same hM105 o90
    have fr107 := Fr.setIn fr91 hM105 (by simp)
    refine Ev.rend ?_
    intro e108 he109
    have h110 : eget e108 0 = .lsl j1 s1_3.length 0 s1_3.length := envp he109 rfl h99
    have h111 : eget e108 1 = .int .i64 (IntKind.i64.wrap ((IntKind.i64.wrap ((IntKind.i64.wrap ((IntKind.i64.wrap (s1_1 + 1)) + 1)) + 1)) + 1)) := envp he109 rfl h100
    have h112 : eget e108 5 = .int .i64 s1_2 := envp he109 rfl h101
    clear h100 h101 h99
    refine Ev.kseqN ?_
    refine Ev.seq ?_
    refine Ev.reg (fun _ => rfl) ?_
    refine Ev.nxk (mvO h111) ?_
    refine Ev.nxk (bAdd rfl rfl) ?_
    refine Ev.nxk (mvO rfl) ?_
    refine Ev.rend ?_
    intro e113 he114
    have h115 : eget e113 0 = .lsl j1 s1_3.length 0 s1_3.length := envp he114 rfl h110
    have h116 : eget e113 1 = .int .i64 (IntKind.i64.wrap ((IntKind.i64.wrap ((IntKind.i64.wrap ((IntKind.i64.wrap ((IntKind.i64.wrap (s1_1 + 1)) + 1)) + 1)) + 1)) + 1)) := envp he114 rfl rfl
    have h117 : eget e113 5 = .int .i64 s1_2 := envp he114 rfl h112
    clear h110 h112
    refine Ev.kseqN ?_
    refine Ev.seq ?_
    refine Ev.reg (fun _ => rfl) ?_
    refine Ev.nxk (mvO (lslL (L' := (((((s1_3.set s1_2.toNat (Deal.mk s1_1 x38.Kind x38.Tally x38.From x38.To x38.Amount)).set s1_2.toNat (Deal.mk x54.Day (IntKind.i8.wrap (IntKind.i64.wrap (s1_1 + 1))) x54.Tally x54.From x54.To x54.Amount)).set s1_2.toNat (Deal.mk x70.Day x70.Kind (IntKind.i64.wrap ((IntKind.i64.wrap (s1_1 + 1)) + 1)) x70.From x70.To x70.Amount)).set s1_2.toNat (Deal.mk x86.Day x86.Kind x86.Tally (IntKind.i64.wrap ((IntKind.i64.wrap ((IntKind.i64.wrap (s1_1 + 1)) + 1)) + 1)) x86.To x86.Amount)).set s1_2.toNat (Deal.mk x102.Day x102.Kind x102.Tally x102.From (IntKind.i64.wrap ((IntKind.i64.wrap ((IntKind.i64.wrap ((IntKind.i64.wrap (s1_1 + 1)) + 1)) + 1)) + 1)) x102.Amount)).length) h115 (by simp [hl30]))) ?_
    refine Ev.nxk (mvO h117) ?_
    refine Ev.nxk (mvO h116) ?_
    obtain ⟨x118, hx119, h⟩ := bind_some h
    refine Ev.nxk (ixO rfl o106 rfl rfl (rd_get hx119).1 (rd_lt hx119).2) ?_
    refine Ev.nxk (faO rfl o106 (by simp [hl30])) ?_
    refine Ev.nxput (stR (u := x118) (u' := (Deal.mk x118.Day x118.Kind x118.Tally x118.From x118.To (IntKind.i64.wrap ((IntKind.i64.wrap ((IntKind.i64.wrap ((IntKind.i64.wrap ((IntKind.i64.wrap (s1_1 + 1)) + 1)) + 1)) + 1)) + 1)))) rfl rfl o106 rfl (by rw [Nat.zero_add]; exact (rd_get hx119).2) ⟨rfl, ble rfl⟩ rfl rfl) ?_
    intro M120 hM121
    rw [Nat.zero_add] at hM121
    have o122 : M120[j1]? = some (.live ⟨.grow, 85, 6, ((((((s1_3.set s1_2.toNat (Deal.mk s1_1 x38.Kind x38.Tally x38.From x38.To x38.Amount)).set s1_2.toNat (Deal.mk x54.Day (IntKind.i8.wrap (IntKind.i64.wrap (s1_1 + 1))) x54.Tally x54.From x54.To x54.Amount)).set s1_2.toNat (Deal.mk x70.Day x70.Kind (IntKind.i64.wrap ((IntKind.i64.wrap (s1_1 + 1)) + 1)) x70.From x70.To x70.Amount)).set s1_2.toNat (Deal.mk x86.Day x86.Kind x86.Tally (IntKind.i64.wrap ((IntKind.i64.wrap ((IntKind.i64.wrap (s1_1 + 1)) + 1)) + 1)) x86.To x86.Amount)).set s1_2.toNat (Deal.mk x102.Day x102.Kind x102.Tally x102.From (IntKind.i64.wrap ((IntKind.i64.wrap ((IntKind.i64.wrap ((IntKind.i64.wrap (s1_1 + 1)) + 1)) + 1)) + 1)) x102.Amount)).set s1_2.toNat (Deal.mk x118.Day x118.Kind x118.Tally x118.From x118.To (IntKind.i64.wrap ((IntKind.i64.wrap ((IntKind.i64.wrap ((IntKind.i64.wrap ((IntKind.i64.wrap (s1_1 + 1)) + 1)) + 1)) + 1)) + 1)))).map Deal.c⟩) := set_same hM121 o106
    have fr123 := Fr.setIn fr107 hM121 (by simp)
    refine Ev.rend ?_
    intro e124 he125
    have h126 : eget e124 0 = .lsl j1 s1_3.length 0 s1_3.length := envp he125 rfl h115
    have h127 : eget e124 1 = .int .i64 (IntKind.i64.wrap ((IntKind.i64.wrap ((IntKind.i64.wrap ((IntKind.i64.wrap ((IntKind.i64.wrap (s1_1 + 1)) + 1)) + 1)) + 1)) + 1)) := envp he125 rfl h116
    have h128 : eget e124 5 = .int .i64 s1_2 := envp he125 rfl h117
    clear h115 h116 h117
    refine Ev.kseqN ?_
    refine Ev.reg (fun _ => rfl) ?_
    refine Ev.nxk (mvO h127) ?_
    refine Ev.nxk (bAdd rfl rfl) ?_
    refine Ev.nxk (mvO rfl) ?_
    refine Ev.rend ?_
    intro e129 he130
    have h131 : eget e129 0 = .lsl j1 s1_3.length 0 s1_3.length := envp he130 rfl h126
    have h132 : eget e129 1 = .int .i64 (IntKind.i64.wrap ((IntKind.i64.wrap ((IntKind.i64.wrap ((IntKind.i64.wrap ((IntKind.i64.wrap ((IntKind.i64.wrap (s1_1 + 1)) + 1)) + 1)) + 1)) + 1)) + 1)) := envp he130 rfl rfl
    have h133 : eget e129 5 = .int .i64 s1_2 := envp he130 rfl h128
    clear h126 h128
    refine Ev.kblkN ?_
    refine Ev.kseqN ?_
    refine Ev.reg (fun _ => rfl) ?_
    refine Ev.nxk (mvO h133) ?_
    refine Ev.nxk (bAdd rfl rfl) ?_
    refine Ev.nxk (mvO rfl) ?_
    refine Ev.rend ?_
    intro e134 he135
    have h136 : eget e134 0 = .lsl j1 s1_3.length 0 s1_3.length := envp he135 rfl h131
    have h137 : eget e134 1 = .int .i64 (IntKind.i64.wrap ((IntKind.i64.wrap ((IntKind.i64.wrap ((IntKind.i64.wrap ((IntKind.i64.wrap ((IntKind.i64.wrap (s1_1 + 1)) + 1)) + 1)) + 1)) + 1)) + 1)) := envp he135 rfl h132
    have h138 : eget e134 5 = .int .i64 (IntKind.i64.wrap (s1_2 + 1)) := envp he135 rfl rfl
    clear h131 h132
    cases h
    exact Ev.kid (bQ_n (RS := (laws_markDealS_l_b1_RS a1 j1 M0)) (RR := (laws_markDealS_l_b1_RR a1 j1 M0)) (And.intro (lslL (L' := ((((((s1_3.set s1_2.toNat (Deal.mk s1_1 x38.Kind x38.Tally x38.From x38.To x38.Amount)).set s1_2.toNat (Deal.mk x54.Day (IntKind.i8.wrap (IntKind.i64.wrap (s1_1 + 1))) x54.Tally x54.From x54.To x54.Amount)).set s1_2.toNat (Deal.mk x70.Day x70.Kind (IntKind.i64.wrap ((IntKind.i64.wrap (s1_1 + 1)) + 1)) x70.From x70.To x70.Amount)).set s1_2.toNat (Deal.mk x86.Day x86.Kind x86.Tally (IntKind.i64.wrap ((IntKind.i64.wrap ((IntKind.i64.wrap (s1_1 + 1)) + 1)) + 1)) x86.To x86.Amount)).set s1_2.toNat (Deal.mk x102.Day x102.Kind x102.Tally x102.From (IntKind.i64.wrap ((IntKind.i64.wrap ((IntKind.i64.wrap ((IntKind.i64.wrap (s1_1 + 1)) + 1)) + 1)) + 1)) x102.Amount)).set s1_2.toNat (Deal.mk x118.Day x118.Kind x118.Tally x118.From x118.To (IntKind.i64.wrap ((IntKind.i64.wrap ((IntKind.i64.wrap ((IntKind.i64.wrap ((IntKind.i64.wrap (s1_1 + 1)) + 1)) + 1)) + 1)) + 1)))).length) h136 (by simp [hl30])) (And.intro h137 (And.intro h138 (And.intro o122 (And.intro fr123 (by first | rfl | simp [hl30])))))))
  · refine Ev.condF h36 hb37 ?_
    refine Ev.ex ?_
    refine Ev.kseqE ?_
    cases h
    exact Ev.kid (bQ_x (RS := (laws_markDealS_l_b1_RS a1 j1 M0)) (RR := (laws_markDealS_l_b1_RR a1 j1 M0)) (by intro h; cases h) (And.intro rfl (And.intro h34 (And.intro o28 (And.intro fr29 (by first | rfl | simp [hl30]))))))
noncomputable def laws_markDealS_l (a1 : List Deal) (a2 : Int) : Option (Int × (List Deal)) :=
  (Lw (laws_markDealS_l_b1) (a2, 0, a1)).bind fun (y144, y145) =>
  some (y144, y145)
def laws_markDealS_l_Q (a1 : List Deal) (a2 : Int) (j1 : Nat) (M0 : Mem) (r : Int × (List Deal)) (p : AV × Mem) : Prop := p.1 = .int .i64 r.1 ∧ p.2[j1]? = some (.live ⟨.grow, 85, 6, r.2.map Deal.c⟩) ∧ Fr [j1] M0 p.2 ∧ r.2.length = a1.length
theorem laws_markDealS_l_ok (a1 : List Deal) (a2 : Int) (j1 : Nat) (M0 : Mem) (oP1 : M0[j1]? = some (.live ⟨.grow, 85, 6, a1.map Deal.c⟩)) (r : Int × (List Deal)) (h : laws_markDealS_l a1 a2 = some r) : Ev (fun k => CN k 25 [.lsl j1 a1.length 0 a1.length, .int .i64 a2] M0) (laws_markDealS_l_Q a1 a2 j1 M0 r) := by
  unfold laws_markDealS_l at h
  have fr0 : Fr [j1] M0 M0 := Fr.refl
  refine Ev.enter (F := fun k => f25 (CN k) k) (fun k => callN_eq rfl Try.func25 rfl rfl rfl (by decide +kernel) (f25_eq _ _)) ?_
  refine Ev.seq ?_
  refine Ev.reg (fun _ => rfl) ?_
  refine Ev.nxk (mvO rfl) ?_
  refine Ev.rend ?_
  intro e1 he2
  have h3 : eget e1 0 = .lsl j1 a1.length 0 a1.length := envp he2 rfl rfl
  have h4 : eget e1 1 = .int .i64 a2 := envp he2 rfl rfl
  refine Ev.kseqN ?_
  refine Ev.seq ?_
  refine Ev.seq ?_
  refine Ev.reg (fun _ => rfl) ?_
  refine Ev.nxk (mvO rfl) ?_
  refine Ev.rend ?_
  intro e5 he6
  have h7 : eget e5 0 = .lsl j1 a1.length 0 a1.length := envp he6 rfl h3
  have h8 : eget e5 1 = .int .i64 a2 := envp he6 rfl h4
  have h9 : eget e5 5 = .int .i64 0 := envp he6 rfl rfl
  clear h3 h4
  refine Ev.kseqN ?_
  refine Ev.blk ?_
  obtain ⟨⟨y144, y145⟩, hr140, h⟩ := bind_some h
  refine Ev.loop (RS := laws_markDealS_l_b1_RS a1 j1 M0) (RR := laws_markDealS_l_b1_RR a1 j1 M0) (fun s r h e M hs => laws_markDealS_l_b1_ok a1 j1 M0 s r h e M hs) hr140 (And.intro h7 (And.intro h8 (And.intro h9 (And.intro oP1 (And.intro fr0 rfl))))) ?_
  intro x e142 M143 hq141
  obtain ⟨rfl, h146, o147, fr148, hl149⟩ := hq141
  refine Ev.kblkE ?_
  refine Ev.kseqN ?_
  refine Ev.seq ?_
  refine Ev.reg (fun _ => rfl) ?_
  refine Ev.nxk (mvO h146) ?_
  refine Ev.nxk (mvO rfl) ?_
  refine Ev.rend ?_
  intro e150 he151
  have h152 : eget e150 4 = .int .i64 y144 := envp he151 rfl rfl
  clear h146
  refine Ev.kseqN ?_
  refine Ev.ex ?_
  cases h
  exact Ev.kendR (resT h152 res0) (And.intro rfl (And.intro o147 (And.intro fr148 (by first | rfl | simp [hl149]))))
/-! ### loop.example/g01263/laws.markDealS (f25) -/
abbrev laws_markDealS_n_b1_S := Int × Int
abbrev laws_markDealS_n_b1_R := Int
def laws_markDealS_n_b1_RS (M0 : Mem) (s : laws_markDealS_n_b1_S) (e : Env) (M : Mem) : Prop := eget e 0 = .nils ∧ eget e 1 = .int .i64 s.1 ∧ eget e 5 = .int .i64 s.2 ∧ Fr [] M0 M
def laws_markDealS_n_b1_RR (M0 : Mem) (g : laws_markDealS_n_b1_R) (x : Ex) (e : Env) (M : Mem) : Prop := x = .ext 0 ∧ eget e 1 = .int .i64 g ∧ Fr [] M0 M
noncomputable def laws_markDealS_n_b1 : laws_markDealS_n_b1_S → Option (laws_markDealS_n_b1_S ⊕ laws_markDealS_n_b1_R) := fun (s1_1, s1_2) =>
  if (decide (s1_2 < 0)) = true then
    none
  else
    some (.inr s1_1)
theorem laws_markDealS_n_b1_ok (M0 : Mem) (s : laws_markDealS_n_b1_S) (r : laws_markDealS_n_b1_S ⊕ laws_markDealS_n_b1_R) (h : laws_markDealS_n_b1 s = some r) (e : Env) (M : Mem) (hs : laws_markDealS_n_b1_RS M0 s e M) : Ev (fun k => (f25_l2 (CN k) k (prune [0, 1, 5] e) M).bind fun q => some q) (bQ (laws_markDealS_n_b1_RS M0) (laws_markDealS_n_b1_RR M0) r) := by
  obtain ⟨s1_1, s1_2⟩ := s
  unfold laws_markDealS_n_b1 at h
  obtain ⟨h21, h23, h25, fr27⟩ := hs
  generalize he20 : prune [0, 1, 5] e = e19
  have h22 := envp he20.symm rfl h21
  have h24 := envp he20.symm rfl h23
  have h26 := envp he20.symm rfl h25
  refine Ev.seq ?_
  refine Ev.seq ?_
  refine Ev.reg (fun _ => rfl) ?_
  refine Ev.nxk (mvO h26) ?_
  refine Ev.nxk (mvO h22) ?_
  refine Ev.nxk (lnN Try.underlying56 rfl) ?_
  refine Ev.nxk (bLss rfl rfl) ?_
  refine Ev.rend ?_
  intro e28 he29
  have h30 : eget e28 0 = .nils := envp he29 rfl h22
  have h31 : eget e28 1 = .int .i64 s1_1 := envp he29 rfl h24
  have h32 : eget e28 5 = .int .i64 s1_2 := envp he29 rfl h26
  have h33 : eget e28 9 = .bool (decide (s1_2 < 0)) := envp he29 rfl rfl
  clear h22 h24 h26
  refine Ev.kseqN ?_
  rcases ite_some h with ⟨hb34, h⟩ | ⟨hb34, h⟩
  · refine Ev.condT h33 hb34 ?_
    refine Ev.ex ?_
    refine Ev.kseqN ?_
    refine Ev.seq ?_
    refine Ev.blk ?_
    refine Ev.seq ?_
    refine Ev.reg (fun _ => rfl) ?_
    refine Ev.nxk (mvO h30) ?_
    refine Ev.nxk (mvO h32) ?_
    refine Ev.nxk (mvO h31) ?_
    cases h
  · refine Ev.condF h33 hb34 ?_
    refine Ev.ex ?_
    refine Ev.kseqE ?_
    cases h
    exact Ev.kid (bQ_x (RS := (laws_markDealS_n_b1_RS M0)) (RR := (laws_markDealS_n_b1_RR M0)) (by intro h; cases h) (And.intro rfl (And.intro h31 fr27)))
noncomputable def laws_markDealS_n (a1 : Int) : Option Int :=
  (Lw (laws_markDealS_n_b1) (a1, 0)).bind fun y40 =>
  some y40
def laws_markDealS_n_Q (a1 : Int) (M0 : Mem) (r : Int) (p : AV × Mem) : Prop := p.1 = .int .i64 r ∧ Fr [] M0 p.2
theorem laws_markDealS_n_ok (a1 : Int) (M0 : Mem) (r : Int) (h : laws_markDealS_n a1 = some r) : Ev (fun k => CN k 25 [.nils, .int .i64 a1] M0) (laws_markDealS_n_Q a1 M0 r) := by
  unfold laws_markDealS_n at h
  have fr0 : Fr [] M0 M0 := Fr.refl
  refine Ev.enter (F := fun k => f25 (CN k) k) (fun k => callN_eq rfl Try.func25 rfl rfl rfl (by decide +kernel) (f25_eq _ _)) ?_
  refine Ev.seq ?_
  refine Ev.reg (fun _ => rfl) ?_
  refine Ev.nxk (mvO rfl) ?_
  refine Ev.rend ?_
  intro e1 he2
  have h3 : eget e1 0 = .nils := envp he2 rfl rfl
  have h4 : eget e1 1 = .int .i64 a1 := envp he2 rfl rfl
  refine Ev.kseqN ?_
  refine Ev.seq ?_
  refine Ev.seq ?_
  refine Ev.reg (fun _ => rfl) ?_
  refine Ev.nxk (mvO rfl) ?_
  refine Ev.rend ?_
  intro e5 he6
  have h7 : eget e5 0 = .nils := envp he6 rfl h3
  have h8 : eget e5 1 = .int .i64 a1 := envp he6 rfl h4
  have h9 : eget e5 5 = .int .i64 0 := envp he6 rfl rfl
  clear h3 h4
  refine Ev.kseqN ?_
  refine Ev.blk ?_
  obtain ⟨y40, hr36, h⟩ := bind_some h
  refine Ev.loop (RS := laws_markDealS_n_b1_RS M0) (RR := laws_markDealS_n_b1_RR M0) (fun s r h e M hs => laws_markDealS_n_b1_ok M0 s r h e M hs) hr36 (And.intro h7 (And.intro h8 (And.intro h9 fr0))) ?_
  intro x e38 M39 hq37
  obtain ⟨rfl, h41, fr42⟩ := hq37
  refine Ev.kblkE ?_
  refine Ev.kseqN ?_
  refine Ev.seq ?_
  refine Ev.reg (fun _ => rfl) ?_
  refine Ev.nxk (mvO h41) ?_
  refine Ev.nxk (mvO rfl) ?_
  refine Ev.rend ?_
  intro e43 he44
  have h45 : eget e43 4 = .int .i64 y40 := envp he44 rfl rfl
  clear h41
  refine Ev.kseqN ?_
  refine Ev.ex ?_
  cases h
  exact Ev.kendR (resT h45 res0) (And.intro rfl fr42)
end Go.Proofs.Ytfabokkhdalbeaa

/- Printed by a program of ours (ext.py). -/
import Derived.Test.YtaocojognonkcaaFnsShareOut
set_option linter.unusedVariables false
set_option maxRecDepth 100000
set_option maxHeartbeats 2000000
namespace Go.Proofs.Ytaocojognonkcaa
open Go Go.Ab
theorem co2 : cx.P.cellsOf 2 = 1 := by kernel_rfl
theorem zero2 : zeroOf cx.P 2 = [.int .i64 0] := by kernel_rfl
/-! ### loop.example/g01263/impl.isAmount (f38) -/
noncomputable def impl_isAmount (a1 : Int) : Option Bool :=
  if (decide (a1 ≥ 0)) = true then
    some (decide (a1 ≤ 100000000))
  else
    some false
def impl_isAmount_enc (r : Bool) : AV := .bool r
theorem impl_isAmount_ok (a1 : Int) (r : Bool) (h : impl_isAmount a1 = some r) : Ev (fun k => CN k 38 [.int .i64 a1] []) (fun p => rRes p.2 p.1 = impl_isAmount_enc r) := by
  unfold impl_isAmount at h
  refine Ev.enter (F := fun k => f38 (CN k) k) (fun k => callN_eq rfl Try.func38 rfl rfl rfl (by decide +kernel) (f38_eq _ _)) ?_
  refine Ev.seq ?_
  refine Ev.reg (fun _ => rfl) ?_
  refine Ev.nxk (mvO rfl) ?_
  refine Ev.rend ?_
  intro e1 he2
  have h3 : eget e1 0 = .int .i64 a1 := envp he2 rfl rfl
  refine Ev.kseqN ?_
  refine Ev.seq ?_
  refine Ev.reg (fun _ => rfl) ?_
  refine Ev.nxk (mvO h3) ?_
  refine Ev.nxk (bGeq rfl rfl) ?_
  refine Ev.nxk (mvO rfl) ?_
  rcases ite_some h with ⟨hb4, h⟩ | ⟨hb4, h⟩
  · refine Ev.nxk (guT rfl hb4 (mvO h3)) ?_
    refine Ev.nxk (guT rfl hb4 (bLeq rfl rfl)) ?_
    refine Ev.nxk (pkT rfl hb4 rfl) ?_
    refine Ev.nxk (mvO rfl) ?_
    refine Ev.rend ?_
    intro e5 he6
    have h7 : eget e5 2 = .bool (decide (a1 ≤ 100000000)) := envp he6 rfl rfl
    clear h3
    refine Ev.kseqN ?_
    refine Ev.ex ?_
    cases h
    exact Ev.kendR (resT h7 res0) rfl
  · refine Ev.nxk (gsT rfl hb4) ?_
    refine Ev.nxk (gsT rfl hb4) ?_
    refine Ev.nxk (pkF rfl hb4 rfl) ?_
    refine Ev.nxk (mvO rfl) ?_
    refine Ev.rend ?_
    intro e8 he9
    have h10 : eget e8 2 = .bool false := envp he9 rfl rfl
    clear h3
    refine Ev.kseqN ?_
    refine Ev.ex ?_
    cases h
    exact Ev.kendR (resT h10 res0) rfl
/-! ### loop.example/g01263/spec.l00In (f37) -/
noncomputable def spec_l00In (a1 : Int) (a2 : Int) (a3 : Int) : Option Bool :=
  if (decide (a1 ≥ a2)) = true then
    some (decide (a1 ≤ a3))
  else
    some false
def spec_l00In_enc (r : Bool) : AV := .bool r
theorem spec_l00In_ok (a1 : Int) (a2 : Int) (a3 : Int) (r : Bool) (h : spec_l00In a1 a2 a3 = some r) : Ev (fun k => CN k 37 [.int .i64 a1, .int .i64 a2, .int .i64 a3] []) (fun p => rRes p.2 p.1 = spec_l00In_enc r) := by
  unfold spec_l00In at h
  refine Ev.enter (F := fun k => f37 (CN k) k) (fun k => callN_eq rfl Try.func37 rfl rfl rfl (by decide +kernel) (f37_eq _ _)) ?_
  refine Ev.seq ?_
  refine Ev.reg (fun _ => rfl) ?_
  refine Ev.nxk (mvO rfl) ?_
  refine Ev.rend ?_
  intro e1 he2
  have h3 : eget e1 0 = .int .i64 a1 := envp he2 rfl rfl
  have h4 : eget e1 1 = .int .i64 a2 := envp he2 rfl rfl
  have h5 : eget e1 2 = .int .i64 a3 := envp he2 rfl rfl
  refine Ev.kseqN ?_
  refine Ev.seq ?_
  refine Ev.reg (fun _ => rfl) ?_
  refine Ev.nxk (mvO h3) ?_
  refine Ev.nxk (mvO h4) ?_
  refine Ev.nxk (bGeq rfl rfl) ?_
  refine Ev.nxk (mvO rfl) ?_
  rcases ite_some h with ⟨hb6, h⟩ | ⟨hb6, h⟩
  · refine Ev.nxk (guT rfl hb6 (mvO h3)) ?_
    refine Ev.nxk (guT rfl hb6 (mvO h5)) ?_
    refine Ev.nxk (guT rfl hb6 (bLeq rfl rfl)) ?_
    refine Ev.nxk (pkT rfl hb6 rfl) ?_
    refine Ev.nxk (mvO rfl) ?_
    refine Ev.rend ?_
    intro e7 he8
    have h9 : eget e7 6 = .bool (decide (a1 ≤ a3)) := envp he8 rfl rfl
    clear h3 h4 h5
    refine Ev.kseqN ?_
    refine Ev.ex ?_
    cases h
    exact Ev.kendR (resT h9 res0) rfl
  · refine Ev.nxk (gsT rfl hb6) ?_
    refine Ev.nxk (gsT rfl hb6) ?_
    refine Ev.nxk (gsT rfl hb6) ?_
    refine Ev.nxk (pkF rfl hb6 rfl) ?_
    refine Ev.nxk (mvO rfl) ?_
    refine Ev.rend ?_
    intro e10 he11
    have h12 : eget e10 6 = .bool false := envp he11 rfl rfl
    clear h3 h4 h5
    refine Ev.kseqN ?_
    refine Ev.ex ?_
    cases h
    exact Ev.kendR (resT h12 res0) rfl
/-! ### loop.example/g01263/spec.l01Amount (f36) -/
noncomputable def spec_l01Amount (a1 : Int) : Option Bool :=
  (spec_l00In a1 0 100000000).bind fun r5 =>
  some r5
def spec_l01Amount_enc (r : Bool) : AV := .bool r
theorem spec_l01Amount_ok (a1 : Int) (r : Bool) (h : spec_l01Amount a1 = some r) : Ev (fun k => CN k 36 [.int .i64 a1] []) (fun p => rRes p.2 p.1 = spec_l01Amount_enc r) := by
  unfold spec_l01Amount at h
  refine Ev.enter (F := fun k => f36 (CN k) k) (fun k => callN_eq rfl Try.func36 rfl rfl rfl (by decide +kernel) (f36_eq _ _)) ?_
  refine Ev.seq ?_
  refine Ev.reg (fun _ => rfl) ?_
  refine Ev.nxk (mvO rfl) ?_
  refine Ev.rend ?_
  intro e1 he2
  have h3 : eget e1 0 = .int .i64 a1 := envp he2 rfl rfl
  refine Ev.kseqN ?_
  refine Ev.seq ?_
  refine Ev.reg (fun _ => rfl) ?_
  refine Ev.nxk (mvO h3) ?_
  obtain ⟨r5, hx4, h⟩ := bind_some h
  refine Ev.nxck (Ev.call (v := .bool r5) rfl (cns rfl (cns rfl (cns rfl rfl))) rfl (spec_l00In_ok a1 0 100000000 _ hx4) (fun h => nomatch (show false = true from h))) ?_
  refine Ev.nxk (mvO rfl) ?_
  refine Ev.rend ?_
  intro e6 he7
  have h8 : eget e6 2 = .bool r5 := envp he7 rfl rfl
  clear h3
  refine Ev.kseqN ?_
  refine Ev.ex ?_
  cases h
  exact Ev.kendR (resT h8 res0) rfl
/-! ### loop.example/g01263/laws.heldInt64S (f17) -/
abbrev laws_heldInt64S_b1_S := Int × Int
abbrev laws_heldInt64S_b1_R := Unit ⊕ Int
def laws_heldInt64S_b1_RS (a1 : List Int) (s : laws_heldInt64S_b1_S) (e : Env) (M : Mem) : Prop := eget e 0 = .sl none (a1.map (cI .i64)) ∧ eget e 1 = .int .i64 s.1 ∧ eget e 5 = .int .i64 s.2
def laws_heldInt64S_b1_RR (a1 : List Int) (r : laws_heldInt64S_b1_R) (x : Ex) (e : Env) (M : Mem) : Prop :=
  match r with
  | (.inl g) => x = .ret ∧ eget e 4 = .int .i64 (-1)
  | (.inr g) => x = .ext 0 ∧ eget e 1 = .int .i64 g
noncomputable def laws_heldInt64S_b1 (a1 : List Int) : laws_heldInt64S_b1_S → Option (laws_heldInt64S_b1_S ⊕ laws_heldInt64S_b1_R) := fun (s1_1, s1_2) =>
  if (decide (s1_2 < (a1.length : Int))) = true then
    (rd a1 s1_2).bind fun x33 =>
    if (x33 != s1_1) = true then
      some (.inr (.inl ()))
    else
      some (.inl ((IntKind.i64.wrap (s1_1 + 1)), (IntKind.i64.wrap (s1_2 + 1))))
  else
    some (.inr (.inr s1_1))
theorem laws_heldInt64S_b1_ok (a1 : List Int) (s : laws_heldInt64S_b1_S) (r : laws_heldInt64S_b1_S ⊕ laws_heldInt64S_b1_R) (h : laws_heldInt64S_b1 a1 s = some r) (e : Env) (M : Mem) (hs : laws_heldInt64S_b1_RS a1 s e M) : Ev (fun k => (f17_l2 (CN k) k (prune [0, 1, 5] e) M).bind fun q => some q) (bQ (laws_heldInt64S_b1_RS a1) (laws_heldInt64S_b1_RR a1) r) := by
  obtain ⟨s1_1, s1_2⟩ := s
  unfold laws_heldInt64S_b1 at h
  obtain ⟨h20, h22, h24⟩ := hs
  generalize he19 : prune [0, 1, 5] e = e18
  have h21 := envp he19.symm rfl h20
  have h23 := envp he19.symm rfl h22
  have h25 := envp he19.symm rfl h24
  refine Ev.seq ?_
  refine Ev.seq ?_
  refine Ev.reg (fun _ => rfl) ?_
  refine Ev.nxk (mvO h25) ?_
  refine Ev.nxk (mvO h21) ?_
  refine Ev.nxk (lnS Try.underlying29 rfl) ?_
  refine Ev.nxk (bLss rfl rfl) ?_
  refine Ev.rend ?_
  intro e26 he27
  have h28 : eget e26 0 = .sl none (a1.map (cI .i64)) := envp he27 rfl h21
  have h29 : eget e26 1 = .int .i64 s1_1 := envp he27 rfl h23
  have h30 : eget e26 5 = .int .i64 s1_2 := envp he27 rfl h25
  have h31 : eget e26 9 = .bool (decide (s1_2 < (a1.length : Int))) := envp he27 rfl rfl
  clear h21 h23 h25
  refine Ev.kseqN ?_
  rcases ite_some h with ⟨hb32, h⟩ | ⟨hb32, h⟩
  · refine Ev.condT h31 hb32 ?_
    refine Ev.ex ?_
    refine Ev.kseqN ?_
    refine Ev.seq ?_
    refine Ev.blk ?_
    refine Ev.seq ?_
    refine Ev.seq ?_
    refine Ev.reg (fun _ => rfl) ?_
    refine Ev.nxk (mvO h28) ?_
    refine Ev.nxk (mvO h30) ?_
    obtain ⟨x33, hx34, h⟩ := bind_some h
    refine Ev.nxk (ixS rfl rfl hx34 (cI_fl _)) ?_
    refine Ev.nxk (ldP rfl rfl) ?_
    refine Ev.nxk (mvO h29) ?_
    refine Ev.nxk (bNeq rfl rfl) ?_
    refine Ev.rend ?_
    intro e35 he36
    have h37 : eget e35 0 = .sl none (a1.map (cI .i64)) := envp he36 rfl h28
    have h38 : eget e35 1 = .int .i64 s1_1 := envp he36 rfl h29
    have h39 : eget e35 5 = .int .i64 s1_2 := envp he36 rfl h30
    have h40 : eget e35 17 = .bool (x33 != s1_1) := envp he36 rfl rfl
    clear h28 h29 h30 h31
    refine Ev.kseqN ?_
    rcases ite_some h with ⟨hb41, h⟩ | ⟨hb41, h⟩
    · refine Ev.condT h40 hb41 ?_
      refine Ev.seq ?_
      refine Ev.reg (fun _ => rfl) ?_
      refine Ev.nxk (mvO rfl) ?_
      refine Ev.rend ?_
      intro e42 he43
      have h44 : eget e42 4 = .int .i64 (-1) := envp he43 rfl rfl
      clear h37 h38 h39 h40
      refine Ev.kseqN ?_
      refine Ev.ex ?_
      refine Ev.kseqR ?_
      refine Ev.kblkR ?_
      refine Ev.kseqR ?_
      cases h
      exact Ev.kid (bQ_x (RS := (laws_heldInt64S_b1_RS a1)) (RR := (laws_heldInt64S_b1_RR a1)) (by intro h; cases h) (And.intro rfl h44))
    · refine Ev.condF h40 hb41 ?_
      refine Ev.ex ?_
      refine Ev.kseqN ?_
      refine Ev.reg (fun _ => rfl) ?_
      refine Ev.nxk (mvO h38) ?_
      refine Ev.nxk (bAdd rfl rfl) ?_
      refine Ev.nxk (mvO rfl) ?_
      refine Ev.rend ?_
      intro e45 he46
      have h47 : eget e45 0 = .sl none (a1.map (cI .i64)) := envp he46 rfl h37
      have h48 : eget e45 1 = .int .i64 (IntKind.i64.wrap (s1_1 + 1)) := envp he46 rfl rfl
      have h49 : eget e45 5 = .int .i64 s1_2 := envp he46 rfl h39
      clear h37 h39 h40
      refine Ev.kblkN ?_
      refine Ev.kseqN ?_
      refine Ev.reg (fun _ => rfl) ?_
      refine Ev.nxk (mvO h49) ?_
      refine Ev.nxk (bAdd rfl rfl) ?_
      refine Ev.nxk (mvO rfl) ?_
      refine Ev.rend ?_
      intro e50 he51
      have h52 : eget e50 0 = .sl none (a1.map (cI .i64)) := envp he51 rfl h47
      have h53 : eget e50 1 = .int .i64 (IntKind.i64.wrap (s1_1 + 1)) := envp he51 rfl h48
      have h54 : eget e50 5 = .int .i64 (IntKind.i64.wrap (s1_2 + 1)) := envp he51 rfl rfl
      clear h47 h48
      cases h
      exact Ev.kid (bQ_n (RS := (laws_heldInt64S_b1_RS a1)) (RR := (laws_heldInt64S_b1_RR a1)) (And.intro h52 (And.intro h53 h54)))
  · refine Ev.condF h31 hb32 ?_
    refine Ev.ex ?_
    refine Ev.kseqE ?_
    cases h
    exact Ev.kid (bQ_x (RS := (laws_heldInt64S_b1_RS a1)) (RR := (laws_heldInt64S_b1_RR a1)) (by intro h; cases h) (And.intro rfl h29))
noncomputable def laws_heldInt64S (a1 : List Int) (a2 : Int) : Option Int :=
  (Lw (laws_heldInt64S_b1 a1) (a2, 0)).bind fun r => match r with
  | (.inl _) =>
    some (-1)
  | (.inr y63) =>
    some y63
def laws_heldInt64S_enc (r : Int) : AV := .int .i64 r
theorem laws_heldInt64S_ok (a1 : List Int) (a2 : Int) (r : Int) (h : laws_heldInt64S a1 a2 = some r) : Ev (fun k => CN k 17 [.sl none (a1.map (cI .i64)), .int .i64 a2] []) (fun p => rRes p.2 p.1 = laws_heldInt64S_enc r) := by
  unfold laws_heldInt64S at h
  refine Ev.enter (F := fun k => f17 (CN k) k) (fun k => callN_eq rfl Try.func17 rfl rfl rfl (by decide +kernel) (f17_eq _ _)) ?_
  refine Ev.seq ?_
  refine Ev.reg (fun _ => rfl) ?_
  refine Ev.nxk (mvO rfl) ?_
  refine Ev.rend ?_
  intro e1 he2
  have h3 : eget e1 0 = .sl none (a1.map (cI .i64)) := envp he2 rfl rfl
  have h4 : eget e1 1 = .int .i64 a2 := envp he2 rfl rfl
  refine Ev.kseqN ?_
  refine Ev.seq ?_
  refine Ev.seq ?_
  refine Ev.reg (fun _ => rfl) ?_
  refine Ev.nxk (mvO rfl) ?_
  refine Ev.rend ?_
  intro e5 he6
  have h7 : eget e5 0 = .sl none (a1.map (cI .i64)) := envp he6 rfl h3
  have h8 : eget e5 1 = .int .i64 a2 := envp he6 rfl h4
  have h9 : eget e5 5 = .int .i64 0 := envp he6 rfl rfl
  clear h3 h4
  refine Ev.kseqN ?_
  refine Ev.blk ?_
  obtain ⟨r55, hr56, h⟩ := bind_some h
  rcases r55 with _ | y63
  · refine Ev.loop (RS := laws_heldInt64S_b1_RS a1) (RR := laws_heldInt64S_b1_RR a1) (fun s r h e M hs => laws_heldInt64S_b1_ok a1 s r h e M hs) hr56 (And.intro h7 (And.intro h8 h9)) ?_
    intro x e58 M59 hq57
    obtain ⟨rfl, h60⟩ := hq57
    refine Ev.kblkR ?_
    refine Ev.kseqR ?_
    cases h
    exact Ev.kendR (resT h60 res0) rfl
  · refine Ev.loop (RS := laws_heldInt64S_b1_RS a1) (RR := laws_heldInt64S_b1_RR a1) (fun s r h e M hs => laws_heldInt64S_b1_ok a1 s r h e M hs) hr56 (And.intro h7 (And.intro h8 h9)) ?_
    intro x e61 M62 hq57
    obtain ⟨rfl, h64⟩ := hq57
    refine Ev.kblkE ?_
    refine Ev.kseqN ?_
    refine Ev.seq ?_
    refine Ev.reg (fun _ => rfl) ?_
    refine Ev.nxk (mvO h64) ?_
    refine Ev.nxk (mvO rfl) ?_
    refine Ev.rend ?_
    intro e65 he66
    have h67 : eget e65 4 = .int .i64 y63 := envp he66 rfl rfl
    clear h64
    refine Ev.kseqN ?_
    refine Ev.ex ?_
    cases h
    exact Ev.kendR (resT h67 res0) rfl
/-! ### loop.example/g01263/laws.eqInt64S (f15) -/
abbrev laws_eqInt64S_b1_S := Int
abbrev laws_eqInt64S_b1_R := Unit ⊕ Unit
def laws_eqInt64S_b1_RS (a1 : List Int) (a2 : List Int) (s : laws_eqInt64S_b1_S) (e : Env) (M : Mem) : Prop := eget e 0 = .sl none (a1.map (cI .i64)) ∧ eget e 1 = .sl none (a2.map (cI .i64)) ∧ eget e 5 = .int .i64 s
def laws_eqInt64S_b1_RR (a1 : List Int) (a2 : List Int) (r : laws_eqInt64S_b1_R) (x : Ex) (e : Env) (M : Mem) : Prop :=
  match r with
  | (.inl g) => x = .ret ∧ eget e 4 = .bool false
  | (.inr g) => x = .ext 0 ∧ True
noncomputable def laws_eqInt64S_b1 (a1 : List Int) (a2 : List Int) : laws_eqInt64S_b1_S → Option (laws_eqInt64S_b1_S ⊕ laws_eqInt64S_b1_R) := fun s1_1 =>
  if (decide (s1_1 < (a1.length : Int))) = true then
    (rd a1 s1_1).bind fun x42 =>
    (rd a2 s1_1).bind fun x44 =>
    if (x42 != x44) = true then
      some (.inr (.inl ()))
    else
      some (.inl (IntKind.i64.wrap (s1_1 + 1)))
  else
    some (.inr (.inr ()))
theorem laws_eqInt64S_b1_ok (a1 : List Int) (a2 : List Int) (s : laws_eqInt64S_b1_S) (r : laws_eqInt64S_b1_S ⊕ laws_eqInt64S_b1_R) (h : laws_eqInt64S_b1 a1 a2 s = some r) (e : Env) (M : Mem) (hs : laws_eqInt64S_b1_RS a1 a2 s e M) : Ev (fun k => (f15_l4 (CN k) k (prune [0, 1, 5] e) M).bind fun q => some q) (bQ (laws_eqInt64S_b1_RS a1 a2) (laws_eqInt64S_b1_RR a1 a2) r) := by
  revert h hs
  revert s
  intro s1_1 h hs
  unfold laws_eqInt64S_b1 at h
  obtain ⟨h29, h31, h33⟩ := hs
  generalize he28 : prune [0, 1, 5] e = e27
  have h30 := envp he28.symm rfl h29
  have h32 := envp he28.symm rfl h31
  have h34 := envp he28.symm rfl h33
  refine Ev.seq ?_
  refine Ev.seq ?_
  refine Ev.reg (fun _ => rfl) ?_
  refine Ev.nxk (mvO h34) ?_
  refine Ev.nxk (mvO h30) ?_
  refine Ev.nxk (lnS Try.underlying29 rfl) ?_
  refine Ev.nxk (bLss rfl rfl) ?_
  refine Ev.rend ?_
  intro e35 he36
  have h37 : eget e35 0 = .sl none (a1.map (cI .i64)) := envp he36 rfl h30
  have h38 : eget e35 1 = .sl none (a2.map (cI .i64)) := envp he36 rfl h32
  have h39 : eget e35 5 = .int .i64 s1_1 := envp he36 rfl h34
  have h40 : eget e35 14 = .bool (decide (s1_1 < (a1.length : Int))) := envp he36 rfl rfl
  clear h30 h32 h34
  refine Ev.kseqN ?_
  rcases ite_some h with ⟨hb41, h⟩ | ⟨hb41, h⟩
  · refine Ev.condT h40 hb41 ?_
    refine Ev.ex ?_
    refine Ev.kseqN ?_
    refine Ev.seq ?_
    refine Ev.blk ?_
    refine Ev.seq ?_
    refine Ev.regD (fun _ => rfl) ?_
    refine Ev.nfk (mvO h37) ?_
    refine Ev.nfk (mvO h39) ?_
    obtain ⟨x42, hx43, h⟩ := bind_some h
    refine Ev.nfk (ixS rfl rfl hx43 (cI_fl _)) ?_
    refine Ev.nfk (ldP rfl rfl) ?_
    refine Ev.nfk (mvO h38) ?_
    refine Ev.nfk (mvO h39) ?_
    obtain ⟨x44, hx45, h⟩ := bind_some h
    refine Ev.nfk (ixS rfl rfl hx45 (cI_fl _)) ?_
    refine Ev.nfk (ldP rfl rfl) ?_
    refine Ev.nfk (bNeq rfl rfl) ?_
    refine Ev.fend0 ?_
    refine Ev.rend ?_
    intro e46 he47
    have h48 : eget e46 0 = .sl none (a1.map (cI .i64)) := envp he47 rfl h37
    have h49 : eget e46 1 = .sl none (a2.map (cI .i64)) := envp he47 rfl h38
    have h50 : eget e46 5 = .int .i64 s1_1 := envp he47 rfl h39
    have h51 : eget e46 25 = .bool (x42 != x44) := envp he47 rfl rfl
    clear h37 h38 h39 h40
    refine Ev.kseqN ?_
    rcases ite_some h with ⟨hb52, h⟩ | ⟨hb52, h⟩
    · refine Ev.condT h51 hb52 ?_
      refine Ev.seq ?_
      refine Ev.reg (fun _ => rfl) ?_
      refine Ev.nxk (mvO rfl) ?_
      refine Ev.rend ?_
      intro e53 he54
      have h55 : eget e53 4 = .bool false := envp he54 rfl rfl
      clear h48 h49 h50 h51
      refine Ev.kseqN ?_
      refine Ev.ex ?_
      refine Ev.kblkR ?_
      refine Ev.kseqR ?_
      cases h
      exact Ev.kid (bQ_x (RS := (laws_eqInt64S_b1_RS a1 a2)) (RR := (laws_eqInt64S_b1_RR a1 a2)) (by intro h; cases h) (And.intro rfl h55))
    · refine Ev.condF h51 hb52 ?_
      refine Ev.ex ?_
      refine Ev.kblkN ?_
      refine Ev.kseqN ?_
      refine Ev.reg (fun _ => rfl) ?_
      refine Ev.nxk (mvO h50) ?_
      refine Ev.nxk (bAdd rfl rfl) ?_
      refine Ev.nxk (mvO rfl) ?_
      refine Ev.rend ?_
      intro e56 he57
      have h58 : eget e56 0 = .sl none (a1.map (cI .i64)) := envp he57 rfl h48
      have h59 : eget e56 1 = .sl none (a2.map (cI .i64)) := envp he57 rfl h49
      have h60 : eget e56 5 = .int .i64 (IntKind.i64.wrap (s1_1 + 1)) := envp he57 rfl rfl
      clear h48 h49 h51
      cases h
      exact Ev.kid (bQ_n (RS := (laws_eqInt64S_b1_RS a1 a2)) (RR := (laws_eqInt64S_b1_RR a1 a2)) (And.intro h58 (And.intro h59 h60)))
  · refine Ev.condF h40 hb41 ?_
    refine Ev.ex ?_
    refine Ev.kseqE ?_
    cases h
    exact Ev.kid (bQ_x (RS := (laws_eqInt64S_b1_RS a1 a2)) (RR := (laws_eqInt64S_b1_RR a1 a2)) (by intro h; cases h) (And.intro rfl trivial))
noncomputable def laws_eqInt64S (a1 : List Int) (a2 : List Int) : Option Bool :=
  if ((a1.length : Int) != (a2.length : Int)) = true then
    some false
  else
    (Lw (laws_eqInt64S_b1 a1 a2) 0).bind fun r => match r with
    | (.inl _) =>
      some false
    | (.inr _) =>
      some true
def laws_eqInt64S_enc (r : Bool) : AV := .bool r
theorem laws_eqInt64S_ok (a1 : List Int) (a2 : List Int) (r : Bool) (h : laws_eqInt64S a1 a2 = some r) : Ev (fun k => CN k 15 [.sl none (a1.map (cI .i64)), .sl none (a2.map (cI .i64))] []) (fun p => rRes p.2 p.1 = laws_eqInt64S_enc r) := by
  unfold laws_eqInt64S at h
  refine Ev.enter (F := fun k => f15 (CN k) k) (fun k => callN_eq rfl Try.func15 rfl rfl rfl (by decide +kernel) (f15_eq _ _)) ?_
  refine Ev.seq ?_
  refine Ev.reg (fun _ => rfl) ?_
  refine Ev.nxk (mvO rfl) ?_
  refine Ev.rend ?_
  intro e1 he2
  have h3 : eget e1 0 = .sl none (a1.map (cI .i64)) := envp he2 rfl rfl
  have h4 : eget e1 1 = .sl none (a2.map (cI .i64)) := envp he2 rfl rfl
  refine Ev.kseqN ?_
  refine Ev.seq ?_
  refine Ev.seq ?_
  refine Ev.reg (fun _ => rfl) ?_
  refine Ev.nxk (mvO h3) ?_
  refine Ev.nxk (lnS Try.underlying29 rfl) ?_
  refine Ev.nxk (mvO h4) ?_
  refine Ev.nxk (lnS Try.underlying29 rfl) ?_
  refine Ev.nxk (bNeq rfl rfl) ?_
  refine Ev.rend ?_
  intro e5 he6
  have h7 : eget e5 0 = .sl none (a1.map (cI .i64)) := envp he6 rfl h3
  have h8 : eget e5 1 = .sl none (a2.map (cI .i64)) := envp he6 rfl h4
  have h9 : eget e5 10 = .bool ((a1.length : Int) != (a2.length : Int)) := envp he6 rfl rfl
  clear h3 h4
  refine Ev.kseqN ?_
  rcases ite_some h with ⟨hb10, h⟩ | ⟨hb10, h⟩
  · refine Ev.condT h9 hb10 ?_
    refine Ev.seq ?_
    refine Ev.reg (fun _ => rfl) ?_
    refine Ev.nxk (mvO rfl) ?_
    refine Ev.rend ?_
    intro e11 he12
    have h13 : eget e11 4 = .bool false := envp he12 rfl rfl
    clear h7 h8 h9
    refine Ev.kseqN ?_
    refine Ev.ex ?_
    refine Ev.kseqR ?_
    cases h
    exact Ev.kendR (resT h13 res0) rfl
  · refine Ev.condF h9 hb10 ?_
    refine Ev.ex ?_
    refine Ev.kseqN ?_
    refine Ev.seq ?_
    refine Ev.seq ?_
    refine Ev.reg (fun _ => rfl) ?_
    refine Ev.nxk (mvO rfl) ?_
    refine Ev.rend ?_
    intro e14 he15
    have h16 : eget e14 0 = .sl none (a1.map (cI .i64)) := envp he15 rfl h7
    have h17 : eget e14 1 = .sl none (a2.map (cI .i64)) := envp he15 rfl h8
    have h18 : eget e14 5 = .int .i64 0 := envp he15 rfl rfl
    clear h7 h8 h9
    refine Ev.kseqN ?_
    refine Ev.blk ?_
    obtain ⟨r61, hr62, h⟩ := bind_some h
    rcases r61 with _ | _
    · refine Ev.loop (RS := laws_eqInt64S_b1_RS a1 a2) (RR := laws_eqInt64S_b1_RR a1 a2) (fun s r h e M hs => laws_eqInt64S_b1_ok a1 a2 s r h e M hs) hr62 (And.intro h16 (And.intro h17 h18)) ?_
      intro x e64 M65 hq63
      obtain ⟨rfl, h66⟩ := hq63
      refine Ev.kblkR ?_
      refine Ev.kseqR ?_
      cases h
      exact Ev.kendR (resT h66 res0) rfl
    · refine Ev.loop (RS := laws_eqInt64S_b1_RS a1 a2) (RR := laws_eqInt64S_b1_RR a1 a2) (fun s r h e M hs => laws_eqInt64S_b1_ok a1 a2 s r h e M hs) hr62 (And.intro h16 (And.intro h17 h18)) ?_
      intro x e67 M68 hq63
      obtain ⟨rfl, _⟩ := hq63
      refine Ev.kblkE ?_
      refine Ev.kseqN ?_
      refine Ev.seq ?_
      refine Ev.reg (fun _ => rfl) ?_
      refine Ev.nxk (mvO rfl) ?_
      refine Ev.rend ?_
      intro e69 he70
      have h71 : eget e69 4 = .bool true := envp he70 rfl rfl
      refine Ev.kseqN ?_
      refine Ev.ex ?_
      cases h
      exact Ev.kendR (resT h71 res0) rfl
/-! ### loop.example/g01263/impl.ShareOut (f14) -/
def impl_ShareOut_c1_Q (a1 : Int) (a2 : List Int) (g : Bool) (q : Out) : Prop := q.1 = .nrm ∧ eget q.2.1 0 = .int .i64 a1 ∧ eget q.2.1 1 = .sl none (a2.map (cI .i64)) ∧ eget q.2.1 29 = .bool g
abbrev impl_ShareOut_b1_S := Int × Int
abbrev impl_ShareOut_b1_R := Unit ⊕ Int
def impl_ShareOut_b1_RS (a1 : Int) (a2 : List Int) (s : impl_ShareOut_b1_S) (e : Env) (M : Mem) : Prop := eget e 0 = .int .i64 a1 ∧ eget e 1 = .sl none (a2.map (cI .i64)) ∧ eget e 6 = .int .i64 s.1 ∧ eget e 30 = .sl none (a2.map (cI .i64)) ∧ eget e 31 = .int .i64 (a2.length : Int) ∧ eget e 32 = .int .i64 s.2
def impl_ShareOut_b1_RR (a1 : Int) (a2 : List Int) (r : impl_ShareOut_b1_R) (x : Ex) (e : Env) (M : Mem) : Prop :=
  match r with
  | (.inl g) => x = .ret ∧ eget e 4 = .nils ∧ eget e 5 = .int .i64 2
  | (.inr g) => x = .ext 0 ∧ eget e 0 = .int .i64 a1 ∧ eget e 1 = .sl none (a2.map (cI .i64)) ∧ eget e 6 = .int .i64 g
noncomputable def impl_ShareOut_b1 (a2 : List Int) : impl_ShareOut_b1_S → Option (impl_ShareOut_b1_S ⊕ impl_ShareOut_b1_R) := fun (s1_1, s1_2) =>
  if (decide (s1_2 < (a2.length : Int))) = true then
    (rd a2 s1_2).bind fun x86 =>
    if (decide (x86 < 0)) = true then
      some (.inr (.inl ()))
    else
      if (decide (x86 > 1000000)) = true then
        some (.inr (.inl ()))
      else
        some (.inl ((IntKind.i64.wrap (s1_1 + x86)), (IntKind.i64.wrap (s1_2 + 1))))
  else
    some (.inr (.inr s1_1))
theorem impl_ShareOut_b1_ok (a1 : Int) (a2 : List Int) (s : impl_ShareOut_b1_S) (r : impl_ShareOut_b1_S ⊕ impl_ShareOut_b1_R) (h : impl_ShareOut_b1 a2 s = some r) (e : Env) (M : Mem) (hs : impl_ShareOut_b1_RS a1 a2 s e M) : Ev (fun k => (f14_l5 (CN k) k (prune [0, 1, 6, 30, 31, 32] e) M).bind fun q => some q) (bQ (impl_ShareOut_b1_RS a1 a2) (impl_ShareOut_b1_RR a1 a2) r) := by
  obtain ⟨s1_1, s1_2⟩ := s
  unfold impl_ShareOut_b1 at h
  obtain ⟨h64, h66, h68, h70, h72, h74⟩ := hs
  generalize he63 : prune [0, 1, 6, 30, 31, 32] e = e62
  have h65 := envp he63.symm rfl h64
  have h67 := envp he63.symm rfl h66
  have h69 := envp he63.symm rfl h68
  have h71 := envp he63.symm rfl h70
  have h73 := envp he63.symm rfl h72
  have h75 := envp he63.symm rfl h74
  refine Ev.seq ?_
  refine Ev.reg (fun _ => rfl) ?_
  refine Ev.nxk (bLss h75 h73) ?_
  refine Ev.rend ?_
  intro e76 he77
  have h78 : eget e76 0 = .int .i64 a1 := envp he77 rfl h65
  have h79 : eget e76 1 = .sl none (a2.map (cI .i64)) := envp he77 rfl h67
  have h80 : eget e76 6 = .int .i64 s1_1 := envp he77 rfl h69
  have h81 : eget e76 30 = .sl none (a2.map (cI .i64)) := envp he77 rfl h71
  have h82 : eget e76 31 = .int .i64 (a2.length : Int) := envp he77 rfl h73
  have h83 : eget e76 32 = .int .i64 s1_2 := envp he77 rfl h75
  have h84 : eget e76 33 = .bool (decide (s1_2 < (a2.length : Int))) := envp he77 rfl rfl
  clear h65 h67 h69 h71 h73 h75
  refine Ev.kseqN ?_
  refine Ev.seq ?_
  rcases ite_some h with ⟨hb85, h⟩ | ⟨hb85, h⟩
  · refine Ev.condT h84 hb85 ?_
    refine Ev.ex ?_
    refine Ev.kseqN ?_
    refine Ev.seq ?_
    refine Ev.blk ?_
    refine Ev.seq ?_
    refine Ev.reg (fun _ => rfl) ?_
    obtain ⟨x86, hx87, h⟩ := bind_some h
    refine Ev.nxk (ixS h81 h83 hx87 (cI_fl _)) ?_
    refine Ev.nxk (ldP rfl rfl) ?_
    refine Ev.nxk (mvO rfl) ?_
    refine Ev.rend ?_
    intro e88 he89
    have h90 : eget e88 0 = .int .i64 a1 := envp he89 rfl h78
    have h91 : eget e88 1 = .sl none (a2.map (cI .i64)) := envp he89 rfl h79
    have h92 : eget e88 6 = .int .i64 s1_1 := envp he89 rfl h80
    have h93 : eget e88 8 = .int .i64 x86 := envp he89 rfl rfl
    have h94 : eget e88 30 = .sl none (a2.map (cI .i64)) := envp he89 rfl h81
    have h95 : eget e88 31 = .int .i64 (a2.length : Int) := envp he89 rfl h82
    have h96 : eget e88 32 = .int .i64 s1_2 := envp he89 rfl h83
    clear h78 h79 h80 h81 h82 h83 h84
    refine Ev.kseqN ?_
    refine Ev.seq ?_
    refine Ev.seq ?_
    refine Ev.reg (fun _ => rfl) ?_
    refine Ev.nxk (mvO h93) ?_
    refine Ev.nxk (bLss rfl rfl) ?_
    refine Ev.nxk (mvO rfl) ?_
    rcases ite_some h with ⟨hb97, h⟩ | ⟨hb97, h⟩
    · refine Ev.nxk (gsF rfl hb97) ?_
      refine Ev.nxk (gsF rfl hb97) ?_
      refine Ev.nxk (pkT rfl hb97 rfl) ?_
      refine Ev.rend ?_
      intro e98 he99
      have h100 : eget e98 0 = .int .i64 a1 := envp he99 rfl h90
      have h101 : eget e98 1 = .sl none (a2.map (cI .i64)) := envp he99 rfl h91
      have h102 : eget e98 6 = .int .i64 s1_1 := envp he99 rfl h92
      have h103 : eget e98 8 = .int .i64 x86 := envp he99 rfl h93
      have h104 : eget e98 30 = .sl none (a2.map (cI .i64)) := envp he99 rfl h94
      have h105 : eget e98 31 = .int .i64 (a2.length : Int) := envp he99 rfl h95
      have h106 : eget e98 32 = .int .i64 s1_2 := envp he99 rfl h96
      have h107 : eget e98 41 = .bool true := envp he99 rfl rfl
      clear h90 h91 h92 h93 h94 h95 h96
      refine Ev.kseqN ?_
      refine Ev.condT h107 rfl ?_
      refine Ev.seq ?_
      refine Ev.reg (fun _ => rfl) ?_
      refine Ev.nxk (mvO rfl) ?_
      refine Ev.nxk (mvO rfl) ?_
      refine Ev.rend ?_
      intro e108 he109
      have h110 : eget e108 4 = .nils := envp he109 rfl rfl
      have h111 : eget e108 5 = .int .i64 2 := envp he109 rfl rfl
      clear h100 h101 h102 h103 h104 h105 h106 h107
      refine Ev.kseqN ?_
      refine Ev.ex ?_
      refine Ev.kseqR ?_
      refine Ev.kblkR ?_
      refine Ev.kseqR ?_
      cases h
      exact Ev.kid (bQ_x (RS := (impl_ShareOut_b1_RS a1 a2)) (RR := (impl_ShareOut_b1_RR a1 a2)) (by intro h; cases h) (And.intro rfl (And.intro h110 h111)))
    · refine Ev.nxk (guF rfl hb97 (mvO h93)) ?_
      refine Ev.nxk (guF rfl hb97 (bGtr rfl rfl)) ?_
      refine Ev.nxk (pkF rfl hb97 rfl) ?_
      refine Ev.rend ?_
      intro e112 he113
      have h114 : eget e112 0 = .int .i64 a1 := envp he113 rfl h90
      have h115 : eget e112 1 = .sl none (a2.map (cI .i64)) := envp he113 rfl h91
      have h116 : eget e112 6 = .int .i64 s1_1 := envp he113 rfl h92
      have h117 : eget e112 8 = .int .i64 x86 := envp he113 rfl h93
      have h118 : eget e112 30 = .sl none (a2.map (cI .i64)) := envp he113 rfl h94
      have h119 : eget e112 31 = .int .i64 (a2.length : Int) := envp he113 rfl h95
      have h120 : eget e112 32 = .int .i64 s1_2 := envp he113 rfl h96
      have h121 : eget e112 41 = .bool (decide (x86 > 1000000)) := envp he113 rfl rfl
      clear h90 h91 h92 h93 h94 h95 h96
      refine Ev.kseqN ?_
      rcases ite_some h with ⟨hb122, h⟩ | ⟨hb122, h⟩
      · refine Ev.condT h121 hb122 ?_
        refine Ev.seq ?_
        refine Ev.reg (fun _ => rfl) ?_
        refine Ev.nxk (mvO rfl) ?_
        refine Ev.nxk (mvO rfl) ?_
        refine Ev.rend ?_
        intro e123 he124
        have h125 : eget e123 4 = .nils := envp he124 rfl rfl
        have h126 : eget e123 5 = .int .i64 2 := envp he124 rfl rfl
        clear h114 h115 h116 h117 h118 h119 h120 h121
        refine Ev.kseqN ?_
        refine Ev.ex ?_
        refine Ev.kseqR ?_
        refine Ev.kblkR ?_
        refine Ev.kseqR ?_
        cases h
        exact Ev.kid (bQ_x (RS := (impl_ShareOut_b1_RS a1 a2)) (RR := (impl_ShareOut_b1_RR a1 a2)) (by intro h; cases h) (And.intro rfl (And.intro h125 h126)))
      · refine Ev.condF h121 hb122 ?_
        refine Ev.ex ?_
        refine Ev.kseqN ?_
        refine Ev.reg (fun _ => rfl) ?_
        refine Ev.nxk (mvO h116) ?_
        refine Ev.nxk (mvO h117) ?_
        refine Ev.nxk (bAdd rfl rfl) ?_
        refine Ev.nxk (mvO rfl) ?_
        refine Ev.rend ?_
        intro e127 he128
        have h129 : eget e127 0 = .int .i64 a1 := envp he128 rfl h114
        have h130 : eget e127 1 = .sl none (a2.map (cI .i64)) := envp he128 rfl h115
        have h131 : eget e127 6 = .int .i64 (IntKind.i64.wrap (s1_1 + x86)) := envp he128 rfl rfl
        have h132 : eget e127 30 = .sl none (a2.map (cI .i64)) := envp he128 rfl h118
        have h133 : eget e127 31 = .int .i64 (a2.length : Int) := envp he128 rfl h119
        have h134 : eget e127 32 = .int .i64 s1_2 := envp he128 rfl h120
        clear h114 h115 h117 h118 h119 h120 h121
        refine Ev.kblkN ?_
        refine Ev.kseqN ?_
        refine Ev.reg (fun _ => rfl) ?_
        refine Ev.nxk (bAdd h134 rfl) ?_
        refine Ev.nxk (mvO rfl) ?_
        refine Ev.rend ?_
        intro e135 he136
        have h137 : eget e135 0 = .int .i64 a1 := envp he136 rfl h129
        have h138 : eget e135 1 = .sl none (a2.map (cI .i64)) := envp he136 rfl h130
        have h139 : eget e135 6 = .int .i64 (IntKind.i64.wrap (s1_1 + x86)) := envp he136 rfl h131
        have h140 : eget e135 30 = .sl none (a2.map (cI .i64)) := envp he136 rfl h132
        have h141 : eget e135 31 = .int .i64 (a2.length : Int) := envp he136 rfl h133
        have h142 : eget e135 32 = .int .i64 (IntKind.i64.wrap (s1_2 + 1)) := envp he136 rfl rfl
        clear h129 h130 h131 h132 h133
        cases h
        exact Ev.kid (bQ_n (RS := (impl_ShareOut_b1_RS a1 a2)) (RR := (impl_ShareOut_b1_RR a1 a2)) (And.intro h137 (And.intro h138 (And.intro h139 (And.intro h140 (And.intro h141 h142))))))
  · refine Ev.condF h84 hb85 ?_
    refine Ev.ex ?_
    refine Ev.kseqE ?_
    cases h
    exact Ev.kid (bQ_x (RS := (impl_ShareOut_b1_RS a1 a2)) (RR := (impl_ShareOut_b1_RR a1 a2)) (by intro h; cases h) (And.intro rfl (And.intro h78 (And.intro h79 h80))))
abbrev impl_ShareOut_b2_S := Int × Int × (List Int) × (List Int)
abbrev impl_ShareOut_b2_R := Int × (List Int) × (List Int)
def impl_ShareOut_b2_RS (a1 : Int) (a2 : List Int) (y152 : Int) (i2_1 : Nat) (i2_2 : Nat) (s : impl_ShareOut_b2_S) (e : Env) (M : Mem) : Prop := eget e 0 = .int .i64 a1 ∧ eget e 6 = .int .i64 y152 ∧ eget e 9 = .lsl i2_1 s.2.2.1.length 0 s.2.2.1.length ∧ eget e 10 = .lsl i2_2 s.2.2.2.length 0 s.2.2.2.length ∧ eget e 11 = .int .i64 s.1 ∧ eget e 51 = .sl none (a2.map (cI .i64)) ∧ eget e 52 = .int .i64 (a2.length : Int) ∧ eget e 53 = .int .i64 s.2.1 ∧ M[i2_1]? = some (.live ⟨.grow, 2, 1, s.2.2.1.map (cI .i64)⟩) ∧ M[i2_2]? = some (.live ⟨.grow, 2, 1, s.2.2.2.map (cI .i64)⟩)
def impl_ShareOut_b2_RR (a1 : Int) (a2 : List Int) (y152 : Int) (i2_1 : Nat) (i2_2 : Nat) (g : impl_ShareOut_b2_R) (x : Ex) (e : Env) (M : Mem) : Prop := x = .ext 2 ∧ eget e 9 = .lsl i2_1 g.2.1.length 0 g.2.1.length ∧ eget e 10 = .lsl i2_2 g.2.2.length 0 g.2.2.length ∧ eget e 11 = .int .i64 g.1 ∧ M[i2_1]? = some (.live ⟨.grow, 2, 1, g.2.1.map (cI .i64)⟩) ∧ M[i2_2]? = some (.live ⟨.grow, 2, 1, g.2.2.map (cI .i64)⟩)
noncomputable def impl_ShareOut_b2 (a1 : Int) (a2 : List Int) (y152 : Int) : impl_ShareOut_b2_S → Option (impl_ShareOut_b2_S ⊕ impl_ShareOut_b2_R) := fun (s2_1, s2_2, s2_3, s2_4) =>
  if (decide (s2_2 < (a2.length : Int))) = true then
    (rd a2 s2_2).bind fun x247 =>
    (quo .i64 (IntKind.i64.wrap (a1 * x247)) y152).bind fun n260 =>
    (app 8 s2_3 [n260]).bind fun x262 =>
    (rem .i64 (IntKind.i64.wrap (a1 * x247)) y152).bind fun n279 =>
    (app 8 s2_4 [n279]).bind fun x281 =>
    (quo .i64 (IntKind.i64.wrap (a1 * x247)) y152).bind fun n298 =>
    some (.inl ((IntKind.i64.wrap (s2_1 - n298)), (IntKind.i64.wrap (s2_2 + 1)), x262, x281))
  else
    some (.inr (s2_1, s2_3, s2_4))
theorem impl_ShareOut_b2_ok (a1 : Int) (a2 : List Int) (y152 : Int) (i2_1 : Nat) (i2_2 : Nat) (ne175 : i2_1 ≠ i2_2) (s : impl_ShareOut_b2_S) (r : impl_ShareOut_b2_S ⊕ impl_ShareOut_b2_R) (h : impl_ShareOut_b2 a1 a2 y152 s = some r) (e : Env) (M : Mem) (hs : impl_ShareOut_b2_RS a1 a2 y152 i2_1 i2_2 s e M) : Ev (fun k => (f14_l15 (CN k) k (prune [0, 6, 9, 10, 11, 51, 52, 53] e) M).bind fun q => some q) (bQ (impl_ShareOut_b2_RS a1 a2 y152 i2_1 i2_2) (impl_ShareOut_b2_RR a1 a2 y152 i2_1 i2_2) r) := by
  obtain ⟨s2_1, s2_2, s2_3, s2_4⟩ := s
  unfold impl_ShareOut_b2 at h
  obtain ⟨h217, h219, h221, h223, h225, h227, h229, h231, o233, o234⟩ := hs
  generalize he216 : prune [0, 6, 9, 10, 11, 51, 52, 53] e = e215
  have h218 := envp he216.symm rfl h217
  have h220 := envp he216.symm rfl h219
  have h222 := envp he216.symm rfl h221
  have h224 := envp he216.symm rfl h223
  have h226 := envp he216.symm rfl h225
  have h228 := envp he216.symm rfl h227
  have h230 := envp he216.symm rfl h229
  have h232 := envp he216.symm rfl h231
  refine Ev.seq ?_
  refine Ev.reg (fun _ => rfl) ?_
  refine Ev.nxk (bLss h232 h230) ?_
  refine Ev.rend ?_
  intro e235 he236
  have h237 : eget e235 0 = .int .i64 a1 := envp he236 rfl h218
  have h238 : eget e235 6 = .int .i64 y152 := envp he236 rfl h220
  have h239 : eget e235 9 = .lsl i2_1 s2_3.length 0 s2_3.length := envp he236 rfl h222
  have h240 : eget e235 10 = .lsl i2_2 s2_4.length 0 s2_4.length := envp he236 rfl h224
  have h241 : eget e235 11 = .int .i64 s2_1 := envp he236 rfl h226
  have h242 : eget e235 51 = .sl none (a2.map (cI .i64)) := envp he236 rfl h228
  have h243 : eget e235 52 = .int .i64 (a2.length : Int) := envp he236 rfl h230
  have h244 : eget e235 53 = .int .i64 s2_2 := envp he236 rfl h232
  have h245 : eget e235 54 = .bool (decide (s2_2 < (a2.length : Int))) := envp he236 rfl rfl
  clear h218 h220 h222 h224 h226 h228 h230 h232
  refine Ev.kseqN ?_
  refine Ev.seq ?_
  rcases ite_some h with ⟨hb246, h⟩ | ⟨hb246, h⟩
  · refine Ev.condT h245 hb246 ?_
    refine Ev.ex ?_
    refine Ev.kseqN ?_
    refine Ev.seq ?_
    refine Ev.blk ?_
    refine Ev.seq ?_
    refine Ev.reg (fun _ => rfl) ?_
    obtain ⟨x247, hx248, h⟩ := bind_some h
    refine Ev.nxk (ixS h242 h244 hx248 (cI_fl _)) ?_
    refine Ev.nxk (ldP rfl rfl) ?_
    refine Ev.nxk (mvO rfl) ?_
    refine Ev.rend ?_
    intro e249 he250
    have h251 : eget e249 0 = .int .i64 a1 := envp he250 rfl h237
    have h252 : eget e249 6 = .int .i64 y152 := envp he250 rfl h238
    have h253 : eget e249 9 = .lsl i2_1 s2_3.length 0 s2_3.length := envp he250 rfl h239
    have h254 : eget e249 10 = .lsl i2_2 s2_4.length 0 s2_4.length := envp he250 rfl h240
    have h255 : eget e249 11 = .int .i64 s2_1 := envp he250 rfl h241
    have h256 : eget e249 13 = .int .i64 x247 := envp he250 rfl rfl
    have h257 : eget e249 51 = .sl none (a2.map (cI .i64)) := envp he250 rfl h242
    have h258 : eget e249 52 = .int .i64 (a2.length : Int) := envp he250 rfl h243
    have h259 : eget e249 53 = .int .i64 s2_2 := envp he250 rfl h244
    clear h237 h238 h239 h240 h241 h242 h243 h244 h245
    refine Ev.kseqN ?_
    refine Ev.seq ?_
    refine Ev.reg (fun _ => rfl) ?_
    refine Ev.nxk (mvO h253) ?_
    refine Ev.nxk (mvO h251) ?_
    refine Ev.nxk (mvO h256) ?_
    refine Ev.nxk (bMul rfl rfl) ?_
    refine Ev.nxk (mvO h252) ?_
    obtain ⟨n260, hx261, h⟩ := bind_some h
    refine Ev.nxk (bQuo rfl rfl hx261) ?_
    refine Ev.nxk (litI (cns rfl rfl) rfl ⟨rfl, by decide⟩) ?_
    obtain ⟨x262, hx263, h⟩ := bind_some h
    refine Ev.nxput (apO rfl o233 (elT (c := (cI .i64)) (xs := [n260]) rfl) hx263 (cI_fl _) (by decide)) ?_
    intro M264 hM265
    have o266 : M264[i2_1]? = some (.live ⟨.grow, 2, 1, x262.map (cI .i64)⟩) := set_same hM265 o233
    have o267 := set_ne hM265 (Ne.symm ne175) o234
    refine Ev.nxk (mvO rfl) ?_
    refine Ev.rend ?_
    intro e268 he269
    have h270 : eget e268 0 = .int .i64 a1 := envp he269 rfl h251
    have h271 : eget e268 6 = .int .i64 y152 := envp he269 rfl h252
    have h272 : eget e268 9 = .lsl i2_1 x262.length 0 x262.length := envp he269 rfl rfl
    have h273 : eget e268 10 = .lsl i2_2 s2_4.length 0 s2_4.length := envp he269 rfl h254
    have h274 : eget e268 11 = .int .i64 s2_1 := envp he269 rfl h255
    have h275 : eget e268 13 = .int .i64 x247 := envp he269 rfl h256
    have h276 : eget e268 51 = .sl none (a2.map (cI .i64)) := envp he269 rfl h257
    have h277 : eget e268 52 = .int .i64 (a2.length : Int) := envp he269 rfl h258
    have h278 : eget e268 53 = .int .i64 s2_2 := envp he269 rfl h259
    clear h251 h252 h254 h255 h256 h257 h258 h259
    refine Ev.kseqN ?_
    refine Ev.seq ?_
    refine Ev.reg (fun _ => rfl) ?_
    refine Ev.nxk (mvO h273) ?_
    refine Ev.nxk (mvO h270) ?_
    refine Ev.nxk (mvO h275) ?_
    refine Ev.nxk (bMul rfl rfl) ?_
    refine Ev.nxk (mvO h271) ?_
    obtain ⟨n279, hx280, h⟩ := bind_some h
    refine Ev.nxk (bRem rfl rfl hx280) ?_
    refine Ev.nxk (litI (cns rfl rfl) rfl ⟨rfl, by decide⟩) ?_
    obtain ⟨x281, hx282, h⟩ := bind_some h
    refine Ev.nxput (apO rfl o267 (elT (c := (cI .i64)) (xs := [n279]) rfl) hx282 (cI_fl _) (by decide)) ?_
    intro M283 hM284
    have o285 := set_ne hM284 ne175 o266
    have o286 : M283[i2_2]? = some (.live ⟨.grow, 2, 1, x281.map (cI .i64)⟩) := set_same hM284 o267
    refine Ev.nxk (mvO rfl) ?_
    refine Ev.rend ?_
    intro e287 he288
    have h289 : eget e287 0 = .int .i64 a1 := envp he288 rfl h270
    have h290 : eget e287 6 = .int .i64 y152 := envp he288 rfl h271
    have h291 : eget e287 9 = .lsl i2_1 x262.length 0 x262.length := envp he288 rfl h272
    have h292 : eget e287 10 = .lsl i2_2 x281.length 0 x281.length := envp he288 rfl rfl
    have h293 : eget e287 11 = .int .i64 s2_1 := envp he288 rfl h274
    have h294 : eget e287 13 = .int .i64 x247 := envp he288 rfl h275
    have h295 : eget e287 51 = .sl none (a2.map (cI .i64)) := envp he288 rfl h276
    have h296 : eget e287 52 = .int .i64 (a2.length : Int) := envp he288 rfl h277
    have h297 : eget e287 53 = .int .i64 s2_2 := envp he288 rfl h278
    clear h270 h271 h272 h274 h275 h276 h277 h278
    refine Ev.kseqN ?_
    refine Ev.reg (fun _ => rfl) ?_
    refine Ev.nxk (mvO h293) ?_
    refine Ev.nxk (mvO h289) ?_
    refine Ev.nxk (mvO h294) ?_
    refine Ev.nxk (bMul rfl rfl) ?_
    refine Ev.nxk (mvO h290) ?_
    obtain ⟨n298, hx299, h⟩ := bind_some h
    refine Ev.nxk (bQuo rfl rfl hx299) ?_
    refine Ev.nxk (bSub rfl rfl) ?_
    refine Ev.nxk (mvO rfl) ?_
    refine Ev.rend ?_
    intro e300 he301
    have h302 : eget e300 0 = .int .i64 a1 := envp he301 rfl h289
    have h303 : eget e300 6 = .int .i64 y152 := envp he301 rfl h290
    have h304 : eget e300 9 = .lsl i2_1 x262.length 0 x262.length := envp he301 rfl h291
    have h305 : eget e300 10 = .lsl i2_2 x281.length 0 x281.length := envp he301 rfl h292
    have h306 : eget e300 11 = .int .i64 (IntKind.i64.wrap (s2_1 - n298)) := envp he301 rfl rfl
    have h307 : eget e300 51 = .sl none (a2.map (cI .i64)) := envp he301 rfl h295
    have h308 : eget e300 52 = .int .i64 (a2.length : Int) := envp he301 rfl h296
    have h309 : eget e300 53 = .int .i64 s2_2 := envp he301 rfl h297
    clear h289 h290 h291 h292 h294 h295 h296 h297
    refine Ev.kblkN ?_
    refine Ev.kseqN ?_
    refine Ev.reg (fun _ => rfl) ?_
    refine Ev.nxk (bAdd h309 rfl) ?_
    refine Ev.nxk (mvO rfl) ?_
    refine Ev.rend ?_
    intro e310 he311
    have h312 : eget e310 0 = .int .i64 a1 := envp he311 rfl h302
    have h313 : eget e310 6 = .int .i64 y152 := envp he311 rfl h303
    have h314 : eget e310 9 = .lsl i2_1 x262.length 0 x262.length := envp he311 rfl h304
    have h315 : eget e310 10 = .lsl i2_2 x281.length 0 x281.length := envp he311 rfl h305
    have h316 : eget e310 11 = .int .i64 (IntKind.i64.wrap (s2_1 - n298)) := envp he311 rfl h306
    have h317 : eget e310 51 = .sl none (a2.map (cI .i64)) := envp he311 rfl h307
    have h318 : eget e310 52 = .int .i64 (a2.length : Int) := envp he311 rfl h308
    have h319 : eget e310 53 = .int .i64 (IntKind.i64.wrap (s2_2 + 1)) := envp he311 rfl rfl
    clear h302 h303 h304 h305 h306 h307 h308
    cases h
    exact Ev.kid (bQ_n (RS := (impl_ShareOut_b2_RS a1 a2 y152 i2_1 i2_2)) (RR := (impl_ShareOut_b2_RR a1 a2 y152 i2_1 i2_2)) (And.intro h312 (And.intro h313 (And.intro h314 (And.intro h315 (And.intro h316 (And.intro h317 (And.intro h318 (And.intro h319 (And.intro o285 o286))))))))))
  · refine Ev.condF h245 hb246 ?_
    refine Ev.ex ?_
    refine Ev.kseqE ?_
    cases h
    exact Ev.kid (bQ_x (RS := (impl_ShareOut_b2_RS a1 a2 y152 i2_1 i2_2)) (RR := (impl_ShareOut_b2_RR a1 a2 y152 i2_1 i2_2)) (by intro h; cases h) (And.intro rfl (And.intro h239 (And.intro h240 (And.intro h241 (And.intro o233 o234))))))
abbrev impl_ShareOut_b4_S := Int × Int
abbrev impl_ShareOut_b4_R := Int
def impl_ShareOut_b4_RS (y325 : Int) (s3_1 : Int) (s3_2 : List Int) (s3_3 : List Int) (i3_1 : Nat) (i3_2 : Nat) (s : impl_ShareOut_b4_S) (e : Env) (M : Mem) : Prop := eget e 9 = .lsl i3_1 s3_2.length 0 s3_2.length ∧ eget e 10 = .lsl i3_2 s3_3.length 0 s3_3.length ∧ eget e 14 = .int .i64 s.1 ∧ eget e 81 = .int .i64 y325 ∧ eget e 82 = .int .i64 s3_1 ∧ eget e 84 = .lsl i3_2 s3_3.length 0 s3_3.length ∧ eget e 85 = .int .i64 (s3_3.length : Int) ∧ eget e 86 = .int .i64 s.2 ∧ M[i3_1]? = some (.live ⟨.grow, 2, 1, s3_2.map (cI .i64)⟩) ∧ M[i3_2]? = some (.live ⟨.grow, 2, 1, s3_3.map (cI .i64)⟩)
def impl_ShareOut_b4_RR (y325 : Int) (s3_1 : Int) (s3_2 : List Int) (s3_3 : List Int) (i3_1 : Nat) (i3_2 : Nat) (g : impl_ShareOut_b4_R) (x : Ex) (e : Env) (M : Mem) : Prop := x = .ext 6 ∧ eget e 9 = .lsl i3_1 s3_2.length 0 s3_2.length ∧ eget e 10 = .lsl i3_2 s3_3.length 0 s3_3.length ∧ eget e 14 = .int .i64 g ∧ eget e 81 = .int .i64 y325 ∧ eget e 82 = .int .i64 s3_1 ∧ M[i3_1]? = some (.live ⟨.grow, 2, 1, s3_2.map (cI .i64)⟩) ∧ M[i3_2]? = some (.live ⟨.grow, 2, 1, s3_3.map (cI .i64)⟩)
noncomputable def impl_ShareOut_b4 (s3_3 : List Int) : impl_ShareOut_b4_S → Option (impl_ShareOut_b4_S ⊕ impl_ShareOut_b4_R) := fun (s4_1, s4_2) =>
  if (decide (s4_2 < (s3_3.length : Int))) = true then
    (rd s3_3 s4_2).bind fun x442 =>
    (rd s3_3 s4_1).bind fun x456 =>
    if (decide (x442 > x456)) = true then
      some (.inl (s4_2, (IntKind.i64.wrap (s4_2 + 1))))
    else
      some (.inl (s4_1, (IntKind.i64.wrap (s4_2 + 1))))
  else
    some (.inr s4_1)
theorem impl_ShareOut_b4_ok (y325 : Int) (s3_1 : Int) (s3_2 : List Int) (s3_3 : List Int) (i3_1 : Nat) (i3_2 : Nat) (ne175 : i3_1 ≠ i3_2) (s : impl_ShareOut_b4_S) (r : impl_ShareOut_b4_S ⊕ impl_ShareOut_b4_R) (h : impl_ShareOut_b4 s3_3 s = some r) (e : Env) (M : Mem) (hs : impl_ShareOut_b4_RS y325 s3_1 s3_2 s3_3 i3_1 i3_2 s e M) : Ev (fun k => (f14_l25 (CN k) k (prune [9, 10, 14, 81, 82, 84, 85, 86] e) M).bind fun q => some q) (bQ (impl_ShareOut_b4_RS y325 s3_1 s3_2 s3_3 i3_1 i3_2) (impl_ShareOut_b4_RR y325 s3_1 s3_2 s3_3 i3_1 i3_2) r) := by
  obtain ⟨s4_1, s4_2⟩ := s
  unfold impl_ShareOut_b4 at h
  obtain ⟨h412, h414, h416, h418, h420, h422, h424, h426, o428, o429⟩ := hs
  generalize he411 : prune [9, 10, 14, 81, 82, 84, 85, 86] e = e410
  have h413 := envp he411.symm rfl h412
  have h415 := envp he411.symm rfl h414
  have h417 := envp he411.symm rfl h416
  have h419 := envp he411.symm rfl h418
  have h421 := envp he411.symm rfl h420
  have h423 := envp he411.symm rfl h422
  have h425 := envp he411.symm rfl h424
  have h427 := envp he411.symm rfl h426
  refine Ev.seq ?_
  refine Ev.reg (fun _ => rfl) ?_
  refine Ev.nxk (bLss h427 h425) ?_
  refine Ev.rend ?_
  intro e430 he431
  have h432 : eget e430 9 = .lsl i3_1 s3_2.length 0 s3_2.length := envp he431 rfl h413
  have h433 : eget e430 10 = .lsl i3_2 s3_3.length 0 s3_3.length := envp he431 rfl h415
  have h434 : eget e430 14 = .int .i64 s4_1 := envp he431 rfl h417
  have h435 : eget e430 81 = .int .i64 y325 := envp he431 rfl h419
  have h436 : eget e430 82 = .int .i64 s3_1 := envp he431 rfl h421
  have h437 : eget e430 84 = .lsl i3_2 s3_3.length 0 s3_3.length := envp he431 rfl h423
  have h438 : eget e430 85 = .int .i64 (s3_3.length : Int) := envp he431 rfl h425
  have h439 : eget e430 86 = .int .i64 s4_2 := envp he431 rfl h427
  have h440 : eget e430 87 = .bool (decide (s4_2 < (s3_3.length : Int))) := envp he431 rfl rfl
  clear h413 h415 h417 h419 h421 h423 h425 h427
  refine Ev.kseqN ?_
  refine Ev.seq ?_
  rcases ite_some h with ⟨hb441, h⟩ | ⟨hb441, h⟩
  · refine Ev.condT h440 hb441 ?_
    refine Ev.ex ?_
    refine Ev.kseqN ?_
    refine Ev.seq ?_
    refine Ev.blk ?_
    refine Ev.seq ?_
    refine Ev.reg (fun _ => rfl) ?_
    refine Ev.nxk (mvO h439) ?_
    obtain ⟨x442, hx443, h⟩ := bind_some h
    refine Ev.nxk (ixO h437 o429 rfl h439 (rd_get hx443).1 (rd_lt hx443).2) ?_
    refine Ev.nxk (ldO rfl o429 (by simp) (by rw [Nat.zero_add]; exact mapg (rd_get hx443).2) rfl) ?_
    refine Ev.nxk (mvO rfl) ?_
    refine Ev.nxk (mvO rfl) ?_
    refine Ev.rend ?_
    intro e444 he445
    have h446 : eget e444 9 = .lsl i3_1 s3_2.length 0 s3_2.length := envp he445 rfl h432
    have h447 : eget e444 10 = .lsl i3_2 s3_3.length 0 s3_3.length := envp he445 rfl h433
    have h448 : eget e444 14 = .int .i64 s4_1 := envp he445 rfl h434
    have h449 : eget e444 15 = .int .i64 s4_2 := envp he445 rfl rfl
    have h450 : eget e444 16 = .int .i64 x442 := envp he445 rfl rfl
    have h451 : eget e444 81 = .int .i64 y325 := envp he445 rfl h435
    have h452 : eget e444 82 = .int .i64 s3_1 := envp he445 rfl h436
    have h453 : eget e444 84 = .lsl i3_2 s3_3.length 0 s3_3.length := envp he445 rfl h437
    have h454 : eget e444 85 = .int .i64 (s3_3.length : Int) := envp he445 rfl h438
    have h455 : eget e444 86 = .int .i64 s4_2 := envp he445 rfl h439
    clear h432 h433 h434 h435 h436 h437 h438 h439 h440
    refine Ev.kseqN ?_
    refine Ev.seq ?_
    refine Ev.reg (fun _ => rfl) ?_
    refine Ev.nxk (mvO h450) ?_
    refine Ev.nxk (mvO h447) ?_
    refine Ev.nxk (mvO h448) ?_
    obtain ⟨x456, hx457, h⟩ := bind_some h
    refine Ev.nxk (ixO rfl o429 rfl rfl (rd_get hx457).1 (rd_lt hx457).2) ?_
    refine Ev.nxk (ldO rfl o429 (by simp) (by rw [Nat.zero_add]; exact mapg (rd_get hx457).2) rfl) ?_
    refine Ev.nxk (bGtr rfl rfl) ?_
    refine Ev.rend ?_
    intro e458 he459
    have h460 : eget e458 9 = .lsl i3_1 s3_2.length 0 s3_2.length := envp he459 rfl h446
    have h461 : eget e458 10 = .lsl i3_2 s3_3.length 0 s3_3.length := envp he459 rfl h447
    have h462 : eget e458 14 = .int .i64 s4_1 := envp he459 rfl h448
    have h463 : eget e458 15 = .int .i64 s4_2 := envp he459 rfl h449
    have h464 : eget e458 81 = .int .i64 y325 := envp he459 rfl h451
    have h465 : eget e458 82 = .int .i64 s3_1 := envp he459 rfl h452
    have h466 : eget e458 84 = .lsl i3_2 s3_3.length 0 s3_3.length := envp he459 rfl h453
    have h467 : eget e458 85 = .int .i64 (s3_3.length : Int) := envp he459 rfl h454
    have h468 : eget e458 86 = .int .i64 s4_2 := envp he459 rfl h455
    have h469 : eget e458 96 = .bool (decide (x442 > x456)) := envp he459 rfl rfl
    clear h446 h447 h448 h449 h450 h451 h452 h453 h454 h455
    refine Ev.kseqN ?_
    rcases ite_some h with ⟨hb470, h⟩ | ⟨hb470, h⟩
    · refine Ev.condT h469 hb470 ?_
      refine Ev.reg (fun _ => rfl) ?_
      refine Ev.nxk (mvO h463) ?_
      refine Ev.nxk (mvO rfl) ?_
      refine Ev.rend ?_
      intro e471 he472
      have h473 : eget e471 9 = .lsl i3_1 s3_2.length 0 s3_2.length := envp he472 rfl h460
      have h474 : eget e471 10 = .lsl i3_2 s3_3.length 0 s3_3.length := envp he472 rfl h461
      have h475 : eget e471 14 = .int .i64 s4_2 := envp he472 rfl rfl
      have h476 : eget e471 81 = .int .i64 y325 := envp he472 rfl h464
      have h477 : eget e471 82 = .int .i64 s3_1 := envp he472 rfl h465
      have h478 : eget e471 84 = .lsl i3_2 s3_3.length 0 s3_3.length := envp he472 rfl h466
      have h479 : eget e471 85 = .int .i64 (s3_3.length : Int) := envp he472 rfl h467
      have h480 : eget e471 86 = .int .i64 s4_2 := envp he472 rfl h468
      clear h460 h461 h463 h464 h465 h466 h467 h468 h469
      refine Ev.kblkN ?_
      refine Ev.kseqN ?_
      refine Ev.reg (fun _ => rfl) ?_
      refine Ev.nxk (bAdd h480 rfl) ?_
      refine Ev.nxk (mvO rfl) ?_
      refine Ev.rend ?_
      intro e481 he482
      have h483 : eget e481 9 = .lsl i3_1 s3_2.length 0 s3_2.length := envp he482 rfl h473
      have h484 : eget e481 10 = .lsl i3_2 s3_3.length 0 s3_3.length := envp he482 rfl h474
      have h485 : eget e481 14 = .int .i64 s4_2 := envp he482 rfl h475
      have h486 : eget e481 81 = .int .i64 y325 := envp he482 rfl h476
      have h487 : eget e481 82 = .int .i64 s3_1 := envp he482 rfl h477
      have h488 : eget e481 84 = .lsl i3_2 s3_3.length 0 s3_3.length := envp he482 rfl h478
      have h489 : eget e481 85 = .int .i64 (s3_3.length : Int) := envp he482 rfl h479
      have h490 : eget e481 86 = .int .i64 (IntKind.i64.wrap (s4_2 + 1)) := envp he482 rfl rfl
      clear h473 h474 h475 h476 h477 h478 h479
      cases h
      exact Ev.kid (bQ_n (RS := (impl_ShareOut_b4_RS y325 s3_1 s3_2 s3_3 i3_1 i3_2)) (RR := (impl_ShareOut_b4_RR y325 s3_1 s3_2 s3_3 i3_1 i3_2)) (And.intro h483 (And.intro h484 (And.intro h485 (And.intro h486 (And.intro h487 (And.intro h488 (And.intro h489 (And.intro h490 (And.intro o428 o429))))))))))
    · refine Ev.condF h469 hb470 ?_
      refine Ev.ex ?_
      refine Ev.kblkN ?_
      refine Ev.kseqN ?_
      refine Ev.reg (fun _ => rfl) ?_
      refine Ev.nxk (bAdd h468 rfl) ?_
      refine Ev.nxk (mvO rfl) ?_
      refine Ev.rend ?_
      intro e491 he492
      have h493 : eget e491 9 = .lsl i3_1 s3_2.length 0 s3_2.length := envp he492 rfl h460
      have h494 : eget e491 10 = .lsl i3_2 s3_3.length 0 s3_3.length := envp he492 rfl h461
      have h495 : eget e491 14 = .int .i64 s4_1 := envp he492 rfl h462
      have h496 : eget e491 81 = .int .i64 y325 := envp he492 rfl h464
      have h497 : eget e491 82 = .int .i64 s3_1 := envp he492 rfl h465
      have h498 : eget e491 84 = .lsl i3_2 s3_3.length 0 s3_3.length := envp he492 rfl h466
      have h499 : eget e491 85 = .int .i64 (s3_3.length : Int) := envp he492 rfl h467
      have h500 : eget e491 86 = .int .i64 (IntKind.i64.wrap (s4_2 + 1)) := envp he492 rfl rfl
      clear h460 h461 h462 h463 h464 h465 h466 h467 h469
      cases h
      exact Ev.kid (bQ_n (RS := (impl_ShareOut_b4_RS y325 s3_1 s3_2 s3_3 i3_1 i3_2)) (RR := (impl_ShareOut_b4_RR y325 s3_1 s3_2 s3_3 i3_1 i3_2)) (And.intro h493 (And.intro h494 (And.intro h495 (And.intro h496 (And.intro h497 (And.intro h498 (And.intro h499 (And.intro h500 (And.intro o428 o429))))))))))
  · refine Ev.condF h440 hb441 ?_
    refine Ev.ex ?_
    refine Ev.kseqE ?_
    cases h
    exact Ev.kid (bQ_x (RS := (impl_ShareOut_b4_RS y325 s3_1 s3_2 s3_3 i3_1 i3_2)) (RR := (impl_ShareOut_b4_RR y325 s3_1 s3_2 s3_3 i3_1 i3_2)) (by intro h; cases h) (And.intro rfl (And.intro h432 (And.intro h433 (And.intro h434 (And.intro h435 (And.intro h436 (And.intro o428 o429))))))))
abbrev impl_ShareOut_b3_S := Int × (List Int) × (List Int)
abbrev impl_ShareOut_b3_R := (List Int) × (List Int)
def impl_ShareOut_b3_RS (y325 : Int) (y326 : List Int) (y327 : List Int) (i3_1 : Nat) (i3_2 : Nat) (s : impl_ShareOut_b3_S) (e : Env) (M : Mem) : Prop := eget e 9 = .lsl i3_1 s.2.1.length 0 s.2.1.length ∧ eget e 10 = .lsl i3_2 s.2.2.length 0 s.2.2.length ∧ eget e 81 = .int .i64 y325 ∧ eget e 82 = .int .i64 s.1 ∧ M[i3_1]? = some (.live ⟨.grow, 2, 1, s.2.1.map (cI .i64)⟩) ∧ M[i3_2]? = some (.live ⟨.grow, 2, 1, s.2.2.map (cI .i64)⟩) ∧ s.2.1.length = y326.length ∧ s.2.2.length = y327.length
def impl_ShareOut_b3_RR (y325 : Int) (y326 : List Int) (y327 : List Int) (i3_1 : Nat) (i3_2 : Nat) (g : impl_ShareOut_b3_R) (x : Ex) (e : Env) (M : Mem) : Prop := x = .ext 4 ∧ eget e 9 = .lsl i3_1 g.1.length 0 g.1.length ∧ M[i3_1]? = some (.live ⟨.grow, 2, 1, g.1.map (cI .i64)⟩) ∧ M[i3_2]? = some (.live ⟨.grow, 2, 1, g.2.map (cI .i64)⟩) ∧ g.1.length = y326.length ∧ g.2.length = y327.length
noncomputable def impl_ShareOut_b3 (y325 : Int) : impl_ShareOut_b3_S → Option (impl_ShareOut_b3_S ⊕ impl_ShareOut_b3_R) := fun (s3_1, s3_2, s3_3) =>
  if (decide (s3_1 < y325)) = true then
    (Lw (impl_ShareOut_b4 s3_3) (0, 0)).bind fun y506 =>
    (rd s3_2 y506).bind fun x514 =>
    (rd s3_2 y506).bind fun x516 =>
    (rd s3_3 y506).bind fun x529 =>
    some (.inl ((IntKind.i64.wrap (s3_1 + 1)), (s3_2.set y506.toNat (IntKind.i64.wrap (x514 + 1))), (s3_3.set y506.toNat (-1))))
  else
    some (.inr (s3_2, s3_3))
theorem impl_ShareOut_b3_ok (y325 : Int) (y326 : List Int) (y327 : List Int) (i3_1 : Nat) (i3_2 : Nat) (ne175 : i3_1 ≠ i3_2) (s : impl_ShareOut_b3_S) (r : impl_ShareOut_b3_S ⊕ impl_ShareOut_b3_R) (h : impl_ShareOut_b3 y325 s = some r) (e : Env) (M : Mem) (hs : impl_ShareOut_b3_RS y325 y326 y327 i3_1 i3_2 s e M) : Ev (fun k => (f14_l22 (CN k) k (prune [9, 10, 81, 82] e) M).bind fun q => some q) (bQ (impl_ShareOut_b3_RS y325 y326 y327 i3_1 i3_2) (impl_ShareOut_b3_RR y325 y326 y327 i3_1 i3_2) r) := by
  obtain ⟨s3_1, s3_2, s3_3⟩ := s
  unfold impl_ShareOut_b3 at h
  obtain ⟨h353, h355, h357, h359, o361, o362, hl363, hl364⟩ := hs
  generalize he352 : prune [9, 10, 81, 82] e = e351
  have h354 := envp he352.symm rfl h353
  have h356 := envp he352.symm rfl h355
  have h358 := envp he352.symm rfl h357
  have h360 := envp he352.symm rfl h359
  refine Ev.seq ?_
  refine Ev.reg (fun _ => rfl) ?_
  refine Ev.nxk (bLss h360 h358) ?_
  refine Ev.rend ?_
  intro e365 he366
  have h367 : eget e365 9 = .lsl i3_1 s3_2.length 0 s3_2.length := envp he366 rfl h354
  have h368 : eget e365 10 = .lsl i3_2 s3_3.length 0 s3_3.length := envp he366 rfl h356
  have h369 : eget e365 81 = .int .i64 y325 := envp he366 rfl h358
  have h370 : eget e365 82 = .int .i64 s3_1 := envp he366 rfl h360
  have h371 : eget e365 83 = .bool (decide (s3_1 < y325)) := envp he366 rfl rfl
  clear h354 h356 h358 h360
  refine Ev.kseqN ?_
  refine Ev.seq ?_
  rcases ite_some h with ⟨hb372, h⟩ | ⟨hb372, h⟩
  · refine Ev.condT h371 hb372 ?_
    refine Ev.ex ?_
    refine Ev.kseqN ?_
    refine Ev.seq ?_
    refine Ev.blk ?_
    refine Ev.seq ?_
    refine Ev.reg (fun _ => rfl) ?_
    refine Ev.nxk (mvO rfl) ?_
    refine Ev.rend ?_
    intro e373 he374
    have h375 : eget e373 9 = .lsl i3_1 s3_2.length 0 s3_2.length := envp he374 rfl h367
    have h376 : eget e373 10 = .lsl i3_2 s3_3.length 0 s3_3.length := envp he374 rfl h368
    have h377 : eget e373 14 = .int .i64 0 := envp he374 rfl rfl
    have h378 : eget e373 81 = .int .i64 y325 := envp he374 rfl h369
    have h379 : eget e373 82 = .int .i64 s3_1 := envp he374 rfl h370
    clear h367 h368 h369 h370 h371
    refine Ev.kseqN ?_
    refine Ev.seq ?_
    refine Ev.seq ?_
    refine Ev.reg (fun _ => rfl) ?_
    refine Ev.nxk (mvO h376) ?_
    refine Ev.nxk (lnL Try.underlying29 rfl o362 (by simp [hl363, hl364])) ?_
    refine Ev.nxk (mvO rfl) ?_
    refine Ev.rend ?_
    intro e380 he381
    have h382 : eget e380 9 = .lsl i3_1 s3_2.length 0 s3_2.length := envp he381 rfl h375
    have h383 : eget e380 10 = .lsl i3_2 s3_3.length 0 s3_3.length := envp he381 rfl h376
    have h384 : eget e380 14 = .int .i64 0 := envp he381 rfl h377
    have h385 : eget e380 81 = .int .i64 y325 := envp he381 rfl h378
    have h386 : eget e380 82 = .int .i64 s3_1 := envp he381 rfl h379
    have h387 : eget e380 84 = .lsl i3_2 s3_3.length 0 s3_3.length := envp he381 rfl rfl
    have h388 : eget e380 85 = .int .i64 (s3_3.length : Int) := envp he381 rfl rfl
    have h389 : eget e380 86 = .int .i64 0 := envp he381 rfl rfl
    clear h375 h376 h377 h378 h379
    refine Ev.kseqN ?_
    refine Ev.blk ?_
    obtain ⟨y506, hr502, h⟩ := bind_some h
    refine Ev.loop (RS := impl_ShareOut_b4_RS y325 s3_1 s3_2 s3_3 i3_1 i3_2) (RR := impl_ShareOut_b4_RR y325 s3_1 s3_2 s3_3 i3_1 i3_2) (fun s r h e M hs => impl_ShareOut_b4_ok y325 s3_1 s3_2 s3_3 i3_1 i3_2 ne175 s r h e M hs) hr502 (And.intro h382 (And.intro h383 (And.intro h384 (And.intro h385 (And.intro h386 (And.intro h387 (And.intro h388 (And.intro h389 (And.intro o361 o362))))))))) ?_
    intro x e504 M505 hq503
    obtain ⟨rfl, h507, h508, h509, h510, h511, o512, o513⟩ := hq503
    refine Ev.kblkE ?_
    refine Ev.kseqN ?_
    refine Ev.seq ?_
    refine Ev.reg (fun _ => rfl) ?_
    refine Ev.nxk (mvO h507) ?_
    refine Ev.nxk (mvO h509) ?_
    obtain ⟨x514, hx515, h⟩ := bind_some h
    refine Ev.nxk (ixO rfl o512 rfl rfl (rd_get hx515).1 (rd_lt hx515).2) ?_
    refine Ev.nxk (ldO rfl o512 (by simp [hl363, hl364]) (by rw [Nat.zero_add]; exact mapg (rd_get hx515).2) rfl) ?_
    refine Ev.nxk (bAdd rfl rfl) ?_
    obtain ⟨x516, hx517, h⟩ := bind_some h
    refine Ev.nxk (ixO rfl o512 rfl rfl (rd_get hx517).1 (rd_lt hx517).2) ?_
    refine Ev.nxput (stR (u' := (IntKind.i64.wrap (x514 + 1))) rfl rfl o512 rfl (by rw [Nat.zero_add]; exact (rd_get hx517).2) ⟨rfl, ble rfl⟩ rfl rfl) ?_
    intro M518 hM519
    rw [Nat.zero_add] at hM519
    have o520 : M518[i3_1]? = some (.live ⟨.grow, 2, 1, (s3_2.set y506.toNat (IntKind.i64.wrap (x514 + 1))).map (cI .i64)⟩) := set_same hM519 o512
    have o521 := set_ne hM519 (Ne.symm ne175) o513
    refine Ev.rend ?_
    intro e522 he523
    have h524 : eget e522 9 = .lsl i3_1 s3_2.length 0 s3_2.length := envp he523 rfl h507
    have h525 : eget e522 10 = .lsl i3_2 s3_3.length 0 s3_3.length := envp he523 rfl h508
    have h526 : eget e522 14 = .int .i64 y506 := envp he523 rfl h509
    have h527 : eget e522 81 = .int .i64 y325 := envp he523 rfl h510
    have h528 : eget e522 82 = .int .i64 s3_1 := envp he523 rfl h511
    clear h507 h508 h509 h510 h511
    refine Ev.kseqN ?_
    refine Ev.reg (fun _ => rfl) ?_
    refine Ev.nxk (mvO h525) ?_
    refine Ev.nxk (mvO h526) ?_
    obtain ⟨x529, hx530, h⟩ := bind_some h
    refine Ev.nxk (ixO rfl o521 rfl rfl (rd_get hx530).1 (rd_lt hx530).2) ?_
    refine Ev.nxput (stR (u' := (-1)) rfl rfl o521 rfl (by rw [Nat.zero_add]; exact (rd_get hx530).2) ⟨rfl, ble rfl⟩ rfl rfl) ?_
    intro M531 hM532
    rw [Nat.zero_add] at hM532
    have o533 := set_ne hM532 ne175 o520
    have o534 : M531[i3_2]? = some (.live ⟨.grow, 2, 1, (s3_3.set y506.toNat (-1)).map (cI .i64)⟩) := set_same hM532 o521
    refine Ev.rend ?_
    intro e535 he536
    have h537 : eget e535 9 = .lsl i3_1 s3_2.length 0 s3_2.length := envp he536 rfl h524
    have h538 : eget e535 10 = .lsl i3_2 s3_3.length 0 s3_3.length := envp he536 rfl h525
    have h539 : eget e535 81 = .int .i64 y325 := envp he536 rfl h527
    have h540 : eget e535 82 = .int .i64 s3_1 := envp he536 rfl h528
    clear h524 h525 h526 h527 h528
    refine Ev.kblkN ?_
    refine Ev.kseqN ?_
    refine Ev.reg (fun _ => rfl) ?_
    refine Ev.nxk (bAdd h540 rfl) ?_
    refine Ev.nxk (mvO rfl) ?_
    refine Ev.rend ?_
    intro e541 he542
    have h543 : eget e541 9 = .lsl i3_1 s3_2.length 0 s3_2.length := envp he542 rfl h537
    have h544 : eget e541 10 = .lsl i3_2 s3_3.length 0 s3_3.length := envp he542 rfl h538
    have h545 : eget e541 81 = .int .i64 y325 := envp he542 rfl h539
    have h546 : eget e541 82 = .int .i64 (IntKind.i64.wrap (s3_1 + 1)) := envp he542 rfl rfl
    clear h537 h538 h539
    cases h
    exact Ev.kid (bQ_n (RS := (impl_ShareOut_b3_RS y325 y326 y327 i3_1 i3_2)) (RR := (impl_ShareOut_b3_RR y325 y326 y327 i3_1 i3_2)) (And.intro (lslL (L' := (s3_2.set y506.toNat (IntKind.i64.wrap (x514 + 1))).length) h543 (by simp [hl363, hl364])) (And.intro (lslL (L' := (s3_3.set y506.toNat (-1)).length) h544 (by simp [hl363, hl364])) (And.intro h545 (And.intro h546 (And.intro o533 (And.intro o534 (And.intro (by first | rfl | simp [hl363, hl364]) (by first | rfl | simp [hl363, hl364])))))))))
  · refine Ev.condF h371 hb372 ?_
    refine Ev.ex ?_
    refine Ev.kseqE ?_
    cases h
    exact Ev.kid (bQ_x (RS := (impl_ShareOut_b3_RS y325 y326 y327 i3_1 i3_2)) (RR := (impl_ShareOut_b3_RR y325 y326 y327 i3_1 i3_2)) (by intro h; cases h) (And.intro rfl (And.intro h367 (And.intro o361 (And.intro o362 (And.intro (by first | rfl | simp [hl363, hl364]) (by first | rfl | simp [hl363, hl364])))))))
noncomputable def impl_ShareOut (a1 : Int) (a2 : List Int) : Option (Unit ⊕ ((List Int))) :=
  ((impl_isAmount a1).bind fun r6 =>
  if r6 = true then
    if (decide ((a2.length : Int) < 1)) = true then
      some true
    else
      some (decide ((a2.length : Int) > 20))
  else
    some true).bind fun y26 =>
  if y26 = true then
    some (.inl ())
  else
    (Lw (impl_ShareOut_b1 a2) (0, 0)).bind fun r => match r with
    | (.inl _) =>
      some (.inl ())
    | (.inr y152) =>
      if (y152 == 0) = true then
        some (.inl ())
      else
        (Lw (impl_ShareOut_b2 a1 a2 y152) (a1, 0, ([] : List Int), ([] : List Int))).bind fun (y325, y326, y327) =>
        (Lw (impl_ShareOut_b3 y325) (0, y326, y327)).bind fun (y552, y553) =>
        some (.inr y552)
def impl_ShareOut_enc (r : Unit ⊕ ((List Int))) : AV :=
  match r with
  | (.inl g) => .tup [.nils, .int .i64 2]
  | (.inr g) => .tup [.sl (some 2) (g.map (cI .i64)), .int .i64 0]
theorem impl_ShareOut_ok (a1 : Int) (a2 : List Int) (r : Unit ⊕ ((List Int))) (h : impl_ShareOut a1 a2 = some r) : Ev (fun k => CN k 14 [.int .i64 a1, .sl none (a2.map (cI .i64))] []) (fun p => rRes p.2 p.1 = impl_ShareOut_enc r) := by
  unfold impl_ShareOut at h
  refine Ev.enter (F := fun k => f14 (CN k) k) (fun k => callN_eq rfl Try.func14 rfl rfl rfl (by decide +kernel) (f14_eq _ _)) ?_
  refine Ev.seq ?_
  refine Ev.reg (fun _ => rfl) ?_
  refine Ev.nxk (mvO rfl) ?_
  refine Ev.nxk (mvO rfl) ?_
  refine Ev.rend ?_
  intro e1 he2
  have h3 : eget e1 0 = .int .i64 a1 := envp he2 rfl rfl
  have h4 : eget e1 1 = .sl none (a2.map (cI .i64)) := envp he2 rfl rfl
  refine Ev.kseqN ?_
  refine Ev.seq ?_
  refine Ev.seq ?_
  obtain ⟨r564, hr565, h⟩ := bind_some h
  refine Ev.cut (Q1 := impl_ShareOut_c1_Q a1 a2 r564) (by
      have h := hr565
      refine Ev.reg (fun _ => rfl) ?_
      refine Ev.nxk (mvO h3) ?_
      obtain ⟨r6, hx5, h⟩ := bind_some h
      refine Ev.nxck (Ev.call (v := .bool r6) rfl (cns rfl rfl) rfl (impl_isAmount_ok a1 _ hx5) (fun h => nomatch (show false = true from h))) ?_
      refine Ev.nxk (uNot rfl) ?_
      refine Ev.nxk (mvO rfl) ?_
      rcases ite_some h with ⟨hb7, h⟩ | ⟨hb7, h⟩
      · refine Ev.nxk (guF rfl (congrArg Bool.not hb7) (mvO h4)) ?_
        refine Ev.nxk (guF rfl (congrArg Bool.not hb7) (lnS Try.underlying29 rfl)) ?_
        refine Ev.nxk (guF rfl (congrArg Bool.not hb7) (bLss rfl rfl)) ?_
        refine Ev.nxk (pkF rfl (congrArg Bool.not hb7) rfl) ?_
        refine Ev.nxk (mvO rfl) ?_
        rcases ite_some h with ⟨hb8, h⟩ | ⟨hb8, h⟩
        · refine Ev.nxk (gsF rfl hb8) ?_
          refine Ev.nxk (gsF rfl hb8) ?_
          refine Ev.nxk (gsF rfl hb8) ?_
          refine Ev.nxk (pkT rfl hb8 rfl) ?_
          refine Ev.rend ?_
          intro e9 he10
          have h11 : eget e9 0 = .int .i64 a1 := envp he10 rfl h3
          have h12 : eget e9 1 = .sl none (a2.map (cI .i64)) := envp he10 rfl h4
          have h13 : eget e9 29 = .bool true := envp he10 rfl rfl
          clear h3 h4
          cases h
          exact Ev.kid (show impl_ShareOut_c1_Q a1 a2 _ _ from (And.intro rfl (And.intro h11 (And.intro h12 h13))))
        · refine Ev.nxk (guF rfl hb8 (mvO h4)) ?_
          refine Ev.nxk (guF rfl hb8 (lnS Try.underlying29 rfl)) ?_
          refine Ev.nxk (guF rfl hb8 (bGtr rfl rfl)) ?_
          refine Ev.nxk (pkF rfl hb8 rfl) ?_
          refine Ev.rend ?_
          intro e14 he15
          have h16 : eget e14 0 = .int .i64 a1 := envp he15 rfl h3
          have h17 : eget e14 1 = .sl none (a2.map (cI .i64)) := envp he15 rfl h4
          have h18 : eget e14 29 = .bool (decide ((a2.length : Int) > 20)) := envp he15 rfl rfl
          clear h3 h4
          cases h
          exact Ev.kid (show impl_ShareOut_c1_Q a1 a2 _ _ from (And.intro rfl (And.intro h16 (And.intro h17 h18))))
      · refine Ev.nxk (gsF rfl (congrArg Bool.not hb7)) ?_
        refine Ev.nxk (gsF rfl (congrArg Bool.not hb7)) ?_
        refine Ev.nxk (gsF rfl (congrArg Bool.not hb7)) ?_
        refine Ev.nxk (pkT rfl (congrArg Bool.not hb7) rfl) ?_
        refine Ev.nxk (mvO rfl) ?_
        refine Ev.nxk (gsF rfl rfl) ?_
        refine Ev.nxk (gsF rfl rfl) ?_
        refine Ev.nxk (gsF rfl rfl) ?_
        refine Ev.nxk (pkT rfl rfl rfl) ?_
        refine Ev.rend ?_
        intro e19 he20
        have h21 : eget e19 0 = .int .i64 a1 := envp he20 rfl h3
        have h22 : eget e19 1 = .sl none (a2.map (cI .i64)) := envp he20 rfl h4
        have h23 : eget e19 29 = .bool true := envp he20 rfl rfl
        clear h3 h4
        cases h
        exact Ev.kid (show impl_ShareOut_c1_Q a1 a2 _ _ from (And.intro rfl (And.intro h21 (And.intro h22 h23))))) ?_
  revert h hr565
  revert r564
  intro y26 hr565 h
  intro x e24 M25 hq563
  obtain ⟨rfl, h27, h28, h29⟩ := hq563
  refine Ev.kseqN ?_
  rcases ite_some h with ⟨hb30, h⟩ | ⟨hb30, h⟩
  · refine Ev.condT h29 hb30 ?_
    refine Ev.seq ?_
    refine Ev.reg (fun _ => rfl) ?_
    refine Ev.nxk (mvO rfl) ?_
    refine Ev.nxk (mvO rfl) ?_
    refine Ev.rend ?_
    intro e31 he32
    have h33 : eget e31 4 = .nils := envp he32 rfl rfl
    have h34 : eget e31 5 = .int .i64 2 := envp he32 rfl rfl
    clear h27 h28 h29
    refine Ev.kseqN ?_
    refine Ev.ex ?_
    refine Ev.kseqR ?_
    cases h
    exact Ev.kendR (resT h33 (resT h34 res0)) rfl
  · refine Ev.condF h29 hb30 ?_
    refine Ev.ex ?_
    refine Ev.kseqN ?_
    refine Ev.seq ?_
    refine Ev.reg (fun _ => rfl) ?_
    refine Ev.nxk (mvO rfl) ?_
    refine Ev.rend ?_
    intro e35 he36
    have h37 : eget e35 0 = .int .i64 a1 := envp he36 rfl h27
    have h38 : eget e35 1 = .sl none (a2.map (cI .i64)) := envp he36 rfl h28
    have h39 : eget e35 6 = .int .i64 0 := envp he36 rfl rfl
    clear h27 h28 h29
    refine Ev.kseqN ?_
    refine Ev.seq ?_
    refine Ev.seq ?_
    refine Ev.reg (fun _ => rfl) ?_
    refine Ev.nxk (mvO h38) ?_
    refine Ev.nxk (lnS Try.underlying29 rfl) ?_
    refine Ev.nxk (mvO rfl) ?_
    refine Ev.rend ?_
    intro e40 he41
    have h42 : eget e40 0 = .int .i64 a1 := envp he41 rfl h37
    have h43 : eget e40 1 = .sl none (a2.map (cI .i64)) := envp he41 rfl h38
    have h44 : eget e40 6 = .int .i64 0 := envp he41 rfl h39
    have h45 : eget e40 30 = .sl none (a2.map (cI .i64)) := envp he41 rfl rfl
    have h46 : eget e40 31 = .int .i64 (a2.length : Int) := envp he41 rfl rfl
    have h47 : eget e40 32 = .int .i64 0 := envp he41 rfl rfl
    clear h37 h38 h39
    refine Ev.kseqN ?_
    refine Ev.blk ?_
    obtain ⟨r143, hr144, h⟩ := bind_some h
    rcases r143 with _ | y152
    · refine Ev.loop (RS := impl_ShareOut_b1_RS a1 a2) (RR := impl_ShareOut_b1_RR a1 a2) (fun s r h e M hs => impl_ShareOut_b1_ok a1 a2 s r h e M hs) hr144 (And.intro h42 (And.intro h43 (And.intro h44 (And.intro h45 (And.intro h46 h47))))) ?_
      intro x e146 M147 hq145
      obtain ⟨rfl, h148, h149⟩ := hq145
      refine Ev.kblkR ?_
      refine Ev.kseqR ?_
      cases h
      exact Ev.kendR (resT h148 (resT h149 res0)) rfl
    · refine Ev.loop (RS := impl_ShareOut_b1_RS a1 a2) (RR := impl_ShareOut_b1_RR a1 a2) (fun s r h e M hs => impl_ShareOut_b1_ok a1 a2 s r h e M hs) hr144 (And.intro h42 (And.intro h43 (And.intro h44 (And.intro h45 (And.intro h46 h47))))) ?_
      intro x e150 M151 hq145
      obtain ⟨rfl, h153, h154, h155⟩ := hq145
      refine Ev.kblkE ?_
      refine Ev.kseqN ?_
      refine Ev.seq ?_
      refine Ev.seq ?_
      refine Ev.reg (fun _ => rfl) ?_
      refine Ev.nxk (mvO h155) ?_
      refine Ev.nxk (bEql rfl rfl) ?_
      refine Ev.rend ?_
      intro e156 he157
      have h158 : eget e156 0 = .int .i64 a1 := envp he157 rfl h153
      have h159 : eget e156 1 = .sl none (a2.map (cI .i64)) := envp he157 rfl h154
      have h160 : eget e156 6 = .int .i64 y152 := envp he157 rfl h155
      have h161 : eget e156 47 = .bool (y152 == 0) := envp he157 rfl rfl
      clear h153 h154 h155
      refine Ev.kseqN ?_
      rcases ite_some h with ⟨hb162, h⟩ | ⟨hb162, h⟩
      · refine Ev.condT h161 hb162 ?_
        refine Ev.seq ?_
        refine Ev.reg (fun _ => rfl) ?_
        refine Ev.nxk (mvO rfl) ?_
        refine Ev.nxk (mvO rfl) ?_
        refine Ev.rend ?_
        intro e163 he164
        have h165 : eget e163 4 = .nils := envp he164 rfl rfl
        have h166 : eget e163 5 = .int .i64 2 := envp he164 rfl rfl
        clear h158 h159 h160 h161
        refine Ev.kseqN ?_
        refine Ev.ex ?_
        refine Ev.kseqR ?_
        cases h
        exact Ev.kendR (resT h165 (resT h166 res0)) rfl
      · refine Ev.condF h161 hb162 ?_
        refine Ev.ex ?_
        refine Ev.kseqN ?_
        refine Ev.seq ?_
        refine Ev.reg (fun _ => rfl) ?_
        refine Ev.nxpush (litO (xs := ([] : List Int)) (c := (cI .i64)) rfl rfl (by decide)) ?_
        intro M168 hM169
        have o170 : M168[M151.length]? = some (.live ⟨.grow, 2, 1, ([] : List Int).map (cI .i64)⟩) := push_new hM169
        refine Ev.nxpush (litO (xs := ([] : List Int)) (c := (cI .i64)) rfl rfl (by decide)) ?_
        intro M172 hM173
        have o174 := push_old hM173 o170
        have ne175 := ne_new o170
        have o176 : M172[M168.length]? = some (.live ⟨.grow, 2, 1, ([] : List Int).map (cI .i64)⟩) := push_new hM173
        refine Ev.nxk (mvO h158) ?_
        refine Ev.nxk (mvO rfl) ?_
        refine Ev.nxk (mvO rfl) ?_
        refine Ev.nxk (mvO rfl) ?_
        refine Ev.rend ?_
        intro e177 he178
        have h179 : eget e177 0 = .int .i64 a1 := envp he178 rfl h158
        have h180 : eget e177 1 = .sl none (a2.map (cI .i64)) := envp he178 rfl h159
        have h181 : eget e177 6 = .int .i64 y152 := envp he178 rfl h160
        have h182 : eget e177 9 = .lsl M151.length ([] : List Int).length 0 ([] : List Int).length := envp he178 rfl rfl
        have h183 : eget e177 10 = .lsl M168.length ([] : List Int).length 0 ([] : List Int).length := envp he178 rfl rfl
        have h184 : eget e177 11 = .int .i64 a1 := envp he178 rfl rfl
        clear h158 h159 h160 h161
        refine Ev.kseqN ?_
        refine Ev.seq ?_
        refine Ev.seq ?_
        refine Ev.reg (fun _ => rfl) ?_
        refine Ev.nxk (mvO h180) ?_
        refine Ev.nxk (lnS Try.underlying29 rfl) ?_
        refine Ev.nxk (mvO rfl) ?_
        refine Ev.rend ?_
        intro e185 he186
        have h187 : eget e185 0 = .int .i64 a1 := envp he186 rfl h179
        have h188 : eget e185 6 = .int .i64 y152 := envp he186 rfl h181
        have h189 : eget e185 9 = .lsl M151.length ([] : List Int).length 0 ([] : List Int).length := envp he186 rfl h182
        have h190 : eget e185 10 = .lsl M168.length ([] : List Int).length 0 ([] : List Int).length := envp he186 rfl h183
        have h191 : eget e185 11 = .int .i64 a1 := envp he186 rfl h184
        have h192 : eget e185 51 = .sl none (a2.map (cI .i64)) := envp he186 rfl rfl
        have h193 : eget e185 52 = .int .i64 (a2.length : Int) := envp he186 rfl rfl
        have h194 : eget e185 53 = .int .i64 0 := envp he186 rfl rfl
        clear h179 h180 h181 h182 h183 h184
        refine Ev.kseqN ?_
        refine Ev.blk ?_
        obtain ⟨⟨y325, y326, y327⟩, hr321, h⟩ := bind_some h
        refine Ev.loop (RS := impl_ShareOut_b2_RS a1 a2 y152 M151.length M168.length) (RR := impl_ShareOut_b2_RR a1 a2 y152 M151.length M168.length) (fun s r h e M hs => impl_ShareOut_b2_ok a1 a2 y152 M151.length M168.length ne175 s r h e M hs) hr321 (And.intro h187 (And.intro h188 (And.intro h189 (And.intro h190 (And.intro h191 (And.intro h192 (And.intro h193 (And.intro h194 (And.intro o174 o176))))))))) ?_
        intro x e323 M324 hq322
        obtain ⟨rfl, h328, h329, h330, o331, o332⟩ := hq322
        refine Ev.kblkE ?_
        refine Ev.kseqN ?_
        refine Ev.seq ?_
        refine Ev.seq ?_
        refine Ev.reg (fun _ => rfl) ?_
        refine Ev.nxk (mvO h330) ?_
        refine Ev.nxk (mvO rfl) ?_
        refine Ev.rend ?_
        intro e333 he334
        have h335 : eget e333 9 = .lsl M151.length y326.length 0 y326.length := envp he334 rfl h328
        have h336 : eget e333 10 = .lsl M168.length y327.length 0 y327.length := envp he334 rfl h329
        have h337 : eget e333 81 = .int .i64 y325 := envp he334 rfl rfl
        have h338 : eget e333 82 = .int .i64 0 := envp he334 rfl rfl
        clear h328 h329 h330
        refine Ev.kseqN ?_
        refine Ev.blk ?_
        obtain ⟨⟨y552, y553⟩, hr548, h⟩ := bind_some h
        refine Ev.loop (RS := impl_ShareOut_b3_RS y325 y326 y327 M151.length M168.length) (RR := impl_ShareOut_b3_RR y325 y326 y327 M151.length M168.length) (fun s r h e M hs => impl_ShareOut_b3_ok y325 y326 y327 M151.length M168.length ne175 s r h e M hs) hr548 (And.intro h335 (And.intro h336 (And.intro h337 (And.intro h338 (And.intro o331 (And.intro o332 (And.intro rfl rfl))))))) ?_
        intro x e550 M551 hq549
        obtain ⟨rfl, h554, o555, o556, hl557, hl558⟩ := hq549
        refine Ev.kblkE ?_
        refine Ev.kseqN ?_
        refine Ev.seq ?_
        refine Ev.reg (fun _ => rfl) ?_
        refine Ev.nxk (mvO h554) ?_
        refine Ev.nxk (mvO rfl) ?_
        refine Ev.nxk (mvO rfl) ?_
        refine Ev.rend ?_
        intro e559 he560
        have h561 : eget e559 4 = .lsl M151.length y552.length 0 y552.length := envp he560 rfl rfl
        have h562 : eget e559 5 = .int .i64 0 := envp he560 rfl rfl
        clear h554
        refine Ev.kseqN ?_
        refine Ev.ex ?_
        cases h
        exact Ev.kendR (resT h561 (resT h562 res0)) (rr_tup (mp1 (rr_row o555 (cI_fl _)) (mp1 rfl mp0)))
/-! ### loop.example/g01263/laws.toInt64S (f13) -/
abbrev laws_toInt64S_b1_S := Int × (List Int)
abbrev laws_toInt64S_b1_R := (List Int)
def laws_toInt64S_b1_RS (a1 : List Int) (x4 : List Int) (i1_1 : Nat) (s : laws_toInt64S_b1_S) (e : Env) (M : Mem) : Prop := eget e 0 = .sl none (a1.map (cI .i64)) ∧ eget e 3 = .lsl i1_1 s.2.length 0 s.2.length ∧ eget e 4 = .int .i64 s.1 ∧ M[i1_1]? = some (.live ⟨.grow, 2, 1, s.2.map (cI .i64)⟩) ∧ s.2.length = x4.length
def laws_toInt64S_b1_RR (a1 : List Int) (x4 : List Int) (i1_1 : Nat) (g : laws_toInt64S_b1_R) (x : Ex) (e : Env) (M : Mem) : Prop := x = .ext 0 ∧ eget e 3 = .lsl i1_1 g.length 0 g.length ∧ M[i1_1]? = some (.live ⟨.grow, 2, 1, g.map (cI .i64)⟩) ∧ g.length = x4.length
noncomputable def laws_toInt64S_b1 (a1 : List Int) : laws_toInt64S_b1_S → Option (laws_toInt64S_b1_S ⊕ laws_toInt64S_b1_R) := fun (s1_1, s1_2) =>
  if (decide (s1_1 < (a1.length : Int))) = true then
    (rd a1 s1_1).bind fun x45 =>
    (rd s1_2 s1_1).bind fun x47 =>
    some (.inl ((IntKind.i64.wrap (s1_1 + 1)), (s1_2.set s1_1.toNat x45)))
  else
    some (.inr s1_2)
theorem laws_toInt64S_b1_ok (a1 : List Int) (x4 : List Int) (i1_1 : Nat) (s : laws_toInt64S_b1_S) (r : laws_toInt64S_b1_S ⊕ laws_toInt64S_b1_R) (h : laws_toInt64S_b1 a1 s = some r) (e : Env) (M : Mem) (hs : laws_toInt64S_b1_RS a1 x4 i1_1 s e M) : Ev (fun k => (f13_l3 (CN k) k (prune [0, 3, 4] e) M).bind fun q => some q) (bQ (laws_toInt64S_b1_RS a1 x4 i1_1) (laws_toInt64S_b1_RR a1 x4 i1_1) r) := by
  obtain ⟨s1_1, s1_2⟩ := s
  unfold laws_toInt64S_b1 at h
  obtain ⟨h30, h32, h34, o36, hl37⟩ := hs
  generalize he29 : prune [0, 3, 4] e = e28
  have h31 := envp he29.symm rfl h30
  have h33 := envp he29.symm rfl h32
  have h35 := envp he29.symm rfl h34
  refine Ev.seq ?_
  refine Ev.seq ?_
  refine Ev.reg (fun _ => rfl) ?_
  refine Ev.nxk (mvO h35) ?_
  refine Ev.nxk (mvO h31) ?_
  refine Ev.nxk (lnS Try.underlying29 rfl) ?_
  refine Ev.nxk (bLss rfl rfl) ?_
  refine Ev.rend ?_
  intro e38 he39
  have h40 : eget e38 0 = .sl none (a1.map (cI .i64)) := envp he39 rfl h31
  have h41 : eget e38 3 = .lsl i1_1 s1_2.length 0 s1_2.length := envp he39 rfl h33
  have h42 : eget e38 4 = .int .i64 s1_1 := envp he39 rfl h35
  have h43 : eget e38 11 = .bool (decide (s1_1 < (a1.length : Int))) := envp he39 rfl rfl
  clear h31 h33 h35
  refine Ev.kseqN ?_
  rcases ite_some h with ⟨hb44, h⟩ | ⟨hb44, h⟩
  · refine Ev.condT h43 hb44 ?_
    refine Ev.ex ?_
    refine Ev.kseqN ?_
    refine Ev.seq ?_
    refine Ev.blk ?_
    refine Ev.reg (fun _ => rfl) ?_
    refine Ev.nxk (mvO h41) ?_
    refine Ev.nxk (mvO h42) ?_
    refine Ev.nxk (mvO h40) ?_
    refine Ev.nxk (mvO h42) ?_
    obtain ⟨x45, hx46, h⟩ := bind_some h
    refine Ev.nxk (ixS rfl rfl hx46 (cI_fl _)) ?_
    refine Ev.nxk (ldP rfl rfl) ?_
    obtain ⟨x47, hx48, h⟩ := bind_some h
    refine Ev.nxk (ixO rfl o36 rfl rfl (rd_get hx48).1 (rd_lt hx48).2) ?_
    refine Ev.nxput (stR (u' := x45) rfl rfl o36 rfl (by rw [Nat.zero_add]; exact (rd_get hx48).2) ⟨rfl, ble rfl⟩ rfl rfl) ?_
    intro M49 hM50
    rw [Nat.zero_add] at hM50
    have o51 : M49[i1_1]? = some (.live ⟨.grow, 2, 1, (s1_2.set s1_1.toNat x45).map (cI .i64)⟩) := set_same hM50 o36
    refine Ev.rend ?_
    intro e52 he53
    have h54 : eget e52 0 = .sl none (a1.map (cI .i64)) := envp he53 rfl h40
    have h55 : eget e52 3 = .lsl i1_1 s1_2.length 0 s1_2.length := envp he53 rfl h41
    have h56 : eget e52 4 = .int .i64 s1_1 := envp he53 rfl h42
    clear h40 h41 h42 h43
    refine Ev.kblkN ?_
    refine Ev.kseqN ?_
    refine Ev.reg (fun _ => rfl) ?_
    refine Ev.nxk (mvO h56) ?_
    refine Ev.nxk (bAdd rfl rfl) ?_
    refine Ev.nxk (mvO rfl) ?_
    refine Ev.rend ?_
    intro e57 he58
    have h59 : eget e57 0 = .sl none (a1.map (cI .i64)) := envp he58 rfl h54
    have h60 : eget e57 3 = .lsl i1_1 s1_2.length 0 s1_2.length := envp he58 rfl h55
    have h61 : eget e57 4 = .int .i64 (IntKind.i64.wrap (s1_1 + 1)) := envp he58 rfl rfl
    clear h54 h55
    cases h
    exact Ev.kid (bQ_n (RS := (laws_toInt64S_b1_RS a1 x4 i1_1)) (RR := (laws_toInt64S_b1_RR a1 x4 i1_1)) (And.intro h59 (And.intro (lslL (L' := (s1_2.set s1_1.toNat x45).length) h60 (by simp [hl37])) (And.intro h61 (And.intro o51 (by first | rfl | simp [hl37]))))))
  · refine Ev.condF h43 hb44 ?_
    refine Ev.ex ?_
    refine Ev.kseqE ?_
    cases h
    exact Ev.kid (bQ_x (RS := (laws_toInt64S_b1_RS a1 x4 i1_1)) (RR := (laws_toInt64S_b1_RR a1 x4 i1_1)) (by intro h; cases h) (And.intro rfl (And.intro h41 (And.intro o36 (by first | rfl | simp [hl37])))))
noncomputable def laws_toInt64S (a1 : List Int) : Option ((List Int)) :=
  (mkS 8 0 (a1.length : Int)).bind fun x4 =>
  (Lw (laws_toInt64S_b1 a1) (0, x4)).bind fun y67 =>
  some y67
def laws_toInt64S_enc (r : (List Int)) : AV := .sl (some 2) (r.map (cI .i64))
theorem laws_toInt64S_ok (a1 : List Int) (r : (List Int)) (h : laws_toInt64S a1 = some r) : Ev (fun k => CN k 13 [.sl none (a1.map (cI .i64))] []) (fun p => rRes p.2 p.1 = laws_toInt64S_enc r) := by
  unfold laws_toInt64S at h
  refine Ev.enter (F := fun k => f13 (CN k) k) (fun k => callN_eq rfl Try.func13 rfl rfl rfl (by decide +kernel) (f13_eq _ _)) ?_
  refine Ev.seq ?_
  refine Ev.reg (fun _ => rfl) ?_
  refine Ev.nxk (mvO rfl) ?_
  refine Ev.rend ?_
  intro e1 he2
  have h3 : eget e1 0 = .sl none (a1.map (cI .i64)) := envp he2 rfl rfl
  refine Ev.kseqN ?_
  refine Ev.seq ?_
  refine Ev.reg (fun _ => rfl) ?_
  refine Ev.nxk (mvO h3) ?_
  refine Ev.nxk (lnS Try.underlying29 rfl) ?_
  obtain ⟨x4, hx5, h⟩ := bind_some h
  refine Ev.nxpush (mkO rfl rfl hx5 (c := (cI .i64)) zero2 (cI_fl _) (by decide)) ?_
  intro M7 hM8
  have o9 : M7[([] : Mem).length]? = some (.live ⟨.grow, 2, 1, x4.map (cI .i64)⟩) := push_new hM8
  refine Ev.nxk (mvO rfl) ?_
  refine Ev.rend ?_
  intro e10 he11
  have h12 : eget e10 0 = .sl none (a1.map (cI .i64)) := envp he11 rfl h3
  have h13 : eget e10 3 = .lsl ([] : Mem).length x4.length 0 x4.length := envp he11 rfl rfl
  clear h3
  refine Ev.kseqN ?_
  refine Ev.seq ?_
  refine Ev.seq ?_
  refine Ev.reg (fun _ => rfl) ?_
  refine Ev.nxk (mvO rfl) ?_
  refine Ev.rend ?_
  intro e14 he15
  have h16 : eget e14 0 = .sl none (a1.map (cI .i64)) := envp he15 rfl h12
  have h17 : eget e14 3 = .lsl ([] : Mem).length x4.length 0 x4.length := envp he15 rfl h13
  have h18 : eget e14 4 = .int .i64 0 := envp he15 rfl rfl
  clear h12 h13
  refine Ev.kseqN ?_
  refine Ev.blk ?_
  obtain ⟨y67, hr63, h⟩ := bind_some h
  refine Ev.loop (RS := laws_toInt64S_b1_RS a1 x4 (([] : Mem).length)) (RR := laws_toInt64S_b1_RR a1 x4 (([] : Mem).length)) (fun s r h e M hs => laws_toInt64S_b1_ok a1 x4 (([] : Mem).length) s r h e M hs) hr63 (And.intro h16 (And.intro h17 (And.intro h18 (And.intro o9 rfl)))) ?_
  intro x e65 M66 hq64
  obtain ⟨rfl, h68, o69, hl70⟩ := hq64
  refine Ev.kblkE ?_
  refine Ev.kseqN ?_
  refine Ev.seq ?_
  refine Ev.reg (fun _ => rfl) ?_
  refine Ev.nxk (mvO h68) ?_
  refine Ev.nxk (mvO rfl) ?_
  refine Ev.rend ?_
  intro e71 he72
  have h73 : eget e71 2 = .lsl ([] : Mem).length y67.length 0 y67.length := envp he72 rfl rfl
  clear h68
  refine Ev.kseqN ?_
  refine Ev.ex ?_
  cases h
  exact Ev.kendR (resT h73 res0) (rr_row o69 (cI_fl _))
/-! ### loop.example/g01263/spec.ShareOut (f12) -/
def spec_ShareOut_c1_Q (a1 : Int) (a2 : List Int) (g : Bool) (q : Out) : Prop := q.1 = .nrm ∧ eget q.2.1 0 = .int .i64 a1 ∧ eget q.2.1 1 = .sl none (a2.map (cI .i64)) ∧ eget q.2.1 6 = .bool g
abbrev spec_ShareOut_b1_S := Bool × Int × Int
abbrev spec_ShareOut_b1_R := Bool × Int
def spec_ShareOut_b1_RS (a1 : Int) (a2 : List Int) (s : spec_ShareOut_b1_S) (e : Env) (M : Mem) : Prop := eget e 0 = .int .i64 a1 ∧ eget e 1 = .sl none (a2.map (cI .i64)) ∧ eget e 6 = .bool s.1 ∧ eget e 7 = .int .i64 s.2.1 ∧ eget e 8 = .int .i64 s.2.2
def spec_ShareOut_b1_RR (a1 : Int) (a2 : List Int) (g : spec_ShareOut_b1_R) (x : Ex) (e : Env) (M : Mem) : Prop := x = .ext 0 ∧ eget e 0 = .int .i64 a1 ∧ eget e 1 = .sl none (a2.map (cI .i64)) ∧ eget e 6 = .bool g.1 ∧ eget e 7 = .int .i64 g.2
noncomputable def spec_ShareOut_b1 (a2 : List Int) : spec_ShareOut_b1_S → Option (spec_ShareOut_b1_S ⊕ spec_ShareOut_b1_R) := fun (s1_1, s1_2, s1_3) =>
  if (decide (s1_3 < (a2.length : Int))) = true then
    if s1_1 = true then
      (rd a2 s1_3).bind fun x73 =>
      (spec_l00In x73 0 1000000).bind fun r76 =>
      (rd a2 s1_3).bind fun x84 =>
      some (.inl (r76, (IntKind.i64.wrap (s1_2 + x84)), (IntKind.i64.wrap (s1_3 + 1))))
    else
      some (.inr (s1_1, s1_2))
  else
    some (.inr (s1_1, s1_2))
theorem spec_ShareOut_b1_ok (a1 : Int) (a2 : List Int) (s : spec_ShareOut_b1_S) (r : spec_ShareOut_b1_S ⊕ spec_ShareOut_b1_R) (h : spec_ShareOut_b1 a2 s = some r) (e : Env) (M : Mem) (hs : spec_ShareOut_b1_RS a1 a2 s e M) : Ev (fun k => (f12_l4 (CN k) k (prune [0, 1, 6, 7, 8] e) M).bind fun q => some q) (bQ (spec_ShareOut_b1_RS a1 a2) (spec_ShareOut_b1_RR a1 a2) r) := by
  obtain ⟨s1_1, s1_2, s1_3⟩ := s
  unfold spec_ShareOut_b1 at h
  obtain ⟨h53, h55, h57, h59, h61⟩ := hs
  generalize he52 : prune [0, 1, 6, 7, 8] e = e51
  have h54 := envp he52.symm rfl h53
  have h56 := envp he52.symm rfl h55
  have h58 := envp he52.symm rfl h57
  have h60 := envp he52.symm rfl h59
  have h62 := envp he52.symm rfl h61
  refine Ev.seq ?_
  refine Ev.seq ?_
  refine Ev.reg (fun _ => rfl) ?_
  refine Ev.nxk (mvO h62) ?_
  refine Ev.nxk (mvO h56) ?_
  refine Ev.nxk (lnS Try.underlying29 rfl) ?_
  refine Ev.nxk (bLss rfl rfl) ?_
  refine Ev.nxk (mvO rfl) ?_
  rcases ite_some h with ⟨hb63, h⟩ | ⟨hb63, h⟩
  · refine Ev.nxk (guT rfl hb63 (mvO h58)) ?_
    refine Ev.nxk (pkT rfl hb63 rfl) ?_
    refine Ev.rend ?_
    intro e64 he65
    have h66 : eget e64 0 = .int .i64 a1 := envp he65 rfl h54
    have h67 : eget e64 1 = .sl none (a2.map (cI .i64)) := envp he65 rfl h56
    have h68 : eget e64 6 = .bool s1_1 := envp he65 rfl h58
    have h69 : eget e64 7 = .int .i64 s1_2 := envp he65 rfl h60
    have h70 : eget e64 8 = .int .i64 s1_3 := envp he65 rfl h62
    have h71 : eget e64 28 = .bool s1_1 := envp he65 rfl rfl
    clear h54 h56 h58 h60 h62
    refine Ev.kseqN ?_
    rcases ite_some h with ⟨hb72, h⟩ | ⟨hb72, h⟩
    · refine Ev.condT h71 hb72 ?_
      refine Ev.ex ?_
      refine Ev.kseqN ?_
      refine Ev.seq ?_
      refine Ev.blk ?_
      refine Ev.seq ?_
      refine Ev.reg (fun _ => rfl) ?_
      refine Ev.nxk (mvO h67) ?_
      refine Ev.nxk (mvO h70) ?_
      obtain ⟨x73, hx74, h⟩ := bind_some h
      refine Ev.nxk (ixS rfl rfl hx74 (cI_fl _)) ?_
      refine Ev.nxk (ldP rfl rfl) ?_
      obtain ⟨r76, hx75, h⟩ := bind_some h
      refine Ev.nxck (Ev.call (v := .bool r76) rfl (cns rfl (cns rfl (cns rfl rfl))) rfl (spec_l00In_ok x73 0 1000000 _ hx75) (fun h => nomatch (show false = true from h))) ?_
      refine Ev.nxk (mvO rfl) ?_
      refine Ev.rend ?_
      intro e77 he78
      have h79 : eget e77 0 = .int .i64 a1 := envp he78 rfl h66
      have h80 : eget e77 1 = .sl none (a2.map (cI .i64)) := envp he78 rfl h67
      have h81 : eget e77 6 = .bool r76 := envp he78 rfl rfl
      have h82 : eget e77 7 = .int .i64 s1_2 := envp he78 rfl h69
      have h83 : eget e77 8 = .int .i64 s1_3 := envp he78 rfl h70
      clear h66 h67 h69 h70 h71
      refine Ev.kseqN ?_
      refine Ev.reg (fun _ => rfl) ?_
      refine Ev.nxk (mvO h82) ?_
      refine Ev.nxk (mvO h80) ?_
      refine Ev.nxk (mvO h83) ?_
      obtain ⟨x84, hx85, h⟩ := bind_some h
      refine Ev.nxk (ixS rfl rfl hx85 (cI_fl _)) ?_
      refine Ev.nxk (ldP rfl rfl) ?_
      refine Ev.nxk (bAdd rfl rfl) ?_
      refine Ev.nxk (mvO rfl) ?_
      refine Ev.rend ?_
      intro e86 he87
      have h88 : eget e86 0 = .int .i64 a1 := envp he87 rfl h79
      have h89 : eget e86 1 = .sl none (a2.map (cI .i64)) := envp he87 rfl h80
      have h90 : eget e86 6 = .bool r76 := envp he87 rfl h81
      have h91 : eget e86 7 = .int .i64 (IntKind.i64.wrap (s1_2 + x84)) := envp he87 rfl rfl
      have h92 : eget e86 8 = .int .i64 s1_3 := envp he87 rfl h83
      clear h79 h80 h81 h83
      refine Ev.kblkN ?_
      refine Ev.kseqN ?_
      refine Ev.reg (fun _ => rfl) ?_
      refine Ev.nxk (mvO h92) ?_
      refine Ev.nxk (bAdd rfl rfl) ?_
      refine Ev.nxk (mvO rfl) ?_
      refine Ev.rend ?_
      intro e93 he94
      have h95 : eget e93 0 = .int .i64 a1 := envp he94 rfl h88
      have h96 : eget e93 1 = .sl none (a2.map (cI .i64)) := envp he94 rfl h89
      have h97 : eget e93 6 = .bool r76 := envp he94 rfl h90
      have h98 : eget e93 7 = .int .i64 (IntKind.i64.wrap (s1_2 + x84)) := envp he94 rfl h91
      have h99 : eget e93 8 = .int .i64 (IntKind.i64.wrap (s1_3 + 1)) := envp he94 rfl rfl
      clear h88 h89 h90 h91
      cases h
      exact Ev.kid (bQ_n (RS := (spec_ShareOut_b1_RS a1 a2)) (RR := (spec_ShareOut_b1_RR a1 a2)) (And.intro h95 (And.intro h96 (And.intro h97 (And.intro h98 h99)))))
    · refine Ev.condF h71 hb72 ?_
      refine Ev.ex ?_
      refine Ev.kseqE ?_
      cases h
      exact Ev.kid (bQ_x (RS := (spec_ShareOut_b1_RS a1 a2)) (RR := (spec_ShareOut_b1_RR a1 a2)) (by intro h; cases h) (And.intro rfl (And.intro h66 (And.intro h67 (And.intro h68 h69)))))
  · refine Ev.nxk (gsT rfl hb63) ?_
    refine Ev.nxk (pkF rfl hb63 rfl) ?_
    refine Ev.rend ?_
    intro e100 he101
    have h102 : eget e100 0 = .int .i64 a1 := envp he101 rfl h54
    have h103 : eget e100 1 = .sl none (a2.map (cI .i64)) := envp he101 rfl h56
    have h104 : eget e100 6 = .bool s1_1 := envp he101 rfl h58
    have h105 : eget e100 7 = .int .i64 s1_2 := envp he101 rfl h60
    have h106 : eget e100 8 = .int .i64 s1_3 := envp he101 rfl h62
    have h107 : eget e100 28 = .bool false := envp he101 rfl rfl
    clear h54 h56 h58 h60 h62
    refine Ev.kseqN ?_
    refine Ev.condF h107 rfl ?_
    refine Ev.ex ?_
    refine Ev.kseqE ?_
    cases h
    exact Ev.kid (bQ_x (RS := (spec_ShareOut_b1_RS a1 a2)) (RR := (spec_ShareOut_b1_RR a1 a2)) (by intro h; cases h) (And.intro rfl (And.intro h102 (And.intro h103 (And.intro h104 h105)))))
def spec_ShareOut_c2_Q (a1 : Int) (a2 : List Int) (y114 : Int) (g : Bool) (q : Out) : Prop := q.1 = .nrm ∧ eget q.2.1 0 = .int .i64 a1 ∧ eget q.2.1 1 = .sl none (a2.map (cI .i64)) ∧ eget q.2.1 7 = .int .i64 y114 ∧ eget q.2.1 47 = .bool g
abbrev spec_ShareOut_b2_S := Int × Int × (List Int) × (List Int)
abbrev spec_ShareOut_b2_R := Int × (List Int) × (List Int)
def spec_ShareOut_b2_RS (a1 : Int) (a2 : List Int) (y114 : Int) (i2_1 : Nat) (i2_2 : Nat) (s : spec_ShareOut_b2_S) (e : Env) (M : Mem) : Prop := eget e 0 = .int .i64 a1 ∧ eget e 1 = .sl none (a2.map (cI .i64)) ∧ eget e 7 = .int .i64 y114 ∧ eget e 9 = .lsl i2_1 s.2.2.1.length 0 s.2.2.1.length ∧ eget e 10 = .lsl i2_2 s.2.2.2.length 0 s.2.2.2.length ∧ eget e 11 = .int .i64 s.1 ∧ eget e 12 = .int .i64 s.2.1 ∧ M[i2_1]? = some (.live ⟨.grow, 2, 1, s.2.2.1.map (cI .i64)⟩) ∧ M[i2_2]? = some (.live ⟨.grow, 2, 1, s.2.2.2.map (cI .i64)⟩)
def spec_ShareOut_b2_RR (a1 : Int) (a2 : List Int) (y114 : Int) (i2_1 : Nat) (i2_2 : Nat) (g : spec_ShareOut_b2_R) (x : Ex) (e : Env) (M : Mem) : Prop := x = .ext 2 ∧ eget e 9 = .lsl i2_1 g.2.1.length 0 g.2.1.length ∧ eget e 10 = .lsl i2_2 g.2.2.length 0 g.2.2.length ∧ eget e 11 = .int .i64 g.1 ∧ M[i2_1]? = some (.live ⟨.grow, 2, 1, g.2.1.map (cI .i64)⟩) ∧ M[i2_2]? = some (.live ⟨.grow, 2, 1, g.2.2.map (cI .i64)⟩)
noncomputable def spec_ShareOut_b2 (a1 : Int) (a2 : List Int) (y114 : Int) : spec_ShareOut_b2_S → Option (spec_ShareOut_b2_S ⊕ spec_ShareOut_b2_R) := fun (s2_1, s2_2, s2_3, s2_4) =>
  if (decide (s2_2 < (a2.length : Int))) = true then
    (rd a2 s2_2).bind fun x235 =>
    (quo .i64 (IntKind.i64.wrap (a1 * x235)) y114).bind fun n237 =>
    (app 8 s2_3 [n237]).bind fun x239 =>
    (rd a2 s2_2).bind fun x254 =>
    (rem .i64 (IntKind.i64.wrap (a1 * x254)) y114).bind fun n256 =>
    (app 8 s2_4 [n256]).bind fun x258 =>
    (rd x239 s2_2).bind fun x273 =>
    some (.inl ((IntKind.i64.wrap (s2_1 - x273)), (IntKind.i64.wrap (s2_2 + 1)), x239, x258))
  else
    some (.inr (s2_1, s2_3, s2_4))
theorem spec_ShareOut_b2_ok (a1 : Int) (a2 : List Int) (y114 : Int) (i2_1 : Nat) (i2_2 : Nat) (ne162 : i2_1 ≠ i2_2) (s : spec_ShareOut_b2_S) (r : spec_ShareOut_b2_S ⊕ spec_ShareOut_b2_R) (h : spec_ShareOut_b2 a1 a2 y114 s = some r) (e : Env) (M : Mem) (hs : spec_ShareOut_b2_RS a1 a2 y114 i2_1 i2_2 s e M) : Ev (fun k => (f12_l14 (CN k) k (prune [0, 1, 7, 9, 10, 11, 12] e) M).bind fun q => some q) (bQ (spec_ShareOut_b2_RS a1 a2 y114 i2_1 i2_2) (spec_ShareOut_b2_RR a1 a2 y114 i2_1 i2_2) r) := by
  obtain ⟨s2_1, s2_2, s2_3, s2_4⟩ := s
  unfold spec_ShareOut_b2 at h
  obtain ⟨h208, h210, h212, h214, h216, h218, h220, o222, o223⟩ := hs
  generalize he207 : prune [0, 1, 7, 9, 10, 11, 12] e = e206
  have h209 := envp he207.symm rfl h208
  have h211 := envp he207.symm rfl h210
  have h213 := envp he207.symm rfl h212
  have h215 := envp he207.symm rfl h214
  have h217 := envp he207.symm rfl h216
  have h219 := envp he207.symm rfl h218
  have h221 := envp he207.symm rfl h220
  refine Ev.seq ?_
  refine Ev.seq ?_
  refine Ev.reg (fun _ => rfl) ?_
  refine Ev.nxk (mvO h221) ?_
  refine Ev.nxk (mvO h211) ?_
  refine Ev.nxk (lnS Try.underlying29 rfl) ?_
  refine Ev.nxk (bLss rfl rfl) ?_
  refine Ev.rend ?_
  intro e224 he225
  have h226 : eget e224 0 = .int .i64 a1 := envp he225 rfl h209
  have h227 : eget e224 1 = .sl none (a2.map (cI .i64)) := envp he225 rfl h211
  have h228 : eget e224 7 = .int .i64 y114 := envp he225 rfl h213
  have h229 : eget e224 9 = .lsl i2_1 s2_3.length 0 s2_3.length := envp he225 rfl h215
  have h230 : eget e224 10 = .lsl i2_2 s2_4.length 0 s2_4.length := envp he225 rfl h217
  have h231 : eget e224 11 = .int .i64 s2_1 := envp he225 rfl h219
  have h232 : eget e224 12 = .int .i64 s2_2 := envp he225 rfl h221
  have h233 : eget e224 55 = .bool (decide (s2_2 < (a2.length : Int))) := envp he225 rfl rfl
  clear h209 h211 h213 h215 h217 h219 h221
  refine Ev.kseqN ?_
  rcases ite_some h with ⟨hb234, h⟩ | ⟨hb234, h⟩
  · refine Ev.condT h233 hb234 ?_
    refine Ev.ex ?_
    refine Ev.kseqN ?_
    refine Ev.seq ?_
    refine Ev.blk ?_
    refine Ev.seq ?_
    refine Ev.reg (fun _ => rfl) ?_
    refine Ev.nxk (mvO h229) ?_
    refine Ev.nxk (mvO h226) ?_
    refine Ev.nxk (mvO h227) ?_
    refine Ev.nxk (mvO h232) ?_
    obtain ⟨x235, hx236, h⟩ := bind_some h
    refine Ev.nxk (ixS rfl rfl hx236 (cI_fl _)) ?_
    refine Ev.nxk (ldP rfl rfl) ?_
    refine Ev.nxk (bMul rfl rfl) ?_
    refine Ev.nxk (mvO h228) ?_
    obtain ⟨n237, hx238, h⟩ := bind_some h
    refine Ev.nxk (bQuo rfl rfl hx238) ?_
    refine Ev.nxk (litI (cns rfl rfl) rfl ⟨rfl, by decide⟩) ?_
    obtain ⟨x239, hx240, h⟩ := bind_some h
    refine Ev.nxput (apO rfl o222 (elT (c := (cI .i64)) (xs := [n237]) rfl) hx240 (cI_fl _) (by decide)) ?_
    intro M241 hM242
    have o243 : M241[i2_1]? = some (.live ⟨.grow, 2, 1, x239.map (cI .i64)⟩) := set_same hM242 o222
    have o244 := set_ne hM242 (Ne.symm ne162) o223
    refine Ev.nxk (mvO rfl) ?_
    refine Ev.rend ?_
    intro e245 he246
    have h247 : eget e245 0 = .int .i64 a1 := envp he246 rfl h226
    have h248 : eget e245 1 = .sl none (a2.map (cI .i64)) := envp he246 rfl h227
    have h249 : eget e245 7 = .int .i64 y114 := envp he246 rfl h228
    have h250 : eget e245 9 = .lsl i2_1 x239.length 0 x239.length := envp he246 rfl rfl
    have h251 : eget e245 10 = .lsl i2_2 s2_4.length 0 s2_4.length := envp he246 rfl h230
    have h252 : eget e245 11 = .int .i64 s2_1 := envp he246 rfl h231
    have h253 : eget e245 12 = .int .i64 s2_2 := envp he246 rfl h232
    clear h226 h227 h228 h230 h231 h232 h233
    refine Ev.kseqN ?_
    refine Ev.seq ?_
    refine Ev.reg (fun _ => rfl) ?_
    refine Ev.nxk (mvO h251) ?_
    refine Ev.nxk (mvO h247) ?_
    refine Ev.nxk (mvO h248) ?_
    refine Ev.nxk (mvO h253) ?_
    obtain ⟨x254, hx255, h⟩ := bind_some h
    refine Ev.nxk (ixS rfl rfl hx255 (cI_fl _)) ?_
    refine Ev.nxk (ldP rfl rfl) ?_
    refine Ev.nxk (bMul rfl rfl) ?_
    refine Ev.nxk (mvO h249) ?_
    obtain ⟨n256, hx257, h⟩ := bind_some h
    refine Ev.nxk (bRem rfl rfl hx257) ?_
    refine Ev.nxk (litI (cns rfl rfl) rfl ⟨rfl, by decide⟩) ?_
    obtain ⟨x258, hx259, h⟩ := bind_some h
    refine Ev.nxput (apO rfl o244 (elT (c := (cI .i64)) (xs := [n256]) rfl) hx259 (cI_fl _) (by decide)) ?_
    intro M260 hM261
    have o262 := set_ne hM261 ne162 o243
    have o263 : M260[i2_2]? = some (.live ⟨.grow, 2, 1, x258.map (cI .i64)⟩) := set_same hM261 o244
    refine Ev.nxk (mvO rfl) ?_
    refine Ev.rend ?_
    intro e264 he265
    have h266 : eget e264 0 = .int .i64 a1 := envp he265 rfl h247
    have h267 : eget e264 1 = .sl none (a2.map (cI .i64)) := envp he265 rfl h248
    have h268 : eget e264 7 = .int .i64 y114 := envp he265 rfl h249
    have h269 : eget e264 9 = .lsl i2_1 x239.length 0 x239.length := envp he265 rfl h250
    have h270 : eget e264 10 = .lsl i2_2 x258.length 0 x258.length := envp he265 rfl rfl
    have h271 : eget e264 11 = .int .i64 s2_1 := envp he265 rfl h252
    have h272 : eget e264 12 = .int .i64 s2_2 := envp he265 rfl h253
    clear h247 h248 h249 h250 h252 h253
    refine Ev.kseqN ?_
    refine Ev.reg (fun _ => rfl) ?_
    refine Ev.nxk (mvO h271) ?_
    refine Ev.nxk (mvO h269) ?_
    refine Ev.nxk (mvO h272) ?_
    obtain ⟨x273, hx274, h⟩ := bind_some h
    refine Ev.nxk (ixO rfl o262 rfl rfl (rd_get hx274).1 (rd_lt hx274).2) ?_
    refine Ev.nxk (ldO rfl o262 (by simp) (by rw [Nat.zero_add]; exact mapg (rd_get hx274).2) rfl) ?_
    refine Ev.nxk (bSub rfl rfl) ?_
    refine Ev.nxk (mvO rfl) ?_
    refine Ev.rend ?_
    intro e275 he276
    have h277 : eget e275 0 = .int .i64 a1 := envp he276 rfl h266
    have h278 : eget e275 1 = .sl none (a2.map (cI .i64)) := envp he276 rfl h267
    have h279 : eget e275 7 = .int .i64 y114 := envp he276 rfl h268
    have h280 : eget e275 9 = .lsl i2_1 x239.length 0 x239.length := envp he276 rfl h269
    have h281 : eget e275 10 = .lsl i2_2 x258.length 0 x258.length := envp he276 rfl h270
    have h282 : eget e275 11 = .int .i64 (IntKind.i64.wrap (s2_1 - x273)) := envp he276 rfl rfl
    have h283 : eget e275 12 = .int .i64 s2_2 := envp he276 rfl h272
    clear h266 h267 h268 h269 h270 h272
    refine Ev.kblkN ?_
    refine Ev.kseqN ?_
    refine Ev.reg (fun _ => rfl) ?_
    refine Ev.nxk (mvO h283) ?_
    refine Ev.nxk (bAdd rfl rfl) ?_
    refine Ev.nxk (mvO rfl) ?_
    refine Ev.rend ?_
    intro e284 he285
    have h286 : eget e284 0 = .int .i64 a1 := envp he285 rfl h277
    have h287 : eget e284 1 = .sl none (a2.map (cI .i64)) := envp he285 rfl h278
    have h288 : eget e284 7 = .int .i64 y114 := envp he285 rfl h279
    have h289 : eget e284 9 = .lsl i2_1 x239.length 0 x239.length := envp he285 rfl h280
    have h290 : eget e284 10 = .lsl i2_2 x258.length 0 x258.length := envp he285 rfl h281
    have h291 : eget e284 11 = .int .i64 (IntKind.i64.wrap (s2_1 - x273)) := envp he285 rfl h282
    have h292 : eget e284 12 = .int .i64 (IntKind.i64.wrap (s2_2 + 1)) := envp he285 rfl rfl
    clear h277 h278 h279 h280 h281 h282
    cases h
    exact Ev.kid (bQ_n (RS := (spec_ShareOut_b2_RS a1 a2 y114 i2_1 i2_2)) (RR := (spec_ShareOut_b2_RR a1 a2 y114 i2_1 i2_2)) (And.intro h286 (And.intro h287 (And.intro h288 (And.intro h289 (And.intro h290 (And.intro h291 (And.intro h292 (And.intro o262 o263)))))))))
  · refine Ev.condF h233 hb234 ?_
    refine Ev.ex ?_
    refine Ev.kseqE ?_
    cases h
    exact Ev.kid (bQ_x (RS := (spec_ShareOut_b2_RS a1 a2 y114 i2_1 i2_2)) (RR := (spec_ShareOut_b2_RR a1 a2 y114 i2_1 i2_2)) (by intro h; cases h) (And.intro rfl (And.intro h229 (And.intro h230 (And.intro h231 (And.intro o222 o223))))))
abbrev spec_ShareOut_b4_S := Int × Int
abbrev spec_ShareOut_b4_R := Int
def spec_ShareOut_b4_RS (s3_1 : Int) (s3_2 : List Int) (s3_3 : List Int) (i3_1 : Nat) (i3_2 : Nat) (s : spec_ShareOut_b4_S) (e : Env) (M : Mem) : Prop := eget e 9 = .lsl i3_1 s3_2.length 0 s3_2.length ∧ eget e 10 = .lsl i3_2 s3_3.length 0 s3_3.length ∧ eget e 11 = .int .i64 s3_1 ∧ eget e 13 = .int .i64 s.1 ∧ eget e 14 = .int .i64 s.2 ∧ M[i3_1]? = some (.live ⟨.grow, 2, 1, s3_2.map (cI .i64)⟩) ∧ M[i3_2]? = some (.live ⟨.grow, 2, 1, s3_3.map (cI .i64)⟩)
def spec_ShareOut_b4_RR (s3_1 : Int) (s3_2 : List Int) (s3_3 : List Int) (i3_1 : Nat) (i3_2 : Nat) (g : spec_ShareOut_b4_R) (x : Ex) (e : Env) (M : Mem) : Prop := x = .ext 6 ∧ eget e 9 = .lsl i3_1 s3_2.length 0 s3_2.length ∧ eget e 10 = .lsl i3_2 s3_3.length 0 s3_3.length ∧ eget e 11 = .int .i64 s3_1 ∧ eget e 13 = .int .i64 g ∧ M[i3_1]? = some (.live ⟨.grow, 2, 1, s3_2.map (cI .i64)⟩) ∧ M[i3_2]? = some (.live ⟨.grow, 2, 1, s3_3.map (cI .i64)⟩)
noncomputable def spec_ShareOut_b4 (s3_3 : List Int) : spec_ShareOut_b4_S → Option (spec_ShareOut_b4_S ⊕ spec_ShareOut_b4_R) := fun (s4_1, s4_2) =>
  if (decide (s4_2 < (s3_3.length : Int))) = true then
    (rd s3_3 s4_2).bind fun x385 =>
    (rd s3_3 s4_1).bind fun x387 =>
    if (decide (x385 > x387)) = true then
      some (.inl (s4_2, (IntKind.i64.wrap (s4_2 + 1))))
    else
      some (.inl (s4_1, (IntKind.i64.wrap (s4_2 + 1))))
  else
    some (.inr s4_1)
theorem spec_ShareOut_b4_ok (s3_1 : Int) (s3_2 : List Int) (s3_3 : List Int) (i3_1 : Nat) (i3_2 : Nat) (ne162 : i3_1 ≠ i3_2) (s : spec_ShareOut_b4_S) (r : spec_ShareOut_b4_S ⊕ spec_ShareOut_b4_R) (h : spec_ShareOut_b4 s3_3 s = some r) (e : Env) (M : Mem) (hs : spec_ShareOut_b4_RS s3_1 s3_2 s3_3 i3_1 i3_2 s e M) : Ev (fun k => (f12_l22 (CN k) k (prune [9, 10, 11, 13, 14] e) M).bind fun q => some q) (bQ (spec_ShareOut_b4_RS s3_1 s3_2 s3_3 i3_1 i3_2) (spec_ShareOut_b4_RR s3_1 s3_2 s3_3 i3_1 i3_2) r) := by
  obtain ⟨s4_1, s4_2⟩ := s
  unfold spec_ShareOut_b4 at h
  obtain ⟨h364, h366, h368, h370, h372, o374, o375⟩ := hs
  generalize he363 : prune [9, 10, 11, 13, 14] e = e362
  have h365 := envp he363.symm rfl h364
  have h367 := envp he363.symm rfl h366
  have h369 := envp he363.symm rfl h368
  have h371 := envp he363.symm rfl h370
  have h373 := envp he363.symm rfl h372
  refine Ev.seq ?_
  refine Ev.seq ?_
  refine Ev.reg (fun _ => rfl) ?_
  refine Ev.nxk (mvO h373) ?_
  refine Ev.nxk (mvO h367) ?_
  refine Ev.nxk (lnL Try.underlying29 rfl o375 (by simp)) ?_
  refine Ev.nxk (bLss rfl rfl) ?_
  refine Ev.rend ?_
  intro e376 he377
  have h378 : eget e376 9 = .lsl i3_1 s3_2.length 0 s3_2.length := envp he377 rfl h365
  have h379 : eget e376 10 = .lsl i3_2 s3_3.length 0 s3_3.length := envp he377 rfl h367
  have h380 : eget e376 11 = .int .i64 s3_1 := envp he377 rfl h369
  have h381 : eget e376 13 = .int .i64 s4_1 := envp he377 rfl h371
  have h382 : eget e376 14 = .int .i64 s4_2 := envp he377 rfl h373
  have h383 : eget e376 91 = .bool (decide (s4_2 < (s3_3.length : Int))) := envp he377 rfl rfl
  clear h365 h367 h369 h371 h373
  refine Ev.kseqN ?_
  rcases ite_some h with ⟨hb384, h⟩ | ⟨hb384, h⟩
  · refine Ev.condT h383 hb384 ?_
    refine Ev.ex ?_
    refine Ev.kseqN ?_
    refine Ev.seq ?_
    refine Ev.blk ?_
    refine Ev.seq ?_
    refine Ev.regD (fun _ => rfl) ?_
    refine Ev.nfk (mvO h379) ?_
    refine Ev.nfk (mvO h382) ?_
    obtain ⟨x385, hx386, h⟩ := bind_some h
    refine Ev.nfk (ixO rfl o375 rfl rfl (rd_get hx386).1 (rd_lt hx386).2) ?_
    refine Ev.nfk (ldO rfl o375 (by simp) (by rw [Nat.zero_add]; exact mapg (rd_get hx386).2) rfl) ?_
    refine Ev.nfk (mvO h379) ?_
    refine Ev.nfk (mvO h381) ?_
    obtain ⟨x387, hx388, h⟩ := bind_some h
    refine Ev.nfk (ixO rfl o375 rfl rfl (rd_get hx388).1 (rd_lt hx388).2) ?_
    refine Ev.nfk (ldO rfl o375 (by simp) (by rw [Nat.zero_add]; exact mapg (rd_get hx388).2) rfl) ?_
    refine Ev.nfk (bGtr rfl rfl) ?_
    refine Ev.fend0 ?_
    refine Ev.rend ?_
    intro e389 he390
    have h391 : eget e389 9 = .lsl i3_1 s3_2.length 0 s3_2.length := envp he390 rfl h378
    have h392 : eget e389 10 = .lsl i3_2 s3_3.length 0 s3_3.length := envp he390 rfl h379
    have h393 : eget e389 11 = .int .i64 s3_1 := envp he390 rfl h380
    have h394 : eget e389 13 = .int .i64 s4_1 := envp he390 rfl h381
    have h395 : eget e389 14 = .int .i64 s4_2 := envp he390 rfl h382
    have h396 : eget e389 102 = .bool (decide (x385 > x387)) := envp he390 rfl rfl
    clear h378 h379 h380 h381 h382 h383
    refine Ev.kseqN ?_
    rcases ite_some h with ⟨hb397, h⟩ | ⟨hb397, h⟩
    · refine Ev.condT h396 hb397 ?_
      refine Ev.reg (fun _ => rfl) ?_
      refine Ev.nxk (mvO h395) ?_
      refine Ev.nxk (mvO rfl) ?_
      refine Ev.rend ?_
      intro e398 he399
      have h400 : eget e398 9 = .lsl i3_1 s3_2.length 0 s3_2.length := envp he399 rfl h391
      have h401 : eget e398 10 = .lsl i3_2 s3_3.length 0 s3_3.length := envp he399 rfl h392
      have h402 : eget e398 11 = .int .i64 s3_1 := envp he399 rfl h393
      have h403 : eget e398 13 = .int .i64 s4_2 := envp he399 rfl rfl
      have h404 : eget e398 14 = .int .i64 s4_2 := envp he399 rfl h395
      clear h391 h392 h393 h395 h396
      refine Ev.kblkN ?_
      refine Ev.kseqN ?_
      refine Ev.reg (fun _ => rfl) ?_
      refine Ev.nxk (mvO h404) ?_
      refine Ev.nxk (bAdd rfl rfl) ?_
      refine Ev.nxk (mvO rfl) ?_
      refine Ev.rend ?_
      intro e405 he406
      have h407 : eget e405 9 = .lsl i3_1 s3_2.length 0 s3_2.length := envp he406 rfl h400
      have h408 : eget e405 10 = .lsl i3_2 s3_3.length 0 s3_3.length := envp he406 rfl h401
      have h409 : eget e405 11 = .int .i64 s3_1 := envp he406 rfl h402
      have h410 : eget e405 13 = .int .i64 s4_2 := envp he406 rfl h403
      have h411 : eget e405 14 = .int .i64 (IntKind.i64.wrap (s4_2 + 1)) := envp he406 rfl rfl
      clear h400 h401 h402 h403
      cases h
      exact Ev.kid (bQ_n (RS := (spec_ShareOut_b4_RS s3_1 s3_2 s3_3 i3_1 i3_2)) (RR := (spec_ShareOut_b4_RR s3_1 s3_2 s3_3 i3_1 i3_2)) (And.intro h407 (And.intro h408 (And.intro h409 (And.intro h410 (And.intro h411 (And.intro o374 o375)))))))
    · refine Ev.condF h396 hb397 ?_
      refine Ev.ex ?_
      refine Ev.kblkN ?_
      refine Ev.kseqN ?_
      refine Ev.reg (fun _ => rfl) ?_
      refine Ev.nxk (mvO h395) ?_
      refine Ev.nxk (bAdd rfl rfl) ?_
      refine Ev.nxk (mvO rfl) ?_
      refine Ev.rend ?_
      intro e412 he413
      have h414 : eget e412 9 = .lsl i3_1 s3_2.length 0 s3_2.length := envp he413 rfl h391
      have h415 : eget e412 10 = .lsl i3_2 s3_3.length 0 s3_3.length := envp he413 rfl h392
      have h416 : eget e412 11 = .int .i64 s3_1 := envp he413 rfl h393
      have h417 : eget e412 13 = .int .i64 s4_1 := envp he413 rfl h394
      have h418 : eget e412 14 = .int .i64 (IntKind.i64.wrap (s4_2 + 1)) := envp he413 rfl rfl
      clear h391 h392 h393 h394 h396
      cases h
      exact Ev.kid (bQ_n (RS := (spec_ShareOut_b4_RS s3_1 s3_2 s3_3 i3_1 i3_2)) (RR := (spec_ShareOut_b4_RR s3_1 s3_2 s3_3 i3_1 i3_2)) (And.intro h414 (And.intro h415 (And.intro h416 (And.intro h417 (And.intro h418 (And.intro o374 o375)))))))
  · refine Ev.condF h383 hb384 ?_
    refine Ev.ex ?_
    refine Ev.kseqE ?_
    cases h
    exact Ev.kid (bQ_x (RS := (spec_ShareOut_b4_RS s3_1 s3_2 s3_3 i3_1 i3_2)) (RR := (spec_ShareOut_b4_RR s3_1 s3_2 s3_3 i3_1 i3_2)) (by intro h; cases h) (And.intro rfl (And.intro h378 (And.intro h379 (And.intro h380 (And.intro h381 (And.intro o374 o375)))))))
abbrev spec_ShareOut_b3_S := Int × (List Int) × (List Int)
abbrev spec_ShareOut_b3_R := (List Int) × (List Int)
def spec_ShareOut_b3_RS (y299 : List Int) (y300 : List Int) (i3_1 : Nat) (i3_2 : Nat) (s : spec_ShareOut_b3_S) (e : Env) (M : Mem) : Prop := eget e 9 = .lsl i3_1 s.2.1.length 0 s.2.1.length ∧ eget e 10 = .lsl i3_2 s.2.2.length 0 s.2.2.length ∧ eget e 11 = .int .i64 s.1 ∧ M[i3_1]? = some (.live ⟨.grow, 2, 1, s.2.1.map (cI .i64)⟩) ∧ M[i3_2]? = some (.live ⟨.grow, 2, 1, s.2.2.map (cI .i64)⟩) ∧ s.2.1.length = y299.length ∧ s.2.2.length = y300.length
def spec_ShareOut_b3_RR (y299 : List Int) (y300 : List Int) (i3_1 : Nat) (i3_2 : Nat) (g : spec_ShareOut_b3_R) (x : Ex) (e : Env) (M : Mem) : Prop := x = .ext 4 ∧ eget e 9 = .lsl i3_1 g.1.length 0 g.1.length ∧ M[i3_1]? = some (.live ⟨.grow, 2, 1, g.1.map (cI .i64)⟩) ∧ M[i3_2]? = some (.live ⟨.grow, 2, 1, g.2.map (cI .i64)⟩) ∧ g.1.length = y299.length ∧ g.2.length = y300.length
noncomputable def spec_ShareOut_b3 : spec_ShareOut_b3_S → Option (spec_ShareOut_b3_S ⊕ spec_ShareOut_b3_R) := fun (s3_1, s3_2, s3_3) =>
  if (decide (s3_1 > 0)) = true then
    (Lw (spec_ShareOut_b4 s3_3) (0, 1)).bind fun y424 =>
    (rd s3_2 y424).bind fun x431 =>
    (rd s3_2 y424).bind fun x433 =>
    (rd s3_3 y424).bind fun x445 =>
    some (.inl ((IntKind.i64.wrap (s3_1 - 1)), (s3_2.set y424.toNat (IntKind.i64.wrap (x431 + 1))), (s3_3.set y424.toNat (-1))))
  else
    some (.inr (s3_2, s3_3))
theorem spec_ShareOut_b3_ok (y299 : List Int) (y300 : List Int) (i3_1 : Nat) (i3_2 : Nat) (ne162 : i3_1 ≠ i3_2) (s : spec_ShareOut_b3_S) (r : spec_ShareOut_b3_S ⊕ spec_ShareOut_b3_R) (h : spec_ShareOut_b3 s = some r) (e : Env) (M : Mem) (hs : spec_ShareOut_b3_RS y299 y300 i3_1 i3_2 s e M) : Ev (fun k => (f12_l19 (CN k) k (prune [9, 10, 11] e) M).bind fun q => some q) (bQ (spec_ShareOut_b3_RS y299 y300 i3_1 i3_2) (spec_ShareOut_b3_RR y299 y300 i3_1 i3_2) r) := by
  obtain ⟨s3_1, s3_2, s3_3⟩ := s
  unfold spec_ShareOut_b3 at h
  obtain ⟨h318, h320, h322, o324, o325, hl326, hl327⟩ := hs
  generalize he317 : prune [9, 10, 11] e = e316
  have h319 := envp he317.symm rfl h318
  have h321 := envp he317.symm rfl h320
  have h323 := envp he317.symm rfl h322
  refine Ev.seq ?_
  refine Ev.seq ?_
  refine Ev.reg (fun _ => rfl) ?_
  refine Ev.nxk (mvO h323) ?_
  refine Ev.nxk (bGtr rfl rfl) ?_
  refine Ev.rend ?_
  intro e328 he329
  have h330 : eget e328 9 = .lsl i3_1 s3_2.length 0 s3_2.length := envp he329 rfl h319
  have h331 : eget e328 10 = .lsl i3_2 s3_3.length 0 s3_3.length := envp he329 rfl h321
  have h332 : eget e328 11 = .int .i64 s3_1 := envp he329 rfl h323
  have h333 : eget e328 87 = .bool (decide (s3_1 > 0)) := envp he329 rfl rfl
  clear h319 h321 h323
  refine Ev.kseqN ?_
  rcases ite_some h with ⟨hb334, h⟩ | ⟨hb334, h⟩
  · refine Ev.condT h333 hb334 ?_
    refine Ev.ex ?_
    refine Ev.kseqN ?_
    refine Ev.blk ?_
    refine Ev.seq ?_
    refine Ev.reg (fun _ => rfl) ?_
    refine Ev.nxk (mvO rfl) ?_
    refine Ev.rend ?_
    intro e335 he336
    have h337 : eget e335 9 = .lsl i3_1 s3_2.length 0 s3_2.length := envp he336 rfl h330
    have h338 : eget e335 10 = .lsl i3_2 s3_3.length 0 s3_3.length := envp he336 rfl h331
    have h339 : eget e335 11 = .int .i64 s3_1 := envp he336 rfl h332
    have h340 : eget e335 13 = .int .i64 0 := envp he336 rfl rfl
    clear h330 h331 h332 h333
    refine Ev.kseqN ?_
    refine Ev.seq ?_
    refine Ev.seq ?_
    refine Ev.reg (fun _ => rfl) ?_
    refine Ev.nxk (mvO rfl) ?_
    refine Ev.rend ?_
    intro e341 he342
    have h343 : eget e341 9 = .lsl i3_1 s3_2.length 0 s3_2.length := envp he342 rfl h337
    have h344 : eget e341 10 = .lsl i3_2 s3_3.length 0 s3_3.length := envp he342 rfl h338
    have h345 : eget e341 11 = .int .i64 s3_1 := envp he342 rfl h339
    have h346 : eget e341 13 = .int .i64 0 := envp he342 rfl h340
    have h347 : eget e341 14 = .int .i64 1 := envp he342 rfl rfl
    clear h337 h338 h339 h340
    refine Ev.kseqN ?_
    refine Ev.blk ?_
    obtain ⟨y424, hr420, h⟩ := bind_some h
    refine Ev.loop (RS := spec_ShareOut_b4_RS s3_1 s3_2 s3_3 i3_1 i3_2) (RR := spec_ShareOut_b4_RR s3_1 s3_2 s3_3 i3_1 i3_2) (fun s r h e M hs => spec_ShareOut_b4_ok s3_1 s3_2 s3_3 i3_1 i3_2 ne162 s r h e M hs) hr420 (And.intro h343 (And.intro h344 (And.intro h345 (And.intro h346 (And.intro h347 (And.intro o324 o325)))))) ?_
    intro x e422 M423 hq421
    obtain ⟨rfl, h425, h426, h427, h428, o429, o430⟩ := hq421
    refine Ev.kblkE ?_
    refine Ev.kseqN ?_
    refine Ev.seq ?_
    refine Ev.reg (fun _ => rfl) ?_
    refine Ev.nxk (mvO h425) ?_
    refine Ev.nxk (mvO h428) ?_
    obtain ⟨x431, hx432, h⟩ := bind_some h
    refine Ev.nxk (ixO rfl o429 rfl rfl (rd_get hx432).1 (rd_lt hx432).2) ?_
    refine Ev.nxk (ldO rfl o429 (by simp [hl326, hl327]) (by rw [Nat.zero_add]; exact mapg (rd_get hx432).2) rfl) ?_
    refine Ev.nxk (bAdd rfl rfl) ?_
    obtain ⟨x433, hx434, h⟩ := bind_some h
    refine Ev.nxk (ixO rfl o429 rfl rfl (rd_get hx434).1 (rd_lt hx434).2) ?_
    refine Ev.nxput (stR (u' := (IntKind.i64.wrap (x431 + 1))) rfl rfl o429 rfl (by rw [Nat.zero_add]; exact (rd_get hx434).2) ⟨rfl, ble rfl⟩ rfl rfl) ?_
    intro M435 hM436
    rw [Nat.zero_add] at hM436
    have o437 : M435[i3_1]? = some (.live ⟨.grow, 2, 1, (s3_2.set y424.toNat (IntKind.i64.wrap (x431 + 1))).map (cI .i64)⟩) := set_same hM436 o429
    have o438 := set_ne hM436 (Ne.symm ne162) o430
    refine Ev.rend ?_
    intro e439 he440
    have h441 : eget e439 9 = .lsl i3_1 s3_2.length 0 s3_2.length := envp he440 rfl h425
    have h442 : eget e439 10 = .lsl i3_2 s3_3.length 0 s3_3.length := envp he440 rfl h426
    have h443 : eget e439 11 = .int .i64 s3_1 := envp he440 rfl h427
    have h444 : eget e439 13 = .int .i64 y424 := envp he440 rfl h428
    clear h425 h426 h427 h428
    refine Ev.kseqN ?_
    refine Ev.seq ?_
    refine Ev.reg (fun _ => rfl) ?_
    refine Ev.nxk (mvO h442) ?_
    refine Ev.nxk (mvO h444) ?_
    obtain ⟨x445, hx446, h⟩ := bind_some h
    refine Ev.nxk (ixO rfl o438 rfl rfl (rd_get hx446).1 (rd_lt hx446).2) ?_
    refine Ev.nxput (stR (u' := (-1)) rfl rfl o438 rfl (by rw [Nat.zero_add]; exact (rd_get hx446).2) ⟨rfl, ble rfl⟩ rfl rfl) ?_
    intro M447 hM448
    rw [Nat.zero_add] at hM448
    have o449 := set_ne hM448 ne162 o437
    have o450 : M447[i3_2]? = some (.live ⟨.grow, 2, 1, (s3_3.set y424.toNat (-1)).map (cI .i64)⟩) := set_same hM448 o438
    refine Ev.rend ?_
    intro e451 he452
    have h453 : eget e451 9 = .lsl i3_1 s3_2.length 0 s3_2.length := envp he452 rfl h441
    have h454 : eget e451 10 = .lsl i3_2 s3_3.length 0 s3_3.length := envp he452 rfl h442
    have h455 : eget e451 11 = .int .i64 s3_1 := envp he452 rfl h443
    clear h441 h442 h443 h444
    refine Ev.kseqN ?_
    refine Ev.reg (fun _ => rfl) ?_
    refine Ev.nxk (mvO h455) ?_
    refine Ev.nxk (bSub rfl rfl) ?_
    refine Ev.nxk (mvO rfl) ?_
    refine Ev.rend ?_
    intro e456 he457
    have h458 : eget e456 9 = .lsl i3_1 s3_2.length 0 s3_2.length := envp he457 rfl h453
    have h459 : eget e456 10 = .lsl i3_2 s3_3.length 0 s3_3.length := envp he457 rfl h454
    have h460 : eget e456 11 = .int .i64 (IntKind.i64.wrap (s3_1 - 1)) := envp he457 rfl rfl
    clear h453 h454
    refine Ev.kblkN ?_
    cases h
    exact Ev.kid (bQ_n (RS := (spec_ShareOut_b3_RS y299 y300 i3_1 i3_2)) (RR := (spec_ShareOut_b3_RR y299 y300 i3_1 i3_2)) (And.intro (lslL (L' := (s3_2.set y424.toNat (IntKind.i64.wrap (x431 + 1))).length) h458 (by simp [hl326, hl327])) (And.intro (lslL (L' := (s3_3.set y424.toNat (-1)).length) h459 (by simp [hl326, hl327])) (And.intro h460 (And.intro o449 (And.intro o450 (And.intro (by first | rfl | simp [hl326, hl327]) (by first | rfl | simp [hl326, hl327]))))))))
  · refine Ev.condF h333 hb334 ?_
    refine Ev.ex ?_
    refine Ev.kseqE ?_
    cases h
    exact Ev.kid (bQ_x (RS := (spec_ShareOut_b3_RS y299 y300 i3_1 i3_2)) (RR := (spec_ShareOut_b3_RR y299 y300 i3_1 i3_2)) (by intro h; cases h) (And.intro rfl (And.intro h330 (And.intro o324 (And.intro o325 (And.intro (by first | rfl | simp [hl326, hl327]) (by first | rfl | simp [hl326, hl327])))))))
noncomputable def spec_ShareOut (a1 : Int) (a2 : List Int) : Option ((List Int) × Int) :=
  ((spec_l01Amount a1).bind fun r6 =>
  if r6 = true then
    (spec_l00In (a2.length : Int) 1 20).bind fun r9 =>
    some r9
  else
    some false).bind fun y22 =>
  (Lw (spec_ShareOut_b1 a2) (y22, 0, 0)).bind fun (y113, y114) =>
  (if y113 = true then
    some (y114 == 0)
  else
    some true).bind fun y134 =>
  if y134 = true then
    some (([] : List Int), 2)
  else
    (Lw (spec_ShareOut_b2 a1 a2 y114) (a1, 0, ([] : List Int), ([] : List Int))).bind fun (y298, y299, y300) =>
    (Lw (spec_ShareOut_b3) (y298, y299, y300)).bind fun (y466, y467) =>
    some (y466, 0)
def spec_ShareOut_enc (r : (List Int) × Int) : AV := .tup [.sl (some 2) (r.1.map (cI .i64)), .int .i64 r.2]
theorem spec_ShareOut_ok (a1 : Int) (a2 : List Int) (r : (List Int) × Int) (h : spec_ShareOut a1 a2 = some r) : Ev (fun k => CN k 12 [.int .i64 a1, .sl none (a2.map (cI .i64))] []) (fun p => rRes p.2 p.1 = spec_ShareOut_enc r) := by
  unfold spec_ShareOut at h
  refine Ev.enter (F := fun k => f12 (CN k) k) (fun k => callN_eq rfl Try.func12 rfl rfl rfl (by decide +kernel) (f12_eq _ _)) ?_
  refine Ev.seq ?_
  refine Ev.reg (fun _ => rfl) ?_
  refine Ev.nxk (mvO rfl) ?_
  refine Ev.nxk (mvO rfl) ?_
  refine Ev.rend ?_
  intro e1 he2
  have h3 : eget e1 0 = .int .i64 a1 := envp he2 rfl rfl
  have h4 : eget e1 1 = .sl none (a2.map (cI .i64)) := envp he2 rfl rfl
  refine Ev.kseqN ?_
  refine Ev.seq ?_
  obtain ⟨r481, hr482, h⟩ := bind_some h
  refine Ev.cut (Q1 := spec_ShareOut_c1_Q a1 a2 r481) (by
      have h := hr482
      refine Ev.reg (fun _ => rfl) ?_
      refine Ev.nxk (mvO h3) ?_
      obtain ⟨r6, hx5, h⟩ := bind_some h
      refine Ev.nxck (Ev.call (v := .bool r6) rfl (cns rfl rfl) rfl (spec_l01Amount_ok a1 _ hx5) (fun h => nomatch (show false = true from h))) ?_
      refine Ev.nxk (mvO rfl) ?_
      rcases ite_some h with ⟨hb7, h⟩ | ⟨hb7, h⟩
      · refine Ev.nxk (guT rfl hb7 (mvO h4)) ?_
        refine Ev.nxk (guT rfl hb7 (lnS Try.underlying29 rfl)) ?_
        obtain ⟨r9, hx8, h⟩ := bind_some h
        refine Ev.nxck (Ev.guT rfl hb7 (Ev.call (v := .bool r9) rfl (cns rfl (cns rfl (cns rfl rfl))) rfl (spec_l00In_ok (a2.length : Int) 1 20 _ hx8) (fun h => nomatch (show false = true from h)))) ?_
        refine Ev.nxk (pkT rfl hb7 rfl) ?_
        refine Ev.nxk (mvO rfl) ?_
        refine Ev.rend ?_
        intro e10 he11
        have h12 : eget e10 0 = .int .i64 a1 := envp he11 rfl h3
        have h13 : eget e10 1 = .sl none (a2.map (cI .i64)) := envp he11 rfl h4
        have h14 : eget e10 6 = .bool r9 := envp he11 rfl rfl
        clear h3 h4
        cases h
        exact Ev.kid (show spec_ShareOut_c1_Q a1 a2 _ _ from (And.intro rfl (And.intro h12 (And.intro h13 h14))))
      · refine Ev.nxk (gsT rfl hb7) ?_
        refine Ev.nxk (gsT rfl hb7) ?_
        refine Ev.nxck (Ev.gsT rfl hb7) ?_
        refine Ev.nxk (pkF rfl hb7 rfl) ?_
        refine Ev.nxk (mvO rfl) ?_
        refine Ev.rend ?_
        intro e15 he16
        have h17 : eget e15 0 = .int .i64 a1 := envp he16 rfl h3
        have h18 : eget e15 1 = .sl none (a2.map (cI .i64)) := envp he16 rfl h4
        have h19 : eget e15 6 = .bool false := envp he16 rfl rfl
        clear h3 h4
        cases h
        exact Ev.kid (show spec_ShareOut_c1_Q a1 a2 _ _ from (And.intro rfl (And.intro h17 (And.intro h18 h19))))) ?_
  revert h hr482
  revert r481
  intro y22 hr482 h
  intro x e20 M21 hq480
  obtain ⟨rfl, h23, h24, h25⟩ := hq480
  refine Ev.kseqN ?_
  refine Ev.seq ?_
  refine Ev.reg (fun _ => rfl) ?_
  refine Ev.nxk (mvO rfl) ?_
  refine Ev.rend ?_
  intro e26 he27
  have h28 : eget e26 0 = .int .i64 a1 := envp he27 rfl h23
  have h29 : eget e26 1 = .sl none (a2.map (cI .i64)) := envp he27 rfl h24
  have h30 : eget e26 6 = .bool y22 := envp he27 rfl h25
  have h31 : eget e26 7 = .int .i64 0 := envp he27 rfl rfl
  clear h23 h24 h25
  refine Ev.kseqN ?_
  refine Ev.seq ?_
  refine Ev.seq ?_
  refine Ev.reg (fun _ => rfl) ?_
  refine Ev.nxk (mvO rfl) ?_
  refine Ev.rend ?_
  intro e32 he33
  have h34 : eget e32 0 = .int .i64 a1 := envp he33 rfl h28
  have h35 : eget e32 1 = .sl none (a2.map (cI .i64)) := envp he33 rfl h29
  have h36 : eget e32 6 = .bool y22 := envp he33 rfl h30
  have h37 : eget e32 7 = .int .i64 0 := envp he33 rfl h31
  have h38 : eget e32 8 = .int .i64 0 := envp he33 rfl rfl
  clear h28 h29 h30 h31
  refine Ev.kseqN ?_
  refine Ev.blk ?_
  obtain ⟨⟨y113, y114⟩, hr109, h⟩ := bind_some h
  refine Ev.loop (RS := spec_ShareOut_b1_RS a1 a2) (RR := spec_ShareOut_b1_RR a1 a2) (fun s r h e M hs => spec_ShareOut_b1_ok a1 a2 s r h e M hs) hr109 (And.intro h34 (And.intro h35 (And.intro h36 (And.intro h37 h38)))) ?_
  intro x e111 M112 hq110
  obtain ⟨rfl, h115, h116, h117, h118⟩ := hq110
  refine Ev.kblkE ?_
  refine Ev.kseqN ?_
  refine Ev.seq ?_
  refine Ev.seq ?_
  obtain ⟨r478, hr479, h⟩ := bind_some h
  refine Ev.cut (Q1 := spec_ShareOut_c2_Q a1 a2 y114 r478) (by
      have h := hr479
      refine Ev.reg (fun _ => rfl) ?_
      refine Ev.nxk (mvO h117) ?_
      refine Ev.nxk (uNot rfl) ?_
      refine Ev.nxk (mvO rfl) ?_
      rcases ite_some h with ⟨hb119, h⟩ | ⟨hb119, h⟩
      · refine Ev.nxk (guF rfl (congrArg Bool.not hb119) (mvO h118)) ?_
        refine Ev.nxk (guF rfl (congrArg Bool.not hb119) (bEql rfl rfl)) ?_
        refine Ev.nxk (pkF rfl (congrArg Bool.not hb119) rfl) ?_
        refine Ev.rend ?_
        intro e120 he121
        have h122 : eget e120 0 = .int .i64 a1 := envp he121 rfl h115
        have h123 : eget e120 1 = .sl none (a2.map (cI .i64)) := envp he121 rfl h116
        have h124 : eget e120 7 = .int .i64 y114 := envp he121 rfl h118
        have h125 : eget e120 47 = .bool (y114 == 0) := envp he121 rfl rfl
        clear h115 h116 h117 h118
        cases h
        exact Ev.kid (show spec_ShareOut_c2_Q a1 a2 y114 _ _ from (And.intro rfl (And.intro h122 (And.intro h123 (And.intro h124 h125)))))
      · refine Ev.nxk (gsF rfl (congrArg Bool.not hb119)) ?_
        refine Ev.nxk (gsF rfl (congrArg Bool.not hb119)) ?_
        refine Ev.nxk (pkT rfl (congrArg Bool.not hb119) rfl) ?_
        refine Ev.rend ?_
        intro e126 he127
        have h128 : eget e126 0 = .int .i64 a1 := envp he127 rfl h115
        have h129 : eget e126 1 = .sl none (a2.map (cI .i64)) := envp he127 rfl h116
        have h130 : eget e126 7 = .int .i64 y114 := envp he127 rfl h118
        have h131 : eget e126 47 = .bool true := envp he127 rfl rfl
        clear h115 h116 h117 h118
        cases h
        exact Ev.kid (show spec_ShareOut_c2_Q a1 a2 y114 _ _ from (And.intro rfl (And.intro h128 (And.intro h129 (And.intro h130 h131)))))) ?_
  revert h hr479
  revert r478
  intro y134 hr479 h
  intro x e132 M133 hq477
  obtain ⟨rfl, h135, h136, h137, h138⟩ := hq477
  refine Ev.kseqN ?_
  rcases ite_some h with ⟨hb139, h⟩ | ⟨hb139, h⟩
  · refine Ev.condT h138 hb139 ?_
    refine Ev.seq ?_
    refine Ev.reg (fun _ => rfl) ?_
    refine Ev.nxpush (litO (xs := ([] : List Int)) (c := (cI .i64)) rfl rfl (by decide)) ?_
    intro M141 hM142
    have o143 : M141[M133.length]? = some (.live ⟨.grow, 2, 1, ([] : List Int).map (cI .i64)⟩) := push_new hM142
    refine Ev.nxk (mvO rfl) ?_
    refine Ev.nxk (mvO rfl) ?_
    refine Ev.rend ?_
    intro e144 he145
    have h146 : eget e144 4 = .lsl M133.length ([] : List Int).length 0 ([] : List Int).length := envp he145 rfl rfl
    have h147 : eget e144 5 = .int .i64 2 := envp he145 rfl rfl
    clear h135 h136 h137 h138
    refine Ev.kseqN ?_
    refine Ev.ex ?_
    refine Ev.kseqR ?_
    cases h
    exact Ev.kendR (resT h146 (resT h147 res0)) (rr_tup (mp1 (rr_row o143 (cI_fl _)) (mp1 rfl mp0)))
  · refine Ev.condF h138 hb139 ?_
    refine Ev.ex ?_
    refine Ev.kseqN ?_
    refine Ev.seq ?_
    refine Ev.reg (fun _ => rfl) ?_
    refine Ev.nxpush (litO (xs := ([] : List Int)) (c := (cI .i64)) rfl rfl (by decide)) ?_
    intro M149 hM150
    have o151 : M149[M133.length]? = some (.live ⟨.grow, 2, 1, ([] : List Int).map (cI .i64)⟩) := push_new hM150
    refine Ev.nxk (mvO rfl) ?_
    refine Ev.rend ?_
    intro e152 he153
    have h154 : eget e152 0 = .int .i64 a1 := envp he153 rfl h135
    have h155 : eget e152 1 = .sl none (a2.map (cI .i64)) := envp he153 rfl h136
    have h156 : eget e152 7 = .int .i64 y114 := envp he153 rfl h137
    have h157 : eget e152 9 = .lsl M133.length ([] : List Int).length 0 ([] : List Int).length := envp he153 rfl rfl
    clear h135 h136 h137 h138
    refine Ev.kseqN ?_
    refine Ev.seq ?_
    refine Ev.reg (fun _ => rfl) ?_
    refine Ev.nxpush (litO (xs := ([] : List Int)) (c := (cI .i64)) rfl rfl (by decide)) ?_
    intro M159 hM160
    have o161 := push_old hM160 o151
    have ne162 := ne_new o151
    have o163 : M159[M149.length]? = some (.live ⟨.grow, 2, 1, ([] : List Int).map (cI .i64)⟩) := push_new hM160
    refine Ev.nxk (mvO rfl) ?_
    refine Ev.rend ?_
    intro e164 he165
    have h166 : eget e164 0 = .int .i64 a1 := envp he165 rfl h154
    have h167 : eget e164 1 = .sl none (a2.map (cI .i64)) := envp he165 rfl h155
    have h168 : eget e164 7 = .int .i64 y114 := envp he165 rfl h156
    have h169 : eget e164 9 = .lsl M133.length ([] : List Int).length 0 ([] : List Int).length := envp he165 rfl h157
    have h170 : eget e164 10 = .lsl M149.length ([] : List Int).length 0 ([] : List Int).length := envp he165 rfl rfl
    clear h154 h155 h156 h157
    refine Ev.kseqN ?_
    refine Ev.seq ?_
    refine Ev.reg (fun _ => rfl) ?_
    refine Ev.nxk (mvO h166) ?_
    refine Ev.nxk (mvO rfl) ?_
    refine Ev.rend ?_
    intro e171 he172
    have h173 : eget e171 0 = .int .i64 a1 := envp he172 rfl h166
    have h174 : eget e171 1 = .sl none (a2.map (cI .i64)) := envp he172 rfl h167
    have h175 : eget e171 7 = .int .i64 y114 := envp he172 rfl h168
    have h176 : eget e171 9 = .lsl M133.length ([] : List Int).length 0 ([] : List Int).length := envp he172 rfl h169
    have h177 : eget e171 10 = .lsl M149.length ([] : List Int).length 0 ([] : List Int).length := envp he172 rfl h170
    have h178 : eget e171 11 = .int .i64 a1 := envp he172 rfl rfl
    clear h166 h167 h168 h169 h170
    refine Ev.kseqN ?_
    refine Ev.seq ?_
    refine Ev.seq ?_
    refine Ev.reg (fun _ => rfl) ?_
    refine Ev.nxk (mvO rfl) ?_
    refine Ev.rend ?_
    intro e179 he180
    have h181 : eget e179 0 = .int .i64 a1 := envp he180 rfl h173
    have h182 : eget e179 1 = .sl none (a2.map (cI .i64)) := envp he180 rfl h174
    have h183 : eget e179 7 = .int .i64 y114 := envp he180 rfl h175
    have h184 : eget e179 9 = .lsl M133.length ([] : List Int).length 0 ([] : List Int).length := envp he180 rfl h176
    have h185 : eget e179 10 = .lsl M149.length ([] : List Int).length 0 ([] : List Int).length := envp he180 rfl h177
    have h186 : eget e179 11 = .int .i64 a1 := envp he180 rfl h178
    have h187 : eget e179 12 = .int .i64 0 := envp he180 rfl rfl
    clear h173 h174 h175 h176 h177 h178
    refine Ev.kseqN ?_
    refine Ev.blk ?_
    obtain ⟨⟨y298, y299, y300⟩, hr294, h⟩ := bind_some h
    refine Ev.loop (RS := spec_ShareOut_b2_RS a1 a2 y114 M133.length M149.length) (RR := spec_ShareOut_b2_RR a1 a2 y114 M133.length M149.length) (fun s r h e M hs => spec_ShareOut_b2_ok a1 a2 y114 M133.length M149.length ne162 s r h e M hs) hr294 (And.intro h181 (And.intro h182 (And.intro h183 (And.intro h184 (And.intro h185 (And.intro h186 (And.intro h187 (And.intro o161 o163)))))))) ?_
    intro x e296 M297 hq295
    obtain ⟨rfl, h301, h302, h303, o304, o305⟩ := hq295
    refine Ev.kblkE ?_
    refine Ev.kseqN ?_
    refine Ev.seq ?_
    refine Ev.blk ?_
    obtain ⟨⟨y466, y467⟩, hr462, h⟩ := bind_some h
    refine Ev.loop (RS := spec_ShareOut_b3_RS y299 y300 M133.length M149.length) (RR := spec_ShareOut_b3_RR y299 y300 M133.length M149.length) (fun s r h e M hs => spec_ShareOut_b3_ok y299 y300 M133.length M149.length ne162 s r h e M hs) hr462 (And.intro h301 (And.intro h302 (And.intro h303 (And.intro o304 (And.intro o305 (And.intro rfl rfl)))))) ?_
    intro x e464 M465 hq463
    obtain ⟨rfl, h468, o469, o470, hl471, hl472⟩ := hq463
    refine Ev.kblkE ?_
    refine Ev.kseqN ?_
    refine Ev.seq ?_
    refine Ev.reg (fun _ => rfl) ?_
    refine Ev.nxk (mvO h468) ?_
    refine Ev.nxk (mvO rfl) ?_
    refine Ev.nxk (mvO rfl) ?_
    refine Ev.rend ?_
    intro e473 he474
    have h475 : eget e473 4 = .lsl M133.length y466.length 0 y466.length := envp he474 rfl rfl
    have h476 : eget e473 5 = .int .i64 0 := envp he474 rfl rfl
    clear h468
    refine Ev.kseqN ?_
    refine Ev.ex ?_
    cases h
    exact Ev.kendR (resT h475 (resT h476 res0)) (rr_tup (mp1 (rr_row o469 (cI_fl _)) (mp1 rfl mp0)))
/-! ### loop.example/g01263/laws.markInt64S (f16) -/
abbrev laws_markInt64S_b1_S := Int × Int × (List Int)
abbrev laws_markInt64S_b1_R := Int × (List Int)
def laws_markInt64S_b1_RS (a1 : List Int) (j1 : Nat) (M0 : Mem) (s : laws_markInt64S_b1_S) (e : Env) (M : Mem) : Prop := eget e 0 = .lsl j1 s.2.2.length 0 s.2.2.length ∧ eget e 1 = .int .i64 s.1 ∧ eget e 5 = .int .i64 s.2.1 ∧ M[j1]? = some (.live ⟨.grow, 2, 1, s.2.2.map (cI .i64)⟩) ∧ Fr [j1] M0 M ∧ s.2.2.length = a1.length
def laws_markInt64S_b1_RR (a1 : List Int) (j1 : Nat) (M0 : Mem) (g : laws_markInt64S_b1_R) (x : Ex) (e : Env) (M : Mem) : Prop := x = .ext 0 ∧ eget e 1 = .int .i64 g.1 ∧ M[j1]? = some (.live ⟨.grow, 2, 1, g.2.map (cI .i64)⟩) ∧ Fr [j1] M0 M ∧ g.2.length = a1.length
noncomputable def laws_markInt64S_b1 : laws_markInt64S_b1_S → Option (laws_markInt64S_b1_S ⊕ laws_markInt64S_b1_R) := fun (s1_1, s1_2, s1_3) =>
  if (decide (s1_2 < (s1_3.length : Int))) = true then
    (rd s1_3 s1_2).bind fun x38 =>
    some (.inl ((IntKind.i64.wrap (s1_1 + 1)), (IntKind.i64.wrap (s1_2 + 1)), (s1_3.set s1_2.toNat s1_1)))
  else
    some (.inr (s1_1, s1_3))
theorem laws_markInt64S_b1_ok (a1 : List Int) (j1 : Nat) (M0 : Mem) (s : laws_markInt64S_b1_S) (r : laws_markInt64S_b1_S ⊕ laws_markInt64S_b1_R) (h : laws_markInt64S_b1 s = some r) (e : Env) (M : Mem) (hs : laws_markInt64S_b1_RS a1 j1 M0 s e M) : Ev (fun k => (f16_l2 (CN k) k (prune [0, 1, 5] e) M).bind fun q => some q) (bQ (laws_markInt64S_b1_RS a1 j1 M0) (laws_markInt64S_b1_RR a1 j1 M0) r) := by
  obtain ⟨s1_1, s1_2, s1_3⟩ := s
  unfold laws_markInt64S_b1 at h
  obtain ⟨h22, h24, h26, o28, fr29, hl30⟩ := hs
  generalize he21 : prune [0, 1, 5] e = e20
  have h23 := envp he21.symm rfl h22
  have h25 := envp he21.symm rfl h24
  have h27 := envp he21.symm rfl h26
  refine Ev.seq ?_
  refine Ev.seq ?_
  refine Ev.reg (fun _ => rfl) ?_
  refine Ev.nxk (mvO h27) ?_
  refine Ev.nxk (mvO h23) ?_
  refine Ev.nxk (lnL Try.underlying29 rfl o28 (by simp [hl30])) ?_
  refine Ev.nxk (bLss rfl rfl) ?_
  refine Ev.rend ?_
  intro e31 he32
  have h33 : eget e31 0 = .lsl j1 s1_3.length 0 s1_3.length := envp he32 rfl h23
  have h34 : eget e31 1 = .int .i64 s1_1 := envp he32 rfl h25
  have h35 : eget e31 5 = .int .i64 s1_2 := envp he32 rfl h27
  have h36 : eget e31 9 = .bool (decide (s1_2 < (s1_3.length : Int))) := envp he32 rfl rfl
  clear h23 h25 h27
  refine Ev.kseqN ?_
  rcases ite_some h with ⟨hb37, h⟩ | ⟨hb37, h⟩
  · refine Ev.condT h36 hb37 ?_
    refine Ev.ex ?_
    refine Ev.kseqN ?_
    refine Ev.seq ?_
    refine Ev.blk ?_
    refine Ev.seq ?_
    refine Ev.reg (fun _ => rfl) ?_
    refine Ev.nxk (mvO h33) ?_
    refine Ev.nxk (mvO h35) ?_
    refine Ev.nxk (mvO h34) ?_
    obtain ⟨x38, hx39, h⟩ := bind_some h
    refine Ev.nxk (ixO rfl o28 rfl rfl (rd_get hx39).1 (rd_lt hx39).2) ?_
    refine Ev.nxput (stR (u' := s1_1) rfl rfl o28 rfl (by rw [Nat.zero_add]; exact (rd_get hx39).2) ⟨rfl, ble rfl⟩ rfl rfl) ?_
    intro M40 hM41
    rw [Nat.zero_add] at hM41
    have o42 : M40[j1]? = some (.live ⟨.grow, 2, 1, (s1_3.set s1_2.toNat s1_1).map (cI .i64)⟩) := set_same hM41 o28
    have fr43 := Fr.setIn fr29 hM41 (by simp)
    refine Ev.rend ?_
    intro e44 he45
    have h46 : eget e44 0 = .lsl j1 s1_3.length 0 s1_3.length := envp he45 rfl h33
    have h47 : eget e44 1 = .int .i64 s1_1 := envp he45 rfl h34
    have h48 : eget e44 5 = .int .i64 s1_2 := envp he45 rfl h35
    clear h33 h34 h35 h36
    refine Ev.kseqN ?_
    refine Ev.reg (fun _ => rfl) ?_
    refine Ev.nxk (mvO h47) ?_
    refine Ev.nxk (bAdd rfl rfl) ?_
    refine Ev.nxk (mvO rfl) ?_
    refine Ev.rend ?_
    intro e49 he50
    have h51 : eget e49 0 = .lsl j1 s1_3.length 0 s1_3.length := envp he50 rfl h46
    have h52 : eget e49 1 = .int .i64 (IntKind.i64.wrap (s1_1 + 1)) := envp he50 rfl rfl
    have h53 : eget e49 5 = .int .i64 s1_2 := envp he50 rfl h48
    clear h46 h48
    refine Ev.kblkN ?_
    refine Ev.kseqN ?_
    refine Ev.reg (fun _ => rfl) ?_
    refine Ev.nxk (mvO h53) ?_
    refine Ev.nxk (bAdd rfl rfl) ?_
    refine Ev.nxk (mvO rfl) ?_
    refine Ev.rend ?_
    intro e54 he55
    have h56 : eget e54 0 = .lsl j1 s1_3.length 0 s1_3.length := envp he55 rfl h51
    have h57 : eget e54 1 = .int .i64 (IntKind.i64.wrap (s1_1 + 1)) := envp he55 rfl h52
    have h58 : eget e54 5 = .int .i64 (IntKind.i64.wrap (s1_2 + 1)) := envp he55 rfl rfl
    clear h51 h52
    cases h
    exact Ev.kid (bQ_n (RS := (laws_markInt64S_b1_RS a1 j1 M0)) (RR := (laws_markInt64S_b1_RR a1 j1 M0)) (And.intro (lslL (L' := (s1_3.set s1_2.toNat s1_1).length) h56 (by simp [hl30])) (And.intro h57 (And.intro h58 (And.intro o42 (And.intro fr43 (by first | rfl | simp [hl30])))))))
  · refine Ev.condF h36 hb37 ?_
    refine Ev.ex ?_
    refine Ev.kseqE ?_
    cases h
    exact Ev.kid (bQ_x (RS := (laws_markInt64S_b1_RS a1 j1 M0)) (RR := (laws_markInt64S_b1_RR a1 j1 M0)) (by intro h; cases h) (And.intro rfl (And.intro h34 (And.intro o28 (And.intro fr29 (by first | rfl | simp [hl30]))))))
noncomputable def laws_markInt64S (a1 : List Int) (a2 : Int) : Option (Int × (List Int)) :=
  (Lw (laws_markInt64S_b1) (a2, 0, a1)).bind fun (y64, y65) =>
  some (y64, y65)
def laws_markInt64S_Q (a1 : List Int) (a2 : Int) (j1 : Nat) (M0 : Mem) (r : Int × (List Int)) (p : AV × Mem) : Prop := p.1 = .int .i64 r.1 ∧ p.2[j1]? = some (.live ⟨.grow, 2, 1, r.2.map (cI .i64)⟩) ∧ Fr [j1] M0 p.2 ∧ r.2.length = a1.length
theorem laws_markInt64S_ok (a1 : List Int) (a2 : Int) (j1 : Nat) (M0 : Mem) (oP1 : M0[j1]? = some (.live ⟨.grow, 2, 1, a1.map (cI .i64)⟩)) (r : Int × (List Int)) (h : laws_markInt64S a1 a2 = some r) : Ev (fun k => CN k 16 [.lsl j1 a1.length 0 a1.length, .int .i64 a2] M0) (laws_markInt64S_Q a1 a2 j1 M0 r) := by
  unfold laws_markInt64S at h
  have fr0 : Fr [j1] M0 M0 := Fr.refl
  refine Ev.enter (F := fun k => f16 (CN k) k) (fun k => callN_eq rfl Try.func16 rfl rfl rfl (by decide +kernel) (f16_eq _ _)) ?_
  refine Ev.seq ?_
  refine Ev.reg (fun _ => rfl) ?_
  refine Ev.nxk (mvO rfl) ?_
  refine Ev.rend ?_
  intro e1 he2
  have h3 : eget e1 0 = .lsl j1 a1.length 0 a1.length := envp he2 rfl rfl
  have h4 : eget e1 1 = .int .i64 a2 := envp he2 rfl rfl
  refine Ev.kseqN ?_
  refine Ev.seq ?_
  refine Ev.seq ?_
  refine Ev.reg (fun _ => rfl) ?_
  refine Ev.nxk (mvO rfl) ?_
  refine Ev.rend ?_
  intro e5 he6
  have h7 : eget e5 0 = .lsl j1 a1.length 0 a1.length := envp he6 rfl h3
  have h8 : eget e5 1 = .int .i64 a2 := envp he6 rfl h4
  have h9 : eget e5 5 = .int .i64 0 := envp he6 rfl rfl
  clear h3 h4
  refine Ev.kseqN ?_
  refine Ev.blk ?_
  obtain ⟨⟨y64, y65⟩, hr60, h⟩ := bind_some h
  refine Ev.loop (RS := laws_markInt64S_b1_RS a1 j1 M0) (RR := laws_markInt64S_b1_RR a1 j1 M0) (fun s r h e M hs => laws_markInt64S_b1_ok a1 j1 M0 s r h e M hs) hr60 (And.intro h7 (And.intro h8 (And.intro h9 (And.intro oP1 (And.intro fr0 rfl))))) ?_
  intro x e62 M63 hq61
  obtain ⟨rfl, h66, o67, fr68, hl69⟩ := hq61
  refine Ev.kblkE ?_
  refine Ev.kseqN ?_
  refine Ev.seq ?_
  refine Ev.reg (fun _ => rfl) ?_
  refine Ev.nxk (mvO h66) ?_
  refine Ev.nxk (mvO rfl) ?_
  refine Ev.rend ?_
  intro e70 he71
  have h72 : eget e70 4 = .int .i64 y64 := envp he71 rfl rfl
  clear h66
  refine Ev.kseqN ?_
  refine Ev.ex ?_
  cases h
  exact Ev.kendR (resT h72 res0) (And.intro rfl (And.intro o67 (And.intro fr68 (by first | rfl | simp [hl69]))))
/-! ### loop.example/g01263/laws.markInt64S (f16) -/
abbrev laws_markInt64S_2_b1_S := Int × Int
abbrev laws_markInt64S_2_b1_R := Int
def laws_markInt64S_2_b1_RS (M0 : Mem) (s : laws_markInt64S_2_b1_S) (e : Env) (M : Mem) : Prop := eget e 0 = .nils ∧ eget e 1 = .int .i64 s.1 ∧ eget e 5 = .int .i64 s.2 ∧ Fr [] M0 M
def laws_markInt64S_2_b1_RR (M0 : Mem) (g : laws_markInt64S_2_b1_R) (x : Ex) (e : Env) (M : Mem) : Prop := x = .ext 0 ∧ eget e 1 = .int .i64 g ∧ Fr [] M0 M
noncomputable def laws_markInt64S_2_b1 : laws_markInt64S_2_b1_S → Option (laws_markInt64S_2_b1_S ⊕ laws_markInt64S_2_b1_R) := fun (s1_1, s1_2) =>
  if (decide (s1_2 < 0)) = true then
    none
  else
    some (.inr s1_1)
theorem laws_markInt64S_2_b1_ok (M0 : Mem) (s : laws_markInt64S_2_b1_S) (r : laws_markInt64S_2_b1_S ⊕ laws_markInt64S_2_b1_R) (h : laws_markInt64S_2_b1 s = some r) (e : Env) (M : Mem) (hs : laws_markInt64S_2_b1_RS M0 s e M) : Ev (fun k => (f16_l2 (CN k) k (prune [0, 1, 5] e) M).bind fun q => some q) (bQ (laws_markInt64S_2_b1_RS M0) (laws_markInt64S_2_b1_RR M0) r) := by
  obtain ⟨s1_1, s1_2⟩ := s
  unfold laws_markInt64S_2_b1 at h
  obtain ⟨h21, h23, h25, fr27⟩ := hs
  generalize he20 : prune [0, 1, 5] e = e19
  have h22 := envp he20.symm rfl h21
  have h24 := envp he20.symm rfl h23
  have h26 := envp he20.symm rfl h25
  refine Ev.seq ?_
  refine Ev.seq ?_
  refine Ev.reg (fun _ => rfl) ?_
  refine Ev.nxk (mvO h26) ?_
  refine Ev.nxk (mvO h22) ?_
  refine Ev.nxk (lnN Try.underlying29 rfl) ?_
  refine Ev.nxk (bLss rfl rfl) ?_
  refine Ev.rend ?_
  intro e28 he29
  have h30 : eget e28 0 = .nils := envp he29 rfl h22
  have h31 : eget e28 1 = .int .i64 s1_1 := envp he29 rfl h24
  have h32 : eget e28 5 = .int .i64 s1_2 := envp he29 rfl h26
  have h33 : eget e28 9 = .bool (decide (s1_2 < 0)) := envp he29 rfl rfl
  clear h22 h24 h26
  refine Ev.kseqN ?_
  rcases ite_some h with ⟨hb34, h⟩ | ⟨hb34, h⟩
  · refine Ev.condT h33 hb34 ?_
    refine Ev.ex ?_
    refine Ev.kseqN ?_
    refine Ev.seq ?_
    refine Ev.blk ?_
    refine Ev.seq ?_
    refine Ev.reg (fun _ => rfl) ?_
    refine Ev.nxk (mvO h30) ?_
    refine Ev.nxk (mvO h32) ?_
    refine Ev.nxk (mvO h31) ?_
    cases h
  · refine Ev.condF h33 hb34 ?_
    refine Ev.ex ?_
    refine Ev.kseqE ?_
    cases h
    exact Ev.kid (bQ_x (RS := (laws_markInt64S_2_b1_RS M0)) (RR := (laws_markInt64S_2_b1_RR M0)) (by intro h; cases h) (And.intro rfl (And.intro h31 fr27)))
noncomputable def laws_markInt64S_2 (a1 : Int) : Option Int :=
  (Lw (laws_markInt64S_2_b1) (a1, 0)).bind fun y40 =>
  some y40
def laws_markInt64S_2_Q (a1 : Int) (M0 : Mem) (r : Int) (p : AV × Mem) : Prop := p.1 = .int .i64 r ∧ Fr [] M0 p.2
theorem laws_markInt64S_2_ok (a1 : Int) (M0 : Mem) (r : Int) (h : laws_markInt64S_2 a1 = some r) : Ev (fun k => CN k 16 [.nils, .int .i64 a1] M0) (laws_markInt64S_2_Q a1 M0 r) := by
  unfold laws_markInt64S_2 at h
  have fr0 : Fr [] M0 M0 := Fr.refl
  refine Ev.enter (F := fun k => f16 (CN k) k) (fun k => callN_eq rfl Try.func16 rfl rfl rfl (by decide +kernel) (f16_eq _ _)) ?_
  refine Ev.seq ?_
  refine Ev.reg (fun _ => rfl) ?_
  refine Ev.nxk (mvO rfl) ?_
  refine Ev.rend ?_
  intro e1 he2
  have h3 : eget e1 0 = .nils := envp he2 rfl rfl
  have h4 : eget e1 1 = .int .i64 a1 := envp he2 rfl rfl
  refine Ev.kseqN ?_
  refine Ev.seq ?_
  refine Ev.seq ?_
  refine Ev.reg (fun _ => rfl) ?_
  refine Ev.nxk (mvO rfl) ?_
  refine Ev.rend ?_
  intro e5 he6
  have h7 : eget e5 0 = .nils := envp he6 rfl h3
  have h8 : eget e5 1 = .int .i64 a1 := envp he6 rfl h4
  have h9 : eget e5 5 = .int .i64 0 := envp he6 rfl rfl
  clear h3 h4
  refine Ev.kseqN ?_
  refine Ev.blk ?_
  obtain ⟨y40, hr36, h⟩ := bind_some h
  refine Ev.loop (RS := laws_markInt64S_2_b1_RS M0) (RR := laws_markInt64S_2_b1_RR M0) (fun s r h e M hs => laws_markInt64S_2_b1_ok M0 s r h e M hs) hr36 (And.intro h7 (And.intro h8 (And.intro h9 fr0))) ?_
  intro x e38 M39 hq37
  obtain ⟨rfl, h41, fr42⟩ := hq37
  refine Ev.kblkE ?_
  refine Ev.kseqN ?_
  refine Ev.seq ?_
  refine Ev.reg (fun _ => rfl) ?_
  refine Ev.nxk (mvO h41) ?_
  refine Ev.nxk (mvO rfl) ?_
  refine Ev.rend ?_
  intro e43 he44
  have h45 : eget e43 4 = .int .i64 y40 := envp he44 rfl rfl
  clear h41
  refine Ev.kseqN ?_
  refine Ev.ex ?_
  cases h
  exact Ev.kendR (resT h45 res0) (And.intro rfl fr42)
/-! ### loop.example/g01263/laws.FnExactShareOut (f4) -/
def laws_FnExactShareOut_c1_Q (a1 : Int) (a2 : List Int) (r17 : List Int) (r18 : Int) (r26 : List Int) (i901_1 : Nat) (g : Bool) (q : Out) : Prop := q.1 = .nrm ∧ eget q.2.1 0 = .int .i64 a1 ∧ eget q.2.1 1 = .sl none (a2.map (cI .i64)) ∧ eget q.2.1 5 = .sl (some 2) (r17.map (cI .i64)) ∧ eget q.2.1 6 = .int .i64 r18 ∧ eget q.2.1 7 = .lsl i901_1 r26.length 0 r26.length ∧ eget q.2.1 8 = .nils ∧ eget q.2.1 9 = .int .i64 2 ∧ eget q.2.1 41 = .bool g ∧ q.2.2[i901_1]? = some (.live ⟨.grow, 2, 1, r26.map (cI .i64)⟩)
def laws_FnExactShareOut_c2_Q (a1 : Int) (a2 : List Int) (r17 : List Int) (r18 : Int) (g : Bool) (q : Out) : Prop := q.1 = .nrm ∧ eget q.2.1 0 = .int .i64 a1 ∧ eget q.2.1 1 = .sl none (a2.map (cI .i64)) ∧ eget q.2.1 5 = .sl (some 2) (r17.map (cI .i64)) ∧ eget q.2.1 6 = .int .i64 r18 ∧ eget q.2.1 8 = .nils ∧ eget q.2.1 62 = .bool g
def laws_FnExactShareOut_c3_Q (r184 : Int) (g : Bool) (q : Out) : Prop := q.1 = .nrm ∧ eget q.2.1 8 = .nils ∧ eget q.2.1 11 = .int .i64 r184 ∧ eget q.2.1 89 = .bool g
def laws_FnExactShareOut_c4_Q (r184 : Int) (g : Bool) (q : Out) : Prop := q.1 = .nrm ∧ eget q.2.1 8 = .nils ∧ eget q.2.1 11 = .int .i64 r184 ∧ eget q.2.1 89 = .bool g
def laws_FnExactShareOut_c5_Q (a1 : Int) (a2 : List Int) (r17 : List Int) (r18 : Int) (r26 : List Int) (r386 : List Int) (i905_1 : Nat) (i905_2 : Nat) (g : Bool) (q : Out) : Prop := q.1 = .nrm ∧ eget q.2.1 0 = .int .i64 a1 ∧ eget q.2.1 1 = .sl none (a2.map (cI .i64)) ∧ eget q.2.1 5 = .sl (some 2) (r17.map (cI .i64)) ∧ eget q.2.1 6 = .int .i64 r18 ∧ eget q.2.1 7 = .lsl i905_1 r26.length 0 r26.length ∧ eget q.2.1 8 = .lsl i905_2 r386.length 0 r386.length ∧ eget q.2.1 9 = .int .i64 0 ∧ eget q.2.1 41 = .bool g ∧ q.2.2[i905_1]? = some (.live ⟨.grow, 2, 1, r26.map (cI .i64)⟩) ∧ q.2.2[i905_2]? = some (.live ⟨.grow, 2, 1, r386.map (cI .i64)⟩)
def laws_FnExactShareOut_c6_Q (a1 : Int) (a2 : List Int) (r17 : List Int) (r18 : Int) (r386 : List Int) (i906_1 : Nat) (g : Bool) (q : Out) : Prop := q.1 = .nrm ∧ eget q.2.1 0 = .int .i64 a1 ∧ eget q.2.1 1 = .sl none (a2.map (cI .i64)) ∧ eget q.2.1 5 = .sl (some 2) (r17.map (cI .i64)) ∧ eget q.2.1 6 = .int .i64 r18 ∧ eget q.2.1 8 = .lsl i906_1 r386.length 0 r386.length ∧ eget q.2.1 62 = .bool g ∧ q.2.2[i906_1]? = some (.live ⟨.grow, 2, 1, r386.map (cI .i64)⟩)
def laws_FnExactShareOut_c7_Q (r538 : Int) (r539 : List Int) (i907_1 : Nat) (g : Bool) (q : Out) : Prop := q.1 = .nrm ∧ eget q.2.1 8 = .lsl i907_1 r539.length 0 r539.length ∧ eget q.2.1 11 = .int .i64 r538 ∧ eget q.2.1 89 = .bool g ∧ q.2.2[i907_1]? = some (.live ⟨.grow, 2, 1, r539.map (cI .i64)⟩)
def laws_FnExactShareOut_c8_Q (r538 : Int) (r539 : List Int) (i908_1 : Nat) (g : Bool) (q : Out) : Prop := q.1 = .nrm ∧ eget q.2.1 8 = .lsl i908_1 r539.length 0 r539.length ∧ eget q.2.1 11 = .int .i64 r538 ∧ eget q.2.1 89 = .bool g ∧ q.2.2[i908_1]? = some (.live ⟨.grow, 2, 1, r539.map (cI .i64)⟩)
noncomputable def laws_FnExactShareOut (a1 : Int) (a2 : List Int) : Option Bool :=
  if (decide ((a2.length : Int) > 1048576)) = true then
    some true
  else
    (laws_toInt64S a2).bind fun r15 =>
    (spec_ShareOut a1 r15).bind fun (r17, r18) =>
    (laws_toInt64S a2).bind fun r26 =>
    (impl_ShareOut a1 r26).bind fun r => match r with
    | (.inl _) =>
      ((laws_eqInt64S ([] : List Int) r17).bind fun r52 =>
      if r52 = true then
        some (2 != r18)
      else
        some true).bind fun y76 =>
      if y76 = true then
        some false
      else
        (laws_toInt64S a2).bind fun r91 =>
        (laws_eqInt64S r26 r91).bind fun r93 =>
        if r93 = true then
          (laws_markInt64S r26 1).bind fun (r116, r117) =>
          (if (decide (r116 < 0)) = true then
            some true
          else
            (laws_eqInt64S ([] : List Int) r17).bind fun r144 =>
            if r144 = true then
              some (2 != r18)
            else
              some true).bind fun y164 =>
          if y164 = true then
            some false
          else
            (laws_markInt64S_2 1).bind fun r184 =>
            (laws_heldInt64S ([] : List Int) 1).bind fun r207 =>
            if (decide (r207 < 0)) = true then
              some false
            else
              if (r207 != r184) = true then
                some false
              else
                (laws_toInt64S a2).bind fun r245 =>
                (impl_ShareOut a1 r245).bind fun r => match r with
                | (.inl _) =>
                  ((laws_eqInt64S ([] : List Int) r17).bind fun r256 =>
                  if r256 = true then
                    some (2 != r18)
                  else
                    some true).bind fun y270 =>
                  if y270 = true then
                    some false
                  else
                    (laws_heldInt64S ([] : List Int) 1).bind fun r284 =>
                    if (decide (r284 < 0)) = true then
                      some false
                    else
                      if (r284 != r184) = true then
                        some false
                      else
                        some true
                | (.inr r311) =>
                  ((laws_eqInt64S r311 r17).bind fun r321 =>
                  if r321 = true then
                    some (0 != r18)
                  else
                    some true).bind fun y335 =>
                  if y335 = true then
                    some false
                  else
                    (laws_heldInt64S ([] : List Int) 1).bind fun r349 =>
                    if (decide (r349 < 0)) = true then
                      some false
                    else
                      if (r349 != r184) = true then
                        some false
                      else
                        some true
        else
          some false
    | (.inr r386) =>
      ((laws_eqInt64S r386 r17).bind fun r403 =>
      if r403 = true then
        some (0 != r18)
      else
        some true).bind fun y427 =>
      if y427 = true then
        some false
      else
        (laws_toInt64S a2).bind fun r443 =>
        (laws_eqInt64S r26 r443).bind fun r445 =>
        if r445 = true then
          (laws_markInt64S r26 1).bind fun (r468, r469) =>
          (if (decide (r468 < 0)) = true then
            some true
          else
            (laws_eqInt64S r386 r17).bind fun r497 =>
            if r497 = true then
              some (0 != r18)
            else
              some true).bind fun y517 =>
          if y517 = true then
            some false
          else
            (laws_markInt64S r386 1).bind fun (r538, r539) =>
            (laws_heldInt64S r539 1).bind fun r565 =>
            if (decide (r565 < 0)) = true then
              some false
            else
              if (r565 != r538) = true then
                some false
              else
                (laws_toInt64S a2).bind fun r603 =>
                (impl_ShareOut a1 r603).bind fun r => match r with
                | (.inl _) =>
                  ((laws_eqInt64S ([] : List Int) r17).bind fun r614 =>
                  if r614 = true then
                    some (2 != r18)
                  else
                    some true).bind fun y628 =>
                  if y628 = true then
                    some false
                  else
                    (laws_heldInt64S r539 1).bind fun r643 =>
                    if (decide (r643 < 0)) = true then
                      some false
                    else
                      if (r643 != r538) = true then
                        some false
                      else
                        some true
                | (.inr r670) =>
                  ((laws_eqInt64S r670 r17).bind fun r680 =>
                  if r680 = true then
                    some (0 != r18)
                  else
                    some true).bind fun y694 =>
                  if y694 = true then
                    some false
                  else
                    (laws_heldInt64S r539 1).bind fun r709 =>
                    if (decide (r709 < 0)) = true then
                      some false
                    else
                      if (r709 != r538) = true then
                        some false
                      else
                        some true
        else
          some false
def laws_FnExactShareOut_enc (r : Bool) : AV := .bool r
theorem laws_FnExactShareOut_ok (a1 : Int) (a2 : List Int) (r : Bool) (h : laws_FnExactShareOut a1 a2 = some r) : Ev (fun k => CN k 4 [.int .i64 a1, .sl none (a2.map (cI .i64))] []) (fun p => rRes p.2 p.1 = laws_FnExactShareOut_enc r) := by
  unfold laws_FnExactShareOut at h
  refine Ev.enter (F := fun k => f4 (CN k) k) (fun k => callN_eq rfl Try.func4 rfl rfl rfl (by decide +kernel) (f4_eq _ _)) ?_
  refine Ev.seq ?_
  refine Ev.reg (fun _ => rfl) ?_
  refine Ev.nxk (mvO rfl) ?_
  refine Ev.rend ?_
  intro e1 he2
  have h3 : eget e1 0 = .int .i64 a1 := envp he2 rfl rfl
  have h4 : eget e1 1 = .sl none (a2.map (cI .i64)) := envp he2 rfl rfl
  refine Ev.kseqN ?_
  refine Ev.seq ?_
  refine Ev.seq ?_
  refine Ev.reg (fun _ => rfl) ?_
  refine Ev.nxk (mvO h4) ?_
  refine Ev.nxk (lnS Try.underlying29 rfl) ?_
  refine Ev.nxk (bGtr rfl rfl) ?_
  refine Ev.rend ?_
  intro e5 he6
  have h7 : eget e5 0 = .int .i64 a1 := envp he6 rfl h3
  have h8 : eget e5 1 = .sl none (a2.map (cI .i64)) := envp he6 rfl h4
  have h9 : eget e5 17 = .bool (decide ((a2.length : Int) > 1048576)) := envp he6 rfl rfl
  clear h3 h4
  refine Ev.kseqN ?_
  rcases ite_some h with ⟨hb10, h⟩ | ⟨hb10, h⟩
  · refine Ev.condT h9 hb10 ?_
    refine Ev.seq ?_
    refine Ev.reg (fun _ => rfl) ?_
    refine Ev.nxk (mvO rfl) ?_
    refine Ev.rend ?_
    intro e11 he12
    have h13 : eget e11 4 = .bool true := envp he12 rfl rfl
    clear h7 h8 h9
    refine Ev.kseqN ?_
    refine Ev.ex ?_
    refine Ev.kseqR ?_
    cases h
    exact Ev.kendR (resT h13 res0) rfl
  · refine Ev.condF h9 hb10 ?_
    refine Ev.ex ?_
    refine Ev.kseqN ?_
    refine Ev.seq ?_
    refine Ev.reg (fun _ => rfl) ?_
    refine Ev.nxk (mvO h7) ?_
    refine Ev.nxk (mvO h8) ?_
    obtain ⟨r15, hx14, h⟩ := bind_some h
    refine Ev.nxck (Ev.call (v := .sl (some 2) (r15.map (cI .i64))) rfl (cns rfl rfl) rfl (laws_toInt64S_ok a2 _ hx14) (fun h => nomatch (show false = true from h))) ?_
    obtain ⟨⟨r17, r18⟩, hx16, h⟩ := bind_some h
    refine Ev.nxck (Ev.call (v := .tup [.sl (some 2) (r17.map (cI .i64)), .int .i64 r18]) rfl (cns rfl (cns rfl rfl)) rfl (spec_ShareOut_ok a1 r15 _ hx16) (fun h => nomatch (show false = true from h))) ?_
    refine Ev.nxk (mvO rfl) ?_
    refine Ev.nxk (exT rfl rfl) ?_
    refine Ev.nxk (exT rfl rfl) ?_
    refine Ev.nxk (mvO rfl) ?_
    refine Ev.nxk (mvO rfl) ?_
    refine Ev.rend ?_
    intro e19 he20
    have h21 : eget e19 0 = .int .i64 a1 := envp he20 rfl h7
    have h22 : eget e19 1 = .sl none (a2.map (cI .i64)) := envp he20 rfl h8
    have h23 : eget e19 5 = .sl (some 2) (r17.map (cI .i64)) := envp he20 rfl rfl
    have h24 : eget e19 6 = .int .i64 r18 := envp he20 rfl rfl
    clear h7 h8 h9
    refine Ev.kseqN ?_
    refine Ev.seq ?_
    refine Ev.reg (fun _ => rfl) ?_
    refine Ev.nxk (mvO h22) ?_
    obtain ⟨r26, hx25, h⟩ := bind_some h
    refine Ev.nxcp (Ev.callT (v := .sl (some 2) (r26.map (cI .i64))) rfl (cns rfl rfl) rfl (laws_toInt64S_ok a2 _ hx25) (th_gen (v' := .lsl ([] : Mem).length r26.length 0 r26.length) (l := [⟨.grow, 2, 1, r26.map (cI .i64)⟩]) (ownA_row (c := (cI .i64)) (fun _ => rfl)) (by simp [thaw, thaw2, thaw1, thawL, co2]) rfl rfl)) ?_
    intro M28 hM29
    have o30 : M28[([] : Mem).length]? = some (.live ⟨.grow, 2, 1, r26.map (cI .i64)⟩) := push_at hM29 0 rfl
    refine Ev.nxk (mvO rfl) ?_
    refine Ev.rend ?_
    intro e31 he32
    have h33 : eget e31 0 = .int .i64 a1 := envp he32 rfl h21
    have h34 : eget e31 1 = .sl none (a2.map (cI .i64)) := envp he32 rfl h22
    have h35 : eget e31 5 = .sl (some 2) (r17.map (cI .i64)) := envp he32 rfl h23
    have h36 : eget e31 6 = .int .i64 r18 := envp he32 rfl h24
    have h37 : eget e31 7 = .lsl ([] : Mem).length r26.length 0 r26.length := envp he32 rfl rfl
    clear h21 h22 h23 h24
    refine Ev.kseqN ?_
    refine Ev.seq ?_
    refine Ev.reg (fun _ => rfl) ?_
    refine Ev.nxk (mvO h33) ?_
    refine Ev.nxk (mvO h37) ?_
    obtain ⟨q746, hx38, h⟩ := bind_some h
    rcases q746 with _ | r386
    · refine Ev.nxcp (Ev.callT (v := .tup [.nils, .int .i64 2]) rfl (cns rfl (cns rfl rfl)) (ra1 rfl (ra1 (ra1_row o30 (cI_fl _)) ra0)) (impl_ShareOut_ok a1 r26 _ hx38) (th_gen (v' := .tup [.nils, .int .i64 2]) (l := []) (own_tup (oa1 rfl (oa1 rfl oa0))) (by simp [thaw, thaw2, thaw1, thawL, thaw]) rfl rfl)) ?_
      intro M39 hM40
      have o41 := push_old hM40 o30
      refine Ev.nxk (mvO rfl) ?_
      refine Ev.nxk (exT rfl rfl) ?_
      refine Ev.nxk (exT rfl rfl) ?_
      refine Ev.nxk (mvO rfl) ?_
      refine Ev.nxk (mvO rfl) ?_
      refine Ev.rend ?_
      intro e42 he43
      have h44 : eget e42 0 = .int .i64 a1 := envp he43 rfl h33
      have h45 : eget e42 1 = .sl none (a2.map (cI .i64)) := envp he43 rfl h34
      have h46 : eget e42 5 = .sl (some 2) (r17.map (cI .i64)) := envp he43 rfl h35
      have h47 : eget e42 6 = .int .i64 r18 := envp he43 rfl h36
      have h48 : eget e42 7 = .lsl ([] : Mem).length r26.length 0 r26.length := envp he43 rfl h37
      have h49 : eget e42 8 = .nils := envp he43 rfl rfl
      have h50 : eget e42 9 = .int .i64 2 := envp he43 rfl rfl
      clear h33 h34 h35 h36 h37
      refine Ev.kseqN ?_
      refine Ev.seq ?_
      refine Ev.seq ?_
      obtain ⟨r384, hr385, h⟩ := bind_some h
      refine Ev.cut (Q1 := laws_FnExactShareOut_c1_Q a1 a2 r17 r18 r26 (([] : Mem).length) r384) (by
          have h := hr385
          refine Ev.reg (fun _ => rfl) ?_
          refine Ev.nxk (mvO h49) ?_
          refine Ev.nxk (mvO h46) ?_
          obtain ⟨r52, hx51, h⟩ := bind_some h
          refine Ev.nxck (Ev.call (v := .bool r52) rfl (cns rfl (cns rfl rfl)) rfl (laws_eqInt64S_ok ([] : List Int) r17 _ hx51) (fun h => nomatch (show false = true from h))) ?_
          refine Ev.nxk (uNot rfl) ?_
          refine Ev.nxk (mvO rfl) ?_
          rcases ite_some h with ⟨hb53, h⟩ | ⟨hb53, h⟩
          · refine Ev.nxk (guF rfl (congrArg Bool.not hb53) (mvO h50)) ?_
            refine Ev.nxk (guF rfl (congrArg Bool.not hb53) (mvO h47)) ?_
            refine Ev.nxk (guF rfl (congrArg Bool.not hb53) (bNeq rfl rfl)) ?_
            refine Ev.nxk (pkF rfl (congrArg Bool.not hb53) rfl) ?_
            refine Ev.rend ?_
            intro e54 he55
            have h56 : eget e54 0 = .int .i64 a1 := envp he55 rfl h44
            have h57 : eget e54 1 = .sl none (a2.map (cI .i64)) := envp he55 rfl h45
            have h58 : eget e54 5 = .sl (some 2) (r17.map (cI .i64)) := envp he55 rfl h46
            have h59 : eget e54 6 = .int .i64 r18 := envp he55 rfl h47
            have h60 : eget e54 7 = .lsl ([] : Mem).length r26.length 0 r26.length := envp he55 rfl h48
            have h61 : eget e54 8 = .nils := envp he55 rfl h49
            have h62 : eget e54 9 = .int .i64 2 := envp he55 rfl h50
            have h63 : eget e54 41 = .bool (2 != r18) := envp he55 rfl rfl
            clear h44 h45 h46 h47 h48 h49 h50
            cases h
            exact Ev.kid (show laws_FnExactShareOut_c1_Q a1 a2 r17 r18 r26 (([] : Mem).length) _ _ from (And.intro rfl (And.intro h56 (And.intro h57 (And.intro h58 (And.intro h59 (And.intro h60 (And.intro h61 (And.intro h62 (And.intro h63 o41))))))))))
          · refine Ev.nxk (gsF rfl (congrArg Bool.not hb53)) ?_
            refine Ev.nxk (gsF rfl (congrArg Bool.not hb53)) ?_
            refine Ev.nxk (gsF rfl (congrArg Bool.not hb53)) ?_
            refine Ev.nxk (pkT rfl (congrArg Bool.not hb53) rfl) ?_
            refine Ev.rend ?_
            intro e64 he65
            have h66 : eget e64 0 = .int .i64 a1 := envp he65 rfl h44
            have h67 : eget e64 1 = .sl none (a2.map (cI .i64)) := envp he65 rfl h45
            have h68 : eget e64 5 = .sl (some 2) (r17.map (cI .i64)) := envp he65 rfl h46
            have h69 : eget e64 6 = .int .i64 r18 := envp he65 rfl h47
            have h70 : eget e64 7 = .lsl ([] : Mem).length r26.length 0 r26.length := envp he65 rfl h48
            have h71 : eget e64 8 = .nils := envp he65 rfl h49
            have h72 : eget e64 9 = .int .i64 2 := envp he65 rfl h50
            have h73 : eget e64 41 = .bool true := envp he65 rfl rfl
            clear h44 h45 h46 h47 h48 h49 h50
            cases h
            exact Ev.kid (show laws_FnExactShareOut_c1_Q a1 a2 r17 r18 r26 (([] : Mem).length) _ _ from (And.intro rfl (And.intro h66 (And.intro h67 (And.intro h68 (And.intro h69 (And.intro h70 (And.intro h71 (And.intro h72 (And.intro h73 o41))))))))))) ?_
      revert h hr385
      revert r384
      intro y76 hr385 h
      intro x e74 M75 hq383
      obtain ⟨rfl, h77, h78, h79, h80, h81, h82, h83, h84, o85⟩ := hq383
      refine Ev.kseqN ?_
      rcases ite_some h with ⟨hb86, h⟩ | ⟨hb86, h⟩
      · refine Ev.condT h84 hb86 ?_
        refine Ev.seq ?_
        refine Ev.reg (fun _ => rfl) ?_
        refine Ev.nxk (mvO rfl) ?_
        refine Ev.rend ?_
        intro e87 he88
        have h89 : eget e87 4 = .bool false := envp he88 rfl rfl
        clear h77 h78 h79 h80 h81 h82 h83 h84
        refine Ev.kseqN ?_
        refine Ev.ex ?_
        refine Ev.kseqR ?_
        cases h
        exact Ev.kendR (resT h89 res0) rfl
      · refine Ev.condF h84 hb86 ?_
        refine Ev.ex ?_
        refine Ev.kseqN ?_
        refine Ev.seq ?_
        refine Ev.seq ?_
        refine Ev.reg (fun _ => rfl) ?_
        refine Ev.nxk (mvO h81) ?_
        refine Ev.nxk (mvO h78) ?_
        obtain ⟨r91, hx90, h⟩ := bind_some h
        refine Ev.nxck (Ev.call (v := .sl (some 2) (r91.map (cI .i64))) rfl (cns rfl rfl) rfl (laws_toInt64S_ok a2 _ hx90) (fun h => nomatch (show false = true from h))) ?_
        obtain ⟨r93, hx92, h⟩ := bind_some h
        refine Ev.nxck (Ev.call (v := .bool r93) rfl (cns rfl (cns rfl rfl)) (ra1 (ra1_row o85 (cI_fl _)) (ra1 rfl ra0)) (laws_eqInt64S_ok r26 r91 _ hx92) (fun _ => rfl)) ?_
        refine Ev.nxk (uNot rfl) ?_
        refine Ev.rend ?_
        intro e94 he95
        have h96 : eget e94 0 = .int .i64 a1 := envp he95 rfl h77
        have h97 : eget e94 1 = .sl none (a2.map (cI .i64)) := envp he95 rfl h78
        have h98 : eget e94 5 = .sl (some 2) (r17.map (cI .i64)) := envp he95 rfl h79
        have h99 : eget e94 6 = .int .i64 r18 := envp he95 rfl h80
        have h100 : eget e94 7 = .lsl ([] : Mem).length r26.length 0 r26.length := envp he95 rfl h81
        have h101 : eget e94 8 = .nils := envp he95 rfl h82
        have h102 : eget e94 9 = .int .i64 2 := envp he95 rfl h83
        have h103 : eget e94 46 = .bool (!r93) := envp he95 rfl rfl
        clear h77 h78 h79 h80 h81 h82 h83 h84
        refine Ev.kseqN ?_
        rcases ite_some h with ⟨hb104, h⟩ | ⟨hb104, h⟩
        · refine Ev.condF h103 (congrArg Bool.not hb104) ?_
          refine Ev.ex ?_
          refine Ev.kseqN ?_
          refine Ev.seq ?_
          refine Ev.reg (fun _ => rfl) ?_
          refine Ev.nxk (mvO rfl) ?_
          refine Ev.rend ?_
          intro e105 he106
          have h107 : eget e105 0 = .int .i64 a1 := envp he106 rfl h96
          have h108 : eget e105 1 = .sl none (a2.map (cI .i64)) := envp he106 rfl h97
          have h109 : eget e105 5 = .sl (some 2) (r17.map (cI .i64)) := envp he106 rfl h98
          have h110 : eget e105 6 = .int .i64 r18 := envp he106 rfl h99
          have h111 : eget e105 7 = .lsl ([] : Mem).length r26.length 0 r26.length := envp he106 rfl h100
          have h112 : eget e105 8 = .nils := envp he106 rfl h101
          have h113 : eget e105 9 = .int .i64 2 := envp he106 rfl h102
          have h114 : eget e105 10 = .int .i64 1 := envp he106 rfl rfl
          clear h100 h101 h102 h103 h96 h97 h98 h99
          refine Ev.kseqN ?_
          refine Ev.seq ?_
          refine Ev.reg (fun _ => rfl) ?_
          refine Ev.nxk (mvO h111) ?_
          refine Ev.nxk (mvO h114) ?_
          obtain ⟨⟨r116, r117⟩, hx115, h⟩ := bind_some h
          refine Ev.nxw (Ev.callW rfl (cns rfl (cns rfl rfl)) (laws_markInt64S_ok r26 1 (([] : Mem).length) M75 o85 _ hx115)) ?_
          intro v120 M118 hq119
          obtain ⟨hv120, o121, fr122, hl123⟩ := hq119
          have hv120 : v120 = .int .i64 r116 := hv120
          subst hv120
          have o124 : M118[([] : Mem).length]? = some (.live ⟨.grow, 2, 1, r117.map (cI .i64)⟩) := o121
          have hl123 : r117.length = r26.length := hl123
          refine Ev.nxk (mvO rfl) ?_
          refine Ev.rend ?_
          intro e125 he126
          have h127 : eget e125 0 = .int .i64 a1 := envp he126 rfl h107
          have h128 : eget e125 1 = .sl none (a2.map (cI .i64)) := envp he126 rfl h108
          have h129 : eget e125 5 = .sl (some 2) (r17.map (cI .i64)) := envp he126 rfl h109
          have h130 : eget e125 6 = .int .i64 r18 := envp he126 rfl h110
          have h131 : eget e125 8 = .nils := envp he126 rfl h112
          have h132 : eget e125 9 = .int .i64 2 := envp he126 rfl h113
          have h133 : eget e125 10 = .int .i64 r116 := envp he126 rfl rfl
          clear h107 h108 h109 h110 h111 h112 h113
          refine Ev.kseqN ?_
          refine Ev.seq ?_
          refine Ev.seq ?_
          obtain ⟨r378, hr379, h⟩ := bind_some h
          refine Ev.cut (Q1 := laws_FnExactShareOut_c2_Q a1 a2 r17 r18 r378) (by
              have h := hr379
              refine Ev.reg (fun _ => rfl) ?_
              refine Ev.nxk (mvO h133) ?_
              refine Ev.nxk (bLss rfl rfl) ?_
              refine Ev.nxk (mvO rfl) ?_
              rcases ite_some h with ⟨hb134, h⟩ | ⟨hb134, h⟩
              · refine Ev.nxk (gsF rfl hb134) ?_
                refine Ev.nxk (gsF rfl hb134) ?_
                refine Ev.nxck (Ev.gsF rfl hb134) ?_
                refine Ev.nxk (gsF rfl hb134) ?_
                refine Ev.nxk (pkT rfl hb134 rfl) ?_
                refine Ev.nxk (mvO rfl) ?_
                refine Ev.nxk (gsF rfl rfl) ?_
                refine Ev.nxk (gsF rfl rfl) ?_
                refine Ev.nxk (gsF rfl rfl) ?_
                refine Ev.nxk (pkT rfl rfl rfl) ?_
                refine Ev.rend ?_
                intro e135 he136
                have h137 : eget e135 0 = .int .i64 a1 := envp he136 rfl h127
                have h138 : eget e135 1 = .sl none (a2.map (cI .i64)) := envp he136 rfl h128
                have h139 : eget e135 5 = .sl (some 2) (r17.map (cI .i64)) := envp he136 rfl h129
                have h140 : eget e135 6 = .int .i64 r18 := envp he136 rfl h130
                have h141 : eget e135 8 = .nils := envp he136 rfl h131
                have h142 : eget e135 62 = .bool true := envp he136 rfl rfl
                clear h127 h128 h129 h130 h131 h132 h133
                cases h
                exact Ev.kid (show laws_FnExactShareOut_c2_Q a1 a2 r17 r18 _ _ from (And.intro rfl (And.intro h137 (And.intro h138 (And.intro h139 (And.intro h140 (And.intro h141 h142)))))))
              · refine Ev.nxk (guF rfl hb134 (mvO h131)) ?_
                refine Ev.nxk (guF rfl hb134 (mvO h129)) ?_
                obtain ⟨r144, hx143, h⟩ := bind_some h
                refine Ev.nxck (Ev.guF rfl hb134 (Ev.call (v := .bool r144) rfl (cns rfl (cns rfl rfl)) rfl (laws_eqInt64S_ok ([] : List Int) r17 _ hx143) (fun h => nomatch (show false = true from h)))) ?_
                refine Ev.nxk (guF rfl hb134 (uNot rfl)) ?_
                refine Ev.nxk (pkF rfl hb134 rfl) ?_
                refine Ev.nxk (mvO rfl) ?_
                rcases ite_some h with ⟨hb145, h⟩ | ⟨hb145, h⟩
                · refine Ev.nxk (guF rfl (congrArg Bool.not hb145) (mvO h132)) ?_
                  refine Ev.nxk (guF rfl (congrArg Bool.not hb145) (mvO h130)) ?_
                  refine Ev.nxk (guF rfl (congrArg Bool.not hb145) (bNeq rfl rfl)) ?_
                  refine Ev.nxk (pkF rfl (congrArg Bool.not hb145) rfl) ?_
                  refine Ev.rend ?_
                  intro e146 he147
                  have h148 : eget e146 0 = .int .i64 a1 := envp he147 rfl h127
                  have h149 : eget e146 1 = .sl none (a2.map (cI .i64)) := envp he147 rfl h128
                  have h150 : eget e146 5 = .sl (some 2) (r17.map (cI .i64)) := envp he147 rfl h129
                  have h151 : eget e146 6 = .int .i64 r18 := envp he147 rfl h130
                  have h152 : eget e146 8 = .nils := envp he147 rfl h131
                  have h153 : eget e146 62 = .bool (2 != r18) := envp he147 rfl rfl
                  clear h127 h128 h129 h130 h131 h132 h133
                  cases h
                  exact Ev.kid (show laws_FnExactShareOut_c2_Q a1 a2 r17 r18 _ _ from (And.intro rfl (And.intro h148 (And.intro h149 (And.intro h150 (And.intro h151 (And.intro h152 h153)))))))
                · refine Ev.nxk (gsF rfl (congrArg Bool.not hb145)) ?_
                  refine Ev.nxk (gsF rfl (congrArg Bool.not hb145)) ?_
                  refine Ev.nxk (gsF rfl (congrArg Bool.not hb145)) ?_
                  refine Ev.nxk (pkT rfl (congrArg Bool.not hb145) rfl) ?_
                  refine Ev.rend ?_
                  intro e154 he155
                  have h156 : eget e154 0 = .int .i64 a1 := envp he155 rfl h127
                  have h157 : eget e154 1 = .sl none (a2.map (cI .i64)) := envp he155 rfl h128
                  have h158 : eget e154 5 = .sl (some 2) (r17.map (cI .i64)) := envp he155 rfl h129
                  have h159 : eget e154 6 = .int .i64 r18 := envp he155 rfl h130
                  have h160 : eget e154 8 = .nils := envp he155 rfl h131
                  have h161 : eget e154 62 = .bool true := envp he155 rfl rfl
                  clear h127 h128 h129 h130 h131 h132 h133
                  cases h
                  exact Ev.kid (show laws_FnExactShareOut_c2_Q a1 a2 r17 r18 _ _ from (And.intro rfl (And.intro h156 (And.intro h157 (And.intro h158 (And.intro h159 (And.intro h160 h161)))))))) ?_
          revert h hr379
          revert r378
          intro y164 hr379 h
          intro x e162 M163 hq377
          obtain ⟨rfl, h165, h166, h167, h168, h169, h170⟩ := hq377
          refine Ev.kseqN ?_
          rcases ite_some h with ⟨hb171, h⟩ | ⟨hb171, h⟩
          · refine Ev.condT h170 hb171 ?_
            refine Ev.seq ?_
            refine Ev.reg (fun _ => rfl) ?_
            refine Ev.nxk (mvO rfl) ?_
            refine Ev.rend ?_
            intro e172 he173
            have h174 : eget e172 4 = .bool false := envp he173 rfl rfl
            clear h165 h166 h167 h168 h169 h170
            refine Ev.kseqN ?_
            refine Ev.ex ?_
            refine Ev.kseqR ?_
            cases h
            exact Ev.kendR (resT h174 res0) rfl
          · refine Ev.condF h170 hb171 ?_
            refine Ev.ex ?_
            refine Ev.kseqN ?_
            refine Ev.seq ?_
            refine Ev.reg (fun _ => rfl) ?_
            refine Ev.nxk (mvO rfl) ?_
            refine Ev.rend ?_
            intro e175 he176
            have h177 : eget e175 0 = .int .i64 a1 := envp he176 rfl h165
            have h178 : eget e175 1 = .sl none (a2.map (cI .i64)) := envp he176 rfl h166
            have h179 : eget e175 5 = .sl (some 2) (r17.map (cI .i64)) := envp he176 rfl h167
            have h180 : eget e175 6 = .int .i64 r18 := envp he176 rfl h168
            have h181 : eget e175 8 = .nils := envp he176 rfl h169
            have h182 : eget e175 11 = .int .i64 1 := envp he176 rfl rfl
            clear h165 h166 h167 h168 h169 h170
            refine Ev.kseqN ?_
            refine Ev.seq ?_
            refine Ev.reg (fun _ => rfl) ?_
            refine Ev.nxk (mvO h181) ?_
            refine Ev.nxk (mvO h182) ?_
            obtain ⟨r184, hx183, h⟩ := bind_some h
            refine Ev.nxw (Ev.callW rfl (cns rfl (cns rfl rfl)) (laws_markInt64S_2_ok 1 M163 _ hx183)) ?_
            intro v187 M185 hq186
            obtain ⟨hv187, fr188⟩ := hq186
            have hv187 : v187 = .int .i64 r184 := hv187
            subst hv187
            refine Ev.nxk (mvO rfl) ?_
            refine Ev.rend ?_
            intro e189 he190
            have h191 : eget e189 0 = .int .i64 a1 := envp he190 rfl h177
            have h192 : eget e189 1 = .sl none (a2.map (cI .i64)) := envp he190 rfl h178
            have h193 : eget e189 5 = .sl (some 2) (r17.map (cI .i64)) := envp he190 rfl h179
            have h194 : eget e189 6 = .int .i64 r18 := envp he190 rfl h180
            have h195 : eget e189 8 = .nils := envp he190 rfl h181
            have h196 : eget e189 11 = .int .i64 r184 := envp he190 rfl rfl
            clear h177 h178 h179 h180 h181
            refine Ev.kseqN ?_
            refine Ev.seq ?_
            refine Ev.reg (fun _ => rfl) ?_
            refine Ev.nxk (mvO rfl) ?_
            refine Ev.rend ?_
            intro e197 he198
            have h199 : eget e197 0 = .int .i64 a1 := envp he198 rfl h191
            have h200 : eget e197 1 = .sl none (a2.map (cI .i64)) := envp he198 rfl h192
            have h201 : eget e197 5 = .sl (some 2) (r17.map (cI .i64)) := envp he198 rfl h193
            have h202 : eget e197 6 = .int .i64 r18 := envp he198 rfl h194
            have h203 : eget e197 8 = .nils := envp he198 rfl h195
            have h204 : eget e197 11 = .int .i64 r184 := envp he198 rfl h196
            have h205 : eget e197 12 = .int .i64 1 := envp he198 rfl rfl
            clear h191 h192 h193 h194 h195 h196
            refine Ev.kseqN ?_
            refine Ev.seq ?_
            refine Ev.reg (fun _ => rfl) ?_
            refine Ev.nxk (mvO h203) ?_
            refine Ev.nxk (mvO h205) ?_
            obtain ⟨r207, hx206, h⟩ := bind_some h
            refine Ev.nxck (Ev.call (v := .int .i64 r207) rfl (cns rfl (cns rfl rfl)) rfl (laws_heldInt64S_ok ([] : List Int) 1 _ hx206) (fun h => nomatch (show false = true from h))) ?_
            refine Ev.nxk (mvO rfl) ?_
            refine Ev.rend ?_
            intro e208 he209
            have h210 : eget e208 0 = .int .i64 a1 := envp he209 rfl h199
            have h211 : eget e208 1 = .sl none (a2.map (cI .i64)) := envp he209 rfl h200
            have h212 : eget e208 5 = .sl (some 2) (r17.map (cI .i64)) := envp he209 rfl h201
            have h213 : eget e208 6 = .int .i64 r18 := envp he209 rfl h202
            have h214 : eget e208 8 = .nils := envp he209 rfl h203
            have h215 : eget e208 11 = .int .i64 r184 := envp he209 rfl h204
            have h216 : eget e208 12 = .int .i64 r207 := envp he209 rfl rfl
            clear h199 h200 h201 h202 h203 h204
            refine Ev.kseqN ?_
            refine Ev.seq ?_
            refine Ev.seq ?_
            refine Ev.reg (fun _ => rfl) ?_
            refine Ev.nxk (mvO h216) ?_
            refine Ev.nxk (bLss rfl rfl) ?_
            refine Ev.rend ?_
            intro e217 he218
            have h219 : eget e217 0 = .int .i64 a1 := envp he218 rfl h210
            have h220 : eget e217 1 = .sl none (a2.map (cI .i64)) := envp he218 rfl h211
            have h221 : eget e217 5 = .sl (some 2) (r17.map (cI .i64)) := envp he218 rfl h212
            have h222 : eget e217 6 = .int .i64 r18 := envp he218 rfl h213
            have h223 : eget e217 8 = .nils := envp he218 rfl h214
            have h224 : eget e217 11 = .int .i64 r184 := envp he218 rfl h215
            have h225 : eget e217 12 = .int .i64 r207 := envp he218 rfl h216
            have h226 : eget e217 70 = .bool (decide (r207 < 0)) := envp he218 rfl rfl
            clear h210 h211 h212 h213 h214 h215 h216
            refine Ev.kseqN ?_
            rcases ite_some h with ⟨hb227, h⟩ | ⟨hb227, h⟩
            · refine Ev.condT h226 hb227 ?_
              refine Ev.seq ?_
              refine Ev.reg (fun _ => rfl) ?_
              refine Ev.nxk (mvO rfl) ?_
              refine Ev.rend ?_
              intro e228 he229
              have h230 : eget e228 4 = .bool false := envp he229 rfl rfl
              clear h219 h220 h221 h222 h223 h224 h225 h226
              refine Ev.kseqN ?_
              refine Ev.ex ?_
              refine Ev.kseqR ?_
              cases h
              exact Ev.kendR (resT h230 res0) rfl
            · refine Ev.condF h226 hb227 ?_
              refine Ev.ex ?_
              refine Ev.kseqN ?_
              refine Ev.seq ?_
              refine Ev.seq ?_
              refine Ev.reg (fun _ => rfl) ?_
              refine Ev.nxk (mvO h225) ?_
              refine Ev.nxk (mvO h224) ?_
              refine Ev.nxk (bNeq rfl rfl) ?_
              refine Ev.rend ?_
              intro e231 he232
              have h233 : eget e231 0 = .int .i64 a1 := envp he232 rfl h219
              have h234 : eget e231 1 = .sl none (a2.map (cI .i64)) := envp he232 rfl h220
              have h235 : eget e231 5 = .sl (some 2) (r17.map (cI .i64)) := envp he232 rfl h221
              have h236 : eget e231 6 = .int .i64 r18 := envp he232 rfl h222
              have h237 : eget e231 8 = .nils := envp he232 rfl h223
              have h238 : eget e231 11 = .int .i64 r184 := envp he232 rfl h224
              have h239 : eget e231 73 = .bool (r207 != r184) := envp he232 rfl rfl
              clear h219 h220 h221 h222 h223 h224 h225 h226
              refine Ev.kseqN ?_
              rcases ite_some h with ⟨hb240, h⟩ | ⟨hb240, h⟩
              · refine Ev.condT h239 hb240 ?_
                refine Ev.seq ?_
                refine Ev.reg (fun _ => rfl) ?_
                refine Ev.nxk (mvO rfl) ?_
                refine Ev.rend ?_
                intro e241 he242
                have h243 : eget e241 4 = .bool false := envp he242 rfl rfl
                clear h233 h234 h235 h236 h237 h238 h239
                refine Ev.kseqN ?_
                refine Ev.ex ?_
                refine Ev.kseqR ?_
                cases h
                exact Ev.kendR (resT h243 res0) rfl
              · refine Ev.condF h239 hb240 ?_
                refine Ev.ex ?_
                refine Ev.kseqN ?_
                refine Ev.seq ?_
                refine Ev.reg (fun _ => rfl) ?_
                refine Ev.nxk (mvO h233) ?_
                refine Ev.nxk (mvO h234) ?_
                obtain ⟨r245, hx244, h⟩ := bind_some h
                refine Ev.nxck (Ev.call (v := .sl (some 2) (r245.map (cI .i64))) rfl (cns rfl rfl) rfl (laws_toInt64S_ok a2 _ hx244) (fun h => nomatch (show false = true from h))) ?_
                obtain ⟨q376, hx246, h⟩ := bind_some h
                rcases q376 with _ | r311
                · refine Ev.nxck (Ev.call (v := .tup [.nils, .int .i64 2]) rfl (cns rfl (cns rfl rfl)) rfl (impl_ShareOut_ok a1 r245 _ hx246) (fun h => nomatch (show false = true from h))) ?_
                  refine Ev.nxk (mvO rfl) ?_
                  refine Ev.nxk (exT rfl rfl) ?_
                  refine Ev.nxk (exT rfl rfl) ?_
                  refine Ev.nxk (mvO rfl) ?_
                  refine Ev.nxk (mvO rfl) ?_
                  refine Ev.rend ?_
                  intro e247 he248
                  have h249 : eget e247 5 = .sl (some 2) (r17.map (cI .i64)) := envp he248 rfl h235
                  have h250 : eget e247 6 = .int .i64 r18 := envp he248 rfl h236
                  have h251 : eget e247 8 = .nils := envp he248 rfl h237
                  have h252 : eget e247 11 = .int .i64 r184 := envp he248 rfl h238
                  have h253 : eget e247 13 = .nils := envp he248 rfl rfl
                  have h254 : eget e247 14 = .int .i64 2 := envp he248 rfl rfl
                  clear h233 h234 h235 h236 h237 h238 h239
                  refine Ev.kseqN ?_
                  refine Ev.seq ?_
                  refine Ev.seq ?_
                  obtain ⟨r309, hr310, h⟩ := bind_some h
                  refine Ev.cut (Q1 := laws_FnExactShareOut_c3_Q r184 r309) (by
                      have h := hr310
                      refine Ev.reg (fun _ => rfl) ?_
                      refine Ev.nxk (mvO h253) ?_
                      refine Ev.nxk (mvO h249) ?_
                      obtain ⟨r256, hx255, h⟩ := bind_some h
                      refine Ev.nxck (Ev.call (v := .bool r256) rfl (cns rfl (cns rfl rfl)) rfl (laws_eqInt64S_ok ([] : List Int) r17 _ hx255) (fun h => nomatch (show false = true from h))) ?_
                      refine Ev.nxk (uNot rfl) ?_
                      refine Ev.nxk (mvO rfl) ?_
                      rcases ite_some h with ⟨hb257, h⟩ | ⟨hb257, h⟩
                      · refine Ev.nxk (guF rfl (congrArg Bool.not hb257) (mvO h254)) ?_
                        refine Ev.nxk (guF rfl (congrArg Bool.not hb257) (mvO h250)) ?_
                        refine Ev.nxk (guF rfl (congrArg Bool.not hb257) (bNeq rfl rfl)) ?_
                        refine Ev.nxk (pkF rfl (congrArg Bool.not hb257) rfl) ?_
                        refine Ev.rend ?_
                        intro e258 he259
                        have h260 : eget e258 8 = .nils := envp he259 rfl h251
                        have h261 : eget e258 11 = .int .i64 r184 := envp he259 rfl h252
                        have h262 : eget e258 89 = .bool (2 != r18) := envp he259 rfl rfl
                        clear h249 h250 h251 h252 h253 h254
                        cases h
                        exact Ev.kid (show laws_FnExactShareOut_c3_Q r184 _ _ from (And.intro rfl (And.intro h260 (And.intro h261 h262))))
                      · refine Ev.nxk (gsF rfl (congrArg Bool.not hb257)) ?_
                        refine Ev.nxk (gsF rfl (congrArg Bool.not hb257)) ?_
                        refine Ev.nxk (gsF rfl (congrArg Bool.not hb257)) ?_
                        refine Ev.nxk (pkT rfl (congrArg Bool.not hb257) rfl) ?_
                        refine Ev.rend ?_
                        intro e263 he264
                        have h265 : eget e263 8 = .nils := envp he264 rfl h251
                        have h266 : eget e263 11 = .int .i64 r184 := envp he264 rfl h252
                        have h267 : eget e263 89 = .bool true := envp he264 rfl rfl
                        clear h249 h250 h251 h252 h253 h254
                        cases h
                        exact Ev.kid (show laws_FnExactShareOut_c3_Q r184 _ _ from (And.intro rfl (And.intro h265 (And.intro h266 h267))))) ?_
                  revert h hr310
                  revert r309
                  intro y270 hr310 h
                  intro x e268 M269 hq308
                  obtain ⟨rfl, h271, h272, h273⟩ := hq308
                  refine Ev.kseqN ?_
                  rcases ite_some h with ⟨hb274, h⟩ | ⟨hb274, h⟩
                  · refine Ev.condT h273 hb274 ?_
                    refine Ev.seq ?_
                    refine Ev.reg (fun _ => rfl) ?_
                    refine Ev.nxk (mvO rfl) ?_
                    refine Ev.rend ?_
                    intro e275 he276
                    have h277 : eget e275 4 = .bool false := envp he276 rfl rfl
                    clear h271 h272 h273
                    refine Ev.kseqN ?_
                    refine Ev.ex ?_
                    refine Ev.kseqR ?_
                    cases h
                    exact Ev.kendR (resT h277 res0) rfl
                  · refine Ev.condF h273 hb274 ?_
                    refine Ev.ex ?_
                    refine Ev.kseqN ?_
                    refine Ev.seq ?_
                    refine Ev.reg (fun _ => rfl) ?_
                    refine Ev.nxk (mvO rfl) ?_
                    refine Ev.rend ?_
                    intro e278 he279
                    have h280 : eget e278 8 = .nils := envp he279 rfl h271
                    have h281 : eget e278 11 = .int .i64 r184 := envp he279 rfl h272
                    have h282 : eget e278 12 = .int .i64 1 := envp he279 rfl rfl
                    clear h271 h272 h273
                    refine Ev.kseqN ?_
                    refine Ev.seq ?_
                    refine Ev.reg (fun _ => rfl) ?_
                    refine Ev.nxk (mvO h280) ?_
                    refine Ev.nxk (mvO h282) ?_
                    obtain ⟨r284, hx283, h⟩ := bind_some h
                    refine Ev.nxck (Ev.call (v := .int .i64 r284) rfl (cns rfl (cns rfl rfl)) rfl (laws_heldInt64S_ok ([] : List Int) 1 _ hx283) (fun h => nomatch (show false = true from h))) ?_
                    refine Ev.nxk (mvO rfl) ?_
                    refine Ev.rend ?_
                    intro e285 he286
                    have h287 : eget e285 11 = .int .i64 r184 := envp he286 rfl h281
                    have h288 : eget e285 12 = .int .i64 r284 := envp he286 rfl rfl
                    clear h280 h281
                    refine Ev.kseqN ?_
                    refine Ev.seq ?_
                    refine Ev.seq ?_
                    refine Ev.reg (fun _ => rfl) ?_
                    refine Ev.nxk (mvO h288) ?_
                    refine Ev.nxk (bLss rfl rfl) ?_
                    refine Ev.rend ?_
                    intro e289 he290
                    have h291 : eget e289 11 = .int .i64 r184 := envp he290 rfl h287
                    have h292 : eget e289 12 = .int .i64 r284 := envp he290 rfl h288
                    have h293 : eget e289 94 = .bool (decide (r284 < 0)) := envp he290 rfl rfl
                    clear h287 h288
                    refine Ev.kseqN ?_
                    rcases ite_some h with ⟨hb294, h⟩ | ⟨hb294, h⟩
                    · refine Ev.condT h293 hb294 ?_
                      refine Ev.seq ?_
                      refine Ev.reg (fun _ => rfl) ?_
                      refine Ev.nxk (mvO rfl) ?_
                      refine Ev.rend ?_
                      intro e295 he296
                      have h297 : eget e295 4 = .bool false := envp he296 rfl rfl
                      clear h291 h292 h293
                      refine Ev.kseqN ?_
                      refine Ev.ex ?_
                      refine Ev.kseqR ?_
                      cases h
                      exact Ev.kendR (resT h297 res0) rfl
                    · refine Ev.condF h293 hb294 ?_
                      refine Ev.ex ?_
                      refine Ev.kseqN ?_
                      refine Ev.seq ?_
                      refine Ev.seq ?_
                      refine Ev.reg (fun _ => rfl) ?_
                      refine Ev.nxk (mvO h292) ?_
                      refine Ev.nxk (mvO h291) ?_
                      refine Ev.nxk (bNeq rfl rfl) ?_
                      refine Ev.rend ?_
                      intro e298 he299
                      have h300 : eget e298 97 = .bool (r284 != r184) := envp he299 rfl rfl
                      clear h291 h292 h293
                      refine Ev.kseqN ?_
                      rcases ite_some h with ⟨hb301, h⟩ | ⟨hb301, h⟩
                      · refine Ev.condT h300 hb301 ?_
                        refine Ev.seq ?_
                        refine Ev.reg (fun _ => rfl) ?_
                        refine Ev.nxk (mvO rfl) ?_
                        refine Ev.rend ?_
                        intro e302 he303
                        have h304 : eget e302 4 = .bool false := envp he303 rfl rfl
                        clear h300
                        refine Ev.kseqN ?_
                        refine Ev.ex ?_
                        refine Ev.kseqR ?_
                        cases h
                        exact Ev.kendR (resT h304 res0) rfl
                      · refine Ev.condF h300 hb301 ?_
                        refine Ev.ex ?_
                        refine Ev.kseqN ?_
                        refine Ev.seq ?_
                        refine Ev.reg (fun _ => rfl) ?_
                        refine Ev.nxk (mvO rfl) ?_
                        refine Ev.rend ?_
                        intro e305 he306
                        have h307 : eget e305 4 = .bool true := envp he306 rfl rfl
                        clear h300
                        refine Ev.kseqN ?_
                        refine Ev.ex ?_
                        cases h
                        exact Ev.kendR (resT h307 res0) rfl
                · refine Ev.nxck (Ev.call (v := .tup [.sl (some 2) (r311.map (cI .i64)), .int .i64 0]) rfl (cns rfl (cns rfl rfl)) rfl (impl_ShareOut_ok a1 r245 _ hx246) (fun h => nomatch (show false = true from h))) ?_
                  refine Ev.nxk (mvO rfl) ?_
                  refine Ev.nxk (exT rfl rfl) ?_
                  refine Ev.nxk (exT rfl rfl) ?_
                  refine Ev.nxk (mvO rfl) ?_
                  refine Ev.nxk (mvO rfl) ?_
                  refine Ev.rend ?_
                  intro e312 he313
                  have h314 : eget e312 5 = .sl (some 2) (r17.map (cI .i64)) := envp he313 rfl h235
                  have h315 : eget e312 6 = .int .i64 r18 := envp he313 rfl h236
                  have h316 : eget e312 8 = .nils := envp he313 rfl h237
                  have h317 : eget e312 11 = .int .i64 r184 := envp he313 rfl h238
                  have h318 : eget e312 13 = .sl (some 2) (r311.map (cI .i64)) := envp he313 rfl rfl
                  have h319 : eget e312 14 = .int .i64 0 := envp he313 rfl rfl
                  clear h233 h234 h235 h236 h237 h238 h239
                  refine Ev.kseqN ?_
                  refine Ev.seq ?_
                  refine Ev.seq ?_
                  obtain ⟨r374, hr375, h⟩ := bind_some h
                  refine Ev.cut (Q1 := laws_FnExactShareOut_c4_Q r184 r374) (by
                      have h := hr375
                      refine Ev.reg (fun _ => rfl) ?_
                      refine Ev.nxk (mvO h318) ?_
                      refine Ev.nxk (mvO h314) ?_
                      obtain ⟨r321, hx320, h⟩ := bind_some h
                      refine Ev.nxck (Ev.call (v := .bool r321) rfl (cns rfl (cns rfl rfl)) rfl (laws_eqInt64S_ok r311 r17 _ hx320) (fun h => nomatch (show false = true from h))) ?_
                      refine Ev.nxk (uNot rfl) ?_
                      refine Ev.nxk (mvO rfl) ?_
                      rcases ite_some h with ⟨hb322, h⟩ | ⟨hb322, h⟩
                      · refine Ev.nxk (guF rfl (congrArg Bool.not hb322) (mvO h319)) ?_
                        refine Ev.nxk (guF rfl (congrArg Bool.not hb322) (mvO h315)) ?_
                        refine Ev.nxk (guF rfl (congrArg Bool.not hb322) (bNeq rfl rfl)) ?_
                        refine Ev.nxk (pkF rfl (congrArg Bool.not hb322) rfl) ?_
                        refine Ev.rend ?_
                        intro e323 he324
                        have h325 : eget e323 8 = .nils := envp he324 rfl h316
                        have h326 : eget e323 11 = .int .i64 r184 := envp he324 rfl h317
                        have h327 : eget e323 89 = .bool (0 != r18) := envp he324 rfl rfl
                        clear h314 h315 h316 h317 h318 h319
                        cases h
                        exact Ev.kid (show laws_FnExactShareOut_c4_Q r184 _ _ from (And.intro rfl (And.intro h325 (And.intro h326 h327))))
                      · refine Ev.nxk (gsF rfl (congrArg Bool.not hb322)) ?_
                        refine Ev.nxk (gsF rfl (congrArg Bool.not hb322)) ?_
                        refine Ev.nxk (gsF rfl (congrArg Bool.not hb322)) ?_
                        refine Ev.nxk (pkT rfl (congrArg Bool.not hb322) rfl) ?_
                        refine Ev.rend ?_
                        intro e328 he329
                        have h330 : eget e328 8 = .nils := envp he329 rfl h316
                        have h331 : eget e328 11 = .int .i64 r184 := envp he329 rfl h317
                        have h332 : eget e328 89 = .bool true := envp he329 rfl rfl
                        clear h314 h315 h316 h317 h318 h319
                        cases h
                        exact Ev.kid (show laws_FnExactShareOut_c4_Q r184 _ _ from (And.intro rfl (And.intro h330 (And.intro h331 h332))))) ?_
                  revert h hr375
                  revert r374
                  intro y335 hr375 h
                  intro x e333 M334 hq373
                  obtain ⟨rfl, h336, h337, h338⟩ := hq373
                  refine Ev.kseqN ?_
                  rcases ite_some h with ⟨hb339, h⟩ | ⟨hb339, h⟩
                  · refine Ev.condT h338 hb339 ?_
                    refine Ev.seq ?_
                    refine Ev.reg (fun _ => rfl) ?_
                    refine Ev.nxk (mvO rfl) ?_
                    refine Ev.rend ?_
                    intro e340 he341
                    have h342 : eget e340 4 = .bool false := envp he341 rfl rfl
                    clear h336 h337 h338
                    refine Ev.kseqN ?_
                    refine Ev.ex ?_
                    refine Ev.kseqR ?_
                    cases h
                    exact Ev.kendR (resT h342 res0) rfl
                  · refine Ev.condF h338 hb339 ?_
                    refine Ev.ex ?_
                    refine Ev.kseqN ?_
                    refine Ev.seq ?_
                    refine Ev.reg (fun _ => rfl) ?_
                    refine Ev.nxk (mvO rfl) ?_
                    refine Ev.rend ?_
                    intro e343 he344
                    have h345 : eget e343 8 = .nils := envp he344 rfl h336
                    have h346 : eget e343 11 = .int .i64 r184 := envp he344 rfl h337
                    have h347 : eget e343 12 = .int .i64 1 := envp he344 rfl rfl
                    clear h336 h337 h338
                    refine Ev.kseqN ?_
                    refine Ev.seq ?_
                    refine Ev.reg (fun _ => rfl) ?_
                    refine Ev.nxk (mvO h345) ?_
                    refine Ev.nxk (mvO h347) ?_
                    obtain ⟨r349, hx348, h⟩ := bind_some h
                    refine Ev.nxck (Ev.call (v := .int .i64 r349) rfl (cns rfl (cns rfl rfl)) rfl (laws_heldInt64S_ok ([] : List Int) 1 _ hx348) (fun h => nomatch (show false = true from h))) ?_
                    refine Ev.nxk (mvO rfl) ?_
                    refine Ev.rend ?_
                    intro e350 he351
                    have h352 : eget e350 11 = .int .i64 r184 := envp he351 rfl h346
                    have h353 : eget e350 12 = .int .i64 r349 := envp he351 rfl rfl
                    clear h345 h346
                    refine Ev.kseqN ?_
                    refine Ev.seq ?_
                    refine Ev.seq ?_
                    refine Ev.reg (fun _ => rfl) ?_
                    refine Ev.nxk (mvO h353) ?_
                    refine Ev.nxk (bLss rfl rfl) ?_
                    refine Ev.rend ?_
                    intro e354 he355
                    have h356 : eget e354 11 = .int .i64 r184 := envp he355 rfl h352
                    have h357 : eget e354 12 = .int .i64 r349 := envp he355 rfl h353
                    have h358 : eget e354 94 = .bool (decide (r349 < 0)) := envp he355 rfl rfl
                    clear h352 h353
                    refine Ev.kseqN ?_
                    rcases ite_some h with ⟨hb359, h⟩ | ⟨hb359, h⟩
                    · refine Ev.condT h358 hb359 ?_
                      refine Ev.seq ?_
                      refine Ev.reg (fun _ => rfl) ?_
                      refine Ev.nxk (mvO rfl) ?_
                      refine Ev.rend ?_
                      intro e360 he361
                      have h362 : eget e360 4 = .bool false := envp he361 rfl rfl
                      clear h356 h357 h358
                      refine Ev.kseqN ?_
                      refine Ev.ex ?_
                      refine Ev.kseqR ?_
                      cases h
                      exact Ev.kendR (resT h362 res0) rfl
                    · refine Ev.condF h358 hb359 ?_
                      refine Ev.ex ?_
                      refine Ev.kseqN ?_
                      refine Ev.seq ?_
                      refine Ev.seq ?_
                      refine Ev.reg (fun _ => rfl) ?_
                      refine Ev.nxk (mvO h357) ?_
                      refine Ev.nxk (mvO h356) ?_
                      refine Ev.nxk (bNeq rfl rfl) ?_
                      refine Ev.rend ?_
                      intro e363 he364
                      have h365 : eget e363 97 = .bool (r349 != r184) := envp he364 rfl rfl
                      clear h356 h357 h358
                      refine Ev.kseqN ?_
                      rcases ite_some h with ⟨hb366, h⟩ | ⟨hb366, h⟩
                      · refine Ev.condT h365 hb366 ?_
                        refine Ev.seq ?_
                        refine Ev.reg (fun _ => rfl) ?_
                        refine Ev.nxk (mvO rfl) ?_
                        refine Ev.rend ?_
                        intro e367 he368
                        have h369 : eget e367 4 = .bool false := envp he368 rfl rfl
                        clear h365
                        refine Ev.kseqN ?_
                        refine Ev.ex ?_
                        refine Ev.kseqR ?_
                        cases h
                        exact Ev.kendR (resT h369 res0) rfl
                      · refine Ev.condF h365 hb366 ?_
                        refine Ev.ex ?_
                        refine Ev.kseqN ?_
                        refine Ev.seq ?_
                        refine Ev.reg (fun _ => rfl) ?_
                        refine Ev.nxk (mvO rfl) ?_
                        refine Ev.rend ?_
                        intro e370 he371
                        have h372 : eget e370 4 = .bool true := envp he371 rfl rfl
                        clear h365
                        refine Ev.kseqN ?_
                        refine Ev.ex ?_
                        cases h
                        exact Ev.kendR (resT h372 res0) rfl
        · refine Ev.condT h103 (congrArg Bool.not hb104) ?_
          refine Ev.seq ?_
          refine Ev.reg (fun _ => rfl) ?_
          refine Ev.nxk (mvO rfl) ?_
          refine Ev.rend ?_
          intro e380 he381
          have h382 : eget e380 4 = .bool false := envp he381 rfl rfl
          clear h100 h101 h102 h103 h96 h97 h98 h99
          refine Ev.kseqN ?_
          refine Ev.ex ?_
          refine Ev.kseqR ?_
          cases h
          exact Ev.kendR (resT h382 res0) rfl
    · refine Ev.nxcp (Ev.callT (v := .tup [.sl (some 2) (r386.map (cI .i64)), .int .i64 0]) rfl (cns rfl (cns rfl rfl)) (ra1 rfl (ra1 (ra1_row o30 (cI_fl _)) ra0)) (impl_ShareOut_ok a1 r26 _ hx38) (th_gen (v' := .tup [.lsl M28.length r386.length 0 r386.length, .int .i64 0]) (l := [⟨.grow, 2, 1, r386.map (cI .i64)⟩]) (own_tup (oa1 (own2_row (c := (cI .i64)) (fun _ => rfl)) (oa1 rfl oa0))) (by simp [thaw, thaw2, thaw1, thawL, co2]) rfl rfl)) ?_
      intro M388 hM389
      have o390 := push_old hM389 o30
      have ne391 : ([] : Mem).length ≠ M28.length := by have := lt_of_get o30; omega
      have o392 : M388[M28.length]? = some (.live ⟨.grow, 2, 1, r386.map (cI .i64)⟩) := push_at hM389 0 rfl
      refine Ev.nxk (mvO rfl) ?_
      refine Ev.nxk (exT rfl rfl) ?_
      refine Ev.nxk (exT rfl rfl) ?_
      refine Ev.nxk (mvO rfl) ?_
      refine Ev.nxk (mvO rfl) ?_
      refine Ev.rend ?_
      intro e393 he394
      have h395 : eget e393 0 = .int .i64 a1 := envp he394 rfl h33
      have h396 : eget e393 1 = .sl none (a2.map (cI .i64)) := envp he394 rfl h34
      have h397 : eget e393 5 = .sl (some 2) (r17.map (cI .i64)) := envp he394 rfl h35
      have h398 : eget e393 6 = .int .i64 r18 := envp he394 rfl h36
      have h399 : eget e393 7 = .lsl ([] : Mem).length r26.length 0 r26.length := envp he394 rfl h37
      have h400 : eget e393 8 = .lsl M28.length r386.length 0 r386.length := envp he394 rfl rfl
      have h401 : eget e393 9 = .int .i64 0 := envp he394 rfl rfl
      clear h33 h34 h35 h36 h37
      refine Ev.kseqN ?_
      refine Ev.seq ?_
      refine Ev.seq ?_
      obtain ⟨r744, hr745, h⟩ := bind_some h
      refine Ev.cut (Q1 := laws_FnExactShareOut_c5_Q a1 a2 r17 r18 r26 r386 (([] : Mem).length) M28.length r744) (by
          have h := hr745
          refine Ev.reg (fun _ => rfl) ?_
          refine Ev.nxk (mvO h400) ?_
          refine Ev.nxk (mvO h397) ?_
          obtain ⟨r403, hx402, h⟩ := bind_some h
          refine Ev.nxck (Ev.call (v := .bool r403) rfl (cns rfl (cns rfl rfl)) (ra1 (ra1_row o392 (cI_fl _)) (ra1 rfl ra0)) (laws_eqInt64S_ok r386 r17 _ hx402) (fun _ => rfl)) ?_
          refine Ev.nxk (uNot rfl) ?_
          refine Ev.nxk (mvO rfl) ?_
          rcases ite_some h with ⟨hb404, h⟩ | ⟨hb404, h⟩
          · refine Ev.nxk (guF rfl (congrArg Bool.not hb404) (mvO h401)) ?_
            refine Ev.nxk (guF rfl (congrArg Bool.not hb404) (mvO h398)) ?_
            refine Ev.nxk (guF rfl (congrArg Bool.not hb404) (bNeq rfl rfl)) ?_
            refine Ev.nxk (pkF rfl (congrArg Bool.not hb404) rfl) ?_
            refine Ev.rend ?_
            intro e405 he406
            have h407 : eget e405 0 = .int .i64 a1 := envp he406 rfl h395
            have h408 : eget e405 1 = .sl none (a2.map (cI .i64)) := envp he406 rfl h396
            have h409 : eget e405 5 = .sl (some 2) (r17.map (cI .i64)) := envp he406 rfl h397
            have h410 : eget e405 6 = .int .i64 r18 := envp he406 rfl h398
            have h411 : eget e405 7 = .lsl ([] : Mem).length r26.length 0 r26.length := envp he406 rfl h399
            have h412 : eget e405 8 = .lsl M28.length r386.length 0 r386.length := envp he406 rfl h400
            have h413 : eget e405 9 = .int .i64 0 := envp he406 rfl h401
            have h414 : eget e405 41 = .bool (0 != r18) := envp he406 rfl rfl
            clear h395 h396 h397 h398 h399 h400 h401
            cases h
            exact Ev.kid (show laws_FnExactShareOut_c5_Q a1 a2 r17 r18 r26 r386 (([] : Mem).length) M28.length _ _ from (And.intro rfl (And.intro h407 (And.intro h408 (And.intro h409 (And.intro h410 (And.intro h411 (And.intro h412 (And.intro h413 (And.intro h414 (And.intro o390 o392)))))))))))
          · refine Ev.nxk (gsF rfl (congrArg Bool.not hb404)) ?_
            refine Ev.nxk (gsF rfl (congrArg Bool.not hb404)) ?_
            refine Ev.nxk (gsF rfl (congrArg Bool.not hb404)) ?_
            refine Ev.nxk (pkT rfl (congrArg Bool.not hb404) rfl) ?_
            refine Ev.rend ?_
            intro e415 he416
            have h417 : eget e415 0 = .int .i64 a1 := envp he416 rfl h395
            have h418 : eget e415 1 = .sl none (a2.map (cI .i64)) := envp he416 rfl h396
            have h419 : eget e415 5 = .sl (some 2) (r17.map (cI .i64)) := envp he416 rfl h397
            have h420 : eget e415 6 = .int .i64 r18 := envp he416 rfl h398
            have h421 : eget e415 7 = .lsl ([] : Mem).length r26.length 0 r26.length := envp he416 rfl h399
            have h422 : eget e415 8 = .lsl M28.length r386.length 0 r386.length := envp he416 rfl h400
            have h423 : eget e415 9 = .int .i64 0 := envp he416 rfl h401
            have h424 : eget e415 41 = .bool true := envp he416 rfl rfl
            clear h395 h396 h397 h398 h399 h400 h401
            cases h
            exact Ev.kid (show laws_FnExactShareOut_c5_Q a1 a2 r17 r18 r26 r386 (([] : Mem).length) M28.length _ _ from (And.intro rfl (And.intro h417 (And.intro h418 (And.intro h419 (And.intro h420 (And.intro h421 (And.intro h422 (And.intro h423 (And.intro h424 (And.intro o390 o392)))))))))))) ?_
      revert h hr745
      revert r744
      intro y427 hr745 h
      intro x e425 M426 hq743
      obtain ⟨rfl, h428, h429, h430, h431, h432, h433, h434, h435, o436, o437⟩ := hq743
      refine Ev.kseqN ?_
      rcases ite_some h with ⟨hb438, h⟩ | ⟨hb438, h⟩
      · refine Ev.condT h435 hb438 ?_
        refine Ev.seq ?_
        refine Ev.reg (fun _ => rfl) ?_
        refine Ev.nxk (mvO rfl) ?_
        refine Ev.rend ?_
        intro e439 he440
        have h441 : eget e439 4 = .bool false := envp he440 rfl rfl
        clear h428 h429 h430 h431 h432 h433 h434 h435
        refine Ev.kseqN ?_
        refine Ev.ex ?_
        refine Ev.kseqR ?_
        cases h
        exact Ev.kendR (resT h441 res0) rfl
      · refine Ev.condF h435 hb438 ?_
        refine Ev.ex ?_
        refine Ev.kseqN ?_
        refine Ev.seq ?_
        refine Ev.seq ?_
        refine Ev.reg (fun _ => rfl) ?_
        refine Ev.nxk (mvO h432) ?_
        refine Ev.nxk (mvO h429) ?_
        obtain ⟨r443, hx442, h⟩ := bind_some h
        refine Ev.nxck (Ev.call (v := .sl (some 2) (r443.map (cI .i64))) rfl (cns rfl rfl) rfl (laws_toInt64S_ok a2 _ hx442) (fun h => nomatch (show false = true from h))) ?_
        obtain ⟨r445, hx444, h⟩ := bind_some h
        refine Ev.nxck (Ev.call (v := .bool r445) rfl (cns rfl (cns rfl rfl)) (ra1 (ra1_row o436 (cI_fl _)) (ra1 rfl ra0)) (laws_eqInt64S_ok r26 r443 _ hx444) (fun _ => rfl)) ?_
        refine Ev.nxk (uNot rfl) ?_
        refine Ev.rend ?_
        intro e446 he447
        have h448 : eget e446 0 = .int .i64 a1 := envp he447 rfl h428
        have h449 : eget e446 1 = .sl none (a2.map (cI .i64)) := envp he447 rfl h429
        have h450 : eget e446 5 = .sl (some 2) (r17.map (cI .i64)) := envp he447 rfl h430
        have h451 : eget e446 6 = .int .i64 r18 := envp he447 rfl h431
        have h452 : eget e446 7 = .lsl ([] : Mem).length r26.length 0 r26.length := envp he447 rfl h432
        have h453 : eget e446 8 = .lsl M28.length r386.length 0 r386.length := envp he447 rfl h433
        have h454 : eget e446 9 = .int .i64 0 := envp he447 rfl h434
        have h455 : eget e446 46 = .bool (!r445) := envp he447 rfl rfl
        clear h428 h429 h430 h431 h432 h433 h434 h435
        refine Ev.kseqN ?_
        rcases ite_some h with ⟨hb456, h⟩ | ⟨hb456, h⟩
        · refine Ev.condF h455 (congrArg Bool.not hb456) ?_
          refine Ev.ex ?_
          refine Ev.kseqN ?_
          refine Ev.seq ?_
          refine Ev.reg (fun _ => rfl) ?_
          refine Ev.nxk (mvO rfl) ?_
          refine Ev.rend ?_
          intro e457 he458
          have h459 : eget e457 0 = .int .i64 a1 := envp he458 rfl h448
          have h460 : eget e457 1 = .sl none (a2.map (cI .i64)) := envp he458 rfl h449
          have h461 : eget e457 5 = .sl (some 2) (r17.map (cI .i64)) := envp he458 rfl h450
          have h462 : eget e457 6 = .int .i64 r18 := envp he458 rfl h451
          have h463 : eget e457 7 = .lsl ([] : Mem).length r26.length 0 r26.length := envp he458 rfl h452
          have h464 : eget e457 8 = .lsl M28.length r386.length 0 r386.length := envp he458 rfl h453
          have h465 : eget e457 9 = .int .i64 0 := envp he458 rfl h454
          have h466 : eget e457 10 = .int .i64 1 := envp he458 rfl rfl
          clear h448 h449 h450 h451 h452 h453 h454 h455
          refine Ev.kseqN ?_
          refine Ev.seq ?_
          refine Ev.reg (fun _ => rfl) ?_
          refine Ev.nxk (mvO h463) ?_
          refine Ev.nxk (mvO h466) ?_
          obtain ⟨⟨r468, r469⟩, hx467, h⟩ := bind_some h
          refine Ev.nxw (Ev.callW rfl (cns rfl (cns rfl rfl)) (laws_markInt64S_ok r26 1 (([] : Mem).length) M426 o436 _ hx467)) ?_
          intro v472 M470 hq471
          obtain ⟨hv472, o473, fr474, hl475⟩ := hq471
          have hv472 : v472 = .int .i64 r468 := hv472
          subst hv472
          have o476 : M470[([] : Mem).length]? = some (.live ⟨.grow, 2, 1, r469.map (cI .i64)⟩) := o473
          have hl475 : r469.length = r26.length := hl475
          have o477 := fr474 _ _ (niC (Ne.symm ne391) niN) o437
          refine Ev.nxk (mvO rfl) ?_
          refine Ev.rend ?_
          intro e478 he479
          have h480 : eget e478 0 = .int .i64 a1 := envp he479 rfl h459
          have h481 : eget e478 1 = .sl none (a2.map (cI .i64)) := envp he479 rfl h460
          have h482 : eget e478 5 = .sl (some 2) (r17.map (cI .i64)) := envp he479 rfl h461
          have h483 : eget e478 6 = .int .i64 r18 := envp he479 rfl h462
          have h484 : eget e478 8 = .lsl M28.length r386.length 0 r386.length := envp he479 rfl h464
          have h485 : eget e478 9 = .int .i64 0 := envp he479 rfl h465
          have h486 : eget e478 10 = .int .i64 r468 := envp he479 rfl rfl
          clear h459 h460 h461 h462 h463 h464 h465
          refine Ev.kseqN ?_
          refine Ev.seq ?_
          refine Ev.seq ?_
          obtain ⟨r738, hr739, h⟩ := bind_some h
          refine Ev.cut (Q1 := laws_FnExactShareOut_c6_Q a1 a2 r17 r18 r386 M28.length r738) (by
              have h := hr739
              refine Ev.reg (fun _ => rfl) ?_
              refine Ev.nxk (mvO h486) ?_
              refine Ev.nxk (bLss rfl rfl) ?_
              refine Ev.nxk (mvO rfl) ?_
              rcases ite_some h with ⟨hb487, h⟩ | ⟨hb487, h⟩
              · refine Ev.nxk (gsF rfl hb487) ?_
                refine Ev.nxk (gsF rfl hb487) ?_
                refine Ev.nxck (Ev.gsF rfl hb487) ?_
                refine Ev.nxk (gsF rfl hb487) ?_
                refine Ev.nxk (pkT rfl hb487 rfl) ?_
                refine Ev.nxk (mvO rfl) ?_
                refine Ev.nxk (gsF rfl rfl) ?_
                refine Ev.nxk (gsF rfl rfl) ?_
                refine Ev.nxk (gsF rfl rfl) ?_
                refine Ev.nxk (pkT rfl rfl rfl) ?_
                refine Ev.rend ?_
                intro e488 he489
                have h490 : eget e488 0 = .int .i64 a1 := envp he489 rfl h480
                have h491 : eget e488 1 = .sl none (a2.map (cI .i64)) := envp he489 rfl h481
                have h492 : eget e488 5 = .sl (some 2) (r17.map (cI .i64)) := envp he489 rfl h482
                have h493 : eget e488 6 = .int .i64 r18 := envp he489 rfl h483
                have h494 : eget e488 8 = .lsl M28.length r386.length 0 r386.length := envp he489 rfl h484
                have h495 : eget e488 62 = .bool true := envp he489 rfl rfl
                clear h480 h481 h482 h483 h484 h485 h486
                cases h
                exact Ev.kid (show laws_FnExactShareOut_c6_Q a1 a2 r17 r18 r386 M28.length _ _ from (And.intro rfl (And.intro h490 (And.intro h491 (And.intro h492 (And.intro h493 (And.intro h494 (And.intro h495 o477))))))))
              · refine Ev.nxk (guF rfl hb487 (mvO h484)) ?_
                refine Ev.nxk (guF rfl hb487 (mvO h482)) ?_
                obtain ⟨r497, hx496, h⟩ := bind_some h
                refine Ev.nxck (Ev.guF rfl hb487 (Ev.call (v := .bool r497) rfl (cns rfl (cns rfl rfl)) (ra1 (ra1_row o477 (cI_fl _)) (ra1 rfl ra0)) (laws_eqInt64S_ok r386 r17 _ hx496) (fun _ => rfl))) ?_
                refine Ev.nxk (guF rfl hb487 (uNot rfl)) ?_
                refine Ev.nxk (pkF rfl hb487 rfl) ?_
                refine Ev.nxk (mvO rfl) ?_
                rcases ite_some h with ⟨hb498, h⟩ | ⟨hb498, h⟩
                · refine Ev.nxk (guF rfl (congrArg Bool.not hb498) (mvO h485)) ?_
                  refine Ev.nxk (guF rfl (congrArg Bool.not hb498) (mvO h483)) ?_
                  refine Ev.nxk (guF rfl (congrArg Bool.not hb498) (bNeq rfl rfl)) ?_
                  refine Ev.nxk (pkF rfl (congrArg Bool.not hb498) rfl) ?_
                  refine Ev.rend ?_
                  intro e499 he500
                  have h501 : eget e499 0 = .int .i64 a1 := envp he500 rfl h480
                  have h502 : eget e499 1 = .sl none (a2.map (cI .i64)) := envp he500 rfl h481
                  have h503 : eget e499 5 = .sl (some 2) (r17.map (cI .i64)) := envp he500 rfl h482
                  have h504 : eget e499 6 = .int .i64 r18 := envp he500 rfl h483
                  have h505 : eget e499 8 = .lsl M28.length r386.length 0 r386.length := envp he500 rfl h484
                  have h506 : eget e499 62 = .bool (0 != r18) := envp he500 rfl rfl
                  clear h480 h481 h482 h483 h484 h485 h486
                  cases h
                  exact Ev.kid (show laws_FnExactShareOut_c6_Q a1 a2 r17 r18 r386 M28.length _ _ from (And.intro rfl (And.intro h501 (And.intro h502 (And.intro h503 (And.intro h504 (And.intro h505 (And.intro h506 o477))))))))
                · refine Ev.nxk (gsF rfl (congrArg Bool.not hb498)) ?_
                  refine Ev.nxk (gsF rfl (congrArg Bool.not hb498)) ?_
                  refine Ev.nxk (gsF rfl (congrArg Bool.not hb498)) ?_
                  refine Ev.nxk (pkT rfl (congrArg Bool.not hb498) rfl) ?_
                  refine Ev.rend ?_
                  intro e507 he508
                  have h509 : eget e507 0 = .int .i64 a1 := envp he508 rfl h480
                  have h510 : eget e507 1 = .sl none (a2.map (cI .i64)) := envp he508 rfl h481
                  have h511 : eget e507 5 = .sl (some 2) (r17.map (cI .i64)) := envp he508 rfl h482
                  have h512 : eget e507 6 = .int .i64 r18 := envp he508 rfl h483
                  have h513 : eget e507 8 = .lsl M28.length r386.length 0 r386.length := envp he508 rfl h484
                  have h514 : eget e507 62 = .bool true := envp he508 rfl rfl
                  clear h480 h481 h482 h483 h484 h485 h486
                  cases h
                  exact Ev.kid (show laws_FnExactShareOut_c6_Q a1 a2 r17 r18 r386 M28.length _ _ from (And.intro rfl (And.intro h509 (And.intro h510 (And.intro h511 (And.intro h512 (And.intro h513 (And.intro h514 o477))))))))) ?_
          revert h hr739
          revert r738
          intro y517 hr739 h
          intro x e515 M516 hq737
          obtain ⟨rfl, h518, h519, h520, h521, h522, h523, o524⟩ := hq737
          refine Ev.kseqN ?_
          rcases ite_some h with ⟨hb525, h⟩ | ⟨hb525, h⟩
          · refine Ev.condT h523 hb525 ?_
            refine Ev.seq ?_
            refine Ev.reg (fun _ => rfl) ?_
            refine Ev.nxk (mvO rfl) ?_
            refine Ev.rend ?_
            intro e526 he527
            have h528 : eget e526 4 = .bool false := envp he527 rfl rfl
            clear h518 h519 h520 h521 h522 h523
            refine Ev.kseqN ?_
            refine Ev.ex ?_
            refine Ev.kseqR ?_
            cases h
            exact Ev.kendR (resT h528 res0) rfl
          · refine Ev.condF h523 hb525 ?_
            refine Ev.ex ?_
            refine Ev.kseqN ?_
            refine Ev.seq ?_
            refine Ev.reg (fun _ => rfl) ?_
            refine Ev.nxk (mvO rfl) ?_
            refine Ev.rend ?_
            intro e529 he530
            have h531 : eget e529 0 = .int .i64 a1 := envp he530 rfl h518
            have h532 : eget e529 1 = .sl none (a2.map (cI .i64)) := envp he530 rfl h519
            have h533 : eget e529 5 = .sl (some 2) (r17.map (cI .i64)) := envp he530 rfl h520
            have h534 : eget e529 6 = .int .i64 r18 := envp he530 rfl h521
            have h535 : eget e529 8 = .lsl M28.length r386.length 0 r386.length := envp he530 rfl h522
            have h536 : eget e529 11 = .int .i64 1 := envp he530 rfl rfl
            clear h518 h519 h520 h521 h522 h523
            refine Ev.kseqN ?_
            refine Ev.seq ?_
            refine Ev.reg (fun _ => rfl) ?_
            refine Ev.nxk (mvO h535) ?_
            refine Ev.nxk (mvO h536) ?_
            obtain ⟨⟨r538, r539⟩, hx537, h⟩ := bind_some h
            refine Ev.nxw (Ev.callW rfl (cns rfl (cns rfl rfl)) (laws_markInt64S_ok r386 1 M28.length M516 o524 _ hx537)) ?_
            intro v542 M540 hq541
            obtain ⟨hv542, o543, fr544, hl545⟩ := hq541
            have hv542 : v542 = .int .i64 r538 := hv542
            subst hv542
            have o546 : M540[M28.length]? = some (.live ⟨.grow, 2, 1, r539.map (cI .i64)⟩) := o543
            have hl545 : r539.length = r386.length := hl545
            refine Ev.nxk (mvO rfl) ?_
            refine Ev.rend ?_
            intro e547 he548
            have h549 : eget e547 0 = .int .i64 a1 := envp he548 rfl h531
            have h550 : eget e547 1 = .sl none (a2.map (cI .i64)) := envp he548 rfl h532
            have h551 : eget e547 5 = .sl (some 2) (r17.map (cI .i64)) := envp he548 rfl h533
            have h552 : eget e547 6 = .int .i64 r18 := envp he548 rfl h534
            have h553 : eget e547 8 = .lsl M28.length r386.length 0 r386.length := envp he548 rfl h535
            have h554 : eget e547 11 = .int .i64 r538 := envp he548 rfl rfl
            clear h531 h532 h533 h534 h535
            refine Ev.kseqN ?_
            refine Ev.seq ?_
            refine Ev.reg (fun _ => rfl) ?_
            refine Ev.nxk (mvO rfl) ?_
            refine Ev.rend ?_
            intro e555 he556
            have h557 : eget e555 0 = .int .i64 a1 := envp he556 rfl h549
            have h558 : eget e555 1 = .sl none (a2.map (cI .i64)) := envp he556 rfl h550
            have h559 : eget e555 5 = .sl (some 2) (r17.map (cI .i64)) := envp he556 rfl h551
            have h560 : eget e555 6 = .int .i64 r18 := envp he556 rfl h552
            have h561 : eget e555 8 = .lsl M28.length r386.length 0 r386.length := envp he556 rfl h553
            have h562 : eget e555 11 = .int .i64 r538 := envp he556 rfl h554
            have h563 : eget e555 12 = .int .i64 1 := envp he556 rfl rfl
            clear h549 h550 h551 h552 h553 h554
            refine Ev.kseqN ?_
            refine Ev.seq ?_
            refine Ev.reg (fun _ => rfl) ?_
            refine Ev.nxk (mvO (lslL (L' := r539.length) h561 (by simp [hl475, hl545]))) ?_
            refine Ev.nxk (mvO h563) ?_
            obtain ⟨r565, hx564, h⟩ := bind_some h
            refine Ev.nxck (Ev.call (v := .int .i64 r565) rfl (cns rfl (cns rfl rfl)) (ra1 (ra1_row o546 (cI_fl _)) (ra1 rfl ra0)) (laws_heldInt64S_ok r539 1 _ hx564) (fun _ => rfl)) ?_
            refine Ev.nxk (mvO rfl) ?_
            refine Ev.rend ?_
            intro e566 he567
            have h568 : eget e566 0 = .int .i64 a1 := envp he567 rfl h557
            have h569 : eget e566 1 = .sl none (a2.map (cI .i64)) := envp he567 rfl h558
            have h570 : eget e566 5 = .sl (some 2) (r17.map (cI .i64)) := envp he567 rfl h559
            have h571 : eget e566 6 = .int .i64 r18 := envp he567 rfl h560
            have h572 : eget e566 8 = .lsl M28.length r386.length 0 r386.length := envp he567 rfl h561
            have h573 : eget e566 11 = .int .i64 r538 := envp he567 rfl h562
            have h574 : eget e566 12 = .int .i64 r565 := envp he567 rfl rfl
            clear h557 h558 h559 h560 h561 h562
            refine Ev.kseqN ?_
            refine Ev.seq ?_
            refine Ev.seq ?_
            refine Ev.reg (fun _ => rfl) ?_
            refine Ev.nxk (mvO h574) ?_
            refine Ev.nxk (bLss rfl rfl) ?_
            refine Ev.rend ?_
            intro e575 he576
            have h577 : eget e575 0 = .int .i64 a1 := envp he576 rfl h568
            have h578 : eget e575 1 = .sl none (a2.map (cI .i64)) := envp he576 rfl h569
            have h579 : eget e575 5 = .sl (some 2) (r17.map (cI .i64)) := envp he576 rfl h570
            have h580 : eget e575 6 = .int .i64 r18 := envp he576 rfl h571
            have h581 : eget e575 8 = .lsl M28.length r386.length 0 r386.length := envp he576 rfl h572
            have h582 : eget e575 11 = .int .i64 r538 := envp he576 rfl h573
            have h583 : eget e575 12 = .int .i64 r565 := envp he576 rfl h574
            have h584 : eget e575 70 = .bool (decide (r565 < 0)) := envp he576 rfl rfl
            clear h568 h569 h570 h571 h572 h573 h574
            refine Ev.kseqN ?_
            rcases ite_some h with ⟨hb585, h⟩ | ⟨hb585, h⟩
            · refine Ev.condT h584 hb585 ?_
              refine Ev.seq ?_
              refine Ev.reg (fun _ => rfl) ?_
              refine Ev.nxk (mvO rfl) ?_
              refine Ev.rend ?_
              intro e586 he587
              have h588 : eget e586 4 = .bool false := envp he587 rfl rfl
              clear h577 h578 h579 h580 h581 h582 h583 h584
              refine Ev.kseqN ?_
              refine Ev.ex ?_
              refine Ev.kseqR ?_
              cases h
              exact Ev.kendR (resT h588 res0) rfl
            · refine Ev.condF h584 hb585 ?_
              refine Ev.ex ?_
              refine Ev.kseqN ?_
              refine Ev.seq ?_
              refine Ev.seq ?_
              refine Ev.reg (fun _ => rfl) ?_
              refine Ev.nxk (mvO h583) ?_
              refine Ev.nxk (mvO h582) ?_
              refine Ev.nxk (bNeq rfl rfl) ?_
              refine Ev.rend ?_
              intro e589 he590
              have h591 : eget e589 0 = .int .i64 a1 := envp he590 rfl h577
              have h592 : eget e589 1 = .sl none (a2.map (cI .i64)) := envp he590 rfl h578
              have h593 : eget e589 5 = .sl (some 2) (r17.map (cI .i64)) := envp he590 rfl h579
              have h594 : eget e589 6 = .int .i64 r18 := envp he590 rfl h580
              have h595 : eget e589 8 = .lsl M28.length r386.length 0 r386.length := envp he590 rfl h581
              have h596 : eget e589 11 = .int .i64 r538 := envp he590 rfl h582
              have h597 : eget e589 73 = .bool (r565 != r538) := envp he590 rfl rfl
              clear h577 h578 h579 h580 h581 h582 h583 h584
              refine Ev.kseqN ?_
              rcases ite_some h with ⟨hb598, h⟩ | ⟨hb598, h⟩
              · refine Ev.condT h597 hb598 ?_
                refine Ev.seq ?_
                refine Ev.reg (fun _ => rfl) ?_
                refine Ev.nxk (mvO rfl) ?_
                refine Ev.rend ?_
                intro e599 he600
                have h601 : eget e599 4 = .bool false := envp he600 rfl rfl
                clear h591 h592 h593 h594 h595 h596 h597
                refine Ev.kseqN ?_
                refine Ev.ex ?_
                refine Ev.kseqR ?_
                cases h
                exact Ev.kendR (resT h601 res0) rfl
              · refine Ev.condF h597 hb598 ?_
                refine Ev.ex ?_
                refine Ev.kseqN ?_
                refine Ev.seq ?_
                refine Ev.reg (fun _ => rfl) ?_
                refine Ev.nxk (mvO h591) ?_
                refine Ev.nxk (mvO h592) ?_
                obtain ⟨r603, hx602, h⟩ := bind_some h
                refine Ev.nxck (Ev.call (v := .sl (some 2) (r603.map (cI .i64))) rfl (cns rfl rfl) rfl (laws_toInt64S_ok a2 _ hx602) (fun h => nomatch (show false = true from h))) ?_
                obtain ⟨q736, hx604, h⟩ := bind_some h
                rcases q736 with _ | r670
                · refine Ev.nxck (Ev.call (v := .tup [.nils, .int .i64 2]) rfl (cns rfl (cns rfl rfl)) rfl (impl_ShareOut_ok a1 r603 _ hx604) (fun h => nomatch (show false = true from h))) ?_
                  refine Ev.nxk (mvO rfl) ?_
                  refine Ev.nxk (exT rfl rfl) ?_
                  refine Ev.nxk (exT rfl rfl) ?_
                  refine Ev.nxk (mvO rfl) ?_
                  refine Ev.nxk (mvO rfl) ?_
                  refine Ev.rend ?_
                  intro e605 he606
                  have h607 : eget e605 5 = .sl (some 2) (r17.map (cI .i64)) := envp he606 rfl h593
                  have h608 : eget e605 6 = .int .i64 r18 := envp he606 rfl h594
                  have h609 : eget e605 8 = .lsl M28.length r386.length 0 r386.length := envp he606 rfl h595
                  have h610 : eget e605 11 = .int .i64 r538 := envp he606 rfl h596
                  have h611 : eget e605 13 = .nils := envp he606 rfl rfl
                  have h612 : eget e605 14 = .int .i64 2 := envp he606 rfl rfl
                  clear h591 h592 h593 h594 h595 h596 h597
                  refine Ev.kseqN ?_
                  refine Ev.seq ?_
                  refine Ev.seq ?_
                  obtain ⟨r668, hr669, h⟩ := bind_some h
                  refine Ev.cut (Q1 := laws_FnExactShareOut_c7_Q r538 r539 M28.length r668) (by
                      have h := hr669
                      refine Ev.reg (fun _ => rfl) ?_
                      refine Ev.nxk (mvO h611) ?_
                      refine Ev.nxk (mvO h607) ?_
                      obtain ⟨r614, hx613, h⟩ := bind_some h
                      refine Ev.nxck (Ev.call (v := .bool r614) rfl (cns rfl (cns rfl rfl)) rfl (laws_eqInt64S_ok ([] : List Int) r17 _ hx613) (fun h => nomatch (show false = true from h))) ?_
                      refine Ev.nxk (uNot rfl) ?_
                      refine Ev.nxk (mvO rfl) ?_
                      rcases ite_some h with ⟨hb615, h⟩ | ⟨hb615, h⟩
                      · refine Ev.nxk (guF rfl (congrArg Bool.not hb615) (mvO h612)) ?_
                        refine Ev.nxk (guF rfl (congrArg Bool.not hb615) (mvO h608)) ?_
                        refine Ev.nxk (guF rfl (congrArg Bool.not hb615) (bNeq rfl rfl)) ?_
                        refine Ev.nxk (pkF rfl (congrArg Bool.not hb615) rfl) ?_
                        refine Ev.rend ?_
                        intro e616 he617
                        have h618 : eget e616 8 = .lsl M28.length r386.length 0 r386.length := envp he617 rfl h609
                        have h619 : eget e616 11 = .int .i64 r538 := envp he617 rfl h610
                        have h620 : eget e616 89 = .bool (2 != r18) := envp he617 rfl rfl
                        clear h607 h608 h609 h610 h611 h612
                        cases h
                        exact Ev.kid (show laws_FnExactShareOut_c7_Q r538 r539 M28.length _ _ from (And.intro rfl (And.intro (lslL (L' := r539.length) h618 (by simp [hl475, hl545])) (And.intro h619 (And.intro h620 o546)))))
                      · refine Ev.nxk (gsF rfl (congrArg Bool.not hb615)) ?_
                        refine Ev.nxk (gsF rfl (congrArg Bool.not hb615)) ?_
                        refine Ev.nxk (gsF rfl (congrArg Bool.not hb615)) ?_
                        refine Ev.nxk (pkT rfl (congrArg Bool.not hb615) rfl) ?_
                        refine Ev.rend ?_
                        intro e621 he622
                        have h623 : eget e621 8 = .lsl M28.length r386.length 0 r386.length := envp he622 rfl h609
                        have h624 : eget e621 11 = .int .i64 r538 := envp he622 rfl h610
                        have h625 : eget e621 89 = .bool true := envp he622 rfl rfl
                        clear h607 h608 h609 h610 h611 h612
                        cases h
                        exact Ev.kid (show laws_FnExactShareOut_c7_Q r538 r539 M28.length _ _ from (And.intro rfl (And.intro (lslL (L' := r539.length) h623 (by simp [hl475, hl545])) (And.intro h624 (And.intro h625 o546)))))) ?_
                  revert h hr669
                  revert r668
                  intro y628 hr669 h
                  intro x e626 M627 hq667
                  obtain ⟨rfl, h629, h630, h631, o632⟩ := hq667
                  refine Ev.kseqN ?_
                  rcases ite_some h with ⟨hb633, h⟩ | ⟨hb633, h⟩
                  · refine Ev.condT h631 hb633 ?_
                    refine Ev.seq ?_
                    refine Ev.reg (fun _ => rfl) ?_
                    refine Ev.nxk (mvO rfl) ?_
                    refine Ev.rend ?_
                    intro e634 he635
                    have h636 : eget e634 4 = .bool false := envp he635 rfl rfl
                    clear h629 h630 h631
                    refine Ev.kseqN ?_
                    refine Ev.ex ?_
                    refine Ev.kseqR ?_
                    cases h
                    exact Ev.kendR (resT h636 res0) rfl
                  · refine Ev.condF h631 hb633 ?_
                    refine Ev.ex ?_
                    refine Ev.kseqN ?_
                    refine Ev.seq ?_
                    refine Ev.reg (fun _ => rfl) ?_
                    refine Ev.nxk (mvO rfl) ?_
                    refine Ev.rend ?_
                    intro e637 he638
                    have h639 : eget e637 8 = .lsl M28.length r539.length 0 r539.length := envp he638 rfl h629
                    have h640 : eget e637 11 = .int .i64 r538 := envp he638 rfl h630
                    have h641 : eget e637 12 = .int .i64 1 := envp he638 rfl rfl
                    clear h629 h630 h631
                    refine Ev.kseqN ?_
                    refine Ev.seq ?_
                    refine Ev.reg (fun _ => rfl) ?_
                    refine Ev.nxk (mvO h639) ?_
                    refine Ev.nxk (mvO h641) ?_
                    obtain ⟨r643, hx642, h⟩ := bind_some h
                    refine Ev.nxck (Ev.call (v := .int .i64 r643) rfl (cns rfl (cns rfl rfl)) (ra1 (ra1_row o632 (cI_fl _)) (ra1 rfl ra0)) (laws_heldInt64S_ok r539 1 _ hx642) (fun _ => rfl)) ?_
                    refine Ev.nxk (mvO rfl) ?_
                    refine Ev.rend ?_
                    intro e644 he645
                    have h646 : eget e644 11 = .int .i64 r538 := envp he645 rfl h640
                    have h647 : eget e644 12 = .int .i64 r643 := envp he645 rfl rfl
                    clear h639 h640
                    refine Ev.kseqN ?_
                    refine Ev.seq ?_
                    refine Ev.seq ?_
                    refine Ev.reg (fun _ => rfl) ?_
                    refine Ev.nxk (mvO h647) ?_
                    refine Ev.nxk (bLss rfl rfl) ?_
                    refine Ev.rend ?_
                    intro e648 he649
                    have h650 : eget e648 11 = .int .i64 r538 := envp he649 rfl h646
                    have h651 : eget e648 12 = .int .i64 r643 := envp he649 rfl h647
                    have h652 : eget e648 94 = .bool (decide (r643 < 0)) := envp he649 rfl rfl
                    clear h646 h647
                    refine Ev.kseqN ?_
                    rcases ite_some h with ⟨hb653, h⟩ | ⟨hb653, h⟩
                    · refine Ev.condT h652 hb653 ?_
                      refine Ev.seq ?_
                      refine Ev.reg (fun _ => rfl) ?_
                      refine Ev.nxk (mvO rfl) ?_
                      refine Ev.rend ?_
                      intro e654 he655
                      have h656 : eget e654 4 = .bool false := envp he655 rfl rfl
                      clear h650 h651 h652
                      refine Ev.kseqN ?_
                      refine Ev.ex ?_
                      refine Ev.kseqR ?_
                      cases h
                      exact Ev.kendR (resT h656 res0) rfl
                    · refine Ev.condF h652 hb653 ?_
                      refine Ev.ex ?_
                      refine Ev.kseqN ?_
                      refine Ev.seq ?_
                      refine Ev.seq ?_
                      refine Ev.reg (fun _ => rfl) ?_
                      refine Ev.nxk (mvO h651) ?_
                      refine Ev.nxk (mvO h650) ?_
                      refine Ev.nxk (bNeq rfl rfl) ?_
                      refine Ev.rend ?_
                      intro e657 he658
                      have h659 : eget e657 97 = .bool (r643 != r538) := envp he658 rfl rfl
                      clear h650 h651 h652
                      refine Ev.kseqN ?_
                      rcases ite_some h with ⟨hb660, h⟩ | ⟨hb660, h⟩
                      · refine Ev.condT h659 hb660 ?_
                        refine Ev.seq ?_
                        refine Ev.reg (fun _ => rfl) ?_
                        refine Ev.nxk (mvO rfl) ?_
                        refine Ev.rend ?_
                        intro e661 he662
                        have h663 : eget e661 4 = .bool false := envp he662 rfl rfl
                        clear h659
                        refine Ev.kseqN ?_
                        refine Ev.ex ?_
                        refine Ev.kseqR ?_
                        cases h
                        exact Ev.kendR (resT h663 res0) rfl
                      · refine Ev.condF h659 hb660 ?_
                        refine Ev.ex ?_
                        refine Ev.kseqN ?_
                        refine Ev.seq ?_
                        refine Ev.reg (fun _ => rfl) ?_
                        refine Ev.nxk (mvO rfl) ?_
                        refine Ev.rend ?_
                        intro e664 he665
                        have h666 : eget e664 4 = .bool true := envp he665 rfl rfl
                        clear h659
                        refine Ev.kseqN ?_
                        refine Ev.ex ?_
                        cases h
                        exact Ev.kendR (resT h666 res0) rfl
                · refine Ev.nxck (Ev.call (v := .tup [.sl (some 2) (r670.map (cI .i64)), .int .i64 0]) rfl (cns rfl (cns rfl rfl)) rfl (impl_ShareOut_ok a1 r603 _ hx604) (fun h => nomatch (show false = true from h))) ?_
                  refine Ev.nxk (mvO rfl) ?_
                  refine Ev.nxk (exT rfl rfl) ?_
                  refine Ev.nxk (exT rfl rfl) ?_
                  refine Ev.nxk (mvO rfl) ?_
                  refine Ev.nxk (mvO rfl) ?_
                  refine Ev.rend ?_
                  intro e671 he672
                  have h673 : eget e671 5 = .sl (some 2) (r17.map (cI .i64)) := envp he672 rfl h593
                  have h674 : eget e671 6 = .int .i64 r18 := envp he672 rfl h594
                  have h675 : eget e671 8 = .lsl M28.length r386.length 0 r386.length := envp he672 rfl h595
                  have h676 : eget e671 11 = .int .i64 r538 := envp he672 rfl h596
                  have h677 : eget e671 13 = .sl (some 2) (r670.map (cI .i64)) := envp he672 rfl rfl
                  have h678 : eget e671 14 = .int .i64 0 := envp he672 rfl rfl
                  clear h591 h592 h593 h594 h595 h596 h597
                  refine Ev.kseqN ?_
                  refine Ev.seq ?_
                  refine Ev.seq ?_
                  obtain ⟨r734, hr735, h⟩ := bind_some h
                  refine Ev.cut (Q1 := laws_FnExactShareOut_c8_Q r538 r539 M28.length r734) (by
                      have h := hr735
                      refine Ev.reg (fun _ => rfl) ?_
                      refine Ev.nxk (mvO h677) ?_
                      refine Ev.nxk (mvO h673) ?_
                      obtain ⟨r680, hx679, h⟩ := bind_some h
                      refine Ev.nxck (Ev.call (v := .bool r680) rfl (cns rfl (cns rfl rfl)) rfl (laws_eqInt64S_ok r670 r17 _ hx679) (fun h => nomatch (show false = true from h))) ?_
                      refine Ev.nxk (uNot rfl) ?_
                      refine Ev.nxk (mvO rfl) ?_
                      rcases ite_some h with ⟨hb681, h⟩ | ⟨hb681, h⟩
                      · refine Ev.nxk (guF rfl (congrArg Bool.not hb681) (mvO h678)) ?_
                        refine Ev.nxk (guF rfl (congrArg Bool.not hb681) (mvO h674)) ?_
                        refine Ev.nxk (guF rfl (congrArg Bool.not hb681) (bNeq rfl rfl)) ?_
                        refine Ev.nxk (pkF rfl (congrArg Bool.not hb681) rfl) ?_
                        refine Ev.rend ?_
                        intro e682 he683
                        have h684 : eget e682 8 = .lsl M28.length r386.length 0 r386.length := envp he683 rfl h675
                        have h685 : eget e682 11 = .int .i64 r538 := envp he683 rfl h676
                        have h686 : eget e682 89 = .bool (0 != r18) := envp he683 rfl rfl
                        clear h673 h674 h675 h676 h677 h678
                        cases h
                        exact Ev.kid (show laws_FnExactShareOut_c8_Q r538 r539 M28.length _ _ from (And.intro rfl (And.intro (lslL (L' := r539.length) h684 (by simp [hl475, hl545])) (And.intro h685 (And.intro h686 o546)))))
                      · refine Ev.nxk (gsF rfl (congrArg Bool.not hb681)) ?_
                        refine Ev.nxk (gsF rfl (congrArg Bool.not hb681)) ?_
                        refine Ev.nxk (gsF rfl (congrArg Bool.not hb681)) ?_
                        refine Ev.nxk (pkT rfl (congrArg Bool.not hb681) rfl) ?_
                        refine Ev.rend ?_
                        intro e687 he688
                        have h689 : eget e687 8 = .lsl M28.length r386.length 0 r386.length := envp he688 rfl h675
                        have h690 : eget e687 11 = .int .i64 r538 := envp he688 rfl h676
                        have h691 : eget e687 89 = .bool true := envp he688 rfl rfl
                        clear h673 h674 h675 h676 h677 h678
                        cases h
                        exact Ev.kid (show laws_FnExactShareOut_c8_Q r538 r539 M28.length _ _ from (And.intro rfl (And.intro (lslL (L' := r539.length) h689 (by simp [hl475, hl545])) (And.intro h690 (And.intro h691 o546)))))) ?_
                  revert h hr735
                  revert r734
                  intro y694 hr735 h
                  intro x e692 M693 hq733
                  obtain ⟨rfl, h695, h696, h697, o698⟩ := hq733
                  refine Ev.kseqN ?_
                  rcases ite_some h with ⟨hb699, h⟩ | ⟨hb699, h⟩
                  · refine Ev.condT h697 hb699 ?_
                    refine Ev.seq ?_
                    refine Ev.reg (fun _ => rfl) ?_
                    refine Ev.nxk (mvO rfl) ?_
                    refine Ev.rend ?_
                    intro e700 he701
                    have h702 : eget e700 4 = .bool false := envp he701 rfl rfl
                    clear h695 h696 h697
                    refine Ev.kseqN ?_
                    refine Ev.ex ?_
                    refine Ev.kseqR ?_
                    cases h
                    exact Ev.kendR (resT h702 res0) rfl
                  · refine Ev.condF h697 hb699 ?_
                    refine Ev.ex ?_
                    refine Ev.kseqN ?_
                    refine Ev.seq ?_
                    refine Ev.reg (fun _ => rfl) ?_
                    refine Ev.nxk (mvO rfl) ?_
                    refine Ev.rend ?_
                    intro e703 he704
                    have h705 : eget e703 8 = .lsl M28.length r539.length 0 r539.length := envp he704 rfl h695
                    have h706 : eget e703 11 = .int .i64 r538 := envp he704 rfl h696
                    have h707 : eget e703 12 = .int .i64 1 := envp he704 rfl rfl
                    clear h695 h696 h697
                    refine Ev.kseqN ?_
                    refine Ev.seq ?_
                    refine Ev.reg (fun _ => rfl) ?_
                    refine Ev.nxk (mvO h705) ?_
                    refine Ev.nxk (mvO h707) ?_
                    obtain ⟨r709, hx708, h⟩ := bind_some h
                    refine Ev.nxck (Ev.call (v := .int .i64 r709) rfl (cns rfl (cns rfl rfl)) (ra1 (ra1_row o698 (cI_fl _)) (ra1 rfl ra0)) (laws_heldInt64S_ok r539 1 _ hx708) (fun _ => rfl)) ?_
                    refine Ev.nxk (mvO rfl) ?_
                    refine Ev.rend ?_
                    intro e710 he711
                    have h712 : eget e710 11 = .int .i64 r538 := envp he711 rfl h706
                    have h713 : eget e710 12 = .int .i64 r709 := envp he711 rfl rfl
                    clear h705 h706
                    refine Ev.kseqN ?_
                    refine Ev.seq ?_
                    refine Ev.seq ?_
                    refine Ev.reg (fun _ => rfl) ?_
                    refine Ev.nxk (mvO h713) ?_
                    refine Ev.nxk (bLss rfl rfl) ?_
                    refine Ev.rend ?_
                    intro e714 he715
                    have h716 : eget e714 11 = .int .i64 r538 := envp he715 rfl h712
                    have h717 : eget e714 12 = .int .i64 r709 := envp he715 rfl h713
                    have h718 : eget e714 94 = .bool (decide (r709 < 0)) := envp he715 rfl rfl
                    clear h712 h713
                    refine Ev.kseqN ?_
                    rcases ite_some h with ⟨hb719, h⟩ | ⟨hb719, h⟩
                    · refine Ev.condT h718 hb719 ?_
                      refine Ev.seq ?_
                      refine Ev.reg (fun _ => rfl) ?_
                      refine Ev.nxk (mvO rfl) ?_
                      refine Ev.rend ?_
                      intro e720 he721
                      have h722 : eget e720 4 = .bool false := envp he721 rfl rfl
                      clear h716 h717 h718
                      refine Ev.kseqN ?_
                      refine Ev.ex ?_
                      refine Ev.kseqR ?_
                      cases h
                      exact Ev.kendR (resT h722 res0) rfl
                    · refine Ev.condF h718 hb719 ?_
                      refine Ev.ex ?_
                      refine Ev.kseqN ?_
                      refine Ev.seq ?_
                      refine Ev.seq ?_
                      refine Ev.reg (fun _ => rfl) ?_
                      refine Ev.nxk (mvO h717) ?_
                      refine Ev.nxk (mvO h716) ?_
                      refine Ev.nxk (bNeq rfl rfl) ?_
                      refine Ev.rend ?_
                      intro e723 he724
                      have h725 : eget e723 97 = .bool (r709 != r538) := envp he724 rfl rfl
                      clear h716 h717 h718
                      refine Ev.kseqN ?_
                      rcases ite_some h with ⟨hb726, h⟩ | ⟨hb726, h⟩
                      · refine Ev.condT h725 hb726 ?_
                        refine Ev.seq ?_
                        refine Ev.reg (fun _ => rfl) ?_
                        refine Ev.nxk (mvO rfl) ?_
                        refine Ev.rend ?_
                        intro e727 he728
                        have h729 : eget e727 4 = .bool false := envp he728 rfl rfl
                        clear h725
                        refine Ev.kseqN ?_
                        refine Ev.ex ?_
                        refine Ev.kseqR ?_
                        cases h
                        exact Ev.kendR (resT h729 res0) rfl
                      · refine Ev.condF h725 hb726 ?_
                        refine Ev.ex ?_
                        refine Ev.kseqN ?_
                        refine Ev.seq ?_
                        refine Ev.reg (fun _ => rfl) ?_
                        refine Ev.nxk (mvO rfl) ?_
                        refine Ev.rend ?_
                        intro e730 he731
                        have h732 : eget e730 4 = .bool true := envp he731 rfl rfl
                        clear h725
                        refine Ev.kseqN ?_
                        refine Ev.ex ?_
                        cases h
                        exact Ev.kendR (resT h732 res0) rfl
        · refine Ev.condT h455 (congrArg Bool.not hb456) ?_
          refine Ev.seq ?_
          refine Ev.reg (fun _ => rfl) ?_
          refine Ev.nxk (mvO rfl) ?_
          refine Ev.rend ?_
          intro e740 he741
          have h742 : eget e740 4 = .bool false := envp he741 rfl rfl
          clear h448 h449 h450 h451 h452 h453 h454 h455
          refine Ev.kseqN ?_
          refine Ev.ex ?_
          refine Ev.kseqR ?_
          cases h
          exact Ev.kendR (resT h742 res0) rfl
end Go.Proofs.Ytaocojognonkcaa

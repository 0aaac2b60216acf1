/- Printed by a program of ours (ext.py). -/
import Derived.Test.YtfabokkhdalbeadLnkDoDealx1
set_option linter.unusedVariables false
set_option maxRecDepth 100000
set_option maxHeartbeats 2000000
namespace Go.Proofs.Ytfabokkhdalbead
open Go Go.Ab
/-! ### loop.example/g01263/laws.markInt64S (f32) -/
abbrev laws_markInt64S_n_b1_S := Int × Int
abbrev laws_markInt64S_n_b1_R := Int
def laws_markInt64S_n_b1_RS (M0 : Mem) (s : laws_markInt64S_n_b1_S) (e : Env) (M : Mem) : Prop := eget e 0 = .nils ∧ eget e 1 = .int .i64 s.1 ∧ eget e 5 = .int .i64 s.2 ∧ Fr [] M0 M
def laws_markInt64S_n_b1_RR (M0 : Mem) (g : laws_markInt64S_n_b1_R) (x : Ex) (e : Env) (M : Mem) : Prop := x = .ext 0 ∧ eget e 1 = .int .i64 g ∧ Fr [] M0 M
noncomputable def laws_markInt64S_n_b1 : laws_markInt64S_n_b1_S → Option (laws_markInt64S_n_b1_S ⊕ laws_markInt64S_n_b1_R) := fun (s1_1, s1_2) =>
 if (decide (s1_2 < 0)) = true then
  none
 else
  some (.inr s1_1)
theorem laws_markInt64S_n_b1_ok (M0 : Mem) (s : laws_markInt64S_n_b1_S) (r : laws_markInt64S_n_b1_S ⊕ laws_markInt64S_n_b1_R) (h : laws_markInt64S_n_b1 s = some r) (e : Env) (M : Mem) (hs : laws_markInt64S_n_b1_RS M0 s e M) : Ev (fun k => (f32_l2 (CN k) k (prune [0, 1, 5] e) M).bind fun q => some q) (bQ (laws_markInt64S_n_b1_RS M0) (laws_markInt64S_n_b1_RR M0) r) := by
 obtain ⟨s1_1, s1_2⟩ := s
 unfold laws_markInt64S_n_b1 at h
 obtain ⟨h21, h23, h25, fr27⟩ := hs
 generalize he20 : prune [0, 1, 5] e = e19
 have h22 := envp he20.symm rfl h21
 have h24 := envp he20.symm rfl h23
 have h26 := envp he20.symm rfl h25
 refine Ev.seq ?_
 refine Ev.seq ?_
 refine Ev.reg (fun _ => rfl) ?_
 refine Ev.nxk (mvO h26) ?_
 refine Ev.nxk (mvO h22) ?_
 refine Ev.nxk (lnN Try.underlying47 rfl) ?_
 refine Ev.nxk (bLss rfl rfl) ?_
 refine Ev.rend ?_
 intro e28 he29
 have h30 : eget e28 0 = .nils := envp he29 rfl h22
 have h31 : eget e28 1 = .int .i64 s1_1 := envp he29 rfl h24
 have h32 : eget e28 5 = .int .i64 s1_2 := envp he29 rfl h26
 have h33 : eget e28 9 = .bool (decide (s1_2 < 0)) := envp he29 rfl rfl
 clear h22 h24 h26
 refine Ev.kseqN ?_
 rcases ite_some h with ⟨hb34, h⟩ | ⟨hb34, h⟩
 ·refine Ev.condT h33 hb34 ?_
  refine Ev.ex ?_
  refine Ev.kseqN ?_
  refine Ev.seq ?_
  refine Ev.blk ?_
  refine Ev.seq ?_
  refine Ev.reg (fun _ => rfl) ?_
  refine Ev.nxk (mvO h30) ?_
  refine Ev.nxk (mvO h32) ?_
  refine Ev.nxk (mvO h31) ?_
  cases h
 refine Ev.condF h33 hb34 ?_
 refine Ev.ex ?_
 refine Ev.kseqE ?_
 cases h
 exact Ev.kid (bQ_x (RS := (laws_markInt64S_n_b1_RS M0)) (RR := (laws_markInt64S_n_b1_RR M0)) (by intro h; cases h) (And.intro rfl (And.intro h31 fr27)))
noncomputable def laws_markInt64S_n (a1 : Int) : Option Int :=
 (Lw (laws_markInt64S_n_b1) (a1, 0)).bind fun y40 =>
 some y40
def laws_markInt64S_n_Q (a1 : Int) (M0 : Mem) (r : Int) (p : AV × Mem) : Prop := p.1 = .int .i64 r ∧ Fr [] M0 p.2
theorem laws_markInt64S_n_ok (a1 : Int) (M0 : Mem) (r : Int) (h : laws_markInt64S_n a1 = some r) : Ev (fun k => CN k 32 [.nils, .int .i64 a1] M0) (laws_markInt64S_n_Q a1 M0 r) := by
 unfold laws_markInt64S_n at h
 have fr0 : Fr [] M0 M0 := Fr.refl
 refine Ev.enter (F := fun k => f32 (CN k) k) (fun k => callN_eq rfl Try.func32 rfl rfl rfl (by decide +kernel) (f32_eq _ _)) ?_
 refine Ev.seq ?_
 refine Ev.reg (fun _ => rfl) ?_
 refine Ev.nxk (mvO rfl) ?_
 refine Ev.rend ?_
 intro e1 he2
 have h3 : eget e1 0 = .nils := envp he2 rfl rfl
 have h4 : eget e1 1 = .int .i64 a1 := envp he2 rfl rfl
 refine Ev.kseqN ?_
 refine Ev.seq ?_
 refine Ev.seq ?_
 refine Ev.reg (fun _ => rfl) ?_
 refine Ev.nxk (mvO rfl) ?_
 refine Ev.rend ?_
 intro e5 he6
 have h7 : eget e5 0 = .nils := envp he6 rfl h3
 have h8 : eget e5 1 = .int .i64 a1 := envp he6 rfl h4
 have h9 : eget e5 5 = .int .i64 0 := envp he6 rfl rfl
 clear h3 h4
 refine Ev.kseqN ?_
 refine Ev.blk ?_
 obtain ⟨y40, hr36, h⟩ := bind_some h
 refine Ev.loop (RS := laws_markInt64S_n_b1_RS M0) (RR := laws_markInt64S_n_b1_RR M0) (fun s r h e M hs => laws_markInt64S_n_b1_ok M0 s r h e M hs) hr36 (And.intro h7 (And.intro h8 (And.intro h9 fr0))) ?_
 intro x e38 M39 hq37
 obtain ⟨rfl, h41, fr42⟩ := hq37
 refine Ev.kblkE ?_
 refine Ev.kseqN ?_
 refine Ev.seq ?_
 refine Ev.reg (fun _ => rfl) ?_
 refine Ev.nxk (mvO h41) ?_
 refine Ev.nxk (mvO rfl) ?_
 refine Ev.rend ?_
 intro e43 he44
 have h45 : eget e43 4 = .int .i64 y40 := envp he44 rfl rfl
 clear h41
 refine Ev.kseqN ?_
 refine Ev.ex ?_
 cases h
 exact Ev.kendR (resT h45 res0) (And.intro rfl fr42)
/-! ### loop.example/g01263/laws.markTallyS (f70) -/
abbrev laws_markTallyS_n_b1_S := Int × Int
abbrev laws_markTallyS_n_b1_R := Int
def laws_markTallyS_n_b1_RS (M0 : Mem) (s : laws_markTallyS_n_b1_S) (e : Env) (M : Mem) : Prop := eget e 0 = .nils ∧ eget e 1 = .int .i64 s.1 ∧ eget e 5 = .int .i64 s.2 ∧ Fr [] M0 M
def laws_markTallyS_n_b1_RR (M0 : Mem) (g : laws_markTallyS_n_b1_R) (x : Ex) (e : Env) (M : Mem) : Prop := x = .ext 0 ∧ eget e 1 = .int .i64 g ∧ Fr [] M0 M
noncomputable def laws_markTallyS_n_b1 : laws_markTallyS_n_b1_S → Option (laws_markTallyS_n_b1_S ⊕ laws_markTallyS_n_b1_R) := fun (s1_1, s1_2) =>
 if (decide (s1_2 < 0)) = true then
  none
 else
  some (.inr s1_1)
theorem laws_markTallyS_n_b1_ok (M0 : Mem) (s : laws_markTallyS_n_b1_S) (r : laws_markTallyS_n_b1_S ⊕ laws_markTallyS_n_b1_R) (h : laws_markTallyS_n_b1 s = some r) (e : Env) (M : Mem) (hs : laws_markTallyS_n_b1_RS M0 s e M) : Ev (fun k => (f70_l2 (CN k) k (prune [0, 1, 5] e) M).bind fun q => some q) (bQ (laws_markTallyS_n_b1_RS M0) (laws_markTallyS_n_b1_RR M0) r) := by
 obtain ⟨s1_1, s1_2⟩ := s
 unfold laws_markTallyS_n_b1 at h
 obtain ⟨h21, h23, h25, fr27⟩ := hs
 generalize he20 : prune [0, 1, 5] e = e19
 have h22 := envp he20.symm rfl h21
 have h24 := envp he20.symm rfl h23
 have h26 := envp he20.symm rfl h25
 refine Ev.seq ?_
 refine Ev.seq ?_
 refine Ev.reg (fun _ => rfl) ?_
 refine Ev.nxk (mvO h26) ?_
 refine Ev.nxk (mvO h22) ?_
 refine Ev.nxk (lnN Try.underlying54 rfl) ?_
 refine Ev.nxk (bLss rfl rfl) ?_
 refine Ev.rend ?_
 intro e28 he29
 have h30 : eget e28 0 = .nils := envp he29 rfl h22
 have h31 : eget e28 1 = .int .i64 s1_1 := envp he29 rfl h24
 have h32 : eget e28 5 = .int .i64 s1_2 := envp he29 rfl h26
 have h33 : eget e28 9 = .bool (decide (s1_2 < 0)) := envp he29 rfl rfl
 clear h22 h24 h26
 refine Ev.kseqN ?_
 rcases ite_some h with ⟨hb34, h⟩ | ⟨hb34, h⟩
 ·refine Ev.condT h33 hb34 ?_
  refine Ev.ex ?_
  refine Ev.kseqN ?_
  refine Ev.seq ?_
  refine Ev.blk ?_
  refine Ev.seq ?_
  refine Ev.reg (fun _ => rfl) ?_
  refine Ev.nxk (mvO h30) ?_
  refine Ev.nxk (mvO h32) ?_
  refine Ev.nxk (mvO h31) ?_
  cases h
 refine Ev.condF h33 hb34 ?_
 refine Ev.ex ?_
 refine Ev.kseqE ?_
 cases h
 exact Ev.kid (bQ_x (RS := (laws_markTallyS_n_b1_RS M0)) (RR := (laws_markTallyS_n_b1_RR M0)) (by intro h; cases h) (And.intro rfl (And.intro h31 fr27)))
noncomputable def laws_markTallyS_n (a1 : Int) : Option Int :=
 (Lw (laws_markTallyS_n_b1) (a1, 0)).bind fun y40 =>
 some y40
def laws_markTallyS_n_Q (a1 : Int) (M0 : Mem) (r : Int) (p : AV × Mem) : Prop := p.1 = .int .i64 r ∧ Fr [] M0 p.2
theorem laws_markTallyS_n_ok (a1 : Int) (M0 : Mem) (r : Int) (h : laws_markTallyS_n a1 = some r) : Ev (fun k => CN k 70 [.nils, .int .i64 a1] M0) (laws_markTallyS_n_Q a1 M0 r) := by
 unfold laws_markTallyS_n at h
 have fr0 : Fr [] M0 M0 := Fr.refl
 refine Ev.enter (F := fun k => f70 (CN k) k) (fun k => callN_eq rfl Try.func70 rfl rfl rfl (by decide +kernel) (f70_eq _ _)) ?_
 refine Ev.seq ?_
 refine Ev.reg (fun _ => rfl) ?_
 refine Ev.nxk (mvO rfl) ?_
 refine Ev.rend ?_
 intro e1 he2
 have h3 : eget e1 0 = .nils := envp he2 rfl rfl
 have h4 : eget e1 1 = .int .i64 a1 := envp he2 rfl rfl
 refine Ev.kseqN ?_
 refine Ev.seq ?_
 refine Ev.seq ?_
 refine Ev.reg (fun _ => rfl) ?_
 refine Ev.nxk (mvO rfl) ?_
 refine Ev.rend ?_
 intro e5 he6
 have h7 : eget e5 0 = .nils := envp he6 rfl h3
 have h8 : eget e5 1 = .int .i64 a1 := envp he6 rfl h4
 have h9 : eget e5 5 = .int .i64 0 := envp he6 rfl rfl
 clear h3 h4
 refine Ev.kseqN ?_
 refine Ev.blk ?_
 obtain ⟨y40, hr36, h⟩ := bind_some h
 refine Ev.loop (RS := laws_markTallyS_n_b1_RS M0) (RR := laws_markTallyS_n_b1_RR M0) (fun s r h e M hs => laws_markTallyS_n_b1_ok M0 s r h e M hs) hr36 (And.intro h7 (And.intro h8 (And.intro h9 fr0))) ?_
 intro x e38 M39 hq37
 obtain ⟨rfl, h41, fr42⟩ := hq37
 refine Ev.kblkE ?_
 refine Ev.kseqN ?_
 refine Ev.seq ?_
 refine Ev.reg (fun _ => rfl) ?_
 refine Ev.nxk (mvO h41) ?_
 refine Ev.nxk (mvO rfl) ?_
 refine Ev.rend ?_
 intro e43 he44
 have h45 : eget e43 4 = .int .i64 y40 := envp he44 rfl rfl
 clear h41
 refine Ev.kseqN ?_
 refine Ev.ex ?_
 cases h
 exact Ev.kendR (resT h45 res0) (And.intro rfl fr42)
/-! ### loop.example/g01263/laws.markBook (f23) -/
noncomputable def laws_markBook_nn (a1 : Int) (a2 : Int) : Option Int :=
 (laws_markInt64S_n a2).bind fun r12 =>
 (laws_markTallyS_n r12).bind fun r24 =>
 some r24
def laws_markBook_nn_Q (a1 : Int) (a2 : Int) (M0 : Mem) (r : Int) (p : AV × Mem) : Prop := p.1 = .int .i64 r ∧ Fr [] M0 p.2
theorem laws_markBook_nn_ok (a1 : Int) (a2 : Int) (M0 : Mem) (r : Int) (h : laws_markBook_nn a1 a2 = some r) : Ev (fun k => CN k 23 [.agg [.int .i64 a1, .nils, .nils], .int .i64 a2] M0) (laws_markBook_nn_Q a1 a2 M0 r) := by
 unfold laws_markBook_nn at h
 have fr0 : Fr [] M0 M0 := Fr.refl
 refine Ev.enter (F := fun k => f23 (CN k) k) (fun k => callN_eq rfl Try.func23 rfl rfl rfl (by decide +kernel) (f23_eq _ _)) ?_
 refine Ev.seq ?_
 refine Ev.reg (fun _ => rfl) ?_
 refine Ev.nxpush (bxO rfl rfl ⟨rfl, rfl, by decide⟩) ?_
 intro M2 hM3
 have nf4 := Nf.mk fr0
 have fr5 := Fr.push fr0 hM3
 have o6 : M2[M0.length]? = some (.live ⟨.box, 56, 3, [[.int .i64 a1, .nils, .nils]]⟩) := push_new hM3
 refine Ev.nxk (mvO rfl) ?_
 refine Ev.rend ?_
 intro e7 he8
 have h9 : eget e7 1 = .int .i64 a2 := envp he8 rfl rfl
 have h10 : eget e7 2 = .loc M0.length 1 0 0 := envp he8 rfl rfl
 refine Ev.kseqN ?_
 refine Ev.seq ?_
 refine Ev.reg (fun _ => rfl) ?_
 refine Ev.nxk (faO h10 o6 rfl) ?_
 refine Ev.nxk (ldO rfl o6 rfl rfl rfl) ?_
 refine Ev.nxk (mvO h9) ?_
 obtain ⟨r12, hx11, h⟩ := bind_some h
 refine Ev.nxw (Ev.callW rfl (cns rfl (cns rfl rfl)) (laws_markInt64S_n_ok a2 M2 _ hx11)) ?_
 intro v15 M13 hq14
 obtain ⟨hv15, fr16⟩ := hq14
 have hv15 : v15 = .int .i64 r12 := hv15
 subst hv15
 have o17 : M13[M0.length]? = some (.live ⟨.box, 56, 3, [[.int .i64 a1, .nils, .nils]]⟩) := fr16 _ _ niN o6
 have fr18 : Fr [] M0 M13 := Fr.call fr5 fr16 fwN
 refine Ev.nxk (mvO rfl) ?_
 refine Ev.rend ?_
 intro e19 he20
 have h21 : eget e19 1 = .int .i64 r12 := envp he20 rfl rfl
 have h22 := envp (t := 2) he20 rfl h10
 clear h10
 refine Ev.kseqN ?_
 refine Ev.seq ?_
 refine Ev.reg (fun _ => rfl) ?_
 refine Ev.nxk (faO h22 o17 rfl) ?_
 refine Ev.nxk (ldO rfl o17 rfl rfl rfl) ?_
 refine Ev.nxk (mvO h21) ?_
 obtain ⟨r24, hx23, h⟩ := bind_some h
 refine Ev.nxw (Ev.callW rfl (cns rfl (cns rfl rfl)) (laws_markTallyS_n_ok r12 M13 _ hx23)) ?_
 intro v27 M25 hq26
 obtain ⟨hv27, fr28⟩ := hq26
 have hv27 : v27 = .int .i64 r24 := hv27
 subst hv27
 have o29 : M25[M0.length]? = some (.live ⟨.box, 56, 3, [[.int .i64 a1, .nils, .nils]]⟩) := fr28 _ _ niN o17
 have fr30 : Fr [] M0 M25 := Fr.call fr18 fr28 fwN
 refine Ev.nxk (mvO rfl) ?_
 refine Ev.rend ?_
 intro e31 he32
 have h33 : eget e31 1 = .int .i64 r24 := envp he32 rfl rfl
 clear h22
 refine Ev.kseqN ?_
 refine Ev.seq ?_
 refine Ev.reg (fun _ => rfl) ?_
 refine Ev.nxk (mvO h33) ?_
 refine Ev.nxk (mvO rfl) ?_
 refine Ev.rend ?_
 intro e34 he35
 have h36 : eget e34 4 = .int .i64 r24 := envp he35 rfl rfl
 clear h33
 refine Ev.kseqN ?_
 refine Ev.ex ?_
 cases h
 exact Ev.kendR (resT h36 res0) (And.intro rfl fr30)
/-! ### loop.example/g01263/laws.FnExactDoDeal (f4) -/
def laws_FnExactDoDeal_c1_Q (a1 : Book) (a2 : Deal) (r38 : Int) (r53 : Int) (r54 : List Int) (r55 : List Tally) (r97 : Int) (i901_1 : Nat) (i901_2 : Nat) (i901_3 : Nat) (i901_4 : Nat) (i901_5 : Nat) (g : Bool) (q : Out) : Prop := q.1 = .nrm ∧ eget q.2.1 2 = .pt none [.int .i64 a1.Day, .sl none (a1.Cash.map (cI .i64)), .sl none (a1.Tallies.map Tally.c)] ∧ eget q.2.1 3 = .pt none [.int .i64 a2.Day, .int .i8 a2.Kind, .int .i64 a2.Tally, .int .i64 a2.From, .int .i64 a2.To, .int .i64 a2.Amount] ∧ eget q.2.1 6 = .loc i901_1 1 0 0 ∧ eget q.2.1 7 = .int .i64 r38 ∧ eget q.2.1 8 = .loc i901_4 1 0 0 ∧ eget q.2.1 9 = .loc i901_5 1 0 0 ∧ eget q.2.1 10 = .int .i64 r97 ∧ eget q.2.1 46 = .bool g ∧ q.2.2[i901_1]? = some (.live ⟨.box, 56, 3, [[.int .i64 0, .nils, .nils]]⟩) ∧ q.2.2[i901_2]? = some (.live ⟨.grow, 2, 1, r54.map (cI .i64)⟩) ∧ q.2.2[(i901_2 + 1)]? = some (.live ⟨.grow, 156, 5, r55.map Tally.c⟩) ∧ q.2.2[i901_4]? = some (.live ⟨.box, 56, 3, [[.int .i64 r53, .lsl i901_2 r54.length 0 r54.length, .lsl (i901_2 + 1) r55.length 0 r55.length]]⟩) ∧ q.2.2[i901_5]? = some (.live ⟨.box, 56, 3, [[.int .i64 0, .nils, .nils]]⟩)
def laws_FnExactDoDeal_c2_Q (a1 : Book) (a2 : Deal) (r38 : Int) (i902_1 : Nat) (i902_2 : Nat) (g : Bool) (q : Out) : Prop := q.1 = .nrm ∧ eget q.2.1 2 = .pt none [.int .i64 a1.Day, .sl none (a1.Cash.map (cI .i64)), .sl none (a1.Tallies.map Tally.c)] ∧ eget q.2.1 3 = .pt none [.int .i64 a2.Day, .int .i8 a2.Kind, .int .i64 a2.Tally, .int .i64 a2.From, .int .i64 a2.To, .int .i64 a2.Amount] ∧ eget q.2.1 6 = .loc i902_1 1 0 0 ∧ eget q.2.1 7 = .int .i64 r38 ∧ eget q.2.1 9 = .loc i902_2 1 0 0 ∧ eget q.2.1 67 = .bool g ∧ q.2.2[i902_1]? = some (.live ⟨.box, 56, 3, [[.int .i64 0, .nils, .nils]]⟩) ∧ q.2.2[i902_2]? = some (.live ⟨.box, 56, 3, [[.int .i64 0, .nils, .nils]]⟩)
def laws_FnExactDoDeal_c3_Q (r274 : Int) (i903_1 : Nat) (i903_2 : Nat) (i903_3 : Nat) (g : Bool) (q : Out) : Prop := q.1 = .nrm ∧ eget q.2.1 9 = .loc i903_2 1 0 0 ∧ eget q.2.1 12 = .int .i64 r274 ∧ eget q.2.1 95 = .bool g ∧ q.2.2[i903_2]? = some (.live ⟨.box, 56, 3, [[.int .i64 0, .nils, .nils]]⟩)
def laws_FnExactDoDeal_c4_Q (r274 : Int) (i904_1 : Nat) (i904_2 : Nat) (i904_3 : Nat) (g : Bool) (q : Out) : Prop := q.1 = .nrm ∧ eget q.2.1 9 = .loc i904_2 1 0 0 ∧ eget q.2.1 12 = .int .i64 r274 ∧ eget q.2.1 95 = .bool g ∧ q.2.2[i904_2]? = some (.live ⟨.box, 56, 3, [[.int .i64 0, .nils, .nils]]⟩)
def laws_FnExactDoDeal_c5_Q (a1 : Book) (a2 : Deal) (r38 : Int) (r53 : Int) (r54 : List Int) (r55 : List Tally) (r518 : Int) (r519 : List Int) (r520 : List Tally) (i905_1 : Nat) (i905_2 : Nat) (i905_3 : Nat) (i905_4 : Nat) (i905_5 : Nat) (i905_6 : Nat) (i905_7 : Nat) (g : Bool) (q : Out) : Prop := q.1 = .nrm ∧ eget q.2.1 2 = .pt none [.int .i64 a1.Day, .sl none (a1.Cash.map (cI .i64)), .sl none (a1.Tallies.map Tally.c)] ∧ eget q.2.1 3 = .pt none [.int .i64 a2.Day, .int .i8 a2.Kind, .int .i64 a2.Tally, .int .i64 a2.From, .int .i64 a2.To, .int .i64 a2.Amount] ∧ eget q.2.1 6 = .loc i905_1 1 0 0 ∧ eget q.2.1 7 = .int .i64 r38 ∧ eget q.2.1 8 = .loc i905_4 1 0 0 ∧ eget q.2.1 9 = .loc (i905_5 + 2) 1 0 0 ∧ eget q.2.1 10 = .int .i64 0 ∧ eget q.2.1 46 = .bool g ∧ q.2.2[i905_1]? = some (.live ⟨.box, 56, 3, [[.int .i64 0, .nils, .nils]]⟩) ∧ q.2.2[i905_5]? = some (.live ⟨.grow, 2, 1, r519.map (cI .i64)⟩) ∧ q.2.2[(i905_5 + 1)]? = some (.live ⟨.grow, 156, 5, r520.map Tally.c⟩) ∧ q.2.2[(i905_5 + 2)]? = some (.live ⟨.box, 56, 3, [[.int .i64 r518, .lsl i905_5 r519.length 0 r519.length, .lsl (i905_5 + 1) r520.length 0 r520.length]]⟩) ∧ q.2.2[i905_2]? = some (.live ⟨.grow, 2, 1, r54.map (cI .i64)⟩) ∧ q.2.2[(i905_2 + 1)]? = some (.live ⟨.grow, 156, 5, r55.map Tally.c⟩) ∧ q.2.2[i905_4]? = some (.live ⟨.box, 56, 3, [[.int .i64 r53, .lsl i905_2 r54.length 0 r54.length, .lsl (i905_2 + 1) r55.length 0 r55.length]]⟩)
def laws_FnExactDoDeal_c6_Q (a1 : Book) (a2 : Deal) (r38 : Int) (r518 : Int) (r519 : List Int) (r520 : List Tally) (i906_1 : Nat) (i906_2 : Nat) (i906_3 : Nat) (i906_4 : Nat) (g : Bool) (q : Out) : Prop := q.1 = .nrm ∧ eget q.2.1 2 = .pt none [.int .i64 a1.Day, .sl none (a1.Cash.map (cI .i64)), .sl none (a1.Tallies.map Tally.c)] ∧ eget q.2.1 3 = .pt none [.int .i64 a2.Day, .int .i8 a2.Kind, .int .i64 a2.Tally, .int .i64 a2.From, .int .i64 a2.To, .int .i64 a2.Amount] ∧ eget q.2.1 6 = .loc i906_1 1 0 0 ∧ eget q.2.1 7 = .int .i64 r38 ∧ eget q.2.1 9 = .loc (i906_2 + 2) 1 0 0 ∧ eget q.2.1 67 = .bool g ∧ q.2.2[i906_1]? = some (.live ⟨.box, 56, 3, [[.int .i64 0, .nils, .nils]]⟩) ∧ q.2.2[i906_2]? = some (.live ⟨.grow, 2, 1, r519.map (cI .i64)⟩) ∧ q.2.2[(i906_2 + 1)]? = some (.live ⟨.grow, 156, 5, r520.map Tally.c⟩) ∧ q.2.2[(i906_2 + 2)]? = some (.live ⟨.box, 56, 3, [[.int .i64 r518, .lsl i906_2 r519.length 0 r519.length, .lsl (i906_2 + 1) r520.length 0 r520.length]]⟩)
def laws_FnExactDoDeal_c7_Q (r518 : Int) (r519 : List Int) (r520 : List Tally) (r720 : Int) (r721 : List Int) (r722 : List Tally) (i907_1 : Nat) (i907_2 : Nat) (i907_3 : Nat) (i907_4 : Nat) (i907_5 : Nat) (g : Bool) (q : Out) : Prop := q.1 = .nrm ∧ eget q.2.1 9 = .loc (i907_2 + 2) 1 0 0 ∧ eget q.2.1 12 = .int .i64 r720 ∧ eget q.2.1 95 = .bool g ∧ q.2.2[i907_2]? = some (.live ⟨.grow, 2, 1, r721.map (cI .i64)⟩) ∧ q.2.2[(i907_2 + 1)]? = some (.live ⟨.grow, 156, 5, r722.map Tally.c⟩) ∧ q.2.2[(i907_2 + 2)]? = some (.live ⟨.box, 56, 3, [[.int .i64 r518, .lsl i907_2 r519.length 0 r519.length, .lsl (i907_2 + 1) r520.length 0 r520.length]]⟩)
def laws_FnExactDoDeal_c8_Q (r518 : Int) (r519 : List Int) (r520 : List Tally) (r720 : Int) (r721 : List Int) (r722 : List Tally) (i908_1 : Nat) (i908_2 : Nat) (i908_3 : Nat) (i908_4 : Nat) (i908_5 : Nat) (g : Bool) (q : Out) : Prop := q.1 = .nrm ∧ eget q.2.1 9 = .loc (i908_2 + 2) 1 0 0 ∧ eget q.2.1 12 = .int .i64 r720 ∧ eget q.2.1 95 = .bool g ∧ q.2.2[i908_2]? = some (.live ⟨.grow, 2, 1, r721.map (cI .i64)⟩) ∧ q.2.2[(i908_2 + 1)]? = some (.live ⟨.grow, 156, 5, r722.map Tally.c⟩) ∧ q.2.2[(i908_2 + 2)]? = some (.live ⟨.box, 56, 3, [[.int .i64 r518, .lsl i908_2 r519.length 0 r519.length, .lsl (i908_2 + 1) r520.length 0 r520.length]]⟩)
def laws_FnExactDoDeal_c9_Q (a1 : Book) (a2 : Deal) (r989 : Int) (r990 : List Int) (r991 : List Tally) (r1006 : Int) (r1007 : List Int) (r1008 : List Tally) (r1050 : Int) (i909_1 : Nat) (i909_2 : Nat) (i909_3 : Nat) (i909_4 : Nat) (i909_5 : Nat) (g : Bool) (q : Out) : Prop := q.1 = .nrm ∧ eget q.2.1 2 = .pt none [.int .i64 a1.Day, .sl none (a1.Cash.map (cI .i64)), .sl none (a1.Tallies.map Tally.c)] ∧ eget q.2.1 3 = .pt none [.int .i64 a2.Day, .int .i8 a2.Kind, .int .i64 a2.Tally, .int .i64 a2.From, .int .i64 a2.To, .int .i64 a2.Amount] ∧ eget q.2.1 6 = .loc i909_1 1 0 0 ∧ eget q.2.1 7 = .int .i64 0 ∧ eget q.2.1 8 = .loc i909_4 1 0 0 ∧ eget q.2.1 9 = .loc i909_5 1 0 0 ∧ eget q.2.1 10 = .int .i64 r1050 ∧ eget q.2.1 46 = .bool g ∧ q.2.2[i909_2]? = some (.live ⟨.grow, 2, 1, r1007.map (cI .i64)⟩) ∧ q.2.2[(i909_2 + 1)]? = some (.live ⟨.grow, 156, 5, r1008.map Tally.c⟩) ∧ q.2.2[i909_4]? = some (.live ⟨.box, 56, 3, [[.int .i64 r1006, .lsl i909_2 r1007.length 0 r1007.length, .lsl (i909_2 + 1) r1008.length 0 r1008.length]]⟩) ∧ q.2.2[i909_5]? = some (.live ⟨.box, 56, 3, [[.int .i64 0, .nils, .nils]]⟩) ∧ q.2.2[i909_1]? = some (.live ⟨.box, 56, 3, [[.int .i64 r989, .sl none (r990.map (cI .i64)), .sl none (r991.map Tally.c)]]⟩)
def laws_FnExactDoDeal_c10_Q (a1 : Book) (a2 : Deal) (r989 : Int) (r990 : List Int) (r991 : List Tally) (i910_1 : Nat) (i910_2 : Nat) (g : Bool) (q : Out) : Prop := q.1 = .nrm ∧ eget q.2.1 2 = .pt none [.int .i64 a1.Day, .sl none (a1.Cash.map (cI .i64)), .sl none (a1.Tallies.map Tally.c)] ∧ eget q.2.1 3 = .pt none [.int .i64 a2.Day, .int .i8 a2.Kind, .int .i64 a2.Tally, .int .i64 a2.From, .int .i64 a2.To, .int .i64 a2.Amount] ∧ eget q.2.1 6 = .loc i910_2 1 0 0 ∧ eget q.2.1 7 = .int .i64 0 ∧ eget q.2.1 9 = .loc i910_1 1 0 0 ∧ eget q.2.1 67 = .bool g ∧ q.2.2[i910_1]? = some (.live ⟨.box, 56, 3, [[.int .i64 0, .nils, .nils]]⟩) ∧ q.2.2[i910_2]? = some (.live ⟨.box, 56, 3, [[.int .i64 r989, .sl none (r990.map (cI .i64)), .sl none (r991.map Tally.c)]]⟩)
def laws_FnExactDoDeal_c11_Q (r1227 : Int) (i911_1 : Nat) (i911_2 : Nat) (i911_3 : Nat) (g : Bool) (q : Out) : Prop := q.1 = .nrm ∧ eget q.2.1 9 = .loc i911_1 1 0 0 ∧ eget q.2.1 12 = .int .i64 r1227 ∧ eget q.2.1 95 = .bool g ∧ q.2.2[i911_1]? = some (.live ⟨.box, 56, 3, [[.int .i64 0, .nils, .nils]]⟩)
def laws_FnExactDoDeal_c12_Q (r1227 : Int) (i912_1 : Nat) (i912_2 : Nat) (i912_3 : Nat) (g : Bool) (q : Out) : Prop := q.1 = .nrm ∧ eget q.2.1 9 = .loc i912_1 1 0 0 ∧ eget q.2.1 12 = .int .i64 r1227 ∧ eget q.2.1 95 = .bool g ∧ q.2.2[i912_1]? = some (.live ⟨.box, 56, 3, [[.int .i64 0, .nils, .nils]]⟩)
def laws_FnExactDoDeal_c13_Q (a1 : Book) (a2 : Deal) (r989 : Int) (r990 : List Int) (r991 : List Tally) (r1006 : Int) (r1007 : List Int) (r1008 : List Tally) (r1471 : Int) (r1472 : List Int) (r1473 : List Tally) (i913_1 : Nat) (i913_2 : Nat) (i913_3 : Nat) (i913_4 : Nat) (i913_5 : Nat) (i913_6 : Nat) (i913_7 : Nat) (g : Bool) (q : Out) : Prop := q.1 = .nrm ∧ eget q.2.1 2 = .pt none [.int .i64 a1.Day, .sl none (a1.Cash.map (cI .i64)), .sl none (a1.Tallies.map Tally.c)] ∧ eget q.2.1 3 = .pt none [.int .i64 a2.Day, .int .i8 a2.Kind, .int .i64 a2.Tally, .int .i64 a2.From, .int .i64 a2.To, .int .i64 a2.Amount] ∧ eget q.2.1 6 = .loc i913_1 1 0 0 ∧ eget q.2.1 7 = .int .i64 0 ∧ eget q.2.1 8 = .loc i913_4 1 0 0 ∧ eget q.2.1 9 = .loc (i913_5 + 2) 1 0 0 ∧ eget q.2.1 10 = .int .i64 0 ∧ eget q.2.1 46 = .bool g ∧ q.2.2[i913_2]? = some (.live ⟨.grow, 2, 1, r1007.map (cI .i64)⟩) ∧ q.2.2[(i913_2 + 1)]? = some (.live ⟨.grow, 156, 5, r1008.map Tally.c⟩) ∧ q.2.2[i913_4]? = some (.live ⟨.box, 56, 3, [[.int .i64 r1006, .lsl i913_2 r1007.length 0 r1007.length, .lsl (i913_2 + 1) r1008.length 0 r1008.length]]⟩) ∧ q.2.2[i913_5]? = some (.live ⟨.grow, 2, 1, r1472.map (cI .i64)⟩) ∧ q.2.2[(i913_5 + 1)]? = some (.live ⟨.grow, 156, 5, r1473.map Tally.c⟩) ∧ q.2.2[(i913_5 + 2)]? = some (.live ⟨.box, 56, 3, [[.int .i64 r1471, .lsl i913_5 r1472.length 0 r1472.length, .lsl (i913_5 + 1) r1473.length 0 r1473.length]]⟩) ∧ q.2.2[i913_1]? = some (.live ⟨.box, 56, 3, [[.int .i64 r989, .sl none (r990.map (cI .i64)), .sl none (r991.map Tally.c)]]⟩)
def laws_FnExactDoDeal_c14_Q (a1 : Book) (a2 : Deal) (r989 : Int) (r990 : List Int) (r991 : List Tally) (r1471 : Int) (r1472 : List Int) (r1473 : List Tally) (i914_1 : Nat) (i914_2 : Nat) (i914_3 : Nat) (i914_4 : Nat) (g : Bool) (q : Out) : Prop := q.1 = .nrm ∧ eget q.2.1 2 = .pt none [.int .i64 a1.Day, .sl none (a1.Cash.map (cI .i64)), .sl none (a1.Tallies.map Tally.c)] ∧ eget q.2.1 3 = .pt none [.int .i64 a2.Day, .int .i8 a2.Kind, .int .i64 a2.Tally, .int .i64 a2.From, .int .i64 a2.To, .int .i64 a2.Amount] ∧ eget q.2.1 6 = .loc i914_4 1 0 0 ∧ eget q.2.1 7 = .int .i64 0 ∧ eget q.2.1 9 = .loc (i914_1 + 2) 1 0 0 ∧ eget q.2.1 67 = .bool g ∧ q.2.2[i914_1]? = some (.live ⟨.grow, 2, 1, r1472.map (cI .i64)⟩) ∧ q.2.2[(i914_1 + 1)]? = some (.live ⟨.grow, 156, 5, r1473.map Tally.c⟩) ∧ q.2.2[(i914_1 + 2)]? = some (.live ⟨.box, 56, 3, [[.int .i64 r1471, .lsl i914_1 r1472.length 0 r1472.length, .lsl (i914_1 + 1) r1473.length 0 r1473.length]]⟩) ∧ q.2.2[i914_4]? = some (.live ⟨.box, 56, 3, [[.int .i64 r989, .sl none (r990.map (cI .i64)), .sl none (r991.map Tally.c)]]⟩)
def laws_FnExactDoDeal_c15_Q (r1471 : Int) (r1472 : List Int) (r1473 : List Tally) (r1673 : Int) (r1674 : List Int) (r1675 : List Tally) (i915_1 : Nat) (i915_2 : Nat) (i915_3 : Nat) (i915_4 : Nat) (i915_5 : Nat) (g : Bool) (q : Out) : Prop := q.1 = .nrm ∧ eget q.2.1 9 = .loc (i915_1 + 2) 1 0 0 ∧ eget q.2.1 12 = .int .i64 r1673 ∧ eget q.2.1 95 = .bool g ∧ q.2.2[i915_1]? = some (.live ⟨.grow, 2, 1, r1674.map (cI .i64)⟩) ∧ q.2.2[(i915_1 + 1)]? = some (.live ⟨.grow, 156, 5, r1675.map Tally.c⟩) ∧ q.2.2[(i915_1 + 2)]? = some (.live ⟨.box, 56, 3, [[.int .i64 r1471, .lsl i915_1 r1472.length 0 r1472.length, .lsl (i915_1 + 1) r1473.length 0 r1473.length]]⟩)
def laws_FnExactDoDeal_c16_Q (r1471 : Int) (r1472 : List Int) (r1473 : List Tally) (r1673 : Int) (r1674 : List Int) (r1675 : List Tally) (i916_1 : Nat) (i916_2 : Nat) (i916_3 : Nat) (i916_4 : Nat) (i916_5 : Nat) (g : Bool) (q : Out) : Prop := q.1 = .nrm ∧ eget q.2.1 9 = .loc (i916_1 + 2) 1 0 0 ∧ eget q.2.1 12 = .int .i64 r1673 ∧ eget q.2.1 95 = .bool g ∧ q.2.2[i916_1]? = some (.live ⟨.grow, 2, 1, r1674.map (cI .i64)⟩) ∧ q.2.2[(i916_1 + 1)]? = some (.live ⟨.grow, 156, 5, r1675.map Tally.c⟩) ∧ q.2.2[(i916_1 + 2)]? = some (.live ⟨.box, 56, 3, [[.int .i64 r1471, .lsl i916_1 r1472.length 0 r1472.length, .lsl (i916_1 + 1) r1473.length 0 r1473.length]]⟩)
noncomputable def laws_FnExactDoDeal (a1 : Book) (a2 : Deal) : Option Bool :=
 (laws_szBook a1 1048576).bind fun r11 =>
 if (decide (r11 < 0)) = true then
  some true
 else
  (laws_toBook a1).bind fun (r27, r28, r29) =>
  (laws_toDeal a2).bind fun (r31, r32, r33, r34, r35, r36) =>
  (spec_DoDeal (Book.mk r27 r28 r29) (Deal.mk r31 r32 r33 r34 r35 r36)).bind fun r => match r with
  | (.inl r38) =>
   (laws_toBook a1).bind fun (r53, r54, r55) =>
   (laws_toDeal a2).bind fun (r90, r91, r92, r93, r94, r95) =>
   (impl_DoDeal (Book.mk r53 r54 r55) (Deal.mk r90 r91 r92 r93 r94 r95)).bind fun r => match r with
   | (.inl r97) =>
    ((laws_eqBook (Book.mk 0 ([] : List Int) ([] : List Tally)) (Book.mk 0 ([] : List Int) ([] : List Tally))).bind fun r127 =>
    if r127 = true then
     some (r97 != r38)
    else
     some true).bind fun y151 =>
    if y151 = true then
     some false
    else
     (laws_toBook a1).bind fun (r170, r171, r172) =>
     (laws_eqBook (Book.mk r53 r54 r55) (Book.mk r170 r171 r172)).bind fun r174 =>
     if r174 = true then
      (laws_markBook_ll r53 r54 r55 1).bind fun (r197, r198, r199) =>
      (if (decide (r197 < 0)) = true then
       some true
      else
       (laws_eqBook (Book.mk 0 ([] : List Int) ([] : List Tally)) (Book.mk 0 ([] : List Int) ([] : List Tally))).bind fun r232 =>
       if r232 = true then
        some (r97 != r38)
       else
        some true).bind fun y252 =>
      if y252 = true then
       some false
      else
       (laws_markBook_nn 0 1).bind fun r274 =>
       (laws_heldBook (Book.mk 0 ([] : List Int) ([] : List Tally)) 1).bind fun r299 =>
       if (decide (r299 < 0)) = true then
        some false
       else
        if (r299 != r274) = true then
         some false
        else
         (laws_toBook a1).bind fun (r337, r338, r339) =>
         (laws_toDeal a2).bind fun (r341, r342, r343, r344, r345, r346) =>
         (impl_DoDeal (Book.mk r337 r338 r339) (Deal.mk r341 r342 r343 r344 r345 r346)).bind fun r => match r with
         | (.inl r348) =>
          ((laws_eqBook (Book.mk 0 ([] : List Int) ([] : List Tally)) (Book.mk 0 ([] : List Int) ([] : List Tally))).bind fun r371 =>
          if r371 = true then
           some (r348 != r38)
          else
           some true).bind fun y385 =>
          if y385 = true then
           some false
          else
           (laws_heldBook (Book.mk 0 ([] : List Int) ([] : List Tally)) 1).bind fun r400 =>
           if (decide (r400 < 0)) = true then
            some false
           else
            if (r400 != r274) = true then
             some false
            else
             some true
         | (.inr (r427, r428, r429)) =>
          ((laws_eqBook (Book.mk r427 r428 r429) (Book.mk 0 ([] : List Int) ([] : List Tally))).bind fun r452 =>
          if r452 = true then
           some (0 != r38)
          else
           some true).bind fun y466 =>
          if y466 = true then
           some false
          else
           (laws_heldBook (Book.mk 0 ([] : List Int) ([] : List Tally)) 1).bind fun r481 =>
           if (decide (r481 < 0)) = true then
            some false
           else
            if (r481 != r274) = true then
             some false
            else
             some true
     else
      some false
   | (.inr (r518, r519, r520)) =>
    ((laws_eqBook (Book.mk r518 r519 r520) (Book.mk 0 ([] : List Int) ([] : List Tally))).bind fun r567 =>
    if r567 = true then
     some (0 != r38)
    else
     some true).bind fun y591 =>
    if y591 = true then
     some false
    else
     (laws_toBook a1).bind fun (r612, r613, r614) =>
     (laws_eqBook (Book.mk r53 r54 r55) (Book.mk r612 r613 r614)).bind fun r616 =>
     if r616 = true then
      (laws_markBook_ll r53 r54 r55 1).bind fun (r639, r640, r641) =>
      (if (decide (r639 < 0)) = true then
       some true
      else
       (laws_eqBook (Book.mk r518 r519 r520) (Book.mk 0 ([] : List Int) ([] : List Tally))).bind fun r676 =>
       if r676 = true then
        some (0 != r38)
       else
        some true).bind fun y696 =>
      if y696 = true then
       some false
      else
       (laws_markBook_ll r518 r519 r520 1).bind fun (r720, r721, r722) =>
       (laws_heldBook (Book.mk r518 r721 r722) 1).bind fun r753 =>
       if (decide (r753 < 0)) = true then
        some false
       else
        if (r753 != r720) = true then
         some false
        else
         (laws_toBook a1).bind fun (r791, r792, r793) =>
         (laws_toDeal a2).bind fun (r795, r796, r797, r798, r799, r800) =>
         (impl_DoDeal (Book.mk r791 r792 r793) (Deal.mk r795 r796 r797 r798 r799 r800)).bind fun r => match r with
         | (.inl r802) =>
          ((laws_eqBook (Book.mk 0 ([] : List Int) ([] : List Tally)) (Book.mk 0 ([] : List Int) ([] : List Tally))).bind fun r831 =>
          if r831 = true then
           some (r802 != r38)
          else
           some true).bind fun y845 =>
          if y845 = true then
           some false
          else
           (laws_heldBook (Book.mk r518 r721 r722) 1).bind fun r862 =>
           if (decide (r862 < 0)) = true then
            some false
           else
            if (r862 != r720) = true then
             some false
            else
             some true
         | (.inr (r889, r890, r891)) =>
          ((laws_eqBook (Book.mk r889 r890 r891) (Book.mk 0 ([] : List Int) ([] : List Tally))).bind fun r920 =>
          if r920 = true then
           some (0 != r38)
          else
           some true).bind fun y934 =>
          if y934 = true then
           some false
          else
           (laws_heldBook (Book.mk r518 r721 r722) 1).bind fun r951 =>
           if (decide (r951 < 0)) = true then
            some false
           else
            if (r951 != r720) = true then
             some false
            else
             some true
     else
      some false
  | (.inr (r989, r990, r991)) =>
   (laws_toBook a1).bind fun (r1006, r1007, r1008) =>
   (laws_toDeal a2).bind fun (r1043, r1044, r1045, r1046, r1047, r1048) =>
   (impl_DoDeal (Book.mk r1006 r1007 r1008) (Deal.mk r1043 r1044 r1045 r1046 r1047 r1048)).bind fun r => match r with
   | (.inl r1050) =>
    ((laws_eqBook (Book.mk 0 ([] : List Int) ([] : List Tally)) (Book.mk r989 r990 r991)).bind fun r1080 =>
    if r1080 = true then
     some (r1050 != 0)
    else
     some true).bind fun y1104 =>
    if y1104 = true then
     some false
    else
     (laws_toBook a1).bind fun (r1123, r1124, r1125) =>
     (laws_eqBook (Book.mk r1006 r1007 r1008) (Book.mk r1123 r1124 r1125)).bind fun r1127 =>
     if r1127 = true then
      (laws_markBook_ll r1006 r1007 r1008 1).bind fun (r1150, r1151, r1152) =>
      (if (decide (r1150 < 0)) = true then
       some true
      else
       (laws_eqBook (Book.mk 0 ([] : List Int) ([] : List Tally)) (Book.mk r989 r990 r991)).bind fun r1185 =>
       if r1185 = true then
        some (r1050 != 0)
       else
        some true).bind fun y1205 =>
      if y1205 = true then
       some false
      else
       (laws_markBook_nn 0 1).bind fun r1227 =>
       (laws_heldBook (Book.mk 0 ([] : List Int) ([] : List Tally)) 1).bind fun r1252 =>
       if (decide (r1252 < 0)) = true then
        some false
       else
        if (r1252 != r1227) = true then
         some false
        else
         (laws_toBook a1).bind fun (r1290, r1291, r1292) =>
         (laws_toDeal a2).bind fun (r1294, r1295, r1296, r1297, r1298, r1299) =>
         (impl_DoDeal (Book.mk r1290 r1291 r1292) (Deal.mk r1294 r1295 r1296 r1297 r1298 r1299)).bind fun r => match r with
         | (.inl r1301) =>
          ((laws_eqBook (Book.mk 0 ([] : List Int) ([] : List Tally)) (Book.mk r989 r990 r991)).bind fun r1324 =>
          if r1324 = true then
           some (r1301 != 0)
          else
           some true).bind fun y1338 =>
          if y1338 = true then
           some false
          else
           (laws_heldBook (Book.mk 0 ([] : List Int) ([] : List Tally)) 1).bind fun r1353 =>
           if (decide (r1353 < 0)) = true then
            some false
           else
            if (r1353 != r1227) = true then
             some false
            else
             some true
         | (.inr (r1380, r1381, r1382)) =>
          ((laws_eqBook (Book.mk r1380 r1381 r1382) (Book.mk r989 r990 r991)).bind fun r1405 =>
          if r1405 = true then
           some false
          else
           some true).bind fun y1419 =>
          if y1419 = true then
           some false
          else
           (laws_heldBook (Book.mk 0 ([] : List Int) ([] : List Tally)) 1).bind fun r1434 =>
           if (decide (r1434 < 0)) = true then
            some false
           else
            if (r1434 != r1227) = true then
             some false
            else
             some true
     else
      some false
   | (.inr (r1471, r1472, r1473)) =>
    ((laws_eqBook (Book.mk r1471 r1472 r1473) (Book.mk r989 r990 r991)).bind fun r1520 =>
    if r1520 = true then
     some false
    else
     some true).bind fun y1544 =>
    if y1544 = true then
     some false
    else
     (laws_toBook a1).bind fun (r1565, r1566, r1567) =>
     (laws_eqBook (Book.mk r1006 r1007 r1008) (Book.mk r1565 r1566 r1567)).bind fun r1569 =>
     if r1569 = true then
      (laws_markBook_ll r1006 r1007 r1008 1).bind fun (r1592, r1593, r1594) =>
      (if (decide (r1592 < 0)) = true then
       some true
      else
       (laws_eqBook (Book.mk r1471 r1472 r1473) (Book.mk r989 r990 r991)).bind fun r1629 =>
       if r1629 = true then
        some false
       else
        some true).bind fun y1649 =>
      if y1649 = true then
       some false
      else
       (laws_markBook_ll r1471 r1472 r1473 1).bind fun (r1673, r1674, r1675) =>
       (laws_heldBook (Book.mk r1471 r1674 r1675) 1).bind fun r1706 =>
       if (decide (r1706 < 0)) = true then
        some false
       else
        if (r1706 != r1673) = true then
         some false
        else
         (laws_toBook a1).bind fun (r1744, r1745, r1746) =>
         (laws_toDeal a2).bind fun (r1748, r1749, r1750, r1751, r1752, r1753) =>
         (impl_DoDeal (Book.mk r1744 r1745 r1746) (Deal.mk r1748 r1749 r1750 r1751 r1752 r1753)).bind fun r => match r with
         | (.inl r1755) =>
          ((laws_eqBook (Book.mk 0 ([] : List Int) ([] : List Tally)) (Book.mk r989 r990 r991)).bind fun r1784 =>
          if r1784 = true then
           some (r1755 != 0)
          else
           some true).bind fun y1798 =>
          if y1798 = true then
           some false
          else
           (laws_heldBook (Book.mk r1471 r1674 r1675) 1).bind fun r1815 =>
           if (decide (r1815 < 0)) = true then
            some false
           else
            if (r1815 != r1673) = true then
             some false
            else
             some true
         | (.inr (r1842, r1843, r1844)) =>
          ((laws_eqBook (Book.mk r1842 r1843 r1844) (Book.mk r989 r990 r991)).bind fun r1873 =>
          if r1873 = true then
           some false
          else
           some true).bind fun y1887 =>
          if y1887 = true then
           some false
          else
           (laws_heldBook (Book.mk r1471 r1674 r1675) 1).bind fun r1904 =>
           if (decide (r1904 < 0)) = true then
            some false
           else
            if (r1904 != r1673) = true then
             some false
            else
             some true
     else
      some false
def laws_FnExactDoDeal_enc (r : Bool) : AV := .bool r
theorem laws_FnExactDoDeal_ok (a1 : Book) (a2 : Deal) (r : Bool) (h : laws_FnExactDoDeal a1 a2 = some r) : Ev (fun k => CN k 4 [.agg [.int .i64 a1.Day, .sl none (a1.Cash.map (cI .i64)), .sl none (a1.Tallies.map Tally.c)], .agg [.int .i64 a2.Day, .int .i8 a2.Kind, .int .i64 a2.Tally, .int .i64 a2.From, .int .i64 a2.To, .int .i64 a2.Amount]] []) (fun p => rRes p.2 p.1 = laws_FnExactDoDeal_enc r) := by
 unfold laws_FnExactDoDeal at h
 refine Ev.enter (F := fun k => f4 (CN k) k) (fun k => callN_eq rfl Try.func4 rfl rfl rfl (by decide +kernel) (f4_eq _ _)) ?_
 refine Ev.seq ?_
 refine Ev.reg (fun _ => rfl) ?_
 refine Ev.nxk (bxI rfl rfl ⟨rfl, rfl, by decide⟩) ?_
 refine Ev.nxk (bxI rfl rfl ⟨rfl, rfl, by decide⟩) ?_
 refine Ev.nxk (mvO rfl) ?_
 refine Ev.rend ?_
 intro e1 he2
 have h3 : eget e1 2 = .pt none [.int .i64 a1.Day, .sl none (a1.Cash.map (cI .i64)), .sl none (a1.Tallies.map Tally.c)] := envp he2 rfl rfl
 have h4 : eget e1 3 = .pt none [.int .i64 a2.Day, .int .i8 a2.Kind, .int .i64 a2.Tally, .int .i64 a2.From, .int .i64 a2.To, .int .i64 a2.Amount] := envp he2 rfl rfl
 refine Ev.kseqN ?_
 refine Ev.seq ?_
 refine Ev.reg (fun _ => rfl) ?_
 refine Ev.nxk (mvO rfl) ?_
 refine Ev.rend ?_
 intro e5 he6
 have h7 := envp (t := 2) he6 rfl h3
 have h8 := envp (t := 3) he6 rfl h4
 have h9 : eget e5 5 = .int .i64 1048576 := envp he6 rfl rfl
 clear h3 h4
 refine Ev.kseqN ?_
 refine Ev.seq ?_
 refine Ev.reg (fun _ => rfl) ?_
 refine Ev.nxk (ldPA h7 rfl rfl) ?_
 refine Ev.nxk (mvO h9) ?_
 obtain ⟨r11, hx10, h⟩ := bind_some h
 refine Ev.nxck (Ev.call (v := .int .i64 r11) rfl (cns rfl (cns rfl rfl)) rfl (laws_szBook_ok a1 1048576 _ hx10) (fun h => nomatch (show false = true from h))) ?_
 refine Ev.nxk (mvO rfl) ?_
 refine Ev.rend ?_
 intro e12 he13
 have h14 := envp (t := 2) he13 rfl h7
 have h15 := envp (t := 3) he13 rfl h8
 have h16 : eget e12 5 = .int .i64 r11 := envp he13 rfl rfl
 clear h7 h8
 refine Ev.kseqN ?_
 refine Ev.seq ?_
 refine Ev.seq ?_
 refine Ev.reg (fun _ => rfl) ?_
 refine Ev.nxk (mvO h16) ?_
 refine Ev.nxk (bLss rfl rfl) ?_
 refine Ev.rend ?_
 intro e17 he18
 have h19 := envp (t := 2) he18 rfl h14
 have h20 := envp (t := 3) he18 rfl h15
 have h21 : eget e17 20 = .bool (decide (r11 < 0)) := envp he18 rfl rfl
 clear h14 h15 h16
 refine Ev.kseqN ?_
 rcases ite_some h with ⟨hb22, h⟩ | ⟨hb22, h⟩
 ·refine Ev.condT h21 hb22 ?_
  refine Ev.seq ?_
  refine Ev.reg (fun _ => rfl) ?_
  refine Ev.nxk (mvO rfl) ?_
  refine Ev.rend ?_
  intro e23 he24
  have h25 : eget e23 4 = .bool true := envp he24 rfl rfl
  clear h19 h20 h21
  refine Ev.kseqN ?_
  refine Ev.ex ?_
  refine Ev.kseqR ?_
  cases h
  exact Ev.kendR (resT h25 res0) rfl
 refine Ev.condF h21 hb22 ?_
 refine Ev.ex ?_
 refine Ev.kseqN ?_
 refine Ev.seq ?_
 refine Ev.regD (fun _ => rfl) ?_
 refine Ev.nfk (ldPA h19 rfl rfl) ?_
 obtain ⟨⟨r27, r28, r29⟩, hx26, h⟩ := bind_some h
 refine Ev.nfc (Ev.call (v := .agg [.int .i64 r27, .sl (some 2) (r28.map (cI .i64)), .sl (some 156) (r29.map Tally.c)]) rfl (cns rfl rfl) rfl (laws_toBook_ok a1 _ hx26) (fun h => nomatch (show false = true from h))) ?_
 refine Ev.nfk (ldPA h20 rfl rfl) ?_
 obtain ⟨⟨r31, r32, r33, r34, r35, r36⟩, hx30, h⟩ := bind_some h
 refine Ev.nfc (Ev.call (v := .agg [.int .i64 r31, .int .i8 r32, .int .i64 r33, .int .i64 r34, .int .i64 r35, .int .i64 r36]) rfl (cns rfl rfl) rfl (laws_toDeal_ok a2 _ hx30) (fun h => nomatch (show false = true from h))) ?_
 obtain ⟨q1942, hx37, h⟩ := bind_some h
 rcases q1942 with r38 | ⟨r989, r990, r991⟩
 ·refine Ev.nfc (Ev.call (v := .tup [.agg [.int .i64 0, .nils, .nils], .int .i64 r38]) rfl (cns rfl (cns rfl rfl)) rfl (spec_DoDeal_ok (Book.mk r27 r28 r29) (Deal.mk r31 r32 r33 r34 r35 r36) _ hx37) (fun h => nomatch (show false = true from h))) ?_
  refine Ev.nfk (mvO rfl) ?_
  refine Ev.nfk (exT rfl rfl) ?_
  refine Ev.nfk (exT rfl rfl) ?_
  refine Ev.nfpushE (alO zero56) ?_
  refine Ev.fend1 ?_
  intro M40 hM41
  have hM41 := fendM hM41 [⟨.box, 56, 3, [[.int .i64 0, .nils, .nils]]⟩] rfl
  have o42 : M40[([] : Mem).length]? = some (.live ⟨.box, 56, 3, [[.int .i64 0, .nils, .nils]]⟩) := push_at hM41 0 rfl
  refine Ev.nxput (stO rfl rfl o42 rfl rfl ⟨rfl, ble rfl⟩ rfl rfl) ?_
  intro M43 hM44
  have o45 : M43[([] : Mem).length]? = some (.live ⟨.box, 56, 3, [[.int .i64 0, .nils, .nils]]⟩) := set_same hM44 o42
  refine Ev.nxk (mvO rfl) ?_
  refine Ev.rend ?_
  intro e46 he47
  have h48 := envp (t := 2) he47 rfl h19
  have h49 := envp (t := 3) he47 rfl h20
  have h50 : eget e46 6 = .loc ([] : Mem).length 1 0 0 := envp he47 rfl rfl
  have h51 : eget e46 7 = .int .i64 r38 := envp he47 rfl rfl
  clear h19 h20 h21
  refine Ev.kseqN ?_
  refine Ev.seq ?_
  refine Ev.reg (fun _ => rfl) ?_
  refine Ev.nxk (ldPA h48 rfl rfl) ?_
  obtain ⟨⟨r53, r54, r55⟩, hx52, h⟩ := bind_some h
  refine Ev.nxcp (Ev.callT (v := .agg [.int .i64 r53, .sl (some 2) (r54.map (cI .i64)), .sl (some 156) (r55.map Tally.c)]) rfl (cns rfl rfl) rfl (laws_toBook_ok a1 _ hx52) (th_gen (v' := .agg [.int .i64 r53, .lsl M43.length r54.length 0 r54.length, .lsl (M43.length + 1) r55.length 0 r55.length]) (l := [⟨.grow, 2, 1, r54.map (cI .i64)⟩, ⟨.grow, 156, 5, r55.map Tally.c⟩]) (own_agg (oa1 rfl (oa1 (own1_row' (c := (cI .i64)) (fun _ => rfl)) (oa1 (own1_row' (c := Tally.c) Tally.flF) oa0)))) (by simp [thaw, thaw2, thaw1, thawL, co2, co156]) rfl rfl)) ?_
  intro M58 hM59
  have o60 := push_old hM59 o45
  have ne61 : ([] : Mem).length ≠ M43.length := by have := lt_of_get (M := M43) o45; omega
  have o62 : M58[M43.length]? = some (.live ⟨.grow, 2, 1, r54.map (cI .i64)⟩) := push_at hM59 0 rfl
  have ne63 : ([] : Mem).length ≠ (M43.length + 1) := by have := lt_of_get (M := M43) o45; omega
  have ne64 : M43.length ≠ (M43.length + 1) := by omega
  have o65 : M58[(M43.length + 1)]? = some (.live ⟨.grow, 156, 5, r55.map Tally.c⟩) := push_at hM59 1 rfl
  refine Ev.nxpush (alO zero56) ?_
  intro M67 hM68
  have o69 := push_old hM68 o60
  have ne70 := ne_new o60
  have o71 := push_old hM68 o62
  have ne72 := ne_new o62
  have o73 := push_old hM68 o65
  have ne74 := ne_new o65
  have o75 : M67[M58.length]? = some (.live ⟨.box, 56, 3, [[.int .i64 0, .nils, .nils]]⟩) := push_new hM68
  refine Ev.nxput (stO rfl rfl o75 rfl rfl ⟨rfl, ble rfl⟩ (all1 rfl (all1 (okL o71 (by simp)) (all1 (okL o73 (by simp)) all0))) rfl) ?_
  intro M76 hM77
  have o78 := set_ne hM77 ne70 o69
  have o79 := set_ne hM77 ne72 o71
  have o80 := set_ne hM77 ne74 o73
  have o81 : M76[M58.length]? = some (.live ⟨.box, 56, 3, [[.int .i64 r53, .lsl M43.length r54.length 0 r54.length, .lsl (M43.length + 1) r55.length 0 r55.length]]⟩) := set_same hM77 o75
  refine Ev.rend ?_
  intro e82 he83
  have h84 := envp (t := 2) he83 rfl h48
  have h85 := envp (t := 3) he83 rfl h49
  have h86 := envp (t := 6) he83 rfl h50
  have h87 := envp (t := 7) he83 rfl h51
  have h88 : eget e82 8 = .loc M58.length 1 0 0 := envp he83 rfl rfl
  clear h48 h49 h50 h51
  refine Ev.kseqN ?_
  refine Ev.seq ?_
  refine Ev.regD (fun _ => rfl) ?_
  refine Ev.nfk (ldOA h88 o81 rfl rfl (ble rfl) rfl) ?_
  refine Ev.nfk (ldPA h85 rfl rfl) ?_
  obtain ⟨⟨r90, r91, r92, r93, r94, r95⟩, hx89, h⟩ := bind_some h
  refine Ev.nfc (Ev.call (v := .agg [.int .i64 r90, .int .i8 r91, .int .i64 r92, .int .i64 r93, .int .i64 r94, .int .i64 r95]) rfl (cns rfl rfl) rfl (laws_toDeal_ok a2 _ hx89) (fun h => nomatch (show false = true from h))) ?_
  obtain ⟨q988, hx96, h⟩ := bind_some h
  rcases q988 with r97 | ⟨r518, r519, r520⟩
  ·refine Ev.nfcpE (Ev.callT (v := .tup [.agg [.int .i64 0, .nils, .nils], .int .i64 r97]) rfl (cns rfl (cns rfl rfl)) (ra1 (ra_agg (mp1 rfl (mp1 (ra1_row o79 rfl (cI_fl _)) (mp1 (ra1_row o80 rfl Tally.fl) mp0)))) (ra1 rfl ra0)) (impl_DoDeal_ok (Book.mk r53 r54 r55) (Deal.mk r90 r91 r92 r93 r94 r95) _ hx96) (th_gen (v' := .tup [.agg [.int .i64 0, .nils, .nils], .int .i64 r97]) (l := []) (own_tup (oa1 (own2_agg (oa1 rfl (oa1 rfl (oa1 rfl oa0)))) (oa1 rfl oa0))) (by simp [thaw, thaw2, thaw1, thawL, thaw]) rfl rfl)) ?_
   refine Ev.nfk (mvO rfl) ?_
   refine Ev.nfk (exT rfl rfl) ?_
   refine Ev.nfk (exT rfl rfl) ?_
   refine Ev.nfpushE (alO zero56) ?_
   refine Ev.fend1 ?_
   intro M99 hM100
   have hM100 := fendM hM100 [⟨.box, 56, 3, [[.int .i64 0, .nils, .nils]]⟩] rfl
   have o101 := push_old hM100 o78
   have o102 := push_old hM100 o79
   have o103 := push_old hM100 o80
   have o104 := push_old hM100 o81
   have ne105 : ([] : Mem).length ≠ M76.length := by have := lt_of_get (M := M76) o78; omega
   have ne106 : M43.length ≠ M76.length := by have := lt_of_get (M := M76) o79; omega
   have ne107 : (M43.length + 1) ≠ M76.length := by have := lt_of_get (M := M76) o80; omega
   have ne108 : M58.length ≠ M76.length := by have := lt_of_get (M := M76) o81; omega
   have o109 : M99[M76.length]? = some (.live ⟨.box, 56, 3, [[.int .i64 0, .nils, .nils]]⟩) := push_at hM100 0 rfl
   refine Ev.nxput (stO rfl rfl o109 rfl rfl ⟨rfl, ble rfl⟩ rfl rfl) ?_
   intro M110 hM111
   have o112 := set_ne hM111 ne105 o101
   have o113 := set_ne hM111 ne106 o102
   have o114 := set_ne hM111 ne107 o103
   have o115 := set_ne hM111 ne108 o104
   have o116 : M110[M76.length]? = some (.live ⟨.box, 56, 3, [[.int .i64 0, .nils, .nils]]⟩) := set_same hM111 o109
   refine Ev.nxk (mvO rfl) ?_
   refine Ev.rend ?_
   intro e117 he118
   have h119 := envp (t := 2) he118 rfl h84
   have h120 := envp (t := 3) he118 rfl h85
   have h121 := envp (t := 6) he118 rfl h86
   have h122 := envp (t := 7) he118 rfl h87
   have h123 := envp (t := 8) he118 rfl h88
   have h124 : eget e117 9 = .loc M76.length 1 0 0 := envp he118 rfl rfl
   have h125 : eget e117 10 = .int .i64 r97 := envp he118 rfl rfl
   clear h84 h85 h86 h87 h88
   refine Ev.kseqN ?_
   refine Ev.seq ?_
   refine Ev.seq ?_
   obtain ⟨r516, hr517, h⟩ := bind_some h
   refine Ev.cut (Q1 := laws_FnExactDoDeal_c1_Q a1 a2 r38 r53 r54 r55 r97 (([] : Mem).length) M43.length (M43.length + 1) M58.length M76.length r516) (by
       have h := hr517
       refine Ev.reg (fun _ => rfl) ?_
       refine Ev.nxk (ldOA h124 o116 rfl rfl (ble rfl) rfl) ?_
       refine Ev.nxk (ldOA h121 o112 rfl rfl (ble rfl) rfl) ?_
       obtain ⟨r127, hx126, h⟩ := bind_some h
       refine Ev.nxck (Ev.call (v := .bool r127) rfl (cns rfl (cns rfl rfl)) rfl (laws_eqBook_ok (Book.mk 0 ([] : List Int) ([] : List Tally)) (Book.mk 0 ([] : List Int) ([] : List Tally)) _ hx126) (fun h => nomatch (show false = true from h))) ?_
       refine Ev.nxk (uNot rfl) ?_
       refine Ev.nxk (mvO rfl) ?_
       rcases ite_some h with ⟨hb128, h⟩ | ⟨hb128, h⟩
       ·refine Ev.nxk (guF rfl (congrArg Bool.not hb128) (mvO h125)) ?_
        refine Ev.nxk (guF rfl (congrArg Bool.not hb128) (mvO h122)) ?_
        refine Ev.nxk (guF rfl (congrArg Bool.not hb128) (bNeq rfl rfl)) ?_
        refine Ev.nxk (pkF rfl (congrArg Bool.not hb128) rfl) ?_
        refine Ev.rend ?_
        intro e129 he130
        have h131 := envp (t := 2) he130 rfl h119
        have h132 := envp (t := 3) he130 rfl h120
        have h133 := envp (t := 6) he130 rfl h121
        have h134 := envp (t := 7) he130 rfl h122
        have h135 := envp (t := 8) he130 rfl h123
        have h136 := envp (t := 9) he130 rfl h124
        have h137 := envp (t := 10) he130 rfl h125
        have h138 : eget e129 46 = .bool (r97 != r38) := envp he130 rfl rfl
        clear h119 h120 h121 h122 h123 h124 h125
        cases h
        exact Ev.kid (show laws_FnExactDoDeal_c1_Q a1 a2 r38 r53 r54 r55 r97 (([] : Mem).length) M43.length (M43.length + 1) M58.length M76.length _ _ from (And.intro rfl (And.intro h131 (And.intro h132 (And.intro h133 (And.intro h134 (And.intro h135 (And.intro h136 (And.intro h137 (And.intro h138 (And.intro o112 (And.intro o113 (And.intro o114 (And.intro o115 o116))))))))))))))
       refine Ev.nxk (gsF rfl (congrArg Bool.not hb128)) ?_
       refine Ev.nxk (gsF rfl (congrArg Bool.not hb128)) ?_
       refine Ev.nxk (gsF rfl (congrArg Bool.not hb128)) ?_
       refine Ev.nxk (pkT rfl (congrArg Bool.not hb128) rfl) ?_
       refine Ev.rend ?_
       intro e139 he140
       have h141 := envp (t := 2) he140 rfl h119
       have h142 := envp (t := 3) he140 rfl h120
       have h143 := envp (t := 6) he140 rfl h121
       have h144 := envp (t := 7) he140 rfl h122
       have h145 := envp (t := 8) he140 rfl h123
       have h146 := envp (t := 9) he140 rfl h124
       have h147 := envp (t := 10) he140 rfl h125
       have h148 : eget e139 46 = .bool true := envp he140 rfl rfl
       clear h119 h120 h121 h122 h123 h124 h125
       cases h
       exact Ev.kid (show laws_FnExactDoDeal_c1_Q a1 a2 r38 r53 r54 r55 r97 (([] : Mem).length) M43.length (M43.length + 1) M58.length M76.length _ _ from (And.intro rfl (And.intro h141 (And.intro h142 (And.intro h143 (And.intro h144 (And.intro h145 (And.intro h146 (And.intro h147 (And.intro h148 (And.intro o112 (And.intro o113 (And.intro o114 (And.intro o115 o116))))))))))))))) ?_
   revert h hr517
   revert r516
   intro y151 hr517 h
   intro x e149 M150 hq515
   obtain ⟨rfl, h152, h153, h154, h155, h156, h157, h158, h159, o160, o161, o162, o163, o164⟩ := hq515
   refine Ev.kseqN ?_
   rcases ite_some h with ⟨hb165, h⟩ | ⟨hb165, h⟩
   ·refine Ev.condT h159 hb165 ?_
    refine Ev.seq ?_
    refine Ev.reg (fun _ => rfl) ?_
    refine Ev.nxk (mvO rfl) ?_
    refine Ev.rend ?_
    intro e166 he167
    have h168 : eget e166 4 = .bool false := envp he167 rfl rfl
    clear h152 h153 h154 h155 h156 h157 h158 h159
    refine Ev.kseqN ?_
    refine Ev.ex ?_
    refine Ev.kseqR ?_
    cases h
    exact Ev.kendR (resT h168 res0) rfl
   refine Ev.condF h159 hb165 ?_
   refine Ev.ex ?_
   refine Ev.kseqN ?_
   refine Ev.seq ?_
   refine Ev.seq ?_
   refine Ev.regD (fun _ => rfl) ?_
   refine Ev.nfk (ldOA h156 o163 rfl rfl (ble rfl) rfl) ?_
   refine Ev.nfk (ldPA h152 rfl rfl) ?_
   obtain ⟨⟨r170, r171, r172⟩, hx169, h⟩ := bind_some h
   refine Ev.nfc (Ev.call (v := .agg [.int .i64 r170, .sl (some 2) (r171.map (cI .i64)), .sl (some 156) (r172.map Tally.c)]) rfl (cns rfl rfl) rfl (laws_toBook_ok a1 _ hx169) (fun h => nomatch (show false = true from h))) ?_
   obtain ⟨r174, hx173, h⟩ := bind_some h
   refine Ev.nfc (Ev.call (v := .bool r174) rfl (cns rfl (cns rfl rfl)) (ra1 (ra_agg (mp1 rfl (mp1 (ra1_row o161 rfl (cI_fl _)) (mp1 (ra1_row o162 rfl Tally.fl) mp0)))) (ra1 rfl ra0)) (laws_eqBook_ok (Book.mk r53 r54 r55) (Book.mk r170 r171 r172) _ hx173) (fun _ => rfl)) ?_
   refine Ev.nfk (uNot rfl) ?_
   refine Ev.fend0 ?_
   refine Ev.rend ?_
   intro e175 he176
   have h177 : eget e175 2 = .pt none [.int .i64 a1.Day, .sl none (a1.Cash.map (cI .i64)), .sl none (a1.Tallies.map Tally.c)] := envp he176 rfl h152
   have h178 : eget e175 3 = .pt none [.int .i64 a2.Day, .int .i8 a2.Kind, .int .i64 a2.Tally, .int .i64 a2.From, .int .i64 a2.To, .int .i64 a2.Amount] := envp he176 rfl h153
   have h179 : eget e175 6 = .loc ([] : Mem).length 1 0 0 := envp he176 rfl h154
   have h180 : eget e175 7 = .int .i64 r38 := envp he176 rfl h155
   have h181 : eget e175 8 = .loc M58.length 1 0 0 := envp he176 rfl h156
   have h182 : eget e175 9 = .loc M76.length 1 0 0 := envp he176 rfl h157
   have h183 : eget e175 10 = .int .i64 r97 := envp he176 rfl h158
   have h184 : eget e175 51 = .bool (!r174) := envp he176 rfl rfl
   clear h152 h153 h154 h155 h156 h157 h158 h159
   refine Ev.kseqN ?_
   rcases ite_some h with ⟨hb185, h⟩ | ⟨hb185, h⟩
   ·refine Ev.condF h184 (congrArg Bool.not hb185) ?_
    refine Ev.ex ?_
    refine Ev.kseqN ?_
    refine Ev.seq ?_
    refine Ev.reg (fun _ => rfl) ?_
    refine Ev.nxk (mvO rfl) ?_
    refine Ev.rend ?_
    intro e186 he187
    have h188 := envp (t := 2) he187 rfl h177
    have h189 := envp (t := 3) he187 rfl h178
    have h190 := envp (t := 6) he187 rfl h179
    have h191 := envp (t := 7) he187 rfl h180
    have h192 := envp (t := 8) he187 rfl h181
    have h193 := envp (t := 9) he187 rfl h182
    have h194 := envp (t := 10) he187 rfl h183
    have h195 : eget e186 11 = .int .i64 1 := envp he187 rfl rfl
    clear h177 h178 h179 h180 h181 h182 h183 h184
    refine Ev.kseqN ?_
    refine Ev.seq ?_
    refine Ev.reg (fun _ => rfl) ?_
    refine Ev.nxk (ldOA h192 o163 rfl rfl (ble rfl) rfl) ?_
    refine Ev.nxk (mvO h195) ?_
    obtain ⟨⟨r197, r198, r199⟩, hx196, h⟩ := bind_some h
    refine Ev.nxw (Ev.callW rfl (cns rfl (cns rfl rfl)) (laws_markBook_ll_ok r53 r54 r55 1 M43.length (M43.length + 1) ne64 M150 o161 o162 _ hx196)) ?_
    intro v202 M200 hq201
    obtain ⟨hv202, o203, o204, fr205, hl206, hl207⟩ := hq201
    have hv202 : v202 = .int .i64 r197 := hv202
    subst hv202
    have o208 : M200[M43.length]? = some (.live ⟨.grow, 2, 1, r198.map (cI .i64)⟩) := o203
    have o209 : M200[(M43.length + 1)]? = some (.live ⟨.grow, 156, 5, r199.map Tally.c⟩) := o204
    have hl206 : r198.length = r54.length := hl206
    have hl207 : r199.length = r55.length := hl207
    have o210 : M200[([] : Mem).length]? = some (.live ⟨.box, 56, 3, [[.int .i64 0, .nils, .nils]]⟩) := fr205 _ _ (niC ne61 (niC ne63 niN)) o160
    have o211 : M200[M58.length]? = some (.live ⟨.box, 56, 3, [[.int .i64 r53, .lsl M43.length r54.length 0 r54.length, .lsl (M43.length + 1) r55.length 0 r55.length]]⟩) := fr205 _ _ (niC (Ne.symm ne72) (niC (Ne.symm ne74) niN)) o163
    have o212 : M200[M76.length]? = some (.live ⟨.box, 56, 3, [[.int .i64 0, .nils, .nils]]⟩) := fr205 _ _ (niC (Ne.symm ne106) (niC (Ne.symm ne107) niN)) o164
    refine Ev.nxk (mvO rfl) ?_
    refine Ev.rend ?_
    intro e213 he214
    have h215 := envp (t := 2) he214 rfl h188
    have h216 := envp (t := 3) he214 rfl h189
    have h217 := envp (t := 6) he214 rfl h190
    have h218 := envp (t := 7) he214 rfl h191
    have h219 := envp (t := 9) he214 rfl h193
    have h220 := envp (t := 10) he214 rfl h194
    have h221 : eget e213 11 = .int .i64 r197 := envp he214 rfl rfl
    clear h188 h189 h190 h191 h192 h193 h194
    refine Ev.kseqN ?_
    refine Ev.seq ?_
    refine Ev.seq ?_
    obtain ⟨r510, hr511, h⟩ := bind_some h
    refine Ev.cut (Q1 := laws_FnExactDoDeal_c2_Q a1 a2 r38 (([] : Mem).length) M76.length r510) (by
        have h := hr511
        refine Ev.reg (fun _ => rfl) ?_
        refine Ev.nxk (mvO h221) ?_
        refine Ev.nxk (bLss rfl rfl) ?_
        refine Ev.nxk (mvO rfl) ?_
        rcases ite_some h with ⟨hb222, h⟩ | ⟨hb222, h⟩
        ·refine Ev.nxk (gsF rfl hb222) ?_
         refine Ev.nxk (gsF rfl hb222) ?_
         refine Ev.nxck (Ev.gsF rfl hb222) ?_
         refine Ev.nxk (gsF rfl hb222) ?_
         refine Ev.nxk (pkT rfl hb222 rfl) ?_
         refine Ev.nxk (mvO rfl) ?_
         refine Ev.nxk (gsF rfl rfl) ?_
         refine Ev.nxk (gsF rfl rfl) ?_
         refine Ev.nxk (gsF rfl rfl) ?_
         refine Ev.nxk (pkT rfl rfl rfl) ?_
         refine Ev.rend ?_
         intro e223 he224
         have h225 := envp (t := 2) he224 rfl h215
         have h226 := envp (t := 3) he224 rfl h216
         have h227 := envp (t := 6) he224 rfl h217
         have h228 := envp (t := 7) he224 rfl h218
         have h229 := envp (t := 9) he224 rfl h219
         have h230 : eget e223 67 = .bool true := envp he224 rfl rfl
         clear h215 h216 h217 h218 h219 h220 h221
         cases h
         exact Ev.kid (show laws_FnExactDoDeal_c2_Q a1 a2 r38 (([] : Mem).length) M76.length _ _ from (And.intro rfl (And.intro h225 (And.intro h226 (And.intro h227 (And.intro h228 (And.intro h229 (And.intro h230 (And.intro o210 o212)))))))))
        refine Ev.nxk (guF rfl hb222 (ldOA h219 o212 rfl rfl (ble rfl) rfl)) ?_
        refine Ev.nxk (guF rfl hb222 (ldOA h217 o210 rfl rfl (ble rfl) rfl)) ?_
        obtain ⟨r232, hx231, h⟩ := bind_some h
        refine Ev.nxck (Ev.guF rfl hb222 (Ev.call (v := .bool r232) rfl (cns rfl (cns rfl rfl)) rfl (laws_eqBook_ok (Book.mk 0 ([] : List Int) ([] : List Tally)) (Book.mk 0 ([] : List Int) ([] : List Tally)) _ hx231) (fun h => nomatch (show false = true from h)))) ?_
        refine Ev.nxk (guF rfl hb222 (uNot rfl)) ?_
        refine Ev.nxk (pkF rfl hb222 rfl) ?_
        refine Ev.nxk (mvO rfl) ?_
        rcases ite_some h with ⟨hb233, h⟩ | ⟨hb233, h⟩
        ·refine Ev.nxk (guF rfl (congrArg Bool.not hb233) (mvO h220)) ?_
         refine Ev.nxk (guF rfl (congrArg Bool.not hb233) (mvO h218)) ?_
         refine Ev.nxk (guF rfl (congrArg Bool.not hb233) (bNeq rfl rfl)) ?_
         refine Ev.nxk (pkF rfl (congrArg Bool.not hb233) rfl) ?_
         refine Ev.rend ?_
         intro e234 he235
         have h236 := envp (t := 2) he235 rfl h215
         have h237 := envp (t := 3) he235 rfl h216
         have h238 := envp (t := 6) he235 rfl h217
         have h239 := envp (t := 7) he235 rfl h218
         have h240 := envp (t := 9) he235 rfl h219
         have h241 : eget e234 67 = .bool (r97 != r38) := envp he235 rfl rfl
         clear h215 h216 h217 h218 h219 h220 h221
         cases h
         exact Ev.kid (show laws_FnExactDoDeal_c2_Q a1 a2 r38 (([] : Mem).length) M76.length _ _ from (And.intro rfl (And.intro h236 (And.intro h237 (And.intro h238 (And.intro h239 (And.intro h240 (And.intro h241 (And.intro o210 o212)))))))))
        refine Ev.nxk (gsF rfl (congrArg Bool.not hb233)) ?_
        refine Ev.nxk (gsF rfl (congrArg Bool.not hb233)) ?_
        refine Ev.nxk (gsF rfl (congrArg Bool.not hb233)) ?_
        refine Ev.nxk (pkT rfl (congrArg Bool.not hb233) rfl) ?_
        refine Ev.rend ?_
        intro e242 he243
        have h244 := envp (t := 2) he243 rfl h215
        have h245 := envp (t := 3) he243 rfl h216
        have h246 := envp (t := 6) he243 rfl h217
        have h247 := envp (t := 7) he243 rfl h218
        have h248 := envp (t := 9) he243 rfl h219
        have h249 : eget e242 67 = .bool true := envp he243 rfl rfl
        clear h215 h216 h217 h218 h219 h220 h221
        cases h
        exact Ev.kid (show laws_FnExactDoDeal_c2_Q a1 a2 r38 (([] : Mem).length) M76.length _ _ from (And.intro rfl (And.intro h244 (And.intro h245 (And.intro h246 (And.intro h247 (And.intro h248 (And.intro h249 (And.intro o210 o212)))))))))) ?_
    revert h hr511
    revert r510
    intro y252 hr511 h
    intro x e250 M251 hq509
    obtain ⟨rfl, h253, h254, h255, h256, h257, h258, o259, o260⟩ := hq509
    refine Ev.kseqN ?_
    rcases ite_some h with ⟨hb261, h⟩ | ⟨hb261, h⟩
    ·refine Ev.condT h258 hb261 ?_
     refine Ev.seq ?_
     refine Ev.reg (fun _ => rfl) ?_
     refine Ev.nxk (mvO rfl) ?_
     refine Ev.rend ?_
     intro e262 he263
     have h264 : eget e262 4 = .bool false := envp he263 rfl rfl
     clear h253 h254 h255 h256 h257 h258
     refine Ev.kseqN ?_
     refine Ev.ex ?_
     refine Ev.kseqR ?_
     cases h
     exact Ev.kendR (resT h264 res0) rfl
    refine Ev.condF h258 hb261 ?_
    refine Ev.ex ?_
    refine Ev.kseqN ?_
    refine Ev.seq ?_
    refine Ev.reg (fun _ => rfl) ?_
    refine Ev.nxk (mvO rfl) ?_
    refine Ev.rend ?_
    intro e265 he266
    have h267 : eget e265 2 = .pt none [.int .i64 a1.Day, .sl none (a1.Cash.map (cI .i64)), .sl none (a1.Tallies.map Tally.c)] := envp he266 rfl h253
    have h268 : eget e265 3 = .pt none [.int .i64 a2.Day, .int .i8 a2.Kind, .int .i64 a2.Tally, .int .i64 a2.From, .int .i64 a2.To, .int .i64 a2.Amount] := envp he266 rfl h254
    have h269 : eget e265 6 = .loc ([] : Mem).length 1 0 0 := envp he266 rfl h255
    have h270 : eget e265 7 = .int .i64 r38 := envp he266 rfl h256
    have h271 : eget e265 9 = .loc M76.length 1 0 0 := envp he266 rfl h257
    have h272 : eget e265 12 = .int .i64 1 := envp he266 rfl rfl
    clear h253 h254 h255 h256 h257 h258
    refine Ev.kseqN ?_
    refine Ev.seq ?_
    refine Ev.reg (fun _ => rfl) ?_
    refine Ev.nxk (ldOA h271 o260 rfl rfl (ble rfl) rfl) ?_
    refine Ev.nxk (mvO h272) ?_
    obtain ⟨r274, hx273, h⟩ := bind_some h
    refine Ev.nxw (Ev.callW rfl (cns rfl (cns rfl rfl)) (laws_markBook_nn_ok 0 1 M251 _ hx273)) ?_
    intro v277 M275 hq276
    obtain ⟨hv277, fr278⟩ := hq276
    have hv277 : v277 = .int .i64 r274 := hv277
    subst hv277
    have o279 : M275[([] : Mem).length]? = some (.live ⟨.box, 56, 3, [[.int .i64 0, .nils, .nils]]⟩) := fr278 _ _ niN o259
    have o280 : M275[M76.length]? = some (.live ⟨.box, 56, 3, [[.int .i64 0, .nils, .nils]]⟩) := fr278 _ _ niN o260
    refine Ev.nxk (mvO rfl) ?_
    refine Ev.rend ?_
    intro e281 he282
    have h283 := envp (t := 2) he282 rfl h267
    have h284 := envp (t := 3) he282 rfl h268
    have h285 := envp (t := 6) he282 rfl h269
    have h286 := envp (t := 7) he282 rfl h270
    have h287 := envp (t := 9) he282 rfl h271
    have h288 : eget e281 12 = .int .i64 r274 := envp he282 rfl rfl
    clear h267 h268 h269 h270 h271
    refine Ev.kseqN ?_
    refine Ev.seq ?_
    refine Ev.reg (fun _ => rfl) ?_
    refine Ev.nxk (mvO rfl) ?_
    refine Ev.rend ?_
    intro e289 he290
    have h291 := envp (t := 2) he290 rfl h283
    have h292 := envp (t := 3) he290 rfl h284
    have h293 := envp (t := 6) he290 rfl h285
    have h294 := envp (t := 7) he290 rfl h286
    have h295 := envp (t := 9) he290 rfl h287
    have h296 := envp (t := 12) he290 rfl h288
    have h297 : eget e289 13 = .int .i64 1 := envp he290 rfl rfl
    clear h283 h284 h285 h286 h287 h288
    refine Ev.kseqN ?_
    refine Ev.seq ?_
    refine Ev.reg (fun _ => rfl) ?_
    refine Ev.nxk (ldOA h295 o280 rfl rfl (ble rfl) rfl) ?_
    refine Ev.nxk (mvO h297) ?_
    obtain ⟨r299, hx298, h⟩ := bind_some h
    refine Ev.nxck (Ev.call (v := .int .i64 r299) rfl (cns rfl (cns rfl rfl)) rfl (laws_heldBook_ok (Book.mk 0 ([] : List Int) ([] : List Tally)) 1 _ hx298) (fun h => nomatch (show false = true from h))) ?_
    refine Ev.nxk (mvO rfl) ?_
    refine Ev.rend ?_
    intro e300 he301
    have h302 := envp (t := 2) he301 rfl h291
    have h303 := envp (t := 3) he301 rfl h292
    have h304 := envp (t := 6) he301 rfl h293
    have h305 := envp (t := 7) he301 rfl h294
    have h306 := envp (t := 9) he301 rfl h295
    have h307 := envp (t := 12) he301 rfl h296
    have h308 : eget e300 13 = .int .i64 r299 := envp he301 rfl rfl
    clear h291 h292 h293 h294 h295 h296
    refine Ev.kseqN ?_
    refine Ev.seq ?_
    refine Ev.seq ?_
    refine Ev.reg (fun _ => rfl) ?_
    refine Ev.nxk (mvO h308) ?_
    refine Ev.nxk (bLss rfl rfl) ?_
    refine Ev.rend ?_
    intro e309 he310
    have h311 := envp (t := 2) he310 rfl h302
    have h312 := envp (t := 3) he310 rfl h303
    have h313 := envp (t := 6) he310 rfl h304
    have h314 := envp (t := 7) he310 rfl h305
    have h315 := envp (t := 9) he310 rfl h306
    have h316 := envp (t := 12) he310 rfl h307
    have h317 := envp (t := 13) he310 rfl h308
    have h318 : eget e309 75 = .bool (decide (r299 < 0)) := envp he310 rfl rfl
    clear h302 h303 h304 h305 h306 h307 h308
    refine Ev.kseqN ?_
    rcases ite_some h with ⟨hb319, h⟩ | ⟨hb319, h⟩
    ·refine Ev.condT h318 hb319 ?_
     refine Ev.seq ?_
     refine Ev.reg (fun _ => rfl) ?_
     refine Ev.nxk (mvO rfl) ?_
     refine Ev.rend ?_
     intro e320 he321
     have h322 : eget e320 4 = .bool false := envp he321 rfl rfl
     clear h311 h312 h313 h314 h315 h316 h317 h318
     refine Ev.kseqN ?_
     refine Ev.ex ?_
     refine Ev.kseqR ?_
     cases h
     exact Ev.kendR (resT h322 res0) rfl
    refine Ev.condF h318 hb319 ?_
    refine Ev.ex ?_
    refine Ev.kseqN ?_
    refine Ev.seq ?_
    refine Ev.seq ?_
    refine Ev.reg (fun _ => rfl) ?_
    refine Ev.nxk (mvO h317) ?_
    refine Ev.nxk (mvO h316) ?_
    refine Ev.nxk (bNeq rfl rfl) ?_
    refine Ev.rend ?_
    intro e323 he324
    have h325 := envp (t := 2) he324 rfl h311
    have h326 := envp (t := 3) he324 rfl h312
    have h327 := envp (t := 6) he324 rfl h313
    have h328 := envp (t := 7) he324 rfl h314
    have h329 := envp (t := 9) he324 rfl h315
    have h330 := envp (t := 12) he324 rfl h316
    have h331 : eget e323 78 = .bool (r299 != r274) := envp he324 rfl rfl
    clear h311 h312 h313 h314 h315 h316 h317 h318
    refine Ev.kseqN ?_
    rcases ite_some h with ⟨hb332, h⟩ | ⟨hb332, h⟩
    ·refine Ev.condT h331 hb332 ?_
     refine Ev.seq ?_
     refine Ev.reg (fun _ => rfl) ?_
     refine Ev.nxk (mvO rfl) ?_
     refine Ev.rend ?_
     intro e333 he334
     have h335 : eget e333 4 = .bool false := envp he334 rfl rfl
     clear h325 h326 h327 h328 h329 h330 h331
     refine Ev.kseqN ?_
     refine Ev.ex ?_
     refine Ev.kseqR ?_
     cases h
     exact Ev.kendR (resT h335 res0) rfl
    refine Ev.condF h331 hb332 ?_
    refine Ev.ex ?_
    refine Ev.kseqN ?_
    refine Ev.seq ?_
    refine Ev.regD (fun _ => rfl) ?_
    refine Ev.nfk (ldPA h325 rfl rfl) ?_
    obtain ⟨⟨r337, r338, r339⟩, hx336, h⟩ := bind_some h
    refine Ev.nfc (Ev.call (v := .agg [.int .i64 r337, .sl (some 2) (r338.map (cI .i64)), .sl (some 156) (r339.map Tally.c)]) rfl (cns rfl rfl) rfl (laws_toBook_ok a1 _ hx336) (fun h => nomatch (show false = true from h))) ?_
    refine Ev.nfk (ldPA h326 rfl rfl) ?_
    obtain ⟨⟨r341, r342, r343, r344, r345, r346⟩, hx340, h⟩ := bind_some h
    refine Ev.nfc (Ev.call (v := .agg [.int .i64 r341, .int .i8 r342, .int .i64 r343, .int .i64 r344, .int .i64 r345, .int .i64 r346]) rfl (cns rfl rfl) rfl (laws_toDeal_ok a2 _ hx340) (fun h => nomatch (show false = true from h))) ?_
    obtain ⟨q508, hx347, h⟩ := bind_some h
    rcases q508 with r348 | ⟨r427, r428, r429⟩
    ·refine Ev.nfc (Ev.call (v := .tup [.agg [.int .i64 0, .nils, .nils], .int .i64 r348]) rfl (cns rfl (cns rfl rfl)) rfl (impl_DoDeal_ok (Book.mk r337 r338 r339) (Deal.mk r341 r342 r343 r344 r345 r346) _ hx347) (fun h => nomatch (show false = true from h))) ?_
     refine Ev.nfk (mvO rfl) ?_
     refine Ev.nfk (exT rfl rfl) ?_
     refine Ev.nfk (exT rfl rfl) ?_
     refine Ev.nfpushE (alO zero56) ?_
     refine Ev.fend1 ?_
     intro M350 hM351
     have hM351 := fendM hM351 [⟨.box, 56, 3, [[.int .i64 0, .nils, .nils]]⟩] rfl
     have o352 := push_old hM351 o279
     have o353 := push_old hM351 o280
     have ne354 : ([] : Mem).length ≠ M275.length := by have := lt_of_get (M := M275) o279; omega
     have ne355 : M76.length ≠ M275.length := by have := lt_of_get (M := M275) o280; omega
     have o356 : M350[M275.length]? = some (.live ⟨.box, 56, 3, [[.int .i64 0, .nils, .nils]]⟩) := push_at hM351 0 rfl
     refine Ev.nxput (stO rfl rfl o356 rfl rfl ⟨rfl, ble rfl⟩ rfl rfl) ?_
     intro M357 hM358
     have o359 := set_ne hM358 ne354 o352
     have o360 := set_ne hM358 ne355 o353
     have o361 : M357[M275.length]? = some (.live ⟨.box, 56, 3, [[.int .i64 0, .nils, .nils]]⟩) := set_same hM358 o356
     refine Ev.nxk (mvO rfl) ?_
     refine Ev.rend ?_
     intro e362 he363
     have h364 := envp (t := 6) he363 rfl h327
     have h365 := envp (t := 7) he363 rfl h328
     have h366 := envp (t := 9) he363 rfl h329
     have h367 := envp (t := 12) he363 rfl h330
     have h368 : eget e362 14 = .loc M275.length 1 0 0 := envp he363 rfl rfl
     have h369 : eget e362 15 = .int .i64 r348 := envp he363 rfl rfl
     clear h325 h326 h327 h328 h329 h330 h331
     refine Ev.kseqN ?_
     refine Ev.seq ?_
     refine Ev.seq ?_
     obtain ⟨r425, hr426, h⟩ := bind_some h
     refine Ev.cut (Q1 := laws_FnExactDoDeal_c3_Q r274 (([] : Mem).length) M76.length M275.length r425) (by
         have h := hr426
         refine Ev.reg (fun _ => rfl) ?_
         refine Ev.nxk (ldOA h368 o361 rfl rfl (ble rfl) rfl) ?_
         refine Ev.nxk (ldOA h364 o359 rfl rfl (ble rfl) rfl) ?_
         obtain ⟨r371, hx370, h⟩ := bind_some h
         refine Ev.nxck (Ev.call (v := .bool r371) rfl (cns rfl (cns rfl rfl)) rfl (laws_eqBook_ok (Book.mk 0 ([] : List Int) ([] : List Tally)) (Book.mk 0 ([] : List Int) ([] : List Tally)) _ hx370) (fun h => nomatch (show false = true from h))) ?_
         refine Ev.nxk (uNot rfl) ?_
         refine Ev.nxk (mvO rfl) ?_
         rcases ite_some h with ⟨hb372, h⟩ | ⟨hb372, h⟩
         ·refine Ev.nxk (guF rfl (congrArg Bool.not hb372) (mvO h369)) ?_
          refine Ev.nxk (guF rfl (congrArg Bool.not hb372) (mvO h365)) ?_
          refine Ev.nxk (guF rfl (congrArg Bool.not hb372) (bNeq rfl rfl)) ?_
          refine Ev.nxk (pkF rfl (congrArg Bool.not hb372) rfl) ?_
          refine Ev.rend ?_
          intro e373 he374
          have h375 := envp (t := 9) he374 rfl h366
          have h376 := envp (t := 12) he374 rfl h367
          have h377 : eget e373 95 = .bool (r348 != r38) := envp he374 rfl rfl
          clear h364 h365 h366 h367 h368 h369
          cases h
          exact Ev.kid (show laws_FnExactDoDeal_c3_Q r274 (([] : Mem).length) M76.length M275.length _ _ from (And.intro rfl (And.intro h375 (And.intro h376 (And.intro h377 o360)))))
         refine Ev.nxk (gsF rfl (congrArg Bool.not hb372)) ?_
         refine Ev.nxk (gsF rfl (congrArg Bool.not hb372)) ?_
         refine Ev.nxk (gsF rfl (congrArg Bool.not hb372)) ?_
         refine Ev.nxk (pkT rfl (congrArg Bool.not hb372) rfl) ?_
         refine Ev.rend ?_
         intro e378 he379
         have h380 := envp (t := 9) he379 rfl h366
         have h381 := envp (t := 12) he379 rfl h367
         have h382 : eget e378 95 = .bool true := envp he379 rfl rfl
         clear h364 h365 h366 h367 h368 h369
         cases h
         exact Ev.kid (show laws_FnExactDoDeal_c3_Q r274 (([] : Mem).length) M76.length M275.length _ _ from (And.intro rfl (And.intro h380 (And.intro h381 (And.intro h382 o360)))))) ?_
     revert h hr426
     revert r425
     intro y385 hr426 h
     intro x e383 M384 hq424
     obtain ⟨rfl, h386, h387, h388, o389⟩ := hq424
     refine Ev.kseqN ?_
     rcases ite_some h with ⟨hb390, h⟩ | ⟨hb390, h⟩
     ·refine Ev.condT h388 hb390 ?_
      refine Ev.seq ?_
      refine Ev.reg (fun _ => rfl) ?_
      refine Ev.nxk (mvO rfl) ?_
      refine Ev.rend ?_
      intro e391 he392
      have h393 : eget e391 4 = .bool false := envp he392 rfl rfl
      clear h386 h387 h388
      refine Ev.kseqN ?_
      refine Ev.ex ?_
      refine Ev.kseqR ?_
      cases h
      exact Ev.kendR (resT h393 res0) rfl
     refine Ev.condF h388 hb390 ?_
     refine Ev.ex ?_
     refine Ev.kseqN ?_
     refine Ev.seq ?_
     refine Ev.reg (fun _ => rfl) ?_
     refine Ev.nxk (mvO rfl) ?_
     refine Ev.rend ?_
     intro e394 he395
     have h396 : eget e394 9 = .loc M76.length 1 0 0 := envp he395 rfl h386
     have h397 : eget e394 12 = .int .i64 r274 := envp he395 rfl h387
     have h398 : eget e394 13 = .int .i64 1 := envp he395 rfl rfl
     clear h386 h387 h388
     refine Ev.kseqN ?_
     refine Ev.seq ?_
     refine Ev.reg (fun _ => rfl) ?_
     refine Ev.nxk (ldOA h396 o389 rfl rfl (ble rfl) rfl) ?_
     refine Ev.nxk (mvO h398) ?_
     obtain ⟨r400, hx399, h⟩ := bind_some h
     refine Ev.nxck (Ev.call (v := .int .i64 r400) rfl (cns rfl (cns rfl rfl)) rfl (laws_heldBook_ok (Book.mk 0 ([] : List Int) ([] : List Tally)) 1 _ hx399) (fun h => nomatch (show false = true from h))) ?_
     refine Ev.nxk (mvO rfl) ?_
     refine Ev.rend ?_
     intro e401 he402
     have h403 := envp (t := 12) he402 rfl h397
     have h404 : eget e401 13 = .int .i64 r400 := envp he402 rfl rfl
     clear h396 h397
     refine Ev.kseqN ?_
     refine Ev.seq ?_
     refine Ev.seq ?_
     refine Ev.reg (fun _ => rfl) ?_
     refine Ev.nxk (mvO h404) ?_
     refine Ev.nxk (bLss rfl rfl) ?_
     refine Ev.rend ?_
     intro e405 he406
     have h407 := envp (t := 12) he406 rfl h403
     have h408 := envp (t := 13) he406 rfl h404
     have h409 : eget e405 100 = .bool (decide (r400 < 0)) := envp he406 rfl rfl
     clear h403 h404
     refine Ev.kseqN ?_
     rcases ite_some h with ⟨hb410, h⟩ | ⟨hb410, h⟩
     ·refine Ev.condT h409 hb410 ?_
      refine Ev.seq ?_
      refine Ev.reg (fun _ => rfl) ?_
      refine Ev.nxk (mvO rfl) ?_
      refine Ev.rend ?_
      intro e411 he412
      have h413 : eget e411 4 = .bool false := envp he412 rfl rfl
      clear h407 h408 h409
      refine Ev.kseqN ?_
      refine Ev.ex ?_
      refine Ev.kseqR ?_
      cases h
      exact Ev.kendR (resT h413 res0) rfl
     refine Ev.condF h409 hb410 ?_
     refine Ev.ex ?_
     refine Ev.kseqN ?_
     refine Ev.seq ?_
     refine Ev.seq ?_
     refine Ev.reg (fun _ => rfl) ?_
     refine Ev.nxk (mvO h408) ?_
     refine Ev.nxk (mvO h407) ?_
     refine Ev.nxk (bNeq rfl rfl) ?_
     refine Ev.rend ?_
     intro e414 he415
     have h416 : eget e414 103 = .bool (r400 != r274) := envp he415 rfl rfl
     clear h407 h408 h409
     refine Ev.kseqN ?_
     rcases ite_some h with ⟨hb417, h⟩ | ⟨hb417, h⟩
     ·refine Ev.condT h416 hb417 ?_
      refine Ev.seq ?_
      refine Ev.reg (fun _ => rfl) ?_
      refine Ev.nxk (mvO rfl) ?_
      refine Ev.rend ?_
      intro e418 he419
      have h420 : eget e418 4 = .bool false := envp he419 rfl rfl
      clear h416
      refine Ev.kseqN ?_
      refine Ev.ex ?_
      refine Ev.kseqR ?_
      cases h
      exact Ev.kendR (resT h420 res0) rfl
     refine Ev.condF h416 hb417 ?_
     refine Ev.ex ?_
     refine Ev.kseqN ?_
     refine Ev.seq ?_
     refine Ev.reg (fun _ => rfl) ?_
     refine Ev.nxk (mvO rfl) ?_
     refine Ev.rend ?_
     intro e421 he422
     have h423 : eget e421 4 = .bool true := envp he422 rfl rfl
     clear h416
     refine Ev.kseqN ?_
     refine Ev.ex ?_
     cases h
     exact Ev.kendR (resT h423 res0) rfl
    refine Ev.nfc (Ev.call (v := .tup [.agg [.int .i64 r427, .sl (some 2) (r428.map (cI .i64)), .sl (some 156) (r429.map Tally.c)], .int .i64 0]) rfl (cns rfl (cns rfl rfl)) rfl (impl_DoDeal_ok (Book.mk r337 r338 r339) (Deal.mk r341 r342 r343 r344 r345 r346) _ hx347) (fun h => nomatch (show false = true from h))) ?_
    refine Ev.nfk (mvO rfl) ?_
    refine Ev.nfk (exT rfl rfl) ?_
    refine Ev.nfk (exT rfl rfl) ?_
    refine Ev.nfpushE (alO zero56) ?_
    refine Ev.fend1 ?_
    intro M431 hM432
    have hM432 := fendM hM432 [⟨.box, 56, 3, [[.int .i64 0, .nils, .nils]]⟩] rfl
    have o433 := push_old hM432 o279
    have o434 := push_old hM432 o280
    have ne435 : ([] : Mem).length ≠ M275.length := by have := lt_of_get (M := M275) o279; omega
    have ne436 : M76.length ≠ M275.length := by have := lt_of_get (M := M275) o280; omega
    have o437 : M431[M275.length]? = some (.live ⟨.box, 56, 3, [[.int .i64 0, .nils, .nils]]⟩) := push_at hM432 0 rfl
    refine Ev.nxput (stO rfl rfl o437 rfl rfl ⟨rfl, ble rfl⟩ rfl rfl) ?_
    intro M438 hM439
    have o440 := set_ne hM439 ne435 o433
    have o441 := set_ne hM439 ne436 o434
    have o442 : M438[M275.length]? = some (.live ⟨.box, 56, 3, [[.int .i64 r427, .sl none (r428.map (cI .i64)), .sl none (r429.map Tally.c)]]⟩) := set_same hM439 o437
    refine Ev.nxk (mvO rfl) ?_
    refine Ev.rend ?_
    intro e443 he444
    have h445 := envp (t := 6) he444 rfl h327
    have h446 := envp (t := 7) he444 rfl h328
    have h447 := envp (t := 9) he444 rfl h329
    have h448 := envp (t := 12) he444 rfl h330
    have h449 : eget e443 14 = .loc M275.length 1 0 0 := envp he444 rfl rfl
    have h450 : eget e443 15 = .int .i64 0 := envp he444 rfl rfl
    clear h325 h326 h327 h328 h329 h330 h331
    refine Ev.kseqN ?_
    refine Ev.seq ?_
    refine Ev.seq ?_
    obtain ⟨r506, hr507, h⟩ := bind_some h
    refine Ev.cut (Q1 := laws_FnExactDoDeal_c4_Q r274 (([] : Mem).length) M76.length M275.length r506) (by
        have h := hr507
        refine Ev.reg (fun _ => rfl) ?_
        refine Ev.nxk (ldOA h449 o442 rfl rfl (ble rfl) rfl) ?_
        refine Ev.nxk (ldOA h445 o440 rfl rfl (ble rfl) rfl) ?_
        obtain ⟨r452, hx451, h⟩ := bind_some h
        refine Ev.nxck (Ev.call (v := .bool r452) rfl (cns rfl (cns rfl rfl)) rfl (laws_eqBook_ok (Book.mk r427 r428 r429) (Book.mk 0 ([] : List Int) ([] : List Tally)) _ hx451) (fun h => nomatch (show false = true from h))) ?_
        refine Ev.nxk (uNot rfl) ?_
        refine Ev.nxk (mvO rfl) ?_
        rcases ite_some h with ⟨hb453, h⟩ | ⟨hb453, h⟩
        ·refine Ev.nxk (guF rfl (congrArg Bool.not hb453) (mvO h450)) ?_
         refine Ev.nxk (guF rfl (congrArg Bool.not hb453) (mvO h446)) ?_
         refine Ev.nxk (guF rfl (congrArg Bool.not hb453) (bNeq rfl rfl)) ?_
         refine Ev.nxk (pkF rfl (congrArg Bool.not hb453) rfl) ?_
         refine Ev.rend ?_
         intro e454 he455
         have h456 := envp (t := 9) he455 rfl h447
         have h457 := envp (t := 12) he455 rfl h448
         have h458 : eget e454 95 = .bool (0 != r38) := envp he455 rfl rfl
         clear h445 h446 h447 h448 h449 h450
         cases h
         exact Ev.kid (show laws_FnExactDoDeal_c4_Q r274 (([] : Mem).length) M76.length M275.length _ _ from (And.intro rfl (And.intro h456 (And.intro h457 (And.intro h458 o441)))))
        refine Ev.nxk (gsF rfl (congrArg Bool.not hb453)) ?_
        refine Ev.nxk (gsF rfl (congrArg Bool.not hb453)) ?_
        refine Ev.nxk (gsF rfl (congrArg Bool.not hb453)) ?_
        refine Ev.nxk (pkT rfl (congrArg Bool.not hb453) rfl) ?_
        refine Ev.rend ?_
        intro e459 he460
        have h461 := envp (t := 9) he460 rfl h447
        have h462 := envp (t := 12) he460 rfl h448
        have h463 : eget e459 95 = .bool true := envp he460 rfl rfl
        clear h445 h446 h447 h448 h449 h450
        cases h
        exact Ev.kid (show laws_FnExactDoDeal_c4_Q r274 (([] : Mem).length) M76.length M275.length _ _ from (And.intro rfl (And.intro h461 (And.intro h462 (And.intro h463 o441)))))) ?_
    revert h hr507
    revert r506
    intro y466 hr507 h
    intro x e464 M465 hq505
    obtain ⟨rfl, h467, h468, h469, o470⟩ := hq505
    refine Ev.kseqN ?_
    rcases ite_some h with ⟨hb471, h⟩ | ⟨hb471, h⟩
    ·refine Ev.condT h469 hb471 ?_
     refine Ev.seq ?_
     refine Ev.reg (fun _ => rfl) ?_
     refine Ev.nxk (mvO rfl) ?_
     refine Ev.rend ?_
     intro e472 he473
     have h474 : eget e472 4 = .bool false := envp he473 rfl rfl
     clear h467 h468 h469
     refine Ev.kseqN ?_
     refine Ev.ex ?_
     refine Ev.kseqR ?_
     cases h
     exact Ev.kendR (resT h474 res0) rfl
    refine Ev.condF h469 hb471 ?_
    refine Ev.ex ?_
    refine Ev.kseqN ?_
    refine Ev.seq ?_
    refine Ev.reg (fun _ => rfl) ?_
    refine Ev.nxk (mvO rfl) ?_
    refine Ev.rend ?_
    intro e475 he476
    have h477 : eget e475 9 = .loc M76.length 1 0 0 := envp he476 rfl h467
    have h478 : eget e475 12 = .int .i64 r274 := envp he476 rfl h468
    have h479 : eget e475 13 = .int .i64 1 := envp he476 rfl rfl
    clear h467 h468 h469
    refine Ev.kseqN ?_
    refine Ev.seq ?_
    refine Ev.reg (fun _ => rfl) ?_
    refine Ev.nxk (ldOA h477 o470 rfl rfl (ble rfl) rfl) ?_
    refine Ev.nxk (mvO h479) ?_
    obtain ⟨r481, hx480, h⟩ := bind_some h
    refine Ev.nxck (Ev.call (v := .int .i64 r481) rfl (cns rfl (cns rfl rfl)) rfl (laws_heldBook_ok (Book.mk 0 ([] : List Int) ([] : List Tally)) 1 _ hx480) (fun h => nomatch (show false = true from h))) ?_
    refine Ev.nxk (mvO rfl) ?_
    refine Ev.rend ?_
    intro e482 he483
    have h484 := envp (t := 12) he483 rfl h478
    have h485 : eget e482 13 = .int .i64 r481 := envp he483 rfl rfl
    clear h477 h478
    refine Ev.kseqN ?_
    refine Ev.seq ?_
    refine Ev.seq ?_
    refine Ev.reg (fun _ => rfl) ?_
    refine Ev.nxk (mvO h485) ?_
    refine Ev.nxk (bLss rfl rfl) ?_
    refine Ev.rend ?_
    intro e486 he487
    have h488 := envp (t := 12) he487 rfl h484
    have h489 := envp (t := 13) he487 rfl h485
    have h490 : eget e486 100 = .bool (decide (r481 < 0)) := envp he487 rfl rfl
    clear h484 h485
    refine Ev.kseqN ?_
    rcases ite_some h with ⟨hb491, h⟩ | ⟨hb491, h⟩
    ·refine Ev.condT h490 hb491 ?_
     refine Ev.seq ?_
     refine Ev.reg (fun _ => rfl) ?_
     refine Ev.nxk (mvO rfl) ?_
     refine Ev.rend ?_
     intro e492 he493
     have h494 : eget e492 4 = .bool false := envp he493 rfl rfl
     clear h488 h489 h490
     refine Ev.kseqN ?_
     refine Ev.ex ?_
     refine Ev.kseqR ?_
     cases h
     exact Ev.kendR (resT h494 res0) rfl
    refine Ev.condF h490 hb491 ?_
    refine Ev.ex ?_
    refine Ev.kseqN ?_
    refine Ev.seq ?_
    refine Ev.seq ?_
    refine Ev.reg (fun _ => rfl) ?_
    refine Ev.nxk (mvO h489) ?_
    refine Ev.nxk (mvO h488) ?_
    refine Ev.nxk (bNeq rfl rfl) ?_
    refine Ev.rend ?_
    intro e495 he496
    have h497 : eget e495 103 = .bool (r481 != r274) := envp he496 rfl rfl
    clear h488 h489 h490
    refine Ev.kseqN ?_
    rcases ite_some h with ⟨hb498, h⟩ | ⟨hb498, h⟩
    ·refine Ev.condT h497 hb498 ?_
     refine Ev.seq ?_
     refine Ev.reg (fun _ => rfl) ?_
     refine Ev.nxk (mvO rfl) ?_
     refine Ev.rend ?_
     intro e499 he500
     have h501 : eget e499 4 = .bool false := envp he500 rfl rfl
     clear h497
     refine Ev.kseqN ?_
     refine Ev.ex ?_
     refine Ev.kseqR ?_
     cases h
     exact Ev.kendR (resT h501 res0) rfl
    refine Ev.condF h497 hb498 ?_
    refine Ev.ex ?_
    refine Ev.kseqN ?_
    refine Ev.seq ?_
    refine Ev.reg (fun _ => rfl) ?_
    refine Ev.nxk (mvO rfl) ?_
    refine Ev.rend ?_
    intro e502 he503
    have h504 : eget e502 4 = .bool true := envp he503 rfl rfl
    clear h497
    refine Ev.kseqN ?_
    refine Ev.ex ?_
    cases h
    exact Ev.kendR (resT h504 res0) rfl
   refine Ev.condT h184 (congrArg Bool.not hb185) ?_
   refine Ev.seq ?_
   refine Ev.reg (fun _ => rfl) ?_
   refine Ev.nxk (mvO rfl) ?_
   refine Ev.rend ?_
   intro e512 he513
   have h514 : eget e512 4 = .bool false := envp he513 rfl rfl
   clear h177 h178 h179 h180 h181 h182 h183 h184
   refine Ev.kseqN ?_
   refine Ev.ex ?_
   refine Ev.kseqR ?_
   cases h
   exact Ev.kendR (resT h514 res0) rfl
  refine Ev.nfcpE (Ev.callT (v := .tup [.agg [.int .i64 r518, .sl (some 2) (r519.map (cI .i64)), .sl (some 156) (r520.map Tally.c)], .int .i64 0]) rfl (cns rfl (cns rfl rfl)) (ra1 (ra_agg (mp1 rfl (mp1 (ra1_row o79 rfl (cI_fl _)) (mp1 (ra1_row o80 rfl Tally.fl) mp0)))) (ra1 rfl ra0)) (impl_DoDeal_ok (Book.mk r53 r54 r55) (Deal.mk r90 r91 r92 r93 r94 r95) _ hx96) (th_gen (v' := .tup [.agg [.int .i64 r518, .lsl M76.length r519.length 0 r519.length, .lsl (M76.length + 1) r520.length 0 r520.length], .int .i64 0]) (l := [⟨.grow, 2, 1, r519.map (cI .i64)⟩, ⟨.grow, 156, 5, r520.map Tally.c⟩]) (own_tup (oa1 (own2_agg (oa1 rfl (oa1 (own1_row' (c := (cI .i64)) (fun _ => rfl)) (oa1 (own1_row' (c := Tally.c) Tally.flF) oa0)))) (oa1 rfl oa0))) (by simp [thaw, thaw2, thaw1, thawL, co2, co156]) rfl rfl)) ?_
  refine Ev.nfk (mvO rfl) ?_
  refine Ev.nfk (exT rfl rfl) ?_
  refine Ev.nfk (exT rfl rfl) ?_
  refine Ev.nfpushE (alO zero56) ?_
  refine Ev.fend1 ?_
  intro M524 hM525
  have hM525 := fendM hM525 [⟨.grow, 2, 1, r519.map (cI .i64)⟩, ⟨.grow, 156, 5, r520.map Tally.c⟩, ⟨.box, 56, 3, [[.int .i64 0, .nils, .nils]]⟩] rfl
  have o526 := push_old hM525 o78
  have o527 := push_old hM525 o79
  have o528 := push_old hM525 o80
  have o529 := push_old hM525 o81
  have ne530 : ([] : Mem).length ≠ M76.length := by have := lt_of_get (M := M76) o78; omega
  have ne531 : M43.length ≠ M76.length := by have := lt_of_get (M := M76) o79; omega
  have ne532 : (M43.length + 1) ≠ M76.length := by have := lt_of_get (M := M76) o80; omega
  have ne533 : M58.length ≠ M76.length := by have := lt_of_get (M := M76) o81; omega
  have o534 : M524[M76.length]? = some (.live ⟨.grow, 2, 1, r519.map (cI .i64)⟩) := push_at hM525 0 rfl
  have ne535 : ([] : Mem).length ≠ (M76.length + 1) := by have := lt_of_get (M := M76) o78; omega
  have ne536 : M43.length ≠ (M76.length + 1) := by have := lt_of_get (M := M76) o79; omega
  have ne537 : (M43.length + 1) ≠ (M76.length + 1) := by have := lt_of_get (M := M76) o80; omega
  have ne538 : M58.length ≠ (M76.length + 1) := by have := lt_of_get (M := M76) o81; omega
  have ne539 : M76.length ≠ (M76.length + 1) := by omega
  have o540 : M524[(M76.length + 1)]? = some (.live ⟨.grow, 156, 5, r520.map Tally.c⟩) := push_at hM525 1 rfl
  have ne541 : ([] : Mem).length ≠ (M76.length + 2) := by have := lt_of_get (M := M76) o78; omega
  have ne542 : M43.length ≠ (M76.length + 2) := by have := lt_of_get (M := M76) o79; omega
  have ne543 : (M43.length + 1) ≠ (M76.length + 2) := by have := lt_of_get (M := M76) o80; omega
  have ne544 : M58.length ≠ (M76.length + 2) := by have := lt_of_get (M := M76) o81; omega
  have ne545 : M76.length ≠ (M76.length + 2) := by omega
  have ne546 : (M76.length + 1) ≠ (M76.length + 2) := by omega
  have o547 : M524[(M76.length + 2)]? = some (.live ⟨.box, 56, 3, [[.int .i64 0, .nils, .nils]]⟩) := push_at hM525 2 rfl
  refine Ev.nxput (stO rfl rfl o547 rfl rfl ⟨rfl, ble rfl⟩ (all1 rfl (all1 (okL o534 (by simp)) (all1 (okL o540 (by simp)) all0))) rfl) ?_
  intro M548 hM549
  have o550 := set_ne hM549 ne541 o526
  have o551 := set_ne hM549 ne542 o527
  have o552 := set_ne hM549 ne543 o528
  have o553 := set_ne hM549 ne544 o529
  have o554 := set_ne hM549 ne545 o534
  have o555 := set_ne hM549 ne546 o540
  have o556 : M548[(M76.length + 2)]? = some (.live ⟨.box, 56, 3, [[.int .i64 r518, .lsl M76.length r519.length 0 r519.length, .lsl (M76.length + 1) r520.length 0 r520.length]]⟩) := set_same hM549 o547
  refine Ev.nxk (mvO rfl) ?_
  refine Ev.rend ?_
  intro e557 he558
  have h559 := envp (t := 2) he558 rfl h84
  have h560 := envp (t := 3) he558 rfl h85
  have h561 := envp (t := 6) he558 rfl h86
  have h562 := envp (t := 7) he558 rfl h87
  have h563 := envp (t := 8) he558 rfl h88
  have h564 : eget e557 9 = .loc (M76.length + 2) 1 0 0 := envp he558 rfl rfl
  have h565 : eget e557 10 = .int .i64 0 := envp he558 rfl rfl
  clear h84 h85 h86 h87 h88
  refine Ev.kseqN ?_
  refine Ev.seq ?_
  refine Ev.seq ?_
  obtain ⟨r986, hr987, h⟩ := bind_some h
  refine Ev.cut (Q1 := laws_FnExactDoDeal_c5_Q a1 a2 r38 r53 r54 r55 r518 r519 r520 (([] : Mem).length) M43.length (M43.length + 1) M58.length M76.length (M76.length + 1) (M76.length + 2) r986) (by
      have h := hr987
      refine Ev.reg (fun _ => rfl) ?_
      refine Ev.nxk (ldOA h564 o556 rfl rfl (ble rfl) rfl) ?_
      refine Ev.nxk (ldOA h561 o550 rfl rfl (ble rfl) rfl) ?_
      obtain ⟨r567, hx566, h⟩ := bind_some h
      refine Ev.nxck (Ev.call (v := .bool r567) rfl (cns rfl (cns rfl rfl)) (ra1 (ra_agg (mp1 rfl (mp1 (ra1_row o554 rfl (cI_fl _)) (mp1 (ra1_row o555 rfl Tally.fl) mp0)))) (ra1 rfl ra0)) (laws_eqBook_ok (Book.mk r518 r519 r520) (Book.mk 0 ([] : List Int) ([] : List Tally)) _ hx566) (fun _ => rfl)) ?_
      refine Ev.nxk (uNot rfl) ?_
      refine Ev.nxk (mvO rfl) ?_
      rcases ite_some h with ⟨hb568, h⟩ | ⟨hb568, h⟩
      ·refine Ev.nxk (guF rfl (congrArg Bool.not hb568) (mvO h565)) ?_
       refine Ev.nxk (guF rfl (congrArg Bool.not hb568) (mvO h562)) ?_
       refine Ev.nxk (guF rfl (congrArg Bool.not hb568) (bNeq rfl rfl)) ?_
       refine Ev.nxk (pkF rfl (congrArg Bool.not hb568) rfl) ?_
       refine Ev.rend ?_
       intro e569 he570
       have h571 := envp (t := 2) he570 rfl h559
       have h572 := envp (t := 3) he570 rfl h560
       have h573 := envp (t := 6) he570 rfl h561
       have h574 := envp (t := 7) he570 rfl h562
       have h575 := envp (t := 8) he570 rfl h563
       have h576 := envp (t := 9) he570 rfl h564
       have h577 : eget e569 10 = .int .i64 0 := envp he570 rfl h565
       have h578 : eget e569 46 = .bool (0 != r38) := envp he570 rfl rfl
       clear h559 h560 h561 h562 h563 h564 h565
       cases h
       exact Ev.kid (show laws_FnExactDoDeal_c5_Q a1 a2 r38 r53 r54 r55 r518 r519 r520 (([] : Mem).length) M43.length (M43.length + 1) M58.length M76.length (M76.length + 1) (M76.length + 2) _ _ from (And.intro rfl (And.intro h571 (And.intro h572 (And.intro h573 (And.intro h574 (And.intro h575 (And.intro h576 (And.intro h577 (And.intro h578 (And.intro o550 (And.intro o554 (And.intro o555 (And.intro o556 (And.intro o551 (And.intro o552 o553))))))))))))))))
      refine Ev.nxk (gsF rfl (congrArg Bool.not hb568)) ?_
      refine Ev.nxk (gsF rfl (congrArg Bool.not hb568)) ?_
      refine Ev.nxk (gsF rfl (congrArg Bool.not hb568)) ?_
      refine Ev.nxk (pkT rfl (congrArg Bool.not hb568) rfl) ?_
      refine Ev.rend ?_
      intro e579 he580
      have h581 := envp (t := 2) he580 rfl h559
      have h582 := envp (t := 3) he580 rfl h560
      have h583 := envp (t := 6) he580 rfl h561
      have h584 := envp (t := 7) he580 rfl h562
      have h585 := envp (t := 8) he580 rfl h563
      have h586 := envp (t := 9) he580 rfl h564
      have h587 : eget e579 10 = .int .i64 0 := envp he580 rfl h565
      have h588 : eget e579 46 = .bool true := envp he580 rfl rfl
      clear h559 h560 h561 h562 h563 h564 h565
      cases h
      exact Ev.kid (show laws_FnExactDoDeal_c5_Q a1 a2 r38 r53 r54 r55 r518 r519 r520 (([] : Mem).length) M43.length (M43.length + 1) M58.length M76.length (M76.length + 1) (M76.length + 2) _ _ from (And.intro rfl (And.intro h581 (And.intro h582 (And.intro h583 (And.intro h584 (And.intro h585 (And.intro h586 (And.intro h587 (And.intro h588 (And.intro o550 (And.intro o554 (And.intro o555 (And.intro o556 (And.intro o551 (And.intro o552 o553))))))))))))))))) ?_
  revert h hr987
  revert r986
  intro y591 hr987 h
  intro x e589 M590 hq985
  obtain ⟨rfl, h592, h593, h594, h595, h596, h597, h598, h599, o600, o601, o602, o603, o604, o605, o606⟩ := hq985
  refine Ev.kseqN ?_
  rcases ite_some h with ⟨hb607, h⟩ | ⟨hb607, h⟩
  ·refine Ev.condT h599 hb607 ?_
   refine Ev.seq ?_
   refine Ev.reg (fun _ => rfl) ?_
   refine Ev.nxk (mvO rfl) ?_
   refine Ev.rend ?_
   intro e608 he609
   have h610 : eget e608 4 = .bool false := envp he609 rfl rfl
   clear h592 h593 h594 h595 h596 h597 h598 h599
   refine Ev.kseqN ?_
   refine Ev.ex ?_
   refine Ev.kseqR ?_
   cases h
   exact Ev.kendR (resT h610 res0) rfl
  refine Ev.condF h599 hb607 ?_
  refine Ev.ex ?_
  refine Ev.kseqN ?_
  refine Ev.seq ?_
  refine Ev.seq ?_
  refine Ev.regD (fun _ => rfl) ?_
  refine Ev.nfk (ldOA h596 o606 rfl rfl (ble rfl) rfl) ?_
  refine Ev.nfk (ldPA h592 rfl rfl) ?_
  obtain ⟨⟨r612, r613, r614⟩, hx611, h⟩ := bind_some h
  refine Ev.nfc (Ev.call (v := .agg [.int .i64 r612, .sl (some 2) (r613.map (cI .i64)), .sl (some 156) (r614.map Tally.c)]) rfl (cns rfl rfl) rfl (laws_toBook_ok a1 _ hx611) (fun h => nomatch (show false = true from h))) ?_
  obtain ⟨r616, hx615, h⟩ := bind_some h
  refine Ev.nfc (Ev.call (v := .bool r616) rfl (cns rfl (cns rfl rfl)) (ra1 (ra_agg (mp1 rfl (mp1 (ra1_row o604 rfl (cI_fl _)) (mp1 (ra1_row o605 rfl Tally.fl) mp0)))) (ra1 rfl ra0)) (laws_eqBook_ok (Book.mk r53 r54 r55) (Book.mk r612 r613 r614) _ hx615) (fun _ => rfl)) ?_
  refine Ev.nfk (uNot rfl) ?_
  refine Ev.fend0 ?_
  refine Ev.rend ?_
  intro e617 he618
  have h619 : eget e617 2 = .pt none [.int .i64 a1.Day, .sl none (a1.Cash.map (cI .i64)), .sl none (a1.Tallies.map Tally.c)] := envp he618 rfl h592
  have h620 : eget e617 3 = .pt none [.int .i64 a2.Day, .int .i8 a2.Kind, .int .i64 a2.Tally, .int .i64 a2.From, .int .i64 a2.To, .int .i64 a2.Amount] := envp he618 rfl h593
  have h621 : eget e617 6 = .loc ([] : Mem).length 1 0 0 := envp he618 rfl h594
  have h622 : eget e617 7 = .int .i64 r38 := envp he618 rfl h595
  have h623 : eget e617 8 = .loc M58.length 1 0 0 := envp he618 rfl h596
  have h624 : eget e617 9 = .loc (M76.length + 2) 1 0 0 := envp he618 rfl h597
  have h625 : eget e617 10 = .int .i64 0 := envp he618 rfl h598
  have h626 : eget e617 51 = .bool (!r616) := envp he618 rfl rfl
  clear h592 h593 h594 h595 h596 h597 h598 h599
  refine Ev.kseqN ?_
  rcases ite_some h with ⟨hb627, h⟩ | ⟨hb627, h⟩
  ·refine Ev.condF h626 (congrArg Bool.not hb627) ?_
   refine Ev.ex ?_
   refine Ev.kseqN ?_
   refine Ev.seq ?_
   refine Ev.reg (fun _ => rfl) ?_
   refine Ev.nxk (mvO rfl) ?_
   refine Ev.rend ?_
   intro e628 he629
   have h630 := envp (t := 2) he629 rfl h619
   have h631 := envp (t := 3) he629 rfl h620
   have h632 := envp (t := 6) he629 rfl h621
   have h633 := envp (t := 7) he629 rfl h622
   have h634 := envp (t := 8) he629 rfl h623
   have h635 := envp (t := 9) he629 rfl h624
   have h636 : eget e628 10 = .int .i64 0 := envp he629 rfl h625
   have h637 : eget e628 11 = .int .i64 1 := envp he629 rfl rfl
   clear h619 h620 h621 h622 h623 h624 h625 h626
   refine Ev.kseqN ?_
   refine Ev.seq ?_
   refine Ev.reg (fun _ => rfl) ?_
   refine Ev.nxk (ldOA h634 o606 rfl rfl (ble rfl) rfl) ?_
   refine Ev.nxk (mvO h637) ?_
   obtain ⟨⟨r639, r640, r641⟩, hx638, h⟩ := bind_some h
   refine Ev.nxw (Ev.callW rfl (cns rfl (cns rfl rfl)) (laws_markBook_ll_ok r53 r54 r55 1 M43.length (M43.length + 1) ne64 M590 o604 o605 _ hx638)) ?_
   intro v644 M642 hq643
   obtain ⟨hv644, o645, o646, fr647, hl648, hl649⟩ := hq643
   have hv644 : v644 = .int .i64 r639 := hv644
   subst hv644
   have o650 : M642[M43.length]? = some (.live ⟨.grow, 2, 1, r640.map (cI .i64)⟩) := o645
   have o651 : M642[(M43.length + 1)]? = some (.live ⟨.grow, 156, 5, r641.map Tally.c⟩) := o646
   have hl648 : r640.length = r54.length := hl648
   have hl649 : r641.length = r55.length := hl649
   have o652 : M642[([] : Mem).length]? = some (.live ⟨.box, 56, 3, [[.int .i64 0, .nils, .nils]]⟩) := fr647 _ _ (niC ne61 (niC ne63 niN)) o600
   have o653 : M642[M76.length]? = some (.live ⟨.grow, 2, 1, r519.map (cI .i64)⟩) := fr647 _ _ (niC (Ne.symm ne531) (niC (Ne.symm ne532) niN)) o601
   have o654 : M642[(M76.length + 1)]? = some (.live ⟨.grow, 156, 5, r520.map Tally.c⟩) := fr647 _ _ (niC (Ne.symm ne536) (niC (Ne.symm ne537) niN)) o602
   have o655 : M642[(M76.length + 2)]? = some (.live ⟨.box, 56, 3, [[.int .i64 r518, .lsl M76.length r519.length 0 r519.length, .lsl (M76.length + 1) r520.length 0 r520.length]]⟩) := fr647 _ _ (niC (Ne.symm ne542) (niC (Ne.symm ne543) niN)) o603
   have o656 : M642[M58.length]? = some (.live ⟨.box, 56, 3, [[.int .i64 r53, .lsl M43.length r54.length 0 r54.length, .lsl (M43.length + 1) r55.length 0 r55.length]]⟩) := fr647 _ _ (niC (Ne.symm ne72) (niC (Ne.symm ne74) niN)) o606
   refine Ev.nxk (mvO rfl) ?_
   refine Ev.rend ?_
   intro e657 he658
   have h659 := envp (t := 2) he658 rfl h630
   have h660 := envp (t := 3) he658 rfl h631
   have h661 := envp (t := 6) he658 rfl h632
   have h662 := envp (t := 7) he658 rfl h633
   have h663 := envp (t := 9) he658 rfl h635
   have h664 : eget e657 10 = .int .i64 0 := envp he658 rfl h636
   have h665 : eget e657 11 = .int .i64 r639 := envp he658 rfl rfl
   clear h630 h631 h632 h633 h634 h635 h636
   refine Ev.kseqN ?_
   refine Ev.seq ?_
   refine Ev.seq ?_
   obtain ⟨r980, hr981, h⟩ := bind_some h
   refine Ev.cut (Q1 := laws_FnExactDoDeal_c6_Q a1 a2 r38 r518 r519 r520 (([] : Mem).length) M76.length (M76.length + 1) (M76.length + 2) r980) (by
       have h := hr981
       refine Ev.reg (fun _ => rfl) ?_
       refine Ev.nxk (mvO h665) ?_
       refine Ev.nxk (bLss rfl rfl) ?_
       refine Ev.nxk (mvO rfl) ?_
       rcases ite_some h with ⟨hb666, h⟩ | ⟨hb666, h⟩
       ·refine Ev.nxk (gsF rfl hb666) ?_
        refine Ev.nxk (gsF rfl hb666) ?_
        refine Ev.nxck (Ev.gsF rfl hb666) ?_
        refine Ev.nxk (gsF rfl hb666) ?_
        refine Ev.nxk (pkT rfl hb666 rfl) ?_
        refine Ev.nxk (mvO rfl) ?_
        refine Ev.nxk (gsF rfl rfl) ?_
        refine Ev.nxk (gsF rfl rfl) ?_
        refine Ev.nxk (gsF rfl rfl) ?_
        refine Ev.nxk (pkT rfl rfl rfl) ?_
        refine Ev.rend ?_
        intro e667 he668
        have h669 := envp (t := 2) he668 rfl h659
        have h670 := envp (t := 3) he668 rfl h660
        have h671 := envp (t := 6) he668 rfl h661
        have h672 := envp (t := 7) he668 rfl h662
        have h673 := envp (t := 9) he668 rfl h663
        have h674 : eget e667 67 = .bool true := envp he668 rfl rfl
        clear h659 h660 h661 h662 h663 h664 h665
        cases h
        exact Ev.kid (show laws_FnExactDoDeal_c6_Q a1 a2 r38 r518 r519 r520 (([] : Mem).length) M76.length (M76.length + 1) (M76.length + 2) _ _ from (And.intro rfl (And.intro h669 (And.intro h670 (And.intro h671 (And.intro h672 (And.intro h673 (And.intro h674 (And.intro o652 (And.intro o653 (And.intro o654 o655)))))))))))
       refine Ev.nxk (guF rfl hb666 (ldOA h663 o655 rfl rfl (ble rfl) rfl)) ?_
       refine Ev.nxk (guF rfl hb666 (ldOA h661 o652 rfl rfl (ble rfl) rfl)) ?_
       obtain ⟨r676, hx675, h⟩ := bind_some h
       refine Ev.nxck (Ev.guF rfl hb666 (Ev.call (v := .bool r676) rfl (cns rfl (cns rfl rfl)) (ra1 (ra_agg (mp1 rfl (mp1 (ra1_row o653 rfl (cI_fl _)) (mp1 (ra1_row o654 rfl Tally.fl) mp0)))) (ra1 rfl ra0)) (laws_eqBook_ok (Book.mk r518 r519 r520) (Book.mk 0 ([] : List Int) ([] : List Tally)) _ hx675) (fun _ => rfl))) ?_
       refine Ev.nxk (guF rfl hb666 (uNot rfl)) ?_
       refine Ev.nxk (pkF rfl hb666 rfl) ?_
       refine Ev.nxk (mvO rfl) ?_
       rcases ite_some h with ⟨hb677, h⟩ | ⟨hb677, h⟩
       ·refine Ev.nxk (guF rfl (congrArg Bool.not hb677) (mvO h664)) ?_
        refine Ev.nxk (guF rfl (congrArg Bool.not hb677) (mvO h662)) ?_
        refine Ev.nxk (guF rfl (congrArg Bool.not hb677) (bNeq rfl rfl)) ?_
        refine Ev.nxk (pkF rfl (congrArg Bool.not hb677) rfl) ?_
        refine Ev.rend ?_
        intro e678 he679
        have h680 := envp (t := 2) he679 rfl h659
        have h681 := envp (t := 3) he679 rfl h660
        have h682 := envp (t := 6) he679 rfl h661
        have h683 := envp (t := 7) he679 rfl h662
        have h684 := envp (t := 9) he679 rfl h663
        have h685 : eget e678 67 = .bool (0 != r38) := envp he679 rfl rfl
        clear h659 h660 h661 h662 h663 h664 h665
        cases h
        exact Ev.kid (show laws_FnExactDoDeal_c6_Q a1 a2 r38 r518 r519 r520 (([] : Mem).length) M76.length (M76.length + 1) (M76.length + 2) _ _ from (And.intro rfl (And.intro h680 (And.intro h681 (And.intro h682 (And.intro h683 (And.intro h684 (And.intro h685 (And.intro o652 (And.intro o653 (And.intro o654 o655)))))))))))
       refine Ev.nxk (gsF rfl (congrArg Bool.not hb677)) ?_
       refine Ev.nxk (gsF rfl (congrArg Bool.not hb677)) ?_
       refine Ev.nxk (gsF rfl (congrArg Bool.not hb677)) ?_
       refine Ev.nxk (pkT rfl (congrArg Bool.not hb677) rfl) ?_
       refine Ev.rend ?_
       intro e686 he687
       have h688 := envp (t := 2) he687 rfl h659
       have h689 := envp (t := 3) he687 rfl h660
       have h690 := envp (t := 6) he687 rfl h661
       have h691 := envp (t := 7) he687 rfl h662
       have h692 := envp (t := 9) he687 rfl h663
       have h693 : eget e686 67 = .bool true := envp he687 rfl rfl
       clear h659 h660 h661 h662 h663 h664 h665
       cases h
       exact Ev.kid (show laws_FnExactDoDeal_c6_Q a1 a2 r38 r518 r519 r520 (([] : Mem).length) M76.length (M76.length + 1) (M76.length + 2) _ _ from (And.intro rfl (And.intro h688 (And.intro h689 (And.intro h690 (And.intro h691 (And.intro h692 (And.intro h693 (And.intro o652 (And.intro o653 (And.intro o654 o655)))))))))))) ?_
   revert h hr981
   revert r980
   intro y696 hr981 h
   intro x e694 M695 hq979
   obtain ⟨rfl, h697, h698, h699, h700, h701, h702, o703, o704, o705, o706⟩ := hq979
   refine Ev.kseqN ?_
   rcases ite_some h with ⟨hb707, h⟩ | ⟨hb707, h⟩
   ·refine Ev.condT h702 hb707 ?_
    refine Ev.seq ?_
    refine Ev.reg (fun _ => rfl) ?_
    refine Ev.nxk (mvO rfl) ?_
    refine Ev.rend ?_
    intro e708 he709
    have h710 : eget e708 4 = .bool false := envp he709 rfl rfl
    clear h697 h698 h699 h700 h701 h702
    refine Ev.kseqN ?_
    refine Ev.ex ?_
    refine Ev.kseqR ?_
    cases h
    exact Ev.kendR (resT h710 res0) rfl
   refine Ev.condF h702 hb707 ?_
   refine Ev.ex ?_
   refine Ev.kseqN ?_
   refine Ev.seq ?_
   refine Ev.reg (fun _ => rfl) ?_
   refine Ev.nxk (mvO rfl) ?_
   refine Ev.rend ?_
   intro e711 he712
   have h713 : eget e711 2 = .pt none [.int .i64 a1.Day, .sl none (a1.Cash.map (cI .i64)), .sl none (a1.Tallies.map Tally.c)] := envp he712 rfl h697
   have h714 : eget e711 3 = .pt none [.int .i64 a2.Day, .int .i8 a2.Kind, .int .i64 a2.Tally, .int .i64 a2.From, .int .i64 a2.To, .int .i64 a2.Amount] := envp he712 rfl h698
   have h715 : eget e711 6 = .loc ([] : Mem).length 1 0 0 := envp he712 rfl h699
   have h716 : eget e711 7 = .int .i64 r38 := envp he712 rfl h700
   have h717 : eget e711 9 = .loc (M76.length + 2) 1 0 0 := envp he712 rfl h701
   have h718 : eget e711 12 = .int .i64 1 := envp he712 rfl rfl
   clear h697 h698 h699 h700 h701 h702
   refine Ev.kseqN ?_
   refine Ev.seq ?_
   refine Ev.reg (fun _ => rfl) ?_
   refine Ev.nxk (ldOA h717 o706 rfl rfl (ble rfl) rfl) ?_
   refine Ev.nxk (mvO h718) ?_
   obtain ⟨⟨r720, r721, r722⟩, hx719, h⟩ := bind_some h
   refine Ev.nxw (Ev.callW rfl (cns rfl (cns rfl rfl)) (laws_markBook_ll_ok r518 r519 r520 1 M76.length (M76.length + 1) ne539 M695 o704 o705 _ hx719)) ?_
   intro v725 M723 hq724
   obtain ⟨hv725, o726, o727, fr728, hl729, hl730⟩ := hq724
   have hv725 : v725 = .int .i64 r720 := hv725
   subst hv725
   have o731 : M723[M76.length]? = some (.live ⟨.grow, 2, 1, r721.map (cI .i64)⟩) := o726
   have o732 : M723[(M76.length + 1)]? = some (.live ⟨.grow, 156, 5, r722.map Tally.c⟩) := o727
   have hl729 : r721.length = r519.length := hl729
   have hl730 : r722.length = r520.length := hl730
   have o733 : M723[([] : Mem).length]? = some (.live ⟨.box, 56, 3, [[.int .i64 0, .nils, .nils]]⟩) := fr728 _ _ (niC ne530 (niC ne535 niN)) o703
   have o734 : M723[(M76.length + 2)]? = some (.live ⟨.box, 56, 3, [[.int .i64 r518, .lsl M76.length r519.length 0 r519.length, .lsl (M76.length + 1) r520.length 0 r520.length]]⟩) := fr728 _ _ (niC (Ne.symm ne545) (niC (Ne.symm ne546) niN)) o706
   refine Ev.nxk (mvO rfl) ?_
   refine Ev.rend ?_
   intro e735 he736
   have h737 := envp (t := 2) he736 rfl h713
   have h738 := envp (t := 3) he736 rfl h714
   have h739 := envp (t := 6) he736 rfl h715
   have h740 := envp (t := 7) he736 rfl h716
   have h741 := envp (t := 9) he736 rfl h717
   have h742 : eget e735 12 = .int .i64 r720 := envp he736 rfl rfl
   clear h713 h714 h715 h716 h717
   refine Ev.kseqN ?_
   refine Ev.seq ?_
   refine Ev.reg (fun _ => rfl) ?_
   refine Ev.nxk (mvO rfl) ?_
   refine Ev.rend ?_
   intro e743 he744
   have h745 := envp (t := 2) he744 rfl h737
   have h746 := envp (t := 3) he744 rfl h738
   have h747 := envp (t := 6) he744 rfl h739
   have h748 := envp (t := 7) he744 rfl h740
   have h749 := envp (t := 9) he744 rfl h741
   have h750 := envp (t := 12) he744 rfl h742
   have h751 : eget e743 13 = .int .i64 1 := envp he744 rfl rfl
   clear h737 h738 h739 h740 h741 h742
   refine Ev.kseqN ?_
   refine Ev.seq ?_
   refine Ev.reg (fun _ => rfl) ?_
   refine Ev.nxk (ldOA h749 o734 rfl rfl (ble rfl) rfl) ?_
   refine Ev.nxk (mvO h751) ?_
   obtain ⟨r753, hx752, h⟩ := bind_some h
   refine Ev.nxck (Ev.call (v := .int .i64 r753) rfl (cns rfl (cns rfl rfl)) (ra1 (ra_agg (mp1 rfl (mp1 (ra1_row o731 (by simp [hl648, hl649, hl729, hl730]) (cI_fl _)) (mp1 (ra1_row o732 (by simp [hl648, hl649, hl729, hl730]) Tally.fl) mp0)))) (ra1 rfl ra0)) (laws_heldBook_ok (Book.mk r518 r721 r722) 1 _ hx752) (fun _ => rfl)) ?_
   refine Ev.nxk (mvO rfl) ?_
   refine Ev.rend ?_
   intro e754 he755
   have h756 := envp (t := 2) he755 rfl h745
   have h757 := envp (t := 3) he755 rfl h746
   have h758 := envp (t := 6) he755 rfl h747
   have h759 := envp (t := 7) he755 rfl h748
   have h760 := envp (t := 9) he755 rfl h749
   have h761 := envp (t := 12) he755 rfl h750
   have h762 : eget e754 13 = .int .i64 r753 := envp he755 rfl rfl
   clear h745 h746 h747 h748 h749 h750
   refine Ev.kseqN ?_
   refine Ev.seq ?_
   refine Ev.seq ?_
   refine Ev.reg (fun _ => rfl) ?_
   refine Ev.nxk (mvO h762) ?_
   refine Ev.nxk (bLss rfl rfl) ?_
   refine Ev.rend ?_
   intro e763 he764
   have h765 := envp (t := 2) he764 rfl h756
   have h766 := envp (t := 3) he764 rfl h757
   have h767 := envp (t := 6) he764 rfl h758
   have h768 := envp (t := 7) he764 rfl h759
   have h769 := envp (t := 9) he764 rfl h760
   have h770 := envp (t := 12) he764 rfl h761
   have h771 := envp (t := 13) he764 rfl h762
   have h772 : eget e763 75 = .bool (decide (r753 < 0)) := envp he764 rfl rfl
   clear h756 h757 h758 h759 h760 h761 h762
   refine Ev.kseqN ?_
   rcases ite_some h with ⟨hb773, h⟩ | ⟨hb773, h⟩
   ·refine Ev.condT h772 hb773 ?_
    refine Ev.seq ?_
    refine Ev.reg (fun _ => rfl) ?_
    refine Ev.nxk (mvO rfl) ?_
    refine Ev.rend ?_
    intro e774 he775
    have h776 : eget e774 4 = .bool false := envp he775 rfl rfl
    clear h765 h766 h767 h768 h769 h770 h771 h772
    refine Ev.kseqN ?_
    refine Ev.ex ?_
    refine Ev.kseqR ?_
    cases h
    exact Ev.kendR (resT h776 res0) rfl
   refine Ev.condF h772 hb773 ?_
   refine Ev.ex ?_
   refine Ev.kseqN ?_
   refine Ev.seq ?_
   refine Ev.seq ?_
   refine Ev.reg (fun _ => rfl) ?_
   refine Ev.nxk (mvO h771) ?_
   refine Ev.nxk (mvO h770) ?_
   refine Ev.nxk (bNeq rfl rfl) ?_
   refine Ev.rend ?_
   intro e777 he778
   have h779 := envp (t := 2) he778 rfl h765
   have h780 := envp (t := 3) he778 rfl h766
   have h781 := envp (t := 6) he778 rfl h767
   have h782 := envp (t := 7) he778 rfl h768
   have h783 := envp (t := 9) he778 rfl h769
   have h784 := envp (t := 12) he778 rfl h770
   have h785 : eget e777 78 = .bool (r753 != r720) := envp he778 rfl rfl
   clear h765 h766 h767 h768 h769 h770 h771 h772
   refine Ev.kseqN ?_
   rcases ite_some h with ⟨hb786, h⟩ | ⟨hb786, h⟩
   ·refine Ev.condT h785 hb786 ?_
    refine Ev.seq ?_
    refine Ev.reg (fun _ => rfl) ?_
    refine Ev.nxk (mvO rfl) ?_
    refine Ev.rend ?_
    intro e787 he788
    have h789 : eget e787 4 = .bool false := envp he788 rfl rfl
    clear h779 h780 h781 h782 h783 h784 h785
    refine Ev.kseqN ?_
    refine Ev.ex ?_
    refine Ev.kseqR ?_
    cases h
    exact Ev.kendR (resT h789 res0) rfl
   refine Ev.condF h785 hb786 ?_
   refine Ev.ex ?_
   refine Ev.kseqN ?_
   refine Ev.seq ?_
   refine Ev.regD (fun _ => rfl) ?_
   refine Ev.nfk (ldPA h779 rfl rfl) ?_
   obtain ⟨⟨r791, r792, r793⟩, hx790, h⟩ := bind_some h
   refine Ev.nfc (Ev.call (v := .agg [.int .i64 r791, .sl (some 2) (r792.map (cI .i64)), .sl (some 156) (r793.map Tally.c)]) rfl (cns rfl rfl) rfl (laws_toBook_ok a1 _ hx790) (fun h => nomatch (show false = true from h))) ?_
   refine Ev.nfk (ldPA h780 rfl rfl) ?_
   obtain ⟨⟨r795, r796, r797, r798, r799, r800⟩, hx794, h⟩ := bind_some h
   refine Ev.nfc (Ev.call (v := .agg [.int .i64 r795, .int .i8 r796, .int .i64 r797, .int .i64 r798, .int .i64 r799, .int .i64 r800]) rfl (cns rfl rfl) rfl (laws_toDeal_ok a2 _ hx794) (fun h => nomatch (show false = true from h))) ?_
   obtain ⟨q978, hx801, h⟩ := bind_some h
   rcases q978 with r802 | ⟨r889, r890, r891⟩
   ·refine Ev.nfc (Ev.call (v := .tup [.agg [.int .i64 0, .nils, .nils], .int .i64 r802]) rfl (cns rfl (cns rfl rfl)) rfl (impl_DoDeal_ok (Book.mk r791 r792 r793) (Deal.mk r795 r796 r797 r798 r799 r800) _ hx801) (fun h => nomatch (show false = true from h))) ?_
    refine Ev.nfk (mvO rfl) ?_
    refine Ev.nfk (exT rfl rfl) ?_
    refine Ev.nfk (exT rfl rfl) ?_
    refine Ev.nfpushE (alO zero56) ?_
    refine Ev.fend1 ?_
    intro M804 hM805
    have hM805 := fendM hM805 [⟨.box, 56, 3, [[.int .i64 0, .nils, .nils]]⟩] rfl
    have o806 := push_old hM805 o733
    have o807 := push_old hM805 o731
    have o808 := push_old hM805 o732
    have o809 := push_old hM805 o734
    have ne810 : ([] : Mem).length ≠ M723.length := by have := lt_of_get (M := M723) o733; omega
    have ne811 : M76.length ≠ M723.length := by have := lt_of_get (M := M723) o731; omega
    have ne812 : (M76.length + 1) ≠ M723.length := by have := lt_of_get (M := M723) o732; omega
    have ne813 : (M76.length + 2) ≠ M723.length := by have := lt_of_get (M := M723) o734; omega
    have o814 : M804[M723.length]? = some (.live ⟨.box, 56, 3, [[.int .i64 0, .nils, .nils]]⟩) := push_at hM805 0 rfl
    refine Ev.nxput (stO rfl rfl o814 rfl rfl ⟨rfl, ble rfl⟩ rfl rfl) ?_
    intro M815 hM816
    have o817 := set_ne hM816 ne810 o806
    have o818 := set_ne hM816 ne811 o807
    have o819 := set_ne hM816 ne812 o808
    have o820 := set_ne hM816 ne813 o809
    have o821 : M815[M723.length]? = some (.live ⟨.box, 56, 3, [[.int .i64 0, .nils, .nils]]⟩) := set_same hM816 o814
    refine Ev.nxk (mvO rfl) ?_
    refine Ev.rend ?_
    intro e822 he823
    have h824 := envp (t := 6) he823 rfl h781
    have h825 := envp (t := 7) he823 rfl h782
    have h826 := envp (t := 9) he823 rfl h783
    have h827 := envp (t := 12) he823 rfl h784
    have h828 : eget e822 14 = .loc M723.length 1 0 0 := envp he823 rfl rfl
    have h829 : eget e822 15 = .int .i64 r802 := envp he823 rfl rfl
    clear h779 h780 h781 h782 h783 h784 h785
    refine Ev.kseqN ?_
    refine Ev.seq ?_
    refine Ev.seq ?_
    obtain ⟨r887, hr888, h⟩ := bind_some h
    refine Ev.cut (Q1 := laws_FnExactDoDeal_c7_Q r518 r519 r520 r720 r721 r722 (([] : Mem).length) M76.length (M76.length + 1) (M76.length + 2) M723.length r887) (by
        have h := hr888
        refine Ev.reg (fun _ => rfl) ?_
        refine Ev.nxk (ldOA h828 o821 rfl rfl (ble rfl) rfl) ?_
        refine Ev.nxk (ldOA h824 o817 rfl rfl (ble rfl) rfl) ?_
        obtain ⟨r831, hx830, h⟩ := bind_some h
        refine Ev.nxck (Ev.call (v := .bool r831) rfl (cns rfl (cns rfl rfl)) rfl (laws_eqBook_ok (Book.mk 0 ([] : List Int) ([] : List Tally)) (Book.mk 0 ([] : List Int) ([] : List Tally)) _ hx830) (fun h => nomatch (show false = true from h))) ?_
        refine Ev.nxk (uNot rfl) ?_
        refine Ev.nxk (mvO rfl) ?_
        rcases ite_some h with ⟨hb832, h⟩ | ⟨hb832, h⟩
        ·refine Ev.nxk (guF rfl (congrArg Bool.not hb832) (mvO h829)) ?_
         refine Ev.nxk (guF rfl (congrArg Bool.not hb832) (mvO h825)) ?_
         refine Ev.nxk (guF rfl (congrArg Bool.not hb832) (bNeq rfl rfl)) ?_
         refine Ev.nxk (pkF rfl (congrArg Bool.not hb832) rfl) ?_
         refine Ev.rend ?_
         intro e833 he834
         have h835 := envp (t := 9) he834 rfl h826
         have h836 := envp (t := 12) he834 rfl h827
         have h837 : eget e833 95 = .bool (r802 != r38) := envp he834 rfl rfl
         clear h824 h825 h826 h827 h828 h829
         cases h
         exact Ev.kid (show laws_FnExactDoDeal_c7_Q r518 r519 r520 r720 r721 r722 (([] : Mem).length) M76.length (M76.length + 1) (M76.length + 2) M723.length _ _ from (And.intro rfl (And.intro h835 (And.intro h836 (And.intro h837 (And.intro o818 (And.intro o819 o820)))))))
        refine Ev.nxk (gsF rfl (congrArg Bool.not hb832)) ?_
        refine Ev.nxk (gsF rfl (congrArg Bool.not hb832)) ?_
        refine Ev.nxk (gsF rfl (congrArg Bool.not hb832)) ?_
        refine Ev.nxk (pkT rfl (congrArg Bool.not hb832) rfl) ?_
        refine Ev.rend ?_
        intro e838 he839
        have h840 := envp (t := 9) he839 rfl h826
        have h841 := envp (t := 12) he839 rfl h827
        have h842 : eget e838 95 = .bool true := envp he839 rfl rfl
        clear h824 h825 h826 h827 h828 h829
        cases h
        exact Ev.kid (show laws_FnExactDoDeal_c7_Q r518 r519 r520 r720 r721 r722 (([] : Mem).length) M76.length (M76.length + 1) (M76.length + 2) M723.length _ _ from (And.intro rfl (And.intro h840 (And.intro h841 (And.intro h842 (And.intro o818 (And.intro o819 o820)))))))) ?_
    revert h hr888
    revert r887
    intro y845 hr888 h
    intro x e843 M844 hq886
    obtain ⟨rfl, h846, h847, h848, o849, o850, o851⟩ := hq886
    refine Ev.kseqN ?_
    rcases ite_some h with ⟨hb852, h⟩ | ⟨hb852, h⟩
    ·refine Ev.condT h848 hb852 ?_
     refine Ev.seq ?_
     refine Ev.reg (fun _ => rfl) ?_
     refine Ev.nxk (mvO rfl) ?_
     refine Ev.rend ?_
     intro e853 he854
     have h855 : eget e853 4 = .bool false := envp he854 rfl rfl
     clear h846 h847 h848
     refine Ev.kseqN ?_
     refine Ev.ex ?_
     refine Ev.kseqR ?_
     cases h
     exact Ev.kendR (resT h855 res0) rfl
    refine Ev.condF h848 hb852 ?_
    refine Ev.ex ?_
    refine Ev.kseqN ?_
    refine Ev.seq ?_
    refine Ev.reg (fun _ => rfl) ?_
    refine Ev.nxk (mvO rfl) ?_
    refine Ev.rend ?_
    intro e856 he857
    have h858 : eget e856 9 = .loc (M76.length + 2) 1 0 0 := envp he857 rfl h846
    have h859 : eget e856 12 = .int .i64 r720 := envp he857 rfl h847
    have h860 : eget e856 13 = .int .i64 1 := envp he857 rfl rfl
    clear h846 h847 h848
    refine Ev.kseqN ?_
    refine Ev.seq ?_
    refine Ev.reg (fun _ => rfl) ?_
    refine Ev.nxk (ldOA h858 o851 rfl rfl (ble rfl) rfl) ?_
    refine Ev.nxk (mvO h860) ?_
    obtain ⟨r862, hx861, h⟩ := bind_some h
    refine Ev.nxck (Ev.call (v := .int .i64 r862) rfl (cns rfl (cns rfl rfl)) (ra1 (ra_agg (mp1 rfl (mp1 (ra1_row o849 (by simp [hl648, hl649, hl729, hl730]) (cI_fl _)) (mp1 (ra1_row o850 (by simp [hl648, hl649, hl729, hl730]) Tally.fl) mp0)))) (ra1 rfl ra0)) (laws_heldBook_ok (Book.mk r518 r721 r722) 1 _ hx861) (fun _ => rfl)) ?_
    refine Ev.nxk (mvO rfl) ?_
    refine Ev.rend ?_
    intro e863 he864
    have h865 := envp (t := 12) he864 rfl h859
    have h866 : eget e863 13 = .int .i64 r862 := envp he864 rfl rfl
    clear h858 h859
    refine Ev.kseqN ?_
    refine Ev.seq ?_
    refine Ev.seq ?_
    refine Ev.reg (fun _ => rfl) ?_
    refine Ev.nxk (mvO h866) ?_
    refine Ev.nxk (bLss rfl rfl) ?_
    refine Ev.rend ?_
    intro e867 he868
    have h869 := envp (t := 12) he868 rfl h865
    have h870 := envp (t := 13) he868 rfl h866
    have h871 : eget e867 100 = .bool (decide (r862 < 0)) := envp he868 rfl rfl
    clear h865 h866
    refine Ev.kseqN ?_
    rcases ite_some h with ⟨hb872, h⟩ | ⟨hb872, h⟩
    ·refine Ev.condT h871 hb872 ?_
     refine Ev.seq ?_
     refine Ev.reg (fun _ => rfl) ?_
     refine Ev.nxk (mvO rfl) ?_
     refine Ev.rend ?_
     intro e873 he874
     have h875 : eget e873 4 = .bool false := envp he874 rfl rfl
     clear h869 h870 h871
     refine Ev.kseqN ?_
     refine Ev.ex ?_
     refine Ev.kseqR ?_
     cases h
     exact Ev.kendR (resT h875 res0) rfl
    refine Ev.condF h871 hb872 ?_
    refine Ev.ex ?_
    refine Ev.kseqN ?_
    refine Ev.seq ?_
    refine Ev.seq ?_
    refine Ev.reg (fun _ => rfl) ?_
    refine Ev.nxk (mvO h870) ?_
    refine Ev.nxk (mvO h869) ?_
    refine Ev.nxk (bNeq rfl rfl) ?_
    refine Ev.rend ?_
    intro e876 he877
    have h878 : eget e876 103 = .bool (r862 != r720) := envp he877 rfl rfl
    clear h869 h870 h871
    refine Ev.kseqN ?_
    rcases ite_some h with ⟨hb879, h⟩ | ⟨hb879, h⟩
    ·refine Ev.condT h878 hb879 ?_
     refine Ev.seq ?_
     refine Ev.reg (fun _ => rfl) ?_
     refine Ev.nxk (mvO rfl) ?_
     refine Ev.rend ?_
     intro e880 he881
     have h882 : eget e880 4 = .bool false := envp he881 rfl rfl
     clear h878
     refine Ev.kseqN ?_
     refine Ev.ex ?_
     refine Ev.kseqR ?_
     cases h
     exact Ev.kendR (resT h882 res0) rfl
    refine Ev.condF h878 hb879 ?_
    refine Ev.ex ?_
    refine Ev.kseqN ?_
    refine Ev.seq ?_
    refine Ev.reg (fun _ => rfl) ?_
    refine Ev.nxk (mvO rfl) ?_
    refine Ev.rend ?_
    intro e883 he884
    have h885 : eget e883 4 = .bool true := envp he884 rfl rfl
    clear h878
    refine Ev.kseqN ?_
    refine Ev.ex ?_
    cases h
    exact Ev.kendR (resT h885 res0) rfl
   refine Ev.nfc (Ev.call (v := .tup [.agg [.int .i64 r889, .sl (some 2) (r890.map (cI .i64)), .sl (some 156) (r891.map Tally.c)], .int .i64 0]) rfl (cns rfl (cns rfl rfl)) rfl (impl_DoDeal_ok (Book.mk r791 r792 r793) (Deal.mk r795 r796 r797 r798 r799 r800) _ hx801) (fun h => nomatch (show false = true from h))) ?_
   refine Ev.nfk (mvO rfl) ?_
   refine Ev.nfk (exT rfl rfl) ?_
   refine Ev.nfk (exT rfl rfl) ?_
   refine Ev.nfpushE (alO zero56) ?_
   refine Ev.fend1 ?_
   intro M893 hM894
   have hM894 := fendM hM894 [⟨.box, 56, 3, [[.int .i64 0, .nils, .nils]]⟩] rfl
   have o895 := push_old hM894 o733
   have o896 := push_old hM894 o731
   have o897 := push_old hM894 o732
   have o898 := push_old hM894 o734
   have ne899 : ([] : Mem).length ≠ M723.length := by have := lt_of_get (M := M723) o733; omega
   have ne900 : M76.length ≠ M723.length := by have := lt_of_get (M := M723) o731; omega
   have ne901 : (M76.length + 1) ≠ M723.length := by have := lt_of_get (M := M723) o732; omega
   have ne902 : (M76.length + 2) ≠ M723.length := by have := lt_of_get (M := M723) o734; omega
   have o903 : M893[M723.length]? = some (.live ⟨.box, 56, 3, [[.int .i64 0, .nils, .nils]]⟩) := push_at hM894 0 rfl
   refine Ev.nxput (stO rfl rfl o903 rfl rfl ⟨rfl, ble rfl⟩ rfl rfl) ?_
   intro M904 hM905
   have o906 := set_ne hM905 ne899 o895
   have o907 := set_ne hM905 ne900 o896
   have o908 := set_ne hM905 ne901 o897
   have o909 := set_ne hM905 ne902 o898
   have o910 : M904[M723.length]? = some (.live ⟨.box, 56, 3, [[.int .i64 r889, .sl none (r890.map (cI .i64)), .sl none (r891.map Tally.c)]]⟩) := set_same hM905 o903
   refine Ev.nxk (mvO rfl) ?_
   refine Ev.rend ?_
   intro e911 he912
   have h913 := envp (t := 6) he912 rfl h781
   have h914 := envp (t := 7) he912 rfl h782
   have h915 := envp (t := 9) he912 rfl h783
   have h916 := envp (t := 12) he912 rfl h784
   have h917 : eget e911 14 = .loc M723.length 1 0 0 := envp he912 rfl rfl
   have h918 : eget e911 15 = .int .i64 0 := envp he912 rfl rfl
   clear h779 h780 h781 h782 h783 h784 h785
   refine Ev.kseqN ?_
   refine Ev.seq ?_
   refine Ev.seq ?_
   obtain ⟨r976, hr977, h⟩ := bind_some h
   refine Ev.cut (Q1 := laws_FnExactDoDeal_c8_Q r518 r519 r520 r720 r721 r722 (([] : Mem).length) M76.length (M76.length + 1) (M76.length + 2) M723.length r976) (by
       have h := hr977
       refine Ev.reg (fun _ => rfl) ?_
       refine Ev.nxk (ldOA h917 o910 rfl rfl (ble rfl) rfl) ?_
       refine Ev.nxk (ldOA h913 o906 rfl rfl (ble rfl) rfl) ?_
       obtain ⟨r920, hx919, h⟩ := bind_some h
       refine Ev.nxck (Ev.call (v := .bool r920) rfl (cns rfl (cns rfl rfl)) rfl (laws_eqBook_ok (Book.mk r889 r890 r891) (Book.mk 0 ([] : List Int) ([] : List Tally)) _ hx919) (fun h => nomatch (show false = true from h))) ?_
       refine Ev.nxk (uNot rfl) ?_
       refine Ev.nxk (mvO rfl) ?_
       rcases ite_some h with ⟨hb921, h⟩ | ⟨hb921, h⟩
       ·refine Ev.nxk (guF rfl (congrArg Bool.not hb921) (mvO h918)) ?_
        refine Ev.nxk (guF rfl (congrArg Bool.not hb921) (mvO h914)) ?_
        refine Ev.nxk (guF rfl (congrArg Bool.not hb921) (bNeq rfl rfl)) ?_
        refine Ev.nxk (pkF rfl (congrArg Bool.not hb921) rfl) ?_
        refine Ev.rend ?_
        intro e922 he923
        have h924 := envp (t := 9) he923 rfl h915
        have h925 := envp (t := 12) he923 rfl h916
        have h926 : eget e922 95 = .bool (0 != r38) := envp he923 rfl rfl
        clear h913 h914 h915 h916 h917 h918
        cases h
        exact Ev.kid (show laws_FnExactDoDeal_c8_Q r518 r519 r520 r720 r721 r722 (([] : Mem).length) M76.length (M76.length + 1) (M76.length + 2) M723.length _ _ from (And.intro rfl (And.intro h924 (And.intro h925 (And.intro h926 (And.intro o907 (And.intro o908 o909)))))))
       refine Ev.nxk (gsF rfl (congrArg Bool.not hb921)) ?_
       refine Ev.nxk (gsF rfl (congrArg Bool.not hb921)) ?_
       refine Ev.nxk (gsF rfl (congrArg Bool.not hb921)) ?_
       refine Ev.nxk (pkT rfl (congrArg Bool.not hb921) rfl) ?_
       refine Ev.rend ?_
       intro e927 he928
       have h929 := envp (t := 9) he928 rfl h915
       have h930 := envp (t := 12) he928 rfl h916
       have h931 : eget e927 95 = .bool true := envp he928 rfl rfl
       clear h913 h914 h915 h916 h917 h918
       cases h
       exact Ev.kid (show laws_FnExactDoDeal_c8_Q r518 r519 r520 r720 r721 r722 (([] : Mem).length) M76.length (M76.length + 1) (M76.length + 2) M723.length _ _ from (And.intro rfl (And.intro h929 (And.intro h930 (And.intro h931 (And.intro o907 (And.intro o908 o909)))))))) ?_
   revert h hr977
   revert r976
   intro y934 hr977 h
   intro x e932 M933 hq975
   obtain ⟨rfl, h935, h936, h937, o938, o939, o940⟩ := hq975
   refine Ev.kseqN ?_
   rcases ite_some h with ⟨hb941, h⟩ | ⟨hb941, h⟩
   ·refine Ev.condT h937 hb941 ?_
    refine Ev.seq ?_
    refine Ev.reg (fun _ => rfl) ?_
    refine Ev.nxk (mvO rfl) ?_
    refine Ev.rend ?_
    intro e942 he943
    have h944 : eget e942 4 = .bool false := envp he943 rfl rfl
    clear h935 h936 h937
    refine Ev.kseqN ?_
    refine Ev.ex ?_
    refine Ev.kseqR ?_
    cases h
    exact Ev.kendR (resT h944 res0) rfl
   refine Ev.condF h937 hb941 ?_
   refine Ev.ex ?_
   refine Ev.kseqN ?_
   refine Ev.seq ?_
   refine Ev.reg (fun _ => rfl) ?_
   refine Ev.nxk (mvO rfl) ?_
   refine Ev.rend ?_
   intro e945 he946
   have h947 : eget e945 9 = .loc (M76.length + 2) 1 0 0 := envp he946 rfl h935
   have h948 : eget e945 12 = .int .i64 r720 := envp he946 rfl h936
   have h949 : eget e945 13 = .int .i64 1 := envp he946 rfl rfl
   clear h935 h936 h937
   refine Ev.kseqN ?_
   refine Ev.seq ?_
   refine Ev.reg (fun _ => rfl) ?_
   refine Ev.nxk (ldOA h947 o940 rfl rfl (ble rfl) rfl) ?_
   refine Ev.nxk (mvO h949) ?_
   obtain ⟨r951, hx950, h⟩ := bind_some h
   refine Ev.nxck (Ev.call (v := .int .i64 r951) rfl (cns rfl (cns rfl rfl)) (ra1 (ra_agg (mp1 rfl (mp1 (ra1_row o938 (by simp [hl648, hl649, hl729, hl730]) (cI_fl _)) (mp1 (ra1_row o939 (by simp [hl648, hl649, hl729, hl730]) Tally.fl) mp0)))) (ra1 rfl ra0)) (laws_heldBook_ok (Book.mk r518 r721 r722) 1 _ hx950) (fun _ => rfl)) ?_
   refine Ev.nxk (mvO rfl) ?_
   refine Ev.rend ?_
   intro e952 he953
   have h954 := envp (t := 12) he953 rfl h948
   have h955 : eget e952 13 = .int .i64 r951 := envp he953 rfl rfl
   clear h947 h948
   refine Ev.kseqN ?_
   refine Ev.seq ?_
   refine Ev.seq ?_
   refine Ev.reg (fun _ => rfl) ?_
   refine Ev.nxk (mvO h955) ?_
   refine Ev.nxk (bLss rfl rfl) ?_
   refine Ev.rend ?_
   intro e956 he957
   have h958 := envp (t := 12) he957 rfl h954
   have h959 := envp (t := 13) he957 rfl h955
   have h960 : eget e956 100 = .bool (decide (r951 < 0)) := envp he957 rfl rfl
   clear h954 h955
   refine Ev.kseqN ?_
   rcases ite_some h with ⟨hb961, h⟩ | ⟨hb961, h⟩
   ·refine Ev.condT h960 hb961 ?_
    refine Ev.seq ?_
    refine Ev.reg (fun _ => rfl) ?_
    refine Ev.nxk (mvO rfl) ?_
    refine Ev.rend ?_
    intro e962 he963
    have h964 : eget e962 4 = .bool false := envp he963 rfl rfl
    clear h958 h959 h960
    refine Ev.kseqN ?_
    refine Ev.ex ?_
    refine Ev.kseqR ?_
    cases h
    exact Ev.kendR (resT h964 res0) rfl
   refine Ev.condF h960 hb961 ?_
   refine Ev.ex ?_
   refine Ev.kseqN ?_
   refine Ev.seq ?_
   refine Ev.seq ?_
   refine Ev.reg (fun _ => rfl) ?_
   refine Ev.nxk (mvO h959) ?_
   refine Ev.nxk (mvO h958) ?_
   refine Ev.nxk (bNeq rfl rfl) ?_
   refine Ev.rend ?_
   intro e965 he966
   have h967 : eget e965 103 = .bool (r951 != r720) := envp he966 rfl rfl
   clear h958 h959 h960
   refine Ev.kseqN ?_
   rcases ite_some h with ⟨hb968, h⟩ | ⟨hb968, h⟩
   ·refine Ev.condT h967 hb968 ?_
    refine Ev.seq ?_
    refine Ev.reg (fun _ => rfl) ?_
    refine Ev.nxk (mvO rfl) ?_
    refine Ev.rend ?_
    intro e969 he970
    have h971 : eget e969 4 = .bool false := envp he970 rfl rfl
    clear h967
    refine Ev.kseqN ?_
    refine Ev.ex ?_
    refine Ev.kseqR ?_
    cases h
    exact Ev.kendR (resT h971 res0) rfl
   refine Ev.condF h967 hb968 ?_
   refine Ev.ex ?_
   refine Ev.kseqN ?_
   refine Ev.seq ?_
   refine Ev.reg (fun _ => rfl) ?_
   refine Ev.nxk (mvO rfl) ?_
   refine Ev.rend ?_
   intro e972 he973
   have h974 : eget e972 4 = .bool true := envp he973 rfl rfl
   clear h967
   refine Ev.kseqN ?_
   refine Ev.ex ?_
   cases h
   exact Ev.kendR (resT h974 res0) rfl
  refine Ev.condT h626 (congrArg Bool.not hb627) ?_
  refine Ev.seq ?_
  refine Ev.reg (fun _ => rfl) ?_
  refine Ev.nxk (mvO rfl) ?_
  refine Ev.rend ?_
  intro e982 he983
  have h984 : eget e982 4 = .bool false := envp he983 rfl rfl
  clear h619 h620 h621 h622 h623 h624 h625 h626
  refine Ev.kseqN ?_
  refine Ev.ex ?_
  refine Ev.kseqR ?_
  cases h
  exact Ev.kendR (resT h984 res0) rfl
 refine Ev.nfc (Ev.call (v := .tup [.agg [.int .i64 r989, .sl none (r990.map (cI .i64)), .sl none (r991.map Tally.c)], .int .i64 0]) rfl (cns rfl (cns rfl rfl)) rfl (spec_DoDeal_ok (Book.mk r27 r28 r29) (Deal.mk r31 r32 r33 r34 r35 r36) _ hx37) (fun h => nomatch (show false = true from h))) ?_
 refine Ev.nfk (mvO rfl) ?_
 refine Ev.nfk (exT rfl rfl) ?_
 refine Ev.nfk (exT rfl rfl) ?_
 refine Ev.nfpushE (alO zero56) ?_
 refine Ev.fend1 ?_
 intro M993 hM994
 have hM994 := fendM hM994 [⟨.box, 56, 3, [[.int .i64 0, .nils, .nils]]⟩] rfl
 have o995 : M993[([] : Mem).length]? = some (.live ⟨.box, 56, 3, [[.int .i64 0, .nils, .nils]]⟩) := push_at hM994 0 rfl
 refine Ev.nxput (stO rfl rfl o995 rfl rfl ⟨rfl, ble rfl⟩ rfl rfl) ?_
 intro M996 hM997
 have o998 : M996[([] : Mem).length]? = some (.live ⟨.box, 56, 3, [[.int .i64 r989, .sl none (r990.map (cI .i64)), .sl none (r991.map Tally.c)]]⟩) := set_same hM997 o995
 refine Ev.nxk (mvO rfl) ?_
 refine Ev.rend ?_
 intro e999 he1000
 have h1001 := envp (t := 2) he1000 rfl h19
 have h1002 := envp (t := 3) he1000 rfl h20
 have h1003 : eget e999 6 = .loc ([] : Mem).length 1 0 0 := envp he1000 rfl rfl
 have h1004 : eget e999 7 = .int .i64 0 := envp he1000 rfl rfl
 clear h19 h20 h21
 refine Ev.kseqN ?_
 refine Ev.seq ?_
 refine Ev.reg (fun _ => rfl) ?_
 refine Ev.nxk (ldPA h1001 rfl rfl) ?_
 obtain ⟨⟨r1006, r1007, r1008⟩, hx1005, h⟩ := bind_some h
 refine Ev.nxcp (Ev.callT (v := .agg [.int .i64 r1006, .sl (some 2) (r1007.map (cI .i64)), .sl (some 156) (r1008.map Tally.c)]) rfl (cns rfl rfl) rfl (laws_toBook_ok a1 _ hx1005) (th_gen (v' := .agg [.int .i64 r1006, .lsl M996.length r1007.length 0 r1007.length, .lsl (M996.length + 1) r1008.length 0 r1008.length]) (l := [⟨.grow, 2, 1, r1007.map (cI .i64)⟩, ⟨.grow, 156, 5, r1008.map Tally.c⟩]) (own_agg (oa1 rfl (oa1 (own1_row' (c := (cI .i64)) (fun _ => rfl)) (oa1 (own1_row' (c := Tally.c) Tally.flF) oa0)))) (by simp [thaw, thaw2, thaw1, thawL, co2, co156]) rfl rfl)) ?_
 intro M1011 hM1012
 have o1013 := push_old hM1012 o998
 have ne1014 : ([] : Mem).length ≠ M996.length := by have := lt_of_get (M := M996) o998; omega
 have o1015 : M1011[M996.length]? = some (.live ⟨.grow, 2, 1, r1007.map (cI .i64)⟩) := push_at hM1012 0 rfl
 have ne1016 : ([] : Mem).length ≠ (M996.length + 1) := by have := lt_of_get (M := M996) o998; omega
 have ne1017 : M996.length ≠ (M996.length + 1) := by omega
 have o1018 : M1011[(M996.length + 1)]? = some (.live ⟨.grow, 156, 5, r1008.map Tally.c⟩) := push_at hM1012 1 rfl
 refine Ev.nxpush (alO zero56) ?_
 intro M1020 hM1021
 have o1022 := push_old hM1021 o1013
 have ne1023 := ne_new o1013
 have o1024 := push_old hM1021 o1015
 have ne1025 := ne_new o1015
 have o1026 := push_old hM1021 o1018
 have ne1027 := ne_new o1018
 have o1028 : M1020[M1011.length]? = some (.live ⟨.box, 56, 3, [[.int .i64 0, .nils, .nils]]⟩) := push_new hM1021
 refine Ev.nxput (stO rfl rfl o1028 rfl rfl ⟨rfl, ble rfl⟩ (all1 rfl (all1 (okL o1024 (by simp)) (all1 (okL o1026 (by simp)) all0))) rfl) ?_
 intro M1029 hM1030
 have o1031 := set_ne hM1030 ne1023 o1022
 have o1032 := set_ne hM1030 ne1025 o1024
 have o1033 := set_ne hM1030 ne1027 o1026
 have o1034 : M1029[M1011.length]? = some (.live ⟨.box, 56, 3, [[.int .i64 r1006, .lsl M996.length r1007.length 0 r1007.length, .lsl (M996.length + 1) r1008.length 0 r1008.length]]⟩) := set_same hM1030 o1028
 refine Ev.rend ?_
 intro e1035 he1036
 have h1037 := envp (t := 2) he1036 rfl h1001
 have h1038 := envp (t := 3) he1036 rfl h1002
 have h1039 := envp (t := 6) he1036 rfl h1003
 have h1040 : eget e1035 7 = .int .i64 0 := envp he1036 rfl h1004
 have h1041 : eget e1035 8 = .loc M1011.length 1 0 0 := envp he1036 rfl rfl
 clear h1001 h1002 h1003 h1004
 refine Ev.kseqN ?_
 refine Ev.seq ?_
 refine Ev.regD (fun _ => rfl) ?_
 refine Ev.nfk (ldOA h1041 o1034 rfl rfl (ble rfl) rfl) ?_
 refine Ev.nfk (ldPA h1038 rfl rfl) ?_
 obtain ⟨⟨r1043, r1044, r1045, r1046, r1047, r1048⟩, hx1042, h⟩ := bind_some h
 refine Ev.nfc (Ev.call (v := .agg [.int .i64 r1043, .int .i8 r1044, .int .i64 r1045, .int .i64 r1046, .int .i64 r1047, .int .i64 r1048]) rfl (cns rfl rfl) rfl (laws_toDeal_ok a2 _ hx1042) (fun h => nomatch (show false = true from h))) ?_
 obtain ⟨q1941, hx1049, h⟩ := bind_some h
 rcases q1941 with r1050 | ⟨r1471, r1472, r1473⟩
 ·refine Ev.nfcpE (Ev.callT (v := .tup [.agg [.int .i64 0, .nils, .nils], .int .i64 r1050]) rfl (cns rfl (cns rfl rfl)) (ra1 (ra_agg (mp1 rfl (mp1 (ra1_row o1032 rfl (cI_fl _)) (mp1 (ra1_row o1033 rfl Tally.fl) mp0)))) (ra1 rfl ra0)) (impl_DoDeal_ok (Book.mk r1006 r1007 r1008) (Deal.mk r1043 r1044 r1045 r1046 r1047 r1048) _ hx1049) (th_gen (v' := .tup [.agg [.int .i64 0, .nils, .nils], .int .i64 r1050]) (l := []) (own_tup (oa1 (own2_agg (oa1 rfl (oa1 rfl (oa1 rfl oa0)))) (oa1 rfl oa0))) (by simp [thaw, thaw2, thaw1, thawL, thaw]) rfl rfl)) ?_
  refine Ev.nfk (mvO rfl) ?_
  refine Ev.nfk (exT rfl rfl) ?_
  refine Ev.nfk (exT rfl rfl) ?_
  refine Ev.nfpushE (alO zero56) ?_
  refine Ev.fend1 ?_
  intro M1052 hM1053
  have hM1053 := fendM hM1053 [⟨.box, 56, 3, [[.int .i64 0, .nils, .nils]]⟩] rfl
  have o1054 := push_old hM1053 o1031
  have o1055 := push_old hM1053 o1032
  have o1056 := push_old hM1053 o1033
  have o1057 := push_old hM1053 o1034
  have ne1058 : ([] : Mem).length ≠ M1029.length := by have := lt_of_get (M := M1029) o1031; omega
  have ne1059 : M996.length ≠ M1029.length := by have := lt_of_get (M := M1029) o1032; omega
  have ne1060 : (M996.length + 1) ≠ M1029.length := by have := lt_of_get (M := M1029) o1033; omega
  have ne1061 : M1011.length ≠ M1029.length := by have := lt_of_get (M := M1029) o1034; omega
  have o1062 : M1052[M1029.length]? = some (.live ⟨.box, 56, 3, [[.int .i64 0, .nils, .nils]]⟩) := push_at hM1053 0 rfl
  refine Ev.nxput (stO rfl rfl o1062 rfl rfl ⟨rfl, ble rfl⟩ rfl rfl) ?_
  intro M1063 hM1064
  have o1065 := set_ne hM1064 ne1058 o1054
  have o1066 := set_ne hM1064 ne1059 o1055
  have o1067 := set_ne hM1064 ne1060 o1056
  have o1068 := set_ne hM1064 ne1061 o1057
  have o1069 : M1063[M1029.length]? = some (.live ⟨.box, 56, 3, [[.int .i64 0, .nils, .nils]]⟩) := set_same hM1064 o1062
  refine Ev.nxk (mvO rfl) ?_
  refine Ev.rend ?_
  intro e1070 he1071
  have h1072 := envp (t := 2) he1071 rfl h1037
  have h1073 := envp (t := 3) he1071 rfl h1038
  have h1074 := envp (t := 6) he1071 rfl h1039
  have h1075 : eget e1070 7 = .int .i64 0 := envp he1071 rfl h1040
  have h1076 := envp (t := 8) he1071 rfl h1041
  have h1077 : eget e1070 9 = .loc M1029.length 1 0 0 := envp he1071 rfl rfl
  have h1078 : eget e1070 10 = .int .i64 r1050 := envp he1071 rfl rfl
  clear h1037 h1038 h1039 h1040 h1041
  refine Ev.kseqN ?_
  refine Ev.seq ?_
  refine Ev.seq ?_
  obtain ⟨r1469, hr1470, h⟩ := bind_some h
  refine Ev.cut (Q1 := laws_FnExactDoDeal_c9_Q a1 a2 r989 r990 r991 r1006 r1007 r1008 r1050 (([] : Mem).length) M996.length (M996.length + 1) M1011.length M1029.length r1469) (by
      have h := hr1470
      refine Ev.reg (fun _ => rfl) ?_
      refine Ev.nxk (ldOA h1077 o1069 rfl rfl (ble rfl) rfl) ?_
      refine Ev.nxk (ldOA h1074 o1065 rfl rfl (ble rfl) rfl) ?_
      obtain ⟨r1080, hx1079, h⟩ := bind_some h
      refine Ev.nxck (Ev.call (v := .bool r1080) rfl (cns rfl (cns rfl rfl)) rfl (laws_eqBook_ok (Book.mk 0 ([] : List Int) ([] : List Tally)) (Book.mk r989 r990 r991) _ hx1079) (fun h => nomatch (show false = true from h))) ?_
      refine Ev.nxk (uNot rfl) ?_
      refine Ev.nxk (mvO rfl) ?_
      rcases ite_some h with ⟨hb1081, h⟩ | ⟨hb1081, h⟩
      ·refine Ev.nxk (guF rfl (congrArg Bool.not hb1081) (mvO h1078)) ?_
       refine Ev.nxk (guF rfl (congrArg Bool.not hb1081) (mvO h1075)) ?_
       refine Ev.nxk (guF rfl (congrArg Bool.not hb1081) (bNeq rfl rfl)) ?_
       refine Ev.nxk (pkF rfl (congrArg Bool.not hb1081) rfl) ?_
       refine Ev.rend ?_
       intro e1082 he1083
       have h1084 := envp (t := 2) he1083 rfl h1072
       have h1085 := envp (t := 3) he1083 rfl h1073
       have h1086 := envp (t := 6) he1083 rfl h1074
       have h1087 : eget e1082 7 = .int .i64 0 := envp he1083 rfl h1075
       have h1088 := envp (t := 8) he1083 rfl h1076
       have h1089 := envp (t := 9) he1083 rfl h1077
       have h1090 := envp (t := 10) he1083 rfl h1078
       have h1091 : eget e1082 46 = .bool (r1050 != 0) := envp he1083 rfl rfl
       clear h1072 h1073 h1074 h1075 h1076 h1077 h1078
       cases h
       exact Ev.kid (show laws_FnExactDoDeal_c9_Q a1 a2 r989 r990 r991 r1006 r1007 r1008 r1050 (([] : Mem).length) M996.length (M996.length + 1) M1011.length M1029.length _ _ from (And.intro rfl (And.intro h1084 (And.intro h1085 (And.intro h1086 (And.intro h1087 (And.intro h1088 (And.intro h1089 (And.intro h1090 (And.intro h1091 (And.intro o1066 (And.intro o1067 (And.intro o1068 (And.intro o1069 o1065))))))))))))))
      refine Ev.nxk (gsF rfl (congrArg Bool.not hb1081)) ?_
      refine Ev.nxk (gsF rfl (congrArg Bool.not hb1081)) ?_
      refine Ev.nxk (gsF rfl (congrArg Bool.not hb1081)) ?_
      refine Ev.nxk (pkT rfl (congrArg Bool.not hb1081) rfl) ?_
      refine Ev.rend ?_
      intro e1092 he1093
      have h1094 := envp (t := 2) he1093 rfl h1072
      have h1095 := envp (t := 3) he1093 rfl h1073
      have h1096 := envp (t := 6) he1093 rfl h1074
      have h1097 : eget e1092 7 = .int .i64 0 := envp he1093 rfl h1075
      have h1098 := envp (t := 8) he1093 rfl h1076
      have h1099 := envp (t := 9) he1093 rfl h1077
      have h1100 := envp (t := 10) he1093 rfl h1078
      have h1101 : eget e1092 46 = .bool true := envp he1093 rfl rfl
      clear h1072 h1073 h1074 h1075 h1076 h1077 h1078
      cases h
      exact Ev.kid (show laws_FnExactDoDeal_c9_Q a1 a2 r989 r990 r991 r1006 r1007 r1008 r1050 (([] : Mem).length) M996.length (M996.length + 1) M1011.length M1029.length _ _ from (And.intro rfl (And.intro h1094 (And.intro h1095 (And.intro h1096 (And.intro h1097 (And.intro h1098 (And.intro h1099 (And.intro h1100 (And.intro h1101 (And.intro o1066 (And.intro o1067 (And.intro o1068 (And.intro o1069 o1065))))))))))))))) ?_
  revert h hr1470
  revert r1469
  intro y1104 hr1470 h
  intro x e1102 M1103 hq1468
  obtain ⟨rfl, h1105, h1106, h1107, h1108, h1109, h1110, h1111, h1112, o1113, o1114, o1115, o1116, o1117⟩ := hq1468
  refine Ev.kseqN ?_
  rcases ite_some h with ⟨hb1118, h⟩ | ⟨hb1118, h⟩
  ·refine Ev.condT h1112 hb1118 ?_
   refine Ev.seq ?_
   refine Ev.reg (fun _ => rfl) ?_
   refine Ev.nxk (mvO rfl) ?_
   refine Ev.rend ?_
   intro e1119 he1120
   have h1121 : eget e1119 4 = .bool false := envp he1120 rfl rfl
   clear h1105 h1106 h1107 h1108 h1109 h1110 h1111 h1112
   refine Ev.kseqN ?_
   refine Ev.ex ?_
   refine Ev.kseqR ?_
   cases h
   exact Ev.kendR (resT h1121 res0) rfl
  refine Ev.condF h1112 hb1118 ?_
  refine Ev.ex ?_
  refine Ev.kseqN ?_
  refine Ev.seq ?_
  refine Ev.seq ?_
  refine Ev.regD (fun _ => rfl) ?_
  refine Ev.nfk (ldOA h1109 o1115 rfl rfl (ble rfl) rfl) ?_
  refine Ev.nfk (ldPA h1105 rfl rfl) ?_
  obtain ⟨⟨r1123, r1124, r1125⟩, hx1122, h⟩ := bind_some h
  refine Ev.nfc (Ev.call (v := .agg [.int .i64 r1123, .sl (some 2) (r1124.map (cI .i64)), .sl (some 156) (r1125.map Tally.c)]) rfl (cns rfl rfl) rfl (laws_toBook_ok a1 _ hx1122) (fun h => nomatch (show false = true from h))) ?_
  obtain ⟨r1127, hx1126, h⟩ := bind_some h
  refine Ev.nfc (Ev.call (v := .bool r1127) rfl (cns rfl (cns rfl rfl)) (ra1 (ra_agg (mp1 rfl (mp1 (ra1_row o1113 rfl (cI_fl _)) (mp1 (ra1_row o1114 rfl Tally.fl) mp0)))) (ra1 rfl ra0)) (laws_eqBook_ok (Book.mk r1006 r1007 r1008) (Book.mk r1123 r1124 r1125) _ hx1126) (fun _ => rfl)) ?_
  refine Ev.nfk (uNot rfl) ?_
  refine Ev.fend0 ?_
  refine Ev.rend ?_
  intro e1128 he1129
  have h1130 : eget e1128 2 = .pt none [.int .i64 a1.Day, .sl none (a1.Cash.map (cI .i64)), .sl none (a1.Tallies.map Tally.c)] := envp he1129 rfl h1105
  have h1131 : eget e1128 3 = .pt none [.int .i64 a2.Day, .int .i8 a2.Kind, .int .i64 a2.Tally, .int .i64 a2.From, .int .i64 a2.To, .int .i64 a2.Amount] := envp he1129 rfl h1106
  have h1132 : eget e1128 6 = .loc ([] : Mem).length 1 0 0 := envp he1129 rfl h1107
  have h1133 : eget e1128 7 = .int .i64 0 := envp he1129 rfl h1108
  have h1134 : eget e1128 8 = .loc M1011.length 1 0 0 := envp he1129 rfl h1109
  have h1135 : eget e1128 9 = .loc M1029.length 1 0 0 := envp he1129 rfl h1110
  have h1136 : eget e1128 10 = .int .i64 r1050 := envp he1129 rfl h1111
  have h1137 : eget e1128 51 = .bool (!r1127) := envp he1129 rfl rfl
  clear h1105 h1106 h1107 h1108 h1109 h1110 h1111 h1112
  refine Ev.kseqN ?_
  rcases ite_some h with ⟨hb1138, h⟩ | ⟨hb1138, h⟩
  ·refine Ev.condF h1137 (congrArg Bool.not hb1138) ?_
   refine Ev.ex ?_
   refine Ev.kseqN ?_
   refine Ev.seq ?_
   refine Ev.reg (fun _ => rfl) ?_
   refine Ev.nxk (mvO rfl) ?_
   refine Ev.rend ?_
   intro e1139 he1140
   have h1141 := envp (t := 2) he1140 rfl h1130
   have h1142 := envp (t := 3) he1140 rfl h1131
   have h1143 := envp (t := 6) he1140 rfl h1132
   have h1144 : eget e1139 7 = .int .i64 0 := envp he1140 rfl h1133
   have h1145 := envp (t := 8) he1140 rfl h1134
   have h1146 := envp (t := 9) he1140 rfl h1135
   have h1147 := envp (t := 10) he1140 rfl h1136
   have h1148 : eget e1139 11 = .int .i64 1 := envp he1140 rfl rfl
   clear h1130 h1131 h1132 h1133 h1134 h1135 h1136 h1137
   refine Ev.kseqN ?_
   refine Ev.seq ?_
   refine Ev.reg (fun _ => rfl) ?_
   refine Ev.nxk (ldOA h1145 o1115 rfl rfl (ble rfl) rfl) ?_
   refine Ev.nxk (mvO h1148) ?_
   obtain ⟨⟨r1150, r1151, r1152⟩, hx1149, h⟩ := bind_some h
   refine Ev.nxw (Ev.callW rfl (cns rfl (cns rfl rfl)) (laws_markBook_ll_ok r1006 r1007 r1008 1 M996.length (M996.length + 1) ne1017 M1103 o1113 o1114 _ hx1149)) ?_
   intro v1155 M1153 hq1154
   obtain ⟨hv1155, o1156, o1157, fr1158, hl1159, hl1160⟩ := hq1154
   have hv1155 : v1155 = .int .i64 r1150 := hv1155
   subst hv1155
   have o1161 : M1153[M996.length]? = some (.live ⟨.grow, 2, 1, r1151.map (cI .i64)⟩) := o1156
   have o1162 : M1153[(M996.length + 1)]? = some (.live ⟨.grow, 156, 5, r1152.map Tally.c⟩) := o1157
   have hl1159 : r1151.length = r1007.length := hl1159
   have hl1160 : r1152.length = r1008.length := hl1160
   have o1163 : M1153[M1011.length]? = some (.live ⟨.box, 56, 3, [[.int .i64 r1006, .lsl M996.length r1007.length 0 r1007.length, .lsl (M996.length + 1) r1008.length 0 r1008.length]]⟩) := fr1158 _ _ (niC (Ne.symm ne1025) (niC (Ne.symm ne1027) niN)) o1115
   have o1164 : M1153[M1029.length]? = some (.live ⟨.box, 56, 3, [[.int .i64 0, .nils, .nils]]⟩) := fr1158 _ _ (niC (Ne.symm ne1059) (niC (Ne.symm ne1060) niN)) o1116
   have o1165 : M1153[([] : Mem).length]? = some (.live ⟨.box, 56, 3, [[.int .i64 r989, .sl none (r990.map (cI .i64)), .sl none (r991.map Tally.c)]]⟩) := fr1158 _ _ (niC ne1014 (niC ne1016 niN)) o1117
   refine Ev.nxk (mvO rfl) ?_
   refine Ev.rend ?_
   intro e1166 he1167
   have h1168 := envp (t := 2) he1167 rfl h1141
   have h1169 := envp (t := 3) he1167 rfl h1142
   have h1170 := envp (t := 6) he1167 rfl h1143
   have h1171 : eget e1166 7 = .int .i64 0 := envp he1167 rfl h1144
   have h1172 := envp (t := 9) he1167 rfl h1146
   have h1173 := envp (t := 10) he1167 rfl h1147
   have h1174 : eget e1166 11 = .int .i64 r1150 := envp he1167 rfl rfl
   clear h1141 h1142 h1143 h1144 h1145 h1146 h1147
   refine Ev.kseqN ?_
   refine Ev.seq ?_
   refine Ev.seq ?_
   obtain ⟨r1463, hr1464, h⟩ := bind_some h
   refine Ev.cut (Q1 := laws_FnExactDoDeal_c10_Q a1 a2 r989 r990 r991 M1029.length (([] : Mem).length) r1463) (by
       have h := hr1464
       refine Ev.reg (fun _ => rfl) ?_
       refine Ev.nxk (mvO h1174) ?_
       refine Ev.nxk (bLss rfl rfl) ?_
       refine Ev.nxk (mvO rfl) ?_
       rcases ite_some h with ⟨hb1175, h⟩ | ⟨hb1175, h⟩
       ·refine Ev.nxk (gsF rfl hb1175) ?_
        refine Ev.nxk (gsF rfl hb1175) ?_
        refine Ev.nxck (Ev.gsF rfl hb1175) ?_
        refine Ev.nxk (gsF rfl hb1175) ?_
        refine Ev.nxk (pkT rfl hb1175 rfl) ?_
        refine Ev.nxk (mvO rfl) ?_
        refine Ev.nxk (gsF rfl rfl) ?_
        refine Ev.nxk (gsF rfl rfl) ?_
        refine Ev.nxk (gsF rfl rfl) ?_
        refine Ev.nxk (pkT rfl rfl rfl) ?_
        refine Ev.rend ?_
        intro e1176 he1177
        have h1178 := envp (t := 2) he1177 rfl h1168
        have h1179 := envp (t := 3) he1177 rfl h1169
        have h1180 := envp (t := 6) he1177 rfl h1170
        have h1181 : eget e1176 7 = .int .i64 0 := envp he1177 rfl h1171
        have h1182 := envp (t := 9) he1177 rfl h1172
        have h1183 : eget e1176 67 = .bool true := envp he1177 rfl rfl
        clear h1168 h1169 h1170 h1171 h1172 h1173 h1174
        cases h
        exact Ev.kid (show laws_FnExactDoDeal_c10_Q a1 a2 r989 r990 r991 M1029.length (([] : Mem).length) _ _ from (And.intro rfl (And.intro h1178 (And.intro h1179 (And.intro h1180 (And.intro h1181 (And.intro h1182 (And.intro h1183 (And.intro o1164 o1165)))))))))
       refine Ev.nxk (guF rfl hb1175 (ldOA h1172 o1164 rfl rfl (ble rfl) rfl)) ?_
       refine Ev.nxk (guF rfl hb1175 (ldOA h1170 o1165 rfl rfl (ble rfl) rfl)) ?_
       obtain ⟨r1185, hx1184, h⟩ := bind_some h
       refine Ev.nxck (Ev.guF rfl hb1175 (Ev.call (v := .bool r1185) rfl (cns rfl (cns rfl rfl)) rfl (laws_eqBook_ok (Book.mk 0 ([] : List Int) ([] : List Tally)) (Book.mk r989 r990 r991) _ hx1184) (fun h => nomatch (show false = true from h)))) ?_
       refine Ev.nxk (guF rfl hb1175 (uNot rfl)) ?_
       refine Ev.nxk (pkF rfl hb1175 rfl) ?_
       refine Ev.nxk (mvO rfl) ?_
       rcases ite_some h with ⟨hb1186, h⟩ | ⟨hb1186, h⟩
       ·refine Ev.nxk (guF rfl (congrArg Bool.not hb1186) (mvO h1173)) ?_
        refine Ev.nxk (guF rfl (congrArg Bool.not hb1186) (mvO h1171)) ?_
        refine Ev.nxk (guF rfl (congrArg Bool.not hb1186) (bNeq rfl rfl)) ?_
        refine Ev.nxk (pkF rfl (congrArg Bool.not hb1186) rfl) ?_
        refine Ev.rend ?_
        intro e1187 he1188
        have h1189 := envp (t := 2) he1188 rfl h1168
        have h1190 := envp (t := 3) he1188 rfl h1169
        have h1191 := envp (t := 6) he1188 rfl h1170
        have h1192 : eget e1187 7 = .int .i64 0 := envp he1188 rfl h1171
        have h1193 := envp (t := 9) he1188 rfl h1172
        have h1194 : eget e1187 67 = .bool (r1050 != 0) := envp he1188 rfl rfl
        clear h1168 h1169 h1170 h1171 h1172 h1173 h1174
        cases h
        exact Ev.kid (show laws_FnExactDoDeal_c10_Q a1 a2 r989 r990 r991 M1029.length (([] : Mem).length) _ _ from (And.intro rfl (And.intro h1189 (And.intro h1190 (And.intro h1191 (And.intro h1192 (And.intro h1193 (And.intro h1194 (And.intro o1164 o1165)))))))))
       refine Ev.nxk (gsF rfl (congrArg Bool.not hb1186)) ?_
       refine Ev.nxk (gsF rfl (congrArg Bool.not hb1186)) ?_
       refine Ev.nxk (gsF rfl (congrArg Bool.not hb1186)) ?_
       refine Ev.nxk (pkT rfl (congrArg Bool.not hb1186) rfl) ?_
       refine Ev.rend ?_
       intro e1195 he1196
       have h1197 := envp (t := 2) he1196 rfl h1168
       have h1198 := envp (t := 3) he1196 rfl h1169
       have h1199 := envp (t := 6) he1196 rfl h1170
       have h1200 : eget e1195 7 = .int .i64 0 := envp he1196 rfl h1171
       have h1201 := envp (t := 9) he1196 rfl h1172
       have h1202 : eget e1195 67 = .bool true := envp he1196 rfl rfl
       clear h1168 h1169 h1170 h1171 h1172 h1173 h1174
       cases h
       exact Ev.kid (show laws_FnExactDoDeal_c10_Q a1 a2 r989 r990 r991 M1029.length (([] : Mem).length) _ _ from (And.intro rfl (And.intro h1197 (And.intro h1198 (And.intro h1199 (And.intro h1200 (And.intro h1201 (And.intro h1202 (And.intro o1164 o1165)))))))))) ?_
   revert h hr1464
   revert r1463
   intro y1205 hr1464 h
   intro x e1203 M1204 hq1462
   obtain ⟨rfl, h1206, h1207, h1208, h1209, h1210, h1211, o1212, o1213⟩ := hq1462
   refine Ev.kseqN ?_
   rcases ite_some h with ⟨hb1214, h⟩ | ⟨hb1214, h⟩
   ·refine Ev.condT h1211 hb1214 ?_
    refine Ev.seq ?_
    refine Ev.reg (fun _ => rfl) ?_
    refine Ev.nxk (mvO rfl) ?_
    refine Ev.rend ?_
    intro e1215 he1216
    have h1217 : eget e1215 4 = .bool false := envp he1216 rfl rfl
    clear h1206 h1207 h1208 h1209 h1210 h1211
    refine Ev.kseqN ?_
    refine Ev.ex ?_
    refine Ev.kseqR ?_
    cases h
    exact Ev.kendR (resT h1217 res0) rfl
   refine Ev.condF h1211 hb1214 ?_
   refine Ev.ex ?_
   refine Ev.kseqN ?_
   refine Ev.seq ?_
   refine Ev.reg (fun _ => rfl) ?_
   refine Ev.nxk (mvO rfl) ?_
   refine Ev.rend ?_
   intro e1218 he1219
   have h1220 : eget e1218 2 = .pt none [.int .i64 a1.Day, .sl none (a1.Cash.map (cI .i64)), .sl none (a1.Tallies.map Tally.c)] := envp he1219 rfl h1206
   have h1221 : eget e1218 3 = .pt none [.int .i64 a2.Day, .int .i8 a2.Kind, .int .i64 a2.Tally, .int .i64 a2.From, .int .i64 a2.To, .int .i64 a2.Amount] := envp he1219 rfl h1207
   have h1222 : eget e1218 6 = .loc ([] : Mem).length 1 0 0 := envp he1219 rfl h1208
   have h1223 : eget e1218 7 = .int .i64 0 := envp he1219 rfl h1209
   have h1224 : eget e1218 9 = .loc M1029.length 1 0 0 := envp he1219 rfl h1210
   have h1225 : eget e1218 12 = .int .i64 1 := envp he1219 rfl rfl
   clear h1206 h1207 h1208 h1209 h1210 h1211
   refine Ev.kseqN ?_
   refine Ev.seq ?_
   refine Ev.reg (fun _ => rfl) ?_
   refine Ev.nxk (ldOA h1224 o1212 rfl rfl (ble rfl) rfl) ?_
   refine Ev.nxk (mvO h1225) ?_
   obtain ⟨r1227, hx1226, h⟩ := bind_some h
   refine Ev.nxw (Ev.callW rfl (cns rfl (cns rfl rfl)) (laws_markBook_nn_ok 0 1 M1204 _ hx1226)) ?_
   intro v1230 M1228 hq1229
   obtain ⟨hv1230, fr1231⟩ := hq1229
   have hv1230 : v1230 = .int .i64 r1227 := hv1230
   subst hv1230
   have o1232 : M1228[M1029.length]? = some (.live ⟨.box, 56, 3, [[.int .i64 0, .nils, .nils]]⟩) := fr1231 _ _ niN o1212
   have o1233 : M1228[([] : Mem).length]? = some (.live ⟨.box, 56, 3, [[.int .i64 r989, .sl none (r990.map (cI .i64)), .sl none (r991.map Tally.c)]]⟩) := fr1231 _ _ niN o1213
   refine Ev.nxk (mvO rfl) ?_
   refine Ev.rend ?_
   intro e1234 he1235
   have h1236 := envp (t := 2) he1235 rfl h1220
   have h1237 := envp (t := 3) he1235 rfl h1221
   have h1238 := envp (t := 6) he1235 rfl h1222
   have h1239 : eget e1234 7 = .int .i64 0 := envp he1235 rfl h1223
   have h1240 := envp (t := 9) he1235 rfl h1224
   have h1241 : eget e1234 12 = .int .i64 r1227 := envp he1235 rfl rfl
   clear h1220 h1221 h1222 h1223 h1224
   refine Ev.kseqN ?_
   refine Ev.seq ?_
   refine Ev.reg (fun _ => rfl) ?_
   refine Ev.nxk (mvO rfl) ?_
   refine Ev.rend ?_
   intro e1242 he1243
   have h1244 := envp (t := 2) he1243 rfl h1236
   have h1245 := envp (t := 3) he1243 rfl h1237
   have h1246 := envp (t := 6) he1243 rfl h1238
   have h1247 : eget e1242 7 = .int .i64 0 := envp he1243 rfl h1239
   have h1248 := envp (t := 9) he1243 rfl h1240
   have h1249 := envp (t := 12) he1243 rfl h1241
   have h1250 : eget e1242 13 = .int .i64 1 := envp he1243 rfl rfl
   clear h1236 h1237 h1238 h1239 h1240 h1241
   refine Ev.kseqN ?_
   refine Ev.seq ?_
   refine Ev.reg (fun _ => rfl) ?_
   refine Ev.nxk (ldOA h1248 o1232 rfl rfl (ble rfl) rfl) ?_
   refine Ev.nxk (mvO h1250) ?_
   obtain ⟨r1252, hx1251, h⟩ := bind_some h
   refine Ev.nxck (Ev.call (v := .int .i64 r1252) rfl (cns rfl (cns rfl rfl)) rfl (laws_heldBook_ok (Book.mk 0 ([] : List Int) ([] : List Tally)) 1 _ hx1251) (fun h => nomatch (show false = true from h))) ?_
   refine Ev.nxk (mvO rfl) ?_
   refine Ev.rend ?_
   intro e1253 he1254
   have h1255 := envp (t := 2) he1254 rfl h1244
   have h1256 := envp (t := 3) he1254 rfl h1245
   have h1257 := envp (t := 6) he1254 rfl h1246
   have h1258 : eget e1253 7 = .int .i64 0 := envp he1254 rfl h1247
   have h1259 := envp (t := 9) he1254 rfl h1248
   have h1260 := envp (t := 12) he1254 rfl h1249
   have h1261 : eget e1253 13 = .int .i64 r1252 := envp he1254 rfl rfl
   clear h1244 h1245 h1246 h1247 h1248 h1249
   refine Ev.kseqN ?_
   refine Ev.seq ?_
   refine Ev.seq ?_
   refine Ev.reg (fun _ => rfl) ?_
   refine Ev.nxk (mvO h1261) ?_
   refine Ev.nxk (bLss rfl rfl) ?_
   refine Ev.rend ?_
   intro e1262 he1263
   have h1264 := envp (t := 2) he1263 rfl h1255
   have h1265 := envp (t := 3) he1263 rfl h1256
   have h1266 := envp (t := 6) he1263 rfl h1257
   have h1267 : eget e1262 7 = .int .i64 0 := envp he1263 rfl h1258
   have h1268 := envp (t := 9) he1263 rfl h1259
   have h1269 := envp (t := 12) he1263 rfl h1260
   have h1270 := envp (t := 13) he1263 rfl h1261
   have h1271 : eget e1262 75 = .bool (decide (r1252 < 0)) := envp he1263 rfl rfl
   clear h1255 h1256 h1257 h1258 h1259 h1260 h1261
   refine Ev.kseqN ?_
   rcases ite_some h with ⟨hb1272, h⟩ | ⟨hb1272, h⟩
   ·refine Ev.condT h1271 hb1272 ?_
    refine Ev.seq ?_
    refine Ev.reg (fun _ => rfl) ?_
    refine Ev.nxk (mvO rfl) ?_
    refine Ev.rend ?_
    intro e1273 he1274
    have h1275 : eget e1273 4 = .bool false := envp he1274 rfl rfl
    clear h1264 h1265 h1266 h1267 h1268 h1269 h1270 h1271
    refine Ev.kseqN ?_
    refine Ev.ex ?_
    refine Ev.kseqR ?_
    cases h
    exact Ev.kendR (resT h1275 res0) rfl
   refine Ev.condF h1271 hb1272 ?_
   refine Ev.ex ?_
   refine Ev.kseqN ?_
   refine Ev.seq ?_
   refine Ev.seq ?_
   refine Ev.reg (fun _ => rfl) ?_
   refine Ev.nxk (mvO h1270) ?_
   refine Ev.nxk (mvO h1269) ?_
   refine Ev.nxk (bNeq rfl rfl) ?_
   refine Ev.rend ?_
   intro e1276 he1277
   have h1278 := envp (t := 2) he1277 rfl h1264
   have h1279 := envp (t := 3) he1277 rfl h1265
   have h1280 := envp (t := 6) he1277 rfl h1266
   have h1281 : eget e1276 7 = .int .i64 0 := envp he1277 rfl h1267
   have h1282 := envp (t := 9) he1277 rfl h1268
   have h1283 := envp (t := 12) he1277 rfl h1269
   have h1284 : eget e1276 78 = .bool (r1252 != r1227) := envp he1277 rfl rfl
   clear h1264 h1265 h1266 h1267 h1268 h1269 h1270 h1271
   refine Ev.kseqN ?_
   rcases ite_some h with ⟨hb1285, h⟩ | ⟨hb1285, h⟩
   ·refine Ev.condT h1284 hb1285 ?_
    refine Ev.seq ?_
    refine Ev.reg (fun _ => rfl) ?_
    refine Ev.nxk (mvO rfl) ?_
    refine Ev.rend ?_
    intro e1286 he1287
    have h1288 : eget e1286 4 = .bool false := envp he1287 rfl rfl
    clear h1278 h1279 h1280 h1281 h1282 h1283 h1284
    refine Ev.kseqN ?_
    refine Ev.ex ?_
    refine Ev.kseqR ?_
    cases h
    exact Ev.kendR (resT h1288 res0) rfl
   refine Ev.condF h1284 hb1285 ?_
   refine Ev.ex ?_
   refine Ev.kseqN ?_
   refine Ev.seq ?_
   refine Ev.regD (fun _ => rfl) ?_
   refine Ev.nfk (ldPA h1278 rfl rfl) ?_
   obtain ⟨⟨r1290, r1291, r1292⟩, hx1289, h⟩ := bind_some h
   refine Ev.nfc (Ev.call (v := .agg [.int .i64 r1290, .sl (some 2) (r1291.map (cI .i64)), .sl (some 156) (r1292.map Tally.c)]) rfl (cns rfl rfl) rfl (laws_toBook_ok a1 _ hx1289) (fun h => nomatch (show false = true from h))) ?_
   refine Ev.nfk (ldPA h1279 rfl rfl) ?_
   obtain ⟨⟨r1294, r1295, r1296, r1297, r1298, r1299⟩, hx1293, h⟩ := bind_some h
   refine Ev.nfc (Ev.call (v := .agg [.int .i64 r1294, .int .i8 r1295, .int .i64 r1296, .int .i64 r1297, .int .i64 r1298, .int .i64 r1299]) rfl (cns rfl rfl) rfl (laws_toDeal_ok a2 _ hx1293) (fun h => nomatch (show false = true from h))) ?_
   obtain ⟨q1461, hx1300, h⟩ := bind_some h
   rcases q1461 with r1301 | ⟨r1380, r1381, r1382⟩
   ·refine Ev.nfc (Ev.call (v := .tup [.agg [.int .i64 0, .nils, .nils], .int .i64 r1301]) rfl (cns rfl (cns rfl rfl)) rfl (impl_DoDeal_ok (Book.mk r1290 r1291 r1292) (Deal.mk r1294 r1295 r1296 r1297 r1298 r1299) _ hx1300) (fun h => nomatch (show false = true from h))) ?_
    refine Ev.nfk (mvO rfl) ?_
    refine Ev.nfk (exT rfl rfl) ?_
    refine Ev.nfk (exT rfl rfl) ?_
    refine Ev.nfpushE (alO zero56) ?_
    refine Ev.fend1 ?_
    intro M1303 hM1304
    have hM1304 := fendM hM1304 [⟨.box, 56, 3, [[.int .i64 0, .nils, .nils]]⟩] rfl
    have o1305 := push_old hM1304 o1232
    have o1306 := push_old hM1304 o1233
    have ne1307 : M1029.length ≠ M1228.length := by have := lt_of_get (M := M1228) o1232; omega
    have ne1308 : ([] : Mem).length ≠ M1228.length := by have := lt_of_get (M := M1228) o1233; omega
    have o1309 : M1303[M1228.length]? = some (.live ⟨.box, 56, 3, [[.int .i64 0, .nils, .nils]]⟩) := push_at hM1304 0 rfl
    refine Ev.nxput (stO rfl rfl o1309 rfl rfl ⟨rfl, ble rfl⟩ rfl rfl) ?_
    intro M1310 hM1311
    have o1312 := set_ne hM1311 ne1307 o1305
    have o1313 := set_ne hM1311 ne1308 o1306
    have o1314 : M1310[M1228.length]? = some (.live ⟨.box, 56, 3, [[.int .i64 0, .nils, .nils]]⟩) := set_same hM1311 o1309
    refine Ev.nxk (mvO rfl) ?_
    refine Ev.rend ?_
    intro e1315 he1316
    have h1317 := envp (t := 6) he1316 rfl h1280
    have h1318 : eget e1315 7 = .int .i64 0 := envp he1316 rfl h1281
    have h1319 := envp (t := 9) he1316 rfl h1282
    have h1320 := envp (t := 12) he1316 rfl h1283
    have h1321 : eget e1315 14 = .loc M1228.length 1 0 0 := envp he1316 rfl rfl
    have h1322 : eget e1315 15 = .int .i64 r1301 := envp he1316 rfl rfl
    clear h1278 h1279 h1280 h1281 h1282 h1283 h1284
    refine Ev.kseqN ?_
    refine Ev.seq ?_
    refine Ev.seq ?_
    obtain ⟨r1378, hr1379, h⟩ := bind_some h
    refine Ev.cut (Q1 := laws_FnExactDoDeal_c11_Q r1227 M1029.length (([] : Mem).length) M1228.length r1378) (by
        have h := hr1379
        refine Ev.reg (fun _ => rfl) ?_
        refine Ev.nxk (ldOA h1321 o1314 rfl rfl (ble rfl) rfl) ?_
        refine Ev.nxk (ldOA h1317 o1313 rfl rfl (ble rfl) rfl) ?_
        obtain ⟨r1324, hx1323, h⟩ := bind_some h
        refine Ev.nxck (Ev.call (v := .bool r1324) rfl (cns rfl (cns rfl rfl)) rfl (laws_eqBook_ok (Book.mk 0 ([] : List Int) ([] : List Tally)) (Book.mk r989 r990 r991) _ hx1323) (fun h => nomatch (show false = true from h))) ?_
        refine Ev.nxk (uNot rfl) ?_
        refine Ev.nxk (mvO rfl) ?_
        rcases ite_some h with ⟨hb1325, h⟩ | ⟨hb1325, h⟩
        ·refine Ev.nxk (guF rfl (congrArg Bool.not hb1325) (mvO h1322)) ?_
         refine Ev.nxk (guF rfl (congrArg Bool.not hb1325) (mvO h1318)) ?_
         refine Ev.nxk (guF rfl (congrArg Bool.not hb1325) (bNeq rfl rfl)) ?_
         refine Ev.nxk (pkF rfl (congrArg Bool.not hb1325) rfl) ?_
         refine Ev.rend ?_
         intro e1326 he1327
         have h1328 := envp (t := 9) he1327 rfl h1319
         have h1329 := envp (t := 12) he1327 rfl h1320
         have h1330 : eget e1326 95 = .bool (r1301 != 0) := envp he1327 rfl rfl
         clear h1317 h1318 h1319 h1320 h1321 h1322
         cases h
         exact Ev.kid (show laws_FnExactDoDeal_c11_Q r1227 M1029.length (([] : Mem).length) M1228.length _ _ from (And.intro rfl (And.intro h1328 (And.intro h1329 (And.intro h1330 o1312)))))
        refine Ev.nxk (gsF rfl (congrArg Bool.not hb1325)) ?_
        refine Ev.nxk (gsF rfl (congrArg Bool.not hb1325)) ?_
        refine Ev.nxk (gsF rfl (congrArg Bool.not hb1325)) ?_
        refine Ev.nxk (pkT rfl (congrArg Bool.not hb1325) rfl) ?_
        refine Ev.rend ?_
        intro e1331 he1332
        have h1333 := envp (t := 9) he1332 rfl h1319
        have h1334 := envp (t := 12) he1332 rfl h1320
        have h1335 : eget e1331 95 = .bool true := envp he1332 rfl rfl
        clear h1317 h1318 h1319 h1320 h1321 h1322
        cases h
        exact Ev.kid (show laws_FnExactDoDeal_c11_Q r1227 M1029.length (([] : Mem).length) M1228.length _ _ from (And.intro rfl (And.intro h1333 (And.intro h1334 (And.intro h1335 o1312)))))) ?_
    revert h hr1379
    revert r1378
    intro y1338 hr1379 h
    intro x e1336 M1337 hq1377
    obtain ⟨rfl, h1339, h1340, h1341, o1342⟩ := hq1377
    refine Ev.kseqN ?_
    rcases ite_some h with ⟨hb1343, h⟩ | ⟨hb1343, h⟩
    ·refine Ev.condT h1341 hb1343 ?_
     refine Ev.seq ?_
     refine Ev.reg (fun _ => rfl) ?_
     refine Ev.nxk (mvO rfl) ?_
     refine Ev.rend ?_
     intro e1344 he1345
     have h1346 : eget e1344 4 = .bool false := envp he1345 rfl rfl
     clear h1339 h1340 h1341
     refine Ev.kseqN ?_
     refine Ev.ex ?_
     refine Ev.kseqR ?_
     cases h
     exact Ev.kendR (resT h1346 res0) rfl
    refine Ev.condF h1341 hb1343 ?_
    refine Ev.ex ?_
    refine Ev.kseqN ?_
    refine Ev.seq ?_
    refine Ev.reg (fun _ => rfl) ?_
    refine Ev.nxk (mvO rfl) ?_
    refine Ev.rend ?_
    intro e1347 he1348
    have h1349 : eget e1347 9 = .loc M1029.length 1 0 0 := envp he1348 rfl h1339
    have h1350 : eget e1347 12 = .int .i64 r1227 := envp he1348 rfl h1340
    have h1351 : eget e1347 13 = .int .i64 1 := envp he1348 rfl rfl
    clear h1339 h1340 h1341
    refine Ev.kseqN ?_
    refine Ev.seq ?_
    refine Ev.reg (fun _ => rfl) ?_
    refine Ev.nxk (ldOA h1349 o1342 rfl rfl (ble rfl) rfl) ?_
    refine Ev.nxk (mvO h1351) ?_
    obtain ⟨r1353, hx1352, h⟩ := bind_some h
    refine Ev.nxck (Ev.call (v := .int .i64 r1353) rfl (cns rfl (cns rfl rfl)) rfl (laws_heldBook_ok (Book.mk 0 ([] : List Int) ([] : List Tally)) 1 _ hx1352) (fun h => nomatch (show false = true from h))) ?_
    refine Ev.nxk (mvO rfl) ?_
    refine Ev.rend ?_
    intro e1354 he1355
    have h1356 := envp (t := 12) he1355 rfl h1350
    have h1357 : eget e1354 13 = .int .i64 r1353 := envp he1355 rfl rfl
    clear h1349 h1350
    refine Ev.kseqN ?_
    refine Ev.seq ?_
    refine Ev.seq ?_
    refine Ev.reg (fun _ => rfl) ?_
    refine Ev.nxk (mvO h1357) ?_
    refine Ev.nxk (bLss rfl rfl) ?_
    refine Ev.rend ?_
    intro e1358 he1359
    have h1360 := envp (t := 12) he1359 rfl h1356
    have h1361 := envp (t := 13) he1359 rfl h1357
    have h1362 : eget e1358 100 = .bool (decide (r1353 < 0)) := envp he1359 rfl rfl
    clear h1356 h1357
    refine Ev.kseqN ?_
    rcases ite_some h with ⟨hb1363, h⟩ | ⟨hb1363, h⟩
    ·refine Ev.condT h1362 hb1363 ?_
     refine Ev.seq ?_
     refine Ev.reg (fun _ => rfl) ?_
     refine Ev.nxk (mvO rfl) ?_
     refine Ev.rend ?_
     intro e1364 he1365
     have h1366 : eget e1364 4 = .bool false := envp he1365 rfl rfl
     clear h1360 h1361 h1362
     refine Ev.kseqN ?_
     refine Ev.ex ?_
     refine Ev.kseqR ?_
     cases h
     exact Ev.kendR (resT h1366 res0) rfl
    refine Ev.condF h1362 hb1363 ?_
    refine Ev.ex ?_
    refine Ev.kseqN ?_
    refine Ev.seq ?_
    refine Ev.seq ?_
    refine Ev.reg (fun _ => rfl) ?_
    refine Ev.nxk (mvO h1361) ?_
    refine Ev.nxk (mvO h1360) ?_
    refine Ev.nxk (bNeq rfl rfl) ?_
    refine Ev.rend ?_
    intro e1367 he1368
    have h1369 : eget e1367 103 = .bool (r1353 != r1227) := envp he1368 rfl rfl
    clear h1360 h1361 h1362
    refine Ev.kseqN ?_
    rcases ite_some h with ⟨hb1370, h⟩ | ⟨hb1370, h⟩
    ·refine Ev.condT h1369 hb1370 ?_
     refine Ev.seq ?_
     refine Ev.reg (fun _ => rfl) ?_
     refine Ev.nxk (mvO rfl) ?_
     refine Ev.rend ?_
     intro e1371 he1372
     have h1373 : eget e1371 4 = .bool false := envp he1372 rfl rfl
     clear h1369
     refine Ev.kseqN ?_
     refine Ev.ex ?_
     refine Ev.kseqR ?_
     cases h
     exact Ev.kendR (resT h1373 res0) rfl
    refine Ev.condF h1369 hb1370 ?_
    refine Ev.ex ?_
    refine Ev.kseqN ?_
    refine Ev.seq ?_
    refine Ev.reg (fun _ => rfl) ?_
    refine Ev.nxk (mvO rfl) ?_
    refine Ev.rend ?_
    intro e1374 he1375
    have h1376 : eget e1374 4 = .bool true := envp he1375 rfl rfl
    clear h1369
    refine Ev.kseqN ?_
    refine Ev.ex ?_
    cases h
    exact Ev.kendR (resT h1376 res0) rfl
   refine Ev.nfc (Ev.call (v := .tup [.agg [.int .i64 r1380, .sl (some 2) (r1381.map (cI .i64)), .sl (some 156) (r1382.map Tally.c)], .int .i64 0]) rfl (cns rfl (cns rfl rfl)) rfl (impl_DoDeal_ok (Book.mk r1290 r1291 r1292) (Deal.mk r1294 r1295 r1296 r1297 r1298 r1299) _ hx1300) (fun h => nomatch (show false = true from h))) ?_
   refine Ev.nfk (mvO rfl) ?_
   refine Ev.nfk (exT rfl rfl) ?_
   refine Ev.nfk (exT rfl rfl) ?_
   refine Ev.nfpushE (alO zero56) ?_
   refine Ev.fend1 ?_
   intro M1384 hM1385
   have hM1385 := fendM hM1385 [⟨.box, 56, 3, [[.int .i64 0, .nils, .nils]]⟩] rfl
   have o1386 := push_old hM1385 o1232
   have o1387 := push_old hM1385 o1233
   have ne1388 : M1029.length ≠ M1228.length := by have := lt_of_get (M := M1228) o1232; omega
   have ne1389 : ([] : Mem).length ≠ M1228.length := by have := lt_of_get (M := M1228) o1233; omega
   have o1390 : M1384[M1228.length]? = some (.live ⟨.box, 56, 3, [[.int .i64 0, .nils, .nils]]⟩) := push_at hM1385 0 rfl
   refine Ev.nxput (stO rfl rfl o1390 rfl rfl ⟨rfl, ble rfl⟩ rfl rfl) ?_
   intro M1391 hM1392
   have o1393 := set_ne hM1392 ne1388 o1386
   have o1394 := set_ne hM1392 ne1389 o1387
   have o1395 : M1391[M1228.length]? = some (.live ⟨.box, 56, 3, [[.int .i64 r1380, .sl none (r1381.map (cI .i64)), .sl none (r1382.map Tally.c)]]⟩) := set_same hM1392 o1390
   refine Ev.nxk (mvO rfl) ?_
   refine Ev.rend ?_
   intro e1396 he1397
   have h1398 := envp (t := 6) he1397 rfl h1280
   have h1399 : eget e1396 7 = .int .i64 0 := envp he1397 rfl h1281
   have h1400 := envp (t := 9) he1397 rfl h1282
   have h1401 := envp (t := 12) he1397 rfl h1283
   have h1402 : eget e1396 14 = .loc M1228.length 1 0 0 := envp he1397 rfl rfl
   have h1403 : eget e1396 15 = .int .i64 0 := envp he1397 rfl rfl
   clear h1278 h1279 h1280 h1281 h1282 h1283 h1284
   refine Ev.kseqN ?_
   refine Ev.seq ?_
   refine Ev.seq ?_
   obtain ⟨r1459, hr1460, h⟩ := bind_some h
   refine Ev.cut (Q1 := laws_FnExactDoDeal_c12_Q r1227 M1029.length (([] : Mem).length) M1228.length r1459) (by
       have h := hr1460
       refine Ev.reg (fun _ => rfl) ?_
       refine Ev.nxk (ldOA h1402 o1395 rfl rfl (ble rfl) rfl) ?_
       refine Ev.nxk (ldOA h1398 o1394 rfl rfl (ble rfl) rfl) ?_
       obtain ⟨r1405, hx1404, h⟩ := bind_some h
       refine Ev.nxck (Ev.call (v := .bool r1405) rfl (cns rfl (cns rfl rfl)) rfl (laws_eqBook_ok (Book.mk r1380 r1381 r1382) (Book.mk r989 r990 r991) _ hx1404) (fun h => nomatch (show false = true from h))) ?_
       refine Ev.nxk (uNot rfl) ?_
       refine Ev.nxk (mvO rfl) ?_
       rcases ite_some h with ⟨hb1406, h⟩ | ⟨hb1406, h⟩
       ·refine Ev.nxk (guF rfl (congrArg Bool.not hb1406) (mvO h1403)) ?_
        refine Ev.nxk (guF rfl (congrArg Bool.not hb1406) (mvO h1399)) ?_
        refine Ev.nxk (guF rfl (congrArg Bool.not hb1406) (bNeq rfl rfl)) ?_
        refine Ev.nxk (pkF rfl (congrArg Bool.not hb1406) rfl) ?_
        refine Ev.rend ?_
        intro e1407 he1408
        have h1409 := envp (t := 9) he1408 rfl h1400
        have h1410 := envp (t := 12) he1408 rfl h1401
        have h1411 : eget e1407 95 = .bool false := envp he1408 rfl rfl
        clear h1398 h1399 h1400 h1401 h1402 h1403
        cases h
        exact Ev.kid (show laws_FnExactDoDeal_c12_Q r1227 M1029.length (([] : Mem).length) M1228.length _ _ from (And.intro rfl (And.intro h1409 (And.intro h1410 (And.intro h1411 o1393)))))
       refine Ev.nxk (gsF rfl (congrArg Bool.not hb1406)) ?_
       refine Ev.nxk (gsF rfl (congrArg Bool.not hb1406)) ?_
       refine Ev.nxk (gsF rfl (congrArg Bool.not hb1406)) ?_
       refine Ev.nxk (pkT rfl (congrArg Bool.not hb1406) rfl) ?_
       refine Ev.rend ?_
       intro e1412 he1413
       have h1414 := envp (t := 9) he1413 rfl h1400
       have h1415 := envp (t := 12) he1413 rfl h1401
       have h1416 : eget e1412 95 = .bool true := envp he1413 rfl rfl
       clear h1398 h1399 h1400 h1401 h1402 h1403
       cases h
       exact Ev.kid (show laws_FnExactDoDeal_c12_Q r1227 M1029.length (([] : Mem).length) M1228.length _ _ from (And.intro rfl (And.intro h1414 (And.intro h1415 (And.intro h1416 o1393)))))) ?_
   revert h hr1460
   revert r1459
   intro y1419 hr1460 h
   intro x e1417 M1418 hq1458
   obtain ⟨rfl, h1420, h1421, h1422, o1423⟩ := hq1458
   refine Ev.kseqN ?_
   rcases ite_some h with ⟨hb1424, h⟩ | ⟨hb1424, h⟩
   ·refine Ev.condT h1422 hb1424 ?_
    refine Ev.seq ?_
    refine Ev.reg (fun _ => rfl) ?_
    refine Ev.nxk (mvO rfl) ?_
    refine Ev.rend ?_
    intro e1425 he1426
    have h1427 : eget e1425 4 = .bool false := envp he1426 rfl rfl
    clear h1420 h1421 h1422
    refine Ev.kseqN ?_
    refine Ev.ex ?_
    refine Ev.kseqR ?_
    cases h
    exact Ev.kendR (resT h1427 res0) rfl
   refine Ev.condF h1422 hb1424 ?_
   refine Ev.ex ?_
   refine Ev.kseqN ?_
   refine Ev.seq ?_
   refine Ev.reg (fun _ => rfl) ?_
   refine Ev.nxk (mvO rfl) ?_
   refine Ev.rend ?_
   intro e1428 he1429
   have h1430 : eget e1428 9 = .loc M1029.length 1 0 0 := envp he1429 rfl h1420
   have h1431 : eget e1428 12 = .int .i64 r1227 := envp he1429 rfl h1421
   have h1432 : eget e1428 13 = .int .i64 1 := envp he1429 rfl rfl
   clear h1420 h1421 h1422
   refine Ev.kseqN ?_
   refine Ev.seq ?_
   refine Ev.reg (fun _ => rfl) ?_
   refine Ev.nxk (ldOA h1430 o1423 rfl rfl (ble rfl) rfl) ?_
   refine Ev.nxk (mvO h1432) ?_
   obtain ⟨r1434, hx1433, h⟩ := bind_some h
   refine Ev.nxck (Ev.call (v := .int .i64 r1434) rfl (cns rfl (cns rfl rfl)) rfl (laws_heldBook_ok (Book.mk 0 ([] : List Int) ([] : List Tally)) 1 _ hx1433) (fun h => nomatch (show false = true from h))) ?_
   refine Ev.nxk (mvO rfl) ?_
   refine Ev.rend ?_
   intro e1435 he1436
   have h1437 := envp (t := 12) he1436 rfl h1431
   have h1438 : eget e1435 13 = .int .i64 r1434 := envp he1436 rfl rfl
   clear h1430 h1431
   refine Ev.kseqN ?_
   refine Ev.seq ?_
   refine Ev.seq ?_
   refine Ev.reg (fun _ => rfl) ?_
   refine Ev.nxk (mvO h1438) ?_
   refine Ev.nxk (bLss rfl rfl) ?_
   refine Ev.rend ?_
   intro e1439 he1440
   have h1441 := envp (t := 12) he1440 rfl h1437
   have h1442 := envp (t := 13) he1440 rfl h1438
   have h1443 : eget e1439 100 = .bool (decide (r1434 < 0)) := envp he1440 rfl rfl
   clear h1437 h1438
   refine Ev.kseqN ?_
   rcases ite_some h with ⟨hb1444, h⟩ | ⟨hb1444, h⟩
   ·refine Ev.condT h1443 hb1444 ?_
    refine Ev.seq ?_
    refine Ev.reg (fun _ => rfl) ?_
    refine Ev.nxk (mvO rfl) ?_
    refine Ev.rend ?_
    intro e1445 he1446
    have h1447 : eget e1445 4 = .bool false := envp he1446 rfl rfl
    clear h1441 h1442 h1443
    refine Ev.kseqN ?_
    refine Ev.ex ?_
    refine Ev.kseqR ?_
    cases h
    exact Ev.kendR (resT h1447 res0) rfl
   refine Ev.condF h1443 hb1444 ?_
   refine Ev.ex ?_
   refine Ev.kseqN ?_
   refine Ev.seq ?_
   refine Ev.seq ?_
   refine Ev.reg (fun _ => rfl) ?_
   refine Ev.nxk (mvO h1442) ?_
   refine Ev.nxk (mvO h1441) ?_
   refine Ev.nxk (bNeq rfl rfl) ?_
   refine Ev.rend ?_
   intro e1448 he1449
   have h1450 : eget e1448 103 = .bool (r1434 != r1227) := envp he1449 rfl rfl
   clear h1441 h1442 h1443
   refine Ev.kseqN ?_
   rcases ite_some h with ⟨hb1451, h⟩ | ⟨hb1451, h⟩
   ·refine Ev.condT h1450 hb1451 ?_
    refine Ev.seq ?_
    refine Ev.reg (fun _ => rfl) ?_
    refine Ev.nxk (mvO rfl) ?_
    refine Ev.rend ?_
    intro e1452 he1453
    have h1454 : eget e1452 4 = .bool false := envp he1453 rfl rfl
    clear h1450
    refine Ev.kseqN ?_
    refine Ev.ex ?_
    refine Ev.kseqR ?_
    cases h
    exact Ev.kendR (resT h1454 res0) rfl
   refine Ev.condF h1450 hb1451 ?_
   refine Ev.ex ?_
   refine Ev.kseqN ?_
   refine Ev.seq ?_
   refine Ev.reg (fun _ => rfl) ?_
   refine Ev.nxk (mvO rfl) ?_
   refine Ev.rend ?_
   intro e1455 he1456
   have h1457 : eget e1455 4 = .bool true := envp he1456 rfl rfl
   clear h1450
   refine Ev.kseqN ?_
   refine Ev.ex ?_
   cases h
   exact Ev.kendR (resT h1457 res0) rfl
  refine Ev.condT h1137 (congrArg Bool.not hb1138) ?_
  refine Ev.seq ?_
  refine Ev.reg (fun _ => rfl) ?_
  refine Ev.nxk (mvO rfl) ?_
  refine Ev.rend ?_
  intro e1465 he1466
  have h1467 : eget e1465 4 = .bool false := envp he1466 rfl rfl
  clear h1130 h1131 h1132 h1133 h1134 h1135 h1136 h1137
  refine Ev.kseqN ?_
  refine Ev.ex ?_
  refine Ev.kseqR ?_
  cases h
  exact Ev.kendR (resT h1467 res0) rfl
 refine Ev.nfcpE (Ev.callT (v := .tup [.agg [.int .i64 r1471, .sl (some 2) (r1472.map (cI .i64)), .sl (some 156) (r1473.map Tally.c)], .int .i64 0]) rfl (cns rfl (cns rfl rfl)) (ra1 (ra_agg (mp1 rfl (mp1 (ra1_row o1032 rfl (cI_fl _)) (mp1 (ra1_row o1033 rfl Tally.fl) mp0)))) (ra1 rfl ra0)) (impl_DoDeal_ok (Book.mk r1006 r1007 r1008) (Deal.mk r1043 r1044 r1045 r1046 r1047 r1048) _ hx1049) (th_gen (v' := .tup [.agg [.int .i64 r1471, .lsl M1029.length r1472.length 0 r1472.length, .lsl (M1029.length + 1) r1473.length 0 r1473.length], .int .i64 0]) (l := [⟨.grow, 2, 1, r1472.map (cI .i64)⟩, ⟨.grow, 156, 5, r1473.map Tally.c⟩]) (own_tup (oa1 (own2_agg (oa1 rfl (oa1 (own1_row' (c := (cI .i64)) (fun _ => rfl)) (oa1 (own1_row' (c := Tally.c) Tally.flF) oa0)))) (oa1 rfl oa0))) (by simp [thaw, thaw2, thaw1, thawL, co2, co156]) rfl rfl)) ?_
 refine Ev.nfk (mvO rfl) ?_
 refine Ev.nfk (exT rfl rfl) ?_
 refine Ev.nfk (exT rfl rfl) ?_
 refine Ev.nfpushE (alO zero56) ?_
 refine Ev.fend1 ?_
 intro M1477 hM1478
 have hM1478 := fendM hM1478 [⟨.grow, 2, 1, r1472.map (cI .i64)⟩, ⟨.grow, 156, 5, r1473.map Tally.c⟩, ⟨.box, 56, 3, [[.int .i64 0, .nils, .nils]]⟩] rfl
 have o1479 := push_old hM1478 o1031
 have o1480 := push_old hM1478 o1032
 have o1481 := push_old hM1478 o1033
 have o1482 := push_old hM1478 o1034
 have ne1483 : ([] : Mem).length ≠ M1029.length := by have := lt_of_get (M := M1029) o1031; omega
 have ne1484 : M996.length ≠ M1029.length := by have := lt_of_get (M := M1029) o1032; omega
 have ne1485 : (M996.length + 1) ≠ M1029.length := by have := lt_of_get (M := M1029) o1033; omega
 have ne1486 : M1011.length ≠ M1029.length := by have := lt_of_get (M := M1029) o1034; omega
 have o1487 : M1477[M1029.length]? = some (.live ⟨.grow, 2, 1, r1472.map (cI .i64)⟩) := push_at hM1478 0 rfl
 have ne1488 : ([] : Mem).length ≠ (M1029.length + 1) := by have := lt_of_get (M := M1029) o1031; omega
 have ne1489 : M996.length ≠ (M1029.length + 1) := by have := lt_of_get (M := M1029) o1032; omega
 have ne1490 : (M996.length + 1) ≠ (M1029.length + 1) := by have := lt_of_get (M := M1029) o1033; omega
 have ne1491 : M1011.length ≠ (M1029.length + 1) := by have := lt_of_get (M := M1029) o1034; omega
 have ne1492 : M1029.length ≠ (M1029.length + 1) := by omega
 have o1493 : M1477[(M1029.length + 1)]? = some (.live ⟨.grow, 156, 5, r1473.map Tally.c⟩) := push_at hM1478 1 rfl
 have ne1494 : ([] : Mem).length ≠ (M1029.length + 2) := by have := lt_of_get (M := M1029) o1031; omega
 have ne1495 : M996.length ≠ (M1029.length + 2) := by have := lt_of_get (M := M1029) o1032; omega
 have ne1496 : (M996.length + 1) ≠ (M1029.length + 2) := by have := lt_of_get (M := M1029) o1033; omega
 have ne1497 : M1011.length ≠ (M1029.length + 2) := by have := lt_of_get (M := M1029) o1034; omega
 have ne1498 : M1029.length ≠ (M1029.length + 2) := by omega
 have ne1499 : (M1029.length + 1) ≠ (M1029.length + 2) := by omega
 have o1500 : M1477[(M1029.length + 2)]? = some (.live ⟨.box, 56, 3, [[.int .i64 0, .nils, .nils]]⟩) := push_at hM1478 2 rfl
 refine Ev.nxput (stO rfl rfl o1500 rfl rfl ⟨rfl, ble rfl⟩ (all1 rfl (all1 (okL o1487 (by simp)) (all1 (okL o1493 (by simp)) all0))) rfl) ?_
 intro M1501 hM1502
 have o1503 := set_ne hM1502 ne1494 o1479
 have o1504 := set_ne hM1502 ne1495 o1480
 have o1505 := set_ne hM1502 ne1496 o1481
 have o1506 := set_ne hM1502 ne1497 o1482
 have o1507 := set_ne hM1502 ne1498 o1487
 have o1508 := set_ne hM1502 ne1499 o1493
 have o1509 : M1501[(M1029.length + 2)]? = some (.live ⟨.box, 56, 3, [[.int .i64 r1471, .lsl M1029.length r1472.length 0 r1472.length, .lsl (M1029.length + 1) r1473.length 0 r1473.length]]⟩) := set_same hM1502 o1500
 refine Ev.nxk (mvO rfl) ?_
 refine Ev.rend ?_
 intro e1510 he1511
 have h1512 := envp (t := 2) he1511 rfl h1037
 have h1513 := envp (t := 3) he1511 rfl h1038
 have h1514 := envp (t := 6) he1511 rfl h1039
 have h1515 : eget e1510 7 = .int .i64 0 := envp he1511 rfl h1040
 have h1516 := envp (t := 8) he1511 rfl h1041
 have h1517 : eget e1510 9 = .loc (M1029.length + 2) 1 0 0 := envp he1511 rfl rfl
 have h1518 : eget e1510 10 = .int .i64 0 := envp he1511 rfl rfl
 clear h1037 h1038 h1039 h1040 h1041
 refine Ev.kseqN ?_
 refine Ev.seq ?_
 refine Ev.seq ?_
 obtain ⟨r1939, hr1940, h⟩ := bind_some h
 refine Ev.cut (Q1 := laws_FnExactDoDeal_c13_Q a1 a2 r989 r990 r991 r1006 r1007 r1008 r1471 r1472 r1473 (([] : Mem).length) M996.length (M996.length + 1) M1011.length M1029.length (M1029.length + 1) (M1029.length + 2) r1939) (by
     have h := hr1940
     refine Ev.reg (fun _ => rfl) ?_
     refine Ev.nxk (ldOA h1517 o1509 rfl rfl (ble rfl) rfl) ?_
     refine Ev.nxk (ldOA h1514 o1503 rfl rfl (ble rfl) rfl) ?_
     obtain ⟨r1520, hx1519, h⟩ := bind_some h
     refine Ev.nxck (Ev.call (v := .bool r1520) rfl (cns rfl (cns rfl rfl)) (ra1 (ra_agg (mp1 rfl (mp1 (ra1_row o1507 rfl (cI_fl _)) (mp1 (ra1_row o1508 rfl Tally.fl) mp0)))) (ra1 rfl ra0)) (laws_eqBook_ok (Book.mk r1471 r1472 r1473) (Book.mk r989 r990 r991) _ hx1519) (fun _ => rfl)) ?_
     refine Ev.nxk (uNot rfl) ?_
     refine Ev.nxk (mvO rfl) ?_
     rcases ite_some h with ⟨hb1521, h⟩ | ⟨hb1521, h⟩
     ·refine Ev.nxk (guF rfl (congrArg Bool.not hb1521) (mvO h1518)) ?_
      refine Ev.nxk (guF rfl (congrArg Bool.not hb1521) (mvO h1515)) ?_
      refine Ev.nxk (guF rfl (congrArg Bool.not hb1521) (bNeq rfl rfl)) ?_
      refine Ev.nxk (pkF rfl (congrArg Bool.not hb1521) rfl) ?_
      refine Ev.rend ?_
      intro e1522 he1523
      have h1524 := envp (t := 2) he1523 rfl h1512
      have h1525 := envp (t := 3) he1523 rfl h1513
      have h1526 := envp (t := 6) he1523 rfl h1514
      have h1527 : eget e1522 7 = .int .i64 0 := envp he1523 rfl h1515
      have h1528 := envp (t := 8) he1523 rfl h1516
      have h1529 := envp (t := 9) he1523 rfl h1517
      have h1530 : eget e1522 10 = .int .i64 0 := envp he1523 rfl h1518
      have h1531 : eget e1522 46 = .bool false := envp he1523 rfl rfl
      clear h1512 h1513 h1514 h1515 h1516 h1517 h1518
      cases h
      exact Ev.kid (show laws_FnExactDoDeal_c13_Q a1 a2 r989 r990 r991 r1006 r1007 r1008 r1471 r1472 r1473 (([] : Mem).length) M996.length (M996.length + 1) M1011.length M1029.length (M1029.length + 1) (M1029.length + 2) _ _ from (And.intro rfl (And.intro h1524 (And.intro h1525 (And.intro h1526 (And.intro h1527 (And.intro h1528 (And.intro h1529 (And.intro h1530 (And.intro h1531 (And.intro o1504 (And.intro o1505 (And.intro o1506 (And.intro o1507 (And.intro o1508 (And.intro o1509 o1503))))))))))))))))
     refine Ev.nxk (gsF rfl (congrArg Bool.not hb1521)) ?_
     refine Ev.nxk (gsF rfl (congrArg Bool.not hb1521)) ?_
     refine Ev.nxk (gsF rfl (congrArg Bool.not hb1521)) ?_
     refine Ev.nxk (pkT rfl (congrArg Bool.not hb1521) rfl) ?_
     refine Ev.rend ?_
     intro e1532 he1533
     have h1534 := envp (t := 2) he1533 rfl h1512
     have h1535 := envp (t := 3) he1533 rfl h1513
     have h1536 := envp (t := 6) he1533 rfl h1514
     have h1537 : eget e1532 7 = .int .i64 0 := envp he1533 rfl h1515
     have h1538 := envp (t := 8) he1533 rfl h1516
     have h1539 := envp (t := 9) he1533 rfl h1517
     have h1540 : eget e1532 10 = .int .i64 0 := envp he1533 rfl h1518
     have h1541 : eget e1532 46 = .bool true := envp he1533 rfl rfl
     clear h1512 h1513 h1514 h1515 h1516 h1517 h1518
     cases h
     exact Ev.kid (show laws_FnExactDoDeal_c13_Q a1 a2 r989 r990 r991 r1006 r1007 r1008 r1471 r1472 r1473 (([] : Mem).length) M996.length (M996.length + 1) M1011.length M1029.length (M1029.length + 1) (M1029.length + 2) _ _ from (And.intro rfl (And.intro h1534 (And.intro h1535 (And.intro h1536 (And.intro h1537 (And.intro h1538 (And.intro h1539 (And.intro h1540 (And.intro h1541 (And.intro o1504 (And.intro o1505 (And.intro o1506 (And.intro o1507 (And.intro o1508 (And.intro o1509 o1503))))))))))))))))) ?_
 revert h hr1940
 revert r1939
 intro y1544 hr1940 h
 intro x e1542 M1543 hq1938
 obtain ⟨rfl, h1545, h1546, h1547, h1548, h1549, h1550, h1551, h1552, o1553, o1554, o1555, o1556, o1557, o1558, o1559⟩ := hq1938
 refine Ev.kseqN ?_
 rcases ite_some h with ⟨hb1560, h⟩ | ⟨hb1560, h⟩
 ·refine Ev.condT h1552 hb1560 ?_
  refine Ev.seq ?_
  refine Ev.reg (fun _ => rfl) ?_
  refine Ev.nxk (mvO rfl) ?_
  refine Ev.rend ?_
  intro e1561 he1562
  have h1563 : eget e1561 4 = .bool false := envp he1562 rfl rfl
  clear h1545 h1546 h1547 h1548 h1549 h1550 h1551 h1552
  refine Ev.kseqN ?_
  refine Ev.ex ?_
  refine Ev.kseqR ?_
  cases h
  exact Ev.kendR (resT h1563 res0) rfl
 refine Ev.condF h1552 hb1560 ?_
 refine Ev.ex ?_
 refine Ev.kseqN ?_
 refine Ev.seq ?_
 refine Ev.seq ?_
 refine Ev.regD (fun _ => rfl) ?_
 refine Ev.nfk (ldOA h1549 o1555 rfl rfl (ble rfl) rfl) ?_
 refine Ev.nfk (ldPA h1545 rfl rfl) ?_
 obtain ⟨⟨r1565, r1566, r1567⟩, hx1564, h⟩ := bind_some h
 refine Ev.nfc (Ev.call (v := .agg [.int .i64 r1565, .sl (some 2) (r1566.map (cI .i64)), .sl (some 156) (r1567.map Tally.c)]) rfl (cns rfl rfl) rfl (laws_toBook_ok a1 _ hx1564) (fun h => nomatch (show false = true from h))) ?_
 obtain ⟨r1569, hx1568, h⟩ := bind_some h
 refine Ev.nfc (Ev.call (v := .bool r1569) rfl (cns rfl (cns rfl rfl)) (ra1 (ra_agg (mp1 rfl (mp1 (ra1_row o1553 rfl (cI_fl _)) (mp1 (ra1_row o1554 rfl Tally.fl) mp0)))) (ra1 rfl ra0)) (laws_eqBook_ok (Book.mk r1006 r1007 r1008) (Book.mk r1565 r1566 r1567) _ hx1568) (fun _ => rfl)) ?_
 refine Ev.nfk (uNot rfl) ?_
 refine Ev.fend0 ?_
 refine Ev.rend ?_
 intro e1570 he1571
 have h1572 : eget e1570 2 = .pt none [.int .i64 a1.Day, .sl none (a1.Cash.map (cI .i64)), .sl none (a1.Tallies.map Tally.c)] := envp he1571 rfl h1545
 have h1573 : eget e1570 3 = .pt none [.int .i64 a2.Day, .int .i8 a2.Kind, .int .i64 a2.Tally, .int .i64 a2.From, .int .i64 a2.To, .int .i64 a2.Amount] := envp he1571 rfl h1546
 have h1574 : eget e1570 6 = .loc ([] : Mem).length 1 0 0 := envp he1571 rfl h1547
 have h1575 : eget e1570 7 = .int .i64 0 := envp he1571 rfl h1548
 have h1576 : eget e1570 8 = .loc M1011.length 1 0 0 := envp he1571 rfl h1549
 have h1577 : eget e1570 9 = .loc (M1029.length + 2) 1 0 0 := envp he1571 rfl h1550
 have h1578 : eget e1570 10 = .int .i64 0 := envp he1571 rfl h1551
 have h1579 : eget e1570 51 = .bool (!r1569) := envp he1571 rfl rfl
 clear h1545 h1546 h1547 h1548 h1549 h1550 h1551 h1552
 refine Ev.kseqN ?_
 rcases ite_some h with ⟨hb1580, h⟩ | ⟨hb1580, h⟩
 ·refine Ev.condF h1579 (congrArg Bool.not hb1580) ?_
  refine Ev.ex ?_
  refine Ev.kseqN ?_
  refine Ev.seq ?_
  refine Ev.reg (fun _ => rfl) ?_
  refine Ev.nxk (mvO rfl) ?_
  refine Ev.rend ?_
  intro e1581 he1582
  have h1583 := envp (t := 2) he1582 rfl h1572
  have h1584 := envp (t := 3) he1582 rfl h1573
  have h1585 := envp (t := 6) he1582 rfl h1574
  have h1586 : eget e1581 7 = .int .i64 0 := envp he1582 rfl h1575
  have h1587 := envp (t := 8) he1582 rfl h1576
  have h1588 := envp (t := 9) he1582 rfl h1577
  have h1589 : eget e1581 10 = .int .i64 0 := envp he1582 rfl h1578
  have h1590 : eget e1581 11 = .int .i64 1 := envp he1582 rfl rfl
  clear h1572 h1573 h1574 h1575 h1576 h1577 h1578 h1579
  refine Ev.kseqN ?_
  refine Ev.seq ?_
  refine Ev.reg (fun _ => rfl) ?_
  refine Ev.nxk (ldOA h1587 o1555 rfl rfl (ble rfl) rfl) ?_
  refine Ev.nxk (mvO h1590) ?_
  obtain ⟨⟨r1592, r1593, r1594⟩, hx1591, h⟩ := bind_some h
  refine Ev.nxw (Ev.callW rfl (cns rfl (cns rfl rfl)) (laws_markBook_ll_ok r1006 r1007 r1008 1 M996.length (M996.length + 1) ne1017 M1543 o1553 o1554 _ hx1591)) ?_
  intro v1597 M1595 hq1596
  obtain ⟨hv1597, o1598, o1599, fr1600, hl1601, hl1602⟩ := hq1596
  have hv1597 : v1597 = .int .i64 r1592 := hv1597
  subst hv1597
  have o1603 : M1595[M996.length]? = some (.live ⟨.grow, 2, 1, r1593.map (cI .i64)⟩) := o1598
  have o1604 : M1595[(M996.length + 1)]? = some (.live ⟨.grow, 156, 5, r1594.map Tally.c⟩) := o1599
  have hl1601 : r1593.length = r1007.length := hl1601
  have hl1602 : r1594.length = r1008.length := hl1602
  have o1605 : M1595[M1011.length]? = some (.live ⟨.box, 56, 3, [[.int .i64 r1006, .lsl M996.length r1007.length 0 r1007.length, .lsl (M996.length + 1) r1008.length 0 r1008.length]]⟩) := fr1600 _ _ (niC (Ne.symm ne1025) (niC (Ne.symm ne1027) niN)) o1555
  have o1606 : M1595[M1029.length]? = some (.live ⟨.grow, 2, 1, r1472.map (cI .i64)⟩) := fr1600 _ _ (niC (Ne.symm ne1484) (niC (Ne.symm ne1485) niN)) o1556
  have o1607 : M1595[(M1029.length + 1)]? = some (.live ⟨.grow, 156, 5, r1473.map Tally.c⟩) := fr1600 _ _ (niC (Ne.symm ne1489) (niC (Ne.symm ne1490) niN)) o1557
  have o1608 : M1595[(M1029.length + 2)]? = some (.live ⟨.box, 56, 3, [[.int .i64 r1471, .lsl M1029.length r1472.length 0 r1472.length, .lsl (M1029.length + 1) r1473.length 0 r1473.length]]⟩) := fr1600 _ _ (niC (Ne.symm ne1495) (niC (Ne.symm ne1496) niN)) o1558
  have o1609 : M1595[([] : Mem).length]? = some (.live ⟨.box, 56, 3, [[.int .i64 r989, .sl none (r990.map (cI .i64)), .sl none (r991.map Tally.c)]]⟩) := fr1600 _ _ (niC ne1014 (niC ne1016 niN)) o1559
  refine Ev.nxk (mvO rfl) ?_
  refine Ev.rend ?_
  intro e1610 he1611
  have h1612 := envp (t := 2) he1611 rfl h1583
  have h1613 := envp (t := 3) he1611 rfl h1584
  have h1614 := envp (t := 6) he1611 rfl h1585
  have h1615 : eget e1610 7 = .int .i64 0 := envp he1611 rfl h1586
  have h1616 := envp (t := 9) he1611 rfl h1588
  have h1617 : eget e1610 10 = .int .i64 0 := envp he1611 rfl h1589
  have h1618 : eget e1610 11 = .int .i64 r1592 := envp he1611 rfl rfl
  clear h1583 h1584 h1585 h1586 h1587 h1588 h1589
  refine Ev.kseqN ?_
  refine Ev.seq ?_
  refine Ev.seq ?_
  obtain ⟨r1933, hr1934, h⟩ := bind_some h
  refine Ev.cut (Q1 := laws_FnExactDoDeal_c14_Q a1 a2 r989 r990 r991 r1471 r1472 r1473 M1029.length (M1029.length + 1) (M1029.length + 2) (([] : Mem).length) r1933) (by
      have h := hr1934
      refine Ev.reg (fun _ => rfl) ?_
      refine Ev.nxk (mvO h1618) ?_
      refine Ev.nxk (bLss rfl rfl) ?_
      refine Ev.nxk (mvO rfl) ?_
      rcases ite_some h with ⟨hb1619, h⟩ | ⟨hb1619, h⟩
      ·refine Ev.nxk (gsF rfl hb1619) ?_
       refine Ev.nxk (gsF rfl hb1619) ?_
       refine Ev.nxck (Ev.gsF rfl hb1619) ?_
       refine Ev.nxk (gsF rfl hb1619) ?_
       refine Ev.nxk (pkT rfl hb1619 rfl) ?_
       refine Ev.nxk (mvO rfl) ?_
       refine Ev.nxk (gsF rfl rfl) ?_
       refine Ev.nxk (gsF rfl rfl) ?_
       refine Ev.nxk (gsF rfl rfl) ?_
       refine Ev.nxk (pkT rfl rfl rfl) ?_
       refine Ev.rend ?_
       intro e1620 he1621
       have h1622 := envp (t := 2) he1621 rfl h1612
       have h1623 := envp (t := 3) he1621 rfl h1613
       have h1624 := envp (t := 6) he1621 rfl h1614
       have h1625 : eget e1620 7 = .int .i64 0 := envp he1621 rfl h1615
       have h1626 := envp (t := 9) he1621 rfl h1616
       have h1627 : eget e1620 67 = .bool true := envp he1621 rfl rfl
       clear h1612 h1613 h1614 h1615 h1616 h1617 h1618
       cases h
       exact Ev.kid (show laws_FnExactDoDeal_c14_Q a1 a2 r989 r990 r991 r1471 r1472 r1473 M1029.length (M1029.length + 1) (M1029.length + 2) (([] : Mem).length) _ _ from (And.intro rfl (And.intro h1622 (And.intro h1623 (And.intro h1624 (And.intro h1625 (And.intro h1626 (And.intro h1627 (And.intro o1606 (And.intro o1607 (And.intro o1608 o1609)))))))))))
      refine Ev.nxk (guF rfl hb1619 (ldOA h1616 o1608 rfl rfl (ble rfl) rfl)) ?_
      refine Ev.nxk (guF rfl hb1619 (ldOA h1614 o1609 rfl rfl (ble rfl) rfl)) ?_
      obtain ⟨r1629, hx1628, h⟩ := bind_some h
      refine Ev.nxck (Ev.guF rfl hb1619 (Ev.call (v := .bool r1629) rfl (cns rfl (cns rfl rfl)) (ra1 (ra_agg (mp1 rfl (mp1 (ra1_row o1606 rfl (cI_fl _)) (mp1 (ra1_row o1607 rfl Tally.fl) mp0)))) (ra1 rfl ra0)) (laws_eqBook_ok (Book.mk r1471 r1472 r1473) (Book.mk r989 r990 r991) _ hx1628) (fun _ => rfl))) ?_
      refine Ev.nxk (guF rfl hb1619 (uNot rfl)) ?_
      refine Ev.nxk (pkF rfl hb1619 rfl) ?_
      refine Ev.nxk (mvO rfl) ?_
      rcases ite_some h with ⟨hb1630, h⟩ | ⟨hb1630, h⟩
      ·refine Ev.nxk (guF rfl (congrArg Bool.not hb1630) (mvO h1617)) ?_
       refine Ev.nxk (guF rfl (congrArg Bool.not hb1630) (mvO h1615)) ?_
       refine Ev.nxk (guF rfl (congrArg Bool.not hb1630) (bNeq rfl rfl)) ?_
       refine Ev.nxk (pkF rfl (congrArg Bool.not hb1630) rfl) ?_
       refine Ev.rend ?_
       intro e1631 he1632
       have h1633 := envp (t := 2) he1632 rfl h1612
       have h1634 := envp (t := 3) he1632 rfl h1613
       have h1635 := envp (t := 6) he1632 rfl h1614
       have h1636 : eget e1631 7 = .int .i64 0 := envp he1632 rfl h1615
       have h1637 := envp (t := 9) he1632 rfl h1616
       have h1638 : eget e1631 67 = .bool false := envp he1632 rfl rfl
       clear h1612 h1613 h1614 h1615 h1616 h1617 h1618
       cases h
       exact Ev.kid (show laws_FnExactDoDeal_c14_Q a1 a2 r989 r990 r991 r1471 r1472 r1473 M1029.length (M1029.length + 1) (M1029.length + 2) (([] : Mem).length) _ _ from (And.intro rfl (And.intro h1633 (And.intro h1634 (And.intro h1635 (And.intro h1636 (And.intro h1637 (And.intro h1638 (And.intro o1606 (And.intro o1607 (And.intro o1608 o1609)))))))))))
      refine Ev.nxk (gsF rfl (congrArg Bool.not hb1630)) ?_
      refine Ev.nxk (gsF rfl (congrArg Bool.not hb1630)) ?_
      refine Ev.nxk (gsF rfl (congrArg Bool.not hb1630)) ?_
      refine Ev.nxk (pkT rfl (congrArg Bool.not hb1630) rfl) ?_
      refine Ev.rend ?_
      intro e1639 he1640
      have h1641 := envp (t := 2) he1640 rfl h1612
      have h1642 := envp (t := 3) he1640 rfl h1613
      have h1643 := envp (t := 6) he1640 rfl h1614
      have h1644 : eget e1639 7 = .int .i64 0 := envp he1640 rfl h1615
      have h1645 := envp (t := 9) he1640 rfl h1616
      have h1646 : eget e1639 67 = .bool true := envp he1640 rfl rfl
      clear h1612 h1613 h1614 h1615 h1616 h1617 h1618
      cases h
      exact Ev.kid (show laws_FnExactDoDeal_c14_Q a1 a2 r989 r990 r991 r1471 r1472 r1473 M1029.length (M1029.length + 1) (M1029.length + 2) (([] : Mem).length) _ _ from (And.intro rfl (And.intro h1641 (And.intro h1642 (And.intro h1643 (And.intro h1644 (And.intro h1645 (And.intro h1646 (And.intro o1606 (And.intro o1607 (And.intro o1608 o1609)))))))))))) ?_
  revert h hr1934
  revert r1933
  intro y1649 hr1934 h
  intro x e1647 M1648 hq1932
  obtain ⟨rfl, h1650, h1651, h1652, h1653, h1654, h1655, o1656, o1657, o1658, o1659⟩ := hq1932
  refine Ev.kseqN ?_
  rcases ite_some h with ⟨hb1660, h⟩ | ⟨hb1660, h⟩
  ·refine Ev.condT h1655 hb1660 ?_
   refine Ev.seq ?_
   refine Ev.reg (fun _ => rfl) ?_
   refine Ev.nxk (mvO rfl) ?_
   refine Ev.rend ?_
   intro e1661 he1662
   have h1663 : eget e1661 4 = .bool false := envp he1662 rfl rfl
   clear h1650 h1651 h1652 h1653 h1654 h1655
   refine Ev.kseqN ?_
   refine Ev.ex ?_
   refine Ev.kseqR ?_
   cases h
   exact Ev.kendR (resT h1663 res0) rfl
  refine Ev.condF h1655 hb1660 ?_
  refine Ev.ex ?_
  refine Ev.kseqN ?_
  refine Ev.seq ?_
  refine Ev.reg (fun _ => rfl) ?_
  refine Ev.nxk (mvO rfl) ?_
  refine Ev.rend ?_
  intro e1664 he1665
  have h1666 : eget e1664 2 = .pt none [.int .i64 a1.Day, .sl none (a1.Cash.map (cI .i64)), .sl none (a1.Tallies.map Tally.c)] := envp he1665 rfl h1650
  have h1667 : eget e1664 3 = .pt none [.int .i64 a2.Day, .int .i8 a2.Kind, .int .i64 a2.Tally, .int .i64 a2.From, .int .i64 a2.To, .int .i64 a2.Amount] := envp he1665 rfl h1651
  have h1668 : eget e1664 6 = .loc ([] : Mem).length 1 0 0 := envp he1665 rfl h1652
  have h1669 : eget e1664 7 = .int .i64 0 := envp he1665 rfl h1653
  have h1670 : eget e1664 9 = .loc (M1029.length + 2) 1 0 0 := envp he1665 rfl h1654
  have h1671 : eget e1664 12 = .int .i64 1 := envp he1665 rfl rfl
  clear h1650 h1651 h1652 h1653 h1654 h1655
  refine Ev.kseqN ?_
  refine Ev.seq ?_
  refine Ev.reg (fun _ => rfl) ?_
  refine Ev.nxk (ldOA h1670 o1658 rfl rfl (ble rfl) rfl) ?_
  refine Ev.nxk (mvO h1671) ?_
  obtain ⟨⟨r1673, r1674, r1675⟩, hx1672, h⟩ := bind_some h
  refine Ev.nxw (Ev.callW rfl (cns rfl (cns rfl rfl)) (laws_markBook_ll_ok r1471 r1472 r1473 1 M1029.length (M1029.length + 1) ne1492 M1648 o1656 o1657 _ hx1672)) ?_
  intro v1678 M1676 hq1677
  obtain ⟨hv1678, o1679, o1680, fr1681, hl1682, hl1683⟩ := hq1677
  have hv1678 : v1678 = .int .i64 r1673 := hv1678
  subst hv1678
  have o1684 : M1676[M1029.length]? = some (.live ⟨.grow, 2, 1, r1674.map (cI .i64)⟩) := o1679
  have o1685 : M1676[(M1029.length + 1)]? = some (.live ⟨.grow, 156, 5, r1675.map Tally.c⟩) := o1680
  have hl1682 : r1674.length = r1472.length := hl1682
  have hl1683 : r1675.length = r1473.length := hl1683
  have o1686 : M1676[(M1029.length + 2)]? = some (.live ⟨.box, 56, 3, [[.int .i64 r1471, .lsl M1029.length r1472.length 0 r1472.length, .lsl (M1029.length + 1) r1473.length 0 r1473.length]]⟩) := fr1681 _ _ (niC (Ne.symm ne1498) (niC (Ne.symm ne1499) niN)) o1658
  have o1687 : M1676[([] : Mem).length]? = some (.live ⟨.box, 56, 3, [[.int .i64 r989, .sl none (r990.map (cI .i64)), .sl none (r991.map Tally.c)]]⟩) := fr1681 _ _ (niC ne1483 (niC ne1488 niN)) o1659
  refine Ev.nxk (mvO rfl) ?_
  refine Ev.rend ?_
  intro e1688 he1689
  have h1690 := envp (t := 2) he1689 rfl h1666
  have h1691 := envp (t := 3) he1689 rfl h1667
  have h1692 := envp (t := 6) he1689 rfl h1668
  have h1693 : eget e1688 7 = .int .i64 0 := envp he1689 rfl h1669
  have h1694 := envp (t := 9) he1689 rfl h1670
  have h1695 : eget e1688 12 = .int .i64 r1673 := envp he1689 rfl rfl
  clear h1666 h1667 h1668 h1669 h1670
  refine Ev.kseqN ?_
  refine Ev.seq ?_
  refine Ev.reg (fun _ => rfl) ?_
  refine Ev.nxk (mvO rfl) ?_
  refine Ev.rend ?_
  intro e1696 he1697
  have h1698 := envp (t := 2) he1697 rfl h1690
  have h1699 := envp (t := 3) he1697 rfl h1691
  have h1700 := envp (t := 6) he1697 rfl h1692
  have h1701 : eget e1696 7 = .int .i64 0 := envp he1697 rfl h1693
  have h1702 := envp (t := 9) he1697 rfl h1694
  have h1703 := envp (t := 12) he1697 rfl h1695
  have h1704 : eget e1696 13 = .int .i64 1 := envp he1697 rfl rfl
  clear h1690 h1691 h1692 h1693 h1694 h1695
  refine Ev.kseqN ?_
  refine Ev.seq ?_
  refine Ev.reg (fun _ => rfl) ?_
  refine Ev.nxk (ldOA h1702 o1686 rfl rfl (ble rfl) rfl) ?_
  refine Ev.nxk (mvO h1704) ?_
  obtain ⟨r1706, hx1705, h⟩ := bind_some h
  refine Ev.nxck (Ev.call (v := .int .i64 r1706) rfl (cns rfl (cns rfl rfl)) (ra1 (ra_agg (mp1 rfl (mp1 (ra1_row o1684 (by simp [hl1601, hl1602, hl1682, hl1683]) (cI_fl _)) (mp1 (ra1_row o1685 (by simp [hl1601, hl1602, hl1682, hl1683]) Tally.fl) mp0)))) (ra1 rfl ra0)) (laws_heldBook_ok (Book.mk r1471 r1674 r1675) 1 _ hx1705) (fun _ => rfl)) ?_
  refine Ev.nxk (mvO rfl) ?_
  refine Ev.rend ?_
  intro e1707 he1708
  have h1709 := envp (t := 2) he1708 rfl h1698
  have h1710 := envp (t := 3) he1708 rfl h1699
  have h1711 := envp (t := 6) he1708 rfl h1700
  have h1712 : eget e1707 7 = .int .i64 0 := envp he1708 rfl h1701
  have h1713 := envp (t := 9) he1708 rfl h1702
  have h1714 := envp (t := 12) he1708 rfl h1703
  have h1715 : eget e1707 13 = .int .i64 r1706 := envp he1708 rfl rfl
  clear h1698 h1699 h1700 h1701 h1702 h1703
  refine Ev.kseqN ?_
  refine Ev.seq ?_
  refine Ev.seq ?_
  refine Ev.reg (fun _ => rfl) ?_
  refine Ev.nxk (mvO h1715) ?_
  refine Ev.nxk (bLss rfl rfl) ?_
  refine Ev.rend ?_
  intro e1716 he1717
  have h1718 := envp (t := 2) he1717 rfl h1709
  have h1719 := envp (t := 3) he1717 rfl h1710
  have h1720 := envp (t := 6) he1717 rfl h1711
  have h1721 : eget e1716 7 = .int .i64 0 := envp he1717 rfl h1712
  have h1722 := envp (t := 9) he1717 rfl h1713
  have h1723 := envp (t := 12) he1717 rfl h1714
  have h1724 := envp (t := 13) he1717 rfl h1715
  have h1725 : eget e1716 75 = .bool (decide (r1706 < 0)) := envp he1717 rfl rfl
  clear h1709 h1710 h1711 h1712 h1713 h1714 h1715
  refine Ev.kseqN ?_
  rcases ite_some h with ⟨hb1726, h⟩ | ⟨hb1726, h⟩
  ·refine Ev.condT h1725 hb1726 ?_
   refine Ev.seq ?_
   refine Ev.reg (fun _ => rfl) ?_
   refine Ev.nxk (mvO rfl) ?_
   refine Ev.rend ?_
   intro e1727 he1728
   have h1729 : eget e1727 4 = .bool false := envp he1728 rfl rfl
   clear h1718 h1719 h1720 h1721 h1722 h1723 h1724 h1725
   refine Ev.kseqN ?_
   refine Ev.ex ?_
   refine Ev.kseqR ?_
   cases h
   exact Ev.kendR (resT h1729 res0) rfl
  refine Ev.condF h1725 hb1726 ?_
  refine Ev.ex ?_
  refine Ev.kseqN ?_
  refine Ev.seq ?_
  refine Ev.seq ?_
  refine Ev.reg (fun _ => rfl) ?_
  refine Ev.nxk (mvO h1724) ?_
  refine Ev.nxk (mvO h1723) ?_
  refine Ev.nxk (bNeq rfl rfl) ?_
  refine Ev.rend ?_
  intro e1730 he1731
  have h1732 := envp (t := 2) he1731 rfl h1718
  have h1733 := envp (t := 3) he1731 rfl h1719
  have h1734 := envp (t := 6) he1731 rfl h1720
  have h1735 : eget e1730 7 = .int .i64 0 := envp he1731 rfl h1721
  have h1736 := envp (t := 9) he1731 rfl h1722
  have h1737 := envp (t := 12) he1731 rfl h1723
  have h1738 : eget e1730 78 = .bool (r1706 != r1673) := envp he1731 rfl rfl
  clear h1718 h1719 h1720 h1721 h1722 h1723 h1724 h1725
  refine Ev.kseqN ?_
  rcases ite_some h with ⟨hb1739, h⟩ | ⟨hb1739, h⟩
  ·refine Ev.condT h1738 hb1739 ?_
   refine Ev.seq ?_
   refine Ev.reg (fun _ => rfl) ?_
   refine Ev.nxk (mvO rfl) ?_
   refine Ev.rend ?_
   intro e1740 he1741
   have h1742 : eget e1740 4 = .bool false := envp he1741 rfl rfl
   clear h1732 h1733 h1734 h1735 h1736 h1737 h1738
   refine Ev.kseqN ?_
   refine Ev.ex ?_
   refine Ev.kseqR ?_
   cases h
   exact Ev.kendR (resT h1742 res0) rfl
  refine Ev.condF h1738 hb1739 ?_
  refine Ev.ex ?_
  refine Ev.kseqN ?_
  refine Ev.seq ?_
  refine Ev.regD (fun _ => rfl) ?_
  refine Ev.nfk (ldPA h1732 rfl rfl) ?_
  obtain ⟨⟨r1744, r1745, r1746⟩, hx1743, h⟩ := bind_some h
  refine Ev.nfc (Ev.call (v := .agg [.int .i64 r1744, .sl (some 2) (r1745.map (cI .i64)), .sl (some 156) (r1746.map Tally.c)]) rfl (cns rfl rfl) rfl (laws_toBook_ok a1 _ hx1743) (fun h => nomatch (show false = true from h))) ?_
  refine Ev.nfk (ldPA h1733 rfl rfl) ?_
  obtain ⟨⟨r1748, r1749, r1750, r1751, r1752, r1753⟩, hx1747, h⟩ := bind_some h
  refine Ev.nfc (Ev.call (v := .agg [.int .i64 r1748, .int .i8 r1749, .int .i64 r1750, .int .i64 r1751, .int .i64 r1752, .int .i64 r1753]) rfl (cns rfl rfl) rfl (laws_toDeal_ok a2 _ hx1747) (fun h => nomatch (show false = true from h))) ?_
  obtain ⟨q1931, hx1754, h⟩ := bind_some h
  rcases q1931 with r1755 | ⟨r1842, r1843, r1844⟩
  ·refine Ev.nfc (Ev.call (v := .tup [.agg [.int .i64 0, .nils, .nils], .int .i64 r1755]) rfl (cns rfl (cns rfl rfl)) rfl (impl_DoDeal_ok (Book.mk r1744 r1745 r1746) (Deal.mk r1748 r1749 r1750 r1751 r1752 r1753) _ hx1754) (fun h => nomatch (show false = true from h))) ?_
   refine Ev.nfk (mvO rfl) ?_
   refine Ev.nfk (exT rfl rfl) ?_
   refine Ev.nfk (exT rfl rfl) ?_
   refine Ev.nfpushE (alO zero56) ?_
   refine Ev.fend1 ?_
   intro M1757 hM1758
   have hM1758 := fendM hM1758 [⟨.box, 56, 3, [[.int .i64 0, .nils, .nils]]⟩] rfl
   have o1759 := push_old hM1758 o1684
   have o1760 := push_old hM1758 o1685
   have o1761 := push_old hM1758 o1686
   have o1762 := push_old hM1758 o1687
   have ne1763 : M1029.length ≠ M1676.length := by have := lt_of_get (M := M1676) o1684; omega
   have ne1764 : (M1029.length + 1) ≠ M1676.length := by have := lt_of_get (M := M1676) o1685; omega
   have ne1765 : (M1029.length + 2) ≠ M1676.length := by have := lt_of_get (M := M1676) o1686; omega
   have ne1766 : ([] : Mem).length ≠ M1676.length := by have := lt_of_get (M := M1676) o1687; omega
   have o1767 : M1757[M1676.length]? = some (.live ⟨.box, 56, 3, [[.int .i64 0, .nils, .nils]]⟩) := push_at hM1758 0 rfl
   refine Ev.nxput (stO rfl rfl o1767 rfl rfl ⟨rfl, ble rfl⟩ rfl rfl) ?_
   intro M1768 hM1769
   have o1770 := set_ne hM1769 ne1763 o1759
   have o1771 := set_ne hM1769 ne1764 o1760
   have o1772 := set_ne hM1769 ne1765 o1761
   have o1773 := set_ne hM1769 ne1766 o1762
   have o1774 : M1768[M1676.length]? = some (.live ⟨.box, 56, 3, [[.int .i64 0, .nils, .nils]]⟩) := set_same hM1769 o1767
   refine Ev.nxk (mvO rfl) ?_
   refine Ev.rend ?_
   intro e1775 he1776
   have h1777 := envp (t := 6) he1776 rfl h1734
   have h1778 : eget e1775 7 = .int .i64 0 := envp he1776 rfl h1735
   have h1779 := envp (t := 9) he1776 rfl h1736
   have h1780 := envp (t := 12) he1776 rfl h1737
   have h1781 : eget e1775 14 = .loc M1676.length 1 0 0 := envp he1776 rfl rfl
   have h1782 : eget e1775 15 = .int .i64 r1755 := envp he1776 rfl rfl
   clear h1732 h1733 h1734 h1735 h1736 h1737 h1738
   refine Ev.kseqN ?_
   refine Ev.seq ?_
   refine Ev.seq ?_
   obtain ⟨r1840, hr1841, h⟩ := bind_some h
   refine Ev.cut (Q1 := laws_FnExactDoDeal_c15_Q r1471 r1472 r1473 r1673 r1674 r1675 M1029.length (M1029.length + 1) (M1029.length + 2) (([] : Mem).length) M1676.length r1840) (by
       have h := hr1841
       refine Ev.reg (fun _ => rfl) ?_
       refine Ev.nxk (ldOA h1781 o1774 rfl rfl (ble rfl) rfl) ?_
       refine Ev.nxk (ldOA h1777 o1773 rfl rfl (ble rfl) rfl) ?_
       obtain ⟨r1784, hx1783, h⟩ := bind_some h
       refine Ev.nxck (Ev.call (v := .bool r1784) rfl (cns rfl (cns rfl rfl)) rfl (laws_eqBook_ok (Book.mk 0 ([] : List Int) ([] : List Tally)) (Book.mk r989 r990 r991) _ hx1783) (fun h => nomatch (show false = true from h))) ?_
       refine Ev.nxk (uNot rfl) ?_
       refine Ev.nxk (mvO rfl) ?_
       rcases ite_some h with ⟨hb1785, h⟩ | ⟨hb1785, h⟩
       ·refine Ev.nxk (guF rfl (congrArg Bool.not hb1785) (mvO h1782)) ?_
        refine Ev.nxk (guF rfl (congrArg Bool.not hb1785) (mvO h1778)) ?_
        refine Ev.nxk (guF rfl (congrArg Bool.not hb1785) (bNeq rfl rfl)) ?_
        refine Ev.nxk (pkF rfl (congrArg Bool.not hb1785) rfl) ?_
        refine Ev.rend ?_
        intro e1786 he1787
        have h1788 := envp (t := 9) he1787 rfl h1779
        have h1789 := envp (t := 12) he1787 rfl h1780
        have h1790 : eget e1786 95 = .bool (r1755 != 0) := envp he1787 rfl rfl
        clear h1777 h1778 h1779 h1780 h1781 h1782
        cases h
        exact Ev.kid (show laws_FnExactDoDeal_c15_Q r1471 r1472 r1473 r1673 r1674 r1675 M1029.length (M1029.length + 1) (M1029.length + 2) (([] : Mem).length) M1676.length _ _ from (And.intro rfl (And.intro h1788 (And.intro h1789 (And.intro h1790 (And.intro o1770 (And.intro o1771 o1772)))))))
       refine Ev.nxk (gsF rfl (congrArg Bool.not hb1785)) ?_
       refine Ev.nxk (gsF rfl (congrArg Bool.not hb1785)) ?_
       refine Ev.nxk (gsF rfl (congrArg Bool.not hb1785)) ?_
       refine Ev.nxk (pkT rfl (congrArg Bool.not hb1785) rfl) ?_
       refine Ev.rend ?_
       intro e1791 he1792
       have h1793 := envp (t := 9) he1792 rfl h1779
       have h1794 := envp (t := 12) he1792 rfl h1780
       have h1795 : eget e1791 95 = .bool true := envp he1792 rfl rfl
       clear h1777 h1778 h1779 h1780 h1781 h1782
       cases h
       exact Ev.kid (show laws_FnExactDoDeal_c15_Q r1471 r1472 r1473 r1673 r1674 r1675 M1029.length (M1029.length + 1) (M1029.length + 2) (([] : Mem).length) M1676.length _ _ from (And.intro rfl (And.intro h1793 (And.intro h1794 (And.intro h1795 (And.intro o1770 (And.intro o1771 o1772)))))))) ?_
   revert h hr1841
   revert r1840
   intro y1798 hr1841 h
   intro x e1796 M1797 hq1839
   obtain ⟨rfl, h1799, h1800, h1801, o1802, o1803, o1804⟩ := hq1839
   refine Ev.kseqN ?_
   rcases ite_some h with ⟨hb1805, h⟩ | ⟨hb1805, h⟩
   ·refine Ev.condT h1801 hb1805 ?_
    refine Ev.seq ?_
    refine Ev.reg (fun _ => rfl) ?_
    refine Ev.nxk (mvO rfl) ?_
    refine Ev.rend ?_
    intro e1806 he1807
    have h1808 : eget e1806 4 = .bool false := envp he1807 rfl rfl
    clear h1799 h1800 h1801
    refine Ev.kseqN ?_
    refine Ev.ex ?_
    refine Ev.kseqR ?_
    cases h
    exact Ev.kendR (resT h1808 res0) rfl
   refine Ev.condF h1801 hb1805 ?_
   refine Ev.ex ?_
   refine Ev.kseqN ?_
   refine Ev.seq ?_
   refine Ev.reg (fun _ => rfl) ?_
   refine Ev.nxk (mvO rfl) ?_
   refine Ev.rend ?_
   intro e1809 he1810
   have h1811 : eget e1809 9 = .loc (M1029.length + 2) 1 0 0 := envp he1810 rfl h1799
   have h1812 : eget e1809 12 = .int .i64 r1673 := envp he1810 rfl h1800
   have h1813 : eget e1809 13 = .int .i64 1 := envp he1810 rfl rfl
   clear h1799 h1800 h1801
   refine Ev.kseqN ?_
   refine Ev.seq ?_
   refine Ev.reg (fun _ => rfl) ?_
   refine Ev.nxk (ldOA h1811 o1804 rfl rfl (ble rfl) rfl) ?_
   refine Ev.nxk (mvO h1813) ?_
   obtain ⟨r1815, hx1814, h⟩ := bind_some h
   refine Ev.nxck (Ev.call (v := .int .i64 r1815) rfl (cns rfl (cns rfl rfl)) (ra1 (ra_agg (mp1 rfl (mp1 (ra1_row o1802 (by simp [hl1601, hl1602, hl1682, hl1683]) (cI_fl _)) (mp1 (ra1_row o1803 (by simp [hl1601, hl1602, hl1682, hl1683]) Tally.fl) mp0)))) (ra1 rfl ra0)) (laws_heldBook_ok (Book.mk r1471 r1674 r1675) 1 _ hx1814) (fun _ => rfl)) ?_
   refine Ev.nxk (mvO rfl) ?_
   refine Ev.rend ?_
   intro e1816 he1817
   have h1818 := envp (t := 12) he1817 rfl h1812
   have h1819 : eget e1816 13 = .int .i64 r1815 := envp he1817 rfl rfl
   clear h1811 h1812
   refine Ev.kseqN ?_
   refine Ev.seq ?_
   refine Ev.seq ?_
   refine Ev.reg (fun _ => rfl) ?_
   refine Ev.nxk (mvO h1819) ?_
   refine Ev.nxk (bLss rfl rfl) ?_
   refine Ev.rend ?_
   intro e1820 he1821
   have h1822 := envp (t := 12) he1821 rfl h1818
   have h1823 := envp (t := 13) he1821 rfl h1819
   have h1824 : eget e1820 100 = .bool (decide (r1815 < 0)) := envp he1821 rfl rfl
   clear h1818 h1819
   refine Ev.kseqN ?_
   rcases ite_some h with ⟨hb1825, h⟩ | ⟨hb1825, h⟩
   ·refine Ev.condT h1824 hb1825 ?_
    refine Ev.seq ?_
    refine Ev.reg (fun _ => rfl) ?_
    refine Ev.nxk (mvO rfl) ?_
    refine Ev.rend ?_
    intro e1826 he1827
    have h1828 : eget e1826 4 = .bool false := envp he1827 rfl rfl
    clear h1822 h1823 h1824
    refine Ev.kseqN ?_
    refine Ev.ex ?_
    refine Ev.kseqR ?_
    cases h
    exact Ev.kendR (resT h1828 res0) rfl
   refine Ev.condF h1824 hb1825 ?_
   refine Ev.ex ?_
   refine Ev.kseqN ?_
   refine Ev.seq ?_
   refine Ev.seq ?_
   refine Ev.reg (fun _ => rfl) ?_
   refine Ev.nxk (mvO h1823) ?_
   refine Ev.nxk (mvO h1822) ?_
   refine Ev.nxk (bNeq rfl rfl) ?_
   refine Ev.rend ?_
   intro e1829 he1830
   have h1831 : eget e1829 103 = .bool (r1815 != r1673) := envp he1830 rfl rfl
   clear h1822 h1823 h1824
   refine Ev.kseqN ?_
   rcases ite_some h with ⟨hb1832, h⟩ | ⟨hb1832, h⟩
   ·refine Ev.condT h1831 hb1832 ?_
    refine Ev.seq ?_
    refine Ev.reg (fun _ => rfl) ?_
    refine Ev.nxk (mvO rfl) ?_
    refine Ev.rend ?_
    intro e1833 he1834
    have h1835 : eget e1833 4 = .bool false := envp he1834 rfl rfl
    clear h1831
    refine Ev.kseqN ?_
    refine Ev.ex ?_
    refine Ev.kseqR ?_
    cases h
    exact Ev.kendR (resT h1835 res0) rfl
   refine Ev.condF h1831 hb1832 ?_
   refine Ev.ex ?_
   refine Ev.kseqN ?_
   refine Ev.seq ?_
   refine Ev.reg (fun _ => rfl) ?_
   refine Ev.nxk (mvO rfl) ?_
   refine Ev.rend ?_
   intro e1836 he1837
   have h1838 : eget e1836 4 = .bool true := envp he1837 rfl rfl
   clear h1831
   refine Ev.kseqN ?_
   refine Ev.ex ?_
   cases h
   exact Ev.kendR (resT h1838 res0) rfl
  refine Ev.nfc (Ev.call (v := .tup [.agg [.int .i64 r1842, .sl (some 2) (r1843.map (cI .i64)), .sl (some 156) (r1844.map Tally.c)], .int .i64 0]) rfl (cns rfl (cns rfl rfl)) rfl (impl_DoDeal_ok (Book.mk r1744 r1745 r1746) (Deal.mk r1748 r1749 r1750 r1751 r1752 r1753) _ hx1754) (fun h => nomatch (show false = true from h))) ?_
  refine Ev.nfk (mvO rfl) ?_
  refine Ev.nfk (exT rfl rfl) ?_
  refine Ev.nfk (exT rfl rfl) ?_
  refine Ev.nfpushE (alO zero56) ?_
  refine Ev.fend1 ?_
  intro M1846 hM1847
  have hM1847 := fendM hM1847 [⟨.box, 56, 3, [[.int .i64 0, .nils, .nils]]⟩] rfl
  have o1848 := push_old hM1847 o1684
  have o1849 := push_old hM1847 o1685
  have o1850 := push_old hM1847 o1686
  have o1851 := push_old hM1847 o1687
  have ne1852 : M1029.length ≠ M1676.length := by have := lt_of_get (M := M1676) o1684; omega
  have ne1853 : (M1029.length + 1) ≠ M1676.length := by have := lt_of_get (M := M1676) o1685; omega
  have ne1854 : (M1029.length + 2) ≠ M1676.length := by have := lt_of_get (M := M1676) o1686; omega
  have ne1855 : ([] : Mem).length ≠ M1676.length := by have := lt_of_get (M := M1676) o1687; omega
  have o1856 : M1846[M1676.length]? = some (.live ⟨.box, 56, 3, [[.int .i64 0, .nils, .nils]]⟩) := push_at hM1847 0 rfl
  refine Ev.nxput (stO rfl rfl o1856 rfl rfl ⟨rfl, ble rfl⟩ rfl rfl) ?_
  intro M1857 hM1858
  have o1859 := set_ne hM1858 ne1852 o1848
  have o1860 := set_ne hM1858 ne1853 o1849
  have o1861 := set_ne hM1858 ne1854 o1850
  have o1862 := set_ne hM1858 ne1855 o1851
  have o1863 : M1857[M1676.length]? = some (.live ⟨.box, 56, 3, [[.int .i64 r1842, .sl none (r1843.map (cI .i64)), .sl none (r1844.map Tally.c)]]⟩) := set_same hM1858 o1856
  refine Ev.nxk (mvO rfl) ?_
  refine Ev.rend ?_
  intro e1864 he1865
  have h1866 := envp (t := 6) he1865 rfl h1734
  have h1867 : eget e1864 7 = .int .i64 0 := envp he1865 rfl h1735
  have h1868 := envp (t := 9) he1865 rfl h1736
  have h1869 := envp (t := 12) he1865 rfl h1737
  have h1870 : eget e1864 14 = .loc M1676.length 1 0 0 := envp he1865 rfl rfl
  have h1871 : eget e1864 15 = .int .i64 0 := envp he1865 rfl rfl
  clear h1732 h1733 h1734 h1735 h1736 h1737 h1738
  refine Ev.kseqN ?_
  refine Ev.seq ?_
  refine Ev.seq ?_
  obtain ⟨r1929, hr1930, h⟩ := bind_some h
  refine Ev.cut (Q1 := laws_FnExactDoDeal_c16_Q r1471 r1472 r1473 r1673 r1674 r1675 M1029.length (M1029.length + 1) (M1029.length + 2) (([] : Mem).length) M1676.length r1929) (by
      have h := hr1930
      refine Ev.reg (fun _ => rfl) ?_
      refine Ev.nxk (ldOA h1870 o1863 rfl rfl (ble rfl) rfl) ?_
      refine Ev.nxk (ldOA h1866 o1862 rfl rfl (ble rfl) rfl) ?_
      obtain ⟨r1873, hx1872, h⟩ := bind_some h
      refine Ev.nxck (Ev.call (v := .bool r1873) rfl (cns rfl (cns rfl rfl)) rfl (laws_eqBook_ok (Book.mk r1842 r1843 r1844) (Book.mk r989 r990 r991) _ hx1872) (fun h => nomatch (show false = true from h))) ?_
      refine Ev.nxk (uNot rfl) ?_
      refine Ev.nxk (mvO rfl) ?_
      rcases ite_some h with ⟨hb1874, h⟩ | ⟨hb1874, h⟩
      ·refine Ev.nxk (guF rfl (congrArg Bool.not hb1874) (mvO h1871)) ?_
       refine Ev.nxk (guF rfl (congrArg Bool.not hb1874) (mvO h1867)) ?_
       refine Ev.nxk (guF rfl (congrArg Bool.not hb1874) (bNeq rfl rfl)) ?_
       refine Ev.nxk (pkF rfl (congrArg Bool.not hb1874) rfl) ?_
       refine Ev.rend ?_
       intro e1875 he1876
       have h1877 := envp (t := 9) he1876 rfl h1868
       have h1878 := envp (t := 12) he1876 rfl h1869
       have h1879 : eget e1875 95 = .bool false := envp he1876 rfl rfl
       clear h1866 h1867 h1868 h1869 h1870 h1871
       cases h
       exact Ev.kid (show laws_FnExactDoDeal_c16_Q r1471 r1472 r1473 r1673 r1674 r1675 M1029.length (M1029.length + 1) (M1029.length + 2) (([] : Mem).length) M1676.length _ _ from (And.intro rfl (And.intro h1877 (And.intro h1878 (And.intro h1879 (And.intro o1859 (And.intro o1860 o1861)))))))
      refine Ev.nxk (gsF rfl (congrArg Bool.not hb1874)) ?_
      refine Ev.nxk (gsF rfl (congrArg Bool.not hb1874)) ?_
      refine Ev.nxk (gsF rfl (congrArg Bool.not hb1874)) ?_
      refine Ev.nxk (pkT rfl (congrArg Bool.not hb1874) rfl) ?_
      refine Ev.rend ?_
      intro e1880 he1881
      have h1882 := envp (t := 9) he1881 rfl h1868
      have h1883 := envp (t := 12) he1881 rfl h1869
      have h1884 : eget e1880 95 = .bool true := envp he1881 rfl rfl
      clear h1866 h1867 h1868 h1869 h1870 h1871
      cases h
      exact Ev.kid (show laws_FnExactDoDeal_c16_Q r1471 r1472 r1473 r1673 r1674 r1675 M1029.length (M1029.length + 1) (M1029.length + 2) (([] : Mem).length) M1676.length _ _ from (And.intro rfl (And.intro h1882 (And.intro h1883 (And.intro h1884 (And.intro o1859 (And.intro o1860 o1861)))))))) ?_
  revert h hr1930
  revert r1929
  intro y1887 hr1930 h
  intro x e1885 M1886 hq1928
  obtain ⟨rfl, h1888, h1889, h1890, o1891, o1892, o1893⟩ := hq1928
  refine Ev.kseqN ?_
  rcases ite_some h with ⟨hb1894, h⟩ | ⟨hb1894, h⟩
  ·refine Ev.condT h1890 hb1894 ?_
   refine Ev.seq ?_
   refine Ev.reg (fun _ => rfl) ?_
   refine Ev.nxk (mvO rfl) ?_
   refine Ev.rend ?_
   intro e1895 he1896
   have h1897 : eget e1895 4 = .bool false := envp he1896 rfl rfl
   clear h1888 h1889 h1890
   refine Ev.kseqN ?_
   refine Ev.ex ?_
   refine Ev.kseqR ?_
   cases h
   exact Ev.kendR (resT h1897 res0) rfl
  refine Ev.condF h1890 hb1894 ?_
  refine Ev.ex ?_
  refine Ev.kseqN ?_
  refine Ev.seq ?_
  refine Ev.reg (fun _ => rfl) ?_
  refine Ev.nxk (mvO rfl) ?_
  refine Ev.rend ?_
  intro e1898 he1899
  have h1900 : eget e1898 9 = .loc (M1029.length + 2) 1 0 0 := envp he1899 rfl h1888
  have h1901 : eget e1898 12 = .int .i64 r1673 := envp he1899 rfl h1889
  have h1902 : eget e1898 13 = .int .i64 1 := envp he1899 rfl rfl
  clear h1888 h1889 h1890
  refine Ev.kseqN ?_
  refine Ev.seq ?_
  refine Ev.reg (fun _ => rfl) ?_
  refine Ev.nxk (ldOA h1900 o1893 rfl rfl (ble rfl) rfl) ?_
  refine Ev.nxk (mvO h1902) ?_
  obtain ⟨r1904, hx1903, h⟩ := bind_some h
  refine Ev.nxck (Ev.call (v := .int .i64 r1904) rfl (cns rfl (cns rfl rfl)) (ra1 (ra_agg (mp1 rfl (mp1 (ra1_row o1891 (by simp [hl1601, hl1602, hl1682, hl1683]) (cI_fl _)) (mp1 (ra1_row o1892 (by simp [hl1601, hl1602, hl1682, hl1683]) Tally.fl) mp0)))) (ra1 rfl ra0)) (laws_heldBook_ok (Book.mk r1471 r1674 r1675) 1 _ hx1903) (fun _ => rfl)) ?_
  refine Ev.nxk (mvO rfl) ?_
  refine Ev.rend ?_
  intro e1905 he1906
  have h1907 := envp (t := 12) he1906 rfl h1901
  have h1908 : eget e1905 13 = .int .i64 r1904 := envp he1906 rfl rfl
  clear h1900 h1901
  refine Ev.kseqN ?_
  refine Ev.seq ?_
  refine Ev.seq ?_
  refine Ev.reg (fun _ => rfl) ?_
  refine Ev.nxk (mvO h1908) ?_
  refine Ev.nxk (bLss rfl rfl) ?_
  refine Ev.rend ?_
  intro e1909 he1910
  have h1911 := envp (t := 12) he1910 rfl h1907
  have h1912 := envp (t := 13) he1910 rfl h1908
  have h1913 : eget e1909 100 = .bool (decide (r1904 < 0)) := envp he1910 rfl rfl
  clear h1907 h1908
  refine Ev.kseqN ?_
  rcases ite_some h with ⟨hb1914, h⟩ | ⟨hb1914, h⟩
  ·refine Ev.condT h1913 hb1914 ?_
   refine Ev.seq ?_
   refine Ev.reg (fun _ => rfl) ?_
   refine Ev.nxk (mvO rfl) ?_
   refine Ev.rend ?_
   intro e1915 he1916
   have h1917 : eget e1915 4 = .bool false := envp he1916 rfl rfl
   clear h1911 h1912 h1913
   refine Ev.kseqN ?_
   refine Ev.ex ?_
   refine Ev.kseqR ?_
   cases h
   exact Ev.kendR (resT h1917 res0) rfl
  refine Ev.condF h1913 hb1914 ?_
  refine Ev.ex ?_
  refine Ev.kseqN ?_
  refine Ev.seq ?_
  refine Ev.seq ?_
  refine Ev.reg (fun _ => rfl) ?_
  refine Ev.nxk (mvO h1912) ?_
  refine Ev.nxk (mvO h1911) ?_
  refine Ev.nxk (bNeq rfl rfl) ?_
  refine Ev.rend ?_
  intro e1918 he1919
  have h1920 : eget e1918 103 = .bool (r1904 != r1673) := envp he1919 rfl rfl
  clear h1911 h1912 h1913
  refine Ev.kseqN ?_
  rcases ite_some h with ⟨hb1921, h⟩ | ⟨hb1921, h⟩
  ·refine Ev.condT h1920 hb1921 ?_
   refine Ev.seq ?_
   refine Ev.reg (fun _ => rfl) ?_
   refine Ev.nxk (mvO rfl) ?_
   refine Ev.rend ?_
   intro e1922 he1923
   have h1924 : eget e1922 4 = .bool false := envp he1923 rfl rfl
   clear h1920
   refine Ev.kseqN ?_
   refine Ev.ex ?_
   refine Ev.kseqR ?_
   cases h
   exact Ev.kendR (resT h1924 res0) rfl
  refine Ev.condF h1920 hb1921 ?_
  refine Ev.ex ?_
  refine Ev.kseqN ?_
  refine Ev.seq ?_
  refine Ev.reg (fun _ => rfl) ?_
  refine Ev.nxk (mvO rfl) ?_
  refine Ev.rend ?_
  intro e1925 he1926
  have h1927 : eget e1925 4 = .bool true := envp he1926 rfl rfl
  clear h1920
  refine Ev.kseqN ?_
  refine Ev.ex ?_
  cases h
  exact Ev.kendR (resT h1927 res0) rfl
 refine Ev.condT h1579 (congrArg Bool.not hb1580) ?_
 refine Ev.seq ?_
 refine Ev.reg (fun _ => rfl) ?_
 refine Ev.nxk (mvO rfl) ?_
 refine Ev.rend ?_
 intro e1935 he1936
 have h1937 : eget e1935 4 = .bool false := envp he1936 rfl rfl
 clear h1572 h1573 h1574 h1575 h1576 h1577 h1578 h1579
 refine Ev.kseqN ?_
 refine Ev.ex ?_
 refine Ev.kseqR ?_
 cases h
 exact Ev.kendR (resT h1937 res0) rfl
end Go.Proofs.Ytfabokkhdalbead

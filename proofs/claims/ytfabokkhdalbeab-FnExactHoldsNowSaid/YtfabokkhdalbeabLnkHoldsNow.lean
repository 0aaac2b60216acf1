/- Printed by a program of ours (ext.py). -/
import Derived.Test.YtfabokkhdalbeabLnkHoldsNowx0
set_option linter.unusedVariables false
set_option maxRecDepth 100000
set_option maxHeartbeats 2000000
namespace Go.Proofs.Ytfabokkhdalbeab
open Go Go.Ab
/-! ### loop.example/g01263/laws.szBook (f8) -/
noncomputable def laws_szBook (a1 : Book) (a2 : Int) : Option Int :=
  (laws_szInt64S a1.Cash a2).bind fun r6 =>
  if (decide (r6 < 0)) = true then
    some (-1)
  else
    (laws_szTallyS a1.Tallies r6).bind fun r21 =>
    if (decide (r21 < 0)) = true then
      some (-1)
    else
      some r21
def laws_szBook_enc (r : Int) : AV := .int .i64 r
theorem laws_szBook_ok (a1 : Book) (a2 : Int) (r : Int) (h : laws_szBook a1 a2 = some r) : Ev (fun k => CN k 8 [.agg [.int .i64 a1.Day, .sl none (a1.Cash.map (cI .i64)), .sl none (a1.Tallies.map Tally.c)], .int .i64 a2] []) (fun p => rRes p.2 p.1 = laws_szBook_enc r) := by
  unfold laws_szBook at h
  refine Ev.enter (F := fun k => f8 (CN k) k) (fun k => callN_eq rfl Try.func8 rfl rfl rfl (by decide +kernel) (f8_eq _ _)) ?_
  refine Ev.seq ?_
  refine Ev.reg (fun _ => rfl) ?_
  refine Ev.nxk (bxI rfl rfl ⟨rfl, rfl, by decide⟩) ?_
  refine Ev.nxk (mvO rfl) ?_
  refine Ev.rend ?_
  intro e1 he2
  have h3 : eget e1 1 = .int .i64 a2 := envp he2 rfl rfl
  have h4 : eget e1 2 = .pt none [.int .i64 a1.Day, .sl none (a1.Cash.map (cI .i64)), .sl none (a1.Tallies.map Tally.c)] := envp he2 rfl rfl
  refine Ev.kseqN ?_
  refine Ev.seq ?_
  refine Ev.reg (fun _ => rfl) ?_
  refine Ev.nxk (faP h4 ⟨ble rfl, blt rfl⟩ rfl) ?_
  refine Ev.nxk (ldP rfl rfl) ?_
  refine Ev.nxk (mvO h3) ?_
  obtain ⟨r6, hx5, h⟩ := bind_some h
  refine Ev.nxck (Ev.call (v := .int .i64 r6) rfl (cns rfl (cns rfl rfl)) rfl (laws_szInt64S_ok a1.Cash a2 _ hx5) (fun h => nomatch (show false = true from h))) ?_
  refine Ev.nxk (mvO rfl) ?_
  refine Ev.rend ?_
  intro e7 he8
  have h9 : eget e7 1 = .int .i64 r6 := envp he8 rfl rfl
  have h10 : eget e7 2 = .pt none [.int .i64 a1.Day, .sl none (a1.Cash.map (cI .i64)), .sl none (a1.Tallies.map Tally.c)] := envp he8 rfl h4
  clear h4
  refine Ev.kseqN ?_
  refine Ev.seq ?_
  refine Ev.seq ?_
  refine Ev.reg (fun _ => rfl) ?_
  refine Ev.nxk (mvO h9) ?_
  refine Ev.nxk (bLss rfl rfl) ?_
  refine Ev.rend ?_
  intro e11 he12
  have h13 : eget e11 1 = .int .i64 r6 := envp he12 rfl h9
  have h14 : eget e11 2 = .pt none [.int .i64 a1.Day, .sl none (a1.Cash.map (cI .i64)), .sl none (a1.Tallies.map Tally.c)] := envp he12 rfl h10
  have h15 : eget e11 10 = .bool (decide (r6 < 0)) := envp he12 rfl rfl
  clear h10 h9
  refine Ev.kseqN ?_
  rcases ite_some h with ⟨hb16, h⟩ | ⟨hb16, h⟩
  · refine Ev.condT h15 hb16 ?_
    refine Ev.seq ?_
    refine Ev.reg (fun _ => rfl) ?_
    refine Ev.nxk (mvO rfl) ?_
    refine Ev.rend ?_
    intro e17 he18
    have h19 : eget e17 4 = .int .i64 (-1) := envp he18 rfl rfl
    clear h13 h14 h15
    refine Ev.kseqN ?_
    refine Ev.ex ?_
    refine Ev.kseqR ?_
    cases h
    exact Ev.kendR (resT h19 res0) rfl
  · refine Ev.condF h15 hb16 ?_
    refine Ev.ex ?_
    refine Ev.kseqN ?_
    refine Ev.seq ?_
    refine Ev.reg (fun _ => rfl) ?_
    refine Ev.nxk (faP h14 ⟨ble rfl, blt rfl⟩ rfl) ?_
    refine Ev.nxk (ldP rfl rfl) ?_
    refine Ev.nxk (mvO h13) ?_
    obtain ⟨r21, hx20, h⟩ := bind_some h
    refine Ev.nxck (Ev.call (v := .int .i64 r21) rfl (cns rfl (cns rfl rfl)) rfl (laws_szTallyS_ok a1.Tallies r6 _ hx20) (fun h => nomatch (show false = true from h))) ?_
    refine Ev.nxk (mvO rfl) ?_
    refine Ev.rend ?_
    intro e22 he23
    have h24 : eget e22 1 = .int .i64 r21 := envp he23 rfl rfl
    clear h14 h15
    refine Ev.kseqN ?_
    refine Ev.seq ?_
    refine Ev.seq ?_
    refine Ev.reg (fun _ => rfl) ?_
    refine Ev.nxk (mvO h24) ?_
    refine Ev.nxk (bLss rfl rfl) ?_
    refine Ev.rend ?_
    intro e25 he26
    have h27 : eget e25 1 = .int .i64 r21 := envp he26 rfl h24
    have h28 : eget e25 16 = .bool (decide (r21 < 0)) := envp he26 rfl rfl
    clear h24
    refine Ev.kseqN ?_
    rcases ite_some h with ⟨hb29, h⟩ | ⟨hb29, h⟩
    · refine Ev.condT h28 hb29 ?_
      refine Ev.seq ?_
      refine Ev.reg (fun _ => rfl) ?_
      refine Ev.nxk (mvO rfl) ?_
      refine Ev.rend ?_
      intro e30 he31
      have h32 : eget e30 4 = .int .i64 (-1) := envp he31 rfl rfl
      clear h27 h28
      refine Ev.kseqN ?_
      refine Ev.ex ?_
      refine Ev.kseqR ?_
      cases h
      exact Ev.kendR (resT h32 res0) rfl
    · refine Ev.condF h28 hb29 ?_
      refine Ev.ex ?_
      refine Ev.kseqN ?_
      refine Ev.seq ?_
      refine Ev.reg (fun _ => rfl) ?_
      refine Ev.nxk (mvO h27) ?_
      refine Ev.nxk (mvO rfl) ?_
      refine Ev.rend ?_
      intro e33 he34
      have h35 : eget e33 4 = .int .i64 r21 := envp he34 rfl rfl
      clear h27 h28
      refine Ev.kseqN ?_
      refine Ev.ex ?_
      cases h
      exact Ev.kendR (resT h35 res0) rfl
/-! ### loop.example/g01263/laws.markInt64S (f15) -/
abbrev laws_markInt64S_l_b1_S := Int × Int × (List Int)
abbrev laws_markInt64S_l_b1_R := Int × (List Int)
def laws_markInt64S_l_b1_RS (a1 : List Int) (j1 : Nat) (M0 : Mem) (s : laws_markInt64S_l_b1_S) (e : Env) (M : Mem) : Prop := eget e 0 = .lsl j1 s.2.2.length 0 s.2.2.length ∧ eget e 1 = .int .i64 s.1 ∧ eget e 5 = .int .i64 s.2.1 ∧ M[j1]? = some (.live ⟨.grow, 2, 1, s.2.2.map (cI .i64)⟩) ∧ Fr [j1] M0 M ∧ s.2.2.length = a1.length
def laws_markInt64S_l_b1_RR (a1 : List Int) (j1 : Nat) (M0 : Mem) (g : laws_markInt64S_l_b1_R) (x : Ex) (e : Env) (M : Mem) : Prop := x = .ext 0 ∧ eget e 1 = .int .i64 g.1 ∧ M[j1]? = some (.live ⟨.grow, 2, 1, g.2.map (cI .i64)⟩) ∧ Fr [j1] M0 M ∧ g.2.length = a1.length
noncomputable def laws_markInt64S_l_b1 : laws_markInt64S_l_b1_S → Option (laws_markInt64S_l_b1_S ⊕ laws_markInt64S_l_b1_R) := fun (s1_1, s1_2, s1_3) =>
  if (decide (s1_2 < (s1_3.length : Int))) = true then
    (rd s1_3 s1_2).bind fun x38 =>
    some (.inl ((IntKind.i64.wrap (s1_1 + 1)), (IntKind.i64.wrap (s1_2 + 1)), (s1_3.set s1_2.toNat s1_1)))
  else
    some (.inr (s1_1, s1_3))
theorem laws_markInt64S_l_b1_ok (a1 : List Int) (j1 : Nat) (M0 : Mem) (s : laws_markInt64S_l_b1_S) (r : laws_markInt64S_l_b1_S ⊕ laws_markInt64S_l_b1_R) (h : laws_markInt64S_l_b1 s = some r) (e : Env) (M : Mem) (hs : laws_markInt64S_l_b1_RS a1 j1 M0 s e M) : Ev (fun k => (f15_l2 (CN k) k (prune [0, 1, 5] e) M).bind fun q => some q) (bQ (laws_markInt64S_l_b1_RS a1 j1 M0) (laws_markInt64S_l_b1_RR a1 j1 M0) r) := by
  obtain ⟨s1_1, s1_2, s1_3⟩ := s
  unfold laws_markInt64S_l_b1 at h
  obtain ⟨h22, h24, h26, o28, fr29, hl30⟩ := hs
  generalize he21 : prune [0, 1, 5] e = e20
  have h23 := envp he21.symm rfl h22
  have h25 := envp he21.symm rfl h24
  have h27 := envp he21.symm rfl h26
  refine Ev.seq ?_
  refine Ev.seq ?_
  refine Ev.reg (fun _ => rfl) ?_
  refine Ev.nxk (mvO h27) ?_
  refine Ev.nxk (mvO h23) ?_
  refine Ev.nxk (lnL Try.underlying22 rfl o28 (by simp [hl30])) ?_
  refine Ev.nxk (bLss rfl rfl) ?_
  refine Ev.rend ?_
  intro e31 he32
  have h33 : eget e31 0 = .lsl j1 s1_3.length 0 s1_3.length := envp he32 rfl h23
  have h34 : eget e31 1 = .int .i64 s1_1 := envp he32 rfl h25
  have h35 : eget e31 5 = .int .i64 s1_2 := envp he32 rfl h27
  have h36 : eget e31 9 = .bool (decide (s1_2 < (s1_3.length : Int))) := envp he32 rfl rfl
  clear h23 h25 h27
  refine Ev.kseqN ?_
  rcases ite_some h with ⟨hb37, h⟩ | ⟨hb37, h⟩
  · refine Ev.condT h36 hb37 ?_
    refine Ev.ex ?_
    refine Ev.kseqN ?_
    refine Ev.seq ?_
    refine Ev.blk ?_
    refine Ev.seq ?_
    refine Ev.reg (fun _ => rfl) ?_
    refine Ev.nxk (mvO h33) ?_
    refine Ev.nxk (mvO h35) ?_
    refine Ev.nxk (mvO h34) ?_
    obtain ⟨x38, hx39, h⟩ := bind_some h
    refine Ev.nxk (ixO rfl o28 rfl rfl (rd_get hx39).1 (rd_lt hx39).2) ?_
    refine Ev.nxput (stR (u := x38) (u' := s1_1) rfl rfl o28 rfl (by rw [Nat.zero_add]; exact (rd_get hx39).2) ⟨rfl, ble rfl⟩ rfl rfl) ?_
    intro M40 hM41
    rw [Nat.zero_add] at hM41
    have o42 : M40[j1]? = some (.live ⟨.grow, 2, 1, (s1_3.set s1_2.toNat s1_1).map (cI .i64)⟩) := set_same hM41 o28
    have fr43 := Fr.setIn fr29 hM41 (by simp)
    refine Ev.rend ?_
    intro e44 he45
    have h46 : eget e44 0 = .lsl j1 s1_3.length 0 s1_3.length := envp he45 rfl h33
    have h47 : eget e44 1 = .int .i64 s1_1 := envp he45 rfl h34
    have h48 : eget e44 5 = .int .i64 s1_2 := envp he45 rfl h35
    clear h33 h34 h35 h36
    refine Ev.kseqN ?_
    refine Ev.reg (fun _ => rfl) ?_
    refine Ev.nxk (mvO h47) ?_
    refine Ev.nxk (bAdd rfl rfl) ?_
    refine Ev.nxk (mvO rfl) ?_
    refine Ev.rend ?_
    intro e49 he50
    have h51 : eget e49 0 = .lsl j1 s1_3.length 0 s1_3.length := envp he50 rfl h46
    have h52 : eget e49 1 = .int .i64 (IntKind.i64.wrap (s1_1 + 1)) := envp he50 rfl rfl
    have h53 : eget e49 5 = .int .i64 s1_2 := envp he50 rfl h48
    clear h46 h48
    refine Ev.kblkN ?_
    refine Ev.kseqN ?_
    refine Ev.reg (fun _ => rfl) ?_
    refine Ev.nxk (mvO h53) ?_
    refine Ev.nxk (bAdd rfl rfl) ?_
    refine Ev.nxk (mvO rfl) ?_
    refine Ev.rend ?_
    intro e54 he55
    have h56 : eget e54 0 = .lsl j1 s1_3.length 0 s1_3.length := envp he55 rfl h51
    have h57 : eget e54 1 = .int .i64 (IntKind.i64.wrap (s1_1 + 1)) := envp he55 rfl h52
    have h58 : eget e54 5 = .int .i64 (IntKind.i64.wrap (s1_2 + 1)) := envp he55 rfl rfl
    clear h51 h52
    cases h
    exact Ev.kid (bQ_n (RS := (laws_markInt64S_l_b1_RS a1 j1 M0)) (RR := (laws_markInt64S_l_b1_RR a1 j1 M0)) (And.intro (lslL (L' := (s1_3.set s1_2.toNat s1_1).length) h56 (by simp [hl30])) (And.intro h57 (And.intro h58 (And.intro o42 (And.intro fr43 (by first | rfl | simp [hl30])))))))
  · refine Ev.condF h36 hb37 ?_
    refine Ev.ex ?_
    refine Ev.kseqE ?_
    cases h
    exact Ev.kid (bQ_x (RS := (laws_markInt64S_l_b1_RS a1 j1 M0)) (RR := (laws_markInt64S_l_b1_RR a1 j1 M0)) (by intro h; cases h) (And.intro rfl (And.intro h34 (And.intro o28 (And.intro fr29 (by first | rfl | simp [hl30]))))))
noncomputable def laws_markInt64S_l (a1 : List Int) (a2 : Int) : Option (Int × (List Int)) :=
  (Lw (laws_markInt64S_l_b1) (a2, 0, a1)).bind fun (y64, y65) =>
  some (y64, y65)
def laws_markInt64S_l_Q (a1 : List Int) (a2 : Int) (j1 : Nat) (M0 : Mem) (r : Int × (List Int)) (p : AV × Mem) : Prop := p.1 = .int .i64 r.1 ∧ p.2[j1]? = some (.live ⟨.grow, 2, 1, r.2.map (cI .i64)⟩) ∧ Fr [j1] M0 p.2 ∧ r.2.length = a1.length
theorem laws_markInt64S_l_ok (a1 : List Int) (a2 : Int) (j1 : Nat) (M0 : Mem) (oP1 : M0[j1]? = some (.live ⟨.grow, 2, 1, a1.map (cI .i64)⟩)) (r : Int × (List Int)) (h : laws_markInt64S_l a1 a2 = some r) : Ev (fun k => CN k 15 [.lsl j1 a1.length 0 a1.length, .int .i64 a2] M0) (laws_markInt64S_l_Q a1 a2 j1 M0 r) := by
  unfold laws_markInt64S_l at h
  have fr0 : Fr [j1] M0 M0 := Fr.refl
  refine Ev.enter (F := fun k => f15 (CN k) k) (fun k => callN_eq rfl Try.func15 rfl rfl rfl (by decide +kernel) (f15_eq _ _)) ?_
  refine Ev.seq ?_
  refine Ev.reg (fun _ => rfl) ?_
  refine Ev.nxk (mvO rfl) ?_
  refine Ev.rend ?_
  intro e1 he2
  have h3 : eget e1 0 = .lsl j1 a1.length 0 a1.length := envp he2 rfl rfl
  have h4 : eget e1 1 = .int .i64 a2 := envp he2 rfl rfl
  refine Ev.kseqN ?_
  refine Ev.seq ?_
  refine Ev.seq ?_
  refine Ev.reg (fun _ => rfl) ?_
  refine Ev.nxk (mvO rfl) ?_
  refine Ev.rend ?_
  intro e5 he6
  have h7 : eget e5 0 = .lsl j1 a1.length 0 a1.length := envp he6 rfl h3
  have h8 : eget e5 1 = .int .i64 a2 := envp he6 rfl h4
  have h9 : eget e5 5 = .int .i64 0 := envp he6 rfl rfl
  clear h3 h4
  refine Ev.kseqN ?_
  refine Ev.blk ?_
  obtain ⟨⟨y64, y65⟩, hr60, h⟩ := bind_some h
  refine Ev.loop (RS := laws_markInt64S_l_b1_RS a1 j1 M0) (RR := laws_markInt64S_l_b1_RR a1 j1 M0) (fun s r h e M hs => laws_markInt64S_l_b1_ok a1 j1 M0 s r h e M hs) hr60 (And.intro h7 (And.intro h8 (And.intro h9 (And.intro oP1 (And.intro fr0 rfl))))) ?_
  intro x e62 M63 hq61
  obtain ⟨rfl, h66, o67, fr68, hl69⟩ := hq61
  refine Ev.kblkE ?_
  refine Ev.kseqN ?_
  refine Ev.seq ?_
  refine Ev.reg (fun _ => rfl) ?_
  refine Ev.nxk (mvO h66) ?_
  refine Ev.nxk (mvO rfl) ?_
  refine Ev.rend ?_
  intro e70 he71
  have h72 : eget e70 4 = .int .i64 y64 := envp he71 rfl rfl
  clear h66
  refine Ev.kseqN ?_
  refine Ev.ex ?_
  cases h
  exact Ev.kendR (resT h72 res0) (And.intro rfl (And.intro o67 (And.intro fr68 (by first | rfl | simp [hl69]))))
/-! ### loop.example/g01263/laws.markTallyS (f38) -/
abbrev laws_markTallyS_l_b1_S := Int × Int × (List Tally)
abbrev laws_markTallyS_l_b1_R := Int × (List Tally)
def laws_markTallyS_l_b1_RS (a1 : List Tally) (j1 : Nat) (M0 : Mem) (s : laws_markTallyS_l_b1_S) (e : Env) (M : Mem) : Prop := eget e 0 = .lsl j1 s.2.2.length 0 s.2.2.length ∧ eget e 1 = .int .i64 s.1 ∧ eget e 5 = .int .i64 s.2.1 ∧ M[j1]? = some (.live ⟨.grow, 78, 5, s.2.2.map Tally.c⟩) ∧ Fr [j1] M0 M ∧ s.2.2.length = a1.length
def laws_markTallyS_l_b1_RR (a1 : List Tally) (j1 : Nat) (M0 : Mem) (g : laws_markTallyS_l_b1_R) (x : Ex) (e : Env) (M : Mem) : Prop := x = .ext 0 ∧ eget e 1 = .int .i64 g.1 ∧ M[j1]? = some (.live ⟨.grow, 78, 5, g.2.map Tally.c⟩) ∧ Fr [j1] M0 M ∧ g.2.length = a1.length
noncomputable def laws_markTallyS_l_b1 : laws_markTallyS_l_b1_S → Option (laws_markTallyS_l_b1_S ⊕ laws_markTallyS_l_b1_R) := fun (s1_1, s1_2, s1_3) =>
  if (decide (s1_2 < (s1_3.length : Int))) = true then
    (rd s1_3 s1_2).bind fun x38 =>
    (rd (s1_3.set s1_2.toNat (Tally.mk s1_1 x38.Holder x38.Cut x38.Amount x38.Left)) s1_2).bind fun x54 =>
    (rd ((s1_3.set s1_2.toNat (Tally.mk s1_1 x38.Holder x38.Cut x38.Amount x38.Left)).set s1_2.toNat (Tally.mk x54.Debtor (IntKind.i64.wrap (s1_1 + 1)) x54.Cut x54.Amount x54.Left)) s1_2).bind fun x70 =>
    (rd (((s1_3.set s1_2.toNat (Tally.mk s1_1 x38.Holder x38.Cut x38.Amount x38.Left)).set s1_2.toNat (Tally.mk x54.Debtor (IntKind.i64.wrap (s1_1 + 1)) x54.Cut x54.Amount x54.Left)).set s1_2.toNat (Tally.mk x70.Debtor x70.Holder (IntKind.i64.wrap ((IntKind.i64.wrap (s1_1 + 1)) + 1)) x70.Amount x70.Left)) s1_2).bind fun x86 =>
    (rd ((((s1_3.set s1_2.toNat (Tally.mk s1_1 x38.Holder x38.Cut x38.Amount x38.Left)).set s1_2.toNat (Tally.mk x54.Debtor (IntKind.i64.wrap (s1_1 + 1)) x54.Cut x54.Amount x54.Left)).set s1_2.toNat (Tally.mk x70.Debtor x70.Holder (IntKind.i64.wrap ((IntKind.i64.wrap (s1_1 + 1)) + 1)) x70.Amount x70.Left)).set s1_2.toNat (Tally.mk x86.Debtor x86.Holder x86.Cut (IntKind.i64.wrap ((IntKind.i64.wrap ((IntKind.i64.wrap (s1_1 + 1)) + 1)) + 1)) x86.Left)) s1_2).bind fun x102 =>
    some (.inl ((IntKind.i64.wrap ((IntKind.i64.wrap ((IntKind.i64.wrap ((IntKind.i64.wrap ((IntKind.i64.wrap (s1_1 + 1)) + 1)) + 1)) + 1)) + 1)), (IntKind.i64.wrap (s1_2 + 1)), (((((s1_3.set s1_2.toNat (Tally.mk s1_1 x38.Holder x38.Cut x38.Amount x38.Left)).set s1_2.toNat (Tally.mk x54.Debtor (IntKind.i64.wrap (s1_1 + 1)) x54.Cut x54.Amount x54.Left)).set s1_2.toNat (Tally.mk x70.Debtor x70.Holder (IntKind.i64.wrap ((IntKind.i64.wrap (s1_1 + 1)) + 1)) x70.Amount x70.Left)).set s1_2.toNat (Tally.mk x86.Debtor x86.Holder x86.Cut (IntKind.i64.wrap ((IntKind.i64.wrap ((IntKind.i64.wrap (s1_1 + 1)) + 1)) + 1)) x86.Left)).set s1_2.toNat (Tally.mk x102.Debtor x102.Holder x102.Cut x102.Amount (IntKind.i64.wrap ((IntKind.i64.wrap ((IntKind.i64.wrap ((IntKind.i64.wrap (s1_1 + 1)) + 1)) + 1)) + 1))))))
  else
    some (.inr (s1_1, s1_3))
theorem laws_markTallyS_l_b1_ok (a1 : List Tally) (j1 : Nat) (M0 : Mem) (s : laws_markTallyS_l_b1_S) (r : laws_markTallyS_l_b1_S ⊕ laws_markTallyS_l_b1_R) (h : laws_markTallyS_l_b1 s = some r) (e : Env) (M : Mem) (hs : laws_markTallyS_l_b1_RS a1 j1 M0 s e M) : Ev (fun k => (f38_l2 (CN k) k (prune [0, 1, 5] e) M).bind fun q => some q) (bQ (laws_markTallyS_l_b1_RS a1 j1 M0) (laws_markTallyS_l_b1_RR a1 j1 M0) r) := by
  obtain ⟨s1_1, s1_2, s1_3⟩ := s
  unfold laws_markTallyS_l_b1 at h
  obtain ⟨h22, h24, h26, o28, fr29, hl30⟩ := hs
  generalize he21 : prune [0, 1, 5] e = e20
  have h23 := envp he21.symm rfl h22
  have h25 := envp he21.symm rfl h24
  have h27 := envp he21.symm rfl h26
  refine Ev.seq ?_
  refine Ev.seq ?_
  refine Ev.reg (fun _ => rfl) ?_
  refine Ev.nxk (mvO h27) ?_
  refine Ev.nxk (mvO h23) ?_
  refine Ev.nxk (lnL Try.underlying29 rfl o28 (by simp [hl30])) ?_
  refine Ev.nxk (bLss rfl rfl) ?_
  refine Ev.rend ?_
  intro e31 he32
  have h33 : eget e31 0 = .lsl j1 s1_3.length 0 s1_3.length := envp he32 rfl h23
  have h34 : eget e31 1 = .int .i64 s1_1 := envp he32 rfl h25
  have h35 : eget e31 5 = .int .i64 s1_2 := envp he32 rfl h27
  have h36 : eget e31 9 = .bool (decide (s1_2 < (s1_3.length : Int))) := envp he32 rfl rfl
  clear h23 h25 h27
  refine Ev.kseqN ?_
  rcases ite_some h with ⟨hb37, h⟩ | ⟨hb37, h⟩
  · refine Ev.condT h36 hb37 ?_
    refine Ev.ex ?_
    refine Ev.kseqN ?_
    refine Ev.seq ?_
    refine Ev.blk ?_
    refine Ev.seq ?_
    refine Ev.reg (fun _ => rfl) ?_
    refine Ev.nxk (mvO h33) ?_
    refine Ev.nxk (mvO h35) ?_
    refine Ev.nxk (mvO h34) ?_
    obtain ⟨x38, hx39, h⟩ := bind_some h
    refine Ev.nxk (ixO rfl o28 rfl rfl (rd_get hx39).1 (rd_lt hx39).2) ?_
    refine Ev.nxk (faO rfl o28 (by simp [hl30])) ?_
    refine Ev.nxput (stR (u := x38) (u' := (Tally.mk s1_1 x38.Holder x38.Cut x38.Amount x38.Left)) rfl rfl o28 rfl (by rw [Nat.zero_add]; exact (rd_get hx39).2) ⟨rfl, ble rfl⟩ rfl rfl) ?_
    intro M40 hM41
    rw [Nat.zero_add] at hM41
    have o42 : M40[j1]? = some (.live ⟨.grow, 78, 5, (s1_3.set s1_2.toNat (Tally.mk s1_1 x38.Holder x38.Cut x38.Amount x38.Left)).map Tally.c⟩) := set_same hM41 o28
    have fr43 := Fr.setIn fr29 hM41 (by simp)
    refine Ev.rend ?_
    intro e44 he45
    have h46 : eget e44 0 = .lsl j1 s1_3.length 0 s1_3.length := envp he45 rfl h33
    have h47 : eget e44 1 = .int .i64 s1_1 := envp he45 rfl h34
    have h48 : eget e44 5 = .int .i64 s1_2 := envp he45 rfl h35
    clear h33 h34 h35 h36
    refine Ev.kseqN ?_
    refine Ev.seq ?_
    refine Ev.reg (fun _ => rfl) ?_
    refine Ev.nxk (mvO h47) ?_
    refine Ev.nxk (bAdd rfl rfl) ?_
    refine Ev.nxk (mvO rfl) ?_
    refine Ev.rend ?_
    intro e49 he50
    have h51 : eget e49 0 = .lsl j1 s1_3.length 0 s1_3.length := envp he50 rfl h46
    have h52 : eget e49 1 = .int .i64 (IntKind.i64.wrap (s1_1 + 1)) := envp he50 rfl rfl
    have h53 : eget e49 5 = .int .i64 s1_2 := envp he50 rfl h48
    clear h46 h48
    refine Ev.kseqN ?_
    refine Ev.seq ?_
    refine Ev.reg (fun _ => rfl) ?_
    refine Ev.nxk (mvO (lslL (L' := (s1_3.set s1_2.toNat (Tally.mk s1_1 x38.Holder x38.Cut x38.Amount x38.Left)).length) h51 (by simp [hl30]))) ?_
    refine Ev.nxk (mvO h53) ?_
    refine Ev.nxk (mvO h52) ?_
    obtain ⟨x54, hx55, h⟩ := bind_some h
    refine Ev.nxk (ixO rfl o42 rfl rfl (rd_get hx55).1 (rd_lt hx55).2) ?_
    refine Ev.nxk (faO rfl o42 (by simp [hl30])) ?_
    refine Ev.nxput (stR (u := x54) (u' := (Tally.mk x54.Debtor (IntKind.i64.wrap (s1_1 + 1)) x54.Cut x54.Amount x54.Left)) rfl rfl o42 rfl (by rw [Nat.zero_add]; exact (rd_get hx55).2) ⟨rfl, ble rfl⟩ rfl rfl) ?_
    intro M56 hM57
    rw [Nat.zero_add] at hM57
    have o58 : M56[j1]? = some (.live ⟨.grow, 78, 5, ((s1_3.set s1_2.toNat (Tally.mk s1_1 x38.Holder x38.Cut x38.Amount x38.Left)).set s1_2.toNat (Tally.mk x54.Debtor (IntKind.i64.wrap (s1_1 + 1)) x54.Cut x54.Amount x54.Left)).map Tally.c⟩) := set_same hM57 o42
    have fr59 := Fr.setIn fr43 hM57 (by simp)
    refine Ev.rend ?_
    intro e60 he61
    have h62 : eget e60 0 = .lsl j1 s1_3.length 0 s1_3.length := envp he61 rfl h51
    have h63 : eget e60 1 = .int .i64 (IntKind.i64.wrap (s1_1 + 1)) := envp he61 rfl h52
    have h64 : eget e60 5 = .int .i64 s1_2 := envp he61 rfl h53
    clear h51 h52 h53
    refine Ev.kseqN ?_
    refine Ev.seq ?_
    refine Ev.reg (fun _ => rfl) ?_
    refine Ev.nxk (mvO h63) ?_
    refine Ev.nxk (bAdd rfl rfl) ?_
    refine Ev.nxk (mvO rfl) ?_
    refine Ev.rend ?_
    intro e65 he66
    have h67 : eget e65 0 = .lsl j1 s1_3.length 0 s1_3.length := envp he66 rfl h62
    have h68 : eget e65 1 = .int .i64 (IntKind.i64.wrap ((IntKind.i64.wrap (s1_1 + 1)) + 1)) := envp he66 rfl rfl
    have h69 : eget e65 5 = .int .i64 s1_2 := envp he66 rfl h64
    clear h62 h64
    refine Ev.kseqN ?_
    refine Ev.seq ?_
    refine Ev.reg (fun _ => rfl) ?_
    refine Ev.nxk (mvO (lslL (L' := ((s1_3.set s1_2.toNat (Tally.mk s1_1 x38.Holder x38.Cut x38.Amount x38.Left)).set s1_2.toNat (Tally.mk x54.Debtor (IntKind.i64.wrap (s1_1 + 1)) x54.Cut x54.Amount x54.Left)).length) h67 (by simp [hl30]))) ?_
    refine Ev.nxk (mvO h69) ?_
    refine Ev.nxk (mvO h68) ?_
    obtain ⟨x70, hx71, h⟩ := bind_some h
    refine Ev.nxk (ixO rfl o58 rfl rfl (rd_get hx71).1 (rd_lt hx71).2) ?_
    refine Ev.nxk (faO rfl o58 (by simp [hl30])) ?_
    refine Ev.nxput (stR (u := x70) (u' := (Tally.mk x70.Debtor x70.Holder (IntKind.i64.wrap ((IntKind.i64.wrap (s1_1 + 1)) + 1)) x70.Amount x70.Left)) rfl rfl o58 rfl (by rw [Nat.zero_add]; exact (rd_get hx71).2) ⟨rfl, ble rfl⟩ rfl rfl) ?_
    intro M72 hM73
    rw [Nat.zero_add] at hM73
    have o74 : M72[j1]? = some (.live ⟨.grow, 78, 5, (((s1_3.set s1_2.toNat (Tally.mk s1_1 x38.Holder x38.Cut x38.Amount x38.Left)).set s1_2.toNat (Tally.mk x54.Debtor (IntKind.i64.wrap (s1_1 + 1)) x54.Cut x54.Amount x54.Left)).set s1_2.toNat (Tally.mk x70.Debtor x70.Holder (IntKind.i64.wrap ((IntKind.i64.wrap (s1_1 + 1)) + 1)) x70.Amount x70.Left)).map Tally.c⟩) := set_same hM73 o58
    have fr75 := Fr.setIn fr59 hM73 (by simp)
    refine Ev.rend ?_
    intro e76 he77
    have h78 : eget e76 0 = .lsl j1 s1_3.length 0 s1_3.length := envp he77 rfl h67
    have h79 : eget e76 1 = .int .i64 (IntKind.i64.wrap ((IntKind.i64.wrap (s1_1 + 1)) + 1)) := envp he77 rfl h68
    have h80 : eget e76 5 = .int .i64 s1_2 := envp he77 rfl h69
    clear h67 h68 h69
    refine Ev.kseqN ?_
    refine Ev.seq ?_
    refine Ev.reg (fun _ => rfl) ?_
    refine Ev.nxk (mvO h79) ?_
    refine Ev.nxk (bAdd rfl rfl) ?_
    refine Ev.nxk (mvO rfl) ?_
    refine Ev.rend ?_
    intro e81 he82
    have h83 : eget e81 0 = .lsl j1 s1_3.length 0 s1_3.length := envp he82 rfl h78
    have h84 : eget e81 1 = .int .i64 (IntKind.i64.wrap ((IntKind.i64.wrap ((IntKind.i64.wrap (s1_1 + 1)) + 1)) + 1)) := envp he82 rfl rfl
    have h85 : eget e81 5 = .int .i64 s1_2 := envp he82 rfl h80
    clear h78 h80
    refine Ev.kseqN ?_
    refine Ev.seq ?_
    refine Ev.reg (fun _ => rfl) ?_
    refine Ev.nxk (mvO (lslL (L' := (((s1_3.set s1_2.toNat (Tally.mk s1_1 x38.Holder x38.Cut x38.Amount x38.Left)).set s1_2.toNat (Tally.mk x54.Debtor (IntKind.i64.wrap (s1_1 + 1)) x54.Cut x54.Amount x54.Left)).set s1_2.toNat (Tally.mk x70.Debtor x70.Holder (IntKind.i64.wrap ((IntKind.i64.wrap (s1_1 + 1)) + 1)) x70.Amount x70.Left)).length) h83 (by simp [hl30]))) ?_
    refine Ev.nxk (mvO h85) ?_
    refine Ev.nxk (mvO h84) ?_
    obtain ⟨x86, hx87, h⟩ := bind_some h
    refine Ev.nxk (ixO rfl o74 rfl rfl (rd_get hx87).1 (rd_lt hx87).2) ?_
    refine Ev.nxk (faO rfl o74 (by simp [hl30])) ?_
    refine Ev.nxput (stR (u := x86) (u' := (Tally.mk x86.Debtor x86.Holder x86.Cut (IntKind.i64.wrap ((IntKind.i64.wrap ((IntKind.i64.wrap (s1_1 + 1)) + 1)) + 1)) x86.Left)) rfl rfl o74 rfl (by rw [Nat.zero_add]; exact (rd_get hx87).2) ⟨rfl, ble rfl⟩ rfl rfl) ?_
    intro M88 hM89
    rw [Nat.zero_add] at hM89
    have o90 : M88[j1]? = some (.live ⟨.grow, 78, 5, ((((s1_3.set s1_2.toNat (Tally.mk s1_1 x38.Holder x38.Cut x38.Amount x38.Left)).set s1_2.toNat (Tally.mk x54.Debtor (IntKind.i64.wrap (s1_1 + 1)) x54.Cut x54.Amount x54.Left)).set s1_2.toNat (Tally.mk x70.Debtor x70.Holder (IntKind.i64.wrap ((IntKind.i64.wrap (s1_1 + 1)) + 1)) x70.Amount x70.Left)).set s1_2.toNat (Tally.mk x86.Debtor x86.Holder x86.Cut (IntKind.i64.wrap ((IntKind.i64.wrap ((IntKind.i64.wrap (s1_1 + 1)) + 1)) + 1)) x86.Left)).map Tally.c⟩) := set_same hM89 o74
    have fr91 := Fr.setIn fr75 hM89 (by simp)
    refine Ev.rend ?_
    intro e92 he93
    have h94 : eget e92 0 = .lsl j1 s1_3.length 0 s1_3.length := envp he93 rfl h83
    have h95 : eget e92 1 = .int .i64 (IntKind.i64.wrap ((IntKind.i64.wrap ((IntKind.i64.wrap (s1_1 + 1)) + 1)) + 1)) := envp he93 rfl h84
    have h96 : eget e92 5 = .int .i64 s1_2 := envp he93 rfl h85
    clear h83 h84 h85
    refine Ev.kseqN ?_
    refine Ev.seq ?_
    refine Ev.reg (fun _ => rfl) ?_
    refine Ev.nxk (mvO h95) ?_
    refine Ev.nxk (bAdd rfl rfl) ?_
    refine Ev.nxk (mvO rfl) ?_
    refine Ev.rend ?_
    intro e97 he98
    have h99 : eget e97 0 = .lsl j1 s1_3.length 0 s1_3.length := envp he98 rfl h94
    have h100 : eget e97 1 = .int .i64 (IntKind.i64.wrap ((IntKind.i64.wrap ((IntKind.i64.wrap ((IntKind.i64.wrap (s1_1 + 1)) + 1)) + 1)) + 1)) := envp he98 rfl rfl
    have h101 : eget e97 5 = .int .i64 s1_2 := envp he98 rfl h96
    clear h94 h96
    refine Ev.kseqN ?_
    refine Ev.seq ?_
    refine Ev.reg (fun _ => rfl) ?_
    refine Ev.nxk (mvO (lslL (L' := ((((s1_3.set s1_2.toNat (Tally.mk s1_1 x38.Holder x38.Cut x38.Amount x38.Left)).set s1_2.toNat (Tally.mk x54.Debtor (IntKind.i64.wrap (s1_1 + 1)) x54.Cut x54.Amount x54.Left)).set s1_2.toNat (Tally.mk x70.Debtor x70.Holder (IntKind.i64.wrap ((IntKind.i64.wrap (s1_1 + 1)) + 1)) x70.Amount x70.Left)).set s1_2.toNat (Tally.mk x86.Debtor x86.Holder x86.Cut (IntKind.i64.wrap ((IntKind.i64.wrap ((IntKind.i64.wrap (s1_1 + 1)) + 1)) + 1)) x86.Left)).length) h99 (by simp [hl30]))) ?_
    refine Ev.nxk (mvO h101) ?_
    refine Ev.nxk (mvO h100) ?_
    obtain ⟨x102, hx103, h⟩ := bind_some h
    refine Ev.nxk (ixO rfl o90 rfl rfl (rd_get hx103).1 (rd_lt hx103).2) ?_
    refine Ev.nxk (faO rfl o90 (by simp [hl30])) ?_
    refine Ev.nxput (stR (u := x102) (u' := (Tally.mk x102.Debtor x102.Holder x102.Cut x102.Amount (IntKind.i64.wrap ((IntKind.i64.wrap ((IntKind.i64.wrap ((IntKind.i64.wrap (s1_1 + 1)) + 1)) + 1)) + 1)))) rfl rfl o90 rfl (by rw [Nat.zero_add]; exact (rd_get hx103).2) ⟨rfl, ble rfl⟩ rfl rfl) ?_
    intro M104 hM105
    rw [Nat.zero_add] at hM105
    have o106 : M104[j1]? = some (.live ⟨.grow, 78, 5, (((((s1_3.set s1_2.toNat (Tally.mk s1_1 x38.Holder x38.Cut x38.Amount x38.Left)).set s1_2.toNat (Tally.mk x54.Debtor (IntKind.i64.wrap (s1_1 + 1)) x54.Cut x54.Amount x54.Left)).set s1_2.toNat (Tally.mk x70.Debtor x70.Holder (IntKind.i64.wrap ((IntKind.i64.wrap (s1_1 + 1)) + 1)) x70.Amount x70.Left)).set s1_2.toNat (Tally.mk x86.Debtor x86.Holder x86.Cut (IntKind.i64.wrap ((IntKind.i64.wrap ((IntKind.i64.wrap (s1_1 + 1)) + 1)) + 1)) x86.Left)).set s1_2.toNat (Tally.mk x102.Debtor x102.Holder x102.Cut x102.Amount (IntKind.i64.wrap ((IntKind.i64.wrap ((IntKind.i64.wrap ((IntKind.i64.wrap (s1_1 + 1)) + 1)) + 1)) + 1)))).map Tally.c⟩) := set_same hM105 o90
    have fr107 := Fr.setIn fr91 hM105 (by simp)
    refine Ev.rend ?_
    intro e108 he109
    have h110 : eget e108 0 = .lsl j1 s1_3.length 0 s1_3.length := envp he109 rfl h99
    have h111 : eget e108 1 = .int .i64 (IntKind.i64.wrap ((IntKind.i64.wrap ((IntKind.i64.wrap ((IntKind.i64.wrap (s1_1 + 1)) + 1)) + 1)) + 1)) := envp he109 rfl h100
    have h112 : eget e108 5 = .int .i64 s1_2 := envp he109 rfl h101
    clear h100 h101 h99
    refine Ev.kseqN ?_
    refine Ev.reg (fun _ => rfl) ?_
    refine Ev.nxk (mvO h111) ?_
    refine Ev.nxk (bAdd rfl rfl) ?_
    refine Ev.nxk (mvO rfl) ?_
    refine Ev.rend ?_
    intro e113 he114
    have h115 : eget e113 0 = .lsl j1 s1_3.length 0 s1_3.length := envp he114 rfl h110
    have h116 : eget e113 1 = .int .i64 (IntKind.i64.wrap ((IntKind.i64.wrap ((IntKind.i64.wrap ((IntKind.i64.wrap ((IntKind.i64.wrap (s1_1 + 1)) + 1)) + 1)) + 1)) + 1)) := envp he114 rfl rfl
    have h117 : eget e113 5 = .int .i64 s1_2 := envp he114 rfl h112
    clear h110 h112
    refine Ev.kblkN ?_
    refine Ev.kseqN ?_
    refine Ev.reg (fun _ => rfl) ?_
    refine Ev.nxk (mvO h117) ?_
    refine Ev.nxk (bAdd rfl rfl) ?_
    refine Ev.nxk (mvO rfl) ?_
    refine Ev.rend ?_
    intro e118 he119
    have h120 : eget e118 0 = .lsl j1 s1_3.length 0 s1_3.length := envp he119 rfl h115
    have h121 : eget e118 1 = .int .i64 (IntKind.i64.wrap ((IntKind.i64.wrap ((IntKind.i64.wrap ((IntKind.i64.wrap ((IntKind.i64.wrap (s1_1 + 1)) + 1)) + 1)) + 1)) + 1)) := envp he119 rfl h116
    have h122 : eget e118 5 = .int .i64 (IntKind.i64.wrap (s1_2 + 1)) := envp he119 rfl rfl
    clear h115 h116
    cases h
    exact Ev.kid (bQ_n (RS := (laws_markTallyS_l_b1_RS a1 j1 M0)) (RR := (laws_markTallyS_l_b1_RR a1 j1 M0)) (And.intro (lslL (L' := (((((s1_3.set s1_2.toNat (Tally.mk s1_1 x38.Holder x38.Cut x38.Amount x38.Left)).set s1_2.toNat (Tally.mk x54.Debtor (IntKind.i64.wrap (s1_1 + 1)) x54.Cut x54.Amount x54.Left)).set s1_2.toNat (Tally.mk x70.Debtor x70.Holder (IntKind.i64.wrap ((IntKind.i64.wrap (s1_1 + 1)) + 1)) x70.Amount x70.Left)).set s1_2.toNat (Tally.mk x86.Debtor x86.Holder x86.Cut (IntKind.i64.wrap ((IntKind.i64.wrap ((IntKind.i64.wrap (s1_1 + 1)) + 1)) + 1)) x86.Left)).set s1_2.toNat (Tally.mk x102.Debtor x102.Holder x102.Cut x102.Amount (IntKind.i64.wrap ((IntKind.i64.wrap ((IntKind.i64.wrap ((IntKind.i64.wrap (s1_1 + 1)) + 1)) + 1)) + 1)))).length) h120 (by simp [hl30])) (And.intro h121 (And.intro h122 (And.intro o106 (And.intro fr107 (by first | rfl | simp [hl30])))))))
  · refine Ev.condF h36 hb37 ?_
    refine Ev.ex ?_
    refine Ev.kseqE ?_
    cases h
    exact Ev.kid (bQ_x (RS := (laws_markTallyS_l_b1_RS a1 j1 M0)) (RR := (laws_markTallyS_l_b1_RR a1 j1 M0)) (by intro h; cases h) (And.intro rfl (And.intro h34 (And.intro o28 (And.intro fr29 (by first | rfl | simp [hl30]))))))
noncomputable def laws_markTallyS_l (a1 : List Tally) (a2 : Int) : Option (Int × (List Tally)) :=
  (Lw (laws_markTallyS_l_b1) (a2, 0, a1)).bind fun (y128, y129) =>
  some (y128, y129)
def laws_markTallyS_l_Q (a1 : List Tally) (a2 : Int) (j1 : Nat) (M0 : Mem) (r : Int × (List Tally)) (p : AV × Mem) : Prop := p.1 = .int .i64 r.1 ∧ p.2[j1]? = some (.live ⟨.grow, 78, 5, r.2.map Tally.c⟩) ∧ Fr [j1] M0 p.2 ∧ r.2.length = a1.length
theorem laws_markTallyS_l_ok (a1 : List Tally) (a2 : Int) (j1 : Nat) (M0 : Mem) (oP1 : M0[j1]? = some (.live ⟨.grow, 78, 5, a1.map Tally.c⟩)) (r : Int × (List Tally)) (h : laws_markTallyS_l a1 a2 = some r) : Ev (fun k => CN k 38 [.lsl j1 a1.length 0 a1.length, .int .i64 a2] M0) (laws_markTallyS_l_Q a1 a2 j1 M0 r) := by
  unfold laws_markTallyS_l at h
  have fr0 : Fr [j1] M0 M0 := Fr.refl
  refine Ev.enter (F := fun k => f38 (CN k) k) (fun k => callN_eq rfl Try.func38 rfl rfl rfl (by decide +kernel) (f38_eq _ _)) ?_
  refine Ev.seq ?_
  refine Ev.reg (fun _ => rfl) ?_
  refine Ev.nxk (mvO rfl) ?_
  refine Ev.rend ?_
  intro e1 he2
  have h3 : eget e1 0 = .lsl j1 a1.length 0 a1.length := envp he2 rfl rfl
  have h4 : eget e1 1 = .int .i64 a2 := envp he2 rfl rfl
  refine Ev.kseqN ?_
  refine Ev.seq ?_
  refine Ev.seq ?_
  refine Ev.reg (fun _ => rfl) ?_
  refine Ev.nxk (mvO rfl) ?_
  refine Ev.rend ?_
  intro e5 he6
  have h7 : eget e5 0 = .lsl j1 a1.length 0 a1.length := envp he6 rfl h3
  have h8 : eget e5 1 = .int .i64 a2 := envp he6 rfl h4
  have h9 : eget e5 5 = .int .i64 0 := envp he6 rfl rfl
  clear h3 h4
  refine Ev.kseqN ?_
  refine Ev.blk ?_
  obtain ⟨⟨y128, y129⟩, hr124, h⟩ := bind_some h
  refine Ev.loop (RS := laws_markTallyS_l_b1_RS a1 j1 M0) (RR := laws_markTallyS_l_b1_RR a1 j1 M0) (fun s r h e M hs => laws_markTallyS_l_b1_ok a1 j1 M0 s r h e M hs) hr124 (And.intro h7 (And.intro h8 (And.intro h9 (And.intro oP1 (And.intro fr0 rfl))))) ?_
  intro x e126 M127 hq125
  obtain ⟨rfl, h130, o131, fr132, hl133⟩ := hq125
  refine Ev.kblkE ?_
  refine Ev.kseqN ?_
  refine Ev.seq ?_
  refine Ev.reg (fun _ => rfl) ?_
  refine Ev.nxk (mvO h130) ?_
  refine Ev.nxk (mvO rfl) ?_
  refine Ev.rend ?_
  intro e134 he135
  have h136 : eget e134 4 = .int .i64 y128 := envp he135 rfl rfl
  clear h130
  refine Ev.kseqN ?_
  refine Ev.ex ?_
  cases h
  exact Ev.kendR (resT h136 res0) (And.intro rfl (And.intro o131 (And.intro fr132 (by first | rfl | simp [hl133]))))
/-! ### loop.example/g01263/laws.markBook (f14) -/
noncomputable def laws_markBook_ll (a1 : Int) (a2 : List Int) (a3 : List Tally) (a4 : Int) : Option (Int × (List Int) × (List Tally)) :=
  (laws_markInt64S_l a2 a4).bind fun (r16, r17) =>
  (laws_markTallyS_l a3 r16).bind fun (r33, r34) =>
  some (r33, r17, r34)
def laws_markBook_ll_Q (a1 : Int) (a2 : List Int) (a3 : List Tally) (a4 : Int) (j1 : Nat) (j2 : Nat) (M0 : Mem) (r : Int × (List Int) × (List Tally)) (p : AV × Mem) : Prop := p.1 = .int .i64 r.1 ∧ p.2[j1]? = some (.live ⟨.grow, 2, 1, r.2.1.map (cI .i64)⟩) ∧ p.2[j2]? = some (.live ⟨.grow, 78, 5, r.2.2.map Tally.c⟩) ∧ Fr [j1, j2] M0 p.2 ∧ r.2.1.length = a2.length ∧ r.2.2.length = a3.length
theorem laws_markBook_ll_ok (a1 : Int) (a2 : List Int) (a3 : List Tally) (a4 : Int) (j1 : Nat) (j2 : Nat) (ne01 : j1 ≠ j2) (M0 : Mem) (oP1 : M0[j1]? = some (.live ⟨.grow, 2, 1, a2.map (cI .i64)⟩)) (oP2 : M0[j2]? = some (.live ⟨.grow, 78, 5, a3.map Tally.c⟩)) (r : Int × (List Int) × (List Tally)) (h : laws_markBook_ll a1 a2 a3 a4 = some r) : Ev (fun k => CN k 14 [.agg [.int .i64 a1, .lsl j1 a2.length 0 a2.length, .lsl j2 a3.length 0 a3.length], .int .i64 a4] M0) (laws_markBook_ll_Q a1 a2 a3 a4 j1 j2 M0 r) := by
  unfold laws_markBook_ll at h
  have fr0 : Fr [j1, j2] M0 M0 := Fr.refl
  refine Ev.enter (F := fun k => f14 (CN k) k) (fun k => callN_eq rfl Try.func14 rfl rfl rfl (by decide +kernel) (f14_eq _ _)) ?_
  refine Ev.seq ?_
  refine Ev.reg (fun _ => rfl) ?_
  refine Ev.nxpush (bxO rfl rfl ⟨rfl, (all1 rfl (all1 (okL oP1 (by simp)) (all1 (okL oP2 (by simp)) all0))), by decide⟩) ?_
  intro M2 hM3
  have nf4 := Nf.mk fr0
  have fr5 := Fr.push fr0 hM3
  have o6 := push_old hM3 oP1
  have ne7 := ne_new oP1
  have o8 := push_old hM3 oP2
  have ne9 := ne_new oP2
  have o10 : M2[M0.length]? = some (.live ⟨.box, 31, 3, [[.int .i64 a1, .lsl j1 a2.length 0 a2.length, .lsl j2 a3.length 0 a3.length]]⟩) := push_new hM3
  refine Ev.nxk (mvO rfl) ?_
  refine Ev.rend ?_
  intro e11 he12
  have h13 : eget e11 1 = .int .i64 a4 := envp he12 rfl rfl
  have h14 : eget e11 2 = .loc M0.length 1 0 0 := envp he12 rfl rfl
  refine Ev.kseqN ?_
  refine Ev.seq ?_
  refine Ev.reg (fun _ => rfl) ?_
  refine Ev.nxk (faO h14 o10 rfl) ?_
  refine Ev.nxk (ldO rfl o10 rfl rfl rfl) ?_
  refine Ev.nxk (mvO h13) ?_
  obtain ⟨⟨r16, r17⟩, hx15, h⟩ := bind_some h
  refine Ev.nxw (Ev.callW rfl (cns rfl (cns rfl rfl)) (laws_markInt64S_l_ok a2 a4 j1 M2 o6 _ hx15)) ?_
  intro v20 M18 hq19
  obtain ⟨hv20, o21, fr22, hl23⟩ := hq19
  have hv20 : v20 = .int .i64 r16 := hv20
  subst hv20
  have o24 : M18[j1]? = some (.live ⟨.grow, 2, 1, r17.map (cI .i64)⟩) := o21
  have hl23 : r17.length = a2.length := hl23
  have o25 : M18[j2]? = some (.live ⟨.grow, 78, 5, a3.map Tally.c⟩) := fr22 _ _ (niC (Ne.symm ne01) niN) o8
  have o26 : M18[M0.length]? = some (.live ⟨.box, 31, 3, [[.int .i64 a1, .lsl j1 a2.length 0 a2.length, .lsl j2 a3.length 0 a3.length]]⟩) := fr22 _ _ (niC (Ne.symm ne7) niN) o10
  have fr27 : Fr [j1, j2] M0 M18 := Fr.call fr5 fr22 (fwI (by simp) fwN)
  refine Ev.nxk (mvO rfl) ?_
  refine Ev.rend ?_
  intro e28 he29
  have h30 : eget e28 1 = .int .i64 r16 := envp he29 rfl rfl
  have h31 : eget e28 2 = .loc M0.length 1 0 0 := envp he29 rfl h14
  clear h14
  refine Ev.kseqN ?_
  refine Ev.seq ?_
  refine Ev.reg (fun _ => rfl) ?_
  refine Ev.nxk (faO h31 o26 rfl) ?_
  refine Ev.nxk (ldO rfl o26 rfl rfl rfl) ?_
  refine Ev.nxk (mvO h30) ?_
  obtain ⟨⟨r33, r34⟩, hx32, h⟩ := bind_some h
  refine Ev.nxw (Ev.callW rfl (cns rfl (cns rfl rfl)) (laws_markTallyS_l_ok a3 r16 j2 M18 o25 _ hx32)) ?_
  intro v37 M35 hq36
  obtain ⟨hv37, o38, fr39, hl40⟩ := hq36
  have hv37 : v37 = .int .i64 r33 := hv37
  subst hv37
  have o41 : M35[j2]? = some (.live ⟨.grow, 78, 5, r34.map Tally.c⟩) := o38
  have hl40 : r34.length = a3.length := hl40
  have o42 : M35[j1]? = some (.live ⟨.grow, 2, 1, r17.map (cI .i64)⟩) := fr39 _ _ (niC ne01 niN) o24
  have o43 : M35[M0.length]? = some (.live ⟨.box, 31, 3, [[.int .i64 a1, .lsl j1 a2.length 0 a2.length, .lsl j2 a3.length 0 a3.length]]⟩) := fr39 _ _ (niC (Ne.symm ne9) niN) o26
  have fr44 : Fr [j1, j2] M0 M35 := Fr.call fr27 fr39 (fwI (by simp) fwN)
  refine Ev.nxk (mvO rfl) ?_
  refine Ev.rend ?_
  intro e45 he46
  have h47 : eget e45 1 = .int .i64 r33 := envp he46 rfl rfl
  clear h31
  refine Ev.kseqN ?_
  refine Ev.seq ?_
  refine Ev.reg (fun _ => rfl) ?_
  refine Ev.nxk (mvO h47) ?_
  refine Ev.nxk (mvO rfl) ?_
  refine Ev.rend ?_
  intro e48 he49
  have h50 : eget e48 4 = .int .i64 r33 := envp he49 rfl rfl
  clear h47
  refine Ev.kseqN ?_
  refine Ev.ex ?_
  cases h
  exact Ev.kendR (resT h50 res0) (And.intro rfl (And.intro o42 (And.intro o41 (And.intro fr44 (And.intro (by first | rfl | simp [hl23, hl40]) (by first | rfl | simp [hl23, hl40]))))))
/-! ### loop.example/g01263/laws.markInt64S (f15) -/
abbrev laws_markInt64S_n_b1_S := Int × Int
abbrev laws_markInt64S_n_b1_R := Int
def laws_markInt64S_n_b1_RS (M0 : Mem) (s : laws_markInt64S_n_b1_S) (e : Env) (M : Mem) : Prop := eget e 0 = .nils ∧ eget e 1 = .int .i64 s.1 ∧ eget e 5 = .int .i64 s.2 ∧ Fr [] M0 M
def laws_markInt64S_n_b1_RR (M0 : Mem) (g : laws_markInt64S_n_b1_R) (x : Ex) (e : Env) (M : Mem) : Prop := x = .ext 0 ∧ eget e 1 = .int .i64 g ∧ Fr [] M0 M
noncomputable def laws_markInt64S_n_b1 : laws_markInt64S_n_b1_S → Option (laws_markInt64S_n_b1_S ⊕ laws_markInt64S_n_b1_R) := fun (s1_1, s1_2) =>
  if (decide (s1_2 < 0)) = true then
    none
  else
    some (.inr s1_1)
theorem laws_markInt64S_n_b1_ok (M0 : Mem) (s : laws_markInt64S_n_b1_S) (r : laws_markInt64S_n_b1_S ⊕ laws_markInt64S_n_b1_R) (h : laws_markInt64S_n_b1 s = some r) (e : Env) (M : Mem) (hs : laws_markInt64S_n_b1_RS M0 s e M) : Ev (fun k => (f15_l2 (CN k) k (prune [0, 1, 5] e) M).bind fun q => some q) (bQ (laws_markInt64S_n_b1_RS M0) (laws_markInt64S_n_b1_RR M0) r) := by
  obtain ⟨s1_1, s1_2⟩ := s
  unfold laws_markInt64S_n_b1 at h
  obtain ⟨h21, h23, h25, fr27⟩ := hs
  generalize he20 : prune [0, 1, 5] e = e19
  have h22 := envp he20.symm rfl h21
  have h24 := envp he20.symm rfl h23
  have h26 := envp he20.symm rfl h25
  refine Ev.seq ?_
  refine Ev.seq ?_
  refine Ev.reg (fun _ => rfl) ?_
  refine Ev.nxk (mvO h26) ?_
  refine Ev.nxk (mvO h22) ?_
  refine Ev.nxk (lnN Try.underlying22 rfl) ?_
  refine Ev.nxk (bLss rfl rfl) ?_
  refine Ev.rend ?_
  intro e28 he29
  have h30 : eget e28 0 = .nils := envp he29 rfl h22
  have h31 : eget e28 1 = .int .i64 s1_1 := envp he29 rfl h24
  have h32 : eget e28 5 = .int .i64 s1_2 := envp he29 rfl h26
  have h33 : eget e28 9 = .bool (decide (s1_2 < 0)) := envp he29 rfl rfl
  clear h22 h24 h26
  refine Ev.kseqN ?_
  rcases ite_some h with ⟨hb34, h⟩ | ⟨hb34, h⟩
  · refine Ev.condT h33 hb34 ?_
    refine Ev.ex ?_
    refine Ev.kseqN ?_
    refine Ev.seq ?_
    refine Ev.blk ?_
    refine Ev.seq ?_
    refine Ev.reg (fun _ => rfl) ?_
    refine Ev.nxk (mvO h30) ?_
    refine Ev.nxk (mvO h32) ?_
    refine Ev.nxk (mvO h31) ?_
    cases h
  · refine Ev.condF h33 hb34 ?_
    refine Ev.ex ?_
    refine Ev.kseqE ?_
    cases h
    exact Ev.kid (bQ_x (RS := (laws_markInt64S_n_b1_RS M0)) (RR := (laws_markInt64S_n_b1_RR M0)) (by intro h; cases h) (And.intro rfl (And.intro h31 fr27)))
noncomputable def laws_markInt64S_n (a1 : Int) : Option Int :=
  (Lw (laws_markInt64S_n_b1) (a1, 0)).bind fun y40 =>
  some y40
def laws_markInt64S_n_Q (a1 : Int) (M0 : Mem) (r : Int) (p : AV × Mem) : Prop := p.1 = .int .i64 r ∧ Fr [] M0 p.2
theorem laws_markInt64S_n_ok (a1 : Int) (M0 : Mem) (r : Int) (h : laws_markInt64S_n a1 = some r) : Ev (fun k => CN k 15 [.nils, .int .i64 a1] M0) (laws_markInt64S_n_Q a1 M0 r) := by
  unfold laws_markInt64S_n at h
  have fr0 : Fr [] M0 M0 := Fr.refl
  refine Ev.enter (F := fun k => f15 (CN k) k) (fun k => callN_eq rfl Try.func15 rfl rfl rfl (by decide +kernel) (f15_eq _ _)) ?_
  refine Ev.seq ?_
  refine Ev.reg (fun _ => rfl) ?_
  refine Ev.nxk (mvO rfl) ?_
  refine Ev.rend ?_
  intro e1 he2
  have h3 : eget e1 0 = .nils := envp he2 rfl rfl
  have h4 : eget e1 1 = .int .i64 a1 := envp he2 rfl rfl
  refine Ev.kseqN ?_
  refine Ev.seq ?_
  refine Ev.seq ?_
  refine Ev.reg (fun _ => rfl) ?_
  refine Ev.nxk (mvO rfl) ?_
  refine Ev.rend ?_
  intro e5 he6
  have h7 : eget e5 0 = .nils := envp he6 rfl h3
  have h8 : eget e5 1 = .int .i64 a1 := envp he6 rfl h4
  have h9 : eget e5 5 = .int .i64 0 := envp he6 rfl rfl
  clear h3 h4
  refine Ev.kseqN ?_
  refine Ev.blk ?_
  obtain ⟨y40, hr36, h⟩ := bind_some h
  refine Ev.loop (RS := laws_markInt64S_n_b1_RS M0) (RR := laws_markInt64S_n_b1_RR M0) (fun s r h e M hs => laws_markInt64S_n_b1_ok M0 s r h e M hs) hr36 (And.intro h7 (And.intro h8 (And.intro h9 fr0))) ?_
  intro x e38 M39 hq37
  obtain ⟨rfl, h41, fr42⟩ := hq37
  refine Ev.kblkE ?_
  refine Ev.kseqN ?_
  refine Ev.seq ?_
  refine Ev.reg (fun _ => rfl) ?_
  refine Ev.nxk (mvO h41) ?_
  refine Ev.nxk (mvO rfl) ?_
  refine Ev.rend ?_
  intro e43 he44
  have h45 : eget e43 4 = .int .i64 y40 := envp he44 rfl rfl
  clear h41
  refine Ev.kseqN ?_
  refine Ev.ex ?_
  cases h
  exact Ev.kendR (resT h45 res0) (And.intro rfl fr42)
/-! ### loop.example/g01263/laws.FnExactHoldsNow (f3) -/
def laws_FnExactHoldsNow_c1_Q (a1 : Book) (a2 : Int) (r31 : List Int) (r32 : Int) (r40 : Int) (r41 : List Int) (r42 : List Tally) (r71 : Int) (i901_1 : Nat) (i901_2 : Nat) (i901_3 : Nat) (g : Bool) (q : Out) : Prop := q.1 = .nrm ∧ eget q.2.1 1 = .int .i64 a2 ∧ eget q.2.1 2 = .pt none [.int .i64 a1.Day, .sl none (a1.Cash.map (cI .i64)), .sl none (a1.Tallies.map Tally.c)] ∧ eget q.2.1 6 = .sl (some 2) (r31.map (cI .i64)) ∧ eget q.2.1 7 = .int .i64 r32 ∧ eget q.2.1 8 = .loc i901_3 1 0 0 ∧ eget q.2.1 9 = .nils ∧ eget q.2.1 10 = .int .i64 r71 ∧ eget q.2.1 44 = .bool g ∧ q.2.2[i901_1]? = some (.live ⟨.grow, 2, 1, r41.map (cI .i64)⟩) ∧ q.2.2[(i901_1 + 1)]? = some (.live ⟨.grow, 78, 5, r42.map Tally.c⟩) ∧ q.2.2[i901_3]? = some (.live ⟨.box, 31, 3, [[.int .i64 r40, .lsl i901_1 r41.length 0 r41.length, .lsl (i901_1 + 1) r42.length 0 r42.length]]⟩)
def laws_FnExactHoldsNow_c2_Q (a1 : Book) (a2 : Int) (r31 : List Int) (r32 : Int) (g : Bool) (q : Out) : Prop := q.1 = .nrm ∧ eget q.2.1 1 = .int .i64 a2 ∧ eget q.2.1 2 = .pt none [.int .i64 a1.Day, .sl none (a1.Cash.map (cI .i64)), .sl none (a1.Tallies.map Tally.c)] ∧ eget q.2.1 6 = .sl (some 2) (r31.map (cI .i64)) ∧ eget q.2.1 7 = .int .i64 r32 ∧ eget q.2.1 9 = .nils ∧ eget q.2.1 65 = .bool g
def laws_FnExactHoldsNow_c3_Q (r228 : Int) (g : Bool) (q : Out) : Prop := q.1 = .nrm ∧ eget q.2.1 9 = .nils ∧ eget q.2.1 12 = .int .i64 r228 ∧ eget q.2.1 92 = .bool g
def laws_FnExactHoldsNow_c4_Q (r228 : Int) (g : Bool) (q : Out) : Prop := q.1 = .nrm ∧ eget q.2.1 9 = .nils ∧ eget q.2.1 12 = .int .i64 r228 ∧ eget q.2.1 92 = .bool g
def laws_FnExactHoldsNow_c5_Q (a1 : Book) (a2 : Int) (r31 : List Int) (r32 : Int) (r40 : Int) (r41 : List Int) (r42 : List Tally) (r433 : List Int) (i905_1 : Nat) (i905_2 : Nat) (i905_3 : Nat) (i905_4 : Nat) (g : Bool) (q : Out) : Prop := q.1 = .nrm ∧ eget q.2.1 1 = .int .i64 a2 ∧ eget q.2.1 2 = .pt none [.int .i64 a1.Day, .sl none (a1.Cash.map (cI .i64)), .sl none (a1.Tallies.map Tally.c)] ∧ eget q.2.1 6 = .sl (some 2) (r31.map (cI .i64)) ∧ eget q.2.1 7 = .int .i64 r32 ∧ eget q.2.1 8 = .loc i905_3 1 0 0 ∧ eget q.2.1 9 = .lsl i905_4 r433.length 0 r433.length ∧ eget q.2.1 10 = .int .i64 0 ∧ eget q.2.1 44 = .bool g ∧ q.2.2[i905_1]? = some (.live ⟨.grow, 2, 1, r41.map (cI .i64)⟩) ∧ q.2.2[i905_4]? = some (.live ⟨.grow, 2, 1, r433.map (cI .i64)⟩) ∧ q.2.2[(i905_1 + 1)]? = some (.live ⟨.grow, 78, 5, r42.map Tally.c⟩) ∧ q.2.2[i905_3]? = some (.live ⟨.box, 31, 3, [[.int .i64 r40, .lsl i905_1 r41.length 0 r41.length, .lsl (i905_1 + 1) r42.length 0 r42.length]]⟩)
def laws_FnExactHoldsNow_c6_Q (a1 : Book) (a2 : Int) (r31 : List Int) (r32 : Int) (r433 : List Int) (i906_1 : Nat) (g : Bool) (q : Out) : Prop := q.1 = .nrm ∧ eget q.2.1 1 = .int .i64 a2 ∧ eget q.2.1 2 = .pt none [.int .i64 a1.Day, .sl none (a1.Cash.map (cI .i64)), .sl none (a1.Tallies.map Tally.c)] ∧ eget q.2.1 6 = .sl (some 2) (r31.map (cI .i64)) ∧ eget q.2.1 7 = .int .i64 r32 ∧ eget q.2.1 9 = .lsl i906_1 r433.length 0 r433.length ∧ eget q.2.1 65 = .bool g ∧ q.2.2[i906_1]? = some (.live ⟨.grow, 2, 1, r433.map (cI .i64)⟩)
def laws_FnExactHoldsNow_c7_Q (r598 : Int) (r599 : List Int) (i907_1 : Nat) (g : Bool) (q : Out) : Prop := q.1 = .nrm ∧ eget q.2.1 9 = .lsl i907_1 r599.length 0 r599.length ∧ eget q.2.1 12 = .int .i64 r598 ∧ eget q.2.1 92 = .bool g ∧ q.2.2[i907_1]? = some (.live ⟨.grow, 2, 1, r599.map (cI .i64)⟩)
def laws_FnExactHoldsNow_c8_Q (r598 : Int) (r599 : List Int) (i908_1 : Nat) (g : Bool) (q : Out) : Prop := q.1 = .nrm ∧ eget q.2.1 9 = .lsl i908_1 r599.length 0 r599.length ∧ eget q.2.1 12 = .int .i64 r598 ∧ eget q.2.1 92 = .bool g ∧ q.2.2[i908_1]? = some (.live ⟨.grow, 2, 1, r599.map (cI .i64)⟩)
noncomputable def laws_FnExactHoldsNow (a1 : Book) (a2 : Int) : Option Bool :=
  (laws_szBook a1 1048576).bind fun r11 =>
  if (decide (r11 < 0)) = true then
    some true
  else
    (laws_toBook a1).bind fun (r27, r28, r29) =>
    (spec_HoldsNow (Book.mk r27 r28 r29) a2).bind fun (r31, r32) =>
    (laws_toBook a1).bind fun (r40, r41, r42) =>
    (impl_HoldsNow (Book.mk r40 r41 r42) a2).bind fun r => match r with
    | (.inl r71) =>
      ((laws_eqInt64S ([] : List Int) r31).bind fun r87 =>
      if r87 = true then
        some (r71 != r32)
      else
        some true).bind fun y111 =>
      if y111 = true then
        some false
      else
        (laws_toBook a1).bind fun (r128, r129, r130) =>
        (laws_eqBook (Book.mk r40 r41 r42) (Book.mk r128 r129 r130)).bind fun r132 =>
        if r132 = true then
          (laws_markBook_ll r40 r41 r42 1).bind fun (r155, r156, r157) =>
          (if (decide (r155 < 0)) = true then
            some true
          else
            (laws_eqInt64S ([] : List Int) r31).bind fun r188 =>
            if r188 = true then
              some (r71 != r32)
            else
              some true).bind fun y208 =>
          if y208 = true then
            some false
          else
            (laws_markInt64S_n 1).bind fun r228 =>
            (laws_heldInt64S ([] : List Int) 1).bind fun r251 =>
            if (decide (r251 < 0)) = true then
              some false
            else
              if (r251 != r228) = true then
                some false
              else
                (laws_toBook a1).bind fun (r289, r290, r291) =>
                (impl_HoldsNow (Book.mk r289 r290 r291) a2).bind fun r => match r with
                | (.inl r293) =>
                  ((laws_eqInt64S ([] : List Int) r31).bind fun r303 =>
                  if r303 = true then
                    some (r293 != r32)
                  else
                    some true).bind fun y317 =>
                  if y317 = true then
                    some false
                  else
                    (laws_heldInt64S ([] : List Int) 1).bind fun r331 =>
                    if (decide (r331 < 0)) = true then
                      some false
                    else
                      if (r331 != r228) = true then
                        some false
                      else
                        some true
                | (.inr r358) =>
                  ((laws_eqInt64S r358 r31).bind fun r368 =>
                  if r368 = true then
                    some (0 != r32)
                  else
                    some true).bind fun y382 =>
                  if y382 = true then
                    some false
                  else
                    (laws_heldInt64S ([] : List Int) 1).bind fun r396 =>
                    if (decide (r396 < 0)) = true then
                      some false
                    else
                      if (r396 != r228) = true then
                        some false
                      else
                        some true
        else
          some false
    | (.inr r433) =>
      ((laws_eqInt64S r433 r31).bind fun r454 =>
      if r454 = true then
        some (0 != r32)
      else
        some true).bind fun y478 =>
      if y478 = true then
        some false
      else
        (laws_toBook a1).bind fun (r496, r497, r498) =>
        (laws_eqBook (Book.mk r40 r41 r42) (Book.mk r496 r497 r498)).bind fun r500 =>
        if r500 = true then
          (laws_markBook_ll r40 r41 r42 1).bind fun (r523, r524, r525) =>
          (if (decide (r523 < 0)) = true then
            some true
          else
            (laws_eqInt64S r433 r31).bind fun r557 =>
            if r557 = true then
              some (0 != r32)
            else
              some true).bind fun y577 =>
          if y577 = true then
            some false
          else
            (laws_markInt64S_l r433 1).bind fun (r598, r599) =>
            (laws_heldInt64S r599 1).bind fun r625 =>
            if (decide (r625 < 0)) = true then
              some false
            else
              if (r625 != r598) = true then
                some false
              else
                (laws_toBook a1).bind fun (r663, r664, r665) =>
                (impl_HoldsNow (Book.mk r663 r664 r665) a2).bind fun r => match r with
                | (.inl r667) =>
                  ((laws_eqInt64S ([] : List Int) r31).bind fun r677 =>
                  if r677 = true then
                    some (r667 != r32)
                  else
                    some true).bind fun y691 =>
                  if y691 = true then
                    some false
                  else
                    (laws_heldInt64S r599 1).bind fun r706 =>
                    if (decide (r706 < 0)) = true then
                      some false
                    else
                      if (r706 != r598) = true then
                        some false
                      else
                        some true
                | (.inr r733) =>
                  ((laws_eqInt64S r733 r31).bind fun r743 =>
                  if r743 = true then
                    some (0 != r32)
                  else
                    some true).bind fun y757 =>
                  if y757 = true then
                    some false
                  else
                    (laws_heldInt64S r599 1).bind fun r772 =>
                    if (decide (r772 < 0)) = true then
                      some false
                    else
                      if (r772 != r598) = true then
                        some false
                      else
                        some true
        else
          some false
def laws_FnExactHoldsNow_enc (r : Bool) : AV := .bool r
theorem laws_FnExactHoldsNow_ok (a1 : Book) (a2 : Int) (r : Bool) (h : laws_FnExactHoldsNow a1 a2 = some r) : Ev (fun k => CN k 3 [.agg [.int .i64 a1.Day, .sl none (a1.Cash.map (cI .i64)), .sl none (a1.Tallies.map Tally.c)], .int .i64 a2] []) (fun p => rRes p.2 p.1 = laws_FnExactHoldsNow_enc r) := by
  unfold laws_FnExactHoldsNow at h
  refine Ev.enter (F := fun k => f3 (CN k) k) (fun k => callN_eq rfl Try.func3 rfl rfl rfl (by decide +kernel) (f3_eq _ _)) ?_
  refine Ev.seq ?_
  refine Ev.reg (fun _ => rfl) ?_
  refine Ev.nxk (bxI rfl rfl ⟨rfl, rfl, by decide⟩) ?_
  refine Ev.nxk (mvO rfl) ?_
  refine Ev.rend ?_
  intro e1 he2
  have h3 : eget e1 1 = .int .i64 a2 := envp he2 rfl rfl
  have h4 : eget e1 2 = .pt none [.int .i64 a1.Day, .sl none (a1.Cash.map (cI .i64)), .sl none (a1.Tallies.map Tally.c)] := envp he2 rfl rfl
  refine Ev.kseqN ?_
  refine Ev.seq ?_
  refine Ev.reg (fun _ => rfl) ?_
  refine Ev.nxk (mvO rfl) ?_
  refine Ev.rend ?_
  intro e5 he6
  have h7 : eget e5 1 = .int .i64 a2 := envp he6 rfl h3
  have h8 : eget e5 2 = .pt none [.int .i64 a1.Day, .sl none (a1.Cash.map (cI .i64)), .sl none (a1.Tallies.map Tally.c)] := envp he6 rfl h4
  have h9 : eget e5 5 = .int .i64 1048576 := envp he6 rfl rfl
  clear h3 h4
  refine Ev.kseqN ?_
  refine Ev.seq ?_
  refine Ev.reg (fun _ => rfl) ?_
  refine Ev.nxk (ldPA h8 rfl rfl) ?_
  refine Ev.nxk (mvO h9) ?_
  obtain ⟨r11, hx10, h⟩ := bind_some h
  refine Ev.nxck (Ev.call (v := .int .i64 r11) rfl (cns rfl (cns rfl rfl)) rfl (laws_szBook_ok a1 1048576 _ hx10) (fun h => nomatch (show false = true from h))) ?_
  refine Ev.nxk (mvO rfl) ?_
  refine Ev.rend ?_
  intro e12 he13
  have h14 : eget e12 1 = .int .i64 a2 := envp he13 rfl h7
  have h15 : eget e12 2 = .pt none [.int .i64 a1.Day, .sl none (a1.Cash.map (cI .i64)), .sl none (a1.Tallies.map Tally.c)] := envp he13 rfl h8
  have h16 : eget e12 5 = .int .i64 r11 := envp he13 rfl rfl
  clear h7 h8
  refine Ev.kseqN ?_
  refine Ev.seq ?_
  refine Ev.seq ?_
  refine Ev.reg (fun _ => rfl) ?_
  refine Ev.nxk (mvO h16) ?_
  refine Ev.nxk (bLss rfl rfl) ?_
  refine Ev.rend ?_
  intro e17 he18
  have h19 : eget e17 1 = .int .i64 a2 := envp he18 rfl h14
  have h20 : eget e17 2 = .pt none [.int .i64 a1.Day, .sl none (a1.Cash.map (cI .i64)), .sl none (a1.Tallies.map Tally.c)] := envp he18 rfl h15
  have h21 : eget e17 20 = .bool (decide (r11 < 0)) := envp he18 rfl rfl
  clear h14 h15 h16
  refine Ev.kseqN ?_
  rcases ite_some h with ⟨hb22, h⟩ | ⟨hb22, h⟩
  · refine Ev.condT h21 hb22 ?_
    refine Ev.seq ?_
    refine Ev.reg (fun _ => rfl) ?_
    refine Ev.nxk (mvO rfl) ?_
    refine Ev.rend ?_
    intro e23 he24
    have h25 : eget e23 4 = .bool true := envp he24 rfl rfl
    clear h19 h20 h21
    refine Ev.kseqN ?_
    refine Ev.ex ?_
    refine Ev.kseqR ?_
    cases h
    exact Ev.kendR (resT h25 res0) rfl
  · refine Ev.condF h21 hb22 ?_
    refine Ev.ex ?_
    refine Ev.kseqN ?_
    refine Ev.seq ?_
    refine Ev.reg (fun _ => rfl) ?_
    refine Ev.nxk (ldPA h20 rfl rfl) ?_
    obtain ⟨⟨r27, r28, r29⟩, hx26, h⟩ := bind_some h
    refine Ev.nxck (Ev.call (v := .agg [.int .i64 r27, .sl (some 2) (r28.map (cI .i64)), .sl (some 78) (r29.map Tally.c)]) rfl (cns rfl rfl) rfl (laws_toBook_ok a1 _ hx26) (fun h => nomatch (show false = true from h))) ?_
    refine Ev.nxk (mvO h19) ?_
    obtain ⟨⟨r31, r32⟩, hx30, h⟩ := bind_some h
    refine Ev.nxck (Ev.call (v := .tup [.sl (some 2) (r31.map (cI .i64)), .int .i64 r32]) rfl (cns rfl (cns rfl rfl)) rfl (spec_HoldsNow_ok (Book.mk r27 r28 r29) a2 _ hx30) (fun h => nomatch (show false = true from h))) ?_
    refine Ev.nxk (mvO rfl) ?_
    refine Ev.nxk (exT rfl rfl) ?_
    refine Ev.nxk (exT rfl rfl) ?_
    refine Ev.nxk (mvO rfl) ?_
    refine Ev.nxk (mvO rfl) ?_
    refine Ev.rend ?_
    intro e33 he34
    have h35 : eget e33 1 = .int .i64 a2 := envp he34 rfl h19
    have h36 : eget e33 2 = .pt none [.int .i64 a1.Day, .sl none (a1.Cash.map (cI .i64)), .sl none (a1.Tallies.map Tally.c)] := envp he34 rfl h20
    have h37 : eget e33 6 = .sl (some 2) (r31.map (cI .i64)) := envp he34 rfl rfl
    have h38 : eget e33 7 = .int .i64 r32 := envp he34 rfl rfl
    clear h19 h20 h21
    refine Ev.kseqN ?_
    refine Ev.seq ?_
    refine Ev.reg (fun _ => rfl) ?_
    refine Ev.nxk (ldPA h36 rfl rfl) ?_
    obtain ⟨⟨r40, r41, r42⟩, hx39, h⟩ := bind_some h
    refine Ev.nxcp (Ev.callT (v := .agg [.int .i64 r40, .sl (some 2) (r41.map (cI .i64)), .sl (some 78) (r42.map Tally.c)]) rfl (cns rfl rfl) rfl (laws_toBook_ok a1 _ hx39) (th_gen (v' := .agg [.int .i64 r40, .lsl ([] : Mem).length r41.length 0 r41.length, .lsl (([] : Mem).length + 1) r42.length 0 r42.length]) (l := [⟨.grow, 2, 1, r41.map (cI .i64)⟩, ⟨.grow, 78, 5, r42.map Tally.c⟩]) (own_agg (oa1 rfl (oa1 (own1_row' (c := (cI .i64)) (fun _ => rfl)) (oa1 (own1_row' (c := Tally.c) Tally.flF) oa0)))) (by simp [thaw, thaw2, thaw1, thawL, co2, co78]) rfl rfl)) ?_
    intro M45 hM46
    have o47 : M45[([] : Mem).length]? = some (.live ⟨.grow, 2, 1, r41.map (cI .i64)⟩) := push_at hM46 0 rfl
    have ne48 : ([] : Mem).length ≠ (([] : Mem).length + 1) := by omega
    have o49 : M45[(([] : Mem).length + 1)]? = some (.live ⟨.grow, 78, 5, r42.map Tally.c⟩) := push_at hM46 1 rfl
    refine Ev.nxpush (alO zero31) ?_
    intro M51 hM52
    have o53 := push_old hM52 o47
    have ne54 := ne_new o47
    have o55 := push_old hM52 o49
    have ne56 := ne_new o49
    have o57 : M51[M45.length]? = some (.live ⟨.box, 31, 3, [[.int .i64 0, .nils, .nils]]⟩) := push_new hM52
    refine Ev.nxput (stO rfl rfl o57 rfl rfl ⟨rfl, ble rfl⟩ (all1 rfl (all1 (okL o53 (by simp)) (all1 (okL o55 (by simp)) all0))) rfl) ?_
    intro M58 hM59
    have o60 := set_ne hM59 ne54 o53
    have o61 := set_ne hM59 ne56 o55
    have o62 : M58[M45.length]? = some (.live ⟨.box, 31, 3, [[.int .i64 r40, .lsl ([] : Mem).length r41.length 0 r41.length, .lsl (([] : Mem).length + 1) r42.length 0 r42.length]]⟩) := set_same hM59 o57
    refine Ev.rend ?_
    intro e63 he64
    have h65 : eget e63 1 = .int .i64 a2 := envp he64 rfl h35
    have h66 : eget e63 2 = .pt none [.int .i64 a1.Day, .sl none (a1.Cash.map (cI .i64)), .sl none (a1.Tallies.map Tally.c)] := envp he64 rfl h36
    have h67 : eget e63 6 = .sl (some 2) (r31.map (cI .i64)) := envp he64 rfl h37
    have h68 : eget e63 7 = .int .i64 r32 := envp he64 rfl h38
    have h69 : eget e63 8 = .loc M45.length 1 0 0 := envp he64 rfl rfl
    clear h35 h36 h37 h38
    refine Ev.kseqN ?_
    refine Ev.seq ?_
    refine Ev.reg (fun _ => rfl) ?_
    refine Ev.nxk (ldOA h69 o62 rfl rfl (ble rfl) rfl) ?_
    refine Ev.nxk (mvO h65) ?_
    obtain ⟨q809, hx70, h⟩ := bind_some h
    rcases q809 with r71 | r433
    · refine Ev.nxcp (Ev.callT (v := .tup [.nils, .int .i64 r71]) rfl (cns rfl (cns rfl rfl)) (ra1 (ra_agg (mp1 rfl (mp1 (ra1_row o60 rfl (cI_fl _)) (mp1 (ra1_row o61 rfl Tally.fl) mp0)))) (ra1 rfl ra0)) (impl_HoldsNow_ok (Book.mk r40 r41 r42) a2 _ hx70) (th_gen (v' := .tup [.nils, .int .i64 r71]) (l := []) (own_tup (oa1 rfl (oa1 rfl oa0))) (by simp [thaw, thaw2, thaw1, thawL, thaw]) rfl rfl)) ?_
      intro M72 hM73
      have o74 := push_old hM73 o60
      have o75 := push_old hM73 o61
      have o76 := push_old hM73 o62
      refine Ev.nxk (mvO rfl) ?_
      refine Ev.nxk (exT rfl rfl) ?_
      refine Ev.nxk (exT rfl rfl) ?_
      refine Ev.nxk (mvO rfl) ?_
      refine Ev.nxk (mvO rfl) ?_
      refine Ev.rend ?_
      intro e77 he78
      have h79 : eget e77 1 = .int .i64 a2 := envp he78 rfl h65
      have h80 : eget e77 2 = .pt none [.int .i64 a1.Day, .sl none (a1.Cash.map (cI .i64)), .sl none (a1.Tallies.map Tally.c)] := envp he78 rfl h66
      have h81 : eget e77 6 = .sl (some 2) (r31.map (cI .i64)) := envp he78 rfl h67
      have h82 : eget e77 7 = .int .i64 r32 := envp he78 rfl h68
      have h83 : eget e77 8 = .loc M45.length 1 0 0 := envp he78 rfl h69
      have h84 : eget e77 9 = .nils := envp he78 rfl rfl
      have h85 : eget e77 10 = .int .i64 r71 := envp he78 rfl rfl
      clear h65 h66 h67 h68 h69
      refine Ev.kseqN ?_
      refine Ev.seq ?_
      refine Ev.seq ?_
      obtain ⟨r431, hr432, h⟩ := bind_some h
      refine Ev.cut (Q1 := laws_FnExactHoldsNow_c1_Q a1 a2 r31 r32 r40 r41 r42 r71 (([] : Mem).length) (([] : Mem).length + 1) M45.length r431) (by
          have h := hr432
          refine Ev.reg (fun _ => rfl) ?_
          refine Ev.nxk (mvO h84) ?_
          refine Ev.nxk (mvO h81) ?_
          obtain ⟨r87, hx86, h⟩ := bind_some h
          refine Ev.nxck (Ev.call (v := .bool r87) rfl (cns rfl (cns rfl rfl)) rfl (laws_eqInt64S_ok ([] : List Int) r31 _ hx86) (fun h => nomatch (show false = true from h))) ?_
          refine Ev.nxk (uNot rfl) ?_
          refine Ev.nxk (mvO rfl) ?_
          rcases ite_some h with ⟨hb88, h⟩ | ⟨hb88, h⟩
          · refine Ev.nxk (guF rfl (congrArg Bool.not hb88) (mvO h85)) ?_
            refine Ev.nxk (guF rfl (congrArg Bool.not hb88) (mvO h82)) ?_
            refine Ev.nxk (guF rfl (congrArg Bool.not hb88) (bNeq rfl rfl)) ?_
            refine Ev.nxk (pkF rfl (congrArg Bool.not hb88) rfl) ?_
            refine Ev.rend ?_
            intro e89 he90
            have h91 : eget e89 1 = .int .i64 a2 := envp he90 rfl h79
            have h92 : eget e89 2 = .pt none [.int .i64 a1.Day, .sl none (a1.Cash.map (cI .i64)), .sl none (a1.Tallies.map Tally.c)] := envp he90 rfl h80
            have h93 : eget e89 6 = .sl (some 2) (r31.map (cI .i64)) := envp he90 rfl h81
            have h94 : eget e89 7 = .int .i64 r32 := envp he90 rfl h82
            have h95 : eget e89 8 = .loc M45.length 1 0 0 := envp he90 rfl h83
            have h96 : eget e89 9 = .nils := envp he90 rfl h84
            have h97 : eget e89 10 = .int .i64 r71 := envp he90 rfl h85
            have h98 : eget e89 44 = .bool (r71 != r32) := envp he90 rfl rfl
            clear h79 h80 h81 h82 h83 h84 h85
            cases h
            exact Ev.kid (show laws_FnExactHoldsNow_c1_Q a1 a2 r31 r32 r40 r41 r42 r71 (([] : Mem).length) (([] : Mem).length + 1) M45.length _ _ from (And.intro rfl (And.intro h91 (And.intro h92 (And.intro h93 (And.intro h94 (And.intro h95 (And.intro h96 (And.intro h97 (And.intro h98 (And.intro o74 (And.intro o75 o76))))))))))))
          · refine Ev.nxk (gsF rfl (congrArg Bool.not hb88)) ?_
            refine Ev.nxk (gsF rfl (congrArg Bool.not hb88)) ?_
            refine Ev.nxk (gsF rfl (congrArg Bool.not hb88)) ?_
            refine Ev.nxk (pkT rfl (congrArg Bool.not hb88) rfl) ?_
            refine Ev.rend ?_
            intro e99 he100
            have h101 : eget e99 1 = .int .i64 a2 := envp he100 rfl h79
            have h102 : eget e99 2 = .pt none [.int .i64 a1.Day, .sl none (a1.Cash.map (cI .i64)), .sl none (a1.Tallies.map Tally.c)] := envp he100 rfl h80
            have h103 : eget e99 6 = .sl (some 2) (r31.map (cI .i64)) := envp he100 rfl h81
            have h104 : eget e99 7 = .int .i64 r32 := envp he100 rfl h82
            have h105 : eget e99 8 = .loc M45.length 1 0 0 := envp he100 rfl h83
            have h106 : eget e99 9 = .nils := envp he100 rfl h84
            have h107 : eget e99 10 = .int .i64 r71 := envp he100 rfl h85
            have h108 : eget e99 44 = .bool true := envp he100 rfl rfl
            clear h79 h80 h81 h82 h83 h84 h85
            cases h
            exact Ev.kid (show laws_FnExactHoldsNow_c1_Q a1 a2 r31 r32 r40 r41 r42 r71 (([] : Mem).length) (([] : Mem).length + 1) M45.length _ _ from (And.intro rfl (And.intro h101 (And.intro h102 (And.intro h103 (And.intro h104 (And.intro h105 (And.intro h106 (And.intro h107 (And.intro h108 (And.intro o74 (And.intro o75 o76))))))))))))) ?_
      revert h hr432
      revert r431
      intro y111 hr432 h
      intro x e109 M110 hq430
      obtain ⟨rfl, h112, h113, h114, h115, h116, h117, h118, h119, o120, o121, o122⟩ := hq430
      refine Ev.kseqN ?_
      rcases ite_some h with ⟨hb123, h⟩ | ⟨hb123, h⟩
      · refine Ev.condT h119 hb123 ?_
        refine Ev.seq ?_
        refine Ev.reg (fun _ => rfl) ?_
        refine Ev.nxk (mvO rfl) ?_
        refine Ev.rend ?_
        intro e124 he125
        have h126 : eget e124 4 = .bool false := envp he125 rfl rfl
        clear h112 h113 h114 h115 h116 h117 h118 h119
        refine Ev.kseqN ?_
        refine Ev.ex ?_
        refine Ev.kseqR ?_
        cases h
        exact Ev.kendR (resT h126 res0) rfl
      · refine Ev.condF h119 hb123 ?_
        refine Ev.ex ?_
        refine Ev.kseqN ?_
        refine Ev.seq ?_
        refine Ev.seq ?_
        refine Ev.regD (fun _ => rfl) ?_
        refine Ev.nfk (ldOA h116 o122 rfl rfl (ble rfl) rfl) ?_
        refine Ev.nfk (ldPA h113 rfl rfl) ?_
        obtain ⟨⟨r128, r129, r130⟩, hx127, h⟩ := bind_some h
        refine Ev.nfc (Ev.call (v := .agg [.int .i64 r128, .sl (some 2) (r129.map (cI .i64)), .sl (some 78) (r130.map Tally.c)]) rfl (cns rfl rfl) rfl (laws_toBook_ok a1 _ hx127) (fun h => nomatch (show false = true from h))) ?_
        obtain ⟨r132, hx131, h⟩ := bind_some h
        refine Ev.nfc (Ev.call (v := .bool r132) rfl (cns rfl (cns rfl rfl)) (ra1 (ra_agg (mp1 rfl (mp1 (ra1_row o120 rfl (cI_fl _)) (mp1 (ra1_row o121 rfl Tally.fl) mp0)))) (ra1 rfl ra0)) (laws_eqBook_ok (Book.mk r40 r41 r42) (Book.mk r128 r129 r130) _ hx131) (fun _ => rfl)) ?_
        refine Ev.nfk (uNot rfl) ?_
        refine Ev.fend0 ?_
        refine Ev.rend ?_
        intro e133 he134
        have h135 : eget e133 1 = .int .i64 a2 := envp he134 rfl h112
        have h136 : eget e133 2 = .pt none [.int .i64 a1.Day, .sl none (a1.Cash.map (cI .i64)), .sl none (a1.Tallies.map Tally.c)] := envp he134 rfl h113
        have h137 : eget e133 6 = .sl (some 2) (r31.map (cI .i64)) := envp he134 rfl h114
        have h138 : eget e133 7 = .int .i64 r32 := envp he134 rfl h115
        have h139 : eget e133 8 = .loc M45.length 1 0 0 := envp he134 rfl h116
        have h140 : eget e133 9 = .nils := envp he134 rfl h117
        have h141 : eget e133 10 = .int .i64 r71 := envp he134 rfl h118
        have h142 : eget e133 49 = .bool (!r132) := envp he134 rfl rfl
        clear h112 h113 h114 h115 h116 h117 h118 h119
        refine Ev.kseqN ?_
        rcases ite_some h with ⟨hb143, h⟩ | ⟨hb143, h⟩
        · refine Ev.condF h142 (congrArg Bool.not hb143) ?_
          refine Ev.ex ?_
          refine Ev.kseqN ?_
          refine Ev.seq ?_
          refine Ev.reg (fun _ => rfl) ?_
          refine Ev.nxk (mvO rfl) ?_
          refine Ev.rend ?_
          intro e144 he145
          have h146 : eget e144 1 = .int .i64 a2 := envp he145 rfl h135
          have h147 : eget e144 2 = .pt none [.int .i64 a1.Day, .sl none (a1.Cash.map (cI .i64)), .sl none (a1.Tallies.map Tally.c)] := envp he145 rfl h136
          have h148 : eget e144 6 = .sl (some 2) (r31.map (cI .i64)) := envp he145 rfl h137
          have h149 : eget e144 7 = .int .i64 r32 := envp he145 rfl h138
          have h150 : eget e144 8 = .loc M45.length 1 0 0 := envp he145 rfl h139
          have h151 : eget e144 9 = .nils := envp he145 rfl h140
          have h152 : eget e144 10 = .int .i64 r71 := envp he145 rfl h141
          have h153 : eget e144 11 = .int .i64 1 := envp he145 rfl rfl
          clear h135 h136 h137 h138 h139 h140 h141 h142
          refine Ev.kseqN ?_
          refine Ev.seq ?_
          refine Ev.reg (fun _ => rfl) ?_
          refine Ev.nxk (ldOA h150 o122 rfl rfl (ble rfl) rfl) ?_
          refine Ev.nxk (mvO h153) ?_
          obtain ⟨⟨r155, r156, r157⟩, hx154, h⟩ := bind_some h
          refine Ev.nxw (Ev.callW rfl (cns rfl (cns rfl rfl)) (laws_markBook_ll_ok r40 r41 r42 1 (([] : Mem).length) (([] : Mem).length + 1) ne48 M110 o120 o121 _ hx154)) ?_
          intro v160 M158 hq159
          obtain ⟨hv160, o161, o162, fr163, hl164, hl165⟩ := hq159
          have hv160 : v160 = .int .i64 r155 := hv160
          subst hv160
          have o166 : M158[([] : Mem).length]? = some (.live ⟨.grow, 2, 1, r156.map (cI .i64)⟩) := o161
          have o167 : M158[(([] : Mem).length + 1)]? = some (.live ⟨.grow, 78, 5, r157.map Tally.c⟩) := o162
          have hl164 : r156.length = r41.length := hl164
          have hl165 : r157.length = r42.length := hl165
          have o168 : M158[M45.length]? = some (.live ⟨.box, 31, 3, [[.int .i64 r40, .lsl ([] : Mem).length r41.length 0 r41.length, .lsl (([] : Mem).length + 1) r42.length 0 r42.length]]⟩) := fr163 _ _ (niC (Ne.symm ne54) (niC (Ne.symm ne56) niN)) o122
          refine Ev.nxk (mvO rfl) ?_
          refine Ev.rend ?_
          intro e169 he170
          have h171 : eget e169 1 = .int .i64 a2 := envp he170 rfl h146
          have h172 : eget e169 2 = .pt none [.int .i64 a1.Day, .sl none (a1.Cash.map (cI .i64)), .sl none (a1.Tallies.map Tally.c)] := envp he170 rfl h147
          have h173 : eget e169 6 = .sl (some 2) (r31.map (cI .i64)) := envp he170 rfl h148
          have h174 : eget e169 7 = .int .i64 r32 := envp he170 rfl h149
          have h175 : eget e169 9 = .nils := envp he170 rfl h151
          have h176 : eget e169 10 = .int .i64 r71 := envp he170 rfl h152
          have h177 : eget e169 11 = .int .i64 r155 := envp he170 rfl rfl
          clear h146 h147 h148 h149 h150 h151 h152
          refine Ev.kseqN ?_
          refine Ev.seq ?_
          refine Ev.seq ?_
          obtain ⟨r425, hr426, h⟩ := bind_some h
          refine Ev.cut (Q1 := laws_FnExactHoldsNow_c2_Q a1 a2 r31 r32 r425) (by
              have h := hr426
              refine Ev.reg (fun _ => rfl) ?_
              refine Ev.nxk (mvO h177) ?_
              refine Ev.nxk (bLss rfl rfl) ?_
              refine Ev.nxk (mvO rfl) ?_
              rcases ite_some h with ⟨hb178, h⟩ | ⟨hb178, h⟩
              · refine Ev.nxk (gsF rfl hb178) ?_
                refine Ev.nxk (gsF rfl hb178) ?_
                refine Ev.nxck (Ev.gsF rfl hb178) ?_
                refine Ev.nxk (gsF rfl hb178) ?_
                refine Ev.nxk (pkT rfl hb178 rfl) ?_
                refine Ev.nxk (mvO rfl) ?_
                refine Ev.nxk (gsF rfl rfl) ?_
                refine Ev.nxk (gsF rfl rfl) ?_
                refine Ev.nxk (gsF rfl rfl) ?_
                refine Ev.nxk (pkT rfl rfl rfl) ?_
                refine Ev.rend ?_
                intro e179 he180
                have h181 : eget e179 1 = .int .i64 a2 := envp he180 rfl h171
                have h182 : eget e179 2 = .pt none [.int .i64 a1.Day, .sl none (a1.Cash.map (cI .i64)), .sl none (a1.Tallies.map Tally.c)] := envp he180 rfl h172
                have h183 : eget e179 6 = .sl (some 2) (r31.map (cI .i64)) := envp he180 rfl h173
                have h184 : eget e179 7 = .int .i64 r32 := envp he180 rfl h174
                have h185 : eget e179 9 = .nils := envp he180 rfl h175
                have h186 : eget e179 65 = .bool true := envp he180 rfl rfl
                clear h171 h172 h173 h174 h175 h176 h177
                cases h
                exact Ev.kid (show laws_FnExactHoldsNow_c2_Q a1 a2 r31 r32 _ _ from (And.intro rfl (And.intro h181 (And.intro h182 (And.intro h183 (And.intro h184 (And.intro h185 h186)))))))
              · refine Ev.nxk (guF rfl hb178 (mvO h175)) ?_
                refine Ev.nxk (guF rfl hb178 (mvO h173)) ?_
                obtain ⟨r188, hx187, h⟩ := bind_some h
                refine Ev.nxck (Ev.guF rfl hb178 (Ev.call (v := .bool r188) rfl (cns rfl (cns rfl rfl)) rfl (laws_eqInt64S_ok ([] : List Int) r31 _ hx187) (fun h => nomatch (show false = true from h)))) ?_
                refine Ev.nxk (guF rfl hb178 (uNot rfl)) ?_
                refine Ev.nxk (pkF rfl hb178 rfl) ?_
                refine Ev.nxk (mvO rfl) ?_
                rcases ite_some h with ⟨hb189, h⟩ | ⟨hb189, h⟩
                · refine Ev.nxk (guF rfl (congrArg Bool.not hb189) (mvO h176)) ?_
                  refine Ev.nxk (guF rfl (congrArg Bool.not hb189) (mvO h174)) ?_
                  refine Ev.nxk (guF rfl (congrArg Bool.not hb189) (bNeq rfl rfl)) ?_
                  refine Ev.nxk (pkF rfl (congrArg Bool.not hb189) rfl) ?_
                  refine Ev.rend ?_
                  intro e190 he191
                  have h192 : eget e190 1 = .int .i64 a2 := envp he191 rfl h171
                  have h193 : eget e190 2 = .pt none [.int .i64 a1.Day, .sl none (a1.Cash.map (cI .i64)), .sl none (a1.Tallies.map Tally.c)] := envp he191 rfl h172
                  have h194 : eget e190 6 = .sl (some 2) (r31.map (cI .i64)) := envp he191 rfl h173
                  have h195 : eget e190 7 = .int .i64 r32 := envp he191 rfl h174
                  have h196 : eget e190 9 = .nils := envp he191 rfl h175
                  have h197 : eget e190 65 = .bool (r71 != r32) := envp he191 rfl rfl
                  clear h171 h172 h173 h174 h175 h176 h177
                  cases h
                  exact Ev.kid (show laws_FnExactHoldsNow_c2_Q a1 a2 r31 r32 _ _ from (And.intro rfl (And.intro h192 (And.intro h193 (And.intro h194 (And.intro h195 (And.intro h196 h197)))))))
                · refine Ev.nxk (gsF rfl (congrArg Bool.not hb189)) ?_
                  refine Ev.nxk (gsF rfl (congrArg Bool.not hb189)) ?_
                  refine Ev.nxk (gsF rfl (congrArg Bool.not hb189)) ?_
                  refine Ev.nxk (pkT rfl (congrArg Bool.not hb189) rfl) ?_
                  refine Ev.rend ?_
                  intro e198 he199
                  have h200 : eget e198 1 = .int .i64 a2 := envp he199 rfl h171
                  have h201 : eget e198 2 = .pt none [.int .i64 a1.Day, .sl none (a1.Cash.map (cI .i64)), .sl none (a1.Tallies.map Tally.c)] := envp he199 rfl h172
                  have h202 : eget e198 6 = .sl (some 2) (r31.map (cI .i64)) := envp he199 rfl h173
                  have h203 : eget e198 7 = .int .i64 r32 := envp he199 rfl h174
                  have h204 : eget e198 9 = .nils := envp he199 rfl h175
                  have h205 : eget e198 65 = .bool true := envp he199 rfl rfl
                  clear h171 h172 h173 h174 h175 h176 h177
                  cases h
                  exact Ev.kid (show laws_FnExactHoldsNow_c2_Q a1 a2 r31 r32 _ _ from (And.intro rfl (And.intro h200 (And.intro h201 (And.intro h202 (And.intro h203 (And.intro h204 h205)))))))) ?_
          revert h hr426
          revert r425
          intro y208 hr426 h
          intro x e206 M207 hq424
          obtain ⟨rfl, h209, h210, h211, h212, h213, h214⟩ := hq424
          refine Ev.kseqN ?_
          rcases ite_some h with ⟨hb215, h⟩ | ⟨hb215, h⟩
          · refine Ev.condT h214 hb215 ?_
            refine Ev.seq ?_
            refine Ev.reg (fun _ => rfl) ?_
            refine Ev.nxk (mvO rfl) ?_
            refine Ev.rend ?_
            intro e216 he217
            have h218 : eget e216 4 = .bool false := envp he217 rfl rfl
            clear h209 h210 h211 h212 h213 h214
            refine Ev.kseqN ?_
            refine Ev.ex ?_
            refine Ev.kseqR ?_
            cases h
            exact Ev.kendR (resT h218 res0) rfl
          · refine Ev.condF h214 hb215 ?_
            refine Ev.ex ?_
            refine Ev.kseqN ?_
            refine Ev.seq ?_
            refine Ev.reg (fun _ => rfl) ?_
            refine Ev.nxk (mvO rfl) ?_
            refine Ev.rend ?_
            intro e219 he220
            have h221 : eget e219 1 = .int .i64 a2 := envp he220 rfl h209
            have h222 : eget e219 2 = .pt none [.int .i64 a1.Day, .sl none (a1.Cash.map (cI .i64)), .sl none (a1.Tallies.map Tally.c)] := envp he220 rfl h210
            have h223 : eget e219 6 = .sl (some 2) (r31.map (cI .i64)) := envp he220 rfl h211
            have h224 : eget e219 7 = .int .i64 r32 := envp he220 rfl h212
            have h225 : eget e219 9 = .nils := envp he220 rfl h213
            have h226 : eget e219 12 = .int .i64 1 := envp he220 rfl rfl
            clear h209 h210 h211 h212 h213 h214
            refine Ev.kseqN ?_
            refine Ev.seq ?_
            refine Ev.reg (fun _ => rfl) ?_
            refine Ev.nxk (mvO h225) ?_
            refine Ev.nxk (mvO h226) ?_
            obtain ⟨r228, hx227, h⟩ := bind_some h
            refine Ev.nxw (Ev.callW rfl (cns rfl (cns rfl rfl)) (laws_markInt64S_n_ok 1 M207 _ hx227)) ?_
            intro v231 M229 hq230
            obtain ⟨hv231, fr232⟩ := hq230
            have hv231 : v231 = .int .i64 r228 := hv231
            subst hv231
            refine Ev.nxk (mvO rfl) ?_
            refine Ev.rend ?_
            intro e233 he234
            have h235 : eget e233 1 = .int .i64 a2 := envp he234 rfl h221
            have h236 : eget e233 2 = .pt none [.int .i64 a1.Day, .sl none (a1.Cash.map (cI .i64)), .sl none (a1.Tallies.map Tally.c)] := envp he234 rfl h222
            have h237 : eget e233 6 = .sl (some 2) (r31.map (cI .i64)) := envp he234 rfl h223
            have h238 : eget e233 7 = .int .i64 r32 := envp he234 rfl h224
            have h239 : eget e233 9 = .nils := envp he234 rfl h225
            have h240 : eget e233 12 = .int .i64 r228 := envp he234 rfl rfl
            clear h221 h222 h223 h224 h225
            refine Ev.kseqN ?_
            refine Ev.seq ?_
            refine Ev.reg (fun _ => rfl) ?_
            refine Ev.nxk (mvO rfl) ?_
            refine Ev.rend ?_
            intro e241 he242
            have h243 : eget e241 1 = .int .i64 a2 := envp he242 rfl h235
            have h244 : eget e241 2 = .pt none [.int .i64 a1.Day, .sl none (a1.Cash.map (cI .i64)), .sl none (a1.Tallies.map Tally.c)] := envp he242 rfl h236
            have h245 : eget e241 6 = .sl (some 2) (r31.map (cI .i64)) := envp he242 rfl h237
            have h246 : eget e241 7 = .int .i64 r32 := envp he242 rfl h238
            have h247 : eget e241 9 = .nils := envp he242 rfl h239
            have h248 : eget e241 12 = .int .i64 r228 := envp he242 rfl h240
            have h249 : eget e241 13 = .int .i64 1 := envp he242 rfl rfl
            clear h235 h236 h237 h238 h239 h240
            refine Ev.kseqN ?_
            refine Ev.seq ?_
            refine Ev.reg (fun _ => rfl) ?_
            refine Ev.nxk (mvO h247) ?_
            refine Ev.nxk (mvO h249) ?_
            obtain ⟨r251, hx250, h⟩ := bind_some h
            refine Ev.nxck (Ev.call (v := .int .i64 r251) rfl (cns rfl (cns rfl rfl)) rfl (laws_heldInt64S_ok ([] : List Int) 1 _ hx250) (fun h => nomatch (show false = true from h))) ?_
            refine Ev.nxk (mvO rfl) ?_
            refine Ev.rend ?_
            intro e252 he253
            have h254 : eget e252 1 = .int .i64 a2 := envp he253 rfl h243
            have h255 : eget e252 2 = .pt none [.int .i64 a1.Day, .sl none (a1.Cash.map (cI .i64)), .sl none (a1.Tallies.map Tally.c)] := envp he253 rfl h244
            have h256 : eget e252 6 = .sl (some 2) (r31.map (cI .i64)) := envp he253 rfl h245
            have h257 : eget e252 7 = .int .i64 r32 := envp he253 rfl h246
            have h258 : eget e252 9 = .nils := envp he253 rfl h247
            have h259 : eget e252 12 = .int .i64 r228 := envp he253 rfl h248
            have h260 : eget e252 13 = .int .i64 r251 := envp he253 rfl rfl
            clear h243 h244 h245 h246 h247 h248
            refine Ev.kseqN ?_
            refine Ev.seq ?_
            refine Ev.seq ?_
            refine Ev.reg (fun _ => rfl) ?_
            refine Ev.nxk (mvO h260) ?_
            refine Ev.nxk (bLss rfl rfl) ?_
            refine Ev.rend ?_
            intro e261 he262
            have h263 : eget e261 1 = .int .i64 a2 := envp he262 rfl h254
            have h264 : eget e261 2 = .pt none [.int .i64 a1.Day, .sl none (a1.Cash.map (cI .i64)), .sl none (a1.Tallies.map Tally.c)] := envp he262 rfl h255
            have h265 : eget e261 6 = .sl (some 2) (r31.map (cI .i64)) := envp he262 rfl h256
            have h266 : eget e261 7 = .int .i64 r32 := envp he262 rfl h257
            have h267 : eget e261 9 = .nils := envp he262 rfl h258
            have h268 : eget e261 12 = .int .i64 r228 := envp he262 rfl h259
            have h269 : eget e261 13 = .int .i64 r251 := envp he262 rfl h260
            have h270 : eget e261 73 = .bool (decide (r251 < 0)) := envp he262 rfl rfl
            clear h254 h255 h256 h257 h258 h259 h260
            refine Ev.kseqN ?_
            rcases ite_some h with ⟨hb271, h⟩ | ⟨hb271, h⟩
            · refine Ev.condT h270 hb271 ?_
              refine Ev.seq ?_
              refine Ev.reg (fun _ => rfl) ?_
              refine Ev.nxk (mvO rfl) ?_
              refine Ev.rend ?_
              intro e272 he273
              have h274 : eget e272 4 = .bool false := envp he273 rfl rfl
              clear h263 h264 h265 h266 h267 h268 h269 h270
              refine Ev.kseqN ?_
              refine Ev.ex ?_
              refine Ev.kseqR ?_
              cases h
              exact Ev.kendR (resT h274 res0) rfl
            · refine Ev.condF h270 hb271 ?_
              refine Ev.ex ?_
              refine Ev.kseqN ?_
              refine Ev.seq ?_
              refine Ev.seq ?_
              refine Ev.reg (fun _ => rfl) ?_
              refine Ev.nxk (mvO h269) ?_
              refine Ev.nxk (mvO h268) ?_
              refine Ev.nxk (bNeq rfl rfl) ?_
              refine Ev.rend ?_
              intro e275 he276
              have h277 : eget e275 1 = .int .i64 a2 := envp he276 rfl h263
              have h278 : eget e275 2 = .pt none [.int .i64 a1.Day, .sl none (a1.Cash.map (cI .i64)), .sl none (a1.Tallies.map Tally.c)] := envp he276 rfl h264
              have h279 : eget e275 6 = .sl (some 2) (r31.map (cI .i64)) := envp he276 rfl h265
              have h280 : eget e275 7 = .int .i64 r32 := envp he276 rfl h266
              have h281 : eget e275 9 = .nils := envp he276 rfl h267
              have h282 : eget e275 12 = .int .i64 r228 := envp he276 rfl h268
              have h283 : eget e275 76 = .bool (r251 != r228) := envp he276 rfl rfl
              clear h263 h264 h265 h266 h267 h268 h269 h270
              refine Ev.kseqN ?_
              rcases ite_some h with ⟨hb284, h⟩ | ⟨hb284, h⟩
              · refine Ev.condT h283 hb284 ?_
                refine Ev.seq ?_
                refine Ev.reg (fun _ => rfl) ?_
                refine Ev.nxk (mvO rfl) ?_
                refine Ev.rend ?_
                intro e285 he286
                have h287 : eget e285 4 = .bool false := envp he286 rfl rfl
                clear h277 h278 h279 h280 h281 h282 h283
                refine Ev.kseqN ?_
                refine Ev.ex ?_
                refine Ev.kseqR ?_
                cases h
                exact Ev.kendR (resT h287 res0) rfl
              · refine Ev.condF h283 hb284 ?_
                refine Ev.ex ?_
                refine Ev.kseqN ?_
                refine Ev.seq ?_
                refine Ev.reg (fun _ => rfl) ?_
                refine Ev.nxk (ldPA h278 rfl rfl) ?_
                obtain ⟨⟨r289, r290, r291⟩, hx288, h⟩ := bind_some h
                refine Ev.nxck (Ev.call (v := .agg [.int .i64 r289, .sl (some 2) (r290.map (cI .i64)), .sl (some 78) (r291.map Tally.c)]) rfl (cns rfl rfl) rfl (laws_toBook_ok a1 _ hx288) (fun h => nomatch (show false = true from h))) ?_
                refine Ev.nxk (mvO h277) ?_
                obtain ⟨q423, hx292, h⟩ := bind_some h
                rcases q423 with r293 | r358
                · refine Ev.nxck (Ev.call (v := .tup [.nils, .int .i64 r293]) rfl (cns rfl (cns rfl rfl)) rfl (impl_HoldsNow_ok (Book.mk r289 r290 r291) a2 _ hx292) (fun h => nomatch (show false = true from h))) ?_
                  refine Ev.nxk (mvO rfl) ?_
                  refine Ev.nxk (exT rfl rfl) ?_
                  refine Ev.nxk (exT rfl rfl) ?_
                  refine Ev.nxk (mvO rfl) ?_
                  refine Ev.nxk (mvO rfl) ?_
                  refine Ev.rend ?_
                  intro e294 he295
                  have h296 : eget e294 6 = .sl (some 2) (r31.map (cI .i64)) := envp he295 rfl h279
                  have h297 : eget e294 7 = .int .i64 r32 := envp he295 rfl h280
                  have h298 : eget e294 9 = .nils := envp he295 rfl h281
                  have h299 : eget e294 12 = .int .i64 r228 := envp he295 rfl h282
                  have h300 : eget e294 14 = .nils := envp he295 rfl rfl
                  have h301 : eget e294 15 = .int .i64 r293 := envp he295 rfl rfl
                  clear h277 h278 h279 h280 h281 h282 h283
                  refine Ev.kseqN ?_
                  refine Ev.seq ?_
                  refine Ev.seq ?_
                  obtain ⟨r356, hr357, h⟩ := bind_some h
                  refine Ev.cut (Q1 := laws_FnExactHoldsNow_c3_Q r228 r356) (by
                      have h := hr357
                      refine Ev.reg (fun _ => rfl) ?_
                      refine Ev.nxk (mvO h300) ?_
                      refine Ev.nxk (mvO h296) ?_
                      obtain ⟨r303, hx302, h⟩ := bind_some h
                      refine Ev.nxck (Ev.call (v := .bool r303) rfl (cns rfl (cns rfl rfl)) rfl (laws_eqInt64S_ok ([] : List Int) r31 _ hx302) (fun h => nomatch (show false = true from h))) ?_
                      refine Ev.nxk (uNot rfl) ?_
                      refine Ev.nxk (mvO rfl) ?_
                      rcases ite_some h with ⟨hb304, h⟩ | ⟨hb304, h⟩
                      · refine Ev.nxk (guF rfl (congrArg Bool.not hb304) (mvO h301)) ?_
                        refine Ev.nxk (guF rfl (congrArg Bool.not hb304) (mvO h297)) ?_
                        refine Ev.nxk (guF rfl (congrArg Bool.not hb304) (bNeq rfl rfl)) ?_
                        refine Ev.nxk (pkF rfl (congrArg Bool.not hb304) rfl) ?_
                        refine Ev.rend ?_
                        intro e305 he306
                        have h307 : eget e305 9 = .nils := envp he306 rfl h298
                        have h308 : eget e305 12 = .int .i64 r228 := envp he306 rfl h299
                        have h309 : eget e305 92 = .bool (r293 != r32) := envp he306 rfl rfl
                        clear h296 h297 h298 h299 h300 h301
                        cases h
                        exact Ev.kid (show laws_FnExactHoldsNow_c3_Q r228 _ _ from (And.intro rfl (And.intro h307 (And.intro h308 h309))))
                      · refine Ev.nxk (gsF rfl (congrArg Bool.not hb304)) ?_
                        refine Ev.nxk (gsF rfl (congrArg Bool.not hb304)) ?_
                        refine Ev.nxk (gsF rfl (congrArg Bool.not hb304)) ?_
                        refine Ev.nxk (pkT rfl (congrArg Bool.not hb304) rfl) ?_
                        refine Ev.rend ?_
                        intro e310 he311
                        have h312 : eget e310 9 = .nils := envp he311 rfl h298
                        have h313 : eget e310 12 = .int .i64 r228 := envp he311 rfl h299
                        have h314 : eget e310 92 = .bool true := envp he311 rfl rfl
                        clear h296 h297 h298 h299 h300 h301
                        cases h
                        exact Ev.kid (show laws_FnExactHoldsNow_c3_Q r228 _ _ from (And.intro rfl (And.intro h312 (And.intro h313 h314))))) ?_
                  revert h hr357
                  revert r356
                  intro y317 hr357 h
                  intro x e315 M316 hq355
                  obtain ⟨rfl, h318, h319, h320⟩ := hq355
                  refine Ev.kseqN ?_
                  rcases ite_some h with ⟨hb321, h⟩ | ⟨hb321, h⟩
                  · refine Ev.condT h320 hb321 ?_
                    refine Ev.seq ?_
                    refine Ev.reg (fun _ => rfl) ?_
                    refine Ev.nxk (mvO rfl) ?_
                    refine Ev.rend ?_
                    intro e322 he323
                    have h324 : eget e322 4 = .bool false := envp he323 rfl rfl
                    clear h318 h319 h320
                    refine Ev.kseqN ?_
                    refine Ev.ex ?_
                    refine Ev.kseqR ?_
                    cases h
                    exact Ev.kendR (resT h324 res0) rfl
                  · refine Ev.condF h320 hb321 ?_
                    refine Ev.ex ?_
                    refine Ev.kseqN ?_
                    refine Ev.seq ?_
                    refine Ev.reg (fun _ => rfl) ?_
                    refine Ev.nxk (mvO rfl) ?_
                    refine Ev.rend ?_
                    intro e325 he326
                    have h327 : eget e325 9 = .nils := envp he326 rfl h318
                    have h328 : eget e325 12 = .int .i64 r228 := envp he326 rfl h319
                    have h329 : eget e325 13 = .int .i64 1 := envp he326 rfl rfl
                    clear h318 h319 h320
                    refine Ev.kseqN ?_
                    refine Ev.seq ?_
                    refine Ev.reg (fun _ => rfl) ?_
                    refine Ev.nxk (mvO h327) ?_
                    refine Ev.nxk (mvO h329) ?_
                    obtain ⟨r331, hx330, h⟩ := bind_some h
                    refine Ev.nxck (Ev.call (v := .int .i64 r331) rfl (cns rfl (cns rfl rfl)) rfl (laws_heldInt64S_ok ([] : List Int) 1 _ hx330) (fun h => nomatch (show false = true from h))) ?_
                    refine Ev.nxk (mvO rfl) ?_
                    refine Ev.rend ?_
                    intro e332 he333
                    have h334 : eget e332 12 = .int .i64 r228 := envp he333 rfl h328
                    have h335 : eget e332 13 = .int .i64 r331 := envp he333 rfl rfl
                    clear h327 h328
                    refine Ev.kseqN ?_
                    refine Ev.seq ?_
                    refine Ev.seq ?_
                    refine Ev.reg (fun _ => rfl) ?_
                    refine Ev.nxk (mvO h335) ?_
                    refine Ev.nxk (bLss rfl rfl) ?_
                    refine Ev.rend ?_
                    intro e336 he337
                    have h338 : eget e336 12 = .int .i64 r228 := envp he337 rfl h334
                    have h339 : eget e336 13 = .int .i64 r331 := envp he337 rfl h335
                    have h340 : eget e336 97 = .bool (decide (r331 < 0)) := envp he337 rfl rfl
                    clear h334 h335
                    refine Ev.kseqN ?_
                    rcases ite_some h with ⟨hb341, h⟩ | ⟨hb341, h⟩
                    · refine Ev.condT h340 hb341 ?_
                      refine Ev.seq ?_
                      refine Ev.reg (fun _ => rfl) ?_
                      refine Ev.nxk (mvO rfl) ?_
                      refine Ev.rend ?_
                      intro e342 he343
                      have h344 : eget e342 4 = .bool false := envp he343 rfl rfl
                      clear h338 h339 h340
                      refine Ev.kseqN ?_
                      refine Ev.ex ?_
                      refine Ev.kseqR ?_
                      cases h
                      exact Ev.kendR (resT h344 res0) rfl
                    · refine Ev.condF h340 hb341 ?_
                      refine Ev.ex ?_
                      refine Ev.kseqN ?_
                      refine Ev.seq ?_
                      refine Ev.seq ?_
                      refine Ev.reg (fun _ => rfl) ?_
                      refine Ev.nxk (mvO h339) ?_
                      refine Ev.nxk (mvO h338) ?_
                      refine Ev.nxk (bNeq rfl rfl) ?_
                      refine Ev.rend ?_
                      intro e345 he346
                      have h347 : eget e345 100 = .bool (r331 != r228) := envp he346 rfl rfl
                      clear h338 h339 h340
                      refine Ev.kseqN ?_
                      rcases ite_some h with ⟨hb348, h⟩ | ⟨hb348, h⟩
                      · refine Ev.condT h347 hb348 ?_
                        refine Ev.seq ?_
                        refine Ev.reg (fun _ => rfl) ?_
                        refine Ev.nxk (mvO rfl) ?_
                        refine Ev.rend ?_
                        intro e349 he350
                        have h351 : eget e349 4 = .bool false := envp he350 rfl rfl
                        clear h347
                        refine Ev.kseqN ?_
                        refine Ev.ex ?_
                        refine Ev.kseqR ?_
                        cases h
                        exact Ev.kendR (resT h351 res0) rfl
                      · refine Ev.condF h347 hb348 ?_
                        refine Ev.ex ?_
                        refine Ev.kseqN ?_
                        refine Ev.seq ?_
                        refine Ev.reg (fun _ => rfl) ?_
                        refine Ev.nxk (mvO rfl) ?_
                        refine Ev.rend ?_
                        intro e352 he353
                        have h354 : eget e352 4 = .bool true := envp he353 rfl rfl
                        clear h347
                        refine Ev.kseqN ?_
                        refine Ev.ex ?_
                        cases h
                        exact Ev.kendR (resT h354 res0) rfl
                · refine Ev.nxck (Ev.call (v := .tup [.sl (some 2) (r358.map (cI .i64)), .int .i64 0]) rfl (cns rfl (cns rfl rfl)) rfl (impl_HoldsNow_ok (Book.mk r289 r290 r291) a2 _ hx292) (fun h => nomatch (show false = true from h))) ?_
                  refine Ev.nxk (mvO rfl) ?_
                  refine Ev.nxk (exT rfl rfl) ?_
                  refine Ev.nxk (exT rfl rfl) ?_
                  refine Ev.nxk (mvO rfl) ?_
                  refine Ev.nxk (mvO rfl) ?_
                  refine Ev.rend ?_
                  intro e359 he360
                  have h361 : eget e359 6 = .sl (some 2) (r31.map (cI .i64)) := envp he360 rfl h279
                  have h362 : eget e359 7 = .int .i64 r32 := envp he360 rfl h280
                  have h363 : eget e359 9 = .nils := envp he360 rfl h281
                  have h364 : eget e359 12 = .int .i64 r228 := envp he360 rfl h282
                  have h365 : eget e359 14 = .sl (some 2) (r358.map (cI .i64)) := envp he360 rfl rfl
                  have h366 : eget e359 15 = .int .i64 0 := envp he360 rfl rfl
                  clear h277 h278 h279 h280 h281 h282 h283
                  refine Ev.kseqN ?_
                  refine Ev.seq ?_
                  refine Ev.seq ?_
                  obtain ⟨r421, hr422, h⟩ := bind_some h
                  refine Ev.cut (Q1 := laws_FnExactHoldsNow_c4_Q r228 r421) (by
                      have h := hr422
                      refine Ev.reg (fun _ => rfl) ?_
                      refine Ev.nxk (mvO h365) ?_
                      refine Ev.nxk (mvO h361) ?_
                      obtain ⟨r368, hx367, h⟩ := bind_some h
                      refine Ev.nxck (Ev.call (v := .bool r368) rfl (cns rfl (cns rfl rfl)) rfl (laws_eqInt64S_ok r358 r31 _ hx367) (fun h => nomatch (show false = true from h))) ?_
                      refine Ev.nxk (uNot rfl) ?_
                      refine Ev.nxk (mvO rfl) ?_
                      rcases ite_some h with ⟨hb369, h⟩ | ⟨hb369, h⟩
                      · refine Ev.nxk (guF rfl (congrArg Bool.not hb369) (mvO h366)) ?_
                        refine Ev.nxk (guF rfl (congrArg Bool.not hb369) (mvO h362)) ?_
                        refine Ev.nxk (guF rfl (congrArg Bool.not hb369) (bNeq rfl rfl)) ?_
                        refine Ev.nxk (pkF rfl (congrArg Bool.not hb369) rfl) ?_
                        refine Ev.rend ?_
                        intro e370 he371
                        have h372 : eget e370 9 = .nils := envp he371 rfl h363
                        have h373 : eget e370 12 = .int .i64 r228 := envp he371 rfl h364
                        have h374 : eget e370 92 = .bool (0 != r32) := envp he371 rfl rfl
                        clear h361 h362 h363 h364 h365 h366
                        cases h
                        exact Ev.kid (show laws_FnExactHoldsNow_c4_Q r228 _ _ from (And.intro rfl (And.intro h372 (And.intro h373 h374))))
                      · refine Ev.nxk (gsF rfl (congrArg Bool.not hb369)) ?_
                        refine Ev.nxk (gsF rfl (congrArg Bool.not hb369)) ?_
                        refine Ev.nxk (gsF rfl (congrArg Bool.not hb369)) ?_
                        refine Ev.nxk (pkT rfl (congrArg Bool.not hb369) rfl) ?_
                        refine Ev.rend ?_
                        intro e375 he376
                        have h377 : eget e375 9 = .nils := envp he376 rfl h363
                        have h378 : eget e375 12 = .int .i64 r228 := envp he376 rfl h364
                        have h379 : eget e375 92 = .bool true := envp he376 rfl rfl
                        clear h361 h362 h363 h364 h365 h366
                        cases h
                        exact Ev.kid (show laws_FnExactHoldsNow_c4_Q r228 _ _ from (And.intro rfl (And.intro h377 (And.intro h378 h379))))) ?_
                  revert h hr422
                  revert r421
                  intro y382 hr422 h
                  intro x e380 M381 hq420
                  obtain ⟨rfl, h383, h384, h385⟩ := hq420
                  refine Ev.kseqN ?_
                  rcases ite_some h with ⟨hb386, h⟩ | ⟨hb386, h⟩
                  · refine Ev.condT h385 hb386 ?_
                    refine Ev.seq ?_
                    refine Ev.reg (fun _ => rfl) ?_
                    refine Ev.nxk (mvO rfl) ?_
                    refine Ev.rend ?_
                    intro e387 he388
                    have h389 : eget e387 4 = .bool false := envp he388 rfl rfl
                    clear h383 h384 h385
                    refine Ev.kseqN ?_
                    refine Ev.ex ?_
                    refine Ev.kseqR ?_
                    cases h
                    exact Ev.kendR (resT h389 res0) rfl
                  · refine Ev.condF h385 hb386 ?_
                    refine Ev.ex ?_
                    refine Ev.kseqN ?_
                    refine Ev.seq ?_
                    refine Ev.reg (fun _ => rfl) ?_
                    refine Ev.nxk (mvO rfl) ?_
                    refine Ev.rend ?_
                    intro e390 he391
                    have h392 : eget e390 9 = .nils := envp he391 rfl h383
                    have h393 : eget e390 12 = .int .i64 r228 := envp he391 rfl h384
                    have h394 : eget e390 13 = .int .i64 1 := envp he391 rfl rfl
                    clear h383 h384 h385
                    refine Ev.kseqN ?_
                    refine Ev.seq ?_
                    refine Ev.reg (fun _ => rfl) ?_
                    refine Ev.nxk (mvO h392) ?_
                    refine Ev.nxk (mvO h394) ?_
                    obtain ⟨r396, hx395, h⟩ := bind_some h
                    refine Ev.nxck (Ev.call (v := .int .i64 r396) rfl (cns rfl (cns rfl rfl)) rfl (laws_heldInt64S_ok ([] : List Int) 1 _ hx395) (fun h => nomatch (show false = true from h))) ?_
                    refine Ev.nxk (mvO rfl) ?_
                    refine Ev.rend ?_
                    intro e397 he398
                    have h399 : eget e397 12 = .int .i64 r228 := envp he398 rfl h393
                    have h400 : eget e397 13 = .int .i64 r396 := envp he398 rfl rfl
                    clear h392 h393
                    refine Ev.kseqN ?_
                    refine Ev.seq ?_
                    refine Ev.seq ?_
                    refine Ev.reg (fun _ => rfl) ?_
                    refine Ev.nxk (mvO h400) ?_
                    refine Ev.nxk (bLss rfl rfl) ?_
                    refine Ev.rend ?_
                    intro e401 he402
                    have h403 : eget e401 12 = .int .i64 r228 := envp he402 rfl h399
                    have h404 : eget e401 13 = .int .i64 r396 := envp he402 rfl h400
                    have h405 : eget e401 97 = .bool (decide (r396 < 0)) := envp he402 rfl rfl
                    clear h399 h400
                    refine Ev.kseqN ?_
                    rcases ite_some h with ⟨hb406, h⟩ | ⟨hb406, h⟩
                    · refine Ev.condT h405 hb406 ?_
                      refine Ev.seq ?_
                      refine Ev.reg (fun _ => rfl) ?_
                      refine Ev.nxk (mvO rfl) ?_
                      refine Ev.rend ?_
                      intro e407 he408
                      have h409 : eget e407 4 = .bool false := envp he408 rfl rfl
                      clear h403 h404 h405
                      refine Ev.kseqN ?_
                      refine Ev.ex ?_
                      refine Ev.kseqR ?_
                      cases h
                      exact Ev.kendR (resT h409 res0) rfl
                    · refine Ev.condF h405 hb406 ?_
                      refine Ev.ex ?_
                      refine Ev.kseqN ?_
                      refine Ev.seq ?_
                      refine Ev.seq ?_
                      refine Ev.reg (fun _ => rfl) ?_
                      refine Ev.nxk (mvO h404) ?_
                      refine Ev.nxk (mvO h403) ?_
                      refine Ev.nxk (bNeq rfl rfl) ?_
                      refine Ev.rend ?_
                      intro e410 he411
                      have h412 : eget e410 100 = .bool (r396 != r228) := envp he411 rfl rfl
                      clear h403 h404 h405
                      refine Ev.kseqN ?_
                      rcases ite_some h with ⟨hb413, h⟩ | ⟨hb413, h⟩
                      · refine Ev.condT h412 hb413 ?_
                        refine Ev.seq ?_
                        refine Ev.reg (fun _ => rfl) ?_
                        refine Ev.nxk (mvO rfl) ?_
                        refine Ev.rend ?_
                        intro e414 he415
                        have h416 : eget e414 4 = .bool false := envp he415 rfl rfl
                        clear h412
                        refine Ev.kseqN ?_
                        refine Ev.ex ?_
                        refine Ev.kseqR ?_
                        cases h
                        exact Ev.kendR (resT h416 res0) rfl
                      · refine Ev.condF h412 hb413 ?_
                        refine Ev.ex ?_
                        refine Ev.kseqN ?_
                        refine Ev.seq ?_
                        refine Ev.reg (fun _ => rfl) ?_
                        refine Ev.nxk (mvO rfl) ?_
                        refine Ev.rend ?_
                        intro e417 he418
                        have h419 : eget e417 4 = .bool true := envp he418 rfl rfl
                        clear h412
                        refine Ev.kseqN ?_
                        refine Ev.ex ?_
                        cases h
                        exact Ev.kendR (resT h419 res0) rfl
        · refine Ev.condT h142 (congrArg Bool.not hb143) ?_
          refine Ev.seq ?_
          refine Ev.reg (fun _ => rfl) ?_
          refine Ev.nxk (mvO rfl) ?_
          refine Ev.rend ?_
          intro e427 he428
          have h429 : eget e427 4 = .bool false := envp he428 rfl rfl
          clear h135 h136 h137 h138 h139 h140 h141 h142
          refine Ev.kseqN ?_
          refine Ev.ex ?_
          refine Ev.kseqR ?_
          cases h
          exact Ev.kendR (resT h429 res0) rfl
    · refine Ev.nxcp (Ev.callT (v := .tup [.sl (some 2) (r433.map (cI .i64)), .int .i64 0]) rfl (cns rfl (cns rfl rfl)) (ra1 (ra_agg (mp1 rfl (mp1 (ra1_row o60 rfl (cI_fl _)) (mp1 (ra1_row o61 rfl Tally.fl) mp0)))) (ra1 rfl ra0)) (impl_HoldsNow_ok (Book.mk r40 r41 r42) a2 _ hx70) (th_gen (v' := .tup [.lsl M58.length r433.length 0 r433.length, .int .i64 0]) (l := [⟨.grow, 2, 1, r433.map (cI .i64)⟩]) (own_tup (oa1 (own2_row (c := (cI .i64)) (fun _ => rfl)) (oa1 rfl oa0))) (by simp [thaw, thaw2, thaw1, thawL, co2]) rfl rfl)) ?_
      intro M435 hM436
      have o437 := push_old hM436 o60
      have o438 := push_old hM436 o61
      have o439 := push_old hM436 o62
      have ne440 : ([] : Mem).length ≠ M58.length := by have := lt_of_get o60; omega
      have ne441 : (([] : Mem).length + 1) ≠ M58.length := by have := lt_of_get o61; omega
      have ne442 : M45.length ≠ M58.length := by have := lt_of_get o62; omega
      have o443 : M435[M58.length]? = some (.live ⟨.grow, 2, 1, r433.map (cI .i64)⟩) := push_at hM436 0 rfl
      refine Ev.nxk (mvO rfl) ?_
      refine Ev.nxk (exT rfl rfl) ?_
      refine Ev.nxk (exT rfl rfl) ?_
      refine Ev.nxk (mvO rfl) ?_
      refine Ev.nxk (mvO rfl) ?_
      refine Ev.rend ?_
      intro e444 he445
      have h446 : eget e444 1 = .int .i64 a2 := envp he445 rfl h65
      have h447 : eget e444 2 = .pt none [.int .i64 a1.Day, .sl none (a1.Cash.map (cI .i64)), .sl none (a1.Tallies.map Tally.c)] := envp he445 rfl h66
      have h448 : eget e444 6 = .sl (some 2) (r31.map (cI .i64)) := envp he445 rfl h67
      have h449 : eget e444 7 = .int .i64 r32 := envp he445 rfl h68
      have h450 : eget e444 8 = .loc M45.length 1 0 0 := envp he445 rfl h69
      have h451 : eget e444 9 = .lsl M58.length r433.length 0 r433.length := envp he445 rfl rfl
      have h452 : eget e444 10 = .int .i64 0 := envp he445 rfl rfl
      clear h65 h66 h67 h68 h69
      refine Ev.kseqN ?_
      refine Ev.seq ?_
      refine Ev.seq ?_
      obtain ⟨r807, hr808, h⟩ := bind_some h
      refine Ev.cut (Q1 := laws_FnExactHoldsNow_c5_Q a1 a2 r31 r32 r40 r41 r42 r433 (([] : Mem).length) (([] : Mem).length + 1) M45.length M58.length r807) (by
          have h := hr808
          refine Ev.reg (fun _ => rfl) ?_
          refine Ev.nxk (mvO h451) ?_
          refine Ev.nxk (mvO h448) ?_
          obtain ⟨r454, hx453, h⟩ := bind_some h
          refine Ev.nxck (Ev.call (v := .bool r454) rfl (cns rfl (cns rfl rfl)) (ra1 (ra1_row o443 rfl (cI_fl _)) (ra1 rfl ra0)) (laws_eqInt64S_ok r433 r31 _ hx453) (fun _ => rfl)) ?_
          refine Ev.nxk (uNot rfl) ?_
          refine Ev.nxk (mvO rfl) ?_
          rcases ite_some h with ⟨hb455, h⟩ | ⟨hb455, h⟩
          · refine Ev.nxk (guF rfl (congrArg Bool.not hb455) (mvO h452)) ?_
            refine Ev.nxk (guF rfl (congrArg Bool.not hb455) (mvO h449)) ?_
            refine Ev.nxk (guF rfl (congrArg Bool.not hb455) (bNeq rfl rfl)) ?_
            refine Ev.nxk (pkF rfl (congrArg Bool.not hb455) rfl) ?_
            refine Ev.rend ?_
            intro e456 he457
            have h458 : eget e456 1 = .int .i64 a2 := envp he457 rfl h446
            have h459 : eget e456 2 = .pt none [.int .i64 a1.Day, .sl none (a1.Cash.map (cI .i64)), .sl none (a1.Tallies.map Tally.c)] := envp he457 rfl h447
            have h460 : eget e456 6 = .sl (some 2) (r31.map (cI .i64)) := envp he457 rfl h448
            have h461 : eget e456 7 = .int .i64 r32 := envp he457 rfl h449
            have h462 : eget e456 8 = .loc M45.length 1 0 0 := envp he457 rfl h450
            have h463 : eget e456 9 = .lsl M58.length r433.length 0 r433.length := envp he457 rfl h451
            have h464 : eget e456 10 = .int .i64 0 := envp he457 rfl h452
            have h465 : eget e456 44 = .bool (0 != r32) := envp he457 rfl rfl
            clear h446 h447 h448 h449 h450 h451 h452
            cases h
            exact Ev.kid (show laws_FnExactHoldsNow_c5_Q a1 a2 r31 r32 r40 r41 r42 r433 (([] : Mem).length) (([] : Mem).length + 1) M45.length M58.length _ _ from (And.intro rfl (And.intro h458 (And.intro h459 (And.intro h460 (And.intro h461 (And.intro h462 (And.intro h463 (And.intro h464 (And.intro h465 (And.intro o437 (And.intro o443 (And.intro o438 o439)))))))))))))
          · refine Ev.nxk (gsF rfl (congrArg Bool.not hb455)) ?_
            refine Ev.nxk (gsF rfl (congrArg Bool.not hb455)) ?_
            refine Ev.nxk (gsF rfl (congrArg Bool.not hb455)) ?_
            refine Ev.nxk (pkT rfl (congrArg Bool.not hb455) rfl) ?_
            refine Ev.rend ?_
            intro e466 he467
            have h468 : eget e466 1 = .int .i64 a2 := envp he467 rfl h446
            have h469 : eget e466 2 = .pt none [.int .i64 a1.Day, .sl none (a1.Cash.map (cI .i64)), .sl none (a1.Tallies.map Tally.c)] := envp he467 rfl h447
            have h470 : eget e466 6 = .sl (some 2) (r31.map (cI .i64)) := envp he467 rfl h448
            have h471 : eget e466 7 = .int .i64 r32 := envp he467 rfl h449
            have h472 : eget e466 8 = .loc M45.length 1 0 0 := envp he467 rfl h450
            have h473 : eget e466 9 = .lsl M58.length r433.length 0 r433.length := envp he467 rfl h451
            have h474 : eget e466 10 = .int .i64 0 := envp he467 rfl h452
            have h475 : eget e466 44 = .bool true := envp he467 rfl rfl
            clear h446 h447 h448 h449 h450 h451 h452
            cases h
            exact Ev.kid (show laws_FnExactHoldsNow_c5_Q a1 a2 r31 r32 r40 r41 r42 r433 (([] : Mem).length) (([] : Mem).length + 1) M45.length M58.length _ _ from (And.intro rfl (And.intro h468 (And.intro h469 (And.intro h470 (And.intro h471 (And.intro h472 (And.intro h473 (And.intro h474 (And.intro h475 (And.intro o437 (And.intro o443 (And.intro o438 o439)))))))))))))) ?_
      revert h hr808
      revert r807
      intro y478 hr808 h
      intro x e476 M477 hq806
      obtain ⟨rfl, h479, h480, h481, h482, h483, h484, h485, h486, o487, o488, o489, o490⟩ := hq806
      refine Ev.kseqN ?_
      rcases ite_some h with ⟨hb491, h⟩ | ⟨hb491, h⟩
      · refine Ev.condT h486 hb491 ?_
        refine Ev.seq ?_
        refine Ev.reg (fun _ => rfl) ?_
        refine Ev.nxk (mvO rfl) ?_
        refine Ev.rend ?_
        intro e492 he493
        have h494 : eget e492 4 = .bool false := envp he493 rfl rfl
        clear h479 h480 h481 h482 h483 h484 h485 h486
        refine Ev.kseqN ?_
        refine Ev.ex ?_
        refine Ev.kseqR ?_
        cases h
        exact Ev.kendR (resT h494 res0) rfl
      · refine Ev.condF h486 hb491 ?_
        refine Ev.ex ?_
        refine Ev.kseqN ?_
        refine Ev.seq ?_
        refine Ev.seq ?_
        refine Ev.regD (fun _ => rfl) ?_
        refine Ev.nfk (ldOA h483 o490 rfl rfl (ble rfl) rfl) ?_
        refine Ev.nfk (ldPA h480 rfl rfl) ?_
        obtain ⟨⟨r496, r497, r498⟩, hx495, h⟩ := bind_some h
        refine Ev.nfc (Ev.call (v := .agg [.int .i64 r496, .sl (some 2) (r497.map (cI .i64)), .sl (some 78) (r498.map Tally.c)]) rfl (cns rfl rfl) rfl (laws_toBook_ok a1 _ hx495) (fun h => nomatch (show false = true from h))) ?_
        obtain ⟨r500, hx499, h⟩ := bind_some h
        refine Ev.nfc (Ev.call (v := .bool r500) rfl (cns rfl (cns rfl rfl)) (ra1 (ra_agg (mp1 rfl (mp1 (ra1_row o487 rfl (cI_fl _)) (mp1 (ra1_row o489 rfl Tally.fl) mp0)))) (ra1 rfl ra0)) (laws_eqBook_ok (Book.mk r40 r41 r42) (Book.mk r496 r497 r498) _ hx499) (fun _ => rfl)) ?_
        refine Ev.nfk (uNot rfl) ?_
        refine Ev.fend0 ?_
        refine Ev.rend ?_
        intro e501 he502
        have h503 : eget e501 1 = .int .i64 a2 := envp he502 rfl h479
        have h504 : eget e501 2 = .pt none [.int .i64 a1.Day, .sl none (a1.Cash.map (cI .i64)), .sl none (a1.Tallies.map Tally.c)] := envp he502 rfl h480
        have h505 : eget e501 6 = .sl (some 2) (r31.map (cI .i64)) := envp he502 rfl h481
        have h506 : eget e501 7 = .int .i64 r32 := envp he502 rfl h482
        have h507 : eget e501 8 = .loc M45.length 1 0 0 := envp he502 rfl h483
        have h508 : eget e501 9 = .lsl M58.length r433.length 0 r433.length := envp he502 rfl h484
        have h509 : eget e501 10 = .int .i64 0 := envp he502 rfl h485
        have h510 : eget e501 49 = .bool (!r500) := envp he502 rfl rfl
        clear h479 h480 h481 h482 h483 h484 h485 h486
        refine Ev.kseqN ?_
        rcases ite_some h with ⟨hb511, h⟩ | ⟨hb511, h⟩
        · refine Ev.condF h510 (congrArg Bool.not hb511) ?_
          refine Ev.ex ?_
          refine Ev.kseqN ?_
          refine Ev.seq ?_
          refine Ev.reg (fun _ => rfl) ?_
          refine Ev.nxk (mvO rfl) ?_
          refine Ev.rend ?_
          intro e512 he513
          have h514 : eget e512 1 = .int .i64 a2 := envp he513 rfl h503
          have h515 : eget e512 2 = .pt none [.int .i64 a1.Day, .sl none (a1.Cash.map (cI .i64)), .sl none (a1.Tallies.map Tally.c)] := envp he513 rfl h504
          have h516 : eget e512 6 = .sl (some 2) (r31.map (cI .i64)) := envp he513 rfl h505
          have h517 : eget e512 7 = .int .i64 r32 := envp he513 rfl h506
          have h518 : eget e512 8 = .loc M45.length 1 0 0 := envp he513 rfl h507
          have h519 : eget e512 9 = .lsl M58.length r433.length 0 r433.length := envp he513 rfl h508
          have h520 : eget e512 10 = .int .i64 0 := envp he513 rfl h509
          have h521 : eget e512 11 = .int .i64 1 := envp he513 rfl rfl
          clear h503 h504 h505 h506 h507 h508 h509 h510
          refine Ev.kseqN ?_
          refine Ev.seq ?_
          refine Ev.reg (fun _ => rfl) ?_
          refine Ev.nxk (ldOA h518 o490 rfl rfl (ble rfl) rfl) ?_
          refine Ev.nxk (mvO h521) ?_
          obtain ⟨⟨r523, r524, r525⟩, hx522, h⟩ := bind_some h
          refine Ev.nxw (Ev.callW rfl (cns rfl (cns rfl rfl)) (laws_markBook_ll_ok r40 r41 r42 1 (([] : Mem).length) (([] : Mem).length + 1) ne48 M477 o487 o489 _ hx522)) ?_
          intro v528 M526 hq527
          obtain ⟨hv528, o529, o530, fr531, hl532, hl533⟩ := hq527
          have hv528 : v528 = .int .i64 r523 := hv528
          subst hv528
          have o534 : M526[([] : Mem).length]? = some (.live ⟨.grow, 2, 1, r524.map (cI .i64)⟩) := o529
          have o535 : M526[(([] : Mem).length + 1)]? = some (.live ⟨.grow, 78, 5, r525.map Tally.c⟩) := o530
          have hl532 : r524.length = r41.length := hl532
          have hl533 : r525.length = r42.length := hl533
          have o536 : M526[M58.length]? = some (.live ⟨.grow, 2, 1, r433.map (cI .i64)⟩) := fr531 _ _ (niC (Ne.symm ne440) (niC (Ne.symm ne441) niN)) o488
          have o537 : M526[M45.length]? = some (.live ⟨.box, 31, 3, [[.int .i64 r40, .lsl ([] : Mem).length r41.length 0 r41.length, .lsl (([] : Mem).length + 1) r42.length 0 r42.length]]⟩) := fr531 _ _ (niC (Ne.symm ne54) (niC (Ne.symm ne56) niN)) o490
          refine Ev.nxk (mvO rfl) ?_
          refine Ev.rend ?_
          intro e538 he539
          have h540 : eget e538 1 = .int .i64 a2 := envp he539 rfl h514
          have h541 : eget e538 2 = .pt none [.int .i64 a1.Day, .sl none (a1.Cash.map (cI .i64)), .sl none (a1.Tallies.map Tally.c)] := envp he539 rfl h515
          have h542 : eget e538 6 = .sl (some 2) (r31.map (cI .i64)) := envp he539 rfl h516
          have h543 : eget e538 7 = .int .i64 r32 := envp he539 rfl h517
          have h544 : eget e538 9 = .lsl M58.length r433.length 0 r433.length := envp he539 rfl h519
          have h545 : eget e538 10 = .int .i64 0 := envp he539 rfl h520
          have h546 : eget e538 11 = .int .i64 r523 := envp he539 rfl rfl
          clear h514 h515 h516 h517 h518 h519 h520
          refine Ev.kseqN ?_
          refine Ev.seq ?_
          refine Ev.seq ?_
          obtain ⟨r801, hr802, h⟩ := bind_some h
          refine Ev.cut (Q1 := laws_FnExactHoldsNow_c6_Q a1 a2 r31 r32 r433 M58.length r801) (by
              have h := hr802
              refine Ev.reg (fun _ => rfl) ?_
              refine Ev.nxk (mvO h546) ?_
              refine Ev.nxk (bLss rfl rfl) ?_
              refine Ev.nxk (mvO rfl) ?_
              rcases ite_some h with ⟨hb547, h⟩ | ⟨hb547, h⟩
              · refine Ev.nxk (gsF rfl hb547) ?_
                refine Ev.nxk (gsF rfl hb547) ?_
                refine Ev.nxck (Ev.gsF rfl hb547) ?_
                refine Ev.nxk (gsF rfl hb547) ?_
                refine Ev.nxk (pkT rfl hb547 rfl) ?_
                refine Ev.nxk (mvO rfl) ?_
                refine Ev.nxk (gsF rfl rfl) ?_
                refine Ev.nxk (gsF rfl rfl) ?_
                refine Ev.nxk (gsF rfl rfl) ?_
                refine Ev.nxk (pkT rfl rfl rfl) ?_
                refine Ev.rend ?_
                intro e548 he549
                have h550 : eget e548 1 = .int .i64 a2 := envp he549 rfl h540
                have h551 : eget e548 2 = .pt none [.int .i64 a1.Day, .sl none (a1.Cash.map (cI .i64)), .sl none (a1.Tallies.map Tally.c)] := envp he549 rfl h541
                have h552 : eget e548 6 = .sl (some 2) (r31.map (cI .i64)) := envp he549 rfl h542
                have h553 : eget e548 7 = .int .i64 r32 := envp he549 rfl h543
                have h554 : eget e548 9 = .lsl M58.length r433.length 0 r433.length := envp he549 rfl h544
                have h555 : eget e548 65 = .bool true := envp he549 rfl rfl
                clear h540 h541 h542 h543 h544 h545 h546
                cases h
                exact Ev.kid (show laws_FnExactHoldsNow_c6_Q a1 a2 r31 r32 r433 M58.length _ _ from (And.intro rfl (And.intro h550 (And.intro h551 (And.intro h552 (And.intro h553 (And.intro h554 (And.intro h555 o536))))))))
              · refine Ev.nxk (guF rfl hb547 (mvO h544)) ?_
                refine Ev.nxk (guF rfl hb547 (mvO h542)) ?_
                obtain ⟨r557, hx556, h⟩ := bind_some h
                refine Ev.nxck (Ev.guF rfl hb547 (Ev.call (v := .bool r557) rfl (cns rfl (cns rfl rfl)) (ra1 (ra1_row o536 rfl (cI_fl _)) (ra1 rfl ra0)) (laws_eqInt64S_ok r433 r31 _ hx556) (fun _ => rfl))) ?_
                refine Ev.nxk (guF rfl hb547 (uNot rfl)) ?_
                refine Ev.nxk (pkF rfl hb547 rfl) ?_
                refine Ev.nxk (mvO rfl) ?_
                rcases ite_some h with ⟨hb558, h⟩ | ⟨hb558, h⟩
                · refine Ev.nxk (guF rfl (congrArg Bool.not hb558) (mvO h545)) ?_
                  refine Ev.nxk (guF rfl (congrArg Bool.not hb558) (mvO h543)) ?_
                  refine Ev.nxk (guF rfl (congrArg Bool.not hb558) (bNeq rfl rfl)) ?_
                  refine Ev.nxk (pkF rfl (congrArg Bool.not hb558) rfl) ?_
                  refine Ev.rend ?_
                  intro e559 he560
                  have h561 : eget e559 1 = .int .i64 a2 := envp he560 rfl h540
                  have h562 : eget e559 2 = .pt none [.int .i64 a1.Day, .sl none (a1.Cash.map (cI .i64)), .sl none (a1.Tallies.map Tally.c)] := envp he560 rfl h541
                  have h563 : eget e559 6 = .sl (some 2) (r31.map (cI .i64)) := envp he560 rfl h542
                  have h564 : eget e559 7 = .int .i64 r32 := envp he560 rfl h543
                  have h565 : eget e559 9 = .lsl M58.length r433.length 0 r433.length := envp he560 rfl h544
                  have h566 : eget e559 65 = .bool (0 != r32) := envp he560 rfl rfl
                  clear h540 h541 h542 h543 h544 h545 h546
                  cases h
                  exact Ev.kid (show laws_FnExactHoldsNow_c6_Q a1 a2 r31 r32 r433 M58.length _ _ from (And.intro rfl (And.intro h561 (And.intro h562 (And.intro h563 (And.intro h564 (And.intro h565 (And.intro h566 o536))))))))
                · refine Ev.nxk (gsF rfl (congrArg Bool.not hb558)) ?_
                  refine Ev.nxk (gsF rfl (congrArg Bool.not hb558)) ?_
                  refine Ev.nxk (gsF rfl (congrArg Bool.not hb558)) ?_
                  refine Ev.nxk (pkT rfl (congrArg Bool.not hb558) rfl) ?_
                  refine Ev.rend ?_
                  intro e567 he568
                  have h569 : eget e567 1 = .int .i64 a2 := envp he568 rfl h540
                  have h570 : eget e567 2 = .pt none [.int .i64 a1.Day, .sl none (a1.Cash.map (cI .i64)), .sl none (a1.Tallies.map Tally.c)] := envp he568 rfl h541
                  have h571 : eget e567 6 = .sl (some 2) (r31.map (cI .i64)) := envp he568 rfl h542
                  have h572 : eget e567 7 = .int .i64 r32 := envp he568 rfl h543
                  have h573 : eget e567 9 = .lsl M58.length r433.length 0 r433.length := envp he568 rfl h544
                  have h574 : eget e567 65 = .bool true := envp he568 rfl rfl
                  clear h540 h541 h542 h543 h544 h545 h546
                  cases h
                  exact Ev.kid (show laws_FnExactHoldsNow_c6_Q a1 a2 r31 r32 r433 M58.length _ _ from (And.intro rfl (And.intro h569 (And.intro h570 (And.intro h571 (And.intro h572 (And.intro h573 (And.intro h574 o536))))))))) ?_
          revert h hr802
          revert r801
          intro y577 hr802 h
          intro x e575 M576 hq800
          obtain ⟨rfl, h578, h579, h580, h581, h582, h583, o584⟩ := hq800
          refine Ev.kseqN ?_
          rcases ite_some h with ⟨hb585, h⟩ | ⟨hb585, h⟩
          · refine Ev.condT h583 hb585 ?_
            refine Ev.seq ?_
            refine Ev.reg (fun _ => rfl) ?_
            refine Ev.nxk (mvO rfl) ?_
            refine Ev.rend ?_
            intro e586 he587
            have h588 : eget e586 4 = .bool false := envp he587 rfl rfl
            clear h578 h579 h580 h581 h582 h583
            refine Ev.kseqN ?_
            refine Ev.ex ?_
            refine Ev.kseqR ?_
            cases h
            exact Ev.kendR (resT h588 res0) rfl
          · refine Ev.condF h583 hb585 ?_
            refine Ev.ex ?_
            refine Ev.kseqN ?_
            refine Ev.seq ?_
            refine Ev.reg (fun _ => rfl) ?_
            refine Ev.nxk (mvO rfl) ?_
            refine Ev.rend ?_
            intro e589 he590
            have h591 : eget e589 1 = .int .i64 a2 := envp he590 rfl h578
            have h592 : eget e589 2 = .pt none [.int .i64 a1.Day, .sl none (a1.Cash.map (cI .i64)), .sl none (a1.Tallies.map Tally.c)] := envp he590 rfl h579
            have h593 : eget e589 6 = .sl (some 2) (r31.map (cI .i64)) := envp he590 rfl h580
            have h594 : eget e589 7 = .int .i64 r32 := envp he590 rfl h581
            have h595 : eget e589 9 = .lsl M58.length r433.length 0 r433.length := envp he590 rfl h582
            have h596 : eget e589 12 = .int .i64 1 := envp he590 rfl rfl
            clear h578 h579 h580 h581 h582 h583
            refine Ev.kseqN ?_
            refine Ev.seq ?_
            refine Ev.reg (fun _ => rfl) ?_
            refine Ev.nxk (mvO h595) ?_
            refine Ev.nxk (mvO h596) ?_
            obtain ⟨⟨r598, r599⟩, hx597, h⟩ := bind_some h
            refine Ev.nxw (Ev.callW rfl (cns rfl (cns rfl rfl)) (laws_markInt64S_l_ok r433 1 M58.length M576 o584 _ hx597)) ?_
            intro v602 M600 hq601
            obtain ⟨hv602, o603, fr604, hl605⟩ := hq601
            have hv602 : v602 = .int .i64 r598 := hv602
            subst hv602
            have o606 : M600[M58.length]? = some (.live ⟨.grow, 2, 1, r599.map (cI .i64)⟩) := o603
            have hl605 : r599.length = r433.length := hl605
            refine Ev.nxk (mvO rfl) ?_
            refine Ev.rend ?_
            intro e607 he608
            have h609 : eget e607 1 = .int .i64 a2 := envp he608 rfl h591
            have h610 : eget e607 2 = .pt none [.int .i64 a1.Day, .sl none (a1.Cash.map (cI .i64)), .sl none (a1.Tallies.map Tally.c)] := envp he608 rfl h592
            have h611 : eget e607 6 = .sl (some 2) (r31.map (cI .i64)) := envp he608 rfl h593
            have h612 : eget e607 7 = .int .i64 r32 := envp he608 rfl h594
            have h613 : eget e607 9 = .lsl M58.length r433.length 0 r433.length := envp he608 rfl h595
            have h614 : eget e607 12 = .int .i64 r598 := envp he608 rfl rfl
            clear h591 h592 h593 h594 h595
            refine Ev.kseqN ?_
            refine Ev.seq ?_
            refine Ev.reg (fun _ => rfl) ?_
            refine Ev.nxk (mvO rfl) ?_
            refine Ev.rend ?_
            intro e615 he616
            have h617 : eget e615 1 = .int .i64 a2 := envp he616 rfl h609
            have h618 : eget e615 2 = .pt none [.int .i64 a1.Day, .sl none (a1.Cash.map (cI .i64)), .sl none (a1.Tallies.map Tally.c)] := envp he616 rfl h610
            have h619 : eget e615 6 = .sl (some 2) (r31.map (cI .i64)) := envp he616 rfl h611
            have h620 : eget e615 7 = .int .i64 r32 := envp he616 rfl h612
            have h621 : eget e615 9 = .lsl M58.length r433.length 0 r433.length := envp he616 rfl h613
            have h622 : eget e615 12 = .int .i64 r598 := envp he616 rfl h614
            have h623 : eget e615 13 = .int .i64 1 := envp he616 rfl rfl
            clear h609 h610 h611 h612 h613 h614
            refine Ev.kseqN ?_
            refine Ev.seq ?_
            refine Ev.reg (fun _ => rfl) ?_
            refine Ev.nxk (mvO (lslL (L' := r599.length) h621 (by simp [hl532, hl533, hl605]))) ?_
            refine Ev.nxk (mvO h623) ?_
            obtain ⟨r625, hx624, h⟩ := bind_some h
            refine Ev.nxck (Ev.call (v := .int .i64 r625) rfl (cns rfl (cns rfl rfl)) (ra1 (ra1_row o606 rfl (cI_fl _)) (ra1 rfl ra0)) (laws_heldInt64S_ok r599 1 _ hx624) (fun _ => rfl)) ?_
            refine Ev.nxk (mvO rfl) ?_
            refine Ev.rend ?_
            intro e626 he627
            have h628 : eget e626 1 = .int .i64 a2 := envp he627 rfl h617
            have h629 : eget e626 2 = .pt none [.int .i64 a1.Day, .sl none (a1.Cash.map (cI .i64)), .sl none (a1.Tallies.map Tally.c)] := envp he627 rfl h618
            have h630 : eget e626 6 = .sl (some 2) (r31.map (cI .i64)) := envp he627 rfl h619
            have h631 : eget e626 7 = .int .i64 r32 := envp he627 rfl h620
            have h632 : eget e626 9 = .lsl M58.length r433.length 0 r433.length := envp he627 rfl h621
            have h633 : eget e626 12 = .int .i64 r598 := envp he627 rfl h622
            have h634 : eget e626 13 = .int .i64 r625 := envp he627 rfl rfl
            clear h617 h618 h619 h620 h621 h622
            refine Ev.kseqN ?_
            refine Ev.seq ?_
            refine Ev.seq ?_
            refine Ev.reg (fun _ => rfl) ?_
            refine Ev.nxk (mvO h634) ?_
            refine Ev.nxk (bLss rfl rfl) ?_
            refine Ev.rend ?_
            intro e635 he636
            have h637 : eget e635 1 = .int .i64 a2 := envp he636 rfl h628
            have h638 : eget e635 2 = .pt none [.int .i64 a1.Day, .sl none (a1.Cash.map (cI .i64)), .sl none (a1.Tallies.map Tally.c)] := envp he636 rfl h629
            have h639 : eget e635 6 = .sl (some 2) (r31.map (cI .i64)) := envp he636 rfl h630
            have h640 : eget e635 7 = .int .i64 r32 := envp he636 rfl h631
            have h641 : eget e635 9 = .lsl M58.length r433.length 0 r433.length := envp he636 rfl h632
            have h642 : eget e635 12 = .int .i64 r598 := envp he636 rfl h633
            have h643 : eget e635 13 = .int .i64 r625 := envp he636 rfl h634
            have h644 : eget e635 73 = .bool (decide (r625 < 0)) := envp he636 rfl rfl
            clear h628 h629 h630 h631 h632 h633 h634
            refine Ev.kseqN ?_
            rcases ite_some h with ⟨hb645, h⟩ | ⟨hb645, h⟩
            · refine Ev.condT h644 hb645 ?_
              refine Ev.seq ?_
              refine Ev.reg (fun _ => rfl) ?_
              refine Ev.nxk (mvO rfl) ?_
              refine Ev.rend ?_
              intro e646 he647
              have h648 : eget e646 4 = .bool false := envp he647 rfl rfl
              clear h637 h638 h639 h640 h641 h642 h643 h644
              refine Ev.kseqN ?_
              refine Ev.ex ?_
              refine Ev.kseqR ?_
              cases h
              exact Ev.kendR (resT h648 res0) rfl
            · refine Ev.condF h644 hb645 ?_
              refine Ev.ex ?_
              refine Ev.kseqN ?_
              refine Ev.seq ?_
              refine Ev.seq ?_
              refine Ev.reg (fun _ => rfl) ?_
              refine Ev.nxk (mvO h643) ?_
              refine Ev.nxk (mvO h642) ?_
              refine Ev.nxk (bNeq rfl rfl) ?_
              refine Ev.rend ?_
              intro e649 he650
              have h651 : eget e649 1 = .int .i64 a2 := envp he650 rfl h637
              have h652 : eget e649 2 = .pt none [.int .i64 a1.Day, .sl none (a1.Cash.map (cI .i64)), .sl none (a1.Tallies.map Tally.c)] := envp he650 rfl h638
              have h653 : eget e649 6 = .sl (some 2) (r31.map (cI .i64)) := envp he650 rfl h639
              have h654 : eget e649 7 = .int .i64 r32 := envp he650 rfl h640
              have h655 : eget e649 9 = .lsl M58.length r433.length 0 r433.length := envp he650 rfl h641
              have h656 : eget e649 12 = .int .i64 r598 := envp he650 rfl h642
              have h657 : eget e649 76 = .bool (r625 != r598) := envp he650 rfl rfl
              clear h637 h638 h639 h640 h641 h642 h643 h644
              refine Ev.kseqN ?_
              rcases ite_some h with ⟨hb658, h⟩ | ⟨hb658, h⟩
              · refine Ev.condT h657 hb658 ?_
                refine Ev.seq ?_
                refine Ev.reg (fun _ => rfl) ?_
                refine Ev.nxk (mvO rfl) ?_
                refine Ev.rend ?_
                intro e659 he660
                have h661 : eget e659 4 = .bool false := envp he660 rfl rfl
                clear h651 h652 h653 h654 h655 h656 h657
                refine Ev.kseqN ?_
                refine Ev.ex ?_
                refine Ev.kseqR ?_
                cases h
                exact Ev.kendR (resT h661 res0) rfl
              · refine Ev.condF h657 hb658 ?_
                refine Ev.ex ?_
                refine Ev.kseqN ?_
                refine Ev.seq ?_
                refine Ev.reg (fun _ => rfl) ?_
                refine Ev.nxk (ldPA h652 rfl rfl) ?_
                obtain ⟨⟨r663, r664, r665⟩, hx662, h⟩ := bind_some h
                refine Ev.nxck (Ev.call (v := .agg [.int .i64 r663, .sl (some 2) (r664.map (cI .i64)), .sl (some 78) (r665.map Tally.c)]) rfl (cns rfl rfl) rfl (laws_toBook_ok a1 _ hx662) (fun h => nomatch (show false = true from h))) ?_
                refine Ev.nxk (mvO h651) ?_
                obtain ⟨q799, hx666, h⟩ := bind_some h
                rcases q799 with r667 | r733
                · refine Ev.nxck (Ev.call (v := .tup [.nils, .int .i64 r667]) rfl (cns rfl (cns rfl rfl)) rfl (impl_HoldsNow_ok (Book.mk r663 r664 r665) a2 _ hx666) (fun h => nomatch (show false = true from h))) ?_
                  refine Ev.nxk (mvO rfl) ?_
                  refine Ev.nxk (exT rfl rfl) ?_
                  refine Ev.nxk (exT rfl rfl) ?_
                  refine Ev.nxk (mvO rfl) ?_
                  refine Ev.nxk (mvO rfl) ?_
                  refine Ev.rend ?_
                  intro e668 he669
                  have h670 : eget e668 6 = .sl (some 2) (r31.map (cI .i64)) := envp he669 rfl h653
                  have h671 : eget e668 7 = .int .i64 r32 := envp he669 rfl h654
                  have h672 : eget e668 9 = .lsl M58.length r433.length 0 r433.length := envp he669 rfl h655
                  have h673 : eget e668 12 = .int .i64 r598 := envp he669 rfl h656
                  have h674 : eget e668 14 = .nils := envp he669 rfl rfl
                  have h675 : eget e668 15 = .int .i64 r667 := envp he669 rfl rfl
                  clear h651 h652 h653 h654 h655 h656 h657
                  refine Ev.kseqN ?_
                  refine Ev.seq ?_
                  refine Ev.seq ?_
                  obtain ⟨r731, hr732, h⟩ := bind_some h
                  refine Ev.cut (Q1 := laws_FnExactHoldsNow_c7_Q r598 r599 M58.length r731) (by
                      have h := hr732
                      refine Ev.reg (fun _ => rfl) ?_
                      refine Ev.nxk (mvO h674) ?_
                      refine Ev.nxk (mvO h670) ?_
                      obtain ⟨r677, hx676, h⟩ := bind_some h
                      refine Ev.nxck (Ev.call (v := .bool r677) rfl (cns rfl (cns rfl rfl)) rfl (laws_eqInt64S_ok ([] : List Int) r31 _ hx676) (fun h => nomatch (show false = true from h))) ?_
                      refine Ev.nxk (uNot rfl) ?_
                      refine Ev.nxk (mvO rfl) ?_
                      rcases ite_some h with ⟨hb678, h⟩ | ⟨hb678, h⟩
                      · refine Ev.nxk (guF rfl (congrArg Bool.not hb678) (mvO h675)) ?_
                        refine Ev.nxk (guF rfl (congrArg Bool.not hb678) (mvO h671)) ?_
                        refine Ev.nxk (guF rfl (congrArg Bool.not hb678) (bNeq rfl rfl)) ?_
                        refine Ev.nxk (pkF rfl (congrArg Bool.not hb678) rfl) ?_
                        refine Ev.rend ?_
                        intro e679 he680
                        have h681 : eget e679 9 = .lsl M58.length r433.length 0 r433.length := envp he680 rfl h672
                        have h682 : eget e679 12 = .int .i64 r598 := envp he680 rfl h673
                        have h683 : eget e679 92 = .bool (r667 != r32) := envp he680 rfl rfl
                        clear h670 h671 h672 h673 h674 h675
                        cases h
                        exact Ev.kid (show laws_FnExactHoldsNow_c7_Q r598 r599 M58.length _ _ from (And.intro rfl (And.intro (lslL (L' := r599.length) h681 (by simp [hl532, hl533, hl605])) (And.intro h682 (And.intro h683 o606)))))
                      · refine Ev.nxk (gsF rfl (congrArg Bool.not hb678)) ?_
                        refine Ev.nxk (gsF rfl (congrArg Bool.not hb678)) ?_
                        refine Ev.nxk (gsF rfl (congrArg Bool.not hb678)) ?_
                        refine Ev.nxk (pkT rfl (congrArg Bool.not hb678) rfl) ?_
                        refine Ev.rend ?_
                        intro e684 he685
                        have h686 : eget e684 9 = .lsl M58.length r433.length 0 r433.length := envp he685 rfl h672
                        have h687 : eget e684 12 = .int .i64 r598 := envp he685 rfl h673
                        have h688 : eget e684 92 = .bool true := envp he685 rfl rfl
                        clear h670 h671 h672 h673 h674 h675
                        cases h
                        exact Ev.kid (show laws_FnExactHoldsNow_c7_Q r598 r599 M58.length _ _ from (And.intro rfl (And.intro (lslL (L' := r599.length) h686 (by simp [hl532, hl533, hl605])) (And.intro h687 (And.intro h688 o606)))))) ?_
                  revert h hr732
                  revert r731
                  intro y691 hr732 h
                  intro x e689 M690 hq730
                  obtain ⟨rfl, h692, h693, h694, o695⟩ := hq730
                  refine Ev.kseqN ?_
                  rcases ite_some h with ⟨hb696, h⟩ | ⟨hb696, h⟩
                  · refine Ev.condT h694 hb696 ?_
                    refine Ev.seq ?_
                    refine Ev.reg (fun _ => rfl) ?_
                    refine Ev.nxk (mvO rfl) ?_
                    refine Ev.rend ?_
                    intro e697 he698
                    have h699 : eget e697 4 = .bool false := envp he698 rfl rfl
                    clear h692 h693 h694
                    refine Ev.kseqN ?_
                    refine Ev.ex ?_
                    refine Ev.kseqR ?_
                    cases h
                    exact Ev.kendR (resT h699 res0) rfl
                  · refine Ev.condF h694 hb696 ?_
                    refine Ev.ex ?_
                    refine Ev.kseqN ?_
                    refine Ev.seq ?_
                    refine Ev.reg (fun _ => rfl) ?_
                    refine Ev.nxk (mvO rfl) ?_
                    refine Ev.rend ?_
                    intro e700 he701
                    have h702 : eget e700 9 = .lsl M58.length r599.length 0 r599.length := envp he701 rfl h692
                    have h703 : eget e700 12 = .int .i64 r598 := envp he701 rfl h693
                    have h704 : eget e700 13 = .int .i64 1 := envp he701 rfl rfl
                    clear h692 h693 h694
                    refine Ev.kseqN ?_
                    refine Ev.seq ?_
                    refine Ev.reg (fun _ => rfl) ?_
                    refine Ev.nxk (mvO h702) ?_
                    refine Ev.nxk (mvO h704) ?_
                    obtain ⟨r706, hx705, h⟩ := bind_some h
                    refine Ev.nxck (Ev.call (v := .int .i64 r706) rfl (cns rfl (cns rfl rfl)) (ra1 (ra1_row o695 rfl (cI_fl _)) (ra1 rfl ra0)) (laws_heldInt64S_ok r599 1 _ hx705) (fun _ => rfl)) ?_
                    refine Ev.nxk (mvO rfl) ?_
                    refine Ev.rend ?_
                    intro e707 he708
                    have h709 : eget e707 12 = .int .i64 r598 := envp he708 rfl h703
                    have h710 : eget e707 13 = .int .i64 r706 := envp he708 rfl rfl
                    clear h702 h703
                    refine Ev.kseqN ?_
                    refine Ev.seq ?_
                    refine Ev.seq ?_
                    refine Ev.reg (fun _ => rfl) ?_
                    refine Ev.nxk (mvO h710) ?_
                    refine Ev.nxk (bLss rfl rfl) ?_
                    refine Ev.rend ?_
                    intro e711 he712
                    have h713 : eget e711 12 = .int .i64 r598 := envp he712 rfl h709
                    have h714 : eget e711 13 = .int .i64 r706 := envp he712 rfl h710
                    have h715 : eget e711 97 = .bool (decide (r706 < 0)) := envp he712 rfl rfl
                    clear h709 h710
                    refine Ev.kseqN ?_
                    rcases ite_some h with ⟨hb716, h⟩ | ⟨hb716, h⟩
                    · refine Ev.condT h715 hb716 ?_
                      refine Ev.seq ?_
                      refine Ev.reg (fun _ => rfl) ?_
                      refine Ev.nxk (mvO rfl) ?_
                      refine Ev.rend ?_
                      intro e717 he718
                      have h719 : eget e717 4 = .bool false := envp he718 rfl rfl
                      clear h713 h714 h715
                      refine Ev.kseqN ?_
                      refine Ev.ex ?_
                      refine Ev.kseqR ?_
                      cases h
                      exact Ev.kendR (resT h719 res0) rfl
                    · refine Ev.condF h715 hb716 ?_
                      refine Ev.ex ?_
                      refine Ev.kseqN ?_
                      refine Ev.seq ?_
                      refine Ev.seq ?_
                      refine Ev.reg (fun _ => rfl) ?_
                      refine Ev.nxk (mvO h714) ?_
                      refine Ev.nxk (mvO h713) ?_
                      refine Ev.nxk (bNeq rfl rfl) ?_
                      refine Ev.rend ?_
                      intro e720 he721
                      have h722 : eget e720 100 = .bool (r706 != r598) := envp he721 rfl rfl
                      clear h713 h714 h715
                      refine Ev.kseqN ?_
                      rcases ite_some h with ⟨hb723, h⟩ | ⟨hb723, h⟩
                      · refine Ev.condT h722 hb723 ?_
                        refine Ev.seq ?_
                        refine Ev.reg (fun _ => rfl) ?_
                        refine Ev.nxk (mvO rfl) ?_
                        refine Ev.rend ?_
                        intro e724 he725
                        have h726 : eget e724 4 = .bool false := envp he725 rfl rfl
                        clear h722
                        refine Ev.kseqN ?_
                        refine Ev.ex ?_
                        refine Ev.kseqR ?_
                        cases h
                        exact Ev.kendR (resT h726 res0) rfl
                      · refine Ev.condF h722 hb723 ?_
                        refine Ev.ex ?_
                        refine Ev.kseqN ?_
                        refine Ev.seq ?_
                        refine Ev.reg (fun _ => rfl) ?_
                        refine Ev.nxk (mvO rfl) ?_
                        refine Ev.rend ?_
                        intro e727 he728
                        have h729 : eget e727 4 = .bool true := envp he728 rfl rfl
                        clear h722
                        refine Ev.kseqN ?_
                        refine Ev.ex ?_
                        cases h
                        exact Ev.kendR (resT h729 res0) rfl
                · refine Ev.nxck (Ev.call (v := .tup [.sl (some 2) (r733.map (cI .i64)), .int .i64 0]) rfl (cns rfl (cns rfl rfl)) rfl (impl_HoldsNow_ok (Book.mk r663 r664 r665) a2 _ hx666) (fun h => nomatch (show false = true from h))) ?_
                  refine Ev.nxk (mvO rfl) ?_
                  refine Ev.nxk (exT rfl rfl) ?_
                  refine Ev.nxk (exT rfl rfl) ?_
                  refine Ev.nxk (mvO rfl) ?_
                  refine Ev.nxk (mvO rfl) ?_
                  refine Ev.rend ?_
                  intro e734 he735
                  have h736 : eget e734 6 = .sl (some 2) (r31.map (cI .i64)) := envp he735 rfl h653
                  have h737 : eget e734 7 = .int .i64 r32 := envp he735 rfl h654
                  have h738 : eget e734 9 = .lsl M58.length r433.length 0 r433.length := envp he735 rfl h655
                  have h739 : eget e734 12 = .int .i64 r598 := envp he735 rfl h656
                  have h740 : eget e734 14 = .sl (some 2) (r733.map (cI .i64)) := envp he735 rfl rfl
                  have h741 : eget e734 15 = .int .i64 0 := envp he735 rfl rfl
                  clear h651 h652 h653 h654 h655 h656 h657
                  refine Ev.kseqN ?_
                  refine Ev.seq ?_
                  refine Ev.seq ?_
                  obtain ⟨r797, hr798, h⟩ := bind_some h
                  refine Ev.cut (Q1 := laws_FnExactHoldsNow_c8_Q r598 r599 M58.length r797) (by
                      have h := hr798
                      refine Ev.reg (fun _ => rfl) ?_
                      refine Ev.nxk (mvO h740) ?_
                      refine Ev.nxk (mvO h736) ?_
                      obtain ⟨r743, hx742, h⟩ := bind_some h
                      refine Ev.nxck (Ev.call (v := .bool r743) rfl (cns rfl (cns rfl rfl)) rfl (laws_eqInt64S_ok r733 r31 _ hx742) (fun h => nomatch (show false = true from h))) ?_
                      refine Ev.nxk (uNot rfl) ?_
                      refine Ev.nxk (mvO rfl) ?_
                      rcases ite_some h with ⟨hb744, h⟩ | ⟨hb744, h⟩
                      · refine Ev.nxk (guF rfl (congrArg Bool.not hb744) (mvO h741)) ?_
                        refine Ev.nxk (guF rfl (congrArg Bool.not hb744) (mvO h737)) ?_
                        refine Ev.nxk (guF rfl (congrArg Bool.not hb744) (bNeq rfl rfl)) ?_
                        refine Ev.nxk (pkF rfl (congrArg Bool.not hb744) rfl) ?_
                        refine Ev.rend ?_
                        intro e745 he746
                        have h747 : eget e745 9 = .lsl M58.length r433.length 0 r433.length := envp he746 rfl h738
                        have h748 : eget e745 12 = .int .i64 r598 := envp he746 rfl h739
                        have h749 : eget e745 92 = .bool (0 != r32) := envp he746 rfl rfl
                        clear h736 h737 h738 h739 h740 h741
                        cases h
                        exact Ev.kid (show laws_FnExactHoldsNow_c8_Q r598 r599 M58.length _ _ from (And.intro rfl (And.intro (lslL (L' := r599.length) h747 (by simp [hl532, hl533, hl605])) (And.intro h748 (And.intro h749 o606)))))
                      · refine Ev.nxk (gsF rfl (congrArg Bool.not hb744)) ?_
                        refine Ev.nxk (gsF rfl (congrArg Bool.not hb744)) ?_
                        refine Ev.nxk (gsF rfl (congrArg Bool.not hb744)) ?_
                        refine Ev.nxk (pkT rfl (congrArg Bool.not hb744) rfl) ?_
                        refine Ev.rend ?_
                        intro e750 he751
                        have h752 : eget e750 9 = .lsl M58.length r433.length 0 r433.length := envp he751 rfl h738
                        have h753 : eget e750 12 = .int .i64 r598 := envp he751 rfl h739
                        have h754 : eget e750 92 = .bool true := envp he751 rfl rfl
                        clear h736 h737 h738 h739 h740 h741
                        cases h
                        exact Ev.kid (show laws_FnExactHoldsNow_c8_Q r598 r599 M58.length _ _ from (And.intro rfl (And.intro (lslL (L' := r599.length) h752 (by simp [hl532, hl533, hl605])) (And.intro h753 (And.intro h754 o606)))))) ?_
                  revert h hr798
                  revert r797
                  intro y757 hr798 h
                  intro x e755 M756 hq796
                  obtain ⟨rfl, h758, h759, h760, o761⟩ := hq796
                  refine Ev.kseqN ?_
                  rcases ite_some h with ⟨hb762, h⟩ | ⟨hb762, h⟩
                  · refine Ev.condT h760 hb762 ?_
                    refine Ev.seq ?_
                    refine Ev.reg (fun _ => rfl) ?_
                    refine Ev.nxk (mvO rfl) ?_
                    refine Ev.rend ?_
                    intro e763 he764
                    have h765 : eget e763 4 = .bool false := envp he764 rfl rfl
                    clear h758 h759 h760
                    refine Ev.kseqN ?_
                    refine Ev.ex ?_
                    refine Ev.kseqR ?_
                    cases h
                    exact Ev.kendR (resT h765 res0) rfl
                  · refine Ev.condF h760 hb762 ?_
                    refine Ev.ex ?_
                    refine Ev.kseqN ?_
                    refine Ev.seq ?_
                    refine Ev.reg (fun _ => rfl) ?_
                    refine Ev.nxk (mvO rfl) ?_
                    refine Ev.rend ?_
                    intro e766 he767
                    have h768 : eget e766 9 = .lsl M58.length r599.length 0 r599.length := envp he767 rfl h758
                    have h769 : eget e766 12 = .int .i64 r598 := envp he767 rfl h759
                    have h770 : eget e766 13 = .int .i64 1 := envp he767 rfl rfl
                    clear h758 h759 h760
                    refine Ev.kseqN ?_
                    refine Ev.seq ?_
                    refine Ev.reg (fun _ => rfl) ?_
                    refine Ev.nxk (mvO h768) ?_
                    refine Ev.nxk (mvO h770) ?_
                    obtain ⟨r772, hx771, h⟩ := bind_some h
                    refine Ev.nxck (Ev.call (v := .int .i64 r772) rfl (cns rfl (cns rfl rfl)) (ra1 (ra1_row o761 rfl (cI_fl _)) (ra1 rfl ra0)) (laws_heldInt64S_ok r599 1 _ hx771) (fun _ => rfl)) ?_
                    refine Ev.nxk (mvO rfl) ?_
                    refine Ev.rend ?_
                    intro e773 he774
                    have h775 : eget e773 12 = .int .i64 r598 := envp he774 rfl h769
                    have h776 : eget e773 13 = .int .i64 r772 := envp he774 rfl rfl
                    clear h768 h769
                    refine Ev.kseqN ?_
                    refine Ev.seq ?_
                    refine Ev.seq ?_
                    refine Ev.reg (fun _ => rfl) ?_
                    refine Ev.nxk (mvO h776) ?_
                    refine Ev.nxk (bLss rfl rfl) ?_
                    refine Ev.rend ?_
                    intro e777 he778
                    have h779 : eget e777 12 = .int .i64 r598 := envp he778 rfl h775
                    have h780 : eget e777 13 = .int .i64 r772 := envp he778 rfl h776
                    have h781 : eget e777 97 = .bool (decide (r772 < 0)) := envp he778 rfl rfl
                    clear h775 h776
                    refine Ev.kseqN ?_
                    rcases ite_some h with ⟨hb782, h⟩ | ⟨hb782, h⟩
                    · refine Ev.condT h781 hb782 ?_
                      refine Ev.seq ?_
                      refine Ev.reg (fun _ => rfl) ?_
                      refine Ev.nxk (mvO rfl) ?_
                      refine Ev.rend ?_
                      intro e783 he784
                      have h785 : eget e783 4 = .bool false := envp he784 rfl rfl
                      clear h779 h780 h781
                      refine Ev.kseqN ?_
                      refine Ev.ex ?_
                      refine Ev.kseqR ?_
                      cases h
                      exact Ev.kendR (resT h785 res0) rfl
                    · refine Ev.condF h781 hb782 ?_
                      refine Ev.ex ?_
                      refine Ev.kseqN ?_
                      refine Ev.seq ?_
                      refine Ev.seq ?_
                      refine Ev.reg (fun _ => rfl) ?_
                      refine Ev.nxk (mvO h780) ?_
                      refine Ev.nxk (mvO h779) ?_
                      refine Ev.nxk (bNeq rfl rfl) ?_
                      refine Ev.rend ?_
                      intro e786 he787
                      have h788 : eget e786 100 = .bool (r772 != r598) := envp he787 rfl rfl
                      clear h779 h780 h781
                      refine Ev.kseqN ?_
                      rcases ite_some h with ⟨hb789, h⟩ | ⟨hb789, h⟩
                      · refine Ev.condT h788 hb789 ?_
                        refine Ev.seq ?_
                        refine Ev.reg (fun _ => rfl) ?_
                        refine Ev.nxk (mvO rfl) ?_
                        refine Ev.rend ?_
                        intro e790 he791
                        have h792 : eget e790 4 = .bool false := envp he791 rfl rfl
                        clear h788
                        refine Ev.kseqN ?_
                        refine Ev.ex ?_
                        refine Ev.kseqR ?_
                        cases h
                        exact Ev.kendR (resT h792 res0) rfl
                      · refine Ev.condF h788 hb789 ?_
                        refine Ev.ex ?_
                        refine Ev.kseqN ?_
                        refine Ev.seq ?_
                        refine Ev.reg (fun _ => rfl) ?_
                        refine Ev.nxk (mvO rfl) ?_
                        refine Ev.rend ?_
                        intro e793 he794
                        have h795 : eget e793 4 = .bool true := envp he794 rfl rfl
                        clear h788
                        refine Ev.kseqN ?_
                        refine Ev.ex ?_
                        cases h
                        exact Ev.kendR (resT h795 res0) rfl
        · refine Ev.condT h510 (congrArg Bool.not hb511) ?_
          refine Ev.seq ?_
          refine Ev.reg (fun _ => rfl) ?_
          refine Ev.nxk (mvO rfl) ?_
          refine Ev.rend ?_
          intro e803 he804
          have h805 : eget e803 4 = .bool false := envp he804 rfl rfl
          clear h503 h504 h505 h506 h507 h508 h509 h510
          refine Ev.kseqN ?_
          refine Ev.ex ?_
          refine Ev.kseqR ?_
          cases h
          exact Ev.kendR (resT h805 res0) rfl
end Go.Proofs.Ytfabokkhdalbeab

/- Printed by a program of ours (ext.py). -/
import Derived.Test.YthkbjnbbahmpkaaFnsDebtsIn
set_option linter.unusedVariables false
set_option linter.unusedSimpArgs false
set_option maxRecDepth 100000
set_option maxHeartbeats 2000000
namespace Go.Proofs.Ythkbjnbbahmpkaa
open Go Go.Ab
structure Tally where
  Debtor : Int
  Holder : Int
  Cut : Int
  Amount : Int
  Left : Int
  deriving DecidableEq
def Tally.c (x : Tally) : List AV := [.int .i64 x.Debtor, .int .i64 x.Holder, .int .i64 x.Cut, .int .i64 x.Amount, .int .i64 x.Left]
theorem Tally.fl : Fl Tally.c 5 := fun _ => ⟨rfl, rfl⟩
theorem Tally.flF : FlF Tally.c := fun _ => rfl
structure Debt where
  From : Int
  To : Int
  Amount : Int
  deriving DecidableEq
def Debt.c (x : Debt) : List AV := [.int .i64 x.From, .int .i64 x.To, .int .i64 x.Amount]
theorem Debt.fl : Fl Debt.c 3 := fun _ => ⟨rfl, rfl⟩
theorem Debt.flF : FlF Debt.c := fun _ => rfl
structure Book where
  Day : Int
  Cash : List Int
  Tallies : List Tally
  deriving DecidableEq
def Book.c (x : Book) : List AV := [.int .i64 x.Day, .sl none (x.Cash.map (cI .i64)), .sl none (x.Tallies.map Tally.c)]
theorem Book.fl : Fl Book.c 3 := fun _ => ⟨rfl, rfl⟩
theorem co2 : cx.P.cellsOf 2 = 1 := by kernel_rfl
theorem co92 : cx.P.cellsOf 92 = 5 := by kernel_rfl
theorem co94 : cx.P.cellsOf 94 = 3 := by kernel_rfl
theorem zero126 : zeroOf cx.P 126 = (arC (cI .i64) 0 (Ar.rep 16 0)) := by kernel_rfl
theorem zero128 : zeroOf cx.P 128 = (arC (arC (n := 16) (cI .i64) 0) (Ar.rep 16 0) (Ar.rep 16 (Ar.rep 16 0))) := by kernel_rfl
theorem zero133 : zeroOf cx.P 133 = (arC (arC (n := 16) (cI .i64) 0) (Ar.rep 16 0) (Ar.rep 16 (Ar.rep 16 0))) := by kernel_rfl
theorem zero2 : zeroOf cx.P 2 = [.int .i64 0] := by kernel_rfl
theorem zero59 : zeroOf cx.P 59 = [.int .i64 0, .nils, .nils] := by kernel_rfl
theorem zero92 : zeroOf cx.P 92 = [.int .i64 0, .int .i64 0, .int .i64 0, .int .i64 0, .int .i64 0] := by kernel_rfl
theorem zero94 : zeroOf cx.P 94 = [.int .i64 0, .int .i64 0, .int .i64 0] := by kernel_rfl
/-! ### loop.example/g01263/spec.l00In (f73) -/
noncomputable def spec_l00In (a1 : Int) (a2 : Int) (a3 : Int) : Option Bool :=
 if (decide (a1 ≥ a2)) = true then
  some (decide (a1 ≤ a3))
 else
  some false
def spec_l00In_enc (r : Bool) : AV := .bool r
theorem spec_l00In_ok (a1 : Int) (a2 : Int) (a3 : Int) (r : Bool) (h : spec_l00In a1 a2 a3 = some r) : Ev (fun k => CN k 73 [.int .i64 a1, .int .i64 a2, .int .i64 a3] []) (fun p => rRes p.2 p.1 = spec_l00In_enc r) := by
 unfold spec_l00In at h
 refine Ev.enter (F := fun k => f73 (CN k) k) (fun k => callN_eq rfl Try.func73 rfl rfl rfl (by decide +kernel) (f73_eq _ _)) (sq (Rg (kx (mvO rfl) (Rn (hN rfl (hN rfl (hN rfl hZ))) fun e1 h3 h4 h5 => sN (sq (Rg (kx (mvO h3) (kx (mvO h4) (kx (bGeq rfl rfl) (kx (mvO rfl) ?_))))))))))
 rcases ite_some h with ⟨hb6, h⟩ | ⟨hb6, h⟩
 ·refine kx (guT rfl hb6 (mvO h3)) (kx (guT rfl hb6 (mvO h5)) (kx (guT rfl hb6 (bLeq rfl rfl)) (kx (pkT rfl hb6 rfl) (kx (mvO rfl) (Rn (hN rfl hZ) fun e7 h9 => sN (xx ?_))))))
  clear h3 h4 h5
  obtain rfl := si h
  exact eR (resT h9 res0) rfl
 refine kx (gsT rfl hb6) (kx (gsT rfl hb6) (kx (gsT rfl hb6) (kx (pkF rfl hb6 rfl) (kx (mvO rfl) (Rn (hV (.bool false) rfl hZ) fun e10 h12 => sN (xx ?_))))))
 clear h3 h4 h5
 obtain rfl := si h
 exact eR (resT h12 res0) rfl
/-! ### loop.example/g01263/spec.l01Amount (f94) -/
noncomputable def spec_l01Amount (a1 : Int) : Option Bool :=
 (spec_l00In a1 0 100000000).bind fun r5 =>
 some r5
def spec_l01Amount_enc (r : Bool) : AV := .bool r
theorem spec_l01Amount_ok (a1 : Int) (r : Bool) (h : spec_l01Amount a1 = some r) : Ev (fun k => CN k 94 [.int .i64 a1] []) (fun p => rRes p.2 p.1 = spec_l01Amount_enc r) := by
 unfold spec_l01Amount at h
 obtain ⟨r5, hx4, h⟩ := bind_some h
 refine Ev.enter (F := fun k => f94 (CN k) k) (fun k => callN_eq rfl Try.func94 rfl rfl rfl (by decide +kernel) (f94_eq _ _)) (sq (Rg (kx (mvO rfl) (Rn (hN rfl hZ) fun e1 h3 => sN (sq (Rg (kx (mvO h3) (kc (cl (v := .bool r5) rfl (cns rfl (cns rfl (cns rfl rfl))) rfl (spec_l00In_ok a1 0 100000000 _ hx4) nm) (kx (mvO rfl) (Rn (hN rfl hZ) fun e6 h8 => sN (xx ?_)))))))))))
 clear h3
 obtain rfl := si h
 exact eR (resT h8 res0) rfl
/-! ### loop.example/g01263/laws.eqTally (f88) -/
noncomputable def laws_eqTally (a1 : Tally) (a2 : Tally) : Option Bool :=
 if (a1.Debtor != a2.Debtor) = true then
  some false
 else
  if (a1.Holder != a2.Holder) = true then
   some false
  else
   if (a1.Cut != a2.Cut) = true then
    some false
   else
    if (a1.Amount != a2.Amount) = true then
     some false
    else
     if (a1.Left != a2.Left) = true then
      some false
     else
      some true
def laws_eqTally_enc (r : Bool) : AV := .bool r
theorem laws_eqTally_ok (a1 : Tally) (a2 : Tally) (r : Bool) (h : laws_eqTally a1 a2 = some r) : Ev (fun k => CN k 88 [.agg [.int .i64 a1.Debtor, .int .i64 a1.Holder, .int .i64 a1.Cut, .int .i64 a1.Amount, .int .i64 a1.Left], .agg [.int .i64 a2.Debtor, .int .i64 a2.Holder, .int .i64 a2.Cut, .int .i64 a2.Amount, .int .i64 a2.Left]] []) (fun p => rRes p.2 p.1 = laws_eqTally_enc r) := by
 unfold laws_eqTally at h
 refine Ev.enter (F := fun k => f88 (CN k) k) (fun k => callN_eq rfl Try.func88 rfl rfl rfl (by decide +kernel) (f88_eq _ _)) (sq (Rg (kx (bxI rfl rfl ⟨rfl, rfl, by decide⟩) (kx (bxI rfl rfl ⟨rfl, rfl, by decide⟩) (kx (mvO rfl) (Rn (hN rfl (hN rfl hZ)) fun e1 h3 h4 => sN (sq (sq (Rg (kx (faP h3 ⟨ble rfl, blt rfl⟩ rfl) (kx (ldP rfl rfl) (kx (faP h4 ⟨ble rfl, blt rfl⟩ rfl) (kx (ldP rfl rfl) (kx (bNeq rfl rfl) (Rn (hA h3 (hA h4 (hN rfl hZ))) fun e5 h7 h8 h9 => sN ?_)))))))))))))))
 clear h3 h4
 rcases ite_some h with ⟨hb10, h⟩ | ⟨hb10, h⟩
 ·refine cT h9 hb10 (sq (Rg (kx (mvO rfl) (Rn (hV (.bool false) rfl hZ) fun e11 h13 => sN (xx (sR ?_))))))
  clear h7 h8 h9
  obtain rfl := si h
  exact eR (resT h13 res0) rfl
 refine cF h9 hb10 (xx (sN (sq (sq (Rg (kx (faP h7 ⟨ble rfl, blt rfl⟩ rfl) (kx (ldP rfl rfl) (kx (faP h8 ⟨ble rfl, blt rfl⟩ rfl) (kx (ldP rfl rfl) (kx (bNeq rfl rfl) (Rn (hA h7 (hA h8 (hN rfl hZ))) fun e14 h16 h17 h18 => sN ?_)))))))))))
 clear h7 h8 h9
 rcases ite_some h with ⟨hb19, h⟩ | ⟨hb19, h⟩
 ·refine cT h18 hb19 (sq (Rg (kx (mvO rfl) (Rn (hV (.bool false) rfl hZ) fun e20 h22 => sN (xx (sR ?_))))))
  clear h16 h17 h18
  obtain rfl := si h
  exact eR (resT h22 res0) rfl
 refine cF h18 hb19 (xx (sN (sq (sq (Rg (kx (faP h16 ⟨ble rfl, blt rfl⟩ rfl) (kx (ldP rfl rfl) (kx (faP h17 ⟨ble rfl, blt rfl⟩ rfl) (kx (ldP rfl rfl) (kx (bNeq rfl rfl) (Rn (hA h16 (hA h17 (hN rfl hZ))) fun e23 h25 h26 h27 => sN ?_)))))))))))
 clear h16 h17 h18
 rcases ite_some h with ⟨hb28, h⟩ | ⟨hb28, h⟩
 ·refine cT h27 hb28 (sq (Rg (kx (mvO rfl) (Rn (hV (.bool false) rfl hZ) fun e29 h31 => sN (xx (sR ?_))))))
  clear h25 h26 h27
  obtain rfl := si h
  exact eR (resT h31 res0) rfl
 refine cF h27 hb28 (xx (sN (sq (sq (Rg (kx (faP h25 ⟨ble rfl, blt rfl⟩ rfl) (kx (ldP rfl rfl) (kx (faP h26 ⟨ble rfl, blt rfl⟩ rfl) (kx (ldP rfl rfl) (kx (bNeq rfl rfl) (Rn (hA h25 (hA h26 (hN rfl hZ))) fun e32 h34 h35 h36 => sN ?_)))))))))))
 clear h25 h26 h27
 rcases ite_some h with ⟨hb37, h⟩ | ⟨hb37, h⟩
 ·refine cT h36 hb37 (sq (Rg (kx (mvO rfl) (Rn (hV (.bool false) rfl hZ) fun e38 h40 => sN (xx (sR ?_))))))
  clear h34 h35 h36
  obtain rfl := si h
  exact eR (resT h40 res0) rfl
 refine cF h36 hb37 (xx (sN (sq (sq (Rg (kx (faP h34 ⟨ble rfl, blt rfl⟩ rfl) (kx (ldP rfl rfl) (kx (faP h35 ⟨ble rfl, blt rfl⟩ rfl) (kx (ldP rfl rfl) (kx (bNeq rfl rfl) (Rn (hN rfl hZ) fun e41 h43 => sN ?_)))))))))))
 clear h34 h35 h36
 rcases ite_some h with ⟨hb44, h⟩ | ⟨hb44, h⟩
 ·refine cT h43 hb44 (sq (Rg (kx (mvO rfl) (Rn (hV (.bool false) rfl hZ) fun e45 h47 => sN (xx (sR ?_))))))
  clear h43
  obtain rfl := si h
  exact eR (resT h47 res0) rfl
 refine cF h43 hb44 (xx (sN (sq (Rg (kx (mvO rfl) (Rn (hV (.bool true) rfl hZ) fun e48 h50 => sN (xx ?_)))))))
 clear h43
 obtain rfl := si h
 exact eR (resT h50 res0) rfl
/-! ### (loop.example/g01263/impl.sums).debts (f87) -/
abbrev impl_sums_debts_b2_S := Int × (List Debt)
abbrev impl_sums_debts_b2_R := Unit ⊕ ((List Debt))
def impl_sums_debts_b2_RS (a1 : Ar 16 (Ar 16 Int)) (s1_1 : Int) (x42 : Ar 16 Int) (i1_1 : Nat) (s : impl_sums_debts_b2_S) (e : Env) (M : Mem) : Prop := eget e 4 = .lsl i1_1 s.2.length 0 s.2.length ∧ eget e 5 = .int .i64 s1_1 ∧ eget e 10 = .agg (arC (arC (n := 16) (cI .i64) 0) (Ar.rep 16 0) a1) ∧ eget e 11 = .int .i64 s1_1 ∧ eget e 15 = .agg (arC (cI .i64) 0 x42) ∧ eget e 16 = .int .i64 s.1 ∧ M[i1_1]? = some (.live ⟨.grow, 94, 3, s.2.map Debt.c⟩)
def impl_sums_debts_b2_RR (a1 : Ar 16 (Ar 16 Int)) (s1_1 : Int) (x42 : Ar 16 Int) (i1_1 : Nat) (r : impl_sums_debts_b2_R) (x : Ex) (e : Env) (M : Mem) : Prop :=
  match r with
  | (.inl g) => x = .ret ∧ eget e 2 = .nils ∧ eget e 3 = .int .i64 3
  | (.inr g) => x = .ext 2 ∧ eget e 4 = .lsl i1_1 g.length 0 g.length ∧ eget e 10 = .agg (arC (arC (n := 16) (cI .i64) 0) (Ar.rep 16 0) a1) ∧ eget e 11 = .int .i64 s1_1 ∧ M[i1_1]? = some (.live ⟨.grow, 94, 3, g.map Debt.c⟩)
noncomputable def impl_sums_debts_b2 (s1_1 : Int) (x42 : Ar 16 Int) : impl_sums_debts_b2_S → Option (impl_sums_debts_b2_S ⊕ impl_sums_debts_b2_R) := fun (s2_1, s2_2) =>
 if (decide (s2_1 < 16)) = true then
  (rdA x42 s2_1).bind fun x109 =>
  if (decide (x109 > 100000000)) = true then
   some (.inr (.inl ()))
  else
   if (decide (x109 > 0)) = true then
    (app 24 s2_2 [(Debt.mk s1_1 s2_1 x109)]).bind fun x149 =>
    some (.inl ((IntKind.i64.wrap (s2_1 + 1)), x149))
   else
    some (.inl ((IntKind.i64.wrap (s2_1 + 1)), s2_2))
 else
  some (.inr (.inr s2_2))
theorem impl_sums_debts_b2_ok (a1 : Ar 16 (Ar 16 Int)) (s1_1 : Int) (x42 : Ar 16 Int) (i1_1 : Nat) (s : impl_sums_debts_b2_S) (r : impl_sums_debts_b2_S ⊕ impl_sums_debts_b2_R) (h : impl_sums_debts_b2 s1_1 x42 s = some r) (e : Env) (M : Mem) (hs : impl_sums_debts_b2_RS a1 s1_1 x42 i1_1 s e M) : Ev (fun k => (f87_l6 (CN k) k (prune [4, 5, 10, 11, 15, 16] e) M).bind fun q => some q) (bQ (impl_sums_debts_b2_RS a1 s1_1 x42 i1_1) (impl_sums_debts_b2_RR a1 s1_1 x42 i1_1) r) := by
 obtain ⟨s2_1, s2_2⟩ := s
 unfold impl_sums_debts_b2 at h
 obtain ⟨h86, h88, h90, h92, h94, h96, o98⟩ := hs
 generalize he85 : prune [4, 5, 10, 11, 15, 16] e = e84
 have h87 := envp he85.symm rfl h86
 have h89 := envp he85.symm rfl h88
 have h91 := envp he85.symm rfl h90
 have h93 := envp he85.symm rfl h92
 have h95 := envp he85.symm rfl h94
 have h97 := envp he85.symm rfl h96
 refine sq (Rg (kx (bLss h97 rfl) (Rn (hV (.lsl i1_1 s2_2.length 0 s2_2.length) h87 (hV (.int .i64 s1_1) h89 (hV (.agg (arC (arC (n := 16) (cI .i64) 0) (Ar.rep 16 0) a1)) h91 (hV (.int .i64 s1_1) h93 (hV (.agg (arC (cI .i64) 0 x42)) h95 (hA h97 (hN rfl hZ))))))) fun e99 h101 h102 h103 h104 h105 h106 h107 => sN (sq ?_))))
 clear h87 h89 h91 h93 h95 h97
 rcases ite_some h with ⟨hb108, h⟩ | ⟨hb108, h⟩
 ·obtain ⟨x109, hx110, h⟩ := bind_some h
  refine cT h107 hb108 (xx (sN (sq (bl (sq (Rg (kx (mvO h106) (kx (ixA1 (K := AV.int .i64) (c := (cI .i64)) (z := 0) (g := x42) h105 h106 hx110 (fun _ => rfl)) (kx (mvO rfl) (kx (mvO rfl) (Rn (hA h101 (hA h102 (hN rfl (hN rfl (hA h103 (hA h104 (hA h105 (hA h106 hZ)))))))) fun e111 h113 h114 h115 h116 h117 h118 h119 h120 => sN (sq (sq (Rg (kx (mvO h116) (kx (bGtr rfl rfl) (Rn (hA h113 (hA h114 (hA h115 (hA h116 (hA h117 (hA h118 (hA h119 (hA h120 (hN rfl hZ))))))))) fun e121 h123 h124 h125 h126 h127 h128 h129 h130 h131 => sN ?_)))))))))))))))))
  clear h101 h102 h103 h104 h105 h106 h107 h113 h114 h115 h116 h117 h118 h119 h120
  rcases ite_some h with ⟨hb132, h⟩ | ⟨hb132, h⟩
  ·refine cT h131 hb132 (sq (Rg (kx (mvO rfl) (kx (mvO rfl) (Rn (hV .nils rfl (hV (.int .i64 3) rfl hZ)) fun e133 h135 h136 => sN (xx (sR (bR (sR ?_)))))))))
   clear h123 h124 h125 h126 h127 h128 h129 h130 h131
   obtain rfl := si h
   exact qR ⟨rfl, h135, h136⟩
  refine cF h131 hb132 (xx (sN (sq (Rg (kx (mvO h126) (kx (bGtr rfl rfl) (Rn (hA h123 (hA h124 (hA h125 (hA h126 (hA h127 (hA h128 (hA h129 (hA h130 (hN rfl hZ))))))))) fun e137 h139 h140 h141 h142 h143 h144 h145 h146 h147 => sN ?_)))))))
  clear h123 h124 h125 h126 h127 h128 h129 h130 h131
  rcases ite_some h with ⟨hb148, h⟩ | ⟨hb148, h⟩
  ·obtain ⟨x149, hx150, h⟩ := bind_some h
   refine cT h147 hb148 (Rg (kx (mvO h139) (kx (mvO h140) (kx (mvO h141) (kx (mvO h142) (kx (bldT zero94 (cns (pr3 rfl) (cns (pr3 rfl) (cns (pr3 rfl) rfl))) (fill1 ⟨rfl, ble rfl⟩ rfl rfl (fill1 ⟨rfl, ble rfl⟩ rfl rfl (fill1 ⟨rfl, ble rfl⟩ rfl rfl (fill0 rfl))))) (kx (litI (cns rfl rfl) rfl ⟨rfl, by decide⟩) (kw (apO rfl o98 rfl (elT (c := Debt.c) (xs := [(Debt.mk s1_1 s2_1 x109)]) rfl) hx150 Debt.fl (by decide)) fun M151 hM152 => ?_))))))))
   have o153 : M151[i1_1]? = some (.live ⟨.grow, 94, 3, x149.map Debt.c⟩) := set_same hM152 o98
   refine kx (mvO rfl) (Rn (hV (.lsl i1_1 x149.length 0 x149.length) rfl (hA h140 (hA h143 (hA h144 (hA h145 (hA h146 hZ)))))) fun e154 h156 h157 h158 h159 h160 h161 => bN (sN (Rg (kx (bAdd h161 rfl) (kx (mvO rfl) (Rn (hA h156 (hA h157 (hA h158 (hA h159 (hA h160 (hN rfl hZ)))))) fun e162 h164 h165 h166 h167 h168 h169 => ?_))))))
   clear h140 h141 h142 h143 h144 h145 h146 h147 h156 h157 h158 h159 h160
   obtain rfl := si h
   exact qN ⟨h164, h165, h166, h167, h168, h169, o153⟩
  refine cF h147 hb148 (xx (bN (sN (Rg (kx (bAdd h146 rfl) (kx (mvO rfl) (Rn (hA h139 (hA h140 (hA h143 (hA h144 (hA h145 (hN rfl hZ)))))) fun e170 h172 h173 h174 h175 h176 h177 => ?_)))))))
  clear h139 h140 h141 h142 h143 h144 h145 h147
  obtain rfl := si h
  exact qN ⟨h172, h173, h174, h175, h176, h177, o98⟩
 refine cF h107 hb108 (xx (sE ?_))
 obtain rfl := si h
 exact qE ⟨rfl, h101, h103, h104, o98⟩
abbrev impl_sums_debts_b1_S := Int × (List Debt)
abbrev impl_sums_debts_b1_R := Unit ⊕ ((List Debt))
def impl_sums_debts_b1_RS (a1 : Ar 16 (Ar 16 Int)) (i1_1 : Nat) (s : impl_sums_debts_b1_S) (e : Env) (M : Mem) : Prop := eget e 4 = .lsl i1_1 s.2.length 0 s.2.length ∧ eget e 10 = .agg (arC (arC (n := 16) (cI .i64) 0) (Ar.rep 16 0) a1) ∧ eget e 11 = .int .i64 s.1 ∧ M[i1_1]? = some (.live ⟨.grow, 94, 3, s.2.map Debt.c⟩)
def impl_sums_debts_b1_RR (a1 : Ar 16 (Ar 16 Int)) (i1_1 : Nat) (r : impl_sums_debts_b1_R) (x : Ex) (e : Env) (M : Mem) : Prop :=
  match r with
  | (.inl g) => x = .ret ∧ eget e 2 = .nils ∧ eget e 3 = .int .i64 3
  | (.inr g) => x = .ext 0 ∧ eget e 4 = .lsl i1_1 g.length 0 g.length ∧ M[i1_1]? = some (.live ⟨.grow, 94, 3, g.map Debt.c⟩)
noncomputable def impl_sums_debts_b1 (a1 : Ar 16 (Ar 16 Int)) : impl_sums_debts_b1_S → Option (impl_sums_debts_b1_S ⊕ impl_sums_debts_b1_R) := fun (s1_1, s1_2) =>
 if (decide (s1_1 < 16)) = true then
  (rdA a1 s1_1).bind fun x42 =>
  (Lw (impl_sums_debts_b2 s1_1 x42) (0, s1_2)).bind fun r => match r with
  | (.inl _) =>
   some (.inr (.inl ()))
  | (.inr y187) =>
   some (.inl ((IntKind.i64.wrap (s1_1 + 1)), y187))
 else
  some (.inr (.inr s1_2))
theorem impl_sums_debts_b1_ok (a1 : Ar 16 (Ar 16 Int)) (i1_1 : Nat) (s : impl_sums_debts_b1_S) (r : impl_sums_debts_b1_S ⊕ impl_sums_debts_b1_R) (h : impl_sums_debts_b1 a1 s = some r) (e : Env) (M : Mem) (hs : impl_sums_debts_b1_RS a1 i1_1 s e M) : Ev (fun k => (f87_l3 (CN k) k (prune [4, 10, 11] e) M).bind fun q => some q) (bQ (impl_sums_debts_b1_RS a1 i1_1) (impl_sums_debts_b1_RR a1 i1_1) r) := by
 obtain ⟨s1_1, s1_2⟩ := s
 unfold impl_sums_debts_b1 at h
 obtain ⟨h28, h30, h32, o34⟩ := hs
 generalize he27 : prune [4, 10, 11] e = e26
 have h29 := envp he27.symm rfl h28
 have h31 := envp he27.symm rfl h30
 have h33 := envp he27.symm rfl h32
 refine sq (Rg (kx (bLss h33 rfl) (Rn (hV (.lsl i1_1 s1_2.length 0 s1_2.length) h29 (hV (.agg (arC (arC (n := 16) (cI .i64) 0) (Ar.rep 16 0) a1)) h31 (hV (.int .i64 s1_1) h33 (hN rfl hZ)))) fun e35 h37 h38 h39 h40 => sN (sq ?_))))
 clear h29 h31 h33
 rcases ite_some h with ⟨hb41, h⟩ | ⟨hb41, h⟩
 ·obtain ⟨x42, hx43, h⟩ := bind_some h
  refine cT h40 hb41 (xx (sN (sq (bl (sq (Rg (kx (mvO h39) (kx (ixAA (c := (arC (n := 16) (cI .i64) 0)) (z := (Ar.rep 16 0)) (g := a1) h38 h39 hx43 (fun _ => rfl)) (ku (alO zero126) fun M45 hM46 => ?_)))))))))
  have o47 := push_old hM46 o34
  have ne48 := ne_new o34
  have o49 : M45[M.length]? = some (.live ⟨.box, 126, 16, [(arC (cI .i64) 0 (Ar.rep 16 0))]⟩) := push_new hM46
  refine kx (mvO rfl) (kw (stO rfl rfl o49 rfl rfl ⟨rfl, ble rfl⟩ rfl rfl) fun M50 hM51 => ?_)
  have o52 := set_ne hM51 ne48 o47
  have o53 : M50[M.length]? = some (.live ⟨.box, 126, 16, [(arC (cI .i64) 0 x42)]⟩) := set_same hM51 o49
  obtain ⟨r178, hr179, h⟩ := bind_some h
  refine Rn (hA h37 (hN rfl (hV (.loc M.length 1 0 0) rfl (hA h38 (hA h39 hZ))))) fun e54 h56 h57 h58 h59 h60 => sN (sq (Rg (kx (ldOA (cs' := (arC (cI .i64) 0 x42)) h58 o53 rfl rfl (ble rfl) rfl) (kx (mvO rfl) (Rn (hA h56 (hA h57 (hA h59 (hA h60 (hN rfl (hV (.int .i64 0) rfl hZ)))))) fun e61 h63 h64 h65 h66 h67 h68 => sN (bl ?_))))))
  clear h37 h38 h39 h40 h56 h57 h58 h59 h60
  rcases r178 with _ | y187
  ·refine Ev.loop (RS := impl_sums_debts_b2_RS a1 s1_1 x42 i1_1) (RR := impl_sums_debts_b2_RR a1 s1_1 x42 i1_1) (fun s r h e M hs => impl_sums_debts_b2_ok a1 s1_1 x42 i1_1 s r h e M hs) hr179 ⟨h63, h64, h65, h66, h67, h68, o52⟩ fun x e181 M182 hq180 => ?_
   obtain ⟨rfl, h183, h184⟩ := hq180
   refine bR (bR (sR ?_))
   obtain rfl := si h
   exact qR ⟨rfl, h183, h184⟩
  refine Ev.loop (RS := impl_sums_debts_b2_RS a1 s1_1 x42 i1_1) (RR := impl_sums_debts_b2_RR a1 s1_1 x42 i1_1) (fun s r h e M hs => impl_sums_debts_b2_ok a1 s1_1 x42 i1_1 s r h e M hs) hr179 ⟨h63, h64, h65, h66, h67, h68, o52⟩ fun x e185 M186 hq180 => ?_
  obtain ⟨rfl, h188, h189, h190, o191⟩ := hq180
  refine bE (bN (sN (Rg (kx (bAdd h190 rfl) (kx (mvO rfl) (Rn (hV (.lsl i1_1 y187.length 0 y187.length) h188 (hV (.agg (arC (arC (n := 16) (cI .i64) 0) (Ar.rep 16 0) a1)) h189 (hN rfl hZ))) fun e192 h194 h195 h196 => ?_))))))
  clear h188 h189
  obtain rfl := si h
  exact qN ⟨h194, h195, h196, o191⟩
 refine cF h40 hb41 (xx (sE ?_))
 obtain rfl := si h
 exact qE ⟨rfl, h37, o34⟩
noncomputable def impl_sums_debts (a1 : Ar 16 (Ar 16 Int)) : Option (Unit ⊕ ((List Debt))) :=
 (Lw (impl_sums_debts_b1 a1) (0, ([] : List Debt))).bind fun r => match r with
 | (.inl _) =>
  some (.inl ())
 | (.inr y206) =>
  if (decide ((y206.length : Int) > 60)) = true then
   some (.inl ())
  else
   some (.inr y206)
def impl_sums_debts_enc (r : Unit ⊕ ((List Debt))) : AV :=
  match r with
  | (.inl g) => .tup [.nils, .int .i64 3]
  | (.inr g) => .tup [.sl (some 94) (g.map Debt.c), .int .i64 0]
theorem impl_sums_debts_ok (a1 : Ar 16 (Ar 16 Int)) (r : Unit ⊕ ((List Debt))) (h : impl_sums_debts a1 = some r) : Ev (fun k => CN k 87 [.agg (arC (arC (n := 16) (cI .i64) 0) (Ar.rep 16 0) a1)] []) (fun p => rRes p.2 p.1 = impl_sums_debts_enc r) := by
 unfold impl_sums_debts at h
 refine Ev.enter (F := fun k => f87 (CN k) k) (fun k => callN_eq rfl Try.func87 rfl rfl rfl (by decide +kernel) (f87_eq _ _)) (sq (Rg (kx (bxI rfl rfl ⟨rfl, rfl, by decide⟩) (kx (mvO rfl) (kx (mvO rfl) (Rn (hN rfl hZ) fun e1 h3 => sN (sq (Rg (ku (litO (xs := ([] : List Debt)) (c := Debt.c) rfl rfl (by decide)) fun M5 hM6 => ?_)))))))))
 have o7 : M5[([] : Mem).length]? = some (.live ⟨.grow, 94, 3, ([] : List Debt).map Debt.c⟩) := push_new hM6
 obtain ⟨r197, hr198, h⟩ := bind_some h
 refine kx (mvO rfl) (Rn (hA h3 (hV (.lsl ([] : Mem).length ([] : List Debt).length 0 ([] : List Debt).length) rfl hZ)) fun e8 h10 h11 => sN (sq (sq (Rg (kx (ldPA h10 rfl rfl) (kx (mvO rfl) (Rn (hA h11 (hN rfl (hV (.int .i64 0) rfl hZ))) fun e12 h14 h15 h16 => sN (bl ?_))))))))
 clear h3 h10 h11
 rcases r197 with _ | y206
 ·refine Ev.loop (RS := impl_sums_debts_b1_RS a1 (([] : Mem).length)) (RR := impl_sums_debts_b1_RR a1 (([] : Mem).length)) (fun s r h e M hs => impl_sums_debts_b1_ok a1 (([] : Mem).length) s r h e M hs) hr198 ⟨h14, h15, h16, o7⟩ fun x e200 M201 hq199 => ?_
  obtain ⟨rfl, h202, h203⟩ := hq199
  refine bR (sR ?_)
  obtain rfl := si h
  exact eR (resT h202 (resT h203 res0)) rfl
 refine Ev.loop (RS := impl_sums_debts_b1_RS a1 (([] : Mem).length)) (RR := impl_sums_debts_b1_RR a1 (([] : Mem).length)) (fun s r h e M hs => impl_sums_debts_b1_ok a1 (([] : Mem).length) s r h e M hs) hr198 ⟨h14, h15, h16, o7⟩ fun x e204 M205 hq199 => ?_
 obtain ⟨rfl, h207, o208⟩ := hq199
 refine bE (sN (sq (sq (Rg (kx (mvO h207) (kx (lnL Try.underlying54 rfl o208 (by simp)) (kx (bGtr rfl rfl) (Rn (hV (.lsl ([] : Mem).length y206.length 0 y206.length) h207 (hN rfl hZ)) fun e209 h211 h212 => sN ?_))))))))
 clear h207
 rcases ite_some h with ⟨hb213, h⟩ | ⟨hb213, h⟩
 ·refine cT h212 hb213 (sq (Rg (kx (mvO rfl) (kx (mvO rfl) (Rn (hV .nils rfl (hV (.int .i64 3) rfl hZ)) fun e214 h216 h217 => sN (xx (sR ?_)))))))
  clear h211 h212
  obtain rfl := si h
  exact eR (resT h216 (resT h217 res0)) rfl
 refine cF h212 hb213 (xx (sN (sq (Rg (kx (mvO h211) (kx (mvO rfl) (kx (mvO rfl) (Rn (hV (.lsl ([] : Mem).length y206.length 0 y206.length) rfl (hV (.int .i64 0) rfl hZ)) fun e218 h220 h221 => sN (xx ?_)))))))))
 clear h211 h212
 obtain rfl := si h
 exact eR (resT h220 (resT h221 res0)) (rr_tup (mp1 (rr_row o208 rfl Debt.fl) (mp1 rfl mp0)))
/-! ### loop.example/g01263/impl.sumsOf (f86) -/
abbrev impl_sumsOf_b1_S := Int × (Ar 16 (Ar 16 Int))
abbrev impl_sumsOf_b1_R := (Ar 16 (Ar 16 Int))
def impl_sumsOf_b1_RS (a1 : List Debt) (i1_1 : Nat) (i1_2 : Nat) (s : impl_sumsOf_b1_S) (e : Env) (M : Mem) : Prop := eget e 2 = .loc i1_1 1 0 0 ∧ eget e 3 = .loc i1_2 1 0 0 ∧ eget e 7 = .sl none (a1.map Debt.c) ∧ eget e 8 = .int .i64 (a1.length : Int) ∧ eget e 9 = .int .i64 s.1 ∧ M[i1_1]? = some (.live ⟨.box, 133, 256, [(arC (arC (n := 16) (cI .i64) 0) (Ar.rep 16 0) (Ar.rep 16 (Ar.rep 16 0)))]⟩) ∧ M[i1_2]? = some (.live ⟨.box, 133, 256, [(arC (arC (n := 16) (cI .i64) 0) (Ar.rep 16 0) s.2)]⟩)
def impl_sumsOf_b1_RR (a1 : List Debt) (i1_1 : Nat) (i1_2 : Nat) (g : impl_sumsOf_b1_R) (x : Ex) (e : Env) (M : Mem) : Prop := x = .ext 0 ∧ eget e 2 = .loc i1_1 1 0 0 ∧ eget e 3 = .loc i1_2 1 0 0 ∧ M[i1_1]? = some (.live ⟨.box, 133, 256, [(arC (arC (n := 16) (cI .i64) 0) (Ar.rep 16 0) (Ar.rep 16 (Ar.rep 16 0)))]⟩) ∧ M[i1_2]? = some (.live ⟨.box, 133, 256, [(arC (arC (n := 16) (cI .i64) 0) (Ar.rep 16 0) g)]⟩)
noncomputable def impl_sumsOf_b1 (a1 : List Debt) : impl_sumsOf_b1_S → Option (impl_sumsOf_b1_S ⊕ impl_sumsOf_b1_R) := fun (s1_1, s1_2) =>
 if (decide (s1_1 < (a1.length : Int))) = true then
  (rd a1 s1_1).bind fun x68 =>
  (rdA s1_2 x68.From).bind fun x91 =>
  (rdA x91 x68.To).bind fun x93 =>
  (rdA s1_2 x68.From).bind fun x95 =>
  (rdA x95 x68.To).bind fun x97 =>
  some (.inl ((IntKind.i64.wrap (s1_1 + 1)), (s1_2.set x68.From.toNat (x95.set x68.To.toNat (IntKind.i64.wrap (x93 + x68.Amount))))))
 else
  some (.inr s1_2)
theorem impl_sumsOf_b1_ok (a1 : List Debt) (i1_1 : Nat) (i1_2 : Nat) (ne13 : i1_1 ≠ i1_2) (s : impl_sumsOf_b1_S) (r : impl_sumsOf_b1_S ⊕ impl_sumsOf_b1_R) (h : impl_sumsOf_b1 a1 s = some r) (e : Env) (M : Mem) (hs : impl_sumsOf_b1_RS a1 i1_1 i1_2 s e M) : Ev (fun k => (f86_l3 (CN k) k (prune [2, 3, 7, 8, 9] e) M).bind fun q => some q) (bQ (impl_sumsOf_b1_RS a1 i1_1 i1_2) (impl_sumsOf_b1_RR a1 i1_1 i1_2) r) := by
 obtain ⟨s1_1, s1_2⟩ := s
 unfold impl_sumsOf_b1 at h
 obtain ⟨h47, h49, h51, h53, h55, o57, o58⟩ := hs
 generalize he46 : prune [2, 3, 7, 8, 9] e = e45
 have h48 := envp he46.symm rfl h47
 have h50 := envp he46.symm rfl h49
 have h52 := envp he46.symm rfl h51
 have h54 := envp he46.symm rfl h53
 have h56 := envp he46.symm rfl h55
 refine sq (Rg (kx (bLss h56 h54) (Rn (hV (.loc i1_1 1 0 0) h48 (hV (.loc i1_2 1 0 0) h50 (hV (.sl none (a1.map Debt.c)) h52 (hV (.int .i64 (a1.length : Int)) h54 (hV (.int .i64 s1_1) h56 (hN rfl hZ)))))) fun e59 h61 h62 h63 h64 h65 h66 => sN (sq ?_))))
 clear h48 h50 h52 h54 h56
 rcases ite_some h with ⟨hb67, h⟩ | ⟨hb67, h⟩
 ·obtain ⟨x68, hx69, h⟩ := bind_some h
  refine cT h66 hb67 (xx (sN (sq (bl (sq (Rg (kx (ixS h63 h65 hx69 Debt.fl) (kx (ldPA rfl rfl rfl) (ku (alO zero94) fun M71 hM72 => ?_)))))))))
  have o73 := push_old hM72 o57
  have ne74 := ne_new o57
  have o75 := push_old hM72 o58
  have ne76 := ne_new o58
  have o77 : M71[M.length]? = some (.live ⟨.box, 94, 3, [[.int .i64 0, .int .i64 0, .int .i64 0]]⟩) := push_new hM72
  refine kw (stO rfl rfl o77 rfl rfl ⟨rfl, ble rfl⟩ rfl rfl) fun M78 hM79 => ?_
  have o80 := set_ne hM79 ne74 o73
  have o81 := set_ne hM79 ne76 o75
  have o82 : M78[M.length]? = some (.live ⟨.box, 94, 3, [[.int .i64 x68.From, .int .i64 x68.To, .int .i64 x68.Amount]]⟩) := set_same hM79 o77
  obtain ⟨x91, hx92, h⟩ := bind_some h
  obtain ⟨x93, hx94, h⟩ := bind_some h
  obtain ⟨x95, hx96, h⟩ := bind_some h
  obtain ⟨x97, hx98, h⟩ := bind_some h
  refine Rn (hA h61 (hA h62 (hV (.loc M.length 1 0 0) rfl (hA h63 (hA h64 (hA h65 hZ)))))) fun e83 h85 h86 h87 h88 h89 h90 => sN (Rd (kf (faO h87 o82 rfl) (kf (ldO rfl o82 rfl rfl rfl) (kf (faO h87 o82 rfl) (kf (ldO rfl o82 rfl rfl rfl) (kf (ixLA h86 o81 rfl rfl hx92) (kf (ixLA rfl o81 rfl rfl hx94) (kf (ldLA2 (K := AV.int .i64) (c := (cI .i64)) (z := 0) (Z := (Ar.rep 16 0)) (G := s1_2) (pre := []) (post := []) rfl o81 rfl rfl rfl rfl rfl (fun _ => rfl) hx92 hx94) (kf (faO h87 o82 rfl) (kf (ldO rfl o82 rfl rfl rfl) (kf (bAdd rfl rfl) (kf (ixLA h86 o81 rfl rfl hx96) (kf (ixLA rfl o81 rfl rfl hx98) (fZ (kw (stLA2 (c := (cI .i64)) (z := 0) (Z := (Ar.rep 16 0)) (G := s1_2) (pre := []) (post := []) (w' := (IntKind.i64.wrap (x93 + x68.Amount))) rfl rfl o81 rfl rfl rfl rfl rfl (fun _ => rfl) rfl rfl hx96 hx98) fun M99 hM100 => ?_)))))))))))))))
  clear h61 h62 h63 h64 h65 h66
  have o101 := set_ne hM100 ne13 o80
  have o102 : M99[i1_2]? = some (.live ⟨.box, 133, 256, [(arC (arC (n := 16) (cI .i64) 0) (Ar.rep 16 0) (s1_2.set x68.From.toNat (x95.set x68.To.toNat (IntKind.i64.wrap (x93 + x68.Amount)))))]⟩) := set_same hM100 o81
  have o103 := set_ne hM100 (Ne.symm ne76) o82
  refine Rn (hA h85 (hA h86 (hA h88 (hA h89 (hA h90 hZ))))) fun e104 h106 h107 h108 h109 h110 => bN (sN (Rg (kx (bAdd h110 rfl) (kx (mvO rfl) (Rn (hA h106 (hA h107 (hA h108 (hA h109 (hN rfl hZ))))) fun e111 h113 h114 h115 h116 h117 => ?_)))))
  clear h85 h86 h87 h88 h89 h90 h106 h107 h108 h109
  obtain rfl := si h
  exact qN ⟨h113, h114, h115, h116, h117, o101, o102⟩
 refine cF h66 hb67 (xx (sE ?_))
 obtain rfl := si h
 exact qE ⟨rfl, h61, h62, o57, o58⟩
noncomputable def impl_sumsOf (a1 : List Debt) : Option ((Ar 16 (Ar 16 Int))) :=
 (Lw (impl_sumsOf_b1 a1) (0, (Ar.rep 16 (Ar.rep 16 0)))).bind fun y123 =>
 some y123
def impl_sumsOf_enc (r : (Ar 16 (Ar 16 Int))) : AV := .agg (arC (arC (n := 16) (cI .i64) 0) (Ar.rep 16 0) r)
theorem impl_sumsOf_ok (a1 : List Debt) (r : (Ar 16 (Ar 16 Int))) (h : impl_sumsOf a1 = some r) : Ev (fun k => CN k 86 [.sl none (a1.map Debt.c)] []) (fun p => rRes p.2 p.1 = impl_sumsOf_enc r) := by
 unfold impl_sumsOf at h
 refine Ev.enter (F := fun k => f86 (CN k) k) (fun k => callN_eq rfl Try.func86 rfl rfl rfl (by decide +kernel) (f86_eq _ _)) (sq (Rg (ku (alO zero133) fun M2 hM3 => ?_)))
 have o4 : M2[([] : Mem).length]? = some (.live ⟨.box, 133, 256, [(arC (arC (n := 16) (cI .i64) 0) (Ar.rep 16 0) (Ar.rep 16 (Ar.rep 16 0)))]⟩) := push_new hM3
 refine Rn (hN rfl (hV (.loc ([] : Mem).length 1 0 0) rfl hZ)) fun e5 h7 h8 => sN (sq (Rg (kx (bldT zero133 rfl (fill0 rfl)) (ku (alO zero133) fun M10 hM11 => ?_))))
 have o12 := push_old hM11 o4
 have ne13 := ne_new o4
 have o14 : M10[M2.length]? = some (.live ⟨.box, 133, 256, [(arC (arC (n := 16) (cI .i64) 0) (Ar.rep 16 0) (Ar.rep 16 (Ar.rep 16 0)))]⟩) := push_new hM11
 refine kw (stO rfl rfl o14 rfl rfl ⟨rfl, ble rfl⟩ rfl rfl) fun M15 hM16 => ?_
 have o17 := set_ne hM16 ne13 o12
 have o18 : M15[M2.length]? = some (.live ⟨.box, 133, 256, [(arC (arC (n := 16) (cI .i64) 0) (Ar.rep 16 0) (Ar.rep 16 (Ar.rep 16 0)))]⟩) := set_same hM16 o14
 obtain ⟨y123, hr119, h⟩ := bind_some h
 refine Rn (hA h7 (hA h8 (hV (.loc M2.length 1 0 0) rfl hZ))) fun e19 h21 h22 h23 => sN (sq (sq (Rg (kx (mvO h21) (kx (lnS Try.underlying54 rfl) (kx (mvO rfl) (Rn (hA h22 (hA h23 (hN rfl (hN rfl (hV (.int .i64 0) rfl hZ))))) fun e24 h26 h27 h28 h29 h30 => sN (bl (Ev.loop (RS := impl_sumsOf_b1_RS a1 (([] : Mem).length) M2.length) (RR := impl_sumsOf_b1_RR a1 (([] : Mem).length) M2.length) (fun s r h e M hs => impl_sumsOf_b1_ok a1 (([] : Mem).length) M2.length ne13 s r h e M hs) hr119 ⟨h26, h27, h28, h29, h30, o17, o18⟩ fun x e121 M122 hq120 => ?_)))))))))
 clear h7 h8 h21 h22 h23
 obtain ⟨rfl, h124, h125, o126, o127⟩ := hq120
 refine bE (sN (sq (Rg (kx (ldOA (cs' := (arC (arC (n := 16) (cI .i64) 0) (Ar.rep 16 0) y123)) h125 o127 rfl rfl (ble rfl) rfl) (kw (stO h124 rfl o126 rfl rfl ⟨rfl, ble rfl⟩ rfl rfl) fun M128 hM129 => ?_)))))
 have o130 : M128[([] : Mem).length]? = some (.live ⟨.box, 133, 256, [(arC (arC (n := 16) (cI .i64) 0) (Ar.rep 16 0) y123)]⟩) := set_same hM129 o126
 have o131 := set_ne hM129 (Ne.symm ne13) o127
 refine Rn (hV (.loc ([] : Mem).length 1 0 0) h124 hZ) fun e132 h134 => sN (xx ?_)
 clear h124 h125
 obtain rfl := si h
 exact eR (resC (ag := true) (sz := 256) ⟨by kernel_rfl, by kernel_rfl, by kernel_rfl⟩ (ldOA (cs' := (arC (arC (n := 16) (cI .i64) 0) (Ar.rep 16 0) y123)) h134 o130 rfl rfl (ble rfl) rfl) res0) rfl
/-! ### loop.example/g01263/impl.ValidDebts (f85) -/
def impl_ValidDebts_c1_Q (a1 : Int) (a2 : List Debt) (g : Bool) (q : Out) : Prop := q.1 = .nrm ∧ eget q.2.1 0 = .int .i64 a1 ∧ eget q.2.1 1 = .sl none (a2.map Debt.c) ∧ eget q.2.1 17 = .bool g
abbrev impl_ValidDebts_b1_S := Int
abbrev impl_ValidDebts_b1_R := Unit ⊕ Unit
def impl_ValidDebts_b1_RS (a1 : Int) (a2 : List Debt) (s : impl_ValidDebts_b1_S) (e : Env) (M : Mem) : Prop := eget e 0 = .int .i64 a1 ∧ eget e 18 = .sl none (a2.map Debt.c) ∧ eget e 19 = .int .i64 (a2.length : Int) ∧ eget e 20 = .int .i64 s
def impl_ValidDebts_b1_RR (a1 : Int) (a2 : List Debt) (r : impl_ValidDebts_b1_R) (x : Ex) (e : Env) (M : Mem) : Prop :=
  match r with
  | (.inl g) => x = .ret ∧ eget e 4 = .bool false
  | (.inr g) => x = .ext 0 ∧ True
noncomputable def impl_ValidDebts_b1 (a1 : Int) (a2 : List Debt) : impl_ValidDebts_b1_S → Option (impl_ValidDebts_b1_S ⊕ impl_ValidDebts_b1_R) := fun s1_1 =>
 if (decide (s1_1 < (a2.length : Int))) = true then
  (rd a2 s1_1).bind fun x66 =>
  if (decide (x66.From < 0)) = true then
   some (.inr (.inl ()))
  else
   if (decide (x66.From ≥ a1)) = true then
    some (.inr (.inl ()))
   else
    if (decide (x66.To < 0)) = true then
     some (.inr (.inl ()))
    else
     if (decide (x66.To ≥ a1)) = true then
      some (.inr (.inl ()))
     else
      if (x66.From == x66.To) = true then
       some (.inr (.inl ()))
      else
       if (decide (x66.Amount < 1)) = true then
        some (.inr (.inl ()))
       else
        if (decide (x66.Amount > 100000000)) = true then
         some (.inr (.inl ()))
        else
         some (.inl (IntKind.i64.wrap (s1_1 + 1)))
 else
  some (.inr (.inr ()))
theorem impl_ValidDebts_b1_ok (a1 : Int) (a2 : List Debt) (s : impl_ValidDebts_b1_S) (r : impl_ValidDebts_b1_S ⊕ impl_ValidDebts_b1_R) (h : impl_ValidDebts_b1 a1 a2 s = some r) (e : Env) (M : Mem) (hs : impl_ValidDebts_b1_RS a1 a2 s e M) : Ev (fun k => (f85_l4 (CN k) k (prune [0, 18, 19, 20] e) M).bind fun q => some q) (bQ (impl_ValidDebts_b1_RS a1 a2) (impl_ValidDebts_b1_RR a1 a2) r) := by
 revert h hs
 revert s
 intro s1_1 h hs
 unfold impl_ValidDebts_b1 at h
 obtain ⟨h50, h52, h54, h56⟩ := hs
 generalize he49 : prune [0, 18, 19, 20] e = e48
 have h51 := envp he49.symm rfl h50
 have h53 := envp he49.symm rfl h52
 have h55 := envp he49.symm rfl h54
 have h57 := envp he49.symm rfl h56
 refine sq (Rg (kx (bLss h57 h55) (Rn (hV (.int .i64 a1) h51 (hV (.sl none (a2.map Debt.c)) h53 (hV (.int .i64 (a2.length : Int)) h55 (hV (.int .i64 s1_1) h57 (hN rfl hZ))))) fun e58 h60 h61 h62 h63 h64 => sN (sq ?_))))
 clear h51 h53 h55 h57
 rcases ite_some h with ⟨hb65, h⟩ | ⟨hb65, h⟩
 ·obtain ⟨x66, hx67, h⟩ := bind_some h
  refine cT h64 hb65 (xx (sN (sq (bl (sq (Rg (kx (ixS h61 h63 hx67 Debt.fl) (kx (ldPA rfl rfl rfl) (ku (alO zero94) fun M69 hM70 => ?_)))))))))
  have o71 : M69[M.length]? = some (.live ⟨.box, 94, 3, [[.int .i64 0, .int .i64 0, .int .i64 0]]⟩) := push_new hM70
  refine kw (stO rfl rfl o71 rfl rfl ⟨rfl, ble rfl⟩ rfl rfl) fun M72 hM73 => ?_
  have o74 : M72[M.length]? = some (.live ⟨.box, 94, 3, [[.int .i64 x66.From, .int .i64 x66.To, .int .i64 x66.Amount]]⟩) := set_same hM73 o71
  refine Rn (hA h60 (hV (.loc M.length 1 0 0) rfl (hA h61 (hA h62 (hA h63 hZ))))) fun e75 h77 h78 h79 h80 h81 => sN (sq (Rg (kx (faO h78 o74 rfl) (kx (ldO rfl o74 rfl rfl rfl) (kx (bLss rfl rfl) (kx (mvO rfl) ?_))))))
  clear h60 h61 h62 h63 h64
  rcases ite_some h with ⟨hb82, h⟩ | ⟨hb82, h⟩
  ·refine kx (gsF rfl hb82) (kx (gsF rfl hb82) (kx (gsF rfl hb82) (kx (gsF rfl hb82) (kx (pkT rfl hb82 rfl) (kx (mvO rfl) (kx (gsF rfl rfl) (kx (gsF rfl rfl) (kx (gsF rfl rfl) (kx (pkT rfl rfl rfl) (kx (mvO rfl) (kx (gsF rfl rfl) (kx (gsF rfl rfl) (kx (gsF rfl rfl) (kx (gsF rfl rfl) (kx (pkT rfl rfl rfl) (kx (mvO rfl) (kx (gsF rfl rfl) (kx (gsF rfl rfl) (kx (gsF rfl rfl) (kx (gsF rfl rfl) (kx (gsF rfl rfl) (kx (pkT rfl rfl rfl) (kx (mvO rfl) (kx (gsF rfl rfl) (kx (gsF rfl rfl) (kx (gsF rfl rfl) (kx (pkT rfl rfl rfl) (kx (mvO rfl) (kx (gsF rfl rfl) (kx (gsF rfl rfl) (kx (gsF rfl rfl) (kx (pkT rfl rfl rfl) (Rn (hA h77 (hA h79 (hA h80 (hA h81 (hV (.bool true) rfl hZ))))) fun e83 h85 h86 h87 h88 h89 => sN (cT h89 rfl (sq (Rg (kx (mvO rfl) (Rn (hV (.bool false) rfl hZ) fun e90 h92 => sN (xx (bR (sR ?_)))))))))))))))))))))))))))))))))))))))))
   clear h77 h78 h79 h80 h81 h85 h86 h87 h88 h89
   obtain rfl := si h
   exact qR ⟨rfl, h92⟩
  refine kx (guF rfl hb82 (faO h78 o74 rfl)) (kx (guF rfl hb82 (ldO rfl o74 rfl rfl rfl)) (kx (guF rfl hb82 (mvO h77)) (kx (guF rfl hb82 (bGeq rfl rfl)) (kx (pkF rfl hb82 rfl) (kx (mvO rfl) ?_)))))
  rcases ite_some h with ⟨hb93, h⟩ | ⟨hb93, h⟩
  ·refine kx (gsF rfl hb93) (kx (gsF rfl hb93) (kx (gsF rfl hb93) (kx (pkT rfl hb93 rfl) (kx (mvO rfl) (kx (gsF rfl rfl) (kx (gsF rfl rfl) (kx (gsF rfl rfl) (kx (gsF rfl rfl) (kx (pkT rfl rfl rfl) (kx (mvO rfl) (kx (gsF rfl rfl) (kx (gsF rfl rfl) (kx (gsF rfl rfl) (kx (gsF rfl rfl) (kx (gsF rfl rfl) (kx (pkT rfl rfl rfl) (kx (mvO rfl) (kx (gsF rfl rfl) (kx (gsF rfl rfl) (kx (gsF rfl rfl) (kx (pkT rfl rfl rfl) (kx (mvO rfl) (kx (gsF rfl rfl) (kx (gsF rfl rfl) (kx (gsF rfl rfl) (kx (pkT rfl rfl rfl) (Rn (hA h77 (hA h79 (hA h80 (hA h81 (hV (.bool true) rfl hZ))))) fun e94 h96 h97 h98 h99 h100 => sN (cT h100 rfl (sq (Rg (kx (mvO rfl) (Rn (hV (.bool false) rfl hZ) fun e101 h103 => sN (xx (bR (sR ?_)))))))))))))))))))))))))))))))))))
   clear h77 h78 h79 h80 h81 h100 h96 h97 h98 h99
   obtain rfl := si h
   exact qR ⟨rfl, h103⟩
  refine kx (guF rfl hb93 (faO h78 o74 rfl)) (kx (guF rfl hb93 (ldO rfl o74 rfl rfl rfl)) (kx (guF rfl hb93 (bLss rfl rfl)) (kx (pkF rfl hb93 rfl) (kx (mvO rfl) ?_))))
  rcases ite_some h with ⟨hb104, h⟩ | ⟨hb104, h⟩
  ·refine kx (gsF rfl hb104) (kx (gsF rfl hb104) (kx (gsF rfl hb104) (kx (gsF rfl hb104) (kx (pkT rfl hb104 rfl) (kx (mvO rfl) (kx (gsF rfl rfl) (kx (gsF rfl rfl) (kx (gsF rfl rfl) (kx (gsF rfl rfl) (kx (gsF rfl rfl) (kx (pkT rfl rfl rfl) (kx (mvO rfl) (kx (gsF rfl rfl) (kx (gsF rfl rfl) (kx (gsF rfl rfl) (kx (pkT rfl rfl rfl) (kx (mvO rfl) (kx (gsF rfl rfl) (kx (gsF rfl rfl) (kx (gsF rfl rfl) (kx (pkT rfl rfl rfl) (Rn (hA h77 (hA h79 (hA h80 (hA h81 (hV (.bool true) rfl hZ))))) fun e105 h107 h108 h109 h110 h111 => sN (cT h111 rfl (sq (Rg (kx (mvO rfl) (Rn (hV (.bool false) rfl hZ) fun e112 h114 => sN (xx (bR (sR ?_))))))))))))))))))))))))))))))
   clear h77 h78 h79 h80 h81 h107 h108 h109 h110 h111
   obtain rfl := si h
   exact qR ⟨rfl, h114⟩
  refine kx (guF rfl hb104 (faO h78 o74 rfl)) (kx (guF rfl hb104 (ldO rfl o74 rfl rfl rfl)) (kx (guF rfl hb104 (mvO h77)) (kx (guF rfl hb104 (bGeq rfl rfl)) (kx (pkF rfl hb104 rfl) (kx (mvO rfl) ?_)))))
  rcases ite_some h with ⟨hb115, h⟩ | ⟨hb115, h⟩
  ·refine kx (gsF rfl hb115) (kx (gsF rfl hb115) (kx (gsF rfl hb115) (kx (gsF rfl hb115) (kx (gsF rfl hb115) (kx (pkT rfl hb115 rfl) (kx (mvO rfl) (kx (gsF rfl rfl) (kx (gsF rfl rfl) (kx (gsF rfl rfl) (kx (pkT rfl rfl rfl) (kx (mvO rfl) (kx (gsF rfl rfl) (kx (gsF rfl rfl) (kx (gsF rfl rfl) (kx (pkT rfl rfl rfl) (Rn (hA h77 (hA h79 (hA h80 (hA h81 (hV (.bool true) rfl hZ))))) fun e116 h118 h119 h120 h121 h122 => sN (cT h122 rfl (sq (Rg (kx (mvO rfl) (Rn (hV (.bool false) rfl hZ) fun e123 h125 => sN (xx (bR (sR ?_))))))))))))))))))))))))
   clear h77 h78 h79 h80 h81 h118 h119 h120 h121 h122
   obtain rfl := si h
   exact qR ⟨rfl, h125⟩
  refine kx (guF rfl hb115 (faO h78 o74 rfl)) (kx (guF rfl hb115 (ldO rfl o74 rfl rfl rfl)) (kx (guF rfl hb115 (faO h78 o74 rfl)) (kx (guF rfl hb115 (ldO rfl o74 rfl rfl rfl)) (kx (guF rfl hb115 (bEql rfl rfl)) (kx (pkF rfl hb115 rfl) (kx (mvO rfl) ?_))))))
  rcases ite_some h with ⟨hb126, h⟩ | ⟨hb126, h⟩
  ·refine kx (gsF rfl hb126) (kx (gsF rfl hb126) (kx (gsF rfl hb126) (kx (pkT rfl hb126 rfl) (kx (mvO rfl) (kx (gsF rfl rfl) (kx (gsF rfl rfl) (kx (gsF rfl rfl) (kx (pkT rfl rfl rfl) (Rn (hA h77 (hA h79 (hA h80 (hA h81 (hV (.bool true) rfl hZ))))) fun e127 h129 h130 h131 h132 h133 => sN (cT h133 rfl (sq (Rg (kx (mvO rfl) (Rn (hV (.bool false) rfl hZ) fun e134 h136 => sN (xx (bR (sR ?_)))))))))))))))))
   clear h77 h78 h79 h80 h81 h129 h130 h131 h132 h133
   obtain rfl := si h
   exact qR ⟨rfl, h136⟩
  refine kx (guF rfl hb126 (faO h78 o74 rfl)) (kx (guF rfl hb126 (ldO rfl o74 rfl rfl rfl)) (kx (guF rfl hb126 (bLss rfl rfl)) (kx (pkF rfl hb126 rfl) (kx (mvO rfl) ?_))))
  rcases ite_some h with ⟨hb137, h⟩ | ⟨hb137, h⟩
  ·refine kx (gsF rfl hb137) (kx (gsF rfl hb137) (kx (gsF rfl hb137) (kx (pkT rfl hb137 rfl) (Rn (hA h77 (hA h79 (hA h80 (hA h81 (hV (.bool true) rfl hZ))))) fun e138 h140 h141 h142 h143 h144 => sN (cT h144 rfl (sq (Rg (kx (mvO rfl) (Rn (hV (.bool false) rfl hZ) fun e145 h147 => sN (xx (bR (sR ?_))))))))))))
   clear h77 h78 h79 h80 h81 h140 h141 h142 h143 h144
   obtain rfl := si h
   exact qR ⟨rfl, h147⟩
  refine kx (guF rfl hb137 (faO h78 o74 rfl)) (kx (guF rfl hb137 (ldO rfl o74 rfl rfl rfl)) (kx (guF rfl hb137 (bGtr rfl rfl)) (kx (pkF rfl hb137 rfl) (Rn (hA h77 (hA h79 (hA h80 (hA h81 (hN rfl hZ))))) fun e148 h150 h151 h152 h153 h154 => sN ?_))))
  clear h77 h78 h79 h80 h81
  rcases ite_some h with ⟨hb155, h⟩ | ⟨hb155, h⟩
  ·refine cT h154 hb155 (sq (Rg (kx (mvO rfl) (Rn (hV (.bool false) rfl hZ) fun e156 h158 => sN (xx (bR (sR ?_)))))))
   clear h150 h151 h152 h153 h154
   obtain rfl := si h
   exact qR ⟨rfl, h158⟩
  refine cF h154 hb155 (xx (bN (sN (Rg (kx (bAdd h153 rfl) (kx (mvO rfl) (Rn (hA h150 (hA h151 (hA h152 (hN rfl hZ)))) fun e159 h161 h162 h163 h164 => ?_)))))))
  clear h150 h151 h152 h154
  obtain rfl := si h
  exact qN ⟨h161, h162, h163, h164⟩
 refine cF h64 hb65 (xx (sE ?_))
 obtain rfl := si h
 exact qE ⟨rfl, trivial⟩
noncomputable def impl_ValidDebts (a1 : Int) (a2 : List Debt) : Option Bool :=
 (if (decide (a1 < 1)) = true then
  some true
 else
  if (decide (a1 > 16)) = true then
   some true
  else
   some (decide ((a2.length : Int) > 60))).bind fun y24 =>
 if y24 = true then
  some false
 else
  (Lw (impl_ValidDebts_b1 a1 a2) 0).bind fun r => match r with
  | (.inl _) =>
   some false
  | (.inr _) =>
   some true
def impl_ValidDebts_enc (r : Bool) : AV := .bool r
theorem impl_ValidDebts_ok (a1 : Int) (a2 : List Debt) (r : Bool) (h : impl_ValidDebts a1 a2 = some r) : Ev (fun k => CN k 85 [.int .i64 a1, .sl none (a2.map Debt.c)] []) (fun p => rRes p.2 p.1 = impl_ValidDebts_enc r) := by
 unfold impl_ValidDebts at h
 obtain ⟨r177, hr178, h⟩ := bind_some h
 refine Ev.enter (F := fun k => f85 (CN k) k) (fun k => callN_eq rfl Try.func85 rfl rfl rfl (by decide +kernel) (f85_eq _ _)) (sq (Rg (kx (mvO rfl) (Rn (hN rfl (hN rfl hZ)) fun e1 h3 h4 => sN (sq (sq ?_))))))
 refine Ev.cut (Q1 := impl_ValidDebts_c1_Q a1 a2 r177) (by
     have h := hr178
     refine Rg (kx (mvO h3) (kx (bLss rfl rfl) (kx (mvO rfl) ?_)))
     rcases ite_some h with ⟨hb5, h⟩ | ⟨hb5, h⟩
     ·refine kx (gsF rfl hb5) (kx (gsF rfl hb5) (kx (pkT rfl hb5 rfl) (kx (mvO rfl) (kx (gsF rfl rfl) (kx (gsF rfl rfl) (kx (gsF rfl rfl) (kx (pkT rfl rfl rfl) (Rn (hA h3 (hA h4 (hV (.bool true) rfl hZ))) fun e6 h8 h9 h10 => ?_))))))))
      clear h3 h4
      obtain rfl := si h
      exact kd (show impl_ValidDebts_c1_Q a1 a2 _ _ from ⟨rfl, h8, h9, h10⟩)
     refine kx (guF rfl hb5 (mvO h3)) (kx (guF rfl hb5 (bGtr rfl rfl)) (kx (pkF rfl hb5 rfl) (kx (mvO rfl) ?_)))
     rcases ite_some h with ⟨hb11, h⟩ | ⟨hb11, h⟩
     ·refine kx (gsF rfl hb11) (kx (gsF rfl hb11) (kx (gsF rfl hb11) (kx (pkT rfl hb11 rfl) (Rn (hA h3 (hA h4 (hV (.bool true) rfl hZ))) fun e12 h14 h15 h16 => ?_))))
      clear h3 h4
      obtain rfl := si h
      exact kd (show impl_ValidDebts_c1_Q a1 a2 _ _ from ⟨rfl, h14, h15, h16⟩)
     refine kx (guF rfl hb11 (mvO h4)) (kx (guF rfl hb11 (lnS Try.underlying54 rfl)) (kx (guF rfl hb11 (bGtr rfl rfl)) (kx (pkF rfl hb11 rfl) (Rn (hA h3 (hA h4 (hN rfl hZ))) fun e17 h19 h20 h21 => ?_))))
     clear h3 h4
     obtain rfl := si h
     exact kd (show impl_ValidDebts_c1_Q a1 a2 _ _ from ⟨rfl, h19, h20, h21⟩)) ?_
 revert h hr178
 revert r177
 intro y24 hr178 h
 intro x e22 M23 hq176
 obtain ⟨rfl, h25, h26, h27⟩ := hq176
 refine sN ?_
 rcases ite_some h with ⟨hb28, h⟩ | ⟨hb28, h⟩
 ·refine cT h27 hb28 (sq (Rg (kx (mvO rfl) (Rn (hV (.bool false) rfl hZ) fun e29 h31 => sN (xx (sR ?_))))))
  clear h25 h26 h27
  obtain rfl := si h
  exact eR (resT h31 res0) rfl
 obtain ⟨r165, hr166, h⟩ := bind_some h
 refine cF h27 hb28 (xx (sN (sq (sq (Rg (kx (mvO h26) (kx (lnS Try.underlying54 rfl) (kx (mvO rfl) (Rn (hA h25 (hN rfl (hN rfl (hV (.int .i64 0) rfl hZ)))) fun e32 h34 h35 h36 h37 => sN (bl ?_))))))))))
 clear h25 h26 h27
 rcases r165 with _ | _
 ·refine Ev.loop (RS := impl_ValidDebts_b1_RS a1 a2) (RR := impl_ValidDebts_b1_RR a1 a2) (fun s r h e M hs => impl_ValidDebts_b1_ok a1 a2 s r h e M hs) hr166 ⟨h34, h35, h36, h37⟩ fun x e168 M169 hq167 => ?_
  obtain ⟨rfl, h170⟩ := hq167
  refine bR (sR ?_)
  obtain rfl := si h
  exact eR (resT h170 res0) rfl
 refine Ev.loop (RS := impl_ValidDebts_b1_RS a1 a2) (RR := impl_ValidDebts_b1_RR a1 a2) (fun s r h e M hs => impl_ValidDebts_b1_ok a1 a2 s r h e M hs) hr166 ⟨h34, h35, h36, h37⟩ fun x e171 M172 hq167 => ?_
 obtain ⟨rfl, _⟩ := hq167
 refine bE (sN (sq (Rg (kx (mvO rfl) (Rn (hV (.bool true) rfl hZ) fun e173 h175 => sN (xx ?_))))))
 obtain rfl := si h
 exact eR (resT h175 res0) rfl
/-! ### loop.example/g01263/impl.arePeople (f84) -/
abbrev impl_arePeople_b1_S := Int
abbrev impl_arePeople_b1_R := Unit ⊕ Unit
def impl_arePeople_b1_RS (a1 : Int) (a2 : List Int) (s : impl_arePeople_b1_S) (e : Env) (M : Mem) : Prop := eget e 0 = .int .i64 a1 ∧ eget e 7 = .sl none (a2.map (cI .i64)) ∧ eget e 8 = .int .i64 (a2.length : Int) ∧ eget e 9 = .int .i64 s
def impl_arePeople_b1_RR (a1 : Int) (a2 : List Int) (r : impl_arePeople_b1_R) (x : Ex) (e : Env) (M : Mem) : Prop :=
  match r with
  | (.inl g) => x = .ret ∧ eget e 4 = .bool false
  | (.inr g) => x = .ext 0 ∧ True
noncomputable def impl_arePeople_b1 (a1 : Int) (a2 : List Int) : impl_arePeople_b1_S → Option (impl_arePeople_b1_S ⊕ impl_arePeople_b1_R) := fun s1_1 =>
 if (decide (s1_1 < (a2.length : Int))) = true then
  (rd a2 s1_1).bind fun x39 =>
  if (decide (x39 < 0)) = true then
   some (.inr (.inl ()))
  else
   if (decide (x39 ≥ a1)) = true then
    some (.inr (.inl ()))
   else
    some (.inl (IntKind.i64.wrap (s1_1 + 1)))
 else
  some (.inr (.inr ()))
theorem impl_arePeople_b1_ok (a1 : Int) (a2 : List Int) (s : impl_arePeople_b1_S) (r : impl_arePeople_b1_S ⊕ impl_arePeople_b1_R) (h : impl_arePeople_b1 a1 a2 s = some r) (e : Env) (M : Mem) (hs : impl_arePeople_b1_RS a1 a2 s e M) : Ev (fun k => (f84_l2 (CN k) k (prune [0, 7, 8, 9] e) M).bind fun q => some q) (bQ (impl_arePeople_b1_RS a1 a2) (impl_arePeople_b1_RR a1 a2) r) := by
 revert h hs
 revert s
 intro s1_1 h hs
 unfold impl_arePeople_b1 at h
 obtain ⟨h23, h25, h27, h29⟩ := hs
 generalize he22 : prune [0, 7, 8, 9] e = e21
 have h24 := envp he22.symm rfl h23
 have h26 := envp he22.symm rfl h25
 have h28 := envp he22.symm rfl h27
 have h30 := envp he22.symm rfl h29
 refine sq (Rg (kx (bLss h30 h28) (Rn (hV (.int .i64 a1) h24 (hV (.sl none (a2.map (cI .i64))) h26 (hV (.int .i64 (a2.length : Int)) h28 (hV (.int .i64 s1_1) h30 (hN rfl hZ))))) fun e31 h33 h34 h35 h36 h37 => sN (sq ?_))))
 clear h24 h26 h28 h30
 rcases ite_some h with ⟨hb38, h⟩ | ⟨hb38, h⟩
 ·obtain ⟨x39, hx40, h⟩ := bind_some h
  refine cT h37 hb38 (xx (sN (sq (bl (sq (Rg (kx (ixS h34 h36 hx40 (cI_fl _)) (kx (ldP rfl rfl) (kx (mvO rfl) (Rn (hA h33 (hN rfl (hA h34 (hA h35 (hA h36 hZ))))) fun e41 h43 h44 h45 h46 h47 => sN (sq (Rg (kx (mvO h44) (kx (bLss rfl rfl) (kx (mvO rfl) ?_)))))))))))))))
  clear h33 h34 h35 h36 h37
  rcases ite_some h with ⟨hb48, h⟩ | ⟨hb48, h⟩
  ·refine kx (gsF rfl hb48) (kx (gsF rfl hb48) (kx (gsF rfl hb48) (kx (pkT rfl hb48 rfl) (Rn (hA h43 (hA h45 (hA h46 (hA h47 (hV (.bool true) rfl hZ))))) fun e49 h51 h52 h53 h54 h55 => sN (cT h55 rfl (sq (Rg (kx (mvO rfl) (Rn (hV (.bool false) rfl hZ) fun e56 h58 => sN (xx (bR (sR ?_))))))))))))
   clear h43 h44 h45 h46 h47 h51 h52 h53 h54 h55
   obtain rfl := si h
   exact qR ⟨rfl, h58⟩
  refine kx (guF rfl hb48 (mvO h44)) (kx (guF rfl hb48 (mvO h43)) (kx (guF rfl hb48 (bGeq rfl rfl)) (kx (pkF rfl hb48 rfl) (Rn (hA h43 (hA h45 (hA h46 (hA h47 (hN rfl hZ))))) fun e59 h61 h62 h63 h64 h65 => sN ?_))))
  clear h43 h44 h45 h46 h47
  rcases ite_some h with ⟨hb66, h⟩ | ⟨hb66, h⟩
  ·refine cT h65 hb66 (sq (Rg (kx (mvO rfl) (Rn (hV (.bool false) rfl hZ) fun e67 h69 => sN (xx (bR (sR ?_)))))))
   clear h61 h62 h63 h64 h65
   obtain rfl := si h
   exact qR ⟨rfl, h69⟩
  refine cF h65 hb66 (xx (bN (sN (Rg (kx (bAdd h64 rfl) (kx (mvO rfl) (Rn (hA h61 (hA h62 (hA h63 (hN rfl hZ)))) fun e70 h72 h73 h74 h75 => ?_)))))))
  clear h61 h62 h63 h65
  obtain rfl := si h
  exact qN ⟨h72, h73, h74, h75⟩
 refine cF h37 hb38 (xx (sE ?_))
 obtain rfl := si h
 exact qE ⟨rfl, trivial⟩
noncomputable def impl_arePeople (a1 : Int) (a2 : List Int) : Option Bool :=
 (Lw (impl_arePeople_b1 a1 a2) 0).bind fun r => match r with
 | (.inl _) =>
  some false
 | (.inr _) =>
  some true
def impl_arePeople_enc (r : Bool) : AV := .bool r
theorem impl_arePeople_ok (a1 : Int) (a2 : List Int) (r : Bool) (h : impl_arePeople a1 a2 = some r) : Ev (fun k => CN k 84 [.int .i64 a1, .sl none (a2.map (cI .i64))] []) (fun p => rRes p.2 p.1 = impl_arePeople_enc r) := by
 unfold impl_arePeople at h
 obtain ⟨r76, hr77, h⟩ := bind_some h
 refine Ev.enter (F := fun k => f84 (CN k) k) (fun k => callN_eq rfl Try.func84 rfl rfl rfl (by decide +kernel) (f84_eq _ _)) (sq (Rg (kx (mvO rfl) (Rn (hN rfl (hN rfl hZ)) fun e1 h3 h4 => sN (sq (sq (Rg (kx (mvO h4) (kx (lnS Try.underlying49 rfl) (kx (mvO rfl) (Rn (hA h3 (hN rfl (hN rfl (hV (.int .i64 0) rfl hZ)))) fun e5 h7 h8 h9 h10 => sN (bl ?_))))))))))))
 clear h3 h4
 rcases r76 with _ | _
 ·refine Ev.loop (RS := impl_arePeople_b1_RS a1 a2) (RR := impl_arePeople_b1_RR a1 a2) (fun s r h e M hs => impl_arePeople_b1_ok a1 a2 s r h e M hs) hr77 ⟨h7, h8, h9, h10⟩ fun x e79 M80 hq78 => ?_
  obtain ⟨rfl, h81⟩ := hq78
  refine bR (sR ?_)
  obtain rfl := si h
  exact eR (resT h81 res0) rfl
 refine Ev.loop (RS := impl_arePeople_b1_RS a1 a2) (RR := impl_arePeople_b1_RR a1 a2) (fun s r h e M hs => impl_arePeople_b1_ok a1 a2 s r h e M hs) hr77 ⟨h7, h8, h9, h10⟩ fun x e82 M83 hq78 => ?_
 obtain ⟨rfl, _⟩ := hq78
 refine bE (sN (sq (Rg (kx (mvO rfl) (Rn (hV (.bool true) rfl hZ) fun e84 h86 => sN (xx ?_))))))
 obtain rfl := si h
 exact eR (resT h86 res0) rfl
/-! ### loop.example/g01263/impl.isAmount (f83) -/
noncomputable def impl_isAmount (a1 : Int) : Option Bool :=
 if (decide (a1 ≥ 0)) = true then
  some (decide (a1 ≤ 100000000))
 else
  some false
def impl_isAmount_enc (r : Bool) : AV := .bool r
theorem impl_isAmount_ok (a1 : Int) (r : Bool) (h : impl_isAmount a1 = some r) : Ev (fun k => CN k 83 [.int .i64 a1] []) (fun p => rRes p.2 p.1 = impl_isAmount_enc r) := by
 unfold impl_isAmount at h
 refine Ev.enter (F := fun k => f83 (CN k) k) (fun k => callN_eq rfl Try.func83 rfl rfl rfl (by decide +kernel) (f83_eq _ _)) (sq (Rg (kx (mvO rfl) (Rn (hN rfl hZ) fun e1 h3 => sN (sq (Rg (kx (mvO h3) (kx (bGeq rfl rfl) (kx (mvO rfl) ?_)))))))))
 rcases ite_some h with ⟨hb4, h⟩ | ⟨hb4, h⟩
 ·refine kx (guT rfl hb4 (mvO h3)) (kx (guT rfl hb4 (bLeq rfl rfl)) (kx (pkT rfl hb4 rfl) (kx (mvO rfl) (Rn (hN rfl hZ) fun e5 h7 => sN (xx ?_)))))
  clear h3
  obtain rfl := si h
  exact eR (resT h7 res0) rfl
 refine kx (gsT rfl hb4) (kx (gsT rfl hb4) (kx (pkF rfl hb4 rfl) (kx (mvO rfl) (Rn (hV (.bool false) rfl hZ) fun e8 h10 => sN (xx ?_)))))
 clear h3
 obtain rfl := si h
 exact eR (resT h10 res0) rfl
/-! ### loop.example/g01263/impl.isBookDay (f82) -/
noncomputable def impl_isBookDay (a1 : Int) : Option Bool :=
 if (decide (a1 ≥ 0)) = true then
  some (decide (a1 ≤ 100000))
 else
  some false
def impl_isBookDay_enc (r : Bool) : AV := .bool r
theorem impl_isBookDay_ok (a1 : Int) (r : Bool) (h : impl_isBookDay a1 = some r) : Ev (fun k => CN k 82 [.int .i64 a1] []) (fun p => rRes p.2 p.1 = impl_isBookDay_enc r) := by
 unfold impl_isBookDay at h
 refine Ev.enter (F := fun k => f82 (CN k) k) (fun k => callN_eq rfl Try.func82 rfl rfl rfl (by decide +kernel) (f82_eq _ _)) (sq (Rg (kx (mvO rfl) (Rn (hN rfl hZ) fun e1 h3 => sN (sq (Rg (kx (mvO h3) (kx (bGeq rfl rfl) (kx (mvO rfl) ?_)))))))))
 rcases ite_some h with ⟨hb4, h⟩ | ⟨hb4, h⟩
 ·refine kx (guT rfl hb4 (mvO h3)) (kx (guT rfl hb4 (bLeq rfl rfl)) (kx (pkT rfl hb4 rfl) (kx (mvO rfl) (Rn (hN rfl hZ) fun e5 h7 => sN (xx ?_)))))
  clear h3
  obtain rfl := si h
  exact eR (resT h7 res0) rfl
 refine kx (gsT rfl hb4) (kx (gsT rfl hb4) (kx (pkF rfl hb4 rfl) (kx (mvO rfl) (Rn (hV (.bool false) rfl hZ) fun e8 h10 => sN (xx ?_)))))
 clear h3
 obtain rfl := si h
 exact eR (resT h10 res0) rfl
/-! ### loop.example/g01263/laws.toTally (f81) -/
noncomputable def laws_toTally (a1 : Tally) : Option (Int × Int × Int × Int × Int) :=
 some (a1.Debtor, a1.Holder, a1.Cut, a1.Amount, a1.Left)
def laws_toTally_enc (r : Int × Int × Int × Int × Int) : AV := .agg [.int .i64 r.1, .int .i64 r.2.1, .int .i64 r.2.2.1, .int .i64 r.2.2.2.1, .int .i64 r.2.2.2.2]
theorem laws_toTally_ok (a1 : Tally) (r : Int × Int × Int × Int × Int) (h : laws_toTally a1 = some r) : Ev (fun k => CN k 81 [.agg [.int .i64 a1.Debtor, .int .i64 a1.Holder, .int .i64 a1.Cut, .int .i64 a1.Amount, .int .i64 a1.Left]] []) (fun p => rRes p.2 p.1 = laws_toTally_enc r) := by
 unfold laws_toTally at h
 refine Ev.enter (F := fun k => f81 (CN k) k) (fun k => callN_eq rfl Try.func81 rfl rfl rfl (by decide +kernel) (f81_eq _ _)) (sq (Rg (kx (bxI rfl rfl ⟨rfl, rfl, by decide⟩) (ku (alO zero92) fun M2 hM3 => ?_))))
 have o4 : M2[([] : Mem).length]? = some (.live ⟨.box, 92, 5, [[.int .i64 0, .int .i64 0, .int .i64 0, .int .i64 0, .int .i64 0]]⟩) := push_new hM3
 refine Rn (hN rfl (hV (.loc ([] : Mem).length 1 0 0) rfl hZ)) fun e5 h7 h8 => sN (sq (Rg (ku (alO zero92) fun M10 hM11 => ?_)))
 have o12 := push_old hM11 o4
 have ne13 := ne_new o4
 have o14 : M10[M2.length]? = some (.live ⟨.box, 92, 5, [[.int .i64 0, .int .i64 0, .int .i64 0, .int .i64 0, .int .i64 0]]⟩) := push_new hM11
 refine Rn (hA h7 (hA h8 (hV (.loc M2.length 1 0 0) rfl hZ))) fun e15 h17 h18 h19 => sN (sq (Rg (kx (faP h17 ⟨ble rfl, blt rfl⟩ rfl) (kx (ldP rfl rfl) (kx (faO h19 o14 rfl) (kw (stO rfl rfl o14 rfl rfl ⟨rfl, ble rfl⟩ rfl rfl) fun M20 hM21 => ?_))))))
 clear h7 h8
 have o22 := set_ne hM21 ne13 o12
 have o23 : M20[M2.length]? = some (.live ⟨.box, 92, 5, [[.int .i64 a1.Debtor, .int .i64 0, .int .i64 0, .int .i64 0, .int .i64 0]]⟩) := set_same hM21 o14
 refine Rn (hA h17 (hA h18 (hA h19 hZ))) fun e24 h26 h27 h28 => sN (sq (Rg (kx (faP h26 ⟨ble rfl, blt rfl⟩ rfl) (kx (ldP rfl rfl) (kx (faO h28 o23 rfl) (kw (stO rfl rfl o23 rfl rfl ⟨rfl, ble rfl⟩ rfl rfl) fun M29 hM30 => ?_))))))
 clear h17 h18 h19
 have o31 := set_ne hM30 ne13 o22
 have o32 : M29[M2.length]? = some (.live ⟨.box, 92, 5, [[.int .i64 a1.Debtor, .int .i64 a1.Holder, .int .i64 0, .int .i64 0, .int .i64 0]]⟩) := set_same hM30 o23
 refine Rn (hA h26 (hA h27 (hA h28 hZ))) fun e33 h35 h36 h37 => sN (sq (Rg (kx (faP h35 ⟨ble rfl, blt rfl⟩ rfl) (kx (ldP rfl rfl) (kx (faO h37 o32 rfl) (kw (stO rfl rfl o32 rfl rfl ⟨rfl, ble rfl⟩ rfl rfl) fun M38 hM39 => ?_))))))
 clear h26 h27 h28
 have o40 := set_ne hM39 ne13 o31
 have o41 : M38[M2.length]? = some (.live ⟨.box, 92, 5, [[.int .i64 a1.Debtor, .int .i64 a1.Holder, .int .i64 a1.Cut, .int .i64 0, .int .i64 0]]⟩) := set_same hM39 o32
 refine Rn (hA h35 (hA h36 (hA h37 hZ))) fun e42 h44 h45 h46 => sN (sq (Rg (kx (faP h44 ⟨ble rfl, blt rfl⟩ rfl) (kx (ldP rfl rfl) (kx (faO h46 o41 rfl) (kw (stO rfl rfl o41 rfl rfl ⟨rfl, ble rfl⟩ rfl rfl) fun M47 hM48 => ?_))))))
 clear h35 h36 h37
 have o49 := set_ne hM48 ne13 o40
 have o50 : M47[M2.length]? = some (.live ⟨.box, 92, 5, [[.int .i64 a1.Debtor, .int .i64 a1.Holder, .int .i64 a1.Cut, .int .i64 a1.Amount, .int .i64 0]]⟩) := set_same hM48 o41
 refine Rn (hA h44 (hA h45 (hA h46 hZ))) fun e51 h53 h54 h55 => sN (sq (Rg (kx (faP h53 ⟨ble rfl, blt rfl⟩ rfl) (kx (ldP rfl rfl) (kx (faO h55 o50 rfl) (kw (stO rfl rfl o50 rfl rfl ⟨rfl, ble rfl⟩ rfl rfl) fun M56 hM57 => ?_))))))
 clear h44 h45 h46
 have o58 := set_ne hM57 ne13 o49
 have o59 : M56[M2.length]? = some (.live ⟨.box, 92, 5, [[.int .i64 a1.Debtor, .int .i64 a1.Holder, .int .i64 a1.Cut, .int .i64 a1.Amount, .int .i64 a1.Left]]⟩) := set_same hM57 o50
 refine Rn (hA h54 (hA h55 hZ)) fun e60 h62 h63 => sN (sq (Rg (kx (ldOA h63 o59 rfl rfl (ble rfl) rfl) (kw (stO h62 rfl o58 rfl rfl ⟨rfl, ble rfl⟩ rfl rfl) fun M64 hM65 => ?_))))
 clear h53 h54 h55
 have o66 : M64[([] : Mem).length]? = some (.live ⟨.box, 92, 5, [[.int .i64 a1.Debtor, .int .i64 a1.Holder, .int .i64 a1.Cut, .int .i64 a1.Amount, .int .i64 a1.Left]]⟩) := set_same hM65 o58
 have o67 := set_ne hM65 (Ne.symm ne13) o59
 refine Rn (hA h62 hZ) fun e68 h70 => sN (xx ?_)
 clear h62 h63
 obtain rfl := si h
 exact eR (resC (ag := true) (sz := 5) ⟨by kernel_rfl, by kernel_rfl, by kernel_rfl⟩ (ldOA h70 o66 rfl rfl (ble rfl) rfl) res0) rfl
/-! ### loop.example/g01263/spec.l02Person (f80) -/
noncomputable def spec_l02Person (a1 : Int) (a2 : Int) : Option Bool :=
 (spec_l00In a2 0 (IntKind.i64.wrap (a1 - 1))).bind fun r6 =>
 some r6
def spec_l02Person_enc (r : Bool) : AV := .bool r
theorem spec_l02Person_ok (a1 : Int) (a2 : Int) (r : Bool) (h : spec_l02Person a1 a2 = some r) : Ev (fun k => CN k 80 [.int .i64 a1, .int .i64 a2] []) (fun p => rRes p.2 p.1 = spec_l02Person_enc r) := by
 unfold spec_l02Person at h
 obtain ⟨r6, hx5, h⟩ := bind_some h
 refine Ev.enter (F := fun k => f80 (CN k) k) (fun k => callN_eq rfl Try.func80 rfl rfl rfl (by decide +kernel) (f80_eq _ _)) (sq (Rg (kx (mvO rfl) (Rn (hN rfl (hN rfl hZ)) fun e1 h3 h4 => sN (sq (Rg (kx (mvO h4) (kx (mvO h3) (kx (bSub rfl rfl) (kc (cl (v := .bool r6) rfl (cns rfl (cns rfl (cns rfl rfl))) rfl (spec_l00In_ok a2 0 (IntKind.i64.wrap (a1 - 1)) _ hx5) nm) (kx (mvO rfl) (Rn (hN rfl hZ) fun e7 h9 => sN (xx ?_)))))))))))))
 clear h3 h4
 obtain rfl := si h
 exact eR (resT h9 res0) rfl
/-! ### loop.example/g01263/spec.l07Cash (f79) -/
abbrev spec_l07Cash_b1_S := Int
abbrev spec_l07Cash_b1_R := Unit ⊕ Unit
def spec_l07Cash_b1_RS (a1 : List Int) (s : spec_l07Cash_b1_S) (e : Env) (M : Mem) : Prop := eget e 0 = .sl none (a1.map (cI .i64)) ∧ eget e 3 = .int .i64 s
def spec_l07Cash_b1_RR (a1 : List Int) (r : spec_l07Cash_b1_R) (x : Ex) (e : Env) (M : Mem) : Prop :=
  match r with
  | (.inl g) => x = .ret ∧ eget e 2 = .bool false
  | (.inr g) => x = .ext 0 ∧ eget e 0 = .sl none (a1.map (cI .i64))
noncomputable def spec_l07Cash_b1 (a1 : List Int) : spec_l07Cash_b1_S → Option (spec_l07Cash_b1_S ⊕ spec_l07Cash_b1_R) := fun s1_1 =>
 if (decide (s1_1 < (a1.length : Int))) = true then
  (rd a1 s1_1).bind fun x26 =>
  (spec_l01Amount x26).bind fun r29 =>
  if r29 = true then
   some (.inl (IntKind.i64.wrap (s1_1 + 1)))
  else
   some (.inr (.inl ()))
 else
  some (.inr (.inr ()))
theorem spec_l07Cash_b1_ok (a1 : List Int) (s : spec_l07Cash_b1_S) (r : spec_l07Cash_b1_S ⊕ spec_l07Cash_b1_R) (h : spec_l07Cash_b1 a1 s = some r) (e : Env) (M : Mem) (hs : spec_l07Cash_b1_RS a1 s e M) : Ev (fun k => (f79_l2 (CN k) k (prune [0, 3] e) M).bind fun q => some q) (bQ (spec_l07Cash_b1_RS a1) (spec_l07Cash_b1_RR a1) r) := by
 revert h hs
 revert s
 intro s1_1 h hs
 unfold spec_l07Cash_b1 at h
 obtain ⟨h16, h18⟩ := hs
 generalize he15 : prune [0, 3] e = e14
 have h17 := envp he15.symm rfl h16
 have h19 := envp he15.symm rfl h18
 refine sq (sq (Rg (kx (mvO h19) (kx (mvO h17) (kx (lnS Try.underlying49 rfl) (kx (bLss rfl rfl) (Rn (hV (.sl none (a1.map (cI .i64))) h17 (hV (.int .i64 s1_1) h19 (hN rfl hZ))) fun e20 h22 h23 h24 => sN ?_)))))))
 clear h17 h19
 rcases ite_some h with ⟨hb25, h⟩ | ⟨hb25, h⟩
 ·obtain ⟨x26, hx27, h⟩ := bind_some h
  obtain ⟨r29, hx28, h⟩ := bind_some h
  refine cT h24 hb25 (xx (sN (sq (bl (sq (Rg (kx (mvO h22) (kx (mvO h23) (kx (ixS rfl rfl hx27 (cI_fl _)) (kx (ldP rfl rfl) (kc (cl (v := .bool r29) rfl (cns rfl rfl) rfl (spec_l01Amount_ok x26 _ hx28) nm) (kx (uNot rfl) (Rn (hA h22 (hA h23 (hN rfl hZ))) fun e30 h32 h33 h34 => sN ?_)))))))))))))
  clear h22 h23 h24
  rcases ite_some h with ⟨hb35, h⟩ | ⟨hb35, h⟩
  ·refine cF h34 (congrArg Bool.not hb35) (xx (bN (sN (Rg (kx (mvO h33) (kx (bAdd rfl rfl) (kx (mvO rfl) (Rn (hA h32 (hN rfl hZ)) fun e36 h38 h39 => ?_))))))))
   clear h32 h34
   obtain rfl := si h
   exact qN ⟨h38, h39⟩
  refine cT h34 (congrArg Bool.not hb35) (sq (Rg (kx (mvO rfl) (Rn (hV (.bool false) rfl hZ) fun e40 h42 => sN (xx (bR (sR ?_)))))))
  clear h32 h33 h34
  obtain rfl := si h
  exact qR ⟨rfl, h42⟩
 refine cF h24 hb25 (xx (sE ?_))
 obtain rfl := si h
 exact qE ⟨rfl, h22⟩
noncomputable def spec_l07Cash (a1 : List Int) : Option Bool :=
 (Lw (spec_l07Cash_b1 a1) 0).bind fun r => match r with
 | (.inl _) =>
  some false
 | (.inr _) =>
  (spec_l00In (a1.length : Int) 1 16).bind fun r53 =>
  some r53
def spec_l07Cash_enc (r : Bool) : AV := .bool r
theorem spec_l07Cash_ok (a1 : List Int) (r : Bool) (h : spec_l07Cash a1 = some r) : Ev (fun k => CN k 79 [.sl none (a1.map (cI .i64))] []) (fun p => rRes p.2 p.1 = spec_l07Cash_enc r) := by
 unfold spec_l07Cash at h
 obtain ⟨r43, hr44, h⟩ := bind_some h
 refine Ev.enter (F := fun k => f79 (CN k) k) (fun k => callN_eq rfl Try.func79 rfl rfl rfl (by decide +kernel) (f79_eq _ _)) (sq (Rg (kx (mvO rfl) (Rn (hN rfl hZ) fun e1 h3 => sN (sq (sq (Rg (kx (mvO rfl) (Rn (hA h3 (hV (.int .i64 0) rfl hZ)) fun e4 h6 h7 => sN (bl ?_))))))))))
 clear h3
 rcases r43 with _ | _
 ·refine Ev.loop (RS := spec_l07Cash_b1_RS a1) (RR := spec_l07Cash_b1_RR a1) (fun s r h e M hs => spec_l07Cash_b1_ok a1 s r h e M hs) hr44 ⟨h6, h7⟩ fun x e46 M47 hq45 => ?_
  obtain ⟨rfl, h48⟩ := hq45
  refine bR (sR ?_)
  obtain rfl := si h
  exact eR (resT h48 res0) rfl
 refine Ev.loop (RS := spec_l07Cash_b1_RS a1) (RR := spec_l07Cash_b1_RR a1) (fun s r h e M hs => spec_l07Cash_b1_ok a1 s r h e M hs) hr44 ⟨h6, h7⟩ fun x e49 M50 hq45 => ?_
 obtain ⟨rfl, h51⟩ := hq45
 obtain ⟨r53, hx52, h⟩ := bind_some h
 refine bE (sN (sq (Rg (kx (mvO h51) (kx (lnS Try.underlying49 rfl) (kc (cl (v := .bool r53) rfl (cns rfl (cns rfl (cns rfl rfl))) rfl (spec_l00In_ok (a1.length : Int) 1 16 _ hx52) nm) (kx (mvO rfl) (Rn (hN rfl hZ) fun e54 h56 => sN (xx ?_)))))))))
 clear h51
 obtain rfl := si h
 exact eR (resT h56 res0) rfl
/-! ### loop.example/g01263/spec.l07Day (f78) -/
noncomputable def spec_l07Day (a1 : Int) : Option Bool :=
 (spec_l00In a1 0 100000).bind fun r5 =>
 some r5
def spec_l07Day_enc (r : Bool) : AV := .bool r
theorem spec_l07Day_ok (a1 : Int) (r : Bool) (h : spec_l07Day a1 = some r) : Ev (fun k => CN k 78 [.int .i64 a1] []) (fun p => rRes p.2 p.1 = spec_l07Day_enc r) := by
 unfold spec_l07Day at h
 obtain ⟨r5, hx4, h⟩ := bind_some h
 refine Ev.enter (F := fun k => f78 (CN k) k) (fun k => callN_eq rfl Try.func78 rfl rfl rfl (by decide +kernel) (f78_eq _ _)) (sq (Rg (kx (mvO rfl) (Rn (hN rfl hZ) fun e1 h3 => sN (sq (Rg (kx (mvO h3) (kc (cl (v := .bool r5) rfl (cns rfl (cns rfl (cns rfl rfl))) rfl (spec_l00In_ok a1 0 100000 _ hx4) nm) (kx (mvO rfl) (Rn (hN rfl hZ) fun e6 h8 => sN (xx ?_)))))))))))
 clear h3
 obtain rfl := si h
 exact eR (resT h8 res0) rfl
/-! ### loop.example/g01263/laws.eqTallyS (f58) -/
abbrev laws_eqTallyS_b1_S := Int
abbrev laws_eqTallyS_b1_R := Unit ⊕ Unit
def laws_eqTallyS_b1_RS (a1 : List Tally) (a2 : List Tally) (s : laws_eqTallyS_b1_S) (e : Env) (M : Mem) : Prop := eget e 0 = .sl none (a1.map Tally.c) ∧ eget e 1 = .sl none (a2.map Tally.c) ∧ eget e 5 = .int .i64 s
def laws_eqTallyS_b1_RR (a1 : List Tally) (a2 : List Tally) (r : laws_eqTallyS_b1_R) (x : Ex) (e : Env) (M : Mem) : Prop :=
  match r with
  | (.inl g) => x = .ret ∧ eget e 4 = .bool false
  | (.inr g) => x = .ext 0 ∧ True
noncomputable def laws_eqTallyS_b1 (a1 : List Tally) (a2 : List Tally) : laws_eqTallyS_b1_S → Option (laws_eqTallyS_b1_S ⊕ laws_eqTallyS_b1_R) := fun s1_1 =>
 if (decide (s1_1 < (a1.length : Int))) = true then
  (rd a1 s1_1).bind fun x42 =>
  (rd a2 s1_1).bind fun x44 =>
  (laws_eqTally x42 x44).bind fun r47 =>
  if r47 = true then
   some (.inl (IntKind.i64.wrap (s1_1 + 1)))
  else
   some (.inr (.inl ()))
 else
  some (.inr (.inr ()))
theorem laws_eqTallyS_b1_ok (a1 : List Tally) (a2 : List Tally) (s : laws_eqTallyS_b1_S) (r : laws_eqTallyS_b1_S ⊕ laws_eqTallyS_b1_R) (h : laws_eqTallyS_b1 a1 a2 s = some r) (e : Env) (M : Mem) (hs : laws_eqTallyS_b1_RS a1 a2 s e M) : Ev (fun k => (f58_l4 (CN k) k (prune [0, 1, 5] e) M).bind fun q => some q) (bQ (laws_eqTallyS_b1_RS a1 a2) (laws_eqTallyS_b1_RR a1 a2) r) := by
 revert h hs
 revert s
 intro s1_1 h hs
 unfold laws_eqTallyS_b1 at h
 obtain ⟨h29, h31, h33⟩ := hs
 generalize he28 : prune [0, 1, 5] e = e27
 have h30 := envp he28.symm rfl h29
 have h32 := envp he28.symm rfl h31
 have h34 := envp he28.symm rfl h33
 refine sq (sq (Rg (kx (mvO h34) (kx (mvO h30) (kx (lnS Try.underlying57 rfl) (kx (bLss rfl rfl) (Rn (hV (.sl none (a1.map Tally.c)) h30 (hV (.sl none (a2.map Tally.c)) h32 (hV (.int .i64 s1_1) h34 (hN rfl hZ)))) fun e35 h37 h38 h39 h40 => sN ?_)))))))
 clear h30 h32 h34
 rcases ite_some h with ⟨hb41, h⟩ | ⟨hb41, h⟩
 ·obtain ⟨x42, hx43, h⟩ := bind_some h
  obtain ⟨x44, hx45, h⟩ := bind_some h
  obtain ⟨r47, hx46, h⟩ := bind_some h
  refine cT h40 hb41 (xx (sN (sq (bl (sq (Rd (kf (mvO h37) (kf (mvO h39) (kf (ixS rfl rfl hx43 Tally.fl) (kf (ldPA rfl rfl rfl) (kf (mvO h38) (kf (mvO h39) (kf (ixS rfl rfl hx45 Tally.fl) (kf (ldPA rfl rfl rfl) (fc (cl (v := .bool r47) rfl (cns rfl (cns rfl rfl)) rfl (laws_eqTally_ok x42 x44 _ hx46) nm) (kf (uNot rfl) (fZ (Rn (hA h37 (hA h38 (hA h39 (hN rfl hZ)))) fun e48 h50 h51 h52 h53 => sN ?_))))))))))))))))))
  clear h37 h38 h39 h40
  rcases ite_some h with ⟨hb54, h⟩ | ⟨hb54, h⟩
  ·refine cF h53 (congrArg Bool.not hb54) (xx (bN (sN (Rg (kx (mvO h52) (kx (bAdd rfl rfl) (kx (mvO rfl) (Rn (hA h50 (hA h51 (hN rfl hZ))) fun e55 h57 h58 h59 => ?_))))))))
   clear h50 h51 h53
   obtain rfl := si h
   exact qN ⟨h57, h58, h59⟩
  refine cT h53 (congrArg Bool.not hb54) (sq (Rg (kx (mvO rfl) (Rn (hV (.bool false) rfl hZ) fun e60 h62 => sN (xx (bR (sR ?_)))))))
  clear h50 h51 h52 h53
  obtain rfl := si h
  exact qR ⟨rfl, h62⟩
 refine cF h40 hb41 (xx (sE ?_))
 obtain rfl := si h
 exact qE ⟨rfl, trivial⟩
noncomputable def laws_eqTallyS (a1 : List Tally) (a2 : List Tally) : Option Bool :=
 if ((a1.length : Int) != (a2.length : Int)) = true then
  some false
 else
  (Lw (laws_eqTallyS_b1 a1 a2) 0).bind fun r => match r with
  | (.inl _) =>
   some false
  | (.inr _) =>
   some true
def laws_eqTallyS_enc (r : Bool) : AV := .bool r
theorem laws_eqTallyS_ok (a1 : List Tally) (a2 : List Tally) (r : Bool) (h : laws_eqTallyS a1 a2 = some r) : Ev (fun k => CN k 58 [.sl none (a1.map Tally.c), .sl none (a2.map Tally.c)] []) (fun p => rRes p.2 p.1 = laws_eqTallyS_enc r) := by
 unfold laws_eqTallyS at h
 refine Ev.enter (F := fun k => f58 (CN k) k) (fun k => callN_eq rfl Try.func58 rfl rfl rfl (by decide +kernel) (f58_eq _ _)) (sq (Rg (kx (mvO rfl) (Rn (hN rfl (hN rfl hZ)) fun e1 h3 h4 => sN (sq (sq (Rg (kx (mvO h3) (kx (lnS Try.underlying57 rfl) (kx (mvO h4) (kx (lnS Try.underlying57 rfl) (kx (bNeq rfl rfl) (Rn (hA h3 (hA h4 (hN rfl hZ))) fun e5 h7 h8 h9 => sN ?_)))))))))))))
 clear h3 h4
 rcases ite_some h with ⟨hb10, h⟩ | ⟨hb10, h⟩
 ·refine cT h9 hb10 (sq (Rg (kx (mvO rfl) (Rn (hV (.bool false) rfl hZ) fun e11 h13 => sN (xx (sR ?_))))))
  clear h7 h8 h9
  obtain rfl := si h
  exact eR (resT h13 res0) rfl
 obtain ⟨r63, hr64, h⟩ := bind_some h
 refine cF h9 hb10 (xx (sN (sq (sq (Rg (kx (mvO rfl) (Rn (hA h7 (hA h8 (hV (.int .i64 0) rfl hZ))) fun e14 h16 h17 h18 => sN (bl ?_))))))))
 clear h7 h8 h9
 rcases r63 with _ | _
 ·refine Ev.loop (RS := laws_eqTallyS_b1_RS a1 a2) (RR := laws_eqTallyS_b1_RR a1 a2) (fun s r h e M hs => laws_eqTallyS_b1_ok a1 a2 s r h e M hs) hr64 ⟨h16, h17, h18⟩ fun x e66 M67 hq65 => ?_
  obtain ⟨rfl, h68⟩ := hq65
  refine bR (sR ?_)
  obtain rfl := si h
  exact eR (resT h68 res0) rfl
 refine Ev.loop (RS := laws_eqTallyS_b1_RS a1 a2) (RR := laws_eqTallyS_b1_RR a1 a2) (fun s r h e M hs => laws_eqTallyS_b1_ok a1 a2 s r h e M hs) hr64 ⟨h16, h17, h18⟩ fun x e69 M70 hq65 => ?_
 obtain ⟨rfl, _⟩ := hq65
 refine bE (sN (sq (Rg (kx (mvO rfl) (Rn (hV (.bool true) rfl hZ) fun e71 h73 => sN (xx ?_))))))
 obtain rfl := si h
 exact eR (resT h73 res0) rfl
/-! ### loop.example/g01263/laws.eqInt64S (f57) -/
abbrev laws_eqInt64S_b1_S := Int
abbrev laws_eqInt64S_b1_R := Unit ⊕ Unit
def laws_eqInt64S_b1_RS (a1 : List Int) (a2 : List Int) (s : laws_eqInt64S_b1_S) (e : Env) (M : Mem) : Prop := eget e 0 = .sl none (a1.map (cI .i64)) ∧ eget e 1 = .sl none (a2.map (cI .i64)) ∧ eget e 5 = .int .i64 s
def laws_eqInt64S_b1_RR (a1 : List Int) (a2 : List Int) (r : laws_eqInt64S_b1_R) (x : Ex) (e : Env) (M : Mem) : Prop :=
  match r with
  | (.inl g) => x = .ret ∧ eget e 4 = .bool false
  | (.inr g) => x = .ext 0 ∧ True
noncomputable def laws_eqInt64S_b1 (a1 : List Int) (a2 : List Int) : laws_eqInt64S_b1_S → Option (laws_eqInt64S_b1_S ⊕ laws_eqInt64S_b1_R) := fun s1_1 =>
 if (decide (s1_1 < (a1.length : Int))) = true then
  (rd a1 s1_1).bind fun x42 =>
  (rd a2 s1_1).bind fun x44 =>
  if (x42 != x44) = true then
   some (.inr (.inl ()))
  else
   some (.inl (IntKind.i64.wrap (s1_1 + 1)))
 else
  some (.inr (.inr ()))
theorem laws_eqInt64S_b1_ok (a1 : List Int) (a2 : List Int) (s : laws_eqInt64S_b1_S) (r : laws_eqInt64S_b1_S ⊕ laws_eqInt64S_b1_R) (h : laws_eqInt64S_b1 a1 a2 s = some r) (e : Env) (M : Mem) (hs : laws_eqInt64S_b1_RS a1 a2 s e M) : Ev (fun k => (f57_l4 (CN k) k (prune [0, 1, 5] e) M).bind fun q => some q) (bQ (laws_eqInt64S_b1_RS a1 a2) (laws_eqInt64S_b1_RR a1 a2) r) := by
 revert h hs
 revert s
 intro s1_1 h hs
 unfold laws_eqInt64S_b1 at h
 obtain ⟨h29, h31, h33⟩ := hs
 generalize he28 : prune [0, 1, 5] e = e27
 have h30 := envp he28.symm rfl h29
 have h32 := envp he28.symm rfl h31
 have h34 := envp he28.symm rfl h33
 refine sq (sq (Rg (kx (mvO h34) (kx (mvO h30) (kx (lnS Try.underlying49 rfl) (kx (bLss rfl rfl) (Rn (hV (.sl none (a1.map (cI .i64))) h30 (hV (.sl none (a2.map (cI .i64))) h32 (hV (.int .i64 s1_1) h34 (hN rfl hZ)))) fun e35 h37 h38 h39 h40 => sN ?_)))))))
 clear h30 h32 h34
 rcases ite_some h with ⟨hb41, h⟩ | ⟨hb41, h⟩
 ·obtain ⟨x42, hx43, h⟩ := bind_some h
  obtain ⟨x44, hx45, h⟩ := bind_some h
  refine cT h40 hb41 (xx (sN (sq (bl (sq (Rd (kf (mvO h37) (kf (mvO h39) (kf (ixS rfl rfl hx43 (cI_fl _)) (kf (ldP rfl rfl) (kf (mvO h38) (kf (mvO h39) (kf (ixS rfl rfl hx45 (cI_fl _)) (kf (ldP rfl rfl) (kf (bNeq rfl rfl) (fZ (Rn (hA h37 (hA h38 (hA h39 (hN rfl hZ)))) fun e46 h48 h49 h50 h51 => sN ?_)))))))))))))))))
  clear h37 h38 h39 h40
  rcases ite_some h with ⟨hb52, h⟩ | ⟨hb52, h⟩
  ·refine cT h51 hb52 (sq (Rg (kx (mvO rfl) (Rn (hV (.bool false) rfl hZ) fun e53 h55 => sN (xx (bR (sR ?_)))))))
   clear h48 h49 h50 h51
   obtain rfl := si h
   exact qR ⟨rfl, h55⟩
  refine cF h51 hb52 (xx (bN (sN (Rg (kx (mvO h50) (kx (bAdd rfl rfl) (kx (mvO rfl) (Rn (hA h48 (hA h49 (hN rfl hZ))) fun e56 h58 h59 h60 => ?_))))))))
  clear h48 h49 h51
  obtain rfl := si h
  exact qN ⟨h58, h59, h60⟩
 refine cF h40 hb41 (xx (sE ?_))
 obtain rfl := si h
 exact qE ⟨rfl, trivial⟩
noncomputable def laws_eqInt64S (a1 : List Int) (a2 : List Int) : Option Bool :=
 if ((a1.length : Int) != (a2.length : Int)) = true then
  some false
 else
  (Lw (laws_eqInt64S_b1 a1 a2) 0).bind fun r => match r with
  | (.inl _) =>
   some false
  | (.inr _) =>
   some true
def laws_eqInt64S_enc (r : Bool) : AV := .bool r
theorem laws_eqInt64S_ok (a1 : List Int) (a2 : List Int) (r : Bool) (h : laws_eqInt64S a1 a2 = some r) : Ev (fun k => CN k 57 [.sl none (a1.map (cI .i64)), .sl none (a2.map (cI .i64))] []) (fun p => rRes p.2 p.1 = laws_eqInt64S_enc r) := by
 unfold laws_eqInt64S at h
 refine Ev.enter (F := fun k => f57 (CN k) k) (fun k => callN_eq rfl Try.func57 rfl rfl rfl (by decide +kernel) (f57_eq _ _)) (sq (Rg (kx (mvO rfl) (Rn (hN rfl (hN rfl hZ)) fun e1 h3 h4 => sN (sq (sq (Rg (kx (mvO h3) (kx (lnS Try.underlying49 rfl) (kx (mvO h4) (kx (lnS Try.underlying49 rfl) (kx (bNeq rfl rfl) (Rn (hA h3 (hA h4 (hN rfl hZ))) fun e5 h7 h8 h9 => sN ?_)))))))))))))
 clear h3 h4
 rcases ite_some h with ⟨hb10, h⟩ | ⟨hb10, h⟩
 ·refine cT h9 hb10 (sq (Rg (kx (mvO rfl) (Rn (hV (.bool false) rfl hZ) fun e11 h13 => sN (xx (sR ?_))))))
  clear h7 h8 h9
  obtain rfl := si h
  exact eR (resT h13 res0) rfl
 obtain ⟨r61, hr62, h⟩ := bind_some h
 refine cF h9 hb10 (xx (sN (sq (sq (Rg (kx (mvO rfl) (Rn (hA h7 (hA h8 (hV (.int .i64 0) rfl hZ))) fun e14 h16 h17 h18 => sN (bl ?_))))))))
 clear h7 h8 h9
 rcases r61 with _ | _
 ·refine Ev.loop (RS := laws_eqInt64S_b1_RS a1 a2) (RR := laws_eqInt64S_b1_RR a1 a2) (fun s r h e M hs => laws_eqInt64S_b1_ok a1 a2 s r h e M hs) hr62 ⟨h16, h17, h18⟩ fun x e64 M65 hq63 => ?_
  obtain ⟨rfl, h66⟩ := hq63
  refine bR (sR ?_)
  obtain rfl := si h
  exact eR (resT h66 res0) rfl
 refine Ev.loop (RS := laws_eqInt64S_b1_RS a1 a2) (RR := laws_eqInt64S_b1_RR a1 a2) (fun s r h e M hs => laws_eqInt64S_b1_ok a1 a2 s r h e M hs) hr62 ⟨h16, h17, h18⟩ fun x e67 M68 hq63 => ?_
 obtain ⟨rfl, _⟩ := hq63
 refine bE (sN (sq (Rg (kx (mvO rfl) (Rn (hV (.bool true) rfl hZ) fun e69 h71 => sN (xx ?_))))))
 obtain rfl := si h
 exact eR (resT h71 res0) rfl
/-! ### loop.example/g01263/laws.eqDebt (f56) -/
noncomputable def laws_eqDebt (a1 : Debt) (a2 : Debt) : Option Bool :=
 if (a1.From != a2.From) = true then
  some false
 else
  if (a1.To != a2.To) = true then
   some false
  else
   if (a1.Amount != a2.Amount) = true then
    some false
   else
    some true
def laws_eqDebt_enc (r : Bool) : AV := .bool r
theorem laws_eqDebt_ok (a1 : Debt) (a2 : Debt) (r : Bool) (h : laws_eqDebt a1 a2 = some r) : Ev (fun k => CN k 56 [.agg [.int .i64 a1.From, .int .i64 a1.To, .int .i64 a1.Amount], .agg [.int .i64 a2.From, .int .i64 a2.To, .int .i64 a2.Amount]] []) (fun p => rRes p.2 p.1 = laws_eqDebt_enc r) := by
 unfold laws_eqDebt at h
 refine Ev.enter (F := fun k => f56 (CN k) k) (fun k => callN_eq rfl Try.func56 rfl rfl rfl (by decide +kernel) (f56_eq _ _)) (sq (Rg (kx (bxI rfl rfl ⟨rfl, rfl, by decide⟩) (kx (bxI rfl rfl ⟨rfl, rfl, by decide⟩) (kx (mvO rfl) (Rn (hN rfl (hN rfl hZ)) fun e1 h3 h4 => sN (sq (sq (Rg (kx (faP h3 ⟨ble rfl, blt rfl⟩ rfl) (kx (ldP rfl rfl) (kx (faP h4 ⟨ble rfl, blt rfl⟩ rfl) (kx (ldP rfl rfl) (kx (bNeq rfl rfl) (Rn (hA h3 (hA h4 (hN rfl hZ))) fun e5 h7 h8 h9 => sN ?_)))))))))))))))
 clear h3 h4
 rcases ite_some h with ⟨hb10, h⟩ | ⟨hb10, h⟩
 ·refine cT h9 hb10 (sq (Rg (kx (mvO rfl) (Rn (hV (.bool false) rfl hZ) fun e11 h13 => sN (xx (sR ?_))))))
  clear h7 h8 h9
  obtain rfl := si h
  exact eR (resT h13 res0) rfl
 refine cF h9 hb10 (xx (sN (sq (sq (Rg (kx (faP h7 ⟨ble rfl, blt rfl⟩ rfl) (kx (ldP rfl rfl) (kx (faP h8 ⟨ble rfl, blt rfl⟩ rfl) (kx (ldP rfl rfl) (kx (bNeq rfl rfl) (Rn (hA h7 (hA h8 (hN rfl hZ))) fun e14 h16 h17 h18 => sN ?_)))))))))))
 clear h7 h8 h9
 rcases ite_some h with ⟨hb19, h⟩ | ⟨hb19, h⟩
 ·refine cT h18 hb19 (sq (Rg (kx (mvO rfl) (Rn (hV (.bool false) rfl hZ) fun e20 h22 => sN (xx (sR ?_))))))
  clear h16 h17 h18
  obtain rfl := si h
  exact eR (resT h22 res0) rfl
 refine cF h18 hb19 (xx (sN (sq (sq (Rg (kx (faP h16 ⟨ble rfl, blt rfl⟩ rfl) (kx (ldP rfl rfl) (kx (faP h17 ⟨ble rfl, blt rfl⟩ rfl) (kx (ldP rfl rfl) (kx (bNeq rfl rfl) (Rn (hN rfl hZ) fun e23 h25 => sN ?_)))))))))))
 clear h16 h17 h18
 rcases ite_some h with ⟨hb26, h⟩ | ⟨hb26, h⟩
 ·refine cT h25 hb26 (sq (Rg (kx (mvO rfl) (Rn (hV (.bool false) rfl hZ) fun e27 h29 => sN (xx (sR ?_))))))
  clear h25
  obtain rfl := si h
  exact eR (resT h29 res0) rfl
 refine cF h25 hb26 (xx (sN (sq (Rg (kx (mvO rfl) (Rn (hV (.bool true) rfl hZ) fun e30 h32 => sN (xx ?_)))))))
 clear h25
 obtain rfl := si h
 exact eR (resT h32 res0) rfl
/-! ### loop.example/g01263/impl.JoinDebts (f55) -/
noncomputable def impl_JoinDebts (a1 : Int) (a2 : List Debt) : Option (Int ⊕ ((List Debt))) :=
 (impl_ValidDebts a1 a2).bind fun r6 =>
 if r6 = true then
  (impl_sumsOf a2).bind fun r13 =>
  (impl_sums_debts r13).bind fun r => match r with
  | (.inl _) =>
   some (.inl 3)
  | (.inr r19) =>
   some (.inr r19)
 else
  some (.inl 1)
def impl_JoinDebts_enc (r : Int ⊕ ((List Debt))) : AV :=
  match r with
  | (.inl g) => .tup [.nils, .int .i64 g]
  | (.inr g) => .tup [.sl (some 94) (g.map Debt.c), .int .i64 0]
theorem impl_JoinDebts_ok (a1 : Int) (a2 : List Debt) (r : Int ⊕ ((List Debt))) (h : impl_JoinDebts a1 a2 = some r) : Ev (fun k => CN k 55 [.int .i64 a1, .sl none (a2.map Debt.c)] []) (fun p => rRes p.2 p.1 = impl_JoinDebts_enc r) := by
 unfold impl_JoinDebts at h
 obtain ⟨r6, hx5, h⟩ := bind_some h
 refine Ev.enter (F := fun k => f55 (CN k) k) (fun k => callN_eq rfl Try.func55 rfl rfl rfl (by decide +kernel) (f55_eq _ _)) (sq (Rg (kx (mvO rfl) (kx (mvO rfl) (Rn (hN rfl (hN rfl hZ)) fun e1 h3 h4 => sN (sq (sq (Rg (kx (mvO h3) (kx (mvO h4) (kc (cl (v := .bool r6) rfl (cns rfl (cns rfl rfl)) rfl (impl_ValidDebts_ok a1 a2 _ hx5) nm) (kx (uNot rfl) (Rn (hA h4 (hN rfl hZ)) fun e7 h9 h10 => sN ?_)))))))))))))
 clear h3 h4
 rcases ite_some h with ⟨hb11, h⟩ | ⟨hb11, h⟩
 ·obtain ⟨r13, hx12, h⟩ := bind_some h
  obtain ⟨q24, hx14, h⟩ := bind_some h
  refine cF h10 (congrArg Bool.not hb11) (xx (sN (sq (Rg (kx (mvO h9) (kc (cl (v := .agg (arC (arC (n := 16) (cI .i64) 0) (Ar.rep 16 0) r13)) rfl (cns rfl rfl) rfl (impl_sumsOf_ok a2 _ hx12) nm) ?_))))))
  rcases q24 with _ | r19
  ·refine kc (cl (v := .tup [.nils, .int .i64 3]) rfl (cns rfl rfl) rfl (impl_sums_debts_ok r13 _ hx14) nm) (kx (exT rfl rfl) (kx (exT rfl rfl) (kx (mvO rfl) (kx (mvO rfl) (Rn (hV .nils rfl (hV (.int .i64 3) rfl hZ)) fun e15 h17 h18 => sN (xx ?_))))))
   clear h10 h9
   obtain rfl := si h
   exact eR (resT h17 (resT h18 res0)) rfl
  refine kc (cl (v := .tup [.sl (some 94) (r19.map Debt.c), .int .i64 0]) rfl (cns rfl rfl) rfl (impl_sums_debts_ok r13 _ hx14) nm) (kx (exT rfl rfl) (kx (exT rfl rfl) (kx (mvO rfl) (kx (mvO rfl) (Rn (hN rfl (hV (.int .i64 0) rfl hZ)) fun e20 h22 h23 => sN (xx ?_))))))
  clear h10 h9
  obtain rfl := si h
  exact eR (resT h22 (resT h23 res0)) rfl
 refine cT h10 (congrArg Bool.not hb11) (sq (Rg (kx (mvO rfl) (kx (mvO rfl) (Rn (hV .nils rfl (hV (.int .i64 1) rfl hZ)) fun e25 h27 h28 => sN (xx (sR ?_)))))))
 clear h10 h9
 obtain rfl := si h
 exact eR (resT h27 (resT h28 res0)) rfl
/-! ### loop.example/g01263/impl.ValidBook (f54) -/
def impl_ValidBook_c1_Q (a1 : Book) (g : Bool) (q : Out) : Prop := q.1 = .nrm ∧ eget q.2.1 1 = .pt none [.int .i64 a1.Day, .sl none (a1.Cash.map (cI .i64)), .sl none (a1.Tallies.map Tally.c)] ∧ eget q.2.1 3 = .int .i64 (a1.Cash.length : Int) ∧ eget q.2.1 29 = .bool g
abbrev impl_ValidBook_b1_S := Int
abbrev impl_ValidBook_b1_R := Unit ⊕ Unit
def impl_ValidBook_b1_RS (a1 : Book) (s : impl_ValidBook_b1_S) (e : Env) (M : Mem) : Prop := eget e 1 = .pt none [.int .i64 a1.Day, .sl none (a1.Cash.map (cI .i64)), .sl none (a1.Tallies.map Tally.c)] ∧ eget e 3 = .int .i64 (a1.Cash.length : Int) ∧ eget e 31 = .sl none (a1.Cash.map (cI .i64)) ∧ eget e 32 = .int .i64 (a1.Cash.length : Int) ∧ eget e 33 = .int .i64 s
def impl_ValidBook_b1_RR (a1 : Book) (r : impl_ValidBook_b1_R) (x : Ex) (e : Env) (M : Mem) : Prop :=
  match r with
  | (.inl g) => x = .ret ∧ eget e 2 = .bool false
  | (.inr g) => x = .ext 0 ∧ eget e 1 = .pt none [.int .i64 a1.Day, .sl none (a1.Cash.map (cI .i64)), .sl none (a1.Tallies.map Tally.c)] ∧ eget e 3 = .int .i64 (a1.Cash.length : Int)
noncomputable def impl_ValidBook_b1 (a1 : Book) : impl_ValidBook_b1_S → Option (impl_ValidBook_b1_S ⊕ impl_ValidBook_b1_R) := fun s1_1 =>
 if (decide (s1_1 < (a1.Cash.length : Int))) = true then
  (rd a1.Cash s1_1).bind fun x83 =>
  (impl_isAmount x83).bind fun r94 =>
  if r94 = true then
   some (.inl (IntKind.i64.wrap (s1_1 + 1)))
  else
   some (.inr (.inl ()))
 else
  some (.inr (.inr ()))
theorem impl_ValidBook_b1_ok (a1 : Book) (s : impl_ValidBook_b1_S) (r : impl_ValidBook_b1_S ⊕ impl_ValidBook_b1_R) (h : impl_ValidBook_b1 a1 s = some r) (e : Env) (M : Mem) (hs : impl_ValidBook_b1_RS a1 s e M) : Ev (fun k => (f54_l5 (CN k) k (prune [1, 3, 31, 32, 33] e) M).bind fun q => some q) (bQ (impl_ValidBook_b1_RS a1) (impl_ValidBook_b1_RR a1) r) := by
 revert h hs
 revert s
 intro s1_1 h hs
 unfold impl_ValidBook_b1 at h
 obtain ⟨h64, h66, h68, h70, h72⟩ := hs
 generalize he63 : prune [1, 3, 31, 32, 33] e = e62
 have h65 := envp he63.symm rfl h64
 have h67 := envp he63.symm rfl h66
 have h69 := envp he63.symm rfl h68
 have h71 := envp he63.symm rfl h70
 have h73 := envp he63.symm rfl h72
 refine sq (Rg (kx (bLss h73 h71) (Rn (hV (.pt none [.int .i64 a1.Day, .sl none (a1.Cash.map (cI .i64)), .sl none (a1.Tallies.map Tally.c)]) h65 (hV (.int .i64 (a1.Cash.length : Int)) h67 (hV (.sl none (a1.Cash.map (cI .i64))) h69 (hV (.int .i64 (a1.Cash.length : Int)) h71 (hV (.int .i64 s1_1) h73 (hN rfl hZ)))))) fun e74 h76 h77 h78 h79 h80 h81 => sN (sq ?_))))
 clear h65 h67 h69 h71 h73
 rcases ite_some h with ⟨hb82, h⟩ | ⟨hb82, h⟩
 ·obtain ⟨x83, hx84, h⟩ := bind_some h
  obtain ⟨r94, hx93, h⟩ := bind_some h
  refine cT h81 hb82 (xx (sN (sq (bl (sq (Rg (kx (ixS h78 h80 hx84 (cI_fl _)) (kx (ldP rfl rfl) (kx (mvO rfl) (Rn (hA h76 (hA h77 (hN rfl (hA h78 (hA h79 (hA h80 hZ)))))) fun e85 h87 h88 h89 h90 h91 h92 => sN (sq (Rg (kx (mvO h89) (kc (cl (v := .bool r94) rfl (cns rfl rfl) rfl (impl_isAmount_ok x83 _ hx93) nm) (kx (uNot rfl) (Rn (hA h87 (hA h88 (hA h90 (hA h91 (hA h92 (hN rfl hZ)))))) fun e95 h97 h98 h99 h100 h101 h102 => sN ?_))))))))))))))))
  clear h76 h77 h78 h79 h80 h81 h87 h88 h89 h90 h91 h92
  rcases ite_some h with ⟨hb103, h⟩ | ⟨hb103, h⟩
  ·refine cF h102 (congrArg Bool.not hb103) (xx (bN (sN (Rg (kx (bAdd h101 rfl) (kx (mvO rfl) (Rn (hA h97 (hA h98 (hA h99 (hA h100 (hN rfl hZ))))) fun e104 h106 h107 h108 h109 h110 => ?_)))))))
   clear h100 h102 h97 h98 h99
   obtain rfl := si h
   exact qN ⟨h106, h107, h108, h109, h110⟩
  refine cT h102 (congrArg Bool.not hb103) (sq (Rg (kx (mvO rfl) (Rn (hV (.bool false) rfl hZ) fun e111 h113 => sN (xx (bR (sR ?_)))))))
  clear h100 h101 h102 h97 h98 h99
  obtain rfl := si h
  exact qR ⟨rfl, h113⟩
 refine cF h81 hb82 (xx (sE ?_))
 obtain rfl := si h
 exact qE ⟨rfl, h76, h77⟩
abbrev impl_ValidBook_b2_S := Int × Int
abbrev impl_ValidBook_b2_R := Unit ⊕ Unit
def impl_ValidBook_b2_RS (a1 : Book) (s : impl_ValidBook_b2_S) (e : Env) (M : Mem) : Prop := eget e 1 = .pt none [.int .i64 a1.Day, .sl none (a1.Cash.map (cI .i64)), .sl none (a1.Tallies.map Tally.c)] ∧ eget e 3 = .int .i64 (a1.Cash.length : Int) ∧ eget e 6 = .int .i64 s.1 ∧ eget e 42 = .sl none (a1.Tallies.map Tally.c) ∧ eget e 43 = .int .i64 (a1.Tallies.length : Int) ∧ eget e 44 = .int .i64 s.2
def impl_ValidBook_b2_RR (a1 : Book) (r : impl_ValidBook_b2_R) (x : Ex) (e : Env) (M : Mem) : Prop :=
  match r with
  | (.inl g) => x = .ret ∧ eget e 2 = .bool false
  | (.inr g) => x = .ext 2 ∧ True
noncomputable def impl_ValidBook_b2 (a1 : Book) : impl_ValidBook_b2_S → Option (impl_ValidBook_b2_S ⊕ impl_ValidBook_b2_R) := fun (s2_1, s2_2) =>
 if (decide (s2_2 < (a1.Tallies.length : Int))) = true then
  (rd a1.Tallies s2_2).bind fun x175 =>
  (impl_arePeople (a1.Cash.length : Int) [x175.Debtor, x175.Holder]).bind fun r194 =>
  if r194 = true then
   if (decide (x175.Cut < s2_1)) = true then
    some (.inr (.inl ()))
   else
    if (decide (x175.Cut > a1.Day)) = true then
     some (.inr (.inl ()))
    else
     if (decide (x175.Amount < 1)) = true then
      some (.inr (.inl ()))
     else
      if (decide (x175.Amount > 100000000)) = true then
       some (.inr (.inl ()))
      else
       if (decide (x175.Left < 0)) = true then
        some (.inr (.inl ()))
       else
        if (decide (x175.Left > x175.Amount)) = true then
         some (.inr (.inl ()))
        else
         if (x175.Debtor == x175.Holder) = true then
          if (x175.Left != 0) = true then
           some (.inr (.inl ()))
          else
           some (.inl (x175.Cut, (IntKind.i64.wrap (s2_2 + 1))))
         else
          some (.inl (x175.Cut, (IntKind.i64.wrap (s2_2 + 1))))
  else
   some (.inr (.inl ()))
 else
  some (.inr (.inr ()))
theorem impl_ValidBook_b2_ok (a1 : Book) (s : impl_ValidBook_b2_S) (r : impl_ValidBook_b2_S ⊕ impl_ValidBook_b2_R) (h : impl_ValidBook_b2 a1 s = some r) (e : Env) (M : Mem) (hs : impl_ValidBook_b2_RS a1 s e M) : Ev (fun k => (f54_l12 (CN k) k (prune [1, 3, 6, 42, 43, 44] e) M).bind fun q => some q) (bQ (impl_ValidBook_b2_RS a1) (impl_ValidBook_b2_RR a1) r) := by
 obtain ⟨s2_1, s2_2⟩ := s
 unfold impl_ValidBook_b2 at h
 obtain ⟨h153, h155, h157, h159, h161, h163⟩ := hs
 generalize he152 : prune [1, 3, 6, 42, 43, 44] e = e151
 have h154 := envp he152.symm rfl h153
 have h156 := envp he152.symm rfl h155
 have h158 := envp he152.symm rfl h157
 have h160 := envp he152.symm rfl h159
 have h162 := envp he152.symm rfl h161
 have h164 := envp he152.symm rfl h163
 refine sq (Rg (kx (bLss h164 h162) (Rn (hV (.pt none [.int .i64 a1.Day, .sl none (a1.Cash.map (cI .i64)), .sl none (a1.Tallies.map Tally.c)]) h154 (hV (.int .i64 (a1.Cash.length : Int)) h156 (hV (.int .i64 s2_1) h158 (hV (.sl none (a1.Tallies.map Tally.c)) h160 (hV (.int .i64 (a1.Tallies.length : Int)) h162 (hV (.int .i64 s2_2) h164 (hN rfl hZ))))))) fun e165 h167 h168 h169 h170 h171 h172 h173 => sN (sq ?_))))
 clear h154 h156 h158 h160 h162 h164
 rcases ite_some h with ⟨hb174, h⟩ | ⟨hb174, h⟩
 ·obtain ⟨x175, hx176, h⟩ := bind_some h
  refine cT h173 hb174 (xx (sN (sq (bl (sq (Rg (kx (ixS h170 h172 hx176 Tally.fl) (kx (ldPA rfl rfl rfl) (ku (alO zero92) fun M178 hM179 => ?_)))))))))
  have o180 : M178[M.length]? = some (.live ⟨.box, 92, 5, [[.int .i64 0, .int .i64 0, .int .i64 0, .int .i64 0, .int .i64 0]]⟩) := push_new hM179
  refine kw (stO rfl rfl o180 rfl rfl ⟨rfl, ble rfl⟩ rfl rfl) fun M181 hM182 => ?_
  have o183 : M181[M.length]? = some (.live ⟨.box, 92, 5, [[.int .i64 x175.Debtor, .int .i64 x175.Holder, .int .i64 x175.Cut, .int .i64 x175.Amount, .int .i64 x175.Left]]⟩) := set_same hM182 o180
  obtain ⟨r194, hx193, h⟩ := bind_some h
  refine Rn (hA h167 (hA h168 (hA h169 (hV (.loc M.length 1 0 0) rfl (hA h170 (hA h171 (hA h172 hZ))))))) fun e184 h186 h187 h188 h189 h190 h191 h192 => sN (sq (sq (Rg (kx (mvO h187) (kx (faO h189 o183 rfl) (kx (ldO rfl o183 rfl rfl rfl) (kx (faO h189 o183 rfl) (kx (ldO rfl o183 rfl rfl rfl) (kx (litI (cns rfl (cns rfl rfl)) rfl ⟨rfl, by decide⟩) (kc (cl (v := .bool r194) rfl (cns rfl (cns rfl rfl)) rfl (impl_arePeople_ok (a1.Cash.length : Int) [x175.Debtor, x175.Holder] _ hx193) nm) (kx (uNot rfl) (kx (mvO rfl) ?_))))))))))))
  clear h167 h168 h169 h170 h171 h172 h173
  rcases ite_some h with ⟨hb195, h⟩ | ⟨hb195, h⟩
  ·refine kx (guF rfl (congrArg Bool.not hb195) (faO h189 o183 rfl)) (kx (guF rfl (congrArg Bool.not hb195) (ldO rfl o183 rfl rfl rfl)) (kx (guF rfl (congrArg Bool.not hb195) (mvO h188)) (kx (guF rfl (congrArg Bool.not hb195) (bLss rfl rfl)) (kx (pkF rfl (congrArg Bool.not hb195) rfl) (kx (mvO rfl) ?_)))))
   rcases ite_some h with ⟨hb196, h⟩ | ⟨hb196, h⟩
   ·refine kx (gsF rfl hb196) (kx (gsF rfl hb196) (kx (gsF rfl hb196) (kx (gsF rfl hb196) (kx (gsF rfl hb196) (kx (pkT rfl hb196 rfl) (kx (mvO rfl) (kx (gsF rfl rfl) (kx (gsF rfl rfl) (kx (gsF rfl rfl) (kx (pkT rfl rfl rfl) (kx (mvO rfl) (kx (gsF rfl rfl) (kx (gsF rfl rfl) (kx (gsF rfl rfl) (kx (pkT rfl rfl rfl) (kx (mvO rfl) (kx (gsF rfl rfl) (kx (gsF rfl rfl) (kx (gsF rfl rfl) (kx (pkT rfl rfl rfl) (kx (mvO rfl) (kx (gsF rfl rfl) (kx (gsF rfl rfl) (kx (gsF rfl rfl) (kx (gsF rfl rfl) (kx (gsF rfl rfl) (kx (pkT rfl rfl rfl) (kx (mvO rfl) (kx (gsF rfl rfl) (kx (gsF rfl rfl) (kx (gsF rfl rfl) (kx (gsF rfl rfl) (kx (gsF rfl rfl) (kx (gsF rfl rfl) (kx (gsU rfl) (kx (gsU rfl) (kx (gsU rfl) (kx (gsF rfl rfl) (kx (pkT rfl rfl rfl) (Rn (hA h186 (hA h187 (hA h189 (hA h190 (hA h191 (hA h192 (hV (.bool true) rfl hZ))))))) fun e197 h199 h200 h201 h202 h203 h204 h205 => sN (cT h205 rfl (sq (Rg (kx (mvO rfl) (Rn (hV (.bool false) rfl hZ) fun e206 h208 => sN (xx (sR (bR (sR ?_)))))))))))))))))))))))))))))))))))))))))))))))))
    clear h186 h187 h188 h189 h190 h191 h192 h199 h200 h201 h202 h203 h204 h205
    obtain rfl := si h
    exact qR ⟨rfl, h208⟩
   refine kx (guF rfl hb196 (faO h189 o183 rfl)) (kx (guF rfl hb196 (ldO rfl o183 rfl rfl rfl)) (kx (guF rfl hb196 (faP h186 ⟨ble rfl, blt rfl⟩ rfl)) (kx (guF rfl hb196 (ldP rfl rfl)) (kx (guF rfl hb196 (bGtr rfl rfl)) (kx (pkF rfl hb196 rfl) (kx (mvO rfl) ?_))))))
   rcases ite_some h with ⟨hb209, h⟩ | ⟨hb209, h⟩
   ·refine kx (gsF rfl hb209) (kx (gsF rfl hb209) (kx (gsF rfl hb209) (kx (pkT rfl hb209 rfl) (kx (mvO rfl) (kx (gsF rfl rfl) (kx (gsF rfl rfl) (kx (gsF rfl rfl) (kx (pkT rfl rfl rfl) (kx (mvO rfl) (kx (gsF rfl rfl) (kx (gsF rfl rfl) (kx (gsF rfl rfl) (kx (pkT rfl rfl rfl) (kx (mvO rfl) (kx (gsF rfl rfl) (kx (gsF rfl rfl) (kx (gsF rfl rfl) (kx (gsF rfl rfl) (kx (gsF rfl rfl) (kx (pkT rfl rfl rfl) (kx (mvO rfl) (kx (gsF rfl rfl) (kx (gsF rfl rfl) (kx (gsF rfl rfl) (kx (gsF rfl rfl) (kx (gsF rfl rfl) (kx (gsF rfl rfl) (kx (gsU rfl) (kx (gsU rfl) (kx (gsU rfl) (kx (gsF rfl rfl) (kx (pkT rfl rfl rfl) (Rn (hA h186 (hA h187 (hA h189 (hA h190 (hA h191 (hA h192 (hV (.bool true) rfl hZ))))))) fun e210 h212 h213 h214 h215 h216 h217 h218 => sN (cT h218 rfl (sq (Rg (kx (mvO rfl) (Rn (hV (.bool false) rfl hZ) fun e219 h221 => sN (xx (sR (bR (sR ?_))))))))))))))))))))))))))))))))))))))))))
    clear h186 h187 h188 h189 h190 h191 h192 h212 h213 h214 h215 h216 h217 h218
    obtain rfl := si h
    exact qR ⟨rfl, h221⟩
   refine kx (guF rfl hb209 (faO h189 o183 rfl)) (kx (guF rfl hb209 (ldO rfl o183 rfl rfl rfl)) (kx (guF rfl hb209 (bLss rfl rfl)) (kx (pkF rfl hb209 rfl) (kx (mvO rfl) ?_))))
   rcases ite_some h with ⟨hb222, h⟩ | ⟨hb222, h⟩
   ·refine kx (gsF rfl hb222) (kx (gsF rfl hb222) (kx (gsF rfl hb222) (kx (pkT rfl hb222 rfl) (kx (mvO rfl) (kx (gsF rfl rfl) (kx (gsF rfl rfl) (kx (gsF rfl rfl) (kx (pkT rfl rfl rfl) (kx (mvO rfl) (kx (gsF rfl rfl) (kx (gsF rfl rfl) (kx (gsF rfl rfl) (kx (gsF rfl rfl) (kx (gsF rfl rfl) (kx (pkT rfl rfl rfl) (kx (mvO rfl) (kx (gsF rfl rfl) (kx (gsF rfl rfl) (kx (gsF rfl rfl) (kx (gsF rfl rfl) (kx (gsF rfl rfl) (kx (gsF rfl rfl) (kx (gsU rfl) (kx (gsU rfl) (kx (gsU rfl) (kx (gsF rfl rfl) (kx (pkT rfl rfl rfl) (Rn (hA h186 (hA h187 (hA h189 (hA h190 (hA h191 (hA h192 (hV (.bool true) rfl hZ))))))) fun e223 h225 h226 h227 h228 h229 h230 h231 => sN (cT h231 rfl (sq (Rg (kx (mvO rfl) (Rn (hV (.bool false) rfl hZ) fun e232 h234 => sN (xx (sR (bR (sR ?_)))))))))))))))))))))))))))))))))))))
    clear h186 h187 h188 h189 h190 h191 h192 h225 h226 h227 h228 h229 h230 h231
    obtain rfl := si h
    exact qR ⟨rfl, h234⟩
   refine kx (guF rfl hb222 (faO h189 o183 rfl)) (kx (guF rfl hb222 (ldO rfl o183 rfl rfl rfl)) (kx (guF rfl hb222 (bGtr rfl rfl)) (kx (pkF rfl hb222 rfl) (kx (mvO rfl) ?_))))
   rcases ite_some h with ⟨hb235, h⟩ | ⟨hb235, h⟩
   ·refine kx (gsF rfl hb235) (kx (gsF rfl hb235) (kx (gsF rfl hb235) (kx (pkT rfl hb235 rfl) (kx (mvO rfl) (kx (gsF rfl rfl) (kx (gsF rfl rfl) (kx (gsF rfl rfl) (kx (gsF rfl rfl) (kx (gsF rfl rfl) (kx (pkT rfl rfl rfl) (kx (mvO rfl) (kx (gsF rfl rfl) (kx (gsF rfl rfl) (kx (gsF rfl rfl) (kx (gsF rfl rfl) (kx (gsF rfl rfl) (kx (gsF rfl rfl) (kx (gsU rfl) (kx (gsU rfl) (kx (gsU rfl) (kx (gsF rfl rfl) (kx (pkT rfl rfl rfl) (Rn (hA h186 (hA h187 (hA h189 (hA h190 (hA h191 (hA h192 (hV (.bool true) rfl hZ))))))) fun e236 h238 h239 h240 h241 h242 h243 h244 => sN (cT h244 rfl (sq (Rg (kx (mvO rfl) (Rn (hV (.bool false) rfl hZ) fun e245 h247 => sN (xx (sR (bR (sR ?_))))))))))))))))))))))))))))))))
    clear h186 h187 h188 h189 h190 h191 h192 h238 h239 h240 h241 h242 h243 h244
    obtain rfl := si h
    exact qR ⟨rfl, h247⟩
   refine kx (guF rfl hb235 (faO h189 o183 rfl)) (kx (guF rfl hb235 (ldO rfl o183 rfl rfl rfl)) (kx (guF rfl hb235 (bLss rfl rfl)) (kx (pkF rfl hb235 rfl) (kx (mvO rfl) ?_))))
   rcases ite_some h with ⟨hb248, h⟩ | ⟨hb248, h⟩
   ·refine kx (gsF rfl hb248) (kx (gsF rfl hb248) (kx (gsF rfl hb248) (kx (gsF rfl hb248) (kx (gsF rfl hb248) (kx (pkT rfl hb248 rfl) (kx (mvO rfl) (kx (gsF rfl rfl) (kx (gsF rfl rfl) (kx (gsF rfl rfl) (kx (gsF rfl rfl) (kx (gsF rfl rfl) (kx (gsF rfl rfl) (kx (gsU rfl) (kx (gsU rfl) (kx (gsU rfl) (kx (gsF rfl rfl) (kx (pkT rfl rfl rfl) (Rn (hA h186 (hA h187 (hA h189 (hA h190 (hA h191 (hA h192 (hV (.bool true) rfl hZ))))))) fun e249 h251 h252 h253 h254 h255 h256 h257 => sN (cT h257 rfl (sq (Rg (kx (mvO rfl) (Rn (hV (.bool false) rfl hZ) fun e258 h260 => sN (xx (sR (bR (sR ?_)))))))))))))))))))))))))))
    clear h186 h187 h188 h189 h190 h191 h192 h251 h252 h253 h254 h255 h256 h257
    obtain rfl := si h
    exact qR ⟨rfl, h260⟩
   refine kx (guF rfl hb248 (faO h189 o183 rfl)) (kx (guF rfl hb248 (ldO rfl o183 rfl rfl rfl)) (kx (guF rfl hb248 (faO h189 o183 rfl)) (kx (guF rfl hb248 (ldO rfl o183 rfl rfl rfl)) (kx (guF rfl hb248 (bGtr rfl rfl)) (kx (pkF rfl hb248 rfl) (kx (mvO rfl) ?_))))))
   rcases ite_some h with ⟨hb261, h⟩ | ⟨hb261, h⟩
   ·refine kx (gsF rfl hb261) (kx (gsF rfl hb261) (kx (gsF rfl hb261) (kx (gsF rfl hb261) (kx (gsF rfl hb261) (kx (gsF rfl hb261) (kx (gsU rfl) (kx (gsU rfl) (kx (gsU rfl) (kx (gsF rfl hb261) (kx (pkT rfl hb261 rfl) (Rn (hA h186 (hA h187 (hA h189 (hA h190 (hA h191 (hA h192 (hV (.bool true) rfl hZ))))))) fun e262 h264 h265 h266 h267 h268 h269 h270 => sN (cT h270 rfl (sq (Rg (kx (mvO rfl) (Rn (hV (.bool false) rfl hZ) fun e271 h273 => sN (xx (sR (bR (sR ?_))))))))))))))))))))
    clear h186 h187 h188 h189 h190 h191 h192 h264 h265 h266 h267 h268 h269 h270
    obtain rfl := si h
    exact qR ⟨rfl, h273⟩
   refine kx (guF rfl hb261 (faO h189 o183 rfl)) (kx (guF rfl hb261 (ldO rfl o183 rfl rfl rfl)) (kx (guF rfl hb261 (faO h189 o183 rfl)) (kx (guF rfl hb261 (ldO rfl o183 rfl rfl rfl)) (kx (guF rfl hb261 (bEql rfl rfl)) (kx (guF rfl hb261 (mvO rfl)) ?_)))))
   rcases ite_some h with ⟨hb274, h⟩ | ⟨hb274, h⟩
   ·refine kx (guT rfl hb274 (faO h189 o183 rfl)) (kx (guT rfl hb274 (ldO rfl o183 rfl rfl rfl)) (kx (guT rfl hb274 (bNeq rfl rfl)) (kx (guF rfl hb261 (pkT rfl hb274 rfl)) (kx (pkF rfl hb261 rfl) (Rn (hA h186 (hA h187 (hA h189 (hA h190 (hA h191 (hA h192 (hN rfl hZ))))))) fun e275 h277 h278 h279 h280 h281 h282 h283 => sN ?_)))))
    clear h186 h187 h188 h189 h190 h191 h192
    rcases ite_some h with ⟨hb284, h⟩ | ⟨hb284, h⟩
    ·refine cT h283 hb284 (sq (Rg (kx (mvO rfl) (Rn (hV (.bool false) rfl hZ) fun e285 h287 => sN (xx (sR (bR (sR ?_))))))))
     clear h277 h278 h279 h280 h281 h282 h283
     obtain rfl := si h
     exact qR ⟨rfl, h287⟩
    refine cF h283 hb284 (xx (sN (Rg (kx (faO h279 o183 rfl) (kx (ldO rfl o183 rfl rfl rfl) (kx (mvO rfl) (Rn (hA h277 (hA h278 (hN rfl (hA h280 (hA h281 (hA h282 hZ)))))) fun e288 h290 h291 h292 h293 h294 h295 => bN (sN (Rg (kx (bAdd h295 rfl) (kx (mvO rfl) (Rn (hA h290 (hA h291 (hA h292 (hA h293 (hA h294 (hN rfl hZ)))))) fun e296 h298 h299 h300 h301 h302 h303 => ?_))))))))))))
    clear h277 h278 h279 h280 h281 h282 h283 h290 h291 h292 h293 h294
    obtain rfl := si h
    exact qN ⟨h298, h299, h300, h301, h302, h303⟩
   refine kx (gsT rfl hb274) (kx (gsT rfl hb274) (kx (gsT rfl hb274) (kx (guF rfl hb261 (pkF rfl hb274 rfl)) (kx (pkF rfl hb261 rfl) (Rn (hA h186 (hA h187 (hA h189 (hA h190 (hA h191 (hA h192 (hV (.bool false) rfl hZ))))))) fun e304 h306 h307 h308 h309 h310 h311 h312 => sN (cF h312 rfl (xx (sN (Rg (kx (faO h308 o183 rfl) (kx (ldO rfl o183 rfl rfl rfl) (kx (mvO rfl) (Rn (hA h306 (hA h307 (hN rfl (hA h309 (hA h310 (hA h311 hZ)))))) fun e313 h315 h316 h317 h318 h319 h320 => bN (sN (Rg (kx (bAdd h320 rfl) (kx (mvO rfl) (Rn (hA h315 (hA h316 (hA h317 (hA h318 (hA h319 (hN rfl hZ)))))) fun e321 h323 h324 h325 h326 h327 h328 => ?_))))))))))))))))))
   clear h186 h187 h188 h189 h190 h191 h192 h306 h307 h308 h309 h310 h311 h312 h315 h316 h317 h318 h319
   obtain rfl := si h
   exact qN ⟨h323, h324, h325, h326, h327, h328⟩
  refine kx (gsF rfl (congrArg Bool.not hb195)) (kx (gsF rfl (congrArg Bool.not hb195)) (kx (gsF rfl (congrArg Bool.not hb195)) (kx (gsF rfl (congrArg Bool.not hb195)) (kx (pkT rfl (congrArg Bool.not hb195) rfl) (kx (mvO rfl) (kx (gsF rfl rfl) (kx (gsF rfl rfl) (kx (gsF rfl rfl) (kx (gsF rfl rfl) (kx (gsF rfl rfl) (kx (pkT rfl rfl rfl) (kx (mvO rfl) (kx (gsF rfl rfl) (kx (gsF rfl rfl) (kx (gsF rfl rfl) (kx (pkT rfl rfl rfl) (kx (mvO rfl) (kx (gsF rfl rfl) (kx (gsF rfl rfl) (kx (gsF rfl rfl) (kx (pkT rfl rfl rfl) (kx (mvO rfl) (kx (gsF rfl rfl) (kx (gsF rfl rfl) (kx (gsF rfl rfl) (kx (pkT rfl rfl rfl) (kx (mvO rfl) (kx (gsF rfl rfl) (kx (gsF rfl rfl) (kx (gsF rfl rfl) (kx (gsF rfl rfl) (kx (gsF rfl rfl) (kx (pkT rfl rfl rfl) (kx (mvO rfl) (kx (gsF rfl rfl) (kx (gsF rfl rfl) (kx (gsF rfl rfl) (kx (gsF rfl rfl) (kx (gsF rfl rfl) (kx (gsF rfl rfl) (kx (gsU rfl) (kx (gsU rfl) (kx (gsU rfl) (kx (gsF rfl rfl) (kx (pkT rfl rfl rfl) (Rn (hA h186 (hA h187 (hA h189 (hA h190 (hA h191 (hA h192 (hV (.bool true) rfl hZ))))))) fun e329 h331 h332 h333 h334 h335 h336 h337 => sN (cT h337 rfl (sq (Rg (kx (mvO rfl) (Rn (hV (.bool false) rfl hZ) fun e338 h340 => sN (xx (sR (bR (sR ?_)))))))))))))))))))))))))))))))))))))))))))))))))))))))
  clear h186 h187 h188 h189 h190 h191 h192 h331 h332 h333 h334 h335 h336 h337
  obtain rfl := si h
  exact qR ⟨rfl, h340⟩
 refine cF h173 hb174 (xx (sE ?_))
 obtain rfl := si h
 exact qE ⟨rfl, trivial⟩
noncomputable def impl_ValidBook (a1 : Book) : Option Bool :=
 ((impl_isBookDay a1.Day).bind fun r9 =>
 if r9 = true then
  if (decide ((a1.Cash.length : Int) < 1)) = true then
   some true
  else
   if (decide ((a1.Cash.length : Int) > 16)) = true then
    some true
   else
    some (decide ((a1.Tallies.length : Int) > 40))
 else
  some true).bind fun y35 =>
 if y35 = true then
  some false
 else
  (Lw (impl_ValidBook_b1 a1) 0).bind fun r => match r with
  | (.inl _) =>
   some false
  | (.inr _) =>
   (Lw (impl_ValidBook_b2 a1) (0, 0)).bind fun r => match r with
   | (.inl _) =>
    some false
   | (.inr _) =>
    some true
def impl_ValidBook_enc (r : Bool) : AV := .bool r
theorem impl_ValidBook_ok (a1 : Book) (r : Bool) (h : impl_ValidBook a1 = some r) : Ev (fun k => CN k 54 [.agg [.int .i64 a1.Day, .sl none (a1.Cash.map (cI .i64)), .sl none (a1.Tallies.map Tally.c)]] []) (fun p => rRes p.2 p.1 = impl_ValidBook_enc r) := by
 unfold impl_ValidBook at h
 obtain ⟨r353, hr354, h⟩ := bind_some h
 refine Ev.enter (F := fun k => f54 (CN k) k) (fun k => callN_eq rfl Try.func54 rfl rfl rfl (by decide +kernel) (f54_eq _ _)) (sq (Rg (kx (bxI rfl rfl ⟨rfl, rfl, by decide⟩) (kx (mvO rfl) (Rn (hN rfl hZ) fun e1 h3 => sN (sq (Rg (kx (faP h3 ⟨ble rfl, blt rfl⟩ rfl) (kx (ldP rfl rfl) (kx (lnS Try.underlying49 rfl) (kx (mvO rfl) (Rn (hA h3 (hN rfl hZ)) fun e4 h6 h7 => sN (sq (sq ?_))))))))))))))
 clear h3
 refine Ev.cut (Q1 := impl_ValidBook_c1_Q a1 r353) (by
     have h := hr354
     obtain ⟨r9, hx8, h⟩ := bind_some h
     refine Rg (kx (faP h6 ⟨ble rfl, blt rfl⟩ rfl) (kx (ldP rfl rfl) (kc (cl (v := .bool r9) rfl (cns rfl rfl) rfl (impl_isBookDay_ok a1.Day _ hx8) nm) (kx (uNot rfl) (kx (mvO rfl) ?_)))))
     rcases ite_some h with ⟨hb10, h⟩ | ⟨hb10, h⟩
     ·refine kx (guF rfl (congrArg Bool.not hb10) (mvO h7)) (kx (guF rfl (congrArg Bool.not hb10) (bLss rfl rfl)) (kx (pkF rfl (congrArg Bool.not hb10) rfl) (kx (mvO rfl) ?_)))
      rcases ite_some h with ⟨hb11, h⟩ | ⟨hb11, h⟩
      ·refine kx (gsF rfl hb11) (kx (gsF rfl hb11) (kx (pkT rfl hb11 rfl) (kx (mvO rfl) (kx (gsF rfl rfl) (kx (gsF rfl rfl) (kx (gsF rfl rfl) (kx (gsF rfl rfl) (kx (pkT rfl rfl rfl) (Rn (hA h6 (hA h7 (hV (.bool true) rfl hZ))) fun e12 h14 h15 h16 => ?_)))))))))
       clear h6 h7
       obtain rfl := si h
       exact kd (show impl_ValidBook_c1_Q a1 _ _ from ⟨rfl, h14, h15, h16⟩)
      refine kx (guF rfl hb11 (mvO h7)) (kx (guF rfl hb11 (bGtr rfl rfl)) (kx (pkF rfl hb11 rfl) (kx (mvO rfl) ?_)))
      rcases ite_some h with ⟨hb17, h⟩ | ⟨hb17, h⟩
      ·refine kx (gsF rfl hb17) (kx (gsF rfl hb17) (kx (gsF rfl hb17) (kx (gsF rfl hb17) (kx (pkT rfl hb17 rfl) (Rn (hA h6 (hA h7 (hV (.bool true) rfl hZ))) fun e18 h20 h21 h22 => ?_)))))
       clear h6 h7
       obtain rfl := si h
       exact kd (show impl_ValidBook_c1_Q a1 _ _ from ⟨rfl, h20, h21, h22⟩)
      refine kx (guF rfl hb17 (faP h6 ⟨ble rfl, blt rfl⟩ rfl)) (kx (guF rfl hb17 (ldP rfl rfl)) (kx (guF rfl hb17 (lnS Try.underlying57 rfl)) (kx (guF rfl hb17 (bGtr rfl rfl)) (kx (pkF rfl hb17 rfl) (Rn (hA h6 (hA h7 (hN rfl hZ))) fun e23 h25 h26 h27 => ?_)))))
      clear h6 h7
      obtain rfl := si h
      exact kd (show impl_ValidBook_c1_Q a1 _ _ from ⟨rfl, h25, h26, h27⟩)
     refine kx (gsF rfl (congrArg Bool.not hb10)) (kx (gsF rfl (congrArg Bool.not hb10)) (kx (pkT rfl (congrArg Bool.not hb10) rfl) (kx (mvO rfl) (kx (gsF rfl rfl) (kx (gsF rfl rfl) (kx (pkT rfl rfl rfl) (kx (mvO rfl) (kx (gsF rfl rfl) (kx (gsF rfl rfl) (kx (gsF rfl rfl) (kx (gsF rfl rfl) (kx (pkT rfl rfl rfl) (Rn (hA h6 (hA h7 (hV (.bool true) rfl hZ))) fun e28 h30 h31 h32 => ?_)))))))))))))
     clear h6 h7
     obtain rfl := si h
     exact kd (show impl_ValidBook_c1_Q a1 _ _ from ⟨rfl, h30, h31, h32⟩)) ?_
 revert h hr354
 revert r353
 intro y35 hr354 h
 intro x e33 M34 hq352
 obtain ⟨rfl, h36, h37, h38⟩ := hq352
 refine sN ?_
 rcases ite_some h with ⟨hb39, h⟩ | ⟨hb39, h⟩
 ·refine cT h38 hb39 (sq (Rg (kx (mvO rfl) (Rn (hV (.bool false) rfl hZ) fun e40 h42 => sN (xx (sR ?_))))))
  clear h36 h37 h38
  obtain rfl := si h
  exact eR (resT h42 res0) rfl
 obtain ⟨r114, hr115, h⟩ := bind_some h
 refine cF h38 hb39 (xx (sN (sq (sq (Rg (kx (faP h36 ⟨ble rfl, blt rfl⟩ rfl) (kx (ldP rfl rfl) (kx (lnS Try.underlying49 rfl) (kx (mvO rfl) (Rn (hV (.pt none [.int .i64 a1.Day, .sl none (a1.Cash.map (cI .i64)), .sl none (a1.Tallies.map Tally.c)]) h36 (hV (.int .i64 (a1.Cash.length : Int)) h37 (hN rfl (hN rfl (hV (.int .i64 0) rfl hZ))))) fun e43 h45 h46 h47 h48 h49 => sN (bl ?_)))))))))))
 clear h36 h37 h38
 rcases r114 with _ | _
 ·refine Ev.loop (RS := impl_ValidBook_b1_RS a1) (RR := impl_ValidBook_b1_RR a1) (fun s r h e M hs => impl_ValidBook_b1_ok a1 s r h e M hs) hr115 ⟨h45, h46, h47, h48, h49⟩ fun x e117 M118 hq116 => ?_
  obtain ⟨rfl, h119⟩ := hq116
  refine bR (sR ?_)
  obtain rfl := si h
  exact eR (resT h119 res0) rfl
 refine Ev.loop (RS := impl_ValidBook_b1_RS a1) (RR := impl_ValidBook_b1_RR a1) (fun s r h e M hs => impl_ValidBook_b1_ok a1 s r h e M hs) hr115 ⟨h45, h46, h47, h48, h49⟩ fun x e120 M121 hq116 => ?_
 obtain ⟨rfl, h122, h123⟩ := hq116
 obtain ⟨r341, hr342, h⟩ := bind_some h
 refine bE (sN (sq (Rg (kx (mvO rfl) (Rn (hV (.pt none [.int .i64 a1.Day, .sl none (a1.Cash.map (cI .i64)), .sl none (a1.Tallies.map Tally.c)]) h122 (hV (.int .i64 (a1.Cash.length : Int)) h123 (hV (.int .i64 0) rfl hZ))) fun e124 h126 h127 h128 => sN (sq (sq (Rg (kx (faP h126 ⟨ble rfl, blt rfl⟩ rfl) (kx (ldP rfl rfl) (kx (lnS Try.underlying57 rfl) (kx (mvO rfl) (Rn (hA h126 (hA h127 (hA h128 (hN rfl (hN rfl (hV (.int .i64 0) rfl hZ)))))) fun e129 h131 h132 h133 h134 h135 h136 => sN (bl ?_))))))))))))))
 clear h122 h123 h126 h127 h128
 rcases r341 with _ | _
 ·refine Ev.loop (RS := impl_ValidBook_b2_RS a1) (RR := impl_ValidBook_b2_RR a1) (fun s r h e M hs => impl_ValidBook_b2_ok a1 s r h e M hs) hr342 ⟨h131, h132, h133, h134, h135, h136⟩ fun x e344 M345 hq343 => ?_
  obtain ⟨rfl, h346⟩ := hq343
  refine bR (sR ?_)
  obtain rfl := si h
  exact eR (resT h346 res0) rfl
 refine Ev.loop (RS := impl_ValidBook_b2_RS a1) (RR := impl_ValidBook_b2_RR a1) (fun s r h e M hs => impl_ValidBook_b2_ok a1 s r h e M hs) hr342 ⟨h131, h132, h133, h134, h135, h136⟩ fun x e347 M348 hq343 => ?_
 obtain ⟨rfl, _⟩ := hq343
 refine bE (sN (sq (Rg (kx (mvO rfl) (Rn (hV (.bool true) rfl hZ) fun e349 h351 => sN (xx ?_))))))
 obtain rfl := si h
 exact eR (resT h351 res0) rfl
/-! ### loop.example/g01263/laws.toTallyS (f53) -/
abbrev laws_toTallyS_b1_S := Int × (List Tally)
abbrev laws_toTallyS_b1_R := (List Tally)
def laws_toTallyS_b1_RS (a1 : List Tally) (x4 : List Tally) (i1_1 : Nat) (s : laws_toTallyS_b1_S) (e : Env) (M : Mem) : Prop := eget e 0 = .sl none (a1.map Tally.c) ∧ eget e 3 = .lsl i1_1 s.2.length 0 s.2.length ∧ eget e 4 = .int .i64 s.1 ∧ M[i1_1]? = some (.live ⟨.grow, 92, 5, s.2.map Tally.c⟩) ∧ s.2.length = x4.length
def laws_toTallyS_b1_RR (a1 : List Tally) (x4 : List Tally) (i1_1 : Nat) (g : laws_toTallyS_b1_R) (x : Ex) (e : Env) (M : Mem) : Prop := x = .ext 0 ∧ eget e 3 = .lsl i1_1 g.length 0 g.length ∧ M[i1_1]? = some (.live ⟨.grow, 92, 5, g.map Tally.c⟩) ∧ g.length = x4.length
noncomputable def laws_toTallyS_b1 (a1 : List Tally) : laws_toTallyS_b1_S → Option (laws_toTallyS_b1_S ⊕ laws_toTallyS_b1_R) := fun (s1_1, s1_2) =>
 if (decide (s1_1 < (a1.length : Int))) = true then
  (rd a1 s1_1).bind fun x45 =>
  (laws_toTally x45).bind fun (r48, r49, r50, r51, r52) =>
  (rd s1_2 s1_1).bind fun x53 =>
  some (.inl ((IntKind.i64.wrap (s1_1 + 1)), (s1_2.set s1_1.toNat (Tally.mk r48 r49 r50 r51 r52))))
 else
  some (.inr s1_2)
theorem laws_toTallyS_b1_ok (a1 : List Tally) (x4 : List Tally) (i1_1 : Nat) (s : laws_toTallyS_b1_S) (r : laws_toTallyS_b1_S ⊕ laws_toTallyS_b1_R) (h : laws_toTallyS_b1 a1 s = some r) (e : Env) (M : Mem) (hs : laws_toTallyS_b1_RS a1 x4 i1_1 s e M) : Ev (fun k => (f53_l3 (CN k) k (prune [0, 3, 4] e) M).bind fun q => some q) (bQ (laws_toTallyS_b1_RS a1 x4 i1_1) (laws_toTallyS_b1_RR a1 x4 i1_1) r) := by
 obtain ⟨s1_1, s1_2⟩ := s
 unfold laws_toTallyS_b1 at h
 obtain ⟨h30, h32, h34, o36, hl37⟩ := hs
 generalize he29 : prune [0, 3, 4] e = e28
 have h31 := envp he29.symm rfl h30
 have h33 := envp he29.symm rfl h32
 have h35 := envp he29.symm rfl h34
 refine sq (sq (Rg (kx (mvO h35) (kx (mvO h31) (kx (lnS Try.underlying50 rfl) (kx (bLss rfl rfl) (Rn (hV (.sl none (a1.map Tally.c)) h31 (hV (.lsl i1_1 s1_2.length 0 s1_2.length) h33 (hV (.int .i64 s1_1) h35 (hN rfl hZ)))) fun e38 h40 h41 h42 h43 => sN ?_)))))))
 clear h31 h33 h35
 rcases ite_some h with ⟨hb44, h⟩ | ⟨hb44, h⟩
 ·obtain ⟨x45, hx46, h⟩ := bind_some h
  obtain ⟨⟨r48, r49, r50, r51, r52⟩, hx47, h⟩ := bind_some h
  obtain ⟨x53, hx54, h⟩ := bind_some h
  refine cT h43 hb44 (xx (sN (sq (bl (Rg (kx (mvO h41) (kx (mvO h42) (kx (mvO h40) (kx (mvO h42) (kx (ixS rfl rfl hx46 Tally.fl) (kx (ldPA rfl rfl rfl) (kc (cl (v := .agg [.int .i64 r48, .int .i64 r49, .int .i64 r50, .int .i64 r51, .int .i64 r52]) rfl (cns rfl rfl) rfl (laws_toTally_ok x45 _ hx47) nm) (kx (ixO rfl o36 rfl rfl (rd_get hx54).1 (rd_lt hx54).2) (kw (stR (u := x53) (u' := (Tally.mk r48 r49 r50 r51 r52)) rfl rfl o36 rfl (rz2 hx54) ⟨rfl, ble rfl⟩ rfl rfl) fun M55 hM56 => ?_))))))))))))))
  rw [Nat.zero_add] at hM56
  have o57 : M55[i1_1]? = some (.live ⟨.grow, 92, 5, (s1_2.set s1_1.toNat (Tally.mk r48 r49 r50 r51 r52)).map Tally.c⟩) := set_same hM56 o36
  have hx58 := rd_set (u' := (Tally.mk r48 r49 r50 r51 r52)) hx54
  refine Rn (hA h40 (hA h41 (hA h42 hZ))) fun e59 h61 h62 h63 => bN (sN (Rg (kx (mvO h63) (kx (bAdd rfl rfl) (kx (mvO rfl) (Rn (hA h61 (hA h62 (hN rfl hZ))) fun e64 h66 h67 h68 => ?_))))))
  clear h40 h41 h42 h43 h61 h62
  obtain rfl := si h
  exact qN ⟨h66, (lslL (L' := (s1_2.set s1_1.toNat (Tally.mk r48 r49 r50 r51 r52)).length) h67 (by simp [hl37])), h68, o57, (by first | rfl | simp [hl37])⟩
 refine cF h43 hb44 (xx (sE ?_))
 obtain rfl := si h
 exact qE ⟨rfl, h41, o36, (by first | rfl | simp [hl37])⟩
noncomputable def laws_toTallyS (a1 : List Tally) : Option ((List Tally)) :=
 (mkS 40 (Tally.mk 0 0 0 0 0) (a1.length : Int)).bind fun x4 =>
 (Lw (laws_toTallyS_b1 a1) (0, x4)).bind fun y74 =>
 some y74
def laws_toTallyS_enc (r : (List Tally)) : AV := .sl (some 92) (r.map Tally.c)
theorem laws_toTallyS_ok (a1 : List Tally) (r : (List Tally)) (h : laws_toTallyS a1 = some r) : Ev (fun k => CN k 53 [.sl none (a1.map Tally.c)] []) (fun p => rRes p.2 p.1 = laws_toTallyS_enc r) := by
 unfold laws_toTallyS at h
 obtain ⟨x4, hx5, h⟩ := bind_some h
 refine Ev.enter (F := fun k => f53 (CN k) k) (fun k => callN_eq rfl Try.func53 rfl rfl rfl (by decide +kernel) (f53_eq _ _)) (sq (Rg (kx (mvO rfl) (Rn (hN rfl hZ) fun e1 h3 => sN (sq (Rg (kx (mvO h3) (kx (lnS Try.underlying50 rfl) (ku (mkO rfl rfl hx5 (c := Tally.c) zero92 Tally.fl (by decide)) fun M7 hM8 => ?_)))))))))
 have o9 : M7[([] : Mem).length]? = some (.live ⟨.grow, 92, 5, x4.map Tally.c⟩) := push_new hM8
 obtain ⟨y74, hr70, h⟩ := bind_some h
 refine kx (mvO rfl) (Rn (hA h3 (hV (.lsl ([] : Mem).length x4.length 0 x4.length) rfl hZ)) fun e10 h12 h13 => sN (sq (sq (Rg (kx (mvO rfl) (Rn (hA h12 (hA h13 (hV (.int .i64 0) rfl hZ))) fun e14 h16 h17 h18 => sN (bl (Ev.loop (RS := laws_toTallyS_b1_RS a1 x4 (([] : Mem).length)) (RR := laws_toTallyS_b1_RR a1 x4 (([] : Mem).length)) (fun s r h e M hs => laws_toTallyS_b1_ok a1 x4 (([] : Mem).length) s r h e M hs) hr70 ⟨h16, h17, h18, o9, rfl⟩ fun x e72 M73 hq71 => ?_))))))))
 clear h3 h12 h13
 obtain ⟨rfl, h75, o76, hl77⟩ := hq71
 refine bE (sN (sq (Rg (kx (mvO h75) (kx (mvO rfl) (Rn (hV (.lsl ([] : Mem).length y74.length 0 y74.length) rfl hZ) fun e78 h80 => sN (xx ?_)))))))
 clear h75
 obtain rfl := si h
 exact eR (resT h80 res0) (rr_row o76 rfl Tally.fl)
/-! ### loop.example/g01263/laws.toInt64S (f52) -/
abbrev laws_toInt64S_b1_S := Int × (List Int)
abbrev laws_toInt64S_b1_R := (List Int)
def laws_toInt64S_b1_RS (a1 : List Int) (x4 : List Int) (i1_1 : Nat) (s : laws_toInt64S_b1_S) (e : Env) (M : Mem) : Prop := eget e 0 = .sl none (a1.map (cI .i64)) ∧ eget e 3 = .lsl i1_1 s.2.length 0 s.2.length ∧ eget e 4 = .int .i64 s.1 ∧ M[i1_1]? = some (.live ⟨.grow, 2, 1, s.2.map (cI .i64)⟩) ∧ s.2.length = x4.length
def laws_toInt64S_b1_RR (a1 : List Int) (x4 : List Int) (i1_1 : Nat) (g : laws_toInt64S_b1_R) (x : Ex) (e : Env) (M : Mem) : Prop := x = .ext 0 ∧ eget e 3 = .lsl i1_1 g.length 0 g.length ∧ M[i1_1]? = some (.live ⟨.grow, 2, 1, g.map (cI .i64)⟩) ∧ g.length = x4.length
noncomputable def laws_toInt64S_b1 (a1 : List Int) : laws_toInt64S_b1_S → Option (laws_toInt64S_b1_S ⊕ laws_toInt64S_b1_R) := fun (s1_1, s1_2) =>
 if (decide (s1_1 < (a1.length : Int))) = true then
  (rd a1 s1_1).bind fun x45 =>
  (rd s1_2 s1_1).bind fun x47 =>
  some (.inl ((IntKind.i64.wrap (s1_1 + 1)), (s1_2.set s1_1.toNat x45)))
 else
  some (.inr s1_2)
theorem laws_toInt64S_b1_ok (a1 : List Int) (x4 : List Int) (i1_1 : Nat) (s : laws_toInt64S_b1_S) (r : laws_toInt64S_b1_S ⊕ laws_toInt64S_b1_R) (h : laws_toInt64S_b1 a1 s = some r) (e : Env) (M : Mem) (hs : laws_toInt64S_b1_RS a1 x4 i1_1 s e M) : Ev (fun k => (f52_l3 (CN k) k (prune [0, 3, 4] e) M).bind fun q => some q) (bQ (laws_toInt64S_b1_RS a1 x4 i1_1) (laws_toInt64S_b1_RR a1 x4 i1_1) r) := by
 obtain ⟨s1_1, s1_2⟩ := s
 unfold laws_toInt64S_b1 at h
 obtain ⟨h30, h32, h34, o36, hl37⟩ := hs
 generalize he29 : prune [0, 3, 4] e = e28
 have h31 := envp he29.symm rfl h30
 have h33 := envp he29.symm rfl h32
 have h35 := envp he29.symm rfl h34
 refine sq (sq (Rg (kx (mvO h35) (kx (mvO h31) (kx (lnS Try.underlying49 rfl) (kx (bLss rfl rfl) (Rn (hV (.sl none (a1.map (cI .i64))) h31 (hV (.lsl i1_1 s1_2.length 0 s1_2.length) h33 (hV (.int .i64 s1_1) h35 (hN rfl hZ)))) fun e38 h40 h41 h42 h43 => sN ?_)))))))
 clear h31 h33 h35
 rcases ite_some h with ⟨hb44, h⟩ | ⟨hb44, h⟩
 ·obtain ⟨x45, hx46, h⟩ := bind_some h
  obtain ⟨x47, hx48, h⟩ := bind_some h
  refine cT h43 hb44 (xx (sN (sq (bl (Rg (kx (mvO h41) (kx (mvO h42) (kx (mvO h40) (kx (mvO h42) (kx (ixS rfl rfl hx46 (cI_fl _)) (kx (ldP rfl rfl) (kx (ixO rfl o36 rfl rfl (rd_get hx48).1 (rd_lt hx48).2) (kw (stR (u := x47) (u' := x45) rfl rfl o36 rfl (rz2 hx48) ⟨rfl, ble rfl⟩ rfl rfl) fun M49 hM50 => ?_)))))))))))))
  rw [Nat.zero_add] at hM50
  have o51 : M49[i1_1]? = some (.live ⟨.grow, 2, 1, (s1_2.set s1_1.toNat x45).map (cI .i64)⟩) := set_same hM50 o36
  have hx52 := rd_set (u' := x45) hx48
  refine Rn (hA h40 (hA h41 (hA h42 hZ))) fun e53 h55 h56 h57 => bN (sN (Rg (kx (mvO h57) (kx (bAdd rfl rfl) (kx (mvO rfl) (Rn (hA h55 (hA h56 (hN rfl hZ))) fun e58 h60 h61 h62 => ?_))))))
  clear h40 h41 h42 h43 h55 h56
  obtain rfl := si h
  exact qN ⟨h60, (lslL (L' := (s1_2.set s1_1.toNat x45).length) h61 (by simp [hl37])), h62, o51, (by first | rfl | simp [hl37])⟩
 refine cF h43 hb44 (xx (sE ?_))
 obtain rfl := si h
 exact qE ⟨rfl, h41, o36, (by first | rfl | simp [hl37])⟩
noncomputable def laws_toInt64S (a1 : List Int) : Option ((List Int)) :=
 (mkS 8 0 (a1.length : Int)).bind fun x4 =>
 (Lw (laws_toInt64S_b1 a1) (0, x4)).bind fun y68 =>
 some y68
def laws_toInt64S_enc (r : (List Int)) : AV := .sl (some 2) (r.map (cI .i64))
theorem laws_toInt64S_ok (a1 : List Int) (r : (List Int)) (h : laws_toInt64S a1 = some r) : Ev (fun k => CN k 52 [.sl none (a1.map (cI .i64))] []) (fun p => rRes p.2 p.1 = laws_toInt64S_enc r) := by
 unfold laws_toInt64S at h
 obtain ⟨x4, hx5, h⟩ := bind_some h
 refine Ev.enter (F := fun k => f52 (CN k) k) (fun k => callN_eq rfl Try.func52 rfl rfl rfl (by decide +kernel) (f52_eq _ _)) (sq (Rg (kx (mvO rfl) (Rn (hN rfl hZ) fun e1 h3 => sN (sq (Rg (kx (mvO h3) (kx (lnS Try.underlying49 rfl) (ku (mkO rfl rfl hx5 (c := (cI .i64)) zero2 (cI_fl _) (by decide)) fun M7 hM8 => ?_)))))))))
 have o9 : M7[([] : Mem).length]? = some (.live ⟨.grow, 2, 1, x4.map (cI .i64)⟩) := push_new hM8
 obtain ⟨y68, hr64, h⟩ := bind_some h
 refine kx (mvO rfl) (Rn (hA h3 (hV (.lsl ([] : Mem).length x4.length 0 x4.length) rfl hZ)) fun e10 h12 h13 => sN (sq (sq (Rg (kx (mvO rfl) (Rn (hA h12 (hA h13 (hV (.int .i64 0) rfl hZ))) fun e14 h16 h17 h18 => sN (bl (Ev.loop (RS := laws_toInt64S_b1_RS a1 x4 (([] : Mem).length)) (RR := laws_toInt64S_b1_RR a1 x4 (([] : Mem).length)) (fun s r h e M hs => laws_toInt64S_b1_ok a1 x4 (([] : Mem).length) s r h e M hs) hr64 ⟨h16, h17, h18, o9, rfl⟩ fun x e66 M67 hq65 => ?_))))))))
 clear h3 h12 h13
 obtain ⟨rfl, h69, o70, hl71⟩ := hq65
 refine bE (sN (sq (Rg (kx (mvO h69) (kx (mvO rfl) (Rn (hV (.lsl ([] : Mem).length y68.length 0 y68.length) rfl hZ) fun e72 h74 => sN (xx ?_)))))))
 clear h69
 obtain rfl := si h
 exact eR (resT h74 res0) (rr_row o70 rfl (cI_fl _))
/-! ### loop.example/g01263/spec.l02Sums (f51) -/
abbrev spec_l02Sums_b1_S := Int × (Ar 16 (Ar 16 Int))
abbrev spec_l02Sums_b1_R := (Ar 16 (Ar 16 Int))
def spec_l02Sums_b1_RS (a1 : List Debt) (i1_1 : Nat) (s : spec_l02Sums_b1_S) (e : Env) (M : Mem) : Prop := eget e 0 = .sl none (a1.map Debt.c) ∧ eget e 3 = .loc i1_1 1 0 0 ∧ eget e 4 = .int .i64 s.1 ∧ M[i1_1]? = some (.live ⟨.box, 128, 256, [(arC (arC (n := 16) (cI .i64) 0) (Ar.rep 16 0) s.2)]⟩)
def spec_l02Sums_b1_RR (a1 : List Debt) (i1_1 : Nat) (g : spec_l02Sums_b1_R) (x : Ex) (e : Env) (M : Mem) : Prop := x = .ext 0 ∧ eget e 3 = .loc i1_1 1 0 0 ∧ M[i1_1]? = some (.live ⟨.box, 128, 256, [(arC (arC (n := 16) (cI .i64) 0) (Ar.rep 16 0) g)]⟩)
noncomputable def spec_l02Sums_b1 (a1 : List Debt) : spec_l02Sums_b1_S → Option (spec_l02Sums_b1_S ⊕ spec_l02Sums_b1_R) := fun (s1_1, s1_2) =>
 if (decide (s1_1 < (a1.length : Int))) = true then
  (rd a1 s1_1).bind fun x42 =>
  (rd a1 s1_1).bind fun x44 =>
  (rdA s1_2 x42.From).bind fun x46 =>
  (rdA x46 x44.To).bind fun x48 =>
  (rd a1 s1_1).bind fun x50 =>
  (rdA s1_2 x42.From).bind fun x52 =>
  (rdA x52 x44.To).bind fun x54 =>
  some (.inl ((IntKind.i64.wrap (s1_1 + 1)), (s1_2.set x42.From.toNat (x52.set x44.To.toNat (IntKind.i64.wrap (x48 + x50.Amount))))))
 else
  some (.inr s1_2)
theorem spec_l02Sums_b1_ok (a1 : List Debt) (i1_1 : Nat) (s : spec_l02Sums_b1_S) (r : spec_l02Sums_b1_S ⊕ spec_l02Sums_b1_R) (h : spec_l02Sums_b1 a1 s = some r) (e : Env) (M : Mem) (hs : spec_l02Sums_b1_RS a1 i1_1 s e M) : Ev (fun k => (f51_l3 (CN k) k (prune [0, 3, 4] e) M).bind fun q => some q) (bQ (spec_l02Sums_b1_RS a1 i1_1) (spec_l02Sums_b1_RR a1 i1_1) r) := by
 obtain ⟨s1_1, s1_2⟩ := s
 unfold spec_l02Sums_b1 at h
 obtain ⟨h28, h30, h32, o34⟩ := hs
 generalize he27 : prune [0, 3, 4] e = e26
 have h29 := envp he27.symm rfl h28
 have h31 := envp he27.symm rfl h30
 have h33 := envp he27.symm rfl h32
 refine sq (sq (Rg (kx (mvO h33) (kx (mvO h29) (kx (lnS Try.underlying54 rfl) (kx (bLss rfl rfl) (Rn (hV (.sl none (a1.map Debt.c)) h29 (hV (.loc i1_1 1 0 0) h31 (hV (.int .i64 s1_1) h33 (hN rfl hZ)))) fun e35 h37 h38 h39 h40 => sN ?_)))))))
 clear h29 h31 h33
 rcases ite_some h with ⟨hb41, h⟩ | ⟨hb41, h⟩
 ·obtain ⟨x42, hx43, h⟩ := bind_some h
  obtain ⟨x44, hx45, h⟩ := bind_some h
  obtain ⟨x46, hx47, h⟩ := bind_some h
  obtain ⟨x48, hx49, h⟩ := bind_some h
  obtain ⟨x50, hx51, h⟩ := bind_some h
  obtain ⟨x52, hx53, h⟩ := bind_some h
  obtain ⟨x54, hx55, h⟩ := bind_some h
  refine cT h40 hb41 (xx (sN (sq (bl (Rd (kf (mvO h38) (kf (mvO h37) (kf (mvO h39) (kf (ixS rfl rfl hx43 Debt.fl) (kf (faP rfl ⟨ble rfl, blt rfl⟩ rfl) (kf (ldP rfl rfl) (kf (mvO h37) (kf (mvO h39) (kf (ixS rfl rfl hx45 Debt.fl) (kf (faP rfl ⟨ble rfl, blt rfl⟩ rfl) (kf (ldP rfl rfl) (kf (ncO rfl o34 rfl) (kf (ixLA rfl o34 rfl rfl hx47) (kf (ixLA rfl o34 rfl rfl hx49) (kf (ldLA2 (K := AV.int .i64) (c := (cI .i64)) (z := 0) (Z := (Ar.rep 16 0)) (G := s1_2) (pre := []) (post := []) rfl o34 rfl rfl rfl rfl rfl (fun _ => rfl) hx47 hx49) (kf (mvO h37) (kf (mvO h39) (kf (ixS rfl rfl hx51 Debt.fl) (kf (faP rfl ⟨ble rfl, blt rfl⟩ rfl) (kf (ldP rfl rfl) (kf (bAdd rfl rfl) (kf (ncO rfl o34 rfl) (kf (ixLA rfl o34 rfl rfl hx53) (kf (ixLA rfl o34 rfl rfl hx55) (fZ (kw (stLA2 (c := (cI .i64)) (z := 0) (Z := (Ar.rep 16 0)) (G := s1_2) (pre := []) (post := []) (w' := (IntKind.i64.wrap (x48 + x50.Amount))) rfl rfl o34 rfl rfl rfl rfl rfl (fun _ => rfl) rfl rfl hx53 hx55) fun M56 hM57 => ?_)))))))))))))))))))))))))))))))
  have o58 : M56[i1_1]? = some (.live ⟨.box, 128, 256, [(arC (arC (n := 16) (cI .i64) 0) (Ar.rep 16 0) (s1_2.set x42.From.toNat (x52.set x44.To.toNat (IntKind.i64.wrap (x48 + x50.Amount)))))]⟩) := set_same hM57 o34
  refine Rn (hA h37 (hA h38 (hA h39 hZ))) fun e59 h61 h62 h63 => bN (sN (Rg (kx (mvO h63) (kx (bAdd rfl rfl) (kx (mvO rfl) (Rn (hA h61 (hA h62 (hN rfl hZ))) fun e64 h66 h67 h68 => ?_))))))
  clear h37 h38 h39 h40 h61 h62
  obtain rfl := si h
  exact qN ⟨h66, h67, h68, o58⟩
 refine cF h40 hb41 (xx (sE ?_))
 obtain rfl := si h
 exact qE ⟨rfl, h38, o34⟩
noncomputable def spec_l02Sums (a1 : List Debt) : Option ((Ar 16 (Ar 16 Int))) :=
 (Lw (spec_l02Sums_b1 a1) (0, (Ar.rep 16 (Ar.rep 16 0)))).bind fun y74 =>
 some y74
def spec_l02Sums_enc (r : (Ar 16 (Ar 16 Int))) : AV := .pt (some 128) (arC (arC (n := 16) (cI .i64) 0) (Ar.rep 16 0) r)
theorem spec_l02Sums_ok (a1 : List Debt) (r : (Ar 16 (Ar 16 Int))) (h : spec_l02Sums a1 = some r) : Ev (fun k => CN k 51 [.sl none (a1.map Debt.c)] []) (fun p => rRes p.2 p.1 = spec_l02Sums_enc r) := by
 unfold spec_l02Sums at h
 refine Ev.enter (F := fun k => f51 (CN k) k) (fun k => callN_eq rfl Try.func51 rfl rfl rfl (by decide +kernel) (f51_eq _ _)) (sq (Rg (kx (mvO rfl) (Rn (hN rfl hZ) fun e1 h3 => sN (sq (Rg (kx (bldT zero128 rfl (fill0 rfl)) (ku (bxO rfl rfl ⟨rfl, rfl, by decide⟩) fun M5 hM6 => ?_))))))))
 have o7 : M5[([] : Mem).length]? = some (.live ⟨.box, 128, 256, [(arC (arC (n := 16) (cI .i64) 0) (Ar.rep 16 0) (Ar.rep 16 (Ar.rep 16 0)))]⟩) := push_new hM6
 obtain ⟨y74, hr70, h⟩ := bind_some h
 refine kx (mvO rfl) (Rn (hA h3 (hV (.loc ([] : Mem).length 1 0 0) rfl hZ)) fun e8 h10 h11 => sN (sq (sq (Rg (kx (mvO rfl) (Rn (hA h10 (hA h11 (hV (.int .i64 0) rfl hZ))) fun e12 h14 h15 h16 => sN (bl (Ev.loop (RS := spec_l02Sums_b1_RS a1 (([] : Mem).length)) (RR := spec_l02Sums_b1_RR a1 (([] : Mem).length)) (fun s r h e M hs => spec_l02Sums_b1_ok a1 (([] : Mem).length) s r h e M hs) hr70 ⟨h14, h15, h16, o7⟩ fun x e72 M73 hq71 => ?_))))))))
 clear h3 h10 h11
 obtain ⟨rfl, h75, o76⟩ := hq71
 refine bE (sN (sq (Rg (kx (mvO h75) (kx (mvO rfl) (Rn (hV (.loc ([] : Mem).length 1 0 0) rfl hZ) fun e77 h79 => sN (xx ?_)))))))
 clear h75
 obtain rfl := si h
 exact eR (resT h79 res0) (rr_box o76 rfl)
/-! ### loop.example/g01263/spec.l02List (f50) -/
abbrev spec_l02List_b2_S := Int × (List Debt)
abbrev spec_l02List_b2_R := Unit ⊕ ((List Debt))
def spec_l02List_b2_RS (a1 : Ar 16 (Ar 16 Int)) (s1_1 : Int) (i1_1 : Nat) (s : spec_l02List_b2_S) (e : Env) (M : Mem) : Prop := eget e 0 = .pt none (arC (arC (n := 16) (cI .i64) 0) (Ar.rep 16 0) a1) ∧ eget e 4 = .lsl i1_1 s.2.length 0 s.2.length ∧ eget e 5 = .int .i64 s1_1 ∧ eget e 6 = .int .i64 s.1 ∧ M[i1_1]? = some (.live ⟨.grow, 94, 3, s.2.map Debt.c⟩)
def spec_l02List_b2_RR (a1 : Ar 16 (Ar 16 Int)) (s1_1 : Int) (i1_1 : Nat) (r : spec_l02List_b2_R) (x : Ex) (e : Env) (M : Mem) : Prop :=
  match r with
  | (.inl g) => x = .ret ∧ eget e 2 = .lit 94 (([] : List Debt).map Debt.c) ∧ eget e 3 = .int .i64 3
  | (.inr g) => x = .ext 2 ∧ eget e 0 = .pt none (arC (arC (n := 16) (cI .i64) 0) (Ar.rep 16 0) a1) ∧ eget e 4 = .lsl i1_1 g.length 0 g.length ∧ eget e 5 = .int .i64 s1_1 ∧ M[i1_1]? = some (.live ⟨.grow, 94, 3, g.map Debt.c⟩)
noncomputable def spec_l02List_b2 (a1 : Ar 16 (Ar 16 Int)) (s1_1 : Int) : spec_l02List_b2_S → Option (spec_l02List_b2_S ⊕ spec_l02List_b2_R) := fun (s2_1, s2_2) =>
 if (decide (s2_1 < 16)) = true then
  (rdA a1 s1_1).bind fun x78 =>
  (rdA x78 s2_1).bind fun x80 =>
  if (decide (x80 > 100000000)) = true then
   some (.inr (.inl ()))
  else
   (rdA a1 s1_1).bind fun x94 =>
   (rdA x94 s2_1).bind fun x96 =>
   if (decide (x96 > 0)) = true then
    (rdA a1 s1_1).bind fun x106 =>
    (rdA x106 s2_1).bind fun x108 =>
    (app 24 s2_2 [(Debt.mk s1_1 s2_1 x108)]).bind fun x110 =>
    some (.inl ((IntKind.i64.wrap (s2_1 + 1)), x110))
   else
    some (.inl ((IntKind.i64.wrap (s2_1 + 1)), s2_2))
 else
  some (.inr (.inr s2_2))
theorem spec_l02List_b2_ok (a1 : Ar 16 (Ar 16 Int)) (s1_1 : Int) (i1_1 : Nat) (s : spec_l02List_b2_S) (r : spec_l02List_b2_S ⊕ spec_l02List_b2_R) (h : spec_l02List_b2 a1 s1_1 s = some r) (e : Env) (M : Mem) (hs : spec_l02List_b2_RS a1 s1_1 i1_1 s e M) : Ev (fun k => (f50_l6 (CN k) k (prune [0, 4, 5, 6] e) M).bind fun q => some q) (bQ (spec_l02List_b2_RS a1 s1_1 i1_1) (spec_l02List_b2_RR a1 s1_1 i1_1) r) := by
 obtain ⟨s2_1, s2_2⟩ := s
 unfold spec_l02List_b2 at h
 obtain ⟨h61, h63, h65, h67, o69⟩ := hs
 generalize he60 : prune [0, 4, 5, 6] e = e59
 have h62 := envp he60.symm rfl h61
 have h64 := envp he60.symm rfl h63
 have h66 := envp he60.symm rfl h65
 have h68 := envp he60.symm rfl h67
 refine sq (sq (Rg (kx (mvO h68) (kx (bLss rfl rfl) (Rn (hV (.pt none (arC (arC (n := 16) (cI .i64) 0) (Ar.rep 16 0) a1)) h62 (hV (.lsl i1_1 s2_2.length 0 s2_2.length) h64 (hV (.int .i64 s1_1) h66 (hV (.int .i64 s2_1) h68 (hN rfl hZ))))) fun e70 h72 h73 h74 h75 h76 => sN ?_)))))
 clear h62 h64 h66 h68
 rcases ite_some h with ⟨hb77, h⟩ | ⟨hb77, h⟩
 ·obtain ⟨x78, hx79, h⟩ := bind_some h
  obtain ⟨x80, hx81, h⟩ := bind_some h
  refine cT h76 hb77 (xx (sN (sq (bl (sq (sq (Rg (kx (mvO h72) (kx (mvO h74) (kx (mvO h75) (kx (ncP rfl) (kx (ixPA (c := (arC (n := 16) (cI .i64) 0)) (z := (Ar.rep 16 0)) (g := a1) rfl rfl hx79 (fun _ => rfl)) (kx (ixPA (c := (cI .i64)) (z := 0) (g := x78) rfl rfl hx81 (fun _ => rfl)) (kx (ldP rfl rfl) (kx (bGtr rfl rfl) (Rn (hA h72 (hA h73 (hA h74 (hA h75 (hN rfl hZ))))) fun e82 h84 h85 h86 h87 h88 => sN ?_))))))))))))))))
  clear h72 h73 h74 h75 h76
  rcases ite_some h with ⟨hb89, h⟩ | ⟨hb89, h⟩
  ·refine cT h88 hb89 (sq (Rg (kx (litI rfl rfl ⟨rfl, by decide⟩) (kx (mvO rfl) (kx (mvO rfl) (Rn (hN rfl (hV (.int .i64 3) rfl hZ)) fun e90 h92 h93 => sN (xx (sR (bR (sR ?_))))))))))
   clear h84 h85 h86 h87 h88
   obtain rfl := si h
   exact qR ⟨rfl, h92, h93⟩
  obtain ⟨x94, hx95, h⟩ := bind_some h
  obtain ⟨x96, hx97, h⟩ := bind_some h
  refine cF h88 hb89 (xx (sN (sq (Rg (kx (mvO h84) (kx (mvO h86) (kx (mvO h87) (kx (ncP rfl) (kx (ixPA (c := (arC (n := 16) (cI .i64) 0)) (z := (Ar.rep 16 0)) (g := a1) rfl rfl hx95 (fun _ => rfl)) (kx (ixPA (c := (cI .i64)) (z := 0) (g := x94) rfl rfl hx97 (fun _ => rfl)) (kx (ldP rfl rfl) (kx (bGtr rfl rfl) (Rn (hA h84 (hA h85 (hA h86 (hA h87 (hN rfl hZ))))) fun e98 h100 h101 h102 h103 h104 => sN ?_)))))))))))))
  clear h84 h85 h86 h87 h88
  rcases ite_some h with ⟨hb105, h⟩ | ⟨hb105, h⟩
  ·obtain ⟨x106, hx107, h⟩ := bind_some h
   obtain ⟨x108, hx109, h⟩ := bind_some h
   obtain ⟨x110, hx111, h⟩ := bind_some h
   refine cT h104 hb105 (Rg (kx (mvO h101) (kx (mvO h102) (kx (mvO h103) (kx (mvO h100) (kx (mvO h102) (kx (mvO h103) (kx (ncP rfl) (kx (ixPA (c := (arC (n := 16) (cI .i64) 0)) (z := (Ar.rep 16 0)) (g := a1) rfl rfl hx107 (fun _ => rfl)) (kx (ixPA (c := (cI .i64)) (z := 0) (g := x106) rfl rfl hx109 (fun _ => rfl)) (kx (ldP rfl rfl) (kx (bldT zero94 (cns (pr3 rfl) (cns (pr3 rfl) (cns (pr3 rfl) rfl))) (fill1 ⟨rfl, ble rfl⟩ rfl rfl (fill1 ⟨rfl, ble rfl⟩ rfl rfl (fill1 ⟨rfl, ble rfl⟩ rfl rfl (fill0 rfl))))) (kx (litI (cns rfl rfl) rfl ⟨rfl, by decide⟩) (kw (apO rfl o69 rfl (elT (c := Debt.c) (xs := [(Debt.mk s1_1 s2_1 x108)]) rfl) hx111 Debt.fl (by decide)) fun M112 hM113 => ?_))))))))))))))
   have o114 : M112[i1_1]? = some (.live ⟨.grow, 94, 3, x110.map Debt.c⟩) := set_same hM113 o69
   refine kx (mvO rfl) (Rn (hA h100 (hV (.lsl i1_1 x110.length 0 x110.length) rfl (hA h102 (hA h103 hZ)))) fun e115 h117 h118 h119 h120 => bN (sN (Rg (kx (mvO h120) (kx (bAdd rfl rfl) (kx (mvO rfl) (Rn (hA h117 (hA h118 (hA h119 (hN rfl hZ)))) fun e121 h123 h124 h125 h126 => ?_)))))))
   clear h100 h102 h103 h104 h117 h118 h119
   obtain rfl := si h
   exact qN ⟨h123, h124, h125, h126, o114⟩
  refine cF h104 hb105 (xx (bN (sN (Rg (kx (mvO h103) (kx (bAdd rfl rfl) (kx (mvO rfl) (Rn (hA h100 (hA h101 (hA h102 (hN rfl hZ)))) fun e127 h129 h130 h131 h132 => ?_))))))))
  clear h100 h101 h102 h104
  obtain rfl := si h
  exact qN ⟨h129, h130, h131, h132, o69⟩
 refine cF h76 hb77 (xx (sE ?_))
 obtain rfl := si h
 exact qE ⟨rfl, h72, h73, h74, o69⟩
abbrev spec_l02List_b1_S := Int × (List Debt)
abbrev spec_l02List_b1_R := Unit ⊕ ((List Debt))
def spec_l02List_b1_RS (a1 : Ar 16 (Ar 16 Int)) (i1_1 : Nat) (s : spec_l02List_b1_S) (e : Env) (M : Mem) : Prop := eget e 0 = .pt none (arC (arC (n := 16) (cI .i64) 0) (Ar.rep 16 0) a1) ∧ eget e 4 = .lsl i1_1 s.2.length 0 s.2.length ∧ eget e 5 = .int .i64 s.1 ∧ M[i1_1]? = some (.live ⟨.grow, 94, 3, s.2.map Debt.c⟩)
def spec_l02List_b1_RR (a1 : Ar 16 (Ar 16 Int)) (i1_1 : Nat) (r : spec_l02List_b1_R) (x : Ex) (e : Env) (M : Mem) : Prop :=
  match r with
  | (.inl g) => x = .ret ∧ eget e 2 = .lit 94 (([] : List Debt).map Debt.c) ∧ eget e 3 = .int .i64 3
  | (.inr g) => x = .ext 0 ∧ eget e 4 = .lsl i1_1 g.length 0 g.length ∧ M[i1_1]? = some (.live ⟨.grow, 94, 3, g.map Debt.c⟩)
noncomputable def spec_l02List_b1 (a1 : Ar 16 (Ar 16 Int)) : spec_l02List_b1_S → Option (spec_l02List_b1_S ⊕ spec_l02List_b1_R) := fun (s1_1, s1_2) =>
 if (decide (s1_1 < 16)) = true then
  (Lw (spec_l02List_b2 a1 s1_1) (0, s1_2)).bind fun r => match r with
  | (.inl _) =>
   some (.inr (.inl ()))
  | (.inr y142) =>
   some (.inl ((IntKind.i64.wrap (s1_1 + 1)), y142))
 else
  some (.inr (.inr s1_2))
theorem spec_l02List_b1_ok (a1 : Ar 16 (Ar 16 Int)) (i1_1 : Nat) (s : spec_l02List_b1_S) (r : spec_l02List_b1_S ⊕ spec_l02List_b1_R) (h : spec_l02List_b1 a1 s = some r) (e : Env) (M : Mem) (hs : spec_l02List_b1_RS a1 i1_1 s e M) : Ev (fun k => (f50_l3 (CN k) k (prune [0, 4, 5] e) M).bind fun q => some q) (bQ (spec_l02List_b1_RS a1 i1_1) (spec_l02List_b1_RR a1 i1_1) r) := by
 obtain ⟨s1_1, s1_2⟩ := s
 unfold spec_l02List_b1 at h
 obtain ⟨h28, h30, h32, o34⟩ := hs
 generalize he27 : prune [0, 4, 5] e = e26
 have h29 := envp he27.symm rfl h28
 have h31 := envp he27.symm rfl h30
 have h33 := envp he27.symm rfl h32
 refine sq (sq (Rg (kx (mvO h33) (kx (bLss rfl rfl) (Rn (hV (.pt none (arC (arC (n := 16) (cI .i64) 0) (Ar.rep 16 0) a1)) h29 (hV (.lsl i1_1 s1_2.length 0 s1_2.length) h31 (hV (.int .i64 s1_1) h33 (hN rfl hZ)))) fun e35 h37 h38 h39 h40 => sN ?_)))))
 clear h29 h31 h33
 rcases ite_some h with ⟨hb41, h⟩ | ⟨hb41, h⟩
 ·obtain ⟨r133, hr134, h⟩ := bind_some h
  refine cT h40 hb41 (xx (sN (sq (bl (sq (Rg (kx (mvO rfl) (Rn (hA h37 (hA h38 (hA h39 (hV (.int .i64 0) rfl hZ)))) fun e42 h44 h45 h46 h47 => sN (bl ?_)))))))))
  clear h37 h38 h39 h40
  rcases r133 with _ | y142
  ·refine Ev.loop (RS := spec_l02List_b2_RS a1 s1_1 i1_1) (RR := spec_l02List_b2_RR a1 s1_1 i1_1) (fun s r h e M hs => spec_l02List_b2_ok a1 s1_1 i1_1 s r h e M hs) hr134 ⟨h44, h45, h46, h47, o34⟩ fun x e136 M137 hq135 => ?_
   obtain ⟨rfl, h138, h139⟩ := hq135
   refine bR (bR (sR ?_))
   obtain rfl := si h
   exact qR ⟨rfl, h138, h139⟩
  refine Ev.loop (RS := spec_l02List_b2_RS a1 s1_1 i1_1) (RR := spec_l02List_b2_RR a1 s1_1 i1_1) (fun s r h e M hs => spec_l02List_b2_ok a1 s1_1 i1_1 s r h e M hs) hr134 ⟨h44, h45, h46, h47, o34⟩ fun x e140 M141 hq135 => ?_
  obtain ⟨rfl, h143, h144, h145, o146⟩ := hq135
  refine bE (bN (sN (Rg (kx (mvO h145) (kx (bAdd rfl rfl) (kx (mvO rfl) (Rn (hV (.pt none (arC (arC (n := 16) (cI .i64) 0) (Ar.rep 16 0) a1)) h143 (hV (.lsl i1_1 y142.length 0 y142.length) h144 (hN rfl hZ))) fun e147 h149 h150 h151 => ?_)))))))
  clear h143 h144
  obtain rfl := si h
  exact qN ⟨h149, h150, h151, o146⟩
 refine cF h40 hb41 (xx (sE ?_))
 obtain rfl := si h
 exact qE ⟨rfl, h38, o34⟩
noncomputable def spec_l02List (a1 : Ar 16 (Ar 16 Int)) : Option ((List Debt) × Int) :=
 (Lw (spec_l02List_b1 a1) (0, ([] : List Debt))).bind fun r => match r with
 | (.inl _) =>
  some (([] : List Debt), 3)
 | (.inr y161) =>
  if (decide ((y161.length : Int) > 60)) = true then
   some (([] : List Debt), 3)
  else
   some (y161, 0)
def spec_l02List_enc (r : (List Debt) × Int) : AV := .tup [.sl (some 94) (r.1.map Debt.c), .int .i64 r.2]
theorem spec_l02List_ok (a1 : Ar 16 (Ar 16 Int)) (r : (List Debt) × Int) (h : spec_l02List a1 = some r) : Ev (fun k => CN k 50 [.pt none (arC (arC (n := 16) (cI .i64) 0) (Ar.rep 16 0) a1)] []) (fun p => rRes p.2 p.1 = spec_l02List_enc r) := by
 unfold spec_l02List at h
 refine Ev.enter (F := fun k => f50 (CN k) k) (fun k => callN_eq rfl Try.func50 rfl rfl rfl (by decide +kernel) (f50_eq _ _)) (sq (Rg (kx (mvO rfl) (kx (mvO rfl) (Rn (hN rfl hZ) fun e1 h3 => sN (sq (Rg (ku (litO (xs := ([] : List Debt)) (c := Debt.c) rfl rfl (by decide)) fun M5 hM6 => ?_))))))))
 have o7 : M5[([] : Mem).length]? = some (.live ⟨.grow, 94, 3, ([] : List Debt).map Debt.c⟩) := push_new hM6
 obtain ⟨r152, hr153, h⟩ := bind_some h
 refine kx (mvO rfl) (Rn (hA h3 (hV (.lsl ([] : Mem).length ([] : List Debt).length 0 ([] : List Debt).length) rfl hZ)) fun e8 h10 h11 => sN (sq (sq (Rg (kx (mvO rfl) (Rn (hA h10 (hA h11 (hV (.int .i64 0) rfl hZ))) fun e12 h14 h15 h16 => sN (bl ?_)))))))
 clear h3 h10 h11
 rcases r152 with _ | y161
 ·refine Ev.loop (RS := spec_l02List_b1_RS a1 (([] : Mem).length)) (RR := spec_l02List_b1_RR a1 (([] : Mem).length)) (fun s r h e M hs => spec_l02List_b1_ok a1 (([] : Mem).length) s r h e M hs) hr153 ⟨h14, h15, h16, o7⟩ fun x e155 M156 hq154 => ?_
  obtain ⟨rfl, h157, h158⟩ := hq154
  refine bR (sR ?_)
  obtain rfl := si h
  exact eR (resT h157 (resT h158 res0)) rfl
 refine Ev.loop (RS := spec_l02List_b1_RS a1 (([] : Mem).length)) (RR := spec_l02List_b1_RR a1 (([] : Mem).length)) (fun s r h e M hs => spec_l02List_b1_ok a1 (([] : Mem).length) s r h e M hs) hr153 ⟨h14, h15, h16, o7⟩ fun x e159 M160 hq154 => ?_
 obtain ⟨rfl, h162, o163⟩ := hq154
 refine bE (sN (sq (sq (Rg (kx (mvO h162) (kx (lnL Try.underlying54 rfl o163 (by simp)) (kx (bGtr rfl rfl) (Rn (hV (.lsl ([] : Mem).length y161.length 0 y161.length) h162 (hN rfl hZ)) fun e164 h166 h167 => sN ?_))))))))
 clear h162
 rcases ite_some h with ⟨hb168, h⟩ | ⟨hb168, h⟩
 ·refine cT h167 hb168 (sq (Rg (kx (litI rfl rfl ⟨rfl, by decide⟩) (kx (mvO rfl) (kx (mvO rfl) (Rn (hN rfl (hV (.int .i64 3) rfl hZ)) fun e169 h171 h172 => sN (xx (sR ?_))))))))
  clear h166 h167
  obtain rfl := si h
  exact eR (resT h171 (resT h172 res0)) rfl
 refine cF h167 hb168 (xx (sN (sq (Rg (kx (mvO h166) (kx (mvO rfl) (kx (mvO rfl) (Rn (hV (.lsl ([] : Mem).length y161.length 0 y161.length) rfl (hV (.int .i64 0) rfl hZ)) fun e173 h175 h176 => sN (xx ?_)))))))))
 clear h166 h167
 obtain rfl := si h
 exact eR (resT h175 (resT h176 res0)) (rr_tup (mp1 (rr_row o163 rfl Debt.fl) (mp1 rfl mp0)))
/-! ### loop.example/g01263/spec.l07Ok (f49) -/
def spec_l07Ok_c1_Q (a1 : Book) (g : Bool) (q : Out) : Prop := q.1 = .nrm ∧ eget q.2.1 0 = .pt none [.int .i64 a1.Day, .sl none (a1.Cash.map (cI .i64)), .sl none (a1.Tallies.map Tally.c)] ∧ eget q.2.1 27 = .bool g
def spec_l07Ok_c3_Q (a1 : Book) (s1_1 : Int) (x63 : Tally) (g : Bool) (q : Out) : Prop := q.1 = .nrm ∧ eget q.2.1 0 = .pt none [.int .i64 a1.Day, .sl none (a1.Cash.map (cI .i64)), .sl none (a1.Tallies.map Tally.c)] ∧ eget q.2.1 3 = .int .i64 (a1.Cash.length : Int) ∧ eget q.2.1 4 = .int .i64 s1_1 ∧ eget q.2.1 5 = .pt none [.int .i64 x63.Debtor, .int .i64 x63.Holder, .int .i64 x63.Cut, .int .i64 x63.Amount, .int .i64 x63.Left] ∧ eget q.2.1 95 = .bool g
abbrev spec_l07Ok_b1_S := Int
abbrev spec_l07Ok_b1_R := Unit ⊕ Unit
def spec_l07Ok_b1_RS (a1 : Book) (s : spec_l07Ok_b1_S) (e : Env) (M : Mem) : Prop := eget e 0 = .pt none [.int .i64 a1.Day, .sl none (a1.Cash.map (cI .i64)), .sl none (a1.Tallies.map Tally.c)] ∧ eget e 3 = .int .i64 (a1.Cash.length : Int) ∧ eget e 4 = .int .i64 s
def spec_l07Ok_b1_RR (a1 : Book) (r : spec_l07Ok_b1_R) (x : Ex) (e : Env) (M : Mem) : Prop :=
  match r with
  | (.inl g) => x = .ret ∧ eget e 2 = .bool false
  | (.inr g) => x = .ext 0 ∧ True
noncomputable def spec_l07Ok_b1 (a1 : Book) : spec_l07Ok_b1_S → Option (spec_l07Ok_b1_S ⊕ spec_l07Ok_b1_R) := fun s1_1 =>
 if (decide (s1_1 < (a1.Tallies.length : Int))) = true then
  (rd a1.Tallies s1_1).bind fun x63 =>
  ((spec_l02Person (a1.Cash.length : Int) x63.Debtor).bind fun r72 =>
  if r72 = true then
   (spec_l02Person (a1.Cash.length : Int) x63.Holder).bind fun r75 =>
   if r75 = true then
    (spec_l00In x63.Cut 0 a1.Day).bind fun r78 =>
    if r78 = true then
     (spec_l00In x63.Amount 1 100000000).bind fun r81 =>
     if r81 = true then
      (spec_l00In x63.Left 0 x63.Amount).bind fun r84 =>
      some (!r84)
     else
      some true
    else
     some true
   else
    some true
  else
   some true).bind fun y122 =>
  if y122 = true then
   some (.inr (.inl ()))
  else
   if (x63.Debtor == x63.Holder) = true then
    if (x63.Left != 0) = true then
     some (.inr (.inl ()))
    else
     if (decide (s1_1 > 0)) = true then
      (rd a1.Tallies (IntKind.i64.wrap (s1_1 - 1))).bind fun x144 =>
      if (decide (x63.Cut < x144.Cut)) = true then
       some (.inr (.inl ()))
      else
       some (.inl (IntKind.i64.wrap (s1_1 + 1)))
     else
      some (.inl (IntKind.i64.wrap (s1_1 + 1)))
   else
    if (decide (s1_1 > 0)) = true then
     (rd a1.Tallies (IntKind.i64.wrap (s1_1 - 1))).bind fun x173 =>
     if (decide (x63.Cut < x173.Cut)) = true then
      some (.inr (.inl ()))
     else
      some (.inl (IntKind.i64.wrap (s1_1 + 1)))
    else
     some (.inl (IntKind.i64.wrap (s1_1 + 1)))
 else
  some (.inr (.inr ()))
theorem spec_l07Ok_b1_ok (a1 : Book) (s : spec_l07Ok_b1_S) (r : spec_l07Ok_b1_S ⊕ spec_l07Ok_b1_R) (h : spec_l07Ok_b1 a1 s = some r) (e : Env) (M : Mem) (hs : spec_l07Ok_b1_RS a1 s e M) : Ev (fun k => (f49_l5 (CN k) k (prune [0, 3, 4] e) M).bind fun q => some q) (bQ (spec_l07Ok_b1_RS a1) (spec_l07Ok_b1_RR a1) r) := by
 revert h hs
 revert s
 intro s1_1 h hs
 unfold spec_l07Ok_b1 at h
 obtain ⟨h50, h52, h54⟩ := hs
 generalize he49 : prune [0, 3, 4] e = e48
 have h51 := envp he49.symm rfl h50
 have h53 := envp he49.symm rfl h52
 have h55 := envp he49.symm rfl h54
 refine sq (sq (Rg (kx (mvO h55) (kx (mvO h51) (kx (ncP rfl) (kx (faP rfl ⟨ble rfl, blt rfl⟩ rfl) (kx (ldP rfl rfl) (kx (lnS Try.underlying57 rfl) (kx (bLss rfl rfl) (Rn (hV (.pt none [.int .i64 a1.Day, .sl none (a1.Cash.map (cI .i64)), .sl none (a1.Tallies.map Tally.c)]) h51 (hV (.int .i64 (a1.Cash.length : Int)) h53 (hV (.int .i64 s1_1) h55 (hN rfl hZ)))) fun e56 h58 h59 h60 h61 => sN ?_))))))))))
 clear h51 h53 h55
 rcases ite_some h with ⟨hb62, h⟩ | ⟨hb62, h⟩
 ·obtain ⟨x63, hx64, h⟩ := bind_some h
  obtain ⟨r202, hr203, h⟩ := bind_some h
  refine cT h61 hb62 (xx (sN (sq (bl (sq (Rg (kx (mvO h58) (kx (ncP rfl) (kx (faP rfl ⟨ble rfl, blt rfl⟩ rfl) (kx (ldP rfl rfl) (kx (mvO h60) (kx (ixS rfl rfl hx64 Tally.fl) (kx (mvO rfl) (Rn (hA h58 (hA h59 (hA h60 (hN rfl hZ)))) fun e65 h67 h68 h69 h70 => sN (sq (sq ?_))))))))))))))))
  clear h58 h59 h60 h61
  refine Ev.cut (Q1 := spec_l07Ok_c3_Q a1 s1_1 x63 r202) (by
      have h := hr203
      obtain ⟨r72, hx71, h⟩ := bind_some h
      refine Rd (kf (mvO h68) (kf (mvO h70) (kf (ncP rfl) (kf (faP rfl ⟨ble rfl, blt rfl⟩ rfl) (kf (ldP rfl rfl) (fc (cl (v := .bool r72) rfl (cns rfl (cns rfl rfl)) rfl (spec_l02Person_ok (a1.Cash.length : Int) x63.Debtor _ hx71) nm) (kf (uNot rfl) (kf (mvO rfl) ?_))))))))
      rcases ite_some h with ⟨hb73, h⟩ | ⟨hb73, h⟩
      ·obtain ⟨r75, hx74, h⟩ := bind_some h
       refine kf (guF rfl (congrArg Bool.not hb73) (mvO h68)) (kf (guF rfl (congrArg Bool.not hb73) (mvO h70)) (kf (guF rfl (congrArg Bool.not hb73) (ncP rfl)) (kf (guF rfl (congrArg Bool.not hb73) (faP rfl ⟨ble rfl, blt rfl⟩ rfl)) (kf (guF rfl (congrArg Bool.not hb73) (ldP rfl rfl)) (fc (Ev.guF rfl (congrArg Bool.not hb73) (cl (v := .bool r75) rfl (cns rfl (cns rfl rfl)) rfl (spec_l02Person_ok (a1.Cash.length : Int) x63.Holder _ hx74) nm)) (kf (guF rfl (congrArg Bool.not hb73) (uNot rfl)) (kf (pkF rfl (congrArg Bool.not hb73) rfl) (kf (mvO rfl) ?_))))))))
       rcases ite_some h with ⟨hb76, h⟩ | ⟨hb76, h⟩
       ·obtain ⟨r78, hx77, h⟩ := bind_some h
        refine kf (guF rfl (congrArg Bool.not hb76) (mvO h70)) (kf (guF rfl (congrArg Bool.not hb76) (ncP rfl)) (kf (guF rfl (congrArg Bool.not hb76) (faP rfl ⟨ble rfl, blt rfl⟩ rfl)) (kf (guF rfl (congrArg Bool.not hb76) (ldP rfl rfl)) (kf (guF rfl (congrArg Bool.not hb76) (mvO h67)) (kf (guF rfl (congrArg Bool.not hb76) (ncP rfl)) (kf (guF rfl (congrArg Bool.not hb76) (faP rfl ⟨ble rfl, blt rfl⟩ rfl)) (kf (guF rfl (congrArg Bool.not hb76) (ldP rfl rfl)) (fc (Ev.guF rfl (congrArg Bool.not hb76) (cl (v := .bool r78) rfl (cns rfl (cns rfl (cns rfl rfl))) rfl (spec_l00In_ok x63.Cut 0 a1.Day _ hx77) nm)) (kf (guF rfl (congrArg Bool.not hb76) (uNot rfl)) (kf (pkF rfl (congrArg Bool.not hb76) rfl) (kf (mvO rfl) ?_)))))))))))
        rcases ite_some h with ⟨hb79, h⟩ | ⟨hb79, h⟩
        ·obtain ⟨r81, hx80, h⟩ := bind_some h
         refine kf (guF rfl (congrArg Bool.not hb79) (mvO h70)) (kf (guF rfl (congrArg Bool.not hb79) (ncP rfl)) (kf (guF rfl (congrArg Bool.not hb79) (faP rfl ⟨ble rfl, blt rfl⟩ rfl)) (kf (guF rfl (congrArg Bool.not hb79) (ldP rfl rfl)) (fc (Ev.guF rfl (congrArg Bool.not hb79) (cl (v := .bool r81) rfl (cns rfl (cns rfl (cns rfl rfl))) rfl (spec_l00In_ok x63.Amount 1 100000000 _ hx80) nm)) (kf (guF rfl (congrArg Bool.not hb79) (uNot rfl)) (kf (pkF rfl (congrArg Bool.not hb79) rfl) (kf (mvO rfl) ?_)))))))
         rcases ite_some h with ⟨hb82, h⟩ | ⟨hb82, h⟩
         ·obtain ⟨r84, hx83, h⟩ := bind_some h
          refine kf (guF rfl (congrArg Bool.not hb82) (mvO h70)) (kf (guF rfl (congrArg Bool.not hb82) (ncP rfl)) (kf (guF rfl (congrArg Bool.not hb82) (faP rfl ⟨ble rfl, blt rfl⟩ rfl)) (kf (guF rfl (congrArg Bool.not hb82) (ldP rfl rfl)) (kf (guF rfl (congrArg Bool.not hb82) (mvO h70)) (kf (guF rfl (congrArg Bool.not hb82) (ncP rfl)) (kf (guF rfl (congrArg Bool.not hb82) (faP rfl ⟨ble rfl, blt rfl⟩ rfl)) (kf (guF rfl (congrArg Bool.not hb82) (ldP rfl rfl)) (fc (Ev.guF rfl (congrArg Bool.not hb82) (cl (v := .bool r84) rfl (cns rfl (cns rfl (cns rfl rfl))) rfl (spec_l00In_ok x63.Left 0 x63.Amount _ hx83) nm)) (kf (guF rfl (congrArg Bool.not hb82) (uNot rfl)) (kf (pkF rfl (congrArg Bool.not hb82) rfl) (fZ (Rn (hA h67 (hA h68 (hA h69 (hA h70 (hN rfl hZ))))) fun e85 h87 h88 h89 h90 h91 => ?_))))))))))))
          clear h67 h68 h69 h70
          obtain rfl := si h
          exact kd (show spec_l07Ok_c3_Q a1 s1_1 x63 _ _ from ⟨rfl, h87, h88, h89, h90, h91⟩)
         refine kf (gsF rfl (congrArg Bool.not hb82)) (kf (gsF rfl (congrArg Bool.not hb82)) (kf (gsF rfl (congrArg Bool.not hb82)) (kf (gsF rfl (congrArg Bool.not hb82)) (kf (gsF rfl (congrArg Bool.not hb82)) (kf (gsF rfl (congrArg Bool.not hb82)) (kf (gsF rfl (congrArg Bool.not hb82)) (kf (gsF rfl (congrArg Bool.not hb82)) (fc (Ev.gsF rfl (congrArg Bool.not hb82)) (kf (gsF rfl (congrArg Bool.not hb82)) (kf (pkT rfl (congrArg Bool.not hb82) rfl) (fZ (Rn (hA h67 (hA h68 (hA h69 (hA h70 (hV (.bool true) rfl hZ))))) fun e92 h94 h95 h96 h97 h98 => ?_))))))))))))
         clear h67 h68 h69 h70
         obtain rfl := si h
         exact kd (show spec_l07Ok_c3_Q a1 s1_1 x63 _ _ from ⟨rfl, h94, h95, h96, h97, h98⟩)
        refine kf (gsF rfl (congrArg Bool.not hb79)) (kf (gsF rfl (congrArg Bool.not hb79)) (kf (gsF rfl (congrArg Bool.not hb79)) (kf (gsF rfl (congrArg Bool.not hb79)) (fc (Ev.gsF rfl (congrArg Bool.not hb79)) (kf (gsF rfl (congrArg Bool.not hb79)) (kf (pkT rfl (congrArg Bool.not hb79) rfl) (kf (mvO rfl) (kf (gsF rfl rfl) (kf (gsF rfl rfl) (kf (gsF rfl rfl) (kf (gsF rfl rfl) (kf (gsF rfl rfl) (kf (gsF rfl rfl) (kf (gsF rfl rfl) (kf (gsF rfl rfl) (fc (Ev.gsF rfl rfl) (kf (gsF rfl rfl) (kf (pkT rfl rfl rfl) (fZ (Rn (hA h67 (hA h68 (hA h69 (hA h70 (hV (.bool true) rfl hZ))))) fun e99 h101 h102 h103 h104 h105 => ?_))))))))))))))))))))
        clear h67 h68 h69 h70
        obtain rfl := si h
        exact kd (show spec_l07Ok_c3_Q a1 s1_1 x63 _ _ from ⟨rfl, h101, h102, h103, h104, h105⟩)
       refine kf (gsF rfl (congrArg Bool.not hb76)) (kf (gsF rfl (congrArg Bool.not hb76)) (kf (gsF rfl (congrArg Bool.not hb76)) (kf (gsF rfl (congrArg Bool.not hb76)) (kf (gsF rfl (congrArg Bool.not hb76)) (kf (gsF rfl (congrArg Bool.not hb76)) (kf (gsF rfl (congrArg Bool.not hb76)) (kf (gsF rfl (congrArg Bool.not hb76)) (fc (Ev.gsF rfl (congrArg Bool.not hb76)) (kf (gsF rfl (congrArg Bool.not hb76)) (kf (pkT rfl (congrArg Bool.not hb76) rfl) (kf (mvO rfl) (kf (gsF rfl rfl) (kf (gsF rfl rfl) (kf (gsF rfl rfl) (kf (gsF rfl rfl) (fc (Ev.gsF rfl rfl) (kf (gsF rfl rfl) (kf (pkT rfl rfl rfl) (kf (mvO rfl) (kf (gsF rfl rfl) (kf (gsF rfl rfl) (kf (gsF rfl rfl) (kf (gsF rfl rfl) (kf (gsF rfl rfl) (kf (gsF rfl rfl) (kf (gsF rfl rfl) (kf (gsF rfl rfl) (fc (Ev.gsF rfl rfl) (kf (gsF rfl rfl) (kf (pkT rfl rfl rfl) (fZ (Rn (hA h67 (hA h68 (hA h69 (hA h70 (hV (.bool true) rfl hZ))))) fun e106 h108 h109 h110 h111 h112 => ?_))))))))))))))))))))))))))))))))
       clear h67 h68 h69 h70
       obtain rfl := si h
       exact kd (show spec_l07Ok_c3_Q a1 s1_1 x63 _ _ from ⟨rfl, h108, h109, h110, h111, h112⟩)
      refine kf (gsF rfl (congrArg Bool.not hb73)) (kf (gsF rfl (congrArg Bool.not hb73)) (kf (gsF rfl (congrArg Bool.not hb73)) (kf (gsF rfl (congrArg Bool.not hb73)) (kf (gsF rfl (congrArg Bool.not hb73)) (fc (Ev.gsF rfl (congrArg Bool.not hb73)) (kf (gsF rfl (congrArg Bool.not hb73)) (kf (pkT rfl (congrArg Bool.not hb73) rfl) (kf (mvO rfl) (kf (gsF rfl rfl) (kf (gsF rfl rfl) (kf (gsF rfl rfl) (kf (gsF rfl rfl) (kf (gsF rfl rfl) (kf (gsF rfl rfl) (kf (gsF rfl rfl) (kf (gsF rfl rfl) (fc (Ev.gsF rfl rfl) (kf (gsF rfl rfl) (kf (pkT rfl rfl rfl) (kf (mvO rfl) (kf (gsF rfl rfl) (kf (gsF rfl rfl) (kf (gsF rfl rfl) (kf (gsF rfl rfl) (fc (Ev.gsF rfl rfl) (kf (gsF rfl rfl) (kf (pkT rfl rfl rfl) (kf (mvO rfl) (kf (gsF rfl rfl) (kf (gsF rfl rfl) (kf (gsF rfl rfl) (kf (gsF rfl rfl) (kf (gsF rfl rfl) (kf (gsF rfl rfl) (kf (gsF rfl rfl) (kf (gsF rfl rfl) (fc (Ev.gsF rfl rfl) (kf (gsF rfl rfl) (kf (pkT rfl rfl rfl) (fZ (Rn (hA h67 (hA h68 (hA h69 (hA h70 (hV (.bool true) rfl hZ))))) fun e113 h115 h116 h117 h118 h119 => ?_)))))))))))))))))))))))))))))))))))))))))
      clear h67 h68 h69 h70
      obtain rfl := si h
      exact kd (show spec_l07Ok_c3_Q a1 s1_1 x63 _ _ from ⟨rfl, h115, h116, h117, h118, h119⟩)) ?_
  revert h hr203
  revert r202
  intro y122 hr203 h
  intro x e120 M121 hq201
  obtain ⟨rfl, h123, h124, h125, h126, h127⟩ := hq201
  refine sN ?_
  rcases ite_some h with ⟨hb128, h⟩ | ⟨hb128, h⟩
  ·refine cT h127 hb128 (sq (Rg (kx (mvO rfl) (Rn (hV (.bool false) rfl hZ) fun e129 h131 => sN (xx (sR (bR (sR ?_))))))))
   clear h123 h124 h125 h126 h127
   obtain rfl := si h
   exact qR ⟨rfl, h131⟩
  refine cF h127 hb128 (xx (sN (sq (Rd (kf (mvO h126) (kf (ncP rfl) (kf (faP rfl ⟨ble rfl, blt rfl⟩ rfl) (kf (ldP rfl rfl) (kf (mvO h126) (kf (ncP rfl) (kf (faP rfl ⟨ble rfl, blt rfl⟩ rfl) (kf (ldP rfl rfl) (kf (bEql rfl rfl) (kf (mvO rfl) ?_))))))))))))))
  rcases ite_some h with ⟨hb132, h⟩ | ⟨hb132, h⟩
  ·refine kf (guT rfl hb132 (mvO h126)) (kf (guT rfl hb132 (ncP rfl)) (kf (guT rfl hb132 (faP rfl ⟨ble rfl, blt rfl⟩ rfl)) (kf (guT rfl hb132 (ldP rfl rfl)) (kf (guT rfl hb132 (bNeq rfl rfl)) (kf (pkT rfl hb132 rfl) (kf (mvO rfl) ?_))))))
   rcases ite_some h with ⟨hb133, h⟩ | ⟨hb133, h⟩
   ·refine kf (gsF rfl hb133) (kf (gsF rfl hb133) (kf (gsF rfl hb133) (kf (gsU rfl) (kf (gsU rfl) (kf (gsU rfl) (kf (gsU rfl) (kf (gsU rfl) (kf (gsU rfl) (kf (gsU rfl) (kf (gsU rfl) (kf (gsU rfl) (kf (gsU rfl) (kf (gsU rfl) (kf (gsU rfl) (kf (gsU rfl) (kf (gsU rfl) (kf (gsF rfl hb133) (kf (pkT rfl hb133 rfl) (fZ (Rn (hV (.pt none [.int .i64 a1.Day, .sl none (a1.Cash.map (cI .i64)), .sl none (a1.Tallies.map Tally.c)]) h123 (hV (.int .i64 (a1.Cash.length : Int)) h124 (hV (.int .i64 s1_1) h125 (hV (.bool true) rfl hZ)))) fun e134 h136 h137 h138 h139 => sN (cT h139 rfl (sq (Rg (kx (mvO rfl) (Rn (hV (.bool false) rfl hZ) fun e140 h142 => sN (xx (bR (sR ?_))))))))))))))))))))))))))))
    clear h123 h124 h125 h126 h127 h136 h137 h138 h139
    obtain rfl := si h
    exact qR ⟨rfl, h142⟩
   refine kf (guF rfl hb133 (mvO h125)) (kf (guF rfl hb133 (bGtr rfl rfl)) (kf (guF rfl hb133 (mvO rfl)) ?_))
   rcases ite_some h with ⟨hb143, h⟩ | ⟨hb143, h⟩
   ·obtain ⟨x144, hx145, h⟩ := bind_some h
    refine kf (guT rfl hb143 (mvO h126)) (kf (guT rfl hb143 (ncP rfl)) (kf (guT rfl hb143 (faP rfl ⟨ble rfl, blt rfl⟩ rfl)) (kf (guT rfl hb143 (ldP rfl rfl)) (kf (guT rfl hb143 (mvO h123)) (kf (guT rfl hb143 (ncP rfl)) (kf (guT rfl hb143 (faP rfl ⟨ble rfl, blt rfl⟩ rfl)) (kf (guT rfl hb143 (ldP rfl rfl)) (kf (guT rfl hb143 (mvO h125)) (kf (guT rfl hb143 (bSub rfl rfl)) (kf (guT rfl hb143 (ixS rfl rfl hx145 Tally.fl)) (kf (guT rfl hb143 (faP rfl ⟨ble rfl, blt rfl⟩ rfl)) (kf (guT rfl hb143 (ldP rfl rfl)) (kf (guT rfl hb143 (bLss rfl rfl)) (kf (guF rfl hb133 (pkT rfl hb143 rfl)) (kf (pkF rfl hb133 rfl) (fZ (Rn (hV (.pt none [.int .i64 a1.Day, .sl none (a1.Cash.map (cI .i64)), .sl none (a1.Tallies.map Tally.c)]) h123 (hV (.int .i64 (a1.Cash.length : Int)) h124 (hV (.int .i64 s1_1) h125 (hN rfl hZ)))) fun e146 h148 h149 h150 h151 => sN ?_)))))))))))))))))
    clear h123 h124 h125 h126 h127
    rcases ite_some h with ⟨hb152, h⟩ | ⟨hb152, h⟩
    ·refine cT h151 hb152 (sq (Rg (kx (mvO rfl) (Rn (hV (.bool false) rfl hZ) fun e153 h155 => sN (xx (bR (sR ?_)))))))
     clear h148 h149 h150 h151
     obtain rfl := si h
     exact qR ⟨rfl, h155⟩
    refine cF h151 hb152 (xx (bN (sN (Rg (kx (mvO h150) (kx (bAdd rfl rfl) (kx (mvO rfl) (Rn (hA h148 (hA h149 (hN rfl hZ))) fun e156 h158 h159 h160 => ?_))))))))
    clear h148 h149 h151
    obtain rfl := si h
    exact qN ⟨h158, h159, h160⟩
   refine kf (gsT rfl hb143) (kf (gsT rfl hb143) (kf (gsT rfl hb143) (kf (gsT rfl hb143) (kf (gsT rfl hb143) (kf (gsT rfl hb143) (kf (gsT rfl hb143) (kf (gsT rfl hb143) (kf (gsT rfl hb143) (kf (gsT rfl hb143) (kf (gsT rfl hb143) (kf (gsT rfl hb143) (kf (gsT rfl hb143) (kf (gsT rfl hb143) (kf (guF rfl hb133 (pkF rfl hb143 rfl)) (kf (pkF rfl hb133 rfl) (fZ (Rn (hV (.pt none [.int .i64 a1.Day, .sl none (a1.Cash.map (cI .i64)), .sl none (a1.Tallies.map Tally.c)]) h123 (hV (.int .i64 (a1.Cash.length : Int)) h124 (hV (.int .i64 s1_1) h125 (hV (.bool false) rfl hZ)))) fun e161 h163 h164 h165 h166 => sN (cF h166 rfl (xx (bN (sN (Rg (kx (mvO h165) (kx (bAdd rfl rfl) (kx (mvO rfl) (Rn (hA h163 (hA h164 (hN rfl hZ))) fun e167 h169 h170 h171 => ?_))))))))))))))))))))))))))
   clear h123 h124 h125 h126 h127 h163 h164 h166
   obtain rfl := si h
   exact qN ⟨h169, h170, h171⟩
  refine kf (gsT rfl hb132) (kf (gsT rfl hb132) (kf (gsT rfl hb132) (kf (gsT rfl hb132) (kf (gsT rfl hb132) (kf (pkF rfl hb132 rfl) (kf (mvO rfl) (kf (guF rfl rfl (mvO h125)) (kf (guF rfl rfl (bGtr rfl rfl)) (kf (guF rfl rfl (mvO rfl)) ?_)))))))))
  rcases ite_some h with ⟨hb172, h⟩ | ⟨hb172, h⟩
  ·obtain ⟨x173, hx174, h⟩ := bind_some h
   refine kf (guT rfl hb172 (mvO h126)) (kf (guT rfl hb172 (ncP rfl)) (kf (guT rfl hb172 (faP rfl ⟨ble rfl, blt rfl⟩ rfl)) (kf (guT rfl hb172 (ldP rfl rfl)) (kf (guT rfl hb172 (mvO h123)) (kf (guT rfl hb172 (ncP rfl)) (kf (guT rfl hb172 (faP rfl ⟨ble rfl, blt rfl⟩ rfl)) (kf (guT rfl hb172 (ldP rfl rfl)) (kf (guT rfl hb172 (mvO h125)) (kf (guT rfl hb172 (bSub rfl rfl)) (kf (guT rfl hb172 (ixS rfl rfl hx174 Tally.fl)) (kf (guT rfl hb172 (faP rfl ⟨ble rfl, blt rfl⟩ rfl)) (kf (guT rfl hb172 (ldP rfl rfl)) (kf (guT rfl hb172 (bLss rfl rfl)) (kf (guF rfl rfl (pkT rfl hb172 rfl)) (kf (pkF rfl rfl rfl) (fZ (Rn (hV (.pt none [.int .i64 a1.Day, .sl none (a1.Cash.map (cI .i64)), .sl none (a1.Tallies.map Tally.c)]) h123 (hV (.int .i64 (a1.Cash.length : Int)) h124 (hV (.int .i64 s1_1) h125 (hN rfl hZ)))) fun e175 h177 h178 h179 h180 => sN ?_)))))))))))))))))
   clear h123 h124 h125 h126 h127
   rcases ite_some h with ⟨hb181, h⟩ | ⟨hb181, h⟩
   ·refine cT h180 hb181 (sq (Rg (kx (mvO rfl) (Rn (hV (.bool false) rfl hZ) fun e182 h184 => sN (xx (bR (sR ?_)))))))
    clear h177 h178 h179 h180
    obtain rfl := si h
    exact qR ⟨rfl, h184⟩
   refine cF h180 hb181 (xx (bN (sN (Rg (kx (mvO h179) (kx (bAdd rfl rfl) (kx (mvO rfl) (Rn (hA h177 (hA h178 (hN rfl hZ))) fun e185 h187 h188 h189 => ?_))))))))
   clear h177 h178 h180
   obtain rfl := si h
   exact qN ⟨h187, h188, h189⟩
  refine kf (gsT rfl hb172) (kf (gsT rfl hb172) (kf (gsT rfl hb172) (kf (gsT rfl hb172) (kf (gsT rfl hb172) (kf (gsT rfl hb172) (kf (gsT rfl hb172) (kf (gsT rfl hb172) (kf (gsT rfl hb172) (kf (gsT rfl hb172) (kf (gsT rfl hb172) (kf (gsT rfl hb172) (kf (gsT rfl hb172) (kf (gsT rfl hb172) (kf (guF rfl rfl (pkF rfl hb172 rfl)) (kf (pkF rfl rfl rfl) (fZ (Rn (hV (.pt none [.int .i64 a1.Day, .sl none (a1.Cash.map (cI .i64)), .sl none (a1.Tallies.map Tally.c)]) h123 (hV (.int .i64 (a1.Cash.length : Int)) h124 (hV (.int .i64 s1_1) h125 (hV (.bool false) rfl hZ)))) fun e190 h192 h193 h194 h195 => sN (cF h195 rfl (xx (bN (sN (Rg (kx (mvO h194) (kx (bAdd rfl rfl) (kx (mvO rfl) (Rn (hA h192 (hA h193 (hN rfl hZ))) fun e196 h198 h199 h200 => ?_))))))))))))))))))))))))))
  clear h123 h124 h125 h126 h127 h192 h193 h195
  obtain rfl := si h
  exact qN ⟨h198, h199, h200⟩
 refine cF h61 hb62 (xx (sE ?_))
 obtain rfl := si h
 exact qE ⟨rfl, trivial⟩
noncomputable def spec_l07Ok (a1 : Book) : Option Bool :=
 ((spec_l07Day a1.Day).bind fun r5 =>
 if r5 = true then
  (spec_l07Cash a1.Cash).bind fun r8 =>
  if r8 = true then
   some (decide ((a1.Tallies.length : Int) > 40))
  else
   some true
 else
  some true).bind fun y24 =>
 if y24 = true then
  some false
 else
  (Lw (spec_l07Ok_b1 a1) 0).bind fun r => match r with
  | (.inl _) =>
   some false
  | (.inr _) =>
   some true
def spec_l07Ok_enc (r : Bool) : AV := .bool r
theorem spec_l07Ok_ok (a1 : Book) (r : Bool) (h : spec_l07Ok a1 = some r) : Ev (fun k => CN k 49 [.pt none [.int .i64 a1.Day, .sl none (a1.Cash.map (cI .i64)), .sl none (a1.Tallies.map Tally.c)]] []) (fun p => rRes p.2 p.1 = spec_l07Ok_enc r) := by
 unfold spec_l07Ok at h
 obtain ⟨r216, hr217, h⟩ := bind_some h
 refine Ev.enter (F := fun k => f49 (CN k) k) (fun k => callN_eq rfl Try.func49 rfl rfl rfl (by decide +kernel) (f49_eq _ _)) (sq (Rg (kx (mvO rfl) (Rn (hN rfl hZ) fun e1 h3 => sN (sq (sq ?_))))))
 refine Ev.cut (Q1 := spec_l07Ok_c1_Q a1 r216) (by
     have h := hr217
     obtain ⟨r5, hx4, h⟩ := bind_some h
     refine Rg (kx (mvO h3) (kx (ncP rfl) (kx (faP rfl ⟨ble rfl, blt rfl⟩ rfl) (kx (ldP rfl rfl) (kc (cl (v := .bool r5) rfl (cns rfl rfl) rfl (spec_l07Day_ok a1.Day _ hx4) nm) (kx (uNot rfl) (kx (mvO rfl) ?_)))))))
     rcases ite_some h with ⟨hb6, h⟩ | ⟨hb6, h⟩
     ·obtain ⟨r8, hx7, h⟩ := bind_some h
      refine kx (guF rfl (congrArg Bool.not hb6) (mvO h3)) (kx (guF rfl (congrArg Bool.not hb6) (ncP rfl)) (kx (guF rfl (congrArg Bool.not hb6) (faP rfl ⟨ble rfl, blt rfl⟩ rfl)) (kx (guF rfl (congrArg Bool.not hb6) (ldP rfl rfl)) (kc (Ev.guF rfl (congrArg Bool.not hb6) (cl (v := .bool r8) rfl (cns rfl rfl) rfl (spec_l07Cash_ok a1.Cash _ hx7) nm)) (kx (guF rfl (congrArg Bool.not hb6) (uNot rfl)) (kx (pkF rfl (congrArg Bool.not hb6) rfl) (kx (mvO rfl) ?_)))))))
      rcases ite_some h with ⟨hb9, h⟩ | ⟨hb9, h⟩
      ·refine kx (guF rfl (congrArg Bool.not hb9) (mvO h3)) (kx (guF rfl (congrArg Bool.not hb9) (ncP rfl)) (kx (guF rfl (congrArg Bool.not hb9) (faP rfl ⟨ble rfl, blt rfl⟩ rfl)) (kx (guF rfl (congrArg Bool.not hb9) (ldP rfl rfl)) (kx (guF rfl (congrArg Bool.not hb9) (lnS Try.underlying57 rfl)) (kx (guF rfl (congrArg Bool.not hb9) (bGtr rfl rfl)) (kx (pkF rfl (congrArg Bool.not hb9) rfl) (Rn (hA h3 (hN rfl hZ)) fun e10 h12 h13 => ?_)))))))
       clear h3
       obtain rfl := si h
       exact kd (show spec_l07Ok_c1_Q a1 _ _ from ⟨rfl, h12, h13⟩)
      refine kx (gsF rfl (congrArg Bool.not hb9)) (kx (gsF rfl (congrArg Bool.not hb9)) (kx (gsF rfl (congrArg Bool.not hb9)) (kx (gsF rfl (congrArg Bool.not hb9)) (kx (gsF rfl (congrArg Bool.not hb9)) (kx (gsF rfl (congrArg Bool.not hb9)) (kx (pkT rfl (congrArg Bool.not hb9) rfl) (Rn (hA h3 (hV (.bool true) rfl hZ)) fun e14 h16 h17 => ?_)))))))
      clear h3
      obtain rfl := si h
      exact kd (show spec_l07Ok_c1_Q a1 _ _ from ⟨rfl, h16, h17⟩)
     refine kx (gsF rfl (congrArg Bool.not hb6)) (kx (gsF rfl (congrArg Bool.not hb6)) (kx (gsF rfl (congrArg Bool.not hb6)) (kx (gsF rfl (congrArg Bool.not hb6)) (kc (Ev.gsF rfl (congrArg Bool.not hb6)) (kx (gsF rfl (congrArg Bool.not hb6)) (kx (pkT rfl (congrArg Bool.not hb6) rfl) (kx (mvO rfl) (kx (gsF rfl rfl) (kx (gsF rfl rfl) (kx (gsF rfl rfl) (kx (gsF rfl rfl) (kx (gsF rfl rfl) (kx (gsF rfl rfl) (kx (pkT rfl rfl rfl) (Rn (hA h3 (hV (.bool true) rfl hZ)) fun e18 h20 h21 => ?_)))))))))))))))
     clear h3
     obtain rfl := si h
     exact kd (show spec_l07Ok_c1_Q a1 _ _ from ⟨rfl, h20, h21⟩)) ?_
 revert h hr217
 revert r216
 intro y24 hr217 h
 intro x e22 M23 hq215
 obtain ⟨rfl, h25, h26⟩ := hq215
 refine sN ?_
 rcases ite_some h with ⟨hb27, h⟩ | ⟨hb27, h⟩
 ·refine cT h26 hb27 (sq (Rg (kx (mvO rfl) (Rn (hV (.bool false) rfl hZ) fun e28 h30 => sN (xx (sR ?_))))))
  clear h25 h26
  obtain rfl := si h
  exact eR (resT h30 res0) rfl
 obtain ⟨r204, hr205, h⟩ := bind_some h
 refine cF h26 hb27 (xx (sN (sq (Rg (kx (mvO h25) (kx (ncP rfl) (kx (faP rfl ⟨ble rfl, blt rfl⟩ rfl) (kx (ldP rfl rfl) (kx (lnS Try.underlying49 rfl) (kx (mvO rfl) (Rn (hV (.pt none [.int .i64 a1.Day, .sl none (a1.Cash.map (cI .i64)), .sl none (a1.Tallies.map Tally.c)]) h25 (hN rfl hZ)) fun e31 h33 h34 => sN (sq (sq (Rg (kx (mvO rfl) (Rn (hA h33 (hA h34 (hV (.int .i64 0) rfl hZ))) fun e35 h37 h38 h39 => sN (bl ?_)))))))))))))))))
 clear h25 h26 h33 h34
 rcases r204 with _ | _
 ·refine Ev.loop (RS := spec_l07Ok_b1_RS a1) (RR := spec_l07Ok_b1_RR a1) (fun s r h e M hs => spec_l07Ok_b1_ok a1 s r h e M hs) hr205 ⟨h37, h38, h39⟩ fun x e207 M208 hq206 => ?_
  obtain ⟨rfl, h209⟩ := hq206
  refine bR (sR ?_)
  obtain rfl := si h
  exact eR (resT h209 res0) rfl
 refine Ev.loop (RS := spec_l07Ok_b1_RS a1) (RR := spec_l07Ok_b1_RR a1) (fun s r h e M hs => spec_l07Ok_b1_ok a1 s r h e M hs) hr205 ⟨h37, h38, h39⟩ fun x e210 M211 hq206 => ?_
 obtain ⟨rfl, _⟩ := hq206
 refine bE (sN (sq (Rg (kx (mvO rfl) (Rn (hV (.bool true) rfl hZ) fun e212 h214 => sN (xx ?_))))))
 obtain rfl := si h
 exact eR (resT h214 res0) rfl
/-! ### loop.example/g01263/laws.szTallyS (f48) -/
noncomputable def laws_szTallyS (a1 : List Tally) (a2 : Int) : Option Int :=
 if (decide ((IntKind.i64.wrap (a2 - (a1.length : Int))) < 0)) = true then
  some (-1)
 else
  some (IntKind.i64.wrap (a2 - (a1.length : Int)))
def laws_szTallyS_enc (r : Int) : AV := .int .i64 r
theorem laws_szTallyS_ok (a1 : List Tally) (a2 : Int) (r : Int) (h : laws_szTallyS a1 a2 = some r) : Ev (fun k => CN k 48 [.sl none (a1.map Tally.c), .int .i64 a2] []) (fun p => rRes p.2 p.1 = laws_szTallyS_enc r) := by
 unfold laws_szTallyS at h
 refine Ev.enter (F := fun k => f48 (CN k) k) (fun k => callN_eq rfl Try.func48 rfl rfl rfl (by decide +kernel) (f48_eq _ _)) (sq (Rg (kx (mvO rfl) (Rn (hN rfl (hN rfl hZ)) fun e1 h3 h4 => sN (sq (Rg (kx (mvO h4) (kx (mvO h3) (kx (lnS Try.underlying50 rfl) (kx (bSub rfl rfl) (kx (mvO rfl) (Rn (hN rfl hZ) fun e5 h7 => sN (sq (sq (Rg (kx (mvO h7) (kx (bLss rfl rfl) (Rn (hA h7 (hN rfl hZ)) fun e8 h10 h11 => sN ?_))))))))))))))))))
 clear h3 h7
 rcases ite_some h with ⟨hb12, h⟩ | ⟨hb12, h⟩
 ·refine cT h11 hb12 (sq (Rg (kx (mvO rfl) (Rn (hV (.int .i64 (-1)) rfl hZ) fun e13 h15 => sN (xx (sR ?_))))))
  clear h10 h11
  obtain rfl := si h
  exact eR (resT h15 res0) rfl
 refine cF h11 hb12 (xx (sN (sq (Rg (kx (mvO h10) (kx (mvO rfl) (Rn (hN rfl hZ) fun e16 h18 => sN (xx ?_))))))))
 clear h10 h11
 obtain rfl := si h
 exact eR (resT h18 res0) rfl
/-! ### loop.example/g01263/laws.szInt64S (f47) -/
noncomputable def laws_szInt64S (a1 : List Int) (a2 : Int) : Option Int :=
 if (decide ((IntKind.i64.wrap (a2 - (a1.length : Int))) < 0)) = true then
  some (-1)
 else
  some (IntKind.i64.wrap (a2 - (a1.length : Int)))
def laws_szInt64S_enc (r : Int) : AV := .int .i64 r
theorem laws_szInt64S_ok (a1 : List Int) (a2 : Int) (r : Int) (h : laws_szInt64S a1 a2 = some r) : Ev (fun k => CN k 47 [.sl none (a1.map (cI .i64)), .int .i64 a2] []) (fun p => rRes p.2 p.1 = laws_szInt64S_enc r) := by
 unfold laws_szInt64S at h
 refine Ev.enter (F := fun k => f47 (CN k) k) (fun k => callN_eq rfl Try.func47 rfl rfl rfl (by decide +kernel) (f47_eq _ _)) (sq (Rg (kx (mvO rfl) (Rn (hN rfl (hN rfl hZ)) fun e1 h3 h4 => sN (sq (Rg (kx (mvO h4) (kx (mvO h3) (kx (lnS Try.underlying49 rfl) (kx (bSub rfl rfl) (kx (mvO rfl) (Rn (hN rfl hZ) fun e5 h7 => sN (sq (sq (Rg (kx (mvO h7) (kx (bLss rfl rfl) (Rn (hA h7 (hN rfl hZ)) fun e8 h10 h11 => sN ?_))))))))))))))))))
 clear h3 h7
 rcases ite_some h with ⟨hb12, h⟩ | ⟨hb12, h⟩
 ·refine cT h11 hb12 (sq (Rg (kx (mvO rfl) (Rn (hV (.int .i64 (-1)) rfl hZ) fun e13 h15 => sN (xx (sR ?_))))))
  clear h10 h11
  obtain rfl := si h
  exact eR (resT h15 res0) rfl
 refine cF h11 hb12 (xx (sN (sq (Rg (kx (mvO h10) (kx (mvO rfl) (Rn (hN rfl hZ) fun e16 h18 => sN (xx ?_))))))))
 clear h10 h11
 obtain rfl := si h
 exact eR (resT h18 res0) rfl
/-! ### loop.example/g01263/laws.heldDebtS (f30) -/
abbrev laws_heldDebtS_b1_S := Int × Int
abbrev laws_heldDebtS_b1_R := Unit ⊕ Int
def laws_heldDebtS_b1_RS (a1 : List Debt) (s : laws_heldDebtS_b1_S) (e : Env) (M : Mem) : Prop := eget e 0 = .sl none (a1.map Debt.c) ∧ eget e 1 = .int .i64 s.1 ∧ eget e 5 = .int .i64 s.2
def laws_heldDebtS_b1_RR (a1 : List Debt) (r : laws_heldDebtS_b1_R) (x : Ex) (e : Env) (M : Mem) : Prop :=
  match r with
  | (.inl g) => x = .ret ∧ eget e 4 = .int .i64 (-1)
  | (.inr g) => x = .ext 0 ∧ eget e 1 = .int .i64 g
noncomputable def laws_heldDebtS_b1 (a1 : List Debt) : laws_heldDebtS_b1_S → Option (laws_heldDebtS_b1_S ⊕ laws_heldDebtS_b1_R) := fun (s1_1, s1_2) =>
 if (decide (s1_2 < (a1.length : Int))) = true then
  (rd a1 s1_2).bind fun x33 =>
  if (x33.From != s1_1) = true then
   some (.inr (.inl ()))
  else
   (rd a1 s1_2).bind fun x50 =>
   if (x50.To != (IntKind.i64.wrap (s1_1 + 1))) = true then
    some (.inr (.inl ()))
   else
    (rd a1 s1_2).bind fun x67 =>
    if (x67.Amount != (IntKind.i64.wrap ((IntKind.i64.wrap (s1_1 + 1)) + 1))) = true then
     some (.inr (.inl ()))
    else
     some (.inl ((IntKind.i64.wrap ((IntKind.i64.wrap ((IntKind.i64.wrap (s1_1 + 1)) + 1)) + 1)), (IntKind.i64.wrap (s1_2 + 1))))
 else
  some (.inr (.inr s1_1))
theorem laws_heldDebtS_b1_ok (a1 : List Debt) (s : laws_heldDebtS_b1_S) (r : laws_heldDebtS_b1_S ⊕ laws_heldDebtS_b1_R) (h : laws_heldDebtS_b1 a1 s = some r) (e : Env) (M : Mem) (hs : laws_heldDebtS_b1_RS a1 s e M) : Ev (fun k => (f30_l2 (CN k) k (prune [0, 1, 5] e) M).bind fun q => some q) (bQ (laws_heldDebtS_b1_RS a1) (laws_heldDebtS_b1_RR a1) r) := by
 obtain ⟨s1_1, s1_2⟩ := s
 unfold laws_heldDebtS_b1 at h
 obtain ⟨h20, h22, h24⟩ := hs
 generalize he19 : prune [0, 1, 5] e = e18
 have h21 := envp he19.symm rfl h20
 have h23 := envp he19.symm rfl h22
 have h25 := envp he19.symm rfl h24
 refine sq (sq (Rg (kx (mvO h25) (kx (mvO h21) (kx (lnS Try.underlying54 rfl) (kx (bLss rfl rfl) (Rn (hV (.sl none (a1.map Debt.c)) h21 (hV (.int .i64 s1_1) h23 (hV (.int .i64 s1_2) h25 (hN rfl hZ)))) fun e26 h28 h29 h30 h31 => sN ?_)))))))
 clear h21 h23 h25
 rcases ite_some h with ⟨hb32, h⟩ | ⟨hb32, h⟩
 ·obtain ⟨x33, hx34, h⟩ := bind_some h
  refine cT h31 hb32 (xx (sN (sq (bl (sq (sq (Rg (kx (mvO h28) (kx (mvO h30) (kx (ixS rfl rfl hx34 Debt.fl) (kx (faP rfl ⟨ble rfl, blt rfl⟩ rfl) (kx (ldP rfl rfl) (kx (mvO h29) (kx (bNeq rfl rfl) (Rn (hA h28 (hA h29 (hA h30 (hN rfl hZ)))) fun e35 h37 h38 h39 h40 => sN ?_)))))))))))))))
  clear h28 h29 h30 h31
  rcases ite_some h with ⟨hb41, h⟩ | ⟨hb41, h⟩
  ·refine cT h40 hb41 (sq (Rg (kx (mvO rfl) (Rn (hV (.int .i64 (-1)) rfl hZ) fun e42 h44 => sN (xx (sR (bR (sR ?_))))))))
   clear h37 h38 h39 h40
   obtain rfl := si h
   exact qR ⟨rfl, h44⟩
  obtain ⟨x50, hx51, h⟩ := bind_some h
  refine cF h40 hb41 (xx (sN (sq (Rg (kx (mvO h38) (kx (bAdd rfl rfl) (kx (mvO rfl) (Rn (hA h37 (hN rfl (hA h39 hZ))) fun e45 h47 h48 h49 => sN (sq (sq (Rg (kx (mvO h47) (kx (mvO h49) (kx (ixS rfl rfl hx51 Debt.fl) (kx (faP rfl ⟨ble rfl, blt rfl⟩ rfl) (kx (ldP rfl rfl) (kx (mvO h48) (kx (bNeq rfl rfl) (Rn (hA h47 (hA h48 (hA h49 (hN rfl hZ)))) fun e52 h54 h55 h56 h57 => sN ?_)))))))))))))))))))
  clear h37 h39 h40 h47 h48 h49
  rcases ite_some h with ⟨hb58, h⟩ | ⟨hb58, h⟩
  ·refine cT h57 hb58 (sq (Rg (kx (mvO rfl) (Rn (hV (.int .i64 (-1)) rfl hZ) fun e59 h61 => sN (xx (sR (bR (sR ?_))))))))
   clear h54 h55 h56 h57
   obtain rfl := si h
   exact qR ⟨rfl, h61⟩
  obtain ⟨x67, hx68, h⟩ := bind_some h
  refine cF h57 hb58 (xx (sN (sq (Rg (kx (mvO h55) (kx (bAdd rfl rfl) (kx (mvO rfl) (Rn (hA h54 (hN rfl (hA h56 hZ))) fun e62 h64 h65 h66 => sN (sq (sq (Rg (kx (mvO h64) (kx (mvO h66) (kx (ixS rfl rfl hx68 Debt.fl) (kx (faP rfl ⟨ble rfl, blt rfl⟩ rfl) (kx (ldP rfl rfl) (kx (mvO h65) (kx (bNeq rfl rfl) (Rn (hA h64 (hA h65 (hA h66 (hN rfl hZ)))) fun e69 h71 h72 h73 h74 => sN ?_)))))))))))))))))))
  clear h54 h56 h57 h64 h65 h66
  rcases ite_some h with ⟨hb75, h⟩ | ⟨hb75, h⟩
  ·refine cT h74 hb75 (sq (Rg (kx (mvO rfl) (Rn (hV (.int .i64 (-1)) rfl hZ) fun e76 h78 => sN (xx (sR (bR (sR ?_))))))))
   clear h71 h72 h73 h74
   obtain rfl := si h
   exact qR ⟨rfl, h78⟩
  refine cF h74 hb75 (xx (sN (Rg (kx (mvO h72) (kx (bAdd rfl rfl) (kx (mvO rfl) (Rn (hA h71 (hN rfl (hA h73 hZ))) fun e79 h81 h82 h83 => bN (sN (Rg (kx (mvO h83) (kx (bAdd rfl rfl) (kx (mvO rfl) (Rn (hA h81 (hA h82 (hN rfl hZ))) fun e84 h86 h87 h88 => ?_)))))))))))))
  clear h71 h73 h74 h81 h82
  obtain rfl := si h
  exact qN ⟨h86, h87, h88⟩
 refine cF h31 hb32 (xx (sE ?_))
 obtain rfl := si h
 exact qE ⟨rfl, h29⟩
noncomputable def laws_heldDebtS (a1 : List Debt) (a2 : Int) : Option Int :=
 (Lw (laws_heldDebtS_b1 a1) (a2, 0)).bind fun r => match r with
 | (.inl _) =>
  some (-1)
 | (.inr y97) =>
  some y97
def laws_heldDebtS_enc (r : Int) : AV := .int .i64 r
theorem laws_heldDebtS_ok (a1 : List Debt) (a2 : Int) (r : Int) (h : laws_heldDebtS a1 a2 = some r) : Ev (fun k => CN k 30 [.sl none (a1.map Debt.c), .int .i64 a2] []) (fun p => rRes p.2 p.1 = laws_heldDebtS_enc r) := by
 unfold laws_heldDebtS at h
 obtain ⟨r89, hr90, h⟩ := bind_some h
 refine Ev.enter (F := fun k => f30 (CN k) k) (fun k => callN_eq rfl Try.func30 rfl rfl rfl (by decide +kernel) (f30_eq _ _)) (sq (Rg (kx (mvO rfl) (Rn (hN rfl (hN rfl hZ)) fun e1 h3 h4 => sN (sq (sq (Rg (kx (mvO rfl) (Rn (hA h3 (hA h4 (hV (.int .i64 0) rfl hZ))) fun e5 h7 h8 h9 => sN (bl ?_))))))))))
 clear h3 h4
 rcases r89 with _ | y97
 ·refine Ev.loop (RS := laws_heldDebtS_b1_RS a1) (RR := laws_heldDebtS_b1_RR a1) (fun s r h e M hs => laws_heldDebtS_b1_ok a1 s r h e M hs) hr90 ⟨h7, h8, h9⟩ fun x e92 M93 hq91 => ?_
  obtain ⟨rfl, h94⟩ := hq91
  refine bR (sR ?_)
  obtain rfl := si h
  exact eR (resT h94 res0) rfl
 refine Ev.loop (RS := laws_heldDebtS_b1_RS a1) (RR := laws_heldDebtS_b1_RR a1) (fun s r h e M hs => laws_heldDebtS_b1_ok a1 s r h e M hs) hr90 ⟨h7, h8, h9⟩ fun x e95 M96 hq91 => ?_
 obtain ⟨rfl, h98⟩ := hq91
 refine bE (sN (sq (Rg (kx (mvO h98) (kx (mvO rfl) (Rn (hN rfl hZ) fun e99 h101 => sN (xx ?_)))))))
 clear h98
 obtain rfl := si h
 exact eR (resT h101 res0) rfl
/-! ### loop.example/g01263/laws.eqBook (f27) -/
noncomputable def laws_eqBook (a1 : Book) (a2 : Book) : Option Bool :=
 if (a1.Day != a2.Day) = true then
  some false
 else
  (laws_eqInt64S a1.Cash a2.Cash).bind fun r15 =>
  if r15 = true then
   (laws_eqTallyS a1.Tallies a2.Tallies).bind fun r23 =>
   if r23 = true then
    some true
   else
    some false
  else
   some false
def laws_eqBook_enc (r : Bool) : AV := .bool r
theorem laws_eqBook_ok (a1 : Book) (a2 : Book) (r : Bool) (h : laws_eqBook a1 a2 = some r) : Ev (fun k => CN k 27 [.agg [.int .i64 a1.Day, .sl none (a1.Cash.map (cI .i64)), .sl none (a1.Tallies.map Tally.c)], .agg [.int .i64 a2.Day, .sl none (a2.Cash.map (cI .i64)), .sl none (a2.Tallies.map Tally.c)]] []) (fun p => rRes p.2 p.1 = laws_eqBook_enc r) := by
 unfold laws_eqBook at h
 refine Ev.enter (F := fun k => f27 (CN k) k) (fun k => callN_eq rfl Try.func27 rfl rfl rfl (by decide +kernel) (f27_eq _ _)) (sq (Rg (kx (bxI rfl rfl ⟨rfl, rfl, by decide⟩) (kx (bxI rfl rfl ⟨rfl, rfl, by decide⟩) (kx (mvO rfl) (Rn (hN rfl (hN rfl hZ)) fun e1 h3 h4 => sN (sq (sq (Rg (kx (faP h3 ⟨ble rfl, blt rfl⟩ rfl) (kx (ldP rfl rfl) (kx (faP h4 ⟨ble rfl, blt rfl⟩ rfl) (kx (ldP rfl rfl) (kx (bNeq rfl rfl) (Rn (hA h3 (hA h4 (hN rfl hZ))) fun e5 h7 h8 h9 => sN ?_)))))))))))))))
 clear h3 h4
 rcases ite_some h with ⟨hb10, h⟩ | ⟨hb10, h⟩
 ·refine cT h9 hb10 (sq (Rg (kx (mvO rfl) (Rn (hV (.bool false) rfl hZ) fun e11 h13 => sN (xx (sR ?_))))))
  clear h7 h8 h9
  obtain rfl := si h
  exact eR (resT h13 res0) rfl
 obtain ⟨r15, hx14, h⟩ := bind_some h
 refine cF h9 hb10 (xx (sN (sq (sq (Rg (kx (faP h7 ⟨ble rfl, blt rfl⟩ rfl) (kx (ldP rfl rfl) (kx (faP h8 ⟨ble rfl, blt rfl⟩ rfl) (kx (ldP rfl rfl) (kc (cl (v := .bool r15) rfl (cns rfl (cns rfl rfl)) rfl (laws_eqInt64S_ok a1.Cash a2.Cash _ hx14) nm) (kx (uNot rfl) (Rn (hA h7 (hA h8 (hN rfl hZ))) fun e16 h18 h19 h20 => sN ?_))))))))))))
 clear h7 h8 h9
 rcases ite_some h with ⟨hb21, h⟩ | ⟨hb21, h⟩
 ·obtain ⟨r23, hx22, h⟩ := bind_some h
  refine cF h20 (congrArg Bool.not hb21) (xx (sN (sq (sq (Rg (kx (faP h18 ⟨ble rfl, blt rfl⟩ rfl) (kx (ldP rfl rfl) (kx (faP h19 ⟨ble rfl, blt rfl⟩ rfl) (kx (ldP rfl rfl) (kc (cl (v := .bool r23) rfl (cns rfl (cns rfl rfl)) rfl (laws_eqTallyS_ok a1.Tallies a2.Tallies _ hx22) nm) (kx (uNot rfl) (Rn (hN rfl hZ) fun e24 h26 => sN ?_))))))))))))
  clear h18 h19 h20
  rcases ite_some h with ⟨hb27, h⟩ | ⟨hb27, h⟩
  ·refine cF h26 (congrArg Bool.not hb27) (xx (sN (sq (Rg (kx (mvO rfl) (Rn (hV (.bool true) rfl hZ) fun e28 h30 => sN (xx ?_)))))))
   clear h26
   obtain rfl := si h
   exact eR (resT h30 res0) rfl
  refine cT h26 (congrArg Bool.not hb27) (sq (Rg (kx (mvO rfl) (Rn (hV (.bool false) rfl hZ) fun e31 h33 => sN (xx (sR ?_))))))
  clear h26
  obtain rfl := si h
  exact eR (resT h33 res0) rfl
 refine cT h20 (congrArg Bool.not hb21) (sq (Rg (kx (mvO rfl) (Rn (hV (.bool false) rfl hZ) fun e34 h36 => sN (xx (sR ?_))))))
 clear h18 h19 h20
 obtain rfl := si h
 exact eR (resT h36 res0) rfl
/-! ### loop.example/g01263/laws.eqDebtS (f26) -/
abbrev laws_eqDebtS_b1_S := Int
abbrev laws_eqDebtS_b1_R := Unit ⊕ Unit
def laws_eqDebtS_b1_RS (a1 : List Debt) (a2 : List Debt) (s : laws_eqDebtS_b1_S) (e : Env) (M : Mem) : Prop := eget e 0 = .sl none (a1.map Debt.c) ∧ eget e 1 = .sl none (a2.map Debt.c) ∧ eget e 5 = .int .i64 s
def laws_eqDebtS_b1_RR (a1 : List Debt) (a2 : List Debt) (r : laws_eqDebtS_b1_R) (x : Ex) (e : Env) (M : Mem) : Prop :=
  match r with
  | (.inl g) => x = .ret ∧ eget e 4 = .bool false
  | (.inr g) => x = .ext 0 ∧ True
noncomputable def laws_eqDebtS_b1 (a1 : List Debt) (a2 : List Debt) : laws_eqDebtS_b1_S → Option (laws_eqDebtS_b1_S ⊕ laws_eqDebtS_b1_R) := fun s1_1 =>
 if (decide (s1_1 < (a1.length : Int))) = true then
  (rd a1 s1_1).bind fun x42 =>
  (rd a2 s1_1).bind fun x44 =>
  (laws_eqDebt x42 x44).bind fun r47 =>
  if r47 = true then
   some (.inl (IntKind.i64.wrap (s1_1 + 1)))
  else
   some (.inr (.inl ()))
 else
  some (.inr (.inr ()))
theorem laws_eqDebtS_b1_ok (a1 : List Debt) (a2 : List Debt) (s : laws_eqDebtS_b1_S) (r : laws_eqDebtS_b1_S ⊕ laws_eqDebtS_b1_R) (h : laws_eqDebtS_b1 a1 a2 s = some r) (e : Env) (M : Mem) (hs : laws_eqDebtS_b1_RS a1 a2 s e M) : Ev (fun k => (f26_l4 (CN k) k (prune [0, 1, 5] e) M).bind fun q => some q) (bQ (laws_eqDebtS_b1_RS a1 a2) (laws_eqDebtS_b1_RR a1 a2) r) := by
 revert h hs
 revert s
 intro s1_1 h hs
 unfold laws_eqDebtS_b1 at h
 obtain ⟨h29, h31, h33⟩ := hs
 generalize he28 : prune [0, 1, 5] e = e27
 have h30 := envp he28.symm rfl h29
 have h32 := envp he28.symm rfl h31
 have h34 := envp he28.symm rfl h33
 refine sq (sq (Rg (kx (mvO h34) (kx (mvO h30) (kx (lnS Try.underlying54 rfl) (kx (bLss rfl rfl) (Rn (hV (.sl none (a1.map Debt.c)) h30 (hV (.sl none (a2.map Debt.c)) h32 (hV (.int .i64 s1_1) h34 (hN rfl hZ)))) fun e35 h37 h38 h39 h40 => sN ?_)))))))
 clear h30 h32 h34
 rcases ite_some h with ⟨hb41, h⟩ | ⟨hb41, h⟩
 ·obtain ⟨x42, hx43, h⟩ := bind_some h
  obtain ⟨x44, hx45, h⟩ := bind_some h
  obtain ⟨r47, hx46, h⟩ := bind_some h
  refine cT h40 hb41 (xx (sN (sq (bl (sq (Rd (kf (mvO h37) (kf (mvO h39) (kf (ixS rfl rfl hx43 Debt.fl) (kf (ldPA rfl rfl rfl) (kf (mvO h38) (kf (mvO h39) (kf (ixS rfl rfl hx45 Debt.fl) (kf (ldPA rfl rfl rfl) (fc (cl (v := .bool r47) rfl (cns rfl (cns rfl rfl)) rfl (laws_eqDebt_ok x42 x44 _ hx46) nm) (kf (uNot rfl) (fZ (Rn (hA h37 (hA h38 (hA h39 (hN rfl hZ)))) fun e48 h50 h51 h52 h53 => sN ?_))))))))))))))))))
  clear h37 h38 h39 h40
  rcases ite_some h with ⟨hb54, h⟩ | ⟨hb54, h⟩
  ·refine cF h53 (congrArg Bool.not hb54) (xx (bN (sN (Rg (kx (mvO h52) (kx (bAdd rfl rfl) (kx (mvO rfl) (Rn (hA h50 (hA h51 (hN rfl hZ))) fun e55 h57 h58 h59 => ?_))))))))
   clear h50 h51 h53
   obtain rfl := si h
   exact qN ⟨h57, h58, h59⟩
  refine cT h53 (congrArg Bool.not hb54) (sq (Rg (kx (mvO rfl) (Rn (hV (.bool false) rfl hZ) fun e60 h62 => sN (xx (bR (sR ?_)))))))
  clear h50 h51 h52 h53
  obtain rfl := si h
  exact qR ⟨rfl, h62⟩
 refine cF h40 hb41 (xx (sE ?_))
 obtain rfl := si h
 exact qE ⟨rfl, trivial⟩
noncomputable def laws_eqDebtS (a1 : List Debt) (a2 : List Debt) : Option Bool :=
 if ((a1.length : Int) != (a2.length : Int)) = true then
  some false
 else
  (Lw (laws_eqDebtS_b1 a1 a2) 0).bind fun r => match r with
  | (.inl _) =>
   some false
  | (.inr _) =>
   some true
def laws_eqDebtS_enc (r : Bool) : AV := .bool r
theorem laws_eqDebtS_ok (a1 : List Debt) (a2 : List Debt) (r : Bool) (h : laws_eqDebtS a1 a2 = some r) : Ev (fun k => CN k 26 [.sl none (a1.map Debt.c), .sl none (a2.map Debt.c)] []) (fun p => rRes p.2 p.1 = laws_eqDebtS_enc r) := by
 unfold laws_eqDebtS at h
 refine Ev.enter (F := fun k => f26 (CN k) k) (fun k => callN_eq rfl Try.func26 rfl rfl rfl (by decide +kernel) (f26_eq _ _)) (sq (Rg (kx (mvO rfl) (Rn (hN rfl (hN rfl hZ)) fun e1 h3 h4 => sN (sq (sq (Rg (kx (mvO h3) (kx (lnS Try.underlying54 rfl) (kx (mvO h4) (kx (lnS Try.underlying54 rfl) (kx (bNeq rfl rfl) (Rn (hA h3 (hA h4 (hN rfl hZ))) fun e5 h7 h8 h9 => sN ?_)))))))))))))
 clear h3 h4
 rcases ite_some h with ⟨hb10, h⟩ | ⟨hb10, h⟩
 ·refine cT h9 hb10 (sq (Rg (kx (mvO rfl) (Rn (hV (.bool false) rfl hZ) fun e11 h13 => sN (xx (sR ?_))))))
  clear h7 h8 h9
  obtain rfl := si h
  exact eR (resT h13 res0) rfl
 obtain ⟨r63, hr64, h⟩ := bind_some h
 refine cF h9 hb10 (xx (sN (sq (sq (Rg (kx (mvO rfl) (Rn (hA h7 (hA h8 (hV (.int .i64 0) rfl hZ))) fun e14 h16 h17 h18 => sN (bl ?_))))))))
 clear h7 h8 h9
 rcases r63 with _ | _
 ·refine Ev.loop (RS := laws_eqDebtS_b1_RS a1 a2) (RR := laws_eqDebtS_b1_RR a1 a2) (fun s r h e M hs => laws_eqDebtS_b1_ok a1 a2 s r h e M hs) hr64 ⟨h16, h17, h18⟩ fun x e66 M67 hq65 => ?_
  obtain ⟨rfl, h68⟩ := hq65
  refine bR (sR ?_)
  obtain rfl := si h
  exact eR (resT h68 res0) rfl
 refine Ev.loop (RS := laws_eqDebtS_b1_RS a1 a2) (RR := laws_eqDebtS_b1_RR a1 a2) (fun s r h e M hs => laws_eqDebtS_b1_ok a1 a2 s r h e M hs) hr64 ⟨h16, h17, h18⟩ fun x e69 M70 hq65 => ?_
 obtain ⟨rfl, _⟩ := hq65
 refine bE (sN (sq (Rg (kx (mvO rfl) (Rn (hV (.bool true) rfl hZ) fun e71 h73 => sN (xx ?_))))))
 obtain rfl := si h
 exact eR (resT h73 res0) rfl
/-! ### loop.example/g01263/impl.DebtsIn (f25) -/
abbrev impl_DebtsIn_b1_S := Int × (List Debt)
abbrev impl_DebtsIn_b1_R := (List Debt)
def impl_DebtsIn_b1_RS (a1 : Book) (i1_1 : Nat) (s : impl_DebtsIn_b1_S) (e : Env) (M : Mem) : Prop := eget e 1 = .pt none [.int .i64 a1.Day, .sl none (a1.Cash.map (cI .i64)), .sl none (a1.Tallies.map Tally.c)] ∧ eget e 4 = .lsl i1_1 s.2.length 0 s.2.length ∧ eget e 12 = .sl none (a1.Tallies.map Tally.c) ∧ eget e 13 = .int .i64 (a1.Tallies.length : Int) ∧ eget e 14 = .int .i64 s.1 ∧ M[i1_1]? = some (.live ⟨.grow, 94, 3, s.2.map Debt.c⟩)
def impl_DebtsIn_b1_RR (a1 : Book) (i1_1 : Nat) (g : impl_DebtsIn_b1_R) (x : Ex) (e : Env) (M : Mem) : Prop := x = .ext 0 ∧ eget e 1 = .pt none [.int .i64 a1.Day, .sl none (a1.Cash.map (cI .i64)), .sl none (a1.Tallies.map Tally.c)] ∧ eget e 4 = .lsl i1_1 g.length 0 g.length ∧ M[i1_1]? = some (.live ⟨.grow, 94, 3, g.map Debt.c⟩)
noncomputable def impl_DebtsIn_b1 (a1 : Book) : impl_DebtsIn_b1_S → Option (impl_DebtsIn_b1_S ⊕ impl_DebtsIn_b1_R) := fun (s1_1, s1_2) =>
 if (decide (s1_1 < (a1.Tallies.length : Int))) = true then
  (rd a1.Tallies s1_1).bind fun x61 =>
  if (decide (x61.Left > 0)) = true then
   (app 24 s1_2 [(Debt.mk x61.Debtor x61.Holder x61.Left)]).bind fun x91 =>
   some (.inl ((IntKind.i64.wrap (s1_1 + 1)), x91))
  else
   some (.inl ((IntKind.i64.wrap (s1_1 + 1)), s1_2))
 else
  some (.inr s1_2)
theorem impl_DebtsIn_b1_ok (a1 : Book) (i1_1 : Nat) (s : impl_DebtsIn_b1_S) (r : impl_DebtsIn_b1_S ⊕ impl_DebtsIn_b1_R) (h : impl_DebtsIn_b1 a1 s = some r) (e : Env) (M : Mem) (hs : impl_DebtsIn_b1_RS a1 i1_1 s e M) : Ev (fun k => (f25_l5 (CN k) k (prune [1, 4, 12, 13, 14] e) M).bind fun q => some q) (bQ (impl_DebtsIn_b1_RS a1 i1_1) (impl_DebtsIn_b1_RR a1 i1_1) r) := by
 obtain ⟨s1_1, s1_2⟩ := s
 unfold impl_DebtsIn_b1 at h
 obtain ⟨h41, h43, h45, h47, h49, o51⟩ := hs
 generalize he40 : prune [1, 4, 12, 13, 14] e = e39
 have h42 := envp he40.symm rfl h41
 have h44 := envp he40.symm rfl h43
 have h46 := envp he40.symm rfl h45
 have h48 := envp he40.symm rfl h47
 have h50 := envp he40.symm rfl h49
 refine sq (Rg (kx (bLss h50 h48) (Rn (hV (.pt none [.int .i64 a1.Day, .sl none (a1.Cash.map (cI .i64)), .sl none (a1.Tallies.map Tally.c)]) h42 (hV (.lsl i1_1 s1_2.length 0 s1_2.length) h44 (hV (.sl none (a1.Tallies.map Tally.c)) h46 (hV (.int .i64 (a1.Tallies.length : Int)) h48 (hV (.int .i64 s1_1) h50 (hN rfl hZ)))))) fun e52 h54 h55 h56 h57 h58 h59 => sN (sq ?_))))
 clear h42 h44 h46 h48 h50
 rcases ite_some h with ⟨hb60, h⟩ | ⟨hb60, h⟩
 ·obtain ⟨x61, hx62, h⟩ := bind_some h
  refine cT h59 hb60 (xx (sN (sq (bl (sq (Rg (kx (ixS h56 h58 hx62 Tally.fl) (kx (ldPA rfl rfl rfl) (ku (alO zero92) fun M64 hM65 => ?_)))))))))
  have o66 := push_old hM65 o51
  have ne67 := ne_new o51
  have o68 : M64[M.length]? = some (.live ⟨.box, 92, 5, [[.int .i64 0, .int .i64 0, .int .i64 0, .int .i64 0, .int .i64 0]]⟩) := push_new hM65
  refine kw (stO rfl rfl o68 rfl rfl ⟨rfl, ble rfl⟩ rfl rfl) fun M69 hM70 => ?_
  have o71 := set_ne hM70 ne67 o66
  have o72 : M69[M.length]? = some (.live ⟨.box, 92, 5, [[.int .i64 x61.Debtor, .int .i64 x61.Holder, .int .i64 x61.Cut, .int .i64 x61.Amount, .int .i64 x61.Left]]⟩) := set_same hM70 o68
  refine Rn (hA h54 (hA h55 (hV (.loc M.length 1 0 0) rfl (hA h56 (hA h57 (hA h58 hZ)))))) fun e73 h75 h76 h77 h78 h79 h80 => sN (sq (Rg (kx (faO h77 o72 rfl) (kx (ldO rfl o72 rfl rfl rfl) (kx (bGtr rfl rfl) (Rn (hA h75 (hA h76 (hA h77 (hA h78 (hA h79 (hA h80 (hN rfl hZ))))))) fun e81 h83 h84 h85 h86 h87 h88 h89 => sN ?_))))))
  clear h54 h55 h56 h57 h58 h59 h75 h76 h77 h78 h79 h80
  rcases ite_some h with ⟨hb90, h⟩ | ⟨hb90, h⟩
  ·obtain ⟨x91, hx92, h⟩ := bind_some h
   refine cT h89 hb90 (Rg (kx (mvO h84) (kx (faO h85 o72 rfl) (kx (ldO rfl o72 rfl rfl rfl) (kx (faO h85 o72 rfl) (kx (ldO rfl o72 rfl rfl rfl) (kx (faO h85 o72 rfl) (kx (ldO rfl o72 rfl rfl rfl) (kx (bldT zero94 (cns (pr3 rfl) (cns (pr3 rfl) (cns (pr3 rfl) rfl))) (fill1 ⟨rfl, ble rfl⟩ rfl rfl (fill1 ⟨rfl, ble rfl⟩ rfl rfl (fill1 ⟨rfl, ble rfl⟩ rfl rfl (fill0 rfl))))) (kx (litI (cns rfl rfl) rfl ⟨rfl, by decide⟩) (kw (apO rfl o71 rfl (elT (c := Debt.c) (xs := [(Debt.mk x61.Debtor x61.Holder x61.Left)]) rfl) hx92 Debt.fl (by decide)) fun M93 hM94 => ?_)))))))))))
   have o95 : M93[i1_1]? = some (.live ⟨.grow, 94, 3, x91.map Debt.c⟩) := set_same hM94 o71
   have o96 := set_ne hM94 (Ne.symm ne67) o72
   refine kx (mvO rfl) (Rn (hA h83 (hV (.lsl i1_1 x91.length 0 x91.length) rfl (hA h86 (hA h87 (hA h88 hZ))))) fun e97 h99 h100 h101 h102 h103 => bN (sN (Rg (kx (bAdd h103 rfl) (kx (mvO rfl) (Rn (hA h99 (hA h100 (hA h101 (hA h102 (hN rfl hZ))))) fun e104 h106 h107 h108 h109 h110 => ?_))))))
   clear h83 h85 h86 h87 h88 h89 h100 h101 h102 h99
   obtain rfl := si h
   exact qN ⟨h106, h107, h108, h109, h110, o95⟩
  refine cF h89 hb90 (xx (bN (sN (Rg (kx (bAdd h88 rfl) (kx (mvO rfl) (Rn (hA h83 (hA h84 (hA h86 (hA h87 (hN rfl hZ))))) fun e111 h113 h114 h115 h116 h117 => ?_)))))))
  clear h83 h84 h85 h86 h87 h89
  obtain rfl := si h
  exact qN ⟨h113, h114, h115, h116, h117, o71⟩
 refine cF h59 hb60 (xx (sE ?_))
 obtain rfl := si h
 exact qE ⟨rfl, h54, h55, o51⟩
noncomputable def impl_DebtsIn (a1 : Book) : Option (Int ⊕ ((List Debt))) :=
 (impl_ValidBook a1).bind fun r5 =>
 if r5 = true then
  (Lw (impl_DebtsIn_b1 a1) (0, ([] : List Debt))).bind fun y123 =>
  (impl_JoinDebts (a1.Cash.length : Int) y123).bind fun r => match r with
  | (.inl r128) =>
   some (.inl r128)
  | (.inr r133) =>
   some (.inr r133)
 else
  some (.inl 1)
def impl_DebtsIn_enc (r : Int ⊕ ((List Debt))) : AV :=
  match r with
  | (.inl g) => .tup [.nils, .int .i64 g]
  | (.inr g) => .tup [.sl (some 94) (g.map Debt.c), .int .i64 0]
theorem impl_DebtsIn_ok (a1 : Book) (r : Int ⊕ ((List Debt))) (h : impl_DebtsIn a1 = some r) : Ev (fun k => CN k 25 [.agg [.int .i64 a1.Day, .sl none (a1.Cash.map (cI .i64)), .sl none (a1.Tallies.map Tally.c)]] []) (fun p => rRes p.2 p.1 = impl_DebtsIn_enc r) := by
 unfold impl_DebtsIn at h
 obtain ⟨r5, hx4, h⟩ := bind_some h
 refine Ev.enter (F := fun k => f25 (CN k) k) (fun k => callN_eq rfl Try.func25 rfl rfl rfl (by decide +kernel) (f25_eq _ _)) (sq (Rg (kx (bxI rfl rfl ⟨rfl, rfl, by decide⟩) (kx (mvO rfl) (kx (mvO rfl) (Rn (hN rfl hZ) fun e1 h3 => sN (sq (sq (Rg (kx (ldPA h3 rfl rfl) (kc (cl (v := .bool r5) rfl (cns rfl rfl) rfl (impl_ValidBook_ok a1 _ hx4) nm) (kx (uNot rfl) (Rn (hA h3 (hN rfl hZ)) fun e6 h8 h9 => sN ?_)))))))))))))
 clear h3
 rcases ite_some h with ⟨hb10, h⟩ | ⟨hb10, h⟩
 ·refine cF h9 (congrArg Bool.not hb10) (xx (sN (sq (Rg (ku (litO (xs := ([] : List Debt)) (c := Debt.c) rfl rfl (by decide)) fun M12 hM13 => ?_)))))
  have o14 : M12[([] : Mem).length]? = some (.live ⟨.grow, 94, 3, ([] : List Debt).map Debt.c⟩) := push_new hM13
  obtain ⟨y123, hr119, h⟩ := bind_some h
  refine kx (mvO rfl) (Rn (hA h8 (hV (.lsl ([] : Mem).length ([] : List Debt).length 0 ([] : List Debt).length) rfl hZ)) fun e15 h17 h18 => sN (sq (sq (Rg (kx (faP h17 ⟨ble rfl, blt rfl⟩ rfl) (kx (ldP rfl rfl) (kx (lnS Try.underlying57 rfl) (kx (mvO rfl) (Rn (hA h17 (hA h18 (hN rfl (hN rfl (hV (.int .i64 0) rfl hZ))))) fun e19 h21 h22 h23 h24 h25 => sN (bl (Ev.loop (RS := impl_DebtsIn_b1_RS a1 (([] : Mem).length)) (RR := impl_DebtsIn_b1_RR a1 (([] : Mem).length)) (fun s r h e M hs => impl_DebtsIn_b1_ok a1 (([] : Mem).length) s r h e M hs) hr119 ⟨h21, h22, h23, h24, h25, o14⟩ fun x e121 M122 hq120 => ?_)))))))))))
  clear h8 h9 h17 h18
  obtain ⟨rfl, h124, h125, o126⟩ := hq120
  obtain ⟨q138, hx127, h⟩ := bind_some h
  refine bE (sN (sq (Rg (kx (faP h124 ⟨ble rfl, blt rfl⟩ rfl) (kx (ldP rfl rfl) (kx (lnS Try.underlying49 rfl) (kx (mvO h125) ?_)))))))
  rcases q138 with r128 | r133
  ·refine kc (cl (v := .tup [.nils, .int .i64 r128]) rfl (cns rfl (cns rfl rfl)) (ra1 rfl (ra1 (ra1_row o126 rfl Debt.fl) ra0)) (impl_JoinDebts_ok (a1.Cash.length : Int) y123 _ hx127) (fun _ => (own_tup (oa1 rfl (oa1 rfl oa0))))) (kx (exT rfl rfl) (kx (exT rfl rfl) (kx (mvO rfl) (kx (mvO rfl) (Rn (hV .nils rfl (hN rfl hZ)) fun e129 h131 h132 => sN (xx ?_))))))
   clear h124 h125
   obtain rfl := si h
   exact eR (resT h131 (resT h132 res0)) rfl
  refine kc (cl (v := .tup [.sl (some 94) (r133.map Debt.c), .int .i64 0]) rfl (cns rfl (cns rfl rfl)) (ra1 rfl (ra1 (ra1_row o126 rfl Debt.fl) ra0)) (impl_JoinDebts_ok (a1.Cash.length : Int) y123 _ hx127) (fun _ => (own_tup (oa1 (own2_row (c := Debt.c) Debt.flF) (oa1 rfl oa0))))) (kx (exT rfl rfl) (kx (exT rfl rfl) (kx (mvO rfl) (kx (mvO rfl) (Rn (hN rfl (hV (.int .i64 0) rfl hZ)) fun e134 h136 h137 => sN (xx ?_))))))
  clear h124 h125
  obtain rfl := si h
  exact eR (resT h136 (resT h137 res0)) rfl
 refine cT h9 (congrArg Bool.not hb10) (sq (Rg (kx (mvO rfl) (kx (mvO rfl) (Rn (hV .nils rfl (hV (.int .i64 1) rfl hZ)) fun e139 h141 h142 => sN (xx (sR ?_)))))))
 clear h8 h9
 obtain rfl := si h
 exact eR (resT h141 (resT h142 res0)) rfl
/-! ### loop.example/g01263/laws.toBook (f24) -/
noncomputable def laws_toBook (a1 : Book) : Option (Int × (List Int) × (List Tally)) :=
 (laws_toInt64S a1.Cash).bind fun r30 =>
 (laws_toTallyS a1.Tallies).bind fun r41 =>
 some (a1.Day, r30, r41)
def laws_toBook_enc (r : Int × (List Int) × (List Tally)) : AV := .agg [.int .i64 r.1, .sl (some 2) (r.2.1.map (cI .i64)), .sl (some 92) (r.2.2.map Tally.c)]
theorem laws_toBook_ok (a1 : Book) (r : Int × (List Int) × (List Tally)) (h : laws_toBook a1 = some r) : Ev (fun k => CN k 24 [.agg [.int .i64 a1.Day, .sl none (a1.Cash.map (cI .i64)), .sl none (a1.Tallies.map Tally.c)]] []) (fun p => rRes p.2 p.1 = laws_toBook_enc r) := by
 unfold laws_toBook at h
 refine Ev.enter (F := fun k => f24 (CN k) k) (fun k => callN_eq rfl Try.func24 rfl rfl rfl (by decide +kernel) (f24_eq _ _)) (sq (Rg (kx (bxI rfl rfl ⟨rfl, rfl, by decide⟩) (ku (alO zero59) fun M2 hM3 => ?_))))
 have o4 : M2[([] : Mem).length]? = some (.live ⟨.box, 59, 3, [[.int .i64 0, .nils, .nils]]⟩) := push_new hM3
 refine Rn (hN rfl (hV (.loc ([] : Mem).length 1 0 0) rfl hZ)) fun e5 h7 h8 => sN (sq (Rg (ku (alO zero59) fun M10 hM11 => ?_)))
 have o12 := push_old hM11 o4
 have ne13 := ne_new o4
 have o14 : M10[M2.length]? = some (.live ⟨.box, 59, 3, [[.int .i64 0, .nils, .nils]]⟩) := push_new hM11
 refine Rn (hA h7 (hA h8 (hV (.loc M2.length 1 0 0) rfl hZ))) fun e15 h17 h18 h19 => sN (sq (Rg (kx (faP h17 ⟨ble rfl, blt rfl⟩ rfl) (kx (ldP rfl rfl) (kx (faO h19 o14 rfl) (kw (stO rfl rfl o14 rfl rfl ⟨rfl, ble rfl⟩ rfl rfl) fun M20 hM21 => ?_))))))
 clear h7 h8
 have o22 := set_ne hM21 ne13 o12
 have o23 : M20[M2.length]? = some (.live ⟨.box, 59, 3, [[.int .i64 a1.Day, .nils, .nils]]⟩) := set_same hM21 o14
 obtain ⟨r30, hx29, h⟩ := bind_some h
 refine Rn (hA h17 (hA h18 (hA h19 hZ))) fun e24 h26 h27 h28 => sN (sq (Rg (kx (faP h26 ⟨ble rfl, blt rfl⟩ rfl) (kx (ldP rfl rfl) (kc (cl (v := .sl (some 2) (r30.map (cI .i64))) rfl (cns rfl rfl) rfl (laws_toInt64S_ok a1.Cash _ hx29) nm) (kx (faO h28 o23 rfl) (kw (stOK rfl rfl o23 rfl rfl ⟨rfl, ble rfl⟩ rfl rfl) fun M31 hM32 => ?_)))))))
 clear h17 h18 h19
 have o33 := set_ne hM32 ne13 o22
 have o34 : M31[M2.length]? = some (.live ⟨.box, 59, 3, [[.int .i64 a1.Day, .sl (some 2) (r30.map (cI .i64)), .nils]]⟩) := set_same hM32 o23
 obtain ⟨r41, hx40, h⟩ := bind_some h
 refine Rn (hA h26 (hA h27 (hA h28 hZ))) fun e35 h37 h38 h39 => sN (sq (Rg (kx (faP h37 ⟨ble rfl, blt rfl⟩ rfl) (kx (ldP rfl rfl) (kc (cl (v := .sl (some 92) (r41.map Tally.c)) rfl (cns rfl rfl) rfl (laws_toTallyS_ok a1.Tallies _ hx40) nm) (kx (faO h39 o34 rfl) (kw (stOK rfl rfl o34 rfl rfl ⟨rfl, ble rfl⟩ rfl rfl) fun M42 hM43 => ?_)))))))
 clear h26 h27 h28
 have o44 := set_ne hM43 ne13 o33
 have o45 : M42[M2.length]? = some (.live ⟨.box, 59, 3, [[.int .i64 a1.Day, .sl (some 2) (r30.map (cI .i64)), .sl (some 92) (r41.map Tally.c)]]⟩) := set_same hM43 o34
 refine Rn (hA h38 (hA h39 hZ)) fun e46 h48 h49 => sN (sq (Rg (kx (ldOA h49 o45 rfl rfl (ble rfl) rfl) (kw (stOK h48 rfl o44 rfl rfl ⟨rfl, ble rfl⟩ rfl rfl) fun M50 hM51 => ?_))))
 clear h37 h38 h39
 have o52 : M50[([] : Mem).length]? = some (.live ⟨.box, 59, 3, [[.int .i64 a1.Day, .sl (some 2) (r30.map (cI .i64)), .sl (some 92) (r41.map Tally.c)]]⟩) := set_same hM51 o44
 have o53 := set_ne hM51 (Ne.symm ne13) o45
 refine Rn (hA h48 hZ) fun e54 h56 => sN (xx ?_)
 clear h48 h49
 obtain rfl := si h
 exact eR (resC (ag := true) (sz := 3) ⟨by kernel_rfl, by kernel_rfl, by kernel_rfl⟩ (ldOA h56 o52 rfl rfl (ble rfl) rfl) res0) rfl
/-! ### loop.example/g01263/spec.DebtsIn (f23) -/
abbrev spec_DebtsIn_b1_S := Int × (List Debt)
abbrev spec_DebtsIn_b1_R := (List Debt)
def spec_DebtsIn_b1_RS (a1 : Book) (i1_1 : Nat) (s : spec_DebtsIn_b1_S) (e : Env) (M : Mem) : Prop := eget e 1 = .pt none [.int .i64 a1.Day, .sl none (a1.Cash.map (cI .i64)), .sl none (a1.Tallies.map Tally.c)] ∧ eget e 4 = .lsl i1_1 s.2.length 0 s.2.length ∧ eget e 5 = .int .i64 s.1 ∧ M[i1_1]? = some (.live ⟨.grow, 94, 3, s.2.map Debt.c⟩)
def spec_DebtsIn_b1_RR (a1 : Book) (i1_1 : Nat) (g : spec_DebtsIn_b1_R) (x : Ex) (e : Env) (M : Mem) : Prop := x = .ext 0 ∧ eget e 4 = .lsl i1_1 g.length 0 g.length ∧ M[i1_1]? = some (.live ⟨.grow, 94, 3, g.map Debt.c⟩)
noncomputable def spec_DebtsIn_b1 (a1 : Book) : spec_DebtsIn_b1_S → Option (spec_DebtsIn_b1_S ⊕ spec_DebtsIn_b1_R) := fun (s1_1, s1_2) =>
 if (decide (s1_1 < (a1.Tallies.length : Int))) = true then
  (rd a1.Tallies s1_1).bind fun x49 =>
  if (decide (x49.Left > 0)) = true then
   (app 24 s1_2 [(Debt.mk x49.Debtor x49.Holder x49.Left)]).bind fun x65 =>
   some (.inl ((IntKind.i64.wrap (s1_1 + 1)), x65))
  else
   some (.inl ((IntKind.i64.wrap (s1_1 + 1)), s1_2))
 else
  some (.inr s1_2)
theorem spec_DebtsIn_b1_ok (a1 : Book) (i1_1 : Nat) (s : spec_DebtsIn_b1_S) (r : spec_DebtsIn_b1_S ⊕ spec_DebtsIn_b1_R) (h : spec_DebtsIn_b1 a1 s = some r) (e : Env) (M : Mem) (hs : spec_DebtsIn_b1_RS a1 i1_1 s e M) : Ev (fun k => (f23_l5 (CN k) k (prune [1, 4, 5] e) M).bind fun q => some q) (bQ (spec_DebtsIn_b1_RS a1 i1_1) (spec_DebtsIn_b1_RR a1 i1_1) r) := by
 obtain ⟨s1_1, s1_2⟩ := s
 unfold spec_DebtsIn_b1 at h
 obtain ⟨h35, h37, h39, o41⟩ := hs
 generalize he34 : prune [1, 4, 5] e = e33
 have h36 := envp he34.symm rfl h35
 have h38 := envp he34.symm rfl h37
 have h40 := envp he34.symm rfl h39
 refine sq (sq (Rg (kx (mvO h40) (kx (faP h36 ⟨ble rfl, blt rfl⟩ rfl) (kx (ldP rfl rfl) (kx (lnS Try.underlying57 rfl) (kx (bLss rfl rfl) (Rn (hV (.pt none [.int .i64 a1.Day, .sl none (a1.Cash.map (cI .i64)), .sl none (a1.Tallies.map Tally.c)]) h36 (hV (.lsl i1_1 s1_2.length 0 s1_2.length) h38 (hV (.int .i64 s1_1) h40 (hN rfl hZ)))) fun e42 h44 h45 h46 h47 => sN ?_))))))))
 clear h36 h38 h40
 rcases ite_some h with ⟨hb48, h⟩ | ⟨hb48, h⟩
 ·obtain ⟨x49, hx50, h⟩ := bind_some h
  refine cT h47 hb48 (xx (sN (sq (bl (sq (Rg (kx (faP h44 ⟨ble rfl, blt rfl⟩ rfl) (kx (ldP rfl rfl) (kx (mvO h46) (kx (ixS rfl rfl hx50 Tally.fl) (kx (mvO rfl) (Rn (hA h44 (hA h45 (hA h46 (hN rfl hZ)))) fun e51 h53 h54 h55 h56 => sN (sq (Rg (kx (mvO h56) (kx (ncP rfl) (kx (faP rfl ⟨ble rfl, blt rfl⟩ rfl) (kx (ldP rfl rfl) (kx (bGtr rfl rfl) (Rn (hA h53 (hA h54 (hA h55 (hA h56 (hN rfl hZ))))) fun e57 h59 h60 h61 h62 h63 => sN ?_))))))))))))))))))))
  clear h44 h45 h46 h47 h53 h54 h55 h56
  rcases ite_some h with ⟨hb64, h⟩ | ⟨hb64, h⟩
  ·obtain ⟨x65, hx66, h⟩ := bind_some h
   refine cT h63 hb64 (Rd (kf (mvO h60) (kf (mvO h62) (kf (ncP rfl) (kf (faP rfl ⟨ble rfl, blt rfl⟩ rfl) (kf (ldP rfl rfl) (kf (mvO h62) (kf (ncP rfl) (kf (faP rfl ⟨ble rfl, blt rfl⟩ rfl) (kf (ldP rfl rfl) (kf (mvO h62) (kf (ncP rfl) (kf (faP rfl ⟨ble rfl, blt rfl⟩ rfl) (kf (ldP rfl rfl) (kf (bldT zero94 (cns (pr3 rfl) (cns (pr3 rfl) (cns (pr3 rfl) rfl))) (fill1 ⟨rfl, ble rfl⟩ rfl rfl (fill1 ⟨rfl, ble rfl⟩ rfl rfl (fill1 ⟨rfl, ble rfl⟩ rfl rfl (fill0 rfl))))) (kf (litI (cns rfl rfl) rfl ⟨rfl, by decide⟩) (fZ (kw (apO rfl o41 rfl (elT (c := Debt.c) (xs := [(Debt.mk x49.Debtor x49.Holder x49.Left)]) rfl) hx66 Debt.fl (by decide)) fun M67 hM68 => ?_))))))))))))))))))
   have o69 : M67[i1_1]? = some (.live ⟨.grow, 94, 3, x65.map Debt.c⟩) := set_same hM68 o41
   refine kx (mvO rfl) (Rn (hA h59 (hV (.lsl i1_1 x65.length 0 x65.length) rfl (hA h61 hZ))) fun e70 h72 h73 h74 => bN (sN (Rg (kx (mvO h74) (kx (bAdd rfl rfl) (kx (mvO rfl) (Rn (hA h72 (hA h73 (hN rfl hZ))) fun e75 h77 h78 h79 => ?_)))))))
   clear h59 h61 h62 h63 h72 h73
   obtain rfl := si h
   exact qN ⟨h77, h78, h79, o69⟩
  refine cF h63 hb64 (xx (bN (sN (Rg (kx (mvO h61) (kx (bAdd rfl rfl) (kx (mvO rfl) (Rn (hA h59 (hA h60 (hN rfl hZ))) fun e80 h82 h83 h84 => ?_))))))))
  clear h59 h60 h62 h63
  obtain rfl := si h
  exact qN ⟨h82, h83, h84, o41⟩
 refine cF h47 hb48 (xx (sE ?_))
 obtain rfl := si h
 exact qE ⟨rfl, h45, o41⟩
noncomputable def spec_DebtsIn (a1 : Book) : Option ((List Debt) × Int) :=
 (spec_l07Ok a1).bind fun r5 =>
 if r5 = true then
  (Lw (spec_DebtsIn_b1 a1) (0, ([] : List Debt))).bind fun y90 =>
  (spec_l02Sums y90).bind fun r94 =>
  (spec_l02List r94).bind fun (r96, r97) =>
  some (r96, r97)
 else
  some (([] : List Debt), 1)
def spec_DebtsIn_enc (r : (List Debt) × Int) : AV := .tup [.sl (some 94) (r.1.map Debt.c), .int .i64 r.2]
theorem spec_DebtsIn_ok (a1 : Book) (r : (List Debt) × Int) (h : spec_DebtsIn a1 = some r) : Ev (fun k => CN k 23 [.agg [.int .i64 a1.Day, .sl none (a1.Cash.map (cI .i64)), .sl none (a1.Tallies.map Tally.c)]] []) (fun p => rRes p.2 p.1 = spec_DebtsIn_enc r) := by
 unfold spec_DebtsIn at h
 obtain ⟨r5, hx4, h⟩ := bind_some h
 refine Ev.enter (F := fun k => f23 (CN k) k) (fun k => callN_eq rfl Try.func23 rfl rfl rfl (by decide +kernel) (f23_eq _ _)) (sq (Rg (kx (bxI rfl rfl ⟨rfl, rfl, by decide⟩) (kx (mvO rfl) (kx (mvO rfl) (Rn (hN rfl hZ) fun e1 h3 => sN (sq (sq (Rg (kc (cl (v := .bool r5) rfl (cns h3 rfl) rfl (spec_l07Ok_ok a1 _ hx4) nm) (kx (uNot rfl) (Rn (hA h3 (hN rfl hZ)) fun e6 h8 h9 => sN ?_))))))))))))
 clear h3
 rcases ite_some h with ⟨hb10, h⟩ | ⟨hb10, h⟩
 ·refine cF h9 (congrArg Bool.not hb10) (xx (sN (sq (Rg (ku (litO (xs := ([] : List Debt)) (c := Debt.c) rfl rfl (by decide)) fun M12 hM13 => ?_)))))
  have o14 : M12[([] : Mem).length]? = some (.live ⟨.grow, 94, 3, ([] : List Debt).map Debt.c⟩) := push_new hM13
  obtain ⟨y90, hr86, h⟩ := bind_some h
  refine kx (mvO rfl) (Rn (hA h8 (hV (.lsl ([] : Mem).length ([] : List Debt).length 0 ([] : List Debt).length) rfl hZ)) fun e15 h17 h18 => sN (sq (sq (Rg (kx (mvO rfl) (Rn (hA h17 (hA h18 (hV (.int .i64 0) rfl hZ))) fun e19 h21 h22 h23 => sN (bl (Ev.loop (RS := spec_DebtsIn_b1_RS a1 (([] : Mem).length)) (RR := spec_DebtsIn_b1_RR a1 (([] : Mem).length)) (fun s r h e M hs => spec_DebtsIn_b1_ok a1 (([] : Mem).length) s r h e M hs) hr86 ⟨h21, h22, h23, o14⟩ fun x e88 M89 hq87 => ?_))))))))
  clear h8 h9 h17 h18
  obtain ⟨rfl, h91, o92⟩ := hq87
  obtain ⟨r94, hx93, h⟩ := bind_some h
  obtain ⟨⟨r96, r97⟩, hx95, h⟩ := bind_some h
  refine bE (sN (sq (Rg (kx (mvO h91) (kc (cl (v := .pt (some 128) (arC (arC (n := 16) (cI .i64) 0) (Ar.rep 16 0) r94)) rfl (cns rfl rfl) (ra1 (ra1_row o92 rfl Debt.fl) ra0) (spec_l02Sums_ok y90 _ hx93) (fun _ => rfl)) (kc (cl (v := .tup [.sl (some 94) (r96.map Debt.c), .int .i64 r97]) rfl (cns rfl rfl) rfl (spec_l02List_ok r94 _ hx95) nm) (kx (exT rfl rfl) (kx (exT rfl rfl) (kx (mvO rfl) (kx (mvO rfl) (Rn (hN rfl (hN rfl hZ)) fun e98 h100 h101 => sN (xx ?_))))))))))))
  clear h91
  obtain rfl := si h
  exact eR (resT h100 (resT h101 res0)) rfl
 refine cT h9 (congrArg Bool.not hb10) (sq (Rg (kx (litI rfl rfl ⟨rfl, by decide⟩) (kx (mvO rfl) (kx (mvO rfl) (Rn (hN rfl (hV (.int .i64 1) rfl hZ)) fun e102 h104 h105 => sN (xx (sR ?_))))))))
 clear h8 h9
 obtain rfl := si h
 exact eR (resT h104 (resT h105 res0)) rfl
/-! ### loop.example/g01263/laws.szBook (f22) -/
noncomputable def laws_szBook (a1 : Book) (a2 : Int) : Option Int :=
 (laws_szInt64S a1.Cash a2).bind fun r6 =>
 if (decide (r6 < 0)) = true then
  some (-1)
 else
  (laws_szTallyS a1.Tallies r6).bind fun r21 =>
  if (decide (r21 < 0)) = true then
   some (-1)
  else
   some r21
def laws_szBook_enc (r : Int) : AV := .int .i64 r
theorem laws_szBook_ok (a1 : Book) (a2 : Int) (r : Int) (h : laws_szBook a1 a2 = some r) : Ev (fun k => CN k 22 [.agg [.int .i64 a1.Day, .sl none (a1.Cash.map (cI .i64)), .sl none (a1.Tallies.map Tally.c)], .int .i64 a2] []) (fun p => rRes p.2 p.1 = laws_szBook_enc r) := by
 unfold laws_szBook at h
 obtain ⟨r6, hx5, h⟩ := bind_some h
 refine Ev.enter (F := fun k => f22 (CN k) k) (fun k => callN_eq rfl Try.func22 rfl rfl rfl (by decide +kernel) (f22_eq _ _)) (sq (Rg (kx (bxI rfl rfl ⟨rfl, rfl, by decide⟩) (kx (mvO rfl) (Rn (hN rfl (hN rfl hZ)) fun e1 h3 h4 => sN (sq (Rg (kx (faP h4 ⟨ble rfl, blt rfl⟩ rfl) (kx (ldP rfl rfl) (kx (mvO h3) (kc (cl (v := .int .i64 r6) rfl (cns rfl (cns rfl rfl)) rfl (laws_szInt64S_ok a1.Cash a2 _ hx5) nm) (kx (mvO rfl) (Rn (hN rfl (hA h4 hZ)) fun e7 h9 h10 => sN (sq (sq (Rg (kx (mvO h9) (kx (bLss rfl rfl) (Rn (hA h9 (hA h10 (hN rfl hZ))) fun e11 h13 h14 h15 => sN ?_)))))))))))))))))))
 clear h4 h10 h9
 rcases ite_some h with ⟨hb16, h⟩ | ⟨hb16, h⟩
 ·refine cT h15 hb16 (sq (Rg (kx (mvO rfl) (Rn (hV (.int .i64 (-1)) rfl hZ) fun e17 h19 => sN (xx (sR ?_))))))
  clear h13 h14 h15
  obtain rfl := si h
  exact eR (resT h19 res0) rfl
 obtain ⟨r21, hx20, h⟩ := bind_some h
 refine cF h15 hb16 (xx (sN (sq (Rg (kx (faP h14 ⟨ble rfl, blt rfl⟩ rfl) (kx (ldP rfl rfl) (kx (mvO h13) (kc (cl (v := .int .i64 r21) rfl (cns rfl (cns rfl rfl)) rfl (laws_szTallyS_ok a1.Tallies r6 _ hx20) nm) (kx (mvO rfl) (Rn (hN rfl hZ) fun e22 h24 => sN (sq (sq (Rg (kx (mvO h24) (kx (bLss rfl rfl) (Rn (hA h24 (hN rfl hZ)) fun e25 h27 h28 => sN ?_))))))))))))))))
 clear h14 h15 h24
 rcases ite_some h with ⟨hb29, h⟩ | ⟨hb29, h⟩
 ·refine cT h28 hb29 (sq (Rg (kx (mvO rfl) (Rn (hV (.int .i64 (-1)) rfl hZ) fun e30 h32 => sN (xx (sR ?_))))))
  clear h27 h28
  obtain rfl := si h
  exact eR (resT h32 res0) rfl
 refine cF h28 hb29 (xx (sN (sq (Rg (kx (mvO h27) (kx (mvO rfl) (Rn (hN rfl hZ) fun e33 h35 => sN (xx ?_))))))))
 clear h27 h28
 obtain rfl := si h
 exact eR (resT h35 res0) rfl
/-! ### loop.example/g01263/laws.markInt64S (f59) -/
abbrev laws_markInt64S_l_b1_S := Int × Int × (List Int)
abbrev laws_markInt64S_l_b1_R := Int × (List Int)
def laws_markInt64S_l_b1_RS (a1 : List Int) (j1 : Nat) (M0 : Mem) (s : laws_markInt64S_l_b1_S) (e : Env) (M : Mem) : Prop := eget e 0 = .lsl j1 s.2.2.length 0 s.2.2.length ∧ eget e 1 = .int .i64 s.1 ∧ eget e 5 = .int .i64 s.2.1 ∧ M[j1]? = some (.live ⟨.grow, 2, 1, s.2.2.map (cI .i64)⟩) ∧ Fr [j1] M0 M ∧ s.2.2.length = a1.length
def laws_markInt64S_l_b1_RR (a1 : List Int) (j1 : Nat) (M0 : Mem) (g : laws_markInt64S_l_b1_R) (x : Ex) (e : Env) (M : Mem) : Prop := x = .ext 0 ∧ eget e 1 = .int .i64 g.1 ∧ M[j1]? = some (.live ⟨.grow, 2, 1, g.2.map (cI .i64)⟩) ∧ Fr [j1] M0 M ∧ g.2.length = a1.length
noncomputable def laws_markInt64S_l_b1 : laws_markInt64S_l_b1_S → Option (laws_markInt64S_l_b1_S ⊕ laws_markInt64S_l_b1_R) := fun (s1_1, s1_2, s1_3) =>
 if (decide (s1_2 < (s1_3.length : Int))) = true then
  (rd s1_3 s1_2).bind fun x38 =>
  some (.inl ((IntKind.i64.wrap (s1_1 + 1)), (IntKind.i64.wrap (s1_2 + 1)), (s1_3.set s1_2.toNat s1_1)))
 else
  some (.inr (s1_1, s1_3))
theorem laws_markInt64S_l_b1_ok (a1 : List Int) (j1 : Nat) (M0 : Mem) (s : laws_markInt64S_l_b1_S) (r : laws_markInt64S_l_b1_S ⊕ laws_markInt64S_l_b1_R) (h : laws_markInt64S_l_b1 s = some r) (e : Env) (M : Mem) (hs : laws_markInt64S_l_b1_RS a1 j1 M0 s e M) : Ev (fun k => (f59_l2 (CN k) k (prune [0, 1, 5] e) M).bind fun q => some q) (bQ (laws_markInt64S_l_b1_RS a1 j1 M0) (laws_markInt64S_l_b1_RR a1 j1 M0) r) := by
 obtain ⟨s1_1, s1_2, s1_3⟩ := s
 unfold laws_markInt64S_l_b1 at h
 obtain ⟨h22, h24, h26, o28, fr29, hl30⟩ := hs
 generalize he21 : prune [0, 1, 5] e = e20
 have h23 := envp he21.symm rfl h22
 have h25 := envp he21.symm rfl h24
 have h27 := envp he21.symm rfl h26
 refine sq (sq (Rg (kx (mvO h27) (kx (mvO h23) (kx (lnL Try.underlying49 rfl o28 (by simp [hl30])) (kx (bLss rfl rfl) (Rn (hV (.lsl j1 s1_3.length 0 s1_3.length) h23 (hV (.int .i64 s1_1) h25 (hV (.int .i64 s1_2) h27 (hN rfl hZ)))) fun e31 h33 h34 h35 h36 => sN ?_)))))))
 clear h23 h25 h27
 rcases ite_some h with ⟨hb37, h⟩ | ⟨hb37, h⟩
 ·obtain ⟨x38, hx39, h⟩ := bind_some h
  refine cT h36 hb37 (xx (sN (sq (bl (sq (Rg (kx (mvO h33) (kx (mvO h35) (kx (mvO h34) (kx (ixO rfl o28 rfl rfl (rd_get hx39).1 (rd_lt hx39).2) (kw (stR (u := x38) (u' := s1_1) rfl rfl o28 rfl (rz2 hx39) ⟨rfl, ble rfl⟩ rfl rfl) fun M40 hM41 => ?_)))))))))))
  rw [Nat.zero_add] at hM41
  have o42 : M40[j1]? = some (.live ⟨.grow, 2, 1, (s1_3.set s1_2.toNat s1_1).map (cI .i64)⟩) := set_same hM41 o28
  have fr43 := Fr.setIn fr29 hM41 (by simp)
  have hx44 := rd_set (u' := s1_1) hx39
  refine Rn (hA h33 (hA h34 (hA h35 hZ))) fun e45 h47 h48 h49 => sN (Rg (kx (mvO h48) (kx (bAdd rfl rfl) (kx (mvO rfl) (Rn (hA h47 (hN rfl (hA h49 hZ))) fun e50 h52 h53 h54 => bN (sN (Rg (kx (mvO h54) (kx (bAdd rfl rfl) (kx (mvO rfl) (Rn (hA h52 (hA h53 (hN rfl hZ))) fun e55 h57 h58 h59 => ?_)))))))))))
  clear h33 h34 h35 h36 h47 h49 h52 h53
  obtain rfl := si h
  exact qN ⟨(lslL (L' := (s1_3.set s1_2.toNat s1_1).length) h57 (by simp [hl30])), h58, h59, o42, fr43, (by first | rfl | simp [hl30])⟩
 refine cF h36 hb37 (xx (sE ?_))
 obtain rfl := si h
 exact qE ⟨rfl, h34, o28, fr29, (by first | rfl | simp [hl30])⟩
noncomputable def laws_markInt64S_l (a1 : List Int) (a2 : Int) : Option (Int × (List Int)) :=
 (Lw (laws_markInt64S_l_b1) (a2, 0, a1)).bind fun (y65, y66) =>
 some (y65, y66)
def laws_markInt64S_l_Q (a1 : List Int) (a2 : Int) (j1 : Nat) (M0 : Mem) (r : Int × (List Int)) (p : AV × Mem) : Prop := p.1 = .int .i64 r.1 ∧ p.2[j1]? = some (.live ⟨.grow, 2, 1, r.2.map (cI .i64)⟩) ∧ Fr [j1] M0 p.2 ∧ r.2.length = a1.length
theorem laws_markInt64S_l_ok (a1 : List Int) (a2 : Int) (j1 : Nat) (M0 : Mem) (oP1 : M0[j1]? = some (.live ⟨.grow, 2, 1, a1.map (cI .i64)⟩)) (r : Int × (List Int)) (h : laws_markInt64S_l a1 a2 = some r) : Ev (fun k => CN k 59 [.lsl j1 a1.length 0 a1.length, .int .i64 a2] M0) (laws_markInt64S_l_Q a1 a2 j1 M0 r) := by
 unfold laws_markInt64S_l at h
 have fr0 : Fr [j1] M0 M0 := Fr.refl
 obtain ⟨⟨y65, y66⟩, hr61, h⟩ := bind_some h
 refine Ev.enter (F := fun k => f59 (CN k) k) (fun k => callN_eq rfl Try.func59 rfl rfl rfl (by decide +kernel) (f59_eq _ _)) (sq (Rg (kx (mvO rfl) (Rn (hV (.lsl j1 a1.length 0 a1.length) rfl (hN rfl hZ)) fun e1 h3 h4 => sN (sq (sq (Rg (kx (mvO rfl) (Rn (hA h3 (hA h4 (hV (.int .i64 0) rfl hZ))) fun e5 h7 h8 h9 => sN (bl (Ev.loop (RS := laws_markInt64S_l_b1_RS a1 j1 M0) (RR := laws_markInt64S_l_b1_RR a1 j1 M0) (fun s r h e M hs => laws_markInt64S_l_b1_ok a1 j1 M0 s r h e M hs) hr61 ⟨h7, h8, h9, oP1, fr0, rfl⟩ fun x e63 M64 hq62 => ?_)))))))))))
 clear h3 h4
 obtain ⟨rfl, h67, o68, fr69, hl70⟩ := hq62
 refine bE (sN (sq (Rg (kx (mvO h67) (kx (mvO rfl) (Rn (hN rfl hZ) fun e71 h73 => sN (xx ?_)))))))
 clear h67
 obtain rfl := si h
 exact eR (resT h73 res0) ⟨rfl, o68, fr69, (by first | rfl | simp [hl70])⟩
/-! ### loop.example/g01263/laws.markTallyS (f60) -/
abbrev laws_markTallyS_l_b1_S := Int × Int × (List Tally)
abbrev laws_markTallyS_l_b1_R := Int × (List Tally)
def laws_markTallyS_l_b1_RS (a1 : List Tally) (j1 : Nat) (M0 : Mem) (s : laws_markTallyS_l_b1_S) (e : Env) (M : Mem) : Prop := eget e 0 = .lsl j1 s.2.2.length 0 s.2.2.length ∧ eget e 1 = .int .i64 s.1 ∧ eget e 5 = .int .i64 s.2.1 ∧ M[j1]? = some (.live ⟨.grow, 92, 5, s.2.2.map Tally.c⟩) ∧ Fr [j1] M0 M ∧ s.2.2.length = a1.length
def laws_markTallyS_l_b1_RR (a1 : List Tally) (j1 : Nat) (M0 : Mem) (g : laws_markTallyS_l_b1_R) (x : Ex) (e : Env) (M : Mem) : Prop := x = .ext 0 ∧ eget e 1 = .int .i64 g.1 ∧ M[j1]? = some (.live ⟨.grow, 92, 5, g.2.map Tally.c⟩) ∧ Fr [j1] M0 M ∧ g.2.length = a1.length
noncomputable def laws_markTallyS_l_b1 : laws_markTallyS_l_b1_S → Option (laws_markTallyS_l_b1_S ⊕ laws_markTallyS_l_b1_R) := fun (s1_1, s1_2, s1_3) =>
 if (decide (s1_2 < (s1_3.length : Int))) = true then
  (rd s1_3 s1_2).bind fun x38 =>
  (rd (s1_3.set s1_2.toNat (Tally.mk s1_1 x38.Holder x38.Cut x38.Amount x38.Left)) s1_2).bind fun x55 =>
  (rd ((s1_3.set s1_2.toNat (Tally.mk s1_1 x38.Holder x38.Cut x38.Amount x38.Left)).set s1_2.toNat (Tally.mk x55.Debtor (IntKind.i64.wrap (s1_1 + 1)) x55.Cut x55.Amount x55.Left)) s1_2).bind fun x72 =>
  (rd (((s1_3.set s1_2.toNat (Tally.mk s1_1 x38.Holder x38.Cut x38.Amount x38.Left)).set s1_2.toNat (Tally.mk x55.Debtor (IntKind.i64.wrap (s1_1 + 1)) x55.Cut x55.Amount x55.Left)).set s1_2.toNat (Tally.mk x72.Debtor x72.Holder (IntKind.i64.wrap ((IntKind.i64.wrap (s1_1 + 1)) + 1)) x72.Amount x72.Left)) s1_2).bind fun x89 =>
  (rd ((((s1_3.set s1_2.toNat (Tally.mk s1_1 x38.Holder x38.Cut x38.Amount x38.Left)).set s1_2.toNat (Tally.mk x55.Debtor (IntKind.i64.wrap (s1_1 + 1)) x55.Cut x55.Amount x55.Left)).set s1_2.toNat (Tally.mk x72.Debtor x72.Holder (IntKind.i64.wrap ((IntKind.i64.wrap (s1_1 + 1)) + 1)) x72.Amount x72.Left)).set s1_2.toNat (Tally.mk x89.Debtor x89.Holder x89.Cut (IntKind.i64.wrap ((IntKind.i64.wrap ((IntKind.i64.wrap (s1_1 + 1)) + 1)) + 1)) x89.Left)) s1_2).bind fun x106 =>
  some (.inl ((IntKind.i64.wrap ((IntKind.i64.wrap ((IntKind.i64.wrap ((IntKind.i64.wrap ((IntKind.i64.wrap (s1_1 + 1)) + 1)) + 1)) + 1)) + 1)), (IntKind.i64.wrap (s1_2 + 1)), (((((s1_3.set s1_2.toNat (Tally.mk s1_1 x38.Holder x38.Cut x38.Amount x38.Left)).set s1_2.toNat (Tally.mk x55.Debtor (IntKind.i64.wrap (s1_1 + 1)) x55.Cut x55.Amount x55.Left)).set s1_2.toNat (Tally.mk x72.Debtor x72.Holder (IntKind.i64.wrap ((IntKind.i64.wrap (s1_1 + 1)) + 1)) x72.Amount x72.Left)).set s1_2.toNat (Tally.mk x89.Debtor x89.Holder x89.Cut (IntKind.i64.wrap ((IntKind.i64.wrap ((IntKind.i64.wrap (s1_1 + 1)) + 1)) + 1)) x89.Left)).set s1_2.toNat (Tally.mk x106.Debtor x106.Holder x106.Cut x106.Amount (IntKind.i64.wrap ((IntKind.i64.wrap ((IntKind.i64.wrap ((IntKind.i64.wrap (s1_1 + 1)) + 1)) + 1)) + 1))))))
 else
  some (.inr (s1_1, s1_3))
theorem laws_markTallyS_l_b1_ok (a1 : List Tally) (j1 : Nat) (M0 : Mem) (s : laws_markTallyS_l_b1_S) (r : laws_markTallyS_l_b1_S ⊕ laws_markTallyS_l_b1_R) (h : laws_markTallyS_l_b1 s = some r) (e : Env) (M : Mem) (hs : laws_markTallyS_l_b1_RS a1 j1 M0 s e M) : Ev (fun k => (f60_l2 (CN k) k (prune [0, 1, 5] e) M).bind fun q => some q) (bQ (laws_markTallyS_l_b1_RS a1 j1 M0) (laws_markTallyS_l_b1_RR a1 j1 M0) r) := by
 obtain ⟨s1_1, s1_2, s1_3⟩ := s
 unfold laws_markTallyS_l_b1 at h
 obtain ⟨h22, h24, h26, o28, fr29, hl30⟩ := hs
 generalize he21 : prune [0, 1, 5] e = e20
 have h23 := envp he21.symm rfl h22
 have h25 := envp he21.symm rfl h24
 have h27 := envp he21.symm rfl h26
 refine sq (sq (Rg (kx (mvO h27) (kx (mvO h23) (kx (lnL Try.underlying57 rfl o28 (by simp [hl30])) (kx (bLss rfl rfl) (Rn (hV (.lsl j1 s1_3.length 0 s1_3.length) h23 (hV (.int .i64 s1_1) h25 (hV (.int .i64 s1_2) h27 (hN rfl hZ)))) fun e31 h33 h34 h35 h36 => sN ?_)))))))
 clear h23 h25 h27
 rcases ite_some h with ⟨hb37, h⟩ | ⟨hb37, h⟩
 ·obtain ⟨x38, hx39, h⟩ := bind_some h
  refine cT h36 hb37 (xx (sN (sq (bl (sq (Rg (kx (mvO h33) (kx (mvO h35) (kx (mvO h34) (kx (ixO rfl o28 rfl rfl (rd_get hx39).1 (rd_lt hx39).2) (kx (faO rfl o28 (by simp [hl30])) (kw (stR (u := x38) (u' := (Tally.mk s1_1 x38.Holder x38.Cut x38.Amount x38.Left)) rfl rfl o28 rfl (rz2 hx39) ⟨rfl, ble rfl⟩ rfl rfl) fun M40 hM41 => ?_))))))))))))
  rw [Nat.zero_add] at hM41
  have o42 : M40[j1]? = some (.live ⟨.grow, 92, 5, (s1_3.set s1_2.toNat (Tally.mk s1_1 x38.Holder x38.Cut x38.Amount x38.Left)).map Tally.c⟩) := set_same hM41 o28
  have fr43 := Fr.setIn fr29 hM41 (by simp)
  have hx44 := rd_set (u' := (Tally.mk s1_1 x38.Holder x38.Cut x38.Amount x38.Left)) hx39
  obtain ⟨x55, hx56, h⟩ := bind_some h
  refine Rn (hA h33 (hA h34 (hA h35 hZ))) fun e45 h47 h48 h49 => sN (sq (Rg (kx (mvO h48) (kx (bAdd rfl rfl) (kx (mvO rfl) (Rn (hA h47 (hN rfl (hA h49 hZ))) fun e50 h52 h53 h54 => sN (sq (Rg (kx (mvO (lslL (L' := (s1_3.set s1_2.toNat (Tally.mk s1_1 x38.Holder x38.Cut x38.Amount x38.Left)).length) h52 (by simp [hl30]))) (kx (mvO h54) (kx (mvO h53) (kx (ixO rfl o42 rfl rfl (rd_get hx56).1 (rd_lt hx56).2) (kx (faO rfl o42 (by simp [hl30])) (kw (stR (u := x55) (u' := (Tally.mk x55.Debtor (IntKind.i64.wrap (s1_1 + 1)) x55.Cut x55.Amount x55.Left)) rfl rfl o42 rfl (rz2 hx56) ⟨rfl, ble rfl⟩ rfl rfl) fun M57 hM58 => ?_))))))))))))))
  clear h33 h34 h35 h36 h47 h49
  rw [Nat.zero_add] at hM58
  have o59 : M57[j1]? = some (.live ⟨.grow, 92, 5, ((s1_3.set s1_2.toNat (Tally.mk s1_1 x38.Holder x38.Cut x38.Amount x38.Left)).set s1_2.toNat (Tally.mk x55.Debtor (IntKind.i64.wrap (s1_1 + 1)) x55.Cut x55.Amount x55.Left)).map Tally.c⟩) := set_same hM58 o42
  have fr60 := Fr.setIn fr43 hM58 (by simp)
  have hx61 := rd_set (u' := (Tally.mk x55.Debtor (IntKind.i64.wrap (s1_1 + 1)) x55.Cut x55.Amount x55.Left)) hx56
  obtain ⟨x72, hx73, h⟩ := bind_some h
  refine Rn (hA h52 (hA h53 (hA h54 hZ))) fun e62 h64 h65 h66 => sN (sq (Rg (kx (mvO h65) (kx (bAdd rfl rfl) (kx (mvO rfl) (Rn (hA h64 (hN rfl (hA h66 hZ))) fun e67 h69 h70 h71 => sN (sq (Rg (kx (mvO (lslL (L' := ((s1_3.set s1_2.toNat (Tally.mk s1_1 x38.Holder x38.Cut x38.Amount x38.Left)).set s1_2.toNat (Tally.mk x55.Debtor (IntKind.i64.wrap (s1_1 + 1)) x55.Cut x55.Amount x55.Left)).length) h69 (by simp [hl30]))) (kx (mvO h71) (kx (mvO h70) (kx (ixO rfl o59 rfl rfl (rd_get hx73).1 (rd_lt hx73).2) (kx (faO rfl o59 (by simp [hl30])) (kw (stR (u := x72) (u' := (Tally.mk x72.Debtor x72.Holder (IntKind.i64.wrap ((IntKind.i64.wrap (s1_1 + 1)) + 1)) x72.Amount x72.Left)) rfl rfl o59 rfl (rz2 hx73) ⟨rfl, ble rfl⟩ rfl rfl) fun M74 hM75 => ?_))))))))))))))
  clear h52 h53 h54 h64 h66
  rw [Nat.zero_add] at hM75
  have o76 : M74[j1]? = some (.live ⟨.grow, 92, 5, (((s1_3.set s1_2.toNat (Tally.mk s1_1 x38.Holder x38.Cut x38.Amount x38.Left)).set s1_2.toNat (Tally.mk x55.Debtor (IntKind.i64.wrap (s1_1 + 1)) x55.Cut x55.Amount x55.Left)).set s1_2.toNat (Tally.mk x72.Debtor x72.Holder (IntKind.i64.wrap ((IntKind.i64.wrap (s1_1 + 1)) + 1)) x72.Amount x72.Left)).map Tally.c⟩) := set_same hM75 o59
  have fr77 := Fr.setIn fr60 hM75 (by simp)
  have hx78 := rd_set (u' := (Tally.mk x72.Debtor x72.Holder (IntKind.i64.wrap ((IntKind.i64.wrap (s1_1 + 1)) + 1)) x72.Amount x72.Left)) hx73
  obtain ⟨x89, hx90, h⟩ := bind_some h
  refine Rn (hA h69 (hA h70 (hA h71 hZ))) fun e79 h81 h82 h83 => sN (sq (Rg (kx (mvO h82) (kx (bAdd rfl rfl) (kx (mvO rfl) (Rn (hA h81 (hN rfl (hA h83 hZ))) fun e84 h86 h87 h88 => sN (sq (Rg (kx (mvO (lslL (L' := (((s1_3.set s1_2.toNat (Tally.mk s1_1 x38.Holder x38.Cut x38.Amount x38.Left)).set s1_2.toNat (Tally.mk x55.Debtor (IntKind.i64.wrap (s1_1 + 1)) x55.Cut x55.Amount x55.Left)).set s1_2.toNat (Tally.mk x72.Debtor x72.Holder (IntKind.i64.wrap ((IntKind.i64.wrap (s1_1 + 1)) + 1)) x72.Amount x72.Left)).length) h86 (by simp [hl30]))) (kx (mvO h88) (kx (mvO h87) (kx (ixO rfl o76 rfl rfl (rd_get hx90).1 (rd_lt hx90).2) (kx (faO rfl o76 (by simp [hl30])) (kw (stR (u := x89) (u' := (Tally.mk x89.Debtor x89.Holder x89.Cut (IntKind.i64.wrap ((IntKind.i64.wrap ((IntKind.i64.wrap (s1_1 + 1)) + 1)) + 1)) x89.Left)) rfl rfl o76 rfl (rz2 hx90) ⟨rfl, ble rfl⟩ rfl rfl) fun M91 hM92 => ?_))))))))))))))
  clear h69 h70 h71 h81 h83
  rw [Nat.zero_add] at hM92
  have o93 : M91[j1]? = some (.live ⟨.grow, 92, 5, ((((s1_3.set s1_2.toNat (Tally.mk s1_1 x38.Holder x38.Cut x38.Amount x38.Left)).set s1_2.toNat (Tally.mk x55.Debtor (IntKind.i64.wrap (s1_1 + 1)) x55.Cut x55.Amount x55.Left)).set s1_2.toNat (Tally.mk x72.Debtor x72.Holder (IntKind.i64.wrap ((IntKind.i64.wrap (s1_1 + 1)) + 1)) x72.Amount x72.Left)).set s1_2.toNat (Tally.mk x89.Debtor x89.Holder x89.Cut (IntKind.i64.wrap ((IntKind.i64.wrap ((IntKind.i64.wrap (s1_1 + 1)) + 1)) + 1)) x89.Left)).map Tally.c⟩) := set_same hM92 o76
  have fr94 := Fr.setIn fr77 hM92 (by simp)
  have hx95 := rd_set (u' := (Tally.mk x89.Debtor x89.Holder x89.Cut (IntKind.i64.wrap ((IntKind.i64.wrap ((IntKind.i64.wrap (s1_1 + 1)) + 1)) + 1)) x89.Left)) hx90
  obtain ⟨x106, hx107, h⟩ := bind_some h
  refine Rn (hA h86 (hA h87 (hA h88 hZ))) fun e96 h98 h99 h100 => sN (sq (Rg (kx (mvO h99) (kx (bAdd rfl rfl) (kx (mvO rfl) (Rn (hA h98 (hN rfl (hA h100 hZ))) fun e101 h103 h104 h105 => sN (sq (Rg (kx (mvO (lslL (L' := ((((s1_3.set s1_2.toNat (Tally.mk s1_1 x38.Holder x38.Cut x38.Amount x38.Left)).set s1_2.toNat (Tally.mk x55.Debtor (IntKind.i64.wrap (s1_1 + 1)) x55.Cut x55.Amount x55.Left)).set s1_2.toNat (Tally.mk x72.Debtor x72.Holder (IntKind.i64.wrap ((IntKind.i64.wrap (s1_1 + 1)) + 1)) x72.Amount x72.Left)).set s1_2.toNat (Tally.mk x89.Debtor x89.Holder x89.Cut (IntKind.i64.wrap ((IntKind.i64.wrap ((IntKind.i64.wrap (s1_1 + 1)) + 1)) + 1)) x89.Left)).length) h103 (by simp [hl30]))) (kx (mvO h105) (kx (mvO h104) (kx (ixO rfl o93 rfl rfl (rd_get hx107).1 (rd_lt hx107).2) (kx (faO rfl o93 (by simp [hl30])) (kw (stR (u := x106) (u' := (Tally.mk x106.Debtor x106.Holder x106.Cut x106.Amount (IntKind.i64.wrap ((IntKind.i64.wrap ((IntKind.i64.wrap ((IntKind.i64.wrap (s1_1 + 1)) + 1)) + 1)) + 1)))) rfl rfl o93 rfl (rz2 hx107) ⟨rfl, ble rfl⟩ rfl rfl) fun M108 hM109 => ?_))))))))))))))
  clear h86 h87 h88 h100 h98
  rw [Nat.zero_add] at hM109
  have o110 : M108[j1]? = some (.live ⟨.grow, 92, 5, (((((s1_3.set s1_2.toNat (Tally.mk s1_1 x38.Holder x38.Cut x38.Amount x38.Left)).set s1_2.toNat (Tally.mk x55.Debtor (IntKind.i64.wrap (s1_1 + 1)) x55.Cut x55.Amount x55.Left)).set s1_2.toNat (Tally.mk x72.Debtor x72.Holder (IntKind.i64.wrap ((IntKind.i64.wrap (s1_1 + 1)) + 1)) x72.Amount x72.Left)).set s1_2.toNat (Tally.mk x89.Debtor x89.Holder x89.Cut (IntKind.i64.wrap ((IntKind.i64.wrap ((IntKind.i64.wrap (s1_1 + 1)) + 1)) + 1)) x89.Left)).set s1_2.toNat (Tally.mk x106.Debtor x106.Holder x106.Cut x106.Amount (IntKind.i64.wrap ((IntKind.i64.wrap ((IntKind.i64.wrap ((IntKind.i64.wrap (s1_1 + 1)) + 1)) + 1)) + 1)))).map Tally.c⟩) := set_same hM109 o93
  have fr111 := Fr.setIn fr94 hM109 (by simp)
  have hx112 := rd_set (u' := (Tally.mk x106.Debtor x106.Holder x106.Cut x106.Amount (IntKind.i64.wrap ((IntKind.i64.wrap ((IntKind.i64.wrap ((IntKind.i64.wrap (s1_1 + 1)) + 1)) + 1)) + 1)))) hx107
  refine Rn (hA h103 (hA h104 (hA h105 hZ))) fun e113 h115 h116 h117 => sN (Rg (kx (mvO h116) (kx (bAdd rfl rfl) (kx (mvO rfl) (Rn (hA h115 (hN rfl (hA h117 hZ))) fun e118 h120 h121 h122 => bN (sN (Rg (kx (mvO h122) (kx (bAdd rfl rfl) (kx (mvO rfl) (Rn (hA h120 (hA h121 (hN rfl hZ))) fun e123 h125 h126 h127 => ?_)))))))))))
  clear h103 h104 h105 h115 h117 h120 h121
  obtain rfl := si h
  exact qN ⟨(lslL (L' := (((((s1_3.set s1_2.toNat (Tally.mk s1_1 x38.Holder x38.Cut x38.Amount x38.Left)).set s1_2.toNat (Tally.mk x55.Debtor (IntKind.i64.wrap (s1_1 + 1)) x55.Cut x55.Amount x55.Left)).set s1_2.toNat (Tally.mk x72.Debtor x72.Holder (IntKind.i64.wrap ((IntKind.i64.wrap (s1_1 + 1)) + 1)) x72.Amount x72.Left)).set s1_2.toNat (Tally.mk x89.Debtor x89.Holder x89.Cut (IntKind.i64.wrap ((IntKind.i64.wrap ((IntKind.i64.wrap (s1_1 + 1)) + 1)) + 1)) x89.Left)).set s1_2.toNat (Tally.mk x106.Debtor x106.Holder x106.Cut x106.Amount (IntKind.i64.wrap ((IntKind.i64.wrap ((IntKind.i64.wrap ((IntKind.i64.wrap (s1_1 + 1)) + 1)) + 1)) + 1)))).length) h125 (by simp [hl30])), h126, h127, o110, fr111, (by first | rfl | simp [hl30])⟩
 refine cF h36 hb37 (xx (sE ?_))
 obtain rfl := si h
 exact qE ⟨rfl, h34, o28, fr29, (by first | rfl | simp [hl30])⟩
noncomputable def laws_markTallyS_l (a1 : List Tally) (a2 : Int) : Option (Int × (List Tally)) :=
 (Lw (laws_markTallyS_l_b1) (a2, 0, a1)).bind fun (y133, y134) =>
 some (y133, y134)
def laws_markTallyS_l_Q (a1 : List Tally) (a2 : Int) (j1 : Nat) (M0 : Mem) (r : Int × (List Tally)) (p : AV × Mem) : Prop := p.1 = .int .i64 r.1 ∧ p.2[j1]? = some (.live ⟨.grow, 92, 5, r.2.map Tally.c⟩) ∧ Fr [j1] M0 p.2 ∧ r.2.length = a1.length
theorem laws_markTallyS_l_ok (a1 : List Tally) (a2 : Int) (j1 : Nat) (M0 : Mem) (oP1 : M0[j1]? = some (.live ⟨.grow, 92, 5, a1.map Tally.c⟩)) (r : Int × (List Tally)) (h : laws_markTallyS_l a1 a2 = some r) : Ev (fun k => CN k 60 [.lsl j1 a1.length 0 a1.length, .int .i64 a2] M0) (laws_markTallyS_l_Q a1 a2 j1 M0 r) := by
 unfold laws_markTallyS_l at h
 have fr0 : Fr [j1] M0 M0 := Fr.refl
 obtain ⟨⟨y133, y134⟩, hr129, h⟩ := bind_some h
 refine Ev.enter (F := fun k => f60 (CN k) k) (fun k => callN_eq rfl Try.func60 rfl rfl rfl (by decide +kernel) (f60_eq _ _)) (sq (Rg (kx (mvO rfl) (Rn (hV (.lsl j1 a1.length 0 a1.length) rfl (hN rfl hZ)) fun e1 h3 h4 => sN (sq (sq (Rg (kx (mvO rfl) (Rn (hA h3 (hA h4 (hV (.int .i64 0) rfl hZ))) fun e5 h7 h8 h9 => sN (bl (Ev.loop (RS := laws_markTallyS_l_b1_RS a1 j1 M0) (RR := laws_markTallyS_l_b1_RR a1 j1 M0) (fun s r h e M hs => laws_markTallyS_l_b1_ok a1 j1 M0 s r h e M hs) hr129 ⟨h7, h8, h9, oP1, fr0, rfl⟩ fun x e131 M132 hq130 => ?_)))))))))))
 clear h3 h4
 obtain ⟨rfl, h135, o136, fr137, hl138⟩ := hq130
 refine bE (sN (sq (Rg (kx (mvO h135) (kx (mvO rfl) (Rn (hN rfl hZ) fun e139 h141 => sN (xx ?_)))))))
 clear h135
 obtain rfl := si h
 exact eR (resT h141 res0) ⟨rfl, o136, fr137, (by first | rfl | simp [hl138])⟩
/-! ### loop.example/g01263/laws.markBook (f28) -/
noncomputable def laws_markBook_ll (a1 : Int) (a2 : List Int) (a3 : List Tally) (a4 : Int) : Option (Int × (List Int) × (List Tally)) :=
 (laws_markInt64S_l a2 a4).bind fun (r16, r17) =>
 (laws_markTallyS_l a3 r16).bind fun (r33, r34) =>
 some (r33, r17, r34)
def laws_markBook_ll_Q (a1 : Int) (a2 : List Int) (a3 : List Tally) (a4 : Int) (j1 : Nat) (j2 : Nat) (M0 : Mem) (r : Int × (List Int) × (List Tally)) (p : AV × Mem) : Prop := p.1 = .int .i64 r.1 ∧ p.2[j1]? = some (.live ⟨.grow, 2, 1, r.2.1.map (cI .i64)⟩) ∧ p.2[j2]? = some (.live ⟨.grow, 92, 5, r.2.2.map Tally.c⟩) ∧ Fr [j1, j2] M0 p.2 ∧ r.2.1.length = a2.length ∧ r.2.2.length = a3.length
theorem laws_markBook_ll_ok (a1 : Int) (a2 : List Int) (a3 : List Tally) (a4 : Int) (j1 : Nat) (j2 : Nat) (ne01 : j1 ≠ j2) (M0 : Mem) (oP1 : M0[j1]? = some (.live ⟨.grow, 2, 1, a2.map (cI .i64)⟩)) (oP2 : M0[j2]? = some (.live ⟨.grow, 92, 5, a3.map Tally.c⟩)) (r : Int × (List Int) × (List Tally)) (h : laws_markBook_ll a1 a2 a3 a4 = some r) : Ev (fun k => CN k 28 [.agg [.int .i64 a1, .lsl j1 a2.length 0 a2.length, .lsl j2 a3.length 0 a3.length], .int .i64 a4] M0) (laws_markBook_ll_Q a1 a2 a3 a4 j1 j2 M0 r) := by
 unfold laws_markBook_ll at h
 have fr0 : Fr [j1, j2] M0 M0 := Fr.refl
 refine Ev.enter (F := fun k => f28 (CN k) k) (fun k => callN_eq rfl Try.func28 rfl rfl rfl (by decide +kernel) (f28_eq _ _)) (sq (Rg (ku (bxO rfl rfl ⟨rfl, (all1 rfl (all1 (okL oP1 (by simp)) (all1 (okL oP2 (by simp)) all0))), by decide⟩) fun M2 hM3 => ?_)))
 have nf4 := Nf.mk fr0
 have fr5 := Fr.push fr0 hM3
 have o6 := push_old hM3 oP1
 have ne7 := ne_new oP1
 have o8 := push_old hM3 oP2
 have ne9 := ne_new oP2
 have o10 : M2[M0.length]? = some (.live ⟨.box, 59, 3, [[.int .i64 a1, .lsl j1 a2.length 0 a2.length, .lsl j2 a3.length 0 a3.length]]⟩) := push_new hM3
 obtain ⟨⟨r16, r17⟩, hx15, h⟩ := bind_some h
 refine kx (mvO rfl) (Rn (hN rfl (hV (.loc M0.length 1 0 0) rfl hZ)) fun e11 h13 h14 => sN (sq (Rg (kx (faO h14 o10 rfl) (kx (ldO rfl o10 rfl rfl rfl) (kx (mvO h13) (Ev.nxw (Ev.callW rfl (cns rfl (cns rfl rfl)) (laws_markInt64S_l_ok a2 a4 j1 M2 o6 _ hx15)) fun v20 M18 hq19 => ?_)))))))
 obtain ⟨hv20, o21, fr22, hl23⟩ := hq19
 have hv20 : v20 = .int .i64 r16 := hv20
 subst hv20
 have o24 : M18[j1]? = some (.live ⟨.grow, 2, 1, r17.map (cI .i64)⟩) := o21
 have hl23 : r17.length = a2.length := hl23
 have o25 : M18[j2]? = some (.live ⟨.grow, 92, 5, a3.map Tally.c⟩) := fr22 _ _ (niC (Ne.symm ne01) niN) o8
 have o26 : M18[M0.length]? = some (.live ⟨.box, 59, 3, [[.int .i64 a1, .lsl j1 a2.length 0 a2.length, .lsl j2 a3.length 0 a3.length]]⟩) := fr22 _ _ (niC (Ne.symm ne7) niN) o10
 have fr27 : Fr [j1, j2] M0 M18 := Fr.call fr5 fr22 (fwI (by simp) fwN)
 obtain ⟨⟨r33, r34⟩, hx32, h⟩ := bind_some h
 refine kx (mvO rfl) (Rn (hN rfl (hA h14 hZ)) fun e28 h30 h31 => sN (sq (Rg (kx (faO h31 o26 rfl) (kx (ldO rfl o26 rfl rfl rfl) (kx (mvO h30) (Ev.nxw (Ev.callW rfl (cns rfl (cns rfl rfl)) (laws_markTallyS_l_ok a3 r16 j2 M18 o25 _ hx32)) fun v37 M35 hq36 => ?_)))))))
 clear h14
 obtain ⟨hv37, o38, fr39, hl40⟩ := hq36
 have hv37 : v37 = .int .i64 r33 := hv37
 subst hv37
 have o41 : M35[j2]? = some (.live ⟨.grow, 92, 5, r34.map Tally.c⟩) := o38
 have hl40 : r34.length = a3.length := hl40
 have o42 : M35[j1]? = some (.live ⟨.grow, 2, 1, r17.map (cI .i64)⟩) := fr39 _ _ (niC ne01 niN) o24
 have o43 : M35[M0.length]? = some (.live ⟨.box, 59, 3, [[.int .i64 a1, .lsl j1 a2.length 0 a2.length, .lsl j2 a3.length 0 a3.length]]⟩) := fr39 _ _ (niC (Ne.symm ne9) niN) o26
 have fr44 : Fr [j1, j2] M0 M35 := Fr.call fr27 fr39 (fwI (by simp) fwN)
 refine kx (mvO rfl) (Rn (hN rfl hZ) fun e45 h47 => sN (sq (Rg (kx (mvO h47) (kx (mvO rfl) (Rn (hN rfl hZ) fun e48 h50 => sN (xx ?_)))))))
 clear h31 h47
 obtain rfl := si h
 exact eR (resT h50 res0) ⟨rfl, o42, o41, fr44, (by first | rfl | simp [hl23, hl40]), (by first | rfl | simp [hl23, hl40])⟩
/-! ### loop.example/g01263/laws.markDebtS (f29) -/
abbrev laws_markDebtS_n_b1_S := Int × Int
abbrev laws_markDebtS_n_b1_R := Int
def laws_markDebtS_n_b1_RS (M0 : Mem) (s : laws_markDebtS_n_b1_S) (e : Env) (M : Mem) : Prop := eget e 0 = .nils ∧ eget e 1 = .int .i64 s.1 ∧ eget e 5 = .int .i64 s.2 ∧ Fr [] M0 M
def laws_markDebtS_n_b1_RR (M0 : Mem) (g : laws_markDebtS_n_b1_R) (x : Ex) (e : Env) (M : Mem) : Prop := x = .ext 0 ∧ eget e 1 = .int .i64 g ∧ Fr [] M0 M
noncomputable def laws_markDebtS_n_b1 : laws_markDebtS_n_b1_S → Option (laws_markDebtS_n_b1_S ⊕ laws_markDebtS_n_b1_R) := fun (s1_1, s1_2) =>
 if (decide (s1_2 < 0)) = true then
  none
 else
  some (.inr s1_1)
theorem laws_markDebtS_n_b1_ok (M0 : Mem) (s : laws_markDebtS_n_b1_S) (r : laws_markDebtS_n_b1_S ⊕ laws_markDebtS_n_b1_R) (h : laws_markDebtS_n_b1 s = some r) (e : Env) (M : Mem) (hs : laws_markDebtS_n_b1_RS M0 s e M) : Ev (fun k => (f29_l2 (CN k) k (prune [0, 1, 5] e) M).bind fun q => some q) (bQ (laws_markDebtS_n_b1_RS M0) (laws_markDebtS_n_b1_RR M0) r) := by
 obtain ⟨s1_1, s1_2⟩ := s
 unfold laws_markDebtS_n_b1 at h
 obtain ⟨h21, h23, h25, fr27⟩ := hs
 generalize he20 : prune [0, 1, 5] e = e19
 have h22 := envp he20.symm rfl h21
 have h24 := envp he20.symm rfl h23
 have h26 := envp he20.symm rfl h25
 refine sq (sq (Rg (kx (mvO h26) (kx (mvO h22) (kx (lnN Try.underlying54 rfl) (kx (bLss rfl rfl) (Rn (hV .nils h22 (hV (.int .i64 s1_1) h24 (hV (.int .i64 s1_2) h26 (hN rfl hZ)))) fun e28 h30 h31 h32 h33 => sN ?_)))))))
 clear h22 h24 h26
 rcases ite_some h with ⟨hb34, h⟩ | ⟨hb34, h⟩
 ·refine cT h33 hb34 (xx (sN (sq (bl (sq (Rg (kx (mvO h30) (kx (mvO h32) (kx (mvO h31) ?_)))))))))
  cases h
 refine cF h33 hb34 (xx (sE ?_))
 obtain rfl := si h
 exact qE ⟨rfl, h31, fr27⟩
noncomputable def laws_markDebtS_n (a1 : Int) : Option Int :=
 (Lw (laws_markDebtS_n_b1) (a1, 0)).bind fun y40 =>
 some y40
def laws_markDebtS_n_Q (a1 : Int) (M0 : Mem) (r : Int) (p : AV × Mem) : Prop := p.1 = .int .i64 r ∧ Fr [] M0 p.2
theorem laws_markDebtS_n_ok (a1 : Int) (M0 : Mem) (r : Int) (h : laws_markDebtS_n a1 = some r) : Ev (fun k => CN k 29 [.nils, .int .i64 a1] M0) (laws_markDebtS_n_Q a1 M0 r) := by
 unfold laws_markDebtS_n at h
 have fr0 : Fr [] M0 M0 := Fr.refl
 obtain ⟨y40, hr36, h⟩ := bind_some h
 refine Ev.enter (F := fun k => f29 (CN k) k) (fun k => callN_eq rfl Try.func29 rfl rfl rfl (by decide +kernel) (f29_eq _ _)) (sq (Rg (kx (mvO rfl) (Rn (hV .nils rfl (hN rfl hZ)) fun e1 h3 h4 => sN (sq (sq (Rg (kx (mvO rfl) (Rn (hA h3 (hA h4 (hV (.int .i64 0) rfl hZ))) fun e5 h7 h8 h9 => sN (bl (Ev.loop (RS := laws_markDebtS_n_b1_RS M0) (RR := laws_markDebtS_n_b1_RR M0) (fun s r h e M hs => laws_markDebtS_n_b1_ok M0 s r h e M hs) hr36 ⟨h7, h8, h9, fr0⟩ fun x e38 M39 hq37 => ?_)))))))))))
 clear h3 h4
 obtain ⟨rfl, h41, fr42⟩ := hq37
 refine bE (sN (sq (Rg (kx (mvO h41) (kx (mvO rfl) (Rn (hN rfl hZ) fun e43 h45 => sN (xx ?_)))))))
 clear h41
 obtain rfl := si h
 exact eR (resT h45 res0) ⟨rfl, fr42⟩
/-! ### loop.example/g01263/laws.markDebtS (f29) -/
abbrev laws_markDebtS_l_b1_S := Int × Int × (List Debt)
abbrev laws_markDebtS_l_b1_R := Int × (List Debt)
def laws_markDebtS_l_b1_RS (a1 : List Debt) (j1 : Nat) (M0 : Mem) (s : laws_markDebtS_l_b1_S) (e : Env) (M : Mem) : Prop := eget e 0 = .lsl j1 s.2.2.length 0 s.2.2.length ∧ eget e 1 = .int .i64 s.1 ∧ eget e 5 = .int .i64 s.2.1 ∧ M[j1]? = some (.live ⟨.grow, 94, 3, s.2.2.map Debt.c⟩) ∧ Fr [j1] M0 M ∧ s.2.2.length = a1.length
def laws_markDebtS_l_b1_RR (a1 : List Debt) (j1 : Nat) (M0 : Mem) (g : laws_markDebtS_l_b1_R) (x : Ex) (e : Env) (M : Mem) : Prop := x = .ext 0 ∧ eget e 1 = .int .i64 g.1 ∧ M[j1]? = some (.live ⟨.grow, 94, 3, g.2.map Debt.c⟩) ∧ Fr [j1] M0 M ∧ g.2.length = a1.length
noncomputable def laws_markDebtS_l_b1 : laws_markDebtS_l_b1_S → Option (laws_markDebtS_l_b1_S ⊕ laws_markDebtS_l_b1_R) := fun (s1_1, s1_2, s1_3) =>
 if (decide (s1_2 < (s1_3.length : Int))) = true then
  (rd s1_3 s1_2).bind fun x38 =>
  (rd (s1_3.set s1_2.toNat (Debt.mk s1_1 x38.To x38.Amount)) s1_2).bind fun x55 =>
  (rd ((s1_3.set s1_2.toNat (Debt.mk s1_1 x38.To x38.Amount)).set s1_2.toNat (Debt.mk x55.From (IntKind.i64.wrap (s1_1 + 1)) x55.Amount)) s1_2).bind fun x72 =>
  some (.inl ((IntKind.i64.wrap ((IntKind.i64.wrap ((IntKind.i64.wrap (s1_1 + 1)) + 1)) + 1)), (IntKind.i64.wrap (s1_2 + 1)), (((s1_3.set s1_2.toNat (Debt.mk s1_1 x38.To x38.Amount)).set s1_2.toNat (Debt.mk x55.From (IntKind.i64.wrap (s1_1 + 1)) x55.Amount)).set s1_2.toNat (Debt.mk x72.From x72.To (IntKind.i64.wrap ((IntKind.i64.wrap (s1_1 + 1)) + 1))))))
 else
  some (.inr (s1_1, s1_3))
theorem laws_markDebtS_l_b1_ok (a1 : List Debt) (j1 : Nat) (M0 : Mem) (s : laws_markDebtS_l_b1_S) (r : laws_markDebtS_l_b1_S ⊕ laws_markDebtS_l_b1_R) (h : laws_markDebtS_l_b1 s = some r) (e : Env) (M : Mem) (hs : laws_markDebtS_l_b1_RS a1 j1 M0 s e M) : Ev (fun k => (f29_l2 (CN k) k (prune [0, 1, 5] e) M).bind fun q => some q) (bQ (laws_markDebtS_l_b1_RS a1 j1 M0) (laws_markDebtS_l_b1_RR a1 j1 M0) r) := by
 obtain ⟨s1_1, s1_2, s1_3⟩ := s
 unfold laws_markDebtS_l_b1 at h
 obtain ⟨h22, h24, h26, o28, fr29, hl30⟩ := hs
 generalize he21 : prune [0, 1, 5] e = e20
 have h23 := envp he21.symm rfl h22
 have h25 := envp he21.symm rfl h24
 have h27 := envp he21.symm rfl h26
 refine sq (sq (Rg (kx (mvO h27) (kx (mvO h23) (kx (lnL Try.underlying54 rfl o28 (by simp [hl30])) (kx (bLss rfl rfl) (Rn (hV (.lsl j1 s1_3.length 0 s1_3.length) h23 (hV (.int .i64 s1_1) h25 (hV (.int .i64 s1_2) h27 (hN rfl hZ)))) fun e31 h33 h34 h35 h36 => sN ?_)))))))
 clear h23 h25 h27
 rcases ite_some h with ⟨hb37, h⟩ | ⟨hb37, h⟩
 ·obtain ⟨x38, hx39, h⟩ := bind_some h
  refine cT h36 hb37 (xx (sN (sq (bl (sq (Rg (kx (mvO h33) (kx (mvO h35) (kx (mvO h34) (kx (ixO rfl o28 rfl rfl (rd_get hx39).1 (rd_lt hx39).2) (kx (faO rfl o28 (by simp [hl30])) (kw (stR (u := x38) (u' := (Debt.mk s1_1 x38.To x38.Amount)) rfl rfl o28 rfl (rz2 hx39) ⟨rfl, ble rfl⟩ rfl rfl) fun M40 hM41 => ?_))))))))))))
  rw [Nat.zero_add] at hM41
  have o42 : M40[j1]? = some (.live ⟨.grow, 94, 3, (s1_3.set s1_2.toNat (Debt.mk s1_1 x38.To x38.Amount)).map Debt.c⟩) := set_same hM41 o28
  have fr43 := Fr.setIn fr29 hM41 (by simp)
  have hx44 := rd_set (u' := (Debt.mk s1_1 x38.To x38.Amount)) hx39
  obtain ⟨x55, hx56, h⟩ := bind_some h
  refine Rn (hA h33 (hA h34 (hA h35 hZ))) fun e45 h47 h48 h49 => sN (sq (Rg (kx (mvO h48) (kx (bAdd rfl rfl) (kx (mvO rfl) (Rn (hA h47 (hN rfl (hA h49 hZ))) fun e50 h52 h53 h54 => sN (sq (Rg (kx (mvO (lslL (L' := (s1_3.set s1_2.toNat (Debt.mk s1_1 x38.To x38.Amount)).length) h52 (by simp [hl30]))) (kx (mvO h54) (kx (mvO h53) (kx (ixO rfl o42 rfl rfl (rd_get hx56).1 (rd_lt hx56).2) (kx (faO rfl o42 (by simp [hl30])) (kw (stR (u := x55) (u' := (Debt.mk x55.From (IntKind.i64.wrap (s1_1 + 1)) x55.Amount)) rfl rfl o42 rfl (rz2 hx56) ⟨rfl, ble rfl⟩ rfl rfl) fun M57 hM58 => ?_))))))))))))))
  clear h33 h34 h35 h36 h47 h49
  rw [Nat.zero_add] at hM58
  have o59 : M57[j1]? = some (.live ⟨.grow, 94, 3, ((s1_3.set s1_2.toNat (Debt.mk s1_1 x38.To x38.Amount)).set s1_2.toNat (Debt.mk x55.From (IntKind.i64.wrap (s1_1 + 1)) x55.Amount)).map Debt.c⟩) := set_same hM58 o42
  have fr60 := Fr.setIn fr43 hM58 (by simp)
  have hx61 := rd_set (u' := (Debt.mk x55.From (IntKind.i64.wrap (s1_1 + 1)) x55.Amount)) hx56
  obtain ⟨x72, hx73, h⟩ := bind_some h
  refine Rn (hA h52 (hA h53 (hA h54 hZ))) fun e62 h64 h65 h66 => sN (sq (Rg (kx (mvO h65) (kx (bAdd rfl rfl) (kx (mvO rfl) (Rn (hA h64 (hN rfl (hA h66 hZ))) fun e67 h69 h70 h71 => sN (sq (Rg (kx (mvO (lslL (L' := ((s1_3.set s1_2.toNat (Debt.mk s1_1 x38.To x38.Amount)).set s1_2.toNat (Debt.mk x55.From (IntKind.i64.wrap (s1_1 + 1)) x55.Amount)).length) h69 (by simp [hl30]))) (kx (mvO h71) (kx (mvO h70) (kx (ixO rfl o59 rfl rfl (rd_get hx73).1 (rd_lt hx73).2) (kx (faO rfl o59 (by simp [hl30])) (kw (stR (u := x72) (u' := (Debt.mk x72.From x72.To (IntKind.i64.wrap ((IntKind.i64.wrap (s1_1 + 1)) + 1)))) rfl rfl o59 rfl (rz2 hx73) ⟨rfl, ble rfl⟩ rfl rfl) fun M74 hM75 => ?_))))))))))))))
  clear h52 h53 h54 h64 h66
  rw [Nat.zero_add] at hM75
  have o76 : M74[j1]? = some (.live ⟨.grow, 94, 3, (((s1_3.set s1_2.toNat (Debt.mk s1_1 x38.To x38.Amount)).set s1_2.toNat (Debt.mk x55.From (IntKind.i64.wrap (s1_1 + 1)) x55.Amount)).set s1_2.toNat (Debt.mk x72.From x72.To (IntKind.i64.wrap ((IntKind.i64.wrap (s1_1 + 1)) + 1)))).map Debt.c⟩) := set_same hM75 o59
  have fr77 := Fr.setIn fr60 hM75 (by simp)
  have hx78 := rd_set (u' := (Debt.mk x72.From x72.To (IntKind.i64.wrap ((IntKind.i64.wrap (s1_1 + 1)) + 1)))) hx73
  refine Rn (hA h69 (hA h70 (hA h71 hZ))) fun e79 h81 h82 h83 => sN (Rg (kx (mvO h82) (kx (bAdd rfl rfl) (kx (mvO rfl) (Rn (hA h81 (hN rfl (hA h83 hZ))) fun e84 h86 h87 h88 => bN (sN (Rg (kx (mvO h88) (kx (bAdd rfl rfl) (kx (mvO rfl) (Rn (hA h86 (hA h87 (hN rfl hZ))) fun e89 h91 h92 h93 => ?_)))))))))))
  clear h69 h70 h71 h81 h83 h86 h87
  obtain rfl := si h
  exact qN ⟨(lslL (L' := (((s1_3.set s1_2.toNat (Debt.mk s1_1 x38.To x38.Amount)).set s1_2.toNat (Debt.mk x55.From (IntKind.i64.wrap (s1_1 + 1)) x55.Amount)).set s1_2.toNat (Debt.mk x72.From x72.To (IntKind.i64.wrap ((IntKind.i64.wrap (s1_1 + 1)) + 1)))).length) h91 (by simp [hl30])), h92, h93, o76, fr77, (by first | rfl | simp [hl30])⟩
 refine cF h36 hb37 (xx (sE ?_))
 obtain rfl := si h
 exact qE ⟨rfl, h34, o28, fr29, (by first | rfl | simp [hl30])⟩
noncomputable def laws_markDebtS_l (a1 : List Debt) (a2 : Int) : Option (Int × (List Debt)) :=
 (Lw (laws_markDebtS_l_b1) (a2, 0, a1)).bind fun (y99, y100) =>
 some (y99, y100)
def laws_markDebtS_l_Q (a1 : List Debt) (a2 : Int) (j1 : Nat) (M0 : Mem) (r : Int × (List Debt)) (p : AV × Mem) : Prop := p.1 = .int .i64 r.1 ∧ p.2[j1]? = some (.live ⟨.grow, 94, 3, r.2.map Debt.c⟩) ∧ Fr [j1] M0 p.2 ∧ r.2.length = a1.length
theorem laws_markDebtS_l_ok (a1 : List Debt) (a2 : Int) (j1 : Nat) (M0 : Mem) (oP1 : M0[j1]? = some (.live ⟨.grow, 94, 3, a1.map Debt.c⟩)) (r : Int × (List Debt)) (h : laws_markDebtS_l a1 a2 = some r) : Ev (fun k => CN k 29 [.lsl j1 a1.length 0 a1.length, .int .i64 a2] M0) (laws_markDebtS_l_Q a1 a2 j1 M0 r) := by
 unfold laws_markDebtS_l at h
 have fr0 : Fr [j1] M0 M0 := Fr.refl
 obtain ⟨⟨y99, y100⟩, hr95, h⟩ := bind_some h
 refine Ev.enter (F := fun k => f29 (CN k) k) (fun k => callN_eq rfl Try.func29 rfl rfl rfl (by decide +kernel) (f29_eq _ _)) (sq (Rg (kx (mvO rfl) (Rn (hV (.lsl j1 a1.length 0 a1.length) rfl (hN rfl hZ)) fun e1 h3 h4 => sN (sq (sq (Rg (kx (mvO rfl) (Rn (hA h3 (hA h4 (hV (.int .i64 0) rfl hZ))) fun e5 h7 h8 h9 => sN (bl (Ev.loop (RS := laws_markDebtS_l_b1_RS a1 j1 M0) (RR := laws_markDebtS_l_b1_RR a1 j1 M0) (fun s r h e M hs => laws_markDebtS_l_b1_ok a1 j1 M0 s r h e M hs) hr95 ⟨h7, h8, h9, oP1, fr0, rfl⟩ fun x e97 M98 hq96 => ?_)))))))))))
 clear h3 h4
 obtain ⟨rfl, h101, o102, fr103, hl104⟩ := hq96
 refine bE (sN (sq (Rg (kx (mvO h101) (kx (mvO rfl) (Rn (hN rfl hZ) fun e105 h107 => sN (xx ?_)))))))
 clear h101
 obtain rfl := si h
 exact eR (resT h107 res0) ⟨rfl, o102, fr103, (by first | rfl | simp [hl104])⟩
end Go.Proofs.Ythkbjnbbahmpkaa

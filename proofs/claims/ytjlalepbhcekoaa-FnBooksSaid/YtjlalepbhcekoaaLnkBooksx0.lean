/- Printed by a program of ours (ext.py). -/
import Derived.Test.YtjlalepbhcekoaaFnsBooks
set_option linter.unusedVariables false
set_option linter.unusedSimpArgs false
set_option maxRecDepth 100000
set_option maxHeartbeats 2000000
namespace Go.Proofs.Ytjlalepbhcekoaa
open Go Go.Ab
structure Tally where
  Debtor : Int
  Holder : Int
  Cut : Int
  Amount : Int
  Left : Int
  deriving DecidableEq
def Tally.c (x : Tally) : List AV := [.int .i64 x.Debtor, .int .i64 x.Holder, .int .i64 x.Cut, .int .i64 x.Amount, .int .i64 x.Left]
theorem Tally.fl : Fl Tally.c 5 := fun _ => ⟨rfl, rfl⟩
theorem Tally.flF : FlF Tally.c := fun _ => rfl
structure Book where
  Day : Int
  Cash : List Int
  Tallies : List Tally
  deriving DecidableEq
def Book.c (x : Book) : List AV := [.int .i64 x.Day, .sl none (x.Cash.map (cI .i64)), .sl none (x.Tallies.map Tally.c)]
theorem Book.fl : Fl Book.c 3 := fun _ => ⟨rfl, rfl⟩
structure Debt where
  From : Int
  To : Int
  Amount : Int
  deriving DecidableEq
def Debt.c (x : Debt) : List AV := [.int .i64 x.From, .int .i64 x.To, .int .i64 x.Amount]
theorem Debt.fl : Fl Debt.c 3 := fun _ => ⟨rfl, rfl⟩
theorem Debt.flF : FlF Debt.c := fun _ => rfl
structure Deal where
  Day : Int
  Kind : Int
  Tally : Int
  From : Int
  To : Int
  Amount : Int
  deriving DecidableEq
def Deal.c (x : Deal) : List AV := [.int .i64 x.Day, .int .i8 x.Kind, .int .i64 x.Tally, .int .i64 x.From, .int .i64 x.To, .int .i64 x.Amount]
theorem Deal.fl : Fl Deal.c 6 := fun _ => ⟨rfl, rfl⟩
theorem Deal.flF : FlF Deal.c := fun _ => rfl
structure L00Src where
  Code : List Int
  At : Int
  Seed : Int
  deriving DecidableEq
def L00Src.c (x : L00Src) : List AV := [.sl none (x.Code.map (cI .u8)), .int .i64 x.At, .int .u64 x.Seed]
theorem L00Src.fl : Fl L00Src.c 3 := fun _ => ⟨rfl, rfl⟩
theorem co2 : cx.P.cellsOf 2 = 1 := by kernel_rfl
theorem co49 : cx.P.cellsOf 49 = 5 := by kernel_rfl
theorem nty27 : nilTys cx.P 6 27 = [0, 3, 50] := by kernel_rfl
theorem zero114 : zeroOf cx.P 114 = [.int .i64 0, .int .i64 0, .int .i64 0] := by kernel_rfl
theorem zero142 : zeroOf cx.P 142 = [.nils, .int .i64 0, .int .u64 0] := by kernel_rfl
theorem zero149 : zeroOf cx.P 149 = (arC (cI .i64) 0 (Ar.rep 16 0)) := by kernel_rfl
theorem zero151 : zeroOf cx.P 151 = (arC (arC (n := 16) (cI .i64) 0) (Ar.rep 16 0) (Ar.rep 16 (Ar.rep 16 0))) := by kernel_rfl
theorem zero154 : zeroOf cx.P 154 = (arC (arC (n := 16) (cI .i64) 0) (Ar.rep 16 0) (Ar.rep 16 (Ar.rep 16 0))) := by kernel_rfl
theorem zero2 : zeroOf cx.P 2 = [.int .i64 0] := by kernel_rfl
theorem zero27 : zeroOf cx.P 27 = [.int .i64 0, .nils, .nils] := by kernel_rfl
theorem zero36 : zeroOf cx.P 36 = [.int .i64 0, .int .i8 0, .int .i64 0, .int .i64 0, .int .i64 0, .int .i64 0] := by kernel_rfl
theorem zero49 : zeroOf cx.P 49 = [.int .i64 0, .int .i64 0, .int .i64 0, .int .i64 0, .int .i64 0] := by kernel_rfl
noncomputable def slices_Clone_Tally (a1 : List Tally) : Option ((List Tally)) :=
 (app 40 ([] : List Tally) a1).bind fun x8 =>
 some x8
def slices_Clone_Tally_enc (r : (List Tally)) : AV := .sl (some 49) (r.map Tally.c)
theorem slices_Clone_Tally_ok (a1 : List Tally) (r : (List Tally)) (h : slices_Clone_Tally a1 = some r) : Ev (fun k => CN k 145 [.sl none (a1.map Tally.c)] []) (fun p => rRes p.2 p.1 = slices_Clone_Tally_enc r) := by
  refine Ev.prim rfl ?_
  by_cases hn : a1 = []
  · subst hn
    have e : r = [] := by simpa [slices_Clone_Tally, app] using h.symm
    subst e
    exact Ev.nilBoth (by kernel_rfl) (by kernel_rfl)
  · have hp : 0 < a1.length := List.length_pos_iff.2 hn
    refine Ev.nilNot (by simpa using hn) ?_
    unfold slices_Clone_Tally at h
    obtain ⟨x8, hx9, h⟩ := bind_some h
    refine Ev.enter0 (F := fun _ => f145 (CN0 2) 2) (fun k => callN_eq rfl Try.func145 rfl rfl rfl (by decide +kernel) (f145_eq _ _)) (sq (Rg (kx (mvO rfl) (Rn (hN rfl hZ) fun e1 h3 => sN (sq (sq (Rg (kx (mvO h3) (kx (bNilF Try.underlying25 hp rfl rfl) (Rn (hA h3 (hV (.bool false) rfl hZ)) fun e4 h6 h7 => sN (cF h7 rfl (xx (sN (sq (Rg (kx (litI rfl rfl ⟨rfl, by decide⟩) (kx (mvO h6) (kx (aiT (c := Tally.c) (xs := ([] : List Tally)) rfl (elS rfl) hx9 Tally.fl (by decide)) (kx (mvO rfl) (Rn (hN rfl hZ) fun e10 h12 => sN (xx ?_)))))))))))))))))))))
    clear h3 h6 h7
    obtain rfl := si h
    exact eR (resT h12 res0) rfl
noncomputable def slices_Clone_int64 (a1 : List Int) : Option ((List Int)) :=
 (app 8 ([] : List Int) a1).bind fun x8 =>
 some x8
def slices_Clone_int64_enc (r : (List Int)) : AV := .sl (some 2) (r.map (cI .i64))
theorem slices_Clone_int64_ok (a1 : List Int) (r : (List Int)) (h : slices_Clone_int64 a1 = some r) : Ev (fun k => CN k 144 [.sl none (a1.map (cI .i64))] []) (fun p => rRes p.2 p.1 = slices_Clone_int64_enc r) := by
  refine Ev.prim rfl ?_
  by_cases hn : a1 = []
  · subst hn
    have e : r = [] := by simpa [slices_Clone_int64, app] using h.symm
    subst e
    exact Ev.nilBoth (by kernel_rfl) (by kernel_rfl)
  · have hp : 0 < a1.length := List.length_pos_iff.2 hn
    refine Ev.nilNot (by simpa using hn) ?_
    unfold slices_Clone_int64 at h
    obtain ⟨x8, hx9, h⟩ := bind_some h
    refine Ev.enter0 (F := fun _ => f144 (CN0 2) 2) (fun k => callN_eq rfl Try.func144 rfl rfl rfl (by decide +kernel) (f144_eq _ _)) (sq (Rg (kx (mvO rfl) (Rn (hN rfl hZ) fun e1 h3 => sN (sq (sq (Rg (kx (mvO h3) (kx (bNilF Try.underlying24 hp rfl rfl) (Rn (hA h3 (hV (.bool false) rfl hZ)) fun e4 h6 h7 => sN (cF h7 rfl (xx (sN (sq (Rg (kx (litI rfl rfl ⟨rfl, by decide⟩) (kx (mvO h6) (kx (aiT (c := (cI .i64)) (xs := ([] : List Int)) rfl (elS rfl) hx9 (cI_fl _) (by decide)) (kx (mvO rfl) (Rn (hN rfl hZ) fun e10 h12 => sN (xx ?_)))))))))))))))))))))
    clear h3 h6 h7
    obtain rfl := si h
    exact eR (resT h12 res0) rfl
noncomputable def spec_l00Min (a1 : Int) (a2 : Int) : Option Int :=
 if (decide (a1 < a2)) = true then
  some a1
 else
  some a2
def spec_l00Min_enc (r : Int) : AV := .int .i64 r
theorem spec_l00Min_ok (a1 : Int) (a2 : Int) (r : Int) (h : spec_l00Min a1 a2 = some r) : Ev (fun k => CN k 143 [.int .i64 a1, .int .i64 a2] []) (fun p => rRes p.2 p.1 = spec_l00Min_enc r) := by
 unfold spec_l00Min at h
 refine Ev.enter (F := fun k => f143 (CN k) k) (fun k => callN_eq rfl Try.func143 rfl rfl rfl (by decide +kernel) (f143_eq _ _)) (sq (Rg (kx (mvO rfl) (Rn (hN rfl (hN rfl hZ)) fun e1 h3 h4 => sN (sq (sq (Rg (kx (mvO h3) (kx (mvO h4) (kx (bLss rfl rfl) (Rn (hA h3 (hA h4 (hN rfl hZ))) fun e5 h7 h8 h9 => sN ?_)))))))))))
 clear h3 h4
 rcases ite_some h with ⟨hb10, h⟩ | ⟨hb10, h⟩
 ·refine cT h9 hb10 (sq (Rg (kx (mvO h7) (kx (mvO rfl) (Rn (hN rfl hZ) fun e11 h13 => sN (xx (sR ?_)))))))
  clear h7 h8 h9
  obtain rfl := si h
  exact eR (resT h13 res0) rfl
 refine cF h9 hb10 (xx (sN (sq (Rg (kx (mvO h8) (kx (mvO rfl) (Rn (hN rfl hZ) fun e14 h16 => sN (xx ?_))))))))
 clear h7 h8 h9
 obtain rfl := si h
 exact eR (resT h16 res0) rfl
noncomputable def spec_l00Max (a1 : Int) (a2 : Int) : Option Int :=
 if (decide (a1 > a2)) = true then
  some a1
 else
  some a2
def spec_l00Max_enc (r : Int) : AV := .int .i64 r
theorem spec_l00Max_ok (a1 : Int) (a2 : Int) (r : Int) (h : spec_l00Max a1 a2 = some r) : Ev (fun k => CN k 142 [.int .i64 a1, .int .i64 a2] []) (fun p => rRes p.2 p.1 = spec_l00Max_enc r) := by
 unfold spec_l00Max at h
 refine Ev.enter (F := fun k => f142 (CN k) k) (fun k => callN_eq rfl Try.func142 rfl rfl rfl (by decide +kernel) (f142_eq _ _)) (sq (Rg (kx (mvO rfl) (Rn (hN rfl (hN rfl hZ)) fun e1 h3 h4 => sN (sq (sq (Rg (kx (mvO h3) (kx (mvO h4) (kx (bGtr rfl rfl) (Rn (hA h3 (hA h4 (hN rfl hZ))) fun e5 h7 h8 h9 => sN ?_)))))))))))
 clear h3 h4
 rcases ite_some h with ⟨hb10, h⟩ | ⟨hb10, h⟩
 ·refine cT h9 hb10 (sq (Rg (kx (mvO h7) (kx (mvO rfl) (Rn (hN rfl hZ) fun e11 h13 => sN (xx (sR ?_)))))))
  clear h7 h8 h9
  obtain rfl := si h
  exact eR (resT h13 res0) rfl
 refine cF h9 hb10 (xx (sN (sq (Rg (kx (mvO h8) (kx (mvO rfl) (Rn (hN rfl hZ) fun e14 h16 => sN (xx ?_))))))))
 clear h7 h8 h9
 obtain rfl := si h
 exact eR (resT h16 res0) rfl
abbrev impl_sums_debts_b2_S := Int × (List Debt)
abbrev impl_sums_debts_b2_R := Unit ⊕ ((List Debt))
def impl_sums_debts_b2_RS (a1 : Ar 16 (Ar 16 Int)) (s1_1 : Int) (x42 : Ar 16 Int) (i1_1 : Nat) (s : impl_sums_debts_b2_S) (e : Env) (M : Mem) : Prop := eget e 4 = .lsl i1_1 s.2.length 0 s.2.length ∧ eget e 5 = .int .i64 s1_1 ∧ eget e 10 = .agg (arC (arC (n := 16) (cI .i64) 0) (Ar.rep 16 0) a1) ∧ eget e 11 = .int .i64 s1_1 ∧ eget e 15 = .agg (arC (cI .i64) 0 x42) ∧ eget e 16 = .int .i64 s.1 ∧ M[i1_1]? = some (.live ⟨.grow, 114, 3, s.2.map Debt.c⟩)
def impl_sums_debts_b2_RR (a1 : Ar 16 (Ar 16 Int)) (s1_1 : Int) (x42 : Ar 16 Int) (i1_1 : Nat) (r : impl_sums_debts_b2_R) (x : Ex) (e : Env) (M : Mem) : Prop :=
  match r with
  | (.inl g) => x = .ret ∧ eget e 2 = .nils ∧ eget e 3 = .int .i64 3
  | (.inr g) => x = .ext 2 ∧ eget e 4 = .lsl i1_1 g.length 0 g.length ∧ eget e 10 = .agg (arC (arC (n := 16) (cI .i64) 0) (Ar.rep 16 0) a1) ∧ eget e 11 = .int .i64 s1_1 ∧ M[i1_1]? = some (.live ⟨.grow, 114, 3, g.map Debt.c⟩)
noncomputable def impl_sums_debts_b2 (s1_1 : Int) (x42 : Ar 16 Int) : impl_sums_debts_b2_S → Option (impl_sums_debts_b2_S ⊕ impl_sums_debts_b2_R) := fun (s2_1, s2_2) =>
 if (decide (s2_1 < 16)) = true then
  (rdA x42 s2_1).bind fun x109 =>
  if (decide (x109 > 100000000)) = true then
   some (.inr (.inl ()))
  else
   if (decide (x109 > 0)) = true then
    (app 24 s2_2 [(Debt.mk s1_1 s2_1 x109)]).bind fun x149 =>
    some (.inl ((IntKind.i64.wrap (s2_1 + 1)), x149))
   else
    some (.inl ((IntKind.i64.wrap (s2_1 + 1)), s2_2))
 else
  some (.inr (.inr s2_2))
theorem impl_sums_debts_b2_ok (a1 : Ar 16 (Ar 16 Int)) (s1_1 : Int) (x42 : Ar 16 Int) (i1_1 : Nat) (s : impl_sums_debts_b2_S) (r : impl_sums_debts_b2_S ⊕ impl_sums_debts_b2_R) (h : impl_sums_debts_b2 s1_1 x42 s = some r) (e : Env) (M : Mem) (hs : impl_sums_debts_b2_RS a1 s1_1 x42 i1_1 s e M) : Ev (fun k => (f116_l6 (CN k) k (prune [4, 5, 10, 11, 15, 16] e) M).bind fun q => some q) (bQ (impl_sums_debts_b2_RS a1 s1_1 x42 i1_1) (impl_sums_debts_b2_RR a1 s1_1 x42 i1_1) r) := by
 obtain ⟨s2_1, s2_2⟩ := s
 unfold impl_sums_debts_b2 at h
 obtain ⟨h86, h88, h90, h92, h94, h96, o98⟩ := hs
 generalize he85 : prune [4, 5, 10, 11, 15, 16] e = e84
 have h87 := envp he85.symm rfl h86
 have h89 := envp he85.symm rfl h88
 have h91 := envp he85.symm rfl h90
 have h93 := envp he85.symm rfl h92
 have h95 := envp he85.symm rfl h94
 have h97 := envp he85.symm rfl h96
 refine sq (Rg (kx (bLss h97 rfl) (Rn (hV (.lsl i1_1 s2_2.length 0 s2_2.length) h87 (hV (.int .i64 s1_1) h89 (hV (.agg (arC (arC (n := 16) (cI .i64) 0) (Ar.rep 16 0) a1)) h91 (hV (.int .i64 s1_1) h93 (hV (.agg (arC (cI .i64) 0 x42)) h95 (hA h97 (hN rfl hZ))))))) fun e99 h101 h102 h103 h104 h105 h106 h107 => sN (sq ?_))))
 clear h87 h89 h91 h93 h95 h97
 rcases ite_some h with ⟨hb108, h⟩ | ⟨hb108, h⟩
 ·obtain ⟨x109, hx110, h⟩ := bind_some h
  refine cT h107 hb108 (xx (sN (sq (bl (sq (Rg (kx (mvO h106) (kx (ixA1 (K := AV.int .i64) (c := (cI .i64)) (z := 0) (g := x42) h105 h106 hx110 (fun _ => rfl)) (kx (mvO rfl) (kx (mvO rfl) (Rn (hA h101 (hA h102 (hN rfl (hN rfl (hA h103 (hA h104 (hA h105 (hA h106 hZ)))))))) fun e111 h113 h114 h115 h116 h117 h118 h119 h120 => sN (sq (sq (Rg (kx (mvO h116) (kx (bGtr rfl rfl) (Rn (hA h113 (hA h114 (hA h115 (hA h116 (hA h117 (hA h118 (hA h119 (hA h120 (hN rfl hZ))))))))) fun e121 h123 h124 h125 h126 h127 h128 h129 h130 h131 => sN ?_)))))))))))))))))
  clear h101 h102 h103 h104 h105 h106 h107 h113 h114 h115 h116 h117 h118 h119 h120
  rcases ite_some h with ⟨hb132, h⟩ | ⟨hb132, h⟩
  ·refine cT h131 hb132 (sq (Rg (kx (mvO rfl) (kx (mvO rfl) (Rn (hV .nils rfl (hV (.int .i64 3) rfl hZ)) fun e133 h135 h136 => sN (xx (sR (bR (sR ?_)))))))))
   clear h123 h124 h125 h126 h127 h128 h129 h130 h131
   obtain rfl := si h
   exact qR ⟨rfl, h135, h136⟩
  refine cF h131 hb132 (xx (sN (sq (Rg (kx (mvO h126) (kx (bGtr rfl rfl) (Rn (hA h123 (hA h124 (hA h125 (hA h126 (hA h127 (hA h128 (hA h129 (hA h130 (hN rfl hZ))))))))) fun e137 h139 h140 h141 h142 h143 h144 h145 h146 h147 => sN ?_)))))))
  clear h123 h124 h125 h126 h127 h128 h129 h130 h131
  rcases ite_some h with ⟨hb148, h⟩ | ⟨hb148, h⟩
  ·obtain ⟨x149, hx150, h⟩ := bind_some h
   refine cT h147 hb148 (Rg (kx (mvO h139) (kx (mvO h140) (kx (mvO h141) (kx (mvO h142) (kx (bldT zero114 (cns (pr3 rfl) (cns (pr3 rfl) (cns (pr3 rfl) rfl))) (fill1 ⟨rfl, ble rfl⟩ rfl rfl (fill1 ⟨rfl, ble rfl⟩ rfl rfl (fill1 ⟨rfl, ble rfl⟩ rfl rfl (fill0 rfl))))) (kx (litI (cns rfl rfl) rfl ⟨rfl, by decide⟩) (kw (apO rfl o98 rfl (elT (c := Debt.c) (xs := [(Debt.mk s1_1 s2_1 x109)]) rfl) hx150 Debt.fl (by decide)) fun M151 hM152 => ?_))))))))
   have o153 : M151[i1_1]? = some (.live ⟨.grow, 114, 3, x149.map Debt.c⟩) := set_same hM152 o98
   refine kx (mvO rfl) (Rn (hV (.lsl i1_1 x149.length 0 x149.length) rfl (hA h140 (hA h143 (hA h144 (hA h145 (hA h146 hZ)))))) fun e154 h156 h157 h158 h159 h160 h161 => bN (sN (Rg (kx (bAdd h161 rfl) (kx (mvO rfl) (Rn (hA h156 (hA h157 (hA h158 (hA h159 (hA h160 (hN rfl hZ)))))) fun e162 h164 h165 h166 h167 h168 h169 => ?_))))))
   clear h140 h141 h142 h143 h144 h145 h146 h147 h156 h157 h158 h159 h160
   obtain rfl := si h
   exact qN ⟨h164, h165, h166, h167, h168, h169, o153⟩
  refine cF h147 hb148 (xx (bN (sN (Rg (kx (bAdd h146 rfl) (kx (mvO rfl) (Rn (hA h139 (hA h140 (hA h143 (hA h144 (hA h145 (hN rfl hZ)))))) fun e170 h172 h173 h174 h175 h176 h177 => ?_)))))))
  clear h139 h140 h141 h142 h143 h144 h145 h147
  obtain rfl := si h
  exact qN ⟨h172, h173, h174, h175, h176, h177, o98⟩
 refine cF h107 hb108 (xx (sE ?_))
 obtain rfl := si h
 exact qE ⟨rfl, h101, h103, h104, o98⟩
abbrev impl_sums_debts_b1_S := Int × (List Debt)
abbrev impl_sums_debts_b1_R := Unit ⊕ ((List Debt))
def impl_sums_debts_b1_RS (a1 : Ar 16 (Ar 16 Int)) (i1_1 : Nat) (s : impl_sums_debts_b1_S) (e : Env) (M : Mem) : Prop := eget e 4 = .lsl i1_1 s.2.length 0 s.2.length ∧ eget e 10 = .agg (arC (arC (n := 16) (cI .i64) 0) (Ar.rep 16 0) a1) ∧ eget e 11 = .int .i64 s.1 ∧ M[i1_1]? = some (.live ⟨.grow, 114, 3, s.2.map Debt.c⟩)
def impl_sums_debts_b1_RR (a1 : Ar 16 (Ar 16 Int)) (i1_1 : Nat) (r : impl_sums_debts_b1_R) (x : Ex) (e : Env) (M : Mem) : Prop :=
  match r with
  | (.inl g) => x = .ret ∧ eget e 2 = .nils ∧ eget e 3 = .int .i64 3
  | (.inr g) => x = .ext 0 ∧ eget e 4 = .lsl i1_1 g.length 0 g.length ∧ M[i1_1]? = some (.live ⟨.grow, 114, 3, g.map Debt.c⟩)
noncomputable def impl_sums_debts_b1 (a1 : Ar 16 (Ar 16 Int)) : impl_sums_debts_b1_S → Option (impl_sums_debts_b1_S ⊕ impl_sums_debts_b1_R) := fun (s1_1, s1_2) =>
 if (decide (s1_1 < 16)) = true then
  (rdA a1 s1_1).bind fun x42 =>
  (Lw (impl_sums_debts_b2 s1_1 x42) (0, s1_2)).bind fun r => match r with
  | (.inl _) =>
   some (.inr (.inl ()))
  | (.inr y187) =>
   some (.inl ((IntKind.i64.wrap (s1_1 + 1)), y187))
 else
  some (.inr (.inr s1_2))
theorem impl_sums_debts_b1_ok (a1 : Ar 16 (Ar 16 Int)) (i1_1 : Nat) (s : impl_sums_debts_b1_S) (r : impl_sums_debts_b1_S ⊕ impl_sums_debts_b1_R) (h : impl_sums_debts_b1 a1 s = some r) (e : Env) (M : Mem) (hs : impl_sums_debts_b1_RS a1 i1_1 s e M) : Ev (fun k => (f116_l3 (CN k) k (prune [4, 10, 11] e) M).bind fun q => some q) (bQ (impl_sums_debts_b1_RS a1 i1_1) (impl_sums_debts_b1_RR a1 i1_1) r) := by
 obtain ⟨s1_1, s1_2⟩ := s
 unfold impl_sums_debts_b1 at h
 obtain ⟨h28, h30, h32, o34⟩ := hs
 generalize he27 : prune [4, 10, 11] e = e26
 have h29 := envp he27.symm rfl h28
 have h31 := envp he27.symm rfl h30
 have h33 := envp he27.symm rfl h32
 refine sq (Rg (kx (bLss h33 rfl) (Rn (hV (.lsl i1_1 s1_2.length 0 s1_2.length) h29 (hV (.agg (arC (arC (n := 16) (cI .i64) 0) (Ar.rep 16 0) a1)) h31 (hV (.int .i64 s1_1) h33 (hN rfl hZ)))) fun e35 h37 h38 h39 h40 => sN (sq ?_))))
 clear h29 h31 h33
 rcases ite_some h with ⟨hb41, h⟩ | ⟨hb41, h⟩
 ·obtain ⟨x42, hx43, h⟩ := bind_some h
  refine cT h40 hb41 (xx (sN (sq (bl (sq (Rg (kx (mvO h39) (kx (ixAA (c := (arC (n := 16) (cI .i64) 0)) (z := (Ar.rep 16 0)) (g := a1) h38 h39 hx43 (fun _ => rfl)) (ku (alO zero149) fun M45 hM46 => ?_)))))))))
  have o47 := push_old hM46 o34
  have ne48 := ne_new o34
  have o49 : M45[M.length]? = some (.live ⟨.box, 149, 16, [(arC (cI .i64) 0 (Ar.rep 16 0))]⟩) := push_new hM46
  refine kx (mvO rfl) (kw (stO rfl rfl o49 rfl rfl ⟨rfl, ble rfl⟩ rfl rfl) fun M50 hM51 => ?_)
  have o52 := set_ne hM51 ne48 o47
  have o53 : M50[M.length]? = some (.live ⟨.box, 149, 16, [(arC (cI .i64) 0 x42)]⟩) := set_same hM51 o49
  obtain ⟨r178, hr179, h⟩ := bind_some h
  refine Rn (hA h37 (hN rfl (hV (.loc M.length 1 0 0) rfl (hA h38 (hA h39 hZ))))) fun e54 h56 h57 h58 h59 h60 => sN (sq (Rg (kx (ldOA (cs' := (arC (cI .i64) 0 x42)) h58 o53 rfl rfl (ble rfl) rfl) (kx (mvO rfl) (Rn (hA h56 (hA h57 (hA h59 (hA h60 (hN rfl (hV (.int .i64 0) rfl hZ)))))) fun e61 h63 h64 h65 h66 h67 h68 => sN (bl ?_))))))
  clear h37 h38 h39 h40 h56 h57 h58 h59 h60
  rcases r178 with _ | y187
  ·refine Ev.loop (RS := impl_sums_debts_b2_RS a1 s1_1 x42 i1_1) (RR := impl_sums_debts_b2_RR a1 s1_1 x42 i1_1) (fun s r h e M hs => impl_sums_debts_b2_ok a1 s1_1 x42 i1_1 s r h e M hs) hr179 ⟨h63, h64, h65, h66, h67, h68, o52⟩ fun x e181 M182 hq180 => ?_
   obtain ⟨rfl, h183, h184⟩ := hq180
   refine bR (bR (sR ?_))
   obtain rfl := si h
   exact qR ⟨rfl, h183, h184⟩
  refine Ev.loop (RS := impl_sums_debts_b2_RS a1 s1_1 x42 i1_1) (RR := impl_sums_debts_b2_RR a1 s1_1 x42 i1_1) (fun s r h e M hs => impl_sums_debts_b2_ok a1 s1_1 x42 i1_1 s r h e M hs) hr179 ⟨h63, h64, h65, h66, h67, h68, o52⟩ fun x e185 M186 hq180 => ?_
  obtain ⟨rfl, h188, h189, h190, o191⟩ := hq180
  refine bE (bN (sN (Rg (kx (bAdd h190 rfl) (kx (mvO rfl) (Rn (hV (.lsl i1_1 y187.length 0 y187.length) h188 (hV (.agg (arC (arC (n := 16) (cI .i64) 0) (Ar.rep 16 0) a1)) h189 (hN rfl hZ))) fun e192 h194 h195 h196 => ?_))))))
  clear h188 h189
  obtain rfl := si h
  exact qN ⟨h194, h195, h196, o191⟩
 refine cF h40 hb41 (xx (sE ?_))
 obtain rfl := si h
 exact qE ⟨rfl, h37, o34⟩
noncomputable def impl_sums_debts (a1 : Ar 16 (Ar 16 Int)) : Option (Unit ⊕ ((List Debt))) :=
 (Lw (impl_sums_debts_b1 a1) (0, ([] : List Debt))).bind fun r => match r with
 | (.inl _) =>
  some (.inl ())
 | (.inr y206) =>
  if (decide ((y206.length : Int) > 60)) = true then
   some (.inl ())
  else
   some (.inr y206)
def impl_sums_debts_enc (r : Unit ⊕ ((List Debt))) : AV :=
  match r with
  | (.inl g) => .tup [.nils, .int .i64 3]
  | (.inr g) => .tup [.sl (some 114) (g.map Debt.c), .int .i64 0]
theorem impl_sums_debts_ok (a1 : Ar 16 (Ar 16 Int)) (r : Unit ⊕ ((List Debt))) (h : impl_sums_debts a1 = some r) : Ev (fun k => CN k 116 [.agg (arC (arC (n := 16) (cI .i64) 0) (Ar.rep 16 0) a1)] []) (fun p => rRes p.2 p.1 = impl_sums_debts_enc r) := by
 unfold impl_sums_debts at h
 refine Ev.enter (F := fun k => f116 (CN k) k) (fun k => callN_eq rfl Try.func116 rfl rfl rfl (by decide +kernel) (f116_eq _ _)) (sq (Rg (kx (bxI rfl rfl ⟨rfl, rfl, by decide⟩) (kx (mvO rfl) (kx (mvO rfl) (Rn (hN rfl hZ) fun e1 h3 => sN (sq (Rg (ku (litO (xs := ([] : List Debt)) (c := Debt.c) rfl rfl (by decide)) fun M5 hM6 => ?_)))))))))
 have o7 : M5[([] : Mem).length]? = some (.live ⟨.grow, 114, 3, ([] : List Debt).map Debt.c⟩) := push_new hM6
 obtain ⟨r197, hr198, h⟩ := bind_some h
 refine kx (mvO rfl) (Rn (hA h3 (hV (.lsl ([] : Mem).length ([] : List Debt).length 0 ([] : List Debt).length) rfl hZ)) fun e8 h10 h11 => sN (sq (sq (Rg (kx (ldPA h10 rfl rfl) (kx (mvO rfl) (Rn (hA h11 (hN rfl (hV (.int .i64 0) rfl hZ))) fun e12 h14 h15 h16 => sN (bl ?_))))))))
 clear h3 h10 h11
 rcases r197 with _ | y206
 ·refine Ev.loop (RS := impl_sums_debts_b1_RS a1 (([] : Mem).length)) (RR := impl_sums_debts_b1_RR a1 (([] : Mem).length)) (fun s r h e M hs => impl_sums_debts_b1_ok a1 (([] : Mem).length) s r h e M hs) hr198 ⟨h14, h15, h16, o7⟩ fun x e200 M201 hq199 => ?_
  obtain ⟨rfl, h202, h203⟩ := hq199
  refine bR (sR ?_)
  obtain rfl := si h
  exact eR (resT h202 (resT h203 res0)) rfl
 refine Ev.loop (RS := impl_sums_debts_b1_RS a1 (([] : Mem).length)) (RR := impl_sums_debts_b1_RR a1 (([] : Mem).length)) (fun s r h e M hs => impl_sums_debts_b1_ok a1 (([] : Mem).length) s r h e M hs) hr198 ⟨h14, h15, h16, o7⟩ fun x e204 M205 hq199 => ?_
 obtain ⟨rfl, h207, o208⟩ := hq199
 refine bE (sN (sq (sq (Rg (kx (mvO h207) (kx (lnL Try.underlying57 rfl o208 (by simp)) (kx (bGtr rfl rfl) (Rn (hV (.lsl ([] : Mem).length y206.length 0 y206.length) h207 (hN rfl hZ)) fun e209 h211 h212 => sN ?_))))))))
 clear h207
 rcases ite_some h with ⟨hb213, h⟩ | ⟨hb213, h⟩
 ·refine cT h212 hb213 (sq (Rg (kx (mvO rfl) (kx (mvO rfl) (Rn (hV .nils rfl (hV (.int .i64 3) rfl hZ)) fun e214 h216 h217 => sN (xx (sR ?_)))))))
  clear h211 h212
  obtain rfl := si h
  exact eR (resT h216 (resT h217 res0)) rfl
 refine cF h212 hb213 (xx (sN (sq (Rg (kx (mvO h211) (kx (mvO rfl) (kx (mvO rfl) (Rn (hV (.lsl ([] : Mem).length y206.length 0 y206.length) rfl (hV (.int .i64 0) rfl hZ)) fun e218 h220 h221 => sN (xx ?_)))))))))
 clear h211 h212
 obtain rfl := si h
 exact eR (resT h220 (resT h221 res0)) (rr_tup (mp1 (rr_row o208 rfl Debt.fl) (mp1 rfl mp0)))
abbrev impl_sumsOf_b1_S := Int × (Ar 16 (Ar 16 Int))
abbrev impl_sumsOf_b1_R := (Ar 16 (Ar 16 Int))
def impl_sumsOf_b1_RS (a1 : List Debt) (i1_1 : Nat) (i1_2 : Nat) (s : impl_sumsOf_b1_S) (e : Env) (M : Mem) : Prop := eget e 2 = .loc i1_1 1 0 0 ∧ eget e 3 = .loc i1_2 1 0 0 ∧ eget e 7 = .sl none (a1.map Debt.c) ∧ eget e 8 = .int .i64 (a1.length : Int) ∧ eget e 9 = .int .i64 s.1 ∧ M[i1_1]? = some (.live ⟨.box, 151, 256, [(arC (arC (n := 16) (cI .i64) 0) (Ar.rep 16 0) (Ar.rep 16 (Ar.rep 16 0)))]⟩) ∧ M[i1_2]? = some (.live ⟨.box, 151, 256, [(arC (arC (n := 16) (cI .i64) 0) (Ar.rep 16 0) s.2)]⟩)
def impl_sumsOf_b1_RR (a1 : List Debt) (i1_1 : Nat) (i1_2 : Nat) (g : impl_sumsOf_b1_R) (x : Ex) (e : Env) (M : Mem) : Prop := x = .ext 0 ∧ eget e 2 = .loc i1_1 1 0 0 ∧ eget e 3 = .loc i1_2 1 0 0 ∧ M[i1_1]? = some (.live ⟨.box, 151, 256, [(arC (arC (n := 16) (cI .i64) 0) (Ar.rep 16 0) (Ar.rep 16 (Ar.rep 16 0)))]⟩) ∧ M[i1_2]? = some (.live ⟨.box, 151, 256, [(arC (arC (n := 16) (cI .i64) 0) (Ar.rep 16 0) g)]⟩)
noncomputable def impl_sumsOf_b1 (a1 : List Debt) : impl_sumsOf_b1_S → Option (impl_sumsOf_b1_S ⊕ impl_sumsOf_b1_R) := fun (s1_1, s1_2) =>
 if (decide (s1_1 < (a1.length : Int))) = true then
  (rd a1 s1_1).bind fun x68 =>
  (rdA s1_2 x68.From).bind fun x91 =>
  (rdA x91 x68.To).bind fun x93 =>
  (rdA s1_2 x68.From).bind fun x95 =>
  (rdA x95 x68.To).bind fun x97 =>
  some (.inl ((IntKind.i64.wrap (s1_1 + 1)), (s1_2.set x68.From.toNat (x95.set x68.To.toNat (IntKind.i64.wrap (x93 + x68.Amount))))))
 else
  some (.inr s1_2)
theorem impl_sumsOf_b1_ok (a1 : List Debt) (i1_1 : Nat) (i1_2 : Nat) (ne13 : i1_1 ≠ i1_2) (s : impl_sumsOf_b1_S) (r : impl_sumsOf_b1_S ⊕ impl_sumsOf_b1_R) (h : impl_sumsOf_b1 a1 s = some r) (e : Env) (M : Mem) (hs : impl_sumsOf_b1_RS a1 i1_1 i1_2 s e M) : Ev (fun k => (f115_l3 (CN k) k (prune [2, 3, 7, 8, 9] e) M).bind fun q => some q) (bQ (impl_sumsOf_b1_RS a1 i1_1 i1_2) (impl_sumsOf_b1_RR a1 i1_1 i1_2) r) := by
 obtain ⟨s1_1, s1_2⟩ := s
 unfold impl_sumsOf_b1 at h
 obtain ⟨h47, h49, h51, h53, h55, o57, o58⟩ := hs
 generalize he46 : prune [2, 3, 7, 8, 9] e = e45
 have h48 := envp he46.symm rfl h47
 have h50 := envp he46.symm rfl h49
 have h52 := envp he46.symm rfl h51
 have h54 := envp he46.symm rfl h53
 have h56 := envp he46.symm rfl h55
 refine sq (Rg (kx (bLss h56 h54) (Rn (hV (.loc i1_1 1 0 0) h48 (hV (.loc i1_2 1 0 0) h50 (hV (.sl none (a1.map Debt.c)) h52 (hV (.int .i64 (a1.length : Int)) h54 (hV (.int .i64 s1_1) h56 (hN rfl hZ)))))) fun e59 h61 h62 h63 h64 h65 h66 => sN (sq ?_))))
 clear h48 h50 h52 h54 h56
 rcases ite_some h with ⟨hb67, h⟩ | ⟨hb67, h⟩
 ·obtain ⟨x68, hx69, h⟩ := bind_some h
  refine cT h66 hb67 (xx (sN (sq (bl (sq (Rg (kx (ixS h63 h65 hx69 Debt.fl) (kx (ldPA rfl rfl rfl) (ku (alO zero114) fun M71 hM72 => ?_)))))))))
  have o73 := push_old hM72 o57
  have ne74 := ne_new o57
  have o75 := push_old hM72 o58
  have ne76 := ne_new o58
  have o77 : M71[M.length]? = some (.live ⟨.box, 114, 3, [[.int .i64 0, .int .i64 0, .int .i64 0]]⟩) := push_new hM72
  refine kw (stO rfl rfl o77 rfl rfl ⟨rfl, ble rfl⟩ rfl rfl) fun M78 hM79 => ?_
  have o80 := set_ne hM79 ne74 o73
  have o81 := set_ne hM79 ne76 o75
  have o82 : M78[M.length]? = some (.live ⟨.box, 114, 3, [[.int .i64 x68.From, .int .i64 x68.To, .int .i64 x68.Amount]]⟩) := set_same hM79 o77
  obtain ⟨x91, hx92, h⟩ := bind_some h
  obtain ⟨x93, hx94, h⟩ := bind_some h
  obtain ⟨x95, hx96, h⟩ := bind_some h
  obtain ⟨x97, hx98, h⟩ := bind_some h
  refine Rn (hA h61 (hA h62 (hV (.loc M.length 1 0 0) rfl (hA h63 (hA h64 (hA h65 hZ)))))) fun e83 h85 h86 h87 h88 h89 h90 => sN (Rd (kf (faO h87 o82 rfl) (kf (ldO rfl o82 rfl rfl rfl) (kf (faO h87 o82 rfl) (kf (ldO rfl o82 rfl rfl rfl) (kf (ixLA h86 o81 rfl rfl hx92) (kf (ixLA rfl o81 rfl rfl hx94) (kf (ldLA2 (K := AV.int .i64) (c := (cI .i64)) (z := 0) (Z := (Ar.rep 16 0)) (G := s1_2) (pre := []) (post := []) rfl o81 rfl rfl rfl rfl rfl (fun _ => rfl) hx92 hx94) (kf (faO h87 o82 rfl) (kf (ldO rfl o82 rfl rfl rfl) (kf (bAdd rfl rfl) (kf (ixLA h86 o81 rfl rfl hx96) (kf (ixLA rfl o81 rfl rfl hx98) (fZ (kw (stLA2 (c := (cI .i64)) (z := 0) (Z := (Ar.rep 16 0)) (G := s1_2) (pre := []) (post := []) (w' := (IntKind.i64.wrap (x93 + x68.Amount))) rfl rfl o81 rfl rfl rfl rfl rfl (fun _ => rfl) rfl rfl hx96 hx98) fun M99 hM100 => ?_)))))))))))))))
  clear h61 h62 h63 h64 h65 h66
  have o101 := set_ne hM100 ne13 o80
  have o102 : M99[i1_2]? = some (.live ⟨.box, 151, 256, [(arC (arC (n := 16) (cI .i64) 0) (Ar.rep 16 0) (s1_2.set x68.From.toNat (x95.set x68.To.toNat (IntKind.i64.wrap (x93 + x68.Amount)))))]⟩) := set_same hM100 o81
  have o103 := set_ne hM100 (Ne.symm ne76) o82
  refine Rn (hA h85 (hA h86 (hA h88 (hA h89 (hA h90 hZ))))) fun e104 h106 h107 h108 h109 h110 => bN (sN (Rg (kx (bAdd h110 rfl) (kx (mvO rfl) (Rn (hA h106 (hA h107 (hA h108 (hA h109 (hN rfl hZ))))) fun e111 h113 h114 h115 h116 h117 => ?_)))))
  clear h85 h86 h87 h88 h89 h90 h106 h107 h108 h109
  obtain rfl := si h
  exact qN ⟨h113, h114, h115, h116, h117, o101, o102⟩
 refine cF h66 hb67 (xx (sE ?_))
 obtain rfl := si h
 exact qE ⟨rfl, h61, h62, o57, o58⟩
noncomputable def impl_sumsOf (a1 : List Debt) : Option ((Ar 16 (Ar 16 Int))) :=
 (Lw (impl_sumsOf_b1 a1) (0, (Ar.rep 16 (Ar.rep 16 0)))).bind fun y123 =>
 some y123
def impl_sumsOf_enc (r : (Ar 16 (Ar 16 Int))) : AV := .agg (arC (arC (n := 16) (cI .i64) 0) (Ar.rep 16 0) r)
theorem impl_sumsOf_ok (a1 : List Debt) (r : (Ar 16 (Ar 16 Int))) (h : impl_sumsOf a1 = some r) : Ev (fun k => CN k 115 [.sl none (a1.map Debt.c)] []) (fun p => rRes p.2 p.1 = impl_sumsOf_enc r) := by
 unfold impl_sumsOf at h
 refine Ev.enter (F := fun k => f115 (CN k) k) (fun k => callN_eq rfl Try.func115 rfl rfl rfl (by decide +kernel) (f115_eq _ _)) (sq (Rg (ku (alO zero151) fun M2 hM3 => ?_)))
 have o4 : M2[([] : Mem).length]? = some (.live ⟨.box, 151, 256, [(arC (arC (n := 16) (cI .i64) 0) (Ar.rep 16 0) (Ar.rep 16 (Ar.rep 16 0)))]⟩) := push_new hM3
 refine Rn (hN rfl (hV (.loc ([] : Mem).length 1 0 0) rfl hZ)) fun e5 h7 h8 => sN (sq (Rg (kx (bldT zero151 rfl (fill0 rfl)) (ku (alO zero151) fun M10 hM11 => ?_))))
 have o12 := push_old hM11 o4
 have ne13 := ne_new o4
 have o14 : M10[M2.length]? = some (.live ⟨.box, 151, 256, [(arC (arC (n := 16) (cI .i64) 0) (Ar.rep 16 0) (Ar.rep 16 (Ar.rep 16 0)))]⟩) := push_new hM11
 refine kw (stO rfl rfl o14 rfl rfl ⟨rfl, ble rfl⟩ rfl rfl) fun M15 hM16 => ?_
 have o17 := set_ne hM16 ne13 o12
 have o18 : M15[M2.length]? = some (.live ⟨.box, 151, 256, [(arC (arC (n := 16) (cI .i64) 0) (Ar.rep 16 0) (Ar.rep 16 (Ar.rep 16 0)))]⟩) := set_same hM16 o14
 obtain ⟨y123, hr119, h⟩ := bind_some h
 refine Rn (hA h7 (hA h8 (hV (.loc M2.length 1 0 0) rfl hZ))) fun e19 h21 h22 h23 => sN (sq (sq (Rg (kx (mvO h21) (kx (lnS Try.underlying57 rfl) (kx (mvO rfl) (Rn (hA h22 (hA h23 (hN rfl (hN rfl (hV (.int .i64 0) rfl hZ))))) fun e24 h26 h27 h28 h29 h30 => sN (bl (Ev.loop (RS := impl_sumsOf_b1_RS a1 (([] : Mem).length) M2.length) (RR := impl_sumsOf_b1_RR a1 (([] : Mem).length) M2.length) (fun s r h e M hs => impl_sumsOf_b1_ok a1 (([] : Mem).length) M2.length ne13 s r h e M hs) hr119 ⟨h26, h27, h28, h29, h30, o17, o18⟩ fun x e121 M122 hq120 => ?_)))))))))
 clear h7 h8 h21 h22 h23
 obtain ⟨rfl, h124, h125, o126, o127⟩ := hq120
 refine bE (sN (sq (Rg (kx (ldOA (cs' := (arC (arC (n := 16) (cI .i64) 0) (Ar.rep 16 0) y123)) h125 o127 rfl rfl (ble rfl) rfl) (kw (stO h124 rfl o126 rfl rfl ⟨rfl, ble rfl⟩ rfl rfl) fun M128 hM129 => ?_)))))
 have o130 : M128[([] : Mem).length]? = some (.live ⟨.box, 151, 256, [(arC (arC (n := 16) (cI .i64) 0) (Ar.rep 16 0) y123)]⟩) := set_same hM129 o126
 have o131 := set_ne hM129 (Ne.symm ne13) o127
 refine Rn (hV (.loc ([] : Mem).length 1 0 0) h124 hZ) fun e132 h134 => sN (xx ?_)
 clear h124 h125
 obtain rfl := si h
 exact eR (resC (ag := true) (sz := 256) ⟨by kernel_rfl, by kernel_rfl, by kernel_rfl⟩ (ldOA (cs' := (arC (arC (n := 16) (cI .i64) 0) (Ar.rep 16 0) y123)) h134 o130 rfl rfl (ble rfl) rfl) res0) rfl
def impl_ValidDebts_c1_Q (a1 : Int) (a2 : List Debt) (g : Bool) (q : Out) : Prop := q.1 = .nrm ∧ eget q.2.1 0 = .int .i64 a1 ∧ eget q.2.1 1 = .sl none (a2.map Debt.c) ∧ eget q.2.1 17 = .bool g
abbrev impl_ValidDebts_b1_S := Int
abbrev impl_ValidDebts_b1_R := Unit ⊕ Unit
def impl_ValidDebts_b1_RS (a1 : Int) (a2 : List Debt) (s : impl_ValidDebts_b1_S) (e : Env) (M : Mem) : Prop := eget e 0 = .int .i64 a1 ∧ eget e 18 = .sl none (a2.map Debt.c) ∧ eget e 19 = .int .i64 (a2.length : Int) ∧ eget e 20 = .int .i64 s
def impl_ValidDebts_b1_RR (a1 : Int) (a2 : List Debt) (r : impl_ValidDebts_b1_R) (x : Ex) (e : Env) (M : Mem) : Prop :=
  match r with
  | (.inl g) => x = .ret ∧ eget e 4 = .bool false
  | (.inr g) => x = .ext 0 ∧ True
noncomputable def impl_ValidDebts_b1 (a1 : Int) (a2 : List Debt) : impl_ValidDebts_b1_S → Option (impl_ValidDebts_b1_S ⊕ impl_ValidDebts_b1_R) := fun s1_1 =>
 if (decide (s1_1 < (a2.length : Int))) = true then
  (rd a2 s1_1).bind fun x66 =>
  if (decide (x66.From < 0)) = true then
   some (.inr (.inl ()))
  else
   if (decide (x66.From ≥ a1)) = true then
    some (.inr (.inl ()))
   else
    if (decide (x66.To < 0)) = true then
     some (.inr (.inl ()))
    else
     if (decide (x66.To ≥ a1)) = true then
      some (.inr (.inl ()))
     else
      if (x66.From == x66.To) = true then
       some (.inr (.inl ()))
      else
       if (decide (x66.Amount < 1)) = true then
        some (.inr (.inl ()))
       else
        if (decide (x66.Amount > 100000000)) = true then
         some (.inr (.inl ()))
        else
         some (.inl (IntKind.i64.wrap (s1_1 + 1)))
 else
  some (.inr (.inr ()))
theorem impl_ValidDebts_b1_ok (a1 : Int) (a2 : List Debt) (s : impl_ValidDebts_b1_S) (r : impl_ValidDebts_b1_S ⊕ impl_ValidDebts_b1_R) (h : impl_ValidDebts_b1 a1 a2 s = some r) (e : Env) (M : Mem) (hs : impl_ValidDebts_b1_RS a1 a2 s e M) : Ev (fun k => (f114_l4 (CN k) k (prune [0, 18, 19, 20] e) M).bind fun q => some q) (bQ (impl_ValidDebts_b1_RS a1 a2) (impl_ValidDebts_b1_RR a1 a2) r) := by
 revert h hs
 revert s
 intro s1_1 h hs
 unfold impl_ValidDebts_b1 at h
 obtain ⟨h50, h52, h54, h56⟩ := hs
 generalize he49 : prune [0, 18, 19, 20] e = e48
 have h51 := envp he49.symm rfl h50
 have h53 := envp he49.symm rfl h52
 have h55 := envp he49.symm rfl h54
 have h57 := envp he49.symm rfl h56
 refine sq (Rg (kx (bLss h57 h55) (Rn (hV (.int .i64 a1) h51 (hV (.sl none (a2.map Debt.c)) h53 (hV (.int .i64 (a2.length : Int)) h55 (hV (.int .i64 s1_1) h57 (hN rfl hZ))))) fun e58 h60 h61 h62 h63 h64 => sN (sq ?_))))
 clear h51 h53 h55 h57
 rcases ite_some h with ⟨hb65, h⟩ | ⟨hb65, h⟩
 ·obtain ⟨x66, hx67, h⟩ := bind_some h
  refine cT h64 hb65 (xx (sN (sq (bl (sq (Rg (kx (ixS h61 h63 hx67 Debt.fl) (kx (ldPA rfl rfl rfl) (ku (alO zero114) fun M69 hM70 => ?_)))))))))
  have o71 : M69[M.length]? = some (.live ⟨.box, 114, 3, [[.int .i64 0, .int .i64 0, .int .i64 0]]⟩) := push_new hM70
  refine kw (stO rfl rfl o71 rfl rfl ⟨rfl, ble rfl⟩ rfl rfl) fun M72 hM73 => ?_
  have o74 : M72[M.length]? = some (.live ⟨.box, 114, 3, [[.int .i64 x66.From, .int .i64 x66.To, .int .i64 x66.Amount]]⟩) := set_same hM73 o71
  refine Rn (hA h60 (hV (.loc M.length 1 0 0) rfl (hA h61 (hA h62 (hA h63 hZ))))) fun e75 h77 h78 h79 h80 h81 => sN (sq (Rg (kx (faO h78 o74 rfl) (kx (ldO rfl o74 rfl rfl rfl) (kx (bLss rfl rfl) (kx (mvO rfl) ?_))))))
  clear h60 h61 h62 h63 h64
  rcases ite_some h with ⟨hb82, h⟩ | ⟨hb82, h⟩
  ·refine kx (gsF rfl hb82) (kx (gsF rfl hb82) (kx (gsF rfl hb82) (kx (gsF rfl hb82) (kx (pkT rfl hb82 rfl) (kx (mvO rfl) (kx (gsF rfl rfl) (kx (gsF rfl rfl) (kx (gsF rfl rfl) (kx (pkT rfl rfl rfl) (kx (mvO rfl) (kx (gsF rfl rfl) (kx (gsF rfl rfl) (kx (gsF rfl rfl) (kx (gsF rfl rfl) (kx (pkT rfl rfl rfl) (kx (mvO rfl) (kx (gsF rfl rfl) (kx (gsF rfl rfl) (kx (gsF rfl rfl) (kx (gsF rfl rfl) (kx (gsF rfl rfl) (kx (pkT rfl rfl rfl) (kx (mvO rfl) (kx (gsF rfl rfl) (kx (gsF rfl rfl) (kx (gsF rfl rfl) (kx (pkT rfl rfl rfl) (kx (mvO rfl) (kx (gsF rfl rfl) (kx (gsF rfl rfl) (kx (gsF rfl rfl) (kx (pkT rfl rfl rfl) (Rn (hA h77 (hA h79 (hA h80 (hA h81 (hV (.bool true) rfl hZ))))) fun e83 h85 h86 h87 h88 h89 => sN (cT h89 rfl (sq (Rg (kx (mvO rfl) (Rn (hV (.bool false) rfl hZ) fun e90 h92 => sN (xx (bR (sR ?_)))))))))))))))))))))))))))))))))))))))))
   clear h77 h78 h79 h80 h81 h85 h86 h87 h88 h89
   obtain rfl := si h
   exact qR ⟨rfl, h92⟩
  refine kx (guF rfl hb82 (faO h78 o74 rfl)) (kx (guF rfl hb82 (ldO rfl o74 rfl rfl rfl)) (kx (guF rfl hb82 (mvO h77)) (kx (guF rfl hb82 (bGeq rfl rfl)) (kx (pkF rfl hb82 rfl) (kx (mvO rfl) ?_)))))
  rcases ite_some h with ⟨hb93, h⟩ | ⟨hb93, h⟩
  ·refine kx (gsF rfl hb93) (kx (gsF rfl hb93) (kx (gsF rfl hb93) (kx (pkT rfl hb93 rfl) (kx (mvO rfl) (kx (gsF rfl rfl) (kx (gsF rfl rfl) (kx (gsF rfl rfl) (kx (gsF rfl rfl) (kx (pkT rfl rfl rfl) (kx (mvO rfl) (kx (gsF rfl rfl) (kx (gsF rfl rfl) (kx (gsF rfl rfl) (kx (gsF rfl rfl) (kx (gsF rfl rfl) (kx (pkT rfl rfl rfl) (kx (mvO rfl) (kx (gsF rfl rfl) (kx (gsF rfl rfl) (kx (gsF rfl rfl) (kx (pkT rfl rfl rfl) (kx (mvO rfl) (kx (gsF rfl rfl) (kx (gsF rfl rfl) (kx (gsF rfl rfl) (kx (pkT rfl rfl rfl) (Rn (hA h77 (hA h79 (hA h80 (hA h81 (hV (.bool true) rfl hZ))))) fun e94 h96 h97 h98 h99 h100 => sN (cT h100 rfl (sq (Rg (kx (mvO rfl) (Rn (hV (.bool false) rfl hZ) fun e101 h103 => sN (xx (bR (sR ?_)))))))))))))))))))))))))))))))))))
   clear h77 h78 h79 h80 h81 h100 h96 h97 h98 h99
   obtain rfl := si h
   exact qR ⟨rfl, h103⟩
  refine kx (guF rfl hb93 (faO h78 o74 rfl)) (kx (guF rfl hb93 (ldO rfl o74 rfl rfl rfl)) (kx (guF rfl hb93 (bLss rfl rfl)) (kx (pkF rfl hb93 rfl) (kx (mvO rfl) ?_))))
  rcases ite_some h with ⟨hb104, h⟩ | ⟨hb104, h⟩
  ·refine kx (gsF rfl hb104) (kx (gsF rfl hb104) (kx (gsF rfl hb104) (kx (gsF rfl hb104) (kx (pkT rfl hb104 rfl) (kx (mvO rfl) (kx (gsF rfl rfl) (kx (gsF rfl rfl) (kx (gsF rfl rfl) (kx (gsF rfl rfl) (kx (gsF rfl rfl) (kx (pkT rfl rfl rfl) (kx (mvO rfl) (kx (gsF rfl rfl) (kx (gsF rfl rfl) (kx (gsF rfl rfl) (kx (pkT rfl rfl rfl) (kx (mvO rfl) (kx (gsF rfl rfl) (kx (gsF rfl rfl) (kx (gsF rfl rfl) (kx (pkT rfl rfl rfl) (Rn (hA h77 (hA h79 (hA h80 (hA h81 (hV (.bool true) rfl hZ))))) fun e105 h107 h108 h109 h110 h111 => sN (cT h111 rfl (sq (Rg (kx (mvO rfl) (Rn (hV (.bool false) rfl hZ) fun e112 h114 => sN (xx (bR (sR ?_))))))))))))))))))))))))))))))
   clear h77 h78 h79 h80 h81 h107 h108 h109 h110 h111
   obtain rfl := si h
   exact qR ⟨rfl, h114⟩
  refine kx (guF rfl hb104 (faO h78 o74 rfl)) (kx (guF rfl hb104 (ldO rfl o74 rfl rfl rfl)) (kx (guF rfl hb104 (mvO h77)) (kx (guF rfl hb104 (bGeq rfl rfl)) (kx (pkF rfl hb104 rfl) (kx (mvO rfl) ?_)))))
  rcases ite_some h with ⟨hb115, h⟩ | ⟨hb115, h⟩
  ·refine kx (gsF rfl hb115) (kx (gsF rfl hb115) (kx (gsF rfl hb115) (kx (gsF rfl hb115) (kx (gsF rfl hb115) (kx (pkT rfl hb115 rfl) (kx (mvO rfl) (kx (gsF rfl rfl) (kx (gsF rfl rfl) (kx (gsF rfl rfl) (kx (pkT rfl rfl rfl) (kx (mvO rfl) (kx (gsF rfl rfl) (kx (gsF rfl rfl) (kx (gsF rfl rfl) (kx (pkT rfl rfl rfl) (Rn (hA h77 (hA h79 (hA h80 (hA h81 (hV (.bool true) rfl hZ))))) fun e116 h118 h119 h120 h121 h122 => sN (cT h122 rfl (sq (Rg (kx (mvO rfl) (Rn (hV (.bool false) rfl hZ) fun e123 h125 => sN (xx (bR (sR ?_))))))))))))))))))))))))
   clear h77 h78 h79 h80 h81 h118 h119 h120 h121 h122
   obtain rfl := si h
   exact qR ⟨rfl, h125⟩
  refine kx (guF rfl hb115 (faO h78 o74 rfl)) (kx (guF rfl hb115 (ldO rfl o74 rfl rfl rfl)) (kx (guF rfl hb115 (faO h78 o74 rfl)) (kx (guF rfl hb115 (ldO rfl o74 rfl rfl rfl)) (kx (guF rfl hb115 (bEql rfl rfl)) (kx (pkF rfl hb115 rfl) (kx (mvO rfl) ?_))))))
  rcases ite_some h with ⟨hb126, h⟩ | ⟨hb126, h⟩
  ·refine kx (gsF rfl hb126) (kx (gsF rfl hb126) (kx (gsF rfl hb126) (kx (pkT rfl hb126 rfl) (kx (mvO rfl) (kx (gsF rfl rfl) (kx (gsF rfl rfl) (kx (gsF rfl rfl) (kx (pkT rfl rfl rfl) (Rn (hA h77 (hA h79 (hA h80 (hA h81 (hV (.bool true) rfl hZ))))) fun e127 h129 h130 h131 h132 h133 => sN (cT h133 rfl (sq (Rg (kx (mvO rfl) (Rn (hV (.bool false) rfl hZ) fun e134 h136 => sN (xx (bR (sR ?_)))))))))))))))))
   clear h77 h78 h79 h80 h81 h129 h130 h131 h132 h133
   obtain rfl := si h
   exact qR ⟨rfl, h136⟩
  refine kx (guF rfl hb126 (faO h78 o74 rfl)) (kx (guF rfl hb126 (ldO rfl o74 rfl rfl rfl)) (kx (guF rfl hb126 (bLss rfl rfl)) (kx (pkF rfl hb126 rfl) (kx (mvO rfl) ?_))))
  rcases ite_some h with ⟨hb137, h⟩ | ⟨hb137, h⟩
  ·refine kx (gsF rfl hb137) (kx (gsF rfl hb137) (kx (gsF rfl hb137) (kx (pkT rfl hb137 rfl) (Rn (hA h77 (hA h79 (hA h80 (hA h81 (hV (.bool true) rfl hZ))))) fun e138 h140 h141 h142 h143 h144 => sN (cT h144 rfl (sq (Rg (kx (mvO rfl) (Rn (hV (.bool false) rfl hZ) fun e145 h147 => sN (xx (bR (sR ?_))))))))))))
   clear h77 h78 h79 h80 h81 h140 h141 h142 h143 h144
   obtain rfl := si h
   exact qR ⟨rfl, h147⟩
  refine kx (guF rfl hb137 (faO h78 o74 rfl)) (kx (guF rfl hb137 (ldO rfl o74 rfl rfl rfl)) (kx (guF rfl hb137 (bGtr rfl rfl)) (kx (pkF rfl hb137 rfl) (Rn (hA h77 (hA h79 (hA h80 (hA h81 (hN rfl hZ))))) fun e148 h150 h151 h152 h153 h154 => sN ?_))))
  clear h77 h78 h79 h80 h81
  rcases ite_some h with ⟨hb155, h⟩ | ⟨hb155, h⟩
  ·refine cT h154 hb155 (sq (Rg (kx (mvO rfl) (Rn (hV (.bool false) rfl hZ) fun e156 h158 => sN (xx (bR (sR ?_)))))))
   clear h150 h151 h152 h153 h154
   obtain rfl := si h
   exact qR ⟨rfl, h158⟩
  refine cF h154 hb155 (xx (bN (sN (Rg (kx (bAdd h153 rfl) (kx (mvO rfl) (Rn (hA h150 (hA h151 (hA h152 (hN rfl hZ)))) fun e159 h161 h162 h163 h164 => ?_)))))))
  clear h150 h151 h152 h154
  obtain rfl := si h
  exact qN ⟨h161, h162, h163, h164⟩
 refine cF h64 hb65 (xx (sE ?_))
 obtain rfl := si h
 exact qE ⟨rfl, trivial⟩
noncomputable def impl_ValidDebts (a1 : Int) (a2 : List Debt) : Option Bool :=
 (if (decide (a1 < 1)) = true then
  some true
 else
  if (decide (a1 > 16)) = true then
   some true
  else
   some (decide ((a2.length : Int) > 60))).bind fun y24 =>
 if y24 = true then
  some false
 else
  (Lw (impl_ValidDebts_b1 a1 a2) 0).bind fun r => match r with
  | (.inl _) =>
   some false
  | (.inr _) =>
   some true
def impl_ValidDebts_enc (r : Bool) : AV := .bool r
theorem impl_ValidDebts_ok (a1 : Int) (a2 : List Debt) (r : Bool) (h : impl_ValidDebts a1 a2 = some r) : Ev (fun k => CN k 114 [.int .i64 a1, .sl none (a2.map Debt.c)] []) (fun p => rRes p.2 p.1 = impl_ValidDebts_enc r) := by
 unfold impl_ValidDebts at h
 obtain ⟨r177, hr178, h⟩ := bind_some h
 refine Ev.enter (F := fun k => f114 (CN k) k) (fun k => callN_eq rfl Try.func114 rfl rfl rfl (by decide +kernel) (f114_eq _ _)) (sq (Rg (kx (mvO rfl) (Rn (hN rfl (hN rfl hZ)) fun e1 h3 h4 => sN (sq (sq ?_))))))
 refine Ev.cut (Q1 := impl_ValidDebts_c1_Q a1 a2 r177) (by
     have h := hr178
     refine Rg (kx (mvO h3) (kx (bLss rfl rfl) (kx (mvO rfl) ?_)))
     rcases ite_some h with ⟨hb5, h⟩ | ⟨hb5, h⟩
     ·refine kx (gsF rfl hb5) (kx (gsF rfl hb5) (kx (pkT rfl hb5 rfl) (kx (mvO rfl) (kx (gsF rfl rfl) (kx (gsF rfl rfl) (kx (gsF rfl rfl) (kx (pkT rfl rfl rfl) (Rn (hA h3 (hA h4 (hV (.bool true) rfl hZ))) fun e6 h8 h9 h10 => ?_))))))))
      clear h3 h4
      obtain rfl := si h
      exact kd (show impl_ValidDebts_c1_Q a1 a2 _ _ from ⟨rfl, h8, h9, h10⟩)
     refine kx (guF rfl hb5 (mvO h3)) (kx (guF rfl hb5 (bGtr rfl rfl)) (kx (pkF rfl hb5 rfl) (kx (mvO rfl) ?_)))
     rcases ite_some h with ⟨hb11, h⟩ | ⟨hb11, h⟩
     ·refine kx (gsF rfl hb11) (kx (gsF rfl hb11) (kx (gsF rfl hb11) (kx (pkT rfl hb11 rfl) (Rn (hA h3 (hA h4 (hV (.bool true) rfl hZ))) fun e12 h14 h15 h16 => ?_))))
      clear h3 h4
      obtain rfl := si h
      exact kd (show impl_ValidDebts_c1_Q a1 a2 _ _ from ⟨rfl, h14, h15, h16⟩)
     refine kx (guF rfl hb11 (mvO h4)) (kx (guF rfl hb11 (lnS Try.underlying57 rfl)) (kx (guF rfl hb11 (bGtr rfl rfl)) (kx (pkF rfl hb11 rfl) (Rn (hA h3 (hA h4 (hN rfl hZ))) fun e17 h19 h20 h21 => ?_))))
     clear h3 h4
     obtain rfl := si h
     exact kd (show impl_ValidDebts_c1_Q a1 a2 _ _ from ⟨rfl, h19, h20, h21⟩)) ?_
 revert h hr178
 revert r177
 intro y24 hr178 h
 intro x e22 M23 hq176
 obtain ⟨rfl, h25, h26, h27⟩ := hq176
 refine sN ?_
 rcases ite_some h with ⟨hb28, h⟩ | ⟨hb28, h⟩
 ·refine cT h27 hb28 (sq (Rg (kx (mvO rfl) (Rn (hV (.bool false) rfl hZ) fun e29 h31 => sN (xx (sR ?_))))))
  clear h25 h26 h27
  obtain rfl := si h
  exact eR (resT h31 res0) rfl
 obtain ⟨r165, hr166, h⟩ := bind_some h
 refine cF h27 hb28 (xx (sN (sq (sq (Rg (kx (mvO h26) (kx (lnS Try.underlying57 rfl) (kx (mvO rfl) (Rn (hA h25 (hN rfl (hN rfl (hV (.int .i64 0) rfl hZ)))) fun e32 h34 h35 h36 h37 => sN (bl ?_))))))))))
 clear h25 h26 h27
 rcases r165 with _ | _
 ·refine Ev.loop (RS := impl_ValidDebts_b1_RS a1 a2) (RR := impl_ValidDebts_b1_RR a1 a2) (fun s r h e M hs => impl_ValidDebts_b1_ok a1 a2 s r h e M hs) hr166 ⟨h34, h35, h36, h37⟩ fun x e168 M169 hq167 => ?_
  obtain ⟨rfl, h170⟩ := hq167
  refine bR (sR ?_)
  obtain rfl := si h
  exact eR (resT h170 res0) rfl
 refine Ev.loop (RS := impl_ValidDebts_b1_RS a1 a2) (RR := impl_ValidDebts_b1_RR a1 a2) (fun s r h e M hs => impl_ValidDebts_b1_ok a1 a2 s r h e M hs) hr166 ⟨h34, h35, h36, h37⟩ fun x e171 M172 hq167 => ?_
 obtain ⟨rfl, _⟩ := hq167
 refine bE (sN (sq (Rg (kx (mvO rfl) (Rn (hV (.bool true) rfl hZ) fun e173 h175 => sN (xx ?_))))))
 obtain rfl := si h
 exact eR (resT h175 res0) rfl
noncomputable def spec_l00In (a1 : Int) (a2 : Int) (a3 : Int) : Option Bool :=
 if (decide (a1 ≥ a2)) = true then
  some (decide (a1 ≤ a3))
 else
  some false
def spec_l00In_enc (r : Bool) : AV := .bool r
theorem spec_l00In_ok (a1 : Int) (a2 : Int) (a3 : Int) (r : Bool) (h : spec_l00In a1 a2 a3 = some r) : Ev (fun k => CN k 90 [.int .i64 a1, .int .i64 a2, .int .i64 a3] []) (fun p => rRes p.2 p.1 = spec_l00In_enc r) := by
 unfold spec_l00In at h
 refine Ev.enter (F := fun k => f90 (CN k) k) (fun k => callN_eq rfl Try.func90 rfl rfl rfl (by decide +kernel) (f90_eq _ _)) (sq (Rg (kx (mvO rfl) (Rn (hN rfl (hN rfl (hN rfl hZ))) fun e1 h3 h4 h5 => sN (sq (Rg (kx (mvO h3) (kx (mvO h4) (kx (bGeq rfl rfl) (kx (mvO rfl) ?_))))))))))
 rcases ite_some h with ⟨hb6, h⟩ | ⟨hb6, h⟩
 ·refine kx (guT rfl hb6 (mvO h3)) (kx (guT rfl hb6 (mvO h5)) (kx (guT rfl hb6 (bLeq rfl rfl)) (kx (pkT rfl hb6 rfl) (kx (mvO rfl) (Rn (hN rfl hZ) fun e7 h9 => sN (xx ?_))))))
  clear h3 h4 h5
  obtain rfl := si h
  exact eR (resT h9 res0) rfl
 refine kx (gsT rfl hb6) (kx (gsT rfl hb6) (kx (gsT rfl hb6) (kx (pkF rfl hb6 rfl) (kx (mvO rfl) (Rn (hV (.bool false) rfl hZ) fun e10 h12 => sN (xx ?_))))))
 clear h3 h4 h5
 obtain rfl := si h
 exact eR (resT h12 res0) rfl
noncomputable def spec_l02Person (a1 : Int) (a2 : Int) : Option Bool :=
 (spec_l00In a2 0 (IntKind.i64.wrap (a1 - 1))).bind fun r6 =>
 some r6
def spec_l02Person_enc (r : Bool) : AV := .bool r
theorem spec_l02Person_ok (a1 : Int) (a2 : Int) (r : Bool) (h : spec_l02Person a1 a2 = some r) : Ev (fun k => CN k 112 [.int .i64 a1, .int .i64 a2] []) (fun p => rRes p.2 p.1 = spec_l02Person_enc r) := by
 unfold spec_l02Person at h
 obtain ⟨r6, hx5, h⟩ := bind_some h
 refine Ev.enter (F := fun k => f112 (CN k) k) (fun k => callN_eq rfl Try.func112 rfl rfl rfl (by decide +kernel) (f112_eq _ _)) (sq (Rg (kx (mvO rfl) (Rn (hN rfl (hN rfl hZ)) fun e1 h3 h4 => sN (sq (Rg (kx (mvO h4) (kx (mvO h3) (kx (bSub rfl rfl) (kc (cl (v := .bool r6) rfl rfl (cns rfl (cns rfl (cns rfl rfl))) rfl (spec_l00In_ok a2 0 (IntKind.i64.wrap (a1 - 1)) _ hx5) nm) (kx (mvO rfl) (Rn (hN rfl hZ) fun e7 h9 => sN (xx ?_)))))))))))))
 clear h3 h4
 obtain rfl := si h
 exact eR (resT h9 res0) rfl
def spec_l07Refused_c1_Q (a1 : Book) (a2 : Deal) (r : Unit ⊕ Bool) (q : Out) : Prop :=
  match r with
  | (.inl g) => q.1 = .ret ∧ eget q.2.1 4 = .int .i64 2
  | (.inr g) => q.1 = .nrm ∧ eget q.2.1 0 = .pt none [.int .i64 a1.Day, .sl none (a1.Cash.map (cI .i64)), .sl none (a1.Tallies.map Tally.c)] ∧ eget q.2.1 1 = .pt none [.int .i64 a2.Day, .int .i8 a2.Kind, .int .i64 a2.Tally, .int .i64 a2.From, .int .i64 a2.To, .int .i64 a2.Amount] ∧ eget q.2.1 55 = .bool g
def spec_l07Refused_c2_Q (a1 : Book) (a2 : Deal) (x91 : Tally) (r : Unit ⊕ Unit) (q : Out) : Prop :=
  match r with
  | (.inl g) => q.1 = .ret ∧ eget q.2.1 4 = .int .i64 4
  | (.inr g) => q.1 = .nrm ∧ eget q.2.1 0 = .pt none [.int .i64 a1.Day, .sl none (a1.Cash.map (cI .i64)), .sl none (a1.Tallies.map Tally.c)] ∧ eget q.2.1 1 = .pt none [.int .i64 a2.Day, .int .i8 a2.Kind, .int .i64 a2.Tally, .int .i64 a2.From, .int .i64 a2.To, .int .i64 a2.Amount] ∧ eget q.2.1 6 = .pt none [.int .i64 x91.Debtor, .int .i64 x91.Holder, .int .i64 x91.Cut, .int .i64 x91.Amount, .int .i64 x91.Left] ∧ eget q.2.1 136 = .bool (decide (a2.Amount > x91.Left))
def spec_l07Refused_c3_Q (a1 : Book) (a2 : Deal) (x91 : Tally) (g : Bool) (q : Out) : Prop := q.1 = .nrm ∧ eget q.2.1 0 = .pt none [.int .i64 a1.Day, .sl none (a1.Cash.map (cI .i64)), .sl none (a1.Tallies.map Tally.c)] ∧ eget q.2.1 1 = .pt none [.int .i64 a2.Day, .int .i8 a2.Kind, .int .i64 a2.Tally, .int .i64 a2.From, .int .i64 a2.To, .int .i64 a2.Amount] ∧ eget q.2.1 6 = .pt none [.int .i64 x91.Debtor, .int .i64 x91.Holder, .int .i64 x91.Cut, .int .i64 x91.Amount, .int .i64 x91.Left] ∧ eget q.2.1 158 = .bool g
noncomputable def spec_l07Refused (a1 : Book) (a2 : Deal) : Option Int :=
 if (decide (a2.Day < a1.Day)) = true then
  some 4
 else
  (((spec_l02Person (a1.Cash.length : Int) a2.From).bind fun r21 =>
  if r21 = true then
   (spec_l02Person (a1.Cash.length : Int) a2.To).bind fun r24 =>
   if r24 = true then
    if (a2.Kind != 1) = true then
     if (decide (a2.Tally ≥ (a1.Tallies.length : Int))) = true then
      some (.inl ())
     else
      some (.inr (decide (a2.Tally ≥ (a1.Tallies.length : Int))))
    else
     some (.inr false)
   else
    some (.inl ())
  else
   some (.inl ()) : Option (Unit ⊕ Bool))).bind fun r => match r with
  | (.inl _) =>
   some 2
  | (.inr y63) =>
   if (a2.Kind == 1) = true then
    if (a2.From == a2.To) = true then
     some 4
    else
     if ((a1.Tallies.length : Int) == 40) = true then
      some 3
     else
      some 0
   else
    (rd a1.Tallies a2.Tally).bind fun x91 =>
    ((if (a2.Kind == 2) = true then
     if (a2.From == a2.To) = true then
      some (.inl ())
     else
      if (a2.Kind != 3) = true then
       if (a2.From != x91.Holder) = true then
        some (.inl ())
       else
        if (x91.Left == 0) = true then
         some (.inl ())
        else
         if (decide (a2.Amount > x91.Left)) = true then
          some (.inl ())
         else
          some (.inr ())
      else
       if (x91.Left == 0) = true then
        some (.inl ())
       else
        if (decide (a2.Amount > x91.Left)) = true then
         some (.inl ())
        else
         some (.inr ())
    else
     if (a2.Kind != 3) = true then
      if (a2.From != x91.Holder) = true then
       some (.inl ())
      else
       if (x91.Left == 0) = true then
        some (.inl ())
       else
        if (decide (a2.Amount > x91.Left)) = true then
         some (.inl ())
        else
         some (.inr ())
     else
      if (x91.Left == 0) = true then
       some (.inl ())
      else
       if (decide (a2.Amount > x91.Left)) = true then
        some (.inl ())
       else
        some (.inr ()) : Option (Unit ⊕ Unit))).bind fun r => match r with
    | (.inl _) =>
     some 4
    | (.inr _) =>
     (if (a2.Kind == 3) = true then
      (rd a1.Cash x91.Debtor).bind fun x222 =>
      some (decide (x222 < a2.Amount))
     else
      some false).bind fun y238 =>
     if y238 = true then
      some 8
     else
      if (a2.Kind == 3) = true then
       (rd a1.Cash x91.Holder).bind fun x248 =>
       if (decide ((IntKind.i64.wrap (x248 + a2.Amount)) > 100000000)) = true then
        some 3
       else
        some 0
      else
       some 0
def spec_l07Refused_enc (r : Int) : AV := .int .i64 r
theorem spec_l07Refused_ok (a1 : Book) (a2 : Deal) (r : Int) (h : spec_l07Refused a1 a2 = some r) : Ev (fun k => CN k 113 [.pt none [.int .i64 a1.Day, .sl none (a1.Cash.map (cI .i64)), .sl none (a1.Tallies.map Tally.c)], .pt none [.int .i64 a2.Day, .int .i8 a2.Kind, .int .i64 a2.Tally, .int .i64 a2.From, .int .i64 a2.To, .int .i64 a2.Amount]] []) (fun p => rRes p.2 p.1 = spec_l07Refused_enc r) := by
 unfold spec_l07Refused at h
 refine Ev.enter (F := fun k => f113 (CN k) k) (fun k => callN_eq rfl Try.func113 rfl rfl rfl (by decide +kernel) (f113_eq _ _)) (sq (Rg (kx (mvO rfl) (Rn (hN rfl (hN rfl hZ)) fun e1 h3 h4 => sN (sq (Rg (kx (mvO h3) (kx (ncP rfl) (kx (faP rfl ⟨ble rfl, blt rfl⟩ rfl) (kx (ldP rfl rfl) (kx (lnS Try.underlying24 rfl) (kx (mvO rfl) (Rn (hA h3 (hA h4 (hN rfl hZ))) fun e5 h7 h8 h9 => sN (sq (sq (Rd (kf (mvO h8) (kf (ncP rfl) (kf (faP rfl ⟨ble rfl, blt rfl⟩ rfl) (kf (ldP rfl rfl) (kf (mvO h7) (kf (ncP rfl) (kf (faP rfl ⟨ble rfl, blt rfl⟩ rfl) (kf (ldP rfl rfl) (kf (bLss rfl rfl) (fZ (Rn (hA h7 (hA h8 (hA h9 (hN rfl hZ)))) fun e10 h12 h13 h14 h15 => sN ?_)))))))))))))))))))))))))))
 clear h3 h4 h7 h8 h9
 rcases ite_some h with ⟨hb16, h⟩ | ⟨hb16, h⟩
 ·refine cT h15 hb16 (sq (Rg (kx (mvO rfl) (Rn (hV (.int .i64 4) rfl hZ) fun e17 h19 => sN (xx (sR ?_))))))
  clear h12 h13 h14 h15
  obtain rfl := si h
  exact eR (resT h19 res0) rfl
 obtain ⟨r273, hr274, h⟩ := bind_some h
 refine cF h15 hb16 (xx (sN (sq ?_)))
 refine Ev.cut (Q1 := spec_l07Refused_c1_Q a1 a2 r273) (by
     have h := hr274
     obtain ⟨r21, hx20, h⟩ := bind_some h
     refine sq (Rd (kf (mvO h14) (kf (mvO h13) (kf (ncP rfl) (kf (faP rfl ⟨ble rfl, blt rfl⟩ rfl) (kf (ldP rfl rfl) (fc (cl (v := .bool r21) rfl rfl (cns rfl (cns rfl rfl)) rfl (spec_l02Person_ok (a1.Cash.length : Int) a2.From _ hx20) nm) (kf (uNot rfl) (kf (mvO rfl) ?_)))))))))
     rcases ite_some h with ⟨hb22, h⟩ | ⟨hb22, h⟩
     ·obtain ⟨r24, hx23, h⟩ := bind_some h
      refine kf (guF rfl (congrArg Bool.not hb22) (mvO h14)) (kf (guF rfl (congrArg Bool.not hb22) (mvO h13)) (kf (guF rfl (congrArg Bool.not hb22) (ncP rfl)) (kf (guF rfl (congrArg Bool.not hb22) (faP rfl ⟨ble rfl, blt rfl⟩ rfl)) (kf (guF rfl (congrArg Bool.not hb22) (ldP rfl rfl)) (fc (Ev.guF rfl (congrArg Bool.not hb22) (cl (v := .bool r24) rfl rfl (cns rfl (cns rfl rfl)) rfl (spec_l02Person_ok (a1.Cash.length : Int) a2.To _ hx23) nm)) (kf (guF rfl (congrArg Bool.not hb22) (uNot rfl)) (kf (pkF rfl (congrArg Bool.not hb22) rfl) (kf (mvO rfl) ?_))))))))
      rcases ite_some h with ⟨hb25, h⟩ | ⟨hb25, h⟩
      ·refine kf (guF rfl (congrArg Bool.not hb25) (mvO h13)) (kf (guF rfl (congrArg Bool.not hb25) (ncP rfl)) (kf (guF rfl (congrArg Bool.not hb25) (faP rfl ⟨ble rfl, blt rfl⟩ rfl)) (kf (guF rfl (congrArg Bool.not hb25) (ldP rfl rfl)) (kf (guF rfl (congrArg Bool.not hb25) (bNeq rfl rfl)) (kf (guF rfl (congrArg Bool.not hb25) (mvO rfl)) ?_)))))
       rcases ite_some h with ⟨hb26, h⟩ | ⟨hb26, h⟩
       ·refine kf (guT rfl hb26 (mvO h13)) (kf (guT rfl hb26 (ncP rfl)) (kf (guT rfl hb26 (faP rfl ⟨ble rfl, blt rfl⟩ rfl)) (kf (guT rfl hb26 (ldP rfl rfl)) (kf (guT rfl hb26 (mvO h12)) (kf (guT rfl hb26 (ncP rfl)) (kf (guT rfl hb26 (faP rfl ⟨ble rfl, blt rfl⟩ rfl)) (kf (guT rfl hb26 (ldP rfl rfl)) (kf (guT rfl hb26 (lnS Try.underlying25 rfl)) (kf (guT rfl hb26 (bGeq rfl rfl)) (kf (guF rfl (congrArg Bool.not hb25) (pkT rfl hb26 rfl)) (kf (pkF rfl (congrArg Bool.not hb25) rfl) (fZ (Rn (hA h12 (hA h13 (hN rfl hZ))) fun e27 h29 h30 h31 => sN ?_)))))))))))))
        clear h12 h13 h14 h15
        rcases ite_some h with ⟨hb32, h⟩ | ⟨hb32, h⟩
        ·refine cT h31 hb32 (sq (Rg (kx (mvO rfl) (Rn (hV (.int .i64 2) rfl hZ) fun e33 h35 => sN (xx ?_)))))
         clear h29 h30 h31
         obtain rfl := si h
         exact kd (show spec_l07Refused_c1_Q a1 a2 _ _ from ⟨rfl, h35⟩)
        refine cF h31 hb32 (xx ?_)
        obtain rfl := si h
        exact kd (show spec_l07Refused_c1_Q a1 a2 _ _ from ⟨rfl, h29, h30, h31⟩)
       refine kf (gsT rfl hb26) (kf (gsT rfl hb26) (kf (gsT rfl hb26) (kf (gsT rfl hb26) (kf (gsT rfl hb26) (kf (gsT rfl hb26) (kf (gsT rfl hb26) (kf (gsT rfl hb26) (kf (gsT rfl hb26) (kf (gsT rfl hb26) (kf (guF rfl (congrArg Bool.not hb25) (pkF rfl hb26 rfl)) (kf (pkF rfl (congrArg Bool.not hb25) rfl) (fZ (Rn (hA h12 (hA h13 (hV (.bool false) rfl hZ))) fun e36 h38 h39 h40 => sN (cF h40 rfl (xx ?_)))))))))))))))
       clear h12 h13 h14 h15
       obtain rfl := si h
       exact kd (show spec_l07Refused_c1_Q a1 a2 _ _ from ⟨rfl, h38, h39, h40⟩)
      refine kf (gsF rfl (congrArg Bool.not hb25)) (kf (gsF rfl (congrArg Bool.not hb25)) (kf (gsF rfl (congrArg Bool.not hb25)) (kf (gsF rfl (congrArg Bool.not hb25)) (kf (gsF rfl (congrArg Bool.not hb25)) (kf (gsF rfl (congrArg Bool.not hb25)) (kf (gsU rfl) (kf (gsU rfl) (kf (gsU rfl) (kf (gsU rfl) (kf (gsU rfl) (kf (gsU rfl) (kf (gsU rfl) (kf (gsU rfl) (kf (gsU rfl) (kf (gsU rfl) (kf (gsF rfl (congrArg Bool.not hb25)) (kf (pkT rfl (congrArg Bool.not hb25) rfl) (fZ (Rn (hA h12 (hA h13 (hV (.bool true) rfl hZ))) fun e41 h43 h44 h45 => sN (cT h45 rfl (sq (Rg (kx (mvO rfl) (Rn (hV (.int .i64 2) rfl hZ) fun e46 h48 => sN (xx ?_)))))))))))))))))))))))))
      clear h12 h13 h14 h15 h43 h44 h45
      obtain rfl := si h
      exact kd (show spec_l07Refused_c1_Q a1 a2 _ _ from ⟨rfl, h48⟩)
     refine kf (gsF rfl (congrArg Bool.not hb22)) (kf (gsF rfl (congrArg Bool.not hb22)) (kf (gsF rfl (congrArg Bool.not hb22)) (kf (gsF rfl (congrArg Bool.not hb22)) (kf (gsF rfl (congrArg Bool.not hb22)) (fc (Ev.gsF rfl (congrArg Bool.not hb22)) (kf (gsF rfl (congrArg Bool.not hb22)) (kf (pkT rfl (congrArg Bool.not hb22) rfl) (kf (mvO rfl) (kf (gsF rfl rfl) (kf (gsF rfl rfl) (kf (gsF rfl rfl) (kf (gsF rfl rfl) (kf (gsF rfl rfl) (kf (gsF rfl rfl) (kf (gsU rfl) (kf (gsU rfl) (kf (gsU rfl) (kf (gsU rfl) (kf (gsU rfl) (kf (gsU rfl) (kf (gsU rfl) (kf (gsU rfl) (kf (gsU rfl) (kf (gsU rfl) (kf (gsF rfl rfl) (kf (pkT rfl rfl rfl) (fZ (Rn (hA h12 (hA h13 (hV (.bool true) rfl hZ))) fun e49 h51 h52 h53 => sN (cT h53 rfl (sq (Rg (kx (mvO rfl) (Rn (hV (.int .i64 2) rfl hZ) fun e54 h56 => sN (xx ?_))))))))))))))))))))))))))))))))))
     clear h12 h13 h14 h15 h51 h52 h53
     obtain rfl := si h
     exact kd (show spec_l07Refused_c1_Q a1 a2 _ _ from ⟨rfl, h56⟩)) ?_
 rcases r273 with _ | y63
 ·intro x e57 M58 hq60
  obtain ⟨rfl, h59⟩ := hq60
  refine sR ?_
  obtain rfl := si h
  exact eR (resT h59 res0) rfl
 intro x e61 M62 hq272
 obtain ⟨rfl, h64, h65, h66⟩ := hq272
 refine sN (sq (sq (Rg (kx (mvO h65) (kx (ncP rfl) (kx (faP rfl ⟨ble rfl, blt rfl⟩ rfl) (kx (ldP rfl rfl) (kx (bEql rfl rfl) (Rn (hV (.pt none [.int .i64 a1.Day, .sl none (a1.Cash.map (cI .i64)), .sl none (a1.Tallies.map Tally.c)]) h64 (hV (.pt none [.int .i64 a2.Day, .int .i8 a2.Kind, .int .i64 a2.Tally, .int .i64 a2.From, .int .i64 a2.To, .int .i64 a2.Amount]) h65 (hN rfl hZ))) fun e67 h69 h70 h71 => sN ?_)))))))))
 clear h64 h65 h66
 rcases ite_some h with ⟨hb72, h⟩ | ⟨hb72, h⟩
 ·refine cT h71 hb72 (sq (sq (Rd (kf (mvO h70) (kf (ncP rfl) (kf (faP rfl ⟨ble rfl, blt rfl⟩ rfl) (kf (ldP rfl rfl) (kf (mvO h70) (kf (ncP rfl) (kf (faP rfl ⟨ble rfl, blt rfl⟩ rfl) (kf (ldP rfl rfl) (kf (bEql rfl rfl) (fZ (Rn (hA h69 (hN rfl hZ)) fun e73 h75 h76 => sN ?_))))))))))))))
  clear h69 h70 h71
  rcases ite_some h with ⟨hb77, h⟩ | ⟨hb77, h⟩
  ·refine cT h76 hb77 (sq (Rg (kx (mvO rfl) (Rn (hV (.int .i64 4) rfl hZ) fun e78 h80 => sN (xx (sR (sR ?_)))))))
   clear h75 h76
   obtain rfl := si h
   exact eR (resT h80 res0) rfl
  refine cF h76 hb77 (xx (sN (sq (sq (Rg (kx (mvO h75) (kx (ncP rfl) (kx (faP rfl ⟨ble rfl, blt rfl⟩ rfl) (kx (ldP rfl rfl) (kx (lnS Try.underlying25 rfl) (kx (bEql rfl rfl) (Rn (hN rfl hZ) fun e81 h83 => sN ?_))))))))))))
  clear h75 h76
  rcases ite_some h with ⟨hb84, h⟩ | ⟨hb84, h⟩
  ·refine cT h83 hb84 (sq (Rg (kx (mvO rfl) (Rn (hV (.int .i64 3) rfl hZ) fun e85 h87 => sN (xx (sR (sR ?_)))))))
   clear h83
   obtain rfl := si h
   exact eR (resT h87 res0) rfl
  refine cF h83 hb84 (xx (sN (sq (Rg (kx (mvO rfl) (Rn (hV (.int .i64 0) rfl hZ) fun e88 h90 => sN (xx (sR ?_))))))))
  clear h83
  obtain rfl := si h
  exact eR (resT h90 res0) rfl
 obtain ⟨x91, hx92, h⟩ := bind_some h
 obtain ⟨r270, hr271, h⟩ := bind_some h
 refine cF h71 hb72 (xx (sN (sq (Rd (kf (mvO h69) (kf (ncP rfl) (kf (faP rfl ⟨ble rfl, blt rfl⟩ rfl) (kf (ldP rfl rfl) (kf (mvO h70) (kf (ncP rfl) (kf (faP rfl ⟨ble rfl, blt rfl⟩ rfl) (kf (ldP rfl rfl) (kf (ixS rfl rfl hx92 Tally.fl) (kf (mvO rfl) (fZ (Rn (hA h69 (hA h70 (hN rfl hZ))) fun e93 h95 h96 h97 => sN (sq ?_)))))))))))))))))
 clear h69 h70 h71
 refine Ev.cut (Q1 := spec_l07Refused_c2_Q a1 a2 x91 r270) (by
     have h := hr271
     refine sq (Rd (kf (mvO h96) (kf (ncP rfl) (kf (faP rfl ⟨ble rfl, blt rfl⟩ rfl) (kf (ldP rfl rfl) (kf (bEql rfl rfl) (kf (mvO rfl) ?_)))))))
     rcases ite_some h with ⟨hb98, h⟩ | ⟨hb98, h⟩
     ·refine kf (guT rfl hb98 (mvO h96)) (kf (guT rfl hb98 (ncP rfl)) (kf (guT rfl hb98 (faP rfl ⟨ble rfl, blt rfl⟩ rfl)) (kf (guT rfl hb98 (ldP rfl rfl)) (kf (guT rfl hb98 (mvO h96)) (kf (guT rfl hb98 (ncP rfl)) (kf (guT rfl hb98 (faP rfl ⟨ble rfl, blt rfl⟩ rfl)) (kf (guT rfl hb98 (ldP rfl rfl)) (kf (guT rfl hb98 (bEql rfl rfl)) (kf (pkT rfl hb98 rfl) (kf (mvO rfl) ?_))))))))))
      rcases ite_some h with ⟨hb99, h⟩ | ⟨hb99, h⟩
      ·refine kf (gsF rfl hb99) (kf (gsF rfl hb99) (kf (gsF rfl hb99) (kf (gsF rfl hb99) (kf (gsF rfl hb99) (kf (gsF rfl hb99) (kf (gsU rfl) (kf (gsU rfl) (kf (gsU rfl) (kf (gsU rfl) (kf (gsU rfl) (kf (gsU rfl) (kf (gsU rfl) (kf (gsU rfl) (kf (gsU rfl) (kf (gsF rfl hb99) (kf (pkT rfl hb99 rfl) (kf (mvO rfl) (kf (gsF rfl rfl) (kf (gsF rfl rfl) (kf (gsF rfl rfl) (kf (gsF rfl rfl) (kf (gsF rfl rfl) (kf (pkT rfl rfl rfl) (kf (mvO rfl) (kf (gsF rfl rfl) (kf (gsF rfl rfl) (kf (gsF rfl rfl) (kf (gsF rfl rfl) (kf (gsF rfl rfl) (kf (gsF rfl rfl) (kf (gsF rfl rfl) (kf (gsF rfl rfl) (kf (gsF rfl rfl) (kf (pkT rfl rfl rfl) (fZ (Rn (hA h95 (hA h96 (hA h97 (hV (.bool true) rfl hZ)))) fun e100 h102 h103 h104 h105 => sN (cT h105 rfl (sq (Rg (kx (mvO rfl) (Rn (hV (.int .i64 4) rfl hZ) fun e106 h108 => sN (xx ?_))))))))))))))))))))))))))))))))))))))))))
       clear h95 h96 h97 h102 h103 h104 h105
       obtain rfl := si h
       exact kd (show spec_l07Refused_c2_Q a1 a2 x91 _ _ from ⟨rfl, h108⟩)
      refine kf (guF rfl hb99 (mvO h96)) (kf (guF rfl hb99 (ncP rfl)) (kf (guF rfl hb99 (faP rfl ⟨ble rfl, blt rfl⟩ rfl)) (kf (guF rfl hb99 (ldP rfl rfl)) (kf (guF rfl hb99 (bNeq rfl rfl)) (kf (guF rfl hb99 (mvO rfl)) ?_)))))
      rcases ite_some h with ⟨hb109, h⟩ | ⟨hb109, h⟩
      ·refine kf (guT rfl hb109 (mvO h96)) (kf (guT rfl hb109 (ncP rfl)) (kf (guT rfl hb109 (faP rfl ⟨ble rfl, blt rfl⟩ rfl)) (kf (guT rfl hb109 (ldP rfl rfl)) (kf (guT rfl hb109 (mvO h97)) (kf (guT rfl hb109 (ncP rfl)) (kf (guT rfl hb109 (faP rfl ⟨ble rfl, blt rfl⟩ rfl)) (kf (guT rfl hb109 (ldP rfl rfl)) (kf (guT rfl hb109 (bNeq rfl rfl)) (kf (guF rfl hb99 (pkT rfl hb109 rfl)) (kf (pkF rfl hb99 rfl) (kf (mvO rfl) ?_)))))))))))
       rcases ite_some h with ⟨hb110, h⟩ | ⟨hb110, h⟩
       ·refine kf (gsF rfl hb110) (kf (gsF rfl hb110) (kf (gsF rfl hb110) (kf (gsF rfl hb110) (kf (gsF rfl hb110) (kf (pkT rfl hb110 rfl) (kf (mvO rfl) (kf (gsF rfl rfl) (kf (gsF rfl rfl) (kf (gsF rfl rfl) (kf (gsF rfl rfl) (kf (gsF rfl rfl) (kf (gsF rfl rfl) (kf (gsF rfl rfl) (kf (gsF rfl rfl) (kf (gsF rfl rfl) (kf (pkT rfl rfl rfl) (fZ (Rn (hA h95 (hA h96 (hA h97 (hV (.bool true) rfl hZ)))) fun e111 h113 h114 h115 h116 => sN (cT h116 rfl (sq (Rg (kx (mvO rfl) (Rn (hV (.int .i64 4) rfl hZ) fun e117 h119 => sN (xx ?_))))))))))))))))))))))))
        clear h95 h96 h97 h113 h114 h115 h116
        obtain rfl := si h
        exact kd (show spec_l07Refused_c2_Q a1 a2 x91 _ _ from ⟨rfl, h119⟩)
       refine kf (guF rfl hb110 (mvO h97)) (kf (guF rfl hb110 (ncP rfl)) (kf (guF rfl hb110 (faP rfl ⟨ble rfl, blt rfl⟩ rfl)) (kf (guF rfl hb110 (ldP rfl rfl)) (kf (guF rfl hb110 (bEql rfl rfl)) (kf (pkF rfl hb110 rfl) (kf (mvO rfl) ?_))))))
       rcases ite_some h with ⟨hb120, h⟩ | ⟨hb120, h⟩
       ·refine kf (gsF rfl hb120) (kf (gsF rfl hb120) (kf (gsF rfl hb120) (kf (gsF rfl hb120) (kf (gsF rfl hb120) (kf (gsF rfl hb120) (kf (gsF rfl hb120) (kf (gsF rfl hb120) (kf (gsF rfl hb120) (kf (pkT rfl hb120 rfl) (fZ (Rn (hA h95 (hA h96 (hA h97 (hV (.bool true) rfl hZ)))) fun e121 h123 h124 h125 h126 => sN (cT h126 rfl (sq (Rg (kx (mvO rfl) (Rn (hV (.int .i64 4) rfl hZ) fun e127 h129 => sN (xx ?_)))))))))))))))))
        clear h95 h96 h97 h123 h124 h125 h126
        obtain rfl := si h
        exact kd (show spec_l07Refused_c2_Q a1 a2 x91 _ _ from ⟨rfl, h129⟩)
       refine kf (guF rfl hb120 (mvO h96)) (kf (guF rfl hb120 (ncP rfl)) (kf (guF rfl hb120 (faP rfl ⟨ble rfl, blt rfl⟩ rfl)) (kf (guF rfl hb120 (ldP rfl rfl)) (kf (guF rfl hb120 (mvO h97)) (kf (guF rfl hb120 (ncP rfl)) (kf (guF rfl hb120 (faP rfl ⟨ble rfl, blt rfl⟩ rfl)) (kf (guF rfl hb120 (ldP rfl rfl)) (kf (guF rfl hb120 (bGtr rfl rfl)) (kf (pkF rfl hb120 rfl) (fZ (Rn (hA h95 (hA h96 (hA h97 (hN rfl hZ)))) fun e130 h132 h133 h134 h135 => sN ?_)))))))))))
       clear h95 h96 h97
       rcases ite_some h with ⟨hb136, h⟩ | ⟨hb136, h⟩
       ·refine cT h135 hb136 (sq (Rg (kx (mvO rfl) (Rn (hV (.int .i64 4) rfl hZ) fun e137 h139 => sN (xx ?_)))))
        clear h132 h133 h134 h135
        obtain rfl := si h
        exact kd (show spec_l07Refused_c2_Q a1 a2 x91 _ _ from ⟨rfl, h139⟩)
       refine cF h135 hb136 (xx ?_)
       obtain rfl := si h
       exact kd (show spec_l07Refused_c2_Q a1 a2 x91 _ _ from ⟨rfl, h132, h133, h134, h135⟩)
      refine kf (gsT rfl hb109) (kf (gsT rfl hb109) (kf (gsT rfl hb109) (kf (gsT rfl hb109) (kf (gsT rfl hb109) (kf (gsT rfl hb109) (kf (gsT rfl hb109) (kf (gsT rfl hb109) (kf (gsT rfl hb109) (kf (guF rfl hb99 (pkF rfl hb109 rfl)) (kf (pkF rfl hb99 rfl) (kf (mvO rfl) (kf (guF rfl rfl (mvO h97)) (kf (guF rfl rfl (ncP rfl)) (kf (guF rfl rfl (faP rfl ⟨ble rfl, blt rfl⟩ rfl)) (kf (guF rfl rfl (ldP rfl rfl)) (kf (guF rfl rfl (bEql rfl rfl)) (kf (pkF rfl rfl rfl) (kf (mvO rfl) ?_))))))))))))))))))
      rcases ite_some h with ⟨hb140, h⟩ | ⟨hb140, h⟩
      ·refine kf (gsF rfl hb140) (kf (gsF rfl hb140) (kf (gsF rfl hb140) (kf (gsF rfl hb140) (kf (gsF rfl hb140) (kf (gsF rfl hb140) (kf (gsF rfl hb140) (kf (gsF rfl hb140) (kf (gsF rfl hb140) (kf (pkT rfl hb140 rfl) (fZ (Rn (hA h95 (hA h96 (hA h97 (hV (.bool true) rfl hZ)))) fun e141 h143 h144 h145 h146 => sN (cT h146 rfl (sq (Rg (kx (mvO rfl) (Rn (hV (.int .i64 4) rfl hZ) fun e147 h149 => sN (xx ?_)))))))))))))))))
       clear h95 h96 h97 h143 h144 h145 h146
       obtain rfl := si h
       exact kd (show spec_l07Refused_c2_Q a1 a2 x91 _ _ from ⟨rfl, h149⟩)
      refine kf (guF rfl hb140 (mvO h96)) (kf (guF rfl hb140 (ncP rfl)) (kf (guF rfl hb140 (faP rfl ⟨ble rfl, blt rfl⟩ rfl)) (kf (guF rfl hb140 (ldP rfl rfl)) (kf (guF rfl hb140 (mvO h97)) (kf (guF rfl hb140 (ncP rfl)) (kf (guF rfl hb140 (faP rfl ⟨ble rfl, blt rfl⟩ rfl)) (kf (guF rfl hb140 (ldP rfl rfl)) (kf (guF rfl hb140 (bGtr rfl rfl)) (kf (pkF rfl hb140 rfl) (fZ (Rn (hA h95 (hA h96 (hA h97 (hN rfl hZ)))) fun e150 h152 h153 h154 h155 => sN ?_)))))))))))
      clear h95 h96 h97
      rcases ite_some h with ⟨hb156, h⟩ | ⟨hb156, h⟩
      ·refine cT h155 hb156 (sq (Rg (kx (mvO rfl) (Rn (hV (.int .i64 4) rfl hZ) fun e157 h159 => sN (xx ?_)))))
       clear h152 h153 h154 h155
       obtain rfl := si h
       exact kd (show spec_l07Refused_c2_Q a1 a2 x91 _ _ from ⟨rfl, h159⟩)
      refine cF h155 hb156 (xx ?_)
      obtain rfl := si h
      exact kd (show spec_l07Refused_c2_Q a1 a2 x91 _ _ from ⟨rfl, h152, h153, h154, h155⟩)
     refine kf (gsT rfl hb98) (kf (gsT rfl hb98) (kf (gsT rfl hb98) (kf (gsT rfl hb98) (kf (gsT rfl hb98) (kf (gsT rfl hb98) (kf (gsT rfl hb98) (kf (gsT rfl hb98) (kf (gsT rfl hb98) (kf (pkF rfl hb98 rfl) (kf (mvO rfl) (kf (guF rfl rfl (mvO h96)) (kf (guF rfl rfl (ncP rfl)) (kf (guF rfl rfl (faP rfl ⟨ble rfl, blt rfl⟩ rfl)) (kf (guF rfl rfl (ldP rfl rfl)) (kf (guF rfl rfl (bNeq rfl rfl)) (kf (guF rfl rfl (mvO rfl)) ?_))))))))))))))))
     rcases ite_some h with ⟨hb160, h⟩ | ⟨hb160, h⟩
     ·refine kf (guT rfl hb160 (mvO h96)) (kf (guT rfl hb160 (ncP rfl)) (kf (guT rfl hb160 (faP rfl ⟨ble rfl, blt rfl⟩ rfl)) (kf (guT rfl hb160 (ldP rfl rfl)) (kf (guT rfl hb160 (mvO h97)) (kf (guT rfl hb160 (ncP rfl)) (kf (guT rfl hb160 (faP rfl ⟨ble rfl, blt rfl⟩ rfl)) (kf (guT rfl hb160 (ldP rfl rfl)) (kf (guT rfl hb160 (bNeq rfl rfl)) (kf (guF rfl rfl (pkT rfl hb160 rfl)) (kf (pkF rfl rfl rfl) (kf (mvO rfl) ?_)))))))))))
      rcases ite_some h with ⟨hb161, h⟩ | ⟨hb161, h⟩
      ·refine kf (gsF rfl hb161) (kf (gsF rfl hb161) (kf (gsF rfl hb161) (kf (gsF rfl hb161) (kf (gsF rfl hb161) (kf (pkT rfl hb161 rfl) (kf (mvO rfl) (kf (gsF rfl rfl) (kf (gsF rfl rfl) (kf (gsF rfl rfl) (kf (gsF rfl rfl) (kf (gsF rfl rfl) (kf (gsF rfl rfl) (kf (gsF rfl rfl) (kf (gsF rfl rfl) (kf (gsF rfl rfl) (kf (pkT rfl rfl rfl) (fZ (Rn (hA h95 (hA h96 (hA h97 (hV (.bool true) rfl hZ)))) fun e162 h164 h165 h166 h167 => sN (cT h167 rfl (sq (Rg (kx (mvO rfl) (Rn (hV (.int .i64 4) rfl hZ) fun e168 h170 => sN (xx ?_))))))))))))))))))))))))
       clear h95 h96 h97 h164 h165 h166 h167
       obtain rfl := si h
       exact kd (show spec_l07Refused_c2_Q a1 a2 x91 _ _ from ⟨rfl, h170⟩)
      refine kf (guF rfl hb161 (mvO h97)) (kf (guF rfl hb161 (ncP rfl)) (kf (guF rfl hb161 (faP rfl ⟨ble rfl, blt rfl⟩ rfl)) (kf (guF rfl hb161 (ldP rfl rfl)) (kf (guF rfl hb161 (bEql rfl rfl)) (kf (pkF rfl hb161 rfl) (kf (mvO rfl) ?_))))))
      rcases ite_some h with ⟨hb171, h⟩ | ⟨hb171, h⟩
      ·refine kf (gsF rfl hb171) (kf (gsF rfl hb171) (kf (gsF rfl hb171) (kf (gsF rfl hb171) (kf (gsF rfl hb171) (kf (gsF rfl hb171) (kf (gsF rfl hb171) (kf (gsF rfl hb171) (kf (gsF rfl hb171) (kf (pkT rfl hb171 rfl) (fZ (Rn (hA h95 (hA h96 (hA h97 (hV (.bool true) rfl hZ)))) fun e172 h174 h175 h176 h177 => sN (cT h177 rfl (sq (Rg (kx (mvO rfl) (Rn (hV (.int .i64 4) rfl hZ) fun e178 h180 => sN (xx ?_)))))))))))))))))
       clear h95 h96 h97 h174 h175 h176 h177
       obtain rfl := si h
       exact kd (show spec_l07Refused_c2_Q a1 a2 x91 _ _ from ⟨rfl, h180⟩)
      refine kf (guF rfl hb171 (mvO h96)) (kf (guF rfl hb171 (ncP rfl)) (kf (guF rfl hb171 (faP rfl ⟨ble rfl, blt rfl⟩ rfl)) (kf (guF rfl hb171 (ldP rfl rfl)) (kf (guF rfl hb171 (mvO h97)) (kf (guF rfl hb171 (ncP rfl)) (kf (guF rfl hb171 (faP rfl ⟨ble rfl, blt rfl⟩ rfl)) (kf (guF rfl hb171 (ldP rfl rfl)) (kf (guF rfl hb171 (bGtr rfl rfl)) (kf (pkF rfl hb171 rfl) (fZ (Rn (hA h95 (hA h96 (hA h97 (hN rfl hZ)))) fun e181 h183 h184 h185 h186 => sN ?_)))))))))))
      clear h95 h96 h97
      rcases ite_some h with ⟨hb187, h⟩ | ⟨hb187, h⟩
      ·refine cT h186 hb187 (sq (Rg (kx (mvO rfl) (Rn (hV (.int .i64 4) rfl hZ) fun e188 h190 => sN (xx ?_)))))
       clear h183 h184 h185 h186
       obtain rfl := si h
       exact kd (show spec_l07Refused_c2_Q a1 a2 x91 _ _ from ⟨rfl, h190⟩)
      refine cF h186 hb187 (xx ?_)
      obtain rfl := si h
      exact kd (show spec_l07Refused_c2_Q a1 a2 x91 _ _ from ⟨rfl, h183, h184, h185, h186⟩)
     refine kf (gsT rfl hb160) (kf (gsT rfl hb160) (kf (gsT rfl hb160) (kf (gsT rfl hb160) (kf (gsT rfl hb160) (kf (gsT rfl hb160) (kf (gsT rfl hb160) (kf (gsT rfl hb160) (kf (gsT rfl hb160) (kf (guF rfl rfl (pkF rfl hb160 rfl)) (kf (pkF rfl rfl rfl) (kf (mvO rfl) (kf (guF rfl rfl (mvO h97)) (kf (guF rfl rfl (ncP rfl)) (kf (guF rfl rfl (faP rfl ⟨ble rfl, blt rfl⟩ rfl)) (kf (guF rfl rfl (ldP rfl rfl)) (kf (guF rfl rfl (bEql rfl rfl)) (kf (pkF rfl rfl rfl) (kf (mvO rfl) ?_))))))))))))))))))
     rcases ite_some h with ⟨hb191, h⟩ | ⟨hb191, h⟩
     ·refine kf (gsF rfl hb191) (kf (gsF rfl hb191) (kf (gsF rfl hb191) (kf (gsF rfl hb191) (kf (gsF rfl hb191) (kf (gsF rfl hb191) (kf (gsF rfl hb191) (kf (gsF rfl hb191) (kf (gsF rfl hb191) (kf (pkT rfl hb191 rfl) (fZ (Rn (hA h95 (hA h96 (hA h97 (hV (.bool true) rfl hZ)))) fun e192 h194 h195 h196 h197 => sN (cT h197 rfl (sq (Rg (kx (mvO rfl) (Rn (hV (.int .i64 4) rfl hZ) fun e198 h200 => sN (xx ?_)))))))))))))))))
      clear h95 h96 h97 h194 h195 h196 h197
      obtain rfl := si h
      exact kd (show spec_l07Refused_c2_Q a1 a2 x91 _ _ from ⟨rfl, h200⟩)
     refine kf (guF rfl hb191 (mvO h96)) (kf (guF rfl hb191 (ncP rfl)) (kf (guF rfl hb191 (faP rfl ⟨ble rfl, blt rfl⟩ rfl)) (kf (guF rfl hb191 (ldP rfl rfl)) (kf (guF rfl hb191 (mvO h97)) (kf (guF rfl hb191 (ncP rfl)) (kf (guF rfl hb191 (faP rfl ⟨ble rfl, blt rfl⟩ rfl)) (kf (guF rfl hb191 (ldP rfl rfl)) (kf (guF rfl hb191 (bGtr rfl rfl)) (kf (pkF rfl hb191 rfl) (fZ (Rn (hA h95 (hA h96 (hA h97 (hN rfl hZ)))) fun e201 h203 h204 h205 h206 => sN ?_)))))))))))
     clear h95 h96 h97
     rcases ite_some h with ⟨hb207, h⟩ | ⟨hb207, h⟩
     ·refine cT h206 hb207 (sq (Rg (kx (mvO rfl) (Rn (hV (.int .i64 4) rfl hZ) fun e208 h210 => sN (xx ?_)))))
      clear h203 h204 h205 h206
      obtain rfl := si h
      exact kd (show spec_l07Refused_c2_Q a1 a2 x91 _ _ from ⟨rfl, h210⟩)
     refine cF h206 hb207 (xx ?_)
     obtain rfl := si h
     exact kd (show spec_l07Refused_c2_Q a1 a2 x91 _ _ from ⟨rfl, h203, h204, h205, h206⟩)) ?_
 rcases r270 with _ | _
 ·intro x e211 M212 hq214
  obtain ⟨rfl, h213⟩ := hq214
  refine sR ?_
  obtain rfl := si h
  exact eR (resT h213 res0) rfl
 intro x e215 M216 hq269
 obtain ⟨rfl, h217, h218, h219, h220⟩ := hq269
 obtain ⟨r267, hr268, h⟩ := bind_some h
 refine sN (sq (sq ?_))
 refine Ev.cut (Q1 := spec_l07Refused_c3_Q a1 a2 x91 r267) (by
     have h := hr268
     refine Rd (kf (mvO h218) (kf (ncP rfl) (kf (faP rfl ⟨ble rfl, blt rfl⟩ rfl) (kf (ldP rfl rfl) (kf (bEql rfl rfl) (kf (mvO rfl) ?_))))))
     rcases ite_some h with ⟨hb221, h⟩ | ⟨hb221, h⟩
     ·obtain ⟨x222, hx223, h⟩ := bind_some h
      refine kf (guT rfl hb221 (mvO h217)) (kf (guT rfl hb221 (ncP rfl)) (kf (guT rfl hb221 (faP rfl ⟨ble rfl, blt rfl⟩ rfl)) (kf (guT rfl hb221 (ldP rfl rfl)) (kf (guT rfl hb221 (mvO h219)) (kf (guT rfl hb221 (ncP rfl)) (kf (guT rfl hb221 (faP rfl ⟨ble rfl, blt rfl⟩ rfl)) (kf (guT rfl hb221 (ldP rfl rfl)) (kf (guT rfl hb221 (ixS rfl rfl hx223 (cI_fl _))) (kf (guT rfl hb221 (ldP rfl rfl)) (kf (guT rfl hb221 (mvO h218)) (kf (guT rfl hb221 (ncP rfl)) (kf (guT rfl hb221 (faP rfl ⟨ble rfl, blt rfl⟩ rfl)) (kf (guT rfl hb221 (ldP rfl rfl)) (kf (guT rfl hb221 (bLss rfl rfl)) (kf (pkT rfl hb221 rfl) (fZ (Rn (hV (.pt none [.int .i64 a1.Day, .sl none (a1.Cash.map (cI .i64)), .sl none (a1.Tallies.map Tally.c)]) h217 (hV (.pt none [.int .i64 a2.Day, .int .i8 a2.Kind, .int .i64 a2.Tally, .int .i64 a2.From, .int .i64 a2.To, .int .i64 a2.Amount]) h218 (hV (.pt none [.int .i64 x91.Debtor, .int .i64 x91.Holder, .int .i64 x91.Cut, .int .i64 x91.Amount, .int .i64 x91.Left]) h219 (hN rfl hZ)))) fun e224 h226 h227 h228 h229 => ?_)))))))))))))))))
      clear h217 h218 h219 h220
      obtain rfl := si h
      exact kd (show spec_l07Refused_c3_Q a1 a2 x91 _ _ from ⟨rfl, h226, h227, h228, h229⟩)
     refine kf (gsT rfl hb221) (kf (gsT rfl hb221) (kf (gsT rfl hb221) (kf (gsT rfl hb221) (kf (gsT rfl hb221) (kf (gsT rfl hb221) (kf (gsT rfl hb221) (kf (gsT rfl hb221) (kf (gsT rfl hb221) (kf (gsT rfl hb221) (kf (gsT rfl hb221) (kf (gsT rfl hb221) (kf (gsT rfl hb221) (kf (gsT rfl hb221) (kf (gsT rfl hb221) (kf (pkF rfl hb221 rfl) (fZ (Rn (hV (.pt none [.int .i64 a1.Day, .sl none (a1.Cash.map (cI .i64)), .sl none (a1.Tallies.map Tally.c)]) h217 (hV (.pt none [.int .i64 a2.Day, .int .i8 a2.Kind, .int .i64 a2.Tally, .int .i64 a2.From, .int .i64 a2.To, .int .i64 a2.Amount]) h218 (hV (.pt none [.int .i64 x91.Debtor, .int .i64 x91.Holder, .int .i64 x91.Cut, .int .i64 x91.Amount, .int .i64 x91.Left]) h219 (hV (.bool false) rfl hZ)))) fun e230 h232 h233 h234 h235 => ?_)))))))))))))))))
     clear h217 h218 h219 h220
     obtain rfl := si h
     exact kd (show spec_l07Refused_c3_Q a1 a2 x91 _ _ from ⟨rfl, h232, h233, h234, h235⟩)) ?_
 revert h hr268
 revert r267
 intro y238 hr268 h
 intro x e236 M237 hq266
 obtain ⟨rfl, h239, h240, h241, h242⟩ := hq266
 refine sN ?_
 rcases ite_some h with ⟨hb243, h⟩ | ⟨hb243, h⟩
 ·refine cT h242 hb243 (sq (Rg (kx (mvO rfl) (Rn (hV (.int .i64 8) rfl hZ) fun e244 h246 => sN (xx (sR ?_))))))
  clear h239 h240 h241 h242
  obtain rfl := si h
  exact eR (resT h246 res0) rfl
 refine cF h242 hb243 (xx (sN (sq (sq (Rd (kf (mvO h240) (kf (ncP rfl) (kf (faP rfl ⟨ble rfl, blt rfl⟩ rfl) (kf (ldP rfl rfl) (kf (bEql rfl rfl) (kf (mvO rfl) ?_)))))))))))
 rcases ite_some h with ⟨hb247, h⟩ | ⟨hb247, h⟩
 ·obtain ⟨x248, hx249, h⟩ := bind_some h
  refine kf (guT rfl hb247 (mvO h239)) (kf (guT rfl hb247 (ncP rfl)) (kf (guT rfl hb247 (faP rfl ⟨ble rfl, blt rfl⟩ rfl)) (kf (guT rfl hb247 (ldP rfl rfl)) (kf (guT rfl hb247 (mvO h241)) (kf (guT rfl hb247 (ncP rfl)) (kf (guT rfl hb247 (faP rfl ⟨ble rfl, blt rfl⟩ rfl)) (kf (guT rfl hb247 (ldP rfl rfl)) (kf (guT rfl hb247 (ixS rfl rfl hx249 (cI_fl _))) (kf (guT rfl hb247 (ldP rfl rfl)) (kf (guT rfl hb247 (mvO h240)) (kf (guT rfl hb247 (ncP rfl)) (kf (guT rfl hb247 (faP rfl ⟨ble rfl, blt rfl⟩ rfl)) (kf (guT rfl hb247 (ldP rfl rfl)) (kf (guT rfl hb247 (bAdd rfl rfl)) (kf (guT rfl hb247 (bGtr rfl rfl)) (kf (pkT rfl hb247 rfl) (fZ (Rn (hN rfl hZ) fun e250 h252 => sN ?_))))))))))))))))))
  clear h239 h240 h241 h242
  rcases ite_some h with ⟨hb253, h⟩ | ⟨hb253, h⟩
  ·refine cT h252 hb253 (sq (Rg (kx (mvO rfl) (Rn (hV (.int .i64 3) rfl hZ) fun e254 h256 => sN (xx (sR ?_))))))
   clear h252
   obtain rfl := si h
   exact eR (resT h256 res0) rfl
  refine cF h252 hb253 (xx (sN (sq (Rg (kx (mvO rfl) (Rn (hV (.int .i64 0) rfl hZ) fun e257 h259 => sN (xx ?_)))))))
  clear h252
  obtain rfl := si h
  exact eR (resT h259 res0) rfl
 refine kf (gsT rfl hb247) (kf (gsT rfl hb247) (kf (gsT rfl hb247) (kf (gsT rfl hb247) (kf (gsT rfl hb247) (kf (gsT rfl hb247) (kf (gsT rfl hb247) (kf (gsT rfl hb247) (kf (gsT rfl hb247) (kf (gsT rfl hb247) (kf (gsT rfl hb247) (kf (gsT rfl hb247) (kf (gsT rfl hb247) (kf (gsT rfl hb247) (kf (gsT rfl hb247) (kf (gsT rfl hb247) (kf (pkF rfl hb247 rfl) (fZ (Rn (hV (.bool false) rfl hZ) fun e260 h262 => sN (cF h262 rfl (xx (sN (sq (Rg (kx (mvO rfl) (Rn (hV (.int .i64 0) rfl hZ) fun e263 h265 => sN (xx ?_))))))))))))))))))))))))))
 clear h239 h240 h241 h242 h262
 obtain rfl := si h
 exact eR (resT h265 res0) rfl
noncomputable def spec_l01Amount (a1 : Int) : Option Bool :=
 (spec_l00In a1 0 100000000).bind fun r5 =>
 some r5
def spec_l01Amount_enc (r : Bool) : AV := .bool r
theorem spec_l01Amount_ok (a1 : Int) (r : Bool) (h : spec_l01Amount a1 = some r) : Ev (fun k => CN k 89 [.int .i64 a1] []) (fun p => rRes p.2 p.1 = spec_l01Amount_enc r) := by
 unfold spec_l01Amount at h
 obtain ⟨r5, hx4, h⟩ := bind_some h
 refine Ev.enter (F := fun k => f89 (CN k) k) (fun k => callN_eq rfl Try.func89 rfl rfl rfl (by decide +kernel) (f89_eq _ _)) (sq (Rg (kx (mvO rfl) (Rn (hN rfl hZ) fun e1 h3 => sN (sq (Rg (kx (mvO h3) (kc (cl (v := .bool r5) rfl rfl (cns rfl (cns rfl (cns rfl rfl))) rfl (spec_l00In_ok a1 0 100000000 _ hx4) nm) (kx (mvO rfl) (Rn (hN rfl hZ) fun e6 h8 => sN (xx ?_)))))))))))
 clear h3
 obtain rfl := si h
 exact eR (resT h8 res0) rfl
abbrev spec_l07Cash_b1_S := Int
abbrev spec_l07Cash_b1_R := Unit ⊕ Unit
def spec_l07Cash_b1_RS (a1 : List Int) (s : spec_l07Cash_b1_S) (e : Env) (M : Mem) : Prop := eget e 0 = .sl none (a1.map (cI .i64)) ∧ eget e 3 = .int .i64 s
def spec_l07Cash_b1_RR (a1 : List Int) (r : spec_l07Cash_b1_R) (x : Ex) (e : Env) (M : Mem) : Prop :=
  match r with
  | (.inl g) => x = .ret ∧ eget e 2 = .bool false
  | (.inr g) => x = .ext 0 ∧ eget e 0 = .sl none (a1.map (cI .i64))
noncomputable def spec_l07Cash_b1 (a1 : List Int) : spec_l07Cash_b1_S → Option (spec_l07Cash_b1_S ⊕ spec_l07Cash_b1_R) := fun s1_1 =>
 if (decide (s1_1 < (a1.length : Int))) = true then
  (rd a1 s1_1).bind fun x26 =>
  (spec_l01Amount x26).bind fun r29 =>
  if r29 = true then
   some (.inl (IntKind.i64.wrap (s1_1 + 1)))
  else
   some (.inr (.inl ()))
 else
  some (.inr (.inr ()))
theorem spec_l07Cash_b1_ok (a1 : List Int) (s : spec_l07Cash_b1_S) (r : spec_l07Cash_b1_S ⊕ spec_l07Cash_b1_R) (h : spec_l07Cash_b1 a1 s = some r) (e : Env) (M : Mem) (hs : spec_l07Cash_b1_RS a1 s e M) : Ev (fun k => (f111_l2 (CN k) k (prune [0, 3] e) M).bind fun q => some q) (bQ (spec_l07Cash_b1_RS a1) (spec_l07Cash_b1_RR a1) r) := by
 revert h hs
 revert s
 intro s1_1 h hs
 unfold spec_l07Cash_b1 at h
 obtain ⟨h16, h18⟩ := hs
 generalize he15 : prune [0, 3] e = e14
 have h17 := envp he15.symm rfl h16
 have h19 := envp he15.symm rfl h18
 refine sq (sq (Rg (kx (mvO h19) (kx (mvO h17) (kx (lnS Try.underlying24 rfl) (kx (bLss rfl rfl) (Rn (hV (.sl none (a1.map (cI .i64))) h17 (hV (.int .i64 s1_1) h19 (hN rfl hZ))) fun e20 h22 h23 h24 => sN ?_)))))))
 clear h17 h19
 rcases ite_some h with ⟨hb25, h⟩ | ⟨hb25, h⟩
 ·obtain ⟨x26, hx27, h⟩ := bind_some h
  obtain ⟨r29, hx28, h⟩ := bind_some h
  refine cT h24 hb25 (xx (sN (sq (bl (sq (Rg (kx (mvO h22) (kx (mvO h23) (kx (ixS rfl rfl hx27 (cI_fl _)) (kx (ldP rfl rfl) (kc (cl (v := .bool r29) rfl rfl (cns rfl rfl) rfl (spec_l01Amount_ok x26 _ hx28) nm) (kx (uNot rfl) (Rn (hA h22 (hA h23 (hN rfl hZ))) fun e30 h32 h33 h34 => sN ?_)))))))))))))
  clear h22 h23 h24
  rcases ite_some h with ⟨hb35, h⟩ | ⟨hb35, h⟩
  ·refine cF h34 (congrArg Bool.not hb35) (xx (bN (sN (Rg (kx (mvO h33) (kx (bAdd rfl rfl) (kx (mvO rfl) (Rn (hA h32 (hN rfl hZ)) fun e36 h38 h39 => ?_))))))))
   clear h32 h34
   obtain rfl := si h
   exact qN ⟨h38, h39⟩
  refine cT h34 (congrArg Bool.not hb35) (sq (Rg (kx (mvO rfl) (Rn (hV (.bool false) rfl hZ) fun e40 h42 => sN (xx (bR (sR ?_)))))))
  clear h32 h33 h34
  obtain rfl := si h
  exact qR ⟨rfl, h42⟩
 refine cF h24 hb25 (xx (sE ?_))
 obtain rfl := si h
 exact qE ⟨rfl, h22⟩
noncomputable def spec_l07Cash (a1 : List Int) : Option Bool :=
 (Lw (spec_l07Cash_b1 a1) 0).bind fun r => match r with
 | (.inl _) =>
  some false
 | (.inr _) =>
  (spec_l00In (a1.length : Int) 1 16).bind fun r53 =>
  some r53
def spec_l07Cash_enc (r : Bool) : AV := .bool r
theorem spec_l07Cash_ok (a1 : List Int) (r : Bool) (h : spec_l07Cash a1 = some r) : Ev (fun k => CN k 111 [.sl none (a1.map (cI .i64))] []) (fun p => rRes p.2 p.1 = spec_l07Cash_enc r) := by
 unfold spec_l07Cash at h
 obtain ⟨r43, hr44, h⟩ := bind_some h
 refine Ev.enter (F := fun k => f111 (CN k) k) (fun k => callN_eq rfl Try.func111 rfl rfl rfl (by decide +kernel) (f111_eq _ _)) (sq (Rg (kx (mvO rfl) (Rn (hN rfl hZ) fun e1 h3 => sN (sq (sq (Rg (kx (mvO rfl) (Rn (hA h3 (hV (.int .i64 0) rfl hZ)) fun e4 h6 h7 => sN (bl ?_))))))))))
 clear h3
 rcases r43 with _ | _
 ·refine Ev.loop (RS := spec_l07Cash_b1_RS a1) (RR := spec_l07Cash_b1_RR a1) (fun s r h e M hs => spec_l07Cash_b1_ok a1 s r h e M hs) hr44 ⟨h6, h7⟩ fun x e46 M47 hq45 => ?_
  obtain ⟨rfl, h48⟩ := hq45
  refine bR (sR ?_)
  obtain rfl := si h
  exact eR (resT h48 res0) rfl
 refine Ev.loop (RS := spec_l07Cash_b1_RS a1) (RR := spec_l07Cash_b1_RR a1) (fun s r h e M hs => spec_l07Cash_b1_ok a1 s r h e M hs) hr44 ⟨h6, h7⟩ fun x e49 M50 hq45 => ?_
 obtain ⟨rfl, h51⟩ := hq45
 obtain ⟨r53, hx52, h⟩ := bind_some h
 refine bE (sN (sq (Rg (kx (mvO h51) (kx (lnS Try.underlying24 rfl) (kc (cl (v := .bool r53) rfl rfl (cns rfl (cns rfl (cns rfl rfl))) rfl (spec_l00In_ok (a1.length : Int) 1 16 _ hx52) nm) (kx (mvO rfl) (Rn (hN rfl hZ) fun e54 h56 => sN (xx ?_)))))))))
 clear h51
 obtain rfl := si h
 exact eR (resT h56 res0) rfl
noncomputable def impl_ownBook (a1 : Book) : Option (Int × (List Int) × (List Tally)) :=
 (slices_Clone_int64 a1.Cash).bind fun r16 =>
 (slices_Clone_Tally a1.Tallies).bind fun r26 =>
 some (a1.Day, r16, r26)
def impl_ownBook_enc (r : Int × (List Int) × (List Tally)) : AV := .agg [.int .i64 r.1, .sl (some 2) (r.2.1.map (cI .i64)), .sl (some 49) (r.2.2.map Tally.c)]
theorem impl_ownBook_ok (a1 : Book) (r : Int × (List Int) × (List Tally)) (h : impl_ownBook a1 = some r) : Ev (fun k => CN k 110 [.agg [.int .i64 a1.Day, .sl none (a1.Cash.map (cI .i64)), .sl none (a1.Tallies.map Tally.c)]] []) (fun p => rRes p.2 p.1 = impl_ownBook_enc r) := by
 unfold impl_ownBook at h
 refine Ev.enter (F := fun k => f110 (CN k) k) (fun k => callN_eq rfl Try.func110 rfl rfl rfl (by decide +kernel) (f110_eq _ _)) (sq (Rg (ku (bxO rfl rfl ⟨rfl, rfl, by decide⟩) fun M2 hM3 => ?_)))
 have o4 : M2[([] : Mem).length]? = some (.live ⟨.box, 27, 3, [[.int .i64 a1.Day, .sl none (a1.Cash.map (cI .i64)), .sl none (a1.Tallies.map Tally.c)]]⟩) := push_new hM3
 refine ku (alO zero27) fun M6 hM7 => ?_
 have o8 := push_old hM7 o4
 have ne9 := ne_new o4
 have o10 : M6[M2.length]? = some (.live ⟨.box, 27, 3, [[.int .i64 0, .nils, .nils]]⟩) := push_new hM7
 obtain ⟨r16, hx15, h⟩ := bind_some h
 refine Rn (hV (.loc ([] : Mem).length 1 0 0) rfl (hV (.loc M2.length 1 0 0) rfl hZ)) fun e11 h13 h14 => sN (sq (Rg (kx (faO h13 o8 rfl) (kx (ldO rfl o8 rfl rfl rfl) (kc (cl (v := .sl (some 2) (r16.map (cI .i64))) rfl rfl (cns rfl rfl) rfl (slices_Clone_int64_ok a1.Cash _ hx15) nm) (kx (faO h13 o8 rfl) (kw (stOK rfl rfl o8 rfl rfl ⟨rfl, ble rfl⟩ rfl rfl) fun M17 hM18 => ?_)))))))
 have o19 : M17[([] : Mem).length]? = some (.live ⟨.box, 27, 3, [[.int .i64 a1.Day, .sl (some 2) (r16.map (cI .i64)), .sl none (a1.Tallies.map Tally.c)]]⟩) := set_same hM18 o8
 have o20 := set_ne hM18 (Ne.symm ne9) o10
 obtain ⟨r26, hx25, h⟩ := bind_some h
 refine Rn (hA h13 (hA h14 hZ)) fun e21 h23 h24 => sN (sq (Rg (kx (faO h23 o19 rfl) (kx (ldO rfl o19 rfl rfl rfl) (kc (cl (v := .sl (some 49) (r26.map Tally.c)) rfl rfl (cns rfl rfl) rfl (slices_Clone_Tally_ok a1.Tallies _ hx25) nm) (kx (faO h23 o19 rfl) (kw (stOK rfl rfl o19 rfl rfl ⟨rfl, ble rfl⟩ rfl rfl) fun M27 hM28 => ?_)))))))
 clear h13 h14
 have o29 : M27[([] : Mem).length]? = some (.live ⟨.box, 27, 3, [[.int .i64 a1.Day, .sl (some 2) (r16.map (cI .i64)), .sl (some 49) (r26.map Tally.c)]]⟩) := set_same hM28 o19
 have o30 := set_ne hM28 (Ne.symm ne9) o20
 refine Rn (hA h23 (hA h24 hZ)) fun e31 h33 h34 => sN (sq (Rg (kx (ldOA h33 o29 rfl rfl (ble rfl) rfl) (kw (stOK h34 rfl o30 rfl rfl ⟨rfl, ble rfl⟩ rfl rfl) fun M35 hM36 => ?_))))
 clear h23 h24
 have o37 := set_ne hM36 ne9 o29
 have o38 : M35[M2.length]? = some (.live ⟨.box, 27, 3, [[.int .i64 a1.Day, .sl (some 2) (r16.map (cI .i64)), .sl (some 49) (r26.map Tally.c)]]⟩) := set_same hM36 o30
 refine Rn (hA h34 hZ) fun e39 h41 => sN (xx ?_)
 clear h33 h34
 obtain rfl := si h
 exact eR (resC (ag := true) (sz := 3) ⟨by kernel_rfl, by kernel_rfl, by kernel_rfl⟩ (ldOA h41 o38 rfl rfl (ble rfl) rfl) res0) rfl
noncomputable def spec_l07Day (a1 : Int) : Option Bool :=
 (spec_l00In a1 0 100000).bind fun r5 =>
 some r5
def spec_l07Day_enc (r : Bool) : AV := .bool r
theorem spec_l07Day_ok (a1 : Int) (r : Bool) (h : spec_l07Day a1 = some r) : Ev (fun k => CN k 56 [.int .i64 a1] []) (fun p => rRes p.2 p.1 = spec_l07Day_enc r) := by
 unfold spec_l07Day at h
 obtain ⟨r5, hx4, h⟩ := bind_some h
 refine Ev.enter (F := fun k => f56 (CN k) k) (fun k => callN_eq rfl Try.func56 rfl rfl rfl (by decide +kernel) (f56_eq _ _)) (sq (Rg (kx (mvO rfl) (Rn (hN rfl hZ) fun e1 h3 => sN (sq (Rg (kx (mvO h3) (kc (cl (v := .bool r5) rfl rfl (cns rfl (cns rfl (cns rfl rfl))) rfl (spec_l00In_ok a1 0 100000 _ hx4) nm) (kx (mvO rfl) (Rn (hN rfl hZ) fun e6 h8 => sN (xx ?_)))))))))))
 clear h3
 obtain rfl := si h
 exact eR (resT h8 res0) rfl
noncomputable def spec_l07Deal (a1 : Deal) : Option Bool :=
 (spec_l00In a1.Tally 0 39).bind fun r5 =>
 (spec_l00In a1.From 0 15).bind fun r11 =>
 (spec_l00In a1.To 0 15).bind fun r18 =>
 (spec_l00In a1.Amount 1 100000000).bind fun r26 =>
 (spec_l07Day a1.Day).bind fun r35 =>
 if r35 = true then
  if (a1.Kind == 1) = true then
   if (a1.Tally == 0) = true then
    if r11 = true then
     if r18 = true then
      some r26
     else
      some false
    else
     some false
   else
    some false
  else
   if (a1.Kind == 2) = true then
    if r5 = true then
     if r11 = true then
      if r18 = true then
       some (a1.Amount == 0)
      else
       some false
     else
      some false
    else
     some false
   else
    if (a1.Kind == 3) = true then
     if r5 = true then
      if (a1.From == 0) = true then
       if (a1.To == 0) = true then
        some r26
       else
        some false
      else
       some false
     else
      some false
    else
     if (a1.Kind == 4) = true then
      if r5 = true then
       if r11 = true then
        if (a1.To == 0) = true then
         some (a1.Amount == 0)
        else
         some false
       else
        some false
      else
       some false
     else
      some false
 else
  some false
def spec_l07Deal_enc (r : Bool) : AV := .bool r
theorem spec_l07Deal_ok (a1 : Deal) (r : Bool) (h : spec_l07Deal a1 = some r) : Ev (fun k => CN k 77 [.pt none [.int .i64 a1.Day, .int .i8 a1.Kind, .int .i64 a1.Tally, .int .i64 a1.From, .int .i64 a1.To, .int .i64 a1.Amount]] []) (fun p => rRes p.2 p.1 = spec_l07Deal_enc r) := by
 unfold spec_l07Deal at h
 obtain ⟨r5, hx4, h⟩ := bind_some h
 obtain ⟨r11, hx10, h⟩ := bind_some h
 obtain ⟨r18, hx17, h⟩ := bind_some h
 obtain ⟨r26, hx25, h⟩ := bind_some h
 obtain ⟨r35, hx34, h⟩ := bind_some h
 refine Ev.enter (F := fun k => f77 (CN k) k) (fun k => callN_eq rfl Try.func77 rfl rfl rfl (by decide +kernel) (f77_eq _ _)) (sq (Rg (kx (mvO rfl) (Rn (hN rfl hZ) fun e1 h3 => sN (sq (Rg (kx (mvO h3) (kx (ncP rfl) (kx (faP rfl ⟨ble rfl, blt rfl⟩ rfl) (kx (ldP rfl rfl) (kc (cl (v := .bool r5) rfl rfl (cns rfl (cns rfl (cns rfl rfl))) rfl (spec_l00In_ok a1.Tally 0 39 _ hx4) nm) (kx (mvO rfl) (Rn (hA h3 (hN rfl hZ)) fun e6 h8 h9 => sN (sq (Rg (kx (mvO h8) (kx (ncP rfl) (kx (faP rfl ⟨ble rfl, blt rfl⟩ rfl) (kx (ldP rfl rfl) (kc (cl (v := .bool r11) rfl rfl (cns rfl (cns rfl (cns rfl rfl))) rfl (spec_l00In_ok a1.From 0 15 _ hx10) nm) (kx (mvO rfl) (Rn (hA h8 (hA h9 (hN rfl hZ))) fun e12 h14 h15 h16 => sN (sq (Rg (kx (mvO h14) (kx (ncP rfl) (kx (faP rfl ⟨ble rfl, blt rfl⟩ rfl) (kx (ldP rfl rfl) (kc (cl (v := .bool r18) rfl rfl (cns rfl (cns rfl (cns rfl rfl))) rfl (spec_l00In_ok a1.To 0 15 _ hx17) nm) (kx (mvO rfl) (Rn (hA h14 (hA h15 (hA h16 (hN rfl hZ)))) fun e19 h21 h22 h23 h24 => sN (sq (Rg (kx (mvO h21) (kx (ncP rfl) (kx (faP rfl ⟨ble rfl, blt rfl⟩ rfl) (kx (ldP rfl rfl) (kc (cl (v := .bool r26) rfl rfl (cns rfl (cns rfl (cns rfl rfl))) rfl (spec_l00In_ok a1.Amount 1 100000000 _ hx25) nm) (kx (mvO rfl) (Rn (hA h21 (hA h22 (hA h23 (hA h24 (hN rfl hZ))))) fun e27 h29 h30 h31 h32 h33 => sN (sq (sq (Rg (kx (mvO h29) (kx (ncP rfl) (kx (faP rfl ⟨ble rfl, blt rfl⟩ rfl) (kx (ldP rfl rfl) (kc (cl (v := .bool r35) rfl rfl (cns rfl rfl) rfl (spec_l07Day_ok a1.Day _ hx34) nm) (kx (uNot rfl) (Rn (hA h29 (hA h30 (hA h31 (hA h32 (hA h33 (hN rfl hZ)))))) fun e36 h38 h39 h40 h41 h42 h43 => sN ?_))))))))))))))))))))))))))))))))))))))))))))))))))
 clear h3 h8 h9 h14 h15 h16 h21 h22 h23 h24 h29 h30 h31 h32 h33
 rcases ite_some h with ⟨hb44, h⟩ | ⟨hb44, h⟩
 ·refine cF h43 (congrArg Bool.not hb44) (xx (sN (sq (sq (Rg (kx (mvO h38) (kx (ncP rfl) (kx (faP rfl ⟨ble rfl, blt rfl⟩ rfl) (kx (ldP rfl rfl) (Rn (hA h38 (hA h39 (hA h40 (hA h41 (hA h42 (hN rfl hZ)))))) fun e45 h47 h48 h49 h50 h51 h52 => sN (bl (sq (Rg (kx (bEql h52 rfl) (kx (mvO rfl) (Rn (hA h47 (hA h48 (hA h49 (hA h50 (hA h51 (hA h52 (hN rfl hZ))))))) fun e53 h55 h56 h57 h58 h59 h60 h61 => sN ?_))))))))))))))))
  clear h38 h39 h40 h41 h42 h43 h47 h48 h49 h50 h51 h52
  rcases ite_some h with ⟨hb62, h⟩ | ⟨hb62, h⟩
  ·refine cT h61 hb62 (sq (Rg (kx (mvO h55) (kx (ncP rfl) (kx (faP rfl ⟨ble rfl, blt rfl⟩ rfl) (kx (ldP rfl rfl) (kx (bEql rfl rfl) (kx (mvO rfl) ?_))))))))
   rcases ite_some h with ⟨hb63, h⟩ | ⟨hb63, h⟩
   ·refine kx (guT rfl hb63 (mvO h57)) (kx (pkT rfl hb63 rfl) (kx (mvO rfl) ?_))
    rcases ite_some h with ⟨hb64, h⟩ | ⟨hb64, h⟩
    ·refine kx (guT rfl hb64 (mvO h58)) (kx (pkT rfl hb64 rfl) (kx (mvO rfl) ?_))
     rcases ite_some h with ⟨hb65, h⟩ | ⟨hb65, h⟩
     ·refine kx (guT rfl hb65 (mvO h59)) (kx (pkT rfl hb65 rfl) (kx (mvO rfl) (Rn (hN rfl hZ) fun e66 h68 => sN (xx (bR (sR ?_))))))
      clear h55 h56 h57 h58 h59 h60 h61
      obtain rfl := si h
      exact eR (resT h68 res0) rfl
     refine kx (gsT rfl hb65) (kx (pkF rfl hb65 rfl) (kx (mvO rfl) (Rn (hV (.bool false) rfl hZ) fun e69 h71 => sN (xx (bR (sR ?_))))))
     clear h55 h56 h57 h58 h59 h60 h61
     obtain rfl := si h
     exact eR (resT h71 res0) rfl
    refine kx (gsT rfl hb64) (kx (pkF rfl hb64 rfl) (kx (mvO rfl) (kx (gsT rfl rfl) (kx (pkF rfl rfl rfl) (kx (mvO rfl) (Rn (hV (.bool false) rfl hZ) fun e72 h74 => sN (xx (bR (sR ?_)))))))))
    clear h55 h56 h57 h58 h59 h60 h61
    obtain rfl := si h
    exact eR (resT h74 res0) rfl
   refine kx (gsT rfl hb63) (kx (pkF rfl hb63 rfl) (kx (mvO rfl) (kx (gsT rfl rfl) (kx (pkF rfl rfl rfl) (kx (mvO rfl) (kx (gsT rfl rfl) (kx (pkF rfl rfl rfl) (kx (mvO rfl) (Rn (hV (.bool false) rfl hZ) fun e75 h77 => sN (xx (bR (sR ?_))))))))))))
   clear h55 h56 h57 h58 h59 h60 h61
   obtain rfl := si h
   exact eR (resT h77 res0) rfl
  refine cF h61 hb62 (sq (Rg (kx (bEql h60 rfl) (kx (mvO rfl) (Rn (hA h55 (hA h56 (hA h57 (hA h58 (hA h59 (hA h60 (hN rfl hZ))))))) fun e78 h80 h81 h82 h83 h84 h85 h86 => sN ?_)))))
  clear h55 h56 h57 h58 h59 h60 h61
  rcases ite_some h with ⟨hb87, h⟩ | ⟨hb87, h⟩
  ·refine cT h86 hb87 (sq (Rg (kx (mvO h81) (kx (mvO rfl) ?_))))
   rcases ite_some h with ⟨hb88, h⟩ | ⟨hb88, h⟩
   ·refine kx (guT rfl hb88 (mvO h82)) (kx (pkT rfl hb88 rfl) (kx (mvO rfl) ?_))
    rcases ite_some h with ⟨hb89, h⟩ | ⟨hb89, h⟩
    ·refine kx (guT rfl hb89 (mvO h83)) (kx (pkT rfl hb89 rfl) (kx (mvO rfl) ?_))
     rcases ite_some h with ⟨hb90, h⟩ | ⟨hb90, h⟩
     ·refine kx (guT rfl hb90 (mvO h80)) (kx (guT rfl hb90 (ncP rfl)) (kx (guT rfl hb90 (faP rfl ⟨ble rfl, blt rfl⟩ rfl)) (kx (guT rfl hb90 (ldP rfl rfl)) (kx (guT rfl hb90 (bEql rfl rfl)) (kx (pkT rfl hb90 rfl) (kx (mvO rfl) (Rn (hN rfl hZ) fun e91 h93 => sN (xx (bR (sR ?_))))))))))
      clear h80 h81 h82 h83 h84 h85 h86
      obtain rfl := si h
      exact eR (resT h93 res0) rfl
     refine kx (gsT rfl hb90) (kx (gsT rfl hb90) (kx (gsT rfl hb90) (kx (gsT rfl hb90) (kx (gsT rfl hb90) (kx (pkF rfl hb90 rfl) (kx (mvO rfl) (Rn (hV (.bool false) rfl hZ) fun e94 h96 => sN (xx (bR (sR ?_))))))))))
     clear h80 h81 h82 h83 h84 h85 h86
     obtain rfl := si h
     exact eR (resT h96 res0) rfl
    refine kx (gsT rfl hb89) (kx (pkF rfl hb89 rfl) (kx (mvO rfl) (kx (gsT rfl rfl) (kx (gsT rfl rfl) (kx (gsT rfl rfl) (kx (gsT rfl rfl) (kx (gsT rfl rfl) (kx (pkF rfl rfl rfl) (kx (mvO rfl) (Rn (hV (.bool false) rfl hZ) fun e97 h99 => sN (xx (bR (sR ?_)))))))))))))
    clear h80 h81 h82 h83 h84 h85 h86
    obtain rfl := si h
    exact eR (resT h99 res0) rfl
   refine kx (gsT rfl hb88) (kx (pkF rfl hb88 rfl) (kx (mvO rfl) (kx (gsT rfl rfl) (kx (pkF rfl rfl rfl) (kx (mvO rfl) (kx (gsT rfl rfl) (kx (gsT rfl rfl) (kx (gsT rfl rfl) (kx (gsT rfl rfl) (kx (gsT rfl rfl) (kx (pkF rfl rfl rfl) (kx (mvO rfl) (Rn (hV (.bool false) rfl hZ) fun e100 h102 => sN (xx (bR (sR ?_))))))))))))))))
   clear h80 h81 h82 h83 h84 h85 h86
   obtain rfl := si h
   exact eR (resT h102 res0) rfl
  refine cF h86 hb87 (sq (Rg (kx (bEql h85 rfl) (kx (mvO rfl) (Rn (hA h80 (hA h81 (hA h82 (hA h84 (hA h85 (hN rfl hZ)))))) fun e103 h105 h106 h107 h108 h109 h110 => sN ?_)))))
  clear h80 h81 h82 h83 h84 h85 h86
  rcases ite_some h with ⟨hb111, h⟩ | ⟨hb111, h⟩
  ·refine cT h110 hb111 (sq (Rg (kx (mvO h106) (kx (mvO rfl) ?_))))
   rcases ite_some h with ⟨hb112, h⟩ | ⟨hb112, h⟩
   ·refine kx (guT rfl hb112 (mvO h105)) (kx (guT rfl hb112 (ncP rfl)) (kx (guT rfl hb112 (faP rfl ⟨ble rfl, blt rfl⟩ rfl)) (kx (guT rfl hb112 (ldP rfl rfl)) (kx (guT rfl hb112 (bEql rfl rfl)) (kx (pkT rfl hb112 rfl) (kx (mvO rfl) ?_))))))
    rcases ite_some h with ⟨hb113, h⟩ | ⟨hb113, h⟩
    ·refine kx (guT rfl hb113 (mvO h105)) (kx (guT rfl hb113 (ncP rfl)) (kx (guT rfl hb113 (faP rfl ⟨ble rfl, blt rfl⟩ rfl)) (kx (guT rfl hb113 (ldP rfl rfl)) (kx (guT rfl hb113 (bEql rfl rfl)) (kx (pkT rfl hb113 rfl) (kx (mvO rfl) ?_))))))
     rcases ite_some h with ⟨hb114, h⟩ | ⟨hb114, h⟩
     ·refine kx (guT rfl hb114 (mvO h108)) (kx (pkT rfl hb114 rfl) (kx (mvO rfl) (Rn (hN rfl hZ) fun e115 h117 => sN (xx (bR (sR ?_))))))
      clear h105 h106 h107 h108 h109 h110
      obtain rfl := si h
      exact eR (resT h117 res0) rfl
     refine kx (gsT rfl hb114) (kx (pkF rfl hb114 rfl) (kx (mvO rfl) (Rn (hV (.bool false) rfl hZ) fun e118 h120 => sN (xx (bR (sR ?_))))))
     clear h105 h106 h107 h108 h109 h110
     obtain rfl := si h
     exact eR (resT h120 res0) rfl
    refine kx (gsT rfl hb113) (kx (gsT rfl hb113) (kx (gsT rfl hb113) (kx (gsT rfl hb113) (kx (gsT rfl hb113) (kx (pkF rfl hb113 rfl) (kx (mvO rfl) (kx (gsT rfl rfl) (kx (pkF rfl rfl rfl) (kx (mvO rfl) (Rn (hV (.bool false) rfl hZ) fun e121 h123 => sN (xx (bR (sR ?_)))))))))))))
    clear h105 h106 h107 h108 h109 h110
    obtain rfl := si h
    exact eR (resT h123 res0) rfl
   refine kx (gsT rfl hb112) (kx (gsT rfl hb112) (kx (gsT rfl hb112) (kx (gsT rfl hb112) (kx (gsT rfl hb112) (kx (pkF rfl hb112 rfl) (kx (mvO rfl) (kx (gsT rfl rfl) (kx (gsT rfl rfl) (kx (gsT rfl rfl) (kx (gsT rfl rfl) (kx (gsT rfl rfl) (kx (pkF rfl rfl rfl) (kx (mvO rfl) (kx (gsT rfl rfl) (kx (pkF rfl rfl rfl) (kx (mvO rfl) (Rn (hV (.bool false) rfl hZ) fun e124 h126 => sN (xx (bR (sR ?_))))))))))))))))))))
   clear h105 h106 h107 h108 h109 h110
   obtain rfl := si h
   exact eR (resT h126 res0) rfl
  refine cF h110 hb111 (sq (Rg (kx (bEql h109 rfl) (kx (mvO rfl) (Rn (hA h105 (hA h106 (hA h107 (hN rfl hZ)))) fun e127 h129 h130 h131 h132 => sN ?_)))))
  clear h105 h106 h107 h108 h109 h110
  rcases ite_some h with ⟨hb133, h⟩ | ⟨hb133, h⟩
  ·refine cT h132 hb133 (sq (Rg (kx (mvO h130) (kx (mvO rfl) ?_))))
   rcases ite_some h with ⟨hb134, h⟩ | ⟨hb134, h⟩
   ·refine kx (guT rfl hb134 (mvO h131)) (kx (pkT rfl hb134 rfl) (kx (mvO rfl) ?_))
    rcases ite_some h with ⟨hb135, h⟩ | ⟨hb135, h⟩
    ·refine kx (guT rfl hb135 (mvO h129)) (kx (guT rfl hb135 (ncP rfl)) (kx (guT rfl hb135 (faP rfl ⟨ble rfl, blt rfl⟩ rfl)) (kx (guT rfl hb135 (ldP rfl rfl)) (kx (guT rfl hb135 (bEql rfl rfl)) (kx (pkT rfl hb135 rfl) (kx (mvO rfl) ?_))))))
     rcases ite_some h with ⟨hb136, h⟩ | ⟨hb136, h⟩
     ·refine kx (guT rfl hb136 (mvO h129)) (kx (guT rfl hb136 (ncP rfl)) (kx (guT rfl hb136 (faP rfl ⟨ble rfl, blt rfl⟩ rfl)) (kx (guT rfl hb136 (ldP rfl rfl)) (kx (guT rfl hb136 (bEql rfl rfl)) (kx (pkT rfl hb136 rfl) (kx (mvO rfl) (Rn (hN rfl hZ) fun e137 h139 => sN (xx (bR (sR ?_))))))))))
      clear h129 h130 h131 h132
      obtain rfl := si h
      exact eR (resT h139 res0) rfl
     refine kx (gsT rfl hb136) (kx (gsT rfl hb136) (kx (gsT rfl hb136) (kx (gsT rfl hb136) (kx (gsT rfl hb136) (kx (pkF rfl hb136 rfl) (kx (mvO rfl) (Rn (hV (.bool false) rfl hZ) fun e140 h142 => sN (xx (bR (sR ?_))))))))))
     clear h129 h130 h131 h132
     obtain rfl := si h
     exact eR (resT h142 res0) rfl
    refine kx (gsT rfl hb135) (kx (gsT rfl hb135) (kx (gsT rfl hb135) (kx (gsT rfl hb135) (kx (gsT rfl hb135) (kx (pkF rfl hb135 rfl) (kx (mvO rfl) (kx (gsT rfl rfl) (kx (gsT rfl rfl) (kx (gsT rfl rfl) (kx (gsT rfl rfl) (kx (gsT rfl rfl) (kx (pkF rfl rfl rfl) (kx (mvO rfl) (Rn (hV (.bool false) rfl hZ) fun e143 h145 => sN (xx (bR (sR ?_)))))))))))))))))
    clear h129 h130 h131 h132
    obtain rfl := si h
    exact eR (resT h145 res0) rfl
   refine kx (gsT rfl hb134) (kx (pkF rfl hb134 rfl) (kx (mvO rfl) (kx (gsT rfl rfl) (kx (gsT rfl rfl) (kx (gsT rfl rfl) (kx (gsT rfl rfl) (kx (gsT rfl rfl) (kx (pkF rfl rfl rfl) (kx (mvO rfl) (kx (gsT rfl rfl) (kx (gsT rfl rfl) (kx (gsT rfl rfl) (kx (gsT rfl rfl) (kx (gsT rfl rfl) (kx (pkF rfl rfl rfl) (kx (mvO rfl) (Rn (hV (.bool false) rfl hZ) fun e146 h148 => sN (xx (bR (sR ?_))))))))))))))))))))
   clear h129 h130 h131 h132
   obtain rfl := si h
   exact eR (resT h148 res0) rfl
  refine cF h132 hb133 (xx (bN (sN (sq (Rg (kx (mvO rfl) (Rn (hV (.bool false) rfl hZ) fun e149 h151 => sN (xx ?_))))))))
  clear h129 h130 h131 h132
  obtain rfl := si h
  exact eR (resT h151 res0) rfl
 refine cT h43 (congrArg Bool.not hb44) (sq (Rg (kx (mvO rfl) (Rn (hV (.bool false) rfl hZ) fun e152 h154 => sN (xx (sR ?_))))))
 clear h38 h39 h40 h41 h42 h43
 obtain rfl := si h
 exact eR (resT h154 res0) rfl
abbrev spec_l07Deals_b1_S := Int
abbrev spec_l07Deals_b1_R := Unit ⊕ Unit
def spec_l07Deals_b1_RS (a1 : List Deal) (s : spec_l07Deals_b1_S) (e : Env) (M : Mem) : Prop := eget e 0 = .sl none (a1.map Deal.c) ∧ eget e 3 = .int .i64 s
def spec_l07Deals_b1_RR (a1 : List Deal) (r : spec_l07Deals_b1_R) (x : Ex) (e : Env) (M : Mem) : Prop :=
  match r with
  | (.inl g) => x = .ret ∧ eget e 2 = .bool false
  | (.inr g) => x = .ext 0 ∧ True
noncomputable def spec_l07Deals_b1 (a1 : List Deal) : spec_l07Deals_b1_S → Option (spec_l07Deals_b1_S ⊕ spec_l07Deals_b1_R) := fun s1_1 =>
 if (decide (s1_1 < (a1.length : Int))) = true then
  (rd a1 s1_1).bind fun x26 =>
  (spec_l07Deal x26).bind fun r29 =>
  if r29 = true then
   some (.inl (IntKind.i64.wrap (s1_1 + 1)))
  else
   some (.inr (.inl ()))
 else
  some (.inr (.inr ()))
theorem spec_l07Deals_b1_ok (a1 : List Deal) (s : spec_l07Deals_b1_S) (r : spec_l07Deals_b1_S ⊕ spec_l07Deals_b1_R) (h : spec_l07Deals_b1 a1 s = some r) (e : Env) (M : Mem) (hs : spec_l07Deals_b1_RS a1 s e M) : Ev (fun k => (f109_l2 (CN k) k (prune [0, 3] e) M).bind fun q => some q) (bQ (spec_l07Deals_b1_RS a1) (spec_l07Deals_b1_RR a1) r) := by
 revert h hs
 revert s
 intro s1_1 h hs
 unfold spec_l07Deals_b1 at h
 obtain ⟨h16, h18⟩ := hs
 generalize he15 : prune [0, 3] e = e14
 have h17 := envp he15.symm rfl h16
 have h19 := envp he15.symm rfl h18
 refine sq (sq (Rg (kx (mvO h19) (kx (mvO h17) (kx (lnS Try.underlying28 rfl) (kx (bLss rfl rfl) (Rn (hV (.sl none (a1.map Deal.c)) h17 (hV (.int .i64 s1_1) h19 (hN rfl hZ))) fun e20 h22 h23 h24 => sN ?_)))))))
 clear h17 h19
 rcases ite_some h with ⟨hb25, h⟩ | ⟨hb25, h⟩
 ·obtain ⟨x26, hx27, h⟩ := bind_some h
  obtain ⟨r29, hx28, h⟩ := bind_some h
  refine cT h24 hb25 (xx (sN (sq (bl (sq (Rg (kx (mvO h22) (kx (mvO h23) (kx (ixS rfl rfl hx27 Deal.fl) (kc (cl (v := .bool r29) rfl rfl (cns rfl rfl) rfl (spec_l07Deal_ok x26 _ hx28) nm) (kx (uNot rfl) (Rn (hA h22 (hA h23 (hN rfl hZ))) fun e30 h32 h33 h34 => sN ?_))))))))))))
  clear h22 h23 h24
  rcases ite_some h with ⟨hb35, h⟩ | ⟨hb35, h⟩
  ·refine cF h34 (congrArg Bool.not hb35) (xx (bN (sN (Rg (kx (mvO h33) (kx (bAdd rfl rfl) (kx (mvO rfl) (Rn (hA h32 (hN rfl hZ)) fun e36 h38 h39 => ?_))))))))
   clear h32 h34
   obtain rfl := si h
   exact qN ⟨h38, h39⟩
  refine cT h34 (congrArg Bool.not hb35) (sq (Rg (kx (mvO rfl) (Rn (hV (.bool false) rfl hZ) fun e40 h42 => sN (xx (bR (sR ?_)))))))
  clear h32 h33 h34
  obtain rfl := si h
  exact qR ⟨rfl, h42⟩
 refine cF h24 hb25 (xx (sE ?_))
 obtain rfl := si h
 exact qE ⟨rfl, trivial⟩
noncomputable def spec_l07Deals (a1 : List Deal) : Option Bool :=
 (Lw (spec_l07Deals_b1 a1) 0).bind fun r => match r with
 | (.inl _) =>
  some false
 | (.inr _) =>
  some true
def spec_l07Deals_enc (r : Bool) : AV := .bool r
theorem spec_l07Deals_ok (a1 : List Deal) (r : Bool) (h : spec_l07Deals a1 = some r) : Ev (fun k => CN k 109 [.sl none (a1.map Deal.c)] []) (fun p => rRes p.2 p.1 = spec_l07Deals_enc r) := by
 unfold spec_l07Deals at h
 obtain ⟨r43, hr44, h⟩ := bind_some h
 refine Ev.enter (F := fun k => f109 (CN k) k) (fun k => callN_eq rfl Try.func109 rfl rfl rfl (by decide +kernel) (f109_eq _ _)) (sq (Rg (kx (mvO rfl) (Rn (hN rfl hZ) fun e1 h3 => sN (sq (sq (Rg (kx (mvO rfl) (Rn (hA h3 (hV (.int .i64 0) rfl hZ)) fun e4 h6 h7 => sN (bl ?_))))))))))
 clear h3
 rcases r43 with _ | _
 ·refine Ev.loop (RS := spec_l07Deals_b1_RS a1) (RR := spec_l07Deals_b1_RR a1) (fun s r h e M hs => spec_l07Deals_b1_ok a1 s r h e M hs) hr44 ⟨h6, h7⟩ fun x e46 M47 hq45 => ?_
  obtain ⟨rfl, h48⟩ := hq45
  refine bR (sR ?_)
  obtain rfl := si h
  exact eR (resT h48 res0) rfl
 refine Ev.loop (RS := spec_l07Deals_b1_RS a1) (RR := spec_l07Deals_b1_RR a1) (fun s r h e M hs => spec_l07Deals_b1_ok a1 s r h e M hs) hr44 ⟨h6, h7⟩ fun x e49 M50 hq45 => ?_
 obtain ⟨rfl, _⟩ := hq45
 refine bE (sN (sq (Rg (kx (mvO rfl) (Rn (hV (.bool true) rfl hZ) fun e51 h53 => sN (xx ?_))))))
 obtain rfl := si h
 exact eR (resT h53 res0) rfl
noncomputable def impl_isBookDay (a1 : Int) : Option Bool :=
 if (decide (a1 ≥ 0)) = true then
  some (decide (a1 ≤ 100000))
 else
  some false
def impl_isBookDay_enc (r : Bool) : AV := .bool r
theorem impl_isBookDay_ok (a1 : Int) (r : Bool) (h : impl_isBookDay a1 = some r) : Ev (fun k => CN k 53 [.int .i64 a1] []) (fun p => rRes p.2 p.1 = impl_isBookDay_enc r) := by
 unfold impl_isBookDay at h
 refine Ev.enter (F := fun k => f53 (CN k) k) (fun k => callN_eq rfl Try.func53 rfl rfl rfl (by decide +kernel) (f53_eq _ _)) (sq (Rg (kx (mvO rfl) (Rn (hN rfl hZ) fun e1 h3 => sN (sq (Rg (kx (mvO h3) (kx (bGeq rfl rfl) (kx (mvO rfl) ?_)))))))))
 rcases ite_some h with ⟨hb4, h⟩ | ⟨hb4, h⟩
 ·refine kx (guT rfl hb4 (mvO h3)) (kx (guT rfl hb4 (bLeq rfl rfl)) (kx (pkT rfl hb4 rfl) (kx (mvO rfl) (Rn (hN rfl hZ) fun e5 h7 => sN (xx ?_)))))
  clear h3
  obtain rfl := si h
  exact eR (resT h7 res0) rfl
 refine kx (gsT rfl hb4) (kx (gsT rfl hb4) (kx (pkF rfl hb4 rfl) (kx (mvO rfl) (Rn (hV (.bool false) rfl hZ) fun e8 h10 => sN (xx ?_)))))
 clear h3
 obtain rfl := si h
 exact eR (resT h10 res0) rfl
noncomputable def impl_uses (a1 : Int) : Option (Bool × Bool × Bool × Bool) :=
 if (a1 == 1) = true then
  some (false, true, true, true)
 else
  if (a1 == 2) = true then
   some (true, true, true, false)
  else
   if (a1 == 3) = true then
    some (true, false, false, true)
   else
    some (true, true, false, false)
def impl_uses_enc (r : Bool × Bool × Bool × Bool) : AV := .tup [.bool r.1, .bool r.2.1, .bool r.2.2.1, .bool r.2.2.2]
theorem impl_uses_ok (a1 : Int) (r : Bool × Bool × Bool × Bool) (h : impl_uses a1 = some r) : Ev (fun k => CN k 80 [.int .i8 a1] []) (fun p => rRes p.2 p.1 = impl_uses_enc r) := by
 unfold impl_uses at h
 refine Ev.enter (F := fun k => f80 (CN k) k) (fun k => callN_eq rfl Try.func80 rfl rfl rfl (by decide +kernel) (f80_eq _ _)) (sq (Rg (kx (mvO rfl) (kx (mvO rfl) (kx (mvO rfl) (kx (mvO rfl) (Rn (hN rfl hZ) fun e1 h3 => sN (sq (sq (Rg (kx (mvO h3) (Rn (hN rfl hZ) fun e4 h6 => sN (bl (sq (Rg (kx (bEql h6 rfl) (kx (mvO rfl) (Rn (hA h6 (hN rfl hZ)) fun e7 h9 h10 => sN ?_))))))))))))))))))
 clear h3 h6
 rcases ite_some h with ⟨hb11, h⟩ | ⟨hb11, h⟩
 ·refine cT h10 hb11 (sq (Rg (kx (mvO rfl) (kx (mvO rfl) (kx (mvO rfl) (kx (mvO rfl) (Rn (hV (.bool false) rfl (hV (.bool true) rfl (hV (.bool true) rfl (hV (.bool true) rfl hZ)))) fun e12 h14 h15 h16 h17 => sN (xx (bR (sR ?_))))))))))
  clear h10 h9
  obtain rfl := si h
  exact eR (resT h14 (resT h15 (resT h16 (resT h17 res0)))) rfl
 refine cF h10 hb11 (sq (Rg (kx (bEql h9 rfl) (kx (mvO rfl) (Rn (hA h9 (hN rfl hZ)) fun e18 h20 h21 => sN ?_)))))
 clear h10 h9
 rcases ite_some h with ⟨hb22, h⟩ | ⟨hb22, h⟩
 ·refine cT h21 hb22 (sq (Rg (kx (mvO rfl) (kx (mvO rfl) (kx (mvO rfl) (kx (mvO rfl) (Rn (hV (.bool true) rfl (hV (.bool true) rfl (hV (.bool true) rfl (hV (.bool false) rfl hZ)))) fun e23 h25 h26 h27 h28 => sN (xx (bR (sR ?_))))))))))
  clear h20 h21
  obtain rfl := si h
  exact eR (resT h25 (resT h26 (resT h27 (resT h28 res0)))) rfl
 refine cF h21 hb22 (sq (Rg (kx (bEql h20 rfl) (kx (mvO rfl) (Rn (hN rfl hZ) fun e29 h31 => sN ?_)))))
 clear h20 h21
 rcases ite_some h with ⟨hb32, h⟩ | ⟨hb32, h⟩
 ·refine cT h31 hb32 (sq (Rg (kx (mvO rfl) (kx (mvO rfl) (kx (mvO rfl) (kx (mvO rfl) (Rn (hV (.bool true) rfl (hV (.bool false) rfl (hV (.bool false) rfl (hV (.bool true) rfl hZ)))) fun e33 h35 h36 h37 h38 => sN (xx (bR (sR ?_))))))))))
  clear h31
  obtain rfl := si h
  exact eR (resT h35 (resT h36 (resT h37 (resT h38 res0)))) rfl
 refine cF h31 hb32 (xx (bN (sN (sq (Rg (kx (mvO rfl) (kx (mvO rfl) (kx (mvO rfl) (kx (mvO rfl) (Rn (hV (.bool true) rfl (hV (.bool true) rfl (hV (.bool false) rfl (hV (.bool false) rfl hZ)))) fun e39 h41 h42 h43 h44 => sN (xx ?_)))))))))))
 clear h31
 obtain rfl := si h
 exact eR (resT h41 (resT h42 (resT h43 (resT h44 res0)))) rfl
noncomputable def impl_ValidDeal_1 (a1 : Bool) (a2 : Int) (a3 : Int) (a4 : Int) : Option Bool :=
 if a1 = true then
  if (decide (a2 ≥ a3)) = true then
   if (decide (a2 ≤ a4)) = true then
    some true
   else
    some false
  else
   some false
 else
  some (a2 == 0)
def impl_ValidDeal_1_enc (r : Bool) : AV := .bool r
theorem impl_ValidDeal_1_ok (a1 : Bool) (a2 : Int) (a3 : Int) (a4 : Int) (r : Bool) (h : impl_ValidDeal_1 a1 a2 a3 a4 = some r) : Ev (fun k => CN k 79 [.bool a1, .int .i64 a2, .int .i64 a3, .int .i64 a4] []) (fun p => rRes p.2 p.1 = impl_ValidDeal_1_enc r) := by
 unfold impl_ValidDeal_1 at h
 refine Ev.enter (F := fun k => f79 (CN k) k) (fun k => callN_eq rfl Try.func79 rfl rfl rfl (by decide +kernel) (f79_eq _ _)) (sq (Rg (kx (mvO rfl) (Rn (hN rfl (hN rfl (hN rfl (hN rfl hZ)))) fun e1 h3 h4 h5 h6 => sN (sq (Rg (kx (mvO h3) (kx (mvO rfl) ?_))))))))
 rcases ite_some h with ⟨hb7, h⟩ | ⟨hb7, h⟩
 ·refine kx (guT rfl hb7 (mvO h4)) (kx (guT rfl hb7 (mvO h5)) (kx (guT rfl hb7 (bGeq rfl rfl)) (kx (pkT rfl hb7 rfl) (kx (mvO rfl) ?_))))
  rcases ite_some h with ⟨hb8, h⟩ | ⟨hb8, h⟩
  ·refine kx (guT rfl hb8 (mvO h4)) (kx (guT rfl hb8 (mvO h6)) (kx (guT rfl hb8 (bLeq rfl rfl)) (kx (pkT rfl hb8 rfl) (kx (mvO rfl) ?_))))
   rcases ite_some h with ⟨hb9, h⟩ | ⟨hb9, h⟩
   ·refine kx (gsF rfl hb9) (kx (gsF rfl hb9) (kx (gsF rfl hb9) (kx (gsU rfl) (kx (gsU rfl) (kx (gsF rfl hb9) (kx (pkT rfl hb9 rfl) (kx (mvO rfl) (Rn (hV (.bool true) rfl hZ) fun e10 h12 => sN (xx ?_)))))))))
    clear h3 h4 h5 h6
    obtain rfl := si h
    exact eR (resT h12 res0) rfl
   refine kx (guF rfl hb9 (mvO h3)) (kx (guF rfl hb9 (uNot rfl)) (kx (guF rfl hb9 (mvO rfl)) (kx (gsT rfl (congrArg Bool.not hb7)) (kx (gsT rfl (congrArg Bool.not hb7)) (kx (guF rfl hb9 (pkF rfl (congrArg Bool.not hb7) rfl)) (kx (pkF rfl hb9 rfl) (kx (mvO rfl) (Rn (hV (.bool false) rfl hZ) fun e13 h15 => sN (xx ?_)))))))))
   clear h3 h4 h5 h6
   obtain rfl := si h
   exact eR (resT h15 res0) rfl
  refine kx (gsT rfl hb8) (kx (gsT rfl hb8) (kx (gsT rfl hb8) (kx (pkF rfl hb8 rfl) (kx (mvO rfl) (kx (guF rfl rfl (mvO h3)) (kx (guF rfl rfl (uNot rfl)) (kx (guF rfl rfl (mvO rfl)) (kx (gsT rfl (congrArg Bool.not hb7)) (kx (gsT rfl (congrArg Bool.not hb7)) (kx (guF rfl rfl (pkF rfl (congrArg Bool.not hb7) rfl)) (kx (pkF rfl rfl rfl) (kx (mvO rfl) (Rn (hV (.bool false) rfl hZ) fun e16 h18 => sN (xx ?_))))))))))))))
  clear h3 h4 h5 h6
  obtain rfl := si h
  exact eR (resT h18 res0) rfl
 refine kx (gsT rfl hb7) (kx (gsT rfl hb7) (kx (gsT rfl hb7) (kx (pkF rfl hb7 rfl) (kx (mvO rfl) (kx (gsT rfl rfl) (kx (gsT rfl rfl) (kx (gsT rfl rfl) (kx (pkF rfl rfl rfl) (kx (mvO rfl) (kx (guF rfl rfl (mvO h3)) (kx (guF rfl rfl (uNot rfl)) (kx (guF rfl rfl (mvO rfl)) (kx (guT rfl (congrArg Bool.not hb7) (mvO h4)) (kx (guT rfl (congrArg Bool.not hb7) (bEql rfl rfl)) (kx (guF rfl rfl (pkT rfl (congrArg Bool.not hb7) rfl)) (kx (pkF rfl rfl rfl) (kx (mvO rfl) (Rn (hN rfl hZ) fun e19 h21 => sN (xx ?_)))))))))))))))))))
 clear h3 h4 h5 h6
 obtain rfl := si h
 exact eR (resT h21 res0) rfl
def impl_ValidDeal_c1_Q (a1 : Deal) (g : Bool) (q : Out) : Prop := q.1 = .nrm ∧ eget q.2.1 1 = .pt none [.int .i64 a1.Day, .int .i8 a1.Kind, .int .i64 a1.Tally, .int .i64 a1.From, .int .i64 a1.To, .int .i64 a1.Amount] ∧ eget q.2.1 21 = .bool g
noncomputable def impl_ValidDeal (a1 : Deal) : Option Bool :=
 (if (decide (a1.Kind < 1)) = true then
  some true
 else
  if (decide (a1.Kind > 4)) = true then
   some true
  else
   (impl_isBookDay a1.Day).bind fun r15 =>
   some (!r15)).bind fun y22 =>
 if y22 = true then
  some false
 else
  (impl_uses a1.Kind).bind fun (r34, r35, r36, r37) =>
  (impl_ValidDeal_1 r34 a1.Tally 0 39).bind fun r47 =>
  if r47 = true then
   (impl_ValidDeal_1 r35 a1.From 0 15).bind fun r50 =>
   if r50 = true then
    (impl_ValidDeal_1 r36 a1.To 0 15).bind fun r53 =>
    if r53 = true then
     (impl_ValidDeal_1 r37 a1.Amount 1 100000000).bind fun r56 =>
     some r56
    else
     some false
   else
    some false
  else
   some false
def impl_ValidDeal_enc (r : Bool) : AV := .bool r
theorem impl_ValidDeal_ok (a1 : Deal) (r : Bool) (h : impl_ValidDeal a1 = some r) : Ev (fun k => CN k 30 [.agg [.int .i64 a1.Day, .int .i8 a1.Kind, .int .i64 a1.Tally, .int .i64 a1.From, .int .i64 a1.To, .int .i64 a1.Amount]] []) (fun p => rRes p.2 p.1 = impl_ValidDeal_enc r) := by
 unfold impl_ValidDeal at h
 obtain ⟨r70, hr71, h⟩ := bind_some h
 refine Ev.enter (F := fun k => f30 (CN k) k) (fun k => callN_eq rfl Try.func30 rfl rfl rfl (by decide +kernel) (f30_eq _ _)) (sq (Rg (kx (bxI rfl rfl ⟨rfl, rfl, by decide⟩) (kx (mvO rfl) (Rn (hN rfl hZ) fun e1 h3 => sN (sq (sq ?_)))))))
 refine Ev.cut (Q1 := impl_ValidDeal_c1_Q a1 r70) (by
     have h := hr71
     refine Rg (kx (faP h3 ⟨ble rfl, blt rfl⟩ rfl) (kx (ldP rfl rfl) (kx (bLss rfl rfl) (kx (mvO rfl) ?_))))
     rcases ite_some h with ⟨hb4, h⟩ | ⟨hb4, h⟩
     ·refine kx (gsF rfl hb4) (kx (gsF rfl hb4) (kx (gsF rfl hb4) (kx (pkT rfl hb4 rfl) (kx (mvO rfl) (kx (gsF rfl rfl) (kx (gsF rfl rfl) (kc (Ev.gsF rfl rfl) (kx (gsF rfl rfl) (kx (pkT rfl rfl rfl) (Rn (hA h3 (hV (.bool true) rfl hZ)) fun e5 h7 h8 => ?_))))))))))
      clear h3
      obtain rfl := si h
      exact kd (show impl_ValidDeal_c1_Q a1 _ _ from ⟨rfl, h7, h8⟩)
     refine kx (guF rfl hb4 (faP h3 ⟨ble rfl, blt rfl⟩ rfl)) (kx (guF rfl hb4 (ldP rfl rfl)) (kx (guF rfl hb4 (bGtr rfl rfl)) (kx (pkF rfl hb4 rfl) (kx (mvO rfl) ?_))))
     rcases ite_some h with ⟨hb9, h⟩ | ⟨hb9, h⟩
     ·refine kx (gsF rfl hb9) (kx (gsF rfl hb9) (kc (Ev.gsF rfl hb9) (kx (gsF rfl hb9) (kx (pkT rfl hb9 rfl) (Rn (hA h3 (hV (.bool true) rfl hZ)) fun e10 h12 h13 => ?_)))))
      clear h3
      obtain rfl := si h
      exact kd (show impl_ValidDeal_c1_Q a1 _ _ from ⟨rfl, h12, h13⟩)
     obtain ⟨r15, hx14, h⟩ := bind_some h
     refine kx (guF rfl hb9 (faP h3 ⟨ble rfl, blt rfl⟩ rfl)) (kx (guF rfl hb9 (ldP rfl rfl)) (kc (Ev.guF rfl hb9 (cl (v := .bool r15) rfl rfl (cns rfl rfl) rfl (impl_isBookDay_ok a1.Day _ hx14) nm)) (kx (guF rfl hb9 (uNot rfl)) (kx (pkF rfl hb9 rfl) (Rn (hA h3 (hN rfl hZ)) fun e16 h18 h19 => ?_)))))
     clear h3
     obtain rfl := si h
     exact kd (show impl_ValidDeal_c1_Q a1 _ _ from ⟨rfl, h18, h19⟩)) ?_
 revert h hr71
 revert r70
 intro y22 hr71 h
 intro x e20 M21 hq69
 obtain ⟨rfl, h23, h24⟩ := hq69
 refine sN ?_
 rcases ite_some h with ⟨hb25, h⟩ | ⟨hb25, h⟩
 ·refine cT h24 hb25 (sq (Rg (kx (mvO rfl) (Rn (hV (.bool false) rfl hZ) fun e26 h28 => sN (xx (sR ?_))))))
  clear h23 h24
  obtain rfl := si h
  exact eR (resT h28 res0) rfl
 obtain ⟨⟨r34, r35, r36, r37⟩, hx33, h⟩ := bind_some h
 obtain ⟨r47, hx46, h⟩ := bind_some h
 refine cF h24 hb25 (xx (sN (sq (Rg (kx (mvO rfl) (Rn (hV (.pt none [.int .i64 a1.Day, .int .i8 a1.Kind, .int .i64 a1.Tally, .int .i64 a1.From, .int .i64 a1.To, .int .i64 a1.Amount]) h23 (hV (.fn 79 []) rfl hZ)) fun e29 h31 h32 => sN (sq (Rg (kx (faP h31 ⟨ble rfl, blt rfl⟩ rfl) (kx (ldP rfl rfl) (kc (cl (v := .tup [.bool r34, .bool r35, .bool r36, .bool r37]) rfl rfl (cns rfl rfl) rfl (impl_uses_ok a1.Kind _ hx33) nm) (kx (mvO rfl) (kx (exT rfl rfl) (kx (exT rfl rfl) (kx (exT rfl rfl) (kx (exT rfl rfl) (kx (mvO rfl) (kx (mvO rfl) (kx (mvO rfl) (kx (mvO rfl) (Rn (hA h31 (hA h32 (hN rfl (hN rfl (hN rfl (hN rfl hZ)))))) fun e38 h40 h41 h42 h43 h44 h45 => sN (sq (Rg (kx (mvO h41) (kx (mvO h42) (kx (faP h40 ⟨ble rfl, blt rfl⟩ rfl) (kx (ldP rfl rfl) (kc (cl (v := .bool r47) rfl rfl (cns rfl (cns rfl (cns rfl (cns rfl rfl)))) rfl (impl_ValidDeal_1_ok r34 a1.Tally 0 39 _ hx46) nm) (kx (mvO rfl) ?_)))))))))))))))))))))))))))))
 clear h23 h24 h31 h32
 rcases ite_some h with ⟨hb48, h⟩ | ⟨hb48, h⟩
 ·obtain ⟨r50, hx49, h⟩ := bind_some h
  refine kx (guT rfl hb48 (mvO h41)) (kx (guT rfl hb48 (mvO h43)) (kx (guT rfl hb48 (faP h40 ⟨ble rfl, blt rfl⟩ rfl)) (kx (guT rfl hb48 (ldP rfl rfl)) (kc (Ev.guT rfl hb48 (cl (v := .bool r50) rfl rfl (cns rfl (cns rfl (cns rfl (cns rfl rfl)))) rfl (impl_ValidDeal_1_ok r35 a1.From 0 15 _ hx49) nm)) (kx (pkT rfl hb48 rfl) (kx (mvO rfl) ?_))))))
  rcases ite_some h with ⟨hb51, h⟩ | ⟨hb51, h⟩
  ·obtain ⟨r53, hx52, h⟩ := bind_some h
   refine kx (guT rfl hb51 (mvO h41)) (kx (guT rfl hb51 (mvO h44)) (kx (guT rfl hb51 (faP h40 ⟨ble rfl, blt rfl⟩ rfl)) (kx (guT rfl hb51 (ldP rfl rfl)) (kc (Ev.guT rfl hb51 (cl (v := .bool r53) rfl rfl (cns rfl (cns rfl (cns rfl (cns rfl rfl)))) rfl (impl_ValidDeal_1_ok r36 a1.To 0 15 _ hx52) nm)) (kx (pkT rfl hb51 rfl) (kx (mvO rfl) ?_))))))
   rcases ite_some h with ⟨hb54, h⟩ | ⟨hb54, h⟩
   ·obtain ⟨r56, hx55, h⟩ := bind_some h
    refine kx (guT rfl hb54 (mvO h41)) (kx (guT rfl hb54 (mvO h45)) (kx (guT rfl hb54 (faP h40 ⟨ble rfl, blt rfl⟩ rfl)) (kx (guT rfl hb54 (ldP rfl rfl)) (kc (Ev.guT rfl hb54 (cl (v := .bool r56) rfl rfl (cns rfl (cns rfl (cns rfl (cns rfl rfl)))) rfl (impl_ValidDeal_1_ok r37 a1.Amount 1 100000000 _ hx55) nm)) (kx (pkT rfl hb54 rfl) (kx (mvO rfl) (Rn (hN rfl hZ) fun e57 h59 => sN (xx ?_))))))))
    clear h40 h41 h42 h43 h44 h45
    obtain rfl := si h
    exact eR (resT h59 res0) rfl
   refine kx (gsT rfl hb54) (kx (gsT rfl hb54) (kx (gsT rfl hb54) (kx (gsT rfl hb54) (kc (Ev.gsT rfl hb54) (kx (pkF rfl hb54 rfl) (kx (mvO rfl) (Rn (hV (.bool false) rfl hZ) fun e60 h62 => sN (xx ?_))))))))
   clear h40 h41 h42 h43 h44 h45
   obtain rfl := si h
   exact eR (resT h62 res0) rfl
  refine kx (gsT rfl hb51) (kx (gsT rfl hb51) (kx (gsT rfl hb51) (kx (gsT rfl hb51) (kc (Ev.gsT rfl hb51) (kx (pkF rfl hb51 rfl) (kx (mvO rfl) (kx (gsT rfl rfl) (kx (gsT rfl rfl) (kx (gsT rfl rfl) (kx (gsT rfl rfl) (kc (Ev.gsT rfl rfl) (kx (pkF rfl rfl rfl) (kx (mvO rfl) (Rn (hV (.bool false) rfl hZ) fun e63 h65 => sN (xx ?_)))))))))))))))
  clear h40 h41 h42 h43 h44 h45
  obtain rfl := si h
  exact eR (resT h65 res0) rfl
 refine kx (gsT rfl hb48) (kx (gsT rfl hb48) (kx (gsT rfl hb48) (kx (gsT rfl hb48) (kc (Ev.gsT rfl hb48) (kx (pkF rfl hb48 rfl) (kx (mvO rfl) (kx (gsT rfl rfl) (kx (gsT rfl rfl) (kx (gsT rfl rfl) (kx (gsT rfl rfl) (kc (Ev.gsT rfl rfl) (kx (pkF rfl rfl rfl) (kx (mvO rfl) (kx (gsT rfl rfl) (kx (gsT rfl rfl) (kx (gsT rfl rfl) (kx (gsT rfl rfl) (kc (Ev.gsT rfl rfl) (kx (pkF rfl rfl rfl) (kx (mvO rfl) (Rn (hV (.bool false) rfl hZ) fun e66 h68 => sN (xx ?_))))))))))))))))))))))
 clear h40 h41 h42 h43 h44 h45
 obtain rfl := si h
 exact eR (resT h68 res0) rfl
abbrev impl_areDeals_b1_S := Int
abbrev impl_areDeals_b1_R := Unit ⊕ Unit
def impl_areDeals_b1_RS (a1 : List Deal) (s : impl_areDeals_b1_S) (e : Env) (M : Mem) : Prop := eget e 5 = .sl none (a1.map Deal.c) ∧ eget e 6 = .int .i64 (a1.length : Int) ∧ eget e 7 = .int .i64 s
def impl_areDeals_b1_RR (a1 : List Deal) (r : impl_areDeals_b1_R) (x : Ex) (e : Env) (M : Mem) : Prop :=
  match r with
  | (.inl g) => x = .ret ∧ eget e 2 = .bool false
  | (.inr g) => x = .ext 0 ∧ True
noncomputable def impl_areDeals_b1 (a1 : List Deal) : impl_areDeals_b1_S → Option (impl_areDeals_b1_S ⊕ impl_areDeals_b1_R) := fun s1_1 =>
 if (decide (s1_1 < (a1.length : Int))) = true then
  (rd a1 s1_1).bind fun x32 =>
  (impl_ValidDeal x32).bind fun r48 =>
  if r48 = true then
   some (.inl (IntKind.i64.wrap (s1_1 + 1)))
  else
   some (.inr (.inl ()))
 else
  some (.inr (.inr ()))
theorem impl_areDeals_b1_ok (a1 : List Deal) (s : impl_areDeals_b1_S) (r : impl_areDeals_b1_S ⊕ impl_areDeals_b1_R) (h : impl_areDeals_b1 a1 s = some r) (e : Env) (M : Mem) (hs : impl_areDeals_b1_RS a1 s e M) : Ev (fun k => (f106_l2 (CN k) k (prune [5, 6, 7] e) M).bind fun q => some q) (bQ (impl_areDeals_b1_RS a1) (impl_areDeals_b1_RR a1) r) := by
 revert h hs
 revert s
 intro s1_1 h hs
 unfold impl_areDeals_b1 at h
 obtain ⟨h19, h21, h23⟩ := hs
 generalize he18 : prune [5, 6, 7] e = e17
 have h20 := envp he18.symm rfl h19
 have h22 := envp he18.symm rfl h21
 have h24 := envp he18.symm rfl h23
 refine sq (Rg (kx (bLss h24 h22) (Rn (hV (.sl none (a1.map Deal.c)) h20 (hV (.int .i64 (a1.length : Int)) h22 (hV (.int .i64 s1_1) h24 (hN rfl hZ)))) fun e25 h27 h28 h29 h30 => sN (sq ?_))))
 clear h20 h22 h24
 rcases ite_some h with ⟨hb31, h⟩ | ⟨hb31, h⟩
 ·obtain ⟨x32, hx33, h⟩ := bind_some h
  refine cT h30 hb31 (xx (sN (sq (bl (sq (Rg (kx (ixS h27 h29 hx33 Deal.fl) (kx (ldPA rfl rfl rfl) (ku (alO zero36) fun M35 hM36 => ?_)))))))))
  have o37 : M35[M.length]? = some (.live ⟨.box, 36, 6, [[.int .i64 0, .int .i8 0, .int .i64 0, .int .i64 0, .int .i64 0, .int .i64 0]]⟩) := push_new hM36
  refine kw (stO rfl rfl o37 rfl rfl ⟨rfl, ble rfl⟩ rfl rfl) fun M38 hM39 => ?_
  have o40 : M38[M.length]? = some (.live ⟨.box, 36, 6, [[.int .i64 x32.Day, .int .i8 x32.Kind, .int .i64 x32.Tally, .int .i64 x32.From, .int .i64 x32.To, .int .i64 x32.Amount]]⟩) := set_same hM39 o37
  obtain ⟨r48, hx47, h⟩ := bind_some h
  refine Rn (hV (.loc M.length 1 0 0) rfl (hA h27 (hA h28 (hA h29 hZ)))) fun e41 h43 h44 h45 h46 => sN (sq (Rg (kx (ldOA h43 o40 rfl rfl (ble rfl) rfl) (kc (cl (v := .bool r48) rfl rfl (cns rfl rfl) rfl (impl_ValidDeal_ok x32 _ hx47) nm) (kx (uNot rfl) (Rn (hA h44 (hA h45 (hA h46 (hN rfl hZ)))) fun e49 h51 h52 h53 h54 => sN ?_))))))
  clear h27 h28 h29 h30 h43 h44 h45 h46
  rcases ite_some h with ⟨hb55, h⟩ | ⟨hb55, h⟩
  ·refine cF h54 (congrArg Bool.not hb55) (xx (bN (sN (Rg (kx (bAdd h53 rfl) (kx (mvO rfl) (Rn (hA h51 (hA h52 (hN rfl hZ))) fun e56 h58 h59 h60 => ?_)))))))
   clear h51 h52 h54
   obtain rfl := si h
   exact qN ⟨h58, h59, h60⟩
  refine cT h54 (congrArg Bool.not hb55) (sq (Rg (kx (mvO rfl) (Rn (hV (.bool false) rfl hZ) fun e61 h63 => sN (xx (bR (sR ?_)))))))
  clear h51 h52 h53 h54
  obtain rfl := si h
  exact qR ⟨rfl, h63⟩
 refine cF h30 hb31 (xx (sE ?_))
 obtain rfl := si h
 exact qE ⟨rfl, trivial⟩
noncomputable def impl_areDeals (a1 : List Deal) : Option Bool :=
 (Lw (impl_areDeals_b1 a1) 0).bind fun r => match r with
 | (.inl _) =>
  some false
 | (.inr _) =>
  some true
def impl_areDeals_enc (r : Bool) : AV := .bool r
theorem impl_areDeals_ok (a1 : List Deal) (r : Bool) (h : impl_areDeals a1 = some r) : Ev (fun k => CN k 106 [.sl none (a1.map Deal.c)] []) (fun p => rRes p.2 p.1 = impl_areDeals_enc r) := by
 unfold impl_areDeals at h
 obtain ⟨r64, hr65, h⟩ := bind_some h
 refine Ev.enter (F := fun k => f106 (CN k) k) (fun k => callN_eq rfl Try.func106 rfl rfl rfl (by decide +kernel) (f106_eq _ _)) (sq (Rg (kx (mvO rfl) (Rn (hN rfl hZ) fun e1 h3 => sN (sq (sq (Rg (kx (mvO h3) (kx (lnS Try.underlying28 rfl) (kx (mvO rfl) (Rn (hN rfl (hN rfl (hV (.int .i64 0) rfl hZ))) fun e4 h6 h7 h8 => sN (bl ?_))))))))))))
 clear h3
 rcases r64 with _ | _
 ·refine Ev.loop (RS := impl_areDeals_b1_RS a1) (RR := impl_areDeals_b1_RR a1) (fun s r h e M hs => impl_areDeals_b1_ok a1 s r h e M hs) hr65 ⟨h6, h7, h8⟩ fun x e67 M68 hq66 => ?_
  obtain ⟨rfl, h69⟩ := hq66
  refine bR (sR ?_)
  obtain rfl := si h
  exact eR (resT h69 res0) rfl
 refine Ev.loop (RS := impl_areDeals_b1_RS a1) (RR := impl_areDeals_b1_RR a1) (fun s r h e M hs => impl_areDeals_b1_ok a1 s r h e M hs) hr65 ⟨h6, h7, h8⟩ fun x e70 M71 hq66 => ?_
 obtain ⟨rfl, _⟩ := hq66
 refine bE (sN (sq (Rg (kx (mvO rfl) (Rn (hV (.bool true) rfl hZ) fun e72 h74 => sN (xx ?_))))))
 obtain rfl := si h
 exact eR (resT h74 res0) rfl
abbrev impl_getsAndOwes_b1_S := Int × Int × Int
abbrev impl_getsAndOwes_b1_R := Int × Int
def impl_getsAndOwes_b1_RS (a1 : Book) (a2 : Int) (s : impl_getsAndOwes_b1_S) (e : Env) (M : Mem) : Prop := eget e 1 = .int .i64 a2 ∧ eget e 6 = .int .i64 s.1 ∧ eget e 7 = .int .i64 s.2.1 ∧ eget e 11 = .sl none (a1.Tallies.map Tally.c) ∧ eget e 12 = .int .i64 (a1.Tallies.length : Int) ∧ eget e 13 = .int .i64 s.2.2
def impl_getsAndOwes_b1_RR (a1 : Book) (a2 : Int) (g : impl_getsAndOwes_b1_R) (x : Ex) (e : Env) (M : Mem) : Prop := x = .ext 0 ∧ eget e 6 = .int .i64 g.1 ∧ eget e 7 = .int .i64 g.2
noncomputable def impl_getsAndOwes_b1 (a1 : Book) (a2 : Int) : impl_getsAndOwes_b1_S → Option (impl_getsAndOwes_b1_S ⊕ impl_getsAndOwes_b1_R) := fun (s1_1, s1_2, s1_3) =>
 if (decide (s1_3 < (a1.Tallies.length : Int))) = true then
  (rd a1.Tallies s1_3).bind fun x57 =>
  if (x57.Holder == a2) = true then
   if (x57.Debtor == a2) = true then
    some (.inl ((IntKind.i64.wrap (s1_1 + x57.Left)), (IntKind.i64.wrap (s1_2 + x57.Left)), (IntKind.i64.wrap (s1_3 + 1))))
   else
    some (.inl ((IntKind.i64.wrap (s1_1 + x57.Left)), s1_2, (IntKind.i64.wrap (s1_3 + 1))))
  else
   if (x57.Debtor == a2) = true then
    some (.inl (s1_1, (IntKind.i64.wrap (s1_2 + x57.Left)), (IntKind.i64.wrap (s1_3 + 1))))
   else
    some (.inl (s1_1, s1_2, (IntKind.i64.wrap (s1_3 + 1))))
 else
  some (.inr (s1_1, s1_2))
theorem impl_getsAndOwes_b1_ok (a1 : Book) (a2 : Int) (s : impl_getsAndOwes_b1_S) (r : impl_getsAndOwes_b1_S ⊕ impl_getsAndOwes_b1_R) (h : impl_getsAndOwes_b1 a1 a2 s = some r) (e : Env) (M : Mem) (hs : impl_getsAndOwes_b1_RS a1 a2 s e M) : Ev (fun k => (f87_l3 (CN k) k (prune [1, 6, 7, 11, 12, 13] e) M).bind fun q => some q) (bQ (impl_getsAndOwes_b1_RS a1 a2) (impl_getsAndOwes_b1_RR a1 a2) r) := by
 obtain ⟨s1_1, s1_2, s1_3⟩ := s
 unfold impl_getsAndOwes_b1 at h
 obtain ⟨h35, h37, h39, h41, h43, h45⟩ := hs
 generalize he34 : prune [1, 6, 7, 11, 12, 13] e = e33
 have h36 := envp he34.symm rfl h35
 have h38 := envp he34.symm rfl h37
 have h40 := envp he34.symm rfl h39
 have h42 := envp he34.symm rfl h41
 have h44 := envp he34.symm rfl h43
 have h46 := envp he34.symm rfl h45
 refine sq (Rg (kx (bLss h46 h44) (Rn (hV (.int .i64 a2) h36 (hV (.int .i64 s1_1) h38 (hV (.int .i64 s1_2) h40 (hV (.sl none (a1.Tallies.map Tally.c)) h42 (hV (.int .i64 (a1.Tallies.length : Int)) h44 (hV (.int .i64 s1_3) h46 (hN rfl hZ))))))) fun e47 h49 h50 h51 h52 h53 h54 h55 => sN (sq ?_))))
 clear h36 h38 h40 h42 h44 h46
 rcases ite_some h with ⟨hb56, h⟩ | ⟨hb56, h⟩
 ·obtain ⟨x57, hx58, h⟩ := bind_some h
  refine cT h55 hb56 (xx (sN (sq (bl (sq (Rg (kx (ixS h52 h54 hx58 Tally.fl) (kx (ldPA rfl rfl rfl) (ku (alO zero49) fun M60 hM61 => ?_)))))))))
  have o62 : M60[M.length]? = some (.live ⟨.box, 49, 5, [[.int .i64 0, .int .i64 0, .int .i64 0, .int .i64 0, .int .i64 0]]⟩) := push_new hM61
  refine kw (stO rfl rfl o62 rfl rfl ⟨rfl, ble rfl⟩ rfl rfl) fun M63 hM64 => ?_
  have o65 : M63[M.length]? = some (.live ⟨.box, 49, 5, [[.int .i64 x57.Debtor, .int .i64 x57.Holder, .int .i64 x57.Cut, .int .i64 x57.Amount, .int .i64 x57.Left]]⟩) := set_same hM64 o62
  refine Rn (hA h49 (hA h50 (hA h51 (hV (.loc M.length 1 0 0) rfl (hA h52 (hA h53 (hA h54 hZ))))))) fun e66 h68 h69 h70 h71 h72 h73 h74 => sN (sq (sq (Rg (kx (faO h71 o65 rfl) (kx (ldO rfl o65 rfl rfl rfl) (kx (mvO h68) (kx (bEql rfl rfl) (Rn (hA h68 (hA h69 (hA h70 (hA h71 (hA h72 (hA h73 (hA h74 (hN rfl hZ)))))))) fun e75 h77 h78 h79 h80 h81 h82 h83 h84 => sN ?_))))))))
  clear h49 h50 h51 h52 h53 h54 h55 h68 h69 h70 h71 h72 h73 h74
  rcases ite_some h with ⟨hb85, h⟩ | ⟨hb85, h⟩
  ·refine cT h84 hb85 (Rg (kx (mvO h78) (kx (faO h80 o65 rfl) (kx (ldO rfl o65 rfl rfl rfl) (kx (bAdd rfl rfl) (kx (mvO rfl) (Rn (hA h77 (hN rfl (hA h79 (hA h80 (hA h81 (hA h82 (hA h83 hZ))))))) fun e86 h88 h89 h90 h91 h92 h93 h94 => sN (sq (Rg (kx (faO h91 o65 rfl) (kx (ldO rfl o65 rfl rfl rfl) (kx (mvO h88) (kx (bEql rfl rfl) (Rn (hA h88 (hA h89 (hA h90 (hA h91 (hA h92 (hA h93 (hA h94 (hN rfl hZ)))))))) fun e95 h97 h98 h99 h100 h101 h102 h103 h104 => sN ?_))))))))))))))
   clear h77 h79 h80 h81 h82 h83 h84 h88 h89 h90 h91 h92 h93 h94
   rcases ite_some h with ⟨hb105, h⟩ | ⟨hb105, h⟩
   ·refine cT h104 hb105 (Rg (kx (mvO h99) (kx (faO h100 o65 rfl) (kx (ldO rfl o65 rfl rfl rfl) (kx (bAdd rfl rfl) (kx (mvO rfl) (Rn (hA h97 (hA h98 (hN rfl (hA h101 (hA h102 (hA h103 hZ)))))) fun e106 h108 h109 h110 h111 h112 h113 => bN (sN (Rg (kx (bAdd h113 rfl) (kx (mvO rfl) (Rn (hA h108 (hA h109 (hA h110 (hA h111 (hA h112 (hN rfl hZ)))))) fun e114 h116 h117 h118 h119 h120 h121 => ?_))))))))))))
    clear h100 h101 h102 h103 h104 h97 h98 h108 h109 h110 h111 h112
    obtain rfl := si h
    exact qN ⟨h116, h117, h118, h119, h120, h121⟩
   refine cF h104 hb105 (xx (bN (sN (Rg (kx (bAdd h103 rfl) (kx (mvO rfl) (Rn (hA h97 (hA h98 (hA h99 (hA h101 (hA h102 (hN rfl hZ)))))) fun e122 h124 h125 h126 h127 h128 h129 => ?_)))))))
   clear h100 h101 h102 h104 h97 h98 h99
   obtain rfl := si h
   exact qN ⟨h124, h125, h126, h127, h128, h129⟩
  refine cF h84 hb85 (xx (sN (sq (Rg (kx (faO h80 o65 rfl) (kx (ldO rfl o65 rfl rfl rfl) (kx (mvO h77) (kx (bEql rfl rfl) (Rn (hA h77 (hA h78 (hA h79 (hA h80 (hA h81 (hA h82 (hA h83 (hN rfl hZ)))))))) fun e130 h132 h133 h134 h135 h136 h137 h138 h139 => sN ?_)))))))))
  clear h77 h78 h79 h80 h81 h82 h83 h84
  rcases ite_some h with ⟨hb140, h⟩ | ⟨hb140, h⟩
  ·refine cT h139 hb140 (Rg (kx (mvO h134) (kx (faO h135 o65 rfl) (kx (ldO rfl o65 rfl rfl rfl) (kx (bAdd rfl rfl) (kx (mvO rfl) (Rn (hA h132 (hA h133 (hN rfl (hA h136 (hA h137 (hA h138 hZ)))))) fun e141 h143 h144 h145 h146 h147 h148 => bN (sN (Rg (kx (bAdd h148 rfl) (kx (mvO rfl) (Rn (hA h143 (hA h144 (hA h145 (hA h146 (hA h147 (hN rfl hZ)))))) fun e149 h151 h152 h153 h154 h155 h156 => ?_))))))))))))
   clear h132 h133 h135 h136 h137 h138 h139 h143 h144 h145 h146 h147
   obtain rfl := si h
   exact qN ⟨h151, h152, h153, h154, h155, h156⟩
  refine cF h139 hb140 (xx (bN (sN (Rg (kx (bAdd h138 rfl) (kx (mvO rfl) (Rn (hA h132 (hA h133 (hA h134 (hA h136 (hA h137 (hN rfl hZ)))))) fun e157 h159 h160 h161 h162 h163 h164 => ?_)))))))
  clear h132 h133 h134 h135 h136 h137 h139
  obtain rfl := si h
  exact qN ⟨h159, h160, h161, h162, h163, h164⟩
 refine cF h55 hb56 (xx (sE ?_))
 obtain rfl := si h
 exact qE ⟨rfl, h50, h51⟩
noncomputable def impl_getsAndOwes (a1 : Book) (a2 : Int) : Option (Int × Int) :=
 (Lw (impl_getsAndOwes_b1 a1 a2) (0, 0, 0)).bind fun (y170, y171) =>
 some (y170, y171)
def impl_getsAndOwes_enc (r : Int × Int) : AV := .tup [.int .i64 r.1, .int .i64 r.2]
theorem impl_getsAndOwes_ok (a1 : Book) (a2 : Int) (r : Int × Int) (h : impl_getsAndOwes a1 a2 = some r) : Ev (fun k => CN k 87 [.agg [.int .i64 a1.Day, .sl none (a1.Cash.map (cI .i64)), .sl none (a1.Tallies.map Tally.c)], .int .i64 a2] []) (fun p => rRes p.2 p.1 = impl_getsAndOwes_enc r) := by
 unfold impl_getsAndOwes at h
 obtain ⟨⟨y170, y171⟩, hr166, h⟩ := bind_some h
 refine Ev.enter (F := fun k => f87 (CN k) k) (fun k => callN_eq rfl Try.func87 rfl rfl rfl (by decide +kernel) (f87_eq _ _)) (sq (Rg (kx (bxI rfl rfl ⟨rfl, rfl, by decide⟩) (kx (mvO rfl) (kx (mvO rfl) (Rn (hN rfl (hN rfl hZ)) fun e1 h3 h4 => sN (sq (Rg (kx (mvO rfl) (kx (mvO rfl) (Rn (hA h3 (hA h4 (hV (.int .i64 0) rfl (hV (.int .i64 0) rfl hZ)))) fun e5 h7 h8 h9 h10 => sN (sq (sq (Rg (kx (faP h8 ⟨ble rfl, blt rfl⟩ rfl) (kx (ldP rfl rfl) (kx (lnS Try.underlying25 rfl) (kx (mvO rfl) (Rn (hA h7 (hA h9 (hA h10 (hN rfl (hN rfl (hV (.int .i64 0) rfl hZ)))))) fun e11 h13 h14 h15 h16 h17 h18 => sN (bl (Ev.loop (RS := impl_getsAndOwes_b1_RS a1 a2) (RR := impl_getsAndOwes_b1_RR a1 a2) (fun s r h e M hs => impl_getsAndOwes_b1_ok a1 a2 s r h e M hs) hr166 ⟨h13, h14, h15, h16, h17, h18⟩ fun x e168 M169 hq167 => ?_)))))))))))))))))))))
 clear h3 h4 h10 h7 h8 h9
 obtain ⟨rfl, h172, h173⟩ := hq167
 refine bE (sN (sq (Rg (kx (mvO h172) (kx (mvO h173) (kx (mvO rfl) (kx (mvO rfl) (Rn (hN rfl (hN rfl hZ)) fun e174 h176 h177 => sN (xx ?_)))))))))
 clear h172 h173
 obtain rfl := si h
 exact eR (resT h176 (resT h177 res0)) rfl
abbrev spec_l02Nets_b1_S := Int × (List Int)
abbrev spec_l02Nets_b1_R := (List Int)
def spec_l02Nets_b1_RS (a2 : List Debt) (x5 : List Int) (i1_1 : Nat) (s : spec_l02Nets_b1_S) (e : Env) (M : Mem) : Prop := eget e 1 = .sl none (a2.map Debt.c) ∧ eget e 5 = .lsl i1_1 s.2.length 0 s.2.length ∧ eget e 6 = .int .i64 s.1 ∧ M[i1_1]? = some (.live ⟨.grow, 2, 1, s.2.map (cI .i64)⟩) ∧ s.2.length = x5.length
def spec_l02Nets_b1_RR (a2 : List Debt) (x5 : List Int) (i1_1 : Nat) (g : spec_l02Nets_b1_R) (x : Ex) (e : Env) (M : Mem) : Prop := x = .ext 0 ∧ eget e 5 = .lsl i1_1 g.length 0 g.length ∧ M[i1_1]? = some (.live ⟨.grow, 2, 1, g.map (cI .i64)⟩) ∧ g.length = x5.length
noncomputable def spec_l02Nets_b1 (a2 : List Debt) : spec_l02Nets_b1_S → Option (spec_l02Nets_b1_S ⊕ spec_l02Nets_b1_R) := fun (s1_1, s1_2) =>
 if (decide (s1_1 < (a2.length : Int))) = true then
  (rd a2 s1_1).bind fun x46 =>
  (rd s1_2 x46.From).bind fun x48 =>
  (rd a2 s1_1).bind fun x50 =>
  (rd s1_2 x46.From).bind fun x52 =>
  (rd a2 s1_1).bind fun x63 =>
  (rd (s1_2.set x46.From.toNat (IntKind.i64.wrap (x48 - x50.Amount))) x63.To).bind fun x65 =>
  (rd a2 s1_1).bind fun x67 =>
  (rd (s1_2.set x46.From.toNat (IntKind.i64.wrap (x48 - x50.Amount))) x63.To).bind fun x69 =>
  some (.inl ((IntKind.i64.wrap (s1_1 + 1)), ((s1_2.set x46.From.toNat (IntKind.i64.wrap (x48 - x50.Amount))).set x63.To.toNat (IntKind.i64.wrap (x65 + x67.Amount)))))
 else
  some (.inr s1_2)
theorem spec_l02Nets_b1_ok (a2 : List Debt) (x5 : List Int) (i1_1 : Nat) (s : spec_l02Nets_b1_S) (r : spec_l02Nets_b1_S ⊕ spec_l02Nets_b1_R) (h : spec_l02Nets_b1 a2 s = some r) (e : Env) (M : Mem) (hs : spec_l02Nets_b1_RS a2 x5 i1_1 s e M) : Ev (fun k => (f86_l3 (CN k) k (prune [1, 5, 6] e) M).bind fun q => some q) (bQ (spec_l02Nets_b1_RS a2 x5 i1_1) (spec_l02Nets_b1_RR a2 x5 i1_1) r) := by
 obtain ⟨s1_1, s1_2⟩ := s
 unfold spec_l02Nets_b1 at h
 obtain ⟨h31, h33, h35, o37, hl38⟩ := hs
 generalize he30 : prune [1, 5, 6] e = e29
 have h32 := envp he30.symm rfl h31
 have h34 := envp he30.symm rfl h33
 have h36 := envp he30.symm rfl h35
 refine sq (sq (Rg (kx (mvO h36) (kx (mvO h32) (kx (lnS Try.underlying57 rfl) (kx (bLss rfl rfl) (Rn (hV (.sl none (a2.map Debt.c)) h32 (hV (.lsl i1_1 s1_2.length 0 s1_2.length) h34 (hA h36 (hN rfl hZ)))) fun e39 h41 h42 h43 h44 => sN ?_)))))))
 clear h32 h34 h36
 rcases ite_some h with ⟨hb45, h⟩ | ⟨hb45, h⟩
 ·obtain ⟨x46, hx47, h⟩ := bind_some h
  obtain ⟨x48, hx49, h⟩ := bind_some h
  obtain ⟨x50, hx51, h⟩ := bind_some h
  obtain ⟨x52, hx53, h⟩ := bind_some h
  refine cT h44 hb45 (xx (sN (sq (bl (sq (Rd (kf (mvO h42) (kf (mvO h41) (kf (mvO h43) (kf (ixS rfl rfl hx47 Debt.fl) (kf (faP rfl ⟨ble rfl, blt rfl⟩ rfl) (kf (ldP rfl rfl) (kf (ixO rfl o37 rfl rfl (rd_get hx49).1 (rd_lt hx49).2) (kf (ldO rfl o37 (by simp [hl38]) (rz hx49) rfl) (kf (mvO h41) (kf (mvO h43) (kf (ixS rfl rfl hx51 Debt.fl) (kf (faP rfl ⟨ble rfl, blt rfl⟩ rfl) (kf (ldP rfl rfl) (kf (bSub rfl rfl) (kf (ixO rfl o37 rfl rfl (rd_get hx53).1 (rd_lt hx53).2) (fZ (kw (stR (u := x52) (u' := (IntKind.i64.wrap (x48 - x50.Amount))) rfl rfl o37 rfl (rz2 hx53) ⟨rfl, ble rfl⟩ rfl rfl) fun M54 hM55 => ?_)))))))))))))))))))))))
  rw [Nat.zero_add] at hM55
  have o56 : M54[i1_1]? = some (.live ⟨.grow, 2, 1, (s1_2.set x46.From.toNat (IntKind.i64.wrap (x48 - x50.Amount))).map (cI .i64)⟩) := set_same hM55 o37
  have hx57 := rd_set (u' := (IntKind.i64.wrap (x48 - x50.Amount))) hx53
  obtain ⟨x63, hx64, h⟩ := bind_some h
  obtain ⟨x65, hx66, h⟩ := bind_some h
  obtain ⟨x67, hx68, h⟩ := bind_some h
  obtain ⟨x69, hx70, h⟩ := bind_some h
  refine Rn (hA h41 (hA h42 (hA h43 hZ))) fun e58 h60 h61 h62 => sN (Rd (kf (mvO (lslL (L' := (s1_2.set x46.From.toNat (IntKind.i64.wrap (x48 - x50.Amount))).length) h61 (by simp [hl38]))) (kf (mvO h60) (kf (mvO h62) (kf (ixS rfl rfl hx64 Debt.fl) (kf (faP rfl ⟨ble rfl, blt rfl⟩ rfl) (kf (ldP rfl rfl) (kf (ixO rfl o56 rfl rfl (rd_get hx66).1 (rd_lt hx66).2) (kf (ldO rfl o56 (by simp [hl38]) (rz hx66) rfl) (kf (mvO h60) (kf (mvO h62) (kf (ixS rfl rfl hx68 Debt.fl) (kf (faP rfl ⟨ble rfl, blt rfl⟩ rfl) (kf (ldP rfl rfl) (kf (bAdd rfl rfl) (kf (ixO rfl o56 rfl rfl (rd_get hx70).1 (rd_lt hx70).2) (fZ (kw (stR (u := x69) (u' := (IntKind.i64.wrap (x65 + x67.Amount))) rfl rfl o56 rfl (rz2 hx70) ⟨rfl, ble rfl⟩ rfl rfl) fun M71 hM72 => ?_))))))))))))))))))
  clear h41 h42 h43 h44
  rw [Nat.zero_add] at hM72
  have o73 : M71[i1_1]? = some (.live ⟨.grow, 2, 1, ((s1_2.set x46.From.toNat (IntKind.i64.wrap (x48 - x50.Amount))).set x63.To.toNat (IntKind.i64.wrap (x65 + x67.Amount))).map (cI .i64)⟩) := set_same hM72 o56
  have hx74 := rd_set (u' := (IntKind.i64.wrap (x65 + x67.Amount))) hx70
  refine Rn (hA h60 (hA h61 (hA h62 hZ))) fun e75 h77 h78 h79 => bN (sN (Rg (kx (mvO h79) (kx (bAdd rfl rfl) (kx (mvO rfl) (Rn (hA h77 (hA h78 (hN rfl hZ))) fun e80 h82 h83 h84 => ?_))))))
  clear h60 h61 h62 h77 h78
  obtain rfl := si h
  exact qN ⟨h82, (lslL (L' := ((s1_2.set x46.From.toNat (IntKind.i64.wrap (x48 - x50.Amount))).set x63.To.toNat (IntKind.i64.wrap (x65 + x67.Amount))).length) h83 (by simp [hl38])), h84, o73, (by first | rfl | simp [hl38])⟩
 refine cF h44 hb45 (xx (sE ?_))
 obtain rfl := si h
 exact qE ⟨rfl, h42, o37, (by first | rfl | simp [hl38])⟩
noncomputable def spec_l02Nets (a1 : Int) (a2 : List Debt) : Option ((List Int)) :=
 (mkS 8 0 a1).bind fun x5 =>
 (Lw (spec_l02Nets_b1 a2) (0, x5)).bind fun y90 =>
 some y90
def spec_l02Nets_enc (r : (List Int)) : AV := .sl (some 2) (r.map (cI .i64))
theorem spec_l02Nets_ok (a1 : Int) (a2 : List Debt) (r : (List Int)) (h : spec_l02Nets a1 a2 = some r) : Ev (fun k => CN k 86 [.int .i64 a1, .sl none (a2.map Debt.c)] []) (fun p => rRes p.2 p.1 = spec_l02Nets_enc r) := by
 unfold spec_l02Nets at h
 obtain ⟨x5, hx6, h⟩ := bind_some h
 refine Ev.enter (F := fun k => f86 (CN k) k) (fun k => callN_eq rfl Try.func86 rfl rfl rfl (by decide +kernel) (f86_eq _ _)) (sq (Rg (kx (mvO rfl) (Rn (hN rfl (hN rfl hZ)) fun e1 h3 h4 => sN (sq (Rg (kx (mvO h3) (ku (mkO rfl rfl hx6 (c := (cI .i64)) zero2 (cI_fl _) (by decide)) fun M8 hM9 => ?_))))))))
 have o10 : M8[([] : Mem).length]? = some (.live ⟨.grow, 2, 1, x5.map (cI .i64)⟩) := push_new hM9
 obtain ⟨y90, hr86, h⟩ := bind_some h
 refine kx (mvO rfl) (Rn (hA h4 (hV (.lsl ([] : Mem).length x5.length 0 x5.length) rfl hZ)) fun e11 h13 h14 => sN (sq (sq (Rg (kx (mvO rfl) (Rn (hA h13 (hA h14 (hV (.int .i64 0) rfl hZ))) fun e15 h17 h18 h19 => sN (bl (Ev.loop (RS := spec_l02Nets_b1_RS a2 x5 (([] : Mem).length)) (RR := spec_l02Nets_b1_RR a2 x5 (([] : Mem).length)) (fun s r h e M hs => spec_l02Nets_b1_ok a2 x5 (([] : Mem).length) s r h e M hs) hr86 ⟨h17, h18, h19, o10, rfl⟩ fun x e88 M89 hq87 => ?_))))))))
 clear h3 h4 h13 h14
 obtain ⟨rfl, h91, o92, hl93⟩ := hq87
 refine bE (sN (sq (Rg (kx (mvO h91) (kx (mvO rfl) (Rn (hV (.lsl ([] : Mem).length y90.length 0 y90.length) rfl hZ) fun e94 h96 => sN (xx ?_)))))))
 clear h91
 obtain rfl := si h
 exact eR (resT h96 res0) (rr_row o92 rfl (cI_fl _))
def spec_l02Ok_c1_Q (a1 : Int) (a2 : List Debt) (g : Bool) (q : Out) : Prop := q.1 = .nrm ∧ eget q.2.1 0 = .int .i64 a1 ∧ eget q.2.1 1 = .sl none (a2.map Debt.c) ∧ eget q.2.1 14 = .bool g
abbrev spec_l02Ok_b1_S := Int
abbrev spec_l02Ok_b1_R := Unit ⊕ Unit
def spec_l02Ok_b1_RS (a1 : Int) (a2 : List Debt) (s : spec_l02Ok_b1_S) (e : Env) (M : Mem) : Prop := eget e 0 = .int .i64 a1 ∧ eget e 1 = .sl none (a2.map Debt.c) ∧ eget e 5 = .int .i64 s
def spec_l02Ok_b1_RR (a1 : Int) (a2 : List Debt) (r : spec_l02Ok_b1_R) (x : Ex) (e : Env) (M : Mem) : Prop :=
  match r with
  | (.inl g) => x = .ret ∧ eget e 4 = .bool false
  | (.inr g) => x = .ext 0 ∧ True
noncomputable def spec_l02Ok_b1 (a1 : Int) (a2 : List Debt) : spec_l02Ok_b1_S → Option (spec_l02Ok_b1_S ⊕ spec_l02Ok_b1_R) := fun s1_1 =>
 if (decide (s1_1 < (a2.length : Int))) = true then
  (rd a2 s1_1).bind fun x56 =>
  (spec_l02Person a1 x56.From).bind fun r65 =>
  if r65 = true then
   (spec_l02Person a1 x56.To).bind fun r68 =>
   if r68 = true then
    if (x56.From == x56.To) = true then
     some (.inr (.inl ()))
    else
     (spec_l00In x56.Amount 1 100000000).bind fun r81 =>
     if r81 = true then
      some (.inl (IntKind.i64.wrap (s1_1 + 1)))
     else
      some (.inr (.inl ()))
   else
    some (.inr (.inl ()))
  else
   some (.inr (.inl ()))
 else
  some (.inr (.inr ()))
theorem spec_l02Ok_b1_ok (a1 : Int) (a2 : List Debt) (s : spec_l02Ok_b1_S) (r : spec_l02Ok_b1_S ⊕ spec_l02Ok_b1_R) (h : spec_l02Ok_b1 a1 a2 s = some r) (e : Env) (M : Mem) (hs : spec_l02Ok_b1_RS a1 a2 s e M) : Ev (fun k => (f85_l4 (CN k) k (prune [0, 1, 5] e) M).bind fun q => some q) (bQ (spec_l02Ok_b1_RS a1 a2) (spec_l02Ok_b1_RR a1 a2) r) := by
 revert h hs
 revert s
 intro s1_1 h hs
 unfold spec_l02Ok_b1 at h
 obtain ⟨h43, h45, h47⟩ := hs
 generalize he42 : prune [0, 1, 5] e = e41
 have h44 := envp he42.symm rfl h43
 have h46 := envp he42.symm rfl h45
 have h48 := envp he42.symm rfl h47
 refine sq (sq (Rg (kx (mvO h48) (kx (mvO h46) (kx (lnS Try.underlying57 rfl) (kx (bLss rfl rfl) (Rn (hV (.int .i64 a1) h44 (hV (.sl none (a2.map Debt.c)) h46 (hV (.int .i64 s1_1) h48 (hN rfl hZ)))) fun e49 h51 h52 h53 h54 => sN ?_)))))))
 clear h44 h46 h48
 rcases ite_some h with ⟨hb55, h⟩ | ⟨hb55, h⟩
 ·obtain ⟨x56, hx57, h⟩ := bind_some h
  obtain ⟨r65, hx64, h⟩ := bind_some h
  refine cT h54 hb55 (xx (sN (sq (bl (sq (Rg (kx (mvO h52) (kx (mvO h53) (kx (ixS rfl rfl hx57 Debt.fl) (kx (mvO rfl) (Rn (hA h51 (hA h52 (hA h53 (hN rfl hZ)))) fun e58 h60 h61 h62 h63 => sN (sq (Rd (kf (mvO h60) (kf (mvO h63) (kf (ncP rfl) (kf (faP rfl ⟨ble rfl, blt rfl⟩ rfl) (kf (ldP rfl rfl) (fc (cl (v := .bool r65) rfl rfl (cns rfl (cns rfl rfl)) rfl (spec_l02Person_ok a1 x56.From _ hx64) nm) (kf (uNot rfl) (kf (mvO rfl) ?_)))))))))))))))))))))
  clear h51 h52 h53 h54
  rcases ite_some h with ⟨hb66, h⟩ | ⟨hb66, h⟩
  ·obtain ⟨r68, hx67, h⟩ := bind_some h
   refine kf (guF rfl (congrArg Bool.not hb66) (mvO h60)) (kf (guF rfl (congrArg Bool.not hb66) (mvO h63)) (kf (guF rfl (congrArg Bool.not hb66) (ncP rfl)) (kf (guF rfl (congrArg Bool.not hb66) (faP rfl ⟨ble rfl, blt rfl⟩ rfl)) (kf (guF rfl (congrArg Bool.not hb66) (ldP rfl rfl)) (fc (Ev.guF rfl (congrArg Bool.not hb66) (cl (v := .bool r68) rfl rfl (cns rfl (cns rfl rfl)) rfl (spec_l02Person_ok a1 x56.To _ hx67) nm)) (kf (guF rfl (congrArg Bool.not hb66) (uNot rfl)) (kf (pkF rfl (congrArg Bool.not hb66) rfl) (kf (mvO rfl) ?_))))))))
   rcases ite_some h with ⟨hb69, h⟩ | ⟨hb69, h⟩
   ·refine kf (guF rfl (congrArg Bool.not hb69) (mvO h63)) (kf (guF rfl (congrArg Bool.not hb69) (ncP rfl)) (kf (guF rfl (congrArg Bool.not hb69) (faP rfl ⟨ble rfl, blt rfl⟩ rfl)) (kf (guF rfl (congrArg Bool.not hb69) (ldP rfl rfl)) (kf (guF rfl (congrArg Bool.not hb69) (mvO h63)) (kf (guF rfl (congrArg Bool.not hb69) (ncP rfl)) (kf (guF rfl (congrArg Bool.not hb69) (faP rfl ⟨ble rfl, blt rfl⟩ rfl)) (kf (guF rfl (congrArg Bool.not hb69) (ldP rfl rfl)) (kf (guF rfl (congrArg Bool.not hb69) (bEql rfl rfl)) (kf (pkF rfl (congrArg Bool.not hb69) rfl) (kf (mvO rfl) ?_))))))))))
    rcases ite_some h with ⟨hb70, h⟩ | ⟨hb70, h⟩
    ·refine kf (gsF rfl hb70) (kf (gsF rfl hb70) (kf (gsF rfl hb70) (kf (gsF rfl hb70) (fc (Ev.gsF rfl hb70) (kf (gsF rfl hb70) (kf (pkT rfl hb70 rfl) (fZ (Rn (hA h60 (hA h61 (hA h62 (hV (.bool true) rfl hZ)))) fun e71 h73 h74 h75 h76 => sN (cT h76 rfl (sq (Rg (kx (mvO rfl) (Rn (hV (.bool false) rfl hZ) fun e77 h79 => sN (xx (bR (sR ?_))))))))))))))))
     clear h60 h61 h62 h63 h73 h74 h75 h76
     obtain rfl := si h
     exact qR ⟨rfl, h79⟩
    obtain ⟨r81, hx80, h⟩ := bind_some h
    refine kf (guF rfl hb70 (mvO h63)) (kf (guF rfl hb70 (ncP rfl)) (kf (guF rfl hb70 (faP rfl ⟨ble rfl, blt rfl⟩ rfl)) (kf (guF rfl hb70 (ldP rfl rfl)) (fc (Ev.guF rfl hb70 (cl (v := .bool r81) rfl rfl (cns rfl (cns rfl (cns rfl rfl))) rfl (spec_l00In_ok x56.Amount 1 100000000 _ hx80) nm)) (kf (guF rfl hb70 (uNot rfl)) (kf (pkF rfl hb70 rfl) (fZ (Rn (hA h60 (hA h61 (hA h62 (hN rfl hZ)))) fun e82 h84 h85 h86 h87 => sN ?_))))))))
    clear h60 h61 h62 h63
    rcases ite_some h with ⟨hb88, h⟩ | ⟨hb88, h⟩
    ·refine cF h87 (congrArg Bool.not hb88) (xx (bN (sN (Rg (kx (mvO h86) (kx (bAdd rfl rfl) (kx (mvO rfl) (Rn (hA h84 (hA h85 (hN rfl hZ))) fun e89 h91 h92 h93 => ?_))))))))
     clear h84 h85 h87
     obtain rfl := si h
     exact qN ⟨h91, h92, h93⟩
    refine cT h87 (congrArg Bool.not hb88) (sq (Rg (kx (mvO rfl) (Rn (hV (.bool false) rfl hZ) fun e94 h96 => sN (xx (bR (sR ?_)))))))
    clear h84 h85 h86 h87
    obtain rfl := si h
    exact qR ⟨rfl, h96⟩
   refine kf (gsF rfl (congrArg Bool.not hb69)) (kf (gsF rfl (congrArg Bool.not hb69)) (kf (gsF rfl (congrArg Bool.not hb69)) (kf (gsF rfl (congrArg Bool.not hb69)) (kf (gsF rfl (congrArg Bool.not hb69)) (kf (gsF rfl (congrArg Bool.not hb69)) (kf (gsF rfl (congrArg Bool.not hb69)) (kf (gsF rfl (congrArg Bool.not hb69)) (kf (gsF rfl (congrArg Bool.not hb69)) (kf (pkT rfl (congrArg Bool.not hb69) rfl) (kf (mvO rfl) (kf (gsF rfl rfl) (kf (gsF rfl rfl) (kf (gsF rfl rfl) (kf (gsF rfl rfl) (fc (Ev.gsF rfl rfl) (kf (gsF rfl rfl) (kf (pkT rfl rfl rfl) (fZ (Rn (hA h60 (hA h61 (hA h62 (hV (.bool true) rfl hZ)))) fun e97 h99 h100 h101 h102 => sN (cT h102 rfl (sq (Rg (kx (mvO rfl) (Rn (hV (.bool false) rfl hZ) fun e103 h105 => sN (xx (bR (sR ?_)))))))))))))))))))))))))))
   clear h60 h61 h62 h63 h100 h101 h102 h99
   obtain rfl := si h
   exact qR ⟨rfl, h105⟩
  refine kf (gsF rfl (congrArg Bool.not hb66)) (kf (gsF rfl (congrArg Bool.not hb66)) (kf (gsF rfl (congrArg Bool.not hb66)) (kf (gsF rfl (congrArg Bool.not hb66)) (kf (gsF rfl (congrArg Bool.not hb66)) (fc (Ev.gsF rfl (congrArg Bool.not hb66)) (kf (gsF rfl (congrArg Bool.not hb66)) (kf (pkT rfl (congrArg Bool.not hb66) rfl) (kf (mvO rfl) (kf (gsF rfl rfl) (kf (gsF rfl rfl) (kf (gsF rfl rfl) (kf (gsF rfl rfl) (kf (gsF rfl rfl) (kf (gsF rfl rfl) (kf (gsF rfl rfl) (kf (gsF rfl rfl) (kf (gsF rfl rfl) (kf (pkT rfl rfl rfl) (kf (mvO rfl) (kf (gsF rfl rfl) (kf (gsF rfl rfl) (kf (gsF rfl rfl) (kf (gsF rfl rfl) (fc (Ev.gsF rfl rfl) (kf (gsF rfl rfl) (kf (pkT rfl rfl rfl) (fZ (Rn (hA h60 (hA h61 (hA h62 (hV (.bool true) rfl hZ)))) fun e106 h108 h109 h110 h111 => sN (cT h111 rfl (sq (Rg (kx (mvO rfl) (Rn (hV (.bool false) rfl hZ) fun e112 h114 => sN (xx (bR (sR ?_))))))))))))))))))))))))))))))))))))
  clear h60 h61 h62 h63 h108 h109 h110 h111
  obtain rfl := si h
  exact qR ⟨rfl, h114⟩
 refine cF h54 hb55 (xx (sE ?_))
 obtain rfl := si h
 exact qE ⟨rfl, trivial⟩
noncomputable def spec_l02Ok (a1 : Int) (a2 : List Debt) : Option Bool :=
 ((spec_l00In a1 1 16).bind fun r6 =>
 if r6 = true then
  some (decide ((a2.length : Int) > 60))
 else
  some true).bind fun y20 =>
 if y20 = true then
  some false
 else
  (Lw (spec_l02Ok_b1 a1 a2) 0).bind fun r => match r with
  | (.inl _) =>
   some false
  | (.inr _) =>
   some true
def spec_l02Ok_enc (r : Bool) : AV := .bool r
theorem spec_l02Ok_ok (a1 : Int) (a2 : List Debt) (r : Bool) (h : spec_l02Ok a1 a2 = some r) : Ev (fun k => CN k 85 [.int .i64 a1, .sl none (a2.map Debt.c)] []) (fun p => rRes p.2 p.1 = spec_l02Ok_enc r) := by
 unfold spec_l02Ok at h
 obtain ⟨r127, hr128, h⟩ := bind_some h
 refine Ev.enter (F := fun k => f85 (CN k) k) (fun k => callN_eq rfl Try.func85 rfl rfl rfl (by decide +kernel) (f85_eq _ _)) (sq (Rg (kx (mvO rfl) (Rn (hN rfl (hN rfl hZ)) fun e1 h3 h4 => sN (sq (sq ?_))))))
 refine Ev.cut (Q1 := spec_l02Ok_c1_Q a1 a2 r127) (by
     have h := hr128
     obtain ⟨r6, hx5, h⟩ := bind_some h
     refine Rg (kx (mvO h3) (kc (cl (v := .bool r6) rfl rfl (cns rfl (cns rfl (cns rfl rfl))) rfl (spec_l00In_ok a1 1 16 _ hx5) nm) (kx (uNot rfl) (kx (mvO rfl) ?_))))
     rcases ite_some h with ⟨hb7, h⟩ | ⟨hb7, h⟩
     ·refine kx (guF rfl (congrArg Bool.not hb7) (mvO h4)) (kx (guF rfl (congrArg Bool.not hb7) (lnS Try.underlying57 rfl)) (kx (guF rfl (congrArg Bool.not hb7) (bGtr rfl rfl)) (kx (pkF rfl (congrArg Bool.not hb7) rfl) (Rn (hA h3 (hA h4 (hN rfl hZ))) fun e8 h10 h11 h12 => ?_))))
      clear h3 h4
      obtain rfl := si h
      exact kd (show spec_l02Ok_c1_Q a1 a2 _ _ from ⟨rfl, h10, h11, h12⟩)
     refine kx (gsF rfl (congrArg Bool.not hb7)) (kx (gsF rfl (congrArg Bool.not hb7)) (kx (gsF rfl (congrArg Bool.not hb7)) (kx (pkT rfl (congrArg Bool.not hb7) rfl) (Rn (hA h3 (hA h4 (hV (.bool true) rfl hZ))) fun e13 h15 h16 h17 => ?_))))
     clear h3 h4
     obtain rfl := si h
     exact kd (show spec_l02Ok_c1_Q a1 a2 _ _ from ⟨rfl, h15, h16, h17⟩)) ?_
 revert h hr128
 revert r127
 intro y20 hr128 h
 intro x e18 M19 hq126
 obtain ⟨rfl, h21, h22, h23⟩ := hq126
 refine sN ?_
 rcases ite_some h with ⟨hb24, h⟩ | ⟨hb24, h⟩
 ·refine cT h23 hb24 (sq (Rg (kx (mvO rfl) (Rn (hV (.bool false) rfl hZ) fun e25 h27 => sN (xx (sR ?_))))))
  clear h21 h22 h23
  obtain rfl := si h
  exact eR (resT h27 res0) rfl
 obtain ⟨r115, hr116, h⟩ := bind_some h
 refine cF h23 hb24 (xx (sN (sq (sq (Rg (kx (mvO rfl) (Rn (hV (.int .i64 a1) h21 (hV (.sl none (a2.map Debt.c)) h22 (hV (.int .i64 0) rfl hZ))) fun e28 h30 h31 h32 => sN (bl ?_))))))))
 clear h21 h22 h23
 rcases r115 with _ | _
 ·refine Ev.loop (RS := spec_l02Ok_b1_RS a1 a2) (RR := spec_l02Ok_b1_RR a1 a2) (fun s r h e M hs => spec_l02Ok_b1_ok a1 a2 s r h e M hs) hr116 ⟨h30, h31, h32⟩ fun x e118 M119 hq117 => ?_
  obtain ⟨rfl, h120⟩ := hq117
  refine bR (sR ?_)
  obtain rfl := si h
  exact eR (resT h120 res0) rfl
 refine Ev.loop (RS := spec_l02Ok_b1_RS a1 a2) (RR := spec_l02Ok_b1_RR a1 a2) (fun s r h e M hs => spec_l02Ok_b1_ok a1 a2 s r h e M hs) hr116 ⟨h30, h31, h32⟩ fun x e121 M122 hq117 => ?_
 obtain ⟨rfl, _⟩ := hq117
 refine bE (sN (sq (Rg (kx (mvO rfl) (Rn (hV (.bool true) rfl hZ) fun e123 h125 => sN (xx ?_))))))
 obtain rfl := si h
 exact eR (resT h125 res0) rfl
abbrev spec_l02Same_b1_S := Int
abbrev spec_l02Same_b1_R := Unit ⊕ Unit
def spec_l02Same_b1_RS (a1 : List Debt) (a2 : List Debt) (s : spec_l02Same_b1_S) (e : Env) (M : Mem) : Prop := eget e 0 = .sl none (a1.map Debt.c) ∧ eget e 1 = .sl none (a2.map Debt.c) ∧ eget e 5 = .int .i64 s
def spec_l02Same_b1_RR (a1 : List Debt) (a2 : List Debt) (r : spec_l02Same_b1_R) (x : Ex) (e : Env) (M : Mem) : Prop :=
  match r with
  | (.inl g) => x = .ret ∧ eget e 4 = .bool false
  | (.inr g) => x = .ext 0 ∧ True
noncomputable def spec_l02Same_b1 (a1 : List Debt) (a2 : List Debt) : spec_l02Same_b1_S → Option (spec_l02Same_b1_S ⊕ spec_l02Same_b1_R) := fun s1_1 =>
 if (decide (s1_1 < (a1.length : Int))) = true then
  (rd a1 s1_1).bind fun x42 =>
  (rd a2 s1_1).bind fun x44 =>
  if ((x42.From == x44.From) && ((x42.To == x44.To) && ((x42.Amount == x44.Amount) && true))) = true then
   some (.inl (IntKind.i64.wrap (s1_1 + 1)))
  else
   some (.inr (.inl ()))
 else
  some (.inr (.inr ()))
theorem spec_l02Same_b1_ok (a1 : List Debt) (a2 : List Debt) (s : spec_l02Same_b1_S) (r : spec_l02Same_b1_S ⊕ spec_l02Same_b1_R) (h : spec_l02Same_b1 a1 a2 s = some r) (e : Env) (M : Mem) (hs : spec_l02Same_b1_RS a1 a2 s e M) : Ev (fun k => (f84_l4 (CN k) k (prune [0, 1, 5] e) M).bind fun q => some q) (bQ (spec_l02Same_b1_RS a1 a2) (spec_l02Same_b1_RR a1 a2) r) := by
 revert h hs
 revert s
 intro s1_1 h hs
 unfold spec_l02Same_b1 at h
 obtain ⟨h29, h31, h33⟩ := hs
 generalize he28 : prune [0, 1, 5] e = e27
 have h30 := envp he28.symm rfl h29
 have h32 := envp he28.symm rfl h31
 have h34 := envp he28.symm rfl h33
 refine sq (sq (Rg (kx (mvO h34) (kx (mvO h30) (kx (lnS Try.underlying57 rfl) (kx (bLss rfl rfl) (Rn (hV (.sl none (a1.map Debt.c)) h30 (hV (.sl none (a2.map Debt.c)) h32 (hV (.int .i64 s1_1) h34 (hN rfl hZ)))) fun e35 h37 h38 h39 h40 => sN ?_)))))))
 clear h30 h32 h34
 rcases ite_some h with ⟨hb41, h⟩ | ⟨hb41, h⟩
 ·obtain ⟨x42, hx43, h⟩ := bind_some h
  obtain ⟨x44, hx45, h⟩ := bind_some h
  refine cT h40 hb41 (xx (sN (sq (bl (sq (Rd (kf (mvO h37) (kf (mvO h39) (kf (ixS rfl rfl hx43 Debt.fl) (kf (ldPA rfl rfl rfl) (kf (mvO h38) (kf (mvO h39) (kf (ixS rfl rfl hx45 Debt.fl) (kf (ldPA rfl rfl rfl) (kf (gNeq rfl rfl (by kernel_rfl) rfl) (fZ (Rn (hA h37 (hA h38 (hA h39 (hN rfl hZ)))) fun e46 h48 h49 h50 h51 => sN ?_)))))))))))))))))
  clear h37 h38 h39 h40
  rcases ite_some h with ⟨hb52, h⟩ | ⟨hb52, h⟩
  ·refine cF h51 (congrArg Bool.not hb52) (xx (bN (sN (Rg (kx (mvO h50) (kx (bAdd rfl rfl) (kx (mvO rfl) (Rn (hA h48 (hA h49 (hN rfl hZ))) fun e53 h55 h56 h57 => ?_))))))))
   clear h48 h49 h51
   obtain rfl := si h
   exact qN ⟨h55, h56, h57⟩
  refine cT h51 (congrArg Bool.not hb52) (sq (Rg (kx (mvO rfl) (Rn (hV (.bool false) rfl hZ) fun e58 h60 => sN (xx (bR (sR ?_)))))))
  clear h48 h49 h50 h51
  obtain rfl := si h
  exact qR ⟨rfl, h60⟩
 refine cF h40 hb41 (xx (sE ?_))
 obtain rfl := si h
 exact qE ⟨rfl, trivial⟩
noncomputable def spec_l02Same (a1 : List Debt) (a2 : List Debt) : Option Bool :=
 if ((a1.length : Int) != (a2.length : Int)) = true then
  some false
 else
  (Lw (spec_l02Same_b1 a1 a2) 0).bind fun r => match r with
  | (.inl _) =>
   some false
  | (.inr _) =>
   some true
def spec_l02Same_enc (r : Bool) : AV := .bool r
theorem spec_l02Same_ok (a1 : List Debt) (a2 : List Debt) (r : Bool) (h : spec_l02Same a1 a2 = some r) : Ev (fun k => CN k 84 [.sl none (a1.map Debt.c), .sl none (a2.map Debt.c)] []) (fun p => rRes p.2 p.1 = spec_l02Same_enc r) := by
 unfold spec_l02Same at h
 refine Ev.enter (F := fun k => f84 (CN k) k) (fun k => callN_eq rfl Try.func84 rfl rfl rfl (by decide +kernel) (f84_eq _ _)) (sq (Rg (kx (mvO rfl) (Rn (hN rfl (hN rfl hZ)) fun e1 h3 h4 => sN (sq (sq (Rg (kx (mvO h3) (kx (lnS Try.underlying57 rfl) (kx (mvO h4) (kx (lnS Try.underlying57 rfl) (kx (bNeq rfl rfl) (Rn (hA h3 (hA h4 (hN rfl hZ))) fun e5 h7 h8 h9 => sN ?_)))))))))))))
 clear h3 h4
 rcases ite_some h with ⟨hb10, h⟩ | ⟨hb10, h⟩
 ·refine cT h9 hb10 (sq (Rg (kx (mvO rfl) (Rn (hV (.bool false) rfl hZ) fun e11 h13 => sN (xx (sR ?_))))))
  clear h7 h8 h9
  obtain rfl := si h
  exact eR (resT h13 res0) rfl
 obtain ⟨r61, hr62, h⟩ := bind_some h
 refine cF h9 hb10 (xx (sN (sq (sq (Rg (kx (mvO rfl) (Rn (hA h7 (hA h8 (hV (.int .i64 0) rfl hZ))) fun e14 h16 h17 h18 => sN (bl ?_))))))))
 clear h7 h8 h9
 rcases r61 with _ | _
 ·refine Ev.loop (RS := spec_l02Same_b1_RS a1 a2) (RR := spec_l02Same_b1_RR a1 a2) (fun s r h e M hs => spec_l02Same_b1_ok a1 a2 s r h e M hs) hr62 ⟨h16, h17, h18⟩ fun x e64 M65 hq63 => ?_
  obtain ⟨rfl, h66⟩ := hq63
  refine bR (sR ?_)
  obtain rfl := si h
  exact eR (resT h66 res0) rfl
 refine Ev.loop (RS := spec_l02Same_b1_RS a1 a2) (RR := spec_l02Same_b1_RR a1 a2) (fun s r h e M hs => spec_l02Same_b1_ok a1 a2 s r h e M hs) hr62 ⟨h16, h17, h18⟩ fun x e67 M68 hq63 => ?_
 obtain ⟨rfl, _⟩ := hq63
 refine bE (sN (sq (Rg (kx (mvO rfl) (Rn (hV (.bool true) rfl hZ) fun e69 h71 => sN (xx ?_))))))
 obtain rfl := si h
 exact eR (resT h71 res0) rfl
abbrev spec_l02Sums_b1_S := Int × (Ar 16 (Ar 16 Int))
abbrev spec_l02Sums_b1_R := (Ar 16 (Ar 16 Int))
def spec_l02Sums_b1_RS (a1 : List Debt) (i1_1 : Nat) (s : spec_l02Sums_b1_S) (e : Env) (M : Mem) : Prop := eget e 0 = .sl none (a1.map Debt.c) ∧ eget e 3 = .loc i1_1 1 0 0 ∧ eget e 4 = .int .i64 s.1 ∧ M[i1_1]? = some (.live ⟨.box, 154, 256, [(arC (arC (n := 16) (cI .i64) 0) (Ar.rep 16 0) s.2)]⟩)
def spec_l02Sums_b1_RR (a1 : List Debt) (i1_1 : Nat) (g : spec_l02Sums_b1_R) (x : Ex) (e : Env) (M : Mem) : Prop := x = .ext 0 ∧ eget e 3 = .loc i1_1 1 0 0 ∧ M[i1_1]? = some (.live ⟨.box, 154, 256, [(arC (arC (n := 16) (cI .i64) 0) (Ar.rep 16 0) g)]⟩)
noncomputable def spec_l02Sums_b1 (a1 : List Debt) : spec_l02Sums_b1_S → Option (spec_l02Sums_b1_S ⊕ spec_l02Sums_b1_R) := fun (s1_1, s1_2) =>
 if (decide (s1_1 < (a1.length : Int))) = true then
  (rd a1 s1_1).bind fun x42 =>
  (rd a1 s1_1).bind fun x44 =>
  (rdA s1_2 x42.From).bind fun x46 =>
  (rdA x46 x44.To).bind fun x48 =>
  (rd a1 s1_1).bind fun x50 =>
  (rdA s1_2 x42.From).bind fun x52 =>
  (rdA x52 x44.To).bind fun x54 =>
  some (.inl ((IntKind.i64.wrap (s1_1 + 1)), (s1_2.set x42.From.toNat (x52.set x44.To.toNat (IntKind.i64.wrap (x48 + x50.Amount))))))
 else
  some (.inr s1_2)
theorem spec_l02Sums_b1_ok (a1 : List Debt) (i1_1 : Nat) (s : spec_l02Sums_b1_S) (r : spec_l02Sums_b1_S ⊕ spec_l02Sums_b1_R) (h : spec_l02Sums_b1 a1 s = some r) (e : Env) (M : Mem) (hs : spec_l02Sums_b1_RS a1 i1_1 s e M) : Ev (fun k => (f83_l3 (CN k) k (prune [0, 3, 4] e) M).bind fun q => some q) (bQ (spec_l02Sums_b1_RS a1 i1_1) (spec_l02Sums_b1_RR a1 i1_1) r) := by
 obtain ⟨s1_1, s1_2⟩ := s
 unfold spec_l02Sums_b1 at h
 obtain ⟨h28, h30, h32, o34⟩ := hs
 generalize he27 : prune [0, 3, 4] e = e26
 have h29 := envp he27.symm rfl h28
 have h31 := envp he27.symm rfl h30
 have h33 := envp he27.symm rfl h32
 refine sq (sq (Rg (kx (mvO h33) (kx (mvO h29) (kx (lnS Try.underlying57 rfl) (kx (bLss rfl rfl) (Rn (hV (.sl none (a1.map Debt.c)) h29 (hV (.loc i1_1 1 0 0) h31 (hV (.int .i64 s1_1) h33 (hN rfl hZ)))) fun e35 h37 h38 h39 h40 => sN ?_)))))))
 clear h29 h31 h33
 rcases ite_some h with ⟨hb41, h⟩ | ⟨hb41, h⟩
 ·obtain ⟨x42, hx43, h⟩ := bind_some h
  obtain ⟨x44, hx45, h⟩ := bind_some h
  obtain ⟨x46, hx47, h⟩ := bind_some h
  obtain ⟨x48, hx49, h⟩ := bind_some h
  obtain ⟨x50, hx51, h⟩ := bind_some h
  obtain ⟨x52, hx53, h⟩ := bind_some h
  obtain ⟨x54, hx55, h⟩ := bind_some h
  refine cT h40 hb41 (xx (sN (sq (bl (Rd (kf (mvO h38) (kf (mvO h37) (kf (mvO h39) (kf (ixS rfl rfl hx43 Debt.fl) (kf (faP rfl ⟨ble rfl, blt rfl⟩ rfl) (kf (ldP rfl rfl) (kf (mvO h37) (kf (mvO h39) (kf (ixS rfl rfl hx45 Debt.fl) (kf (faP rfl ⟨ble rfl, blt rfl⟩ rfl) (kf (ldP rfl rfl) (kf (ncO rfl o34 rfl) (kf (ixLA rfl o34 rfl rfl hx47) (kf (ixLA rfl o34 rfl rfl hx49) (kf (ldLA2 (K := AV.int .i64) (c := (cI .i64)) (z := 0) (Z := (Ar.rep 16 0)) (G := s1_2) (pre := []) (post := []) rfl o34 rfl rfl rfl rfl rfl (fun _ => rfl) hx47 hx49) (kf (mvO h37) (kf (mvO h39) (kf (ixS rfl rfl hx51 Debt.fl) (kf (faP rfl ⟨ble rfl, blt rfl⟩ rfl) (kf (ldP rfl rfl) (kf (bAdd rfl rfl) (kf (ncO rfl o34 rfl) (kf (ixLA rfl o34 rfl rfl hx53) (kf (ixLA rfl o34 rfl rfl hx55) (fZ (kw (stLA2 (c := (cI .i64)) (z := 0) (Z := (Ar.rep 16 0)) (G := s1_2) (pre := []) (post := []) (w' := (IntKind.i64.wrap (x48 + x50.Amount))) rfl rfl o34 rfl rfl rfl rfl rfl (fun _ => rfl) rfl rfl hx53 hx55) fun M56 hM57 => ?_)))))))))))))))))))))))))))))))
  have o58 : M56[i1_1]? = some (.live ⟨.box, 154, 256, [(arC (arC (n := 16) (cI .i64) 0) (Ar.rep 16 0) (s1_2.set x42.From.toNat (x52.set x44.To.toNat (IntKind.i64.wrap (x48 + x50.Amount)))))]⟩) := set_same hM57 o34
  refine Rn (hA h37 (hA h38 (hA h39 hZ))) fun e59 h61 h62 h63 => bN (sN (Rg (kx (mvO h63) (kx (bAdd rfl rfl) (kx (mvO rfl) (Rn (hA h61 (hA h62 (hN rfl hZ))) fun e64 h66 h67 h68 => ?_))))))
  clear h37 h38 h39 h40 h61 h62
  obtain rfl := si h
  exact qN ⟨h66, h67, h68, o58⟩
 refine cF h40 hb41 (xx (sE ?_))
 obtain rfl := si h
 exact qE ⟨rfl, h38, o34⟩
noncomputable def spec_l02Sums (a1 : List Debt) : Option ((Ar 16 (Ar 16 Int))) :=
 (Lw (spec_l02Sums_b1 a1) (0, (Ar.rep 16 (Ar.rep 16 0)))).bind fun y74 =>
 some y74
def spec_l02Sums_enc (r : (Ar 16 (Ar 16 Int))) : AV := .pt (some 154) (arC (arC (n := 16) (cI .i64) 0) (Ar.rep 16 0) r)
theorem spec_l02Sums_ok (a1 : List Debt) (r : (Ar 16 (Ar 16 Int))) (h : spec_l02Sums a1 = some r) : Ev (fun k => CN k 83 [.sl none (a1.map Debt.c)] []) (fun p => rRes p.2 p.1 = spec_l02Sums_enc r) := by
 unfold spec_l02Sums at h
 refine Ev.enter (F := fun k => f83 (CN k) k) (fun k => callN_eq rfl Try.func83 rfl rfl rfl (by decide +kernel) (f83_eq _ _)) (sq (Rg (kx (mvO rfl) (Rn (hN rfl hZ) fun e1 h3 => sN (sq (Rg (kx (bldT zero154 rfl (fill0 rfl)) (ku (bxO rfl rfl ⟨rfl, rfl, by decide⟩) fun M5 hM6 => ?_))))))))
 have o7 : M5[([] : Mem).length]? = some (.live ⟨.box, 154, 256, [(arC (arC (n := 16) (cI .i64) 0) (Ar.rep 16 0) (Ar.rep 16 (Ar.rep 16 0)))]⟩) := push_new hM6
 obtain ⟨y74, hr70, h⟩ := bind_some h
 refine kx (mvO rfl) (Rn (hA h3 (hV (.loc ([] : Mem).length 1 0 0) rfl hZ)) fun e8 h10 h11 => sN (sq (sq (Rg (kx (mvO rfl) (Rn (hA h10 (hA h11 (hV (.int .i64 0) rfl hZ))) fun e12 h14 h15 h16 => sN (bl (Ev.loop (RS := spec_l02Sums_b1_RS a1 (([] : Mem).length)) (RR := spec_l02Sums_b1_RR a1 (([] : Mem).length)) (fun s r h e M hs => spec_l02Sums_b1_ok a1 (([] : Mem).length) s r h e M hs) hr70 ⟨h14, h15, h16, o7⟩ fun x e72 M73 hq71 => ?_))))))))
 clear h3 h10 h11
 obtain ⟨rfl, h75, o76⟩ := hq71
 refine bE (sN (sq (Rg (kx (mvO h75) (kx (mvO rfl) (Rn (hV (.loc ([] : Mem).length 1 0 0) rfl hZ) fun e77 h79 => sN (xx ?_)))))))
 clear h75
 obtain rfl := si h
 exact eR (resT h79 res0) (rr_box o76 rfl)
abbrev spec_l02List_b2_S := Int × (List Debt)
abbrev spec_l02List_b2_R := Unit ⊕ ((List Debt))
def spec_l02List_b2_RS (a1 : Ar 16 (Ar 16 Int)) (s1_1 : Int) (i1_1 : Nat) (s : spec_l02List_b2_S) (e : Env) (M : Mem) : Prop := eget e 0 = .pt none (arC (arC (n := 16) (cI .i64) 0) (Ar.rep 16 0) a1) ∧ eget e 4 = .lsl i1_1 s.2.length 0 s.2.length ∧ eget e 5 = .int .i64 s1_1 ∧ eget e 6 = .int .i64 s.1 ∧ M[i1_1]? = some (.live ⟨.grow, 114, 3, s.2.map Debt.c⟩)
def spec_l02List_b2_RR (a1 : Ar 16 (Ar 16 Int)) (s1_1 : Int) (i1_1 : Nat) (r : spec_l02List_b2_R) (x : Ex) (e : Env) (M : Mem) : Prop :=
  match r with
  | (.inl g) => x = .ret ∧ eget e 2 = .lit 114 (([] : List Debt).map Debt.c) ∧ eget e 3 = .int .i64 3
  | (.inr g) => x = .ext 2 ∧ eget e 0 = .pt none (arC (arC (n := 16) (cI .i64) 0) (Ar.rep 16 0) a1) ∧ eget e 4 = .lsl i1_1 g.length 0 g.length ∧ eget e 5 = .int .i64 s1_1 ∧ M[i1_1]? = some (.live ⟨.grow, 114, 3, g.map Debt.c⟩)
noncomputable def spec_l02List_b2 (a1 : Ar 16 (Ar 16 Int)) (s1_1 : Int) : spec_l02List_b2_S → Option (spec_l02List_b2_S ⊕ spec_l02List_b2_R) := fun (s2_1, s2_2) =>
 if (decide (s2_1 < 16)) = true then
  (rdA a1 s1_1).bind fun x78 =>
  (rdA x78 s2_1).bind fun x80 =>
  if (decide (x80 > 100000000)) = true then
   some (.inr (.inl ()))
  else
   (rdA a1 s1_1).bind fun x94 =>
   (rdA x94 s2_1).bind fun x96 =>
   if (decide (x96 > 0)) = true then
    (rdA a1 s1_1).bind fun x106 =>
    (rdA x106 s2_1).bind fun x108 =>
    (app 24 s2_2 [(Debt.mk s1_1 s2_1 x108)]).bind fun x110 =>
    some (.inl ((IntKind.i64.wrap (s2_1 + 1)), x110))
   else
    some (.inl ((IntKind.i64.wrap (s2_1 + 1)), s2_2))
 else
  some (.inr (.inr s2_2))
theorem spec_l02List_b2_ok (a1 : Ar 16 (Ar 16 Int)) (s1_1 : Int) (i1_1 : Nat) (s : spec_l02List_b2_S) (r : spec_l02List_b2_S ⊕ spec_l02List_b2_R) (h : spec_l02List_b2 a1 s1_1 s = some r) (e : Env) (M : Mem) (hs : spec_l02List_b2_RS a1 s1_1 i1_1 s e M) : Ev (fun k => (f82_l6 (CN k) k (prune [0, 4, 5, 6] e) M).bind fun q => some q) (bQ (spec_l02List_b2_RS a1 s1_1 i1_1) (spec_l02List_b2_RR a1 s1_1 i1_1) r) := by
 obtain ⟨s2_1, s2_2⟩ := s
 unfold spec_l02List_b2 at h
 obtain ⟨h61, h63, h65, h67, o69⟩ := hs
 generalize he60 : prune [0, 4, 5, 6] e = e59
 have h62 := envp he60.symm rfl h61
 have h64 := envp he60.symm rfl h63
 have h66 := envp he60.symm rfl h65
 have h68 := envp he60.symm rfl h67
 refine sq (sq (Rg (kx (mvO h68) (kx (bLss rfl rfl) (Rn (hV (.pt none (arC (arC (n := 16) (cI .i64) 0) (Ar.rep 16 0) a1)) h62 (hV (.lsl i1_1 s2_2.length 0 s2_2.length) h64 (hV (.int .i64 s1_1) h66 (hV (.int .i64 s2_1) h68 (hN rfl hZ))))) fun e70 h72 h73 h74 h75 h76 => sN ?_)))))
 clear h62 h64 h66 h68
 rcases ite_some h with ⟨hb77, h⟩ | ⟨hb77, h⟩
 ·obtain ⟨x78, hx79, h⟩ := bind_some h
  obtain ⟨x80, hx81, h⟩ := bind_some h
  refine cT h76 hb77 (xx (sN (sq (bl (sq (sq (Rg (kx (mvO h72) (kx (mvO h74) (kx (mvO h75) (kx (ncP rfl) (kx (ixPA (c := (arC (n := 16) (cI .i64) 0)) (z := (Ar.rep 16 0)) (g := a1) rfl rfl hx79 (fun _ => rfl)) (kx (ixPA (c := (cI .i64)) (z := 0) (g := x78) rfl rfl hx81 (fun _ => rfl)) (kx (ldP rfl rfl) (kx (bGtr rfl rfl) (Rn (hA h72 (hA h73 (hA h74 (hA h75 (hN rfl hZ))))) fun e82 h84 h85 h86 h87 h88 => sN ?_))))))))))))))))
  clear h72 h73 h74 h75 h76
  rcases ite_some h with ⟨hb89, h⟩ | ⟨hb89, h⟩
  ·refine cT h88 hb89 (sq (Rg (kx (litI rfl rfl ⟨rfl, by decide⟩) (kx (mvO rfl) (kx (mvO rfl) (Rn (hN rfl (hV (.int .i64 3) rfl hZ)) fun e90 h92 h93 => sN (xx (sR (bR (sR ?_))))))))))
   clear h84 h85 h86 h87 h88
   obtain rfl := si h
   exact qR ⟨rfl, h92, h93⟩
  obtain ⟨x94, hx95, h⟩ := bind_some h
  obtain ⟨x96, hx97, h⟩ := bind_some h
  refine cF h88 hb89 (xx (sN (sq (Rg (kx (mvO h84) (kx (mvO h86) (kx (mvO h87) (kx (ncP rfl) (kx (ixPA (c := (arC (n := 16) (cI .i64) 0)) (z := (Ar.rep 16 0)) (g := a1) rfl rfl hx95 (fun _ => rfl)) (kx (ixPA (c := (cI .i64)) (z := 0) (g := x94) rfl rfl hx97 (fun _ => rfl)) (kx (ldP rfl rfl) (kx (bGtr rfl rfl) (Rn (hA h84 (hA h85 (hA h86 (hA h87 (hN rfl hZ))))) fun e98 h100 h101 h102 h103 h104 => sN ?_)))))))))))))
  clear h84 h85 h86 h87 h88
  rcases ite_some h with ⟨hb105, h⟩ | ⟨hb105, h⟩
  ·obtain ⟨x106, hx107, h⟩ := bind_some h
   obtain ⟨x108, hx109, h⟩ := bind_some h
   obtain ⟨x110, hx111, h⟩ := bind_some h
   refine cT h104 hb105 (Rg (kx (mvO h101) (kx (mvO h102) (kx (mvO h103) (kx (mvO h100) (kx (mvO h102) (kx (mvO h103) (kx (ncP rfl) (kx (ixPA (c := (arC (n := 16) (cI .i64) 0)) (z := (Ar.rep 16 0)) (g := a1) rfl rfl hx107 (fun _ => rfl)) (kx (ixPA (c := (cI .i64)) (z := 0) (g := x106) rfl rfl hx109 (fun _ => rfl)) (kx (ldP rfl rfl) (kx (bldT zero114 (cns (pr3 rfl) (cns (pr3 rfl) (cns (pr3 rfl) rfl))) (fill1 ⟨rfl, ble rfl⟩ rfl rfl (fill1 ⟨rfl, ble rfl⟩ rfl rfl (fill1 ⟨rfl, ble rfl⟩ rfl rfl (fill0 rfl))))) (kx (litI (cns rfl rfl) rfl ⟨rfl, by decide⟩) (kw (apO rfl o69 rfl (elT (c := Debt.c) (xs := [(Debt.mk s1_1 s2_1 x108)]) rfl) hx111 Debt.fl (by decide)) fun M112 hM113 => ?_))))))))))))))
   have o114 : M112[i1_1]? = some (.live ⟨.grow, 114, 3, x110.map Debt.c⟩) := set_same hM113 o69
   refine kx (mvO rfl) (Rn (hA h100 (hV (.lsl i1_1 x110.length 0 x110.length) rfl (hA h102 (hA h103 hZ)))) fun e115 h117 h118 h119 h120 => bN (sN (Rg (kx (mvO h120) (kx (bAdd rfl rfl) (kx (mvO rfl) (Rn (hA h117 (hA h118 (hA h119 (hN rfl hZ)))) fun e121 h123 h124 h125 h126 => ?_)))))))
   clear h100 h102 h103 h104 h117 h118 h119
   obtain rfl := si h
   exact qN ⟨h123, h124, h125, h126, o114⟩
  refine cF h104 hb105 (xx (bN (sN (Rg (kx (mvO h103) (kx (bAdd rfl rfl) (kx (mvO rfl) (Rn (hA h100 (hA h101 (hA h102 (hN rfl hZ)))) fun e127 h129 h130 h131 h132 => ?_))))))))
  clear h100 h101 h102 h104
  obtain rfl := si h
  exact qN ⟨h129, h130, h131, h132, o69⟩
 refine cF h76 hb77 (xx (sE ?_))
 obtain rfl := si h
 exact qE ⟨rfl, h72, h73, h74, o69⟩
abbrev spec_l02List_b1_S := Int × (List Debt)
abbrev spec_l02List_b1_R := Unit ⊕ ((List Debt))
def spec_l02List_b1_RS (a1 : Ar 16 (Ar 16 Int)) (i1_1 : Nat) (s : spec_l02List_b1_S) (e : Env) (M : Mem) : Prop := eget e 0 = .pt none (arC (arC (n := 16) (cI .i64) 0) (Ar.rep 16 0) a1) ∧ eget e 4 = .lsl i1_1 s.2.length 0 s.2.length ∧ eget e 5 = .int .i64 s.1 ∧ M[i1_1]? = some (.live ⟨.grow, 114, 3, s.2.map Debt.c⟩)
def spec_l02List_b1_RR (a1 : Ar 16 (Ar 16 Int)) (i1_1 : Nat) (r : spec_l02List_b1_R) (x : Ex) (e : Env) (M : Mem) : Prop :=
  match r with
  | (.inl g) => x = .ret ∧ eget e 2 = .lit 114 (([] : List Debt).map Debt.c) ∧ eget e 3 = .int .i64 3
  | (.inr g) => x = .ext 0 ∧ eget e 4 = .lsl i1_1 g.length 0 g.length ∧ M[i1_1]? = some (.live ⟨.grow, 114, 3, g.map Debt.c⟩)
noncomputable def spec_l02List_b1 (a1 : Ar 16 (Ar 16 Int)) : spec_l02List_b1_S → Option (spec_l02List_b1_S ⊕ spec_l02List_b1_R) := fun (s1_1, s1_2) =>
 if (decide (s1_1 < 16)) = true then
  (Lw (spec_l02List_b2 a1 s1_1) (0, s1_2)).bind fun r => match r with
  | (.inl _) =>
   some (.inr (.inl ()))
  | (.inr y142) =>
   some (.inl ((IntKind.i64.wrap (s1_1 + 1)), y142))
 else
  some (.inr (.inr s1_2))
theorem spec_l02List_b1_ok (a1 : Ar 16 (Ar 16 Int)) (i1_1 : Nat) (s : spec_l02List_b1_S) (r : spec_l02List_b1_S ⊕ spec_l02List_b1_R) (h : spec_l02List_b1 a1 s = some r) (e : Env) (M : Mem) (hs : spec_l02List_b1_RS a1 i1_1 s e M) : Ev (fun k => (f82_l3 (CN k) k (prune [0, 4, 5] e) M).bind fun q => some q) (bQ (spec_l02List_b1_RS a1 i1_1) (spec_l02List_b1_RR a1 i1_1) r) := by
 obtain ⟨s1_1, s1_2⟩ := s
 unfold spec_l02List_b1 at h
 obtain ⟨h28, h30, h32, o34⟩ := hs
 generalize he27 : prune [0, 4, 5] e = e26
 have h29 := envp he27.symm rfl h28
 have h31 := envp he27.symm rfl h30
 have h33 := envp he27.symm rfl h32
 refine sq (sq (Rg (kx (mvO h33) (kx (bLss rfl rfl) (Rn (hV (.pt none (arC (arC (n := 16) (cI .i64) 0) (Ar.rep 16 0) a1)) h29 (hV (.lsl i1_1 s1_2.length 0 s1_2.length) h31 (hV (.int .i64 s1_1) h33 (hN rfl hZ)))) fun e35 h37 h38 h39 h40 => sN ?_)))))
 clear h29 h31 h33
 rcases ite_some h with ⟨hb41, h⟩ | ⟨hb41, h⟩
 ·obtain ⟨r133, hr134, h⟩ := bind_some h
  refine cT h40 hb41 (xx (sN (sq (bl (sq (Rg (kx (mvO rfl) (Rn (hA h37 (hA h38 (hA h39 (hV (.int .i64 0) rfl hZ)))) fun e42 h44 h45 h46 h47 => sN (bl ?_)))))))))
  clear h37 h38 h39 h40
  rcases r133 with _ | y142
  ·refine Ev.loop (RS := spec_l02List_b2_RS a1 s1_1 i1_1) (RR := spec_l02List_b2_RR a1 s1_1 i1_1) (fun s r h e M hs => spec_l02List_b2_ok a1 s1_1 i1_1 s r h e M hs) hr134 ⟨h44, h45, h46, h47, o34⟩ fun x e136 M137 hq135 => ?_
   obtain ⟨rfl, h138, h139⟩ := hq135
   refine bR (bR (sR ?_))
   obtain rfl := si h
   exact qR ⟨rfl, h138, h139⟩
  refine Ev.loop (RS := spec_l02List_b2_RS a1 s1_1 i1_1) (RR := spec_l02List_b2_RR a1 s1_1 i1_1) (fun s r h e M hs => spec_l02List_b2_ok a1 s1_1 i1_1 s r h e M hs) hr134 ⟨h44, h45, h46, h47, o34⟩ fun x e140 M141 hq135 => ?_
  obtain ⟨rfl, h143, h144, h145, o146⟩ := hq135
  refine bE (bN (sN (Rg (kx (mvO h145) (kx (bAdd rfl rfl) (kx (mvO rfl) (Rn (hV (.pt none (arC (arC (n := 16) (cI .i64) 0) (Ar.rep 16 0) a1)) h143 (hV (.lsl i1_1 y142.length 0 y142.length) h144 (hN rfl hZ))) fun e147 h149 h150 h151 => ?_)))))))
  clear h143 h144
  obtain rfl := si h
  exact qN ⟨h149, h150, h151, o146⟩
 refine cF h40 hb41 (xx (sE ?_))
 obtain rfl := si h
 exact qE ⟨rfl, h38, o34⟩
noncomputable def spec_l02List (a1 : Ar 16 (Ar 16 Int)) : Option ((List Debt) × Int) :=
 (Lw (spec_l02List_b1 a1) (0, ([] : List Debt))).bind fun r => match r with
 | (.inl _) =>
  some (([] : List Debt), 3)
 | (.inr y161) =>
  if (decide ((y161.length : Int) > 60)) = true then
   some (([] : List Debt), 3)
  else
   some (y161, 0)
def spec_l02List_enc (r : (List Debt) × Int) : AV := .tup [.sl (some 114) (r.1.map Debt.c), .int .i64 r.2]
theorem spec_l02List_ok (a1 : Ar 16 (Ar 16 Int)) (r : (List Debt) × Int) (h : spec_l02List a1 = some r) : Ev (fun k => CN k 82 [.pt none (arC (arC (n := 16) (cI .i64) 0) (Ar.rep 16 0) a1)] []) (fun p => rRes p.2 p.1 = spec_l02List_enc r) := by
 unfold spec_l02List at h
 refine Ev.enter (F := fun k => f82 (CN k) k) (fun k => callN_eq rfl Try.func82 rfl rfl rfl (by decide +kernel) (f82_eq _ _)) (sq (Rg (kx (mvO rfl) (kx (mvO rfl) (Rn (hN rfl hZ) fun e1 h3 => sN (sq (Rg (ku (litO (xs := ([] : List Debt)) (c := Debt.c) rfl rfl (by decide)) fun M5 hM6 => ?_))))))))
 have o7 : M5[([] : Mem).length]? = some (.live ⟨.grow, 114, 3, ([] : List Debt).map Debt.c⟩) := push_new hM6
 obtain ⟨r152, hr153, h⟩ := bind_some h
 refine kx (mvO rfl) (Rn (hA h3 (hV (.lsl ([] : Mem).length ([] : List Debt).length 0 ([] : List Debt).length) rfl hZ)) fun e8 h10 h11 => sN (sq (sq (Rg (kx (mvO rfl) (Rn (hA h10 (hA h11 (hV (.int .i64 0) rfl hZ))) fun e12 h14 h15 h16 => sN (bl ?_)))))))
 clear h3 h10 h11
 rcases r152 with _ | y161
 ·refine Ev.loop (RS := spec_l02List_b1_RS a1 (([] : Mem).length)) (RR := spec_l02List_b1_RR a1 (([] : Mem).length)) (fun s r h e M hs => spec_l02List_b1_ok a1 (([] : Mem).length) s r h e M hs) hr153 ⟨h14, h15, h16, o7⟩ fun x e155 M156 hq154 => ?_
  obtain ⟨rfl, h157, h158⟩ := hq154
  refine bR (sR ?_)
  obtain rfl := si h
  exact eR (resT h157 (resT h158 res0)) rfl
 refine Ev.loop (RS := spec_l02List_b1_RS a1 (([] : Mem).length)) (RR := spec_l02List_b1_RR a1 (([] : Mem).length)) (fun s r h e M hs => spec_l02List_b1_ok a1 (([] : Mem).length) s r h e M hs) hr153 ⟨h14, h15, h16, o7⟩ fun x e159 M160 hq154 => ?_
 obtain ⟨rfl, h162, o163⟩ := hq154
 refine bE (sN (sq (sq (Rg (kx (mvO h162) (kx (lnL Try.underlying57 rfl o163 (by simp)) (kx (bGtr rfl rfl) (Rn (hV (.lsl ([] : Mem).length y161.length 0 y161.length) h162 (hN rfl hZ)) fun e164 h166 h167 => sN ?_))))))))
 clear h162
 rcases ite_some h with ⟨hb168, h⟩ | ⟨hb168, h⟩
 ·refine cT h167 hb168 (sq (Rg (kx (litI rfl rfl ⟨rfl, by decide⟩) (kx (mvO rfl) (kx (mvO rfl) (Rn (hN rfl (hV (.int .i64 3) rfl hZ)) fun e169 h171 h172 => sN (xx (sR ?_))))))))
  clear h166 h167
  obtain rfl := si h
  exact eR (resT h171 (resT h172 res0)) rfl
 refine cF h167 hb168 (xx (sN (sq (Rg (kx (mvO h166) (kx (mvO rfl) (kx (mvO rfl) (Rn (hV (.lsl ([] : Mem).length y161.length 0 y161.length) rfl (hV (.int .i64 0) rfl hZ)) fun e173 h175 h176 => sN (xx ?_)))))))))
 clear h166 h167
 obtain rfl := si h
 exact eR (resT h175 (resT h176 res0)) (rr_tup (mp1 (rr_row o163 rfl Debt.fl) (mp1 rfl mp0)))
noncomputable def impl_JoinDebts (a1 : Int) (a2 : List Debt) : Option (Int ⊕ ((List Debt))) :=
 (impl_ValidDebts a1 a2).bind fun r6 =>
 if r6 = true then
  (impl_sumsOf a2).bind fun r13 =>
  (impl_sums_debts r13).bind fun r => match r with
  | (.inl _) =>
   some (.inl 3)
  | (.inr r19) =>
   some (.inr r19)
 else
  some (.inl 1)
def impl_JoinDebts_enc (r : Int ⊕ ((List Debt))) : AV :=
  match r with
  | (.inl g) => .tup [.nils, .int .i64 g]
  | (.inr g) => .tup [.sl (some 114) (g.map Debt.c), .int .i64 0]
theorem impl_JoinDebts_ok (a1 : Int) (a2 : List Debt) (r : Int ⊕ ((List Debt))) (h : impl_JoinDebts a1 a2 = some r) : Ev (fun k => CN k 81 [.int .i64 a1, .sl none (a2.map Debt.c)] []) (fun p => rRes p.2 p.1 = impl_JoinDebts_enc r) := by
 unfold impl_JoinDebts at h
 obtain ⟨r6, hx5, h⟩ := bind_some h
 refine Ev.enter (F := fun k => f81 (CN k) k) (fun k => callN_eq rfl Try.func81 rfl rfl rfl (by decide +kernel) (f81_eq _ _)) (sq (Rg (kx (mvO rfl) (kx (mvO rfl) (Rn (hN rfl (hN rfl hZ)) fun e1 h3 h4 => sN (sq (sq (Rg (kx (mvO h3) (kx (mvO h4) (kc (cl (v := .bool r6) rfl rfl (cns rfl (cns rfl rfl)) rfl (impl_ValidDebts_ok a1 a2 _ hx5) nm) (kx (uNot rfl) (Rn (hA h4 (hN rfl hZ)) fun e7 h9 h10 => sN ?_)))))))))))))
 clear h3 h4
 rcases ite_some h with ⟨hb11, h⟩ | ⟨hb11, h⟩
 ·obtain ⟨r13, hx12, h⟩ := bind_some h
  obtain ⟨q24, hx14, h⟩ := bind_some h
  refine cF h10 (congrArg Bool.not hb11) (xx (sN (sq (Rg (kx (mvO h9) (kc (cl (v := .agg (arC (arC (n := 16) (cI .i64) 0) (Ar.rep 16 0) r13)) rfl rfl (cns rfl rfl) rfl (impl_sumsOf_ok a2 _ hx12) nm) ?_))))))
  rcases q24 with _ | r19
  ·refine kc (cl (v := .tup [.nils, .int .i64 3]) rfl rfl (cns rfl rfl) rfl (impl_sums_debts_ok r13 _ hx14) nm) (kx (exT rfl rfl) (kx (exT rfl rfl) (kx (mvO rfl) (kx (mvO rfl) (Rn (hV .nils rfl (hV (.int .i64 3) rfl hZ)) fun e15 h17 h18 => sN (xx ?_))))))
   clear h10 h9
   obtain rfl := si h
   exact eR (resT h17 (resT h18 res0)) rfl
  refine kc (cl (v := .tup [.sl (some 114) (r19.map Debt.c), .int .i64 0]) rfl rfl (cns rfl rfl) rfl (impl_sums_debts_ok r13 _ hx14) nm) (kx (exT rfl rfl) (kx (exT rfl rfl) (kx (mvO rfl) (kx (mvO rfl) (Rn (hN rfl (hV (.int .i64 0) rfl hZ)) fun e20 h22 h23 => sN (xx ?_))))))
  clear h10 h9
  obtain rfl := si h
  exact eR (resT h22 (resT h23 res0)) rfl
 refine cT h10 (congrArg Bool.not hb11) (sq (Rg (kx (mvO rfl) (kx (mvO rfl) (Rn (hV .nils rfl (hV (.int .i64 1) rfl hZ)) fun e25 h27 h28 => sN (xx (sR ?_)))))))
 clear h10 h9
 obtain rfl := si h
 exact eR (resT h27 (resT h28 res0)) rfl
noncomputable def spec_l07Copy (a1 : Book) : Option (Int × (List Int) × (List Tally)) :=
 (app 8 ([] : List Int) a1.Cash).bind fun x9 =>
 (app 40 ([] : List Tally) a1.Tallies).bind fun x11 =>
 some (a1.Day, x9, x11)
def spec_l07Copy_enc (r : Int × (List Int) × (List Tally)) : AV := .agg [.int .i64 r.1, .sl (some 2) (r.2.1.map (cI .i64)), .sl (some 49) (r.2.2.map Tally.c)]
theorem spec_l07Copy_ok (a1 : Book) (r : Int × (List Int) × (List Tally)) (h : spec_l07Copy a1 = some r) : Ev (fun k => CN k 65 [.pt none [.int .i64 a1.Day, .sl none (a1.Cash.map (cI .i64)), .sl none (a1.Tallies.map Tally.c)]] []) (fun p => rRes p.2 p.1 = spec_l07Copy_enc r) := by
 unfold spec_l07Copy at h
 refine Ev.enter (F := fun k => f65 (CN k) k) (fun k => callN_eq rfl Try.func65 rfl rfl rfl (by decide +kernel) (f65_eq _ _)) (sq (Rg (ku (alO zero27) fun M2 hM3 => ?_)))
 have o4 : M2[([] : Mem).length]? = some (.live ⟨.box, 27, 3, [[.int .i64 0, .nils, .nils]]⟩) := push_new hM3
 obtain ⟨x9, hx10, h⟩ := bind_some h
 obtain ⟨x11, hx12, h⟩ := bind_some h
 refine Rn (hN rfl (hV (.loc ([] : Mem).length 1 0 0) rfl hZ)) fun e5 h7 h8 => sN (sq (Rd (kf (mvO h7) (kf (ncP rfl) (kf (faP rfl ⟨ble rfl, blt rfl⟩ rfl) (kf (ldP rfl rfl) (kf (litI rfl rfl ⟨rfl, by decide⟩) (kf (mvO h7) (kf (ncP rfl) (kf (faP rfl ⟨ble rfl, blt rfl⟩ rfl) (kf (ldP rfl rfl) (kf (aiT (c := (cI .i64)) (xs := ([] : List Int)) rfl (elS rfl) hx10 (cI_fl _) (by decide)) (kf (litI rfl rfl ⟨rfl, by decide⟩) (kf (mvO h7) (kf (ncP rfl) (kf (faP rfl ⟨ble rfl, blt rfl⟩ rfl) (kf (ldP rfl rfl) (kf (aiT (c := Tally.c) (xs := ([] : List Tally)) rfl (elS rfl) hx12 Tally.fl (by decide)) (kf (bldT zero27 (cns (pr3 rfl) (cns (pr3 rfl) (cns (pr3 rfl) rfl))) (fill1 ⟨rfl, ble rfl⟩ rfl rfl (fill1 ⟨rfl, ble rfl⟩ rfl rfl (fill1 ⟨rfl, ble rfl⟩ rfl rfl (fill0 rfl))))) (fZ (kw (stOK h8 rfl o4 rfl rfl ⟨rfl, ble rfl⟩ rfl rfl) fun M13 hM14 => ?_)))))))))))))))))))))
 have o15 : M13[([] : Mem).length]? = some (.live ⟨.box, 27, 3, [[.int .i64 a1.Day, .sl (some 2) (x9.map (cI .i64)), .sl (some 49) (x11.map Tally.c)]]⟩) := set_same hM14 o4
 refine Rn (hA h8 hZ) fun e16 h18 => sN (xx ?_)
 clear h7 h8
 obtain rfl := si h
 exact eR (resC (ag := true) (sz := 3) ⟨by kernel_rfl, by kernel_rfl, by kernel_rfl⟩ (ldOA h18 o15 rfl rfl (ble rfl) rfl) res0) rfl
noncomputable def spec_l07Do (a1 : Book) (a2 : Deal) : Option (Int ⊕ (Int × (List Int) × (List Tally))) :=
 (spec_l07Refused a1 a2).bind fun r11 =>
 if (r11 != 0) = true then
  some (.inl r11)
 else
  (spec_l07Copy a1).bind fun (r34, r35, r36) =>
  if (a2.Kind == 1) = true then
   (app 40 r36 [(Tally.mk a2.From a2.To a2.Day a2.Amount a2.Amount)]).bind fun x86 =>
   some (.inr (a2.Day, r35, x86))
  else
   (rd r36 a2.Tally).bind fun x114 =>
   if (a2.Kind == 2) = true then
    if (((Tally.mk x114.Debtor a2.To x114.Cut x114.Amount x114.Left)).Holder == ((Tally.mk x114.Debtor a2.To x114.Cut x114.Amount x114.Left)).Debtor) = true then
     some (.inr (a2.Day, r35, ((r36.set a2.Tally.toNat (Tally.mk x114.Debtor a2.To x114.Cut x114.Amount x114.Left)).set a2.Tally.toNat (Tally.mk ((Tally.mk x114.Debtor a2.To x114.Cut x114.Amount x114.Left)).Debtor ((Tally.mk x114.Debtor a2.To x114.Cut x114.Amount x114.Left)).Holder ((Tally.mk x114.Debtor a2.To x114.Cut x114.Amount x114.Left)).Cut ((Tally.mk x114.Debtor a2.To x114.Cut x114.Amount x114.Left)).Amount 0))))
    else
     some (.inr (a2.Day, r35, (r36.set a2.Tally.toNat (Tally.mk x114.Debtor a2.To x114.Cut x114.Amount x114.Left))))
   else
    if (a2.Kind == 3) = true then
     (rd r35 x114.Debtor).bind fun x197 =>
     (rd r35 x114.Debtor).bind fun x199 =>
     (rd (r35.set x114.Debtor.toNat (IntKind.i64.wrap (x197 - a2.Amount))) x114.Holder).bind fun x214 =>
     (rd (r35.set x114.Debtor.toNat (IntKind.i64.wrap (x197 - a2.Amount))) x114.Holder).bind fun x216 =>
     some (.inr (a2.Day, ((r35.set x114.Debtor.toNat (IntKind.i64.wrap (x197 - a2.Amount))).set x114.Holder.toNat (IntKind.i64.wrap (x214 + a2.Amount))), (r36.set a2.Tally.toNat (Tally.mk x114.Debtor x114.Holder x114.Cut x114.Amount (IntKind.i64.wrap (x114.Left - a2.Amount))))))
    else
     if (a2.Kind == 4) = true then
      some (.inr (a2.Day, r35, (r36.set a2.Tally.toNat (Tally.mk x114.Debtor x114.Holder x114.Cut x114.Amount 0))))
     else
      some (.inr (a2.Day, r35, r36))
def spec_l07Do_enc (r : Int ⊕ (Int × (List Int) × (List Tally))) : AV :=
  match r with
  | (.inl g) => .tup [.agg [.int .i64 0, .nils, .nils], .int .i64 g]
  | (.inr g) => .tup [.agg [.int .i64 g.1, .sl (some 2) (g.2.1.map (cI .i64)), .sl (some 49) (g.2.2.map Tally.c)], .int .i64 0]
theorem spec_l07Do_ok (a1 : Book) (a2 : Deal) (r : Int ⊕ (Int × (List Int) × (List Tally))) (h : spec_l07Do a1 a2 = some r) : Ev (fun k => CN k 78 [.pt none [.int .i64 a1.Day, .sl none (a1.Cash.map (cI .i64)), .sl none (a1.Tallies.map Tally.c)], .pt none [.int .i64 a2.Day, .int .i8 a2.Kind, .int .i64 a2.Tally, .int .i64 a2.From, .int .i64 a2.To, .int .i64 a2.Amount]] []) (fun p => rRes p.2 p.1 = spec_l07Do_enc r) := by
 unfold spec_l07Do at h
 refine Ev.enter (F := fun k => f78 (CN k) k) (fun k => callN_eq rfl Try.func78 rfl rfl rfl (by decide +kernel) (f78_eq _ _)) (sq (Rg (ku (alO zero27) fun M2 hM3 => ?_)))
 have o4 : M2[([] : Mem).length]? = some (.live ⟨.box, 27, 3, [[.int .i64 0, .nils, .nils]]⟩) := push_new hM3
 obtain ⟨r11, hx10, h⟩ := bind_some h
 refine kx (mvO rfl) (Rn (hN rfl (hN rfl (hV (.loc ([] : Mem).length 1 0 0) rfl hZ))) fun e5 h7 h8 h9 => sN (sq (sq (Rg (kx (mvO h7) (kx (mvO h8) (kc (cl (v := .int .i64 r11) rfl rfl (cns rfl (cns rfl rfl)) rfl (spec_l07Refused_ok a1 a2 _ hx10) nm) (kx (mvO rfl) (Rn (hA h7 (hA h8 (hA h9 (hN rfl hZ)))) fun e12 h14 h15 h16 h17 => sN (sq (Rg (kx (mvO h17) (kx (bNeq rfl rfl) (Rn (hA h14 (hA h15 (hA h16 (hA h17 (hN rfl hZ))))) fun e18 h20 h21 h22 h23 h24 => sN ?_))))))))))))))
 clear h7 h8 h9 h14 h15 h16 h17
 rcases ite_some h with ⟨hb25, h⟩ | ⟨hb25, h⟩
 ·refine cT h24 hb25 (sq (Rg (kx (bldT zero27 rfl (fill0 rfl)) (kx (mvO h23) (kw (stOK h22 rfl o4 rfl rfl ⟨rfl, ble rfl⟩ rfl rfl) fun M26 hM27 => ?_)))))
  have o28 : M26[([] : Mem).length]? = some (.live ⟨.box, 27, 3, [[.int .i64 0, .nils, .nils]]⟩) := set_same hM27 o4
  refine kx (mvO rfl) (Rn (hA h22 (hN rfl hZ)) fun e29 h31 h32 => sN (xx (sR ?_)))
  clear h20 h21 h22 h23 h24
  obtain rfl := si h
  exact eR (resC (ag := true) (sz := 3) ⟨by kernel_rfl, by kernel_rfl, by kernel_rfl⟩ (ldOA h31 o28 rfl rfl (ble rfl) rfl) (resT h32 res0)) rfl
 obtain ⟨⟨r34, r35, r36⟩, hx33, h⟩ := bind_some h
 refine cF h24 hb25 (xx (sN (sq (Rg (kx (mvO h20) (Ev.nxcp (Ev.callT (v := .agg [.int .i64 r34, .sl (some 2) (r35.map (cI .i64)), .sl (some 49) (r36.map Tally.c)]) rfl (cns rfl rfl) rfl (spec_l07Copy_ok a1 _ hx33) (th_gen (v' := .agg [.int .i64 r34, .lsl M2.length r35.length 0 r35.length, .lsl (M2.length + 1) r36.length 0 r36.length]) (l := [⟨.grow, 2, 1, r35.map (cI .i64)⟩, ⟨.grow, 49, 5, r36.map Tally.c⟩]) (own_agg (oa1 rfl (oa1 (own1_row' (c := (cI .i64)) (fun _ => rfl)) (oa1 (own1_row' (c := Tally.c) Tally.flF) oa0)))) (by simp [thaw, thaw2, thaw1, thawL, co2, co49]) rfl rfl)) fun M39 hM40 => ?_))))))
 have o41 := push_old hM40 o4
 have ne42 : ([] : Mem).length ≠ M2.length := by have := lt_of_get (M := M2) o4; omega
 have o43 : M39[M2.length]? = some (.live ⟨.grow, 2, 1, r35.map (cI .i64)⟩) := push_at hM40 0 rfl
 have ne44 : ([] : Mem).length ≠ (M2.length + 1) := by have := lt_of_get (M := M2) o4; omega
 have ne45 : M2.length ≠ (M2.length + 1) := by omega
 have o46 : M39[(M2.length + 1)]? = some (.live ⟨.grow, 49, 5, r36.map Tally.c⟩) := push_at hM40 1 rfl
 refine ku (alO zero27) fun M48 hM49 => ?_
 have o50 := push_old hM49 o41
 have ne51 := ne_new o41
 have o52 := push_old hM49 o43
 have ne53 := ne_new o43
 have o54 := push_old hM49 o46
 have ne55 := ne_new o46
 have o56 : M48[M39.length]? = some (.live ⟨.box, 27, 3, [[.int .i64 0, .nils, .nils]]⟩) := push_new hM49
 refine kw (stOK rfl rfl o56 rfl rfl ⟨rfl, ble rfl⟩ (all1 rfl (all1 (okL o52 (by simp)) (all1 (okL o54 (by simp)) all0))) rfl) fun M57 hM58 => ?_
 have o59 := set_ne hM58 ne51 o50
 have o60 := set_ne hM58 ne53 o52
 have o61 := set_ne hM58 ne55 o54
 have o62 : M57[M39.length]? = some (.live ⟨.box, 27, 3, [[.int .i64 r34, .lsl M2.length r35.length 0 r35.length, .lsl (M2.length + 1) r36.length 0 r36.length]]⟩) := set_same hM58 o56
 refine Rn (hA h21 (hA h22 (hV (.loc M39.length 1 0 0) rfl hZ))) fun e63 h65 h66 h67 => sN (sq (Rg (kx (mvO h65) (kx (ncP rfl) (kx (faP rfl ⟨ble rfl, blt rfl⟩ rfl) (kx (ldP rfl rfl) (kx (faO h67 o62 rfl) (kw (stO rfl rfl o62 rfl rfl ⟨rfl, ble rfl⟩ rfl rfl) fun M68 hM69 => ?_))))))))
 clear h20 h21 h22 h23 h24
 have o70 := set_ne hM69 ne51 o59
 have o71 := set_ne hM69 ne53 o60
 have o72 := set_ne hM69 ne55 o61
 have o73 : M68[M39.length]? = some (.live ⟨.box, 27, 3, [[.int .i64 a2.Day, .lsl M2.length r35.length 0 r35.length, .lsl (M2.length + 1) r36.length 0 r36.length]]⟩) := set_same hM69 o62
 refine Rn (hA h65 (hA h66 (hA h67 hZ))) fun e74 h76 h77 h78 => sN (sq (sq (Rg (kx (mvO h76) (kx (ncP rfl) (kx (faP rfl ⟨ble rfl, blt rfl⟩ rfl) (kx (ldP rfl rfl) (kx (bEql rfl rfl) (Rn (hA h76 (hA h77 (hA h78 (hN rfl hZ)))) fun e79 h81 h82 h83 h84 => sN ?_)))))))))
 clear h65 h66 h67 h76 h77 h78
 rcases ite_some h with ⟨hb85, h⟩ | ⟨hb85, h⟩
 ·obtain ⟨x86, hx87, h⟩ := bind_some h
  refine cT h84 hb85 (sq (Rd (kf (faO h83 o73 rfl) (kf (ldO rfl o73 rfl rfl rfl) (kf (mvO h81) (kf (ncP rfl) (kf (faP rfl ⟨ble rfl, blt rfl⟩ rfl) (kf (ldP rfl rfl) (kf (mvO h81) (kf (ncP rfl) (kf (faP rfl ⟨ble rfl, blt rfl⟩ rfl) (kf (ldP rfl rfl) (kf (mvO h81) (kf (ncP rfl) (kf (faP rfl ⟨ble rfl, blt rfl⟩ rfl) (kf (ldP rfl rfl) (kf (mvO h81) (kf (ncP rfl) (kf (faP rfl ⟨ble rfl, blt rfl⟩ rfl) (kf (ldP rfl rfl) (kf (mvO h81) (kf (ncP rfl) (kf (faP rfl ⟨ble rfl, blt rfl⟩ rfl) (kf (ldP rfl rfl) (kf (bldT zero49 (cns (pr3 rfl) (cns (pr3 rfl) (cns (pr3 rfl) (cns (pr3 rfl) (cns (pr3 rfl) rfl))))) (fill1 ⟨rfl, ble rfl⟩ rfl rfl (fill1 ⟨rfl, ble rfl⟩ rfl rfl (fill1 ⟨rfl, ble rfl⟩ rfl rfl (fill1 ⟨rfl, ble rfl⟩ rfl rfl (fill1 ⟨rfl, ble rfl⟩ rfl rfl (fill0 rfl))))))) (kf (litI (cns rfl rfl) rfl ⟨rfl, by decide⟩) (fZ (kw (apO rfl o72 rfl (elT (c := Tally.c) (xs := [(Tally.mk a2.From a2.To a2.Day a2.Amount a2.Amount)]) rfl) hx87 Tally.fl (by decide)) fun M88 hM89 => ?_))))))))))))))))))))))))))))
  have o90 := set_ne hM89 ne44 o70
  have o91 := set_ne hM89 ne45 o71
  have o92 : M88[(M2.length + 1)]? = some (.live ⟨.grow, 49, 5, x86.map Tally.c⟩) := set_same hM89 o72
  have o93 := set_ne hM89 (Ne.symm ne55) o73
  refine kx (faO h83 o93 rfl) (kw (stOK rfl rfl o93 rfl rfl ⟨rfl, ble rfl⟩ (all1 (okL o92 (by simp)) all0) rfl) fun M94 hM95 => ?_)
  have o96 := set_ne hM95 ne51 o90
  have o97 := set_ne hM95 ne53 o91
  have o98 := set_ne hM95 ne55 o92
  have o99 : M94[M39.length]? = some (.live ⟨.box, 27, 3, [[.int .i64 a2.Day, .lsl M2.length r35.length 0 r35.length, .lsl (M2.length + 1) x86.length 0 x86.length]]⟩) := set_same hM95 o93
  refine Rn (hA h82 (hA h83 hZ)) fun e100 h102 h103 => sN (sq (Rg (kx (ldOA h103 o99 rfl rfl (ble rfl) rfl) (kw (stOK h102 rfl o96 rfl rfl ⟨rfl, ble rfl⟩ (all1 rfl (all1 (okL o97 (by simp)) (all1 (okL o98 (by simp)) all0))) rfl) fun M104 hM105 => ?_))))
  clear h81 h82 h83 h84
  have o106 : M104[([] : Mem).length]? = some (.live ⟨.box, 27, 3, [[.int .i64 a2.Day, .lsl M2.length r35.length 0 r35.length, .lsl (M2.length + 1) x86.length 0 x86.length]]⟩) := set_same hM105 o96
  have o107 := set_ne hM105 (Ne.symm ne42) o97
  have o108 := set_ne hM105 (Ne.symm ne44) o98
  have o109 := set_ne hM105 (Ne.symm ne51) o99
  refine kx (mvO rfl) (Rn (hA h102 (hV (.int .i64 0) rfl hZ)) fun e110 h112 h113 => sN (xx (sR ?_)))
  clear h102 h103
  obtain rfl := si h
  exact eR (resC (ag := true) (sz := 3) ⟨by kernel_rfl, by kernel_rfl, by kernel_rfl⟩ (ldOA h112 o106 rfl rfl (ble rfl) rfl) (resT h113 res0)) (rr_tup (mp1 (rr_agg (mp1 rfl (mp1 (rr_row o107 rfl (cI_fl _)) (mp1 (rr_row o108 rfl Tally.fl) mp0)))) (mp1 rfl mp0)))
 obtain ⟨x114, hx115, h⟩ := bind_some h
 refine cF h84 hb85 (xx (sN (sq (Rd (kf (faO h83 o73 rfl) (kf (ldO rfl o73 rfl rfl rfl) (kf (mvO h81) (kf (ncP rfl) (kf (faP rfl ⟨ble rfl, blt rfl⟩ rfl) (kf (ldP rfl rfl) (kf (ixO rfl o72 rfl rfl (rd_get hx115).1 (rd_lt hx115).2) (kf (mvO rfl) (fZ (Rn (hA h81 (hA h82 (hA h83 (hV (.loc (M2.length + 1) r36.length (0 + a2.Tally.toNat) 0) rfl hZ)))) fun e116 h118 h119 h120 h121 => sN (sq (sq (Rg (kx (mvO h118) (kx (ncP rfl) (kx (faP rfl ⟨ble rfl, blt rfl⟩ rfl) (kx (ldP rfl rfl) (Rn (hA h118 (hA h119 (hA h120 (hA h121 (hN rfl hZ))))) fun e122 h124 h125 h126 h127 h128 => sN (bl (sq (Rg (kx (bEql h128 rfl) (kx (mvO rfl) (Rn (hA h124 (hA h125 (hA h126 (hA h127 (hA h128 (hN rfl hZ)))))) fun e129 h131 h132 h133 h134 h135 h136 => sN ?_))))))))))))))))))))))))))))
 clear h81 h82 h83 h84 h118 h119 h120 h121 h124 h125 h126 h127 h128
 rcases ite_some h with ⟨hb137, h⟩ | ⟨hb137, h⟩
 ·refine cT h136 hb137 (sq (Rg (kx (mvO h134) (kx (mvO h131) (kx (ncP rfl) (kx (faP rfl ⟨ble rfl, blt rfl⟩ rfl) (kx (ldP rfl rfl) (kx (ncO rfl o72 (by simp)) (kx (faO rfl o72 (by simp)) (kw (stR (u := x114) (u' := (Tally.mk x114.Debtor a2.To x114.Cut x114.Amount x114.Left)) rfl rfl o72 rfl (rz2 hx115) ⟨rfl, ble rfl⟩ rfl rfl) fun M138 hM139 => ?_))))))))))
  rw [Nat.zero_add] at hM139
  have o140 := set_ne hM139 ne44 o70
  have o141 := set_ne hM139 ne45 o71
  have o142 : M138[(M2.length + 1)]? = some (.live ⟨.grow, 49, 5, (r36.set a2.Tally.toNat (Tally.mk x114.Debtor a2.To x114.Cut x114.Amount x114.Left)).map Tally.c⟩) := set_same hM139 o72
  have o143 := set_ne hM139 (Ne.symm ne55) o73
  have hx144 := rd_set (u' := (Tally.mk x114.Debtor a2.To x114.Cut x114.Amount x114.Left)) hx115
  refine Rn (hA h132 (hA h133 (hA h134 hZ))) fun e145 h147 h148 h149 => sN (sq (Rd (kf (mvO h149) (kf (ncO rfl o142 (by simp)) (kf (faO rfl o142 (by simp)) (kf (ldO rfl o142 (by simp) (rz hx144) rfl) (kf (mvO h149) (kf (ncO rfl o142 (by simp)) (kf (faO rfl o142 (by simp)) (kf (ldO rfl o142 (by simp) (rz hx144) rfl) (kf (bEql rfl rfl) (fZ (Rn (hA h147 (hA h148 (hA h149 (hN rfl hZ)))) fun e150 h152 h153 h154 h155 => sN ?_)))))))))))))
  clear h131 h132 h133 h134 h135 h136 h147 h148 h149
  rcases ite_some h with ⟨hb156, h⟩ | ⟨hb156, h⟩
  ·refine cT h155 hb156 (Rg (kx (mvO h154) (kx (ncO rfl o142 (by simp)) (kx (faO rfl o142 (by simp)) (kw (stR (u := (Tally.mk x114.Debtor a2.To x114.Cut x114.Amount x114.Left)) (u' := (Tally.mk ((Tally.mk x114.Debtor a2.To x114.Cut x114.Amount x114.Left)).Debtor ((Tally.mk x114.Debtor a2.To x114.Cut x114.Amount x114.Left)).Holder ((Tally.mk x114.Debtor a2.To x114.Cut x114.Amount x114.Left)).Cut ((Tally.mk x114.Debtor a2.To x114.Cut x114.Amount x114.Left)).Amount 0)) rfl rfl o142 (by simp) (rz2 hx144) ⟨rfl, ble rfl⟩ rfl rfl) fun M157 hM158 => ?_)))))
   rw [Nat.zero_add] at hM158
   have o159 := set_ne hM158 ne44 o140
   have o160 := set_ne hM158 ne45 o141
   have o161 : M157[(M2.length + 1)]? = some (.live ⟨.grow, 49, 5, ((r36.set a2.Tally.toNat (Tally.mk x114.Debtor a2.To x114.Cut x114.Amount x114.Left)).set a2.Tally.toNat (Tally.mk ((Tally.mk x114.Debtor a2.To x114.Cut x114.Amount x114.Left)).Debtor ((Tally.mk x114.Debtor a2.To x114.Cut x114.Amount x114.Left)).Holder ((Tally.mk x114.Debtor a2.To x114.Cut x114.Amount x114.Left)).Cut ((Tally.mk x114.Debtor a2.To x114.Cut x114.Amount x114.Left)).Amount 0)).map Tally.c⟩) := set_same hM158 o142
   have o162 := set_ne hM158 (Ne.symm ne55) o143
   have hx163 := rd_set (u' := (Tally.mk ((Tally.mk x114.Debtor a2.To x114.Cut x114.Amount x114.Left)).Debtor ((Tally.mk x114.Debtor a2.To x114.Cut x114.Amount x114.Left)).Holder ((Tally.mk x114.Debtor a2.To x114.Cut x114.Amount x114.Left)).Cut ((Tally.mk x114.Debtor a2.To x114.Cut x114.Amount x114.Left)).Amount 0)) hx144
   refine Rn (hA h152 (hA h153 hZ)) fun e164 h166 h167 => bN (sN (sq (Rg (kx (ldOA h167 o162 rfl rfl (ble rfl) rfl) (kw (stOK h166 rfl o159 rfl rfl ⟨rfl, ble rfl⟩ (all1 rfl (all1 (okL o160 (by simp)) (all1 (okL o161 (by simp)) all0))) rfl) fun M168 hM169 => ?_)))))
   clear h152 h153 h154 h155
   have o170 : M168[([] : Mem).length]? = some (.live ⟨.box, 27, 3, [[.int .i64 a2.Day, .lsl M2.length r35.length 0 r35.length, .lsl (M2.length + 1) r36.length 0 r36.length]]⟩) := set_same hM169 o159
   have o171 := set_ne hM169 (Ne.symm ne42) o160
   have o172 := set_ne hM169 (Ne.symm ne44) o161
   have o173 := set_ne hM169 (Ne.symm ne51) o162
   refine kx (mvO rfl) (Rn (hA h166 (hV (.int .i64 0) rfl hZ)) fun e174 h176 h177 => sN (xx ?_))
   clear h166 h167
   obtain rfl := si h
   exact eR (resC (ag := true) (sz := 3) ⟨by kernel_rfl, by kernel_rfl, by kernel_rfl⟩ (ldOA h176 o170 rfl rfl (ble rfl) rfl) (resT h177 res0)) (rr_tup (mp1 (rr_agg (mp1 rfl (mp1 (rr_row o171 rfl (cI_fl _)) (mp1 (rr_row o172 (by simp) Tally.fl) mp0)))) (mp1 rfl mp0)))
  refine cF h155 hb156 (xx (bN (sN (sq (Rg (kx (ldOA h153 o143 rfl rfl (ble rfl) rfl) (kw (stOK h152 rfl o140 rfl rfl ⟨rfl, ble rfl⟩ (all1 rfl (all1 (okL o141 (by simp)) (all1 (okL o142 (by simp)) all0))) rfl) fun M178 hM179 => ?_)))))))
  have o180 : M178[([] : Mem).length]? = some (.live ⟨.box, 27, 3, [[.int .i64 a2.Day, .lsl M2.length r35.length 0 r35.length, .lsl (M2.length + 1) r36.length 0 r36.length]]⟩) := set_same hM179 o140
  have o181 := set_ne hM179 (Ne.symm ne42) o141
  have o182 := set_ne hM179 (Ne.symm ne44) o142
  have o183 := set_ne hM179 (Ne.symm ne51) o143
  refine kx (mvO rfl) (Rn (hA h152 (hV (.int .i64 0) rfl hZ)) fun e184 h186 h187 => sN (xx ?_))
  clear h152 h153 h154 h155
  obtain rfl := si h
  exact eR (resC (ag := true) (sz := 3) ⟨by kernel_rfl, by kernel_rfl, by kernel_rfl⟩ (ldOA h186 o180 rfl rfl (ble rfl) rfl) (resT h187 res0)) (rr_tup (mp1 (rr_agg (mp1 rfl (mp1 (rr_row o181 rfl (cI_fl _)) (mp1 (rr_row o182 (by simp) Tally.fl) mp0)))) (mp1 rfl mp0)))
 refine cF h136 hb137 (sq (Rg (kx (bEql h135 rfl) (kx (mvO rfl) (Rn (hA h131 (hA h132 (hA h133 (hA h134 (hA h135 (hN rfl hZ)))))) fun e188 h190 h191 h192 h193 h194 h195 => sN ?_)))))
 clear h131 h132 h133 h134 h135 h136
 rcases ite_some h with ⟨hb196, h⟩ | ⟨hb196, h⟩
 ·obtain ⟨x197, hx198, h⟩ := bind_some h
  obtain ⟨x199, hx200, h⟩ := bind_some h
  refine cT h195 hb196 (sq (Rd (kf (faO h192 o73 rfl) (kf (ldO rfl o73 rfl rfl rfl) (kf (mvO h193) (kf (ncO rfl o72 (by simp)) (kf (faO rfl o72 (by simp)) (kf (ldO rfl o72 (by simp) (rz hx115) rfl) (kf (ixO rfl o71 rfl rfl (rd_get hx198).1 (rd_lt hx198).2) (kf (ldO rfl o71 (by simp) (rz hx198) rfl) (kf (mvO h190) (kf (ncP rfl) (kf (faP rfl ⟨ble rfl, blt rfl⟩ rfl) (kf (ldP rfl rfl) (kf (bSub rfl rfl) (kf (ixO rfl o71 rfl rfl (rd_get hx200).1 (rd_lt hx200).2) (fZ (kw (stR (u := x199) (u' := (IntKind.i64.wrap (x197 - a2.Amount))) rfl rfl o71 rfl (rz2 hx200) ⟨rfl, ble rfl⟩ rfl rfl) fun M201 hM202 => ?_))))))))))))))))))
  rw [Nat.zero_add] at hM202
  have o203 := set_ne hM202 ne42 o70
  have o204 : M201[M2.length]? = some (.live ⟨.grow, 2, 1, (r35.set x114.Debtor.toNat (IntKind.i64.wrap (x197 - a2.Amount))).map (cI .i64)⟩) := set_same hM202 o71
  have o205 := set_ne hM202 (Ne.symm ne45) o72
  have o206 := set_ne hM202 (Ne.symm ne53) o73
  have hx207 := rd_set (u' := (IntKind.i64.wrap (x197 - a2.Amount))) hx200
  obtain ⟨x214, hx215, h⟩ := bind_some h
  obtain ⟨x216, hx217, h⟩ := bind_some h
  refine Rn (hA h190 (hA h191 (hA h192 (hA h193 hZ)))) fun e208 h210 h211 h212 h213 => sN (sq (Rd (kf (faO h212 o206 rfl) (kf (ldO rfl o206 rfl rfl rfl) (kf (mvO h213) (kf (ncO rfl o205 (by simp)) (kf (faO rfl o205 (by simp)) (kf (ldO rfl o205 (by simp) (rz hx115) rfl) (kf (ixO (lslL (L' := (r35.set x114.Debtor.toNat (IntKind.i64.wrap (x197 - a2.Amount))).length) rfl (by simp)) o204 rfl rfl (rd_get hx215).1 (rd_lt hx215).2) (kf (ldO rfl o204 (by simp) (rz hx215) rfl) (kf (mvO h210) (kf (ncP rfl) (kf (faP rfl ⟨ble rfl, blt rfl⟩ rfl) (kf (ldP rfl rfl) (kf (bAdd rfl rfl) (kf (ixO (lslL (L' := (r35.set x114.Debtor.toNat (IntKind.i64.wrap (x197 - a2.Amount))).length) rfl (by simp)) o204 rfl rfl (rd_get hx217).1 (rd_lt hx217).2) (fZ (kw (stR (u := x216) (u' := (IntKind.i64.wrap (x214 + a2.Amount))) rfl rfl o204 rfl (rz2 hx217) ⟨rfl, ble rfl⟩ rfl rfl) fun M218 hM219 => ?_))))))))))))))))))
  clear h190 h191 h192 h193 h194 h195
  rw [Nat.zero_add] at hM219
  have o220 := set_ne hM219 ne42 o203
  have o221 : M218[M2.length]? = some (.live ⟨.grow, 2, 1, ((r35.set x114.Debtor.toNat (IntKind.i64.wrap (x197 - a2.Amount))).set x114.Holder.toNat (IntKind.i64.wrap (x214 + a2.Amount))).map (cI .i64)⟩) := set_same hM219 o204
  have o222 := set_ne hM219 (Ne.symm ne45) o205
  have o223 := set_ne hM219 (Ne.symm ne53) o206
  have hx224 := rd_set (u' := (IntKind.i64.wrap (x214 + a2.Amount))) hx217
  refine Rn (hA h210 (hA h211 (hA h212 (hA h213 hZ)))) fun e225 h227 h228 h229 h230 => sN (Rd (kf (mvO h230) (kf (ncO rfl o222 (by simp)) (kf (faO rfl o222 (by simp)) (kf (ldO rfl o222 (by simp) (rz hx115) rfl) (kf (mvO h227) (kf (ncP rfl) (kf (faP rfl ⟨ble rfl, blt rfl⟩ rfl) (kf (ldP rfl rfl) (kf (bSub rfl rfl) (kf (ncO rfl o222 (by simp)) (kf (faO rfl o222 (by simp)) (fZ (kw (stR (u := x114) (u' := (Tally.mk x114.Debtor x114.Holder x114.Cut x114.Amount (IntKind.i64.wrap (x114.Left - a2.Amount)))) rfl rfl o222 rfl (rz2 hx115) ⟨rfl, ble rfl⟩ rfl rfl) fun M231 hM232 => ?_))))))))))))))
  clear h210 h211 h212 h213
  rw [Nat.zero_add] at hM232
  have o233 := set_ne hM232 ne44 o220
  have o234 := set_ne hM232 ne45 o221
  have o235 : M231[(M2.length + 1)]? = some (.live ⟨.grow, 49, 5, (r36.set a2.Tally.toNat (Tally.mk x114.Debtor x114.Holder x114.Cut x114.Amount (IntKind.i64.wrap (x114.Left - a2.Amount)))).map Tally.c⟩) := set_same hM232 o222
  have o236 := set_ne hM232 (Ne.symm ne55) o223
  have hx237 := rd_set (u' := (Tally.mk x114.Debtor x114.Holder x114.Cut x114.Amount (IntKind.i64.wrap (x114.Left - a2.Amount)))) hx115
  refine Rn (hA h228 (hA h229 hZ)) fun e238 h240 h241 => bN (sN (sq (Rg (kx (ldOA h241 o236 rfl rfl (ble rfl) rfl) (kw (stOK h240 rfl o233 rfl rfl ⟨rfl, ble rfl⟩ (all1 rfl (all1 (okL o234 (by simp)) (all1 (okL o235 (by simp)) all0))) rfl) fun M242 hM243 => ?_)))))
  clear h227 h228 h229 h230
  have o244 : M242[([] : Mem).length]? = some (.live ⟨.box, 27, 3, [[.int .i64 a2.Day, .lsl M2.length r35.length 0 r35.length, .lsl (M2.length + 1) r36.length 0 r36.length]]⟩) := set_same hM243 o233
  have o245 := set_ne hM243 (Ne.symm ne42) o234
  have o246 := set_ne hM243 (Ne.symm ne44) o235
  have o247 := set_ne hM243 (Ne.symm ne51) o236
  refine kx (mvO rfl) (Rn (hA h240 (hV (.int .i64 0) rfl hZ)) fun e248 h250 h251 => sN (xx ?_))
  clear h240 h241
  obtain rfl := si h
  exact eR (resC (ag := true) (sz := 3) ⟨by kernel_rfl, by kernel_rfl, by kernel_rfl⟩ (ldOA h250 o244 rfl rfl (ble rfl) rfl) (resT h251 res0)) (rr_tup (mp1 (rr_agg (mp1 rfl (mp1 (rr_row o245 (by simp) (cI_fl _)) (mp1 (rr_row o246 (by simp) Tally.fl) mp0)))) (mp1 rfl mp0)))
 refine cF h195 hb196 (sq (Rg (kx (bEql h194 rfl) (kx (mvO rfl) (Rn (hA h191 (hA h192 (hA h193 (hN rfl hZ)))) fun e252 h254 h255 h256 h257 => sN ?_)))))
 clear h190 h191 h192 h193 h194 h195
 rcases ite_some h with ⟨hb258, h⟩ | ⟨hb258, h⟩
 ·refine cT h257 hb258 (Rg (kx (mvO h256) (kx (ncO rfl o72 (by simp)) (kx (faO rfl o72 (by simp)) (kw (stR (u := x114) (u' := (Tally.mk x114.Debtor x114.Holder x114.Cut x114.Amount 0)) rfl rfl o72 rfl (rz2 hx115) ⟨rfl, ble rfl⟩ rfl rfl) fun M259 hM260 => ?_)))))
  rw [Nat.zero_add] at hM260
  have o261 := set_ne hM260 ne44 o70
  have o262 := set_ne hM260 ne45 o71
  have o263 : M259[(M2.length + 1)]? = some (.live ⟨.grow, 49, 5, (r36.set a2.Tally.toNat (Tally.mk x114.Debtor x114.Holder x114.Cut x114.Amount 0)).map Tally.c⟩) := set_same hM260 o72
  have o264 := set_ne hM260 (Ne.symm ne55) o73
  have hx265 := rd_set (u' := (Tally.mk x114.Debtor x114.Holder x114.Cut x114.Amount 0)) hx115
  refine Rn (hA h254 (hA h255 hZ)) fun e266 h268 h269 => bN (sN (sq (Rg (kx (ldOA h269 o264 rfl rfl (ble rfl) rfl) (kw (stOK h268 rfl o261 rfl rfl ⟨rfl, ble rfl⟩ (all1 rfl (all1 (okL o262 (by simp)) (all1 (okL o263 (by simp)) all0))) rfl) fun M270 hM271 => ?_)))))
  clear h254 h255 h256 h257
  have o272 : M270[([] : Mem).length]? = some (.live ⟨.box, 27, 3, [[.int .i64 a2.Day, .lsl M2.length r35.length 0 r35.length, .lsl (M2.length + 1) r36.length 0 r36.length]]⟩) := set_same hM271 o261
  have o273 := set_ne hM271 (Ne.symm ne42) o262
  have o274 := set_ne hM271 (Ne.symm ne44) o263
  have o275 := set_ne hM271 (Ne.symm ne51) o264
  refine kx (mvO rfl) (Rn (hA h268 (hV (.int .i64 0) rfl hZ)) fun e276 h278 h279 => sN (xx ?_))
  clear h268 h269
  obtain rfl := si h
  exact eR (resC (ag := true) (sz := 3) ⟨by kernel_rfl, by kernel_rfl, by kernel_rfl⟩ (ldOA h278 o272 rfl rfl (ble rfl) rfl) (resT h279 res0)) (rr_tup (mp1 (rr_agg (mp1 rfl (mp1 (rr_row o273 rfl (cI_fl _)) (mp1 (rr_row o274 (by simp) Tally.fl) mp0)))) (mp1 rfl mp0)))
 refine cF h257 hb258 (xx (bN (sN (sq (Rg (kx (ldOA h255 o73 rfl rfl (ble rfl) rfl) (kw (stOK h254 rfl o70 rfl rfl ⟨rfl, ble rfl⟩ (all1 rfl (all1 (okL o71 (by simp)) (all1 (okL o72 (by simp)) all0))) rfl) fun M280 hM281 => ?_)))))))
 have o282 : M280[([] : Mem).length]? = some (.live ⟨.box, 27, 3, [[.int .i64 a2.Day, .lsl M2.length r35.length 0 r35.length, .lsl (M2.length + 1) r36.length 0 r36.length]]⟩) := set_same hM281 o70
 have o283 := set_ne hM281 (Ne.symm ne42) o71
 have o284 := set_ne hM281 (Ne.symm ne44) o72
 have o285 := set_ne hM281 (Ne.symm ne51) o73
 refine kx (mvO rfl) (Rn (hA h254 (hV (.int .i64 0) rfl hZ)) fun e286 h288 h289 => sN (xx ?_))
 clear h254 h255 h256 h257
 obtain rfl := si h
 exact eR (resC (ag := true) (sz := 3) ⟨by kernel_rfl, by kernel_rfl, by kernel_rfl⟩ (ldOA h288 o282 rfl rfl (ble rfl) rfl) (resT h289 res0)) (rr_tup (mp1 (rr_agg (mp1 rfl (mp1 (rr_row o283 rfl (cI_fl _)) (mp1 (rr_row o284 rfl Tally.fl) mp0)))) (mp1 rfl mp0)))
def spec_l07Ok_c1_Q (a1 : Book) (g : Bool) (q : Out) : Prop := q.1 = .nrm ∧ eget q.2.1 0 = .pt none [.int .i64 a1.Day, .sl none (a1.Cash.map (cI .i64)), .sl none (a1.Tallies.map Tally.c)] ∧ eget q.2.1 27 = .bool g
def spec_l07Ok_c3_Q (a1 : Book) (s1_1 : Int) (x63 : Tally) (g : Bool) (q : Out) : Prop := q.1 = .nrm ∧ eget q.2.1 0 = .pt none [.int .i64 a1.Day, .sl none (a1.Cash.map (cI .i64)), .sl none (a1.Tallies.map Tally.c)] ∧ eget q.2.1 3 = .int .i64 (a1.Cash.length : Int) ∧ eget q.2.1 4 = .int .i64 s1_1 ∧ eget q.2.1 5 = .pt none [.int .i64 x63.Debtor, .int .i64 x63.Holder, .int .i64 x63.Cut, .int .i64 x63.Amount, .int .i64 x63.Left] ∧ eget q.2.1 95 = .bool g
abbrev spec_l07Ok_b1_S := Int
abbrev spec_l07Ok_b1_R := Unit ⊕ Unit
def spec_l07Ok_b1_RS (a1 : Book) (s : spec_l07Ok_b1_S) (e : Env) (M : Mem) : Prop := eget e 0 = .pt none [.int .i64 a1.Day, .sl none (a1.Cash.map (cI .i64)), .sl none (a1.Tallies.map Tally.c)] ∧ eget e 3 = .int .i64 (a1.Cash.length : Int) ∧ eget e 4 = .int .i64 s
def spec_l07Ok_b1_RR (a1 : Book) (r : spec_l07Ok_b1_R) (x : Ex) (e : Env) (M : Mem) : Prop :=
  match r with
  | (.inl g) => x = .ret ∧ eget e 2 = .bool false
  | (.inr g) => x = .ext 0 ∧ True
noncomputable def spec_l07Ok_b1 (a1 : Book) : spec_l07Ok_b1_S → Option (spec_l07Ok_b1_S ⊕ spec_l07Ok_b1_R) := fun s1_1 =>
 if (decide (s1_1 < (a1.Tallies.length : Int))) = true then
  (rd a1.Tallies s1_1).bind fun x63 =>
  ((spec_l02Person (a1.Cash.length : Int) x63.Debtor).bind fun r72 =>
  if r72 = true then
   (spec_l02Person (a1.Cash.length : Int) x63.Holder).bind fun r75 =>
   if r75 = true then
    (spec_l00In x63.Cut 0 a1.Day).bind fun r78 =>
    if r78 = true then
     (spec_l00In x63.Amount 1 100000000).bind fun r81 =>
     if r81 = true then
      (spec_l00In x63.Left 0 x63.Amount).bind fun r84 =>
      some (!r84)
     else
      some true
    else
     some true
   else
    some true
  else
   some true).bind fun y122 =>
  if y122 = true then
   some (.inr (.inl ()))
  else
   if (x63.Debtor == x63.Holder) = true then
    if (x63.Left != 0) = true then
     some (.inr (.inl ()))
    else
     if (decide (s1_1 > 0)) = true then
      (rd a1.Tallies (IntKind.i64.wrap (s1_1 - 1))).bind fun x144 =>
      if (decide (x63.Cut < x144.Cut)) = true then
       some (.inr (.inl ()))
      else
       some (.inl (IntKind.i64.wrap (s1_1 + 1)))
     else
      some (.inl (IntKind.i64.wrap (s1_1 + 1)))
   else
    if (decide (s1_1 > 0)) = true then
     (rd a1.Tallies (IntKind.i64.wrap (s1_1 - 1))).bind fun x173 =>
     if (decide (x63.Cut < x173.Cut)) = true then
      some (.inr (.inl ()))
     else
      some (.inl (IntKind.i64.wrap (s1_1 + 1)))
    else
     some (.inl (IntKind.i64.wrap (s1_1 + 1)))
 else
  some (.inr (.inr ()))
theorem spec_l07Ok_b1_ok (a1 : Book) (s : spec_l07Ok_b1_S) (r : spec_l07Ok_b1_S ⊕ spec_l07Ok_b1_R) (h : spec_l07Ok_b1 a1 s = some r) (e : Env) (M : Mem) (hs : spec_l07Ok_b1_RS a1 s e M) : Ev (fun k => (f76_l5 (CN k) k (prune [0, 3, 4] e) M).bind fun q => some q) (bQ (spec_l07Ok_b1_RS a1) (spec_l07Ok_b1_RR a1) r) := by
 revert h hs
 revert s
 intro s1_1 h hs
 unfold spec_l07Ok_b1 at h
 obtain ⟨h50, h52, h54⟩ := hs
 generalize he49 : prune [0, 3, 4] e = e48
 have h51 := envp he49.symm rfl h50
 have h53 := envp he49.symm rfl h52
 have h55 := envp he49.symm rfl h54
 refine sq (sq (Rg (kx (mvO h55) (kx (mvO h51) (kx (ncP rfl) (kx (faP rfl ⟨ble rfl, blt rfl⟩ rfl) (kx (ldP rfl rfl) (kx (lnS Try.underlying25 rfl) (kx (bLss rfl rfl) (Rn (hV (.pt none [.int .i64 a1.Day, .sl none (a1.Cash.map (cI .i64)), .sl none (a1.Tallies.map Tally.c)]) h51 (hV (.int .i64 (a1.Cash.length : Int)) h53 (hV (.int .i64 s1_1) h55 (hN rfl hZ)))) fun e56 h58 h59 h60 h61 => sN ?_))))))))))
 clear h51 h53 h55
 rcases ite_some h with ⟨hb62, h⟩ | ⟨hb62, h⟩
 ·obtain ⟨x63, hx64, h⟩ := bind_some h
  obtain ⟨r202, hr203, h⟩ := bind_some h
  refine cT h61 hb62 (xx (sN (sq (bl (sq (Rg (kx (mvO h58) (kx (ncP rfl) (kx (faP rfl ⟨ble rfl, blt rfl⟩ rfl) (kx (ldP rfl rfl) (kx (mvO h60) (kx (ixS rfl rfl hx64 Tally.fl) (kx (mvO rfl) (Rn (hA h58 (hA h59 (hA h60 (hN rfl hZ)))) fun e65 h67 h68 h69 h70 => sN (sq (sq ?_))))))))))))))))
  clear h58 h59 h60 h61
  refine Ev.cut (Q1 := spec_l07Ok_c3_Q a1 s1_1 x63 r202) (by
      have h := hr203
      obtain ⟨r72, hx71, h⟩ := bind_some h
      refine Rd (kf (mvO h68) (kf (mvO h70) (kf (ncP rfl) (kf (faP rfl ⟨ble rfl, blt rfl⟩ rfl) (kf (ldP rfl rfl) (fc (cl (v := .bool r72) rfl rfl (cns rfl (cns rfl rfl)) rfl (spec_l02Person_ok (a1.Cash.length : Int) x63.Debtor _ hx71) nm) (kf (uNot rfl) (kf (mvO rfl) ?_))))))))
      rcases ite_some h with ⟨hb73, h⟩ | ⟨hb73, h⟩
      ·obtain ⟨r75, hx74, h⟩ := bind_some h
       refine kf (guF rfl (congrArg Bool.not hb73) (mvO h68)) (kf (guF rfl (congrArg Bool.not hb73) (mvO h70)) (kf (guF rfl (congrArg Bool.not hb73) (ncP rfl)) (kf (guF rfl (congrArg Bool.not hb73) (faP rfl ⟨ble rfl, blt rfl⟩ rfl)) (kf (guF rfl (congrArg Bool.not hb73) (ldP rfl rfl)) (fc (Ev.guF rfl (congrArg Bool.not hb73) (cl (v := .bool r75) rfl rfl (cns rfl (cns rfl rfl)) rfl (spec_l02Person_ok (a1.Cash.length : Int) x63.Holder _ hx74) nm)) (kf (guF rfl (congrArg Bool.not hb73) (uNot rfl)) (kf (pkF rfl (congrArg Bool.not hb73) rfl) (kf (mvO rfl) ?_))))))))
       rcases ite_some h with ⟨hb76, h⟩ | ⟨hb76, h⟩
       ·obtain ⟨r78, hx77, h⟩ := bind_some h
        refine kf (guF rfl (congrArg Bool.not hb76) (mvO h70)) (kf (guF rfl (congrArg Bool.not hb76) (ncP rfl)) (kf (guF rfl (congrArg Bool.not hb76) (faP rfl ⟨ble rfl, blt rfl⟩ rfl)) (kf (guF rfl (congrArg Bool.not hb76) (ldP rfl rfl)) (kf (guF rfl (congrArg Bool.not hb76) (mvO h67)) (kf (guF rfl (congrArg Bool.not hb76) (ncP rfl)) (kf (guF rfl (congrArg Bool.not hb76) (faP rfl ⟨ble rfl, blt rfl⟩ rfl)) (kf (guF rfl (congrArg Bool.not hb76) (ldP rfl rfl)) (fc (Ev.guF rfl (congrArg Bool.not hb76) (cl (v := .bool r78) rfl rfl (cns rfl (cns rfl (cns rfl rfl))) rfl (spec_l00In_ok x63.Cut 0 a1.Day _ hx77) nm)) (kf (guF rfl (congrArg Bool.not hb76) (uNot rfl)) (kf (pkF rfl (congrArg Bool.not hb76) rfl) (kf (mvO rfl) ?_)))))))))))
        rcases ite_some h with ⟨hb79, h⟩ | ⟨hb79, h⟩
        ·obtain ⟨r81, hx80, h⟩ := bind_some h
         refine kf (guF rfl (congrArg Bool.not hb79) (mvO h70)) (kf (guF rfl (congrArg Bool.not hb79) (ncP rfl)) (kf (guF rfl (congrArg Bool.not hb79) (faP rfl ⟨ble rfl, blt rfl⟩ rfl)) (kf (guF rfl (congrArg Bool.not hb79) (ldP rfl rfl)) (fc (Ev.guF rfl (congrArg Bool.not hb79) (cl (v := .bool r81) rfl rfl (cns rfl (cns rfl (cns rfl rfl))) rfl (spec_l00In_ok x63.Amount 1 100000000 _ hx80) nm)) (kf (guF rfl (congrArg Bool.not hb79) (uNot rfl)) (kf (pkF rfl (congrArg Bool.not hb79) rfl) (kf (mvO rfl) ?_)))))))
         rcases ite_some h with ⟨hb82, h⟩ | ⟨hb82, h⟩
         ·obtain ⟨r84, hx83, h⟩ := bind_some h
          refine kf (guF rfl (congrArg Bool.not hb82) (mvO h70)) (kf (guF rfl (congrArg Bool.not hb82) (ncP rfl)) (kf (guF rfl (congrArg Bool.not hb82) (faP rfl ⟨ble rfl, blt rfl⟩ rfl)) (kf (guF rfl (congrArg Bool.not hb82) (ldP rfl rfl)) (kf (guF rfl (congrArg Bool.not hb82) (mvO h70)) (kf (guF rfl (congrArg Bool.not hb82) (ncP rfl)) (kf (guF rfl (congrArg Bool.not hb82) (faP rfl ⟨ble rfl, blt rfl⟩ rfl)) (kf (guF rfl (congrArg Bool.not hb82) (ldP rfl rfl)) (fc (Ev.guF rfl (congrArg Bool.not hb82) (cl (v := .bool r84) rfl rfl (cns rfl (cns rfl (cns rfl rfl))) rfl (spec_l00In_ok x63.Left 0 x63.Amount _ hx83) nm)) (kf (guF rfl (congrArg Bool.not hb82) (uNot rfl)) (kf (pkF rfl (congrArg Bool.not hb82) rfl) (fZ (Rn (hA h67 (hA h68 (hA h69 (hA h70 (hN rfl hZ))))) fun e85 h87 h88 h89 h90 h91 => ?_))))))))))))
          clear h67 h68 h69 h70
          obtain rfl := si h
          exact kd (show spec_l07Ok_c3_Q a1 s1_1 x63 _ _ from ⟨rfl, h87, h88, h89, h90, h91⟩)
         refine kf (gsF rfl (congrArg Bool.not hb82)) (kf (gsF rfl (congrArg Bool.not hb82)) (kf (gsF rfl (congrArg Bool.not hb82)) (kf (gsF rfl (congrArg Bool.not hb82)) (kf (gsF rfl (congrArg Bool.not hb82)) (kf (gsF rfl (congrArg Bool.not hb82)) (kf (gsF rfl (congrArg Bool.not hb82)) (kf (gsF rfl (congrArg Bool.not hb82)) (fc (Ev.gsF rfl (congrArg Bool.not hb82)) (kf (gsF rfl (congrArg Bool.not hb82)) (kf (pkT rfl (congrArg Bool.not hb82) rfl) (fZ (Rn (hA h67 (hA h68 (hA h69 (hA h70 (hV (.bool true) rfl hZ))))) fun e92 h94 h95 h96 h97 h98 => ?_))))))))))))
         clear h67 h68 h69 h70
         obtain rfl := si h
         exact kd (show spec_l07Ok_c3_Q a1 s1_1 x63 _ _ from ⟨rfl, h94, h95, h96, h97, h98⟩)
        refine kf (gsF rfl (congrArg Bool.not hb79)) (kf (gsF rfl (congrArg Bool.not hb79)) (kf (gsF rfl (congrArg Bool.not hb79)) (kf (gsF rfl (congrArg Bool.not hb79)) (fc (Ev.gsF rfl (congrArg Bool.not hb79)) (kf (gsF rfl (congrArg Bool.not hb79)) (kf (pkT rfl (congrArg Bool.not hb79) rfl) (kf (mvO rfl) (kf (gsF rfl rfl) (kf (gsF rfl rfl) (kf (gsF rfl rfl) (kf (gsF rfl rfl) (kf (gsF rfl rfl) (kf (gsF rfl rfl) (kf (gsF rfl rfl) (kf (gsF rfl rfl) (fc (Ev.gsF rfl rfl) (kf (gsF rfl rfl) (kf (pkT rfl rfl rfl) (fZ (Rn (hA h67 (hA h68 (hA h69 (hA h70 (hV (.bool true) rfl hZ))))) fun e99 h101 h102 h103 h104 h105 => ?_))))))))))))))))))))
        clear h67 h68 h69 h70
        obtain rfl := si h
        exact kd (show spec_l07Ok_c3_Q a1 s1_1 x63 _ _ from ⟨rfl, h101, h102, h103, h104, h105⟩)
       refine kf (gsF rfl (congrArg Bool.not hb76)) (kf (gsF rfl (congrArg Bool.not hb76)) (kf (gsF rfl (congrArg Bool.not hb76)) (kf (gsF rfl (congrArg Bool.not hb76)) (kf (gsF rfl (congrArg Bool.not hb76)) (kf (gsF rfl (congrArg Bool.not hb76)) (kf (gsF rfl (congrArg Bool.not hb76)) (kf (gsF rfl (congrArg Bool.not hb76)) (fc (Ev.gsF rfl (congrArg Bool.not hb76)) (kf (gsF rfl (congrArg Bool.not hb76)) (kf (pkT rfl (congrArg Bool.not hb76) rfl) (kf (mvO rfl) (kf (gsF rfl rfl) (kf (gsF rfl rfl) (kf (gsF rfl rfl) (kf (gsF rfl rfl) (fc (Ev.gsF rfl rfl) (kf (gsF rfl rfl) (kf (pkT rfl rfl rfl) (kf (mvO rfl) (kf (gsF rfl rfl) (kf (gsF rfl rfl) (kf (gsF rfl rfl) (kf (gsF rfl rfl) (kf (gsF rfl rfl) (kf (gsF rfl rfl) (kf (gsF rfl rfl) (kf (gsF rfl rfl) (fc (Ev.gsF rfl rfl) (kf (gsF rfl rfl) (kf (pkT rfl rfl rfl) (fZ (Rn (hA h67 (hA h68 (hA h69 (hA h70 (hV (.bool true) rfl hZ))))) fun e106 h108 h109 h110 h111 h112 => ?_))))))))))))))))))))))))))))))))
       clear h67 h68 h69 h70
       obtain rfl := si h
       exact kd (show spec_l07Ok_c3_Q a1 s1_1 x63 _ _ from ⟨rfl, h108, h109, h110, h111, h112⟩)
      refine kf (gsF rfl (congrArg Bool.not hb73)) (kf (gsF rfl (congrArg Bool.not hb73)) (kf (gsF rfl (congrArg Bool.not hb73)) (kf (gsF rfl (congrArg Bool.not hb73)) (kf (gsF rfl (congrArg Bool.not hb73)) (fc (Ev.gsF rfl (congrArg Bool.not hb73)) (kf (gsF rfl (congrArg Bool.not hb73)) (kf (pkT rfl (congrArg Bool.not hb73) rfl) (kf (mvO rfl) (kf (gsF rfl rfl) (kf (gsF rfl rfl) (kf (gsF rfl rfl) (kf (gsF rfl rfl) (kf (gsF rfl rfl) (kf (gsF rfl rfl) (kf (gsF rfl rfl) (kf (gsF rfl rfl) (fc (Ev.gsF rfl rfl) (kf (gsF rfl rfl) (kf (pkT rfl rfl rfl) (kf (mvO rfl) (kf (gsF rfl rfl) (kf (gsF rfl rfl) (kf (gsF rfl rfl) (kf (gsF rfl rfl) (fc (Ev.gsF rfl rfl) (kf (gsF rfl rfl) (kf (pkT rfl rfl rfl) (kf (mvO rfl) (kf (gsF rfl rfl) (kf (gsF rfl rfl) (kf (gsF rfl rfl) (kf (gsF rfl rfl) (kf (gsF rfl rfl) (kf (gsF rfl rfl) (kf (gsF rfl rfl) (kf (gsF rfl rfl) (fc (Ev.gsF rfl rfl) (kf (gsF rfl rfl) (kf (pkT rfl rfl rfl) (fZ (Rn (hA h67 (hA h68 (hA h69 (hA h70 (hV (.bool true) rfl hZ))))) fun e113 h115 h116 h117 h118 h119 => ?_)))))))))))))))))))))))))))))))))))))))))
      clear h67 h68 h69 h70
      obtain rfl := si h
      exact kd (show spec_l07Ok_c3_Q a1 s1_1 x63 _ _ from ⟨rfl, h115, h116, h117, h118, h119⟩)) ?_
  revert h hr203
  revert r202
  intro y122 hr203 h
  intro x e120 M121 hq201
  obtain ⟨rfl, h123, h124, h125, h126, h127⟩ := hq201
  refine sN ?_
  rcases ite_some h with ⟨hb128, h⟩ | ⟨hb128, h⟩
  ·refine cT h127 hb128 (sq (Rg (kx (mvO rfl) (Rn (hV (.bool false) rfl hZ) fun e129 h131 => sN (xx (sR (bR (sR ?_))))))))
   clear h123 h124 h125 h126 h127
   obtain rfl := si h
   exact qR ⟨rfl, h131⟩
  refine cF h127 hb128 (xx (sN (sq (Rd (kf (mvO h126) (kf (ncP rfl) (kf (faP rfl ⟨ble rfl, blt rfl⟩ rfl) (kf (ldP rfl rfl) (kf (mvO h126) (kf (ncP rfl) (kf (faP rfl ⟨ble rfl, blt rfl⟩ rfl) (kf (ldP rfl rfl) (kf (bEql rfl rfl) (kf (mvO rfl) ?_))))))))))))))
  rcases ite_some h with ⟨hb132, h⟩ | ⟨hb132, h⟩
  ·refine kf (guT rfl hb132 (mvO h126)) (kf (guT rfl hb132 (ncP rfl)) (kf (guT rfl hb132 (faP rfl ⟨ble rfl, blt rfl⟩ rfl)) (kf (guT rfl hb132 (ldP rfl rfl)) (kf (guT rfl hb132 (bNeq rfl rfl)) (kf (pkT rfl hb132 rfl) (kf (mvO rfl) ?_))))))
   rcases ite_some h with ⟨hb133, h⟩ | ⟨hb133, h⟩
   ·refine kf (gsF rfl hb133) (kf (gsF rfl hb133) (kf (gsF rfl hb133) (kf (gsU rfl) (kf (gsU rfl) (kf (gsU rfl) (kf (gsU rfl) (kf (gsU rfl) (kf (gsU rfl) (kf (gsU rfl) (kf (gsU rfl) (kf (gsU rfl) (kf (gsU rfl) (kf (gsU rfl) (kf (gsU rfl) (kf (gsU rfl) (kf (gsU rfl) (kf (gsF rfl hb133) (kf (pkT rfl hb133 rfl) (fZ (Rn (hV (.pt none [.int .i64 a1.Day, .sl none (a1.Cash.map (cI .i64)), .sl none (a1.Tallies.map Tally.c)]) h123 (hV (.int .i64 (a1.Cash.length : Int)) h124 (hV (.int .i64 s1_1) h125 (hV (.bool true) rfl hZ)))) fun e134 h136 h137 h138 h139 => sN (cT h139 rfl (sq (Rg (kx (mvO rfl) (Rn (hV (.bool false) rfl hZ) fun e140 h142 => sN (xx (bR (sR ?_))))))))))))))))))))))))))))
    clear h123 h124 h125 h126 h127 h136 h137 h138 h139
    obtain rfl := si h
    exact qR ⟨rfl, h142⟩
   refine kf (guF rfl hb133 (mvO h125)) (kf (guF rfl hb133 (bGtr rfl rfl)) (kf (guF rfl hb133 (mvO rfl)) ?_))
   rcases ite_some h with ⟨hb143, h⟩ | ⟨hb143, h⟩
   ·obtain ⟨x144, hx145, h⟩ := bind_some h
    refine kf (guT rfl hb143 (mvO h126)) (kf (guT rfl hb143 (ncP rfl)) (kf (guT rfl hb143 (faP rfl ⟨ble rfl, blt rfl⟩ rfl)) (kf (guT rfl hb143 (ldP rfl rfl)) (kf (guT rfl hb143 (mvO h123)) (kf (guT rfl hb143 (ncP rfl)) (kf (guT rfl hb143 (faP rfl ⟨ble rfl, blt rfl⟩ rfl)) (kf (guT rfl hb143 (ldP rfl rfl)) (kf (guT rfl hb143 (mvO h125)) (kf (guT rfl hb143 (bSub rfl rfl)) (kf (guT rfl hb143 (ixS rfl rfl hx145 Tally.fl)) (kf (guT rfl hb143 (faP rfl ⟨ble rfl, blt rfl⟩ rfl)) (kf (guT rfl hb143 (ldP rfl rfl)) (kf (guT rfl hb143 (bLss rfl rfl)) (kf (guF rfl hb133 (pkT rfl hb143 rfl)) (kf (pkF rfl hb133 rfl) (fZ (Rn (hV (.pt none [.int .i64 a1.Day, .sl none (a1.Cash.map (cI .i64)), .sl none (a1.Tallies.map Tally.c)]) h123 (hV (.int .i64 (a1.Cash.length : Int)) h124 (hV (.int .i64 s1_1) h125 (hN rfl hZ)))) fun e146 h148 h149 h150 h151 => sN ?_)))))))))))))))))
    clear h123 h124 h125 h126 h127
    rcases ite_some h with ⟨hb152, h⟩ | ⟨hb152, h⟩
    ·refine cT h151 hb152 (sq (Rg (kx (mvO rfl) (Rn (hV (.bool false) rfl hZ) fun e153 h155 => sN (xx (bR (sR ?_)))))))
     clear h148 h149 h150 h151
     obtain rfl := si h
     exact qR ⟨rfl, h155⟩
    refine cF h151 hb152 (xx (bN (sN (Rg (kx (mvO h150) (kx (bAdd rfl rfl) (kx (mvO rfl) (Rn (hA h148 (hA h149 (hN rfl hZ))) fun e156 h158 h159 h160 => ?_))))))))
    clear h148 h149 h151
    obtain rfl := si h
    exact qN ⟨h158, h159, h160⟩
   refine kf (gsT rfl hb143) (kf (gsT rfl hb143) (kf (gsT rfl hb143) (kf (gsT rfl hb143) (kf (gsT rfl hb143) (kf (gsT rfl hb143) (kf (gsT rfl hb143) (kf (gsT rfl hb143) (kf (gsT rfl hb143) (kf (gsT rfl hb143) (kf (gsT rfl hb143) (kf (gsT rfl hb143) (kf (gsT rfl hb143) (kf (gsT rfl hb143) (kf (guF rfl hb133 (pkF rfl hb143 rfl)) (kf (pkF rfl hb133 rfl) (fZ (Rn (hV (.pt none [.int .i64 a1.Day, .sl none (a1.Cash.map (cI .i64)), .sl none (a1.Tallies.map Tally.c)]) h123 (hV (.int .i64 (a1.Cash.length : Int)) h124 (hV (.int .i64 s1_1) h125 (hV (.bool false) rfl hZ)))) fun e161 h163 h164 h165 h166 => sN (cF h166 rfl (xx (bN (sN (Rg (kx (mvO h165) (kx (bAdd rfl rfl) (kx (mvO rfl) (Rn (hA h163 (hA h164 (hN rfl hZ))) fun e167 h169 h170 h171 => ?_))))))))))))))))))))))))))
   clear h123 h124 h125 h126 h127 h163 h164 h166
   obtain rfl := si h
   exact qN ⟨h169, h170, h171⟩
  refine kf (gsT rfl hb132) (kf (gsT rfl hb132) (kf (gsT rfl hb132) (kf (gsT rfl hb132) (kf (gsT rfl hb132) (kf (pkF rfl hb132 rfl) (kf (mvO rfl) (kf (guF rfl rfl (mvO h125)) (kf (guF rfl rfl (bGtr rfl rfl)) (kf (guF rfl rfl (mvO rfl)) ?_)))))))))
  rcases ite_some h with ⟨hb172, h⟩ | ⟨hb172, h⟩
  ·obtain ⟨x173, hx174, h⟩ := bind_some h
   refine kf (guT rfl hb172 (mvO h126)) (kf (guT rfl hb172 (ncP rfl)) (kf (guT rfl hb172 (faP rfl ⟨ble rfl, blt rfl⟩ rfl)) (kf (guT rfl hb172 (ldP rfl rfl)) (kf (guT rfl hb172 (mvO h123)) (kf (guT rfl hb172 (ncP rfl)) (kf (guT rfl hb172 (faP rfl ⟨ble rfl, blt rfl⟩ rfl)) (kf (guT rfl hb172 (ldP rfl rfl)) (kf (guT rfl hb172 (mvO h125)) (kf (guT rfl hb172 (bSub rfl rfl)) (kf (guT rfl hb172 (ixS rfl rfl hx174 Tally.fl)) (kf (guT rfl hb172 (faP rfl ⟨ble rfl, blt rfl⟩ rfl)) (kf (guT rfl hb172 (ldP rfl rfl)) (kf (guT rfl hb172 (bLss rfl rfl)) (kf (guF rfl rfl (pkT rfl hb172 rfl)) (kf (pkF rfl rfl rfl) (fZ (Rn (hV (.pt none [.int .i64 a1.Day, .sl none (a1.Cash.map (cI .i64)), .sl none (a1.Tallies.map Tally.c)]) h123 (hV (.int .i64 (a1.Cash.length : Int)) h124 (hV (.int .i64 s1_1) h125 (hN rfl hZ)))) fun e175 h177 h178 h179 h180 => sN ?_)))))))))))))))))
   clear h123 h124 h125 h126 h127
   rcases ite_some h with ⟨hb181, h⟩ | ⟨hb181, h⟩
   ·refine cT h180 hb181 (sq (Rg (kx (mvO rfl) (Rn (hV (.bool false) rfl hZ) fun e182 h184 => sN (xx (bR (sR ?_)))))))
    clear h177 h178 h179 h180
    obtain rfl := si h
    exact qR ⟨rfl, h184⟩
   refine cF h180 hb181 (xx (bN (sN (Rg (kx (mvO h179) (kx (bAdd rfl rfl) (kx (mvO rfl) (Rn (hA h177 (hA h178 (hN rfl hZ))) fun e185 h187 h188 h189 => ?_))))))))
   clear h177 h178 h180
   obtain rfl := si h
   exact qN ⟨h187, h188, h189⟩
  refine kf (gsT rfl hb172) (kf (gsT rfl hb172) (kf (gsT rfl hb172) (kf (gsT rfl hb172) (kf (gsT rfl hb172) (kf (gsT rfl hb172) (kf (gsT rfl hb172) (kf (gsT rfl hb172) (kf (gsT rfl hb172) (kf (gsT rfl hb172) (kf (gsT rfl hb172) (kf (gsT rfl hb172) (kf (gsT rfl hb172) (kf (gsT rfl hb172) (kf (guF rfl rfl (pkF rfl hb172 rfl)) (kf (pkF rfl rfl rfl) (fZ (Rn (hV (.pt none [.int .i64 a1.Day, .sl none (a1.Cash.map (cI .i64)), .sl none (a1.Tallies.map Tally.c)]) h123 (hV (.int .i64 (a1.Cash.length : Int)) h124 (hV (.int .i64 s1_1) h125 (hV (.bool false) rfl hZ)))) fun e190 h192 h193 h194 h195 => sN (cF h195 rfl (xx (bN (sN (Rg (kx (mvO h194) (kx (bAdd rfl rfl) (kx (mvO rfl) (Rn (hA h192 (hA h193 (hN rfl hZ))) fun e196 h198 h199 h200 => ?_))))))))))))))))))))))))))
  clear h123 h124 h125 h126 h127 h192 h193 h195
  obtain rfl := si h
  exact qN ⟨h198, h199, h200⟩
 refine cF h61 hb62 (xx (sE ?_))
 obtain rfl := si h
 exact qE ⟨rfl, trivial⟩
noncomputable def spec_l07Ok (a1 : Book) : Option Bool :=
 ((spec_l07Day a1.Day).bind fun r5 =>
 if r5 = true then
  (spec_l07Cash a1.Cash).bind fun r8 =>
  if r8 = true then
   some (decide ((a1.Tallies.length : Int) > 40))
  else
   some true
 else
  some true).bind fun y24 =>
 if y24 = true then
  some false
 else
  (Lw (spec_l07Ok_b1 a1) 0).bind fun r => match r with
  | (.inl _) =>
   some false
  | (.inr _) =>
   some true
def spec_l07Ok_enc (r : Bool) : AV := .bool r
theorem spec_l07Ok_ok (a1 : Book) (r : Bool) (h : spec_l07Ok a1 = some r) : Ev (fun k => CN k 76 [.pt none [.int .i64 a1.Day, .sl none (a1.Cash.map (cI .i64)), .sl none (a1.Tallies.map Tally.c)]] []) (fun p => rRes p.2 p.1 = spec_l07Ok_enc r) := by
 unfold spec_l07Ok at h
 obtain ⟨r216, hr217, h⟩ := bind_some h
 refine Ev.enter (F := fun k => f76 (CN k) k) (fun k => callN_eq rfl Try.func76 rfl rfl rfl (by decide +kernel) (f76_eq _ _)) (sq (Rg (kx (mvO rfl) (Rn (hN rfl hZ) fun e1 h3 => sN (sq (sq ?_))))))
 refine Ev.cut (Q1 := spec_l07Ok_c1_Q a1 r216) (by
     have h := hr217
     obtain ⟨r5, hx4, h⟩ := bind_some h
     refine Rg (kx (mvO h3) (kx (ncP rfl) (kx (faP rfl ⟨ble rfl, blt rfl⟩ rfl) (kx (ldP rfl rfl) (kc (cl (v := .bool r5) rfl rfl (cns rfl rfl) rfl (spec_l07Day_ok a1.Day _ hx4) nm) (kx (uNot rfl) (kx (mvO rfl) ?_)))))))
     rcases ite_some h with ⟨hb6, h⟩ | ⟨hb6, h⟩
     ·obtain ⟨r8, hx7, h⟩ := bind_some h
      refine kx (guF rfl (congrArg Bool.not hb6) (mvO h3)) (kx (guF rfl (congrArg Bool.not hb6) (ncP rfl)) (kx (guF rfl (congrArg Bool.not hb6) (faP rfl ⟨ble rfl, blt rfl⟩ rfl)) (kx (guF rfl (congrArg Bool.not hb6) (ldP rfl rfl)) (kc (Ev.guF rfl (congrArg Bool.not hb6) (cl (v := .bool r8) rfl rfl (cns rfl rfl) rfl (spec_l07Cash_ok a1.Cash _ hx7) nm)) (kx (guF rfl (congrArg Bool.not hb6) (uNot rfl)) (kx (pkF rfl (congrArg Bool.not hb6) rfl) (kx (mvO rfl) ?_)))))))
      rcases ite_some h with ⟨hb9, h⟩ | ⟨hb9, h⟩
      ·refine kx (guF rfl (congrArg Bool.not hb9) (mvO h3)) (kx (guF rfl (congrArg Bool.not hb9) (ncP rfl)) (kx (guF rfl (congrArg Bool.not hb9) (faP rfl ⟨ble rfl, blt rfl⟩ rfl)) (kx (guF rfl (congrArg Bool.not hb9) (ldP rfl rfl)) (kx (guF rfl (congrArg Bool.not hb9) (lnS Try.underlying25 rfl)) (kx (guF rfl (congrArg Bool.not hb9) (bGtr rfl rfl)) (kx (pkF rfl (congrArg Bool.not hb9) rfl) (Rn (hA h3 (hN rfl hZ)) fun e10 h12 h13 => ?_)))))))
       clear h3
       obtain rfl := si h
       exact kd (show spec_l07Ok_c1_Q a1 _ _ from ⟨rfl, h12, h13⟩)
      refine kx (gsF rfl (congrArg Bool.not hb9)) (kx (gsF rfl (congrArg Bool.not hb9)) (kx (gsF rfl (congrArg Bool.not hb9)) (kx (gsF rfl (congrArg Bool.not hb9)) (kx (gsF rfl (congrArg Bool.not hb9)) (kx (gsF rfl (congrArg Bool.not hb9)) (kx (pkT rfl (congrArg Bool.not hb9) rfl) (Rn (hA h3 (hV (.bool true) rfl hZ)) fun e14 h16 h17 => ?_)))))))
      clear h3
      obtain rfl := si h
      exact kd (show spec_l07Ok_c1_Q a1 _ _ from ⟨rfl, h16, h17⟩)
     refine kx (gsF rfl (congrArg Bool.not hb6)) (kx (gsF rfl (congrArg Bool.not hb6)) (kx (gsF rfl (congrArg Bool.not hb6)) (kx (gsF rfl (congrArg Bool.not hb6)) (kc (Ev.gsF rfl (congrArg Bool.not hb6)) (kx (gsF rfl (congrArg Bool.not hb6)) (kx (pkT rfl (congrArg Bool.not hb6) rfl) (kx (mvO rfl) (kx (gsF rfl rfl) (kx (gsF rfl rfl) (kx (gsF rfl rfl) (kx (gsF rfl rfl) (kx (gsF rfl rfl) (kx (gsF rfl rfl) (kx (pkT rfl rfl rfl) (Rn (hA h3 (hV (.bool true) rfl hZ)) fun e18 h20 h21 => ?_)))))))))))))))
     clear h3
     obtain rfl := si h
     exact kd (show spec_l07Ok_c1_Q a1 _ _ from ⟨rfl, h20, h21⟩)) ?_
 revert h hr217
 revert r216
 intro y24 hr217 h
 intro x e22 M23 hq215
 obtain ⟨rfl, h25, h26⟩ := hq215
 refine sN ?_
 rcases ite_some h with ⟨hb27, h⟩ | ⟨hb27, h⟩
 ·refine cT h26 hb27 (sq (Rg (kx (mvO rfl) (Rn (hV (.bool false) rfl hZ) fun e28 h30 => sN (xx (sR ?_))))))
  clear h25 h26
  obtain rfl := si h
  exact eR (resT h30 res0) rfl
 obtain ⟨r204, hr205, h⟩ := bind_some h
 refine cF h26 hb27 (xx (sN (sq (Rg (kx (mvO h25) (kx (ncP rfl) (kx (faP rfl ⟨ble rfl, blt rfl⟩ rfl) (kx (ldP rfl rfl) (kx (lnS Try.underlying24 rfl) (kx (mvO rfl) (Rn (hV (.pt none [.int .i64 a1.Day, .sl none (a1.Cash.map (cI .i64)), .sl none (a1.Tallies.map Tally.c)]) h25 (hN rfl hZ)) fun e31 h33 h34 => sN (sq (sq (Rg (kx (mvO rfl) (Rn (hA h33 (hA h34 (hV (.int .i64 0) rfl hZ))) fun e35 h37 h38 h39 => sN (bl ?_)))))))))))))))))
 clear h25 h26 h33 h34
 rcases r204 with _ | _
 ·refine Ev.loop (RS := spec_l07Ok_b1_RS a1) (RR := spec_l07Ok_b1_RR a1) (fun s r h e M hs => spec_l07Ok_b1_ok a1 s r h e M hs) hr205 ⟨h37, h38, h39⟩ fun x e207 M208 hq206 => ?_
  obtain ⟨rfl, h209⟩ := hq206
  refine bR (sR ?_)
  obtain rfl := si h
  exact eR (resT h209 res0) rfl
 refine Ev.loop (RS := spec_l07Ok_b1_RS a1) (RR := spec_l07Ok_b1_RR a1) (fun s r h e M hs => spec_l07Ok_b1_ok a1 s r h e M hs) hr205 ⟨h37, h38, h39⟩ fun x e210 M211 hq206 => ?_
 obtain ⟨rfl, _⟩ := hq206
 refine bE (sN (sq (Rg (kx (mvO rfl) (Rn (hV (.bool true) rfl hZ) fun e212 h214 => sN (xx ?_))))))
 obtain rfl := si h
 exact eR (resT h214 res0) rfl
end Go.Proofs.Ytjlalepbhcekoaa

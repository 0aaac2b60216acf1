/- Printed by a program of ours (ext.py). -/
import Derived.Test.YtbhbmgmnnkcmcaaDoorFnsChainText
set_option linter.unusedVariables false
set_option linter.unusedSimpArgs false
set_option maxRecDepth 100000
set_option maxHeartbeats 2000000
namespace Go.Proofs.YtbhbmgmnnkcmcaaDoor
open Go Go.Ab
structure Notch where
  Kind : Int
  At : Int
  deriving DecidableEq
def Notch.c (x : Notch) : List AV := [.int .i8 x.Kind, .int .i16 x.At]
theorem Notch.fl : Fl Notch.c 2 := fun _ => ⟨rfl, rfl⟩
theorem Notch.flF : FlF Notch.c := fun _ => rfl
structure Mark where
  Holder : List UInt8
  Seal : Int
  deriving DecidableEq
def Mark.c (x : Mark) : List AV := [.str x.Holder, .int .u32 x.Seal]
theorem Mark.fl : Fl Mark.c 2 := fun _ => ⟨rfl, rfl⟩
theorem Mark.flF : FlF Mark.c := fun _ => rfl
structure Half where
  Stock : Bool
  Notches : List Notch
  Grain : Ar 16 Int
  deriving DecidableEq
def Half.c (x : Half) : List AV := (.bool x.Stock :: (.sl none (x.Notches.map Notch.c) :: ((arC (cI .i8) 0 x.Grain) ++ ([] : List AV))))
theorem Half.fl : Fl Half.c 18 := fun _ => ⟨rfl, rfl⟩
structure Chain where
  Debtor : List UInt8
  Stock : Half
  Marks : List Mark
  deriving DecidableEq
def Chain.c (x : Chain) : List AV := (.str x.Debtor :: (.bool x.Stock.Stock :: (.sl none (x.Stock.Notches.map Notch.c) :: ((arC (cI .i8) 0 x.Stock.Grain) ++ ((.sl none (x.Marks.map Mark.c) :: []) : List AV)))))
theorem Chain.fl : Fl Chain.c 20 := fun _ => ⟨rfl, rfl⟩
theorem zero107 : zeroOf cx.P 107 = [.str ([] : List UInt8), .int .u32 0] := by kernel_rfl
theorem zero156 : zeroOf cx.P 156 = [.int .i8 0, .int .i16 0] := by kernel_rfl
theorem zero5 : zeroOf cx.P 5 = [.int .u8 0] := by kernel_rfl
theorem zero55 : zeroOf cx.P 55 = (arC (cI .i8) 0 (Ar.rep 16 0)) := by kernel_rfl
theorem zero57 : zeroOf cx.P 57 = (.bool false :: (.nils :: ((arC (cI .i8) 0 (Ar.rep 16 0)) ++ ([] : List AV)))) := by kernel_rfl
theorem zero60 : zeroOf cx.P 60 = (.str ([] : List UInt8) :: (.bool false :: (.nils :: ((arC (cI .i8) 0 (Ar.rep 16 0)) ++ ((.nils :: []) : List AV))))) := by kernel_rfl
/-! ### loop.example/g01263/spec.l01Widths (f186) -/
noncomputable def spec_l01Widths : Option ((List Int)) :=
 some [1, 2, 4, 6, 9, 12]
def spec_l01Widths_enc (r : (List Int)) : AV := .sl (some 2) (r.map (cI .i64))
theorem spec_l01Widths_ok (r : (List Int)) (h : spec_l01Widths = some r) : Ev (fun k => CN k 186 [] []) (fun p => rRes p.2 p.1 = spec_l01Widths_enc r) := by
 unfold spec_l01Widths at h
 refine Ev.enter (F := fun k => f186 (CN k) k) (fun k => callN_eq rfl Tryd.func186 rfl rfl rfl (by decide +kernel) (f186_eq _ _)) (sq (Rg (kx (mvO rfl) (Rn hZ fun e1 => sN (sq (Rg (kx (litI (cns rfl (cns rfl (cns rfl (cns rfl (cns rfl (cns rfl rfl)))))) rfl ⟨rfl, by decide⟩) (kx (mvO rfl) (Rn (hN rfl hZ) fun e3 h5 => sN (xx ?_))))))))))
 obtain rfl := si h
 exact eR (resT h5 res0) rfl
/-! ### loop.example/g01263/impl.width (f170) -/
noncomputable def impl_width (a1 : Int) : Option Int :=
 (rd [1, 2, 4, 6, 9, 12] a1).bind fun x4 =>
 some x4
def impl_width_enc (r : Int) : AV := .int .i64 r
theorem impl_width_ok (a1 : Int) (r : Int) (h : impl_width a1 = some r) : Ev (fun k => CN k 170 [.int .i64 a1] []) (fun p => rRes p.2 p.1 = impl_width_enc r) := by
 unfold impl_width at h
 obtain ⟨x4, hx5, h⟩ := bind_some h
 refine Ev.enter (F := fun k => f170 (CN k) k) (fun k => callN_eq rfl Tryd.func170 rfl rfl rfl (by decide +kernel) (f170_eq _ _)) (sq (Rg (kx (mvO rfl) (Rn (hN rfl hZ) fun e1 h3 => sN (sq (Rg (kx (litI (cns rfl (cns rfl (cns rfl (cns rfl (cns rfl (cns rfl rfl)))))) rfl ⟨rfl, by decide⟩) (kx (mvO h3) (kx (ixLt rfl rfl hx5 (cI_fl _)) (kx (ldP rfl rfl) (kx (mvO rfl) (Rn (hN rfl hZ) fun e6 h8 => sN (xx ?_)))))))))))))
 clear h3
 obtain rfl := si h
 exact eR (resT h8 res0) rfl
/-! ### loop.example/g01263/spec.l01Ends (f169) -/
noncomputable def spec_l01Ends (a1 : Notch) : Option Int :=
 (spec_l01Widths).bind fun r5 =>
 (rd r5 a1.Kind).bind fun x6 =>
 some (IntKind.i64.wrap ((IntKind.i64.wrap a1.At) + x6))
def spec_l01Ends_enc (r : Int) : AV := .int .i64 r
theorem spec_l01Ends_ok (a1 : Notch) (r : Int) (h : spec_l01Ends a1 = some r) : Ev (fun k => CN k 169 [.agg [.int .i8 a1.Kind, .int .i16 a1.At]] []) (fun p => rRes p.2 p.1 = spec_l01Ends_enc r) := by
 unfold spec_l01Ends at h
 obtain ⟨r5, hx4, h⟩ := bind_some h
 obtain ⟨x6, hx7, h⟩ := bind_some h
 refine Ev.enter (F := fun k => f169 (CN k) k) (fun k => callN_eq rfl Tryd.func169 rfl rfl rfl (by decide +kernel) (f169_eq _ _)) (sq (Rg (kx (bxI rfl rfl ⟨rfl, rfl, by decide⟩) (kx (mvO rfl) (Rn (hN rfl hZ) fun e1 h3 => sN (sq (Rd (kf (faP h3 ⟨ble rfl, blt rfl⟩ rfl) (kf (ldP rfl rfl) (kf (cvI rfl) (fc (cl (v := .sl (some 2) (r5.map (cI .i64))) rfl rfl rfl (spec_l01Widths_ok  _ hx4) nm) (kf (faP h3 ⟨ble rfl, blt rfl⟩ rfl) (kf (ldP rfl rfl) (kf (ixS rfl rfl hx7 (cI_fl _)) (kf (ldP rfl rfl) (kf (bAdd rfl rfl) (kf (mvO rfl) (fZ (Rn (hN rfl hZ) fun e8 h10 => sN (xx ?_))))))))))))))))))))
 clear h3
 obtain rfl := si h
 exact eR (resT h10 res0) rfl
/-! ### loop.example/g01263/spec.l00In (f84) -/
noncomputable def spec_l00In (a1 : Int) (a2 : Int) (a3 : Int) : Option Bool :=
 if (decide (a1 ≥ a2)) = true then
  some (decide (a1 ≤ a3))
 else
  some false
def spec_l00In_enc (r : Bool) : AV := .bool r
theorem spec_l00In_ok (a1 : Int) (a2 : Int) (a3 : Int) (r : Bool) (h : spec_l00In a1 a2 a3 = some r) : Ev (fun k => CN k 84 [.int .i64 a1, .int .i64 a2, .int .i64 a3] []) (fun p => rRes p.2 p.1 = spec_l00In_enc r) := by
 unfold spec_l00In at h
 refine Ev.enter (F := fun k => f84 (CN k) k) (fun k => callN_eq rfl Tryd.func84 rfl rfl rfl (by decide +kernel) (f84_eq _ _)) (sq (Rg (kx (mvO rfl) (Rn (hN rfl (hN rfl (hN rfl hZ))) fun e1 h3 h4 h5 => sN (sq (Rg (kx (mvO h3) (kx (mvO h4) (kx (bGeq rfl rfl) (kx (mvO rfl) ?_))))))))))
 rcases ite_some h with ⟨hb6, h⟩ | ⟨hb6, h⟩
 ·refine kx (guT rfl hb6 (mvO h3)) (kx (guT rfl hb6 (mvO h5)) (kx (guT rfl hb6 (bLeq rfl rfl)) (kx (pkT rfl hb6 rfl) (kx (mvO rfl) (Rn (hN rfl hZ) fun e7 h9 => sN (xx ?_))))))
  clear h3 h4 h5
  obtain rfl := si h
  exact eR (resT h9 res0) rfl
 refine kx (gsT rfl hb6) (kx (gsT rfl hb6) (kx (gsT rfl hb6) (kx (pkF rfl hb6 rfl) (kx (mvO rfl) (Rn (hV (.bool false) rfl hZ) fun e10 h12 => sN (xx ?_))))))
 clear h3 h4 h5
 obtain rfl := si h
 exact eR (resT h12 res0) rfl
/-! ### loop.example/g01263/spec.l01Kind (f168) -/
noncomputable def spec_l01Kind (a1 : Int) : Option Bool :=
 (spec_l00In a1 0 5).bind fun r5 =>
 some r5
def spec_l01Kind_enc (r : Bool) : AV := .bool r
theorem spec_l01Kind_ok (a1 : Int) (r : Bool) (h : spec_l01Kind a1 = some r) : Ev (fun k => CN k 168 [.int .i64 a1] []) (fun p => rRes p.2 p.1 = spec_l01Kind_enc r) := by
 unfold spec_l01Kind at h
 obtain ⟨r5, hx4, h⟩ := bind_some h
 refine Ev.enter (F := fun k => f168 (CN k) k) (fun k => callN_eq rfl Tryd.func168 rfl rfl rfl (by decide +kernel) (f168_eq _ _)) (sq (Rg (kx (mvO rfl) (Rn (hN rfl hZ) fun e1 h3 => sN (sq (Rg (kx (mvO h3) (kc (cl (v := .bool r5) rfl (cns rfl (cns rfl (cns rfl rfl))) rfl (spec_l00In_ok a1 0 5 _ hx4) nm) (kx (mvO rfl) (Rn (hN rfl hZ) fun e6 h8 => sN (xx ?_)))))))))))
 clear h3
 obtain rfl := si h
 exact eR (resT h8 res0) rfl
/-! ### loop.example/g01263/laws.eqNotch (f149) -/
noncomputable def laws_eqNotch (a1 : Notch) (a2 : Notch) : Option Bool :=
 if (a1.Kind != a2.Kind) = true then
  some false
 else
  if (a1.At != a2.At) = true then
   some false
  else
   some true
def laws_eqNotch_enc (r : Bool) : AV := .bool r
theorem laws_eqNotch_ok (a1 : Notch) (a2 : Notch) (r : Bool) (h : laws_eqNotch a1 a2 = some r) : Ev (fun k => CN k 149 [.agg [.int .i8 a1.Kind, .int .i16 a1.At], .agg [.int .i8 a2.Kind, .int .i16 a2.At]] []) (fun p => rRes p.2 p.1 = laws_eqNotch_enc r) := by
 unfold laws_eqNotch at h
 refine Ev.enter (F := fun k => f149 (CN k) k) (fun k => callN_eq rfl Tryd.func149 rfl rfl rfl (by decide +kernel) (f149_eq _ _)) (sq (Rg (kx (bxI rfl rfl ⟨rfl, rfl, by decide⟩) (kx (bxI rfl rfl ⟨rfl, rfl, by decide⟩) (kx (mvO rfl) (Rn (hN rfl (hN rfl hZ)) fun e1 h3 h4 => sN (sq (sq (Rg (kx (faP h3 ⟨ble rfl, blt rfl⟩ rfl) (kx (ldP rfl rfl) (kx (faP h4 ⟨ble rfl, blt rfl⟩ rfl) (kx (ldP rfl rfl) (kx (bNeq rfl rfl) (Rn (hA h3 (hA h4 (hN rfl hZ))) fun e5 h7 h8 h9 => sN ?_)))))))))))))))
 clear h3 h4
 rcases ite_some h with ⟨hb10, h⟩ | ⟨hb10, h⟩
 ·refine cT h9 hb10 (sq (Rg (kx (mvO rfl) (Rn (hV (.bool false) rfl hZ) fun e11 h13 => sN (xx (sR ?_))))))
  clear h7 h8 h9
  obtain rfl := si h
  exact eR (resT h13 res0) rfl
 refine cF h9 hb10 (xx (sN (sq (sq (Rg (kx (faP h7 ⟨ble rfl, blt rfl⟩ rfl) (kx (ldP rfl rfl) (kx (faP h8 ⟨ble rfl, blt rfl⟩ rfl) (kx (ldP rfl rfl) (kx (bNeq rfl rfl) (Rn (hN rfl hZ) fun e14 h16 => sN ?_)))))))))))
 clear h7 h8 h9
 rcases ite_some h with ⟨hb17, h⟩ | ⟨hb17, h⟩
 ·refine cT h16 hb17 (sq (Rg (kx (mvO rfl) (Rn (hV (.bool false) rfl hZ) fun e18 h20 => sN (xx (sR ?_))))))
  clear h16
  obtain rfl := si h
  exact eR (resT h20 res0) rfl
 refine cF h16 hb17 (xx (sN (sq (Rg (kx (mvO rfl) (Rn (hV (.bool true) rfl hZ) fun e21 h23 => sN (xx ?_)))))))
 clear h16
 obtain rfl := si h
 exact eR (resT h23 res0) rfl
/-! ### (loop.example/g01263/impl.Notch).end (f148) -/
noncomputable def impl_Notch_end (a1 : Notch) : Option Int :=
 (impl_width (IntKind.i64.wrap a1.Kind)).bind fun r5 =>
 some (IntKind.i64.wrap ((IntKind.i64.wrap a1.At) + r5))
def impl_Notch_end_enc (r : Int) : AV := .int .i64 r
theorem impl_Notch_end_ok (a1 : Notch) (r : Int) (h : impl_Notch_end a1 = some r) : Ev (fun k => CN k 148 [.agg [.int .i8 a1.Kind, .int .i16 a1.At]] []) (fun p => rRes p.2 p.1 = impl_Notch_end_enc r) := by
 unfold impl_Notch_end at h
 obtain ⟨r5, hx4, h⟩ := bind_some h
 refine Ev.enter (F := fun k => f148 (CN k) k) (fun k => callN_eq rfl Tryd.func148 rfl rfl rfl (by decide +kernel) (f148_eq _ _)) (sq (Rg (kx (bxI rfl rfl ⟨rfl, rfl, by decide⟩) (kx (mvO rfl) (Rn (hN rfl hZ) fun e1 h3 => sN (sq (Rd (kf (faP h3 ⟨ble rfl, blt rfl⟩ rfl) (kf (ldP rfl rfl) (kf (cvI rfl) (kf (faP h3 ⟨ble rfl, blt rfl⟩ rfl) (kf (ldP rfl rfl) (kf (cvI rfl) (fc (cl (v := .int .i64 r5) rfl (cns rfl rfl) rfl (impl_width_ok (IntKind.i64.wrap a1.Kind) _ hx4) nm) (kf (bAdd rfl rfl) (kf (mvO rfl) (fZ (Rn (hN rfl hZ) fun e6 h8 => sN (xx ?_)))))))))))))))))))
 clear h3
 obtain rfl := si h
 exact eR (resT h8 res0) rfl
/-! ### loop.example/g01263/impl.isKind (f147) -/
noncomputable def impl_isKind (a1 : Int) : Option Bool :=
 if (decide (a1 ≥ 0)) = true then
  some (decide (a1 ≤ 5))
 else
  some false
def impl_isKind_enc (r : Bool) : AV := .bool r
theorem impl_isKind_ok (a1 : Int) (r : Bool) (h : impl_isKind a1 = some r) : Ev (fun k => CN k 147 [.int .i64 a1] []) (fun p => rRes p.2 p.1 = impl_isKind_enc r) := by
 unfold impl_isKind at h
 refine Ev.enter (F := fun k => f147 (CN k) k) (fun k => callN_eq rfl Tryd.func147 rfl rfl rfl (by decide +kernel) (f147_eq _ _)) (sq (Rg (kx (mvO rfl) (Rn (hN rfl hZ) fun e1 h3 => sN (sq (Rg (kx (mvO h3) (kx (bGeq rfl rfl) (kx (mvO rfl) ?_)))))))))
 rcases ite_some h with ⟨hb4, h⟩ | ⟨hb4, h⟩
 ·refine kx (guT rfl hb4 (mvO h3)) (kx (guT rfl hb4 (bLeq rfl rfl)) (kx (pkT rfl hb4 rfl) (kx (mvO rfl) (Rn (hN rfl hZ) fun e5 h7 => sN (xx ?_)))))
  clear h3
  obtain rfl := si h
  exact eR (resT h7 res0) rfl
 refine kx (gsT rfl hb4) (kx (gsT rfl hb4) (kx (pkF rfl hb4 rfl) (kx (mvO rfl) (Rn (hV (.bool false) rfl hZ) fun e8 h10 => sN (xx ?_)))))
 clear h3
 obtain rfl := si h
 exact eR (resT h10 res0) rfl
/-! ### loop.example/g01263/impl.ValidGrain (f146) -/
abbrev impl_ValidGrain_b1_S := Int
abbrev impl_ValidGrain_b1_R := Unit ⊕ Unit
def impl_ValidGrain_b1_RS (a1 : Ar 16 Int) (s : impl_ValidGrain_b1_S) (e : Env) (M : Mem) : Prop := eget e 5 = .agg (arC (cI .i8) 0 a1) ∧ eget e 6 = .int .i64 s
def impl_ValidGrain_b1_RR (a1 : Ar 16 Int) (r : impl_ValidGrain_b1_R) (x : Ex) (e : Env) (M : Mem) : Prop :=
  match r with
  | (.inl g) => x = .ret ∧ eget e 2 = .bool false
  | (.inr g) => x = .ext 0 ∧ True
noncomputable def impl_ValidGrain_b1 (a1 : Ar 16 Int) : impl_ValidGrain_b1_S → Option (impl_ValidGrain_b1_S ⊕ impl_ValidGrain_b1_R) := fun s1_1 =>
 if (decide (s1_1 < 16)) = true then
  (rdA a1 s1_1).bind fun x26 =>
  if (decide (x26 < (-3))) = true then
   some (.inr (.inl ()))
  else
   if (decide (x26 > 3)) = true then
    some (.inr (.inl ()))
   else
    some (.inl (IntKind.i64.wrap (s1_1 + 1)))
 else
  some (.inr (.inr ()))
theorem impl_ValidGrain_b1_ok (a1 : Ar 16 Int) (s : impl_ValidGrain_b1_S) (r : impl_ValidGrain_b1_S ⊕ impl_ValidGrain_b1_R) (h : impl_ValidGrain_b1 a1 s = some r) (e : Env) (M : Mem) (hs : impl_ValidGrain_b1_RS a1 s e M) : Ev (fun k => (f146_l2 (CN k) k (prune [5, 6] e) M).bind fun q => some q) (bQ (impl_ValidGrain_b1_RS a1) (impl_ValidGrain_b1_RR a1) r) := by
 revert h hs
 revert s
 intro s1_1 h hs
 unfold impl_ValidGrain_b1 at h
 obtain ⟨h16, h18⟩ := hs
 generalize he15 : prune [5, 6] e = e14
 have h17 := envp he15.symm rfl h16
 have h19 := envp he15.symm rfl h18
 refine sq (Rg (kx (bLss h19 rfl) (Rn (hV (.agg (arC (cI .i8) 0 a1)) h17 (hV (.int .i64 s1_1) h19 (hN rfl hZ))) fun e20 h22 h23 h24 => sN (sq ?_))))
 clear h17 h19
 rcases ite_some h with ⟨hb25, h⟩ | ⟨hb25, h⟩
 ·obtain ⟨x26, hx27, h⟩ := bind_some h
  refine cT h24 hb25 (xx (sN (sq (bl (sq (Rg (kx (ixA1 (K := AV.int .i8) (c := (cI .i8)) (z := 0) (g := a1) h22 h23 hx27 (fun _ => rfl)) (kx (mvO rfl) (Rn (hN rfl (hA h22 (hA h23 hZ))) fun e28 h30 h31 h32 => sN (sq (Rg (kx (mvO h30) (kx (bLss rfl rfl) (kx (mvO rfl) ?_))))))))))))))
  clear h22 h23 h24
  rcases ite_some h with ⟨hb33, h⟩ | ⟨hb33, h⟩
  ·refine kx (gsF rfl hb33) (kx (gsF rfl hb33) (kx (pkT rfl hb33 rfl) (Rn (hA h31 (hA h32 (hV (.bool true) rfl hZ))) fun e34 h36 h37 h38 => sN (cT h38 rfl (sq (Rg (kx (mvO rfl) (Rn (hV (.bool false) rfl hZ) fun e39 h41 => sN (xx (bR (sR ?_)))))))))))
   clear h30 h31 h32 h36 h37 h38
   obtain rfl := si h
   exact qR ⟨rfl, h41⟩
  refine kx (guF rfl hb33 (mvO h30)) (kx (guF rfl hb33 (bGtr rfl rfl)) (kx (pkF rfl hb33 rfl) (Rn (hA h31 (hA h32 (hN rfl hZ))) fun e42 h44 h45 h46 => sN ?_)))
  clear h30 h31 h32
  rcases ite_some h with ⟨hb47, h⟩ | ⟨hb47, h⟩
  ·refine cT h46 hb47 (sq (Rg (kx (mvO rfl) (Rn (hV (.bool false) rfl hZ) fun e48 h50 => sN (xx (bR (sR ?_)))))))
   clear h44 h45 h46
   obtain rfl := si h
   exact qR ⟨rfl, h50⟩
  refine cF h46 hb47 (xx (bN (sN (Rg (kx (bAdd h45 rfl) (kx (mvO rfl) (Rn (hA h44 (hN rfl hZ)) fun e51 h53 h54 => ?_)))))))
  clear h44 h46
  obtain rfl := si h
  exact qN ⟨h53, h54⟩
 refine cF h24 hb25 (xx (sE ?_))
 obtain rfl := si h
 exact qE ⟨rfl, trivial⟩
noncomputable def impl_ValidGrain (a1 : Ar 16 Int) : Option Bool :=
 (Lw (impl_ValidGrain_b1 a1) 0).bind fun r => match r with
 | (.inl _) =>
  some false
 | (.inr _) =>
  some true
def impl_ValidGrain_enc (r : Bool) : AV := .bool r
theorem impl_ValidGrain_ok (a1 : Ar 16 Int) (r : Bool) (h : impl_ValidGrain a1 = some r) : Ev (fun k => CN k 146 [.agg (arC (cI .i8) 0 a1)] []) (fun p => rRes p.2 p.1 = impl_ValidGrain_enc r) := by
 unfold impl_ValidGrain at h
 obtain ⟨r55, hr56, h⟩ := bind_some h
 refine Ev.enter (F := fun k => f146 (CN k) k) (fun k => callN_eq rfl Tryd.func146 rfl rfl rfl (by decide +kernel) (f146_eq _ _)) (sq (Rg (kx (bxI rfl rfl ⟨rfl, rfl, by decide⟩) (kx (mvO rfl) (Rn (hN rfl hZ) fun e1 h3 => sN (sq (sq (Rg (kx (ldPA h3 rfl rfl) (kx (mvO rfl) (Rn (hN rfl (hV (.int .i64 0) rfl hZ)) fun e4 h6 h7 => sN (bl ?_))))))))))))
 clear h3
 rcases r55 with _ | _
 ·refine Ev.loop (RS := impl_ValidGrain_b1_RS a1) (RR := impl_ValidGrain_b1_RR a1) (fun s r h e M hs => impl_ValidGrain_b1_ok a1 s r h e M hs) hr56 ⟨h6, h7⟩ fun x e58 M59 hq57 => ?_
  obtain ⟨rfl, h60⟩ := hq57
  refine bR (sR ?_)
  obtain rfl := si h
  exact eR (resT h60 res0) rfl
 refine Ev.loop (RS := impl_ValidGrain_b1_RS a1) (RR := impl_ValidGrain_b1_RR a1) (fun s r h e M hs => impl_ValidGrain_b1_ok a1 s r h e M hs) hr56 ⟨h6, h7⟩ fun x e61 M62 hq57 => ?_
 obtain ⟨rfl, _⟩ := hq57
 refine bE (sN (sq (Rg (kx (mvO rfl) (Rn (hV (.bool true) rfl hZ) fun e63 h65 => sN (xx ?_))))))
 obtain rfl := si h
 exact eR (resT h65 res0) rfl
/-! ### loop.example/g01263/laws.toNotch (f145) -/
noncomputable def laws_toNotch (a1 : Notch) : Option (Int × Int) :=
 some (a1.Kind, a1.At)
def laws_toNotch_enc (r : Int × Int) : AV := .agg [.int .i8 r.1, .int .i16 r.2]
theorem laws_toNotch_ok (a1 : Notch) (r : Int × Int) (h : laws_toNotch a1 = some r) : Ev (fun k => CN k 145 [.agg [.int .i8 a1.Kind, .int .i16 a1.At]] []) (fun p => rRes p.2 p.1 = laws_toNotch_enc r) := by
 unfold laws_toNotch at h
 refine Ev.enter (F := fun k => f145 (CN k) k) (fun k => callN_eq rfl Tryd.func145 rfl rfl rfl (by decide +kernel) (f145_eq _ _)) (sq (Rg (kx (bxI rfl rfl ⟨rfl, rfl, by decide⟩) (ku (alO zero156) fun M2 hM3 => ?_))))
 have o4 : M2[([] : Mem).length]? = some (.live ⟨.box, 156, 2, [[.int .i8 0, .int .i16 0]]⟩) := push_new hM3
 refine Rn (hN rfl (hV (.loc ([] : Mem).length 1 0 0) rfl hZ)) fun e5 h7 h8 => sN (sq (Rg (ku (alO zero156) fun M10 hM11 => ?_)))
 have o12 := push_old hM11 o4
 have ne13 := ne_new o4
 have o14 : M10[M2.length]? = some (.live ⟨.box, 156, 2, [[.int .i8 0, .int .i16 0]]⟩) := push_new hM11
 refine Rn (hA h7 (hA h8 (hV (.loc M2.length 1 0 0) rfl hZ))) fun e15 h17 h18 h19 => sN (sq (Rg (kx (faP h17 ⟨ble rfl, blt rfl⟩ rfl) (kx (ldP rfl rfl) (kx (faO h19 o14 rfl) (kw (stO rfl rfl o14 rfl rfl ⟨rfl, ble rfl⟩ rfl rfl) fun M20 hM21 => ?_))))))
 clear h7 h8
 have o22 := set_ne hM21 ne13 o12
 have o23 : M20[M2.length]? = some (.live ⟨.box, 156, 2, [[.int .i8 a1.Kind, .int .i16 0]]⟩) := set_same hM21 o14
 refine Rn (hA h17 (hA h18 (hA h19 hZ))) fun e24 h26 h27 h28 => sN (sq (Rg (kx (faP h26 ⟨ble rfl, blt rfl⟩ rfl) (kx (ldP rfl rfl) (kx (faO h28 o23 rfl) (kw (stO rfl rfl o23 rfl rfl ⟨rfl, ble rfl⟩ rfl rfl) fun M29 hM30 => ?_))))))
 clear h17 h18 h19
 have o31 := set_ne hM30 ne13 o22
 have o32 : M29[M2.length]? = some (.live ⟨.box, 156, 2, [[.int .i8 a1.Kind, .int .i16 a1.At]]⟩) := set_same hM30 o23
 refine Rn (hA h27 (hA h28 hZ)) fun e33 h35 h36 => sN (sq (Rg (kx (ldOA h36 o32 rfl rfl (ble rfl) rfl) (kw (stO h35 rfl o31 rfl rfl ⟨rfl, ble rfl⟩ rfl rfl) fun M37 hM38 => ?_))))
 clear h26 h27 h28
 have o39 : M37[([] : Mem).length]? = some (.live ⟨.box, 156, 2, [[.int .i8 a1.Kind, .int .i16 a1.At]]⟩) := set_same hM38 o31
 have o40 := set_ne hM38 (Ne.symm ne13) o32
 refine Rn (hA h35 hZ) fun e41 h43 => sN (xx ?_)
 clear h35 h36
 obtain rfl := si h
 exact eR (resC (ag := true) (sz := 2) ⟨by kernel_rfl, by kernel_rfl, by kernel_rfl⟩ (ldOA h43 o39 rfl rfl (ble rfl) rfl) res0) rfl
/-! ### loop.example/g01263/spec.l01Letters (f144) -/
noncomputable def spec_l01Letters : Option Unit :=
 some ()
def spec_l01Letters_enc (r : Unit) : AV := .str ([100, 115, 108, 118, 99, 109] : List UInt8)
theorem spec_l01Letters_ok (r : Unit) (h : spec_l01Letters = some r) : Ev (fun k => CN k 144 [] []) (fun p => rRes p.2 p.1 = spec_l01Letters_enc r) := by
 unfold spec_l01Letters at h
 refine Ev.enter (F := fun k => f144 (CN k) k) (fun k => callN_eq rfl Tryd.func144 rfl rfl rfl (by decide +kernel) (f144_eq _ _)) (sq (Rg (kx (mvO rfl) (Rn hZ fun e1 => sN (sq (Rg (kx (mvO rfl) (Rn (hN rfl hZ) fun e3 h5 => sN (xx ?_)))))))))
 obtain rfl := si h
 exact eR (resT h5 res0) rfl
/-! ### loop.example/g01263/spec.l01Grain (f143) -/
abbrev spec_l01Grain_b1_S := Int
abbrev spec_l01Grain_b1_R := Unit ⊕ Unit
def spec_l01Grain_b1_RS (a1 : Ar 16 Int) (s : spec_l01Grain_b1_S) (e : Env) (M : Mem) : Prop := eget e 1 = .pt none (arC (cI .i8) 0 a1) ∧ eget e 3 = .int .i64 s
def spec_l01Grain_b1_RR (a1 : Ar 16 Int) (r : spec_l01Grain_b1_R) (x : Ex) (e : Env) (M : Mem) : Prop :=
  match r with
  | (.inl g) => x = .ret ∧ eget e 2 = .bool false
  | (.inr g) => x = .ext 0 ∧ True
noncomputable def spec_l01Grain_b1 (a1 : Ar 16 Int) : spec_l01Grain_b1_S → Option (spec_l01Grain_b1_S ⊕ spec_l01Grain_b1_R) := fun s1_1 =>
 if (decide (s1_1 < 16)) = true then
  (rdA a1 s1_1).bind fun x26 =>
  if (decide (x26 < (-3))) = true then
   some (.inr (.inl ()))
  else
   (rdA a1 s1_1).bind fun x37 =>
   if (decide (x37 > 3)) = true then
    some (.inr (.inl ()))
   else
    some (.inl (IntKind.i64.wrap (s1_1 + 1)))
 else
  some (.inr (.inr ()))
theorem spec_l01Grain_b1_ok (a1 : Ar 16 Int) (s : spec_l01Grain_b1_S) (r : spec_l01Grain_b1_S ⊕ spec_l01Grain_b1_R) (h : spec_l01Grain_b1 a1 s = some r) (e : Env) (M : Mem) (hs : spec_l01Grain_b1_RS a1 s e M) : Ev (fun k => (f143_l2 (CN k) k (prune [1, 3] e) M).bind fun q => some q) (bQ (spec_l01Grain_b1_RS a1) (spec_l01Grain_b1_RR a1) r) := by
 revert h hs
 revert s
 intro s1_1 h hs
 unfold spec_l01Grain_b1 at h
 obtain ⟨h16, h18⟩ := hs
 generalize he15 : prune [1, 3] e = e14
 have h17 := envp he15.symm rfl h16
 have h19 := envp he15.symm rfl h18
 refine sq (sq (Rg (kx (mvO h19) (kx (bLss rfl rfl) (Rn (hV (.pt none (arC (cI .i8) 0 a1)) h17 (hV (.int .i64 s1_1) h19 (hN rfl hZ))) fun e20 h22 h23 h24 => sN ?_)))))
 clear h17 h19
 rcases ite_some h with ⟨hb25, h⟩ | ⟨hb25, h⟩
 ·obtain ⟨x26, hx27, h⟩ := bind_some h
  refine cT h24 hb25 (xx (sN (sq (bl (sq (Rg (kx (mvO h23) (kx (ixPA (c := (cI .i8)) (z := 0) (g := a1) h22 rfl hx27 (fun _ => rfl)) (kx (ldP rfl rfl) (kx (bLss rfl rfl) (kx (mvO rfl) ?_)))))))))))
  rcases ite_some h with ⟨hb28, h⟩ | ⟨hb28, h⟩
  ·refine kx (gsF rfl hb28) (kx (gsF rfl hb28) (kx (gsF rfl hb28) (kx (gsF rfl hb28) (kx (pkT rfl hb28 rfl) (Rn (hA h22 (hA h23 (hV (.bool true) rfl hZ))) fun e29 h31 h32 h33 => sN (cT h33 rfl (sq (Rg (kx (mvO rfl) (Rn (hV (.bool false) rfl hZ) fun e34 h36 => sN (xx (bR (sR ?_)))))))))))))
   clear h22 h23 h24 h31 h32 h33
   obtain rfl := si h
   exact qR ⟨rfl, h36⟩
  obtain ⟨x37, hx38, h⟩ := bind_some h
  refine kx (guF rfl hb28 (mvO h23)) (kx (guF rfl hb28 (ixPA (c := (cI .i8)) (z := 0) (g := a1) h22 rfl hx38 (fun _ => rfl))) (kx (guF rfl hb28 (ldP rfl rfl)) (kx (guF rfl hb28 (bGtr rfl rfl)) (kx (pkF rfl hb28 rfl) (Rn (hA h22 (hA h23 (hN rfl hZ))) fun e39 h41 h42 h43 => sN ?_)))))
  clear h22 h23 h24
  rcases ite_some h with ⟨hb44, h⟩ | ⟨hb44, h⟩
  ·refine cT h43 hb44 (sq (Rg (kx (mvO rfl) (Rn (hV (.bool false) rfl hZ) fun e45 h47 => sN (xx (bR (sR ?_)))))))
   clear h41 h42 h43
   obtain rfl := si h
   exact qR ⟨rfl, h47⟩
  refine cF h43 hb44 (xx (bN (sN (Rg (kx (mvO h42) (kx (bAdd rfl rfl) (kx (mvO rfl) (Rn (hA h41 (hN rfl hZ)) fun e48 h50 h51 => ?_))))))))
  clear h41 h43
  obtain rfl := si h
  exact qN ⟨h50, h51⟩
 refine cF h24 hb25 (xx (sE ?_))
 obtain rfl := si h
 exact qE ⟨rfl, trivial⟩
noncomputable def spec_l01Grain (a1 : Ar 16 Int) : Option Bool :=
 (Lw (spec_l01Grain_b1 a1) 0).bind fun r => match r with
 | (.inl _) =>
  some false
 | (.inr _) =>
  some true
def spec_l01Grain_enc (r : Bool) : AV := .bool r
theorem spec_l01Grain_ok (a1 : Ar 16 Int) (r : Bool) (h : spec_l01Grain a1 = some r) : Ev (fun k => CN k 143 [.agg (arC (cI .i8) 0 a1)] []) (fun p => rRes p.2 p.1 = spec_l01Grain_enc r) := by
 unfold spec_l01Grain at h
 obtain ⟨r52, hr53, h⟩ := bind_some h
 refine Ev.enter (F := fun k => f143 (CN k) k) (fun k => callN_eq rfl Tryd.func143 rfl rfl rfl (by decide +kernel) (f143_eq _ _)) (sq (Rg (kx (bxI rfl rfl ⟨rfl, rfl, by decide⟩) (kx (mvO rfl) (Rn (hN rfl hZ) fun e1 h3 => sN (sq (sq (Rg (kx (mvO rfl) (Rn (hA h3 (hV (.int .i64 0) rfl hZ)) fun e4 h6 h7 => sN (bl ?_)))))))))))
 clear h3
 rcases r52 with _ | _
 ·refine Ev.loop (RS := spec_l01Grain_b1_RS a1) (RR := spec_l01Grain_b1_RR a1) (fun s r h e M hs => spec_l01Grain_b1_ok a1 s r h e M hs) hr53 ⟨h6, h7⟩ fun x e55 M56 hq54 => ?_
  obtain ⟨rfl, h57⟩ := hq54
  refine bR (sR ?_)
  obtain rfl := si h
  exact eR (resT h57 res0) rfl
 refine Ev.loop (RS := spec_l01Grain_b1_RS a1) (RR := spec_l01Grain_b1_RR a1) (fun s r h e M hs => spec_l01Grain_b1_ok a1 s r h e M hs) hr53 ⟨h6, h7⟩ fun x e58 M59 hq54 => ?_
 obtain ⟨rfl, _⟩ := hq54
 refine bE (sN (sq (Rg (kx (mvO rfl) (Rn (hV (.bool true) rfl hZ) fun e60 h62 => sN (xx ?_))))))
 obtain rfl := si h
 exact eR (resT h62 res0) rfl
/-! ### loop.example/g01263/spec.l01Notches (f142) -/
def spec_l01Notches_c2_Q (a1 : List Notch) (s1_1 : Int) (x34 : Notch) (i902_1 : Nat) (g : Bool) (q : Out) : Prop := q.1 = .nrm ∧ eget q.2.1 0 = .sl none (a1.map Notch.c) ∧ eget q.2.1 3 = .int .i64 s1_1 ∧ eget q.2.1 4 = .loc i902_1 1 0 0 ∧ eget q.2.1 32 = .bool g ∧ q.2.2[i902_1]? = some (.live ⟨.box, 156, 2, [[.int .i8 x34.Kind, .int .i16 x34.At]]⟩)
abbrev spec_l01Notches_b1_S := Int
abbrev spec_l01Notches_b1_R := Unit ⊕ Unit
def spec_l01Notches_b1_RS (a1 : List Notch) (s : spec_l01Notches_b1_S) (e : Env) (M : Mem) : Prop := eget e 0 = .sl none (a1.map Notch.c) ∧ eget e 3 = .int .i64 s
def spec_l01Notches_b1_RR (a1 : List Notch) (r : spec_l01Notches_b1_R) (x : Ex) (e : Env) (M : Mem) : Prop :=
  match r with
  | (.inl g) => x = .ret ∧ eget e 2 = .bool false
  | (.inr g) => x = .ext 0 ∧ True
noncomputable def spec_l01Notches_b1 (a1 : List Notch) : spec_l01Notches_b1_S → Option (spec_l01Notches_b1_S ⊕ spec_l01Notches_b1_R) := fun s1_1 =>
 if (decide (s1_1 < (a1.length : Int))) = true then
  (rd a1 s1_1).bind fun x34 =>
  ((spec_l01Kind (IntKind.i64.wrap x34.Kind)).bind fun r49 =>
  if r49 = true then
   if (decide (x34.At < 0)) = true then
    some true
   else
    (spec_l01Ends x34).bind fun r59 =>
    some (decide (r59 > 200))
  else
   some true).bind fun y74 =>
  if y74 = true then
   some (.inr (.inl ()))
  else
   if (decide (s1_1 > 0)) = true then
    (rd a1 (IntKind.i64.wrap (s1_1 - 1))).bind fun x85 =>
    if (decide (x34.Kind > x85.Kind)) = true then
     some (.inr (.inl ()))
    else
     (rd a1 (IntKind.i64.wrap (s1_1 - 1))).bind fun x96 =>
     (spec_l01Ends x96).bind fun r99 =>
     if (decide ((IntKind.i64.wrap x34.At) ≤ r99)) = true then
      some (.inr (.inl ()))
     else
      some (.inl (IntKind.i64.wrap (s1_1 + 1)))
   else
    some (.inl (IntKind.i64.wrap (s1_1 + 1)))
 else
  some (.inr (.inr ()))
theorem spec_l01Notches_b1_ok (a1 : List Notch) (s : spec_l01Notches_b1_S) (r : spec_l01Notches_b1_S ⊕ spec_l01Notches_b1_R) (h : spec_l01Notches_b1 a1 s = some r) (e : Env) (M : Mem) (hs : spec_l01Notches_b1_RS a1 s e M) : Ev (fun k => (f142_l4 (CN k) k (prune [0, 3] e) M).bind fun q => some q) (bQ (spec_l01Notches_b1_RS a1) (spec_l01Notches_b1_RR a1) r) := by
 revert h hs
 revert s
 intro s1_1 h hs
 unfold spec_l01Notches_b1 at h
 obtain ⟨h24, h26⟩ := hs
 generalize he23 : prune [0, 3] e = e22
 have h25 := envp he23.symm rfl h24
 have h27 := envp he23.symm rfl h26
 refine sq (sq (Rg (kx (mvO h27) (kx (mvO h25) (kx (lnS Tryd.underlying54 rfl) (kx (bLss rfl rfl) (Rn (hV (.sl none (a1.map Notch.c)) h25 (hV (.int .i64 s1_1) h27 (hN rfl hZ))) fun e28 h30 h31 h32 => sN ?_)))))))
 clear h25 h27
 rcases ite_some h with ⟨hb33, h⟩ | ⟨hb33, h⟩
 ·obtain ⟨x34, hx35, h⟩ := bind_some h
  refine cT h32 hb33 (xx (sN (sq (bl (sq (Rg (kx (mvO h30) (kx (mvO h31) (kx (ixS rfl rfl hx35 Notch.fl) (kx (ldPA rfl rfl rfl) (ku (alO zero156) fun M37 hM38 => ?_)))))))))))
  have o39 : M37[M.length]? = some (.live ⟨.box, 156, 2, [[.int .i8 0, .int .i16 0]]⟩) := push_new hM38
  refine kw (stO rfl rfl o39 rfl rfl ⟨rfl, ble rfl⟩ rfl rfl) fun M40 hM41 => ?_
  have o42 : M40[M.length]? = some (.live ⟨.box, 156, 2, [[.int .i8 x34.Kind, .int .i16 x34.At]]⟩) := set_same hM41 o39
  obtain ⟨r123, hr124, h⟩ := bind_some h
  refine Rn (hA h30 (hA h31 (hV (.loc M.length 1 0 0) rfl hZ))) fun e43 h45 h46 h47 => sN (sq (sq ?_))
  clear h30 h31 h32
  refine Ev.cut (Q1 := spec_l01Notches_c2_Q a1 s1_1 x34 M.length r123) (by
      have h := hr124
      obtain ⟨r49, hx48, h⟩ := bind_some h
      refine Rg (kx (faO h47 o42 rfl) (kx (ldO rfl o42 rfl rfl rfl) (kx (cvI rfl) (kc (cl (v := .bool r49) rfl (cns rfl rfl) rfl (spec_l01Kind_ok (IntKind.i64.wrap x34.Kind) _ hx48) nm) (kx (uNot rfl) (kx (mvO rfl) ?_))))))
      rcases ite_some h with ⟨hb50, h⟩ | ⟨hb50, h⟩
      ·refine kx (guF rfl (congrArg Bool.not hb50) (faO h47 o42 rfl)) (kx (guF rfl (congrArg Bool.not hb50) (ldO rfl o42 rfl rfl rfl)) (kx (guF rfl (congrArg Bool.not hb50) (bLss rfl rfl)) (kx (pkF rfl (congrArg Bool.not hb50) rfl) (kx (mvO rfl) ?_))))
       rcases ite_some h with ⟨hb51, h⟩ | ⟨hb51, h⟩
       ·refine kx (gsF rfl hb51) (kc (Ev.gsF rfl hb51) (kx (gsF rfl hb51) (kx (pkT rfl hb51 rfl) (Rn (hA h45 (hA h46 (hA h47 (hV (.bool true) rfl hZ)))) fun e52 h54 h55 h56 h57 => ?_))))
        clear h45 h46 h47
        obtain rfl := si h
        exact kd (show spec_l01Notches_c2_Q a1 s1_1 x34 M.length _ _ from ⟨rfl, h54, h55, h56, h57, o42⟩)
       obtain ⟨r59, hx58, h⟩ := bind_some h
       refine kx (guF rfl hb51 (ldOA h47 o42 rfl rfl (ble rfl) rfl)) (kc (Ev.guF rfl hb51 (cl (v := .int .i64 r59) rfl (cns rfl rfl) rfl (spec_l01Ends_ok x34 _ hx58) nm)) (kx (guF rfl hb51 (bGtr rfl rfl)) (kx (pkF rfl hb51 rfl) (Rn (hA h45 (hA h46 (hA h47 (hN rfl hZ)))) fun e60 h62 h63 h64 h65 => ?_))))
       clear h45 h46 h47
       obtain rfl := si h
       exact kd (show spec_l01Notches_c2_Q a1 s1_1 x34 M.length _ _ from ⟨rfl, h62, h63, h64, h65, o42⟩)
      refine kx (gsF rfl (congrArg Bool.not hb50)) (kx (gsF rfl (congrArg Bool.not hb50)) (kx (gsF rfl (congrArg Bool.not hb50)) (kx (pkT rfl (congrArg Bool.not hb50) rfl) (kx (mvO rfl) (kx (gsF rfl rfl) (kc (Ev.gsF rfl rfl) (kx (gsF rfl rfl) (kx (pkT rfl rfl rfl) (Rn (hA h45 (hA h46 (hA h47 (hV (.bool true) rfl hZ)))) fun e66 h68 h69 h70 h71 => ?_)))))))))
      clear h45 h46 h47
      obtain rfl := si h
      exact kd (show spec_l01Notches_c2_Q a1 s1_1 x34 M.length _ _ from ⟨rfl, h68, h69, h70, h71, o42⟩)) ?_
  revert h hr124
  revert r123
  intro y74 hr124 h
  intro x e72 M73 hq122
  obtain ⟨rfl, h75, h76, h77, h78, o79⟩ := hq122
  refine sN ?_
  rcases ite_some h with ⟨hb80, h⟩ | ⟨hb80, h⟩
  ·refine cT h78 hb80 (sq (Rg (kx (mvO rfl) (Rn (hV (.bool false) rfl hZ) fun e81 h83 => sN (xx (sR (bR (sR ?_))))))))
   clear h75 h76 h77 h78
   obtain rfl := si h
   exact qR ⟨rfl, h83⟩
  refine cF h78 hb80 (xx (sN (sq (Rd (kf (mvO h76) (kf (bGtr rfl rfl) (kf (mvO rfl) ?_)))))))
  rcases ite_some h with ⟨hb84, h⟩ | ⟨hb84, h⟩
  ·obtain ⟨x85, hx86, h⟩ := bind_some h
   refine kf (guT rfl hb84 (faO h77 o79 rfl)) (kf (guT rfl hb84 (ldO rfl o79 rfl rfl rfl)) (kf (guT rfl hb84 (mvO h75)) (kf (guT rfl hb84 (mvO h76)) (kf (guT rfl hb84 (bSub rfl rfl)) (kf (guT rfl hb84 (ixS rfl rfl hx86 Notch.fl)) (kf (guT rfl hb84 (faP rfl ⟨ble rfl, blt rfl⟩ rfl)) (kf (guT rfl hb84 (ldP rfl rfl)) (kf (guT rfl hb84 (bGtr rfl rfl)) (kf (guT rfl hb84 (mvO rfl)) ?_)))))))))
   rcases ite_some h with ⟨hb87, h⟩ | ⟨hb87, h⟩
   ·refine kf (gsF rfl hb87) (kf (gsF rfl hb87) (kf (gsF rfl hb87) (kf (gsF rfl hb87) (kf (gsF rfl hb87) (kf (gsF rfl hb87) (kf (gsF rfl hb87) (kf (gsF rfl hb87) (fc (Ev.gsF rfl hb87) (kf (gsF rfl hb87) (kf (guT rfl hb84 (pkT rfl hb87 rfl)) (kf (pkT rfl hb84 rfl) (fZ (Rn (hV (.sl none (a1.map Notch.c)) h75 (hV (.int .i64 s1_1) h76 (hV (.bool true) rfl hZ))) fun e88 h90 h91 h92 => sN (cT h92 rfl (sq (Rg (kx (mvO rfl) (Rn (hV (.bool false) rfl hZ) fun e93 h95 => sN (xx (bR (sR ?_)))))))))))))))))))))
    clear h75 h76 h77 h78 h90 h91 h92
    obtain rfl := si h
    exact qR ⟨rfl, h95⟩
   obtain ⟨x96, hx97, h⟩ := bind_some h
   obtain ⟨r99, hx98, h⟩ := bind_some h
   refine kf (guF rfl hb87 (faO h77 o79 rfl)) (kf (guF rfl hb87 (ldO rfl o79 rfl rfl rfl)) (kf (guF rfl hb87 (cvI rfl)) (kf (guF rfl hb87 (mvO h75)) (kf (guF rfl hb87 (mvO h76)) (kf (guF rfl hb87 (bSub rfl rfl)) (kf (guF rfl hb87 (ixS rfl rfl hx97 Notch.fl)) (kf (guF rfl hb87 (ldPA rfl rfl rfl)) (fc (Ev.guF rfl hb87 (cl (v := .int .i64 r99) rfl (cns rfl rfl) rfl (spec_l01Ends_ok x96 _ hx98) nm)) (kf (guF rfl hb87 (bLeq rfl rfl)) (kf (guT rfl hb84 (pkF rfl hb87 rfl)) (kf (pkT rfl hb84 rfl) (fZ (Rn (hV (.sl none (a1.map Notch.c)) h75 (hV (.int .i64 s1_1) h76 (hN rfl hZ))) fun e100 h102 h103 h104 => sN ?_)))))))))))))
   clear h75 h76 h77 h78
   rcases ite_some h with ⟨hb105, h⟩ | ⟨hb105, h⟩
   ·refine cT h104 hb105 (sq (Rg (kx (mvO rfl) (Rn (hV (.bool false) rfl hZ) fun e106 h108 => sN (xx (bR (sR ?_)))))))
    clear h102 h103 h104
    obtain rfl := si h
    exact qR ⟨rfl, h108⟩
   refine cF h104 hb105 (xx (bN (sN (Rg (kx (mvO h103) (kx (bAdd rfl rfl) (kx (mvO rfl) (Rn (hA h102 (hN rfl hZ)) fun e109 h111 h112 => ?_))))))))
   clear h102 h104
   obtain rfl := si h
   exact qN ⟨h111, h112⟩
  refine kf (gsT rfl hb84) (kf (gsT rfl hb84) (kf (gsT rfl hb84) (kf (gsT rfl hb84) (kf (gsT rfl hb84) (kf (gsT rfl hb84) (kf (gsT rfl hb84) (kf (gsT rfl hb84) (kf (gsT rfl hb84) (kf (gsT rfl hb84) (kf (gsU rfl) (kf (gsU rfl) (kf (gsU rfl) (kf (gsU rfl) (kf (gsU rfl) (kf (gsU rfl) (kf (gsU rfl) (kf (gsU rfl) (fc (Ev.gsU rfl) (kf (gsU rfl) (kf (gsT rfl hb84) (kf (pkF rfl hb84 rfl) (fZ (Rn (hV (.sl none (a1.map Notch.c)) h75 (hV (.int .i64 s1_1) h76 (hV (.bool false) rfl hZ))) fun e113 h115 h116 h117 => sN (cF h117 rfl (xx (bN (sN (Rg (kx (mvO h116) (kx (bAdd rfl rfl) (kx (mvO rfl) (Rn (hA h115 (hN rfl hZ)) fun e118 h120 h121 => ?_))))))))))))))))))))))))))))))))
  clear h75 h76 h77 h78 h115 h117
  obtain rfl := si h
  exact qN ⟨h120, h121⟩
 refine cF h32 hb33 (xx (sE ?_))
 obtain rfl := si h
 exact qE ⟨rfl, trivial⟩
noncomputable def spec_l01Notches (a1 : List Notch) : Option Bool :=
 if (decide ((a1.length : Int) > 60)) = true then
  some false
 else
  (Lw (spec_l01Notches_b1 a1) 0).bind fun r => match r with
  | (.inl _) =>
   some false
  | (.inr _) =>
   some true
def spec_l01Notches_enc (r : Bool) : AV := .bool r
theorem spec_l01Notches_ok (a1 : List Notch) (r : Bool) (h : spec_l01Notches a1 = some r) : Ev (fun k => CN k 142 [.sl none (a1.map Notch.c)] []) (fun p => rRes p.2 p.1 = spec_l01Notches_enc r) := by
 unfold spec_l01Notches at h
 refine Ev.enter (F := fun k => f142 (CN k) k) (fun k => callN_eq rfl Tryd.func142 rfl rfl rfl (by decide +kernel) (f142_eq _ _)) (sq (Rg (kx (mvO rfl) (Rn (hN rfl hZ) fun e1 h3 => sN (sq (sq (Rg (kx (mvO h3) (kx (lnS Tryd.underlying54 rfl) (kx (bGtr rfl rfl) (Rn (hA h3 (hN rfl hZ)) fun e4 h6 h7 => sN ?_)))))))))))
 clear h3
 rcases ite_some h with ⟨hb8, h⟩ | ⟨hb8, h⟩
 ·refine cT h7 hb8 (sq (Rg (kx (mvO rfl) (Rn (hV (.bool false) rfl hZ) fun e9 h11 => sN (xx (sR ?_))))))
  clear h6 h7
  obtain rfl := si h
  exact eR (resT h11 res0) rfl
 obtain ⟨r125, hr126, h⟩ := bind_some h
 refine cF h7 hb8 (xx (sN (sq (sq (Rg (kx (mvO rfl) (Rn (hA h6 (hV (.int .i64 0) rfl hZ)) fun e12 h14 h15 => sN (bl ?_))))))))
 clear h6 h7
 rcases r125 with _ | _
 ·refine Ev.loop (RS := spec_l01Notches_b1_RS a1) (RR := spec_l01Notches_b1_RR a1) (fun s r h e M hs => spec_l01Notches_b1_ok a1 s r h e M hs) hr126 ⟨h14, h15⟩ fun x e128 M129 hq127 => ?_
  obtain ⟨rfl, h130⟩ := hq127
  refine bR (sR ?_)
  obtain rfl := si h
  exact eR (resT h130 res0) rfl
 refine Ev.loop (RS := spec_l01Notches_b1_RS a1) (RR := spec_l01Notches_b1_RR a1) (fun s r h e M hs => spec_l01Notches_b1_ok a1 s r h e M hs) hr126 ⟨h14, h15⟩ fun x e131 M132 hq127 => ?_
 obtain ⟨rfl, _⟩ := hq127
 refine bE (sN (sq (Rg (kx (mvO rfl) (Rn (hV (.bool true) rfl hZ) fun e133 h135 => sN (xx ?_))))))
 obtain rfl := si h
 exact eR (resT h135 res0) rfl
/-! ### loop.example/g01263/spec.Decimal (f139) -/
noncomputable def spec_Decimal_F : Nat → Int → Option ((List UInt8))
  | 0, _ => none
  | k0 + 1, a1 =>
   if (decide (a1 < 10)) = true then
    (rem .i64 a1 10).bind fun n9 =>
    some (toB [(IntKind.u8.wrap (IntKind.i64.wrap (48 + n9)))])
   else
    (quo .i64 a1 10).bind fun n14 =>
    (spec_Decimal_F k0 n14).bind fun r17 =>
    (rem .i64 a1 10).bind fun n18 =>
    (sadd r17 (toB [(IntKind.u8.wrap (IntKind.i64.wrap (48 + n18)))])).bind fun w20 =>
    some w20
def spec_Decimal_enc (r : (List UInt8)) : AV := .str r
theorem spec_Decimal_F_ok : ∀ (k0 : Nat) (a1 : Int) (r : (List UInt8)) (h : spec_Decimal_F k0 a1 = some r), Ev (fun k => CN k 139 [.int .i64 a1] []) (fun p => rRes p.2 p.1 = spec_Decimal_enc r)
  | 0, a1, r, h => by cases h
  | k0 + 1, a1, r, h => by
   rw [spec_Decimal_F] at h
   refine Ev.enter (F := fun k => f139 (CN k) k) (fun k => callN_eq rfl Tryd.func139 rfl rfl rfl (by decide +kernel) (f139_eq _ _)) (sq (Rg (kx (mvO rfl) (Rn (hN rfl hZ) fun e1 h3 => sN (sq (sq (Rg (kx (mvO h3) (kx (bLss rfl rfl) (Rn (hA h3 (hN rfl hZ)) fun e4 h6 h7 => sN ?_))))))))))
   clear h3
   rcases ite_some h with ⟨hb8, h⟩ | ⟨hb8, h⟩
   ·obtain ⟨n9, hx10, h⟩ := bind_some h
    refine cT h7 hb8 (sq (Rg (kx (mvO h6) (kx (bRem rfl rfl hx10) (kx (bAdd rfl rfl) (kx (cvI rfl) (kx (litI (cns rfl rfl) rfl ⟨rfl, by decide⟩) (kx (cvB (elT (c := (cI .u8)) (xs := [(IntKind.u8.wrap (IntKind.i64.wrap (48 + n9)))]) rfl)) (kx (mvO rfl) (Rn (hN rfl hZ) fun e11 h13 => sN (xx (sR ?_))))))))))))
    clear h6 h7
    obtain rfl := si h
    exact eR (resT h13 res0) rfl
   obtain ⟨n14, hx15, h⟩ := bind_some h
   obtain ⟨r17, hx16, h⟩ := bind_some h
   obtain ⟨n18, hx19, h⟩ := bind_some h
   obtain ⟨w20, hx21, h⟩ := bind_some h
   refine cF h7 hb8 (xx (sN (sq (Rd (kf (mvO h6) (kf (bQuo rfl rfl hx15) (fc (cl (v := .str r17) rfl (cns rfl rfl) rfl (spec_Decimal_F_ok k0 n14 _ hx16) nm) (kf (mvO h6) (kf (bRem rfl rfl hx19) (kf (bAdd rfl rfl) (kf (cvI rfl) (kf (litI (cns rfl rfl) rfl ⟨rfl, by decide⟩) (kf (cvB (elT (c := (cI .u8)) (xs := [(IntKind.u8.wrap (IntKind.i64.wrap (48 + n18)))]) rfl)) (kf (sAdd rfl rfl hx21) (kf (mvO rfl) (fZ (Rn (hN rfl hZ) fun e22 h24 => sN (xx ?_))))))))))))))))))
   clear h6 h7
   obtain rfl := si h
   exact eR (resT h24 res0) rfl
noncomputable def spec_Decimal (a1 : Int) : Option ((List UInt8)) := spec_Decimal_F 64 a1
theorem spec_Decimal_ok (a1 : Int) (r : (List UInt8)) (h : spec_Decimal a1 = some r) : Ev (fun k => CN k 139 [.int .i64 a1] []) (fun p => rRes p.2 p.1 = spec_Decimal_enc r) := spec_Decimal_F_ok 64 a1 r h
/-! ### loop.example/g01263/laws.eqMark (f109) -/
noncomputable def laws_eqMark (a1 : Mark) (a2 : Mark) : Option Bool :=
 if (a1.Holder == a2.Holder) = true then
  if (a1.Seal != a2.Seal) = true then
   some false
  else
   some true
 else
  some false
def laws_eqMark_enc (r : Bool) : AV := .bool r
theorem laws_eqMark_ok (a1 : Mark) (a2 : Mark) (r : Bool) (h : laws_eqMark a1 a2 = some r) : Ev (fun k => CN k 109 [.agg [.str a1.Holder, .int .u32 a1.Seal], .agg [.str a2.Holder, .int .u32 a2.Seal]] []) (fun p => rRes p.2 p.1 = laws_eqMark_enc r) := by
 unfold laws_eqMark at h
 refine Ev.enter (F := fun k => f109 (CN k) k) (fun k => callN_eq rfl Tryd.func109 rfl rfl rfl (by decide +kernel) (f109_eq _ _)) (sq (Rg (kx (bxI rfl rfl ⟨rfl, rfl, by decide⟩) (kx (bxI rfl rfl ⟨rfl, rfl, by decide⟩) (kx (mvO rfl) (Rn (hN rfl (hN rfl hZ)) fun e1 h3 h4 => sN (sq (sq (Rg (kx (faP h3 ⟨ble rfl, blt rfl⟩ rfl) (kx (ldP rfl rfl) (kx (faP h4 ⟨ble rfl, blt rfl⟩ rfl) (kx (ldP rfl rfl) (kx (sNeq rfl rfl) (Rn (hA h3 (hA h4 (hN rfl hZ))) fun e5 h7 h8 h9 => sN ?_)))))))))))))))
 clear h3 h4
 rcases ite_some h with ⟨hb10, h⟩ | ⟨hb10, h⟩
 ·refine cF h9 (congrArg Bool.not hb10) (xx (sN (sq (sq (Rg (kx (faP h7 ⟨ble rfl, blt rfl⟩ rfl) (kx (ldP rfl rfl) (kx (faP h8 ⟨ble rfl, blt rfl⟩ rfl) (kx (ldP rfl rfl) (kx (bNeq rfl rfl) (Rn (hN rfl hZ) fun e11 h13 => sN ?_)))))))))))
  clear h7 h8 h9
  rcases ite_some h with ⟨hb14, h⟩ | ⟨hb14, h⟩
  ·refine cT h13 hb14 (sq (Rg (kx (mvO rfl) (Rn (hV (.bool false) rfl hZ) fun e15 h17 => sN (xx (sR ?_))))))
   clear h13
   obtain rfl := si h
   exact eR (resT h17 res0) rfl
  refine cF h13 hb14 (xx (sN (sq (Rg (kx (mvO rfl) (Rn (hV (.bool true) rfl hZ) fun e18 h20 => sN (xx ?_)))))))
  clear h13
  obtain rfl := si h
  exact eR (resT h20 res0) rfl
 refine cT h9 (congrArg Bool.not hb10) (sq (Rg (kx (mvO rfl) (Rn (hV (.bool false) rfl hZ) fun e21 h23 => sN (xx (sR ?_))))))
 clear h7 h8 h9
 obtain rfl := si h
 exact eR (resT h23 res0) rfl
/-! ### loop.example/g01263/laws.eqGrain (f108) -/
abbrev laws_eqGrain_b1_S := Int
abbrev laws_eqGrain_b1_R := Unit ⊕ Unit
def laws_eqGrain_b1_RS (a1 : Ar 16 Int) (a2 : Ar 16 Int) (s : laws_eqGrain_b1_S) (e : Env) (M : Mem) : Prop := eget e 2 = .pt none (arC (cI .i8) 0 a1) ∧ eget e 3 = .pt none (arC (cI .i8) 0 a2) ∧ eget e 5 = .int .i64 s
def laws_eqGrain_b1_RR (a1 : Ar 16 Int) (a2 : Ar 16 Int) (r : laws_eqGrain_b1_R) (x : Ex) (e : Env) (M : Mem) : Prop :=
  match r with
  | (.inl g) => x = .ret ∧ eget e 4 = .bool false
  | (.inr g) => x = .ext 0 ∧ True
noncomputable def laws_eqGrain_b1 (a1 : Ar 16 Int) (a2 : Ar 16 Int) : laws_eqGrain_b1_S → Option (laws_eqGrain_b1_S ⊕ laws_eqGrain_b1_R) := fun s1_1 =>
 if (decide (s1_1 < 16)) = true then
  (rdA a1 s1_1).bind fun x33 =>
  (rdA a2 s1_1).bind fun x35 =>
  if (x33 != x35) = true then
   some (.inr (.inl ()))
  else
   some (.inl (IntKind.i64.wrap (s1_1 + 1)))
 else
  some (.inr (.inr ()))
theorem laws_eqGrain_b1_ok (a1 : Ar 16 Int) (a2 : Ar 16 Int) (s : laws_eqGrain_b1_S) (r : laws_eqGrain_b1_S ⊕ laws_eqGrain_b1_R) (h : laws_eqGrain_b1 a1 a2 s = some r) (e : Env) (M : Mem) (hs : laws_eqGrain_b1_RS a1 a2 s e M) : Ev (fun k => (f108_l2 (CN k) k (prune [2, 3, 5] e) M).bind fun q => some q) (bQ (laws_eqGrain_b1_RS a1 a2) (laws_eqGrain_b1_RR a1 a2) r) := by
 revert h hs
 revert s
 intro s1_1 h hs
 unfold laws_eqGrain_b1 at h
 obtain ⟨h20, h22, h24⟩ := hs
 generalize he19 : prune [2, 3, 5] e = e18
 have h21 := envp he19.symm rfl h20
 have h23 := envp he19.symm rfl h22
 have h25 := envp he19.symm rfl h24
 refine sq (sq (Rg (kx (mvO h25) (kx (bLss rfl rfl) (Rn (hV (.pt none (arC (cI .i8) 0 a1)) h21 (hV (.pt none (arC (cI .i8) 0 a2)) h23 (hV (.int .i64 s1_1) h25 (hN rfl hZ)))) fun e26 h28 h29 h30 h31 => sN ?_)))))
 clear h21 h23 h25
 rcases ite_some h with ⟨hb32, h⟩ | ⟨hb32, h⟩
 ·obtain ⟨x33, hx34, h⟩ := bind_some h
  obtain ⟨x35, hx36, h⟩ := bind_some h
  refine cT h31 hb32 (xx (sN (sq (bl (sq (Rd (kf (mvO h30) (kf (ixPA (c := (cI .i8)) (z := 0) (g := a1) h28 rfl hx34 (fun _ => rfl)) (kf (ldP rfl rfl) (kf (mvO h30) (kf (ixPA (c := (cI .i8)) (z := 0) (g := a2) h29 rfl hx36 (fun _ => rfl)) (kf (ldP rfl rfl) (kf (bNeq rfl rfl) (fZ (Rn (hA h28 (hA h29 (hA h30 (hN rfl hZ)))) fun e37 h39 h40 h41 h42 => sN ?_)))))))))))))))
  clear h28 h29 h30 h31
  rcases ite_some h with ⟨hb43, h⟩ | ⟨hb43, h⟩
  ·refine cT h42 hb43 (sq (Rg (kx (mvO rfl) (Rn (hV (.bool false) rfl hZ) fun e44 h46 => sN (xx (bR (sR ?_)))))))
   clear h39 h40 h41 h42
   obtain rfl := si h
   exact qR ⟨rfl, h46⟩
  refine cF h42 hb43 (xx (bN (sN (Rg (kx (mvO h41) (kx (bAdd rfl rfl) (kx (mvO rfl) (Rn (hA h39 (hA h40 (hN rfl hZ))) fun e47 h49 h50 h51 => ?_))))))))
  clear h39 h40 h42
  obtain rfl := si h
  exact qN ⟨h49, h50, h51⟩
 refine cF h31 hb32 (xx (sE ?_))
 obtain rfl := si h
 exact qE ⟨rfl, trivial⟩
noncomputable def laws_eqGrain (a1 : Ar 16 Int) (a2 : Ar 16 Int) : Option Bool :=
 (Lw (laws_eqGrain_b1 a1 a2) 0).bind fun r => match r with
 | (.inl _) =>
  some false
 | (.inr _) =>
  some true
def laws_eqGrain_enc (r : Bool) : AV := .bool r
theorem laws_eqGrain_ok (a1 : Ar 16 Int) (a2 : Ar 16 Int) (r : Bool) (h : laws_eqGrain a1 a2 = some r) : Ev (fun k => CN k 108 [.agg (arC (cI .i8) 0 a1), .agg (arC (cI .i8) 0 a2)] []) (fun p => rRes p.2 p.1 = laws_eqGrain_enc r) := by
 unfold laws_eqGrain at h
 obtain ⟨r52, hr53, h⟩ := bind_some h
 refine Ev.enter (F := fun k => f108 (CN k) k) (fun k => callN_eq rfl Tryd.func108 rfl rfl rfl (by decide +kernel) (f108_eq _ _)) (sq (Rg (kx (bxI rfl rfl ⟨rfl, rfl, by decide⟩) (kx (bxI rfl rfl ⟨rfl, rfl, by decide⟩) (kx (mvO rfl) (Rn (hN rfl (hN rfl hZ)) fun e1 h3 h4 => sN (sq (sq (Rg (kx (mvO rfl) (Rn (hA h3 (hA h4 (hV (.int .i64 0) rfl hZ))) fun e5 h7 h8 h9 => sN (bl ?_))))))))))))
 clear h3 h4
 rcases r52 with _ | _
 ·refine Ev.loop (RS := laws_eqGrain_b1_RS a1 a2) (RR := laws_eqGrain_b1_RR a1 a2) (fun s r h e M hs => laws_eqGrain_b1_ok a1 a2 s r h e M hs) hr53 ⟨h7, h8, h9⟩ fun x e55 M56 hq54 => ?_
  obtain ⟨rfl, h57⟩ := hq54
  refine bR (sR ?_)
  obtain rfl := si h
  exact eR (resT h57 res0) rfl
 refine Ev.loop (RS := laws_eqGrain_b1_RS a1 a2) (RR := laws_eqGrain_b1_RR a1 a2) (fun s r h e M hs => laws_eqGrain_b1_ok a1 a2 s r h e M hs) hr53 ⟨h7, h8, h9⟩ fun x e58 M59 hq54 => ?_
 obtain ⟨rfl, _⟩ := hq54
 refine bE (sN (sq (Rg (kx (mvO rfl) (Rn (hV (.bool true) rfl hZ) fun e60 h62 => sN (xx ?_))))))
 obtain rfl := si h
 exact eR (resT h62 res0) rfl
/-! ### loop.example/g01263/laws.eqNotchS (f107) -/
abbrev laws_eqNotchS_b1_S := Int
abbrev laws_eqNotchS_b1_R := Unit ⊕ Unit
def laws_eqNotchS_b1_RS (a1 : List Notch) (a2 : List Notch) (s : laws_eqNotchS_b1_S) (e : Env) (M : Mem) : Prop := eget e 0 = .sl none (a1.map Notch.c) ∧ eget e 1 = .sl none (a2.map Notch.c) ∧ eget e 5 = .int .i64 s
def laws_eqNotchS_b1_RR (a1 : List Notch) (a2 : List Notch) (r : laws_eqNotchS_b1_R) (x : Ex) (e : Env) (M : Mem) : Prop :=
  match r with
  | (.inl g) => x = .ret ∧ eget e 4 = .bool false
  | (.inr g) => x = .ext 0 ∧ True
noncomputable def laws_eqNotchS_b1 (a1 : List Notch) (a2 : List Notch) : laws_eqNotchS_b1_S → Option (laws_eqNotchS_b1_S ⊕ laws_eqNotchS_b1_R) := fun s1_1 =>
 if (decide (s1_1 < (a1.length : Int))) = true then
  (rd a1 s1_1).bind fun x42 =>
  (rd a2 s1_1).bind fun x44 =>
  (laws_eqNotch x42 x44).bind fun r47 =>
  if r47 = true then
   some (.inl (IntKind.i64.wrap (s1_1 + 1)))
  else
   some (.inr (.inl ()))
 else
  some (.inr (.inr ()))
theorem laws_eqNotchS_b1_ok (a1 : List Notch) (a2 : List Notch) (s : laws_eqNotchS_b1_S) (r : laws_eqNotchS_b1_S ⊕ laws_eqNotchS_b1_R) (h : laws_eqNotchS_b1 a1 a2 s = some r) (e : Env) (M : Mem) (hs : laws_eqNotchS_b1_RS a1 a2 s e M) : Ev (fun k => (f107_l4 (CN k) k (prune [0, 1, 5] e) M).bind fun q => some q) (bQ (laws_eqNotchS_b1_RS a1 a2) (laws_eqNotchS_b1_RR a1 a2) r) := by
 revert h hs
 revert s
 intro s1_1 h hs
 unfold laws_eqNotchS_b1 at h
 obtain ⟨h29, h31, h33⟩ := hs
 generalize he28 : prune [0, 1, 5] e = e27
 have h30 := envp he28.symm rfl h29
 have h32 := envp he28.symm rfl h31
 have h34 := envp he28.symm rfl h33
 refine sq (sq (Rg (kx (mvO h34) (kx (mvO h30) (kx (lnS Tryd.underlying54 rfl) (kx (bLss rfl rfl) (Rn (hV (.sl none (a1.map Notch.c)) h30 (hV (.sl none (a2.map Notch.c)) h32 (hV (.int .i64 s1_1) h34 (hN rfl hZ)))) fun e35 h37 h38 h39 h40 => sN ?_)))))))
 clear h30 h32 h34
 rcases ite_some h with ⟨hb41, h⟩ | ⟨hb41, h⟩
 ·obtain ⟨x42, hx43, h⟩ := bind_some h
  obtain ⟨x44, hx45, h⟩ := bind_some h
  obtain ⟨r47, hx46, h⟩ := bind_some h
  refine cT h40 hb41 (xx (sN (sq (bl (sq (Rd (kf (mvO h37) (kf (mvO h39) (kf (ixS rfl rfl hx43 Notch.fl) (kf (ldPA rfl rfl rfl) (kf (mvO h38) (kf (mvO h39) (kf (ixS rfl rfl hx45 Notch.fl) (kf (ldPA rfl rfl rfl) (fc (cl (v := .bool r47) rfl (cns rfl (cns rfl rfl)) rfl (laws_eqNotch_ok x42 x44 _ hx46) nm) (kf (uNot rfl) (fZ (Rn (hA h37 (hA h38 (hA h39 (hN rfl hZ)))) fun e48 h50 h51 h52 h53 => sN ?_))))))))))))))))))
  clear h37 h38 h39 h40
  rcases ite_some h with ⟨hb54, h⟩ | ⟨hb54, h⟩
  ·refine cF h53 (congrArg Bool.not hb54) (xx (bN (sN (Rg (kx (mvO h52) (kx (bAdd rfl rfl) (kx (mvO rfl) (Rn (hA h50 (hA h51 (hN rfl hZ))) fun e55 h57 h58 h59 => ?_))))))))
   clear h50 h51 h53
   obtain rfl := si h
   exact qN ⟨h57, h58, h59⟩
  refine cT h53 (congrArg Bool.not hb54) (sq (Rg (kx (mvO rfl) (Rn (hV (.bool false) rfl hZ) fun e60 h62 => sN (xx (bR (sR ?_)))))))
  clear h50 h51 h52 h53
  obtain rfl := si h
  exact qR ⟨rfl, h62⟩
 refine cF h40 hb41 (xx (sE ?_))
 obtain rfl := si h
 exact qE ⟨rfl, trivial⟩
noncomputable def laws_eqNotchS (a1 : List Notch) (a2 : List Notch) : Option Bool :=
 if ((a1.length : Int) != (a2.length : Int)) = true then
  some false
 else
  (Lw (laws_eqNotchS_b1 a1 a2) 0).bind fun r => match r with
  | (.inl _) =>
   some false
  | (.inr _) =>
   some true
def laws_eqNotchS_enc (r : Bool) : AV := .bool r
theorem laws_eqNotchS_ok (a1 : List Notch) (a2 : List Notch) (r : Bool) (h : laws_eqNotchS a1 a2 = some r) : Ev (fun k => CN k 107 [.sl none (a1.map Notch.c), .sl none (a2.map Notch.c)] []) (fun p => rRes p.2 p.1 = laws_eqNotchS_enc r) := by
 unfold laws_eqNotchS at h
 refine Ev.enter (F := fun k => f107 (CN k) k) (fun k => callN_eq rfl Tryd.func107 rfl rfl rfl (by decide +kernel) (f107_eq _ _)) (sq (Rg (kx (mvO rfl) (Rn (hN rfl (hN rfl hZ)) fun e1 h3 h4 => sN (sq (sq (Rg (kx (mvO h3) (kx (lnS Tryd.underlying54 rfl) (kx (mvO h4) (kx (lnS Tryd.underlying54 rfl) (kx (bNeq rfl rfl) (Rn (hA h3 (hA h4 (hN rfl hZ))) fun e5 h7 h8 h9 => sN ?_)))))))))))))
 clear h3 h4
 rcases ite_some h with ⟨hb10, h⟩ | ⟨hb10, h⟩
 ·refine cT h9 hb10 (sq (Rg (kx (mvO rfl) (Rn (hV (.bool false) rfl hZ) fun e11 h13 => sN (xx (sR ?_))))))
  clear h7 h8 h9
  obtain rfl := si h
  exact eR (resT h13 res0) rfl
 obtain ⟨r63, hr64, h⟩ := bind_some h
 refine cF h9 hb10 (xx (sN (sq (sq (Rg (kx (mvO rfl) (Rn (hA h7 (hA h8 (hV (.int .i64 0) rfl hZ))) fun e14 h16 h17 h18 => sN (bl ?_))))))))
 clear h7 h8 h9
 rcases r63 with _ | _
 ·refine Ev.loop (RS := laws_eqNotchS_b1_RS a1 a2) (RR := laws_eqNotchS_b1_RR a1 a2) (fun s r h e M hs => laws_eqNotchS_b1_ok a1 a2 s r h e M hs) hr64 ⟨h16, h17, h18⟩ fun x e66 M67 hq65 => ?_
  obtain ⟨rfl, h68⟩ := hq65
  refine bR (sR ?_)
  obtain rfl := si h
  exact eR (resT h68 res0) rfl
 refine Ev.loop (RS := laws_eqNotchS_b1_RS a1 a2) (RR := laws_eqNotchS_b1_RR a1 a2) (fun s r h e M hs => laws_eqNotchS_b1_ok a1 a2 s r h e M hs) hr64 ⟨h16, h17, h18⟩ fun x e69 M70 hq65 => ?_
 obtain ⟨rfl, _⟩ := hq65
 refine bE (sN (sq (Rg (kx (mvO rfl) (Rn (hV (.bool true) rfl hZ) fun e71 h73 => sN (xx ?_))))))
 obtain rfl := si h
 exact eR (resT h73 res0) rfl
/-! ### loop.example/g01263/impl.ValidHalf (f106) -/
def impl_ValidHalf_c1_Q (a1 : Half) (g : Bool) (q : Out) : Prop := q.1 = .nrm ∧ eget q.2.1 1 = .pt none (.bool a1.Stock :: (.sl none (a1.Notches.map Notch.c) :: ((arC (cI .i8) 0 a1.Grain) ++ ([] : List AV)))) ∧ eget q.2.1 14 = .bool g
def impl_ValidHalf_c3_Q (a1 : Half) (s1_1 : Int) (x58 : Notch) (i903_1 : Nat) (g : Bool) (q : Out) : Prop := q.1 = .nrm ∧ eget q.2.1 1 = .pt none (.bool a1.Stock :: (.sl none (a1.Notches.map Notch.c) :: ((arC (cI .i8) 0 a1.Grain) ++ ([] : List AV)))) ∧ eget q.2.1 3 = .int .i64 s1_1 ∧ eget q.2.1 4 = .loc i903_1 1 0 0 ∧ eget q.2.1 16 = .sl none (a1.Notches.map Notch.c) ∧ eget q.2.1 17 = .int .i64 (a1.Notches.length : Int) ∧ eget q.2.1 18 = .int .i64 s1_1 ∧ eget q.2.1 37 = .bool g ∧ q.2.2[i903_1]? = some (.live ⟨.box, 156, 2, [[.int .i8 x58.Kind, .int .i16 x58.At]]⟩)
abbrev impl_ValidHalf_b1_S := Int
abbrev impl_ValidHalf_b1_R := Unit ⊕ Unit
def impl_ValidHalf_b1_RS (a1 : Half) (s : impl_ValidHalf_b1_S) (e : Env) (M : Mem) : Prop := eget e 1 = .pt none (.bool a1.Stock :: (.sl none (a1.Notches.map Notch.c) :: ((arC (cI .i8) 0 a1.Grain) ++ ([] : List AV)))) ∧ eget e 16 = .sl none (a1.Notches.map Notch.c) ∧ eget e 17 = .int .i64 (a1.Notches.length : Int) ∧ eget e 18 = .int .i64 s
def impl_ValidHalf_b1_RR (a1 : Half) (r : impl_ValidHalf_b1_R) (x : Ex) (e : Env) (M : Mem) : Prop :=
  match r with
  | (.inl g) => x = .ret ∧ eget e 2 = .bool false
  | (.inr g) => x = .ext 0 ∧ True
noncomputable def impl_ValidHalf_b1 (a1 : Half) : impl_ValidHalf_b1_S → Option (impl_ValidHalf_b1_S ⊕ impl_ValidHalf_b1_R) := fun s1_1 =>
 if (decide (s1_1 < (a1.Notches.length : Int))) = true then
  (rd a1.Notches s1_1).bind fun x58 =>
  ((impl_isKind (IntKind.i64.wrap x58.Kind)).bind fun r76 =>
  if r76 = true then
   if (decide (x58.At < 0)) = true then
    some true
   else
    (impl_Notch_end x58).bind fun r89 =>
    some (decide (r89 > 200))
  else
   some true).bind fun y110 =>
  if y110 = true then
   some (.inr (.inl ()))
  else
   if (decide (s1_1 > 0)) = true then
    (rd a1.Notches (IntKind.i64.wrap (s1_1 - 1))).bind fun x124 =>
    (impl_Notch_end x124).bind fun r127 =>
    if (decide ((IntKind.i64.wrap x58.At) ≤ r127)) = true then
     some (.inr (.inl ()))
    else
     (rd a1.Notches (IntKind.i64.wrap (s1_1 - 1))).bind fun x139 =>
     if (decide (x58.Kind > x139.Kind)) = true then
      some (.inr (.inl ()))
     else
      some (.inl (IntKind.i64.wrap (s1_1 + 1)))
   else
    some (.inl (IntKind.i64.wrap (s1_1 + 1)))
 else
  some (.inr (.inr ()))
theorem impl_ValidHalf_b1_ok (a1 : Half) (s : impl_ValidHalf_b1_S) (r : impl_ValidHalf_b1_S ⊕ impl_ValidHalf_b1_R) (h : impl_ValidHalf_b1 a1 s = some r) (e : Env) (M : Mem) (hs : impl_ValidHalf_b1_RS a1 s e M) : Ev (fun k => (f106_l4 (CN k) k (prune [1, 16, 17, 18] e) M).bind fun q => some q) (bQ (impl_ValidHalf_b1_RS a1) (impl_ValidHalf_b1_RR a1) r) := by
 revert h hs
 revert s
 intro s1_1 h hs
 unfold impl_ValidHalf_b1 at h
 obtain ⟨h42, h44, h46, h48⟩ := hs
 generalize he41 : prune [1, 16, 17, 18] e = e40
 have h43 := envp he41.symm rfl h42
 have h45 := envp he41.symm rfl h44
 have h47 := envp he41.symm rfl h46
 have h49 := envp he41.symm rfl h48
 refine sq (Rg (kx (bLss h49 h47) (Rn (hV (.pt none (.bool a1.Stock :: (.sl none (a1.Notches.map Notch.c) :: ((arC (cI .i8) 0 a1.Grain) ++ ([] : List AV))))) h43 (hV (.sl none (a1.Notches.map Notch.c)) h45 (hV (.int .i64 (a1.Notches.length : Int)) h47 (hV (.int .i64 s1_1) h49 (hN rfl hZ))))) fun e50 h52 h53 h54 h55 h56 => sN (sq ?_))))
 clear h43 h45 h47 h49
 rcases ite_some h with ⟨hb57, h⟩ | ⟨hb57, h⟩
 ·obtain ⟨x58, hx59, h⟩ := bind_some h
  refine cT h56 hb57 (xx (sN (sq (bl (sq (Rg (kx (mvO h55) (kx (ixS h53 h55 hx59 Notch.fl) (kx (ldPA rfl rfl rfl) (ku (alO zero156) fun M61 hM62 => ?_))))))))))
  have o63 : M61[M.length]? = some (.live ⟨.box, 156, 2, [[.int .i8 0, .int .i16 0]]⟩) := push_new hM62
  refine kx (mvO rfl) (kw (stO rfl rfl o63 rfl rfl ⟨rfl, ble rfl⟩ rfl rfl) fun M64 hM65 => ?_)
  have o66 : M64[M.length]? = some (.live ⟨.box, 156, 2, [[.int .i8 x58.Kind, .int .i16 x58.At]]⟩) := set_same hM65 o63
  obtain ⟨r172, hr173, h⟩ := bind_some h
  refine Rn (hA h52 (hN rfl (hV (.loc M.length 1 0 0) rfl (hA h53 (hA h54 (hA h55 hZ)))))) fun e67 h69 h70 h71 h72 h73 h74 => sN (sq (sq ?_))
  clear h52 h53 h54 h55 h56
  refine Ev.cut (Q1 := impl_ValidHalf_c3_Q a1 s1_1 x58 M.length r172) (by
      have h := hr173
      obtain ⟨r76, hx75, h⟩ := bind_some h
      refine Rg (kx (faO h71 o66 rfl) (kx (ldO rfl o66 rfl rfl rfl) (kx (cvI rfl) (kc (cl (v := .bool r76) rfl (cns rfl rfl) rfl (impl_isKind_ok (IntKind.i64.wrap x58.Kind) _ hx75) nm) (kx (uNot rfl) (kx (mvO rfl) ?_))))))
      rcases ite_some h with ⟨hb77, h⟩ | ⟨hb77, h⟩
      ·refine kx (guF rfl (congrArg Bool.not hb77) (faO h71 o66 rfl)) (kx (guF rfl (congrArg Bool.not hb77) (ldO rfl o66 rfl rfl rfl)) (kx (guF rfl (congrArg Bool.not hb77) (bLss rfl rfl)) (kx (pkF rfl (congrArg Bool.not hb77) rfl) (kx (mvO rfl) ?_))))
       rcases ite_some h with ⟨hb78, h⟩ | ⟨hb78, h⟩
       ·refine kx (gsF rfl hb78) (kc (Ev.gsF rfl hb78) (kx (gsF rfl hb78) (kx (pkT rfl hb78 rfl) (Rn (hA h69 (hA h70 (hA h71 (hA h72 (hA h73 (hA h74 (hV (.bool true) rfl hZ))))))) fun e79 h81 h82 h83 h84 h85 h86 h87 => ?_))))
        clear h69 h70 h71 h72 h73 h74
        obtain rfl := si h
        exact kd (show impl_ValidHalf_c3_Q a1 s1_1 x58 M.length _ _ from ⟨rfl, h81, h82, h83, h84, h85, h86, h87, o66⟩)
       obtain ⟨r89, hx88, h⟩ := bind_some h
       refine kx (guF rfl hb78 (ldOA h71 o66 rfl rfl (ble rfl) rfl)) (kc (Ev.guF rfl hb78 (cl (v := .int .i64 r89) rfl (cns rfl rfl) rfl (impl_Notch_end_ok x58 _ hx88) nm)) (kx (guF rfl hb78 (bGtr rfl rfl)) (kx (pkF rfl hb78 rfl) (Rn (hA h69 (hA h70 (hA h71 (hA h72 (hA h73 (hA h74 (hN rfl hZ))))))) fun e90 h92 h93 h94 h95 h96 h97 h98 => ?_))))
       clear h69 h70 h71 h72 h73 h74
       obtain rfl := si h
       exact kd (show impl_ValidHalf_c3_Q a1 s1_1 x58 M.length _ _ from ⟨rfl, h92, h93, h94, h95, h96, h97, h98, o66⟩)
      refine kx (gsF rfl (congrArg Bool.not hb77)) (kx (gsF rfl (congrArg Bool.not hb77)) (kx (gsF rfl (congrArg Bool.not hb77)) (kx (pkT rfl (congrArg Bool.not hb77) rfl) (kx (mvO rfl) (kx (gsF rfl rfl) (kc (Ev.gsF rfl rfl) (kx (gsF rfl rfl) (kx (pkT rfl rfl rfl) (Rn (hA h69 (hA h70 (hA h71 (hA h72 (hA h73 (hA h74 (hV (.bool true) rfl hZ))))))) fun e99 h101 h102 h103 h104 h105 h106 h107 => ?_)))))))))
      clear h69 h70 h71 h72 h73 h74
      obtain rfl := si h
      exact kd (show impl_ValidHalf_c3_Q a1 s1_1 x58 M.length _ _ from ⟨rfl, h101, h102, h103, h104, h105, h106, h107, o66⟩)) ?_
  revert h hr173
  revert r172
  intro y110 hr173 h
  intro x e108 M109 hq171
  obtain ⟨rfl, h111, h112, h113, h114, h115, h116, h117, o118⟩ := hq171
  refine sN ?_
  rcases ite_some h with ⟨hb119, h⟩ | ⟨hb119, h⟩
  ·refine cT h117 hb119 (sq (Rg (kx (mvO rfl) (Rn (hV (.bool false) rfl hZ) fun e120 h122 => sN (xx (sR (bR (sR ?_))))))))
   clear h111 h112 h113 h114 h115 h116 h117
   obtain rfl := si h
   exact qR ⟨rfl, h122⟩
  refine cF h117 hb119 (xx (sN (sq (Rd (kf (mvO h112) (kf (bGtr rfl rfl) (kf (mvO rfl) ?_)))))))
  rcases ite_some h with ⟨hb123, h⟩ | ⟨hb123, h⟩
  ·obtain ⟨x124, hx125, h⟩ := bind_some h
   obtain ⟨r127, hx126, h⟩ := bind_some h
   refine kf (guT rfl hb123 (faO h113 o118 rfl)) (kf (guT rfl hb123 (ldO rfl o118 rfl rfl rfl)) (kf (guT rfl hb123 (cvI rfl)) (kf (guT rfl hb123 (faP h111 ⟨ble rfl, blt rfl⟩ rfl)) (kf (guT rfl hb123 (ldP rfl rfl)) (kf (guT rfl hb123 (mvO h112)) (kf (guT rfl hb123 (bSub rfl rfl)) (kf (guT rfl hb123 (ixS rfl rfl hx125 Notch.fl)) (kf (guT rfl hb123 (ldPA rfl rfl rfl)) (fc (Ev.guT rfl hb123 (cl (v := .int .i64 r127) rfl (cns rfl rfl) rfl (impl_Notch_end_ok x124 _ hx126) nm)) (kf (guT rfl hb123 (bLeq rfl rfl)) (kf (guT rfl hb123 (mvO rfl)) ?_)))))))))))
   rcases ite_some h with ⟨hb128, h⟩ | ⟨hb128, h⟩
   ·refine kf (gsF rfl hb128) (kf (gsF rfl hb128) (kf (gsF rfl hb128) (kf (gsF rfl hb128) (kf (gsF rfl hb128) (kf (gsF rfl hb128) (kf (gsF rfl hb128) (kf (gsF rfl hb128) (kf (gsF rfl hb128) (kf (gsF rfl hb128) (kf (guT rfl hb123 (pkT rfl hb128 rfl)) (kf (pkT rfl hb123 rfl) (fZ (Rn (hV (.pt none (.bool a1.Stock :: (.sl none (a1.Notches.map Notch.c) :: ((arC (cI .i8) 0 a1.Grain) ++ ([] : List AV))))) h111 (hV (.sl none (a1.Notches.map Notch.c)) h114 (hV (.int .i64 (a1.Notches.length : Int)) h115 (hV (.int .i64 s1_1) h116 (hV (.bool true) rfl hZ))))) fun e129 h131 h132 h133 h134 h135 => sN (cT h135 rfl (sq (Rg (kx (mvO rfl) (Rn (hV (.bool false) rfl hZ) fun e136 h138 => sN (xx (bR (sR ?_)))))))))))))))))))))
    clear h111 h112 h113 h114 h115 h116 h117 h131 h132 h133 h134 h135
    obtain rfl := si h
    exact qR ⟨rfl, h138⟩
   obtain ⟨x139, hx140, h⟩ := bind_some h
   refine kf (guF rfl hb128 (faO h113 o118 rfl)) (kf (guF rfl hb128 (ldO rfl o118 rfl rfl rfl)) (kf (guF rfl hb128 (faP h111 ⟨ble rfl, blt rfl⟩ rfl)) (kf (guF rfl hb128 (ldP rfl rfl)) (kf (guF rfl hb128 (mvO h112)) (kf (guF rfl hb128 (bSub rfl rfl)) (kf (guF rfl hb128 (ixS rfl rfl hx140 Notch.fl)) (kf (guF rfl hb128 (faP rfl ⟨ble rfl, blt rfl⟩ rfl)) (kf (guF rfl hb128 (ldP rfl rfl)) (kf (guF rfl hb128 (bGtr rfl rfl)) (kf (guT rfl hb123 (pkF rfl hb128 rfl)) (kf (pkT rfl hb123 rfl) (fZ (Rn (hV (.pt none (.bool a1.Stock :: (.sl none (a1.Notches.map Notch.c) :: ((arC (cI .i8) 0 a1.Grain) ++ ([] : List AV))))) h111 (hV (.sl none (a1.Notches.map Notch.c)) h114 (hV (.int .i64 (a1.Notches.length : Int)) h115 (hV (.int .i64 s1_1) h116 (hN rfl hZ))))) fun e141 h143 h144 h145 h146 h147 => sN ?_)))))))))))))
   clear h111 h112 h113 h114 h115 h116 h117
   rcases ite_some h with ⟨hb148, h⟩ | ⟨hb148, h⟩
   ·refine cT h147 hb148 (sq (Rg (kx (mvO rfl) (Rn (hV (.bool false) rfl hZ) fun e149 h151 => sN (xx (bR (sR ?_)))))))
    clear h143 h144 h145 h146 h147
    obtain rfl := si h
    exact qR ⟨rfl, h151⟩
   refine cF h147 hb148 (xx (bN (sN (Rg (kx (bAdd h146 rfl) (kx (mvO rfl) (Rn (hA h143 (hA h144 (hA h145 (hN rfl hZ)))) fun e152 h154 h155 h156 h157 => ?_)))))))
   clear h143 h144 h145 h147
   obtain rfl := si h
   exact qN ⟨h154, h155, h156, h157⟩
  refine kf (gsT rfl hb123) (kf (gsT rfl hb123) (kf (gsT rfl hb123) (kf (gsT rfl hb123) (kf (gsT rfl hb123) (kf (gsT rfl hb123) (kf (gsT rfl hb123) (kf (gsT rfl hb123) (kf (gsT rfl hb123) (fc (Ev.gsT rfl hb123) (kf (gsT rfl hb123) (kf (gsT rfl hb123) (kf (gsU rfl) (kf (gsU rfl) (kf (gsU rfl) (kf (gsU rfl) (kf (gsU rfl) (kf (gsU rfl) (kf (gsU rfl) (kf (gsU rfl) (kf (gsU rfl) (kf (gsU rfl) (kf (gsT rfl hb123) (kf (pkF rfl hb123 rfl) (fZ (Rn (hV (.pt none (.bool a1.Stock :: (.sl none (a1.Notches.map Notch.c) :: ((arC (cI .i8) 0 a1.Grain) ++ ([] : List AV))))) h111 (hV (.sl none (a1.Notches.map Notch.c)) h114 (hV (.int .i64 (a1.Notches.length : Int)) h115 (hV (.int .i64 s1_1) h116 (hV (.bool false) rfl hZ))))) fun e158 h160 h161 h162 h163 h164 => sN (cF h164 rfl (xx (bN (sN (Rg (kx (bAdd h163 rfl) (kx (mvO rfl) (Rn (hA h160 (hA h161 (hA h162 (hN rfl hZ)))) fun e165 h167 h168 h169 h170 => ?_)))))))))))))))))))))))))))))))))
  clear h111 h112 h113 h114 h115 h116 h117 h160 h161 h162 h164
  obtain rfl := si h
  exact qN ⟨h167, h168, h169, h170⟩
 refine cF h56 hb57 (xx (sE ?_))
 obtain rfl := si h
 exact qE ⟨rfl, trivial⟩
noncomputable def impl_ValidHalf (a1 : Half) : Option Bool :=
 (if (decide ((a1.Notches.length : Int) > 60)) = true then
  some true
 else
  (impl_ValidGrain a1.Grain).bind fun r10 =>
  some (!r10)).bind fun y17 =>
 if y17 = true then
  some false
 else
  (Lw (impl_ValidHalf_b1 a1) 0).bind fun r => match r with
  | (.inl _) =>
   some false
  | (.inr _) =>
   some true
def impl_ValidHalf_enc (r : Bool) : AV := .bool r
theorem impl_ValidHalf_ok (a1 : Half) (r : Bool) (h : impl_ValidHalf a1 = some r) : Ev (fun k => CN k 106 [.agg (.bool a1.Stock :: (.sl none (a1.Notches.map Notch.c) :: ((arC (cI .i8) 0 a1.Grain) ++ ([] : List AV))))] []) (fun p => rRes p.2 p.1 = impl_ValidHalf_enc r) := by
 unfold impl_ValidHalf at h
 obtain ⟨r186, hr187, h⟩ := bind_some h
 refine Ev.enter (F := fun k => f106 (CN k) k) (fun k => callN_eq rfl Tryd.func106 rfl rfl rfl (by decide +kernel) (f106_eq _ _)) (sq (Rg (kx (bxI rfl rfl ⟨rfl, rfl, by decide⟩) (kx (mvO rfl) (Rn (hN rfl hZ) fun e1 h3 => sN (sq (sq ?_)))))))
 refine Ev.cut (Q1 := impl_ValidHalf_c1_Q a1 r186) (by
     have h := hr187
     refine Rg (kx (faP h3 ⟨ble rfl, blt rfl⟩ rfl) (kx (ldP rfl rfl) (kx (lnS Tryd.underlying54 rfl) (kx (bGtr rfl rfl) (kx (mvO rfl) ?_)))))
     rcases ite_some h with ⟨hb4, h⟩ | ⟨hb4, h⟩
     ·refine kx (gsF rfl hb4) (kx (gsF rfl hb4) (kc (Ev.gsF rfl hb4) (kx (gsF rfl hb4) (kx (pkT rfl hb4 rfl) (Rn (hA h3 (hV (.bool true) rfl hZ)) fun e5 h7 h8 => ?_)))))
      clear h3
      obtain rfl := si h
      exact kd (show impl_ValidHalf_c1_Q a1 _ _ from ⟨rfl, h7, h8⟩)
     obtain ⟨r10, hx9, h⟩ := bind_some h
     refine kx (guF rfl hb4 (faP h3 ⟨ble rfl, blt rfl⟩ rfl)) (kx (guF rfl hb4 (ldPA rfl rfl rfl)) (kc (Ev.guF rfl hb4 (cl (v := .bool r10) rfl (cns rfl rfl) rfl (impl_ValidGrain_ok a1.Grain _ hx9) nm)) (kx (guF rfl hb4 (uNot rfl)) (kx (pkF rfl hb4 rfl) (Rn (hA h3 (hN rfl hZ)) fun e11 h13 h14 => ?_)))))
     clear h3
     obtain rfl := si h
     exact kd (show impl_ValidHalf_c1_Q a1 _ _ from ⟨rfl, h13, h14⟩)) ?_
 revert h hr187
 revert r186
 intro y17 hr187 h
 intro x e15 M16 hq185
 obtain ⟨rfl, h18, h19⟩ := hq185
 refine sN ?_
 rcases ite_some h with ⟨hb20, h⟩ | ⟨hb20, h⟩
 ·refine cT h19 hb20 (sq (Rg (kx (mvO rfl) (Rn (hV (.bool false) rfl hZ) fun e21 h23 => sN (xx (sR ?_))))))
  clear h18 h19
  obtain rfl := si h
  exact eR (resT h23 res0) rfl
 obtain ⟨r174, hr175, h⟩ := bind_some h
 refine cF h19 hb20 (xx (sN (sq (sq (Rg (kx (faP h18 ⟨ble rfl, blt rfl⟩ rfl) (kx (ldP rfl rfl) (kx (lnS Tryd.underlying54 rfl) (kx (mvO rfl) (Rn (hV (.pt none (.bool a1.Stock :: (.sl none (a1.Notches.map Notch.c) :: ((arC (cI .i8) 0 a1.Grain) ++ ([] : List AV))))) h18 (hN rfl (hN rfl (hV (.int .i64 0) rfl hZ)))) fun e24 h26 h27 h28 h29 => sN (bl ?_)))))))))))
 clear h18 h19
 rcases r174 with _ | _
 ·refine Ev.loop (RS := impl_ValidHalf_b1_RS a1) (RR := impl_ValidHalf_b1_RR a1) (fun s r h e M hs => impl_ValidHalf_b1_ok a1 s r h e M hs) hr175 ⟨h26, h27, h28, h29⟩ fun x e177 M178 hq176 => ?_
  obtain ⟨rfl, h179⟩ := hq176
  refine bR (sR ?_)
  obtain rfl := si h
  exact eR (resT h179 res0) rfl
 refine Ev.loop (RS := impl_ValidHalf_b1_RS a1) (RR := impl_ValidHalf_b1_RR a1) (fun s r h e M hs => impl_ValidHalf_b1_ok a1 s r h e M hs) hr175 ⟨h26, h27, h28, h29⟩ fun x e180 M181 hq176 => ?_
 obtain ⟨rfl, _⟩ := hq176
 refine bE (sN (sq (Rg (kx (mvO rfl) (Rn (hV (.bool true) rfl hZ) fun e182 h184 => sN (xx ?_))))))
 obtain rfl := si h
 exact eR (resT h184 res0) rfl
/-! ### loop.example/g01263/impl.isLetters (f87) -/
abbrev impl_isLetters_b1_S := Int
abbrev impl_isLetters_b1_R := Unit ⊕ Unit
def impl_isLetters_b1_RS (a1 : List UInt8) (a2 : Int) (s : impl_isLetters_b1_S) (e : Env) (M : Mem) : Prop := eget e 0 = .str a1 ∧ eget e 1 = .int .i64 a2 ∧ eget e 7 = .int .i64 (a1.length : Int) ∧ eget e 8 = .int .i64 s
def impl_isLetters_b1_RR (a1 : List UInt8) (a2 : Int) (r : impl_isLetters_b1_R) (x : Ex) (e : Env) (M : Mem) : Prop :=
  match r with
  | (.inl g) => x = .ret ∧ eget e 4 = .bool false
  | (.inr g) => x = .ext 0 ∧ eget e 0 = .str a1 ∧ eget e 1 = .int .i64 a2
noncomputable def impl_isLetters_b1 (a1 : List UInt8) : impl_isLetters_b1_S → Option (impl_isLetters_b1_S ⊕ impl_isLetters_b1_R) := fun s1_1 =>
 if (decide (s1_1 < (a1.length : Int))) = true then
  (rd a1 s1_1).bind fun x46 =>
  if (decide ((x46.toNat : Int) < 97)) = true then
   some (.inr (.inl ()))
  else
   (rd a1 s1_1).bind fun x59 =>
   if (decide ((x59.toNat : Int) > 122)) = true then
    some (.inr (.inl ()))
   else
    some (.inl (IntKind.i64.wrap (s1_1 + 1)))
 else
  some (.inr (.inr ()))
theorem impl_isLetters_b1_ok (a1 : List UInt8) (a2 : Int) (s : impl_isLetters_b1_S) (r : impl_isLetters_b1_S ⊕ impl_isLetters_b1_R) (h : impl_isLetters_b1 a1 s = some r) (e : Env) (M : Mem) (hs : impl_isLetters_b1_RS a1 a2 s e M) : Ev (fun k => (f87_l2 (CN k) k (prune [0, 1, 7, 8] e) M).bind fun q => some q) (bQ (impl_isLetters_b1_RS a1 a2) (impl_isLetters_b1_RR a1 a2) r) := by
 revert h hs
 revert s
 intro s1_1 h hs
 unfold impl_isLetters_b1 at h
 obtain ⟨h23, h25, h27, h29⟩ := hs
 generalize he22 : prune [0, 1, 7, 8] e = e21
 have h24 := envp he22.symm rfl h23
 have h26 := envp he22.symm rfl h25
 have h28 := envp he22.symm rfl h27
 have h30 := envp he22.symm rfl h29
 refine sq (Rg (kx (bLss h30 h28) (Rn (hV (.str a1) h24 (hV (.int .i64 a2) h26 (hV (.int .i64 (a1.length : Int)) h28 (hV (.int .i64 s1_1) h30 (hN rfl hZ))))) fun e31 h33 h34 h35 h36 h37 => sN (sq ?_))))
 clear h24 h26 h28 h30
 rcases ite_some h with ⟨hb38, h⟩ | ⟨hb38, h⟩
 ·obtain ⟨x46, hx47, h⟩ := bind_some h
  refine cT h37 hb38 (xx (sN (sq (bl (sq (Rg (kx (mvO h36) (kx (mvO rfl) (Rn (hA h33 (hA h34 (hN rfl (hA h35 (hA h36 hZ))))) fun e39 h41 h42 h43 h44 h45 => sN (sq (Rg (kx (mvO h41) (kx (mvO h43) (kx (ixB rfl rfl hx47) (kx (bLss rfl rfl) (kx (mvO rfl) ?_))))))))))))))))
  clear h33 h34 h35 h36 h37
  rcases ite_some h with ⟨hb48, h⟩ | ⟨hb48, h⟩
  ·refine kx (gsF rfl hb48) (kx (gsF rfl hb48) (kx (gsF rfl hb48) (kx (gsF rfl hb48) (kx (pkT rfl hb48 rfl) (Rn (hA h41 (hA h42 (hA h44 (hA h45 (hV (.bool true) rfl hZ))))) fun e49 h51 h52 h53 h54 h55 => sN (cT h55 rfl (sq (Rg (kx (mvO rfl) (Rn (hV (.bool false) rfl hZ) fun e56 h58 => sN (xx (bR (sR ?_)))))))))))))
   clear h41 h42 h43 h44 h45 h51 h52 h53 h54 h55
   obtain rfl := si h
   exact qR ⟨rfl, h58⟩
  obtain ⟨x59, hx60, h⟩ := bind_some h
  refine kx (guF rfl hb48 (mvO h41)) (kx (guF rfl hb48 (mvO h43)) (kx (guF rfl hb48 (ixB rfl rfl hx60)) (kx (guF rfl hb48 (bGtr rfl rfl)) (kx (pkF rfl hb48 rfl) (Rn (hA h41 (hA h42 (hA h44 (hA h45 (hN rfl hZ))))) fun e61 h63 h64 h65 h66 h67 => sN ?_)))))
  clear h41 h42 h43 h44 h45
  rcases ite_some h with ⟨hb68, h⟩ | ⟨hb68, h⟩
  ·refine cT h67 hb68 (sq (Rg (kx (mvO rfl) (Rn (hV (.bool false) rfl hZ) fun e69 h71 => sN (xx (bR (sR ?_)))))))
   clear h63 h64 h65 h66 h67
   obtain rfl := si h
   exact qR ⟨rfl, h71⟩
  refine cF h67 hb68 (xx (bN (sN (Rg (kx (bAdd h66 rfl) (kx (mvO rfl) (Rn (hA h63 (hA h64 (hA h65 (hN rfl hZ)))) fun e72 h74 h75 h76 h77 => ?_)))))))
  clear h63 h64 h65 h67
  obtain rfl := si h
  exact qN ⟨h74, h75, h76, h77⟩
 refine cF h37 hb38 (xx (sE ?_))
 obtain rfl := si h
 exact qE ⟨rfl, h33, h34⟩
noncomputable def impl_isLetters (a1 : List UInt8) (a2 : Int) : Option Bool :=
 (Lw (impl_isLetters_b1 a1) 0).bind fun r => match r with
 | (.inl _) =>
  some false
 | (.inr _) =>
  if (decide ((a1.length : Int) ≥ 1)) = true then
   some (decide ((a1.length : Int) ≤ a2))
  else
   some false
def impl_isLetters_enc (r : Bool) : AV := .bool r
theorem impl_isLetters_ok (a1 : List UInt8) (a2 : Int) (r : Bool) (h : impl_isLetters a1 a2 = some r) : Ev (fun k => CN k 87 [.str a1, .int .i64 a2] []) (fun p => rRes p.2 p.1 = impl_isLetters_enc r) := by
 unfold impl_isLetters at h
 obtain ⟨r78, hr79, h⟩ := bind_some h
 refine Ev.enter (F := fun k => f87 (CN k) k) (fun k => callN_eq rfl Tryd.func87 rfl rfl rfl (by decide +kernel) (f87_eq _ _)) (sq (Rg (kx (mvO rfl) (Rn (hN rfl (hN rfl hZ)) fun e1 h3 h4 => sN (sq (sq (Rg (kx (mvO h3) (kx (lnB Tryd.underlying9 rfl) (kx (mvO rfl) (Rn (hA h3 (hA h4 (hN rfl (hV (.int .i64 0) rfl hZ)))) fun e5 h7 h8 h9 h10 => sN (bl ?_))))))))))))
 clear h3 h4
 rcases r78 with _ | _
 ·refine Ev.loop (RS := impl_isLetters_b1_RS a1 a2) (RR := impl_isLetters_b1_RR a1 a2) (fun s r h e M hs => impl_isLetters_b1_ok a1 a2 s r h e M hs) hr79 ⟨h7, h8, h9, h10⟩ fun x e81 M82 hq80 => ?_
  obtain ⟨rfl, h83⟩ := hq80
  refine bR (sR ?_)
  obtain rfl := si h
  exact eR (resT h83 res0) rfl
 refine Ev.loop (RS := impl_isLetters_b1_RS a1 a2) (RR := impl_isLetters_b1_RR a1 a2) (fun s r h e M hs => impl_isLetters_b1_ok a1 a2 s r h e M hs) hr79 ⟨h7, h8, h9, h10⟩ fun x e84 M85 hq80 => ?_
 obtain ⟨rfl, h86, h87⟩ := hq80
 refine bE (sN (sq (Rg (kx (mvO h86) (kx (lnB Tryd.underlying9 rfl) (kx (bGeq rfl rfl) (kx (mvO rfl) ?_)))))))
 rcases ite_some h with ⟨hb88, h⟩ | ⟨hb88, h⟩
 ·refine kx (guT rfl hb88 (mvO h86)) (kx (guT rfl hb88 (lnB Tryd.underlying9 rfl)) (kx (guT rfl hb88 (mvO h87)) (kx (guT rfl hb88 (bLeq rfl rfl)) (kx (pkT rfl hb88 rfl) (kx (mvO rfl) (Rn (hN rfl hZ) fun e89 h91 => sN (xx ?_)))))))
  clear h86 h87
  obtain rfl := si h
  exact eR (resT h91 res0) rfl
 refine kx (gsT rfl hb88) (kx (gsT rfl hb88) (kx (gsT rfl hb88) (kx (gsT rfl hb88) (kx (pkF rfl hb88 rfl) (kx (mvO rfl) (Rn (hV (.bool false) rfl hZ) fun e92 h94 => sN (xx ?_)))))))
 clear h86 h87
 obtain rfl := si h
 exact eR (resT h94 res0) rfl
/-! ### loop.example/g01263/impl.isName (f105) -/
noncomputable def impl_isName (a1 : List UInt8) : Option Bool :=
 (impl_isLetters a1 12).bind fun r5 =>
 some r5
def impl_isName_enc (r : Bool) : AV := .bool r
theorem impl_isName_ok (a1 : List UInt8) (r : Bool) (h : impl_isName a1 = some r) : Ev (fun k => CN k 105 [.str a1] []) (fun p => rRes p.2 p.1 = impl_isName_enc r) := by
 unfold impl_isName at h
 obtain ⟨r5, hx4, h⟩ := bind_some h
 refine Ev.enter (F := fun k => f105 (CN k) k) (fun k => callN_eq rfl Tryd.func105 rfl rfl rfl (by decide +kernel) (f105_eq _ _)) (sq (Rg (kx (mvO rfl) (Rn (hN rfl hZ) fun e1 h3 => sN (sq (Rg (kx (mvO h3) (kc (cl (v := .bool r5) rfl (cns rfl (cns rfl rfl)) rfl (impl_isLetters_ok a1 12 _ hx4) nm) (kx (mvO rfl) (Rn (hN rfl hZ) fun e6 h8 => sN (xx ?_)))))))))))
 clear h3
 obtain rfl := si h
 exact eR (resT h8 res0) rfl
/-! ### loop.example/g01263/laws.toMark (f104) -/
noncomputable def laws_toMark (a1 : Mark) : Option ((List UInt8) × Int) :=
 some (a1.Holder, a1.Seal)
def laws_toMark_enc (r : (List UInt8) × Int) : AV := .agg [.str r.1, .int .u32 r.2]
theorem laws_toMark_ok (a1 : Mark) (r : (List UInt8) × Int) (h : laws_toMark a1 = some r) : Ev (fun k => CN k 104 [.agg [.str a1.Holder, .int .u32 a1.Seal]] []) (fun p => rRes p.2 p.1 = laws_toMark_enc r) := by
 unfold laws_toMark at h
 refine Ev.enter (F := fun k => f104 (CN k) k) (fun k => callN_eq rfl Tryd.func104 rfl rfl rfl (by decide +kernel) (f104_eq _ _)) (sq (Rg (kx (bxI rfl rfl ⟨rfl, rfl, by decide⟩) (ku (alO zero107) fun M2 hM3 => ?_))))
 have o4 : M2[([] : Mem).length]? = some (.live ⟨.box, 107, 2, [[.str ([] : List UInt8), .int .u32 0]]⟩) := push_new hM3
 refine Rn (hN rfl (hV (.loc ([] : Mem).length 1 0 0) rfl hZ)) fun e5 h7 h8 => sN (sq (Rg (ku (alO zero107) fun M10 hM11 => ?_)))
 have o12 := push_old hM11 o4
 have ne13 := ne_new o4
 have o14 : M10[M2.length]? = some (.live ⟨.box, 107, 2, [[.str ([] : List UInt8), .int .u32 0]]⟩) := push_new hM11
 refine Rn (hA h7 (hA h8 (hV (.loc M2.length 1 0 0) rfl hZ))) fun e15 h17 h18 h19 => sN (sq (Rg (kx (faP h17 ⟨ble rfl, blt rfl⟩ rfl) (kx (ldP rfl rfl) (kx (faO h19 o14 rfl) (kw (stO rfl rfl o14 rfl rfl ⟨rfl, ble rfl⟩ rfl rfl) fun M20 hM21 => ?_))))))
 clear h7 h8
 have o22 := set_ne hM21 ne13 o12
 have o23 : M20[M2.length]? = some (.live ⟨.box, 107, 2, [[.str a1.Holder, .int .u32 0]]⟩) := set_same hM21 o14
 refine Rn (hA h17 (hA h18 (hA h19 hZ))) fun e24 h26 h27 h28 => sN (sq (Rg (kx (faP h26 ⟨ble rfl, blt rfl⟩ rfl) (kx (ldP rfl rfl) (kx (faO h28 o23 rfl) (kw (stO rfl rfl o23 rfl rfl ⟨rfl, ble rfl⟩ rfl rfl) fun M29 hM30 => ?_))))))
 clear h17 h18 h19
 have o31 := set_ne hM30 ne13 o22
 have o32 : M29[M2.length]? = some (.live ⟨.box, 107, 2, [[.str a1.Holder, .int .u32 a1.Seal]]⟩) := set_same hM30 o23
 refine Rn (hA h27 (hA h28 hZ)) fun e33 h35 h36 => sN (sq (Rg (kx (ldOA h36 o32 rfl rfl (ble rfl) rfl) (kw (stO h35 rfl o31 rfl rfl ⟨rfl, ble rfl⟩ rfl rfl) fun M37 hM38 => ?_))))
 clear h26 h27 h28
 have o39 : M37[([] : Mem).length]? = some (.live ⟨.box, 107, 2, [[.str a1.Holder, .int .u32 a1.Seal]]⟩) := set_same hM38 o31
 have o40 := set_ne hM38 (Ne.symm ne13) o32
 refine Rn (hA h35 hZ) fun e41 h43 => sN (xx ?_)
 clear h35 h36
 obtain rfl := si h
 exact eR (resC (ag := true) (sz := 2) ⟨by kernel_rfl, by kernel_rfl, by kernel_rfl⟩ (ldOA h43 o39 rfl rfl (ble rfl) rfl) res0) rfl
/-! ### loop.example/g01263/laws.toGrain (f103) -/
abbrev laws_toGrain_b1_S := Int × (Ar 16 Int)
abbrev laws_toGrain_b1_R := (Ar 16 Int)
def laws_toGrain_b1_RS (a1 : Ar 16 Int) (i1_1 : Nat) (i1_2 : Nat) (s : laws_toGrain_b1_S) (e : Env) (M : Mem) : Prop := eget e 1 = .pt none (arC (cI .i8) 0 a1) ∧ eget e 2 = .loc i1_1 1 0 0 ∧ eget e 3 = .loc i1_2 1 0 0 ∧ eget e 4 = .int .i64 s.1 ∧ M[i1_1]? = some (.live ⟨.box, 55, 16, [(arC (cI .i8) 0 (Ar.rep 16 0))]⟩) ∧ M[i1_2]? = some (.live ⟨.box, 55, 16, [(arC (cI .i8) 0 s.2)]⟩)
def laws_toGrain_b1_RR (a1 : Ar 16 Int) (i1_1 : Nat) (i1_2 : Nat) (g : laws_toGrain_b1_R) (x : Ex) (e : Env) (M : Mem) : Prop := x = .ext 0 ∧ eget e 2 = .loc i1_1 1 0 0 ∧ eget e 3 = .loc i1_2 1 0 0 ∧ M[i1_1]? = some (.live ⟨.box, 55, 16, [(arC (cI .i8) 0 (Ar.rep 16 0))]⟩) ∧ M[i1_2]? = some (.live ⟨.box, 55, 16, [(arC (cI .i8) 0 g)]⟩)
noncomputable def laws_toGrain_b1 (a1 : Ar 16 Int) : laws_toGrain_b1_S → Option (laws_toGrain_b1_S ⊕ laws_toGrain_b1_R) := fun (s1_1, s1_2) =>
 if (decide (s1_1 < 16)) = true then
  (rdA a1 s1_1).bind fun x58 =>
  (rdA s1_2 s1_1).bind fun x60 =>
  some (.inl ((IntKind.i64.wrap (s1_1 + 1)), (s1_2.set s1_1.toNat x58)))
 else
  some (.inr s1_2)
theorem laws_toGrain_b1_ok (a1 : Ar 16 Int) (i1_1 : Nat) (i1_2 : Nat) (ne13 : i1_1 ≠ i1_2) (s : laws_toGrain_b1_S) (r : laws_toGrain_b1_S ⊕ laws_toGrain_b1_R) (h : laws_toGrain_b1 a1 s = some r) (e : Env) (M : Mem) (hs : laws_toGrain_b1_RS a1 i1_1 i1_2 s e M) : Ev (fun k => (f103_l3 (CN k) k (prune [1, 2, 3, 4] e) M).bind fun q => some q) (bQ (laws_toGrain_b1_RS a1 i1_1 i1_2) (laws_toGrain_b1_RR a1 i1_1 i1_2) r) := by
 obtain ⟨s1_1, s1_2⟩ := s
 unfold laws_toGrain_b1 at h
 obtain ⟨h40, h42, h44, h46, o48, o49⟩ := hs
 generalize he39 : prune [1, 2, 3, 4] e = e38
 have h41 := envp he39.symm rfl h40
 have h43 := envp he39.symm rfl h42
 have h45 := envp he39.symm rfl h44
 have h47 := envp he39.symm rfl h46
 refine sq (sq (Rg (kx (mvO h47) (kx (bLss rfl rfl) (Rn (hV (.pt none (arC (cI .i8) 0 a1)) h41 (hV (.loc i1_1 1 0 0) h43 (hV (.loc i1_2 1 0 0) h45 (hV (.int .i64 s1_1) h47 (hN rfl hZ))))) fun e50 h52 h53 h54 h55 h56 => sN ?_)))))
 clear h41 h43 h45 h47
 rcases ite_some h with ⟨hb57, h⟩ | ⟨hb57, h⟩
 ·obtain ⟨x58, hx59, h⟩ := bind_some h
  obtain ⟨x60, hx61, h⟩ := bind_some h
  refine cT h56 hb57 (xx (sN (sq (bl (Rg (kx (mvO h55) (kx (mvO h55) (kx (ixPA (c := (cI .i8)) (z := 0) (g := a1) h52 rfl hx59 (fun _ => rfl)) (kx (ldP rfl rfl) (kx (ixLA h54 o49 rfl rfl hx61) (kw (stLA (c := (cI .i8)) (z := 0) (g := s1_2) (pre := []) (post := []) (u' := x58) rfl rfl o49 rfl rfl rfl rfl (fun _ => rfl) rfl rfl hx61) fun M62 hM63 => ?_)))))))))))
  have o64 := set_ne hM63 ne13 o48
  have o65 : M62[i1_2]? = some (.live ⟨.box, 55, 16, [(arC (cI .i8) 0 (s1_2.set s1_1.toNat x58))]⟩) := set_same hM63 o49
  refine Rn (hA h52 (hA h53 (hA h54 (hA h55 hZ)))) fun e66 h68 h69 h70 h71 => bN (sN (Rg (kx (mvO h71) (kx (bAdd rfl rfl) (kx (mvO rfl) (Rn (hA h68 (hA h69 (hA h70 (hN rfl hZ)))) fun e72 h74 h75 h76 h77 => ?_))))))
  clear h52 h53 h54 h55 h56 h68 h69 h70
  obtain rfl := si h
  exact qN ⟨h74, h75, h76, h77, o64, o65⟩
 refine cF h56 hb57 (xx (sE ?_))
 obtain rfl := si h
 exact qE ⟨rfl, h53, h54, o48, o49⟩
noncomputable def laws_toGrain (a1 : Ar 16 Int) : Option ((Ar 16 Int)) :=
 (Lw (laws_toGrain_b1 a1) (0, (Ar.rep 16 0))).bind fun y83 =>
 some y83
def laws_toGrain_enc (r : (Ar 16 Int)) : AV := .agg (arC (cI .i8) 0 r)
theorem laws_toGrain_ok (a1 : Ar 16 Int) (r : (Ar 16 Int)) (h : laws_toGrain a1 = some r) : Ev (fun k => CN k 103 [.agg (arC (cI .i8) 0 a1)] []) (fun p => rRes p.2 p.1 = laws_toGrain_enc r) := by
 unfold laws_toGrain at h
 refine Ev.enter (F := fun k => f103 (CN k) k) (fun k => callN_eq rfl Tryd.func103 rfl rfl rfl (by decide +kernel) (f103_eq _ _)) (sq (Rg (kx (bxI rfl rfl ⟨rfl, rfl, by decide⟩) (ku (alO zero55) fun M2 hM3 => ?_))))
 have o4 : M2[([] : Mem).length]? = some (.live ⟨.box, 55, 16, [(arC (cI .i8) 0 (Ar.rep 16 0))]⟩) := push_new hM3
 refine Rn (hN rfl (hV (.loc ([] : Mem).length 1 0 0) rfl hZ)) fun e5 h7 h8 => sN (sq (Rg (ku (alO zero55) fun M10 hM11 => ?_)))
 have o12 := push_old hM11 o4
 have ne13 := ne_new o4
 have o14 : M10[M2.length]? = some (.live ⟨.box, 55, 16, [(arC (cI .i8) 0 (Ar.rep 16 0))]⟩) := push_new hM11
 obtain ⟨y83, hr79, h⟩ := bind_some h
 refine Rn (hA h7 (hA h8 (hV (.loc M2.length 1 0 0) rfl hZ))) fun e15 h17 h18 h19 => sN (sq (sq (Rg (kx (mvO rfl) (Rn (hA h17 (hA h18 (hA h19 (hV (.int .i64 0) rfl hZ)))) fun e20 h22 h23 h24 h25 => sN (bl (Ev.loop (RS := laws_toGrain_b1_RS a1 (([] : Mem).length) M2.length) (RR := laws_toGrain_b1_RR a1 (([] : Mem).length) M2.length) (fun s r h e M hs => laws_toGrain_b1_ok a1 (([] : Mem).length) M2.length ne13 s r h e M hs) hr79 ⟨h22, h23, h24, h25, o12, o14⟩ fun x e81 M82 hq80 => ?_)))))))
 clear h7 h8 h17 h18 h19
 obtain ⟨rfl, h84, h85, o86, o87⟩ := hq80
 refine bE (sN (sq (Rg (kx (ldOA (cs' := (arC (cI .i8) 0 y83)) h85 o87 rfl rfl (ble rfl) rfl) (kw (stO h84 rfl o86 rfl rfl ⟨rfl, ble rfl⟩ rfl rfl) fun M88 hM89 => ?_)))))
 have o90 : M88[([] : Mem).length]? = some (.live ⟨.box, 55, 16, [(arC (cI .i8) 0 y83)]⟩) := set_same hM89 o86
 have o91 := set_ne hM89 (Ne.symm ne13) o87
 refine Rn (hV (.loc ([] : Mem).length 1 0 0) h84 hZ) fun e92 h94 => sN (xx ?_)
 clear h84 h85
 obtain rfl := si h
 exact eR (resC (ag := true) (sz := 16) ⟨by kernel_rfl, by kernel_rfl, by kernel_rfl⟩ (ldOA (cs' := (arC (cI .i8) 0 y83)) h94 o90 rfl rfl (ble rfl) rfl) res0) rfl
/-! ### loop.example/g01263/laws.toNotchS (f102) -/
abbrev laws_toNotchS_b1_S := Int × (List Notch)
abbrev laws_toNotchS_b1_R := (List Notch)
def laws_toNotchS_b1_RS (a1 : List Notch) (x4 : List Notch) (i1_1 : Nat) (s : laws_toNotchS_b1_S) (e : Env) (M : Mem) : Prop := eget e 0 = .sl none (a1.map Notch.c) ∧ eget e 3 = .lsl i1_1 s.2.length 0 s.2.length ∧ eget e 4 = .int .i64 s.1 ∧ M[i1_1]? = some (.live ⟨.grow, 156, 2, s.2.map Notch.c⟩) ∧ s.2.length = x4.length
def laws_toNotchS_b1_RR (a1 : List Notch) (x4 : List Notch) (i1_1 : Nat) (g : laws_toNotchS_b1_R) (x : Ex) (e : Env) (M : Mem) : Prop := x = .ext 0 ∧ eget e 3 = .lsl i1_1 g.length 0 g.length ∧ M[i1_1]? = some (.live ⟨.grow, 156, 2, g.map Notch.c⟩) ∧ g.length = x4.length
noncomputable def laws_toNotchS_b1 (a1 : List Notch) : laws_toNotchS_b1_S → Option (laws_toNotchS_b1_S ⊕ laws_toNotchS_b1_R) := fun (s1_1, s1_2) =>
 if (decide (s1_1 < (a1.length : Int))) = true then
  (rd a1 s1_1).bind fun x45 =>
  (laws_toNotch x45).bind fun (r48, r49) =>
  (rd s1_2 s1_1).bind fun x50 =>
  some (.inl ((IntKind.i64.wrap (s1_1 + 1)), (s1_2.set s1_1.toNat (Notch.mk r48 r49))))
 else
  some (.inr s1_2)
theorem laws_toNotchS_b1_ok (a1 : List Notch) (x4 : List Notch) (i1_1 : Nat) (s : laws_toNotchS_b1_S) (r : laws_toNotchS_b1_S ⊕ laws_toNotchS_b1_R) (h : laws_toNotchS_b1 a1 s = some r) (e : Env) (M : Mem) (hs : laws_toNotchS_b1_RS a1 x4 i1_1 s e M) : Ev (fun k => (f102_l3 (CN k) k (prune [0, 3, 4] e) M).bind fun q => some q) (bQ (laws_toNotchS_b1_RS a1 x4 i1_1) (laws_toNotchS_b1_RR a1 x4 i1_1) r) := by
 obtain ⟨s1_1, s1_2⟩ := s
 unfold laws_toNotchS_b1 at h
 obtain ⟨h30, h32, h34, o36, hl37⟩ := hs
 generalize he29 : prune [0, 3, 4] e = e28
 have h31 := envp he29.symm rfl h30
 have h33 := envp he29.symm rfl h32
 have h35 := envp he29.symm rfl h34
 refine sq (sq (Rg (kx (mvO h35) (kx (mvO h31) (kx (lnS Tryd.underlying44 rfl) (kx (bLss rfl rfl) (Rn (hV (.sl none (a1.map Notch.c)) h31 (hV (.lsl i1_1 s1_2.length 0 s1_2.length) h33 (hV (.int .i64 s1_1) h35 (hN rfl hZ)))) fun e38 h40 h41 h42 h43 => sN ?_)))))))
 clear h31 h33 h35
 rcases ite_some h with ⟨hb44, h⟩ | ⟨hb44, h⟩
 ·obtain ⟨x45, hx46, h⟩ := bind_some h
  obtain ⟨⟨r48, r49⟩, hx47, h⟩ := bind_some h
  obtain ⟨x50, hx51, h⟩ := bind_some h
  refine cT h43 hb44 (xx (sN (sq (bl (Rg (kx (mvO h41) (kx (mvO h42) (kx (mvO h40) (kx (mvO h42) (kx (ixS rfl rfl hx46 Notch.fl) (kx (ldPA rfl rfl rfl) (kc (cl (v := .agg [.int .i8 r48, .int .i16 r49]) rfl (cns rfl rfl) rfl (laws_toNotch_ok x45 _ hx47) nm) (kx (ixO rfl o36 rfl rfl (rd_get hx51).1 (rd_lt hx51).2) (kw (stR (u := x50) (u' := (Notch.mk r48 r49)) rfl rfl o36 rfl (rz2 hx51) ⟨rfl, ble rfl⟩ rfl rfl) fun M52 hM53 => ?_))))))))))))))
  rw [Nat.zero_add] at hM53
  have o54 : M52[i1_1]? = some (.live ⟨.grow, 156, 2, (s1_2.set s1_1.toNat (Notch.mk r48 r49)).map Notch.c⟩) := set_same hM53 o36
  have hx55 := rd_set (u' := (Notch.mk r48 r49)) hx51
  refine Rn (hA h40 (hA h41 (hA h42 hZ))) fun e56 h58 h59 h60 => bN (sN (Rg (kx (mvO h60) (kx (bAdd rfl rfl) (kx (mvO rfl) (Rn (hA h58 (hA h59 (hN rfl hZ))) fun e61 h63 h64 h65 => ?_))))))
  clear h40 h41 h42 h43 h58 h59
  obtain rfl := si h
  exact qN ⟨h63, (lslL (L' := (s1_2.set s1_1.toNat (Notch.mk r48 r49)).length) h64 (by simp [hl37])), h65, o54, (by first | rfl | simp [hl37])⟩
 refine cF h43 hb44 (xx (sE ?_))
 obtain rfl := si h
 exact qE ⟨rfl, h41, o36, (by first | rfl | simp [hl37])⟩
noncomputable def laws_toNotchS (a1 : List Notch) : Option ((List Notch)) :=
 (mkS 4 (Notch.mk 0 0) (a1.length : Int)).bind fun x4 =>
 (Lw (laws_toNotchS_b1 a1) (0, x4)).bind fun y71 =>
 some y71
def laws_toNotchS_enc (r : (List Notch)) : AV := .sl (some 156) (r.map Notch.c)
theorem laws_toNotchS_ok (a1 : List Notch) (r : (List Notch)) (h : laws_toNotchS a1 = some r) : Ev (fun k => CN k 102 [.sl none (a1.map Notch.c)] []) (fun p => rRes p.2 p.1 = laws_toNotchS_enc r) := by
 unfold laws_toNotchS at h
 obtain ⟨x4, hx5, h⟩ := bind_some h
 refine Ev.enter (F := fun k => f102 (CN k) k) (fun k => callN_eq rfl Tryd.func102 rfl rfl rfl (by decide +kernel) (f102_eq _ _)) (sq (Rg (kx (mvO rfl) (Rn (hN rfl hZ) fun e1 h3 => sN (sq (Rg (kx (mvO h3) (kx (lnS Tryd.underlying44 rfl) (ku (mkO rfl rfl hx5 (c := Notch.c) zero156 Notch.fl (by decide)) fun M7 hM8 => ?_)))))))))
 have o9 : M7[([] : Mem).length]? = some (.live ⟨.grow, 156, 2, x4.map Notch.c⟩) := push_new hM8
 obtain ⟨y71, hr67, h⟩ := bind_some h
 refine kx (mvO rfl) (Rn (hA h3 (hV (.lsl ([] : Mem).length x4.length 0 x4.length) rfl hZ)) fun e10 h12 h13 => sN (sq (sq (Rg (kx (mvO rfl) (Rn (hA h12 (hA h13 (hV (.int .i64 0) rfl hZ))) fun e14 h16 h17 h18 => sN (bl (Ev.loop (RS := laws_toNotchS_b1_RS a1 x4 (([] : Mem).length)) (RR := laws_toNotchS_b1_RR a1 x4 (([] : Mem).length)) (fun s r h e M hs => laws_toNotchS_b1_ok a1 x4 (([] : Mem).length) s r h e M hs) hr67 ⟨h16, h17, h18, o9, rfl⟩ fun x e69 M70 hq68 => ?_))))))))
 clear h3 h12 h13
 obtain ⟨rfl, h72, o73, hl74⟩ := hq68
 refine bE (sN (sq (Rg (kx (mvO h72) (kx (mvO rfl) (Rn (hV (.lsl ([] : Mem).length y71.length 0 y71.length) rfl hZ) fun e75 h77 => sN (xx ?_)))))))
 clear h72
 obtain rfl := si h
 exact eR (resT h77 res0) (rr_row o73 rfl Notch.fl)
/-! ### loop.example/g01263/spec.l06Hex (f101) -/
abbrev spec_l06Hex_b1_S := Int × (List Int)
abbrev spec_l06Hex_b1_R := (List Int)
def spec_l06Hex_b1_RS (a1 : Int) (i1_1 : Nat) (s : spec_l06Hex_b1_S) (e : Env) (M : Mem) : Prop := eget e 0 = .int .u32 a1 ∧ eget e 3 = .str ([48, 49, 50, 51, 52, 53, 54, 55, 56, 57, 97, 98, 99, 100, 101, 102] : List UInt8) ∧ eget e 4 = .lsl i1_1 s.2.length 0 s.2.length ∧ eget e 5 = .int .i64 s.1 ∧ M[i1_1]? = some (.live ⟨.grow, 5, 1, s.2.map (cI .u8)⟩)
def spec_l06Hex_b1_RR (a1 : Int) (i1_1 : Nat) (g : spec_l06Hex_b1_R) (x : Ex) (e : Env) (M : Mem) : Prop := x = .ext 0 ∧ eget e 4 = .lsl i1_1 g.length 0 g.length ∧ M[i1_1]? = some (.live ⟨.grow, 5, 1, g.map (cI .u8)⟩)
noncomputable def spec_l06Hex_b1 (a1 : Int) : spec_l06Hex_b1_S → Option (spec_l06Hex_b1_S ⊕ spec_l06Hex_b1_R) := fun (s1_1, s1_2) =>
 if (decide (s1_1 ≥ 0)) = true then
  (shr .u32 a1 (IntKind.u64.wrap s1_1)).bind fun n53 =>
  (rd ([48, 49, 50, 51, 52, 53, 54, 55, 56, 57, 97, 98, 99, 100, 101, 102] : List UInt8) (iand .u32 n53 15)).bind fun x55 =>
  (app 1 s1_2 [(x55.toNat : Int)]).bind fun x57 =>
  some (.inl ((IntKind.i64.wrap (s1_1 - 4)), x57))
 else
  some (.inr s1_2)
theorem spec_l06Hex_b1_ok (a1 : Int) (i1_1 : Nat) (s : spec_l06Hex_b1_S) (r : spec_l06Hex_b1_S ⊕ spec_l06Hex_b1_R) (h : spec_l06Hex_b1 a1 s = some r) (e : Env) (M : Mem) (hs : spec_l06Hex_b1_RS a1 i1_1 s e M) : Ev (fun k => (f101_l4 (CN k) k (prune [0, 3, 4, 5] e) M).bind fun q => some q) (bQ (spec_l06Hex_b1_RS a1 i1_1) (spec_l06Hex_b1_RR a1 i1_1) r) := by
 obtain ⟨s1_1, s1_2⟩ := s
 unfold spec_l06Hex_b1 at h
 obtain ⟨h36, h38, h40, h42, o44⟩ := hs
 generalize he35 : prune [0, 3, 4, 5] e = e34
 have h37 := envp he35.symm rfl h36
 have h39 := envp he35.symm rfl h38
 have h41 := envp he35.symm rfl h40
 have h43 := envp he35.symm rfl h42
 refine sq (sq (Rg (kx (mvO h43) (kx (bGeq rfl rfl) (Rn (hV (.int .u32 a1) h37 (hV (.str ([48, 49, 50, 51, 52, 53, 54, 55, 56, 57, 97, 98, 99, 100, 101, 102] : List UInt8)) h39 (hV (.lsl i1_1 s1_2.length 0 s1_2.length) h41 (hV (.int .i64 s1_1) h43 (hN rfl hZ))))) fun e45 h47 h48 h49 h50 h51 => sN ?_)))))
 clear h37 h39 h41 h43
 rcases ite_some h with ⟨hb52, h⟩ | ⟨hb52, h⟩
 ·obtain ⟨n53, hx54, h⟩ := bind_some h
  obtain ⟨x55, hx56, h⟩ := bind_some h
  obtain ⟨x57, hx58, h⟩ := bind_some h
  refine cT h51 hb52 (xx (sN (sq (bl (Rg (kx (mvO h49) (kx (mvO h48) (kx (mvO h47) (kx (mvO h50) (kx (cvI rfl) (kx (bShr rfl rfl hx54) (kx (bAnd rfl rfl) (kx (ixB rfl rfl hx56) (kx (litI (cns rfl rfl) rfl ⟨rfl, by decide⟩) (kw (apO rfl o44 rfl (elT (c := (cI .u8)) (xs := [(x55.toNat : Int)]) rfl) hx58 (cI_fl _) (by decide)) fun M59 hM60 => ?_)))))))))))))))
  have o61 : M59[i1_1]? = some (.live ⟨.grow, 5, 1, x57.map (cI .u8)⟩) := set_same hM60 o44
  refine kx (mvO rfl) (Rn (hA h47 (hA h48 (hV (.lsl i1_1 x57.length 0 x57.length) rfl (hA h50 hZ)))) fun e62 h64 h65 h66 h67 => bN (sN (Rg (kx (mvO h67) (kx (bSub rfl rfl) (kx (mvO rfl) (Rn (hA h64 (hA h65 (hA h66 (hN rfl hZ)))) fun e68 h70 h71 h72 h73 => ?_)))))))
  clear h47 h48 h50 h51 h64 h65 h66
  obtain rfl := si h
  exact qN ⟨h70, h71, h72, h73, o61⟩
 refine cF h51 hb52 (xx (sE ?_))
 obtain rfl := si h
 exact qE ⟨rfl, h49, o44⟩
noncomputable def spec_l06Hex (a1 : Int) : Option ((List UInt8)) :=
 (Lw (spec_l06Hex_b1 a1) (28, ([] : List Int))).bind fun y79 =>
 some (toB y79)
def spec_l06Hex_enc (r : (List UInt8)) : AV := .str r
theorem spec_l06Hex_ok (a1 : Int) (r : (List UInt8)) (h : spec_l06Hex a1 = some r) : Ev (fun k => CN k 101 [.int .u32 a1] []) (fun p => rRes p.2 p.1 = spec_l06Hex_enc r) := by
 unfold spec_l06Hex at h
 refine Ev.enter (F := fun k => f101 (CN k) k) (fun k => callN_eq rfl Tryd.func101 rfl rfl rfl (by decide +kernel) (f101_eq _ _)) (sq (Rg (kx (mvO rfl) (Rn (hN rfl hZ) fun e1 h3 => sN (sq (Rg (kx (mvO rfl) (Rn (hA h3 (hN rfl hZ)) fun e4 h6 h7 => sN (sq (Rg (ku (litO (xs := ([] : List Int)) (c := (cI .u8)) rfl rfl (by decide)) fun M9 hM10 => ?_)))))))))))
 clear h3
 have o11 : M9[([] : Mem).length]? = some (.live ⟨.grow, 5, 1, ([] : List Int).map (cI .u8)⟩) := push_new hM10
 obtain ⟨y79, hr75, h⟩ := bind_some h
 refine kx (mvO rfl) (Rn (hA h6 (hA h7 (hV (.lsl ([] : Mem).length ([] : List Int).length 0 ([] : List Int).length) rfl hZ))) fun e12 h14 h15 h16 => sN (sq (sq (Rg (kx (mvO rfl) (Rn (hA h14 (hA h15 (hA h16 (hV (.int .i64 28) rfl hZ)))) fun e17 h19 h20 h21 h22 => sN (bl (Ev.loop (RS := spec_l06Hex_b1_RS a1 (([] : Mem).length)) (RR := spec_l06Hex_b1_RR a1 (([] : Mem).length)) (fun s r h e M hs => spec_l06Hex_b1_ok a1 (([] : Mem).length) s r h e M hs) hr75 ⟨h19, h20, h21, h22, o11⟩ fun x e77 M78 hq76 => ?_))))))))
 clear h6 h7 h14 h15 h16
 obtain ⟨rfl, h80, o81⟩ := hq76
 refine bE (sN (sq (Rg (kx (mvO h80) (kx (cvB (elL rfl o81 rfl)) (kx (mvO rfl) (Rn (hN rfl hZ) fun e82 h84 => sN (xx ?_))))))))
 clear h80
 obtain rfl := si h
 exact eR (resT h84 res0) rfl
/-! ### loop.example/g01263/spec.l01Text (f100) -/
abbrev spec_l01Text_b1_S := (List UInt8) × Int
abbrev spec_l01Text_b1_R := (List UInt8)
def spec_l01Text_b1_RS (a1 : Half) (s : spec_l01Text_b1_S) (e : Env) (M : Mem) : Prop := eget e 0 = .pt none (.bool a1.Stock :: (.sl none (a1.Notches.map Notch.c) :: ((arC (cI .i8) 0 a1.Grain) ++ ([] : List AV)))) ∧ eget e 3 = .str s.1 ∧ eget e 4 = .int .i64 s.2
def spec_l01Text_b1_RR (a1 : Half) (g : spec_l01Text_b1_R) (x : Ex) (e : Env) (M : Mem) : Prop := x = .ext 0 ∧ eget e 0 = .pt none (.bool a1.Stock :: (.sl none (a1.Notches.map Notch.c) :: ((arC (cI .i8) 0 a1.Grain) ++ ([] : List AV)))) ∧ eget e 3 = .str g
noncomputable def spec_l01Text_b1 (a1 : Half) : spec_l01Text_b1_S → Option (spec_l01Text_b1_S ⊕ spec_l01Text_b1_R) := fun (s1_1, s1_2) =>
 if (decide (s1_2 < 16)) = true then
  (rdA a1.Grain s1_2).bind fun x46 =>
  (sadd s1_1 (toB [(IntKind.u8.wrap (IntKind.i64.wrap (100 + (IntKind.i64.wrap x46))))])).bind fun w48 =>
  some (.inl (w48, (IntKind.i64.wrap (s1_2 + 1))))
 else
  some (.inr s1_1)
theorem spec_l01Text_b1_ok (a1 : Half) (s : spec_l01Text_b1_S) (r : spec_l01Text_b1_S ⊕ spec_l01Text_b1_R) (h : spec_l01Text_b1 a1 s = some r) (e : Env) (M : Mem) (hs : spec_l01Text_b1_RS a1 s e M) : Ev (fun k => (f100_l5 (CN k) k (prune [0, 3, 4] e) M).bind fun q => some q) (bQ (spec_l01Text_b1_RS a1) (spec_l01Text_b1_RR a1) r) := by
 obtain ⟨s1_1, s1_2⟩ := s
 unfold spec_l01Text_b1 at h
 obtain ⟨h33, h35, h37⟩ := hs
 generalize he32 : prune [0, 3, 4] e = e31
 have h34 := envp he32.symm rfl h33
 have h36 := envp he32.symm rfl h35
 have h38 := envp he32.symm rfl h37
 refine sq (sq (Rg (kx (mvO h38) (kx (bLss rfl rfl) (Rn (hV (.pt none (.bool a1.Stock :: (.sl none (a1.Notches.map Notch.c) :: ((arC (cI .i8) 0 a1.Grain) ++ ([] : List AV))))) h34 (hV (.str s1_1) h36 (hV (.int .i64 s1_2) h38 (hN rfl hZ)))) fun e39 h41 h42 h43 h44 => sN ?_)))))
 clear h34 h36 h38
 rcases ite_some h with ⟨hb45, h⟩ | ⟨hb45, h⟩
 ·obtain ⟨x46, hx47, h⟩ := bind_some h
  obtain ⟨w48, hx49, h⟩ := bind_some h
  refine cT h44 hb45 (xx (sN (sq (bl (Rg (kx (mvO h42) (kx (mvO h41) (kx (mvO h43) (kx (ncP rfl) (kx (faP rfl ⟨ble rfl, blt rfl⟩ rfl) (kx (ixPA (c := (cI .i8)) (z := 0) (g := a1.Grain) rfl rfl hx47 (fun _ => rfl)) (kx (ldP rfl rfl) (kx (cvI rfl) (kx (bAdd rfl rfl) (kx (cvI rfl) (kx (litI (cns rfl rfl) rfl ⟨rfl, by decide⟩) (kx (cvB (elT (c := (cI .u8)) (xs := [(IntKind.u8.wrap (IntKind.i64.wrap (100 + (IntKind.i64.wrap x46))))]) rfl)) (kx (sAdd rfl rfl hx49) (kx (mvO rfl) (Rn (hA h41 (hN rfl (hA h43 hZ))) fun e50 h52 h53 h54 => bN (sN (Rg (kx (mvO h54) (kx (bAdd rfl rfl) (kx (mvO rfl) (Rn (hA h52 (hA h53 (hN rfl hZ))) fun e55 h57 h58 h59 => ?_))))))))))))))))))))))))))
  clear h41 h43 h44 h52 h53
  obtain rfl := si h
  exact qN ⟨h57, h58, h59⟩
 refine cF h44 hb45 (xx (sE ?_))
 obtain rfl := si h
 exact qE ⟨rfl, h41, h42⟩
abbrev spec_l01Text_b2_S := (List UInt8) × Int
abbrev spec_l01Text_b2_R := (List UInt8)
def spec_l01Text_b2_RS (a1 : Half) (s : spec_l01Text_b2_S) (e : Env) (M : Mem) : Prop := eget e 0 = .pt none (.bool a1.Stock :: (.sl none (a1.Notches.map Notch.c) :: ((arC (cI .i8) 0 a1.Grain) ++ ([] : List AV)))) ∧ eget e 3 = .str s.1 ∧ eget e 5 = .int .i64 s.2
def spec_l01Text_b2_RR (a1 : Half) (g : spec_l01Text_b2_R) (x : Ex) (e : Env) (M : Mem) : Prop := x = .ext 2 ∧ eget e 3 = .str g
noncomputable def spec_l01Text_b2 (a1 : Half) : spec_l01Text_b2_S → Option (spec_l01Text_b2_S ⊕ spec_l01Text_b2_R) := fun (s2_1, s2_2) =>
 if (decide (s2_2 < (a1.Notches.length : Int))) = true then
  (rd a1.Notches s2_2).bind fun x96 =>
  (spec_l01Letters).bind fun _ =>
  (slc ([100, 115, 108, 118, 99, 109] : List UInt8) x96.Kind (IntKind.i8.wrap (x96.Kind + 1))).bind fun x112 =>
  (sadd ([32] : List UInt8) x112).bind fun w114 =>
  (spec_Decimal (IntKind.i64.wrap x96.At)).bind fun r117 =>
  (sadd w114 r117).bind fun w118 =>
  (sadd s2_1 w118).bind fun w120 =>
  some (.inl (w120, (IntKind.i64.wrap (s2_2 + 1))))
 else
  some (.inr s2_1)
theorem spec_l01Text_b2_ok (a1 : Half) (s : spec_l01Text_b2_S) (r : spec_l01Text_b2_S ⊕ spec_l01Text_b2_R) (h : spec_l01Text_b2 a1 s = some r) (e : Env) (M : Mem) (hs : spec_l01Text_b2_RS a1 s e M) : Ev (fun k => (f100_l9 (CN k) k (prune [0, 3, 5] e) M).bind fun q => some q) (bQ (spec_l01Text_b2_RS a1) (spec_l01Text_b2_RR a1) r) := by
 obtain ⟨s2_1, s2_2⟩ := s
 unfold spec_l01Text_b2 at h
 obtain ⟨h83, h85, h87⟩ := hs
 generalize he82 : prune [0, 3, 5] e = e81
 have h84 := envp he82.symm rfl h83
 have h86 := envp he82.symm rfl h85
 have h88 := envp he82.symm rfl h87
 refine sq (sq (Rg (kx (mvO h88) (kx (mvO h84) (kx (ncP rfl) (kx (faP rfl ⟨ble rfl, blt rfl⟩ rfl) (kx (ldP rfl rfl) (kx (lnS Tryd.underlying54 rfl) (kx (bLss rfl rfl) (Rn (hV (.pt none (.bool a1.Stock :: (.sl none (a1.Notches.map Notch.c) :: ((arC (cI .i8) 0 a1.Grain) ++ ([] : List AV))))) h84 (hV (.str s2_1) h86 (hV (.int .i64 s2_2) h88 (hN rfl hZ)))) fun e89 h91 h92 h93 h94 => sN ?_))))))))))
 clear h84 h86 h88
 rcases ite_some h with ⟨hb95, h⟩ | ⟨hb95, h⟩
 ·obtain ⟨x96, hx97, h⟩ := bind_some h
  refine cT h94 hb95 (xx (sN (sq (bl (sq (Rg (kx (mvO h91) (kx (ncP rfl) (kx (faP rfl ⟨ble rfl, blt rfl⟩ rfl) (kx (ldP rfl rfl) (kx (mvO h93) (kx (ixS rfl rfl hx97 Notch.fl) (kx (ldPA rfl rfl rfl) (ku (alO zero156) fun M99 hM100 => ?_))))))))))))))
  have o101 : M99[M.length]? = some (.live ⟨.box, 156, 2, [[.int .i8 0, .int .i16 0]]⟩) := push_new hM100
  refine kw (stO rfl rfl o101 rfl rfl ⟨rfl, ble rfl⟩ rfl rfl) fun M102 hM103 => ?_
  have o104 : M102[M.length]? = some (.live ⟨.box, 156, 2, [[.int .i8 x96.Kind, .int .i16 x96.At]]⟩) := set_same hM103 o101
  obtain ⟨_, hx111, h⟩ := bind_some h
  obtain ⟨x112, hx113, h⟩ := bind_some h
  obtain ⟨w114, hx115, h⟩ := bind_some h
  obtain ⟨r117, hx116, h⟩ := bind_some h
  obtain ⟨w118, hx119, h⟩ := bind_some h
  obtain ⟨w120, hx121, h⟩ := bind_some h
  refine Rn (hA h91 (hA h92 (hA h93 (hV (.loc M.length 1 0 0) rfl hZ)))) fun e105 h107 h108 h109 h110 => sN (Rd (kf (mvO h108) (fc (cl (v := .str ([100, 115, 108, 118, 99, 109] : List UInt8)) rfl rfl rfl (spec_l01Letters_ok  _ hx111) nm) (kf (faO h110 o104 rfl) (kf (ldO rfl o104 rfl rfl rfl) (kf (faO h110 o104 rfl) (kf (ldO rfl o104 rfl rfl rfl) (kf (bAdd rfl rfl) (kf (ssl2 rfl (bnd1 rfl) (bnd1 rfl) hx113) (kf (sAdd rfl rfl hx115) (kf (faO h110 o104 rfl) (kf (ldO rfl o104 rfl rfl rfl) (kf (cvI rfl) (fc (cl (v := .str r117) rfl (cns rfl rfl) rfl (spec_Decimal_ok (IntKind.i64.wrap x96.At) _ hx116) nm) (kf (sAdd rfl rfl hx119) (kf (sAdd rfl rfl hx121) (kf (mvO rfl) (fZ (Rn (hA h107 (hN rfl (hA h109 hZ))) fun e122 h124 h125 h126 => bN (sN (Rg (kx (mvO h126) (kx (bAdd rfl rfl) (kx (mvO rfl) (Rn (hA h124 (hA h125 (hN rfl hZ))) fun e127 h129 h130 h131 => ?_)))))))))))))))))))))))))
  clear h91 h92 h93 h94 h107 h109 h110 h124 h125
  obtain rfl := si h
  exact qN ⟨h129, h130, h131⟩
 refine cF h94 hb95 (xx (sE ?_))
 obtain rfl := si h
 exact qE ⟨rfl, h92⟩
abbrev spec_l01Text_b3_S := (List UInt8) × Int
abbrev spec_l01Text_b3_R := (List UInt8)
def spec_l01Text_b3_RS (a1 : Half) (s : spec_l01Text_b3_S) (e : Env) (M : Mem) : Prop := eget e 0 = .pt none (.bool a1.Stock :: (.sl none (a1.Notches.map Notch.c) :: ((arC (cI .i8) 0 a1.Grain) ++ ([] : List AV)))) ∧ eget e 3 = .str s.1 ∧ eget e 4 = .int .i64 s.2
def spec_l01Text_b3_RR (a1 : Half) (g : spec_l01Text_b3_R) (x : Ex) (e : Env) (M : Mem) : Prop := x = .ext 0 ∧ eget e 0 = .pt none (.bool a1.Stock :: (.sl none (a1.Notches.map Notch.c) :: ((arC (cI .i8) 0 a1.Grain) ++ ([] : List AV)))) ∧ eget e 3 = .str g
noncomputable def spec_l01Text_b3 (a1 : Half) : spec_l01Text_b3_S → Option (spec_l01Text_b3_S ⊕ spec_l01Text_b3_R) := fun (s3_1, s3_2) =>
 if (decide (s3_2 < 16)) = true then
  (rdA a1.Grain s3_2).bind fun x170 =>
  (sadd s3_1 (toB [(IntKind.u8.wrap (IntKind.i64.wrap (100 + (IntKind.i64.wrap x170))))])).bind fun w172 =>
  some (.inl (w172, (IntKind.i64.wrap (s3_2 + 1))))
 else
  some (.inr s3_1)
theorem spec_l01Text_b3_ok (a1 : Half) (s : spec_l01Text_b3_S) (r : spec_l01Text_b3_S ⊕ spec_l01Text_b3_R) (h : spec_l01Text_b3 a1 s = some r) (e : Env) (M : Mem) (hs : spec_l01Text_b3_RS a1 s e M) : Ev (fun k => (f100_l5 (CN k) k (prune [0, 3, 4] e) M).bind fun q => some q) (bQ (spec_l01Text_b3_RS a1) (spec_l01Text_b3_RR a1) r) := by
 obtain ⟨s3_1, s3_2⟩ := s
 unfold spec_l01Text_b3 at h
 obtain ⟨h157, h159, h161⟩ := hs
 generalize he156 : prune [0, 3, 4] e = e155
 have h158 := envp he156.symm rfl h157
 have h160 := envp he156.symm rfl h159
 have h162 := envp he156.symm rfl h161
 refine sq (sq (Rg (kx (mvO h162) (kx (bLss rfl rfl) (Rn (hV (.pt none (.bool a1.Stock :: (.sl none (a1.Notches.map Notch.c) :: ((arC (cI .i8) 0 a1.Grain) ++ ([] : List AV))))) h158 (hV (.str s3_1) h160 (hV (.int .i64 s3_2) h162 (hN rfl hZ)))) fun e163 h165 h166 h167 h168 => sN ?_)))))
 clear h158 h160 h162
 rcases ite_some h with ⟨hb169, h⟩ | ⟨hb169, h⟩
 ·obtain ⟨x170, hx171, h⟩ := bind_some h
  obtain ⟨w172, hx173, h⟩ := bind_some h
  refine cT h168 hb169 (xx (sN (sq (bl (Rg (kx (mvO h166) (kx (mvO h165) (kx (mvO h167) (kx (ncP rfl) (kx (faP rfl ⟨ble rfl, blt rfl⟩ rfl) (kx (ixPA (c := (cI .i8)) (z := 0) (g := a1.Grain) rfl rfl hx171 (fun _ => rfl)) (kx (ldP rfl rfl) (kx (cvI rfl) (kx (bAdd rfl rfl) (kx (cvI rfl) (kx (litI (cns rfl rfl) rfl ⟨rfl, by decide⟩) (kx (cvB (elT (c := (cI .u8)) (xs := [(IntKind.u8.wrap (IntKind.i64.wrap (100 + (IntKind.i64.wrap x170))))]) rfl)) (kx (sAdd rfl rfl hx173) (kx (mvO rfl) (Rn (hA h165 (hN rfl (hA h167 hZ))) fun e174 h176 h177 h178 => bN (sN (Rg (kx (mvO h178) (kx (bAdd rfl rfl) (kx (mvO rfl) (Rn (hA h176 (hA h177 (hN rfl hZ))) fun e179 h181 h182 h183 => ?_))))))))))))))))))))))))))
  clear h165 h167 h168 h176 h177
  obtain rfl := si h
  exact qN ⟨h181, h182, h183⟩
 refine cF h168 hb169 (xx (sE ?_))
 obtain rfl := si h
 exact qE ⟨rfl, h165, h166⟩
abbrev spec_l01Text_b4_S := (List UInt8) × Int
abbrev spec_l01Text_b4_R := (List UInt8)
def spec_l01Text_b4_RS (a1 : Half) (s : spec_l01Text_b4_S) (e : Env) (M : Mem) : Prop := eget e 0 = .pt none (.bool a1.Stock :: (.sl none (a1.Notches.map Notch.c) :: ((arC (cI .i8) 0 a1.Grain) ++ ([] : List AV)))) ∧ eget e 3 = .str s.1 ∧ eget e 5 = .int .i64 s.2
def spec_l01Text_b4_RR (a1 : Half) (g : spec_l01Text_b4_R) (x : Ex) (e : Env) (M : Mem) : Prop := x = .ext 2 ∧ eget e 3 = .str g
noncomputable def spec_l01Text_b4 (a1 : Half) : spec_l01Text_b4_S → Option (spec_l01Text_b4_S ⊕ spec_l01Text_b4_R) := fun (s4_1, s4_2) =>
 if (decide (s4_2 < (a1.Notches.length : Int))) = true then
  (rd a1.Notches s4_2).bind fun x220 =>
  (spec_l01Letters).bind fun _ =>
  (slc ([100, 115, 108, 118, 99, 109] : List UInt8) x220.Kind (IntKind.i8.wrap (x220.Kind + 1))).bind fun x236 =>
  (sadd ([32] : List UInt8) x236).bind fun w238 =>
  (spec_Decimal (IntKind.i64.wrap x220.At)).bind fun r241 =>
  (sadd w238 r241).bind fun w242 =>
  (sadd s4_1 w242).bind fun w244 =>
  some (.inl (w244, (IntKind.i64.wrap (s4_2 + 1))))
 else
  some (.inr s4_1)
theorem spec_l01Text_b4_ok (a1 : Half) (s : spec_l01Text_b4_S) (r : spec_l01Text_b4_S ⊕ spec_l01Text_b4_R) (h : spec_l01Text_b4 a1 s = some r) (e : Env) (M : Mem) (hs : spec_l01Text_b4_RS a1 s e M) : Ev (fun k => (f100_l9 (CN k) k (prune [0, 3, 5] e) M).bind fun q => some q) (bQ (spec_l01Text_b4_RS a1) (spec_l01Text_b4_RR a1) r) := by
 obtain ⟨s4_1, s4_2⟩ := s
 unfold spec_l01Text_b4 at h
 obtain ⟨h207, h209, h211⟩ := hs
 generalize he206 : prune [0, 3, 5] e = e205
 have h208 := envp he206.symm rfl h207
 have h210 := envp he206.symm rfl h209
 have h212 := envp he206.symm rfl h211
 refine sq (sq (Rg (kx (mvO h212) (kx (mvO h208) (kx (ncP rfl) (kx (faP rfl ⟨ble rfl, blt rfl⟩ rfl) (kx (ldP rfl rfl) (kx (lnS Tryd.underlying54 rfl) (kx (bLss rfl rfl) (Rn (hV (.pt none (.bool a1.Stock :: (.sl none (a1.Notches.map Notch.c) :: ((arC (cI .i8) 0 a1.Grain) ++ ([] : List AV))))) h208 (hV (.str s4_1) h210 (hV (.int .i64 s4_2) h212 (hN rfl hZ)))) fun e213 h215 h216 h217 h218 => sN ?_))))))))))
 clear h208 h210 h212
 rcases ite_some h with ⟨hb219, h⟩ | ⟨hb219, h⟩
 ·obtain ⟨x220, hx221, h⟩ := bind_some h
  refine cT h218 hb219 (xx (sN (sq (bl (sq (Rg (kx (mvO h215) (kx (ncP rfl) (kx (faP rfl ⟨ble rfl, blt rfl⟩ rfl) (kx (ldP rfl rfl) (kx (mvO h217) (kx (ixS rfl rfl hx221 Notch.fl) (kx (ldPA rfl rfl rfl) (ku (alO zero156) fun M223 hM224 => ?_))))))))))))))
  have o225 : M223[M.length]? = some (.live ⟨.box, 156, 2, [[.int .i8 0, .int .i16 0]]⟩) := push_new hM224
  refine kw (stO rfl rfl o225 rfl rfl ⟨rfl, ble rfl⟩ rfl rfl) fun M226 hM227 => ?_
  have o228 : M226[M.length]? = some (.live ⟨.box, 156, 2, [[.int .i8 x220.Kind, .int .i16 x220.At]]⟩) := set_same hM227 o225
  obtain ⟨_, hx235, h⟩ := bind_some h
  obtain ⟨x236, hx237, h⟩ := bind_some h
  obtain ⟨w238, hx239, h⟩ := bind_some h
  obtain ⟨r241, hx240, h⟩ := bind_some h
  obtain ⟨w242, hx243, h⟩ := bind_some h
  obtain ⟨w244, hx245, h⟩ := bind_some h
  refine Rn (hA h215 (hA h216 (hA h217 (hV (.loc M.length 1 0 0) rfl hZ)))) fun e229 h231 h232 h233 h234 => sN (Rd (kf (mvO h232) (fc (cl (v := .str ([100, 115, 108, 118, 99, 109] : List UInt8)) rfl rfl rfl (spec_l01Letters_ok  _ hx235) nm) (kf (faO h234 o228 rfl) (kf (ldO rfl o228 rfl rfl rfl) (kf (faO h234 o228 rfl) (kf (ldO rfl o228 rfl rfl rfl) (kf (bAdd rfl rfl) (kf (ssl2 rfl (bnd1 rfl) (bnd1 rfl) hx237) (kf (sAdd rfl rfl hx239) (kf (faO h234 o228 rfl) (kf (ldO rfl o228 rfl rfl rfl) (kf (cvI rfl) (fc (cl (v := .str r241) rfl (cns rfl rfl) rfl (spec_Decimal_ok (IntKind.i64.wrap x220.At) _ hx240) nm) (kf (sAdd rfl rfl hx243) (kf (sAdd rfl rfl hx245) (kf (mvO rfl) (fZ (Rn (hA h231 (hN rfl (hA h233 hZ))) fun e246 h248 h249 h250 => bN (sN (Rg (kx (mvO h250) (kx (bAdd rfl rfl) (kx (mvO rfl) (Rn (hA h248 (hA h249 (hN rfl hZ))) fun e251 h253 h254 h255 => ?_)))))))))))))))))))))))))
  clear h215 h216 h217 h218 h231 h233 h234 h248 h249
  obtain rfl := si h
  exact qN ⟨h253, h254, h255⟩
 refine cF h218 hb219 (xx (sE ?_))
 obtain rfl := si h
 exact qE ⟨rfl, h216⟩
noncomputable def spec_l01Text (a1 : Half) : Option ((List UInt8)) :=
 if a1.Stock = true then
  (Lw (spec_l01Text_b1 a1) (([115, 116, 111, 99, 107, 32] : List UInt8), 0)).bind fun y65 =>
  (Lw (spec_l01Text_b2 a1) (y65, 0)).bind fun y137 =>
  some y137
 else
  (Lw (spec_l01Text_b3 a1) (([102, 111, 105, 108, 32] : List UInt8), 0)).bind fun y189 =>
  (Lw (spec_l01Text_b4 a1) (y189, 0)).bind fun y261 =>
  some y261
def spec_l01Text_enc (r : (List UInt8)) : AV := .str r
theorem spec_l01Text_ok (a1 : Half) (r : (List UInt8)) (h : spec_l01Text a1 = some r) : Ev (fun k => CN k 100 [.pt none (.bool a1.Stock :: (.sl none (a1.Notches.map Notch.c) :: ((arC (cI .i8) 0 a1.Grain) ++ ([] : List AV))))] []) (fun p => rRes p.2 p.1 = spec_l01Text_enc r) := by
 unfold spec_l01Text at h
 refine Ev.enter (F := fun k => f100 (CN k) k) (fun k => callN_eq rfl Tryd.func100 rfl rfl rfl (by decide +kernel) (f100_eq _ _)) (sq (Rg (kx (mvO rfl) (Rn (hN rfl hZ) fun e1 h3 => sN (sq (Rg (kx (mvO rfl) (Rn (hA h3 (hN rfl hZ)) fun e4 h6 h7 => sN (sq (sq (Rg (kx (mvO h6) (kx (ncP rfl) (kx (faP rfl ⟨ble rfl, blt rfl⟩ rfl) (kx (ldP rfl rfl) (Rn (hA h6 (hA h7 (hN rfl hZ))) fun e8 h10 h11 h12 => sN ?_))))))))))))))))
 clear h3 h6 h7
 rcases ite_some h with ⟨hb13, h⟩ | ⟨hb13, h⟩
 ·obtain ⟨y65, hr61, h⟩ := bind_some h
  refine cT h12 hb13 (Rg (kx (mvO rfl) (Rn (hA h10 (hN rfl hZ)) fun e14 h16 h17 => sN (sq (sq (Rg (kx (mvO rfl) (Rn (hA h16 (hA h17 (hV (.int .i64 0) rfl hZ))) fun e18 h20 h21 h22 => sN (bl (Ev.loop (RS := spec_l01Text_b1_RS a1) (RR := spec_l01Text_b1_RR a1) (fun s r h e M hs => spec_l01Text_b1_ok a1 s r h e M hs) hr61 ⟨h20, h21, h22⟩ fun x e63 M64 hq62 => ?_))))))))))
  clear h10 h12 h16 h17
  obtain ⟨rfl, h66, h67⟩ := hq62
  obtain ⟨y137, hr133, h⟩ := bind_some h
  refine bE (sN (sq (sq (Rg (kx (mvO rfl) (Rn (hV (.pt none (.bool a1.Stock :: (.sl none (a1.Notches.map Notch.c) :: ((arC (cI .i8) 0 a1.Grain) ++ ([] : List AV))))) h66 (hV (.str y65) h67 (hV (.int .i64 0) rfl hZ))) fun e68 h70 h71 h72 => sN (bl (Ev.loop (RS := spec_l01Text_b2_RS a1) (RR := spec_l01Text_b2_RR a1) (fun s r h e M hs => spec_l01Text_b2_ok a1 s r h e M hs) hr133 ⟨h70, h71, h72⟩ fun x e135 M136 hq134 => ?_))))))))
  clear h66 h67
  obtain ⟨rfl, h138⟩ := hq134
  refine bE (sN (sq (Rg (kx (mvO h138) (kx (mvO rfl) (Rn (hN rfl hZ) fun e139 h141 => sN (xx ?_)))))))
  clear h138
  obtain rfl := si h
  exact eR (resT h141 res0) rfl
 obtain ⟨y189, hr185, h⟩ := bind_some h
 refine cF h12 hb13 (xx (sN (sq (sq (Rg (kx (mvO rfl) (Rn (hA h10 (hA h11 (hV (.int .i64 0) rfl hZ))) fun e142 h144 h145 h146 => sN (bl (Ev.loop (RS := spec_l01Text_b3_RS a1) (RR := spec_l01Text_b3_RR a1) (fun s r h e M hs => spec_l01Text_b3_ok a1 s r h e M hs) hr185 ⟨h144, h145, h146⟩ fun x e187 M188 hq186 => ?_)))))))))
 clear h10 h11 h12
 obtain ⟨rfl, h190, h191⟩ := hq186
 obtain ⟨y261, hr257, h⟩ := bind_some h
 refine bE (sN (sq (sq (Rg (kx (mvO rfl) (Rn (hV (.pt none (.bool a1.Stock :: (.sl none (a1.Notches.map Notch.c) :: ((arC (cI .i8) 0 a1.Grain) ++ ([] : List AV))))) h190 (hV (.str y189) h191 (hV (.int .i64 0) rfl hZ))) fun e192 h194 h195 h196 => sN (bl (Ev.loop (RS := spec_l01Text_b4_RS a1) (RR := spec_l01Text_b4_RR a1) (fun s r h e M hs => spec_l01Text_b4_ok a1 s r h e M hs) hr257 ⟨h194, h195, h196⟩ fun x e259 M260 hq258 => ?_))))))))
 clear h190 h191
 obtain ⟨rfl, h262⟩ := hq258
 refine bE (sN (sq (Rg (kx (mvO h262) (kx (mvO rfl) (Rn (hN rfl hZ) fun e263 h265 => sN (xx ?_)))))))
 clear h262
 obtain rfl := si h
 exact eR (resT h265 res0) rfl
/-! ### loop.example/g01263/spec.l01Ok (f99) -/
noncomputable def spec_l01Ok (a1 : Half) : Option Bool :=
 (spec_l01Notches a1.Notches).bind fun r5 =>
 if r5 = true then
  (spec_l01Grain a1.Grain).bind fun r8 =>
  some r8
 else
  some false
def spec_l01Ok_enc (r : Bool) : AV := .bool r
theorem spec_l01Ok_ok (a1 : Half) (r : Bool) (h : spec_l01Ok a1 = some r) : Ev (fun k => CN k 99 [.pt none (.bool a1.Stock :: (.sl none (a1.Notches.map Notch.c) :: ((arC (cI .i8) 0 a1.Grain) ++ ([] : List AV))))] []) (fun p => rRes p.2 p.1 = spec_l01Ok_enc r) := by
 unfold spec_l01Ok at h
 obtain ⟨r5, hx4, h⟩ := bind_some h
 refine Ev.enter (F := fun k => f99 (CN k) k) (fun k => callN_eq rfl Tryd.func99 rfl rfl rfl (by decide +kernel) (f99_eq _ _)) (sq (Rg (kx (mvO rfl) (Rn (hN rfl hZ) fun e1 h3 => sN (sq (Rg (kx (mvO h3) (kx (ncP rfl) (kx (faP rfl ⟨ble rfl, blt rfl⟩ rfl) (kx (ldP rfl rfl) (kc (cl (v := .bool r5) rfl (cns rfl rfl) rfl (spec_l01Notches_ok a1.Notches _ hx4) nm) (kx (mvO rfl) ?_))))))))))))
 rcases ite_some h with ⟨hb6, h⟩ | ⟨hb6, h⟩
 ·obtain ⟨r8, hx7, h⟩ := bind_some h
  refine kx (guT rfl hb6 (mvO h3)) (kx (guT rfl hb6 (ncP rfl)) (kx (guT rfl hb6 (faP rfl ⟨ble rfl, blt rfl⟩ rfl)) (kx (guT rfl hb6 (ldPA rfl rfl rfl)) (kc (Ev.guT rfl hb6 (cl (v := .bool r8) rfl (cns rfl rfl) rfl (spec_l01Grain_ok a1.Grain _ hx7) nm)) (kx (pkT rfl hb6 rfl) (kx (mvO rfl) (Rn (hN rfl hZ) fun e9 h11 => sN (xx ?_))))))))
  clear h3
  obtain rfl := si h
  exact eR (resT h11 res0) rfl
 refine kx (gsT rfl hb6) (kx (gsT rfl hb6) (kx (gsT rfl hb6) (kx (gsT rfl hb6) (kc (Ev.gsT rfl hb6) (kx (pkF rfl hb6 rfl) (kx (mvO rfl) (Rn (hV (.bool false) rfl hZ) fun e12 h14 => sN (xx ?_))))))))
 clear h3
 obtain rfl := si h
 exact eR (resT h14 res0) rfl
/-! ### loop.example/g01263/spec.l06Name (f98) -/
abbrev spec_l06Name_b1_S := Int
abbrev spec_l06Name_b1_R := Unit ⊕ Unit
def spec_l06Name_b1_RS (a1 : List UInt8) (s : spec_l06Name_b1_S) (e : Env) (M : Mem) : Prop := eget e 0 = .str a1 ∧ eget e 3 = .int .i64 s
def spec_l06Name_b1_RR (a1 : List UInt8) (r : spec_l06Name_b1_R) (x : Ex) (e : Env) (M : Mem) : Prop :=
  match r with
  | (.inl g) => x = .ret ∧ eget e 2 = .bool false
  | (.inr g) => x = .ext 0 ∧ eget e 0 = .str a1
noncomputable def spec_l06Name_b1 (a1 : List UInt8) : spec_l06Name_b1_S → Option (spec_l06Name_b1_S ⊕ spec_l06Name_b1_R) := fun s1_1 =>
 if (decide (s1_1 < (a1.length : Int))) = true then
  (rd a1 s1_1).bind fun x26 =>
  if (decide ((x26.toNat : Int) < 97)) = true then
   some (.inr (.inl ()))
  else
   (rd a1 s1_1).bind fun x37 =>
   if (decide ((x37.toNat : Int) > 122)) = true then
    some (.inr (.inl ()))
   else
    some (.inl (IntKind.i64.wrap (s1_1 + 1)))
 else
  some (.inr (.inr ()))
theorem spec_l06Name_b1_ok (a1 : List UInt8) (s : spec_l06Name_b1_S) (r : spec_l06Name_b1_S ⊕ spec_l06Name_b1_R) (h : spec_l06Name_b1 a1 s = some r) (e : Env) (M : Mem) (hs : spec_l06Name_b1_RS a1 s e M) : Ev (fun k => (f98_l2 (CN k) k (prune [0, 3] e) M).bind fun q => some q) (bQ (spec_l06Name_b1_RS a1) (spec_l06Name_b1_RR a1) r) := by
 revert h hs
 revert s
 intro s1_1 h hs
 unfold spec_l06Name_b1 at h
 obtain ⟨h16, h18⟩ := hs
 generalize he15 : prune [0, 3] e = e14
 have h17 := envp he15.symm rfl h16
 have h19 := envp he15.symm rfl h18
 refine sq (sq (Rg (kx (mvO h19) (kx (mvO h17) (kx (lnB Tryd.underlying9 rfl) (kx (bLss rfl rfl) (Rn (hV (.str a1) h17 (hV (.int .i64 s1_1) h19 (hN rfl hZ))) fun e20 h22 h23 h24 => sN ?_)))))))
 clear h17 h19
 rcases ite_some h with ⟨hb25, h⟩ | ⟨hb25, h⟩
 ·obtain ⟨x26, hx27, h⟩ := bind_some h
  refine cT h24 hb25 (xx (sN (sq (bl (sq (Rg (kx (mvO h22) (kx (mvO h23) (kx (ixB rfl rfl hx27) (kx (bLss rfl rfl) (kx (mvO rfl) ?_)))))))))))
  rcases ite_some h with ⟨hb28, h⟩ | ⟨hb28, h⟩
  ·refine kx (gsF rfl hb28) (kx (gsF rfl hb28) (kx (gsF rfl hb28) (kx (gsF rfl hb28) (kx (pkT rfl hb28 rfl) (Rn (hA h22 (hA h23 (hV (.bool true) rfl hZ))) fun e29 h31 h32 h33 => sN (cT h33 rfl (sq (Rg (kx (mvO rfl) (Rn (hV (.bool false) rfl hZ) fun e34 h36 => sN (xx (bR (sR ?_)))))))))))))
   clear h22 h23 h24 h31 h32 h33
   obtain rfl := si h
   exact qR ⟨rfl, h36⟩
  obtain ⟨x37, hx38, h⟩ := bind_some h
  refine kx (guF rfl hb28 (mvO h22)) (kx (guF rfl hb28 (mvO h23)) (kx (guF rfl hb28 (ixB rfl rfl hx38)) (kx (guF rfl hb28 (bGtr rfl rfl)) (kx (pkF rfl hb28 rfl) (Rn (hA h22 (hA h23 (hN rfl hZ))) fun e39 h41 h42 h43 => sN ?_)))))
  clear h22 h23 h24
  rcases ite_some h with ⟨hb44, h⟩ | ⟨hb44, h⟩
  ·refine cT h43 hb44 (sq (Rg (kx (mvO rfl) (Rn (hV (.bool false) rfl hZ) fun e45 h47 => sN (xx (bR (sR ?_)))))))
   clear h41 h42 h43
   obtain rfl := si h
   exact qR ⟨rfl, h47⟩
  refine cF h43 hb44 (xx (bN (sN (Rg (kx (mvO h42) (kx (bAdd rfl rfl) (kx (mvO rfl) (Rn (hA h41 (hN rfl hZ)) fun e48 h50 h51 => ?_))))))))
  clear h41 h43
  obtain rfl := si h
  exact qN ⟨h50, h51⟩
 refine cF h24 hb25 (xx (sE ?_))
 obtain rfl := si h
 exact qE ⟨rfl, h22⟩
noncomputable def spec_l06Name (a1 : List UInt8) : Option Bool :=
 (Lw (spec_l06Name_b1 a1) 0).bind fun r => match r with
 | (.inl _) =>
  some false
 | (.inr _) =>
  if (a1 == ([] : List UInt8)) = true then
   some false
  else
   some (decide ((a1.length : Int) ≤ 12))
def spec_l06Name_enc (r : Bool) : AV := .bool r
theorem spec_l06Name_ok (a1 : List UInt8) (r : Bool) (h : spec_l06Name a1 = some r) : Ev (fun k => CN k 98 [.str a1] []) (fun p => rRes p.2 p.1 = spec_l06Name_enc r) := by
 unfold spec_l06Name at h
 obtain ⟨r52, hr53, h⟩ := bind_some h
 refine Ev.enter (F := fun k => f98 (CN k) k) (fun k => callN_eq rfl Tryd.func98 rfl rfl rfl (by decide +kernel) (f98_eq _ _)) (sq (Rg (kx (mvO rfl) (Rn (hN rfl hZ) fun e1 h3 => sN (sq (sq (Rg (kx (mvO rfl) (Rn (hA h3 (hV (.int .i64 0) rfl hZ)) fun e4 h6 h7 => sN (bl ?_))))))))))
 clear h3
 rcases r52 with _ | _
 ·refine Ev.loop (RS := spec_l06Name_b1_RS a1) (RR := spec_l06Name_b1_RR a1) (fun s r h e M hs => spec_l06Name_b1_ok a1 s r h e M hs) hr53 ⟨h6, h7⟩ fun x e55 M56 hq54 => ?_
  obtain ⟨rfl, h57⟩ := hq54
  refine bR (sR ?_)
  obtain rfl := si h
  exact eR (resT h57 res0) rfl
 refine Ev.loop (RS := spec_l06Name_b1_RS a1) (RR := spec_l06Name_b1_RR a1) (fun s r h e M hs => spec_l06Name_b1_ok a1 s r h e M hs) hr53 ⟨h6, h7⟩ fun x e58 M59 hq54 => ?_
 obtain ⟨rfl, h60⟩ := hq54
 refine bE (sN (sq (Rg (kx (mvO h60) (kx (sNeq rfl rfl) (kx (mvO rfl) ?_))))))
 rcases ite_some h with ⟨hb61, h⟩ | ⟨hb61, h⟩
 ·refine kx (gsT rfl (congrArg Bool.not hb61)) (kx (gsT rfl (congrArg Bool.not hb61)) (kx (gsT rfl (congrArg Bool.not hb61)) (kx (pkF rfl (congrArg Bool.not hb61) rfl) (kx (mvO rfl) (Rn (hV (.bool false) rfl hZ) fun e62 h64 => sN (xx ?_))))))
  clear h60
  obtain rfl := si h
  exact eR (resT h64 res0) rfl
 refine kx (guT rfl (congrArg Bool.not hb61) (mvO h60)) (kx (guT rfl (congrArg Bool.not hb61) (lnB Tryd.underlying9 rfl)) (kx (guT rfl (congrArg Bool.not hb61) (bLeq rfl rfl)) (kx (pkT rfl (congrArg Bool.not hb61) rfl) (kx (mvO rfl) (Rn (hN rfl hZ) fun e65 h67 => sN (xx ?_))))))
 clear h60
 obtain rfl := si h
 exact eR (resT h67 res0) rfl
/-! ### loop.example/g01263/laws.szMark (f97) -/
noncomputable def laws_szMark (a1 : Mark) (a2 : Int) : Option Int :=
 if (decide ((IntKind.i64.wrap (a2 - (a1.Holder.length : Int))) < 0)) = true then
  some (-1)
 else
  some (IntKind.i64.wrap (a2 - (a1.Holder.length : Int)))
def laws_szMark_enc (r : Int) : AV := .int .i64 r
theorem laws_szMark_ok (a1 : Mark) (a2 : Int) (r : Int) (h : laws_szMark a1 a2 = some r) : Ev (fun k => CN k 97 [.agg [.str a1.Holder, .int .u32 a1.Seal], .int .i64 a2] []) (fun p => rRes p.2 p.1 = laws_szMark_enc r) := by
 unfold laws_szMark at h
 refine Ev.enter (F := fun k => f97 (CN k) k) (fun k => callN_eq rfl Tryd.func97 rfl rfl rfl (by decide +kernel) (f97_eq _ _)) (sq (Rg (kx (bxI rfl rfl ⟨rfl, rfl, by decide⟩) (kx (mvO rfl) (Rn (hN rfl (hN rfl hZ)) fun e1 h3 h4 => sN (sq (Rg (kx (mvO h3) (kx (faP h4 ⟨ble rfl, blt rfl⟩ rfl) (kx (ldP rfl rfl) (kx (lnB Tryd.underlying9 rfl) (kx (bSub rfl rfl) (kx (mvO rfl) (Rn (hN rfl hZ) fun e5 h7 => sN (sq (sq (Rg (kx (mvO h7) (kx (bLss rfl rfl) (Rn (hA h7 (hN rfl hZ)) fun e8 h10 h11 => sN ?_))))))))))))))))))))
 clear h4 h7
 rcases ite_some h with ⟨hb12, h⟩ | ⟨hb12, h⟩
 ·refine cT h11 hb12 (sq (Rg (kx (mvO rfl) (Rn (hV (.int .i64 (-1)) rfl hZ) fun e13 h15 => sN (xx (sR ?_))))))
  clear h10 h11
  obtain rfl := si h
  exact eR (resT h15 res0) rfl
 refine cF h11 hb12 (xx (sN (sq (Rg (kx (mvO h10) (kx (mvO rfl) (Rn (hN rfl hZ) fun e16 h18 => sN (xx ?_))))))))
 clear h10 h11
 obtain rfl := si h
 exact eR (resT h18 res0) rfl
/-! ### loop.example/g01263/laws.szNotchS (f96) -/
noncomputable def laws_szNotchS (a1 : List Notch) (a2 : Int) : Option Int :=
 if (decide ((IntKind.i64.wrap (a2 - (a1.length : Int))) < 0)) = true then
  some (-1)
 else
  some (IntKind.i64.wrap (a2 - (a1.length : Int)))
def laws_szNotchS_enc (r : Int) : AV := .int .i64 r
theorem laws_szNotchS_ok (a1 : List Notch) (a2 : Int) (r : Int) (h : laws_szNotchS a1 a2 = some r) : Ev (fun k => CN k 96 [.sl none (a1.map Notch.c), .int .i64 a2] []) (fun p => rRes p.2 p.1 = laws_szNotchS_enc r) := by
 unfold laws_szNotchS at h
 refine Ev.enter (F := fun k => f96 (CN k) k) (fun k => callN_eq rfl Tryd.func96 rfl rfl rfl (by decide +kernel) (f96_eq _ _)) (sq (Rg (kx (mvO rfl) (Rn (hN rfl (hN rfl hZ)) fun e1 h3 h4 => sN (sq (Rg (kx (mvO h4) (kx (mvO h3) (kx (lnS Tryd.underlying44 rfl) (kx (bSub rfl rfl) (kx (mvO rfl) (Rn (hN rfl hZ) fun e5 h7 => sN (sq (sq (Rg (kx (mvO h7) (kx (bLss rfl rfl) (Rn (hA h7 (hN rfl hZ)) fun e8 h10 h11 => sN ?_))))))))))))))))))
 clear h3 h7
 rcases ite_some h with ⟨hb12, h⟩ | ⟨hb12, h⟩
 ·refine cT h11 hb12 (sq (Rg (kx (mvO rfl) (Rn (hV (.int .i64 (-1)) rfl hZ) fun e13 h15 => sN (xx (sR ?_))))))
  clear h10 h11
  obtain rfl := si h
  exact eR (resT h15 res0) rfl
 refine cF h11 hb12 (xx (sN (sq (Rg (kx (mvO h10) (kx (mvO rfl) (Rn (hN rfl hZ) fun e16 h18 => sN (xx ?_))))))))
 clear h10 h11
 obtain rfl := si h
 exact eR (resT h18 res0) rfl
/-! ### strconv.FormatInt (f133), by its contract -/
noncomputable def strconv_FormatInt (a1 : Int) (a2 : Int) : Option ((List UInt8)) := fmtI a1 a2
def strconv_FormatInt_enc (r : (List UInt8)) : AV := .str r
theorem strconv_FormatInt_ok (a1 : Int) (a2 : Int) (r : (List UInt8)) (h : strconv_FormatInt a1 a2 = some r) : Ev (fun k => CN k 133 [.int .i64 a1, .int .i64 a2] []) (fun p => rRes p.2 p.1 = strconv_FormatInt_enc r) := Ev.lib rfl rfl (lib_fmt h) rfl
/-! ### loop.example/g01263/impl.decimal (f90) -/
noncomputable def impl_decimal (a1 : Int) : Option ((List UInt8)) :=
 (strconv_FormatInt a1 10).bind fun r5 =>
 some r5
def impl_decimal_enc (r : (List UInt8)) : AV := .str r
theorem impl_decimal_ok (a1 : Int) (r : (List UInt8)) (h : impl_decimal a1 = some r) : Ev (fun k => CN k 90 [.int .i64 a1] []) (fun p => rRes p.2 p.1 = impl_decimal_enc r) := by
 unfold impl_decimal at h
 obtain ⟨r5, hx4, h⟩ := bind_some h
 refine Ev.enter (F := fun k => f90 (CN k) k) (fun k => callN_eq rfl Tryd.func90 rfl rfl rfl (by decide +kernel) (f90_eq _ _)) (sq (Rg (kx (mvO rfl) (Rn (hN rfl hZ) fun e1 h3 => sN (sq (Rg (kx (mvO h3) (kc (cl (v := .str r5) rfl (cns rfl (cns rfl rfl)) rfl (strconv_FormatInt_ok a1 10 _ hx4) nm) (kx (mvO rfl) (Rn (hN rfl hZ) fun e6 h8 => sN (xx ?_)))))))))))
 clear h3
 obtain rfl := si h
 exact eR (resT h8 res0) rfl
/-! ### loop.example/g01263/laws.eqMarkS (f64) -/
abbrev laws_eqMarkS_b1_S := Int
abbrev laws_eqMarkS_b1_R := Unit ⊕ Unit
def laws_eqMarkS_b1_RS (a1 : List Mark) (a2 : List Mark) (s : laws_eqMarkS_b1_S) (e : Env) (M : Mem) : Prop := eget e 0 = .sl none (a1.map Mark.c) ∧ eget e 1 = .sl none (a2.map Mark.c) ∧ eget e 5 = .int .i64 s
def laws_eqMarkS_b1_RR (a1 : List Mark) (a2 : List Mark) (r : laws_eqMarkS_b1_R) (x : Ex) (e : Env) (M : Mem) : Prop :=
  match r with
  | (.inl g) => x = .ret ∧ eget e 4 = .bool false
  | (.inr g) => x = .ext 0 ∧ True
noncomputable def laws_eqMarkS_b1 (a1 : List Mark) (a2 : List Mark) : laws_eqMarkS_b1_S → Option (laws_eqMarkS_b1_S ⊕ laws_eqMarkS_b1_R) := fun s1_1 =>
 if (decide (s1_1 < (a1.length : Int))) = true then
  (rd a1 s1_1).bind fun x42 =>
  (rd a2 s1_1).bind fun x44 =>
  (laws_eqMark x42 x44).bind fun r47 =>
  if r47 = true then
   some (.inl (IntKind.i64.wrap (s1_1 + 1)))
  else
   some (.inr (.inl ()))
 else
  some (.inr (.inr ()))
theorem laws_eqMarkS_b1_ok (a1 : List Mark) (a2 : List Mark) (s : laws_eqMarkS_b1_S) (r : laws_eqMarkS_b1_S ⊕ laws_eqMarkS_b1_R) (h : laws_eqMarkS_b1 a1 a2 s = some r) (e : Env) (M : Mem) (hs : laws_eqMarkS_b1_RS a1 a2 s e M) : Ev (fun k => (f64_l4 (CN k) k (prune [0, 1, 5] e) M).bind fun q => some q) (bQ (laws_eqMarkS_b1_RS a1 a2) (laws_eqMarkS_b1_RR a1 a2) r) := by
 revert h hs
 revert s
 intro s1_1 h hs
 unfold laws_eqMarkS_b1 at h
 obtain ⟨h29, h31, h33⟩ := hs
 generalize he28 : prune [0, 1, 5] e = e27
 have h30 := envp he28.symm rfl h29
 have h32 := envp he28.symm rfl h31
 have h34 := envp he28.symm rfl h33
 refine sq (sq (Rg (kx (mvO h34) (kx (mvO h30) (kx (lnS Tryd.underlying58 rfl) (kx (bLss rfl rfl) (Rn (hV (.sl none (a1.map Mark.c)) h30 (hV (.sl none (a2.map Mark.c)) h32 (hV (.int .i64 s1_1) h34 (hN rfl hZ)))) fun e35 h37 h38 h39 h40 => sN ?_)))))))
 clear h30 h32 h34
 rcases ite_some h with ⟨hb41, h⟩ | ⟨hb41, h⟩
 ·obtain ⟨x42, hx43, h⟩ := bind_some h
  obtain ⟨x44, hx45, h⟩ := bind_some h
  obtain ⟨r47, hx46, h⟩ := bind_some h
  refine cT h40 hb41 (xx (sN (sq (bl (sq (Rd (kf (mvO h37) (kf (mvO h39) (kf (ixS rfl rfl hx43 Mark.fl) (kf (ldPA rfl rfl rfl) (kf (mvO h38) (kf (mvO h39) (kf (ixS rfl rfl hx45 Mark.fl) (kf (ldPA rfl rfl rfl) (fc (cl (v := .bool r47) rfl (cns rfl (cns rfl rfl)) rfl (laws_eqMark_ok x42 x44 _ hx46) nm) (kf (uNot rfl) (fZ (Rn (hA h37 (hA h38 (hA h39 (hN rfl hZ)))) fun e48 h50 h51 h52 h53 => sN ?_))))))))))))))))))
  clear h37 h38 h39 h40
  rcases ite_some h with ⟨hb54, h⟩ | ⟨hb54, h⟩
  ·refine cF h53 (congrArg Bool.not hb54) (xx (bN (sN (Rg (kx (mvO h52) (kx (bAdd rfl rfl) (kx (mvO rfl) (Rn (hA h50 (hA h51 (hN rfl hZ))) fun e55 h57 h58 h59 => ?_))))))))
   clear h50 h51 h53
   obtain rfl := si h
   exact qN ⟨h57, h58, h59⟩
  refine cT h53 (congrArg Bool.not hb54) (sq (Rg (kx (mvO rfl) (Rn (hV (.bool false) rfl hZ) fun e60 h62 => sN (xx (bR (sR ?_)))))))
  clear h50 h51 h52 h53
  obtain rfl := si h
  exact qR ⟨rfl, h62⟩
 refine cF h40 hb41 (xx (sE ?_))
 obtain rfl := si h
 exact qE ⟨rfl, trivial⟩
noncomputable def laws_eqMarkS (a1 : List Mark) (a2 : List Mark) : Option Bool :=
 if ((a1.length : Int) != (a2.length : Int)) = true then
  some false
 else
  (Lw (laws_eqMarkS_b1 a1 a2) 0).bind fun r => match r with
  | (.inl _) =>
   some false
  | (.inr _) =>
   some true
def laws_eqMarkS_enc (r : Bool) : AV := .bool r
theorem laws_eqMarkS_ok (a1 : List Mark) (a2 : List Mark) (r : Bool) (h : laws_eqMarkS a1 a2 = some r) : Ev (fun k => CN k 64 [.sl none (a1.map Mark.c), .sl none (a2.map Mark.c)] []) (fun p => rRes p.2 p.1 = laws_eqMarkS_enc r) := by
 unfold laws_eqMarkS at h
 refine Ev.enter (F := fun k => f64 (CN k) k) (fun k => callN_eq rfl Tryd.func64 rfl rfl rfl (by decide +kernel) (f64_eq _ _)) (sq (Rg (kx (mvO rfl) (Rn (hN rfl (hN rfl hZ)) fun e1 h3 h4 => sN (sq (sq (Rg (kx (mvO h3) (kx (lnS Tryd.underlying58 rfl) (kx (mvO h4) (kx (lnS Tryd.underlying58 rfl) (kx (bNeq rfl rfl) (Rn (hA h3 (hA h4 (hN rfl hZ))) fun e5 h7 h8 h9 => sN ?_)))))))))))))
 clear h3 h4
 rcases ite_some h with ⟨hb10, h⟩ | ⟨hb10, h⟩
 ·refine cT h9 hb10 (sq (Rg (kx (mvO rfl) (Rn (hV (.bool false) rfl hZ) fun e11 h13 => sN (xx (sR ?_))))))
  clear h7 h8 h9
  obtain rfl := si h
  exact eR (resT h13 res0) rfl
 obtain ⟨r63, hr64, h⟩ := bind_some h
 refine cF h9 hb10 (xx (sN (sq (sq (Rg (kx (mvO rfl) (Rn (hA h7 (hA h8 (hV (.int .i64 0) rfl hZ))) fun e14 h16 h17 h18 => sN (bl ?_))))))))
 clear h7 h8 h9
 rcases r63 with _ | _
 ·refine Ev.loop (RS := laws_eqMarkS_b1_RS a1 a2) (RR := laws_eqMarkS_b1_RR a1 a2) (fun s r h e M hs => laws_eqMarkS_b1_ok a1 a2 s r h e M hs) hr64 ⟨h16, h17, h18⟩ fun x e66 M67 hq65 => ?_
  obtain ⟨rfl, h68⟩ := hq65
  refine bR (sR ?_)
  obtain rfl := si h
  exact eR (resT h68 res0) rfl
 refine Ev.loop (RS := laws_eqMarkS_b1_RS a1 a2) (RR := laws_eqMarkS_b1_RR a1 a2) (fun s r h e M hs => laws_eqMarkS_b1_ok a1 a2 s r h e M hs) hr64 ⟨h16, h17, h18⟩ fun x e69 M70 hq65 => ?_
 obtain ⟨rfl, _⟩ := hq65
 refine bE (sN (sq (Rg (kx (mvO rfl) (Rn (hV (.bool true) rfl hZ) fun e71 h73 => sN (xx ?_))))))
 obtain rfl := si h
 exact eR (resT h73 res0) rfl
/-! ### loop.example/g01263/laws.eqHalf (f63) -/
noncomputable def laws_eqHalf (a1 : Half) (a2 : Half) : Option Bool :=
 if (a1.Stock == a2.Stock) = true then
  (laws_eqNotchS a1.Notches a2.Notches).bind fun r12 =>
  if r12 = true then
   (laws_eqGrain a1.Grain a2.Grain).bind fun r20 =>
   if r20 = true then
    some true
   else
    some false
  else
   some false
 else
  some false
def laws_eqHalf_enc (r : Bool) : AV := .bool r
theorem laws_eqHalf_ok (a1 : Half) (a2 : Half) (r : Bool) (h : laws_eqHalf a1 a2 = some r) : Ev (fun k => CN k 63 [.agg (.bool a1.Stock :: (.sl none (a1.Notches.map Notch.c) :: ((arC (cI .i8) 0 a1.Grain) ++ ([] : List AV)))), .agg (.bool a2.Stock :: (.sl none (a2.Notches.map Notch.c) :: ((arC (cI .i8) 0 a2.Grain) ++ ([] : List AV))))] []) (fun p => rRes p.2 p.1 = laws_eqHalf_enc r) := by
 unfold laws_eqHalf at h
 refine Ev.enter (F := fun k => f63 (CN k) k) (fun k => callN_eq rfl Tryd.func63 rfl rfl rfl (by decide +kernel) (f63_eq _ _)) (sq (Rg (kx (bxI rfl rfl ⟨rfl, rfl, by decide⟩) (kx (bxI rfl rfl ⟨rfl, rfl, by decide⟩) (kx (mvO rfl) (Rn (hN rfl (hN rfl hZ)) fun e1 h3 h4 => sN (sq (sq (Rg (kx (faP h3 ⟨ble rfl, blt rfl⟩ rfl) (kx (ldP rfl rfl) (kx (faP h4 ⟨ble rfl, blt rfl⟩ rfl) (kx (ldP rfl rfl) (kx (oNeq (by kernel_rfl) rfl rfl) (Rn (hA h3 (hA h4 (hN rfl hZ))) fun e5 h7 h8 h9 => sN ?_)))))))))))))))
 clear h3 h4
 rcases ite_some h with ⟨hb10, h⟩ | ⟨hb10, h⟩
 ·obtain ⟨r12, hx11, h⟩ := bind_some h
  refine cF h9 (congrArg Bool.not hb10) (xx (sN (sq (sq (Rg (kx (faP h7 ⟨ble rfl, blt rfl⟩ rfl) (kx (ldP rfl rfl) (kx (faP h8 ⟨ble rfl, blt rfl⟩ rfl) (kx (ldP rfl rfl) (kc (cl (v := .bool r12) rfl (cns rfl (cns rfl rfl)) rfl (laws_eqNotchS_ok a1.Notches a2.Notches _ hx11) nm) (kx (uNot rfl) (Rn (hA h7 (hA h8 (hN rfl hZ))) fun e13 h15 h16 h17 => sN ?_))))))))))))
  clear h7 h8 h9
  rcases ite_some h with ⟨hb18, h⟩ | ⟨hb18, h⟩
  ·obtain ⟨r20, hx19, h⟩ := bind_some h
   refine cF h17 (congrArg Bool.not hb18) (xx (sN (sq (sq (Rg (kx (faP h15 ⟨ble rfl, blt rfl⟩ rfl) (kx (ldPA rfl rfl rfl) (kx (faP h16 ⟨ble rfl, blt rfl⟩ rfl) (kx (ldPA rfl rfl rfl) (kc (cl (v := .bool r20) rfl (cns rfl (cns rfl rfl)) rfl (laws_eqGrain_ok a1.Grain a2.Grain _ hx19) nm) (kx (uNot rfl) (Rn (hN rfl hZ) fun e21 h23 => sN ?_))))))))))))
   clear h15 h16 h17
   rcases ite_some h with ⟨hb24, h⟩ | ⟨hb24, h⟩
   ·refine cF h23 (congrArg Bool.not hb24) (xx (sN (sq (Rg (kx (mvO rfl) (Rn (hV (.bool true) rfl hZ) fun e25 h27 => sN (xx ?_)))))))
    clear h23
    obtain rfl := si h
    exact eR (resT h27 res0) rfl
   refine cT h23 (congrArg Bool.not hb24) (sq (Rg (kx (mvO rfl) (Rn (hV (.bool false) rfl hZ) fun e28 h30 => sN (xx (sR ?_))))))
   clear h23
   obtain rfl := si h
   exact eR (resT h30 res0) rfl
  refine cT h17 (congrArg Bool.not hb18) (sq (Rg (kx (mvO rfl) (Rn (hV (.bool false) rfl hZ) fun e31 h33 => sN (xx (sR ?_))))))
  clear h15 h16 h17
  obtain rfl := si h
  exact eR (resT h33 res0) rfl
 refine cT h9 (congrArg Bool.not hb10) (sq (Rg (kx (mvO rfl) (Rn (hV (.bool false) rfl hZ) fun e34 h36 => sN (xx (sR ?_))))))
 clear h7 h8 h9
 obtain rfl := si h
 exact eR (resT h36 res0) rfl
/-! ### loop.example/g01263/impl.hex (f62) -/
abbrev impl_hex_b1_S := Int × (List Int)
abbrev impl_hex_b1_R := (List Int)
def impl_hex_b1_RS (a1 : Int) (x4 : List Int) (i1_1 : Nat) (s : impl_hex_b1_S) (e : Env) (M : Mem) : Prop := eget e 0 = .int .u32 a1 ∧ eget e 3 = .lsl i1_1 s.2.length 0 s.2.length ∧ eget e 7 = .int .i64 (x4.length : Int) ∧ eget e 8 = .int .i64 s.1 ∧ M[i1_1]? = some (.live ⟨.grow, 5, 1, s.2.map (cI .u8)⟩) ∧ s.2.length = x4.length
def impl_hex_b1_RR (a1 : Int) (x4 : List Int) (i1_1 : Nat) (g : impl_hex_b1_R) (x : Ex) (e : Env) (M : Mem) : Prop := x = .ext 0 ∧ eget e 3 = .lsl i1_1 g.length 0 g.length ∧ M[i1_1]? = some (.live ⟨.grow, 5, 1, g.map (cI .u8)⟩) ∧ g.length = x4.length
noncomputable def impl_hex_b1 (a1 : Int) (x4 : List Int) : impl_hex_b1_S → Option (impl_hex_b1_S ⊕ impl_hex_b1_R) := fun (s1_1, s1_2) =>
 if (decide (s1_1 < (x4.length : Int))) = true then
  (shr .u32 a1 (IntKind.i64.wrap (28 - (IntKind.i64.wrap (4 * s1_1))))).bind fun n58 =>
  (rd ([48, 49, 50, 51, 52, 53, 54, 55, 56, 57, 97, 98, 99, 100, 101, 102] : List UInt8) (iand .u32 n58 15)).bind fun x60 =>
  (rd s1_2 s1_1).bind fun x62 =>
  some (.inl ((IntKind.i64.wrap (s1_1 + 1)), (s1_2.set s1_1.toNat (x60.toNat : Int))))
 else
  some (.inr s1_2)
theorem impl_hex_b1_ok (a1 : Int) (x4 : List Int) (i1_1 : Nat) (s : impl_hex_b1_S) (r : impl_hex_b1_S ⊕ impl_hex_b1_R) (h : impl_hex_b1 a1 x4 s = some r) (e : Env) (M : Mem) (hs : impl_hex_b1_RS a1 x4 i1_1 s e M) : Ev (fun k => (f62_l3 (CN k) k (prune [0, 3, 7, 8] e) M).bind fun q => some q) (bQ (impl_hex_b1_RS a1 x4 i1_1) (impl_hex_b1_RR a1 x4 i1_1) r) := by
 obtain ⟨s1_1, s1_2⟩ := s
 unfold impl_hex_b1 at h
 obtain ⟨h33, h35, h37, h39, o41, hl42⟩ := hs
 generalize he32 : prune [0, 3, 7, 8] e = e31
 have h34 := envp he32.symm rfl h33
 have h36 := envp he32.symm rfl h35
 have h38 := envp he32.symm rfl h37
 have h40 := envp he32.symm rfl h39
 refine sq (Rg (kx (bLss h40 h38) (Rn (hV (.int .u32 a1) h34 (hV (.lsl i1_1 s1_2.length 0 s1_2.length) h36 (hV (.int .i64 (x4.length : Int)) h38 (hV (.int .i64 s1_1) h40 (hN rfl hZ))))) fun e43 h45 h46 h47 h48 h49 => sN (sq ?_))))
 clear h34 h36 h38 h40
 rcases ite_some h with ⟨hb50, h⟩ | ⟨hb50, h⟩
 ·obtain ⟨n58, hx59, h⟩ := bind_some h
  obtain ⟨x60, hx61, h⟩ := bind_some h
  obtain ⟨x62, hx63, h⟩ := bind_some h
  refine cT h49 hb50 (xx (sN (sq (bl (sq (Rg (kx (mvO h48) (kx (mvO rfl) (Rn (hA h45 (hA h46 (hN rfl (hA h47 (hA h48 hZ))))) fun e51 h53 h54 h55 h56 h57 => sN (Rg (kx (mvO h54) (kx (mvO h55) (kx (mvO h53) (kx (mvO h55) (kx (bMul rfl rfl) (kx (bSub rfl rfl) (kx (bShr rfl rfl hx59) (kx (bAnd rfl rfl) (kx (ixB rfl rfl hx61) (kx (ixO rfl o41 rfl rfl (rd_get hx63).1 (rd_lt hx63).2) (kw (stR (u := x62) (u' := (x60.toNat : Int)) rfl rfl o41 rfl (rz2 hx63) ⟨rfl, ble rfl⟩ rfl rfl) fun M64 hM65 => ?_)))))))))))))))))))))
  clear h45 h46 h47 h48 h49
  rw [Nat.zero_add] at hM65
  have o66 : M64[i1_1]? = some (.live ⟨.grow, 5, 1, (s1_2.set s1_1.toNat (x60.toNat : Int)).map (cI .u8)⟩) := set_same hM65 o41
  have hx67 := rd_set (u' := (x60.toNat : Int)) hx63
  refine Rn (hA h53 (hA h54 (hA h56 (hA h57 hZ)))) fun e68 h70 h71 h72 h73 => bN (sN (Rg (kx (bAdd h73 rfl) (kx (mvO rfl) (Rn (hA h70 (hA h71 (hA h72 (hN rfl hZ)))) fun e74 h76 h77 h78 h79 => ?_)))))
  clear h53 h54 h55 h56 h57 h70 h71 h72
  obtain rfl := si h
  exact qN ⟨h76, (lslL (L' := (s1_2.set s1_1.toNat (x60.toNat : Int)).length) h77 (by simp [hl42])), h78, h79, o66, (by first | rfl | simp [hl42])⟩
 refine cF h49 hb50 (xx (sE ?_))
 obtain rfl := si h
 exact qE ⟨rfl, h46, o41, (by first | rfl | simp [hl42])⟩
noncomputable def impl_hex (a1 : Int) : Option ((List UInt8)) :=
 (mkS 1 0 8).bind fun x4 =>
 (Lw (impl_hex_b1 a1 x4) (0, x4)).bind fun y85 =>
 some (toB y85)
def impl_hex_enc (r : (List UInt8)) : AV := .str r
theorem impl_hex_ok (a1 : Int) (r : (List UInt8)) (h : impl_hex a1 = some r) : Ev (fun k => CN k 62 [.int .u32 a1] []) (fun p => rRes p.2 p.1 = impl_hex_enc r) := by
 unfold impl_hex at h
 obtain ⟨x4, hx5, h⟩ := bind_some h
 refine Ev.enter (F := fun k => f62 (CN k) k) (fun k => callN_eq rfl Tryd.func62 rfl rfl rfl (by decide +kernel) (f62_eq _ _)) (sq (Rg (kx (mvO rfl) (Rn (hN rfl hZ) fun e1 h3 => sN (sq (Rg (ku (mkO rfl rfl hx5 (c := (cI .u8)) zero5 (cI_fl _) (by decide)) fun M7 hM8 => ?_)))))))
 have o9 : M7[([] : Mem).length]? = some (.live ⟨.grow, 5, 1, x4.map (cI .u8)⟩) := push_new hM8
 obtain ⟨y85, hr81, h⟩ := bind_some h
 refine kx (mvO rfl) (Rn (hA h3 (hV (.lsl ([] : Mem).length x4.length 0 x4.length) rfl hZ)) fun e10 h12 h13 => sN (sq (sq (Rg (kx (mvO h13) (kx (lnL Tryd.underlying153 rfl o9 (by simp)) (kx (mvO rfl) (Rn (hA h12 (hA h13 (hN rfl (hV (.int .i64 0) rfl hZ)))) fun e14 h16 h17 h18 h19 => sN (bl (Ev.loop (RS := impl_hex_b1_RS a1 x4 (([] : Mem).length)) (RR := impl_hex_b1_RR a1 x4 (([] : Mem).length)) (fun s r h e M hs => impl_hex_b1_ok a1 x4 (([] : Mem).length) s r h e M hs) hr81 ⟨h16, h17, h18, h19, o9, rfl⟩ fun x e83 M84 hq82 => ?_))))))))))
 clear h3 h12 h13
 obtain ⟨rfl, h86, o87, hl88⟩ := hq82
 refine bE (sN (sq (Rg (kx (mvO h86) (kx (cvB (elL rfl o87 rfl)) (kx (mvO rfl) (Rn (hN rfl hZ) fun e89 h91 => sN (xx ?_))))))))
 clear h86
 obtain rfl := si h
 exact eR (resT h91 res0) rfl
/-! ### strings.Join (f91), by its contract -/
noncomputable def strings_Join (a1 : List (List UInt8)) (a2 : List UInt8) : Option ((List UInt8)) := joinI a1 a2
def strings_Join_enc (r : (List UInt8)) : AV := .str r
theorem strings_Join_ok (a1 : List (List UInt8)) (a2 : List UInt8) (r : (List UInt8)) (h : strings_Join a1 a2 = some r) : Ev (fun k => CN k 91 [.sl none (a1.map cS), .str a2] []) (fun p => rRes p.2 p.1 = strings_Join_enc r) := Ev.lib rfl rfl (lib_join h) rfl
/-! ### loop.example/g01263/impl.halfText (f61) -/
abbrev impl_halfText_b1_S := Int × (List Int)
abbrev impl_halfText_b1_R := (List Int)
def impl_halfText_b1_RS (a1 : Half) (i1_1 : Nat) (s : impl_halfText_b1_S) (e : Env) (M : Mem) : Prop := eget e 1 = .pt none (.bool a1.Stock :: (.sl none (a1.Notches.map Notch.c) :: ((arC (cI .i8) 0 a1.Grain) ++ ([] : List AV)))) ∧ eget e 3 = .str ([115, 116, 111, 99, 107] : List UInt8) ∧ eget e 4 = .lsl i1_1 s.2.length 0 s.2.length ∧ eget e 14 = .agg (arC (cI .i8) 0 a1.Grain) ∧ eget e 15 = .int .i64 s.1 ∧ M[i1_1]? = some (.live ⟨.grow, 5, 1, s.2.map (cI .u8)⟩)
def impl_halfText_b1_RR (a1 : Half) (i1_1 : Nat) (g : impl_halfText_b1_R) (x : Ex) (e : Env) (M : Mem) : Prop := x = .ext 0 ∧ eget e 1 = .pt none (.bool a1.Stock :: (.sl none (a1.Notches.map Notch.c) :: ((arC (cI .i8) 0 a1.Grain) ++ ([] : List AV)))) ∧ eget e 3 = .str ([115, 116, 111, 99, 107] : List UInt8) ∧ eget e 4 = .lsl i1_1 g.length 0 g.length ∧ M[i1_1]? = some (.live ⟨.grow, 5, 1, g.map (cI .u8)⟩)
noncomputable def impl_halfText_b1 (a1 : Half) : impl_halfText_b1_S → Option (impl_halfText_b1_S ⊕ impl_halfText_b1_R) := fun (s1_1, s1_2) =>
 if (decide (s1_1 < 16)) = true then
  (rdA a1.Grain s1_1).bind fun x69 =>
  (app 1 s1_2 [(IntKind.u8.wrap (IntKind.i8.wrap (100 + x69)))]).bind fun x79 =>
  some (.inl ((IntKind.i64.wrap (s1_1 + 1)), x79))
 else
  some (.inr s1_2)
theorem impl_halfText_b1_ok (a1 : Half) (i1_1 : Nat) (s : impl_halfText_b1_S) (r : impl_halfText_b1_S ⊕ impl_halfText_b1_R) (h : impl_halfText_b1 a1 s = some r) (e : Env) (M : Mem) (hs : impl_halfText_b1_RS a1 i1_1 s e M) : Ev (fun k => (f61_l6 (CN k) k (prune [1, 3, 4, 14, 15] e) M).bind fun q => some q) (bQ (impl_halfText_b1_RS a1 i1_1) (impl_halfText_b1_RR a1 i1_1) r) := by
 obtain ⟨s1_1, s1_2⟩ := s
 unfold impl_halfText_b1 at h
 obtain ⟨h49, h51, h53, h55, h57, o59⟩ := hs
 generalize he48 : prune [1, 3, 4, 14, 15] e = e47
 have h50 := envp he48.symm rfl h49
 have h52 := envp he48.symm rfl h51
 have h54 := envp he48.symm rfl h53
 have h56 := envp he48.symm rfl h55
 have h58 := envp he48.symm rfl h57
 refine sq (Rg (kx (bLss h58 rfl) (Rn (hV (.pt none (.bool a1.Stock :: (.sl none (a1.Notches.map Notch.c) :: ((arC (cI .i8) 0 a1.Grain) ++ ([] : List AV))))) h50 (hV (.str ([115, 116, 111, 99, 107] : List UInt8)) h52 (hV (.lsl i1_1 s1_2.length 0 s1_2.length) h54 (hV (.agg (arC (cI .i8) 0 a1.Grain)) h56 (hV (.int .i64 s1_1) h58 (hN rfl hZ)))))) fun e60 h62 h63 h64 h65 h66 h67 => sN (sq ?_))))
 clear h50 h52 h54 h56 h58
 rcases ite_some h with ⟨hb68, h⟩ | ⟨hb68, h⟩
 ·obtain ⟨x69, hx70, h⟩ := bind_some h
  obtain ⟨x79, hx80, h⟩ := bind_some h
  refine cT h67 hb68 (xx (sN (sq (bl (sq (Rg (kx (ixA1 (K := AV.int .i8) (c := (cI .i8)) (z := 0) (g := a1.Grain) h65 h66 hx70 (fun _ => rfl)) (kx (mvO rfl) (Rn (hA h62 (hA h63 (hA h64 (hN rfl (hA h65 (hA h66 hZ)))))) fun e71 h73 h74 h75 h76 h77 h78 => sN (Rg (kx (mvO h75) (kx (mvO h76) (kx (bAdd rfl rfl) (kx (cvI rfl) (kx (litI (cns rfl rfl) rfl ⟨rfl, by decide⟩) (kw (apO rfl o59 rfl (elT (c := (cI .u8)) (xs := [(IntKind.u8.wrap (IntKind.i8.wrap (100 + x69)))]) rfl) hx80 (cI_fl _) (by decide)) fun M81 hM82 => ?_))))))))))))))))
  clear h62 h63 h64 h65 h66 h67
  have o83 : M81[i1_1]? = some (.live ⟨.grow, 5, 1, x79.map (cI .u8)⟩) := set_same hM82 o59
  refine kx (mvO rfl) (Rn (hA h73 (hA h74 (hV (.lsl i1_1 x79.length 0 x79.length) rfl (hA h77 (hA h78 hZ))))) fun e84 h86 h87 h88 h89 h90 => bN (sN (Rg (kx (bAdd h90 rfl) (kx (mvO rfl) (Rn (hA h86 (hA h87 (hA h88 (hA h89 (hN rfl hZ))))) fun e91 h93 h94 h95 h96 h97 => ?_))))))
  clear h73 h74 h76 h77 h78 h86 h87 h88 h89
  obtain rfl := si h
  exact qN ⟨h93, h94, h95, h96, h97, o83⟩
 refine cF h67 hb68 (xx (sE ?_))
 obtain rfl := si h
 exact qE ⟨rfl, h62, h63, h64, o59⟩
abbrev impl_halfText_b2_S := Int × (List (List UInt8))
abbrev impl_halfText_b2_R := (List (List UInt8))
def impl_halfText_b2_RS (a1 : Half) (i2_1 : Nat) (s : impl_halfText_b2_S) (e : Env) (M : Mem) : Prop := eget e 7 = .lsl i2_1 s.2.length 0 s.2.length ∧ eget e 30 = .sl none (a1.Notches.map Notch.c) ∧ eget e 31 = .int .i64 (a1.Notches.length : Int) ∧ eget e 32 = .int .i64 s.1 ∧ M[i2_1]? = some (.live ⟨.grow, 9, 1, s.2.map cS⟩)
def impl_halfText_b2_RR (a1 : Half) (i2_1 : Nat) (g : impl_halfText_b2_R) (x : Ex) (e : Env) (M : Mem) : Prop := x = .ext 2 ∧ eget e 7 = .lsl i2_1 g.length 0 g.length ∧ M[i2_1]? = some (.live ⟨.grow, 9, 1, g.map cS⟩)
noncomputable def impl_halfText_b2 (a1 : Half) : impl_halfText_b2_S → Option (impl_halfText_b2_S ⊕ impl_halfText_b2_R) := fun (s2_1, s2_2) =>
 if (decide (s2_1 < (a1.Notches.length : Int))) = true then
  (rd a1.Notches s2_1).bind fun x154 =>
  (slc ([100, 115, 108, 118, 99, 109] : List UInt8) x154.Kind (IntKind.i8.wrap (x154.Kind + 1))).bind fun x173 =>
  (impl_decimal (IntKind.i64.wrap x154.At)).bind fun r176 =>
  (sadd x173 r176).bind fun w177 =>
  (app 16 s2_2 [w177]).bind fun x179 =>
  some (.inl ((IntKind.i64.wrap (s2_1 + 1)), x179))
 else
  some (.inr s2_2)
theorem impl_halfText_b2_ok (a1 : Half) (i2_1 : Nat) (s : impl_halfText_b2_S) (r : impl_halfText_b2_S ⊕ impl_halfText_b2_R) (h : impl_halfText_b2 a1 s = some r) (e : Env) (M : Mem) (hs : impl_halfText_b2_RS a1 i2_1 s e M) : Ev (fun k => (f61_l12 (CN k) k (prune [7, 30, 31, 32] e) M).bind fun q => some q) (bQ (impl_halfText_b2_RS a1 i2_1) (impl_halfText_b2_RR a1 i2_1) r) := by
 obtain ⟨s2_1, s2_2⟩ := s
 unfold impl_halfText_b2 at h
 obtain ⟨h137, h139, h141, h143, o145⟩ := hs
 generalize he136 : prune [7, 30, 31, 32] e = e135
 have h138 := envp he136.symm rfl h137
 have h140 := envp he136.symm rfl h139
 have h142 := envp he136.symm rfl h141
 have h144 := envp he136.symm rfl h143
 refine sq (Rg (kx (bLss h144 h142) (Rn (hV (.lsl i2_1 s2_2.length 0 s2_2.length) h138 (hV (.sl none (a1.Notches.map Notch.c)) h140 (hV (.int .i64 (a1.Notches.length : Int)) h142 (hV (.int .i64 s2_1) h144 (hN rfl hZ))))) fun e146 h148 h149 h150 h151 h152 => sN (sq ?_))))
 clear h138 h140 h142 h144
 rcases ite_some h with ⟨hb153, h⟩ | ⟨hb153, h⟩
 ·obtain ⟨x154, hx155, h⟩ := bind_some h
  refine cT h152 hb153 (xx (sN (sq (bl (sq (Rg (kx (ixS h149 h151 hx155 Notch.fl) (kx (ldPA rfl rfl rfl) (ku (alO zero156) fun M157 hM158 => ?_)))))))))
  have o159 := push_old hM158 o145
  have ne160 := ne_new o145
  have o161 : M157[M.length]? = some (.live ⟨.box, 156, 2, [[.int .i8 0, .int .i16 0]]⟩) := push_new hM158
  refine kw (stO rfl rfl o161 rfl rfl ⟨rfl, ble rfl⟩ rfl rfl) fun M162 hM163 => ?_
  have o164 := set_ne hM163 ne160 o159
  have o165 : M162[M.length]? = some (.live ⟨.box, 156, 2, [[.int .i8 x154.Kind, .int .i16 x154.At]]⟩) := set_same hM163 o161
  obtain ⟨x173, hx174, h⟩ := bind_some h
  obtain ⟨r176, hx175, h⟩ := bind_some h
  obtain ⟨w177, hx178, h⟩ := bind_some h
  obtain ⟨x179, hx180, h⟩ := bind_some h
  refine Rn (hA h148 (hV (.loc M.length 1 0 0) rfl (hA h149 (hA h150 (hA h151 hZ))))) fun e166 h168 h169 h170 h171 h172 => sN (Rd (kf (mvO h168) (kf (faO h169 o165 rfl) (kf (ldO rfl o165 rfl rfl rfl) (kf (faO h169 o165 rfl) (kf (ldO rfl o165 rfl rfl rfl) (kf (bAdd rfl rfl) (kf (ssl2 rfl (bnd1 rfl) (bnd1 rfl) hx174) (kf (faO h169 o165 rfl) (kf (ldO rfl o165 rfl rfl rfl) (kf (cvI rfl) (fc (cl (v := .str r176) rfl (cns rfl rfl) rfl (impl_decimal_ok (IntKind.i64.wrap x154.At) _ hx175) nm) (kf (sAdd rfl rfl hx178) (kf (litI (cns rfl rfl) rfl ⟨rfl, by decide⟩) (fZ (kw (apO rfl o164 rfl (elT (c := cS) (xs := [w177]) rfl) hx180 cS_fl (by decide)) fun M181 hM182 => ?_))))))))))))))))
  clear h148 h149 h150 h151 h152
  have o183 : M181[i2_1]? = some (.live ⟨.grow, 9, 1, x179.map cS⟩) := set_same hM182 o164
  have o184 := set_ne hM182 (Ne.symm ne160) o165
  refine kx (mvO rfl) (Rn (hV (.lsl i2_1 x179.length 0 x179.length) rfl (hA h170 (hA h171 (hA h172 hZ)))) fun e185 h187 h188 h189 h190 => bN (sN (Rg (kx (bAdd h190 rfl) (kx (mvO rfl) (Rn (hA h187 (hA h188 (hA h189 (hN rfl hZ)))) fun e191 h193 h194 h195 h196 => ?_))))))
  clear h169 h170 h171 h172 h187 h188 h189
  obtain rfl := si h
  exact qN ⟨h193, h194, h195, h196, o183⟩
 refine cF h152 hb153 (xx (sE ?_))
 obtain rfl := si h
 exact qE ⟨rfl, h148, o145⟩
abbrev impl_halfText_b3_S := Int × (List Int)
abbrev impl_halfText_b3_R := (List Int)
def impl_halfText_b3_RS (a1 : Half) (i3_1 : Nat) (s : impl_halfText_b3_S) (e : Env) (M : Mem) : Prop := eget e 1 = .pt none (.bool a1.Stock :: (.sl none (a1.Notches.map Notch.c) :: ((arC (cI .i8) 0 a1.Grain) ++ ([] : List AV)))) ∧ eget e 3 = .str ([102, 111, 105, 108] : List UInt8) ∧ eget e 4 = .lsl i3_1 s.2.length 0 s.2.length ∧ eget e 14 = .agg (arC (cI .i8) 0 a1.Grain) ∧ eget e 15 = .int .i64 s.1 ∧ M[i3_1]? = some (.live ⟨.grow, 5, 1, s.2.map (cI .u8)⟩)
def impl_halfText_b3_RR (a1 : Half) (i3_1 : Nat) (g : impl_halfText_b3_R) (x : Ex) (e : Env) (M : Mem) : Prop := x = .ext 0 ∧ eget e 1 = .pt none (.bool a1.Stock :: (.sl none (a1.Notches.map Notch.c) :: ((arC (cI .i8) 0 a1.Grain) ++ ([] : List AV)))) ∧ eget e 3 = .str ([102, 111, 105, 108] : List UInt8) ∧ eget e 4 = .lsl i3_1 g.length 0 g.length ∧ M[i3_1]? = some (.live ⟨.grow, 5, 1, g.map (cI .u8)⟩)
noncomputable def impl_halfText_b3 (a1 : Half) : impl_halfText_b3_S → Option (impl_halfText_b3_S ⊕ impl_halfText_b3_R) := fun (s3_1, s3_2) =>
 if (decide (s3_1 < 16)) = true then
  (rdA a1.Grain s3_1).bind fun x261 =>
  (app 1 s3_2 [(IntKind.u8.wrap (IntKind.i8.wrap (100 + x261)))]).bind fun x271 =>
  some (.inl ((IntKind.i64.wrap (s3_1 + 1)), x271))
 else
  some (.inr s3_2)
theorem impl_halfText_b3_ok (a1 : Half) (i3_1 : Nat) (s : impl_halfText_b3_S) (r : impl_halfText_b3_S ⊕ impl_halfText_b3_R) (h : impl_halfText_b3 a1 s = some r) (e : Env) (M : Mem) (hs : impl_halfText_b3_RS a1 i3_1 s e M) : Ev (fun k => (f61_l6 (CN k) k (prune [1, 3, 4, 14, 15] e) M).bind fun q => some q) (bQ (impl_halfText_b3_RS a1 i3_1) (impl_halfText_b3_RR a1 i3_1) r) := by
 obtain ⟨s3_1, s3_2⟩ := s
 unfold impl_halfText_b3 at h
 obtain ⟨h241, h243, h245, h247, h249, o251⟩ := hs
 generalize he240 : prune [1, 3, 4, 14, 15] e = e239
 have h242 := envp he240.symm rfl h241
 have h244 := envp he240.symm rfl h243
 have h246 := envp he240.symm rfl h245
 have h248 := envp he240.symm rfl h247
 have h250 := envp he240.symm rfl h249
 refine sq (Rg (kx (bLss h250 rfl) (Rn (hV (.pt none (.bool a1.Stock :: (.sl none (a1.Notches.map Notch.c) :: ((arC (cI .i8) 0 a1.Grain) ++ ([] : List AV))))) h242 (hV (.str ([102, 111, 105, 108] : List UInt8)) h244 (hV (.lsl i3_1 s3_2.length 0 s3_2.length) h246 (hV (.agg (arC (cI .i8) 0 a1.Grain)) h248 (hV (.int .i64 s3_1) h250 (hN rfl hZ)))))) fun e252 h254 h255 h256 h257 h258 h259 => sN (sq ?_))))
 clear h242 h244 h246 h248 h250
 rcases ite_some h with ⟨hb260, h⟩ | ⟨hb260, h⟩
 ·obtain ⟨x261, hx262, h⟩ := bind_some h
  obtain ⟨x271, hx272, h⟩ := bind_some h
  refine cT h259 hb260 (xx (sN (sq (bl (sq (Rg (kx (ixA1 (K := AV.int .i8) (c := (cI .i8)) (z := 0) (g := a1.Grain) h257 h258 hx262 (fun _ => rfl)) (kx (mvO rfl) (Rn (hA h254 (hA h255 (hA h256 (hN rfl (hA h257 (hA h258 hZ)))))) fun e263 h265 h266 h267 h268 h269 h270 => sN (Rg (kx (mvO h267) (kx (mvO h268) (kx (bAdd rfl rfl) (kx (cvI rfl) (kx (litI (cns rfl rfl) rfl ⟨rfl, by decide⟩) (kw (apO rfl o251 rfl (elT (c := (cI .u8)) (xs := [(IntKind.u8.wrap (IntKind.i8.wrap (100 + x261)))]) rfl) hx272 (cI_fl _) (by decide)) fun M273 hM274 => ?_))))))))))))))))
  clear h254 h255 h256 h257 h258 h259
  have o275 : M273[i3_1]? = some (.live ⟨.grow, 5, 1, x271.map (cI .u8)⟩) := set_same hM274 o251
  refine kx (mvO rfl) (Rn (hA h265 (hA h266 (hV (.lsl i3_1 x271.length 0 x271.length) rfl (hA h269 (hA h270 hZ))))) fun e276 h278 h279 h280 h281 h282 => bN (sN (Rg (kx (bAdd h282 rfl) (kx (mvO rfl) (Rn (hA h278 (hA h279 (hA h280 (hA h281 (hN rfl hZ))))) fun e283 h285 h286 h287 h288 h289 => ?_))))))
  clear h265 h266 h268 h269 h270 h278 h279 h280 h281
  obtain rfl := si h
  exact qN ⟨h285, h286, h287, h288, h289, o275⟩
 refine cF h259 hb260 (xx (sE ?_))
 obtain rfl := si h
 exact qE ⟨rfl, h254, h255, h256, o251⟩
abbrev impl_halfText_b4_S := Int × (List (List UInt8))
abbrev impl_halfText_b4_R := (List (List UInt8))
def impl_halfText_b4_RS (a1 : Half) (i4_1 : Nat) (s : impl_halfText_b4_S) (e : Env) (M : Mem) : Prop := eget e 7 = .lsl i4_1 s.2.length 0 s.2.length ∧ eget e 30 = .sl none (a1.Notches.map Notch.c) ∧ eget e 31 = .int .i64 (a1.Notches.length : Int) ∧ eget e 32 = .int .i64 s.1 ∧ M[i4_1]? = some (.live ⟨.grow, 9, 1, s.2.map cS⟩)
def impl_halfText_b4_RR (a1 : Half) (i4_1 : Nat) (g : impl_halfText_b4_R) (x : Ex) (e : Env) (M : Mem) : Prop := x = .ext 2 ∧ eget e 7 = .lsl i4_1 g.length 0 g.length ∧ M[i4_1]? = some (.live ⟨.grow, 9, 1, g.map cS⟩)
noncomputable def impl_halfText_b4 (a1 : Half) : impl_halfText_b4_S → Option (impl_halfText_b4_S ⊕ impl_halfText_b4_R) := fun (s4_1, s4_2) =>
 if (decide (s4_1 < (a1.Notches.length : Int))) = true then
  (rd a1.Notches s4_1).bind fun x346 =>
  (slc ([100, 115, 108, 118, 99, 109] : List UInt8) x346.Kind (IntKind.i8.wrap (x346.Kind + 1))).bind fun x365 =>
  (impl_decimal (IntKind.i64.wrap x346.At)).bind fun r368 =>
  (sadd x365 r368).bind fun w369 =>
  (app 16 s4_2 [w369]).bind fun x371 =>
  some (.inl ((IntKind.i64.wrap (s4_1 + 1)), x371))
 else
  some (.inr s4_2)
theorem impl_halfText_b4_ok (a1 : Half) (i4_1 : Nat) (s : impl_halfText_b4_S) (r : impl_halfText_b4_S ⊕ impl_halfText_b4_R) (h : impl_halfText_b4 a1 s = some r) (e : Env) (M : Mem) (hs : impl_halfText_b4_RS a1 i4_1 s e M) : Ev (fun k => (f61_l12 (CN k) k (prune [7, 30, 31, 32] e) M).bind fun q => some q) (bQ (impl_halfText_b4_RS a1 i4_1) (impl_halfText_b4_RR a1 i4_1) r) := by
 obtain ⟨s4_1, s4_2⟩ := s
 unfold impl_halfText_b4 at h
 obtain ⟨h329, h331, h333, h335, o337⟩ := hs
 generalize he328 : prune [7, 30, 31, 32] e = e327
 have h330 := envp he328.symm rfl h329
 have h332 := envp he328.symm rfl h331
 have h334 := envp he328.symm rfl h333
 have h336 := envp he328.symm rfl h335
 refine sq (Rg (kx (bLss h336 h334) (Rn (hV (.lsl i4_1 s4_2.length 0 s4_2.length) h330 (hV (.sl none (a1.Notches.map Notch.c)) h332 (hV (.int .i64 (a1.Notches.length : Int)) h334 (hV (.int .i64 s4_1) h336 (hN rfl hZ))))) fun e338 h340 h341 h342 h343 h344 => sN (sq ?_))))
 clear h330 h332 h334 h336
 rcases ite_some h with ⟨hb345, h⟩ | ⟨hb345, h⟩
 ·obtain ⟨x346, hx347, h⟩ := bind_some h
  refine cT h344 hb345 (xx (sN (sq (bl (sq (Rg (kx (ixS h341 h343 hx347 Notch.fl) (kx (ldPA rfl rfl rfl) (ku (alO zero156) fun M349 hM350 => ?_)))))))))
  have o351 := push_old hM350 o337
  have ne352 := ne_new o337
  have o353 : M349[M.length]? = some (.live ⟨.box, 156, 2, [[.int .i8 0, .int .i16 0]]⟩) := push_new hM350
  refine kw (stO rfl rfl o353 rfl rfl ⟨rfl, ble rfl⟩ rfl rfl) fun M354 hM355 => ?_
  have o356 := set_ne hM355 ne352 o351
  have o357 : M354[M.length]? = some (.live ⟨.box, 156, 2, [[.int .i8 x346.Kind, .int .i16 x346.At]]⟩) := set_same hM355 o353
  obtain ⟨x365, hx366, h⟩ := bind_some h
  obtain ⟨r368, hx367, h⟩ := bind_some h
  obtain ⟨w369, hx370, h⟩ := bind_some h
  obtain ⟨x371, hx372, h⟩ := bind_some h
  refine Rn (hA h340 (hV (.loc M.length 1 0 0) rfl (hA h341 (hA h342 (hA h343 hZ))))) fun e358 h360 h361 h362 h363 h364 => sN (Rd (kf (mvO h360) (kf (faO h361 o357 rfl) (kf (ldO rfl o357 rfl rfl rfl) (kf (faO h361 o357 rfl) (kf (ldO rfl o357 rfl rfl rfl) (kf (bAdd rfl rfl) (kf (ssl2 rfl (bnd1 rfl) (bnd1 rfl) hx366) (kf (faO h361 o357 rfl) (kf (ldO rfl o357 rfl rfl rfl) (kf (cvI rfl) (fc (cl (v := .str r368) rfl (cns rfl rfl) rfl (impl_decimal_ok (IntKind.i64.wrap x346.At) _ hx367) nm) (kf (sAdd rfl rfl hx370) (kf (litI (cns rfl rfl) rfl ⟨rfl, by decide⟩) (fZ (kw (apO rfl o356 rfl (elT (c := cS) (xs := [w369]) rfl) hx372 cS_fl (by decide)) fun M373 hM374 => ?_))))))))))))))))
  clear h340 h341 h342 h343 h344
  have o375 : M373[i4_1]? = some (.live ⟨.grow, 9, 1, x371.map cS⟩) := set_same hM374 o356
  have o376 := set_ne hM374 (Ne.symm ne352) o357
  refine kx (mvO rfl) (Rn (hV (.lsl i4_1 x371.length 0 x371.length) rfl (hA h362 (hA h363 (hA h364 hZ)))) fun e377 h379 h380 h381 h382 => bN (sN (Rg (kx (bAdd h382 rfl) (kx (mvO rfl) (Rn (hA h379 (hA h380 (hA h381 (hN rfl hZ)))) fun e383 h385 h386 h387 h388 => ?_))))))
  clear h361 h362 h363 h364 h379 h380 h381
  obtain rfl := si h
  exact qN ⟨h385, h386, h387, h388, o375⟩
 refine cF h344 hb345 (xx (sE ?_))
 obtain rfl := si h
 exact qE ⟨rfl, h340, o337⟩
noncomputable def impl_halfText (a1 : Half) : Option ((List UInt8)) :=
 if a1.Stock = true then
  (Lw (impl_halfText_b1 a1) (0, ([] : List Int))).bind fun y103 =>
  (Lw (impl_halfText_b2 a1) (0, [([115, 116, 111, 99, 107] : List UInt8), (toB y103)])).bind fun y202 =>
  (strings_Join y202 ([32] : List UInt8)).bind fun r206 =>
  some r206
 else
  (Lw (impl_halfText_b3 a1) (0, ([] : List Int))).bind fun y295 =>
  (Lw (impl_halfText_b4 a1) (0, [([102, 111, 105, 108] : List UInt8), (toB y295)])).bind fun y394 =>
  (strings_Join y394 ([32] : List UInt8)).bind fun r398 =>
  some r398
def impl_halfText_enc (r : (List UInt8)) : AV := .str r
theorem impl_halfText_ok (a1 : Half) (r : (List UInt8)) (h : impl_halfText a1 = some r) : Ev (fun k => CN k 61 [.agg (.bool a1.Stock :: (.sl none (a1.Notches.map Notch.c) :: ((arC (cI .i8) 0 a1.Grain) ++ ([] : List AV))))] []) (fun p => rRes p.2 p.1 = impl_halfText_enc r) := by
 unfold impl_halfText at h
 refine Ev.enter (F := fun k => f61 (CN k) k) (fun k => callN_eq rfl Tryd.func61 rfl rfl rfl (by decide +kernel) (f61_eq _ _)) (sq (Rg (kx (bxI rfl rfl ⟨rfl, rfl, by decide⟩) (kx (mvO rfl) (Rn (hN rfl hZ) fun e1 h3 => sN (sq (Rg (kx (mvO rfl) (Rn (hA h3 (hN rfl hZ)) fun e4 h6 h7 => sN (sq (sq (Rg (kx (faP h6 ⟨ble rfl, blt rfl⟩ rfl) (kx (ldP rfl rfl) (Rn (hA h6 (hA h7 (hN rfl hZ))) fun e8 h10 h11 h12 => sN ?_)))))))))))))))
 clear h3 h6 h7
 rcases ite_some h with ⟨hb13, h⟩ | ⟨hb13, h⟩
 ·refine cT h12 hb13 (Rg (kx (mvO rfl) (Rn (hA h10 (hN rfl hZ)) fun e14 h16 h17 => sN (sq (Rg (ku (litO (xs := ([] : List Int)) (c := (cI .u8)) rfl rfl (by decide)) fun M19 hM20 => ?_))))))
  clear h10 h12
  have o21 : M19[([] : Mem).length]? = some (.live ⟨.grow, 5, 1, ([] : List Int).map (cI .u8)⟩) := push_new hM20
  obtain ⟨y103, hr99, h⟩ := bind_some h
  refine kx (mvO rfl) (Rn (hA h16 (hA h17 (hV (.lsl ([] : Mem).length ([] : List Int).length 0 ([] : List Int).length) rfl hZ))) fun e22 h24 h25 h26 => sN (sq (sq (Rg (kx (faP h24 ⟨ble rfl, blt rfl⟩ rfl) (kx (ldPA rfl rfl rfl) (kx (mvO rfl) (Rn (hA h24 (hA h25 (hA h26 (hN rfl (hV (.int .i64 0) rfl hZ))))) fun e27 h29 h30 h31 h32 h33 => sN (bl (Ev.loop (RS := impl_halfText_b1_RS a1 (([] : Mem).length)) (RR := impl_halfText_b1_RR a1 (([] : Mem).length)) (fun s r h e M hs => impl_halfText_b1_ok a1 (([] : Mem).length) s r h e M hs) hr99 ⟨h29, h30, h31, h32, h33, o21⟩ fun x e101 M102 hq100 => ?_))))))))))
  clear h16 h17 h24 h25 h26
  obtain ⟨rfl, h104, h105, h106, o107⟩ := hq100
  refine bE (sN (sq (Rg (kx (mvO h105) (kx (mvO h106) (kx (cvB (elL rfl o107 rfl)) (ku (litO (xs := [([115, 116, 111, 99, 107] : List UInt8), (toB y103)]) (c := cS) (cns rfl (cns rfl rfl)) rfl (by decide)) fun M109 hM110 => ?_)))))))
  have o111 := push_old hM110 o107
  have ne112 := ne_new o107
  have o113 : M109[M102.length]? = some (.live ⟨.grow, 9, 1, [([115, 116, 111, 99, 107] : List UInt8), (toB y103)].map cS⟩) := push_new hM110
  obtain ⟨y202, hr198, h⟩ := bind_some h
  refine kx (mvO rfl) (Rn (hV (.pt none (.bool a1.Stock :: (.sl none (a1.Notches.map Notch.c) :: ((arC (cI .i8) 0 a1.Grain) ++ ([] : List AV))))) h104 (hV (.lsl M102.length [([115, 116, 111, 99, 107] : List UInt8), (toB y103)].length 0 [([115, 116, 111, 99, 107] : List UInt8), (toB y103)].length) rfl hZ)) fun e114 h116 h117 => sN (sq (sq (Rg (kx (faP h116 ⟨ble rfl, blt rfl⟩ rfl) (kx (ldP rfl rfl) (kx (lnS Tryd.underlying54 rfl) (kx (mvO rfl) (Rn (hA h117 (hN rfl (hN rfl (hV (.int .i64 0) rfl hZ)))) fun e118 h120 h121 h122 h123 => sN (bl (Ev.loop (RS := impl_halfText_b2_RS a1 M102.length) (RR := impl_halfText_b2_RR a1 M102.length) (fun s r h e M hs => impl_halfText_b2_ok a1 M102.length s r h e M hs) hr198 ⟨h120, h121, h122, h123, o113⟩ fun x e200 M201 hq199 => ?_)))))))))))
  clear h104 h105 h106 h116 h117
  obtain ⟨rfl, h203, o204⟩ := hq199
  obtain ⟨r206, hx205, h⟩ := bind_some h
  refine bE (sN (sq (Rg (kx (mvO h203) (kc (cl (v := .str r206) rfl (cns rfl (cns rfl rfl)) (ra1 (ra1_row o204 rfl cS_fl) (ra1 rfl ra0)) (strings_Join_ok y202 ([32] : List UInt8) _ hx205) (fun _ => rfl)) (kx (mvO rfl) (Rn (hN rfl hZ) fun e207 h209 => sN (xx ?_))))))))
  clear h203
  obtain rfl := si h
  exact eR (resT h209 res0) rfl
 refine cF h12 hb13 (xx (sN (sq (Rg (ku (litO (xs := ([] : List Int)) (c := (cI .u8)) rfl rfl (by decide)) fun M211 hM212 => ?_)))))
 have o213 : M211[([] : Mem).length]? = some (.live ⟨.grow, 5, 1, ([] : List Int).map (cI .u8)⟩) := push_new hM212
 obtain ⟨y295, hr291, h⟩ := bind_some h
 refine kx (mvO rfl) (Rn (hA h10 (hA h11 (hV (.lsl ([] : Mem).length ([] : List Int).length 0 ([] : List Int).length) rfl hZ))) fun e214 h216 h217 h218 => sN (sq (sq (Rg (kx (faP h216 ⟨ble rfl, blt rfl⟩ rfl) (kx (ldPA rfl rfl rfl) (kx (mvO rfl) (Rn (hA h216 (hA h217 (hA h218 (hN rfl (hV (.int .i64 0) rfl hZ))))) fun e219 h221 h222 h223 h224 h225 => sN (bl (Ev.loop (RS := impl_halfText_b3_RS a1 (([] : Mem).length)) (RR := impl_halfText_b3_RR a1 (([] : Mem).length)) (fun s r h e M hs => impl_halfText_b3_ok a1 (([] : Mem).length) s r h e M hs) hr291 ⟨h221, h222, h223, h224, h225, o213⟩ fun x e293 M294 hq292 => ?_))))))))))
 clear h10 h11 h12 h216 h217 h218
 obtain ⟨rfl, h296, h297, h298, o299⟩ := hq292
 refine bE (sN (sq (Rg (kx (mvO h297) (kx (mvO h298) (kx (cvB (elL rfl o299 rfl)) (ku (litO (xs := [([102, 111, 105, 108] : List UInt8), (toB y295)]) (c := cS) (cns rfl (cns rfl rfl)) rfl (by decide)) fun M301 hM302 => ?_)))))))
 have o303 := push_old hM302 o299
 have ne304 := ne_new o299
 have o305 : M301[M294.length]? = some (.live ⟨.grow, 9, 1, [([102, 111, 105, 108] : List UInt8), (toB y295)].map cS⟩) := push_new hM302
 obtain ⟨y394, hr390, h⟩ := bind_some h
 refine kx (mvO rfl) (Rn (hV (.pt none (.bool a1.Stock :: (.sl none (a1.Notches.map Notch.c) :: ((arC (cI .i8) 0 a1.Grain) ++ ([] : List AV))))) h296 (hV (.lsl M294.length [([102, 111, 105, 108] : List UInt8), (toB y295)].length 0 [([102, 111, 105, 108] : List UInt8), (toB y295)].length) rfl hZ)) fun e306 h308 h309 => sN (sq (sq (Rg (kx (faP h308 ⟨ble rfl, blt rfl⟩ rfl) (kx (ldP rfl rfl) (kx (lnS Tryd.underlying54 rfl) (kx (mvO rfl) (Rn (hA h309 (hN rfl (hN rfl (hV (.int .i64 0) rfl hZ)))) fun e310 h312 h313 h314 h315 => sN (bl (Ev.loop (RS := impl_halfText_b4_RS a1 M294.length) (RR := impl_halfText_b4_RR a1 M294.length) (fun s r h e M hs => impl_halfText_b4_ok a1 M294.length s r h e M hs) hr390 ⟨h312, h313, h314, h315, o305⟩ fun x e392 M393 hq391 => ?_)))))))))))
 clear h296 h297 h298 h308 h309
 obtain ⟨rfl, h395, o396⟩ := hq391
 obtain ⟨r398, hx397, h⟩ := bind_some h
 refine bE (sN (sq (Rg (kx (mvO h395) (kc (cl (v := .str r398) rfl (cns rfl (cns rfl rfl)) (ra1 (ra1_row o396 rfl cS_fl) (ra1 rfl ra0)) (strings_Join_ok y394 ([32] : List UInt8) _ hx397) (fun _ => rfl)) (kx (mvO rfl) (Rn (hN rfl hZ) fun e399 h401 => sN (xx ?_))))))))
 clear h395
 obtain rfl := si h
 exact eR (resT h401 res0) rfl
/-! ### loop.example/g01263/impl.ValidChain (f60) -/
def impl_ValidChain_c1_Q (a1 : Chain) (g : Bool) (q : Out) : Prop := q.1 = .nrm ∧ eget q.2.1 1 = .pt none (.str a1.Debtor :: (.bool a1.Stock.Stock :: (.sl none (a1.Stock.Notches.map Notch.c) :: ((arC (cI .i8) 0 a1.Stock.Grain) ++ ((.sl none (a1.Marks.map Mark.c) :: []) : List AV))))) ∧ eget q.2.1 33 = .bool g
abbrev impl_ValidChain_b1_S := (List UInt8) × Int
abbrev impl_ValidChain_b1_R := Unit ⊕ Unit
def impl_ValidChain_b1_RS (a1 : Chain) (s : impl_ValidChain_b1_S) (e : Env) (M : Mem) : Prop := eget e 3 = .str s.1 ∧ eget e 37 = .sl none (a1.Marks.map Mark.c) ∧ eget e 38 = .int .i64 (a1.Marks.length : Int) ∧ eget e 39 = .int .i64 s.2
def impl_ValidChain_b1_RR (a1 : Chain) (r : impl_ValidChain_b1_R) (x : Ex) (e : Env) (M : Mem) : Prop :=
  match r with
  | (.inl g) => x = .ret ∧ eget e 2 = .bool false
  | (.inr g) => x = .ext 0 ∧ True
noncomputable def impl_ValidChain_b1 (a1 : Chain) : impl_ValidChain_b1_S → Option (impl_ValidChain_b1_S ⊕ impl_ValidChain_b1_R) := fun (s1_1, s1_2) =>
 if (decide (s1_2 < (a1.Marks.length : Int))) = true then
  (rd a1.Marks s1_2).bind fun x79 =>
  (impl_isName x79.Holder).bind fun r96 =>
  if r96 = true then
   if (x79.Holder == s1_1) = true then
    some (.inr (.inl ()))
   else
    some (.inl (x79.Holder, (IntKind.i64.wrap (s1_2 + 1))))
  else
   some (.inr (.inl ()))
 else
  some (.inr (.inr ()))
theorem impl_ValidChain_b1_ok (a1 : Chain) (s : impl_ValidChain_b1_S) (r : impl_ValidChain_b1_S ⊕ impl_ValidChain_b1_R) (h : impl_ValidChain_b1 a1 s = some r) (e : Env) (M : Mem) (hs : impl_ValidChain_b1_RS a1 s e M) : Ev (fun k => (f60_l5 (CN k) k (prune [3, 37, 38, 39] e) M).bind fun q => some q) (bQ (impl_ValidChain_b1_RS a1) (impl_ValidChain_b1_RR a1) r) := by
 obtain ⟨s1_1, s1_2⟩ := s
 unfold impl_ValidChain_b1 at h
 obtain ⟨h63, h65, h67, h69⟩ := hs
 generalize he62 : prune [3, 37, 38, 39] e = e61
 have h64 := envp he62.symm rfl h63
 have h66 := envp he62.symm rfl h65
 have h68 := envp he62.symm rfl h67
 have h70 := envp he62.symm rfl h69
 refine sq (Rg (kx (bLss h70 h68) (Rn (hV (.str s1_1) h64 (hV (.sl none (a1.Marks.map Mark.c)) h66 (hV (.int .i64 (a1.Marks.length : Int)) h68 (hV (.int .i64 s1_2) h70 (hN rfl hZ))))) fun e71 h73 h74 h75 h76 h77 => sN (sq ?_))))
 clear h64 h66 h68 h70
 rcases ite_some h with ⟨hb78, h⟩ | ⟨hb78, h⟩
 ·obtain ⟨x79, hx80, h⟩ := bind_some h
  refine cT h77 hb78 (xx (sN (sq (bl (sq (Rg (kx (ixS h74 h76 hx80 Mark.fl) (kx (ldPA rfl rfl rfl) (ku (alO zero107) fun M82 hM83 => ?_)))))))))
  have o84 : M82[M.length]? = some (.live ⟨.box, 107, 2, [[.str ([] : List UInt8), .int .u32 0]]⟩) := push_new hM83
  refine kw (stO rfl rfl o84 rfl rfl ⟨rfl, ble rfl⟩ rfl rfl) fun M85 hM86 => ?_
  have o87 : M85[M.length]? = some (.live ⟨.box, 107, 2, [[.str x79.Holder, .int .u32 x79.Seal]]⟩) := set_same hM86 o84
  obtain ⟨r96, hx95, h⟩ := bind_some h
  refine Rn (hA h73 (hV (.loc M.length 1 0 0) rfl (hA h74 (hA h75 (hA h76 hZ))))) fun e88 h90 h91 h92 h93 h94 => sN (sq (sq (Rg (kx (faO h91 o87 rfl) (kx (ldO rfl o87 rfl rfl rfl) (kc (cl (v := .bool r96) rfl (cns rfl rfl) rfl (impl_isName_ok x79.Holder _ hx95) nm) (kx (uNot rfl) (kx (mvO rfl) ?_))))))))
  clear h73 h74 h75 h76 h77
  rcases ite_some h with ⟨hb97, h⟩ | ⟨hb97, h⟩
  ·refine kx (guF rfl (congrArg Bool.not hb97) (faO h91 o87 rfl)) (kx (guF rfl (congrArg Bool.not hb97) (ldO rfl o87 rfl rfl rfl)) (kx (guF rfl (congrArg Bool.not hb97) (mvO h90)) (kx (guF rfl (congrArg Bool.not hb97) (sEql rfl rfl)) (kx (pkF rfl (congrArg Bool.not hb97) rfl) (Rn (hA h91 (hA h92 (hA h93 (hA h94 (hN rfl hZ))))) fun e98 h100 h101 h102 h103 h104 => sN ?_)))))
   clear h90 h91 h92 h93 h94
   rcases ite_some h with ⟨hb105, h⟩ | ⟨hb105, h⟩
   ·refine cT h104 hb105 (sq (Rg (kx (mvO rfl) (Rn (hV (.bool false) rfl hZ) fun e106 h108 => sN (xx (sR (bR (sR ?_))))))))
    clear h100 h101 h102 h103 h104
    obtain rfl := si h
    exact qR ⟨rfl, h108⟩
   refine cF h104 hb105 (xx (sN (Rg (kx (faO h100 o87 rfl) (kx (ldO rfl o87 rfl rfl rfl) (kx (mvO rfl) (Rn (hN rfl (hA h101 (hA h102 (hA h103 hZ)))) fun e109 h111 h112 h113 h114 => bN (sN (Rg (kx (bAdd h114 rfl) (kx (mvO rfl) (Rn (hA h111 (hA h112 (hA h113 (hN rfl hZ)))) fun e115 h117 h118 h119 h120 => ?_))))))))))))
   clear h100 h101 h102 h103 h104 h111 h112 h113
   obtain rfl := si h
   exact qN ⟨h117, h118, h119, h120⟩
  refine kx (gsF rfl (congrArg Bool.not hb97)) (kx (gsF rfl (congrArg Bool.not hb97)) (kx (gsF rfl (congrArg Bool.not hb97)) (kx (gsF rfl (congrArg Bool.not hb97)) (kx (pkT rfl (congrArg Bool.not hb97) rfl) (Rn (hA h91 (hA h92 (hA h93 (hA h94 (hV (.bool true) rfl hZ))))) fun e121 h123 h124 h125 h126 h127 => sN (cT h127 rfl (sq (Rg (kx (mvO rfl) (Rn (hV (.bool false) rfl hZ) fun e128 h130 => sN (xx (sR (bR (sR ?_))))))))))))))
  clear h90 h91 h92 h93 h94 h123 h124 h125 h126 h127
  obtain rfl := si h
  exact qR ⟨rfl, h130⟩
 refine cF h77 hb78 (xx (sE ?_))
 obtain rfl := si h
 exact qE ⟨rfl, trivial⟩
noncomputable def impl_ValidChain (a1 : Chain) : Option Bool :=
 ((impl_isName a1.Debtor).bind fun r5 =>
 if r5 = true then
  (impl_ValidHalf a1.Stock).bind fun r8 =>
  if r8 = true then
   if a1.Stock.Stock = true then
    if (decide ((a1.Marks.length : Int) < 1)) = true then
     some true
    else
     some (decide ((a1.Marks.length : Int) > 30))
   else
    some true
  else
   some true
 else
  some true).bind fun y34 =>
 if y34 = true then
  some false
 else
  (Lw (impl_ValidChain_b1 a1) (a1.Debtor, 0)).bind fun r => match r with
  | (.inl _) =>
   some false
  | (.inr _) =>
   some true
def impl_ValidChain_enc (r : Bool) : AV := .bool r
theorem impl_ValidChain_ok (a1 : Chain) (r : Bool) (h : impl_ValidChain a1 = some r) : Ev (fun k => CN k 60 [.agg (.str a1.Debtor :: (.bool a1.Stock.Stock :: (.sl none (a1.Stock.Notches.map Notch.c) :: ((arC (cI .i8) 0 a1.Stock.Grain) ++ ((.sl none (a1.Marks.map Mark.c) :: []) : List AV)))))] []) (fun p => rRes p.2 p.1 = impl_ValidChain_enc r) := by
 unfold impl_ValidChain at h
 obtain ⟨r143, hr144, h⟩ := bind_some h
 refine Ev.enter (F := fun k => f60 (CN k) k) (fun k => callN_eq rfl Tryd.func60 rfl rfl rfl (by decide +kernel) (f60_eq _ _)) (sq (Rg (kx (bxI rfl rfl ⟨rfl, rfl, by decide⟩) (kx (mvO rfl) (Rn (hN rfl hZ) fun e1 h3 => sN (sq (sq ?_)))))))
 refine Ev.cut (Q1 := impl_ValidChain_c1_Q a1 r143) (by
     have h := hr144
     obtain ⟨r5, hx4, h⟩ := bind_some h
     refine Rg (kx (faP h3 ⟨ble rfl, blt rfl⟩ rfl) (kx (ldP rfl rfl) (kc (cl (v := .bool r5) rfl (cns rfl rfl) rfl (impl_isName_ok a1.Debtor _ hx4) nm) (kx (uNot rfl) (kx (mvO rfl) ?_)))))
     rcases ite_some h with ⟨hb6, h⟩ | ⟨hb6, h⟩
     ·obtain ⟨r8, hx7, h⟩ := bind_some h
      refine kx (guF rfl (congrArg Bool.not hb6) (faP h3 ⟨ble rfl, blt rfl⟩ rfl)) (kx (guF rfl (congrArg Bool.not hb6) (ldPA rfl rfl rfl)) (kc (Ev.guF rfl (congrArg Bool.not hb6) (cl (v := .bool r8) rfl (cns rfl rfl) rfl (impl_ValidHalf_ok a1.Stock _ hx7) nm)) (kx (guF rfl (congrArg Bool.not hb6) (uNot rfl)) (kx (pkF rfl (congrArg Bool.not hb6) rfl) (kx (mvO rfl) ?_)))))
      rcases ite_some h with ⟨hb9, h⟩ | ⟨hb9, h⟩
      ·refine kx (guF rfl (congrArg Bool.not hb9) (faP h3 ⟨ble rfl, blt rfl⟩ rfl)) (kx (guF rfl (congrArg Bool.not hb9) (faP rfl ⟨ble rfl, blt rfl⟩ rfl)) (kx (guF rfl (congrArg Bool.not hb9) (ldP rfl rfl)) (kx (guF rfl (congrArg Bool.not hb9) (uNot rfl)) (kx (pkF rfl (congrArg Bool.not hb9) rfl) (kx (mvO rfl) ?_)))))
       rcases ite_some h with ⟨hb10, h⟩ | ⟨hb10, h⟩
       ·refine kx (guF rfl (congrArg Bool.not hb10) (faP h3 ⟨ble rfl, blt rfl⟩ rfl)) (kx (guF rfl (congrArg Bool.not hb10) (ldP rfl rfl)) (kx (guF rfl (congrArg Bool.not hb10) (lnS Tryd.underlying58 rfl)) (kx (guF rfl (congrArg Bool.not hb10) (bLss rfl rfl)) (kx (pkF rfl (congrArg Bool.not hb10) rfl) (kx (mvO rfl) ?_)))))
        rcases ite_some h with ⟨hb11, h⟩ | ⟨hb11, h⟩
        ·refine kx (gsF rfl hb11) (kx (gsF rfl hb11) (kx (gsF rfl hb11) (kx (gsF rfl hb11) (kx (pkT rfl hb11 rfl) (Rn (hA h3 (hV (.bool true) rfl hZ)) fun e12 h14 h15 => ?_)))))
         clear h3
         obtain rfl := si h
         exact kd (show impl_ValidChain_c1_Q a1 _ _ from ⟨rfl, h14, h15⟩)
        refine kx (guF rfl hb11 (faP h3 ⟨ble rfl, blt rfl⟩ rfl)) (kx (guF rfl hb11 (ldP rfl rfl)) (kx (guF rfl hb11 (lnS Tryd.underlying58 rfl)) (kx (guF rfl hb11 (bGtr rfl rfl)) (kx (pkF rfl hb11 rfl) (Rn (hA h3 (hN rfl hZ)) fun e16 h18 h19 => ?_)))))
        clear h3
        obtain rfl := si h
        exact kd (show impl_ValidChain_c1_Q a1 _ _ from ⟨rfl, h18, h19⟩)
       refine kx (gsF rfl (congrArg Bool.not hb10)) (kx (gsF rfl (congrArg Bool.not hb10)) (kx (gsF rfl (congrArg Bool.not hb10)) (kx (gsF rfl (congrArg Bool.not hb10)) (kx (pkT rfl (congrArg Bool.not hb10) rfl) (kx (mvO rfl) (kx (gsF rfl rfl) (kx (gsF rfl rfl) (kx (gsF rfl rfl) (kx (gsF rfl rfl) (kx (pkT rfl rfl rfl) (Rn (hA h3 (hV (.bool true) rfl hZ)) fun e20 h22 h23 => ?_)))))))))))
       clear h3
       obtain rfl := si h
       exact kd (show impl_ValidChain_c1_Q a1 _ _ from ⟨rfl, h22, h23⟩)
      refine kx (gsF rfl (congrArg Bool.not hb9)) (kx (gsF rfl (congrArg Bool.not hb9)) (kx (gsF rfl (congrArg Bool.not hb9)) (kx (gsF rfl (congrArg Bool.not hb9)) (kx (pkT rfl (congrArg Bool.not hb9) rfl) (kx (mvO rfl) (kx (gsF rfl rfl) (kx (gsF rfl rfl) (kx (gsF rfl rfl) (kx (gsF rfl rfl) (kx (pkT rfl rfl rfl) (kx (mvO rfl) (kx (gsF rfl rfl) (kx (gsF rfl rfl) (kx (gsF rfl rfl) (kx (gsF rfl rfl) (kx (pkT rfl rfl rfl) (Rn (hA h3 (hV (.bool true) rfl hZ)) fun e24 h26 h27 => ?_)))))))))))))))))
      clear h3
      obtain rfl := si h
      exact kd (show impl_ValidChain_c1_Q a1 _ _ from ⟨rfl, h26, h27⟩)
     refine kx (gsF rfl (congrArg Bool.not hb6)) (kx (gsF rfl (congrArg Bool.not hb6)) (kc (Ev.gsF rfl (congrArg Bool.not hb6)) (kx (gsF rfl (congrArg Bool.not hb6)) (kx (pkT rfl (congrArg Bool.not hb6) rfl) (kx (mvO rfl) (kx (gsF rfl rfl) (kx (gsF rfl rfl) (kx (gsF rfl rfl) (kx (gsF rfl rfl) (kx (pkT rfl rfl rfl) (kx (mvO rfl) (kx (gsF rfl rfl) (kx (gsF rfl rfl) (kx (gsF rfl rfl) (kx (gsF rfl rfl) (kx (pkT rfl rfl rfl) (kx (mvO rfl) (kx (gsF rfl rfl) (kx (gsF rfl rfl) (kx (gsF rfl rfl) (kx (gsF rfl rfl) (kx (pkT rfl rfl rfl) (Rn (hA h3 (hV (.bool true) rfl hZ)) fun e28 h30 h31 => ?_)))))))))))))))))))))))
     clear h3
     obtain rfl := si h
     exact kd (show impl_ValidChain_c1_Q a1 _ _ from ⟨rfl, h30, h31⟩)) ?_
 revert h hr144
 revert r143
 intro y34 hr144 h
 intro x e32 M33 hq142
 obtain ⟨rfl, h35, h36⟩ := hq142
 refine sN ?_
 rcases ite_some h with ⟨hb37, h⟩ | ⟨hb37, h⟩
 ·refine cT h36 hb37 (sq (Rg (kx (mvO rfl) (Rn (hV (.bool false) rfl hZ) fun e38 h40 => sN (xx (sR ?_))))))
  clear h35 h36
  obtain rfl := si h
  exact eR (resT h40 res0) rfl
 obtain ⟨r131, hr132, h⟩ := bind_some h
 refine cF h36 hb37 (xx (sN (sq (Rg (kx (faP h35 ⟨ble rfl, blt rfl⟩ rfl) (kx (ldP rfl rfl) (kx (mvO rfl) (Rn (hV (.pt none (.str a1.Debtor :: (.bool a1.Stock.Stock :: (.sl none (a1.Stock.Notches.map Notch.c) :: ((arC (cI .i8) 0 a1.Stock.Grain) ++ ((.sl none (a1.Marks.map Mark.c) :: []) : List AV)))))) h35 (hN rfl hZ)) fun e41 h43 h44 => sN (sq (sq (Rg (kx (faP h43 ⟨ble rfl, blt rfl⟩ rfl) (kx (ldP rfl rfl) (kx (lnS Tryd.underlying58 rfl) (kx (mvO rfl) (Rn (hA h44 (hN rfl (hN rfl (hV (.int .i64 0) rfl hZ)))) fun e45 h47 h48 h49 h50 => sN (bl ?_)))))))))))))))))
 clear h35 h36 h43 h44
 rcases r131 with _ | _
 ·refine Ev.loop (RS := impl_ValidChain_b1_RS a1) (RR := impl_ValidChain_b1_RR a1) (fun s r h e M hs => impl_ValidChain_b1_ok a1 s r h e M hs) hr132 ⟨h47, h48, h49, h50⟩ fun x e134 M135 hq133 => ?_
  obtain ⟨rfl, h136⟩ := hq133
  refine bR (sR ?_)
  obtain rfl := si h
  exact eR (resT h136 res0) rfl
 refine Ev.loop (RS := impl_ValidChain_b1_RS a1) (RR := impl_ValidChain_b1_RR a1) (fun s r h e M hs => impl_ValidChain_b1_ok a1 s r h e M hs) hr132 ⟨h47, h48, h49, h50⟩ fun x e137 M138 hq133 => ?_
 obtain ⟨rfl, _⟩ := hq133
 refine bE (sN (sq (Rg (kx (mvO rfl) (Rn (hV (.bool true) rfl hZ) fun e139 h141 => sN (xx ?_))))))
 obtain rfl := si h
 exact eR (resT h141 res0) rfl
/-! ### loop.example/g01263/laws.toMarkS (f59) -/
abbrev laws_toMarkS_b1_S := Int × (List Mark)
abbrev laws_toMarkS_b1_R := (List Mark)
def laws_toMarkS_b1_RS (a1 : List Mark) (x4 : List Mark) (i1_1 : Nat) (s : laws_toMarkS_b1_S) (e : Env) (M : Mem) : Prop := eget e 0 = .sl none (a1.map Mark.c) ∧ eget e 3 = .lsl i1_1 s.2.length 0 s.2.length ∧ eget e 4 = .int .i64 s.1 ∧ M[i1_1]? = some (.live ⟨.grow, 107, 2, s.2.map Mark.c⟩) ∧ s.2.length = x4.length
def laws_toMarkS_b1_RR (a1 : List Mark) (x4 : List Mark) (i1_1 : Nat) (g : laws_toMarkS_b1_R) (x : Ex) (e : Env) (M : Mem) : Prop := x = .ext 0 ∧ eget e 3 = .lsl i1_1 g.length 0 g.length ∧ M[i1_1]? = some (.live ⟨.grow, 107, 2, g.map Mark.c⟩) ∧ g.length = x4.length
noncomputable def laws_toMarkS_b1 (a1 : List Mark) : laws_toMarkS_b1_S → Option (laws_toMarkS_b1_S ⊕ laws_toMarkS_b1_R) := fun (s1_1, s1_2) =>
 if (decide (s1_1 < (a1.length : Int))) = true then
  (rd a1 s1_1).bind fun x45 =>
  (laws_toMark x45).bind fun (r48, r49) =>
  (rd s1_2 s1_1).bind fun x50 =>
  some (.inl ((IntKind.i64.wrap (s1_1 + 1)), (s1_2.set s1_1.toNat (Mark.mk r48 r49))))
 else
  some (.inr s1_2)
theorem laws_toMarkS_b1_ok (a1 : List Mark) (x4 : List Mark) (i1_1 : Nat) (s : laws_toMarkS_b1_S) (r : laws_toMarkS_b1_S ⊕ laws_toMarkS_b1_R) (h : laws_toMarkS_b1 a1 s = some r) (e : Env) (M : Mem) (hs : laws_toMarkS_b1_RS a1 x4 i1_1 s e M) : Ev (fun k => (f59_l3 (CN k) k (prune [0, 3, 4] e) M).bind fun q => some q) (bQ (laws_toMarkS_b1_RS a1 x4 i1_1) (laws_toMarkS_b1_RR a1 x4 i1_1) r) := by
 obtain ⟨s1_1, s1_2⟩ := s
 unfold laws_toMarkS_b1 at h
 obtain ⟨h30, h32, h34, o36, hl37⟩ := hs
 generalize he29 : prune [0, 3, 4] e = e28
 have h31 := envp he29.symm rfl h30
 have h33 := envp he29.symm rfl h32
 have h35 := envp he29.symm rfl h34
 refine sq (sq (Rg (kx (mvO h35) (kx (mvO h31) (kx (lnS Tryd.underlying49 rfl) (kx (bLss rfl rfl) (Rn (hV (.sl none (a1.map Mark.c)) h31 (hV (.lsl i1_1 s1_2.length 0 s1_2.length) h33 (hV (.int .i64 s1_1) h35 (hN rfl hZ)))) fun e38 h40 h41 h42 h43 => sN ?_)))))))
 clear h31 h33 h35
 rcases ite_some h with ⟨hb44, h⟩ | ⟨hb44, h⟩
 ·obtain ⟨x45, hx46, h⟩ := bind_some h
  obtain ⟨⟨r48, r49⟩, hx47, h⟩ := bind_some h
  obtain ⟨x50, hx51, h⟩ := bind_some h
  refine cT h43 hb44 (xx (sN (sq (bl (Rg (kx (mvO h41) (kx (mvO h42) (kx (mvO h40) (kx (mvO h42) (kx (ixS rfl rfl hx46 Mark.fl) (kx (ldPA rfl rfl rfl) (kc (cl (v := .agg [.str r48, .int .u32 r49]) rfl (cns rfl rfl) rfl (laws_toMark_ok x45 _ hx47) nm) (kx (ixO rfl o36 rfl rfl (rd_get hx51).1 (rd_lt hx51).2) (kw (stR (u := x50) (u' := (Mark.mk r48 r49)) rfl rfl o36 rfl (rz2 hx51) ⟨rfl, ble rfl⟩ rfl rfl) fun M52 hM53 => ?_))))))))))))))
  rw [Nat.zero_add] at hM53
  have o54 : M52[i1_1]? = some (.live ⟨.grow, 107, 2, (s1_2.set s1_1.toNat (Mark.mk r48 r49)).map Mark.c⟩) := set_same hM53 o36
  have hx55 := rd_set (u' := (Mark.mk r48 r49)) hx51
  refine Rn (hA h40 (hA h41 (hA h42 hZ))) fun e56 h58 h59 h60 => bN (sN (Rg (kx (mvO h60) (kx (bAdd rfl rfl) (kx (mvO rfl) (Rn (hA h58 (hA h59 (hN rfl hZ))) fun e61 h63 h64 h65 => ?_))))))
  clear h40 h41 h42 h43 h58 h59
  obtain rfl := si h
  exact qN ⟨h63, (lslL (L' := (s1_2.set s1_1.toNat (Mark.mk r48 r49)).length) h64 (by simp [hl37])), h65, o54, (by first | rfl | simp [hl37])⟩
 refine cF h43 hb44 (xx (sE ?_))
 obtain rfl := si h
 exact qE ⟨rfl, h41, o36, (by first | rfl | simp [hl37])⟩
noncomputable def laws_toMarkS (a1 : List Mark) : Option ((List Mark)) :=
 (mkS 24 (Mark.mk ([] : List UInt8) 0) (a1.length : Int)).bind fun x4 =>
 (Lw (laws_toMarkS_b1 a1) (0, x4)).bind fun y71 =>
 some y71
def laws_toMarkS_enc (r : (List Mark)) : AV := .sl (some 107) (r.map Mark.c)
theorem laws_toMarkS_ok (a1 : List Mark) (r : (List Mark)) (h : laws_toMarkS a1 = some r) : Ev (fun k => CN k 59 [.sl none (a1.map Mark.c)] []) (fun p => rRes p.2 p.1 = laws_toMarkS_enc r) := by
 unfold laws_toMarkS at h
 obtain ⟨x4, hx5, h⟩ := bind_some h
 refine Ev.enter (F := fun k => f59 (CN k) k) (fun k => callN_eq rfl Tryd.func59 rfl rfl rfl (by decide +kernel) (f59_eq _ _)) (sq (Rg (kx (mvO rfl) (Rn (hN rfl hZ) fun e1 h3 => sN (sq (Rg (kx (mvO h3) (kx (lnS Tryd.underlying49 rfl) (ku (mkO rfl rfl hx5 (c := Mark.c) zero107 Mark.fl (by decide)) fun M7 hM8 => ?_)))))))))
 have o9 : M7[([] : Mem).length]? = some (.live ⟨.grow, 107, 2, x4.map Mark.c⟩) := push_new hM8
 obtain ⟨y71, hr67, h⟩ := bind_some h
 refine kx (mvO rfl) (Rn (hA h3 (hV (.lsl ([] : Mem).length x4.length 0 x4.length) rfl hZ)) fun e10 h12 h13 => sN (sq (sq (Rg (kx (mvO rfl) (Rn (hA h12 (hA h13 (hV (.int .i64 0) rfl hZ))) fun e14 h16 h17 h18 => sN (bl (Ev.loop (RS := laws_toMarkS_b1_RS a1 x4 (([] : Mem).length)) (RR := laws_toMarkS_b1_RR a1 x4 (([] : Mem).length)) (fun s r h e M hs => laws_toMarkS_b1_ok a1 x4 (([] : Mem).length) s r h e M hs) hr67 ⟨h16, h17, h18, o9, rfl⟩ fun x e69 M70 hq68 => ?_))))))))
 clear h3 h12 h13
 obtain ⟨rfl, h72, o73, hl74⟩ := hq68
 refine bE (sN (sq (Rg (kx (mvO h72) (kx (mvO rfl) (Rn (hV (.lsl ([] : Mem).length y71.length 0 y71.length) rfl hZ) fun e75 h77 => sN (xx ?_)))))))
 clear h72
 obtain rfl := si h
 exact eR (resT h77 res0) (rr_row o73 rfl Mark.fl)
/-! ### loop.example/g01263/laws.toHalf (f58) -/
noncomputable def laws_toHalf (a1 : Half) : Option (Bool × (List Notch) × (Ar 16 Int)) :=
 (laws_toNotchS a1.Notches).bind fun r30 =>
 (laws_toGrain a1.Grain).bind fun r41 =>
 some (a1.Stock, r30, r41)
def laws_toHalf_enc (r : Bool × (List Notch) × (Ar 16 Int)) : AV := .agg (.bool r.1 :: (.sl none (r.2.1.map Notch.c) :: ((arC (cI .i8) 0 r.2.2) ++ ([] : List AV))))
theorem laws_toHalf_ok (a1 : Half) (r : Bool × (List Notch) × (Ar 16 Int)) (h : laws_toHalf a1 = some r) : Ev (fun k => CN k 58 [.agg (.bool a1.Stock :: (.sl none (a1.Notches.map Notch.c) :: ((arC (cI .i8) 0 a1.Grain) ++ ([] : List AV))))] []) (fun p => rRes p.2 p.1 = laws_toHalf_enc r) := by
 unfold laws_toHalf at h
 refine Ev.enter (F := fun k => f58 (CN k) k) (fun k => callN_eq rfl Tryd.func58 rfl rfl rfl (by decide +kernel) (f58_eq _ _)) (sq (Rg (kx (bxI rfl rfl ⟨rfl, rfl, by decide⟩) (ku (alO zero57) fun M2 hM3 => ?_))))
 have o4 : M2[([] : Mem).length]? = some (.live ⟨.box, 57, 18, [(.bool false :: (.nils :: ((arC (cI .i8) 0 (Ar.rep 16 0)) ++ ([] : List AV))))]⟩) := push_new hM3
 refine Rn (hN rfl (hV (.loc ([] : Mem).length 1 0 0) rfl hZ)) fun e5 h7 h8 => sN (sq (Rg (ku (alO zero57) fun M10 hM11 => ?_)))
 have o12 := push_old hM11 o4
 have ne13 := ne_new o4
 have o14 : M10[M2.length]? = some (.live ⟨.box, 57, 18, [(.bool false :: (.nils :: ((arC (cI .i8) 0 (Ar.rep 16 0)) ++ ([] : List AV))))]⟩) := push_new hM11
 refine Rn (hA h7 (hA h8 (hV (.loc M2.length 1 0 0) rfl hZ))) fun e15 h17 h18 h19 => sN (sq (Rg (kx (faP h17 ⟨ble rfl, blt rfl⟩ rfl) (kx (ldP rfl rfl) (kx (faO h19 o14 rfl) (kw (stO rfl rfl o14 rfl rfl ⟨rfl, ble rfl⟩ rfl rfl) fun M20 hM21 => ?_))))))
 clear h7 h8
 have o22 := set_ne hM21 ne13 o12
 have o23 : M20[M2.length]? = some (.live ⟨.box, 57, 18, [(.bool a1.Stock :: (.nils :: ((arC (cI .i8) 0 (Ar.rep 16 0)) ++ ([] : List AV))))]⟩) := set_same hM21 o14
 obtain ⟨r30, hx29, h⟩ := bind_some h
 refine Rn (hA h17 (hA h18 (hA h19 hZ))) fun e24 h26 h27 h28 => sN (sq (Rg (kx (faP h26 ⟨ble rfl, blt rfl⟩ rfl) (kx (ldP rfl rfl) (kc (cl (v := .sl (some 156) (r30.map Notch.c)) rfl (cns rfl rfl) rfl (laws_toNotchS_ok a1.Notches _ hx29) nm) (kx (faO h28 o23 rfl) (kw (stO rfl rfl o23 rfl rfl ⟨rfl, ble rfl⟩ rfl rfl) fun M31 hM32 => ?_)))))))
 clear h17 h18 h19
 have o33 := set_ne hM32 ne13 o22
 have o34 : M31[M2.length]? = some (.live ⟨.box, 57, 18, [(.bool a1.Stock :: (.sl none (r30.map Notch.c) :: ((arC (cI .i8) 0 (Ar.rep 16 0)) ++ ([] : List AV))))]⟩) := set_same hM32 o23
 obtain ⟨r41, hx40, h⟩ := bind_some h
 refine Rn (hA h26 (hA h27 (hA h28 hZ))) fun e35 h37 h38 h39 => sN (sq (Rg (kx (faP h37 ⟨ble rfl, blt rfl⟩ rfl) (kx (ldPA rfl rfl rfl) (kc (cl (v := .agg (arC (cI .i8) 0 r41)) rfl (cns rfl rfl) rfl (laws_toGrain_ok a1.Grain _ hx40) nm) (kx (faO h39 o34 rfl) (kw (stO rfl rfl o34 rfl rfl ⟨rfl, ble rfl⟩ rfl rfl) fun M42 hM43 => ?_)))))))
 clear h26 h27 h28
 have o44 := set_ne hM43 ne13 o33
 have o45 : M42[M2.length]? = some (.live ⟨.box, 57, 18, [(.bool a1.Stock :: (.sl none (r30.map Notch.c) :: ((arC (cI .i8) 0 r41) ++ ([] : List AV))))]⟩) := set_same hM43 o34
 refine Rn (hA h38 (hA h39 hZ)) fun e46 h48 h49 => sN (sq (Rg (kx (ldOA (cs' := (.bool a1.Stock :: (.sl none (r30.map Notch.c) :: ((arC (cI .i8) 0 r41) ++ ([] : List AV))))) h49 o45 rfl rfl (ble rfl) rfl) (kw (stO h48 rfl o44 rfl rfl ⟨rfl, ble rfl⟩ rfl rfl) fun M50 hM51 => ?_))))
 clear h37 h38 h39
 have o52 : M50[([] : Mem).length]? = some (.live ⟨.box, 57, 18, [(.bool a1.Stock :: (.sl none (r30.map Notch.c) :: ((arC (cI .i8) 0 r41) ++ ([] : List AV))))]⟩) := set_same hM51 o44
 have o53 := set_ne hM51 (Ne.symm ne13) o45
 refine Rn (hA h48 hZ) fun e54 h56 => sN (xx ?_)
 clear h48 h49
 obtain rfl := si h
 exact eR (resC (ag := true) (sz := 18) ⟨by kernel_rfl, by kernel_rfl, by kernel_rfl⟩ (ldOA (cs' := (.bool a1.Stock :: (.sl none (r30.map Notch.c) :: ((arC (cI .i8) 0 r41) ++ ([] : List AV))))) h56 o52 rfl rfl (ble rfl) rfl) res0) rfl
/-! ### loop.example/g01263/spec.l06Chain (f57) -/
abbrev spec_l06Chain_b1_S := (List UInt8) × Int
abbrev spec_l06Chain_b1_R := (List UInt8)
def spec_l06Chain_b1_RS (a1 : Chain) (s : spec_l06Chain_b1_S) (e : Env) (M : Mem) : Prop := eget e 0 = .pt none (.str a1.Debtor :: (.bool a1.Stock.Stock :: (.sl none (a1.Stock.Notches.map Notch.c) :: ((arC (cI .i8) 0 a1.Stock.Grain) ++ ((.sl none (a1.Marks.map Mark.c) :: []) : List AV))))) ∧ eget e 3 = .str s.1 ∧ eget e 4 = .int .i64 s.2
def spec_l06Chain_b1_RR (a1 : Chain) (g : spec_l06Chain_b1_R) (x : Ex) (e : Env) (M : Mem) : Prop := x = .ext 0 ∧ eget e 3 = .str g
noncomputable def spec_l06Chain_b1 (a1 : Chain) : spec_l06Chain_b1_S → Option (spec_l06Chain_b1_S ⊕ spec_l06Chain_b1_R) := fun (s1_1, s1_2) =>
 if (decide (s1_2 < (a1.Marks.length : Int))) = true then
  (rd a1.Marks s1_2).bind fun x44 =>
  (sadd x44.Holder ([32] : List UInt8)).bind fun w46 =>
  (rd a1.Marks s1_2).bind fun x48 =>
  (spec_l06Hex x48.Seal).bind fun r51 =>
  (sadd w46 r51).bind fun w52 =>
  (sadd w52 ([10] : List UInt8)).bind fun w54 =>
  (sadd s1_1 w54).bind fun w56 =>
  some (.inl (w56, (IntKind.i64.wrap (s1_2 + 1))))
 else
  some (.inr s1_1)
theorem spec_l06Chain_b1_ok (a1 : Chain) (s : spec_l06Chain_b1_S) (r : spec_l06Chain_b1_S ⊕ spec_l06Chain_b1_R) (h : spec_l06Chain_b1 a1 s = some r) (e : Env) (M : Mem) (hs : spec_l06Chain_b1_RS a1 s e M) : Ev (fun k => (f57_l3 (CN k) k (prune [0, 3, 4] e) M).bind fun q => some q) (bQ (spec_l06Chain_b1_RS a1) (spec_l06Chain_b1_RR a1) r) := by
 obtain ⟨s1_1, s1_2⟩ := s
 unfold spec_l06Chain_b1 at h
 obtain ⟨h31, h33, h35⟩ := hs
 generalize he30 : prune [0, 3, 4] e = e29
 have h32 := envp he30.symm rfl h31
 have h34 := envp he30.symm rfl h33
 have h36 := envp he30.symm rfl h35
 refine sq (sq (Rg (kx (mvO h36) (kx (mvO h32) (kx (ncP rfl) (kx (faP rfl ⟨ble rfl, blt rfl⟩ rfl) (kx (ldP rfl rfl) (kx (lnS Tryd.underlying58 rfl) (kx (bLss rfl rfl) (Rn (hV (.pt none (.str a1.Debtor :: (.bool a1.Stock.Stock :: (.sl none (a1.Stock.Notches.map Notch.c) :: ((arC (cI .i8) 0 a1.Stock.Grain) ++ ((.sl none (a1.Marks.map Mark.c) :: []) : List AV)))))) h32 (hV (.str s1_1) h34 (hV (.int .i64 s1_2) h36 (hN rfl hZ)))) fun e37 h39 h40 h41 h42 => sN ?_))))))))))
 clear h32 h34 h36
 rcases ite_some h with ⟨hb43, h⟩ | ⟨hb43, h⟩
 ·obtain ⟨x44, hx45, h⟩ := bind_some h
  obtain ⟨w46, hx47, h⟩ := bind_some h
  obtain ⟨x48, hx49, h⟩ := bind_some h
  obtain ⟨r51, hx50, h⟩ := bind_some h
  obtain ⟨w52, hx53, h⟩ := bind_some h
  obtain ⟨w54, hx55, h⟩ := bind_some h
  obtain ⟨w56, hx57, h⟩ := bind_some h
  refine cT h42 hb43 (xx (sN (sq (bl (Rd (kf (mvO h40) (kf (mvO h39) (kf (ncP rfl) (kf (faP rfl ⟨ble rfl, blt rfl⟩ rfl) (kf (ldP rfl rfl) (kf (mvO h41) (kf (ixS rfl rfl hx45 Mark.fl) (kf (faP rfl ⟨ble rfl, blt rfl⟩ rfl) (kf (ldP rfl rfl) (kf (sAdd rfl rfl hx47) (kf (mvO h39) (kf (ncP rfl) (kf (faP rfl ⟨ble rfl, blt rfl⟩ rfl) (kf (ldP rfl rfl) (kf (mvO h41) (kf (ixS rfl rfl hx49 Mark.fl) (kf (faP rfl ⟨ble rfl, blt rfl⟩ rfl) (kf (ldP rfl rfl) (fc (cl (v := .str r51) rfl (cns rfl rfl) rfl (spec_l06Hex_ok x48.Seal _ hx50) nm) (kf (sAdd rfl rfl hx53) (kf (sAdd rfl rfl hx55) (kf (sAdd rfl rfl hx57) (kf (mvO rfl) (fZ (Rn (hA h39 (hN rfl (hA h41 hZ))) fun e58 h60 h61 h62 => bN (sN (Rg (kx (mvO h62) (kx (bAdd rfl rfl) (kx (mvO rfl) (Rn (hA h60 (hA h61 (hN rfl hZ))) fun e63 h65 h66 h67 => ?_))))))))))))))))))))))))))))))))))))
  clear h39 h41 h42 h60 h61
  obtain rfl := si h
  exact qN ⟨h65, h66, h67⟩
 refine cF h42 hb43 (xx (sE ?_))
 obtain rfl := si h
 exact qE ⟨rfl, h40⟩
noncomputable def spec_l06Chain (a1 : Chain) : Option ((List UInt8)) :=
 (sadd a1.Debtor ([32] : List UInt8)).bind fun w4 =>
 (spec_l01Text a1.Stock).bind fun r7 =>
 (sadd w4 r7).bind fun w8 =>
 (sadd w8 ([10] : List UInt8)).bind fun w10 =>
 (Lw (spec_l06Chain_b1 a1) (w10, 0)).bind fun y73 =>
 some y73
def spec_l06Chain_enc (r : (List UInt8)) : AV := .str r
theorem spec_l06Chain_ok (a1 : Chain) (r : (List UInt8)) (h : spec_l06Chain a1 = some r) : Ev (fun k => CN k 57 [.pt none (.str a1.Debtor :: (.bool a1.Stock.Stock :: (.sl none (a1.Stock.Notches.map Notch.c) :: ((arC (cI .i8) 0 a1.Stock.Grain) ++ ((.sl none (a1.Marks.map Mark.c) :: []) : List AV)))))] []) (fun p => rRes p.2 p.1 = spec_l06Chain_enc r) := by
 unfold spec_l06Chain at h
 obtain ⟨w4, hx5, h⟩ := bind_some h
 obtain ⟨r7, hx6, h⟩ := bind_some h
 obtain ⟨w8, hx9, h⟩ := bind_some h
 obtain ⟨w10, hx11, h⟩ := bind_some h
 obtain ⟨y73, hr69, h⟩ := bind_some h
 refine Ev.enter (F := fun k => f57 (CN k) k) (fun k => callN_eq rfl Tryd.func57 rfl rfl rfl (by decide +kernel) (f57_eq _ _)) (sq (Rg (kx (mvO rfl) (Rn (hN rfl hZ) fun e1 h3 => sN (sq (Rd (kf (mvO h3) (kf (ncP rfl) (kf (faP rfl ⟨ble rfl, blt rfl⟩ rfl) (kf (ldP rfl rfl) (kf (sAdd rfl rfl hx5) (kf (mvO h3) (kf (ncP rfl) (kf (faP rfl ⟨ble rfl, blt rfl⟩ rfl) (fc (cl (v := .str r7) rfl (cns rfl rfl) rfl (spec_l01Text_ok a1.Stock _ hx6) nm) (kf (sAdd rfl rfl hx9) (kf (sAdd rfl rfl hx11) (kf (mvO rfl) (fZ (Rn (hA h3 (hN rfl hZ)) fun e12 h14 h15 => sN (sq (sq (Rg (kx (mvO rfl) (Rn (hA h14 (hA h15 (hV (.int .i64 0) rfl hZ))) fun e16 h18 h19 h20 => sN (bl (Ev.loop (RS := spec_l06Chain_b1_RS a1) (RR := spec_l06Chain_b1_RR a1) (fun s r h e M hs => spec_l06Chain_b1_ok a1 s r h e M hs) hr69 ⟨h18, h19, h20⟩ fun x e71 M72 hq70 => ?_)))))))))))))))))))))))))))
 clear h3 h14 h15
 obtain ⟨rfl, h74⟩ := hq70
 refine bE (sN (sq (Rg (kx (mvO h74) (kx (mvO rfl) (Rn (hN rfl hZ) fun e75 h77 => sN (xx ?_)))))))
 clear h74
 obtain rfl := si h
 exact eR (resT h77 res0) rfl
/-! ### loop.example/g01263/spec.l06Ok (f56) -/
def spec_l06Ok_c1_Q (a1 : Chain) (g : Bool) (q : Out) : Prop := q.1 = .nrm ∧ eget q.2.1 0 = .pt none (.str a1.Debtor :: (.bool a1.Stock.Stock :: (.sl none (a1.Stock.Notches.map Notch.c) :: ((arC (cI .i8) 0 a1.Stock.Grain) ++ ((.sl none (a1.Marks.map Mark.c) :: []) : List AV))))) ∧ eget q.2.1 34 = .bool g
abbrev spec_l06Ok_b1_S := (List UInt8) × Int
abbrev spec_l06Ok_b1_R := Unit ⊕ Unit
def spec_l06Ok_b1_RS (a1 : Chain) (s : spec_l06Ok_b1_S) (e : Env) (M : Mem) : Prop := eget e 0 = .pt none (.str a1.Debtor :: (.bool a1.Stock.Stock :: (.sl none (a1.Stock.Notches.map Notch.c) :: ((arC (cI .i8) 0 a1.Stock.Grain) ++ ((.sl none (a1.Marks.map Mark.c) :: []) : List AV))))) ∧ eget e 3 = .str s.1 ∧ eget e 4 = .int .i64 s.2
def spec_l06Ok_b1_RR (a1 : Chain) (r : spec_l06Ok_b1_R) (x : Ex) (e : Env) (M : Mem) : Prop :=
  match r with
  | (.inl g) => x = .ret ∧ eget e 2 = .bool false
  | (.inr g) => x = .ext 0 ∧ True
noncomputable def spec_l06Ok_b1 (a1 : Chain) : spec_l06Ok_b1_S → Option (spec_l06Ok_b1_S ⊕ spec_l06Ok_b1_R) := fun (s1_1, s1_2) =>
 if (decide (s1_2 < (a1.Marks.length : Int))) = true then
  (rd a1.Marks s1_2).bind fun x70 =>
  (spec_l06Name x70.Holder).bind fun r73 =>
  if r73 = true then
   (rd a1.Marks s1_2).bind fun x75 =>
   if (x75.Holder == s1_1) = true then
    some (.inr (.inl ()))
   else
    (rd a1.Marks s1_2).bind fun x86 =>
    some (.inl (x86.Holder, (IntKind.i64.wrap (s1_2 + 1))))
  else
   some (.inr (.inl ()))
 else
  some (.inr (.inr ()))
theorem spec_l06Ok_b1_ok (a1 : Chain) (s : spec_l06Ok_b1_S) (r : spec_l06Ok_b1_S ⊕ spec_l06Ok_b1_R) (h : spec_l06Ok_b1 a1 s = some r) (e : Env) (M : Mem) (hs : spec_l06Ok_b1_RS a1 s e M) : Ev (fun k => (f56_l5 (CN k) k (prune [0, 3, 4] e) M).bind fun q => some q) (bQ (spec_l06Ok_b1_RS a1) (spec_l06Ok_b1_RR a1) r) := by
 obtain ⟨s1_1, s1_2⟩ := s
 unfold spec_l06Ok_b1 at h
 obtain ⟨h57, h59, h61⟩ := hs
 generalize he56 : prune [0, 3, 4] e = e55
 have h58 := envp he56.symm rfl h57
 have h60 := envp he56.symm rfl h59
 have h62 := envp he56.symm rfl h61
 refine sq (sq (Rg (kx (mvO h62) (kx (mvO h58) (kx (ncP rfl) (kx (faP rfl ⟨ble rfl, blt rfl⟩ rfl) (kx (ldP rfl rfl) (kx (lnS Tryd.underlying58 rfl) (kx (bLss rfl rfl) (Rn (hV (.pt none (.str a1.Debtor :: (.bool a1.Stock.Stock :: (.sl none (a1.Stock.Notches.map Notch.c) :: ((arC (cI .i8) 0 a1.Stock.Grain) ++ ((.sl none (a1.Marks.map Mark.c) :: []) : List AV)))))) h58 (hV (.str s1_1) h60 (hA h62 (hN rfl hZ)))) fun e63 h65 h66 h67 h68 => sN ?_))))))))))
 clear h58 h60 h62
 rcases ite_some h with ⟨hb69, h⟩ | ⟨hb69, h⟩
 ·obtain ⟨x70, hx71, h⟩ := bind_some h
  obtain ⟨r73, hx72, h⟩ := bind_some h
  refine cT h68 hb69 (xx (sN (sq (bl (sq (sq (Rg (kx (mvO h65) (kx (ncP rfl) (kx (faP rfl ⟨ble rfl, blt rfl⟩ rfl) (kx (ldP rfl rfl) (kx (mvO h67) (kx (ixS rfl rfl hx71 Mark.fl) (kx (faP rfl ⟨ble rfl, blt rfl⟩ rfl) (kx (ldP rfl rfl) (kc (cl (v := .bool r73) rfl (cns rfl rfl) rfl (spec_l06Name_ok x70.Holder _ hx72) nm) (kx (uNot rfl) (kx (mvO rfl) ?_))))))))))))))))))
  rcases ite_some h with ⟨hb74, h⟩ | ⟨hb74, h⟩
  ·obtain ⟨x75, hx76, h⟩ := bind_some h
   refine kx (guF rfl (congrArg Bool.not hb74) (mvO h65)) (kx (guF rfl (congrArg Bool.not hb74) (ncP rfl)) (kx (guF rfl (congrArg Bool.not hb74) (faP rfl ⟨ble rfl, blt rfl⟩ rfl)) (kx (guF rfl (congrArg Bool.not hb74) (ldP rfl rfl)) (kx (guF rfl (congrArg Bool.not hb74) (mvO h67)) (kx (guF rfl (congrArg Bool.not hb74) (ixS rfl rfl hx76 Mark.fl)) (kx (guF rfl (congrArg Bool.not hb74) (faP rfl ⟨ble rfl, blt rfl⟩ rfl)) (kx (guF rfl (congrArg Bool.not hb74) (ldP rfl rfl)) (kx (guF rfl (congrArg Bool.not hb74) (mvO h66)) (kx (guF rfl (congrArg Bool.not hb74) (sEql rfl rfl)) (kx (pkF rfl (congrArg Bool.not hb74) rfl) (Rn (hA h65 (hA h67 (hN rfl hZ))) fun e77 h79 h80 h81 => sN ?_)))))))))))
   clear h65 h66 h67 h68
   rcases ite_some h with ⟨hb82, h⟩ | ⟨hb82, h⟩
   ·refine cT h81 hb82 (sq (Rg (kx (mvO rfl) (Rn (hV (.bool false) rfl hZ) fun e83 h85 => sN (xx (sR (bR (sR ?_))))))))
    clear h79 h80 h81
    obtain rfl := si h
    exact qR ⟨rfl, h85⟩
   obtain ⟨x86, hx87, h⟩ := bind_some h
   refine cF h81 hb82 (xx (sN (Rg (kx (mvO h79) (kx (ncP rfl) (kx (faP rfl ⟨ble rfl, blt rfl⟩ rfl) (kx (ldP rfl rfl) (kx (mvO h80) (kx (ixS rfl rfl hx87 Mark.fl) (kx (faP rfl ⟨ble rfl, blt rfl⟩ rfl) (kx (ldP rfl rfl) (kx (mvO rfl) (Rn (hA h79 (hN rfl (hA h80 hZ))) fun e88 h90 h91 h92 => bN (sN (Rg (kx (mvO h92) (kx (bAdd rfl rfl) (kx (mvO rfl) (Rn (hA h90 (hA h91 (hN rfl hZ))) fun e93 h95 h96 h97 => ?_)))))))))))))))))))
   clear h79 h80 h81 h90 h91
   obtain rfl := si h
   exact qN ⟨h95, h96, h97⟩
  refine kx (gsF rfl (congrArg Bool.not hb74)) (kx (gsF rfl (congrArg Bool.not hb74)) (kx (gsF rfl (congrArg Bool.not hb74)) (kx (gsF rfl (congrArg Bool.not hb74)) (kx (gsF rfl (congrArg Bool.not hb74)) (kx (gsF rfl (congrArg Bool.not hb74)) (kx (gsF rfl (congrArg Bool.not hb74)) (kx (gsF rfl (congrArg Bool.not hb74)) (kx (gsF rfl (congrArg Bool.not hb74)) (kx (gsF rfl (congrArg Bool.not hb74)) (kx (pkT rfl (congrArg Bool.not hb74) rfl) (Rn (hA h65 (hA h67 (hV (.bool true) rfl hZ))) fun e98 h100 h101 h102 => sN (cT h102 rfl (sq (Rg (kx (mvO rfl) (Rn (hV (.bool false) rfl hZ) fun e103 h105 => sN (xx (sR (bR (sR ?_))))))))))))))))))))
  clear h65 h66 h67 h68 h100 h101 h102
  obtain rfl := si h
  exact qR ⟨rfl, h105⟩
 refine cF h68 hb69 (xx (sE ?_))
 obtain rfl := si h
 exact qE ⟨rfl, trivial⟩
noncomputable def spec_l06Ok (a1 : Chain) : Option Bool :=
 ((spec_l06Name a1.Debtor).bind fun r5 =>
 if r5 = true then
  (spec_l01Ok a1.Stock).bind fun r8 =>
  if r8 = true then
   if a1.Stock.Stock = true then
    (spec_l00In (a1.Marks.length : Int) 1 30).bind fun r12 =>
    some (!r12)
   else
    some true
  else
   some true
 else
  some true).bind fun y31 =>
 if y31 = true then
  some false
 else
  (Lw (spec_l06Ok_b1 a1) (a1.Debtor, 0)).bind fun r => match r with
  | (.inl _) =>
   some false
  | (.inr _) =>
   some true
def spec_l06Ok_enc (r : Bool) : AV := .bool r
theorem spec_l06Ok_ok (a1 : Chain) (r : Bool) (h : spec_l06Ok a1 = some r) : Ev (fun k => CN k 56 [.pt none (.str a1.Debtor :: (.bool a1.Stock.Stock :: (.sl none (a1.Stock.Notches.map Notch.c) :: ((arC (cI .i8) 0 a1.Stock.Grain) ++ ((.sl none (a1.Marks.map Mark.c) :: []) : List AV)))))] []) (fun p => rRes p.2 p.1 = spec_l06Ok_enc r) := by
 unfold spec_l06Ok at h
 obtain ⟨r118, hr119, h⟩ := bind_some h
 refine Ev.enter (F := fun k => f56 (CN k) k) (fun k => callN_eq rfl Tryd.func56 rfl rfl rfl (by decide +kernel) (f56_eq _ _)) (sq (Rg (kx (mvO rfl) (Rn (hN rfl hZ) fun e1 h3 => sN (sq (sq ?_))))))
 refine Ev.cut (Q1 := spec_l06Ok_c1_Q a1 r118) (by
     have h := hr119
     obtain ⟨r5, hx4, h⟩ := bind_some h
     refine Rg (kx (mvO h3) (kx (ncP rfl) (kx (faP rfl ⟨ble rfl, blt rfl⟩ rfl) (kx (ldP rfl rfl) (kc (cl (v := .bool r5) rfl (cns rfl rfl) rfl (spec_l06Name_ok a1.Debtor _ hx4) nm) (kx (uNot rfl) (kx (mvO rfl) ?_)))))))
     rcases ite_some h with ⟨hb6, h⟩ | ⟨hb6, h⟩
     ·obtain ⟨r8, hx7, h⟩ := bind_some h
      refine kx (guF rfl (congrArg Bool.not hb6) (mvO h3)) (kx (guF rfl (congrArg Bool.not hb6) (ncP rfl)) (kx (guF rfl (congrArg Bool.not hb6) (faP rfl ⟨ble rfl, blt rfl⟩ rfl)) (kc (Ev.guF rfl (congrArg Bool.not hb6) (cl (v := .bool r8) rfl (cns rfl rfl) rfl (spec_l01Ok_ok a1.Stock _ hx7) nm)) (kx (guF rfl (congrArg Bool.not hb6) (uNot rfl)) (kx (pkF rfl (congrArg Bool.not hb6) rfl) (kx (mvO rfl) ?_))))))
      rcases ite_some h with ⟨hb9, h⟩ | ⟨hb9, h⟩
      ·refine kx (guF rfl (congrArg Bool.not hb9) (mvO h3)) (kx (guF rfl (congrArg Bool.not hb9) (ncP rfl)) (kx (guF rfl (congrArg Bool.not hb9) (faP rfl ⟨ble rfl, blt rfl⟩ rfl)) (kx (guF rfl (congrArg Bool.not hb9) (faP rfl ⟨ble rfl, blt rfl⟩ rfl)) (kx (guF rfl (congrArg Bool.not hb9) (ldP rfl rfl)) (kx (guF rfl (congrArg Bool.not hb9) (uNot rfl)) (kx (pkF rfl (congrArg Bool.not hb9) rfl) (kx (mvO rfl) ?_)))))))
       rcases ite_some h with ⟨hb10, h⟩ | ⟨hb10, h⟩
       ·obtain ⟨r12, hx11, h⟩ := bind_some h
        refine kx (guF rfl (congrArg Bool.not hb10) (mvO h3)) (kx (guF rfl (congrArg Bool.not hb10) (ncP rfl)) (kx (guF rfl (congrArg Bool.not hb10) (faP rfl ⟨ble rfl, blt rfl⟩ rfl)) (kx (guF rfl (congrArg Bool.not hb10) (ldP rfl rfl)) (kx (guF rfl (congrArg Bool.not hb10) (lnS Tryd.underlying58 rfl)) (kc (Ev.guF rfl (congrArg Bool.not hb10) (cl (v := .bool r12) rfl (cns rfl (cns rfl (cns rfl rfl))) rfl (spec_l00In_ok (a1.Marks.length : Int) 1 30 _ hx11) nm)) (kx (guF rfl (congrArg Bool.not hb10) (uNot rfl)) (kx (pkF rfl (congrArg Bool.not hb10) rfl) (Rn (hA h3 (hN rfl hZ)) fun e13 h15 h16 => ?_))))))))
        clear h3
        obtain rfl := si h
        exact kd (show spec_l06Ok_c1_Q a1 _ _ from ⟨rfl, h15, h16⟩)
       refine kx (gsF rfl (congrArg Bool.not hb10)) (kx (gsF rfl (congrArg Bool.not hb10)) (kx (gsF rfl (congrArg Bool.not hb10)) (kx (gsF rfl (congrArg Bool.not hb10)) (kx (gsF rfl (congrArg Bool.not hb10)) (kc (Ev.gsF rfl (congrArg Bool.not hb10)) (kx (gsF rfl (congrArg Bool.not hb10)) (kx (pkT rfl (congrArg Bool.not hb10) rfl) (Rn (hA h3 (hV (.bool true) rfl hZ)) fun e17 h19 h20 => ?_))))))))
       clear h3
       obtain rfl := si h
       exact kd (show spec_l06Ok_c1_Q a1 _ _ from ⟨rfl, h19, h20⟩)
      refine kx (gsF rfl (congrArg Bool.not hb9)) (kx (gsF rfl (congrArg Bool.not hb9)) (kx (gsF rfl (congrArg Bool.not hb9)) (kx (gsF rfl (congrArg Bool.not hb9)) (kx (gsF rfl (congrArg Bool.not hb9)) (kx (gsF rfl (congrArg Bool.not hb9)) (kx (pkT rfl (congrArg Bool.not hb9) rfl) (kx (mvO rfl) (kx (gsF rfl rfl) (kx (gsF rfl rfl) (kx (gsF rfl rfl) (kx (gsF rfl rfl) (kx (gsF rfl rfl) (kc (Ev.gsF rfl rfl) (kx (gsF rfl rfl) (kx (pkT rfl rfl rfl) (Rn (hA h3 (hV (.bool true) rfl hZ)) fun e21 h23 h24 => ?_))))))))))))))))
      clear h3
      obtain rfl := si h
      exact kd (show spec_l06Ok_c1_Q a1 _ _ from ⟨rfl, h23, h24⟩)
     refine kx (gsF rfl (congrArg Bool.not hb6)) (kx (gsF rfl (congrArg Bool.not hb6)) (kx (gsF rfl (congrArg Bool.not hb6)) (kc (Ev.gsF rfl (congrArg Bool.not hb6)) (kx (gsF rfl (congrArg Bool.not hb6)) (kx (pkT rfl (congrArg Bool.not hb6) rfl) (kx (mvO rfl) (kx (gsF rfl rfl) (kx (gsF rfl rfl) (kx (gsF rfl rfl) (kx (gsF rfl rfl) (kx (gsF rfl rfl) (kx (gsF rfl rfl) (kx (pkT rfl rfl rfl) (kx (mvO rfl) (kx (gsF rfl rfl) (kx (gsF rfl rfl) (kx (gsF rfl rfl) (kx (gsF rfl rfl) (kx (gsF rfl rfl) (kc (Ev.gsF rfl rfl) (kx (gsF rfl rfl) (kx (pkT rfl rfl rfl) (Rn (hA h3 (hV (.bool true) rfl hZ)) fun e25 h27 h28 => ?_)))))))))))))))))))))))
     clear h3
     obtain rfl := si h
     exact kd (show spec_l06Ok_c1_Q a1 _ _ from ⟨rfl, h27, h28⟩)) ?_
 revert h hr119
 revert r118
 intro y31 hr119 h
 intro x e29 M30 hq117
 obtain ⟨rfl, h32, h33⟩ := hq117
 refine sN ?_
 rcases ite_some h with ⟨hb34, h⟩ | ⟨hb34, h⟩
 ·refine cT h33 hb34 (sq (Rg (kx (mvO rfl) (Rn (hV (.bool false) rfl hZ) fun e35 h37 => sN (xx (sR ?_))))))
  clear h32 h33
  obtain rfl := si h
  exact eR (resT h37 res0) rfl
 obtain ⟨r106, hr107, h⟩ := bind_some h
 refine cF h33 hb34 (xx (sN (sq (Rg (kx (mvO h32) (kx (ncP rfl) (kx (faP rfl ⟨ble rfl, blt rfl⟩ rfl) (kx (ldP rfl rfl) (kx (mvO rfl) (Rn (hV (.pt none (.str a1.Debtor :: (.bool a1.Stock.Stock :: (.sl none (a1.Stock.Notches.map Notch.c) :: ((arC (cI .i8) 0 a1.Stock.Grain) ++ ((.sl none (a1.Marks.map Mark.c) :: []) : List AV)))))) h32 (hN rfl hZ)) fun e38 h40 h41 => sN (sq (sq (Rg (kx (mvO rfl) (Rn (hA h40 (hA h41 (hV (.int .i64 0) rfl hZ))) fun e42 h44 h45 h46 => sN (bl ?_))))))))))))))))
 clear h32 h33 h40 h41
 rcases r106 with _ | _
 ·refine Ev.loop (RS := spec_l06Ok_b1_RS a1) (RR := spec_l06Ok_b1_RR a1) (fun s r h e M hs => spec_l06Ok_b1_ok a1 s r h e M hs) hr107 ⟨h44, h45, h46⟩ fun x e109 M110 hq108 => ?_
  obtain ⟨rfl, h111⟩ := hq108
  refine bR (sR ?_)
  obtain rfl := si h
  exact eR (resT h111 res0) rfl
 refine Ev.loop (RS := spec_l06Ok_b1_RS a1) (RR := spec_l06Ok_b1_RR a1) (fun s r h e M hs => spec_l06Ok_b1_ok a1 s r h e M hs) hr107 ⟨h44, h45, h46⟩ fun x e112 M113 hq108 => ?_
 obtain ⟨rfl, _⟩ := hq108
 refine bE (sN (sq (Rg (kx (mvO rfl) (Rn (hV (.bool true) rfl hZ) fun e114 h116 => sN (xx ?_))))))
 obtain rfl := si h
 exact eR (resT h116 res0) rfl
/-! ### loop.example/g01263/laws.szMarkS (f55) -/
abbrev laws_szMarkS_b1_S := Int × Int
abbrev laws_szMarkS_b1_R := Unit ⊕ Int
def laws_szMarkS_b1_RS (a1 : List Mark) (s : laws_szMarkS_b1_S) (e : Env) (M : Mem) : Prop := eget e 0 = .sl none (a1.map Mark.c) ∧ eget e 1 = .int .i64 s.1 ∧ eget e 5 = .int .i64 s.2
def laws_szMarkS_b1_RR (a1 : List Mark) (r : laws_szMarkS_b1_R) (x : Ex) (e : Env) (M : Mem) : Prop :=
  match r with
  | (.inl g) => x = .ret ∧ eget e 4 = .int .i64 (-1)
  | (.inr g) => x = .ext 0 ∧ eget e 1 = .int .i64 g
noncomputable def laws_szMarkS_b1 (a1 : List Mark) : laws_szMarkS_b1_S → Option (laws_szMarkS_b1_S ⊕ laws_szMarkS_b1_R) := fun (s1_1, s1_2) =>
 if (decide (s1_2 < (a1.length : Int))) = true then
  (rd a1 s1_2).bind fun x46 =>
  (laws_szMark x46 s1_1).bind fun r49 =>
  if (decide (r49 < 0)) = true then
   some (.inr (.inl ()))
  else
   some (.inl (r49, (IntKind.i64.wrap (s1_2 + 1))))
 else
  some (.inr (.inr s1_1))
theorem laws_szMarkS_b1_ok (a1 : List Mark) (s : laws_szMarkS_b1_S) (r : laws_szMarkS_b1_S ⊕ laws_szMarkS_b1_R) (h : laws_szMarkS_b1 a1 s = some r) (e : Env) (M : Mem) (hs : laws_szMarkS_b1_RS a1 s e M) : Ev (fun k => (f55_l5 (CN k) k (prune [0, 1, 5] e) M).bind fun q => some q) (bQ (laws_szMarkS_b1_RS a1) (laws_szMarkS_b1_RR a1) r) := by
 obtain ⟨s1_1, s1_2⟩ := s
 unfold laws_szMarkS_b1 at h
 obtain ⟨h33, h35, h37⟩ := hs
 generalize he32 : prune [0, 1, 5] e = e31
 have h34 := envp he32.symm rfl h33
 have h36 := envp he32.symm rfl h35
 have h38 := envp he32.symm rfl h37
 refine sq (sq (Rg (kx (mvO h38) (kx (mvO h34) (kx (lnS Tryd.underlying49 rfl) (kx (bLss rfl rfl) (Rn (hV (.sl none (a1.map Mark.c)) h34 (hV (.int .i64 s1_1) h36 (hV (.int .i64 s1_2) h38 (hN rfl hZ)))) fun e39 h41 h42 h43 h44 => sN ?_)))))))
 clear h34 h36 h38
 rcases ite_some h with ⟨hb45, h⟩ | ⟨hb45, h⟩
 ·obtain ⟨x46, hx47, h⟩ := bind_some h
  obtain ⟨r49, hx48, h⟩ := bind_some h
  refine cT h44 hb45 (xx (sN (sq (bl (sq (Rg (kx (mvO h41) (kx (mvO h43) (kx (ixS rfl rfl hx47 Mark.fl) (kx (ldPA rfl rfl rfl) (kx (mvO h42) (kc (cl (v := .int .i64 r49) rfl (cns rfl (cns rfl rfl)) rfl (laws_szMark_ok x46 s1_1 _ hx48) nm) (kx (mvO rfl) (Rn (hA h41 (hN rfl (hA h43 hZ))) fun e50 h52 h53 h54 => sN (sq (Rg (kx (mvO h53) (kx (bLss rfl rfl) (Rn (hA h52 (hA h53 (hA h54 (hN rfl hZ)))) fun e55 h57 h58 h59 h60 => sN ?_)))))))))))))))))))
  clear h41 h43 h44 h52 h53 h54
  rcases ite_some h with ⟨hb61, h⟩ | ⟨hb61, h⟩
  ·refine cT h60 hb61 (sq (Rg (kx (mvO rfl) (Rn (hV (.int .i64 (-1)) rfl hZ) fun e62 h64 => sN (xx (bR (sR ?_)))))))
   clear h57 h58 h59 h60
   obtain rfl := si h
   exact qR ⟨rfl, h64⟩
  refine cF h60 hb61 (xx (bN (sN (Rg (kx (mvO h59) (kx (bAdd rfl rfl) (kx (mvO rfl) (Rn (hA h57 (hA h58 (hN rfl hZ))) fun e65 h67 h68 h69 => ?_))))))))
  clear h57 h58 h60
  obtain rfl := si h
  exact qN ⟨h67, h68, h69⟩
 refine cF h44 hb45 (xx (sE ?_))
 obtain rfl := si h
 exact qE ⟨rfl, h42⟩
noncomputable def laws_szMarkS (a1 : List Mark) (a2 : Int) : Option Int :=
 if (decide ((IntKind.i64.wrap (a2 - (a1.length : Int))) < 0)) = true then
  some (-1)
 else
  (Lw (laws_szMarkS_b1 a1) ((IntKind.i64.wrap (a2 - (a1.length : Int))), 0)).bind fun r => match r with
  | (.inl _) =>
   some (-1)
  | (.inr y78) =>
   some y78
def laws_szMarkS_enc (r : Int) : AV := .int .i64 r
theorem laws_szMarkS_ok (a1 : List Mark) (a2 : Int) (r : Int) (h : laws_szMarkS a1 a2 = some r) : Ev (fun k => CN k 55 [.sl none (a1.map Mark.c), .int .i64 a2] []) (fun p => rRes p.2 p.1 = laws_szMarkS_enc r) := by
 unfold laws_szMarkS at h
 refine Ev.enter (F := fun k => f55 (CN k) k) (fun k => callN_eq rfl Tryd.func55 rfl rfl rfl (by decide +kernel) (f55_eq _ _)) (sq (Rg (kx (mvO rfl) (Rn (hN rfl (hN rfl hZ)) fun e1 h3 h4 => sN (sq (Rg (kx (mvO h4) (kx (mvO h3) (kx (lnS Tryd.underlying49 rfl) (kx (bSub rfl rfl) (kx (mvO rfl) (Rn (hA h3 (hN rfl hZ)) fun e5 h7 h8 => sN (sq (sq (Rg (kx (mvO h8) (kx (bLss rfl rfl) (Rn (hA h7 (hA h8 (hN rfl hZ))) fun e9 h11 h12 h13 => sN ?_))))))))))))))))))
 clear h3 h7 h8
 rcases ite_some h with ⟨hb14, h⟩ | ⟨hb14, h⟩
 ·refine cT h13 hb14 (sq (Rg (kx (mvO rfl) (Rn (hV (.int .i64 (-1)) rfl hZ) fun e15 h17 => sN (xx (sR ?_))))))
  clear h11 h12 h13
  obtain rfl := si h
  exact eR (resT h17 res0) rfl
 obtain ⟨r70, hr71, h⟩ := bind_some h
 refine cF h13 hb14 (xx (sN (sq (sq (Rg (kx (mvO rfl) (Rn (hA h11 (hA h12 (hV (.int .i64 0) rfl hZ))) fun e18 h20 h21 h22 => sN (bl ?_))))))))
 clear h11 h12 h13
 rcases r70 with _ | y78
 ·refine Ev.loop (RS := laws_szMarkS_b1_RS a1) (RR := laws_szMarkS_b1_RR a1) (fun s r h e M hs => laws_szMarkS_b1_ok a1 s r h e M hs) hr71 ⟨h20, h21, h22⟩ fun x e73 M74 hq72 => ?_
  obtain ⟨rfl, h75⟩ := hq72
  refine bR (sR ?_)
  obtain rfl := si h
  exact eR (resT h75 res0) rfl
 refine Ev.loop (RS := laws_szMarkS_b1_RS a1) (RR := laws_szMarkS_b1_RR a1) (fun s r h e M hs => laws_szMarkS_b1_ok a1 s r h e M hs) hr71 ⟨h20, h21, h22⟩ fun x e76 M77 hq72 => ?_
 obtain ⟨rfl, h79⟩ := hq72
 refine bE (sN (sq (Rg (kx (mvO h79) (kx (mvO rfl) (Rn (hN rfl hZ) fun e80 h82 => sN (xx ?_)))))))
 clear h79
 obtain rfl := si h
 exact eR (resT h82 res0) rfl
/-! ### loop.example/g01263/laws.szHalf (f54) -/
noncomputable def laws_szHalf (a1 : Half) (a2 : Int) : Option Int :=
 (laws_szNotchS a1.Notches a2).bind fun r6 =>
 if (decide (r6 < 0)) = true then
  some (-1)
 else
  some r6
def laws_szHalf_enc (r : Int) : AV := .int .i64 r
theorem laws_szHalf_ok (a1 : Half) (a2 : Int) (r : Int) (h : laws_szHalf a1 a2 = some r) : Ev (fun k => CN k 54 [.agg (.bool a1.Stock :: (.sl none (a1.Notches.map Notch.c) :: ((arC (cI .i8) 0 a1.Grain) ++ ([] : List AV)))), .int .i64 a2] []) (fun p => rRes p.2 p.1 = laws_szHalf_enc r) := by
 unfold laws_szHalf at h
 obtain ⟨r6, hx5, h⟩ := bind_some h
 refine Ev.enter (F := fun k => f54 (CN k) k) (fun k => callN_eq rfl Tryd.func54 rfl rfl rfl (by decide +kernel) (f54_eq _ _)) (sq (Rg (kx (bxI rfl rfl ⟨rfl, rfl, by decide⟩) (kx (mvO rfl) (Rn (hN rfl (hN rfl hZ)) fun e1 h3 h4 => sN (sq (Rg (kx (faP h4 ⟨ble rfl, blt rfl⟩ rfl) (kx (ldP rfl rfl) (kx (mvO h3) (kc (cl (v := .int .i64 r6) rfl (cns rfl (cns rfl rfl)) rfl (laws_szNotchS_ok a1.Notches a2 _ hx5) nm) (kx (mvO rfl) (Rn (hN rfl hZ) fun e7 h9 => sN (sq (sq (Rg (kx (mvO h9) (kx (bLss rfl rfl) (Rn (hA h9 (hN rfl hZ)) fun e10 h12 h13 => sN ?_)))))))))))))))))))
 clear h4 h9
 rcases ite_some h with ⟨hb14, h⟩ | ⟨hb14, h⟩
 ·refine cT h13 hb14 (sq (Rg (kx (mvO rfl) (Rn (hV (.int .i64 (-1)) rfl hZ) fun e15 h17 => sN (xx (sR ?_))))))
  clear h12 h13
  obtain rfl := si h
  exact eR (resT h17 res0) rfl
 refine cF h13 hb14 (xx (sN (sq (Rg (kx (mvO h12) (kx (mvO rfl) (Rn (hN rfl hZ) fun e18 h20 => sN (xx ?_))))))))
 clear h12 h13
 obtain rfl := si h
 exact eR (resT h20 res0) rfl
/-! ### loop.example/g01263/laws.eqChain (f23) -/
noncomputable def laws_eqChain (a1 : Chain) (a2 : Chain) : Option Bool :=
 if (a1.Debtor == a2.Debtor) = true then
  (laws_eqHalf a1.Stock a2.Stock).bind fun r12 =>
  if r12 = true then
   (laws_eqMarkS a1.Marks a2.Marks).bind fun r20 =>
   if r20 = true then
    some true
   else
    some false
  else
   some false
 else
  some false
def laws_eqChain_enc (r : Bool) : AV := .bool r
theorem laws_eqChain_ok (a1 : Chain) (a2 : Chain) (r : Bool) (h : laws_eqChain a1 a2 = some r) : Ev (fun k => CN k 23 [.agg (.str a1.Debtor :: (.bool a1.Stock.Stock :: (.sl none (a1.Stock.Notches.map Notch.c) :: ((arC (cI .i8) 0 a1.Stock.Grain) ++ ((.sl none (a1.Marks.map Mark.c) :: []) : List AV))))), .agg (.str a2.Debtor :: (.bool a2.Stock.Stock :: (.sl none (a2.Stock.Notches.map Notch.c) :: ((arC (cI .i8) 0 a2.Stock.Grain) ++ ((.sl none (a2.Marks.map Mark.c) :: []) : List AV)))))] []) (fun p => rRes p.2 p.1 = laws_eqChain_enc r) := by
 unfold laws_eqChain at h
 refine Ev.enter (F := fun k => f23 (CN k) k) (fun k => callN_eq rfl Tryd.func23 rfl rfl rfl (by decide +kernel) (f23_eq _ _)) (sq (Rg (kx (bxI rfl rfl ⟨rfl, rfl, by decide⟩) (kx (bxI rfl rfl ⟨rfl, rfl, by decide⟩) (kx (mvO rfl) (Rn (hN rfl (hN rfl hZ)) fun e1 h3 h4 => sN (sq (sq (Rg (kx (faP h3 ⟨ble rfl, blt rfl⟩ rfl) (kx (ldP rfl rfl) (kx (faP h4 ⟨ble rfl, blt rfl⟩ rfl) (kx (ldP rfl rfl) (kx (sNeq rfl rfl) (Rn (hA h3 (hA h4 (hN rfl hZ))) fun e5 h7 h8 h9 => sN ?_)))))))))))))))
 clear h3 h4
 rcases ite_some h with ⟨hb10, h⟩ | ⟨hb10, h⟩
 ·obtain ⟨r12, hx11, h⟩ := bind_some h
  refine cF h9 (congrArg Bool.not hb10) (xx (sN (sq (sq (Rg (kx (faP h7 ⟨ble rfl, blt rfl⟩ rfl) (kx (ldPA rfl rfl rfl) (kx (faP h8 ⟨ble rfl, blt rfl⟩ rfl) (kx (ldPA rfl rfl rfl) (kc (cl (v := .bool r12) rfl (cns rfl (cns rfl rfl)) rfl (laws_eqHalf_ok a1.Stock a2.Stock _ hx11) nm) (kx (uNot rfl) (Rn (hA h7 (hA h8 (hN rfl hZ))) fun e13 h15 h16 h17 => sN ?_))))))))))))
  clear h7 h8 h9
  rcases ite_some h with ⟨hb18, h⟩ | ⟨hb18, h⟩
  ·obtain ⟨r20, hx19, h⟩ := bind_some h
   refine cF h17 (congrArg Bool.not hb18) (xx (sN (sq (sq (Rg (kx (faP h15 ⟨ble rfl, blt rfl⟩ rfl) (kx (ldP rfl rfl) (kx (faP h16 ⟨ble rfl, blt rfl⟩ rfl) (kx (ldP rfl rfl) (kc (cl (v := .bool r20) rfl (cns rfl (cns rfl rfl)) rfl (laws_eqMarkS_ok a1.Marks a2.Marks _ hx19) nm) (kx (uNot rfl) (Rn (hN rfl hZ) fun e21 h23 => sN ?_))))))))))))
   clear h15 h16 h17
   rcases ite_some h with ⟨hb24, h⟩ | ⟨hb24, h⟩
   ·refine cF h23 (congrArg Bool.not hb24) (xx (sN (sq (Rg (kx (mvO rfl) (Rn (hV (.bool true) rfl hZ) fun e25 h27 => sN (xx ?_)))))))
    clear h23
    obtain rfl := si h
    exact eR (resT h27 res0) rfl
   refine cT h23 (congrArg Bool.not hb24) (sq (Rg (kx (mvO rfl) (Rn (hV (.bool false) rfl hZ) fun e28 h30 => sN (xx (sR ?_))))))
   clear h23
   obtain rfl := si h
   exact eR (resT h30 res0) rfl
  refine cT h17 (congrArg Bool.not hb18) (sq (Rg (kx (mvO rfl) (Rn (hV (.bool false) rfl hZ) fun e31 h33 => sN (xx (sR ?_))))))
  clear h15 h16 h17
  obtain rfl := si h
  exact eR (resT h33 res0) rfl
 refine cT h9 (congrArg Bool.not hb10) (sq (Rg (kx (mvO rfl) (Rn (hV (.bool false) rfl hZ) fun e34 h36 => sN (xx (sR ?_))))))
 clear h7 h8 h9
 obtain rfl := si h
 exact eR (resT h36 res0) rfl
/-! ### loop.example/g01263/impl.ChainText (f22) -/
abbrev impl_ChainText_b1_S := (List UInt8) × Int
abbrev impl_ChainText_b1_R := (List UInt8)
def impl_ChainText_b1_RS (a1 : Chain) (s : impl_ChainText_b1_S) (e : Env) (M : Mem) : Prop := eget e 3 = .str s.1 ∧ eget e 18 = .sl none (a1.Marks.map Mark.c) ∧ eget e 19 = .int .i64 (a1.Marks.length : Int) ∧ eget e 20 = .int .i64 s.2
def impl_ChainText_b1_RR (a1 : Chain) (g : impl_ChainText_b1_R) (x : Ex) (e : Env) (M : Mem) : Prop := x = .ext 0 ∧ eget e 3 = .str g
noncomputable def impl_ChainText_b1 (a1 : Chain) : impl_ChainText_b1_S → Option (impl_ChainText_b1_S ⊕ impl_ChainText_b1_R) := fun (s1_1, s1_2) =>
 if (decide (s1_2 < (a1.Marks.length : Int))) = true then
  (rd a1.Marks s1_2).bind fun x57 =>
  (sadd x57.Holder ([32] : List UInt8)).bind fun w73 =>
  (impl_hex x57.Seal).bind fun r76 =>
  (sadd w73 r76).bind fun w77 =>
  (sadd w77 ([10] : List UInt8)).bind fun w79 =>
  (sadd s1_1 w79).bind fun w81 =>
  some (.inl (w81, (IntKind.i64.wrap (s1_2 + 1))))
 else
  some (.inr s1_1)
theorem impl_ChainText_b1_ok (a1 : Chain) (s : impl_ChainText_b1_S) (r : impl_ChainText_b1_S ⊕ impl_ChainText_b1_R) (h : impl_ChainText_b1 a1 s = some r) (e : Env) (M : Mem) (hs : impl_ChainText_b1_RS a1 s e M) : Ev (fun k => (f22_l5 (CN k) k (prune [3, 18, 19, 20] e) M).bind fun q => some q) (bQ (impl_ChainText_b1_RS a1) (impl_ChainText_b1_RR a1) r) := by
 obtain ⟨s1_1, s1_2⟩ := s
 unfold impl_ChainText_b1 at h
 obtain ⟨h41, h43, h45, h47⟩ := hs
 generalize he40 : prune [3, 18, 19, 20] e = e39
 have h42 := envp he40.symm rfl h41
 have h44 := envp he40.symm rfl h43
 have h46 := envp he40.symm rfl h45
 have h48 := envp he40.symm rfl h47
 refine sq (Rg (kx (bLss h48 h46) (Rn (hV (.str s1_1) h42 (hV (.sl none (a1.Marks.map Mark.c)) h44 (hV (.int .i64 (a1.Marks.length : Int)) h46 (hV (.int .i64 s1_2) h48 (hN rfl hZ))))) fun e49 h51 h52 h53 h54 h55 => sN (sq ?_))))
 clear h42 h44 h46 h48
 rcases ite_some h with ⟨hb56, h⟩ | ⟨hb56, h⟩
 ·obtain ⟨x57, hx58, h⟩ := bind_some h
  refine cT h55 hb56 (xx (sN (sq (bl (sq (Rg (kx (ixS h52 h54 hx58 Mark.fl) (kx (ldPA rfl rfl rfl) (ku (alO zero107) fun M60 hM61 => ?_)))))))))
  have o62 : M60[M.length]? = some (.live ⟨.box, 107, 2, [[.str ([] : List UInt8), .int .u32 0]]⟩) := push_new hM61
  refine kw (stO rfl rfl o62 rfl rfl ⟨rfl, ble rfl⟩ rfl rfl) fun M63 hM64 => ?_
  have o65 : M63[M.length]? = some (.live ⟨.box, 107, 2, [[.str x57.Holder, .int .u32 x57.Seal]]⟩) := set_same hM64 o62
  obtain ⟨w73, hx74, h⟩ := bind_some h
  obtain ⟨r76, hx75, h⟩ := bind_some h
  obtain ⟨w77, hx78, h⟩ := bind_some h
  obtain ⟨w79, hx80, h⟩ := bind_some h
  obtain ⟨w81, hx82, h⟩ := bind_some h
  refine Rn (hA h51 (hV (.loc M.length 1 0 0) rfl (hA h52 (hA h53 (hA h54 hZ))))) fun e66 h68 h69 h70 h71 h72 => sN (Rd (kf (mvO h68) (kf (faO h69 o65 rfl) (kf (ldO rfl o65 rfl rfl rfl) (kf (sAdd rfl rfl hx74) (kf (faO h69 o65 rfl) (kf (ldO rfl o65 rfl rfl rfl) (fc (cl (v := .str r76) rfl (cns rfl rfl) rfl (impl_hex_ok x57.Seal _ hx75) nm) (kf (sAdd rfl rfl hx78) (kf (sAdd rfl rfl hx80) (kf (sAdd rfl rfl hx82) (kf (mvO rfl) (fZ (Rn (hN rfl (hA h70 (hA h71 (hA h72 hZ)))) fun e83 h85 h86 h87 h88 => bN (sN (Rg (kx (bAdd h88 rfl) (kx (mvO rfl) (Rn (hA h85 (hA h86 (hA h87 (hN rfl hZ)))) fun e89 h91 h92 h93 h94 => ?_)))))))))))))))))))
  clear h51 h52 h53 h54 h55 h69 h70 h71 h72 h85 h86 h87
  obtain rfl := si h
  exact qN ⟨h91, h92, h93, h94⟩
 refine cF h55 hb56 (xx (sE ?_))
 obtain rfl := si h
 exact qE ⟨rfl, h51⟩
noncomputable def impl_ChainText (a1 : Chain) : Option ((List UInt8)) :=
 (impl_ValidChain a1).bind fun r5 =>
 if r5 = true then
  (sadd a1.Debtor ([32] : List UInt8)).bind fun w11 =>
  (impl_halfText a1.Stock).bind fun r14 =>
  (sadd w11 r14).bind fun w15 =>
  (sadd w15 ([10] : List UInt8)).bind fun w17 =>
  (Lw (impl_ChainText_b1 a1) (w17, 0)).bind fun y100 =>
  some y100
 else
  some ([] : List UInt8)
def impl_ChainText_enc (r : (List UInt8)) : AV := .str r
theorem impl_ChainText_ok (a1 : Chain) (r : (List UInt8)) (h : impl_ChainText a1 = some r) : Ev (fun k => CN k 22 [.agg (.str a1.Debtor :: (.bool a1.Stock.Stock :: (.sl none (a1.Stock.Notches.map Notch.c) :: ((arC (cI .i8) 0 a1.Stock.Grain) ++ ((.sl none (a1.Marks.map Mark.c) :: []) : List AV)))))] []) (fun p => rRes p.2 p.1 = impl_ChainText_enc r) := by
 unfold impl_ChainText at h
 obtain ⟨r5, hx4, h⟩ := bind_some h
 refine Ev.enter (F := fun k => f22 (CN k) k) (fun k => callN_eq rfl Tryd.func22 rfl rfl rfl (by decide +kernel) (f22_eq _ _)) (sq (Rg (kx (bxI rfl rfl ⟨rfl, rfl, by decide⟩) (kx (mvO rfl) (Rn (hN rfl hZ) fun e1 h3 => sN (sq (sq (Rg (kx (ldPA h3 rfl rfl) (kc (cl (v := .bool r5) rfl (cns rfl rfl) rfl (impl_ValidChain_ok a1 _ hx4) nm) (kx (uNot rfl) (Rn (hA h3 (hN rfl hZ)) fun e6 h8 h9 => sN ?_))))))))))))
 clear h3
 rcases ite_some h with ⟨hb10, h⟩ | ⟨hb10, h⟩
 ·obtain ⟨w11, hx12, h⟩ := bind_some h
  obtain ⟨r14, hx13, h⟩ := bind_some h
  obtain ⟨w15, hx16, h⟩ := bind_some h
  obtain ⟨w17, hx18, h⟩ := bind_some h
  obtain ⟨y100, hr96, h⟩ := bind_some h
  refine cF h9 (congrArg Bool.not hb10) (xx (sN (sq (Rd (kf (faP h8 ⟨ble rfl, blt rfl⟩ rfl) (kf (ldP rfl rfl) (kf (sAdd rfl rfl hx12) (kf (faP h8 ⟨ble rfl, blt rfl⟩ rfl) (kf (ldPA rfl rfl rfl) (fc (cl (v := .str r14) rfl (cns rfl rfl) rfl (impl_halfText_ok a1.Stock _ hx13) nm) (kf (sAdd rfl rfl hx16) (kf (sAdd rfl rfl hx18) (kf (mvO rfl) (fZ (Rn (hA h8 (hN rfl hZ)) fun e19 h21 h22 => sN (sq (sq (Rg (kx (faP h21 ⟨ble rfl, blt rfl⟩ rfl) (kx (ldP rfl rfl) (kx (lnS Tryd.underlying58 rfl) (kx (mvO rfl) (Rn (hA h22 (hN rfl (hN rfl (hV (.int .i64 0) rfl hZ)))) fun e23 h25 h26 h27 h28 => sN (bl (Ev.loop (RS := impl_ChainText_b1_RS a1) (RR := impl_ChainText_b1_RR a1) (fun s r h e M hs => impl_ChainText_b1_ok a1 s r h e M hs) hr96 ⟨h25, h26, h27, h28⟩ fun x e98 M99 hq97 => ?_)))))))))))))))))))))))))
  clear h8 h9 h21 h22
  obtain ⟨rfl, h101⟩ := hq97
  refine bE (sN (sq (Rg (kx (mvO h101) (kx (mvO rfl) (Rn (hN rfl hZ) fun e102 h104 => sN (xx ?_)))))))
  clear h101
  obtain rfl := si h
  exact eR (resT h104 res0) rfl
 refine cT h9 (congrArg Bool.not hb10) (sq (Rg (kx (mvO rfl) (Rn (hN rfl hZ) fun e105 h107 => sN (xx (sR ?_))))))
 clear h8 h9
 obtain rfl := si h
 exact eR (resT h107 res0) rfl
/-! ### loop.example/g01263/laws.toChain (f21) -/
noncomputable def laws_toChain (a1 : Chain) : Option ((List UInt8) × Bool × (List Notch) × (Ar 16 Int) × (List Mark)) :=
 (laws_toHalf a1.Stock).bind fun (r30, r31, r32) =>
 (laws_toMarkS a1.Marks).bind fun r43 =>
 some (a1.Debtor, r30, r31, r32, r43)
def laws_toChain_enc (r : (List UInt8) × Bool × (List Notch) × (Ar 16 Int) × (List Mark)) : AV := .agg (.str r.1 :: (.bool r.2.1 :: (.sl none (r.2.2.1.map Notch.c) :: ((arC (cI .i8) 0 r.2.2.2.1) ++ ((.sl none (r.2.2.2.2.map Mark.c) :: []) : List AV)))))
theorem laws_toChain_ok (a1 : Chain) (r : (List UInt8) × Bool × (List Notch) × (Ar 16 Int) × (List Mark)) (h : laws_toChain a1 = some r) : Ev (fun k => CN k 21 [.agg (.str a1.Debtor :: (.bool a1.Stock.Stock :: (.sl none (a1.Stock.Notches.map Notch.c) :: ((arC (cI .i8) 0 a1.Stock.Grain) ++ ((.sl none (a1.Marks.map Mark.c) :: []) : List AV)))))] []) (fun p => rRes p.2 p.1 = laws_toChain_enc r) := by
 unfold laws_toChain at h
 refine Ev.enter (F := fun k => f21 (CN k) k) (fun k => callN_eq rfl Tryd.func21 rfl rfl rfl (by decide +kernel) (f21_eq _ _)) (sq (Rg (kx (bxI rfl rfl ⟨rfl, rfl, by decide⟩) (ku (alO zero60) fun M2 hM3 => ?_))))
 have o4 : M2[([] : Mem).length]? = some (.live ⟨.box, 60, 20, [(.str ([] : List UInt8) :: (.bool false :: (.nils :: ((arC (cI .i8) 0 (Ar.rep 16 0)) ++ ((.nils :: []) : List AV)))))]⟩) := push_new hM3
 refine Rn (hN rfl (hV (.loc ([] : Mem).length 1 0 0) rfl hZ)) fun e5 h7 h8 => sN (sq (Rg (ku (alO zero60) fun M10 hM11 => ?_)))
 have o12 := push_old hM11 o4
 have ne13 := ne_new o4
 have o14 : M10[M2.length]? = some (.live ⟨.box, 60, 20, [(.str ([] : List UInt8) :: (.bool false :: (.nils :: ((arC (cI .i8) 0 (Ar.rep 16 0)) ++ ((.nils :: []) : List AV)))))]⟩) := push_new hM11
 refine Rn (hA h7 (hA h8 (hV (.loc M2.length 1 0 0) rfl hZ))) fun e15 h17 h18 h19 => sN (sq (Rg (kx (faP h17 ⟨ble rfl, blt rfl⟩ rfl) (kx (ldP rfl rfl) (kx (faO h19 o14 rfl) (kw (stO rfl rfl o14 rfl rfl ⟨rfl, ble rfl⟩ rfl rfl) fun M20 hM21 => ?_))))))
 clear h7 h8
 have o22 := set_ne hM21 ne13 o12
 have o23 : M20[M2.length]? = some (.live ⟨.box, 60, 20, [(.str a1.Debtor :: (.bool false :: (.nils :: ((arC (cI .i8) 0 (Ar.rep 16 0)) ++ ((.nils :: []) : List AV)))))]⟩) := set_same hM21 o14
 obtain ⟨⟨r30, r31, r32⟩, hx29, h⟩ := bind_some h
 refine Rn (hA h17 (hA h18 (hA h19 hZ))) fun e24 h26 h27 h28 => sN (sq (Rg (kx (faP h26 ⟨ble rfl, blt rfl⟩ rfl) (kx (ldPA rfl rfl rfl) (kc (cl (v := .agg (.bool r30 :: (.sl none (r31.map Notch.c) :: ((arC (cI .i8) 0 r32) ++ ([] : List AV))))) rfl (cns rfl rfl) rfl (laws_toHalf_ok a1.Stock _ hx29) nm) (kx (faO h28 o23 rfl) (kw (stO rfl rfl o23 rfl rfl ⟨rfl, ble rfl⟩ rfl rfl) fun M33 hM34 => ?_)))))))
 clear h17 h18 h19
 have o35 := set_ne hM34 ne13 o22
 have o36 : M33[M2.length]? = some (.live ⟨.box, 60, 20, [(.str a1.Debtor :: (.bool r30 :: (.sl none (r31.map Notch.c) :: ((arC (cI .i8) 0 r32) ++ ((.nils :: []) : List AV)))))]⟩) := set_same hM34 o23
 obtain ⟨r43, hx42, h⟩ := bind_some h
 refine Rn (hA h26 (hA h27 (hA h28 hZ))) fun e37 h39 h40 h41 => sN (sq (Rg (kx (faP h39 ⟨ble rfl, blt rfl⟩ rfl) (kx (ldP rfl rfl) (kc (cl (v := .sl (some 107) (r43.map Mark.c)) rfl (cns rfl rfl) rfl (laws_toMarkS_ok a1.Marks _ hx42) nm) (kx (faO h41 o36 rfl) (kw (stO rfl rfl o36 rfl rfl ⟨rfl, ble rfl⟩ rfl rfl) fun M44 hM45 => ?_)))))))
 clear h26 h27 h28
 have o46 := set_ne hM45 ne13 o35
 have o47 : M44[M2.length]? = some (.live ⟨.box, 60, 20, [(.str a1.Debtor :: (.bool r30 :: (.sl none (r31.map Notch.c) :: ((arC (cI .i8) 0 r32) ++ ((.sl none (r43.map Mark.c) :: []) : List AV)))))]⟩) := set_same hM45 o36
 refine Rn (hA h40 (hA h41 hZ)) fun e48 h50 h51 => sN (sq (Rg (kx (ldOA (cs' := (.str a1.Debtor :: (.bool r30 :: (.sl none (r31.map Notch.c) :: ((arC (cI .i8) 0 r32) ++ ((.sl none (r43.map Mark.c) :: []) : List AV)))))) h51 o47 rfl rfl (ble rfl) rfl) (kw (stO h50 rfl o46 rfl rfl ⟨rfl, ble rfl⟩ rfl rfl) fun M52 hM53 => ?_))))
 clear h39 h40 h41
 have o54 : M52[([] : Mem).length]? = some (.live ⟨.box, 60, 20, [(.str a1.Debtor :: (.bool r30 :: (.sl none (r31.map Notch.c) :: ((arC (cI .i8) 0 r32) ++ ((.sl none (r43.map Mark.c) :: []) : List AV)))))]⟩) := set_same hM53 o46
 have o55 := set_ne hM53 (Ne.symm ne13) o47
 refine Rn (hA h50 hZ) fun e56 h58 => sN (xx ?_)
 clear h50 h51
 obtain rfl := si h
 exact eR (resC (ag := true) (sz := 20) ⟨by kernel_rfl, by kernel_rfl, by kernel_rfl⟩ (ldOA (cs' := (.str a1.Debtor :: (.bool r30 :: (.sl none (r31.map Notch.c) :: ((arC (cI .i8) 0 r32) ++ ((.sl none (r43.map Mark.c) :: []) : List AV)))))) h58 o54 rfl rfl (ble rfl) rfl) res0) rfl
/-! ### loop.example/g01263/spec.ChainText (f20) -/
noncomputable def spec_ChainText (a1 : Chain) : Option ((List UInt8)) :=
 (spec_l06Ok a1).bind fun r5 =>
 if r5 = true then
  (spec_l06Chain a1).bind fun r12 =>
  some r12
 else
  some ([] : List UInt8)
def spec_ChainText_enc (r : (List UInt8)) : AV := .str r
theorem spec_ChainText_ok (a1 : Chain) (r : (List UInt8)) (h : spec_ChainText a1 = some r) : Ev (fun k => CN k 20 [.agg (.str a1.Debtor :: (.bool a1.Stock.Stock :: (.sl none (a1.Stock.Notches.map Notch.c) :: ((arC (cI .i8) 0 a1.Stock.Grain) ++ ((.sl none (a1.Marks.map Mark.c) :: []) : List AV)))))] []) (fun p => rRes p.2 p.1 = spec_ChainText_enc r) := by
 unfold spec_ChainText at h
 obtain ⟨r5, hx4, h⟩ := bind_some h
 refine Ev.enter (F := fun k => f20 (CN k) k) (fun k => callN_eq rfl Tryd.func20 rfl rfl rfl (by decide +kernel) (f20_eq _ _)) (sq (Rg (kx (bxI rfl rfl ⟨rfl, rfl, by decide⟩) (kx (mvO rfl) (Rn (hN rfl hZ) fun e1 h3 => sN (sq (sq (Rg (kc (cl (v := .bool r5) rfl (cns h3 rfl) rfl (spec_l06Ok_ok a1 _ hx4) nm) (kx (uNot rfl) (Rn (hA h3 (hN rfl hZ)) fun e6 h8 h9 => sN ?_)))))))))))
 clear h3
 rcases ite_some h with ⟨hb10, h⟩ | ⟨hb10, h⟩
 ·obtain ⟨r12, hx11, h⟩ := bind_some h
  refine cF h9 (congrArg Bool.not hb10) (xx (sN (sq (Rg (kc (cl (v := .str r12) rfl (cns h8 rfl) rfl (spec_l06Chain_ok a1 _ hx11) nm) (kx (mvO rfl) (Rn (hN rfl hZ) fun e13 h15 => sN (xx ?_))))))))
  clear h8 h9
  obtain rfl := si h
  exact eR (resT h15 res0) rfl
 refine cT h9 (congrArg Bool.not hb10) (sq (Rg (kx (mvO rfl) (Rn (hN rfl hZ) fun e16 h18 => sN (xx (sR ?_))))))
 clear h8 h9
 obtain rfl := si h
 exact eR (resT h18 res0) rfl
/-! ### loop.example/g01263/laws.szChain (f19) -/
noncomputable def laws_szChain (a1 : Chain) (a2 : Int) : Option Int :=
 if (decide ((IntKind.i64.wrap (a2 - (a1.Debtor.length : Int))) < 0)) = true then
  some (-1)
 else
  (laws_szHalf a1.Stock (IntKind.i64.wrap (a2 - (a1.Debtor.length : Int)))).bind fun r19 =>
  if (decide (r19 < 0)) = true then
   some (-1)
  else
   (laws_szMarkS a1.Marks r19).bind fun r34 =>
   if (decide (r34 < 0)) = true then
    some (-1)
   else
    some r34
def laws_szChain_enc (r : Int) : AV := .int .i64 r
theorem laws_szChain_ok (a1 : Chain) (a2 : Int) (r : Int) (h : laws_szChain a1 a2 = some r) : Ev (fun k => CN k 19 [.agg (.str a1.Debtor :: (.bool a1.Stock.Stock :: (.sl none (a1.Stock.Notches.map Notch.c) :: ((arC (cI .i8) 0 a1.Stock.Grain) ++ ((.sl none (a1.Marks.map Mark.c) :: []) : List AV))))), .int .i64 a2] []) (fun p => rRes p.2 p.1 = laws_szChain_enc r) := by
 unfold laws_szChain at h
 refine Ev.enter (F := fun k => f19 (CN k) k) (fun k => callN_eq rfl Tryd.func19 rfl rfl rfl (by decide +kernel) (f19_eq _ _)) (sq (Rg (kx (bxI rfl rfl ⟨rfl, rfl, by decide⟩) (kx (mvO rfl) (Rn (hN rfl (hN rfl hZ)) fun e1 h3 h4 => sN (sq (Rg (kx (mvO h3) (kx (faP h4 ⟨ble rfl, blt rfl⟩ rfl) (kx (ldP rfl rfl) (kx (lnB Tryd.underlying9 rfl) (kx (bSub rfl rfl) (kx (mvO rfl) (Rn (hN rfl (hA h4 hZ)) fun e5 h7 h8 => sN (sq (sq (Rg (kx (mvO h7) (kx (bLss rfl rfl) (Rn (hA h7 (hA h8 (hN rfl hZ))) fun e9 h11 h12 h13 => sN ?_))))))))))))))))))))
 clear h4 h7 h8
 rcases ite_some h with ⟨hb14, h⟩ | ⟨hb14, h⟩
 ·refine cT h13 hb14 (sq (Rg (kx (mvO rfl) (Rn (hV (.int .i64 (-1)) rfl hZ) fun e15 h17 => sN (xx (sR ?_))))))
  clear h11 h12 h13
  obtain rfl := si h
  exact eR (resT h17 res0) rfl
 obtain ⟨r19, hx18, h⟩ := bind_some h
 refine cF h13 hb14 (xx (sN (sq (Rg (kx (faP h12 ⟨ble rfl, blt rfl⟩ rfl) (kx (ldPA rfl rfl rfl) (kx (mvO h11) (kc (cl (v := .int .i64 r19) rfl (cns rfl (cns rfl rfl)) rfl (laws_szHalf_ok a1.Stock (IntKind.i64.wrap (a2 - (a1.Debtor.length : Int))) _ hx18) nm) (kx (mvO rfl) (Rn (hN rfl (hA h12 hZ)) fun e20 h22 h23 => sN (sq (sq (Rg (kx (mvO h22) (kx (bLss rfl rfl) (Rn (hA h22 (hA h23 (hN rfl hZ))) fun e24 h26 h27 h28 => sN ?_))))))))))))))))
 clear h12 h13 h22 h23
 rcases ite_some h with ⟨hb29, h⟩ | ⟨hb29, h⟩
 ·refine cT h28 hb29 (sq (Rg (kx (mvO rfl) (Rn (hV (.int .i64 (-1)) rfl hZ) fun e30 h32 => sN (xx (sR ?_))))))
  clear h26 h27 h28
  obtain rfl := si h
  exact eR (resT h32 res0) rfl
 obtain ⟨r34, hx33, h⟩ := bind_some h
 refine cF h28 hb29 (xx (sN (sq (Rg (kx (faP h27 ⟨ble rfl, blt rfl⟩ rfl) (kx (ldP rfl rfl) (kx (mvO h26) (kc (cl (v := .int .i64 r34) rfl (cns rfl (cns rfl rfl)) rfl (laws_szMarkS_ok a1.Marks r19 _ hx33) nm) (kx (mvO rfl) (Rn (hN rfl hZ) fun e35 h37 => sN (sq (sq (Rg (kx (mvO h37) (kx (bLss rfl rfl) (Rn (hA h37 (hN rfl hZ)) fun e38 h40 h41 => sN ?_))))))))))))))))
 clear h27 h28 h37
 rcases ite_some h with ⟨hb42, h⟩ | ⟨hb42, h⟩
 ·refine cT h41 hb42 (sq (Rg (kx (mvO rfl) (Rn (hV (.int .i64 (-1)) rfl hZ) fun e43 h45 => sN (xx (sR ?_))))))
  clear h40 h41
  obtain rfl := si h
  exact eR (resT h45 res0) rfl
 refine cF h41 hb42 (xx (sN (sq (Rg (kx (mvO h40) (kx (mvO rfl) (Rn (hN rfl hZ) fun e46 h48 => sN (xx ?_))))))))
 clear h40 h41
 obtain rfl := si h
 exact eR (resT h48 res0) rfl
/-! ### loop.example/g01263/laws.FnExactChainText (f5) -/
noncomputable def laws_FnExactChainText (a1 : Chain) : Option Bool :=
 (laws_szChain a1 1048576).bind fun r9 =>
 if (decide (r9 < 0)) = true then
  some true
 else
  (laws_toChain a1).bind fun (r23, r24, r25, r26, r27) =>
  (spec_ChainText (Chain.mk r23 (Half.mk r24 r25 r26) r27)).bind fun r29 =>
  (laws_toChain a1).bind fun (r35, r36, r37, r38, r39) =>
  (impl_ChainText (Chain.mk r35 (Half.mk r36 r37 r38) r39)).bind fun r53 =>
  if (r53 == r29) = true then
   (laws_toChain a1).bind fun (r67, r68, r69, r70, r71) =>
   (laws_eqChain (Chain.mk r35 (Half.mk r36 r37 r38) r39) (Chain.mk r67 (Half.mk r68 r69 r70) r71)).bind fun r73 =>
   if r73 = true then
    some true
   else
    some false
  else
   some false
def laws_FnExactChainText_enc (r : Bool) : AV := .bool r
theorem laws_FnExactChainText_ok (a1 : Chain) (r : Bool) (h : laws_FnExactChainText a1 = some r) : Ev (fun k => CN k 5 [.agg (.str a1.Debtor :: (.bool a1.Stock.Stock :: (.sl none (a1.Stock.Notches.map Notch.c) :: ((arC (cI .i8) 0 a1.Stock.Grain) ++ ((.sl none (a1.Marks.map Mark.c) :: []) : List AV)))))] []) (fun p => rRes p.2 p.1 = laws_FnExactChainText_enc r) := by
 unfold laws_FnExactChainText at h
 obtain ⟨r9, hx8, h⟩ := bind_some h
 refine Ev.enter (F := fun k => f5 (CN k) k) (fun k => callN_eq rfl Tryd.func5 rfl rfl rfl (by decide +kernel) (f5_eq _ _)) (sq (Rg (kx (bxI rfl rfl ⟨rfl, rfl, by decide⟩) (kx (mvO rfl) (Rn (hN rfl hZ) fun e1 h3 => sN (sq (Rg (kx (mvO rfl) (Rn (hA h3 (hV (.int .i64 1048576) rfl hZ)) fun e4 h6 h7 => sN (sq (Rg (kx (ldPA h6 rfl rfl) (kx (mvO h7) (kc (cl (v := .int .i64 r9) rfl (cns rfl (cns rfl rfl)) rfl (laws_szChain_ok a1 1048576 _ hx8) nm) (kx (mvO rfl) (Rn (hA h6 (hN rfl hZ)) fun e10 h12 h13 => sN (sq (sq (Rg (kx (mvO h13) (kx (bLss rfl rfl) (Rn (hA h12 (hN rfl hZ)) fun e14 h16 h17 => sN ?_))))))))))))))))))))))
 clear h3 h6 h12 h13
 rcases ite_some h with ⟨hb18, h⟩ | ⟨hb18, h⟩
 ·refine cT h17 hb18 (sq (Rg (kx (mvO rfl) (Rn (hV (.bool true) rfl hZ) fun e19 h21 => sN (xx (sR ?_))))))
  clear h16 h17
  obtain rfl := si h
  exact eR (resT h21 res0) rfl
 obtain ⟨⟨r23, r24, r25, r26, r27⟩, hx22, h⟩ := bind_some h
 obtain ⟨r29, hx28, h⟩ := bind_some h
 obtain ⟨⟨r35, r36, r37, r38, r39⟩, hx34, h⟩ := bind_some h
 refine cF h17 hb18 (xx (sN (sq (Rg (kx (ldPA h16 rfl rfl) (kc (cl (v := .agg (.str r23 :: (.bool r24 :: (.sl none (r25.map Notch.c) :: ((arC (cI .i8) 0 r26) ++ ((.sl none (r27.map Mark.c) :: []) : List AV)))))) rfl (cns rfl rfl) rfl (laws_toChain_ok a1 _ hx22) nm) (kc (cl (v := .str r29) rfl (cns rfl rfl) rfl (spec_ChainText_ok (Chain.mk r23 (Half.mk r24 r25 r26) r27) _ hx28) nm) (kx (mvO rfl) (Rn (hA h16 (hN rfl hZ)) fun e30 h32 h33 => sN (sq (Rg (kx (ldPA h32 rfl rfl) (kc (cl (v := .agg (.str r35 :: (.bool r36 :: (.sl none (r37.map Notch.c) :: ((arC (cI .i8) 0 r38) ++ ((.sl none (r39.map Mark.c) :: []) : List AV)))))) rfl (cns rfl rfl) rfl (laws_toChain_ok a1 _ hx34) nm) (ku (alO zero60) fun M41 hM42 => ?_))))))))))))))
 clear h16 h17
 have o43 : M41[([] : Mem).length]? = some (.live ⟨.box, 60, 20, [(.str ([] : List UInt8) :: (.bool false :: (.nils :: ((arC (cI .i8) 0 (Ar.rep 16 0)) ++ ((.nils :: []) : List AV)))))]⟩) := push_new hM42
 refine kw (stO rfl rfl o43 rfl rfl ⟨rfl, ble rfl⟩ rfl rfl) fun M44 hM45 => ?_
 have o46 : M44[([] : Mem).length]? = some (.live ⟨.box, 60, 20, [(.str r35 :: (.bool r36 :: (.sl none (r37.map Notch.c) :: ((arC (cI .i8) 0 r38) ++ ((.sl none (r39.map Mark.c) :: []) : List AV)))))]⟩) := set_same hM45 o43
 obtain ⟨r53, hx52, h⟩ := bind_some h
 refine Rn (hA h32 (hA h33 (hV (.loc ([] : Mem).length 1 0 0) rfl hZ))) fun e47 h49 h50 h51 => sN (sq (Rg (kx (ldOA (cs' := (.str r35 :: (.bool r36 :: (.sl none (r37.map Notch.c) :: ((arC (cI .i8) 0 r38) ++ ((.sl none (r39.map Mark.c) :: []) : List AV)))))) h51 o46 rfl rfl (ble rfl) rfl) (kc (cl (v := .str r53) rfl (cns rfl rfl) rfl (impl_ChainText_ok (Chain.mk r35 (Half.mk r36 r37 r38) r39) _ hx52) nm) (kx (mvO rfl) (Rn (hA h49 (hA h50 (hA h51 (hN rfl hZ)))) fun e54 h56 h57 h58 h59 => sN (sq (sq (Rg (kx (mvO h59) (kx (mvO h57) (kx (sNeq rfl rfl) (Rn (hA h56 (hA h58 (hN rfl hZ))) fun e60 h62 h63 h64 => sN ?_)))))))))))))
 clear h32 h33 h49 h50 h51 h56 h57 h58 h59
 rcases ite_some h with ⟨hb65, h⟩ | ⟨hb65, h⟩
 ·obtain ⟨⟨r67, r68, r69, r70, r71⟩, hx66, h⟩ := bind_some h
  obtain ⟨r73, hx72, h⟩ := bind_some h
  refine cF h64 (congrArg Bool.not hb65) (xx (sN (sq (sq (Rd (kf (ldOA (cs' := (.str r35 :: (.bool r36 :: (.sl none (r37.map Notch.c) :: ((arC (cI .i8) 0 r38) ++ ((.sl none (r39.map Mark.c) :: []) : List AV)))))) h63 o46 rfl rfl (ble rfl) rfl) (kf (ldPA h62 rfl rfl) (fc (cl (v := .agg (.str r67 :: (.bool r68 :: (.sl none (r69.map Notch.c) :: ((arC (cI .i8) 0 r70) ++ ((.sl none (r71.map Mark.c) :: []) : List AV)))))) rfl (cns rfl rfl) rfl (laws_toChain_ok a1 _ hx66) nm) (fc (cl (v := .bool r73) rfl (cns rfl (cns rfl rfl)) rfl (laws_eqChain_ok (Chain.mk r35 (Half.mk r36 r37 r38) r39) (Chain.mk r67 (Half.mk r68 r69 r70) r71) _ hx72) nm) (kf (uNot rfl) (fZ (Rn (hN rfl hZ) fun e74 h76 => sN ?_))))))))))))
  clear h62 h63 h64
  rcases ite_some h with ⟨hb77, h⟩ | ⟨hb77, h⟩
  ·refine cF h76 (congrArg Bool.not hb77) (xx (sN (sq (Rg (kx (mvO rfl) (Rn (hV (.bool true) rfl hZ) fun e78 h80 => sN (xx ?_)))))))
   clear h76
   obtain rfl := si h
   exact eR (resT h80 res0) rfl
  refine cT h76 (congrArg Bool.not hb77) (sq (Rg (kx (mvO rfl) (Rn (hV (.bool false) rfl hZ) fun e81 h83 => sN (xx (sR ?_))))))
  clear h76
  obtain rfl := si h
  exact eR (resT h83 res0) rfl
 refine cT h64 (congrArg Bool.not hb65) (sq (Rg (kx (mvO rfl) (Rn (hV (.bool false) rfl hZ) fun e84 h86 => sN (xx (sR ?_))))))
 clear h62 h63 h64
 obtain rfl := si h
 exact eR (resT h86 res0) rfl
end Go.Proofs.YtbhbmgmnnkcmcaaDoor

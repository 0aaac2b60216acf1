/- Printed by a program of ours (ext.py). -/
import Derived.Test.YtbhbmgmnnkcmcaaDoorFnsReadChain
set_option linter.unusedVariables false
set_option linter.unusedSimpArgs false
set_option maxRecDepth 100000
set_option maxHeartbeats 2000000
namespace Go.Proofs.YtbhbmgmnnkcmcaaDoor
open Go Go.Ab
structure Notch where
  Kind : Int
  At : Int
  deriving DecidableEq
def Notch.c (x : Notch) : List AV := [.int .i8 x.Kind, .int .i16 x.At]
theorem Notch.fl : Fl Notch.c 2 := fun _ => ⟨rfl, rfl⟩
theorem Notch.flF : FlF Notch.c := fun _ => rfl
structure Half where
  Stock : Bool
  Notches : List Notch
  Grain : Ar 16 Int
  deriving DecidableEq
def Half.c (x : Half) : List AV := (.bool x.Stock :: (.sl none (x.Notches.map Notch.c) :: ((arC (cI .i8) 0 x.Grain) ++ ([] : List AV))))
theorem Half.fl : Fl Half.c 18 := fun _ => ⟨rfl, rfl⟩
structure Mark where
  Holder : List UInt8
  Seal : Int
  deriving DecidableEq
def Mark.c (x : Mark) : List AV := [.str x.Holder, .int .u32 x.Seal]
theorem Mark.fl : Fl Mark.c 2 := fun _ => ⟨rfl, rfl⟩
theorem Mark.flF : FlF Mark.c := fun _ => rfl
structure Chain where
  Debtor : List UInt8
  Stock : Half
  Marks : List Mark
  deriving DecidableEq
def Chain.c (x : Chain) : List AV := (.str x.Debtor :: (.bool x.Stock.Stock :: (.sl none (x.Stock.Notches.map Notch.c) :: ((arC (cI .i8) 0 x.Stock.Grain) ++ ((.sl none (x.Marks.map Mark.c) :: []) : List AV)))))
theorem Chain.fl : Fl Chain.c 20 := fun _ => ⟨rfl, rfl⟩
theorem co107 : cx.P.cellsOf 107 = 2 := by kernel_rfl
theorem co156 : cx.P.cellsOf 156 = 2 := by kernel_rfl
theorem nty57 : nilTys cx.P 6 57 = [0, 157, 0, 0, 0, 0, 0, 0, 0, 0, 0, 0, 0, 0, 0, 0, 0, 0] := by kernel_rfl
theorem nty60 : nilTys cx.P 6 60 = [0, 0, 157, 0, 0, 0, 0, 0, 0, 0, 0, 0, 0, 0, 0, 0, 0, 0, 0, 108] := by kernel_rfl
theorem zero107 : zeroOf cx.P 107 = [.str ([] : List UInt8), .int .u32 0] := by kernel_rfl
theorem zero156 : zeroOf cx.P 156 = [.int .i8 0, .int .i16 0] := by kernel_rfl
theorem zero57 : zeroOf cx.P 57 = (.bool false :: (.nils :: ((arC (cI .i8) 0 (Ar.rep 16 0)) ++ ([] : List AV)))) := by kernel_rfl
theorem zero60 : zeroOf cx.P 60 = (.str ([] : List UInt8) :: (.bool false :: (.nils :: ((arC (cI .i8) 0 (Ar.rep 16 0)) ++ ((.nils :: []) : List AV))))) := by kernel_rfl
/-! ### loop.example/g01263/spec.l01Widths (f186) -/
noncomputable def spec_l01Widths : Option ((List Int)) :=
 some [1, 2, 4, 6, 9, 12]
def spec_l01Widths_enc (r : (List Int)) : AV := .sl (some 2) (r.map (cI .i64))
theorem spec_l01Widths_ok (r : (List Int)) (h : spec_l01Widths = some r) : Ev (fun k => CN k 186 [] []) (fun p => rRes p.2 p.1 = spec_l01Widths_enc r) := by
 unfold spec_l01Widths at h
 refine Ev.enter (F := fun k => f186 (CN k) k) (fun k => callN_eq rfl Tryd.func186 rfl rfl rfl (by decide +kernel) (f186_eq _ _)) (sq (Rg (kx (mvO rfl) (Rn hZ fun e1 => sN (sq (Rg (kx (litI (cns rfl (cns rfl (cns rfl (cns rfl (cns rfl (cns rfl rfl)))))) rfl ⟨rfl, by decide⟩) (kx (mvO rfl) (Rn (hN rfl hZ) fun e3 h5 => sN (xx ?_))))))))))
 obtain rfl := si h
 exact eR (resT h5 res0) rfl
/-! ### loop.example/g01263/spec.l00Min (f174) -/
noncomputable def spec_l00Min (a1 : Int) (a2 : Int) : Option Int :=
 if (decide (a1 < a2)) = true then
  some a1
 else
  some a2
def spec_l00Min_enc (r : Int) : AV := .int .i64 r
theorem spec_l00Min_ok (a1 : Int) (a2 : Int) (r : Int) (h : spec_l00Min a1 a2 = some r) : Ev (fun k => CN k 174 [.int .i64 a1, .int .i64 a2] []) (fun p => rRes p.2 p.1 = spec_l00Min_enc r) := by
 unfold spec_l00Min at h
 refine Ev.enter (F := fun k => f174 (CN k) k) (fun k => callN_eq rfl Tryd.func174 rfl rfl rfl (by decide +kernel) (f174_eq _ _)) (sq (Rg (kx (mvO rfl) (Rn (hN rfl (hN rfl hZ)) fun e1 h3 h4 => sN (sq (sq (Rg (kx (mvO h3) (kx (mvO h4) (kx (bLss rfl rfl) (Rn (hA h3 (hA h4 (hN rfl hZ))) fun e5 h7 h8 h9 => sN ?_)))))))))))
 clear h3 h4
 rcases ite_some h with ⟨hb10, h⟩ | ⟨hb10, h⟩
 ·refine cT h9 hb10 (sq (Rg (kx (mvO h7) (kx (mvO rfl) (Rn (hN rfl hZ) fun e11 h13 => sN (xx (sR ?_)))))))
  clear h7 h8 h9
  obtain rfl := si h
  exact eR (resT h13 res0) rfl
 refine cF h9 hb10 (xx (sN (sq (Rg (kx (mvO h8) (kx (mvO rfl) (Rn (hN rfl hZ) fun e14 h16 => sN (xx ?_))))))))
 clear h7 h8 h9
 obtain rfl := si h
 exact eR (resT h16 res0) rfl
/-! ### loop.example/g01263/impl.width (f170) -/
noncomputable def impl_width (a1 : Int) : Option Int :=
 (rd [1, 2, 4, 6, 9, 12] a1).bind fun x4 =>
 some x4
def impl_width_enc (r : Int) : AV := .int .i64 r
theorem impl_width_ok (a1 : Int) (r : Int) (h : impl_width a1 = some r) : Ev (fun k => CN k 170 [.int .i64 a1] []) (fun p => rRes p.2 p.1 = impl_width_enc r) := by
 unfold impl_width at h
 obtain ⟨x4, hx5, h⟩ := bind_some h
 refine Ev.enter (F := fun k => f170 (CN k) k) (fun k => callN_eq rfl Tryd.func170 rfl rfl rfl (by decide +kernel) (f170_eq _ _)) (sq (Rg (kx (mvO rfl) (Rn (hN rfl hZ) fun e1 h3 => sN (sq (Rg (kx (litI (cns rfl (cns rfl (cns rfl (cns rfl (cns rfl (cns rfl rfl)))))) rfl ⟨rfl, by decide⟩) (kx (mvO h3) (kx (ixLt rfl rfl hx5 (cI_fl _)) (kx (ldP rfl rfl) (kx (mvO rfl) (Rn (hN rfl hZ) fun e6 h8 => sN (xx ?_)))))))))))))
 clear h3
 obtain rfl := si h
 exact eR (resT h8 res0) rfl
/-! ### loop.example/g01263/spec.l01Ends (f169) -/
noncomputable def spec_l01Ends (a1 : Notch) : Option Int :=
 (spec_l01Widths).bind fun r5 =>
 (rd r5 a1.Kind).bind fun x6 =>
 some (IntKind.i64.wrap ((IntKind.i64.wrap a1.At) + x6))
def spec_l01Ends_enc (r : Int) : AV := .int .i64 r
theorem spec_l01Ends_ok (a1 : Notch) (r : Int) (h : spec_l01Ends a1 = some r) : Ev (fun k => CN k 169 [.agg [.int .i8 a1.Kind, .int .i16 a1.At]] []) (fun p => rRes p.2 p.1 = spec_l01Ends_enc r) := by
 unfold spec_l01Ends at h
 obtain ⟨r5, hx4, h⟩ := bind_some h
 obtain ⟨x6, hx7, h⟩ := bind_some h
 refine Ev.enter (F := fun k => f169 (CN k) k) (fun k => callN_eq rfl Tryd.func169 rfl rfl rfl (by decide +kernel) (f169_eq _ _)) (sq (Rg (kx (bxI rfl rfl ⟨rfl, rfl, by decide⟩) (kx (mvO rfl) (Rn (hN rfl hZ) fun e1 h3 => sN (sq (Rd (kf (faP h3 ⟨ble rfl, blt rfl⟩ rfl) (kf (ldP rfl rfl) (kf (cvI rfl) (fc (cl (v := .sl (some 2) (r5.map (cI .i64))) rfl rfl rfl (spec_l01Widths_ok  _ hx4) nm) (kf (faP h3 ⟨ble rfl, blt rfl⟩ rfl) (kf (ldP rfl rfl) (kf (ixS rfl rfl hx7 (cI_fl _)) (kf (ldP rfl rfl) (kf (bAdd rfl rfl) (kf (mvO rfl) (fZ (Rn (hN rfl hZ) fun e8 h10 => sN (xx ?_))))))))))))))))))))
 clear h3
 obtain rfl := si h
 exact eR (resT h10 res0) rfl
/-! ### loop.example/g01263/spec.l00In (f84) -/
noncomputable def spec_l00In (a1 : Int) (a2 : Int) (a3 : Int) : Option Bool :=
 if (decide (a1 ≥ a2)) = true then
  some (decide (a1 ≤ a3))
 else
  some false
def spec_l00In_enc (r : Bool) : AV := .bool r
theorem spec_l00In_ok (a1 : Int) (a2 : Int) (a3 : Int) (r : Bool) (h : spec_l00In a1 a2 a3 = some r) : Ev (fun k => CN k 84 [.int .i64 a1, .int .i64 a2, .int .i64 a3] []) (fun p => rRes p.2 p.1 = spec_l00In_enc r) := by
 unfold spec_l00In at h
 refine Ev.enter (F := fun k => f84 (CN k) k) (fun k => callN_eq rfl Tryd.func84 rfl rfl rfl (by decide +kernel) (f84_eq _ _)) (sq (Rg (kx (mvO rfl) (Rn (hN rfl (hN rfl (hN rfl hZ))) fun e1 h3 h4 h5 => sN (sq (Rg (kx (mvO h3) (kx (mvO h4) (kx (bGeq rfl rfl) (kx (mvO rfl) ?_))))))))))
 rcases ite_some h with ⟨hb6, h⟩ | ⟨hb6, h⟩
 ·refine kx (guT rfl hb6 (mvO h3)) (kx (guT rfl hb6 (mvO h5)) (kx (guT rfl hb6 (bLeq rfl rfl)) (kx (pkT rfl hb6 rfl) (kx (mvO rfl) (Rn (hN rfl hZ) fun e7 h9 => sN (xx ?_))))))
  clear h3 h4 h5
  obtain rfl := si h
  exact eR (resT h9 res0) rfl
 refine kx (gsT rfl hb6) (kx (gsT rfl hb6) (kx (gsT rfl hb6) (kx (pkF rfl hb6 rfl) (kx (mvO rfl) (Rn (hV (.bool false) rfl hZ) fun e10 h12 => sN (xx ?_))))))
 clear h3 h4 h5
 obtain rfl := si h
 exact eR (resT h12 res0) rfl
/-! ### loop.example/g01263/spec.l01Kind (f168) -/
noncomputable def spec_l01Kind (a1 : Int) : Option Bool :=
 (spec_l00In a1 0 5).bind fun r5 =>
 some r5
def spec_l01Kind_enc (r : Bool) : AV := .bool r
theorem spec_l01Kind_ok (a1 : Int) (r : Bool) (h : spec_l01Kind a1 = some r) : Ev (fun k => CN k 168 [.int .i64 a1] []) (fun p => rRes p.2 p.1 = spec_l01Kind_enc r) := by
 unfold spec_l01Kind at h
 obtain ⟨r5, hx4, h⟩ := bind_some h
 refine Ev.enter (F := fun k => f168 (CN k) k) (fun k => callN_eq rfl Tryd.func168 rfl rfl rfl (by decide +kernel) (f168_eq _ _)) (sq (Rg (kx (mvO rfl) (Rn (hN rfl hZ) fun e1 h3 => sN (sq (Rg (kx (mvO h3) (kc (cl (v := .bool r5) rfl (cns rfl (cns rfl (cns rfl rfl))) rfl (spec_l00In_ok a1 0 5 _ hx4) nm) (kx (mvO rfl) (Rn (hN rfl hZ) fun e6 h8 => sN (xx ?_)))))))))))
 clear h3
 obtain rfl := si h
 exact eR (resT h8 res0) rfl
/-! ### loop.example/g01263/spec.l01Letters (f144) -/
noncomputable def spec_l01Letters : Option Unit :=
 some ()
def spec_l01Letters_enc (r : Unit) : AV := .str ([100, 115, 108, 118, 99, 109] : List UInt8)
theorem spec_l01Letters_ok (r : Unit) (h : spec_l01Letters = some r) : Ev (fun k => CN k 144 [] []) (fun p => rRes p.2 p.1 = spec_l01Letters_enc r) := by
 unfold spec_l01Letters at h
 refine Ev.enter (F := fun k => f144 (CN k) k) (fun k => callN_eq rfl Tryd.func144 rfl rfl rfl (by decide +kernel) (f144_eq _ _)) (sq (Rg (kx (mvO rfl) (Rn hZ fun e1 => sN (sq (Rg (kx (mvO rfl) (Rn (hN rfl hZ) fun e3 h5 => sN (xx ?_)))))))))
 obtain rfl := si h
 exact eR (resT h5 res0) rfl
/-! ### loop.example/g01263/spec.l01Number (f125) -/
def spec_l01Number_c1_Q (a1 : List UInt8) (r : Unit ⊕ Bool) (q : Out) : Prop :=
  match r with
  | (.inl g) => q.1 = .ret ∧ eget q.2.1 2 = .int .i64 0 ∧ eget q.2.1 3 = .bool false
  | (.inr g) => q.1 = .nrm ∧ eget q.2.1 0 = .str a1 ∧ eget q.2.1 22 = .bool g
abbrev spec_l01Number_b1_S := Int × Int
abbrev spec_l01Number_b1_R := Unit ⊕ Int
def spec_l01Number_b1_RS (a1 : List UInt8) (s : spec_l01Number_b1_S) (e : Env) (M : Mem) : Prop := eget e 0 = .str a1 ∧ eget e 4 = .int .i64 s.1 ∧ eget e 5 = .int .i64 s.2
def spec_l01Number_b1_RR (a1 : List UInt8) (r : spec_l01Number_b1_R) (x : Ex) (e : Env) (M : Mem) : Prop :=
  match r with
  | (.inl g) => x = .ret ∧ eget e 2 = .int .i64 0 ∧ eget e 3 = .bool false
  | (.inr g) => x = .ext 0 ∧ eget e 4 = .int .i64 g
noncomputable def spec_l01Number_b1 (a1 : List UInt8) : spec_l01Number_b1_S → Option (spec_l01Number_b1_S ⊕ spec_l01Number_b1_R) := fun (s1_1, s1_2) =>
 if (decide (s1_2 < (a1.length : Int))) = true then
  (rd a1 s1_2).bind fun x80 =>
  if (decide ((x80.toNat : Int) < 48)) = true then
   some (.inr (.inl ()))
  else
   (rd a1 s1_2).bind fun x93 =>
   if (decide ((x93.toNat : Int) > 57)) = true then
    some (.inr (.inl ()))
   else
    (rd a1 s1_2).bind fun x106 =>
    some (.inl ((IntKind.i64.wrap ((IntKind.i64.wrap (10 * s1_1)) + (IntKind.i64.wrap (IntKind.u8.wrap ((x106.toNat : Int) - 48))))), (IntKind.i64.wrap (s1_2 + 1))))
 else
  some (.inr (.inr s1_1))
theorem spec_l01Number_b1_ok (a1 : List UInt8) (s : spec_l01Number_b1_S) (r : spec_l01Number_b1_S ⊕ spec_l01Number_b1_R) (h : spec_l01Number_b1 a1 s = some r) (e : Env) (M : Mem) (hs : spec_l01Number_b1_RS a1 s e M) : Ev (fun k => (f125_l5 (CN k) k (prune [0, 4, 5] e) M).bind fun q => some q) (bQ (spec_l01Number_b1_RS a1) (spec_l01Number_b1_RR a1) r) := by
 obtain ⟨s1_1, s1_2⟩ := s
 unfold spec_l01Number_b1 at h
 obtain ⟨h67, h69, h71⟩ := hs
 generalize he66 : prune [0, 4, 5] e = e65
 have h68 := envp he66.symm rfl h67
 have h70 := envp he66.symm rfl h69
 have h72 := envp he66.symm rfl h71
 refine sq (sq (Rg (kx (mvO h72) (kx (mvO h68) (kx (lnB Tryd.underlying9 rfl) (kx (bLss rfl rfl) (Rn (hV (.str a1) h68 (hV (.int .i64 s1_1) h70 (hV (.int .i64 s1_2) h72 (hN rfl hZ)))) fun e73 h75 h76 h77 h78 => sN ?_)))))))
 clear h68 h70 h72
 rcases ite_some h with ⟨hb79, h⟩ | ⟨hb79, h⟩
 ·obtain ⟨x80, hx81, h⟩ := bind_some h
  refine cT h78 hb79 (xx (sN (sq (bl (sq (sq (Rg (kx (mvO h75) (kx (mvO h77) (kx (ixB rfl rfl hx81) (kx (bLss rfl rfl) (kx (mvO rfl) ?_))))))))))))
  rcases ite_some h with ⟨hb82, h⟩ | ⟨hb82, h⟩
  ·refine kx (gsF rfl hb82) (kx (gsF rfl hb82) (kx (gsF rfl hb82) (kx (gsF rfl hb82) (kx (pkT rfl hb82 rfl) (Rn (hA h75 (hA h76 (hA h77 (hV (.bool true) rfl hZ)))) fun e83 h85 h86 h87 h88 => sN (cT h88 rfl (sq (Rg (kx (mvO rfl) (kx (mvO rfl) (Rn (hV (.int .i64 0) rfl (hV (.bool false) rfl hZ)) fun e89 h91 h92 => sN (xx (sR (bR (sR ?_)))))))))))))))
   clear h75 h76 h77 h78 h85 h86 h87 h88
   obtain rfl := si h
   exact qR ⟨rfl, h91, h92⟩
  obtain ⟨x93, hx94, h⟩ := bind_some h
  refine kx (guF rfl hb82 (mvO h75)) (kx (guF rfl hb82 (mvO h77)) (kx (guF rfl hb82 (ixB rfl rfl hx94)) (kx (guF rfl hb82 (bGtr rfl rfl)) (kx (pkF rfl hb82 rfl) (Rn (hA h75 (hA h76 (hA h77 (hN rfl hZ)))) fun e95 h97 h98 h99 h100 => sN ?_)))))
  clear h75 h76 h77 h78
  rcases ite_some h with ⟨hb101, h⟩ | ⟨hb101, h⟩
  ·refine cT h100 hb101 (sq (Rg (kx (mvO rfl) (kx (mvO rfl) (Rn (hV (.int .i64 0) rfl (hV (.bool false) rfl hZ)) fun e102 h104 h105 => sN (xx (sR (bR (sR ?_)))))))))
   clear h100 h97 h98 h99
   obtain rfl := si h
   exact qR ⟨rfl, h104, h105⟩
  obtain ⟨x106, hx107, h⟩ := bind_some h
  refine cF h100 hb101 (xx (sN (Rg (kx (mvO h98) (kx (bMul rfl rfl) (kx (mvO h97) (kx (mvO h99) (kx (ixB rfl rfl hx107) (kx (bSub rfl rfl) (kx (cvI rfl) (kx (bAdd rfl rfl) (kx (mvO rfl) (Rn (hA h97 (hN rfl (hA h99 hZ))) fun e108 h110 h111 h112 => bN (sN (Rg (kx (mvO h112) (kx (bAdd rfl rfl) (kx (mvO rfl) (Rn (hA h110 (hA h111 (hN rfl hZ))) fun e113 h115 h116 h117 => ?_)))))))))))))))))))
  clear h100 h97 h99 h110 h111
  obtain rfl := si h
  exact qN ⟨h115, h116, h117⟩
 refine cF h78 hb79 (xx (sE ?_))
 obtain rfl := si h
 exact qE ⟨rfl, h76⟩
noncomputable def spec_l01Number (a1 : List UInt8) : Option (Int × Bool) :=
 ((if (a1 == ([] : List UInt8)) = true then
  some (.inl ())
 else
  if (decide ((a1.length : Int) > 10)) = true then
   some (.inl ())
  else
   (rd a1 0).bind fun x22 =>
   if ((x22.toNat : Int) == 48) = true then
    if (decide ((a1.length : Int) > 1)) = true then
     some (.inl ())
    else
     some (.inr (decide ((a1.length : Int) > 1)))
   else
    some (.inr false) : Option (Unit ⊕ Bool))).bind fun r => match r with
 | (.inl _) =>
  some (0, false)
 | (.inr y45) =>
  (Lw (spec_l01Number_b1 a1) (0, 0)).bind fun r => match r with
  | (.inl _) =>
   some (0, false)
  | (.inr y127) =>
   some (y127, true)
def spec_l01Number_enc (r : Int × Bool) : AV := .tup [.int .i64 r.1, .bool r.2]
theorem spec_l01Number_ok (a1 : List UInt8) (r : Int × Bool) (h : spec_l01Number a1 = some r) : Ev (fun k => CN k 125 [.str a1] []) (fun p => rRes p.2 p.1 = spec_l01Number_enc r) := by
 unfold spec_l01Number at h
 obtain ⟨r134, hr135, h⟩ := bind_some h
 refine Ev.enter (F := fun k => f125 (CN k) k) (fun k => callN_eq rfl Tryd.func125 rfl rfl rfl (by decide +kernel) (f125_eq _ _)) (sq (Rg (kx (mvO rfl) (kx (mvO rfl) (Rn (hN rfl hZ) fun e1 h3 => sN (sq ?_))))))
 refine Ev.cut (Q1 := spec_l01Number_c1_Q a1 r134) (by
     have h := hr135
     refine sq (Rg (kx (mvO h3) (kx (sEql rfl rfl) (kx (mvO rfl) ?_))))
     rcases ite_some h with ⟨hb4, h⟩ | ⟨hb4, h⟩
     ·refine kx (gsF rfl hb4) (kx (gsF rfl hb4) (kx (gsF rfl hb4) (kx (pkT rfl hb4 rfl) (kx (mvO rfl) (kx (gsF rfl rfl) (kx (gsF rfl rfl) (kx (gsF rfl rfl) (kx (gsF rfl rfl) (kx (gsU rfl) (kx (gsU rfl) (kx (gsU rfl) (kx (gsF rfl rfl) (kx (pkT rfl rfl rfl) (Rn (hA h3 (hV (.bool true) rfl hZ)) fun e5 h7 h8 => sN (cT h8 rfl (sq (Rg (kx (mvO rfl) (kx (mvO rfl) (Rn (hV (.int .i64 0) rfl (hV (.bool false) rfl hZ)) fun e9 h11 h12 => sN (xx ?_)))))))))))))))))))))
      clear h3 h7 h8
      obtain rfl := si h
      exact kd (show spec_l01Number_c1_Q a1 _ _ from ⟨rfl, h11, h12⟩)
     refine kx (guF rfl hb4 (mvO h3)) (kx (guF rfl hb4 (lnB Tryd.underlying9 rfl)) (kx (guF rfl hb4 (bGtr rfl rfl)) (kx (pkF rfl hb4 rfl) (kx (mvO rfl) ?_))))
     rcases ite_some h with ⟨hb13, h⟩ | ⟨hb13, h⟩
     ·refine kx (gsF rfl hb13) (kx (gsF rfl hb13) (kx (gsF rfl hb13) (kx (gsF rfl hb13) (kx (gsU rfl) (kx (gsU rfl) (kx (gsU rfl) (kx (gsF rfl hb13) (kx (pkT rfl hb13 rfl) (Rn (hA h3 (hV (.bool true) rfl hZ)) fun e14 h16 h17 => sN (cT h17 rfl (sq (Rg (kx (mvO rfl) (kx (mvO rfl) (Rn (hV (.int .i64 0) rfl (hV (.bool false) rfl hZ)) fun e18 h20 h21 => sN (xx ?_))))))))))))))))
      clear h3 h16 h17
      obtain rfl := si h
      exact kd (show spec_l01Number_c1_Q a1 _ _ from ⟨rfl, h20, h21⟩)
     obtain ⟨x22, hx23, h⟩ := bind_some h
     refine kx (guF rfl hb13 (mvO h3)) (kx (guF rfl hb13 (ixB rfl rfl hx23)) (kx (guF rfl hb13 (bEql rfl rfl)) (kx (guF rfl hb13 (mvO rfl)) ?_)))
     rcases ite_some h with ⟨hb24, h⟩ | ⟨hb24, h⟩
     ·refine kx (guT rfl hb24 (mvO h3)) (kx (guT rfl hb24 (lnB Tryd.underlying9 rfl)) (kx (guT rfl hb24 (bGtr rfl rfl)) (kx (guF rfl hb13 (pkT rfl hb24 rfl)) (kx (pkF rfl hb13 rfl) (Rn (hA h3 (hN rfl hZ)) fun e25 h27 h28 => sN ?_)))))
      clear h3
      rcases ite_some h with ⟨hb29, h⟩ | ⟨hb29, h⟩
      ·refine cT h28 hb29 (sq (Rg (kx (mvO rfl) (kx (mvO rfl) (Rn (hV (.int .i64 0) rfl (hV (.bool false) rfl hZ)) fun e30 h32 h33 => sN (xx ?_))))))
       clear h27 h28
       obtain rfl := si h
       exact kd (show spec_l01Number_c1_Q a1 _ _ from ⟨rfl, h32, h33⟩)
      refine cF h28 hb29 (xx ?_)
      obtain rfl := si h
      exact kd (show spec_l01Number_c1_Q a1 _ _ from ⟨rfl, h27, h28⟩)
     refine kx (gsT rfl hb24) (kx (gsT rfl hb24) (kx (gsT rfl hb24) (kx (guF rfl hb13 (pkF rfl hb24 rfl)) (kx (pkF rfl hb13 rfl) (Rn (hA h3 (hV (.bool false) rfl hZ)) fun e34 h36 h37 => sN (cF h37 rfl (xx ?_)))))))
     clear h3
     obtain rfl := si h
     exact kd (show spec_l01Number_c1_Q a1 _ _ from ⟨rfl, h36, h37⟩)) ?_
 rcases r134 with _ | y45
 ·intro x e38 M39 hq42
  obtain ⟨rfl, h40, h41⟩ := hq42
  refine sR ?_
  obtain rfl := si h
  exact eR (resT h40 (resT h41 res0)) rfl
 intro x e43 M44 hq133
 obtain ⟨rfl, h46, h47⟩ := hq133
 obtain ⟨r118, hr119, h⟩ := bind_some h
 refine sN (sq (Rg (kx (mvO rfl) (Rn (hV (.str a1) h46 (hV (.int .i64 0) rfl hZ)) fun e48 h50 h51 => sN (sq (sq (Rg (kx (mvO rfl) (Rn (hA h50 (hA h51 (hV (.int .i64 0) rfl hZ))) fun e52 h54 h55 h56 => sN (bl ?_))))))))))
 clear h46 h47 h50 h51
 rcases r118 with _ | y127
 ·refine Ev.loop (RS := spec_l01Number_b1_RS a1) (RR := spec_l01Number_b1_RR a1) (fun s r h e M hs => spec_l01Number_b1_ok a1 s r h e M hs) hr119 ⟨h54, h55, h56⟩ fun x e121 M122 hq120 => ?_
  obtain ⟨rfl, h123, h124⟩ := hq120
  refine bR (sR ?_)
  obtain rfl := si h
  exact eR (resT h123 (resT h124 res0)) rfl
 refine Ev.loop (RS := spec_l01Number_b1_RS a1) (RR := spec_l01Number_b1_RR a1) (fun s r h e M hs => spec_l01Number_b1_ok a1 s r h e M hs) hr119 ⟨h54, h55, h56⟩ fun x e125 M126 hq120 => ?_
 obtain ⟨rfl, h128⟩ := hq120
 refine bE (sN (sq (Rg (kx (mvO h128) (kx (mvO rfl) (kx (mvO rfl) (Rn (hN rfl (hV (.bool true) rfl hZ)) fun e129 h131 h132 => sN (xx ?_))))))))
 clear h128
 obtain rfl := si h
 exact eR (resT h131 (resT h132 res0)) rfl
/-! ### loop.example/g01263/spec.l01ReadNotch (f155) -/
def spec_l01ReadNotch_c3_Q (a1 : List UInt8) (s1_1 : Int) (s1_2 : Int) (s1_3 : Int) (i1_1 : Nat) (r : Unit ⊕ Bool) (q : Out) : Prop :=
  match r with
  | (.inl g) => q.1 = .nrm ∧ eget q.2.1 0 = .str a1 ∧ eget q.2.1 2 = .loc i1_1 1 0 0 ∧ eget q.2.1 4 = .int .i64 s1_1 ∧ eget q.2.1 13 = .bool (decide ((a1.length : Int) > 1)) ∧ q.2.2[i1_1]? = some (.live ⟨.box, 156, 2, [[.int .i8 s1_2, .int .i16 s1_3]]⟩)
  | (.inr g) => q.1 = (.ext 0) ∧ eget q.2.1 0 = .str a1 ∧ eget q.2.1 2 = .loc i1_1 1 0 0 ∧ eget q.2.1 4 = .int .i64 s1_1 ∧ eget q.2.1 13 = .bool g ∧ q.2.2[i1_1]? = some (.live ⟨.box, 156, 2, [[.int .i8 s1_2, .int .i16 s1_3]]⟩)
abbrev spec_l01ReadNotch_b1_S := Int × Int × Int
abbrev spec_l01ReadNotch_b1_R := (Bool × Int × Int) ⊕ (Int × Int)
def spec_l01ReadNotch_b1_RS (a1 : List UInt8) (i1_1 : Nat) (s : spec_l01ReadNotch_b1_S) (e : Env) (M : Mem) : Prop := eget e 0 = .str a1 ∧ eget e 2 = .loc i1_1 1 0 0 ∧ eget e 4 = .int .i64 s.1 ∧ M[i1_1]? = some (.live ⟨.box, 156, 2, [[.int .i8 s.2.1, .int .i16 s.2.2]]⟩)
def spec_l01ReadNotch_b1_RR (a1 : List UInt8) (i1_1 : Nat) (r : spec_l01ReadNotch_b1_R) (x : Ex) (e : Env) (M : Mem) : Prop :=
  match r with
  | (.inl g) => x = .ret ∧ eget e 2 = .loc i1_1 1 0 0 ∧ eget e 3 = .bool g.1 ∧ M[i1_1]? = some (.live ⟨.box, 156, 2, [[.int .i8 g.2.1, .int .i16 g.2.2]]⟩)
  | (.inr g) => x = .ext 0 ∧ eget e 2 = .loc i1_1 1 0 0 ∧ M[i1_1]? = some (.live ⟨.box, 156, 2, [[.int .i8 g.1, .int .i16 g.2]]⟩)
noncomputable def spec_l01ReadNotch_b1 (a1 : List UInt8) : spec_l01ReadNotch_b1_S → Option (spec_l01ReadNotch_b1_S ⊕ spec_l01ReadNotch_b1_R) := fun (s1_1, s1_2, s1_3) =>
 ((if (decide (s1_1 < 6)) = true then
  if (decide ((a1.length : Int) > 1)) = true then
   some (.inl ())
  else
   some (.inr (decide ((a1.length : Int) > 1)))
 else
  some (.inr false) : Option (Unit ⊕ Bool))).bind fun r => match r with
 | (.inl _) =>
  (spec_l01Letters).bind fun _ =>
  (rd ([100, 115, 108, 118, 99, 109] : List UInt8) s1_1).bind fun x54 =>
  (rd a1 0).bind fun x56 =>
  if ((x54.toNat : Int) == (x56.toNat : Int)) = true then
   (slc a1 1 (a1.length : Int)).bind fun x65 =>
   (spec_l01Number x65).bind fun (r68, r69) =>
   (spec_l00Min r68 1000).bind fun r77 =>
   some (.inr (.inl (r69, (IntKind.i8.wrap s1_1), (IntKind.i16.wrap r77))))
  else
   some (.inl ((IntKind.i64.wrap (s1_1 + 1)), s1_2, s1_3))
 | (.inr y93) =>
  some (.inr (.inr (s1_2, s1_3)))
theorem spec_l01ReadNotch_b1_ok (a1 : List UInt8) (i1_1 : Nat) (s : spec_l01ReadNotch_b1_S) (r : spec_l01ReadNotch_b1_S ⊕ spec_l01ReadNotch_b1_R) (h : spec_l01ReadNotch_b1 a1 s = some r) (e : Env) (M : Mem) (hs : spec_l01ReadNotch_b1_RS a1 i1_1 s e M) : Ev (fun k => (f155_l2 (CN k) k (prune [0, 2, 4] e) M).bind fun q => some q) (bQ (spec_l01ReadNotch_b1_RS a1 i1_1) (spec_l01ReadNotch_b1_RR a1 i1_1) r) := by
 obtain ⟨s1_1, s1_2, s1_3⟩ := s
 unfold spec_l01ReadNotch_b1 at h
 obtain ⟨h25, h27, h29, o31⟩ := hs
 generalize he24 : prune [0, 2, 4] e = e23
 have h26 := envp he24.symm rfl h25
 have h28 := envp he24.symm rfl h27
 have h30 := envp he24.symm rfl h29
 obtain ⟨r100, hr101, h⟩ := bind_some h
 refine sq ?_
 refine Ev.cut (Q1 := spec_l01ReadNotch_c3_Q a1 s1_1 s1_2 s1_3 i1_1 r100) (by
     have h := hr101
     refine sq (Rg (kx (mvO h30) (kx (bLss rfl rfl) (kx (mvO rfl) ?_))))
     rcases ite_some h with ⟨hb32, h⟩ | ⟨hb32, h⟩
     ·refine kx (guT rfl hb32 (mvO h26)) (kx (guT rfl hb32 (lnB Tryd.underlying9 rfl)) (kx (guT rfl hb32 (bGtr rfl rfl)) (kx (pkT rfl hb32 rfl) (Rn (hA h26 (hV (.loc i1_1 1 0 0) h28 (hV (.int .i64 s1_1) h30 (hN rfl hZ)))) fun e33 h35 h36 h37 h38 => sN ?_))))
      clear h26 h28 h30
      rcases ite_some h with ⟨hb39, h⟩ | ⟨hb39, h⟩
      ·refine cT h38 hb39 (xx ?_)
       obtain rfl := si h
       exact kd (show spec_l01ReadNotch_c3_Q a1 s1_1 s1_2 s1_3 i1_1 _ _ from ⟨rfl, h35, h36, h37, h38, o31⟩)
      refine cF h38 hb39 (xx ?_)
      obtain rfl := si h
      exact kd (show spec_l01ReadNotch_c3_Q a1 s1_1 s1_2 s1_3 i1_1 _ _ from ⟨rfl, h35, h36, h37, h38, o31⟩)
     refine kx (gsT rfl hb32) (kx (gsT rfl hb32) (kx (gsT rfl hb32) (kx (pkF rfl hb32 rfl) (Rn (hA h26 (hV (.loc i1_1 1 0 0) h28 (hV (.int .i64 s1_1) h30 (hV (.bool false) rfl hZ)))) fun e40 h42 h43 h44 h45 => sN (cF h45 rfl (xx ?_))))))
     clear h26 h28 h30
     obtain rfl := si h
     exact kd (show spec_l01ReadNotch_c3_Q a1 s1_1 s1_2 s1_3 i1_1 _ _ from ⟨rfl, h42, h43, h44, h45, o31⟩)) ?_
 rcases r100 with _ | y93
 ·intro x e46 M47 hq90
  obtain ⟨rfl, h48, h49, h50, h51, o52⟩ := hq90
  obtain ⟨_, hx53, h⟩ := bind_some h
  obtain ⟨x54, hx55, h⟩ := bind_some h
  obtain ⟨x56, hx57, h⟩ := bind_some h
  refine sN (sq (bl (sq (Rd (fc (cl (v := .str ([100, 115, 108, 118, 99, 109] : List UInt8)) rfl rfl rfl (spec_l01Letters_ok  _ hx53) nm) (kf (mvO h50) (kf (ixB rfl rfl hx55) (kf (mvO h48) (kf (ixB rfl rfl hx57) (kf (bEql rfl rfl) (fZ (Rn (hV (.str a1) h48 (hV (.loc i1_1 1 0 0) h49 (hV (.int .i64 s1_1) h50 (hN rfl hZ)))) fun e58 h60 h61 h62 h63 => sN ?_))))))))))))
  clear h48 h49 h50 h51
  rcases ite_some h with ⟨hb64, h⟩ | ⟨hb64, h⟩
  ·obtain ⟨x65, hx66, h⟩ := bind_some h
   obtain ⟨⟨r68, r69⟩, hx67, h⟩ := bind_some h
   obtain ⟨r77, hx76, h⟩ := bind_some h
   refine cT h63 hb64 (sq (Rg (kx (mvO h60) (kx (ssl2 rfl (bnd1 rfl) rfl hx66) (kc (cl (v := .tup [.int .i64 r68, .bool r69]) rfl (cns rfl rfl) rfl (spec_l01Number_ok x65 _ hx67) nm) (kx (mvO rfl) (kx (exT rfl rfl) (kx (exT rfl rfl) (kx (mvO rfl) (kx (mvO rfl) (Rn (hA h61 (hA h62 (hN rfl (hN rfl hZ)))) fun e70 h72 h73 h74 h75 => sN (sq (Rg (kx (mvO h73) (kx (cvI rfl) (kx (mvO h74) (kc (cl (v := .int .i64 r77) rfl (cns rfl (cns rfl rfl)) rfl (spec_l00Min_ok r68 1000 _ hx76) nm) (kx (cvI rfl) (kx (bldT zero156 (cns (pr3 rfl) (cns (pr3 rfl) rfl)) (fill1 ⟨rfl, ble rfl⟩ rfl rfl (fill1 ⟨rfl, ble rfl⟩ rfl rfl (fill0 rfl)))) (kx (mvO h75) (kw (stO h72 rfl o52 rfl rfl ⟨rfl, ble rfl⟩ rfl rfl) fun M78 hM79 => ?_)))))))))))))))))))))
   clear h60 h61 h62 h63
   have o80 : M78[i1_1]? = some (.live ⟨.box, 156, 2, [[.int .i8 (IntKind.i8.wrap s1_1), .int .i16 (IntKind.i16.wrap r77)]]⟩) := set_same hM79 o52
   refine kx (mvO rfl) (Rn (hA h72 (hN rfl hZ)) fun e81 h83 h84 => sN (xx (bR (sR ?_))))
   clear h72 h73 h74 h75
   obtain rfl := si h
   exact qR ⟨rfl, h83, h84, o80⟩
  refine cF h63 hb64 (xx (bN (sN (Rg (kx (mvO h62) (kx (bAdd rfl rfl) (kx (mvO rfl) (Rn (hA h60 (hA h61 (hN rfl hZ))) fun e85 h87 h88 h89 => ?_))))))))
  clear h60 h61 h63
  obtain rfl := si h
  exact qN ⟨h87, h88, h89, o52⟩
 intro x e91 M92 hq99
 obtain ⟨rfl, h94, h95, h96, h97, o98⟩ := hq99
 refine sE ?_
 obtain rfl := si h
 exact qE ⟨rfl, h95, o98⟩
noncomputable def spec_l01ReadNotch (a1 : List UInt8) : Option (Int × Int × Bool) :=
 (Lw (spec_l01ReadNotch_b1 a1) (0, 0, 0)).bind fun r => match r with
 | (.inl (y107, y108, y109)) =>
  some (y108, y109, y107)
 | (.inr (y115, y116)) =>
  some (0, 0, false)
def spec_l01ReadNotch_enc (r : Int × Int × Bool) : AV := .tup [.agg [.int .i8 r.1, .int .i16 r.2.1], .bool r.2.2]
theorem spec_l01ReadNotch_ok (a1 : List UInt8) (r : Int × Int × Bool) (h : spec_l01ReadNotch a1 = some r) : Ev (fun k => CN k 155 [.str a1] []) (fun p => rRes p.2 p.1 = spec_l01ReadNotch_enc r) := by
 unfold spec_l01ReadNotch at h
 refine Ev.enter (F := fun k => f155 (CN k) k) (fun k => callN_eq rfl Tryd.func155 rfl rfl rfl (by decide +kernel) (f155_eq _ _)) (sq (Rg (ku (alO zero156) fun M2 hM3 => ?_)))
 have o4 : M2[([] : Mem).length]? = some (.live ⟨.box, 156, 2, [[.int .i8 0, .int .i16 0]]⟩) := push_new hM3
 obtain ⟨r102, hr103, h⟩ := bind_some h
 refine kx (mvO rfl) (Rn (hN rfl (hV (.loc ([] : Mem).length 1 0 0) rfl hZ)) fun e5 h7 h8 => sN (sq (sq (Rg (kx (mvO rfl) (Rn (hA h7 (hA h8 (hV (.int .i64 0) rfl hZ))) fun e9 h11 h12 h13 => sN (bl ?_)))))))
 clear h7 h8
 rcases r102 with ⟨y107, y108, y109⟩ | ⟨y115, y116⟩
 ·refine Ev.loop (RS := spec_l01ReadNotch_b1_RS a1 (([] : Mem).length)) (RR := spec_l01ReadNotch_b1_RR a1 (([] : Mem).length)) (fun s r h e M hs => spec_l01ReadNotch_b1_ok a1 (([] : Mem).length) s r h e M hs) hr103 ⟨h11, h12, h13, o4⟩ fun x e105 M106 hq104 => ?_
  obtain ⟨rfl, h110, h111, o112⟩ := hq104
  refine bR (sR ?_)
  obtain rfl := si h
  exact eR (resC (ag := true) (sz := 2) ⟨by kernel_rfl, by kernel_rfl, by kernel_rfl⟩ (ldOA h110 o112 rfl rfl (ble rfl) rfl) (resT h111 res0)) rfl
 refine Ev.loop (RS := spec_l01ReadNotch_b1_RS a1 (([] : Mem).length)) (RR := spec_l01ReadNotch_b1_RR a1 (([] : Mem).length)) (fun s r h e M hs => spec_l01ReadNotch_b1_ok a1 (([] : Mem).length) s r h e M hs) hr103 ⟨h11, h12, h13, o4⟩ fun x e113 M114 hq104 => ?_
 obtain ⟨rfl, h117, o118⟩ := hq104
 refine bE (sN (sq (Rg (kx (bldT zero156 rfl (fill0 rfl)) (kw (stO h117 rfl o118 rfl rfl ⟨rfl, ble rfl⟩ rfl rfl) fun M119 hM120 => ?_)))))
 have o121 : M119[([] : Mem).length]? = some (.live ⟨.box, 156, 2, [[.int .i8 0, .int .i16 0]]⟩) := set_same hM120 o118
 refine kx (mvO rfl) (Rn (hV (.loc ([] : Mem).length 1 0 0) h117 (hV (.bool false) rfl hZ)) fun e122 h124 h125 => sN (xx ?_))
 clear h117
 obtain rfl := si h
 exact eR (resC (ag := true) (sz := 2) ⟨by kernel_rfl, by kernel_rfl, by kernel_rfl⟩ (ldOA h124 o121 rfl rfl (ble rfl) rfl) (resT h125 res0)) rfl
/-! ### loop.example/g01263/laws.eqNotch (f149) -/
noncomputable def laws_eqNotch (a1 : Notch) (a2 : Notch) : Option Bool :=
 if (a1.Kind != a2.Kind) = true then
  some false
 else
  if (a1.At != a2.At) = true then
   some false
  else
   some true
def laws_eqNotch_enc (r : Bool) : AV := .bool r
theorem laws_eqNotch_ok (a1 : Notch) (a2 : Notch) (r : Bool) (h : laws_eqNotch a1 a2 = some r) : Ev (fun k => CN k 149 [.agg [.int .i8 a1.Kind, .int .i16 a1.At], .agg [.int .i8 a2.Kind, .int .i16 a2.At]] []) (fun p => rRes p.2 p.1 = laws_eqNotch_enc r) := by
 unfold laws_eqNotch at h
 refine Ev.enter (F := fun k => f149 (CN k) k) (fun k => callN_eq rfl Tryd.func149 rfl rfl rfl (by decide +kernel) (f149_eq _ _)) (sq (Rg (kx (bxI rfl rfl ⟨rfl, rfl, by decide⟩) (kx (bxI rfl rfl ⟨rfl, rfl, by decide⟩) (kx (mvO rfl) (Rn (hN rfl (hN rfl hZ)) fun e1 h3 h4 => sN (sq (sq (Rg (kx (faP h3 ⟨ble rfl, blt rfl⟩ rfl) (kx (ldP rfl rfl) (kx (faP h4 ⟨ble rfl, blt rfl⟩ rfl) (kx (ldP rfl rfl) (kx (bNeq rfl rfl) (Rn (hA h3 (hA h4 (hN rfl hZ))) fun e5 h7 h8 h9 => sN ?_)))))))))))))))
 clear h3 h4
 rcases ite_some h with ⟨hb10, h⟩ | ⟨hb10, h⟩
 ·refine cT h9 hb10 (sq (Rg (kx (mvO rfl) (Rn (hV (.bool false) rfl hZ) fun e11 h13 => sN (xx (sR ?_))))))
  clear h7 h8 h9
  obtain rfl := si h
  exact eR (resT h13 res0) rfl
 refine cF h9 hb10 (xx (sN (sq (sq (Rg (kx (faP h7 ⟨ble rfl, blt rfl⟩ rfl) (kx (ldP rfl rfl) (kx (faP h8 ⟨ble rfl, blt rfl⟩ rfl) (kx (ldP rfl rfl) (kx (bNeq rfl rfl) (Rn (hN rfl hZ) fun e14 h16 => sN ?_)))))))))))
 clear h7 h8 h9
 rcases ite_some h with ⟨hb17, h⟩ | ⟨hb17, h⟩
 ·refine cT h16 hb17 (sq (Rg (kx (mvO rfl) (Rn (hV (.bool false) rfl hZ) fun e18 h20 => sN (xx (sR ?_))))))
  clear h16
  obtain rfl := si h
  exact eR (resT h20 res0) rfl
 refine cF h16 hb17 (xx (sN (sq (Rg (kx (mvO rfl) (Rn (hV (.bool true) rfl hZ) fun e21 h23 => sN (xx ?_)))))))
 clear h16
 obtain rfl := si h
 exact eR (resT h23 res0) rfl
/-! ### (loop.example/g01263/impl.Notch).end (f148) -/
noncomputable def impl_Notch_end (a1 : Notch) : Option Int :=
 (impl_width (IntKind.i64.wrap a1.Kind)).bind fun r5 =>
 some (IntKind.i64.wrap ((IntKind.i64.wrap a1.At) + r5))
def impl_Notch_end_enc (r : Int) : AV := .int .i64 r
theorem impl_Notch_end_ok (a1 : Notch) (r : Int) (h : impl_Notch_end a1 = some r) : Ev (fun k => CN k 148 [.agg [.int .i8 a1.Kind, .int .i16 a1.At]] []) (fun p => rRes p.2 p.1 = impl_Notch_end_enc r) := by
 unfold impl_Notch_end at h
 obtain ⟨r5, hx4, h⟩ := bind_some h
 refine Ev.enter (F := fun k => f148 (CN k) k) (fun k => callN_eq rfl Tryd.func148 rfl rfl rfl (by decide +kernel) (f148_eq _ _)) (sq (Rg (kx (bxI rfl rfl ⟨rfl, rfl, by decide⟩) (kx (mvO rfl) (Rn (hN rfl hZ) fun e1 h3 => sN (sq (Rd (kf (faP h3 ⟨ble rfl, blt rfl⟩ rfl) (kf (ldP rfl rfl) (kf (cvI rfl) (kf (faP h3 ⟨ble rfl, blt rfl⟩ rfl) (kf (ldP rfl rfl) (kf (cvI rfl) (fc (cl (v := .int .i64 r5) rfl (cns rfl rfl) rfl (impl_width_ok (IntKind.i64.wrap a1.Kind) _ hx4) nm) (kf (bAdd rfl rfl) (kf (mvO rfl) (fZ (Rn (hN rfl hZ) fun e6 h8 => sN (xx ?_)))))))))))))))))))
 clear h3
 obtain rfl := si h
 exact eR (resT h8 res0) rfl
/-! ### loop.example/g01263/impl.isKind (f147) -/
noncomputable def impl_isKind (a1 : Int) : Option Bool :=
 if (decide (a1 ≥ 0)) = true then
  some (decide (a1 ≤ 5))
 else
  some false
def impl_isKind_enc (r : Bool) : AV := .bool r
theorem impl_isKind_ok (a1 : Int) (r : Bool) (h : impl_isKind a1 = some r) : Ev (fun k => CN k 147 [.int .i64 a1] []) (fun p => rRes p.2 p.1 = impl_isKind_enc r) := by
 unfold impl_isKind at h
 refine Ev.enter (F := fun k => f147 (CN k) k) (fun k => callN_eq rfl Tryd.func147 rfl rfl rfl (by decide +kernel) (f147_eq _ _)) (sq (Rg (kx (mvO rfl) (Rn (hN rfl hZ) fun e1 h3 => sN (sq (Rg (kx (mvO h3) (kx (bGeq rfl rfl) (kx (mvO rfl) ?_)))))))))
 rcases ite_some h with ⟨hb4, h⟩ | ⟨hb4, h⟩
 ·refine kx (guT rfl hb4 (mvO h3)) (kx (guT rfl hb4 (bLeq rfl rfl)) (kx (pkT rfl hb4 rfl) (kx (mvO rfl) (Rn (hN rfl hZ) fun e5 h7 => sN (xx ?_)))))
  clear h3
  obtain rfl := si h
  exact eR (resT h7 res0) rfl
 refine kx (gsT rfl hb4) (kx (gsT rfl hb4) (kx (pkF rfl hb4 rfl) (kx (mvO rfl) (Rn (hV (.bool false) rfl hZ) fun e8 h10 => sN (xx ?_)))))
 clear h3
 obtain rfl := si h
 exact eR (resT h10 res0) rfl
/-! ### loop.example/g01263/impl.ValidGrain (f146) -/
abbrev impl_ValidGrain_b1_S := Int
abbrev impl_ValidGrain_b1_R := Unit ⊕ Unit
def impl_ValidGrain_b1_RS (a1 : Ar 16 Int) (s : impl_ValidGrain_b1_S) (e : Env) (M : Mem) : Prop := eget e 5 = .agg (arC (cI .i8) 0 a1) ∧ eget e 6 = .int .i64 s
def impl_ValidGrain_b1_RR (a1 : Ar 16 Int) (r : impl_ValidGrain_b1_R) (x : Ex) (e : Env) (M : Mem) : Prop :=
  match r with
  | (.inl g) => x = .ret ∧ eget e 2 = .bool false
  | (.inr g) => x = .ext 0 ∧ True
noncomputable def impl_ValidGrain_b1 (a1 : Ar 16 Int) : impl_ValidGrain_b1_S → Option (impl_ValidGrain_b1_S ⊕ impl_ValidGrain_b1_R) := fun s1_1 =>
 if (decide (s1_1 < 16)) = true then
  (rdA a1 s1_1).bind fun x26 =>
  if (decide (x26 < (-3))) = true then
   some (.inr (.inl ()))
  else
   if (decide (x26 > 3)) = true then
    some (.inr (.inl ()))
   else
    some (.inl (IntKind.i64.wrap (s1_1 + 1)))
 else
  some (.inr (.inr ()))
theorem impl_ValidGrain_b1_ok (a1 : Ar 16 Int) (s : impl_ValidGrain_b1_S) (r : impl_ValidGrain_b1_S ⊕ impl_ValidGrain_b1_R) (h : impl_ValidGrain_b1 a1 s = some r) (e : Env) (M : Mem) (hs : impl_ValidGrain_b1_RS a1 s e M) : Ev (fun k => (f146_l2 (CN k) k (prune [5, 6] e) M).bind fun q => some q) (bQ (impl_ValidGrain_b1_RS a1) (impl_ValidGrain_b1_RR a1) r) := by
 revert h hs
 revert s
 intro s1_1 h hs
 unfold impl_ValidGrain_b1 at h
 obtain ⟨h16, h18⟩ := hs
 generalize he15 : prune [5, 6] e = e14
 have h17 := envp he15.symm rfl h16
 have h19 := envp he15.symm rfl h18
 refine sq (Rg (kx (bLss h19 rfl) (Rn (hV (.agg (arC (cI .i8) 0 a1)) h17 (hV (.int .i64 s1_1) h19 (hN rfl hZ))) fun e20 h22 h23 h24 => sN (sq ?_))))
 clear h17 h19
 rcases ite_some h with ⟨hb25, h⟩ | ⟨hb25, h⟩
 ·obtain ⟨x26, hx27, h⟩ := bind_some h
  refine cT h24 hb25 (xx (sN (sq (bl (sq (Rg (kx (ixA1 (K := AV.int .i8) (c := (cI .i8)) (z := 0) (g := a1) h22 h23 hx27 (fun _ => rfl)) (kx (mvO rfl) (Rn (hN rfl (hA h22 (hA h23 hZ))) fun e28 h30 h31 h32 => sN (sq (Rg (kx (mvO h30) (kx (bLss rfl rfl) (kx (mvO rfl) ?_))))))))))))))
  clear h22 h23 h24
  rcases ite_some h with ⟨hb33, h⟩ | ⟨hb33, h⟩
  ·refine kx (gsF rfl hb33) (kx (gsF rfl hb33) (kx (pkT rfl hb33 rfl) (Rn (hA h31 (hA h32 (hV (.bool true) rfl hZ))) fun e34 h36 h37 h38 => sN (cT h38 rfl (sq (Rg (kx (mvO rfl) (Rn (hV (.bool false) rfl hZ) fun e39 h41 => sN (xx (bR (sR ?_)))))))))))
   clear h30 h31 h32 h36 h37 h38
   obtain rfl := si h
   exact qR ⟨rfl, h41⟩
  refine kx (guF rfl hb33 (mvO h30)) (kx (guF rfl hb33 (bGtr rfl rfl)) (kx (pkF rfl hb33 rfl) (Rn (hA h31 (hA h32 (hN rfl hZ))) fun e42 h44 h45 h46 => sN ?_)))
  clear h30 h31 h32
  rcases ite_some h with ⟨hb47, h⟩ | ⟨hb47, h⟩
  ·refine cT h46 hb47 (sq (Rg (kx (mvO rfl) (Rn (hV (.bool false) rfl hZ) fun e48 h50 => sN (xx (bR (sR ?_)))))))
   clear h44 h45 h46
   obtain rfl := si h
   exact qR ⟨rfl, h50⟩
  refine cF h46 hb47 (xx (bN (sN (Rg (kx (bAdd h45 rfl) (kx (mvO rfl) (Rn (hA h44 (hN rfl hZ)) fun e51 h53 h54 => ?_)))))))
  clear h44 h46
  obtain rfl := si h
  exact qN ⟨h53, h54⟩
 refine cF h24 hb25 (xx (sE ?_))
 obtain rfl := si h
 exact qE ⟨rfl, trivial⟩
noncomputable def impl_ValidGrain (a1 : Ar 16 Int) : Option Bool :=
 (Lw (impl_ValidGrain_b1 a1) 0).bind fun r => match r with
 | (.inl _) =>
  some false
 | (.inr _) =>
  some true
def impl_ValidGrain_enc (r : Bool) : AV := .bool r
theorem impl_ValidGrain_ok (a1 : Ar 16 Int) (r : Bool) (h : impl_ValidGrain a1 = some r) : Ev (fun k => CN k 146 [.agg (arC (cI .i8) 0 a1)] []) (fun p => rRes p.2 p.1 = impl_ValidGrain_enc r) := by
 unfold impl_ValidGrain at h
 obtain ⟨r55, hr56, h⟩ := bind_some h
 refine Ev.enter (F := fun k => f146 (CN k) k) (fun k => callN_eq rfl Tryd.func146 rfl rfl rfl (by decide +kernel) (f146_eq _ _)) (sq (Rg (kx (bxI rfl rfl ⟨rfl, rfl, by decide⟩) (kx (mvO rfl) (Rn (hN rfl hZ) fun e1 h3 => sN (sq (sq (Rg (kx (ldPA h3 rfl rfl) (kx (mvO rfl) (Rn (hN rfl (hV (.int .i64 0) rfl hZ)) fun e4 h6 h7 => sN (bl ?_))))))))))))
 clear h3
 rcases r55 with _ | _
 ·refine Ev.loop (RS := impl_ValidGrain_b1_RS a1) (RR := impl_ValidGrain_b1_RR a1) (fun s r h e M hs => impl_ValidGrain_b1_ok a1 s r h e M hs) hr56 ⟨h6, h7⟩ fun x e58 M59 hq57 => ?_
  obtain ⟨rfl, h60⟩ := hq57
  refine bR (sR ?_)
  obtain rfl := si h
  exact eR (resT h60 res0) rfl
 refine Ev.loop (RS := impl_ValidGrain_b1_RS a1) (RR := impl_ValidGrain_b1_RR a1) (fun s r h e M hs => impl_ValidGrain_b1_ok a1 s r h e M hs) hr56 ⟨h6, h7⟩ fun x e61 M62 hq57 => ?_
 obtain ⟨rfl, _⟩ := hq57
 refine bE (sN (sq (Rg (kx (mvO rfl) (Rn (hV (.bool true) rfl hZ) fun e63 h65 => sN (xx ?_))))))
 obtain rfl := si h
 exact eR (resT h65 res0) rfl
/-! ### loop.example/g01263/spec.l01Grain (f143) -/
abbrev spec_l01Grain_b1_S := Int
abbrev spec_l01Grain_b1_R := Unit ⊕ Unit
def spec_l01Grain_b1_RS (a1 : Ar 16 Int) (s : spec_l01Grain_b1_S) (e : Env) (M : Mem) : Prop := eget e 1 = .pt none (arC (cI .i8) 0 a1) ∧ eget e 3 = .int .i64 s
def spec_l01Grain_b1_RR (a1 : Ar 16 Int) (r : spec_l01Grain_b1_R) (x : Ex) (e : Env) (M : Mem) : Prop :=
  match r with
  | (.inl g) => x = .ret ∧ eget e 2 = .bool false
  | (.inr g) => x = .ext 0 ∧ True
noncomputable def spec_l01Grain_b1 (a1 : Ar 16 Int) : spec_l01Grain_b1_S → Option (spec_l01Grain_b1_S ⊕ spec_l01Grain_b1_R) := fun s1_1 =>
 if (decide (s1_1 < 16)) = true then
  (rdA a1 s1_1).bind fun x26 =>
  if (decide (x26 < (-3))) = true then
   some (.inr (.inl ()))
  else
   (rdA a1 s1_1).bind fun x37 =>
   if (decide (x37 > 3)) = true then
    some (.inr (.inl ()))
   else
    some (.inl (IntKind.i64.wrap (s1_1 + 1)))
 else
  some (.inr (.inr ()))
theorem spec_l01Grain_b1_ok (a1 : Ar 16 Int) (s : spec_l01Grain_b1_S) (r : spec_l01Grain_b1_S ⊕ spec_l01Grain_b1_R) (h : spec_l01Grain_b1 a1 s = some r) (e : Env) (M : Mem) (hs : spec_l01Grain_b1_RS a1 s e M) : Ev (fun k => (f143_l2 (CN k) k (prune [1, 3] e) M).bind fun q => some q) (bQ (spec_l01Grain_b1_RS a1) (spec_l01Grain_b1_RR a1) r) := by
 revert h hs
 revert s
 intro s1_1 h hs
 unfold spec_l01Grain_b1 at h
 obtain ⟨h16, h18⟩ := hs
 generalize he15 : prune [1, 3] e = e14
 have h17 := envp he15.symm rfl h16
 have h19 := envp he15.symm rfl h18
 refine sq (sq (Rg (kx (mvO h19) (kx (bLss rfl rfl) (Rn (hV (.pt none (arC (cI .i8) 0 a1)) h17 (hV (.int .i64 s1_1) h19 (hN rfl hZ))) fun e20 h22 h23 h24 => sN ?_)))))
 clear h17 h19
 rcases ite_some h with ⟨hb25, h⟩ | ⟨hb25, h⟩
 ·obtain ⟨x26, hx27, h⟩ := bind_some h
  refine cT h24 hb25 (xx (sN (sq (bl (sq (Rg (kx (mvO h23) (kx (ixPA (c := (cI .i8)) (z := 0) (g := a1) h22 rfl hx27 (fun _ => rfl)) (kx (ldP rfl rfl) (kx (bLss rfl rfl) (kx (mvO rfl) ?_)))))))))))
  rcases ite_some h with ⟨hb28, h⟩ | ⟨hb28, h⟩
  ·refine kx (gsF rfl hb28) (kx (gsF rfl hb28) (kx (gsF rfl hb28) (kx (gsF rfl hb28) (kx (pkT rfl hb28 rfl) (Rn (hA h22 (hA h23 (hV (.bool true) rfl hZ))) fun e29 h31 h32 h33 => sN (cT h33 rfl (sq (Rg (kx (mvO rfl) (Rn (hV (.bool false) rfl hZ) fun e34 h36 => sN (xx (bR (sR ?_)))))))))))))
   clear h22 h23 h24 h31 h32 h33
   obtain rfl := si h
   exact qR ⟨rfl, h36⟩
  obtain ⟨x37, hx38, h⟩ := bind_some h
  refine kx (guF rfl hb28 (mvO h23)) (kx (guF rfl hb28 (ixPA (c := (cI .i8)) (z := 0) (g := a1) h22 rfl hx38 (fun _ => rfl))) (kx (guF rfl hb28 (ldP rfl rfl)) (kx (guF rfl hb28 (bGtr rfl rfl)) (kx (pkF rfl hb28 rfl) (Rn (hA h22 (hA h23 (hN rfl hZ))) fun e39 h41 h42 h43 => sN ?_)))))
  clear h22 h23 h24
  rcases ite_some h with ⟨hb44, h⟩ | ⟨hb44, h⟩
  ·refine cT h43 hb44 (sq (Rg (kx (mvO rfl) (Rn (hV (.bool false) rfl hZ) fun e45 h47 => sN (xx (bR (sR ?_)))))))
   clear h41 h42 h43
   obtain rfl := si h
   exact qR ⟨rfl, h47⟩
  refine cF h43 hb44 (xx (bN (sN (Rg (kx (mvO h42) (kx (bAdd rfl rfl) (kx (mvO rfl) (Rn (hA h41 (hN rfl hZ)) fun e48 h50 h51 => ?_))))))))
  clear h41 h43
  obtain rfl := si h
  exact qN ⟨h50, h51⟩
 refine cF h24 hb25 (xx (sE ?_))
 obtain rfl := si h
 exact qE ⟨rfl, trivial⟩
noncomputable def spec_l01Grain (a1 : Ar 16 Int) : Option Bool :=
 (Lw (spec_l01Grain_b1 a1) 0).bind fun r => match r with
 | (.inl _) =>
  some false
 | (.inr _) =>
  some true
def spec_l01Grain_enc (r : Bool) : AV := .bool r
theorem spec_l01Grain_ok (a1 : Ar 16 Int) (r : Bool) (h : spec_l01Grain a1 = some r) : Ev (fun k => CN k 143 [.agg (arC (cI .i8) 0 a1)] []) (fun p => rRes p.2 p.1 = spec_l01Grain_enc r) := by
 unfold spec_l01Grain at h
 obtain ⟨r52, hr53, h⟩ := bind_some h
 refine Ev.enter (F := fun k => f143 (CN k) k) (fun k => callN_eq rfl Tryd.func143 rfl rfl rfl (by decide +kernel) (f143_eq _ _)) (sq (Rg (kx (bxI rfl rfl ⟨rfl, rfl, by decide⟩) (kx (mvO rfl) (Rn (hN rfl hZ) fun e1 h3 => sN (sq (sq (Rg (kx (mvO rfl) (Rn (hA h3 (hV (.int .i64 0) rfl hZ)) fun e4 h6 h7 => sN (bl ?_)))))))))))
 clear h3
 rcases r52 with _ | _
 ·refine Ev.loop (RS := spec_l01Grain_b1_RS a1) (RR := spec_l01Grain_b1_RR a1) (fun s r h e M hs => spec_l01Grain_b1_ok a1 s r h e M hs) hr53 ⟨h6, h7⟩ fun x e55 M56 hq54 => ?_
  obtain ⟨rfl, h57⟩ := hq54
  refine bR (sR ?_)
  obtain rfl := si h
  exact eR (resT h57 res0) rfl
 refine Ev.loop (RS := spec_l01Grain_b1_RS a1) (RR := spec_l01Grain_b1_RR a1) (fun s r h e M hs => spec_l01Grain_b1_ok a1 s r h e M hs) hr53 ⟨h6, h7⟩ fun x e58 M59 hq54 => ?_
 obtain ⟨rfl, _⟩ := hq54
 refine bE (sN (sq (Rg (kx (mvO rfl) (Rn (hV (.bool true) rfl hZ) fun e60 h62 => sN (xx ?_))))))
 obtain rfl := si h
 exact eR (resT h62 res0) rfl
/-! ### loop.example/g01263/spec.l01Notches (f142) -/
def spec_l01Notches_c2_Q (a1 : List Notch) (s1_1 : Int) (x34 : Notch) (i902_1 : Nat) (g : Bool) (q : Out) : Prop := q.1 = .nrm ∧ eget q.2.1 0 = .sl none (a1.map Notch.c) ∧ eget q.2.1 3 = .int .i64 s1_1 ∧ eget q.2.1 4 = .loc i902_1 1 0 0 ∧ eget q.2.1 32 = .bool g ∧ q.2.2[i902_1]? = some (.live ⟨.box, 156, 2, [[.int .i8 x34.Kind, .int .i16 x34.At]]⟩)
abbrev spec_l01Notches_b1_S := Int
abbrev spec_l01Notches_b1_R := Unit ⊕ Unit
def spec_l01Notches_b1_RS (a1 : List Notch) (s : spec_l01Notches_b1_S) (e : Env) (M : Mem) : Prop := eget e 0 = .sl none (a1.map Notch.c) ∧ eget e 3 = .int .i64 s
def spec_l01Notches_b1_RR (a1 : List Notch) (r : spec_l01Notches_b1_R) (x : Ex) (e : Env) (M : Mem) : Prop :=
  match r with
  | (.inl g) => x = .ret ∧ eget e 2 = .bool false
  | (.inr g) => x = .ext 0 ∧ True
noncomputable def spec_l01Notches_b1 (a1 : List Notch) : spec_l01Notches_b1_S → Option (spec_l01Notches_b1_S ⊕ spec_l01Notches_b1_R) := fun s1_1 =>
 if (decide (s1_1 < (a1.length : Int))) = true then
  (rd a1 s1_1).bind fun x34 =>
  ((spec_l01Kind (IntKind.i64.wrap x34.Kind)).bind fun r49 =>
  if r49 = true then
   if (decide (x34.At < 0)) = true then
    some true
   else
    (spec_l01Ends x34).bind fun r59 =>
    some (decide (r59 > 200))
  else
   some true).bind fun y74 =>
  if y74 = true then
   some (.inr (.inl ()))
  else
   if (decide (s1_1 > 0)) = true then
    (rd a1 (IntKind.i64.wrap (s1_1 - 1))).bind fun x85 =>
    if (decide (x34.Kind > x85.Kind)) = true then
     some (.inr (.inl ()))
    else
     (rd a1 (IntKind.i64.wrap (s1_1 - 1))).bind fun x96 =>
     (spec_l01Ends x96).bind fun r99 =>
     if (decide ((IntKind.i64.wrap x34.At) ≤ r99)) = true then
      some (.inr (.inl ()))
     else
      some (.inl (IntKind.i64.wrap (s1_1 + 1)))
   else
    some (.inl (IntKind.i64.wrap (s1_1 + 1)))
 else
  some (.inr (.inr ()))
theorem spec_l01Notches_b1_ok (a1 : List Notch) (s : spec_l01Notches_b1_S) (r : spec_l01Notches_b1_S ⊕ spec_l01Notches_b1_R) (h : spec_l01Notches_b1 a1 s = some r) (e : Env) (M : Mem) (hs : spec_l01Notches_b1_RS a1 s e M) : Ev (fun k => (f142_l4 (CN k) k (prune [0, 3] e) M).bind fun q => some q) (bQ (spec_l01Notches_b1_RS a1) (spec_l01Notches_b1_RR a1) r) := by
 revert h hs
 revert s
 intro s1_1 h hs
 unfold spec_l01Notches_b1 at h
 obtain ⟨h24, h26⟩ := hs
 generalize he23 : prune [0, 3] e = e22
 have h25 := envp he23.symm rfl h24
 have h27 := envp he23.symm rfl h26
 refine sq (sq (Rg (kx (mvO h27) (kx (mvO h25) (kx (lnS Tryd.underlying54 rfl) (kx (bLss rfl rfl) (Rn (hV (.sl none (a1.map Notch.c)) h25 (hV (.int .i64 s1_1) h27 (hN rfl hZ))) fun e28 h30 h31 h32 => sN ?_)))))))
 clear h25 h27
 rcases ite_some h with ⟨hb33, h⟩ | ⟨hb33, h⟩
 ·obtain ⟨x34, hx35, h⟩ := bind_some h
  refine cT h32 hb33 (xx (sN (sq (bl (sq (Rg (kx (mvO h30) (kx (mvO h31) (kx (ixS rfl rfl hx35 Notch.fl) (kx (ldPA rfl rfl rfl) (ku (alO zero156) fun M37 hM38 => ?_)))))))))))
  have o39 : M37[M.length]? = some (.live ⟨.box, 156, 2, [[.int .i8 0, .int .i16 0]]⟩) := push_new hM38
  refine kw (stO rfl rfl o39 rfl rfl ⟨rfl, ble rfl⟩ rfl rfl) fun M40 hM41 => ?_
  have o42 : M40[M.length]? = some (.live ⟨.box, 156, 2, [[.int .i8 x34.Kind, .int .i16 x34.At]]⟩) := set_same hM41 o39
  obtain ⟨r123, hr124, h⟩ := bind_some h
  refine Rn (hA h30 (hA h31 (hV (.loc M.length 1 0 0) rfl hZ))) fun e43 h45 h46 h47 => sN (sq (sq ?_))
  clear h30 h31 h32
  refine Ev.cut (Q1 := spec_l01Notches_c2_Q a1 s1_1 x34 M.length r123) (by
      have h := hr124
      obtain ⟨r49, hx48, h⟩ := bind_some h
      refine Rg (kx (faO h47 o42 rfl) (kx (ldO rfl o42 rfl rfl rfl) (kx (cvI rfl) (kc (cl (v := .bool r49) rfl (cns rfl rfl) rfl (spec_l01Kind_ok (IntKind.i64.wrap x34.Kind) _ hx48) nm) (kx (uNot rfl) (kx (mvO rfl) ?_))))))
      rcases ite_some h with ⟨hb50, h⟩ | ⟨hb50, h⟩
      ·refine kx (guF rfl (congrArg Bool.not hb50) (faO h47 o42 rfl)) (kx (guF rfl (congrArg Bool.not hb50) (ldO rfl o42 rfl rfl rfl)) (kx (guF rfl (congrArg Bool.not hb50) (bLss rfl rfl)) (kx (pkF rfl (congrArg Bool.not hb50) rfl) (kx (mvO rfl) ?_))))
       rcases ite_some h with ⟨hb51, h⟩ | ⟨hb51, h⟩
       ·refine kx (gsF rfl hb51) (kc (Ev.gsF rfl hb51) (kx (gsF rfl hb51) (kx (pkT rfl hb51 rfl) (Rn (hA h45 (hA h46 (hA h47 (hV (.bool true) rfl hZ)))) fun e52 h54 h55 h56 h57 => ?_))))
        clear h45 h46 h47
        obtain rfl := si h
        exact kd (show spec_l01Notches_c2_Q a1 s1_1 x34 M.length _ _ from ⟨rfl, h54, h55, h56, h57, o42⟩)
       obtain ⟨r59, hx58, h⟩ := bind_some h
       refine kx (guF rfl hb51 (ldOA h47 o42 rfl rfl (ble rfl) rfl)) (kc (Ev.guF rfl hb51 (cl (v := .int .i64 r59) rfl (cns rfl rfl) rfl (spec_l01Ends_ok x34 _ hx58) nm)) (kx (guF rfl hb51 (bGtr rfl rfl)) (kx (pkF rfl hb51 rfl) (Rn (hA h45 (hA h46 (hA h47 (hN rfl hZ)))) fun e60 h62 h63 h64 h65 => ?_))))
       clear h45 h46 h47
       obtain rfl := si h
       exact kd (show spec_l01Notches_c2_Q a1 s1_1 x34 M.length _ _ from ⟨rfl, h62, h63, h64, h65, o42⟩)
      refine kx (gsF rfl (congrArg Bool.not hb50)) (kx (gsF rfl (congrArg Bool.not hb50)) (kx (gsF rfl (congrArg Bool.not hb50)) (kx (pkT rfl (congrArg Bool.not hb50) rfl) (kx (mvO rfl) (kx (gsF rfl rfl) (kc (Ev.gsF rfl rfl) (kx (gsF rfl rfl) (kx (pkT rfl rfl rfl) (Rn (hA h45 (hA h46 (hA h47 (hV (.bool true) rfl hZ)))) fun e66 h68 h69 h70 h71 => ?_)))))))))
      clear h45 h46 h47
      obtain rfl := si h
      exact kd (show spec_l01Notches_c2_Q a1 s1_1 x34 M.length _ _ from ⟨rfl, h68, h69, h70, h71, o42⟩)) ?_
  revert h hr124
  revert r123
  intro y74 hr124 h
  intro x e72 M73 hq122
  obtain ⟨rfl, h75, h76, h77, h78, o79⟩ := hq122
  refine sN ?_
  rcases ite_some h with ⟨hb80, h⟩ | ⟨hb80, h⟩
  ·refine cT h78 hb80 (sq (Rg (kx (mvO rfl) (Rn (hV (.bool false) rfl hZ) fun e81 h83 => sN (xx (sR (bR (sR ?_))))))))
   clear h75 h76 h77 h78
   obtain rfl := si h
   exact qR ⟨rfl, h83⟩
  refine cF h78 hb80 (xx (sN (sq (Rd (kf (mvO h76) (kf (bGtr rfl rfl) (kf (mvO rfl) ?_)))))))
  rcases ite_some h with ⟨hb84, h⟩ | ⟨hb84, h⟩
  ·obtain ⟨x85, hx86, h⟩ := bind_some h
   refine kf (guT rfl hb84 (faO h77 o79 rfl)) (kf (guT rfl hb84 (ldO rfl o79 rfl rfl rfl)) (kf (guT rfl hb84 (mvO h75)) (kf (guT rfl hb84 (mvO h76)) (kf (guT rfl hb84 (bSub rfl rfl)) (kf (guT rfl hb84 (ixS rfl rfl hx86 Notch.fl)) (kf (guT rfl hb84 (faP rfl ⟨ble rfl, blt rfl⟩ rfl)) (kf (guT rfl hb84 (ldP rfl rfl)) (kf (guT rfl hb84 (bGtr rfl rfl)) (kf (guT rfl hb84 (mvO rfl)) ?_)))))))))
   rcases ite_some h with ⟨hb87, h⟩ | ⟨hb87, h⟩
   ·refine kf (gsF rfl hb87) (kf (gsF rfl hb87) (kf (gsF rfl hb87) (kf (gsF rfl hb87) (kf (gsF rfl hb87) (kf (gsF rfl hb87) (kf (gsF rfl hb87) (kf (gsF rfl hb87) (fc (Ev.gsF rfl hb87) (kf (gsF rfl hb87) (kf (guT rfl hb84 (pkT rfl hb87 rfl)) (kf (pkT rfl hb84 rfl) (fZ (Rn (hV (.sl none (a1.map Notch.c)) h75 (hV (.int .i64 s1_1) h76 (hV (.bool true) rfl hZ))) fun e88 h90 h91 h92 => sN (cT h92 rfl (sq (Rg (kx (mvO rfl) (Rn (hV (.bool false) rfl hZ) fun e93 h95 => sN (xx (bR (sR ?_)))))))))))))))))))))
    clear h75 h76 h77 h78 h90 h91 h92
    obtain rfl := si h
    exact qR ⟨rfl, h95⟩
   obtain ⟨x96, hx97, h⟩ := bind_some h
   obtain ⟨r99, hx98, h⟩ := bind_some h
   refine kf (guF rfl hb87 (faO h77 o79 rfl)) (kf (guF rfl hb87 (ldO rfl o79 rfl rfl rfl)) (kf (guF rfl hb87 (cvI rfl)) (kf (guF rfl hb87 (mvO h75)) (kf (guF rfl hb87 (mvO h76)) (kf (guF rfl hb87 (bSub rfl rfl)) (kf (guF rfl hb87 (ixS rfl rfl hx97 Notch.fl)) (kf (guF rfl hb87 (ldPA rfl rfl rfl)) (fc (Ev.guF rfl hb87 (cl (v := .int .i64 r99) rfl (cns rfl rfl) rfl (spec_l01Ends_ok x96 _ hx98) nm)) (kf (guF rfl hb87 (bLeq rfl rfl)) (kf (guT rfl hb84 (pkF rfl hb87 rfl)) (kf (pkT rfl hb84 rfl) (fZ (Rn (hV (.sl none (a1.map Notch.c)) h75 (hV (.int .i64 s1_1) h76 (hN rfl hZ))) fun e100 h102 h103 h104 => sN ?_)))))))))))))
   clear h75 h76 h77 h78
   rcases ite_some h with ⟨hb105, h⟩ | ⟨hb105, h⟩
   ·refine cT h104 hb105 (sq (Rg (kx (mvO rfl) (Rn (hV (.bool false) rfl hZ) fun e106 h108 => sN (xx (bR (sR ?_)))))))
    clear h102 h103 h104
    obtain rfl := si h
    exact qR ⟨rfl, h108⟩
   refine cF h104 hb105 (xx (bN (sN (Rg (kx (mvO h103) (kx (bAdd rfl rfl) (kx (mvO rfl) (Rn (hA h102 (hN rfl hZ)) fun e109 h111 h112 => ?_))))))))
   clear h102 h104
   obtain rfl := si h
   exact qN ⟨h111, h112⟩
  refine kf (gsT rfl hb84) (kf (gsT rfl hb84) (kf (gsT rfl hb84) (kf (gsT rfl hb84) (kf (gsT rfl hb84) (kf (gsT rfl hb84) (kf (gsT rfl hb84) (kf (gsT rfl hb84) (kf (gsT rfl hb84) (kf (gsT rfl hb84) (kf (gsU rfl) (kf (gsU rfl) (kf (gsU rfl) (kf (gsU rfl) (kf (gsU rfl) (kf (gsU rfl) (kf (gsU rfl) (kf (gsU rfl) (fc (Ev.gsU rfl) (kf (gsU rfl) (kf (gsT rfl hb84) (kf (pkF rfl hb84 rfl) (fZ (Rn (hV (.sl none (a1.map Notch.c)) h75 (hV (.int .i64 s1_1) h76 (hV (.bool false) rfl hZ))) fun e113 h115 h116 h117 => sN (cF h117 rfl (xx (bN (sN (Rg (kx (mvO h116) (kx (bAdd rfl rfl) (kx (mvO rfl) (Rn (hA h115 (hN rfl hZ)) fun e118 h120 h121 => ?_))))))))))))))))))))))))))))))))
  clear h75 h76 h77 h78 h115 h117
  obtain rfl := si h
  exact qN ⟨h120, h121⟩
 refine cF h32 hb33 (xx (sE ?_))
 obtain rfl := si h
 exact qE ⟨rfl, trivial⟩
noncomputable def spec_l01Notches (a1 : List Notch) : Option Bool :=
 if (decide ((a1.length : Int) > 60)) = true then
  some false
 else
  (Lw (spec_l01Notches_b1 a1) 0).bind fun r => match r with
  | (.inl _) =>
   some false
  | (.inr _) =>
   some true
def spec_l01Notches_enc (r : Bool) : AV := .bool r
theorem spec_l01Notches_ok (a1 : List Notch) (r : Bool) (h : spec_l01Notches a1 = some r) : Ev (fun k => CN k 142 [.sl none (a1.map Notch.c)] []) (fun p => rRes p.2 p.1 = spec_l01Notches_enc r) := by
 unfold spec_l01Notches at h
 refine Ev.enter (F := fun k => f142 (CN k) k) (fun k => callN_eq rfl Tryd.func142 rfl rfl rfl (by decide +kernel) (f142_eq _ _)) (sq (Rg (kx (mvO rfl) (Rn (hN rfl hZ) fun e1 h3 => sN (sq (sq (Rg (kx (mvO h3) (kx (lnS Tryd.underlying54 rfl) (kx (bGtr rfl rfl) (Rn (hA h3 (hN rfl hZ)) fun e4 h6 h7 => sN ?_)))))))))))
 clear h3
 rcases ite_some h with ⟨hb8, h⟩ | ⟨hb8, h⟩
 ·refine cT h7 hb8 (sq (Rg (kx (mvO rfl) (Rn (hV (.bool false) rfl hZ) fun e9 h11 => sN (xx (sR ?_))))))
  clear h6 h7
  obtain rfl := si h
  exact eR (resT h11 res0) rfl
 obtain ⟨r125, hr126, h⟩ := bind_some h
 refine cF h7 hb8 (xx (sN (sq (sq (Rg (kx (mvO rfl) (Rn (hA h6 (hV (.int .i64 0) rfl hZ)) fun e12 h14 h15 => sN (bl ?_))))))))
 clear h6 h7
 rcases r125 with _ | _
 ·refine Ev.loop (RS := spec_l01Notches_b1_RS a1) (RR := spec_l01Notches_b1_RR a1) (fun s r h e M hs => spec_l01Notches_b1_ok a1 s r h e M hs) hr126 ⟨h14, h15⟩ fun x e128 M129 hq127 => ?_
  obtain ⟨rfl, h130⟩ := hq127
  refine bR (sR ?_)
  obtain rfl := si h
  exact eR (resT h130 res0) rfl
 refine Ev.loop (RS := spec_l01Notches_b1_RS a1) (RR := spec_l01Notches_b1_RR a1) (fun s r h e M hs => spec_l01Notches_b1_ok a1 s r h e M hs) hr126 ⟨h14, h15⟩ fun x e131 M132 hq127 => ?_
 obtain ⟨rfl, _⟩ := hq127
 refine bE (sN (sq (Rg (kx (mvO rfl) (Rn (hV (.bool true) rfl hZ) fun e133 h135 => sN (xx ?_))))))
 obtain rfl := si h
 exact eR (resT h135 res0) rfl
/-! ### loop.example/g01263/laws.heldNotchS (f124) -/
abbrev laws_heldNotchS_b1_S := Int × Int
abbrev laws_heldNotchS_b1_R := Unit ⊕ Int
def laws_heldNotchS_b1_RS (a1 : List Notch) (s : laws_heldNotchS_b1_S) (e : Env) (M : Mem) : Prop := eget e 0 = .sl none (a1.map Notch.c) ∧ eget e 1 = .int .i64 s.1 ∧ eget e 5 = .int .i64 s.2
def laws_heldNotchS_b1_RR (a1 : List Notch) (r : laws_heldNotchS_b1_R) (x : Ex) (e : Env) (M : Mem) : Prop :=
  match r with
  | (.inl g) => x = .ret ∧ eget e 4 = .int .i64 (-1)
  | (.inr g) => x = .ext 0 ∧ eget e 1 = .int .i64 g
noncomputable def laws_heldNotchS_b1 (a1 : List Notch) : laws_heldNotchS_b1_S → Option (laws_heldNotchS_b1_S ⊕ laws_heldNotchS_b1_R) := fun (s1_1, s1_2) =>
 if (decide (s1_2 < (a1.length : Int))) = true then
  (rd a1 s1_2).bind fun x33 =>
  if (x33.Kind != (IntKind.i8.wrap s1_1)) = true then
   some (.inr (.inl ()))
  else
   (rd a1 s1_2).bind fun x50 =>
   if (x50.At != (IntKind.i16.wrap (IntKind.i64.wrap (s1_1 + 1)))) = true then
    some (.inr (.inl ()))
   else
    some (.inl ((IntKind.i64.wrap ((IntKind.i64.wrap (s1_1 + 1)) + 1)), (IntKind.i64.wrap (s1_2 + 1))))
 else
  some (.inr (.inr s1_1))
theorem laws_heldNotchS_b1_ok (a1 : List Notch) (s : laws_heldNotchS_b1_S) (r : laws_heldNotchS_b1_S ⊕ laws_heldNotchS_b1_R) (h : laws_heldNotchS_b1 a1 s = some r) (e : Env) (M : Mem) (hs : laws_heldNotchS_b1_RS a1 s e M) : Ev (fun k => (f124_l2 (CN k) k (prune [0, 1, 5] e) M).bind fun q => some q) (bQ (laws_heldNotchS_b1_RS a1) (laws_heldNotchS_b1_RR a1) r) := by
 obtain ⟨s1_1, s1_2⟩ := s
 unfold laws_heldNotchS_b1 at h
 obtain ⟨h20, h22, h24⟩ := hs
 generalize he19 : prune [0, 1, 5] e = e18
 have h21 := envp he19.symm rfl h20
 have h23 := envp he19.symm rfl h22
 have h25 := envp he19.symm rfl h24
 refine sq (sq (Rg (kx (mvO h25) (kx (mvO h21) (kx (lnS Tryd.underlying54 rfl) (kx (bLss rfl rfl) (Rn (hV (.sl none (a1.map Notch.c)) h21 (hV (.int .i64 s1_1) h23 (hV (.int .i64 s1_2) h25 (hN rfl hZ)))) fun e26 h28 h29 h30 h31 => sN ?_)))))))
 clear h21 h23 h25
 rcases ite_some h with ⟨hb32, h⟩ | ⟨hb32, h⟩
 ·obtain ⟨x33, hx34, h⟩ := bind_some h
  refine cT h31 hb32 (xx (sN (sq (bl (sq (sq (Rg (kx (mvO h28) (kx (mvO h30) (kx (ixS rfl rfl hx34 Notch.fl) (kx (faP rfl ⟨ble rfl, blt rfl⟩ rfl) (kx (ldP rfl rfl) (kx (mvO h29) (kx (cvI rfl) (kx (bNeq rfl rfl) (Rn (hA h28 (hA h29 (hA h30 (hN rfl hZ)))) fun e35 h37 h38 h39 h40 => sN ?_))))))))))))))))
  clear h28 h29 h30 h31
  rcases ite_some h with ⟨hb41, h⟩ | ⟨hb41, h⟩
  ·refine cT h40 hb41 (sq (Rg (kx (mvO rfl) (Rn (hV (.int .i64 (-1)) rfl hZ) fun e42 h44 => sN (xx (sR (bR (sR ?_))))))))
   clear h37 h38 h39 h40
   obtain rfl := si h
   exact qR ⟨rfl, h44⟩
  obtain ⟨x50, hx51, h⟩ := bind_some h
  refine cF h40 hb41 (xx (sN (sq (Rg (kx (mvO h38) (kx (bAdd rfl rfl) (kx (mvO rfl) (Rn (hA h37 (hN rfl (hA h39 hZ))) fun e45 h47 h48 h49 => sN (sq (sq (Rg (kx (mvO h47) (kx (mvO h49) (kx (ixS rfl rfl hx51 Notch.fl) (kx (faP rfl ⟨ble rfl, blt rfl⟩ rfl) (kx (ldP rfl rfl) (kx (mvO h48) (kx (cvI rfl) (kx (bNeq rfl rfl) (Rn (hA h47 (hA h48 (hA h49 (hN rfl hZ)))) fun e52 h54 h55 h56 h57 => sN ?_))))))))))))))))))))
  clear h37 h39 h40 h47 h48 h49
  rcases ite_some h with ⟨hb58, h⟩ | ⟨hb58, h⟩
  ·refine cT h57 hb58 (sq (Rg (kx (mvO rfl) (Rn (hV (.int .i64 (-1)) rfl hZ) fun e59 h61 => sN (xx (sR (bR (sR ?_))))))))
   clear h54 h55 h56 h57
   obtain rfl := si h
   exact qR ⟨rfl, h61⟩
  refine cF h57 hb58 (xx (sN (Rg (kx (mvO h55) (kx (bAdd rfl rfl) (kx (mvO rfl) (Rn (hA h54 (hN rfl (hA h56 hZ))) fun e62 h64 h65 h66 => bN (sN (Rg (kx (mvO h66) (kx (bAdd rfl rfl) (kx (mvO rfl) (Rn (hA h64 (hA h65 (hN rfl hZ))) fun e67 h69 h70 h71 => ?_)))))))))))))
  clear h54 h56 h57 h64 h65
  obtain rfl := si h
  exact qN ⟨h69, h70, h71⟩
 refine cF h31 hb32 (xx (sE ?_))
 obtain rfl := si h
 exact qE ⟨rfl, h29⟩
noncomputable def laws_heldNotchS (a1 : List Notch) (a2 : Int) : Option Int :=
 (Lw (laws_heldNotchS_b1 a1) (a2, 0)).bind fun r => match r with
 | (.inl _) =>
  some (-1)
 | (.inr y80) =>
  some y80
def laws_heldNotchS_enc (r : Int) : AV := .int .i64 r
theorem laws_heldNotchS_ok (a1 : List Notch) (a2 : Int) (r : Int) (h : laws_heldNotchS a1 a2 = some r) : Ev (fun k => CN k 124 [.sl none (a1.map Notch.c), .int .i64 a2] []) (fun p => rRes p.2 p.1 = laws_heldNotchS_enc r) := by
 unfold laws_heldNotchS at h
 obtain ⟨r72, hr73, h⟩ := bind_some h
 refine Ev.enter (F := fun k => f124 (CN k) k) (fun k => callN_eq rfl Tryd.func124 rfl rfl rfl (by decide +kernel) (f124_eq _ _)) (sq (Rg (kx (mvO rfl) (Rn (hN rfl (hN rfl hZ)) fun e1 h3 h4 => sN (sq (sq (Rg (kx (mvO rfl) (Rn (hA h3 (hA h4 (hV (.int .i64 0) rfl hZ))) fun e5 h7 h8 h9 => sN (bl ?_))))))))))
 clear h3 h4
 rcases r72 with _ | y80
 ·refine Ev.loop (RS := laws_heldNotchS_b1_RS a1) (RR := laws_heldNotchS_b1_RR a1) (fun s r h e M hs => laws_heldNotchS_b1_ok a1 s r h e M hs) hr73 ⟨h7, h8, h9⟩ fun x e75 M76 hq74 => ?_
  obtain ⟨rfl, h77⟩ := hq74
  refine bR (sR ?_)
  obtain rfl := si h
  exact eR (resT h77 res0) rfl
 refine Ev.loop (RS := laws_heldNotchS_b1_RS a1) (RR := laws_heldNotchS_b1_RR a1) (fun s r h e M hs => laws_heldNotchS_b1_ok a1 s r h e M hs) hr73 ⟨h7, h8, h9⟩ fun x e78 M79 hq74 => ?_
 obtain ⟨rfl, h81⟩ := hq74
 refine bE (sN (sq (Rg (kx (mvO h81) (kx (mvO rfl) (Rn (hN rfl hZ) fun e82 h84 => sN (xx ?_)))))))
 clear h81
 obtain rfl := si h
 exact eR (resT h84 res0) rfl
/-! ### loop.example/g01263/laws.markText (f123) -/
abbrev laws_markText_b1_S := Int × (List UInt8)
abbrev laws_markText_b1_R := (List UInt8)
def laws_markText_b1_RS (s : laws_markText_b1_S) (e : Env) (M : Mem) : Prop := eget e 0 = .int .i64 s.1 ∧ eget e 3 = .str s.2
def laws_markText_b1_RR (g : laws_markText_b1_R) (x : Ex) (e : Env) (M : Mem) : Prop := x = .ext 0 ∧ eget e 3 = .str g
noncomputable def laws_markText_b1 : laws_markText_b1_S → Option (laws_markText_b1_S ⊕ laws_markText_b1_R) := fun (s1_1, s1_2) =>
 if (decide (s1_1 > 0)) = true then
  (rem .i64 s1_1 10).bind fun n34 =>
  (sadd (toB [(IntKind.u8.wrap (IntKind.i64.wrap (48 + n34)))]) s1_2).bind fun w36 =>
  (quo .i64 s1_1 10).bind fun n42 =>
  some (.inl (n42, w36))
 else
  some (.inr s1_2)
theorem laws_markText_b1_ok (s : laws_markText_b1_S) (r : laws_markText_b1_S ⊕ laws_markText_b1_R) (h : laws_markText_b1 s = some r) (e : Env) (M : Mem) (hs : laws_markText_b1_RS s e M) : Ev (fun k => (f123_l4 (CN k) k (prune [0, 3] e) M).bind fun q => some q) (bQ (laws_markText_b1_RS) (laws_markText_b1_RR) r) := by
 obtain ⟨s1_1, s1_2⟩ := s
 unfold laws_markText_b1 at h
 obtain ⟨h24, h26⟩ := hs
 generalize he23 : prune [0, 3] e = e22
 have h25 := envp he23.symm rfl h24
 have h27 := envp he23.symm rfl h26
 refine sq (sq (Rg (kx (mvO h25) (kx (bGtr rfl rfl) (Rn (hV (.int .i64 s1_1) h25 (hV (.str s1_2) h27 (hN rfl hZ))) fun e28 h30 h31 h32 => sN ?_)))))
 clear h25 h27
 rcases ite_some h with ⟨hb33, h⟩ | ⟨hb33, h⟩
 ·obtain ⟨n34, hx35, h⟩ := bind_some h
  obtain ⟨w36, hx37, h⟩ := bind_some h
  obtain ⟨n42, hx43, h⟩ := bind_some h
  refine cT h32 hb33 (xx (sN (bl (sq (Rg (kx (mvO h30) (kx (bRem rfl rfl hx35) (kx (bAdd rfl rfl) (kx (cvI rfl) (kx (litI (cns rfl rfl) rfl ⟨rfl, by decide⟩) (kx (cvB (elT (c := (cI .u8)) (xs := [(IntKind.u8.wrap (IntKind.i64.wrap (48 + n34)))]) rfl)) (kx (mvO h31) (kx (sAdd rfl rfl hx37) (kx (mvO rfl) (Rn (hA h30 (hN rfl hZ)) fun e38 h40 h41 => sN (Rg (kx (mvO h40) (kx (bQuo rfl rfl hx43) (kx (mvO rfl) (Rn (hN rfl (hA h41 hZ)) fun e44 h46 h47 => bN ?_))))))))))))))))))))
  clear h30 h32 h41
  obtain rfl := si h
  exact qN ⟨h46, h47⟩
 refine cF h32 hb33 (xx (sE ?_))
 obtain rfl := si h
 exact qE ⟨rfl, h31⟩
noncomputable def laws_markText (a1 : Int) : Option ((List UInt8)) :=
 if (decide (a1 ≤ 0)) = true then
  some ([109, 48] : List UInt8)
 else
  (Lw (laws_markText_b1) (a1, ([] : List UInt8))).bind fun y53 =>
  (sadd ([109] : List UInt8) y53).bind fun w55 =>
  some w55
def laws_markText_enc (r : (List UInt8)) : AV := .str r
theorem laws_markText_ok (a1 : Int) (r : (List UInt8)) (h : laws_markText a1 = some r) : Ev (fun k => CN k 123 [.int .i64 a1] []) (fun p => rRes p.2 p.1 = laws_markText_enc r) := by
 unfold laws_markText at h
 refine Ev.enter (F := fun k => f123 (CN k) k) (fun k => callN_eq rfl Tryd.func123 rfl rfl rfl (by decide +kernel) (f123_eq _ _)) (sq (Rg (kx (mvO rfl) (Rn (hN rfl hZ) fun e1 h3 => sN (sq (sq (Rg (kx (mvO h3) (kx (bLeq rfl rfl) (Rn (hA h3 (hN rfl hZ)) fun e4 h6 h7 => sN ?_))))))))))
 clear h3
 rcases ite_some h with ⟨hb8, h⟩ | ⟨hb8, h⟩
 ·refine cT h7 hb8 (sq (Rg (kx (mvO rfl) (Rn (hN rfl hZ) fun e9 h11 => sN (xx (sR ?_))))))
  clear h6 h7
  obtain rfl := si h
  exact eR (resT h11 res0) rfl
 obtain ⟨y53, hr49, h⟩ := bind_some h
 refine cF h7 hb8 (xx (sN (sq (Rg (kx (mvO rfl) (Rn (hA h6 (hN rfl hZ)) fun e12 h14 h15 => sN (sq (bl (Ev.loop (RS := laws_markText_b1_RS) (RR := laws_markText_b1_RR) (fun s r h e M hs => laws_markText_b1_ok s r h e M hs) hr49 ⟨h14, h15⟩ fun x e51 M52 hq50 => ?_)))))))))
 clear h6 h7
 obtain ⟨rfl, h54⟩ := hq50
 obtain ⟨w55, hx56, h⟩ := bind_some h
 refine bE (sN (sq (Rg (kx (mvO h54) (kx (sAdd rfl rfl hx56) (kx (mvO rfl) (Rn (hN rfl hZ) fun e57 h59 => sN (xx ?_))))))))
 clear h54
 obtain rfl := si h
 exact eR (resT h59 res0) rfl
/-! ### loop.example/g01263/impl.number (f121) -/
def impl_number_c1_Q (a1 : List UInt8) (r : Unit ⊕ Bool) (q : Out) : Prop :=
  match r with
  | (.inl g) => q.1 = .ret ∧ eget q.2.1 2 = .int .i64 0 ∧ eget q.2.1 3 = .bool false
  | (.inr g) => q.1 = .nrm ∧ eget q.2.1 0 = .str a1 ∧ eget q.2.1 22 = .bool g
abbrev impl_number_b1_S := Int × Int
abbrev impl_number_b1_R := Unit ⊕ Int
def impl_number_b1_RS (a1 : List UInt8) (s : impl_number_b1_S) (e : Env) (M : Mem) : Prop := eget e 0 = .str a1 ∧ eget e 4 = .int .i64 s.1 ∧ eget e 24 = .int .i64 (a1.length : Int) ∧ eget e 25 = .int .i64 s.2
def impl_number_b1_RR (a1 : List UInt8) (r : impl_number_b1_R) (x : Ex) (e : Env) (M : Mem) : Prop :=
  match r with
  | (.inl g) => x = .ret ∧ eget e 2 = .int .i64 0 ∧ eget e 3 = .bool false
  | (.inr g) => x = .ext 0 ∧ eget e 4 = .int .i64 g
noncomputable def impl_number_b1 (a1 : List UInt8) : impl_number_b1_S → Option (impl_number_b1_S ⊕ impl_number_b1_R) := fun (s1_1, s1_2) =>
 if (decide (s1_2 < (a1.length : Int))) = true then
  (rd a1 s1_2).bind fun x93 =>
  if (decide ((x93.toNat : Int) < 48)) = true then
   some (.inr (.inl ()))
  else
   (rd a1 s1_2).bind fun x108 =>
   if (decide ((x108.toNat : Int) > 57)) = true then
    some (.inr (.inl ()))
   else
    (rd a1 s1_2).bind fun x123 =>
    some (.inl ((IntKind.i64.wrap ((IntKind.i64.wrap (s1_1 * 10)) + (IntKind.i64.wrap (IntKind.u8.wrap ((x123.toNat : Int) - 48))))), (IntKind.i64.wrap (s1_2 + 1))))
 else
  some (.inr (.inr s1_1))
theorem impl_number_b1_ok (a1 : List UInt8) (s : impl_number_b1_S) (r : impl_number_b1_S ⊕ impl_number_b1_R) (h : impl_number_b1 a1 s = some r) (e : Env) (M : Mem) (hs : impl_number_b1_RS a1 s e M) : Ev (fun k => (f121_l5 (CN k) k (prune [0, 4, 24, 25] e) M).bind fun q => some q) (bQ (impl_number_b1_RS a1) (impl_number_b1_RR a1) r) := by
 obtain ⟨s1_1, s1_2⟩ := s
 unfold impl_number_b1 at h
 obtain ⟨h70, h72, h74, h76⟩ := hs
 generalize he69 : prune [0, 4, 24, 25] e = e68
 have h71 := envp he69.symm rfl h70
 have h73 := envp he69.symm rfl h72
 have h75 := envp he69.symm rfl h74
 have h77 := envp he69.symm rfl h76
 refine sq (Rg (kx (bLss h77 h75) (Rn (hV (.str a1) h71 (hV (.int .i64 s1_1) h73 (hV (.int .i64 (a1.length : Int)) h75 (hV (.int .i64 s1_2) h77 (hN rfl hZ))))) fun e78 h80 h81 h82 h83 h84 => sN (sq ?_))))
 clear h71 h73 h75 h77
 rcases ite_some h with ⟨hb85, h⟩ | ⟨hb85, h⟩
 ·obtain ⟨x93, hx94, h⟩ := bind_some h
  refine cT h84 hb85 (xx (sN (sq (bl (sq (Rg (kx (mvO h83) (kx (mvO rfl) (Rn (hA h80 (hA h81 (hN rfl (hA h82 (hA h83 hZ))))) fun e86 h88 h89 h90 h91 h92 => sN (sq (sq (Rg (kx (mvO h88) (kx (mvO h90) (kx (ixB rfl rfl hx94) (kx (bLss rfl rfl) (kx (mvO rfl) ?_)))))))))))))))))
  clear h80 h81 h82 h83 h84
  rcases ite_some h with ⟨hb95, h⟩ | ⟨hb95, h⟩
  ·refine kx (gsF rfl hb95) (kx (gsF rfl hb95) (kx (gsF rfl hb95) (kx (gsF rfl hb95) (kx (pkT rfl hb95 rfl) (Rn (hA h88 (hA h89 (hA h90 (hA h91 (hA h92 (hV (.bool true) rfl hZ)))))) fun e96 h98 h99 h100 h101 h102 h103 => sN (cT h103 rfl (sq (Rg (kx (mvO rfl) (kx (mvO rfl) (Rn (hV (.int .i64 0) rfl (hV (.bool false) rfl hZ)) fun e104 h106 h107 => sN (xx (sR (bR (sR ?_)))))))))))))))
   clear h88 h89 h90 h91 h92 h100 h101 h102 h103 h98 h99
   obtain rfl := si h
   exact qR ⟨rfl, h106, h107⟩
  obtain ⟨x108, hx109, h⟩ := bind_some h
  refine kx (guF rfl hb95 (mvO h88)) (kx (guF rfl hb95 (mvO h90)) (kx (guF rfl hb95 (ixB rfl rfl hx109)) (kx (guF rfl hb95 (bGtr rfl rfl)) (kx (pkF rfl hb95 rfl) (Rn (hA h88 (hA h89 (hA h90 (hA h91 (hA h92 (hN rfl hZ)))))) fun e110 h112 h113 h114 h115 h116 h117 => sN ?_)))))
  clear h88 h89 h90 h91 h92
  rcases ite_some h with ⟨hb118, h⟩ | ⟨hb118, h⟩
  ·refine cT h117 hb118 (sq (Rg (kx (mvO rfl) (kx (mvO rfl) (Rn (hV (.int .i64 0) rfl (hV (.bool false) rfl hZ)) fun e119 h121 h122 => sN (xx (sR (bR (sR ?_)))))))))
   clear h112 h113 h114 h115 h116 h117
   obtain rfl := si h
   exact qR ⟨rfl, h121, h122⟩
  obtain ⟨x123, hx124, h⟩ := bind_some h
  refine cF h117 hb118 (xx (sN (Rg (kx (mvO h113) (kx (bMul rfl rfl) (kx (mvO h112) (kx (mvO h114) (kx (ixB rfl rfl hx124) (kx (bSub rfl rfl) (kx (cvI rfl) (kx (bAdd rfl rfl) (kx (mvO rfl) (Rn (hA h112 (hN rfl (hA h115 (hA h116 hZ)))) fun e125 h127 h128 h129 h130 => bN (sN (Rg (kx (bAdd h130 rfl) (kx (mvO rfl) (Rn (hA h127 (hA h128 (hA h129 (hN rfl hZ)))) fun e131 h133 h134 h135 h136 => ?_))))))))))))))))))
  clear h112 h114 h115 h116 h117 h127 h128 h129
  obtain rfl := si h
  exact qN ⟨h133, h134, h135, h136⟩
 refine cF h84 hb85 (xx (sE ?_))
 obtain rfl := si h
 exact qE ⟨rfl, h81⟩
noncomputable def impl_number (a1 : List UInt8) : Option (Int × Bool) :=
 ((if (a1 == ([] : List UInt8)) = true then
  some (.inl ())
 else
  if (decide ((a1.length : Int) > 9)) = true then
   some (.inl ())
  else
   (rd a1 0).bind fun x22 =>
   if ((x22.toNat : Int) == 48) = true then
    if (decide ((a1.length : Int) > 1)) = true then
     some (.inl ())
    else
     some (.inr (decide ((a1.length : Int) > 1)))
   else
    some (.inr false) : Option (Unit ⊕ Bool))).bind fun r => match r with
 | (.inl _) =>
  some (0, false)
 | (.inr y45) =>
  (Lw (impl_number_b1 a1) (0, 0)).bind fun r => match r with
  | (.inl _) =>
   some (0, false)
  | (.inr y146) =>
   some (y146, true)
def impl_number_enc (r : Int × Bool) : AV := .tup [.int .i64 r.1, .bool r.2]
theorem impl_number_ok (a1 : List UInt8) (r : Int × Bool) (h : impl_number a1 = some r) : Ev (fun k => CN k 121 [.str a1] []) (fun p => rRes p.2 p.1 = impl_number_enc r) := by
 unfold impl_number at h
 obtain ⟨r153, hr154, h⟩ := bind_some h
 refine Ev.enter (F := fun k => f121 (CN k) k) (fun k => callN_eq rfl Tryd.func121 rfl rfl rfl (by decide +kernel) (f121_eq _ _)) (sq (Rg (kx (mvO rfl) (kx (mvO rfl) (Rn (hN rfl hZ) fun e1 h3 => sN (sq ?_))))))
 refine Ev.cut (Q1 := impl_number_c1_Q a1 r153) (by
     have h := hr154
     refine sq (Rg (kx (mvO h3) (kx (sEql rfl rfl) (kx (mvO rfl) ?_))))
     rcases ite_some h with ⟨hb4, h⟩ | ⟨hb4, h⟩
     ·refine kx (gsF rfl hb4) (kx (gsF rfl hb4) (kx (gsF rfl hb4) (kx (pkT rfl hb4 rfl) (kx (mvO rfl) (kx (gsF rfl rfl) (kx (gsF rfl rfl) (kx (gsF rfl rfl) (kx (gsF rfl rfl) (kx (gsU rfl) (kx (gsU rfl) (kx (gsU rfl) (kx (gsF rfl rfl) (kx (pkT rfl rfl rfl) (Rn (hA h3 (hV (.bool true) rfl hZ)) fun e5 h7 h8 => sN (cT h8 rfl (sq (Rg (kx (mvO rfl) (kx (mvO rfl) (Rn (hV (.int .i64 0) rfl (hV (.bool false) rfl hZ)) fun e9 h11 h12 => sN (xx ?_)))))))))))))))))))))
      clear h3 h7 h8
      obtain rfl := si h
      exact kd (show impl_number_c1_Q a1 _ _ from ⟨rfl, h11, h12⟩)
     refine kx (guF rfl hb4 (mvO h3)) (kx (guF rfl hb4 (lnB Tryd.underlying9 rfl)) (kx (guF rfl hb4 (bGtr rfl rfl)) (kx (pkF rfl hb4 rfl) (kx (mvO rfl) ?_))))
     rcases ite_some h with ⟨hb13, h⟩ | ⟨hb13, h⟩
     ·refine kx (gsF rfl hb13) (kx (gsF rfl hb13) (kx (gsF rfl hb13) (kx (gsF rfl hb13) (kx (gsU rfl) (kx (gsU rfl) (kx (gsU rfl) (kx (gsF rfl hb13) (kx (pkT rfl hb13 rfl) (Rn (hA h3 (hV (.bool true) rfl hZ)) fun e14 h16 h17 => sN (cT h17 rfl (sq (Rg (kx (mvO rfl) (kx (mvO rfl) (Rn (hV (.int .i64 0) rfl (hV (.bool false) rfl hZ)) fun e18 h20 h21 => sN (xx ?_))))))))))))))))
      clear h3 h16 h17
      obtain rfl := si h
      exact kd (show impl_number_c1_Q a1 _ _ from ⟨rfl, h20, h21⟩)
     obtain ⟨x22, hx23, h⟩ := bind_some h
     refine kx (guF rfl hb13 (mvO h3)) (kx (guF rfl hb13 (ixB rfl rfl hx23)) (kx (guF rfl hb13 (bEql rfl rfl)) (kx (guF rfl hb13 (mvO rfl)) ?_)))
     rcases ite_some h with ⟨hb24, h⟩ | ⟨hb24, h⟩
     ·refine kx (guT rfl hb24 (mvO h3)) (kx (guT rfl hb24 (lnB Tryd.underlying9 rfl)) (kx (guT rfl hb24 (bGtr rfl rfl)) (kx (guF rfl hb13 (pkT rfl hb24 rfl)) (kx (pkF rfl hb13 rfl) (Rn (hA h3 (hN rfl hZ)) fun e25 h27 h28 => sN ?_)))))
      clear h3
      rcases ite_some h with ⟨hb29, h⟩ | ⟨hb29, h⟩
      ·refine cT h28 hb29 (sq (Rg (kx (mvO rfl) (kx (mvO rfl) (Rn (hV (.int .i64 0) rfl (hV (.bool false) rfl hZ)) fun e30 h32 h33 => sN (xx ?_))))))
       clear h27 h28
       obtain rfl := si h
       exact kd (show impl_number_c1_Q a1 _ _ from ⟨rfl, h32, h33⟩)
      refine cF h28 hb29 (xx ?_)
      obtain rfl := si h
      exact kd (show impl_number_c1_Q a1 _ _ from ⟨rfl, h27, h28⟩)
     refine kx (gsT rfl hb24) (kx (gsT rfl hb24) (kx (gsT rfl hb24) (kx (guF rfl hb13 (pkF rfl hb24 rfl)) (kx (pkF rfl hb13 rfl) (Rn (hA h3 (hV (.bool false) rfl hZ)) fun e34 h36 h37 => sN (cF h37 rfl (xx ?_)))))))
     clear h3
     obtain rfl := si h
     exact kd (show impl_number_c1_Q a1 _ _ from ⟨rfl, h36, h37⟩)) ?_
 rcases r153 with _ | y45
 ·intro x e38 M39 hq42
  obtain ⟨rfl, h40, h41⟩ := hq42
  refine sR ?_
  obtain rfl := si h
  exact eR (resT h40 (resT h41 res0)) rfl
 intro x e43 M44 hq152
 obtain ⟨rfl, h46, h47⟩ := hq152
 obtain ⟨r137, hr138, h⟩ := bind_some h
 refine sN (sq (Rg (kx (mvO rfl) (Rn (hV (.str a1) h46 (hV (.int .i64 0) rfl hZ)) fun e48 h50 h51 => sN (sq (sq (Rg (kx (mvO h50) (kx (lnB Tryd.underlying9 rfl) (kx (mvO rfl) (Rn (hA h50 (hA h51 (hN rfl (hV (.int .i64 0) rfl hZ)))) fun e52 h54 h55 h56 h57 => sN (bl ?_))))))))))))
 clear h46 h47 h50 h51
 rcases r137 with _ | y146
 ·refine Ev.loop (RS := impl_number_b1_RS a1) (RR := impl_number_b1_RR a1) (fun s r h e M hs => impl_number_b1_ok a1 s r h e M hs) hr138 ⟨h54, h55, h56, h57⟩ fun x e140 M141 hq139 => ?_
  obtain ⟨rfl, h142, h143⟩ := hq139
  refine bR (sR ?_)
  obtain rfl := si h
  exact eR (resT h142 (resT h143 res0)) rfl
 refine Ev.loop (RS := impl_number_b1_RS a1) (RR := impl_number_b1_RR a1) (fun s r h e M hs => impl_number_b1_ok a1 s r h e M hs) hr138 ⟨h54, h55, h56, h57⟩ fun x e144 M145 hq139 => ?_
 obtain ⟨rfl, h147⟩ := hq139
 refine bE (sN (sq (Rg (kx (mvO h147) (kx (mvO rfl) (kx (mvO rfl) (Rn (hN rfl (hV (.bool true) rfl hZ)) fun e148 h150 h151 => sN (xx ?_))))))))
 clear h147
 obtain rfl := si h
 exact eR (resT h150 (resT h151 res0)) rfl
/-! ### loop.example/g01263/spec.l01Split (f65) -/
abbrev spec_l01Split_b1_S := Int × Int × (List (List UInt8))
abbrev spec_l01Split_b1_R := Int × (List (List UInt8))
def spec_l01Split_b1_RS (a1 : List UInt8) (a2 : Int) (i1_1 : Nat) (s : spec_l01Split_b1_S) (e : Env) (M : Mem) : Prop := eget e 0 = .str a1 ∧ eget e 1 = .int .u8 a2 ∧ eget e 5 = .lsl i1_1 s.2.2.length 0 s.2.2.length ∧ eget e 6 = .int .i64 s.1 ∧ eget e 7 = .int .i64 s.2.1 ∧ M[i1_1]? = some (.live ⟨.grow, 9, 1, s.2.2.map cS⟩)
def spec_l01Split_b1_RR (a1 : List UInt8) (a2 : Int) (i1_1 : Nat) (g : spec_l01Split_b1_R) (x : Ex) (e : Env) (M : Mem) : Prop := x = .ext 0 ∧ eget e 0 = .str a1 ∧ eget e 5 = .lsl i1_1 g.2.length 0 g.2.length ∧ eget e 6 = .int .i64 g.1 ∧ M[i1_1]? = some (.live ⟨.grow, 9, 1, g.2.map cS⟩)
noncomputable def spec_l01Split_b1 (a1 : List UInt8) (a2 : Int) : spec_l01Split_b1_S → Option (spec_l01Split_b1_S ⊕ spec_l01Split_b1_R) := fun (s1_1, s1_2, s1_3) =>
 if (decide (s1_2 < (a1.length : Int))) = true then
  (rd a1 s1_2).bind fun x62 =>
  if ((x62.toNat : Int) == a2) = true then
   (slc a1 s1_1 s1_2).bind fun x73 =>
   (app 16 s1_3 [x73]).bind fun x75 =>
   some (.inl ((IntKind.i64.wrap (s1_2 + 1)), (IntKind.i64.wrap (s1_2 + 1)), x75))
  else
   some (.inl (s1_1, (IntKind.i64.wrap (s1_2 + 1)), s1_3))
 else
  some (.inr (s1_1, s1_3))
theorem spec_l01Split_b1_ok (a1 : List UInt8) (a2 : Int) (i1_1 : Nat) (s : spec_l01Split_b1_S) (r : spec_l01Split_b1_S ⊕ spec_l01Split_b1_R) (h : spec_l01Split_b1 a1 a2 s = some r) (e : Env) (M : Mem) (hs : spec_l01Split_b1_RS a1 a2 i1_1 s e M) : Ev (fun k => (f65_l4 (CN k) k (prune [0, 1, 5, 6, 7] e) M).bind fun q => some q) (bQ (spec_l01Split_b1_RS a1 a2 i1_1) (spec_l01Split_b1_RR a1 a2 i1_1) r) := by
 obtain ⟨s1_1, s1_2, s1_3⟩ := s
 unfold spec_l01Split_b1 at h
 obtain ⟨h42, h44, h46, h48, h50, o52⟩ := hs
 generalize he41 : prune [0, 1, 5, 6, 7] e = e40
 have h43 := envp he41.symm rfl h42
 have h45 := envp he41.symm rfl h44
 have h47 := envp he41.symm rfl h46
 have h49 := envp he41.symm rfl h48
 have h51 := envp he41.symm rfl h50
 refine sq (sq (Rg (kx (mvO h51) (kx (mvO h43) (kx (lnB Tryd.underlying9 rfl) (kx (bLss rfl rfl) (Rn (hV (.str a1) h43 (hV (.int .u8 a2) h45 (hV (.lsl i1_1 s1_3.length 0 s1_3.length) h47 (hV (.int .i64 s1_1) h49 (hV (.int .i64 s1_2) h51 (hN rfl hZ)))))) fun e53 h55 h56 h57 h58 h59 h60 => sN ?_)))))))
 clear h43 h45 h47 h49 h51
 rcases ite_some h with ⟨hb61, h⟩ | ⟨hb61, h⟩
 ·obtain ⟨x62, hx63, h⟩ := bind_some h
  refine cT h60 hb61 (xx (sN (sq (bl (sq (Rg (kx (mvO h55) (kx (mvO h59) (kx (ixB rfl rfl hx63) (kx (mvO h56) (kx (bEql rfl rfl) (Rn (hA h55 (hA h56 (hA h57 (hA h58 (hA h59 (hN rfl hZ)))))) fun e64 h66 h67 h68 h69 h70 h71 => sN ?_))))))))))))
  clear h55 h56 h57 h58 h59 h60
  rcases ite_some h with ⟨hb72, h⟩ | ⟨hb72, h⟩
  ·obtain ⟨x73, hx74, h⟩ := bind_some h
   obtain ⟨x75, hx76, h⟩ := bind_some h
   refine cT h71 hb72 (sq (Rg (kx (mvO h68) (kx (mvO h66) (kx (mvO h69) (kx (mvO h70) (kx (ssl2 rfl (bnd1 rfl) (bnd1 rfl) hx74) (kx (litI (cns rfl rfl) rfl ⟨rfl, by decide⟩) (kw (apO rfl o52 rfl (elT (c := cS) (xs := [x73]) rfl) hx76 cS_fl (by decide)) fun M77 hM78 => ?_)))))))))
   have o79 : M77[i1_1]? = some (.live ⟨.grow, 9, 1, x75.map cS⟩) := set_same hM78 o52
   refine kx (mvO rfl) (Rn (hA h66 (hA h67 (hV (.lsl i1_1 x75.length 0 x75.length) rfl (hA h70 hZ)))) fun e80 h82 h83 h84 h85 => sN (Rg (kx (mvO h85) (kx (bAdd rfl rfl) (kx (mvO rfl) (Rn (hA h82 (hA h83 (hA h84 (hN rfl (hA h85 hZ))))) fun e86 h88 h89 h90 h91 h92 => bN (sN (Rg (kx (mvO h92) (kx (bAdd rfl rfl) (kx (mvO rfl) (Rn (hA h88 (hA h89 (hA h90 (hA h91 (hN rfl hZ))))) fun e93 h95 h96 h97 h98 h99 => ?_))))))))))))
   clear h66 h67 h69 h70 h71 h82 h83 h84 h85 h88 h89 h90 h91
   obtain rfl := si h
   exact qN ⟨h95, h96, h97, h98, h99, o79⟩
  refine cF h71 hb72 (xx (bN (sN (Rg (kx (mvO h70) (kx (bAdd rfl rfl) (kx (mvO rfl) (Rn (hA h66 (hA h67 (hA h68 (hA h69 (hN rfl hZ))))) fun e100 h102 h103 h104 h105 h106 => ?_))))))))
  clear h66 h67 h68 h69 h71
  obtain rfl := si h
  exact qN ⟨h102, h103, h104, h105, h106, o52⟩
 refine cF h60 hb61 (xx (sE ?_))
 obtain rfl := si h
 exact qE ⟨rfl, h55, h57, h58, o52⟩
noncomputable def spec_l01Split (a1 : List UInt8) (a2 : Int) : Option ((List (List UInt8))) :=
 (Lw (spec_l01Split_b1 a1 a2) (0, 0, ([] : List (List UInt8)))).bind fun (y112, y113) =>
 (slc a1 y112 (a1.length : Int)).bind fun x118 =>
 (app 16 y113 [x118]).bind fun x120 =>
 some x120
def spec_l01Split_enc (r : (List (List UInt8))) : AV := .sl (some 9) (r.map cS)
theorem spec_l01Split_ok (a1 : List UInt8) (a2 : Int) (r : (List (List UInt8))) (h : spec_l01Split a1 a2 = some r) : Ev (fun k => CN k 65 [.str a1, .int .u8 a2] []) (fun p => rRes p.2 p.1 = spec_l01Split_enc r) := by
 unfold spec_l01Split at h
 refine Ev.enter (F := fun k => f65 (CN k) k) (fun k => callN_eq rfl Tryd.func65 rfl rfl rfl (by decide +kernel) (f65_eq _ _)) (sq (Rg (kx (mvO rfl) (Rn (hN rfl (hN rfl hZ)) fun e1 h3 h4 => sN (sq (Rg (ku (litO (xs := ([] : List (List UInt8))) (c := cS) rfl rfl (by decide)) fun M6 hM7 => ?_)))))))
 have o8 : M6[([] : Mem).length]? = some (.live ⟨.grow, 9, 1, ([] : List (List UInt8)).map cS⟩) := push_new hM7
 obtain ⟨⟨y112, y113⟩, hr108, h⟩ := bind_some h
 refine kx (mvO rfl) (Rn (hA h3 (hA h4 (hV (.lsl ([] : Mem).length ([] : List (List UInt8)).length 0 ([] : List (List UInt8)).length) rfl hZ))) fun e9 h11 h12 h13 => sN (sq (Rg (kx (mvO rfl) (Rn (hA h11 (hA h12 (hA h13 (hV (.int .i64 0) rfl hZ)))) fun e14 h16 h17 h18 h19 => sN (sq (sq (Rg (kx (mvO rfl) (Rn (hA h16 (hA h17 (hA h18 (hA h19 (hV (.int .i64 0) rfl hZ))))) fun e20 h22 h23 h24 h25 h26 => sN (bl (Ev.loop (RS := spec_l01Split_b1_RS a1 a2 (([] : Mem).length)) (RR := spec_l01Split_b1_RR a1 a2 (([] : Mem).length)) (fun s r h e M hs => spec_l01Split_b1_ok a1 a2 (([] : Mem).length) s r h e M hs) hr108 ⟨h22, h23, h24, h25, h26, o8⟩ fun x e110 M111 hq109 => ?_))))))))))))
 clear h3 h4 h11 h12 h13 h16 h17 h18 h19
 obtain ⟨rfl, h114, h115, h116, o117⟩ := hq109
 obtain ⟨x118, hx119, h⟩ := bind_some h
 obtain ⟨x120, hx121, h⟩ := bind_some h
 refine bE (sN (sq (Rg (kx (mvO h115) (kx (mvO h114) (kx (mvO h116) (kx (ssl2 rfl (bnd1 rfl) rfl hx119) (kx (litI (cns rfl rfl) rfl ⟨rfl, by decide⟩) (kw (apO rfl o117 rfl (elT (c := cS) (xs := [x118]) rfl) hx121 cS_fl (by decide)) fun M122 hM123 => ?_)))))))))
 have o124 : M122[([] : Mem).length]? = some (.live ⟨.grow, 9, 1, x120.map cS⟩) := set_same hM123 o117
 refine kx (mvO rfl) (Rn (hV (.lsl ([] : Mem).length x120.length 0 x120.length) rfl hZ) fun e125 h127 => sN (xx ?_))
 clear h114 h116
 obtain rfl := si h
 exact eR (resT h127 res0) (rr_row o124 rfl cS_fl)
/-! ### loop.example/g01263/spec.l01Ok (f99) -/
noncomputable def spec_l01Ok (a1 : Half) : Option Bool :=
 (spec_l01Notches a1.Notches).bind fun r5 =>
 if r5 = true then
  (spec_l01Grain a1.Grain).bind fun r8 =>
  some r8
 else
  some false
def spec_l01Ok_enc (r : Bool) : AV := .bool r
theorem spec_l01Ok_ok (a1 : Half) (r : Bool) (h : spec_l01Ok a1 = some r) : Ev (fun k => CN k 99 [.pt none (.bool a1.Stock :: (.sl none (a1.Notches.map Notch.c) :: ((arC (cI .i8) 0 a1.Grain) ++ ([] : List AV))))] []) (fun p => rRes p.2 p.1 = spec_l01Ok_enc r) := by
 unfold spec_l01Ok at h
 obtain ⟨r5, hx4, h⟩ := bind_some h
 refine Ev.enter (F := fun k => f99 (CN k) k) (fun k => callN_eq rfl Tryd.func99 rfl rfl rfl (by decide +kernel) (f99_eq _ _)) (sq (Rg (kx (mvO rfl) (Rn (hN rfl hZ) fun e1 h3 => sN (sq (Rg (kx (mvO h3) (kx (ncP rfl) (kx (faP rfl ⟨ble rfl, blt rfl⟩ rfl) (kx (ldP rfl rfl) (kc (cl (v := .bool r5) rfl (cns rfl rfl) rfl (spec_l01Notches_ok a1.Notches _ hx4) nm) (kx (mvO rfl) ?_))))))))))))
 rcases ite_some h with ⟨hb6, h⟩ | ⟨hb6, h⟩
 ·obtain ⟨r8, hx7, h⟩ := bind_some h
  refine kx (guT rfl hb6 (mvO h3)) (kx (guT rfl hb6 (ncP rfl)) (kx (guT rfl hb6 (faP rfl ⟨ble rfl, blt rfl⟩ rfl)) (kx (guT rfl hb6 (ldPA rfl rfl rfl)) (kc (Ev.guT rfl hb6 (cl (v := .bool r8) rfl (cns rfl rfl) rfl (spec_l01Grain_ok a1.Grain _ hx7) nm)) (kx (pkT rfl hb6 rfl) (kx (mvO rfl) (Rn (hN rfl hZ) fun e9 h11 => sN (xx ?_))))))))
  clear h3
  obtain rfl := si h
  exact eR (resT h11 res0) rfl
 refine kx (gsT rfl hb6) (kx (gsT rfl hb6) (kx (gsT rfl hb6) (kx (gsT rfl hb6) (kc (Ev.gsT rfl hb6) (kx (pkF rfl hb6 rfl) (kx (mvO rfl) (Rn (hV (.bool false) rfl hZ) fun e12 h14 => sN (xx ?_))))))))
 clear h3
 obtain rfl := si h
 exact eR (resT h14 res0) rfl
/-! ### loop.example/g01263/spec.l01ReadHalf (f118) -/
def spec_l01ReadHalf_c1_Q (r10 : List (List UInt8)) (i901_1 : Nat) (r : Unit ⊕ Bool) (q : Out) : Prop :=
  match r with
  | (.inl g) => q.1 = .ret ∧ eget q.2.1 2 = .loc i901_1 1 0 0 ∧ eget q.2.1 3 = .bool false ∧ q.2.2[i901_1]? = some (.live ⟨.box, 57, 18, [(.bool false :: (.nils :: ((arC (cI .i8) 0 (Ar.rep 16 0)) ++ ([] : List AV))))]⟩)
  | (.inr g) => q.1 = .nrm ∧ eget q.2.1 2 = .loc i901_1 1 0 0 ∧ eget q.2.1 4 = .sl (some 9) (r10.map cS) ∧ eget q.2.1 34 = .bool g ∧ q.2.2[i901_1]? = some (.live ⟨.box, 57, 18, [(.bool false :: (.nils :: ((arC (cI .i8) 0 (Ar.rep 16 0)) ++ ([] : List AV))))]⟩)
abbrev spec_l01ReadHalf_b1_S := Int × Bool × (Ar 16 Int) × Bool × (Ar 16 Int)
abbrev spec_l01ReadHalf_b1_R := (Bool × (Ar 16 Int)) ⊕ (Bool × (Ar 16 Int) × Bool × (Ar 16 Int))
def spec_l01ReadHalf_b1_RS (r10 : List (List UInt8)) (i1_1 : Nat) (i1_2 : Nat) (i1_3 : Nat) (s : spec_l01ReadHalf_b1_S) (e : Env) (M : Mem) : Prop := eget e 2 = .loc i1_1 1 0 0 ∧ eget e 4 = .sl (some 9) (r10.map cS) ∧ eget e 5 = .loc i1_2 1 0 0 ∧ eget e 6 = .int .i64 s.1 ∧ M[i1_1]? = some (.live ⟨.box, 57, 18, [(.bool s.2.1 :: (.nils :: ((arC (cI .i8) 0 s.2.2.1) ++ ([] : List AV))))]⟩) ∧ M[i1_3]? = some (.live ⟨.grow, 156, 2, ([] : List Notch).map Notch.c⟩) ∧ M[i1_2]? = some (.live ⟨.box, 57, 18, [(.bool s.2.2.2.1 :: (.lsl i1_3 ([] : List Notch).length 0 ([] : List Notch).length :: ((arC (cI .i8) 0 s.2.2.2.2) ++ ([] : List AV))))]⟩)
def spec_l01ReadHalf_b1_RR (r10 : List (List UInt8)) (i1_1 : Nat) (i1_2 : Nat) (i1_3 : Nat) (r : spec_l01ReadHalf_b1_R) (x : Ex) (e : Env) (M : Mem) : Prop :=
  match r with
  | (.inl g) => x = .ret ∧ eget e 2 = .loc i1_1 1 0 0 ∧ eget e 3 = .bool false ∧ M[i1_1]? = some (.live ⟨.box, 57, 18, [(.bool g.1 :: (.lsl i1_3 ([] : List Notch).length 0 ([] : List Notch).length :: ((arC (cI .i8) 0 g.2) ++ ([] : List AV))))]⟩) ∧ M[i1_3]? = some (.live ⟨.grow, 156, 2, ([] : List Notch).map Notch.c⟩)
  | (.inr g) => x = .ext 0 ∧ eget e 2 = .loc i1_1 1 0 0 ∧ eget e 4 = .sl (some 9) (r10.map cS) ∧ eget e 5 = .loc i1_2 1 0 0 ∧ M[i1_1]? = some (.live ⟨.box, 57, 18, [(.bool g.1 :: (.nils :: ((arC (cI .i8) 0 g.2.1) ++ ([] : List AV))))]⟩) ∧ M[i1_3]? = some (.live ⟨.grow, 156, 2, ([] : List Notch).map Notch.c⟩) ∧ M[i1_2]? = some (.live ⟨.box, 57, 18, [(.bool g.2.2.1 :: (.lsl i1_3 ([] : List Notch).length 0 ([] : List Notch).length :: ((arC (cI .i8) 0 g.2.2.2) ++ ([] : List AV))))]⟩)
noncomputable def spec_l01ReadHalf_b1 (r10 : List (List UInt8)) : spec_l01ReadHalf_b1_S → Option (spec_l01ReadHalf_b1_S ⊕ spec_l01ReadHalf_b1_R) := fun (s1_1, s1_2, s1_3, s1_4, s1_5) =>
 if (decide (s1_1 < 16)) = true then
  (rd r10 1).bind fun x162 =>
  (rd x162 s1_1).bind fun x164 =>
  if (decide ((x164.toNat : Int) < 97)) = true then
   some (.inr (.inl (s1_4, s1_5)))
  else
   if (decide ((x164.toNat : Int) > 103)) = true then
    some (.inr (.inl (s1_4, s1_5)))
   else
    (rdA s1_5 s1_1).bind fun x209 =>
    some (.inl ((IntKind.i64.wrap (s1_1 + 1)), s1_2, s1_3, s1_4, (s1_5.set s1_1.toNat (IntKind.i8.wrap ((IntKind.i8.wrap (x164.toNat : Int)) - 100)))))
 else
  some (.inr (.inr (s1_2, s1_3, s1_4, s1_5)))
theorem spec_l01ReadHalf_b1_ok (r10 : List (List UInt8)) (i1_1 : Nat) (i1_2 : Nat) (i1_3 : Nat) (ne107 : i1_1 ≠ i1_3) (ne96 : i1_1 ≠ i1_2) (ne108 : i1_2 ≠ i1_3) (s : spec_l01ReadHalf_b1_S) (r : spec_l01ReadHalf_b1_S ⊕ spec_l01ReadHalf_b1_R) (h : spec_l01ReadHalf_b1 r10 s = some r) (e : Env) (M : Mem) (hs : spec_l01ReadHalf_b1_RS r10 i1_1 i1_2 i1_3 s e M) : Ev (fun k => (f118_l6 (CN k) k (prune [2, 4, 5, 6] e) M).bind fun q => some q) (bQ (spec_l01ReadHalf_b1_RS r10 i1_1 i1_2 i1_3) (spec_l01ReadHalf_b1_RR r10 i1_1 i1_2 i1_3) r) := by
 obtain ⟨s1_1, s1_2, s1_3, s1_4, s1_5⟩ := s
 unfold spec_l01ReadHalf_b1 at h
 obtain ⟨h143, h145, h147, h149, o151, o153, o152⟩ := hs
 generalize he142 : prune [2, 4, 5, 6] e = e141
 have h144 := envp he142.symm rfl h143
 have h146 := envp he142.symm rfl h145
 have h148 := envp he142.symm rfl h147
 have h150 := envp he142.symm rfl h149
 refine sq (sq (Rg (kx (mvO h150) (kx (bLss rfl rfl) (Rn (hV (.loc i1_1 1 0 0) h144 (hV (.sl (some 9) (r10.map cS)) h146 (hV (.loc i1_2 1 0 0) h148 (hV (.int .i64 s1_1) h150 (hN rfl hZ))))) fun e154 h156 h157 h158 h159 h160 => sN ?_)))))
 clear h144 h146 h148 h150
 rcases ite_some h with ⟨hb161, h⟩ | ⟨hb161, h⟩
 ·obtain ⟨x162, hx163, h⟩ := bind_some h
  obtain ⟨x164, hx165, h⟩ := bind_some h
  refine cT h160 hb161 (xx (sN (sq (bl (sq (Rg (kx (mvO h157) (kx (ixS rfl rfl hx163 cS_fl) (kx (ldP rfl rfl) (kx (mvO h159) (kx (ixB rfl rfl hx165) (kx (mvO rfl) (Rn (hA h156 (hA h157 (hA h158 (hA h159 (hN rfl hZ))))) fun e166 h168 h169 h170 h171 h172 => sN (sq (sq (Rg (kx (mvO h172) (kx (bLss rfl rfl) (kx (mvO rfl) ?_)))))))))))))))))))
  clear h156 h157 h158 h159 h160
  rcases ite_some h with ⟨hb173, h⟩ | ⟨hb173, h⟩
  ·refine kx (gsF rfl hb173) (kx (gsF rfl hb173) (kx (pkT rfl hb173 rfl) (Rn (hA h168 (hA h169 (hA h170 (hA h171 (hA h172 (hV (.bool true) rfl hZ)))))) fun e174 h176 h177 h178 h179 h180 h181 => sN (cT h181 rfl (sq (Rg (kx (ldOA (cs' := (.bool s1_4 :: (.lsl i1_3 ([] : List Notch).length 0 ([] : List Notch).length :: ((arC (cI .i8) 0 s1_5) ++ ([] : List AV))))) h178 o152 rfl rfl (ble rfl) rfl) (kw (stOK h176 rfl o151 rfl rfl ⟨rfl, ble rfl⟩ (all1 rfl (all1 (okL o153 (by simp)) (oaL (rest := []) (fun _ => rfl) all0))) rfl) fun M182 hM183 => ?_))))))))
   clear h168 h169 h170 h171 h172
   have o184 : M182[i1_1]? = some (.live ⟨.box, 57, 18, [(.bool s1_4 :: (.lsl i1_3 ([] : List Notch).length 0 ([] : List Notch).length :: ((arC (cI .i8) 0 s1_5) ++ ([] : List AV))))]⟩) := set_same hM183 o151
   have o185 := set_ne hM183 (Ne.symm ne96) o152
   have o186 := set_ne hM183 (Ne.symm ne107) o153
   refine kx (mvO rfl) (Rn (hA h176 (hV (.bool false) rfl hZ)) fun e187 h189 h190 => sN (xx (sR (bR (sR ?_)))))
   clear h176 h177 h178 h179 h180 h181
   obtain rfl := si h
   exact qR ⟨rfl, h189, h190, o184, o186⟩
  refine kx (guF rfl hb173 (mvO h172)) (kx (guF rfl hb173 (bGtr rfl rfl)) (kx (pkF rfl hb173 rfl) (Rn (hA h168 (hA h169 (hA h170 (hA h171 (hA h172 (hN rfl hZ)))))) fun e191 h193 h194 h195 h196 h197 h198 => sN ?_)))
  clear h168 h169 h170 h171 h172
  rcases ite_some h with ⟨hb199, h⟩ | ⟨hb199, h⟩
  ·refine cT h198 hb199 (sq (Rg (kx (ldOA (cs' := (.bool s1_4 :: (.lsl i1_3 ([] : List Notch).length 0 ([] : List Notch).length :: ((arC (cI .i8) 0 s1_5) ++ ([] : List AV))))) h195 o152 rfl rfl (ble rfl) rfl) (kw (stOK h193 rfl o151 rfl rfl ⟨rfl, ble rfl⟩ (all1 rfl (all1 (okL o153 (by simp)) (oaL (rest := []) (fun _ => rfl) all0))) rfl) fun M200 hM201 => ?_))))
   have o202 : M200[i1_1]? = some (.live ⟨.box, 57, 18, [(.bool s1_4 :: (.lsl i1_3 ([] : List Notch).length 0 ([] : List Notch).length :: ((arC (cI .i8) 0 s1_5) ++ ([] : List AV))))]⟩) := set_same hM201 o151
   have o203 := set_ne hM201 (Ne.symm ne96) o152
   have o204 := set_ne hM201 (Ne.symm ne107) o153
   refine kx (mvO rfl) (Rn (hA h193 (hV (.bool false) rfl hZ)) fun e205 h207 h208 => sN (xx (sR (bR (sR ?_)))))
   clear h193 h194 h195 h196 h197 h198
   obtain rfl := si h
   exact qR ⟨rfl, h207, h208, o202, o204⟩
  obtain ⟨x209, hx210, h⟩ := bind_some h
  refine cF h198 hb199 (xx (sN (Rg (kx (mvO h196) (kx (mvO h197) (kx (cvI rfl) (kx (bSub rfl rfl) (kx (faO h195 o152 rfl) (kx (ixLA rfl o152 rfl rfl hx210) (kw (stLA (c := (cI .i8)) (z := 0) (g := s1_5) (pre := [.bool s1_4, .lsl i1_3 ([] : List Notch).length 0 ([] : List Notch).length]) (post := []) (u' := (IntKind.i8.wrap ((IntKind.i8.wrap (x164.toNat : Int)) - 100))) rfl rfl o152 rfl rfl rfl rfl (fun _ => rfl) rfl rfl hx210) fun M211 hM212 => ?_))))))))))
  have o213 := set_ne hM212 ne96 o151
  have o214 : M211[i1_2]? = some (.live ⟨.box, 57, 18, [(.bool s1_4 :: (.lsl i1_3 ([] : List Notch).length 0 ([] : List Notch).length :: ((arC (cI .i8) 0 (s1_5.set s1_1.toNat (IntKind.i8.wrap ((IntKind.i8.wrap (x164.toNat : Int)) - 100)))) ++ ([] : List AV))))]⟩) := set_same hM212 o152
  have o215 := set_ne hM212 (Ne.symm ne108) o153
  refine Rn (hA h193 (hA h194 (hA h195 (hA h196 hZ)))) fun e216 h218 h219 h220 h221 => bN (sN (Rg (kx (mvO h221) (kx (bAdd rfl rfl) (kx (mvO rfl) (Rn (hA h218 (hA h219 (hA h220 (hN rfl hZ)))) fun e222 h224 h225 h226 h227 => ?_))))))
  clear h193 h194 h195 h196 h197 h198 h218 h219 h220
  obtain rfl := si h
  exact qN ⟨h224, h225, h226, h227, o213, o215, o214⟩
 refine cF h160 hb161 (xx (sE ?_))
 obtain rfl := si h
 exact qE ⟨rfl, h156, h157, h158, o151, o153, o152⟩
abbrev spec_l01ReadHalf_b2_S := Int × Bool × (Ar 16 Int) × (List Notch) × Bool × (Ar 16 Int)
abbrev spec_l01ReadHalf_b2_R := (Bool × (Ar 16 Int) × (List Notch)) ⊕ (Bool × (Ar 16 Int) × (List Notch) × Bool × (Ar 16 Int))
def spec_l01ReadHalf_b2_RS (r10 : List (List UInt8)) (i2_1 : Nat) (i2_2 : Nat) (i2_3 : Nat) (s : spec_l01ReadHalf_b2_S) (e : Env) (M : Mem) : Prop := eget e 2 = .loc i2_1 1 0 0 ∧ eget e 4 = .sl (some 9) (r10.map cS) ∧ eget e 5 = .loc i2_2 1 0 0 ∧ eget e 8 = .int .i64 s.1 ∧ M[i2_1]? = some (.live ⟨.box, 57, 18, [(.bool s.2.1 :: (.nils :: ((arC (cI .i8) 0 s.2.2.1) ++ ([] : List AV))))]⟩) ∧ M[i2_3]? = some (.live ⟨.grow, 156, 2, s.2.2.2.1.map Notch.c⟩) ∧ M[i2_2]? = some (.live ⟨.box, 57, 18, [(.bool s.2.2.2.2.1 :: (.lsl i2_3 s.2.2.2.1.length 0 s.2.2.2.1.length :: ((arC (cI .i8) 0 s.2.2.2.2.2) ++ ([] : List AV))))]⟩)
def spec_l01ReadHalf_b2_RR (r10 : List (List UInt8)) (i2_1 : Nat) (i2_2 : Nat) (i2_3 : Nat) (r : spec_l01ReadHalf_b2_R) (x : Ex) (e : Env) (M : Mem) : Prop :=
  match r with
  | (.inl g) => x = .ret ∧ eget e 2 = .loc i2_1 1 0 0 ∧ eget e 3 = .bool false ∧ M[i2_1]? = some (.live ⟨.box, 57, 18, [(.bool g.1 :: (.lsl i2_3 g.2.2.length 0 g.2.2.length :: ((arC (cI .i8) 0 g.2.1) ++ ([] : List AV))))]⟩) ∧ M[i2_3]? = some (.live ⟨.grow, 156, 2, g.2.2.map Notch.c⟩)
  | (.inr g) => x = .ext 2 ∧ eget e 2 = .loc i2_1 1 0 0 ∧ eget e 5 = .loc i2_2 1 0 0 ∧ M[i2_1]? = some (.live ⟨.box, 57, 18, [(.bool g.1 :: (.nils :: ((arC (cI .i8) 0 g.2.1) ++ ([] : List AV))))]⟩) ∧ M[i2_3]? = some (.live ⟨.grow, 156, 2, g.2.2.1.map Notch.c⟩) ∧ M[i2_2]? = some (.live ⟨.box, 57, 18, [(.bool g.2.2.2.1 :: (.lsl i2_3 g.2.2.1.length 0 g.2.2.1.length :: ((arC (cI .i8) 0 g.2.2.2.2) ++ ([] : List AV))))]⟩)
noncomputable def spec_l01ReadHalf_b2 (r10 : List (List UInt8)) : spec_l01ReadHalf_b2_S → Option (spec_l01ReadHalf_b2_S ⊕ spec_l01ReadHalf_b2_R) := fun (s2_1, s2_2, s2_3, s2_4, s2_5, s2_6) =>
 if (decide (s2_1 < (r10.length : Int))) = true then
  (rd r10 s2_1).bind fun x291 =>
  (spec_l01ReadNotch x291).bind fun (r294, r295, r296) =>
  if r296 = true then
   (app 4 s2_4 [(Notch.mk r294 r295)]).bind fun x330 =>
   some (.inl ((IntKind.i64.wrap (s2_1 + 1)), s2_2, s2_3, x330, s2_5, s2_6))
  else
   some (.inr (.inl (s2_5, s2_6, s2_4)))
 else
  some (.inr (.inr (s2_2, s2_3, s2_4, s2_5, s2_6)))
theorem spec_l01ReadHalf_b2_ok (r10 : List (List UInt8)) (i2_1 : Nat) (i2_2 : Nat) (i2_3 : Nat) (ne107 : i2_1 ≠ i2_3) (ne96 : i2_1 ≠ i2_2) (ne108 : i2_2 ≠ i2_3) (s : spec_l01ReadHalf_b2_S) (r : spec_l01ReadHalf_b2_S ⊕ spec_l01ReadHalf_b2_R) (h : spec_l01ReadHalf_b2 r10 s = some r) (e : Env) (M : Mem) (hs : spec_l01ReadHalf_b2_RS r10 i2_1 i2_2 i2_3 s e M) : Ev (fun k => (f118_l13 (CN k) k (prune [2, 4, 5, 8] e) M).bind fun q => some q) (bQ (spec_l01ReadHalf_b2_RS r10 i2_1 i2_2 i2_3) (spec_l01ReadHalf_b2_RR r10 i2_1 i2_2 i2_3) r) := by
 obtain ⟨s2_1, s2_2, s2_3, s2_4, s2_5, s2_6⟩ := s
 unfold spec_l01ReadHalf_b2 at h
 obtain ⟨h272, h274, h276, h278, o280, o281, o282⟩ := hs
 generalize he271 : prune [2, 4, 5, 8] e = e270
 have h273 := envp he271.symm rfl h272
 have h275 := envp he271.symm rfl h274
 have h277 := envp he271.symm rfl h276
 have h279 := envp he271.symm rfl h278
 refine sq (sq (Rg (kx (mvO h279) (kx (mvO h275) (kx (lnS Tryd.underlying86 rfl) (kx (bLss rfl rfl) (Rn (hV (.loc i2_1 1 0 0) h273 (hV (.sl (some 9) (r10.map cS)) h275 (hV (.loc i2_2 1 0 0) h277 (hV (.int .i64 s2_1) h279 (hN rfl hZ))))) fun e283 h285 h286 h287 h288 h289 => sN ?_)))))))
 clear h273 h275 h277 h279
 rcases ite_some h with ⟨hb290, h⟩ | ⟨hb290, h⟩
 ·obtain ⟨x291, hx292, h⟩ := bind_some h
  obtain ⟨⟨r294, r295, r296⟩, hx293, h⟩ := bind_some h
  refine cT h289 hb290 (xx (sN (sq (bl (sq (Rg (kx (mvO h286) (kx (mvO h288) (kx (ixS rfl rfl hx292 cS_fl) (kx (ldP rfl rfl) (kc (cl (v := .tup [.agg [.int .i8 r294, .int .i16 r295], .bool r296]) rfl (cns rfl rfl) rfl (spec_l01ReadNotch_ok x291 _ hx293) nm) (kx (mvO rfl) (kx (exT rfl rfl) (kx (exT rfl rfl) (ku (alO zero156) fun M298 hM299 => ?_)))))))))))))))
  have o300 := push_old hM299 o280
  have ne301 := ne_new o280
  have o302 := push_old hM299 o281
  have ne303 := ne_new o281
  have o304 := push_old hM299 o282
  have ne305 := ne_new o282
  have o306 : M298[M.length]? = some (.live ⟨.box, 156, 2, [[.int .i8 0, .int .i16 0]]⟩) := push_new hM299
  refine kw (stO rfl rfl o306 rfl rfl ⟨rfl, ble rfl⟩ rfl rfl) fun M307 hM308 => ?_
  have o309 := set_ne hM308 ne301 o300
  have o310 := set_ne hM308 ne303 o302
  have o311 := set_ne hM308 ne305 o304
  have o312 : M307[M.length]? = some (.live ⟨.box, 156, 2, [[.int .i8 r294, .int .i16 r295]]⟩) := set_same hM308 o306
  refine kx (mvO rfl) (Rn (hA h285 (hA h286 (hA h287 (hA h288 (hV (.loc M.length 1 0 0) rfl (hN rfl hZ)))))) fun e313 h315 h316 h317 h318 h319 h320 => sN (sq (sq (Rg (kx (mvO h320) (kx (uNot rfl) (Rn (hA h315 (hA h316 (hA h317 (hA h318 (hA h319 (hN rfl hZ)))))) fun e321 h323 h324 h325 h326 h327 h328 => sN ?_)))))))
  clear h285 h286 h287 h288 h289 h315 h316 h317 h318 h319 h320
  rcases ite_some h with ⟨hb329, h⟩ | ⟨hb329, h⟩
  ·obtain ⟨x330, hx331, h⟩ := bind_some h
   refine cF h328 (congrArg Bool.not hb329) (xx (sN (Rg (kx (faO h325 o311 rfl) (kx (ldO rfl o311 rfl rfl rfl) (kx (ldOA h327 o312 rfl rfl (ble rfl) rfl) (kx (litI (cns rfl rfl) rfl ⟨rfl, by decide⟩) (kw (apO rfl o310 rfl (elT (c := Notch.c) (xs := [(Notch.mk r294 r295)]) rfl) hx331 Notch.fl (by decide)) fun M332 hM333 => ?_))))))))
   have o334 := set_ne hM333 ne107 o309
   have o335 : M332[i2_3]? = some (.live ⟨.grow, 156, 2, x330.map Notch.c⟩) := set_same hM333 o310
   have o336 := set_ne hM333 ne108 o311
   have o337 := set_ne hM333 (Ne.symm ne303) o312
   refine kx (faO h325 o336 rfl) (kw (stOK rfl rfl o336 rfl rfl ⟨rfl, ble rfl⟩ (all1 (okL o335 (by simp)) all0) rfl) fun M338 hM339 => ?_)
   have o340 := set_ne hM339 ne96 o334
   have o341 := set_ne hM339 (Ne.symm ne108) o335
   have o342 : M338[i2_2]? = some (.live ⟨.box, 57, 18, [(.bool s2_5 :: (.lsl i2_3 x330.length 0 x330.length :: ((arC (cI .i8) 0 s2_6) ++ ([] : List AV))))]⟩) := set_same hM339 o336
   have o343 := set_ne hM339 (Ne.symm ne305) o337
   refine Rn (hA h323 (hA h324 (hA h325 (hA h326 hZ)))) fun e344 h346 h347 h348 h349 => bN (sN (Rg (kx (mvO h349) (kx (bAdd rfl rfl) (kx (mvO rfl) (Rn (hA h346 (hA h347 (hA h348 (hN rfl hZ)))) fun e350 h352 h353 h354 h355 => ?_))))))
   clear h323 h324 h325 h326 h327 h328 h346 h347 h348
   obtain rfl := si h
   exact qN ⟨h352, h353, h354, h355, o340, o341, (by simpa using o342)⟩
  refine cT h328 (congrArg Bool.not hb329) (sq (Rg (kx (ldOA (cs' := (.bool s2_5 :: (.lsl i2_3 s2_4.length 0 s2_4.length :: ((arC (cI .i8) 0 s2_6) ++ ([] : List AV))))) h325 o311 rfl rfl (ble rfl) rfl) (kw (stOK h323 rfl o309 rfl rfl ⟨rfl, ble rfl⟩ (all1 rfl (all1 (okL o310 (by simp)) (oaL (rest := []) (fun _ => rfl) all0))) rfl) fun M356 hM357 => ?_))))
  have o358 : M356[i2_1]? = some (.live ⟨.box, 57, 18, [(.bool s2_5 :: (.lsl i2_3 s2_4.length 0 s2_4.length :: ((arC (cI .i8) 0 s2_6) ++ ([] : List AV))))]⟩) := set_same hM357 o309
  have o359 := set_ne hM357 (Ne.symm ne107) o310
  have o360 := set_ne hM357 (Ne.symm ne96) o311
  have o361 := set_ne hM357 (Ne.symm ne301) o312
  refine kx (mvO rfl) (Rn (hA h323 (hV (.bool false) rfl hZ)) fun e362 h364 h365 => sN (xx (sR (bR (sR ?_)))))
  clear h323 h324 h325 h326 h327 h328
  obtain rfl := si h
  exact qR ⟨rfl, h364, h365, (by simpa using o358), o359⟩
 refine cF h289 hb290 (xx (sE ?_))
 obtain rfl := si h
 exact qE ⟨rfl, h285, h287, o280, o281, (by simpa using o282)⟩
noncomputable def spec_l01ReadHalf (a1 : List UInt8) : Option (((Ar 16 Int)) ⊕ (Bool × (List Notch) × (Ar 16 Int) × Bool)) :=
 (spec_l01Split a1 32).bind fun r10 =>
 ((if (decide ((r10.length : Int) < 2)) = true then
  some (.inl ())
 else
  (rd r10 0).bind fun x28 =>
  if (x28 == ([115, 116, 111, 99, 107] : List UInt8)) = true then
   (rd r10 1).bind fun x31 =>
   if ((x31.length : Int) != 16) = true then
    some (.inl ())
   else
    some (.inr ((x31.length : Int) != 16))
  else
   (rd r10 0).bind fun x46 =>
   if (x46 == ([102, 111, 105, 108] : List UInt8)) = true then
    (rd r10 1).bind fun x49 =>
    if ((x49.length : Int) != 16) = true then
     some (.inl ())
    else
     some (.inr ((x49.length : Int) != 16))
   else
    some (.inl ()) : Option (Unit ⊕ Bool))).bind fun r => match r with
 | (.inl _) =>
  some (.inl (Ar.rep 16 0))
 | (.inr y84) =>
  (rd r10 0).bind fun x89 =>
  (Lw (spec_l01ReadHalf_b1 r10) (0, false, (Ar.rep 16 0), (x89 == ([115, 116, 111, 99, 107] : List UInt8)), (Ar.rep 16 0))).bind fun r => match r with
  | (.inl (y233, y234)) =>
   some (.inr (y233, ([] : List Notch), y234, false))
  | (.inr (y241, y242, y243, y244)) =>
   (Lw (spec_l01ReadHalf_b2 r10) (2, y241, y242, ([] : List Notch), y243, y244)).bind fun r => match r with
   | (.inl (y371, y372, y373)) =>
    some (.inr (y371, y373, y372, false))
   | (.inr (y380, y381, y382, y383, y384)) =>
    (spec_l01Ok (Half.mk y383 y382 y384)).bind fun r391 =>
    some (.inr (y383, y382, y384, r391))
def spec_l01ReadHalf_enc (r : ((Ar 16 Int)) ⊕ (Bool × (List Notch) × (Ar 16 Int) × Bool)) : AV :=
  match r with
  | (.inl g) => .tup [.agg (.bool false :: (.nils :: ((arC (cI .i8) 0 g) ++ ([] : List AV)))), .bool false]
  | (.inr g) => .tup [.agg (.bool g.1 :: (.sl (some 156) (g.2.1.map Notch.c) :: ((arC (cI .i8) 0 g.2.2.1) ++ ([] : List AV)))), .bool g.2.2.2]
theorem spec_l01ReadHalf_ok (a1 : List UInt8) (r : ((Ar 16 Int)) ⊕ (Bool × (List Notch) × (Ar 16 Int) × Bool)) (h : spec_l01ReadHalf a1 = some r) : Ev (fun k => CN k 118 [.str a1] []) (fun p => rRes p.2 p.1 = spec_l01ReadHalf_enc r) := by
 unfold spec_l01ReadHalf at h
 refine Ev.enter (F := fun k => f118 (CN k) k) (fun k => callN_eq rfl Tryd.func118 rfl rfl rfl (by decide +kernel) (f118_eq _ _)) (sq (Rg (ku (alO zero57) fun M2 hM3 => ?_)))
 have o4 : M2[([] : Mem).length]? = some (.live ⟨.box, 57, 18, [(.bool false :: (.nils :: ((arC (cI .i8) 0 (Ar.rep 16 0)) ++ ([] : List AV))))]⟩) := push_new hM3
 obtain ⟨r10, hx9, h⟩ := bind_some h
 obtain ⟨r402, hr403, h⟩ := bind_some h
 refine kx (mvO rfl) (Rn (hN rfl (hV (.loc ([] : Mem).length 1 0 0) rfl hZ)) fun e5 h7 h8 => sN (sq (Rg (kx (mvO h7) (kc (cl (v := .sl (some 9) (r10.map cS)) rfl (cns rfl (cns rfl rfl)) rfl (spec_l01Split_ok a1 32 _ hx9) nm) (kx (mvO rfl) (Rn (hA h8 (hN rfl hZ)) fun e11 h13 h14 => sN (sq ?_))))))))
 clear h7 h8
 refine Ev.cut (Q1 := spec_l01ReadHalf_c1_Q r10 (([] : Mem).length) r402) (by
     have h := hr403
     refine sq (Rg (kx (mvO h14) (kx (lnS Tryd.underlying86 rfl) (kx (bLss rfl rfl) (kx (mvO rfl) ?_)))))
     rcases ite_some h with ⟨hb15, h⟩ | ⟨hb15, h⟩
     ·refine kx (gsF rfl hb15) (kx (gsF rfl hb15) (kx (gsF rfl hb15) (kx (gsF rfl hb15) (kx (gsF rfl hb15) (kx (gsU rfl) (kx (gsU rfl) (kx (gsU rfl) (kx (gsU rfl) (kx (gsF rfl hb15) (kx (pkT rfl hb15 rfl) (kx (mvO rfl) (kx (gsF rfl rfl) (kx (gsF rfl rfl) (kx (gsF rfl rfl) (kx (gsF rfl rfl) (kx (gsF rfl rfl) (kx (pkT rfl rfl rfl) (Rn (hA h13 (hA h14 (hV (.bool true) rfl hZ))) fun e16 h18 h19 h20 => sN (cT h20 rfl (sq (Rg (kx (bldT zero57 rfl (fill0 rfl)) (kw (stOK h18 rfl o4 rfl rfl ⟨rfl, ble rfl⟩ rfl rfl) fun M21 hM22 => ?_)))))))))))))))))))))))
      clear h13 h14
      have o23 : M21[([] : Mem).length]? = some (.live ⟨.box, 57, 18, [(.bool false :: (.nils :: ((arC (cI .i8) 0 (Ar.rep 16 0)) ++ ([] : List AV))))]⟩) := set_same hM22 o4
      refine kx (mvO rfl) (Rn (hA h18 (hV (.bool false) rfl hZ)) fun e24 h26 h27 => sN (xx ?_))
      clear h18 h19 h20
      obtain rfl := si h
      exact kd (show spec_l01ReadHalf_c1_Q r10 (([] : Mem).length) _ _ from ⟨rfl, h26, h27, o23⟩)
     obtain ⟨x28, hx29, h⟩ := bind_some h
     refine kx (guF rfl hb15 (mvO h14)) (kx (guF rfl hb15 (ixS rfl rfl hx29 cS_fl)) (kx (guF rfl hb15 (ldP rfl rfl)) (kx (guF rfl hb15 (sNeq rfl rfl)) (kx (guF rfl hb15 (mvO rfl)) ?_))))
     rcases ite_some h with ⟨hb30, h⟩ | ⟨hb30, h⟩
     ·obtain ⟨x31, hx32, h⟩ := bind_some h
      refine kx (gsT rfl (congrArg Bool.not hb30)) (kx (gsT rfl (congrArg Bool.not hb30)) (kx (gsT rfl (congrArg Bool.not hb30)) (kx (gsT rfl (congrArg Bool.not hb30)) (kx (guF rfl hb15 (pkF rfl (congrArg Bool.not hb30) rfl)) (kx (pkF rfl hb15 rfl) (kx (mvO rfl) (kx (guF rfl rfl (mvO h14)) (kx (guF rfl rfl (ixS rfl rfl hx32 cS_fl)) (kx (guF rfl rfl (ldP rfl rfl)) (kx (guF rfl rfl (lnB Tryd.underlying9 rfl)) (kx (guF rfl rfl (bNeq rfl rfl)) (kx (pkF rfl rfl rfl) (Rn (hA h13 (hA h14 (hN rfl hZ))) fun e33 h35 h36 h37 => sN ?_)))))))))))))
      clear h13 h14
      rcases ite_some h with ⟨hb38, h⟩ | ⟨hb38, h⟩
      ·refine cT h37 hb38 (sq (Rg (kx (bldT zero57 rfl (fill0 rfl)) (kw (stOK h35 rfl o4 rfl rfl ⟨rfl, ble rfl⟩ rfl rfl) fun M39 hM40 => ?_))))
       have o41 : M39[([] : Mem).length]? = some (.live ⟨.box, 57, 18, [(.bool false :: (.nils :: ((arC (cI .i8) 0 (Ar.rep 16 0)) ++ ([] : List AV))))]⟩) := set_same hM40 o4
       refine kx (mvO rfl) (Rn (hA h35 (hV (.bool false) rfl hZ)) fun e42 h44 h45 => sN (xx ?_))
       clear h35 h36 h37
       obtain rfl := si h
       exact kd (show spec_l01ReadHalf_c1_Q r10 (([] : Mem).length) _ _ from ⟨rfl, h44, h45, o41⟩)
      refine cF h37 hb38 (xx ?_)
      obtain rfl := si h
      exact kd (show spec_l01ReadHalf_c1_Q r10 (([] : Mem).length) _ _ from ⟨rfl, h35, h36, h37, o4⟩)
     obtain ⟨x46, hx47, h⟩ := bind_some h
     refine kx (guT rfl (congrArg Bool.not hb30) (mvO h14)) (kx (guT rfl (congrArg Bool.not hb30) (ixS rfl rfl hx47 cS_fl)) (kx (guT rfl (congrArg Bool.not hb30) (ldP rfl rfl)) (kx (guT rfl (congrArg Bool.not hb30) (sNeq rfl rfl)) (kx (guF rfl hb15 (pkT rfl (congrArg Bool.not hb30) rfl)) (kx (pkF rfl hb15 rfl) (kx (mvO rfl) ?_))))))
     rcases ite_some h with ⟨hb48, h⟩ | ⟨hb48, h⟩
     ·obtain ⟨x49, hx50, h⟩ := bind_some h
      refine kx (guF rfl (congrArg Bool.not hb48) (mvO h14)) (kx (guF rfl (congrArg Bool.not hb48) (ixS rfl rfl hx50 cS_fl)) (kx (guF rfl (congrArg Bool.not hb48) (ldP rfl rfl)) (kx (guF rfl (congrArg Bool.not hb48) (lnB Tryd.underlying9 rfl)) (kx (guF rfl (congrArg Bool.not hb48) (bNeq rfl rfl)) (kx (pkF rfl (congrArg Bool.not hb48) rfl) (Rn (hA h13 (hA h14 (hN rfl hZ))) fun e51 h53 h54 h55 => sN ?_))))))
      clear h13 h14
      rcases ite_some h with ⟨hb56, h⟩ | ⟨hb56, h⟩
      ·refine cT h55 hb56 (sq (Rg (kx (bldT zero57 rfl (fill0 rfl)) (kw (stOK h53 rfl o4 rfl rfl ⟨rfl, ble rfl⟩ rfl rfl) fun M57 hM58 => ?_))))
       have o59 : M57[([] : Mem).length]? = some (.live ⟨.box, 57, 18, [(.bool false :: (.nils :: ((arC (cI .i8) 0 (Ar.rep 16 0)) ++ ([] : List AV))))]⟩) := set_same hM58 o4
       refine kx (mvO rfl) (Rn (hA h53 (hV (.bool false) rfl hZ)) fun e60 h62 h63 => sN (xx ?_))
       clear h53 h54 h55
       obtain rfl := si h
       exact kd (show spec_l01ReadHalf_c1_Q r10 (([] : Mem).length) _ _ from ⟨rfl, h62, h63, o59⟩)
      refine cF h55 hb56 (xx ?_)
      obtain rfl := si h
      exact kd (show spec_l01ReadHalf_c1_Q r10 (([] : Mem).length) _ _ from ⟨rfl, h53, h54, h55, o4⟩)
     refine kx (gsF rfl (congrArg Bool.not hb48)) (kx (gsF rfl (congrArg Bool.not hb48)) (kx (gsF rfl (congrArg Bool.not hb48)) (kx (gsF rfl (congrArg Bool.not hb48)) (kx (gsF rfl (congrArg Bool.not hb48)) (kx (pkT rfl (congrArg Bool.not hb48) rfl) (Rn (hA h13 (hA h14 (hV (.bool true) rfl hZ))) fun e64 h66 h67 h68 => sN (cT h68 rfl (sq (Rg (kx (bldT zero57 rfl (fill0 rfl)) (kw (stOK h66 rfl o4 rfl rfl ⟨rfl, ble rfl⟩ rfl rfl) fun M69 hM70 => ?_)))))))))))
     clear h13 h14
     have o71 : M69[([] : Mem).length]? = some (.live ⟨.box, 57, 18, [(.bool false :: (.nils :: ((arC (cI .i8) 0 (Ar.rep 16 0)) ++ ([] : List AV))))]⟩) := set_same hM70 o4
     refine kx (mvO rfl) (Rn (hA h66 (hV (.bool false) rfl hZ)) fun e72 h74 h75 => sN (xx ?_))
     clear h66 h67 h68
     obtain rfl := si h
     exact kd (show spec_l01ReadHalf_c1_Q r10 (([] : Mem).length) _ _ from ⟨rfl, h74, h75, o71⟩)) ?_
 rcases r402 with _ | y84
 ·intro x e76 M77 hq81
  obtain ⟨rfl, h78, h79, o80⟩ := hq81
  refine sR ?_
  obtain rfl := si h
  exact eR (resC (ag := true) (sz := 18) ⟨by kernel_rfl, by kernel_rfl, by kernel_rfl⟩ (ldOA (cs' := (.bool false :: (.nils :: ((arC (cI .i8) 0 (Ar.rep 16 0)) ++ ([] : List AV))))) h78 o80 rfl rfl (ble rfl) rfl) (resT h79 res0)) rfl
 intro x e82 M83 hq401
 obtain ⟨rfl, h85, h86, h87, o88⟩ := hq401
 obtain ⟨x89, hx90, h⟩ := bind_some h
 refine sN (sq (Rg (kx (mvO h86) (kx (ixS rfl rfl hx90 cS_fl) (kx (ldP rfl rfl) (kx (sEql rfl rfl) (kx (bldT zero57 (cns (pr3 rfl) rfl) (fill1 (cs' := (.bool (x89 == ([115, 116, 111, 99, 107] : List UInt8)) :: (.nils :: ((arC (cI .i8) 0 (Ar.rep 16 0)) ++ ([] : List AV))))) ⟨rfl, ble rfl⟩ rfl rfl (fill0 rfl))) (Ev.nxpushL (gho_one (alO zero57) nty57 (ghc rfl (ghn (gha (arC_nn (fun _ => rfl)) (arC_len (fun x => ((cI_fl _) x).1)) ghz) co156)) (by decide)) fun M93 hM94 => ?_))))))))
 have o95 := push_old hM94 o88
 have ne96 : ([] : Mem).length ≠ M83.length := by have := lt_of_get (M := M83) o88; omega
 have o97 : M93[M83.length]? = some (.live ⟨.box, 57, 18, [(.bool false :: (.lsl (M83.length + 1) ([] : List Notch).length 0 ([] : List Notch).length :: ((arC (cI .i8) 0 (Ar.rep 16 0)) ++ ([] : List AV))))]⟩) := push_at hM94 0 rfl
 have ne98 : ([] : Mem).length ≠ (M83.length + 1) := by have := lt_of_get (M := M83) o88; omega
 have ne99 : M83.length ≠ (M83.length + 1) := by omega
 have o100 : M93[(M83.length + 1)]? = some (.live ⟨.grow, 156, 2, ([] : List Notch).map Notch.c⟩) := push_at hM94 1 rfl
 obtain ⟨M101, hM102⟩ : ∃ x, x = M93 ++ ([⟨.grow, 156, 2, ([] : List Notch).map Notch.c⟩] : List Ob).map Ent.live := ⟨_, rfl⟩
 have o104 := push_old hM102 o95
 have o105 := push_old hM102 o97
 have o106 := push_old hM102 o100
 have ne107 : ([] : Mem).length ≠ M93.length := by have := lt_of_get (M := M93) o95; omega
 have ne108 : M83.length ≠ M93.length := by have := lt_of_get (M := M93) o97; omega
 have ne109 : (M83.length + 1) ≠ M93.length := by have := lt_of_get (M := M93) o100; omega
 have o110 : M101[M93.length]? = some (.live ⟨.grow, 156, 2, ([] : List Notch).map Notch.c⟩) := push_at hM102 0 rfl
 refine kw (stG (kp := true) hM102 rfl nty57 (ghc rfl (ghn (gha (arC_nn (fun _ => rfl)) (arC_len (fun x => ((cI_fl _) x).1)) ghz) co156)) (by decide) (stOK rfl rfl o105 rfl rfl ⟨rfl, ble rfl⟩ (all1 rfl (all1 (okL o110 (by simp)) (oaL (rest := []) (fun _ => rfl) all0))) rfl)) fun M111 hM112 => ?_
 have o113 := set_ne hM112 ne96 o104
 have o114 : M111[M83.length]? = some (.live ⟨.box, 57, 18, [(.bool (x89 == ([115, 116, 111, 99, 107] : List UInt8)) :: (.lsl M93.length ([] : List Notch).length 0 ([] : List Notch).length :: ((arC (cI .i8) 0 (Ar.rep 16 0)) ++ ([] : List AV))))]⟩) := set_same hM112 o105
 have o115 := set_ne hM112 (Ne.symm ne99) o106
 have o116 := set_ne hM112 (Ne.symm ne108) o110
 obtain ⟨r228, hr229, h⟩ := bind_some h
 refine Rn (hV (.loc ([] : Mem).length 1 0 0) h85 (hV (.sl (some 9) (r10.map cS)) h86 (hV (.loc M83.length 1 0 0) rfl hZ))) fun e117 h119 h120 h121 => sN (sq (sq (Rg (kx (mvO rfl) (Rn (hA h119 (hA h120 (hA h121 (hV (.int .i64 0) rfl hZ)))) fun e122 h124 h125 h126 h127 => sN (bl ?_))))))
 clear h85 h86 h87 h119 h120 h121
 rcases r228 with ⟨y233, y234⟩ | ⟨y241, y242, y243, y244⟩
 ·refine Ev.loop (RS := spec_l01ReadHalf_b1_RS r10 (([] : Mem).length) M83.length M93.length) (RR := spec_l01ReadHalf_b1_RR r10 (([] : Mem).length) M83.length M93.length) (fun s r h e M hs => spec_l01ReadHalf_b1_ok r10 (([] : Mem).length) M83.length M93.length ne107 ne96 ne108 s r h e M hs) hr229 ⟨h124, h125, h126, h127, o113, o116, o114⟩ fun x e231 M232 hq230 => ?_
  obtain ⟨rfl, h235, h236, o237, o238⟩ := hq230
  refine bR (sR ?_)
  obtain rfl := si h
  exact eR (resC (ag := true) (sz := 18) ⟨by kernel_rfl, by kernel_rfl, by kernel_rfl⟩ (ldOA (cs' := (.bool y233 :: (.lsl M93.length ([] : List Notch).length 0 ([] : List Notch).length :: ((arC (cI .i8) 0 y234) ++ ([] : List AV))))) h235 o237 rfl rfl (ble rfl) rfl) (resT h236 res0)) (rr_tup (mp1 (rr_agg (mp1 rfl (mp1 (rr_row o238 rfl Notch.fl) (mpA (fun _ => rRes1_flat) (fun _ => rfl) mp0)))) (mp1 rfl mp0)))
 refine Ev.loop (RS := spec_l01ReadHalf_b1_RS r10 (([] : Mem).length) M83.length M93.length) (RR := spec_l01ReadHalf_b1_RR r10 (([] : Mem).length) M83.length M93.length) (fun s r h e M hs => spec_l01ReadHalf_b1_ok r10 (([] : Mem).length) M83.length M93.length ne107 ne96 ne108 s r h e M hs) hr229 ⟨h124, h125, h126, h127, o113, o116, o114⟩ fun x e239 M240 hq230 => ?_
 obtain ⟨rfl, h245, h246, h247, o248, o249, o250⟩ := hq230
 obtain ⟨r366, hr367, h⟩ := bind_some h
 refine bE (sN (sq (sq (Rg (kx (mvO rfl) (Rn (hV (.loc ([] : Mem).length 1 0 0) h245 (hV (.sl (some 9) (r10.map cS)) h246 (hV (.loc M83.length 1 0 0) h247 (hV (.int .i64 2) rfl hZ)))) fun e251 h253 h254 h255 h256 => sN (bl ?_)))))))
 clear h245 h246 h247
 rcases r366 with ⟨y371, y372, y373⟩ | ⟨y380, y381, y382, y383, y384⟩
 ·refine Ev.loop (RS := spec_l01ReadHalf_b2_RS r10 (([] : Mem).length) M83.length M93.length) (RR := spec_l01ReadHalf_b2_RR r10 (([] : Mem).length) M83.length M93.length) (fun s r h e M hs => spec_l01ReadHalf_b2_ok r10 (([] : Mem).length) M83.length M93.length ne107 ne96 ne108 s r h e M hs) hr367 ⟨h253, h254, h255, h256, o248, o249, o250⟩ fun x e369 M370 hq368 => ?_
  obtain ⟨rfl, h374, h375, o376, o377⟩ := hq368
  refine bR (sR ?_)
  obtain rfl := si h
  exact eR (resC (ag := true) (sz := 18) ⟨by kernel_rfl, by kernel_rfl, by kernel_rfl⟩ (ldOA (cs' := (.bool y371 :: (.lsl M93.length y373.length 0 y373.length :: ((arC (cI .i8) 0 y372) ++ ([] : List AV))))) h374 o376 rfl rfl (ble rfl) rfl) (resT h375 res0)) (rr_tup (mp1 (rr_agg (mp1 rfl (mp1 (rr_row o377 rfl Notch.fl) (mpA (fun _ => rRes1_flat) (fun _ => rfl) mp0)))) (mp1 rfl mp0)))
 refine Ev.loop (RS := spec_l01ReadHalf_b2_RS r10 (([] : Mem).length) M83.length M93.length) (RR := spec_l01ReadHalf_b2_RR r10 (([] : Mem).length) M83.length M93.length) (fun s r h e M hs => spec_l01ReadHalf_b2_ok r10 (([] : Mem).length) M83.length M93.length ne107 ne96 ne108 s r h e M hs) hr367 ⟨h253, h254, h255, h256, o248, o249, o250⟩ fun x e378 M379 hq368 => ?_
 obtain ⟨rfl, h385, h386, o387, o388, o389⟩ := hq368
 obtain ⟨r391, hx390, h⟩ := bind_some h
 refine bE (sN (sq (Rd (kf (ldOA (cs' := (.bool y383 :: (.lsl M93.length y382.length 0 y382.length :: ((arC (cI .i8) 0 y384) ++ ([] : List AV))))) h386 o389 rfl rfl (ble rfl) rfl) (fc (cl (v := .bool r391) rfl (cns h386 rfl) (ra1 (ra1_loc o389 rfl rfl (mp1 rfl (mp1 (rc_row o388 rfl Notch.fl) (mpA (fun _ => rCell_flat) (fun _ => rfl) mp0))) ⟨rfl, blt rfl⟩) ra0) (spec_l01Ok_ok (Half.mk y383 y382 y384) _ hx390) (fun _ => rfl)) (fZ (kw (stOK h385 rfl o387 rfl rfl ⟨rfl, ble rfl⟩ (all1 rfl (all1 (okL o388 (by simp)) (oaL (rest := []) (fun _ => rfl) all0))) rfl) fun M392 hM393 => ?_)))))))
 have o394 : M392[([] : Mem).length]? = some (.live ⟨.box, 57, 18, [(.bool y383 :: (.lsl M93.length y382.length 0 y382.length :: ((arC (cI .i8) 0 y384) ++ ([] : List AV))))]⟩) := set_same hM393 o387
 have o395 := set_ne hM393 (Ne.symm ne107) o388
 have o396 := set_ne hM393 (Ne.symm ne96) o389
 refine kx (mvO rfl) (Rn (hV (.loc ([] : Mem).length 1 0 0) h385 (hN rfl hZ)) fun e397 h399 h400 => sN (xx ?_))
 clear h385 h386
 obtain rfl := si h
 exact eR (resC (ag := true) (sz := 18) ⟨by kernel_rfl, by kernel_rfl, by kernel_rfl⟩ (ldOA (cs' := (.bool y383 :: (.lsl M93.length y382.length 0 y382.length :: ((arC (cI .i8) 0 y384) ++ ([] : List AV))))) h399 o394 rfl rfl (ble rfl) rfl) (resT h400 res0)) (rr_tup (mp1 (rr_agg (mp1 rfl (mp1 (rr_row o395 rfl Notch.fl) (mpA (fun _ => rRes1_flat) (fun _ => rfl) mp0)))) (mp1 rfl mp0)))
/-! ### loop.example/g01263/laws.eqMark (f109) -/
noncomputable def laws_eqMark (a1 : Mark) (a2 : Mark) : Option Bool :=
 if (a1.Holder == a2.Holder) = true then
  if (a1.Seal != a2.Seal) = true then
   some false
  else
   some true
 else
  some false
def laws_eqMark_enc (r : Bool) : AV := .bool r
theorem laws_eqMark_ok (a1 : Mark) (a2 : Mark) (r : Bool) (h : laws_eqMark a1 a2 = some r) : Ev (fun k => CN k 109 [.agg [.str a1.Holder, .int .u32 a1.Seal], .agg [.str a2.Holder, .int .u32 a2.Seal]] []) (fun p => rRes p.2 p.1 = laws_eqMark_enc r) := by
 unfold laws_eqMark at h
 refine Ev.enter (F := fun k => f109 (CN k) k) (fun k => callN_eq rfl Tryd.func109 rfl rfl rfl (by decide +kernel) (f109_eq _ _)) (sq (Rg (kx (bxI rfl rfl ⟨rfl, rfl, by decide⟩) (kx (bxI rfl rfl ⟨rfl, rfl, by decide⟩) (kx (mvO rfl) (Rn (hN rfl (hN rfl hZ)) fun e1 h3 h4 => sN (sq (sq (Rg (kx (faP h3 ⟨ble rfl, blt rfl⟩ rfl) (kx (ldP rfl rfl) (kx (faP h4 ⟨ble rfl, blt rfl⟩ rfl) (kx (ldP rfl rfl) (kx (sNeq rfl rfl) (Rn (hA h3 (hA h4 (hN rfl hZ))) fun e5 h7 h8 h9 => sN ?_)))))))))))))))
 clear h3 h4
 rcases ite_some h with ⟨hb10, h⟩ | ⟨hb10, h⟩
 ·refine cF h9 (congrArg Bool.not hb10) (xx (sN (sq (sq (Rg (kx (faP h7 ⟨ble rfl, blt rfl⟩ rfl) (kx (ldP rfl rfl) (kx (faP h8 ⟨ble rfl, blt rfl⟩ rfl) (kx (ldP rfl rfl) (kx (bNeq rfl rfl) (Rn (hN rfl hZ) fun e11 h13 => sN ?_)))))))))))
  clear h7 h8 h9
  rcases ite_some h with ⟨hb14, h⟩ | ⟨hb14, h⟩
  ·refine cT h13 hb14 (sq (Rg (kx (mvO rfl) (Rn (hV (.bool false) rfl hZ) fun e15 h17 => sN (xx (sR ?_))))))
   clear h13
   obtain rfl := si h
   exact eR (resT h17 res0) rfl
  refine cF h13 hb14 (xx (sN (sq (Rg (kx (mvO rfl) (Rn (hV (.bool true) rfl hZ) fun e18 h20 => sN (xx ?_)))))))
  clear h13
  obtain rfl := si h
  exact eR (resT h20 res0) rfl
 refine cT h9 (congrArg Bool.not hb10) (sq (Rg (kx (mvO rfl) (Rn (hV (.bool false) rfl hZ) fun e21 h23 => sN (xx (sR ?_))))))
 clear h7 h8 h9
 obtain rfl := si h
 exact eR (resT h23 res0) rfl
/-! ### loop.example/g01263/laws.eqGrain (f108) -/
abbrev laws_eqGrain_b1_S := Int
abbrev laws_eqGrain_b1_R := Unit ⊕ Unit
def laws_eqGrain_b1_RS (a1 : Ar 16 Int) (a2 : Ar 16 Int) (s : laws_eqGrain_b1_S) (e : Env) (M : Mem) : Prop := eget e 2 = .pt none (arC (cI .i8) 0 a1) ∧ eget e 3 = .pt none (arC (cI .i8) 0 a2) ∧ eget e 5 = .int .i64 s
def laws_eqGrain_b1_RR (a1 : Ar 16 Int) (a2 : Ar 16 Int) (r : laws_eqGrain_b1_R) (x : Ex) (e : Env) (M : Mem) : Prop :=
  match r with
  | (.inl g) => x = .ret ∧ eget e 4 = .bool false
  | (.inr g) => x = .ext 0 ∧ True
noncomputable def laws_eqGrain_b1 (a1 : Ar 16 Int) (a2 : Ar 16 Int) : laws_eqGrain_b1_S → Option (laws_eqGrain_b1_S ⊕ laws_eqGrain_b1_R) := fun s1_1 =>
 if (decide (s1_1 < 16)) = true then
  (rdA a1 s1_1).bind fun x33 =>
  (rdA a2 s1_1).bind fun x35 =>
  if (x33 != x35) = true then
   some (.inr (.inl ()))
  else
   some (.inl (IntKind.i64.wrap (s1_1 + 1)))
 else
  some (.inr (.inr ()))
theorem laws_eqGrain_b1_ok (a1 : Ar 16 Int) (a2 : Ar 16 Int) (s : laws_eqGrain_b1_S) (r : laws_eqGrain_b1_S ⊕ laws_eqGrain_b1_R) (h : laws_eqGrain_b1 a1 a2 s = some r) (e : Env) (M : Mem) (hs : laws_eqGrain_b1_RS a1 a2 s e M) : Ev (fun k => (f108_l2 (CN k) k (prune [2, 3, 5] e) M).bind fun q => some q) (bQ (laws_eqGrain_b1_RS a1 a2) (laws_eqGrain_b1_RR a1 a2) r) := by
 revert h hs
 revert s
 intro s1_1 h hs
 unfold laws_eqGrain_b1 at h
 obtain ⟨h20, h22, h24⟩ := hs
 generalize he19 : prune [2, 3, 5] e = e18
 have h21 := envp he19.symm rfl h20
 have h23 := envp he19.symm rfl h22
 have h25 := envp he19.symm rfl h24
 refine sq (sq (Rg (kx (mvO h25) (kx (bLss rfl rfl) (Rn (hV (.pt none (arC (cI .i8) 0 a1)) h21 (hV (.pt none (arC (cI .i8) 0 a2)) h23 (hV (.int .i64 s1_1) h25 (hN rfl hZ)))) fun e26 h28 h29 h30 h31 => sN ?_)))))
 clear h21 h23 h25
 rcases ite_some h with ⟨hb32, h⟩ | ⟨hb32, h⟩
 ·obtain ⟨x33, hx34, h⟩ := bind_some h
  obtain ⟨x35, hx36, h⟩ := bind_some h
  refine cT h31 hb32 (xx (sN (sq (bl (sq (Rd (kf (mvO h30) (kf (ixPA (c := (cI .i8)) (z := 0) (g := a1) h28 rfl hx34 (fun _ => rfl)) (kf (ldP rfl rfl) (kf (mvO h30) (kf (ixPA (c := (cI .i8)) (z := 0) (g := a2) h29 rfl hx36 (fun _ => rfl)) (kf (ldP rfl rfl) (kf (bNeq rfl rfl) (fZ (Rn (hA h28 (hA h29 (hA h30 (hN rfl hZ)))) fun e37 h39 h40 h41 h42 => sN ?_)))))))))))))))
  clear h28 h29 h30 h31
  rcases ite_some h with ⟨hb43, h⟩ | ⟨hb43, h⟩
  ·refine cT h42 hb43 (sq (Rg (kx (mvO rfl) (Rn (hV (.bool false) rfl hZ) fun e44 h46 => sN (xx (bR (sR ?_)))))))
   clear h39 h40 h41 h42
   obtain rfl := si h
   exact qR ⟨rfl, h46⟩
  refine cF h42 hb43 (xx (bN (sN (Rg (kx (mvO h41) (kx (bAdd rfl rfl) (kx (mvO rfl) (Rn (hA h39 (hA h40 (hN rfl hZ))) fun e47 h49 h50 h51 => ?_))))))))
  clear h39 h40 h42
  obtain rfl := si h
  exact qN ⟨h49, h50, h51⟩
 refine cF h31 hb32 (xx (sE ?_))
 obtain rfl := si h
 exact qE ⟨rfl, trivial⟩
noncomputable def laws_eqGrain (a1 : Ar 16 Int) (a2 : Ar 16 Int) : Option Bool :=
 (Lw (laws_eqGrain_b1 a1 a2) 0).bind fun r => match r with
 | (.inl _) =>
  some false
 | (.inr _) =>
  some true
def laws_eqGrain_enc (r : Bool) : AV := .bool r
theorem laws_eqGrain_ok (a1 : Ar 16 Int) (a2 : Ar 16 Int) (r : Bool) (h : laws_eqGrain a1 a2 = some r) : Ev (fun k => CN k 108 [.agg (arC (cI .i8) 0 a1), .agg (arC (cI .i8) 0 a2)] []) (fun p => rRes p.2 p.1 = laws_eqGrain_enc r) := by
 unfold laws_eqGrain at h
 obtain ⟨r52, hr53, h⟩ := bind_some h
 refine Ev.enter (F := fun k => f108 (CN k) k) (fun k => callN_eq rfl Tryd.func108 rfl rfl rfl (by decide +kernel) (f108_eq _ _)) (sq (Rg (kx (bxI rfl rfl ⟨rfl, rfl, by decide⟩) (kx (bxI rfl rfl ⟨rfl, rfl, by decide⟩) (kx (mvO rfl) (Rn (hN rfl (hN rfl hZ)) fun e1 h3 h4 => sN (sq (sq (Rg (kx (mvO rfl) (Rn (hA h3 (hA h4 (hV (.int .i64 0) rfl hZ))) fun e5 h7 h8 h9 => sN (bl ?_))))))))))))
 clear h3 h4
 rcases r52 with _ | _
 ·refine Ev.loop (RS := laws_eqGrain_b1_RS a1 a2) (RR := laws_eqGrain_b1_RR a1 a2) (fun s r h e M hs => laws_eqGrain_b1_ok a1 a2 s r h e M hs) hr53 ⟨h7, h8, h9⟩ fun x e55 M56 hq54 => ?_
  obtain ⟨rfl, h57⟩ := hq54
  refine bR (sR ?_)
  obtain rfl := si h
  exact eR (resT h57 res0) rfl
 refine Ev.loop (RS := laws_eqGrain_b1_RS a1 a2) (RR := laws_eqGrain_b1_RR a1 a2) (fun s r h e M hs => laws_eqGrain_b1_ok a1 a2 s r h e M hs) hr53 ⟨h7, h8, h9⟩ fun x e58 M59 hq54 => ?_
 obtain ⟨rfl, _⟩ := hq54
 refine bE (sN (sq (Rg (kx (mvO rfl) (Rn (hV (.bool true) rfl hZ) fun e60 h62 => sN (xx ?_))))))
 obtain rfl := si h
 exact eR (resT h62 res0) rfl
/-! ### loop.example/g01263/laws.eqNotchS (f107) -/
abbrev laws_eqNotchS_b1_S := Int
abbrev laws_eqNotchS_b1_R := Unit ⊕ Unit
def laws_eqNotchS_b1_RS (a1 : List Notch) (a2 : List Notch) (s : laws_eqNotchS_b1_S) (e : Env) (M : Mem) : Prop := eget e 0 = .sl none (a1.map Notch.c) ∧ eget e 1 = .sl none (a2.map Notch.c) ∧ eget e 5 = .int .i64 s
def laws_eqNotchS_b1_RR (a1 : List Notch) (a2 : List Notch) (r : laws_eqNotchS_b1_R) (x : Ex) (e : Env) (M : Mem) : Prop :=
  match r with
  | (.inl g) => x = .ret ∧ eget e 4 = .bool false
  | (.inr g) => x = .ext 0 ∧ True
noncomputable def laws_eqNotchS_b1 (a1 : List Notch) (a2 : List Notch) : laws_eqNotchS_b1_S → Option (laws_eqNotchS_b1_S ⊕ laws_eqNotchS_b1_R) := fun s1_1 =>
 if (decide (s1_1 < (a1.length : Int))) = true then
  (rd a1 s1_1).bind fun x42 =>
  (rd a2 s1_1).bind fun x44 =>
  (laws_eqNotch x42 x44).bind fun r47 =>
  if r47 = true then
   some (.inl (IntKind.i64.wrap (s1_1 + 1)))
  else
   some (.inr (.inl ()))
 else
  some (.inr (.inr ()))
theorem laws_eqNotchS_b1_ok (a1 : List Notch) (a2 : List Notch) (s : laws_eqNotchS_b1_S) (r : laws_eqNotchS_b1_S ⊕ laws_eqNotchS_b1_R) (h : laws_eqNotchS_b1 a1 a2 s = some r) (e : Env) (M : Mem) (hs : laws_eqNotchS_b1_RS a1 a2 s e M) : Ev (fun k => (f107_l4 (CN k) k (prune [0, 1, 5] e) M).bind fun q => some q) (bQ (laws_eqNotchS_b1_RS a1 a2) (laws_eqNotchS_b1_RR a1 a2) r) := by
 revert h hs
 revert s
 intro s1_1 h hs
 unfold laws_eqNotchS_b1 at h
 obtain ⟨h29, h31, h33⟩ := hs
 generalize he28 : prune [0, 1, 5] e = e27
 have h30 := envp he28.symm rfl h29
 have h32 := envp he28.symm rfl h31
 have h34 := envp he28.symm rfl h33
 refine sq (sq (Rg (kx (mvO h34) (kx (mvO h30) (kx (lnS Tryd.underlying54 rfl) (kx (bLss rfl rfl) (Rn (hV (.sl none (a1.map Notch.c)) h30 (hV (.sl none (a2.map Notch.c)) h32 (hV (.int .i64 s1_1) h34 (hN rfl hZ)))) fun e35 h37 h38 h39 h40 => sN ?_)))))))
 clear h30 h32 h34
 rcases ite_some h with ⟨hb41, h⟩ | ⟨hb41, h⟩
 ·obtain ⟨x42, hx43, h⟩ := bind_some h
  obtain ⟨x44, hx45, h⟩ := bind_some h
  obtain ⟨r47, hx46, h⟩ := bind_some h
  refine cT h40 hb41 (xx (sN (sq (bl (sq (Rd (kf (mvO h37) (kf (mvO h39) (kf (ixS rfl rfl hx43 Notch.fl) (kf (ldPA rfl rfl rfl) (kf (mvO h38) (kf (mvO h39) (kf (ixS rfl rfl hx45 Notch.fl) (kf (ldPA rfl rfl rfl) (fc (cl (v := .bool r47) rfl (cns rfl (cns rfl rfl)) rfl (laws_eqNotch_ok x42 x44 _ hx46) nm) (kf (uNot rfl) (fZ (Rn (hA h37 (hA h38 (hA h39 (hN rfl hZ)))) fun e48 h50 h51 h52 h53 => sN ?_))))))))))))))))))
  clear h37 h38 h39 h40
  rcases ite_some h with ⟨hb54, h⟩ | ⟨hb54, h⟩
  ·refine cF h53 (congrArg Bool.not hb54) (xx (bN (sN (Rg (kx (mvO h52) (kx (bAdd rfl rfl) (kx (mvO rfl) (Rn (hA h50 (hA h51 (hN rfl hZ))) fun e55 h57 h58 h59 => ?_))))))))
   clear h50 h51 h53
   obtain rfl := si h
   exact qN ⟨h57, h58, h59⟩
  refine cT h53 (congrArg Bool.not hb54) (sq (Rg (kx (mvO rfl) (Rn (hV (.bool false) rfl hZ) fun e60 h62 => sN (xx (bR (sR ?_)))))))
  clear h50 h51 h52 h53
  obtain rfl := si h
  exact qR ⟨rfl, h62⟩
 refine cF h40 hb41 (xx (sE ?_))
 obtain rfl := si h
 exact qE ⟨rfl, trivial⟩
noncomputable def laws_eqNotchS (a1 : List Notch) (a2 : List Notch) : Option Bool :=
 if ((a1.length : Int) != (a2.length : Int)) = true then
  some false
 else
  (Lw (laws_eqNotchS_b1 a1 a2) 0).bind fun r => match r with
  | (.inl _) =>
   some false
  | (.inr _) =>
   some true
def laws_eqNotchS_enc (r : Bool) : AV := .bool r
theorem laws_eqNotchS_ok (a1 : List Notch) (a2 : List Notch) (r : Bool) (h : laws_eqNotchS a1 a2 = some r) : Ev (fun k => CN k 107 [.sl none (a1.map Notch.c), .sl none (a2.map Notch.c)] []) (fun p => rRes p.2 p.1 = laws_eqNotchS_enc r) := by
 unfold laws_eqNotchS at h
 refine Ev.enter (F := fun k => f107 (CN k) k) (fun k => callN_eq rfl Tryd.func107 rfl rfl rfl (by decide +kernel) (f107_eq _ _)) (sq (Rg (kx (mvO rfl) (Rn (hN rfl (hN rfl hZ)) fun e1 h3 h4 => sN (sq (sq (Rg (kx (mvO h3) (kx (lnS Tryd.underlying54 rfl) (kx (mvO h4) (kx (lnS Tryd.underlying54 rfl) (kx (bNeq rfl rfl) (Rn (hA h3 (hA h4 (hN rfl hZ))) fun e5 h7 h8 h9 => sN ?_)))))))))))))
 clear h3 h4
 rcases ite_some h with ⟨hb10, h⟩ | ⟨hb10, h⟩
 ·refine cT h9 hb10 (sq (Rg (kx (mvO rfl) (Rn (hV (.bool false) rfl hZ) fun e11 h13 => sN (xx (sR ?_))))))
  clear h7 h8 h9
  obtain rfl := si h
  exact eR (resT h13 res0) rfl
 obtain ⟨r63, hr64, h⟩ := bind_some h
 refine cF h9 hb10 (xx (sN (sq (sq (Rg (kx (mvO rfl) (Rn (hA h7 (hA h8 (hV (.int .i64 0) rfl hZ))) fun e14 h16 h17 h18 => sN (bl ?_))))))))
 clear h7 h8 h9
 rcases r63 with _ | _
 ·refine Ev.loop (RS := laws_eqNotchS_b1_RS a1 a2) (RR := laws_eqNotchS_b1_RR a1 a2) (fun s r h e M hs => laws_eqNotchS_b1_ok a1 a2 s r h e M hs) hr64 ⟨h16, h17, h18⟩ fun x e66 M67 hq65 => ?_
  obtain ⟨rfl, h68⟩ := hq65
  refine bR (sR ?_)
  obtain rfl := si h
  exact eR (resT h68 res0) rfl
 refine Ev.loop (RS := laws_eqNotchS_b1_RS a1 a2) (RR := laws_eqNotchS_b1_RR a1 a2) (fun s r h e M hs => laws_eqNotchS_b1_ok a1 a2 s r h e M hs) hr64 ⟨h16, h17, h18⟩ fun x e69 M70 hq65 => ?_
 obtain ⟨rfl, _⟩ := hq65
 refine bE (sN (sq (Rg (kx (mvO rfl) (Rn (hV (.bool true) rfl hZ) fun e71 h73 => sN (xx ?_))))))
 obtain rfl := si h
 exact eR (resT h73 res0) rfl
/-! ### loop.example/g01263/impl.ValidHalf (f106) -/
def impl_ValidHalf_c1_Q (a1 : Half) (g : Bool) (q : Out) : Prop := q.1 = .nrm ∧ eget q.2.1 1 = .pt none (.bool a1.Stock :: (.sl none (a1.Notches.map Notch.c) :: ((arC (cI .i8) 0 a1.Grain) ++ ([] : List AV)))) ∧ eget q.2.1 14 = .bool g
def impl_ValidHalf_c3_Q (a1 : Half) (s1_1 : Int) (x58 : Notch) (i903_1 : Nat) (g : Bool) (q : Out) : Prop := q.1 = .nrm ∧ eget q.2.1 1 = .pt none (.bool a1.Stock :: (.sl none (a1.Notches.map Notch.c) :: ((arC (cI .i8) 0 a1.Grain) ++ ([] : List AV)))) ∧ eget q.2.1 3 = .int .i64 s1_1 ∧ eget q.2.1 4 = .loc i903_1 1 0 0 ∧ eget q.2.1 16 = .sl none (a1.Notches.map Notch.c) ∧ eget q.2.1 17 = .int .i64 (a1.Notches.length : Int) ∧ eget q.2.1 18 = .int .i64 s1_1 ∧ eget q.2.1 37 = .bool g ∧ q.2.2[i903_1]? = some (.live ⟨.box, 156, 2, [[.int .i8 x58.Kind, .int .i16 x58.At]]⟩)
abbrev impl_ValidHalf_b1_S := Int
abbrev impl_ValidHalf_b1_R := Unit ⊕ Unit
def impl_ValidHalf_b1_RS (a1 : Half) (s : impl_ValidHalf_b1_S) (e : Env) (M : Mem) : Prop := eget e 1 = .pt none (.bool a1.Stock :: (.sl none (a1.Notches.map Notch.c) :: ((arC (cI .i8) 0 a1.Grain) ++ ([] : List AV)))) ∧ eget e 16 = .sl none (a1.Notches.map Notch.c) ∧ eget e 17 = .int .i64 (a1.Notches.length : Int) ∧ eget e 18 = .int .i64 s
def impl_ValidHalf_b1_RR (a1 : Half) (r : impl_ValidHalf_b1_R) (x : Ex) (e : Env) (M : Mem) : Prop :=
  match r with
  | (.inl g) => x = .ret ∧ eget e 2 = .bool false
  | (.inr g) => x = .ext 0 ∧ True
noncomputable def impl_ValidHalf_b1 (a1 : Half) : impl_ValidHalf_b1_S → Option (impl_ValidHalf_b1_S ⊕ impl_ValidHalf_b1_R) := fun s1_1 =>
 if (decide (s1_1 < (a1.Notches.length : Int))) = true then
  (rd a1.Notches s1_1).bind fun x58 =>
  ((impl_isKind (IntKind.i64.wrap x58.Kind)).bind fun r76 =>
  if r76 = true then
   if (decide (x58.At < 0)) = true then
    some true
   else
    (impl_Notch_end x58).bind fun r89 =>
    some (decide (r89 > 200))
  else
   some true).bind fun y110 =>
  if y110 = true then
   some (.inr (.inl ()))
  else
   if (decide (s1_1 > 0)) = true then
    (rd a1.Notches (IntKind.i64.wrap (s1_1 - 1))).bind fun x124 =>
    (impl_Notch_end x124).bind fun r127 =>
    if (decide ((IntKind.i64.wrap x58.At) ≤ r127)) = true then
     some (.inr (.inl ()))
    else
     (rd a1.Notches (IntKind.i64.wrap (s1_1 - 1))).bind fun x139 =>
     if (decide (x58.Kind > x139.Kind)) = true then
      some (.inr (.inl ()))
     else
      some (.inl (IntKind.i64.wrap (s1_1 + 1)))
   else
    some (.inl (IntKind.i64.wrap (s1_1 + 1)))
 else
  some (.inr (.inr ()))
theorem impl_ValidHalf_b1_ok (a1 : Half) (s : impl_ValidHalf_b1_S) (r : impl_ValidHalf_b1_S ⊕ impl_ValidHalf_b1_R) (h : impl_ValidHalf_b1 a1 s = some r) (e : Env) (M : Mem) (hs : impl_ValidHalf_b1_RS a1 s e M) : Ev (fun k => (f106_l4 (CN k) k (prune [1, 16, 17, 18] e) M).bind fun q => some q) (bQ (impl_ValidHalf_b1_RS a1) (impl_ValidHalf_b1_RR a1) r) := by
 revert h hs
 revert s
 intro s1_1 h hs
 unfold impl_ValidHalf_b1 at h
 obtain ⟨h42, h44, h46, h48⟩ := hs
 generalize he41 : prune [1, 16, 17, 18] e = e40
 have h43 := envp he41.symm rfl h42
 have h45 := envp he41.symm rfl h44
 have h47 := envp he41.symm rfl h46
 have h49 := envp he41.symm rfl h48
 refine sq (Rg (kx (bLss h49 h47) (Rn (hV (.pt none (.bool a1.Stock :: (.sl none (a1.Notches.map Notch.c) :: ((arC (cI .i8) 0 a1.Grain) ++ ([] : List AV))))) h43 (hV (.sl none (a1.Notches.map Notch.c)) h45 (hV (.int .i64 (a1.Notches.length : Int)) h47 (hV (.int .i64 s1_1) h49 (hN rfl hZ))))) fun e50 h52 h53 h54 h55 h56 => sN (sq ?_))))
 clear h43 h45 h47 h49
 rcases ite_some h with ⟨hb57, h⟩ | ⟨hb57, h⟩
 ·obtain ⟨x58, hx59, h⟩ := bind_some h
  refine cT h56 hb57 (xx (sN (sq (bl (sq (Rg (kx (mvO h55) (kx (ixS h53 h55 hx59 Notch.fl) (kx (ldPA rfl rfl rfl) (ku (alO zero156) fun M61 hM62 => ?_))))))))))
  have o63 : M61[M.length]? = some (.live ⟨.box, 156, 2, [[.int .i8 0, .int .i16 0]]⟩) := push_new hM62
  refine kx (mvO rfl) (kw (stO rfl rfl o63 rfl rfl ⟨rfl, ble rfl⟩ rfl rfl) fun M64 hM65 => ?_)
  have o66 : M64[M.length]? = some (.live ⟨.box, 156, 2, [[.int .i8 x58.Kind, .int .i16 x58.At]]⟩) := set_same hM65 o63
  obtain ⟨r172, hr173, h⟩ := bind_some h
  refine Rn (hA h52 (hN rfl (hV (.loc M.length 1 0 0) rfl (hA h53 (hA h54 (hA h55 hZ)))))) fun e67 h69 h70 h71 h72 h73 h74 => sN (sq (sq ?_))
  clear h52 h53 h54 h55 h56
  refine Ev.cut (Q1 := impl_ValidHalf_c3_Q a1 s1_1 x58 M.length r172) (by
      have h := hr173
      obtain ⟨r76, hx75, h⟩ := bind_some h
      refine Rg (kx (faO h71 o66 rfl) (kx (ldO rfl o66 rfl rfl rfl) (kx (cvI rfl) (kc (cl (v := .bool r76) rfl (cns rfl rfl) rfl (impl_isKind_ok (IntKind.i64.wrap x58.Kind) _ hx75) nm) (kx (uNot rfl) (kx (mvO rfl) ?_))))))
      rcases ite_some h with ⟨hb77, h⟩ | ⟨hb77, h⟩
      ·refine kx (guF rfl (congrArg Bool.not hb77) (faO h71 o66 rfl)) (kx (guF rfl (congrArg Bool.not hb77) (ldO rfl o66 rfl rfl rfl)) (kx (guF rfl (congrArg Bool.not hb77) (bLss rfl rfl)) (kx (pkF rfl (congrArg Bool.not hb77) rfl) (kx (mvO rfl) ?_))))
       rcases ite_some h with ⟨hb78, h⟩ | ⟨hb78, h⟩
       ·refine kx (gsF rfl hb78) (kc (Ev.gsF rfl hb78) (kx (gsF rfl hb78) (kx (pkT rfl hb78 rfl) (Rn (hA h69 (hA h70 (hA h71 (hA h72 (hA h73 (hA h74 (hV (.bool true) rfl hZ))))))) fun e79 h81 h82 h83 h84 h85 h86 h87 => ?_))))
        clear h69 h70 h71 h72 h73 h74
        obtain rfl := si h
        exact kd (show impl_ValidHalf_c3_Q a1 s1_1 x58 M.length _ _ from ⟨rfl, h81, h82, h83, h84, h85, h86, h87, o66⟩)
       obtain ⟨r89, hx88, h⟩ := bind_some h
       refine kx (guF rfl hb78 (ldOA h71 o66 rfl rfl (ble rfl) rfl)) (kc (Ev.guF rfl hb78 (cl (v := .int .i64 r89) rfl (cns rfl rfl) rfl (impl_Notch_end_ok x58 _ hx88) nm)) (kx (guF rfl hb78 (bGtr rfl rfl)) (kx (pkF rfl hb78 rfl) (Rn (hA h69 (hA h70 (hA h71 (hA h72 (hA h73 (hA h74 (hN rfl hZ))))))) fun e90 h92 h93 h94 h95 h96 h97 h98 => ?_))))
       clear h69 h70 h71 h72 h73 h74
       obtain rfl := si h
       exact kd (show impl_ValidHalf_c3_Q a1 s1_1 x58 M.length _ _ from ⟨rfl, h92, h93, h94, h95, h96, h97, h98, o66⟩)
      refine kx (gsF rfl (congrArg Bool.not hb77)) (kx (gsF rfl (congrArg Bool.not hb77)) (kx (gsF rfl (congrArg Bool.not hb77)) (kx (pkT rfl (congrArg Bool.not hb77) rfl) (kx (mvO rfl) (kx (gsF rfl rfl) (kc (Ev.gsF rfl rfl) (kx (gsF rfl rfl) (kx (pkT rfl rfl rfl) (Rn (hA h69 (hA h70 (hA h71 (hA h72 (hA h73 (hA h74 (hV (.bool true) rfl hZ))))))) fun e99 h101 h102 h103 h104 h105 h106 h107 => ?_)))))))))
      clear h69 h70 h71 h72 h73 h74
      obtain rfl := si h
      exact kd (show impl_ValidHalf_c3_Q a1 s1_1 x58 M.length _ _ from ⟨rfl, h101, h102, h103, h104, h105, h106, h107, o66⟩)) ?_
  revert h hr173
  revert r172
  intro y110 hr173 h
  intro x e108 M109 hq171
  obtain ⟨rfl, h111, h112, h113, h114, h115, h116, h117, o118⟩ := hq171
  refine sN ?_
  rcases ite_some h with ⟨hb119, h⟩ | ⟨hb119, h⟩
  ·refine cT h117 hb119 (sq (Rg (kx (mvO rfl) (Rn (hV (.bool false) rfl hZ) fun e120 h122 => sN (xx (sR (bR (sR ?_))))))))
   clear h111 h112 h113 h114 h115 h116 h117
   obtain rfl := si h
   exact qR ⟨rfl, h122⟩
  refine cF h117 hb119 (xx (sN (sq (Rd (kf (mvO h112) (kf (bGtr rfl rfl) (kf (mvO rfl) ?_)))))))
  rcases ite_some h with ⟨hb123, h⟩ | ⟨hb123, h⟩
  ·obtain ⟨x124, hx125, h⟩ := bind_some h
   obtain ⟨r127, hx126, h⟩ := bind_some h
   refine kf (guT rfl hb123 (faO h113 o118 rfl)) (kf (guT rfl hb123 (ldO rfl o118 rfl rfl rfl)) (kf (guT rfl hb123 (cvI rfl)) (kf (guT rfl hb123 (faP h111 ⟨ble rfl, blt rfl⟩ rfl)) (kf (guT rfl hb123 (ldP rfl rfl)) (kf (guT rfl hb123 (mvO h112)) (kf (guT rfl hb123 (bSub rfl rfl)) (kf (guT rfl hb123 (ixS rfl rfl hx125 Notch.fl)) (kf (guT rfl hb123 (ldPA rfl rfl rfl)) (fc (Ev.guT rfl hb123 (cl (v := .int .i64 r127) rfl (cns rfl rfl) rfl (impl_Notch_end_ok x124 _ hx126) nm)) (kf (guT rfl hb123 (bLeq rfl rfl)) (kf (guT rfl hb123 (mvO rfl)) ?_)))))))))))
   rcases ite_some h with ⟨hb128, h⟩ | ⟨hb128, h⟩
   ·refine kf (gsF rfl hb128) (kf (gsF rfl hb128) (kf (gsF rfl hb128) (kf (gsF rfl hb128) (kf (gsF rfl hb128) (kf (gsF rfl hb128) (kf (gsF rfl hb128) (kf (gsF rfl hb128) (kf (gsF rfl hb128) (kf (gsF rfl hb128) (kf (guT rfl hb123 (pkT rfl hb128 rfl)) (kf (pkT rfl hb123 rfl) (fZ (Rn (hV (.pt none (.bool a1.Stock :: (.sl none (a1.Notches.map Notch.c) :: ((arC (cI .i8) 0 a1.Grain) ++ ([] : List AV))))) h111 (hV (.sl none (a1.Notches.map Notch.c)) h114 (hV (.int .i64 (a1.Notches.length : Int)) h115 (hV (.int .i64 s1_1) h116 (hV (.bool true) rfl hZ))))) fun e129 h131 h132 h133 h134 h135 => sN (cT h135 rfl (sq (Rg (kx (mvO rfl) (Rn (hV (.bool false) rfl hZ) fun e136 h138 => sN (xx (bR (sR ?_)))))))))))))))))))))
    clear h111 h112 h113 h114 h115 h116 h117 h131 h132 h133 h134 h135
    obtain rfl := si h
    exact qR ⟨rfl, h138⟩
   obtain ⟨x139, hx140, h⟩ := bind_some h
   refine kf (guF rfl hb128 (faO h113 o118 rfl)) (kf (guF rfl hb128 (ldO rfl o118 rfl rfl rfl)) (kf (guF rfl hb128 (faP h111 ⟨ble rfl, blt rfl⟩ rfl)) (kf (guF rfl hb128 (ldP rfl rfl)) (kf (guF rfl hb128 (mvO h112)) (kf (guF rfl hb128 (bSub rfl rfl)) (kf (guF rfl hb128 (ixS rfl rfl hx140 Notch.fl)) (kf (guF rfl hb128 (faP rfl ⟨ble rfl, blt rfl⟩ rfl)) (kf (guF rfl hb128 (ldP rfl rfl)) (kf (guF rfl hb128 (bGtr rfl rfl)) (kf (guT rfl hb123 (pkF rfl hb128 rfl)) (kf (pkT rfl hb123 rfl) (fZ (Rn (hV (.pt none (.bool a1.Stock :: (.sl none (a1.Notches.map Notch.c) :: ((arC (cI .i8) 0 a1.Grain) ++ ([] : List AV))))) h111 (hV (.sl none (a1.Notches.map Notch.c)) h114 (hV (.int .i64 (a1.Notches.length : Int)) h115 (hV (.int .i64 s1_1) h116 (hN rfl hZ))))) fun e141 h143 h144 h145 h146 h147 => sN ?_)))))))))))))
   clear h111 h112 h113 h114 h115 h116 h117
   rcases ite_some h with ⟨hb148, h⟩ | ⟨hb148, h⟩
   ·refine cT h147 hb148 (sq (Rg (kx (mvO rfl) (Rn (hV (.bool false) rfl hZ) fun e149 h151 => sN (xx (bR (sR ?_)))))))
    clear h143 h144 h145 h146 h147
    obtain rfl := si h
    exact qR ⟨rfl, h151⟩
   refine cF h147 hb148 (xx (bN (sN (Rg (kx (bAdd h146 rfl) (kx (mvO rfl) (Rn (hA h143 (hA h144 (hA h145 (hN rfl hZ)))) fun e152 h154 h155 h156 h157 => ?_)))))))
   clear h143 h144 h145 h147
   obtain rfl := si h
   exact qN ⟨h154, h155, h156, h157⟩
  refine kf (gsT rfl hb123) (kf (gsT rfl hb123) (kf (gsT rfl hb123) (kf (gsT rfl hb123) (kf (gsT rfl hb123) (kf (gsT rfl hb123) (kf (gsT rfl hb123) (kf (gsT rfl hb123) (kf (gsT rfl hb123) (fc (Ev.gsT rfl hb123) (kf (gsT rfl hb123) (kf (gsT rfl hb123) (kf (gsU rfl) (kf (gsU rfl) (kf (gsU rfl) (kf (gsU rfl) (kf (gsU rfl) (kf (gsU rfl) (kf (gsU rfl) (kf (gsU rfl) (kf (gsU rfl) (kf (gsU rfl) (kf (gsT rfl hb123) (kf (pkF rfl hb123 rfl) (fZ (Rn (hV (.pt none (.bool a1.Stock :: (.sl none (a1.Notches.map Notch.c) :: ((arC (cI .i8) 0 a1.Grain) ++ ([] : List AV))))) h111 (hV (.sl none (a1.Notches.map Notch.c)) h114 (hV (.int .i64 (a1.Notches.length : Int)) h115 (hV (.int .i64 s1_1) h116 (hV (.bool false) rfl hZ))))) fun e158 h160 h161 h162 h163 h164 => sN (cF h164 rfl (xx (bN (sN (Rg (kx (bAdd h163 rfl) (kx (mvO rfl) (Rn (hA h160 (hA h161 (hA h162 (hN rfl hZ)))) fun e165 h167 h168 h169 h170 => ?_)))))))))))))))))))))))))))))))))
  clear h111 h112 h113 h114 h115 h116 h117 h160 h161 h162 h164
  obtain rfl := si h
  exact qN ⟨h167, h168, h169, h170⟩
 refine cF h56 hb57 (xx (sE ?_))
 obtain rfl := si h
 exact qE ⟨rfl, trivial⟩
noncomputable def impl_ValidHalf (a1 : Half) : Option Bool :=
 (if (decide ((a1.Notches.length : Int) > 60)) = true then
  some true
 else
  (impl_ValidGrain a1.Grain).bind fun r10 =>
  some (!r10)).bind fun y17 =>
 if y17 = true then
  some false
 else
  (Lw (impl_ValidHalf_b1 a1) 0).bind fun r => match r with
  | (.inl _) =>
   some false
  | (.inr _) =>
   some true
def impl_ValidHalf_enc (r : Bool) : AV := .bool r
theorem impl_ValidHalf_ok (a1 : Half) (r : Bool) (h : impl_ValidHalf a1 = some r) : Ev (fun k => CN k 106 [.agg (.bool a1.Stock :: (.sl none (a1.Notches.map Notch.c) :: ((arC (cI .i8) 0 a1.Grain) ++ ([] : List AV))))] []) (fun p => rRes p.2 p.1 = impl_ValidHalf_enc r) := by
 unfold impl_ValidHalf at h
 obtain ⟨r186, hr187, h⟩ := bind_some h
 refine Ev.enter (F := fun k => f106 (CN k) k) (fun k => callN_eq rfl Tryd.func106 rfl rfl rfl (by decide +kernel) (f106_eq _ _)) (sq (Rg (kx (bxI rfl rfl ⟨rfl, rfl, by decide⟩) (kx (mvO rfl) (Rn (hN rfl hZ) fun e1 h3 => sN (sq (sq ?_)))))))
 refine Ev.cut (Q1 := impl_ValidHalf_c1_Q a1 r186) (by
     have h := hr187
     refine Rg (kx (faP h3 ⟨ble rfl, blt rfl⟩ rfl) (kx (ldP rfl rfl) (kx (lnS Tryd.underlying54 rfl) (kx (bGtr rfl rfl) (kx (mvO rfl) ?_)))))
     rcases ite_some h with ⟨hb4, h⟩ | ⟨hb4, h⟩
     ·refine kx (gsF rfl hb4) (kx (gsF rfl hb4) (kc (Ev.gsF rfl hb4) (kx (gsF rfl hb4) (kx (pkT rfl hb4 rfl) (Rn (hA h3 (hV (.bool true) rfl hZ)) fun e5 h7 h8 => ?_)))))
      clear h3
      obtain rfl := si h
      exact kd (show impl_ValidHalf_c1_Q a1 _ _ from ⟨rfl, h7, h8⟩)
     obtain ⟨r10, hx9, h⟩ := bind_some h
     refine kx (guF rfl hb4 (faP h3 ⟨ble rfl, blt rfl⟩ rfl)) (kx (guF rfl hb4 (ldPA rfl rfl rfl)) (kc (Ev.guF rfl hb4 (cl (v := .bool r10) rfl (cns rfl rfl) rfl (impl_ValidGrain_ok a1.Grain _ hx9) nm)) (kx (guF rfl hb4 (uNot rfl)) (kx (pkF rfl hb4 rfl) (Rn (hA h3 (hN rfl hZ)) fun e11 h13 h14 => ?_)))))
     clear h3
     obtain rfl := si h
     exact kd (show impl_ValidHalf_c1_Q a1 _ _ from ⟨rfl, h13, h14⟩)) ?_
 revert h hr187
 revert r186
 intro y17 hr187 h
 intro x e15 M16 hq185
 obtain ⟨rfl, h18, h19⟩ := hq185
 refine sN ?_
 rcases ite_some h with ⟨hb20, h⟩ | ⟨hb20, h⟩
 ·refine cT h19 hb20 (sq (Rg (kx (mvO rfl) (Rn (hV (.bool false) rfl hZ) fun e21 h23 => sN (xx (sR ?_))))))
  clear h18 h19
  obtain rfl := si h
  exact eR (resT h23 res0) rfl
 obtain ⟨r174, hr175, h⟩ := bind_some h
 refine cF h19 hb20 (xx (sN (sq (sq (Rg (kx (faP h18 ⟨ble rfl, blt rfl⟩ rfl) (kx (ldP rfl rfl) (kx (lnS Tryd.underlying54 rfl) (kx (mvO rfl) (Rn (hV (.pt none (.bool a1.Stock :: (.sl none (a1.Notches.map Notch.c) :: ((arC (cI .i8) 0 a1.Grain) ++ ([] : List AV))))) h18 (hN rfl (hN rfl (hV (.int .i64 0) rfl hZ)))) fun e24 h26 h27 h28 h29 => sN (bl ?_)))))))))))
 clear h18 h19
 rcases r174 with _ | _
 ·refine Ev.loop (RS := impl_ValidHalf_b1_RS a1) (RR := impl_ValidHalf_b1_RR a1) (fun s r h e M hs => impl_ValidHalf_b1_ok a1 s r h e M hs) hr175 ⟨h26, h27, h28, h29⟩ fun x e177 M178 hq176 => ?_
  obtain ⟨rfl, h179⟩ := hq176
  refine bR (sR ?_)
  obtain rfl := si h
  exact eR (resT h179 res0) rfl
 refine Ev.loop (RS := impl_ValidHalf_b1_RS a1) (RR := impl_ValidHalf_b1_RR a1) (fun s r h e M hs => impl_ValidHalf_b1_ok a1 s r h e M hs) hr175 ⟨h26, h27, h28, h29⟩ fun x e180 M181 hq176 => ?_
 obtain ⟨rfl, _⟩ := hq176
 refine bE (sN (sq (Rg (kx (mvO rfl) (Rn (hV (.bool true) rfl hZ) fun e182 h184 => sN (xx ?_))))))
 obtain rfl := si h
 exact eR (resT h184 res0) rfl
/-! ### loop.example/g01263/impl.isLetters (f87) -/
abbrev impl_isLetters_b1_S := Int
abbrev impl_isLetters_b1_R := Unit ⊕ Unit
def impl_isLetters_b1_RS (a1 : List UInt8) (a2 : Int) (s : impl_isLetters_b1_S) (e : Env) (M : Mem) : Prop := eget e 0 = .str a1 ∧ eget e 1 = .int .i64 a2 ∧ eget e 7 = .int .i64 (a1.length : Int) ∧ eget e 8 = .int .i64 s
def impl_isLetters_b1_RR (a1 : List UInt8) (a2 : Int) (r : impl_isLetters_b1_R) (x : Ex) (e : Env) (M : Mem) : Prop :=
  match r with
  | (.inl g) => x = .ret ∧ eget e 4 = .bool false
  | (.inr g) => x = .ext 0 ∧ eget e 0 = .str a1 ∧ eget e 1 = .int .i64 a2
noncomputable def impl_isLetters_b1 (a1 : List UInt8) : impl_isLetters_b1_S → Option (impl_isLetters_b1_S ⊕ impl_isLetters_b1_R) := fun s1_1 =>
 if (decide (s1_1 < (a1.length : Int))) = true then
  (rd a1 s1_1).bind fun x46 =>
  if (decide ((x46.toNat : Int) < 97)) = true then
   some (.inr (.inl ()))
  else
   (rd a1 s1_1).bind fun x59 =>
   if (decide ((x59.toNat : Int) > 122)) = true then
    some (.inr (.inl ()))
   else
    some (.inl (IntKind.i64.wrap (s1_1 + 1)))
 else
  some (.inr (.inr ()))
theorem impl_isLetters_b1_ok (a1 : List UInt8) (a2 : Int) (s : impl_isLetters_b1_S) (r : impl_isLetters_b1_S ⊕ impl_isLetters_b1_R) (h : impl_isLetters_b1 a1 s = some r) (e : Env) (M : Mem) (hs : impl_isLetters_b1_RS a1 a2 s e M) : Ev (fun k => (f87_l2 (CN k) k (prune [0, 1, 7, 8] e) M).bind fun q => some q) (bQ (impl_isLetters_b1_RS a1 a2) (impl_isLetters_b1_RR a1 a2) r) := by
 revert h hs
 revert s
 intro s1_1 h hs
 unfold impl_isLetters_b1 at h
 obtain ⟨h23, h25, h27, h29⟩ := hs
 generalize he22 : prune [0, 1, 7, 8] e = e21
 have h24 := envp he22.symm rfl h23
 have h26 := envp he22.symm rfl h25
 have h28 := envp he22.symm rfl h27
 have h30 := envp he22.symm rfl h29
 refine sq (Rg (kx (bLss h30 h28) (Rn (hV (.str a1) h24 (hV (.int .i64 a2) h26 (hV (.int .i64 (a1.length : Int)) h28 (hV (.int .i64 s1_1) h30 (hN rfl hZ))))) fun e31 h33 h34 h35 h36 h37 => sN (sq ?_))))
 clear h24 h26 h28 h30
 rcases ite_some h with ⟨hb38, h⟩ | ⟨hb38, h⟩
 ·obtain ⟨x46, hx47, h⟩ := bind_some h
  refine cT h37 hb38 (xx (sN (sq (bl (sq (Rg (kx (mvO h36) (kx (mvO rfl) (Rn (hA h33 (hA h34 (hN rfl (hA h35 (hA h36 hZ))))) fun e39 h41 h42 h43 h44 h45 => sN (sq (Rg (kx (mvO h41) (kx (mvO h43) (kx (ixB rfl rfl hx47) (kx (bLss rfl rfl) (kx (mvO rfl) ?_))))))))))))))))
  clear h33 h34 h35 h36 h37
  rcases ite_some h with ⟨hb48, h⟩ | ⟨hb48, h⟩
  ·refine kx (gsF rfl hb48) (kx (gsF rfl hb48) (kx (gsF rfl hb48) (kx (gsF rfl hb48) (kx (pkT rfl hb48 rfl) (Rn (hA h41 (hA h42 (hA h44 (hA h45 (hV (.bool true) rfl hZ))))) fun e49 h51 h52 h53 h54 h55 => sN (cT h55 rfl (sq (Rg (kx (mvO rfl) (Rn (hV (.bool false) rfl hZ) fun e56 h58 => sN (xx (bR (sR ?_)))))))))))))
   clear h41 h42 h43 h44 h45 h51 h52 h53 h54 h55
   obtain rfl := si h
   exact qR ⟨rfl, h58⟩
  obtain ⟨x59, hx60, h⟩ := bind_some h
  refine kx (guF rfl hb48 (mvO h41)) (kx (guF rfl hb48 (mvO h43)) (kx (guF rfl hb48 (ixB rfl rfl hx60)) (kx (guF rfl hb48 (bGtr rfl rfl)) (kx (pkF rfl hb48 rfl) (Rn (hA h41 (hA h42 (hA h44 (hA h45 (hN rfl hZ))))) fun e61 h63 h64 h65 h66 h67 => sN ?_)))))
  clear h41 h42 h43 h44 h45
  rcases ite_some h with ⟨hb68, h⟩ | ⟨hb68, h⟩
  ·refine cT h67 hb68 (sq (Rg (kx (mvO rfl) (Rn (hV (.bool false) rfl hZ) fun e69 h71 => sN (xx (bR (sR ?_)))))))
   clear h63 h64 h65 h66 h67
   obtain rfl := si h
   exact qR ⟨rfl, h71⟩
  refine cF h67 hb68 (xx (bN (sN (Rg (kx (bAdd h66 rfl) (kx (mvO rfl) (Rn (hA h63 (hA h64 (hA h65 (hN rfl hZ)))) fun e72 h74 h75 h76 h77 => ?_)))))))
  clear h63 h64 h65 h67
  obtain rfl := si h
  exact qN ⟨h74, h75, h76, h77⟩
 refine cF h37 hb38 (xx (sE ?_))
 obtain rfl := si h
 exact qE ⟨rfl, h33, h34⟩
noncomputable def impl_isLetters (a1 : List UInt8) (a2 : Int) : Option Bool :=
 (Lw (impl_isLetters_b1 a1) 0).bind fun r => match r with
 | (.inl _) =>
  some false
 | (.inr _) =>
  if (decide ((a1.length : Int) ≥ 1)) = true then
   some (decide ((a1.length : Int) ≤ a2))
  else
   some false
def impl_isLetters_enc (r : Bool) : AV := .bool r
theorem impl_isLetters_ok (a1 : List UInt8) (a2 : Int) (r : Bool) (h : impl_isLetters a1 a2 = some r) : Ev (fun k => CN k 87 [.str a1, .int .i64 a2] []) (fun p => rRes p.2 p.1 = impl_isLetters_enc r) := by
 unfold impl_isLetters at h
 obtain ⟨r78, hr79, h⟩ := bind_some h
 refine Ev.enter (F := fun k => f87 (CN k) k) (fun k => callN_eq rfl Tryd.func87 rfl rfl rfl (by decide +kernel) (f87_eq _ _)) (sq (Rg (kx (mvO rfl) (Rn (hN rfl (hN rfl hZ)) fun e1 h3 h4 => sN (sq (sq (Rg (kx (mvO h3) (kx (lnB Tryd.underlying9 rfl) (kx (mvO rfl) (Rn (hA h3 (hA h4 (hN rfl (hV (.int .i64 0) rfl hZ)))) fun e5 h7 h8 h9 h10 => sN (bl ?_))))))))))))
 clear h3 h4
 rcases r78 with _ | _
 ·refine Ev.loop (RS := impl_isLetters_b1_RS a1 a2) (RR := impl_isLetters_b1_RR a1 a2) (fun s r h e M hs => impl_isLetters_b1_ok a1 a2 s r h e M hs) hr79 ⟨h7, h8, h9, h10⟩ fun x e81 M82 hq80 => ?_
  obtain ⟨rfl, h83⟩ := hq80
  refine bR (sR ?_)
  obtain rfl := si h
  exact eR (resT h83 res0) rfl
 refine Ev.loop (RS := impl_isLetters_b1_RS a1 a2) (RR := impl_isLetters_b1_RR a1 a2) (fun s r h e M hs => impl_isLetters_b1_ok a1 a2 s r h e M hs) hr79 ⟨h7, h8, h9, h10⟩ fun x e84 M85 hq80 => ?_
 obtain ⟨rfl, h86, h87⟩ := hq80
 refine bE (sN (sq (Rg (kx (mvO h86) (kx (lnB Tryd.underlying9 rfl) (kx (bGeq rfl rfl) (kx (mvO rfl) ?_)))))))
 rcases ite_some h with ⟨hb88, h⟩ | ⟨hb88, h⟩
 ·refine kx (guT rfl hb88 (mvO h86)) (kx (guT rfl hb88 (lnB Tryd.underlying9 rfl)) (kx (guT rfl hb88 (mvO h87)) (kx (guT rfl hb88 (bLeq rfl rfl)) (kx (pkT rfl hb88 rfl) (kx (mvO rfl) (Rn (hN rfl hZ) fun e89 h91 => sN (xx ?_)))))))
  clear h86 h87
  obtain rfl := si h
  exact eR (resT h91 res0) rfl
 refine kx (gsT rfl hb88) (kx (gsT rfl hb88) (kx (gsT rfl hb88) (kx (gsT rfl hb88) (kx (pkF rfl hb88 rfl) (kx (mvO rfl) (Rn (hV (.bool false) rfl hZ) fun e92 h94 => sN (xx ?_)))))))
 clear h86 h87
 obtain rfl := si h
 exact eR (resT h94 res0) rfl
/-! ### loop.example/g01263/impl.isName (f105) -/
noncomputable def impl_isName (a1 : List UInt8) : Option Bool :=
 (impl_isLetters a1 12).bind fun r5 =>
 some r5
def impl_isName_enc (r : Bool) : AV := .bool r
theorem impl_isName_ok (a1 : List UInt8) (r : Bool) (h : impl_isName a1 = some r) : Ev (fun k => CN k 105 [.str a1] []) (fun p => rRes p.2 p.1 = impl_isName_enc r) := by
 unfold impl_isName at h
 obtain ⟨r5, hx4, h⟩ := bind_some h
 refine Ev.enter (F := fun k => f105 (CN k) k) (fun k => callN_eq rfl Tryd.func105 rfl rfl rfl (by decide +kernel) (f105_eq _ _)) (sq (Rg (kx (mvO rfl) (Rn (hN rfl hZ) fun e1 h3 => sN (sq (Rg (kx (mvO h3) (kc (cl (v := .bool r5) rfl (cns rfl (cns rfl rfl)) rfl (impl_isLetters_ok a1 12 _ hx4) nm) (kx (mvO rfl) (Rn (hN rfl hZ) fun e6 h8 => sN (xx ?_)))))))))))
 clear h3
 obtain rfl := si h
 exact eR (resT h8 res0) rfl
/-! ### loop.example/g01263/spec.l06Name (f98) -/
abbrev spec_l06Name_b1_S := Int
abbrev spec_l06Name_b1_R := Unit ⊕ Unit
def spec_l06Name_b1_RS (a1 : List UInt8) (s : spec_l06Name_b1_S) (e : Env) (M : Mem) : Prop := eget e 0 = .str a1 ∧ eget e 3 = .int .i64 s
def spec_l06Name_b1_RR (a1 : List UInt8) (r : spec_l06Name_b1_R) (x : Ex) (e : Env) (M : Mem) : Prop :=
  match r with
  | (.inl g) => x = .ret ∧ eget e 2 = .bool false
  | (.inr g) => x = .ext 0 ∧ eget e 0 = .str a1
noncomputable def spec_l06Name_b1 (a1 : List UInt8) : spec_l06Name_b1_S → Option (spec_l06Name_b1_S ⊕ spec_l06Name_b1_R) := fun s1_1 =>
 if (decide (s1_1 < (a1.length : Int))) = true then
  (rd a1 s1_1).bind fun x26 =>
  if (decide ((x26.toNat : Int) < 97)) = true then
   some (.inr (.inl ()))
  else
   (rd a1 s1_1).bind fun x37 =>
   if (decide ((x37.toNat : Int) > 122)) = true then
    some (.inr (.inl ()))
   else
    some (.inl (IntKind.i64.wrap (s1_1 + 1)))
 else
  some (.inr (.inr ()))
theorem spec_l06Name_b1_ok (a1 : List UInt8) (s : spec_l06Name_b1_S) (r : spec_l06Name_b1_S ⊕ spec_l06Name_b1_R) (h : spec_l06Name_b1 a1 s = some r) (e : Env) (M : Mem) (hs : spec_l06Name_b1_RS a1 s e M) : Ev (fun k => (f98_l2 (CN k) k (prune [0, 3] e) M).bind fun q => some q) (bQ (spec_l06Name_b1_RS a1) (spec_l06Name_b1_RR a1) r) := by
 revert h hs
 revert s
 intro s1_1 h hs
 unfold spec_l06Name_b1 at h
 obtain ⟨h16, h18⟩ := hs
 generalize he15 : prune [0, 3] e = e14
 have h17 := envp he15.symm rfl h16
 have h19 := envp he15.symm rfl h18
 refine sq (sq (Rg (kx (mvO h19) (kx (mvO h17) (kx (lnB Tryd.underlying9 rfl) (kx (bLss rfl rfl) (Rn (hV (.str a1) h17 (hV (.int .i64 s1_1) h19 (hN rfl hZ))) fun e20 h22 h23 h24 => sN ?_)))))))
 clear h17 h19
 rcases ite_some h with ⟨hb25, h⟩ | ⟨hb25, h⟩
 ·obtain ⟨x26, hx27, h⟩ := bind_some h
  refine cT h24 hb25 (xx (sN (sq (bl (sq (Rg (kx (mvO h22) (kx (mvO h23) (kx (ixB rfl rfl hx27) (kx (bLss rfl rfl) (kx (mvO rfl) ?_)))))))))))
  rcases ite_some h with ⟨hb28, h⟩ | ⟨hb28, h⟩
  ·refine kx (gsF rfl hb28) (kx (gsF rfl hb28) (kx (gsF rfl hb28) (kx (gsF rfl hb28) (kx (pkT rfl hb28 rfl) (Rn (hA h22 (hA h23 (hV (.bool true) rfl hZ))) fun e29 h31 h32 h33 => sN (cT h33 rfl (sq (Rg (kx (mvO rfl) (Rn (hV (.bool false) rfl hZ) fun e34 h36 => sN (xx (bR (sR ?_)))))))))))))
   clear h22 h23 h24 h31 h32 h33
   obtain rfl := si h
   exact qR ⟨rfl, h36⟩
  obtain ⟨x37, hx38, h⟩ := bind_some h
  refine kx (guF rfl hb28 (mvO h22)) (kx (guF rfl hb28 (mvO h23)) (kx (guF rfl hb28 (ixB rfl rfl hx38)) (kx (guF rfl hb28 (bGtr rfl rfl)) (kx (pkF rfl hb28 rfl) (Rn (hA h22 (hA h23 (hN rfl hZ))) fun e39 h41 h42 h43 => sN ?_)))))
  clear h22 h23 h24
  rcases ite_some h with ⟨hb44, h⟩ | ⟨hb44, h⟩
  ·refine cT h43 hb44 (sq (Rg (kx (mvO rfl) (Rn (hV (.bool false) rfl hZ) fun e45 h47 => sN (xx (bR (sR ?_)))))))
   clear h41 h42 h43
   obtain rfl := si h
   exact qR ⟨rfl, h47⟩
  refine cF h43 hb44 (xx (bN (sN (Rg (kx (mvO h42) (kx (bAdd rfl rfl) (kx (mvO rfl) (Rn (hA h41 (hN rfl hZ)) fun e48 h50 h51 => ?_))))))))
  clear h41 h43
  obtain rfl := si h
  exact qN ⟨h50, h51⟩
 refine cF h24 hb25 (xx (sE ?_))
 obtain rfl := si h
 exact qE ⟨rfl, h22⟩
noncomputable def spec_l06Name (a1 : List UInt8) : Option Bool :=
 (Lw (spec_l06Name_b1 a1) 0).bind fun r => match r with
 | (.inl _) =>
  some false
 | (.inr _) =>
  if (a1 == ([] : List UInt8)) = true then
   some false
  else
   some (decide ((a1.length : Int) ≤ 12))
def spec_l06Name_enc (r : Bool) : AV := .bool r
theorem spec_l06Name_ok (a1 : List UInt8) (r : Bool) (h : spec_l06Name a1 = some r) : Ev (fun k => CN k 98 [.str a1] []) (fun p => rRes p.2 p.1 = spec_l06Name_enc r) := by
 unfold spec_l06Name at h
 obtain ⟨r52, hr53, h⟩ := bind_some h
 refine Ev.enter (F := fun k => f98 (CN k) k) (fun k => callN_eq rfl Tryd.func98 rfl rfl rfl (by decide +kernel) (f98_eq _ _)) (sq (Rg (kx (mvO rfl) (Rn (hN rfl hZ) fun e1 h3 => sN (sq (sq (Rg (kx (mvO rfl) (Rn (hA h3 (hV (.int .i64 0) rfl hZ)) fun e4 h6 h7 => sN (bl ?_))))))))))
 clear h3
 rcases r52 with _ | _
 ·refine Ev.loop (RS := spec_l06Name_b1_RS a1) (RR := spec_l06Name_b1_RR a1) (fun s r h e M hs => spec_l06Name_b1_ok a1 s r h e M hs) hr53 ⟨h6, h7⟩ fun x e55 M56 hq54 => ?_
  obtain ⟨rfl, h57⟩ := hq54
  refine bR (sR ?_)
  obtain rfl := si h
  exact eR (resT h57 res0) rfl
 refine Ev.loop (RS := spec_l06Name_b1_RS a1) (RR := spec_l06Name_b1_RR a1) (fun s r h e M hs => spec_l06Name_b1_ok a1 s r h e M hs) hr53 ⟨h6, h7⟩ fun x e58 M59 hq54 => ?_
 obtain ⟨rfl, h60⟩ := hq54
 refine bE (sN (sq (Rg (kx (mvO h60) (kx (sNeq rfl rfl) (kx (mvO rfl) ?_))))))
 rcases ite_some h with ⟨hb61, h⟩ | ⟨hb61, h⟩
 ·refine kx (gsT rfl (congrArg Bool.not hb61)) (kx (gsT rfl (congrArg Bool.not hb61)) (kx (gsT rfl (congrArg Bool.not hb61)) (kx (pkF rfl (congrArg Bool.not hb61) rfl) (kx (mvO rfl) (Rn (hV (.bool false) rfl hZ) fun e62 h64 => sN (xx ?_))))))
  clear h60
  obtain rfl := si h
  exact eR (resT h64 res0) rfl
 refine kx (guT rfl (congrArg Bool.not hb61) (mvO h60)) (kx (guT rfl (congrArg Bool.not hb61) (lnB Tryd.underlying9 rfl)) (kx (guT rfl (congrArg Bool.not hb61) (bLeq rfl rfl)) (kx (pkT rfl (congrArg Bool.not hb61) rfl) (kx (mvO rfl) (Rn (hN rfl hZ) fun e65 h67 => sN (xx ?_))))))
 clear h60
 obtain rfl := si h
 exact eR (resT h67 res0) rfl
/-! ### loop.example/g01263/laws.heldMarkS (f79) -/
abbrev laws_heldMarkS_b1_S := Int × Int
abbrev laws_heldMarkS_b1_R := Unit ⊕ Int
def laws_heldMarkS_b1_RS (a1 : List Mark) (s : laws_heldMarkS_b1_S) (e : Env) (M : Mem) : Prop := eget e 0 = .sl none (a1.map Mark.c) ∧ eget e 1 = .int .i64 s.1 ∧ eget e 5 = .int .i64 s.2
def laws_heldMarkS_b1_RR (a1 : List Mark) (r : laws_heldMarkS_b1_R) (x : Ex) (e : Env) (M : Mem) : Prop :=
  match r with
  | (.inl g) => x = .ret ∧ eget e 4 = .int .i64 (-1)
  | (.inr g) => x = .ext 0 ∧ eget e 1 = .int .i64 g
noncomputable def laws_heldMarkS_b1 (a1 : List Mark) : laws_heldMarkS_b1_S → Option (laws_heldMarkS_b1_S ⊕ laws_heldMarkS_b1_R) := fun (s1_1, s1_2) =>
 if (decide (s1_2 < (a1.length : Int))) = true then
  (rd a1 s1_2).bind fun x33 =>
  (laws_markText s1_1).bind fun r36 =>
  if (x33.Holder == r36) = true then
   (rd a1 s1_2).bind fun x49 =>
   if (x49.Seal != (IntKind.u32.wrap (IntKind.i64.wrap (s1_1 + 1)))) = true then
    some (.inr (.inl ()))
   else
    some (.inl ((IntKind.i64.wrap ((IntKind.i64.wrap (s1_1 + 1)) + 1)), (IntKind.i64.wrap (s1_2 + 1))))
  else
   some (.inr (.inl ()))
 else
  some (.inr (.inr s1_1))
theorem laws_heldMarkS_b1_ok (a1 : List Mark) (s : laws_heldMarkS_b1_S) (r : laws_heldMarkS_b1_S ⊕ laws_heldMarkS_b1_R) (h : laws_heldMarkS_b1 a1 s = some r) (e : Env) (M : Mem) (hs : laws_heldMarkS_b1_RS a1 s e M) : Ev (fun k => (f79_l2 (CN k) k (prune [0, 1, 5] e) M).bind fun q => some q) (bQ (laws_heldMarkS_b1_RS a1) (laws_heldMarkS_b1_RR a1) r) := by
 obtain ⟨s1_1, s1_2⟩ := s
 unfold laws_heldMarkS_b1 at h
 obtain ⟨h20, h22, h24⟩ := hs
 generalize he19 : prune [0, 1, 5] e = e18
 have h21 := envp he19.symm rfl h20
 have h23 := envp he19.symm rfl h22
 have h25 := envp he19.symm rfl h24
 refine sq (sq (Rg (kx (mvO h25) (kx (mvO h21) (kx (lnS Tryd.underlying58 rfl) (kx (bLss rfl rfl) (Rn (hV (.sl none (a1.map Mark.c)) h21 (hV (.int .i64 s1_1) h23 (hV (.int .i64 s1_2) h25 (hN rfl hZ)))) fun e26 h28 h29 h30 h31 => sN ?_)))))))
 clear h21 h23 h25
 rcases ite_some h with ⟨hb32, h⟩ | ⟨hb32, h⟩
 ·obtain ⟨x33, hx34, h⟩ := bind_some h
  obtain ⟨r36, hx35, h⟩ := bind_some h
  refine cT h31 hb32 (xx (sN (sq (bl (sq (sq (Rd (kf (mvO h28) (kf (mvO h30) (kf (ixS rfl rfl hx34 Mark.fl) (kf (faP rfl ⟨ble rfl, blt rfl⟩ rfl) (kf (ldP rfl rfl) (kf (mvO h29) (fc (cl (v := .str r36) rfl (cns rfl rfl) rfl (laws_markText_ok s1_1 _ hx35) nm) (kf (sNeq rfl rfl) (fZ (Rn (hA h28 (hA h29 (hA h30 (hN rfl hZ)))) fun e37 h39 h40 h41 h42 => sN ?_)))))))))))))))))
  clear h28 h29 h30 h31
  rcases ite_some h with ⟨hb43, h⟩ | ⟨hb43, h⟩
  ·obtain ⟨x49, hx50, h⟩ := bind_some h
   refine cF h42 (congrArg Bool.not hb43) (xx (sN (sq (Rg (kx (mvO h40) (kx (bAdd rfl rfl) (kx (mvO rfl) (Rn (hA h39 (hN rfl (hA h41 hZ))) fun e44 h46 h47 h48 => sN (sq (sq (Rg (kx (mvO h46) (kx (mvO h48) (kx (ixS rfl rfl hx50 Mark.fl) (kx (faP rfl ⟨ble rfl, blt rfl⟩ rfl) (kx (ldP rfl rfl) (kx (mvO h47) (kx (cvI rfl) (kx (bNeq rfl rfl) (Rn (hA h46 (hA h47 (hA h48 (hN rfl hZ)))) fun e51 h53 h54 h55 h56 => sN ?_))))))))))))))))))))
   clear h39 h41 h42 h46 h47 h48
   rcases ite_some h with ⟨hb57, h⟩ | ⟨hb57, h⟩
   ·refine cT h56 hb57 (sq (Rg (kx (mvO rfl) (Rn (hV (.int .i64 (-1)) rfl hZ) fun e58 h60 => sN (xx (sR (bR (sR ?_))))))))
    clear h53 h54 h55 h56
    obtain rfl := si h
    exact qR ⟨rfl, h60⟩
   refine cF h56 hb57 (xx (sN (Rg (kx (mvO h54) (kx (bAdd rfl rfl) (kx (mvO rfl) (Rn (hA h53 (hN rfl (hA h55 hZ))) fun e61 h63 h64 h65 => bN (sN (Rg (kx (mvO h65) (kx (bAdd rfl rfl) (kx (mvO rfl) (Rn (hA h63 (hA h64 (hN rfl hZ))) fun e66 h68 h69 h70 => ?_)))))))))))))
   clear h53 h55 h56 h63 h64
   obtain rfl := si h
   exact qN ⟨h68, h69, h70⟩
  refine cT h42 (congrArg Bool.not hb43) (sq (Rg (kx (mvO rfl) (Rn (hV (.int .i64 (-1)) rfl hZ) fun e71 h73 => sN (xx (sR (bR (sR ?_))))))))
  clear h39 h40 h41 h42
  obtain rfl := si h
  exact qR ⟨rfl, h73⟩
 refine cF h31 hb32 (xx (sE ?_))
 obtain rfl := si h
 exact qE ⟨rfl, h29⟩
noncomputable def laws_heldMarkS (a1 : List Mark) (a2 : Int) : Option Int :=
 (Lw (laws_heldMarkS_b1 a1) (a2, 0)).bind fun r => match r with
 | (.inl _) =>
  some (-1)
 | (.inr y82) =>
  some y82
def laws_heldMarkS_enc (r : Int) : AV := .int .i64 r
theorem laws_heldMarkS_ok (a1 : List Mark) (a2 : Int) (r : Int) (h : laws_heldMarkS a1 a2 = some r) : Ev (fun k => CN k 79 [.sl none (a1.map Mark.c), .int .i64 a2] []) (fun p => rRes p.2 p.1 = laws_heldMarkS_enc r) := by
 unfold laws_heldMarkS at h
 obtain ⟨r74, hr75, h⟩ := bind_some h
 refine Ev.enter (F := fun k => f79 (CN k) k) (fun k => callN_eq rfl Tryd.func79 rfl rfl rfl (by decide +kernel) (f79_eq _ _)) (sq (Rg (kx (mvO rfl) (Rn (hN rfl (hN rfl hZ)) fun e1 h3 h4 => sN (sq (sq (Rg (kx (mvO rfl) (Rn (hA h3 (hA h4 (hV (.int .i64 0) rfl hZ))) fun e5 h7 h8 h9 => sN (bl ?_))))))))))
 clear h3 h4
 rcases r74 with _ | y82
 ·refine Ev.loop (RS := laws_heldMarkS_b1_RS a1) (RR := laws_heldMarkS_b1_RR a1) (fun s r h e M hs => laws_heldMarkS_b1_ok a1 s r h e M hs) hr75 ⟨h7, h8, h9⟩ fun x e77 M78 hq76 => ?_
  obtain ⟨rfl, h79⟩ := hq76
  refine bR (sR ?_)
  obtain rfl := si h
  exact eR (resT h79 res0) rfl
 refine Ev.loop (RS := laws_heldMarkS_b1_RS a1) (RR := laws_heldMarkS_b1_RR a1) (fun s r h e M hs => laws_heldMarkS_b1_ok a1 s r h e M hs) hr75 ⟨h7, h8, h9⟩ fun x e80 M81 hq76 => ?_
 obtain ⟨rfl, h83⟩ := hq76
 refine bE (sN (sq (Rg (kx (mvO h83) (kx (mvO rfl) (Rn (hN rfl hZ) fun e84 h86 => sN (xx ?_)))))))
 clear h83
 obtain rfl := si h
 exact eR (resT h86 res0) rfl
/-! ### loop.example/g01263/laws.heldHalf (f78) -/
noncomputable def laws_heldHalf (a1 : Half) (a2 : Int) : Option Int :=
 (laws_heldNotchS a1.Notches a2).bind fun r6 =>
 if (decide (r6 < 0)) = true then
  some (-1)
 else
  some r6
def laws_heldHalf_enc (r : Int) : AV := .int .i64 r
theorem laws_heldHalf_ok (a1 : Half) (a2 : Int) (r : Int) (h : laws_heldHalf a1 a2 = some r) : Ev (fun k => CN k 78 [.agg (.bool a1.Stock :: (.sl none (a1.Notches.map Notch.c) :: ((arC (cI .i8) 0 a1.Grain) ++ ([] : List AV)))), .int .i64 a2] []) (fun p => rRes p.2 p.1 = laws_heldHalf_enc r) := by
 unfold laws_heldHalf at h
 obtain ⟨r6, hx5, h⟩ := bind_some h
 refine Ev.enter (F := fun k => f78 (CN k) k) (fun k => callN_eq rfl Tryd.func78 rfl rfl rfl (by decide +kernel) (f78_eq _ _)) (sq (Rg (kx (bxI rfl rfl ⟨rfl, rfl, by decide⟩) (kx (mvO rfl) (Rn (hN rfl (hN rfl hZ)) fun e1 h3 h4 => sN (sq (Rg (kx (faP h4 ⟨ble rfl, blt rfl⟩ rfl) (kx (ldP rfl rfl) (kx (mvO h3) (kc (cl (v := .int .i64 r6) rfl (cns rfl (cns rfl rfl)) rfl (laws_heldNotchS_ok a1.Notches a2 _ hx5) nm) (kx (mvO rfl) (Rn (hN rfl hZ) fun e7 h9 => sN (sq (sq (Rg (kx (mvO h9) (kx (bLss rfl rfl) (Rn (hA h9 (hN rfl hZ)) fun e10 h12 h13 => sN ?_)))))))))))))))))))
 clear h4 h9
 rcases ite_some h with ⟨hb14, h⟩ | ⟨hb14, h⟩
 ·refine cT h13 hb14 (sq (Rg (kx (mvO rfl) (Rn (hV (.int .i64 (-1)) rfl hZ) fun e15 h17 => sN (xx (sR ?_))))))
  clear h12 h13
  obtain rfl := si h
  exact eR (resT h17 res0) rfl
 refine cF h13 hb14 (xx (sN (sq (Rg (kx (mvO h12) (kx (mvO rfl) (Rn (hN rfl hZ) fun e18 h20 => sN (xx ?_))))))))
 clear h12 h13
 obtain rfl := si h
 exact eR (resT h20 res0) rfl
/-! ### strings.IndexByte (f120), by its contract -/
noncomputable def strings_IndexByte (a1 : List UInt8) (a2 : Int) : Option (Int) := idxI a1 a2
def strings_IndexByte_enc (r : Int) : AV := .int .i64 r
theorem strings_IndexByte_ok (a1 : List UInt8) (a2 : Int) (r : Int) (h : strings_IndexByte a1 a2 = some r) : Ev (fun k => CN k 120 [.str a1, .int .u8 a2] []) (fun p => rRes p.2 p.1 = strings_IndexByte_enc r) := Ev.lib rfl rfl (lib_idx h) rfl
/-! ### loop.example/g01263/impl.unhex (f75) -/
abbrev impl_unhex_b1_S := Int × Int
abbrev impl_unhex_b1_R := Unit ⊕ Int
def impl_unhex_b1_RS (a1 : List UInt8) (s : impl_unhex_b1_S) (e : Env) (M : Mem) : Prop := eget e 0 = .str a1 ∧ eget e 4 = .int .u32 s.1 ∧ eget e 8 = .int .i64 (a1.length : Int) ∧ eget e 9 = .int .i64 s.2
def impl_unhex_b1_RR (a1 : List UInt8) (r : impl_unhex_b1_R) (x : Ex) (e : Env) (M : Mem) : Prop :=
  match r with
  | (.inl g) => x = .ret ∧ eget e 2 = .int .u32 0 ∧ eget e 3 = .bool false
  | (.inr g) => x = .ext 0 ∧ eget e 0 = .str a1 ∧ eget e 4 = .int .u32 g
noncomputable def impl_unhex_b1 (a1 : List UInt8) : impl_unhex_b1_S → Option (impl_unhex_b1_S ⊕ impl_unhex_b1_R) := fun (s1_1, s1_2) =>
 if (decide (s1_2 < (a1.length : Int))) = true then
  (rd a1 s1_2).bind fun x49 =>
  (strings_IndexByte ([48, 49, 50, 51, 52, 53, 54, 55, 56, 57, 97, 98, 99, 100, 101, 102] : List UInt8) (x49.toNat : Int)).bind fun r52 =>
  if (decide (r52 < 0)) = true then
   some (.inr (.inl ()))
  else
   (shl .u32 s1_1 4).bind fun n73 =>
   some (.inl ((ior .u32 n73 (IntKind.u32.wrap r52)), (IntKind.i64.wrap (s1_2 + 1))))
 else
  some (.inr (.inr s1_1))
theorem impl_unhex_b1_ok (a1 : List UInt8) (s : impl_unhex_b1_S) (r : impl_unhex_b1_S ⊕ impl_unhex_b1_R) (h : impl_unhex_b1 a1 s = some r) (e : Env) (M : Mem) (hs : impl_unhex_b1_RS a1 s e M) : Ev (fun k => (f75_l3 (CN k) k (prune [0, 4, 8, 9] e) M).bind fun q => some q) (bQ (impl_unhex_b1_RS a1) (impl_unhex_b1_RR a1) r) := by
 obtain ⟨s1_1, s1_2⟩ := s
 unfold impl_unhex_b1 at h
 obtain ⟨h26, h28, h30, h32⟩ := hs
 generalize he25 : prune [0, 4, 8, 9] e = e24
 have h27 := envp he25.symm rfl h26
 have h29 := envp he25.symm rfl h28
 have h31 := envp he25.symm rfl h30
 have h33 := envp he25.symm rfl h32
 refine sq (Rg (kx (bLss h33 h31) (Rn (hV (.str a1) h27 (hV (.int .u32 s1_1) h29 (hV (.int .i64 (a1.length : Int)) h31 (hV (.int .i64 s1_2) h33 (hN rfl hZ))))) fun e34 h36 h37 h38 h39 h40 => sN (sq ?_))))
 clear h27 h29 h31 h33
 rcases ite_some h with ⟨hb41, h⟩ | ⟨hb41, h⟩
 ·obtain ⟨x49, hx50, h⟩ := bind_some h
  obtain ⟨r52, hx51, h⟩ := bind_some h
  refine cT h40 hb41 (xx (sN (sq (bl (sq (Rg (kx (mvO h39) (kx (mvO rfl) (Rn (hA h36 (hA h37 (hN rfl (hA h38 (hA h39 hZ))))) fun e42 h44 h45 h46 h47 h48 => sN (sq (Rg (kx (mvO h44) (kx (mvO h46) (kx (ixB rfl rfl hx50) (kc (cl (v := .int .i64 r52) rfl (cns rfl (cns rfl rfl)) rfl (strings_IndexByte_ok ([48, 49, 50, 51, 52, 53, 54, 55, 56, 57, 97, 98, 99, 100, 101, 102] : List UInt8) (x49.toNat : Int) _ hx51) nm) (kx (mvO rfl) (Rn (hA h44 (hA h45 (hN rfl (hA h47 (hA h48 hZ))))) fun e53 h55 h56 h57 h58 h59 => sN (sq (sq (Rg (kx (mvO h57) (kx (bLss rfl rfl) (Rn (hA h55 (hA h56 (hA h57 (hA h58 (hA h59 (hN rfl hZ)))))) fun e60 h62 h63 h64 h65 h66 h67 => sN ?_)))))))))))))))))))))))
  clear h36 h37 h38 h39 h40 h44 h45 h46 h47 h48 h55 h56 h57 h58 h59
  rcases ite_some h with ⟨hb68, h⟩ | ⟨hb68, h⟩
  ·refine cT h67 hb68 (sq (Rg (kx (mvO rfl) (kx (mvO rfl) (Rn (hV (.int .u32 0) rfl (hV (.bool false) rfl hZ)) fun e69 h71 h72 => sN (xx (sR (bR (sR ?_)))))))))
   clear h62 h63 h64 h65 h66 h67
   obtain rfl := si h
   exact qR ⟨rfl, h71, h72⟩
  obtain ⟨n73, hx74, h⟩ := bind_some h
  refine cF h67 hb68 (xx (sN (Rg (kx (mvO h63) (kx (bShl rfl rfl hx74) (kx (mvO h64) (kx (cvI rfl) (kx (bOr rfl rfl) (kx (mvO rfl) (Rn (hA h62 (hN rfl (hA h65 (hA h66 hZ)))) fun e75 h77 h78 h79 h80 => bN (sN (Rg (kx (bAdd h80 rfl) (kx (mvO rfl) (Rn (hA h77 (hA h78 (hA h79 (hN rfl hZ)))) fun e81 h83 h84 h85 h86 => ?_)))))))))))))))
  clear h62 h64 h65 h66 h67 h77 h78 h79
  obtain rfl := si h
  exact qN ⟨h83, h84, h85, h86⟩
 refine cF h40 hb41 (xx (sE ?_))
 obtain rfl := si h
 exact qE ⟨rfl, h36, h37⟩
noncomputable def impl_unhex (a1 : List UInt8) : Option (Int × Bool) :=
 (Lw (impl_unhex_b1 a1) (0, 0)).bind fun r => match r with
 | (.inl _) =>
  some (0, false)
 | (.inr y96) =>
  some (y96, ((a1.length : Int) == 8))
def impl_unhex_enc (r : Int × Bool) : AV := .tup [.int .u32 r.1, .bool r.2]
theorem impl_unhex_ok (a1 : List UInt8) (r : Int × Bool) (h : impl_unhex a1 = some r) : Ev (fun k => CN k 75 [.str a1] []) (fun p => rRes p.2 p.1 = impl_unhex_enc r) := by
 unfold impl_unhex at h
 obtain ⟨r87, hr88, h⟩ := bind_some h
 refine Ev.enter (F := fun k => f75 (CN k) k) (fun k => callN_eq rfl Tryd.func75 rfl rfl rfl (by decide +kernel) (f75_eq _ _)) (sq (Rg (kx (mvO rfl) (kx (mvO rfl) (Rn (hN rfl hZ) fun e1 h3 => sN (sq (Rg (kx (mvO rfl) (Rn (hA h3 (hV (.int .u32 0) rfl hZ)) fun e4 h6 h7 => sN (sq (sq (Rg (kx (mvO h6) (kx (lnB Tryd.underlying9 rfl) (kx (mvO rfl) (Rn (hA h6 (hA h7 (hN rfl (hV (.int .i64 0) rfl hZ)))) fun e8 h10 h11 h12 h13 => sN (bl ?_)))))))))))))))))
 clear h3 h6 h7
 rcases r87 with _ | y96
 ·refine Ev.loop (RS := impl_unhex_b1_RS a1) (RR := impl_unhex_b1_RR a1) (fun s r h e M hs => impl_unhex_b1_ok a1 s r h e M hs) hr88 ⟨h10, h11, h12, h13⟩ fun x e90 M91 hq89 => ?_
  obtain ⟨rfl, h92, h93⟩ := hq89
  refine bR (sR ?_)
  obtain rfl := si h
  exact eR (resT h92 (resT h93 res0)) rfl
 refine Ev.loop (RS := impl_unhex_b1_RS a1) (RR := impl_unhex_b1_RR a1) (fun s r h e M hs => impl_unhex_b1_ok a1 s r h e M hs) hr88 ⟨h10, h11, h12, h13⟩ fun x e94 M95 hq89 => ?_
 obtain ⟨rfl, h97, h98⟩ := hq89
 refine bE (sN (sq (Rg (kx (mvO h98) (kx (mvO h97) (kx (lnB Tryd.underlying9 rfl) (kx (bEql rfl rfl) (kx (mvO rfl) (kx (mvO rfl) (Rn (hN rfl (hN rfl hZ)) fun e99 h101 h102 => sN (xx ?_)))))))))))
 clear h97 h98
 obtain rfl := si h
 exact eR (resT h101 (resT h102 res0)) rfl
/-! ### strings.Split (f114), by its contract -/
noncomputable def strings_Split (a1 : List UInt8) (a2 : List UInt8) : Option ((List (List UInt8))) := splitI a1 a2
def strings_Split_enc (r : (List (List UInt8))) : AV := .sl (some 9) (r.map cS)
theorem strings_Split_ok (a1 : List UInt8) (a2 : List UInt8) (r : (List (List UInt8))) (h : strings_Split a1 a2 = some r) : Ev (fun k => CN k 114 [.str a1, .str a2] []) (fun p => rRes p.2 p.1 = strings_Split_enc r) := Ev.lib rfl rfl (lib_split rfl h) rfl
/-! ### loop.example/g01263/impl.ReadHalf (f74) -/
def impl_ReadHalf_c1_Q (r10 : List (List UInt8)) (i901_1 : Nat) (r : Unit ⊕ Bool) (q : Out) : Prop :=
  match r with
  | (.inl g) => q.1 = .ret ∧ eget q.2.1 2 = .loc i901_1 1 0 0 ∧ eget q.2.1 3 = .int .i64 5 ∧ q.2.2[i901_1]? = some (.live ⟨.box, 57, 18, [(.bool false :: (.nils :: ((arC (cI .i8) 0 (Ar.rep 16 0)) ++ ([] : List AV))))]⟩)
  | (.inr g) => q.1 = .nrm ∧ eget q.2.1 2 = .loc i901_1 1 0 0 ∧ eget q.2.1 4 = .sl (some 9) (r10.map cS) ∧ eget q.2.1 40 = .bool g ∧ q.2.2[i901_1]? = some (.live ⟨.box, 57, 18, [(.bool false :: (.nils :: ((arC (cI .i8) 0 (Ar.rep 16 0)) ++ ([] : List AV))))]⟩)
abbrev impl_ReadHalf_b1_S := Int × Bool × (Ar 16 Int)
abbrev impl_ReadHalf_b1_R := Unit ⊕ (Bool × (Ar 16 Int))
def impl_ReadHalf_b1_RS (r10 : List (List UInt8)) (i1_1 : Nat) (i1_2 : Nat) (i1_3 : Nat) (s : impl_ReadHalf_b1_S) (e : Env) (M : Mem) : Prop := eget e 2 = .loc i1_1 1 0 0 ∧ eget e 4 = .sl (some 9) (r10.map cS) ∧ eget e 5 = .loc i1_3 1 0 0 ∧ eget e 47 = .int .i64 s.1 ∧ M[i1_1]? = some (.live ⟨.box, 57, 18, [(.bool false :: (.nils :: ((arC (cI .i8) 0 (Ar.rep 16 0)) ++ ([] : List AV))))]⟩) ∧ M[i1_3]? = some (.live ⟨.box, 57, 18, [(.bool s.2.1 :: (.lsl i1_2 ([] : List Notch).length 0 ([] : List Notch).length :: ((arC (cI .i8) 0 s.2.2) ++ ([] : List AV))))]⟩) ∧ M[i1_2]? = some (.live ⟨.grow, 156, 2, ([] : List Notch).map Notch.c⟩)
def impl_ReadHalf_b1_RR (r10 : List (List UInt8)) (i1_1 : Nat) (i1_2 : Nat) (i1_3 : Nat) (r : impl_ReadHalf_b1_R) (x : Ex) (e : Env) (M : Mem) : Prop :=
  match r with
  | (.inl g) => x = .ret ∧ eget e 2 = .loc i1_1 1 0 0 ∧ eget e 3 = .int .i64 5 ∧ M[i1_1]? = some (.live ⟨.box, 57, 18, [(.bool false :: (.nils :: ((arC (cI .i8) 0 (Ar.rep 16 0)) ++ ([] : List AV))))]⟩)
  | (.inr g) => x = .ext 0 ∧ eget e 2 = .loc i1_1 1 0 0 ∧ eget e 4 = .sl (some 9) (r10.map cS) ∧ eget e 5 = .loc i1_3 1 0 0 ∧ M[i1_1]? = some (.live ⟨.box, 57, 18, [(.bool false :: (.nils :: ((arC (cI .i8) 0 (Ar.rep 16 0)) ++ ([] : List AV))))]⟩) ∧ M[i1_3]? = some (.live ⟨.box, 57, 18, [(.bool g.1 :: (.lsl i1_2 ([] : List Notch).length 0 ([] : List Notch).length :: ((arC (cI .i8) 0 g.2) ++ ([] : List AV))))]⟩) ∧ M[i1_2]? = some (.live ⟨.grow, 156, 2, ([] : List Notch).map Notch.c⟩)
noncomputable def impl_ReadHalf_b1 (r10 : List (List UInt8)) : impl_ReadHalf_b1_S → Option (impl_ReadHalf_b1_S ⊕ impl_ReadHalf_b1_R) := fun (s1_1, s1_2, s1_3) =>
 if (decide (s1_1 < 16)) = true then
  (rd r10 1).bind fun x182 =>
  (rd x182 s1_1).bind fun x184 =>
  if (decide ((x184.toNat : Int) < 97)) = true then
   some (.inr (.inl ()))
  else
   (rd r10 1).bind fun x204 =>
   (rd x204 s1_1).bind fun x206 =>
   if (decide ((x206.toNat : Int) > 103)) = true then
    some (.inr (.inl ()))
   else
    (rd r10 1).bind fun x226 =>
    (rd x226 s1_1).bind fun x228 =>
    (rdA s1_3 s1_1).bind fun x230 =>
    some (.inl ((IntKind.i64.wrap (s1_1 + 1)), s1_2, (s1_3.set s1_1.toNat (IntKind.i8.wrap ((IntKind.i8.wrap (x228.toNat : Int)) - 100)))))
 else
  some (.inr (.inr (s1_2, s1_3)))
theorem impl_ReadHalf_b1_ok (r10 : List (List UInt8)) (i1_1 : Nat) (i1_2 : Nat) (i1_3 : Nat) (ne109 : i1_1 ≠ i1_3) (ne120 : i1_1 ≠ i1_2) (ne121 : i1_3 ≠ i1_2) (s : impl_ReadHalf_b1_S) (r : impl_ReadHalf_b1_S ⊕ impl_ReadHalf_b1_R) (h : impl_ReadHalf_b1 r10 s = some r) (e : Env) (M : Mem) (hs : impl_ReadHalf_b1_RS r10 i1_1 i1_2 i1_3 s e M) : Ev (fun k => (f74_l6 (CN k) k (prune [2, 4, 5, 47] e) M).bind fun q => some q) (bQ (impl_ReadHalf_b1_RS r10 i1_1 i1_2 i1_3) (impl_ReadHalf_b1_RR r10 i1_1 i1_2 i1_3) r) := by
 obtain ⟨s1_1, s1_2, s1_3⟩ := s
 unfold impl_ReadHalf_b1 at h
 obtain ⟨h156, h158, h160, h162, o164, o165, o166⟩ := hs
 generalize he155 : prune [2, 4, 5, 47] e = e154
 have h157 := envp he155.symm rfl h156
 have h159 := envp he155.symm rfl h158
 have h161 := envp he155.symm rfl h160
 have h163 := envp he155.symm rfl h162
 refine sq (Rg (kx (bLss h163 rfl) (Rn (hV (.loc i1_1 1 0 0) h157 (hV (.sl (some 9) (r10.map cS)) h159 (hV (.loc i1_3 1 0 0) h161 (hV (.int .i64 s1_1) h163 (hN rfl hZ))))) fun e167 h169 h170 h171 h172 h173 => sN (sq ?_))))
 clear h157 h159 h161 h163
 rcases ite_some h with ⟨hb174, h⟩ | ⟨hb174, h⟩
 ·obtain ⟨x182, hx183, h⟩ := bind_some h
  obtain ⟨x184, hx185, h⟩ := bind_some h
  refine cT h173 hb174 (xx (sN (sq (bl (sq (Rg (kx (mvO h172) (kx (mvO rfl) (Rn (hA h169 (hA h170 (hA h171 (hN rfl (hA h172 hZ))))) fun e175 h177 h178 h179 h180 h181 => sN (sq (sq (Rg (kx (mvO h178) (kx (ixS rfl rfl hx183 cS_fl) (kx (ldP rfl rfl) (kx (mvO h180) (kx (ixB rfl rfl hx185) (kx (bLss rfl rfl) (kx (mvO rfl) ?_)))))))))))))))))))
  clear h169 h170 h171 h172 h173
  rcases ite_some h with ⟨hb186, h⟩ | ⟨hb186, h⟩
  ·refine kx (gsF rfl hb186) (kx (gsF rfl hb186) (kx (gsF rfl hb186) (kx (gsF rfl hb186) (kx (gsF rfl hb186) (kx (gsF rfl hb186) (kx (pkT rfl hb186 rfl) (Rn (hA h177 (hA h178 (hA h179 (hA h180 (hA h181 (hV (.bool true) rfl hZ)))))) fun e187 h189 h190 h191 h192 h193 h194 => sN (cT h194 rfl (sq (Rg (kx (bldT zero57 rfl (fill0 rfl)) (kw (stOK h189 rfl o164 rfl rfl ⟨rfl, ble rfl⟩ rfl rfl) fun M195 hM196 => ?_))))))))))))
   clear h177 h178 h179 h180 h181
   have o197 : M195[i1_1]? = some (.live ⟨.box, 57, 18, [(.bool false :: (.nils :: ((arC (cI .i8) 0 (Ar.rep 16 0)) ++ ([] : List AV))))]⟩) := set_same hM196 o164
   have o198 := set_ne hM196 (Ne.symm ne109) o165
   have o199 := set_ne hM196 (Ne.symm ne120) o166
   refine kx (mvO rfl) (Rn (hA h189 (hV (.int .i64 5) rfl hZ)) fun e200 h202 h203 => sN (xx (sR (bR (sR ?_)))))
   clear h189 h190 h191 h192 h193 h194
   obtain rfl := si h
   exact qR ⟨rfl, h202, h203, o197⟩
  obtain ⟨x204, hx205, h⟩ := bind_some h
  obtain ⟨x206, hx207, h⟩ := bind_some h
  refine kx (guF rfl hb186 (mvO h178)) (kx (guF rfl hb186 (ixS rfl rfl hx205 cS_fl)) (kx (guF rfl hb186 (ldP rfl rfl)) (kx (guF rfl hb186 (mvO h180)) (kx (guF rfl hb186 (ixB rfl rfl hx207)) (kx (guF rfl hb186 (bGtr rfl rfl)) (kx (pkF rfl hb186 rfl) (Rn (hA h177 (hA h178 (hA h179 (hA h180 (hA h181 (hN rfl hZ)))))) fun e208 h210 h211 h212 h213 h214 h215 => sN ?_)))))))
  clear h177 h178 h179 h180 h181
  rcases ite_some h with ⟨hb216, h⟩ | ⟨hb216, h⟩
  ·refine cT h215 hb216 (sq (Rg (kx (bldT zero57 rfl (fill0 rfl)) (kw (stOK h210 rfl o164 rfl rfl ⟨rfl, ble rfl⟩ rfl rfl) fun M217 hM218 => ?_))))
   have o219 : M217[i1_1]? = some (.live ⟨.box, 57, 18, [(.bool false :: (.nils :: ((arC (cI .i8) 0 (Ar.rep 16 0)) ++ ([] : List AV))))]⟩) := set_same hM218 o164
   have o220 := set_ne hM218 (Ne.symm ne109) o165
   have o221 := set_ne hM218 (Ne.symm ne120) o166
   refine kx (mvO rfl) (Rn (hA h210 (hV (.int .i64 5) rfl hZ)) fun e222 h224 h225 => sN (xx (sR (bR (sR ?_)))))
   clear h210 h211 h212 h213 h214 h215
   obtain rfl := si h
   exact qR ⟨rfl, h224, h225, o219⟩
  obtain ⟨x226, hx227, h⟩ := bind_some h
  obtain ⟨x228, hx229, h⟩ := bind_some h
  obtain ⟨x230, hx231, h⟩ := bind_some h
  refine cF h215 hb216 (xx (sN (Rg (kx (mvO h213) (kx (mvO h211) (kx (ixS rfl rfl hx227 cS_fl) (kx (ldP rfl rfl) (kx (mvO h213) (kx (ixB rfl rfl hx229) (kx (cvI rfl) (kx (bSub rfl rfl) (kx (faO h212 o165 rfl) (kx (ixLA rfl o165 rfl rfl hx231) (kw (stLA (c := (cI .i8)) (z := 0) (g := s1_3) (pre := [.bool s1_2, .lsl i1_2 ([] : List Notch).length 0 ([] : List Notch).length]) (post := []) (u' := (IntKind.i8.wrap ((IntKind.i8.wrap (x228.toNat : Int)) - 100))) rfl rfl o165 rfl rfl rfl rfl (fun _ => rfl) rfl rfl hx231) fun M232 hM233 => ?_))))))))))))))
  have o234 := set_ne hM233 ne109 o164
  have o235 : M232[i1_3]? = some (.live ⟨.box, 57, 18, [(.bool s1_2 :: (.lsl i1_2 ([] : List Notch).length 0 ([] : List Notch).length :: ((arC (cI .i8) 0 (s1_3.set s1_1.toNat (IntKind.i8.wrap ((IntKind.i8.wrap (x228.toNat : Int)) - 100)))) ++ ([] : List AV))))]⟩) := set_same hM233 o165
  have o236 := set_ne hM233 (Ne.symm ne121) o166
  refine Rn (hA h210 (hA h211 (hA h212 (hA h214 hZ)))) fun e237 h239 h240 h241 h242 => bN (sN (Rg (kx (bAdd h242 rfl) (kx (mvO rfl) (Rn (hA h239 (hA h240 (hA h241 (hN rfl hZ)))) fun e243 h245 h246 h247 h248 => ?_)))))
  clear h210 h211 h212 h213 h214 h215 h239 h240 h241
  obtain rfl := si h
  exact qN ⟨h245, h246, h247, h248, o234, o235, o236⟩
 refine cF h173 hb174 (xx (sE ?_))
 obtain rfl := si h
 exact qE ⟨rfl, h169, h170, h171, o164, o165, o166⟩
abbrev impl_ReadHalf_b2_S := Int × Bool × (Ar 16 Int) × (List Notch)
abbrev impl_ReadHalf_b2_R := Unit ⊕ (Bool × (Ar 16 Int) × (List Notch))
def impl_ReadHalf_b2_RS (x267 : List (List UInt8)) (i2_1 : Nat) (i2_2 : Nat) (i2_3 : Nat) (s : impl_ReadHalf_b2_S) (e : Env) (M : Mem) : Prop := eget e 2 = .loc i2_1 1 0 0 ∧ eget e 5 = .loc i2_3 1 0 0 ∧ eget e 77 = .sl none (x267.map cS) ∧ eget e 78 = .int .i64 (x267.length : Int) ∧ eget e 79 = .int .i64 s.1 ∧ M[i2_1]? = some (.live ⟨.box, 57, 18, [(.bool false :: (.nils :: ((arC (cI .i8) 0 (Ar.rep 16 0)) ++ ([] : List AV))))]⟩) ∧ M[i2_3]? = some (.live ⟨.box, 57, 18, [(.bool s.2.1 :: (.lsl i2_2 s.2.2.2.length 0 s.2.2.2.length :: ((arC (cI .i8) 0 s.2.2.1) ++ ([] : List AV))))]⟩) ∧ M[i2_2]? = some (.live ⟨.grow, 156, 2, s.2.2.2.map Notch.c⟩)
def impl_ReadHalf_b2_RR (x267 : List (List UInt8)) (i2_1 : Nat) (i2_2 : Nat) (i2_3 : Nat) (r : impl_ReadHalf_b2_R) (x : Ex) (e : Env) (M : Mem) : Prop :=
  match r with
  | (.inl g) => x = .ret ∧ eget e 2 = .loc i2_1 1 0 0 ∧ eget e 3 = .int .i64 5 ∧ M[i2_1]? = some (.live ⟨.box, 57, 18, [(.bool false :: (.nils :: ((arC (cI .i8) 0 (Ar.rep 16 0)) ++ ([] : List AV))))]⟩)
  | (.inr g) => x = .ext 2 ∧ eget e 2 = .loc i2_1 1 0 0 ∧ eget e 5 = .loc i2_3 1 0 0 ∧ M[i2_1]? = some (.live ⟨.box, 57, 18, [(.bool false :: (.nils :: ((arC (cI .i8) 0 (Ar.rep 16 0)) ++ ([] : List AV))))]⟩) ∧ M[i2_3]? = some (.live ⟨.box, 57, 18, [(.bool g.1 :: (.lsl i2_2 g.2.2.length 0 g.2.2.length :: ((arC (cI .i8) 0 g.2.1) ++ ([] : List AV))))]⟩) ∧ M[i2_2]? = some (.live ⟨.grow, 156, 2, g.2.2.map Notch.c⟩)
noncomputable def impl_ReadHalf_b2 (x267 : List (List UInt8)) : impl_ReadHalf_b2_S → Option (impl_ReadHalf_b2_S ⊕ impl_ReadHalf_b2_R) := fun (s2_1, s2_2, s2_3, s2_4) =>
 if (decide (s2_1 < (x267.length : Int))) = true then
  (rd x267 s2_1).bind fun x315 =>
  if (x315 == ([] : List UInt8)) = true then
   some (.inr (.inl ()))
  else
   (rd x315 0).bind fun x344 =>
   (strings_IndexByte ([100, 115, 108, 118, 99, 109] : List UInt8) (x344.toNat : Int)).bind fun r347 =>
   (slc x315 1 (x315.length : Int)).bind fun x357 =>
   (impl_number x357).bind fun (r360, r361) =>
   if (decide (r347 < 0)) = true then
    some (.inr (.inl ()))
   else
    if r361 = true then
     if (decide (r360 > 200)) = true then
      some (.inr (.inl ()))
     else
      (app 4 s2_4 [(Notch.mk (IntKind.i8.wrap r347) (IntKind.i16.wrap r360))]).bind fun x413 =>
      some (.inl ((IntKind.i64.wrap (s2_1 + 1)), s2_2, s2_3, x413))
    else
     some (.inr (.inl ()))
 else
  some (.inr (.inr (s2_2, s2_3, s2_4)))
theorem impl_ReadHalf_b2_ok (x267 : List (List UInt8)) (i2_1 : Nat) (i2_2 : Nat) (i2_3 : Nat) (ne109 : i2_1 ≠ i2_3) (ne120 : i2_1 ≠ i2_2) (ne121 : i2_3 ≠ i2_2) (s : impl_ReadHalf_b2_S) (r : impl_ReadHalf_b2_S ⊕ impl_ReadHalf_b2_R) (h : impl_ReadHalf_b2 x267 s = some r) (e : Env) (M : Mem) (hs : impl_ReadHalf_b2_RS x267 i2_1 i2_2 i2_3 s e M) : Ev (fun k => (f74_l13 (CN k) k (prune [2, 5, 77, 78, 79] e) M).bind fun q => some q) (bQ (impl_ReadHalf_b2_RS x267 i2_1 i2_2 i2_3) (impl_ReadHalf_b2_RR x267 i2_1 i2_2 i2_3) r) := by
 obtain ⟨s2_1, s2_2, s2_3, s2_4⟩ := s
 unfold impl_ReadHalf_b2 at h
 obtain ⟨h293, h295, h297, h299, h301, o303, o304, o305⟩ := hs
 generalize he292 : prune [2, 5, 77, 78, 79] e = e291
 have h294 := envp he292.symm rfl h293
 have h296 := envp he292.symm rfl h295
 have h298 := envp he292.symm rfl h297
 have h300 := envp he292.symm rfl h299
 have h302 := envp he292.symm rfl h301
 refine sq (Rg (kx (bLss h302 h300) (Rn (hV (.loc i2_1 1 0 0) h294 (hV (.loc i2_3 1 0 0) h296 (hV (.sl none (x267.map cS)) h298 (hV (.int .i64 (x267.length : Int)) h300 (hV (.int .i64 s2_1) h302 (hN rfl hZ)))))) fun e306 h308 h309 h310 h311 h312 h313 => sN (sq ?_))))
 clear h294 h296 h298 h300 h302
 rcases ite_some h with ⟨hb314, h⟩ | ⟨hb314, h⟩
 ·obtain ⟨x315, hx316, h⟩ := bind_some h
  refine cT h313 hb314 (xx (sN (sq (bl (sq (Rg (kx (ixS h310 h312 hx316 cS_fl) (kx (ldP rfl rfl) (kx (mvO rfl) (Rn (hA h308 (hA h309 (hN rfl (hA h310 (hA h311 (hA h312 hZ)))))) fun e317 h319 h320 h321 h322 h323 h324 => sN (sq (sq (Rg (kx (mvO h321) (kx (sEql rfl rfl) (Rn (hA h319 (hA h320 (hA h321 (hA h322 (hA h323 (hA h324 (hN rfl hZ))))))) fun e325 h327 h328 h329 h330 h331 h332 h333 => sN ?_))))))))))))))))
  clear h308 h309 h310 h311 h312 h313 h319 h320 h321 h322 h323 h324
  rcases ite_some h with ⟨hb334, h⟩ | ⟨hb334, h⟩
  ·refine cT h333 hb334 (sq (Rg (kx (bldT zero57 rfl (fill0 rfl)) (kw (stOK h327 rfl o303 rfl rfl ⟨rfl, ble rfl⟩ rfl rfl) fun M335 hM336 => ?_))))
   have o337 : M335[i2_1]? = some (.live ⟨.box, 57, 18, [(.bool false :: (.nils :: ((arC (cI .i8) 0 (Ar.rep 16 0)) ++ ([] : List AV))))]⟩) := set_same hM336 o303
   have o338 := set_ne hM336 (Ne.symm ne109) o304
   have o339 := set_ne hM336 (Ne.symm ne120) o305
   refine kx (mvO rfl) (Rn (hA h327 (hV (.int .i64 5) rfl hZ)) fun e340 h342 h343 => sN (xx (sR (bR (sR ?_)))))
   clear h327 h328 h329 h330 h331 h332 h333
   obtain rfl := si h
   exact qR ⟨rfl, h342, h343, o337⟩
  obtain ⟨x344, hx345, h⟩ := bind_some h
  obtain ⟨r347, hx346, h⟩ := bind_some h
  obtain ⟨x357, hx358, h⟩ := bind_some h
  obtain ⟨⟨r360, r361⟩, hx359, h⟩ := bind_some h
  refine cF h333 hb334 (xx (sN (sq (Rg (kx (mvO h329) (kx (ixB rfl rfl hx345) (kc (cl (v := .int .i64 r347) rfl (cns rfl (cns rfl rfl)) rfl (strings_IndexByte_ok ([100, 115, 108, 118, 99, 109] : List UInt8) (x344.toNat : Int) _ hx346) nm) (kx (mvO rfl) (Rn (hA h327 (hA h328 (hA h329 (hN rfl (hA h330 (hA h331 (hA h332 hZ))))))) fun e348 h350 h351 h352 h353 h354 h355 h356 => sN (sq (Rg (kx (mvO h352) (kx (ssl2 rfl (bnd1 rfl) rfl hx358) (kc (cl (v := .tup [.int .i64 r360, .bool r361]) rfl (cns rfl rfl) rfl (impl_number_ok x357 _ hx359) nm) (kx (mvO rfl) (kx (exT rfl rfl) (kx (exT rfl rfl) (kx (mvO rfl) (kx (mvO rfl) (Rn (hA h350 (hA h351 (hA h353 (hN rfl (hN rfl (hA h354 (hA h355 (hA h356 hZ)))))))) fun e362 h364 h365 h366 h367 h368 h369 h370 h371 => sN (sq (sq (Rg (kx (mvO h366) (kx (bLss rfl rfl) (kx (mvO rfl) ?_))))))))))))))))))))))))))
  clear h327 h328 h329 h330 h331 h332 h333 h350 h351 h352 h353 h354 h355 h356
  rcases ite_some h with ⟨hb372, h⟩ | ⟨hb372, h⟩
  ·refine kx (gsF rfl hb372) (kx (gsF rfl hb372) (kx (pkT rfl hb372 rfl) (kx (mvO rfl) (kx (gsF rfl rfl) (kx (gsF rfl rfl) (kx (pkT rfl rfl rfl) (Rn (hA h364 (hA h365 (hA h366 (hA h367 (hA h369 (hA h370 (hA h371 (hV (.bool true) rfl hZ)))))))) fun e373 h375 h376 h377 h378 h379 h380 h381 h382 => sN (cT h382 rfl (sq (Rg (kx (bldT zero57 rfl (fill0 rfl)) (kw (stOK h375 rfl o303 rfl rfl ⟨rfl, ble rfl⟩ rfl rfl) fun M383 hM384 => ?_))))))))))))
   clear h364 h365 h366 h367 h368 h369 h370 h371
   have o385 : M383[i2_1]? = some (.live ⟨.box, 57, 18, [(.bool false :: (.nils :: ((arC (cI .i8) 0 (Ar.rep 16 0)) ++ ([] : List AV))))]⟩) := set_same hM384 o303
   have o386 := set_ne hM384 (Ne.symm ne109) o304
   have o387 := set_ne hM384 (Ne.symm ne120) o305
   refine kx (mvO rfl) (Rn (hA h375 (hV (.int .i64 5) rfl hZ)) fun e388 h390 h391 => sN (xx (sR (bR (sR ?_)))))
   clear h375 h376 h377 h378 h379 h380 h381 h382
   obtain rfl := si h
   exact qR ⟨rfl, h390, h391, o385⟩
  refine kx (guF rfl hb372 (mvO h368)) (kx (guF rfl hb372 (uNot rfl)) (kx (pkF rfl hb372 rfl) (kx (mvO rfl) ?_)))
  rcases ite_some h with ⟨hb392, h⟩ | ⟨hb392, h⟩
  ·refine kx (guF rfl (congrArg Bool.not hb392) (mvO h367)) (kx (guF rfl (congrArg Bool.not hb392) (bGtr rfl rfl)) (kx (pkF rfl (congrArg Bool.not hb392) rfl) (Rn (hA h364 (hA h365 (hA h366 (hA h367 (hA h369 (hA h370 (hA h371 (hN rfl hZ)))))))) fun e393 h395 h396 h397 h398 h399 h400 h401 h402 => sN ?_)))
   clear h364 h365 h366 h367 h368 h369 h370 h371
   rcases ite_some h with ⟨hb403, h⟩ | ⟨hb403, h⟩
   ·refine cT h402 hb403 (sq (Rg (kx (bldT zero57 rfl (fill0 rfl)) (kw (stOK h395 rfl o303 rfl rfl ⟨rfl, ble rfl⟩ rfl rfl) fun M404 hM405 => ?_))))
    have o406 : M404[i2_1]? = some (.live ⟨.box, 57, 18, [(.bool false :: (.nils :: ((arC (cI .i8) 0 (Ar.rep 16 0)) ++ ([] : List AV))))]⟩) := set_same hM405 o303
    have o407 := set_ne hM405 (Ne.symm ne109) o304
    have o408 := set_ne hM405 (Ne.symm ne120) o305
    refine kx (mvO rfl) (Rn (hA h395 (hV (.int .i64 5) rfl hZ)) fun e409 h411 h412 => sN (xx (sR (bR (sR ?_)))))
    clear h395 h396 h397 h398 h399 h400 h401 h402
    obtain rfl := si h
    exact qR ⟨rfl, h411, h412, o406⟩
   obtain ⟨x413, hx414, h⟩ := bind_some h
   refine cF h402 hb403 (xx (sN (Rg (kx (faO h396 o304 rfl) (kx (ldO rfl o304 rfl rfl rfl) (kx (mvO h397) (kx (cvI rfl) (kx (mvO h398) (kx (cvI rfl) (kx (bldT zero156 (cns (pr3 rfl) (cns (pr3 rfl) rfl)) (fill1 ⟨rfl, ble rfl⟩ rfl rfl (fill1 ⟨rfl, ble rfl⟩ rfl rfl (fill0 rfl)))) (kx (litI (cns rfl rfl) rfl ⟨rfl, by decide⟩) (kw (apO rfl o305 rfl (elT (c := Notch.c) (xs := [(Notch.mk (IntKind.i8.wrap r347) (IntKind.i16.wrap r360))]) rfl) hx414 Notch.fl (by decide)) fun M415 hM416 => ?_))))))))))))
   have o417 := set_ne hM416 ne120 o303
   have o418 := set_ne hM416 ne121 o304
   have o419 : M415[i2_2]? = some (.live ⟨.grow, 156, 2, x413.map Notch.c⟩) := set_same hM416 o305
   refine kx (faO h396 o418 rfl) (kw (stOK rfl rfl o418 rfl rfl ⟨rfl, ble rfl⟩ (all1 (okL o419 (by simp)) all0) rfl) fun M420 hM421 => ?_)
   have o422 := set_ne hM421 ne109 o417
   have o423 : M420[i2_3]? = some (.live ⟨.box, 57, 18, [(.bool s2_2 :: (.lsl i2_2 x413.length 0 x413.length :: ((arC (cI .i8) 0 s2_3) ++ ([] : List AV))))]⟩) := set_same hM421 o418
   have o424 := set_ne hM421 (Ne.symm ne121) o419
   refine Rn (hA h395 (hA h396 (hA h399 (hA h400 (hA h401 hZ))))) fun e425 h427 h428 h429 h430 h431 => bN (sN (Rg (kx (bAdd h431 rfl) (kx (mvO rfl) (Rn (hA h427 (hA h428 (hA h429 (hA h430 (hN rfl hZ))))) fun e432 h434 h435 h436 h437 h438 => ?_)))))
   clear h395 h396 h397 h398 h399 h400 h401 h402 h427 h428 h429 h430
   obtain rfl := si h
   exact qN ⟨h434, h435, h436, h437, h438, o422, (by simpa using o423), o424⟩
  refine kx (gsF rfl (congrArg Bool.not hb392)) (kx (gsF rfl (congrArg Bool.not hb392)) (kx (pkT rfl (congrArg Bool.not hb392) rfl) (Rn (hA h364 (hA h365 (hA h366 (hA h367 (hA h369 (hA h370 (hA h371 (hV (.bool true) rfl hZ)))))))) fun e439 h441 h442 h443 h444 h445 h446 h447 h448 => sN (cT h448 rfl (sq (Rg (kx (bldT zero57 rfl (fill0 rfl)) (kw (stOK h441 rfl o303 rfl rfl ⟨rfl, ble rfl⟩ rfl rfl) fun M449 hM450 => ?_))))))))
  clear h364 h365 h366 h367 h368 h369 h370 h371
  have o451 : M449[i2_1]? = some (.live ⟨.box, 57, 18, [(.bool false :: (.nils :: ((arC (cI .i8) 0 (Ar.rep 16 0)) ++ ([] : List AV))))]⟩) := set_same hM450 o303
  have o452 := set_ne hM450 (Ne.symm ne109) o304
  have o453 := set_ne hM450 (Ne.symm ne120) o305
  refine kx (mvO rfl) (Rn (hA h441 (hV (.int .i64 5) rfl hZ)) fun e454 h456 h457 => sN (xx (sR (bR (sR ?_)))))
  clear h441 h442 h443 h444 h445 h446 h447 h448
  obtain rfl := si h
  exact qR ⟨rfl, h456, h457, o451⟩
 refine cF h313 hb314 (xx (sE ?_))
 obtain rfl := si h
 exact qE ⟨rfl, h308, h309, o303, (by simpa using o304), o305⟩
noncomputable def impl_ReadHalf (a1 : List UInt8) : Option (((Ar 16 Int)) ⊕ (Bool × (List Notch) × (Ar 16 Int))) :=
 (strings_Split a1 ([32] : List UInt8)).bind fun r10 =>
 ((if (decide ((r10.length : Int) < 2)) = true then
  some (.inl ())
 else
  if (decide ((r10.length : Int) > 62)) = true then
   some (.inl ())
  else
   (rd r10 0).bind fun x41 =>
   if (x41 == ([115, 116, 111, 99, 107] : List UInt8)) = true then
    (rd r10 1).bind fun x44 =>
    if ((x44.length : Int) != 16) = true then
     some (.inl ())
    else
     some (.inr ((x44.length : Int) != 16))
   else
    (rd r10 0).bind fun x59 =>
    if (x59 == ([102, 111, 105, 108] : List UInt8)) = true then
     (rd r10 1).bind fun x62 =>
     if ((x62.length : Int) != 16) = true then
      some (.inl ())
     else
      some (.inr ((x62.length : Int) != 16))
    else
     some (.inl ()) : Option (Unit ⊕ Bool))).bind fun r => match r with
 | (.inl _) =>
  some (.inl (Ar.rep 16 0))
 | (.inr y97) =>
  (rd r10 0).bind fun x102 =>
  (Lw (impl_ReadHalf_b1 r10) (0, (x102 == ([115, 116, 111, 99, 107] : List UInt8)), (Ar.rep 16 0))).bind fun r => match r with
  | (.inl _) =>
   some (.inl (Ar.rep 16 0))
  | (.inr (y259, y260)) =>
   (slc r10 2 (r10.length : Int)).bind fun x267 =>
   (Lw (impl_ReadHalf_b2 x267) (0, y259, y260, ([] : List Notch))).bind fun r => match r with
   | (.inl _) =>
    some (.inl (Ar.rep 16 0))
   | (.inr (y468, y469, y470)) =>
    (impl_ValidHalf (Half.mk y468 y470 y469)).bind fun r477 =>
    if r477 = true then
     some (.inr (y468, y470, y469))
    else
     some (.inl (Ar.rep 16 0))
def impl_ReadHalf_enc (r : ((Ar 16 Int)) ⊕ (Bool × (List Notch) × (Ar 16 Int))) : AV :=
  match r with
  | (.inl g) => .tup [.agg (.bool false :: (.nils :: ((arC (cI .i8) 0 g) ++ ([] : List AV)))), .int .i64 5]
  | (.inr g) => .tup [.agg (.bool g.1 :: (.sl (some 156) (g.2.1.map Notch.c) :: ((arC (cI .i8) 0 g.2.2) ++ ([] : List AV)))), .int .i64 0]
theorem impl_ReadHalf_ok (a1 : List UInt8) (r : ((Ar 16 Int)) ⊕ (Bool × (List Notch) × (Ar 16 Int))) (h : impl_ReadHalf a1 = some r) : Ev (fun k => CN k 74 [.str a1] []) (fun p => rRes p.2 p.1 = impl_ReadHalf_enc r) := by
 unfold impl_ReadHalf at h
 refine Ev.enter (F := fun k => f74 (CN k) k) (fun k => callN_eq rfl Tryd.func74 rfl rfl rfl (by decide +kernel) (f74_eq _ _)) (sq (Rg (ku (alO zero57) fun M2 hM3 => ?_)))
 have o4 : M2[([] : Mem).length]? = some (.live ⟨.box, 57, 18, [(.bool false :: (.nils :: ((arC (cI .i8) 0 (Ar.rep 16 0)) ++ ([] : List AV))))]⟩) := push_new hM3
 obtain ⟨r10, hx9, h⟩ := bind_some h
 obtain ⟨r503, hr504, h⟩ := bind_some h
 refine kx (mvO rfl) (Rn (hN rfl (hV (.loc ([] : Mem).length 1 0 0) rfl hZ)) fun e5 h7 h8 => sN (sq (Rg (kx (mvO h7) (kc (cl (v := .sl (some 9) (r10.map cS)) rfl (cns rfl (cns rfl rfl)) rfl (strings_Split_ok a1 ([32] : List UInt8) _ hx9) nm) (kx (mvO rfl) (Rn (hA h8 (hN rfl hZ)) fun e11 h13 h14 => sN (sq ?_))))))))
 clear h7 h8
 refine Ev.cut (Q1 := impl_ReadHalf_c1_Q r10 (([] : Mem).length) r503) (by
     have h := hr504
     refine sq (Rg (kx (mvO h14) (kx (lnS Tryd.underlying86 rfl) (kx (bLss rfl rfl) (kx (mvO rfl) ?_)))))
     rcases ite_some h with ⟨hb15, h⟩ | ⟨hb15, h⟩
     ·refine kx (gsF rfl hb15) (kx (gsF rfl hb15) (kx (gsF rfl hb15) (kx (pkT rfl hb15 rfl) (kx (mvO rfl) (kx (gsF rfl rfl) (kx (gsF rfl rfl) (kx (gsF rfl rfl) (kx (gsF rfl rfl) (kx (gsF rfl rfl) (kx (gsU rfl) (kx (gsU rfl) (kx (gsU rfl) (kx (gsU rfl) (kx (gsF rfl rfl) (kx (pkT rfl rfl rfl) (kx (mvO rfl) (kx (gsF rfl rfl) (kx (gsF rfl rfl) (kx (gsF rfl rfl) (kx (gsF rfl rfl) (kx (gsF rfl rfl) (kx (pkT rfl rfl rfl) (Rn (hA h13 (hA h14 (hV (.bool true) rfl hZ))) fun e16 h18 h19 h20 => sN (cT h20 rfl (sq (Rg (kx (bldT zero57 rfl (fill0 rfl)) (kw (stOK h18 rfl o4 rfl rfl ⟨rfl, ble rfl⟩ rfl rfl) fun M21 hM22 => ?_))))))))))))))))))))))))))))
      clear h13 h14
      have o23 : M21[([] : Mem).length]? = some (.live ⟨.box, 57, 18, [(.bool false :: (.nils :: ((arC (cI .i8) 0 (Ar.rep 16 0)) ++ ([] : List AV))))]⟩) := set_same hM22 o4
      refine kx (mvO rfl) (Rn (hA h18 (hV (.int .i64 5) rfl hZ)) fun e24 h26 h27 => sN (xx ?_))
      clear h18 h19 h20
      obtain rfl := si h
      exact kd (show impl_ReadHalf_c1_Q r10 (([] : Mem).length) _ _ from ⟨rfl, h26, h27, o23⟩)
     refine kx (guF rfl hb15 (mvO h14)) (kx (guF rfl hb15 (lnS Tryd.underlying86 rfl)) (kx (guF rfl hb15 (bGtr rfl rfl)) (kx (pkF rfl hb15 rfl) (kx (mvO rfl) ?_))))
     rcases ite_some h with ⟨hb28, h⟩ | ⟨hb28, h⟩
     ·refine kx (gsF rfl hb28) (kx (gsF rfl hb28) (kx (gsF rfl hb28) (kx (gsF rfl hb28) (kx (gsF rfl hb28) (kx (gsU rfl) (kx (gsU rfl) (kx (gsU rfl) (kx (gsU rfl) (kx (gsF rfl hb28) (kx (pkT rfl hb28 rfl) (kx (mvO rfl) (kx (gsF rfl rfl) (kx (gsF rfl rfl) (kx (gsF rfl rfl) (kx (gsF rfl rfl) (kx (gsF rfl rfl) (kx (pkT rfl rfl rfl) (Rn (hA h13 (hA h14 (hV (.bool true) rfl hZ))) fun e29 h31 h32 h33 => sN (cT h33 rfl (sq (Rg (kx (bldT zero57 rfl (fill0 rfl)) (kw (stOK h31 rfl o4 rfl rfl ⟨rfl, ble rfl⟩ rfl rfl) fun M34 hM35 => ?_)))))))))))))))))))))))
      clear h13 h14
      have o36 : M34[([] : Mem).length]? = some (.live ⟨.box, 57, 18, [(.bool false :: (.nils :: ((arC (cI .i8) 0 (Ar.rep 16 0)) ++ ([] : List AV))))]⟩) := set_same hM35 o4
      refine kx (mvO rfl) (Rn (hA h31 (hV (.int .i64 5) rfl hZ)) fun e37 h39 h40 => sN (xx ?_))
      clear h31 h32 h33
      obtain rfl := si h
      exact kd (show impl_ReadHalf_c1_Q r10 (([] : Mem).length) _ _ from ⟨rfl, h39, h40, o36⟩)
     obtain ⟨x41, hx42, h⟩ := bind_some h
     refine kx (guF rfl hb28 (mvO h14)) (kx (guF rfl hb28 (ixS rfl rfl hx42 cS_fl)) (kx (guF rfl hb28 (ldP rfl rfl)) (kx (guF rfl hb28 (sNeq rfl rfl)) (kx (guF rfl hb28 (mvO rfl)) ?_))))
     rcases ite_some h with ⟨hb43, h⟩ | ⟨hb43, h⟩
     ·obtain ⟨x44, hx45, h⟩ := bind_some h
      refine kx (gsT rfl (congrArg Bool.not hb43)) (kx (gsT rfl (congrArg Bool.not hb43)) (kx (gsT rfl (congrArg Bool.not hb43)) (kx (gsT rfl (congrArg Bool.not hb43)) (kx (guF rfl hb28 (pkF rfl (congrArg Bool.not hb43) rfl)) (kx (pkF rfl hb28 rfl) (kx (mvO rfl) (kx (guF rfl rfl (mvO h14)) (kx (guF rfl rfl (ixS rfl rfl hx45 cS_fl)) (kx (guF rfl rfl (ldP rfl rfl)) (kx (guF rfl rfl (lnB Tryd.underlying9 rfl)) (kx (guF rfl rfl (bNeq rfl rfl)) (kx (pkF rfl rfl rfl) (Rn (hA h13 (hA h14 (hN rfl hZ))) fun e46 h48 h49 h50 => sN ?_)))))))))))))
      clear h13 h14
      rcases ite_some h with ⟨hb51, h⟩ | ⟨hb51, h⟩
      ·refine cT h50 hb51 (sq (Rg (kx (bldT zero57 rfl (fill0 rfl)) (kw (stOK h48 rfl o4 rfl rfl ⟨rfl, ble rfl⟩ rfl rfl) fun M52 hM53 => ?_))))
       have o54 : M52[([] : Mem).length]? = some (.live ⟨.box, 57, 18, [(.bool false :: (.nils :: ((arC (cI .i8) 0 (Ar.rep 16 0)) ++ ([] : List AV))))]⟩) := set_same hM53 o4
       refine kx (mvO rfl) (Rn (hA h48 (hV (.int .i64 5) rfl hZ)) fun e55 h57 h58 => sN (xx ?_))
       clear h48 h49 h50
       obtain rfl := si h
       exact kd (show impl_ReadHalf_c1_Q r10 (([] : Mem).length) _ _ from ⟨rfl, h57, h58, o54⟩)
      refine cF h50 hb51 (xx ?_)
      obtain rfl := si h
      exact kd (show impl_ReadHalf_c1_Q r10 (([] : Mem).length) _ _ from ⟨rfl, h48, h49, h50, o4⟩)
     obtain ⟨x59, hx60, h⟩ := bind_some h
     refine kx (guT rfl (congrArg Bool.not hb43) (mvO h14)) (kx (guT rfl (congrArg Bool.not hb43) (ixS rfl rfl hx60 cS_fl)) (kx (guT rfl (congrArg Bool.not hb43) (ldP rfl rfl)) (kx (guT rfl (congrArg Bool.not hb43) (sNeq rfl rfl)) (kx (guF rfl hb28 (pkT rfl (congrArg Bool.not hb43) rfl)) (kx (pkF rfl hb28 rfl) (kx (mvO rfl) ?_))))))
     rcases ite_some h with ⟨hb61, h⟩ | ⟨hb61, h⟩
     ·obtain ⟨x62, hx63, h⟩ := bind_some h
      refine kx (guF rfl (congrArg Bool.not hb61) (mvO h14)) (kx (guF rfl (congrArg Bool.not hb61) (ixS rfl rfl hx63 cS_fl)) (kx (guF rfl (congrArg Bool.not hb61) (ldP rfl rfl)) (kx (guF rfl (congrArg Bool.not hb61) (lnB Tryd.underlying9 rfl)) (kx (guF rfl (congrArg Bool.not hb61) (bNeq rfl rfl)) (kx (pkF rfl (congrArg Bool.not hb61) rfl) (Rn (hA h13 (hA h14 (hN rfl hZ))) fun e64 h66 h67 h68 => sN ?_))))))
      clear h13 h14
      rcases ite_some h with ⟨hb69, h⟩ | ⟨hb69, h⟩
      ·refine cT h68 hb69 (sq (Rg (kx (bldT zero57 rfl (fill0 rfl)) (kw (stOK h66 rfl o4 rfl rfl ⟨rfl, ble rfl⟩ rfl rfl) fun M70 hM71 => ?_))))
       have o72 : M70[([] : Mem).length]? = some (.live ⟨.box, 57, 18, [(.bool false :: (.nils :: ((arC (cI .i8) 0 (Ar.rep 16 0)) ++ ([] : List AV))))]⟩) := set_same hM71 o4
       refine kx (mvO rfl) (Rn (hA h66 (hV (.int .i64 5) rfl hZ)) fun e73 h75 h76 => sN (xx ?_))
       clear h66 h67 h68
       obtain rfl := si h
       exact kd (show impl_ReadHalf_c1_Q r10 (([] : Mem).length) _ _ from ⟨rfl, h75, h76, o72⟩)
      refine cF h68 hb69 (xx ?_)
      obtain rfl := si h
      exact kd (show impl_ReadHalf_c1_Q r10 (([] : Mem).length) _ _ from ⟨rfl, h66, h67, h68, o4⟩)
     refine kx (gsF rfl (congrArg Bool.not hb61)) (kx (gsF rfl (congrArg Bool.not hb61)) (kx (gsF rfl (congrArg Bool.not hb61)) (kx (gsF rfl (congrArg Bool.not hb61)) (kx (gsF rfl (congrArg Bool.not hb61)) (kx (pkT rfl (congrArg Bool.not hb61) rfl) (Rn (hA h13 (hA h14 (hV (.bool true) rfl hZ))) fun e77 h79 h80 h81 => sN (cT h81 rfl (sq (Rg (kx (bldT zero57 rfl (fill0 rfl)) (kw (stOK h79 rfl o4 rfl rfl ⟨rfl, ble rfl⟩ rfl rfl) fun M82 hM83 => ?_)))))))))))
     clear h13 h14
     have o84 : M82[([] : Mem).length]? = some (.live ⟨.box, 57, 18, [(.bool false :: (.nils :: ((arC (cI .i8) 0 (Ar.rep 16 0)) ++ ([] : List AV))))]⟩) := set_same hM83 o4
     refine kx (mvO rfl) (Rn (hA h79 (hV (.int .i64 5) rfl hZ)) fun e85 h87 h88 => sN (xx ?_))
     clear h79 h80 h81
     obtain rfl := si h
     exact kd (show impl_ReadHalf_c1_Q r10 (([] : Mem).length) _ _ from ⟨rfl, h87, h88, o84⟩)) ?_
 rcases r503 with _ | y97
 ·intro x e89 M90 hq94
  obtain ⟨rfl, h91, h92, o93⟩ := hq94
  refine sR ?_
  obtain rfl := si h
  exact eR (resC (ag := true) (sz := 18) ⟨by kernel_rfl, by kernel_rfl, by kernel_rfl⟩ (ldOA (cs' := (.bool false :: (.nils :: ((arC (cI .i8) 0 (Ar.rep 16 0)) ++ ([] : List AV))))) h91 o93 rfl rfl (ble rfl) rfl) (resT h92 res0)) rfl
 intro x e95 M96 hq502
 obtain ⟨rfl, h98, h99, h100, o101⟩ := hq502
 obtain ⟨x102, hx103, h⟩ := bind_some h
 refine sN (sq (Rg (kx (mvO h99) (kx (ixS rfl rfl hx103 cS_fl) (kx (ldP rfl rfl) (kx (sEql rfl rfl) (kx (bldT zero57 (cns (pr3 rfl) rfl) (fill1 (cs' := (.bool (x102 == ([115, 116, 111, 99, 107] : List UInt8)) :: (.nils :: ((arC (cI .i8) 0 (Ar.rep 16 0)) ++ ([] : List AV))))) ⟨rfl, ble rfl⟩ rfl rfl (fill0 rfl))) (Ev.nxpushL (gho_one (alO zero57) nty57 (ghc rfl (ghn (gha (arC_nn (fun _ => rfl)) (arC_len (fun x => ((cI_fl _) x).1)) ghz) co156)) (by decide)) fun M106 hM107 => ?_))))))))
 have o108 := push_old hM107 o101
 have ne109 : ([] : Mem).length ≠ M96.length := by have := lt_of_get (M := M96) o101; omega
 have o110 : M106[M96.length]? = some (.live ⟨.box, 57, 18, [(.bool false :: (.lsl (M96.length + 1) ([] : List Notch).length 0 ([] : List Notch).length :: ((arC (cI .i8) 0 (Ar.rep 16 0)) ++ ([] : List AV))))]⟩) := push_at hM107 0 rfl
 have ne111 : ([] : Mem).length ≠ (M96.length + 1) := by have := lt_of_get (M := M96) o101; omega
 have ne112 : M96.length ≠ (M96.length + 1) := by omega
 have o113 : M106[(M96.length + 1)]? = some (.live ⟨.grow, 156, 2, ([] : List Notch).map Notch.c⟩) := push_at hM107 1 rfl
 obtain ⟨M114, hM115⟩ : ∃ x, x = M106 ++ ([⟨.grow, 156, 2, ([] : List Notch).map Notch.c⟩] : List Ob).map Ent.live := ⟨_, rfl⟩
 have o117 := push_old hM115 o108
 have o118 := push_old hM115 o110
 have o119 := push_old hM115 o113
 have ne120 : ([] : Mem).length ≠ M106.length := by have := lt_of_get (M := M106) o108; omega
 have ne121 : M96.length ≠ M106.length := by have := lt_of_get (M := M106) o110; omega
 have ne122 : (M96.length + 1) ≠ M106.length := by have := lt_of_get (M := M106) o113; omega
 have o123 : M114[M106.length]? = some (.live ⟨.grow, 156, 2, ([] : List Notch).map Notch.c⟩) := push_at hM115 0 rfl
 refine kw (stG (kp := true) hM115 rfl nty57 (ghc rfl (ghn (gha (arC_nn (fun _ => rfl)) (arC_len (fun x => ((cI_fl _) x).1)) ghz) co156)) (by decide) (stOK rfl rfl o118 rfl rfl ⟨rfl, ble rfl⟩ (all1 rfl (all1 (okL o123 (by simp)) (oaL (rest := []) (fun _ => rfl) all0))) rfl)) fun M124 hM125 => ?_
 have o126 := set_ne hM125 ne109 o117
 have o127 : M124[M96.length]? = some (.live ⟨.box, 57, 18, [(.bool (x102 == ([115, 116, 111, 99, 107] : List UInt8)) :: (.lsl M106.length ([] : List Notch).length 0 ([] : List Notch).length :: ((arC (cI .i8) 0 (Ar.rep 16 0)) ++ ([] : List AV))))]⟩) := set_same hM125 o118
 have o128 := set_ne hM125 (Ne.symm ne112) o119
 have o129 := set_ne hM125 (Ne.symm ne121) o123
 obtain ⟨r249, hr250, h⟩ := bind_some h
 refine Rn (hV (.loc ([] : Mem).length 1 0 0) h98 (hV (.sl (some 9) (r10.map cS)) h99 (hV (.loc M96.length 1 0 0) rfl hZ))) fun e130 h132 h133 h134 => sN (sq (sq (Rg (kx (mvO rfl) (Rn (hA h132 (hA h133 (hA h134 (hV (.int .i64 0) rfl hZ)))) fun e135 h137 h138 h139 h140 => sN (bl ?_))))))
 clear h100 h98 h99 h132 h133 h134
 rcases r249 with _ | ⟨y259, y260⟩
 ·refine Ev.loop (RS := impl_ReadHalf_b1_RS r10 (([] : Mem).length) M106.length M96.length) (RR := impl_ReadHalf_b1_RR r10 (([] : Mem).length) M106.length M96.length) (fun s r h e M hs => impl_ReadHalf_b1_ok r10 (([] : Mem).length) M106.length M96.length ne109 ne120 ne121 s r h e M hs) hr250 ⟨h137, h138, h139, h140, o126, o127, o129⟩ fun x e252 M253 hq251 => ?_
  obtain ⟨rfl, h254, h255, o256⟩ := hq251
  refine bR (sR ?_)
  obtain rfl := si h
  exact eR (resC (ag := true) (sz := 18) ⟨by kernel_rfl, by kernel_rfl, by kernel_rfl⟩ (ldOA (cs' := (.bool false :: (.nils :: ((arC (cI .i8) 0 (Ar.rep 16 0)) ++ ([] : List AV))))) h254 o256 rfl rfl (ble rfl) rfl) (resT h255 res0)) rfl
 refine Ev.loop (RS := impl_ReadHalf_b1_RS r10 (([] : Mem).length) M106.length M96.length) (RR := impl_ReadHalf_b1_RR r10 (([] : Mem).length) M106.length M96.length) (fun s r h e M hs => impl_ReadHalf_b1_ok r10 (([] : Mem).length) M106.length M96.length ne109 ne120 ne121 s r h e M hs) hr250 ⟨h137, h138, h139, h140, o126, o127, o129⟩ fun x e257 M258 hq251 => ?_
 obtain ⟨rfl, h261, h262, h263, o264, o265, o266⟩ := hq251
 obtain ⟨x267, hx268, h⟩ := bind_some h
 obtain ⟨r458, hr459, h⟩ := bind_some h
 refine bE (sN (sq (sq (Rg (kx (mvO h262) (kx (slS rfl (bnd1 rfl) rfl hx268 cS_fl) (kx (lnS Tryd.underlying86 rfl) (kx (mvO rfl) (Rn (hV (.loc ([] : Mem).length 1 0 0) h261 (hV (.loc M96.length 1 0 0) h263 (hN rfl (hN rfl (hV (.int .i64 0) rfl hZ))))) fun e269 h271 h272 h273 h274 h275 => sN (bl ?_))))))))))
 clear h261 h262 h263
 rcases r458 with _ | ⟨y468, y469, y470⟩
 ·refine Ev.loop (RS := impl_ReadHalf_b2_RS x267 (([] : Mem).length) M106.length M96.length) (RR := impl_ReadHalf_b2_RR x267 (([] : Mem).length) M106.length M96.length) (fun s r h e M hs => impl_ReadHalf_b2_ok x267 (([] : Mem).length) M106.length M96.length ne109 ne120 ne121 s r h e M hs) hr459 ⟨h271, h272, h273, h274, h275, o264, o265, o266⟩ fun x e461 M462 hq460 => ?_
  obtain ⟨rfl, h463, h464, o465⟩ := hq460
  refine bR (sR ?_)
  obtain rfl := si h
  exact eR (resC (ag := true) (sz := 18) ⟨by kernel_rfl, by kernel_rfl, by kernel_rfl⟩ (ldOA (cs' := (.bool false :: (.nils :: ((arC (cI .i8) 0 (Ar.rep 16 0)) ++ ([] : List AV))))) h463 o465 rfl rfl (ble rfl) rfl) (resT h464 res0)) rfl
 refine Ev.loop (RS := impl_ReadHalf_b2_RS x267 (([] : Mem).length) M106.length M96.length) (RR := impl_ReadHalf_b2_RR x267 (([] : Mem).length) M106.length M96.length) (fun s r h e M hs => impl_ReadHalf_b2_ok x267 (([] : Mem).length) M106.length M96.length ne109 ne120 ne121 s r h e M hs) hr459 ⟨h271, h272, h273, h274, h275, o264, o265, o266⟩ fun x e466 M467 hq460 => ?_
 obtain ⟨rfl, h471, h472, o473, o474, o475⟩ := hq460
 obtain ⟨r477, hx476, h⟩ := bind_some h
 refine bE (sN (sq (sq (Rg (kx (ldOA (cs' := (.bool y468 :: (.lsl M106.length y470.length 0 y470.length :: ((arC (cI .i8) 0 y469) ++ ([] : List AV))))) h472 o474 rfl rfl (ble rfl) rfl) (kc (cl (v := .bool r477) rfl (cns rfl rfl) (ra1 (ra_agg (mp1 rfl (mp1 (ra1_row o475 rfl Notch.fl) (mpA (fun _ => rArg1_flat) (fun _ => rfl) mp0)))) ra0) (impl_ValidHalf_ok (Half.mk y468 y470 y469) _ hx476) (fun _ => rfl)) (kx (uNot rfl) (Rn (hV (.loc ([] : Mem).length 1 0 0) h471 (hV (.loc M96.length 1 0 0) h472 (hN rfl hZ))) fun e478 h480 h481 h482 => sN ?_))))))))
 clear h471 h472
 rcases ite_some h with ⟨hb483, h⟩ | ⟨hb483, h⟩
 ·refine cF h482 (congrArg Bool.not hb483) (xx (sN (sq (Rg (kx (ldOA (cs' := (.bool y468 :: (.lsl M106.length y470.length 0 y470.length :: ((arC (cI .i8) 0 y469) ++ ([] : List AV))))) h481 o474 rfl rfl (ble rfl) rfl) (kw (stOK h480 rfl o473 rfl rfl ⟨rfl, ble rfl⟩ (all1 rfl (all1 (okL o475 (by simp)) (oaL (rest := []) (fun _ => rfl) all0))) rfl) fun M484 hM485 => ?_))))))
  have o486 : M484[([] : Mem).length]? = some (.live ⟨.box, 57, 18, [(.bool y468 :: (.lsl M106.length y470.length 0 y470.length :: ((arC (cI .i8) 0 y469) ++ ([] : List AV))))]⟩) := set_same hM485 o473
  have o487 := set_ne hM485 (Ne.symm ne109) o474
  have o488 := set_ne hM485 (Ne.symm ne120) o475
  refine kx (mvO rfl) (Rn (hA h480 (hV (.int .i64 0) rfl hZ)) fun e489 h491 h492 => sN (xx ?_))
  clear h480 h481 h482
  obtain rfl := si h
  exact eR (resC (ag := true) (sz := 18) ⟨by kernel_rfl, by kernel_rfl, by kernel_rfl⟩ (ldOA (cs' := (.bool y468 :: (.lsl M106.length y470.length 0 y470.length :: ((arC (cI .i8) 0 y469) ++ ([] : List AV))))) h491 o486 rfl rfl (ble rfl) rfl) (resT h492 res0)) (rr_tup (mp1 (rr_agg (mp1 rfl (mp1 (rr_row o488 rfl Notch.fl) (mpA (fun _ => rRes1_flat) (fun _ => rfl) mp0)))) (mp1 rfl mp0)))
 refine cT h482 (congrArg Bool.not hb483) (sq (Rg (kx (bldT zero57 rfl (fill0 rfl)) (kw (stOK h480 rfl o473 rfl rfl ⟨rfl, ble rfl⟩ rfl rfl) fun M493 hM494 => ?_))))
 have o495 : M493[([] : Mem).length]? = some (.live ⟨.box, 57, 18, [(.bool false :: (.nils :: ((arC (cI .i8) 0 (Ar.rep 16 0)) ++ ([] : List AV))))]⟩) := set_same hM494 o473
 have o496 := set_ne hM494 (Ne.symm ne109) o474
 have o497 := set_ne hM494 (Ne.symm ne120) o475
 refine kx (mvO rfl) (Rn (hA h480 (hV (.int .i64 5) rfl hZ)) fun e498 h500 h501 => sN (xx (sR ?_)))
 clear h480 h481 h482
 obtain rfl := si h
 exact eR (resC (ag := true) (sz := 18) ⟨by kernel_rfl, by kernel_rfl, by kernel_rfl⟩ (ldOA (cs' := (.bool false :: (.nils :: ((arC (cI .i8) 0 (Ar.rep 16 0)) ++ ([] : List AV))))) h500 o495 rfl rfl (ble rfl) rfl) (resT h501 res0)) rfl
/-! ### loop.example/g01263/spec.l06Unhex (f72) -/
def spec_l06Unhex_c2_Q (a1 : List UInt8) (s1_1 : Int) (s1_2 : Int) (x36 : UInt8) (g : Bool) (q : Out) : Prop := q.1 = .nrm ∧ eget q.2.1 0 = .str a1 ∧ eget q.2.1 4 = .int .u32 s1_1 ∧ eget q.2.1 5 = .int .i64 s1_2 ∧ eget q.2.1 6 = .int .u8 (x36.toNat : Int) ∧ eget q.2.1 16 = .bool g
abbrev spec_l06Unhex_b1_S := Int × Int
abbrev spec_l06Unhex_b1_R := Unit ⊕ Int
def spec_l06Unhex_b1_RS (a1 : List UInt8) (s : spec_l06Unhex_b1_S) (e : Env) (M : Mem) : Prop := eget e 0 = .str a1 ∧ eget e 4 = .int .u32 s.1 ∧ eget e 5 = .int .i64 s.2
def spec_l06Unhex_b1_RR (a1 : List UInt8) (r : spec_l06Unhex_b1_R) (x : Ex) (e : Env) (M : Mem) : Prop :=
  match r with
  | (.inl g) => x = .ret ∧ eget e 2 = .int .u32 0 ∧ eget e 3 = .bool false
  | (.inr g) => x = .ext 0 ∧ eget e 0 = .str a1 ∧ eget e 4 = .int .u32 g
noncomputable def spec_l06Unhex_b1 (a1 : List UInt8) : spec_l06Unhex_b1_S → Option (spec_l06Unhex_b1_S ⊕ spec_l06Unhex_b1_R) := fun (s1_1, s1_2) =>
 if (decide (s1_2 < (a1.length : Int))) = true then
  (rd a1 s1_2).bind fun x36 =>
  (if (decide ((x36.toNat : Int) ≥ 48)) = true then
   some (decide ((x36.toNat : Int) ≤ 57))
  else
   some false).bind fun y61 =>
  if y61 = true then
   (shl .u32 s1_1 4).bind fun n68 =>
   some (.inl ((ior .u32 n68 (IntKind.u32.wrap (IntKind.u8.wrap ((x36.toNat : Int) - 48)))), (IntKind.i64.wrap (s1_2 + 1))))
  else
   if (decide ((x36.toNat : Int) ≥ 97)) = true then
    if (decide ((x36.toNat : Int) ≤ 102)) = true then
     (shl .u32 s1_1 4).bind fun n89 =>
     some (.inl ((IntKind.u32.wrap ((ior .u32 n89 (IntKind.u32.wrap (IntKind.u8.wrap ((x36.toNat : Int) - 97)))) + 10)), (IntKind.i64.wrap (s1_2 + 1))))
    else
     some (.inr (.inl ()))
   else
    some (.inr (.inl ()))
 else
  some (.inr (.inr s1_1))
theorem spec_l06Unhex_b1_ok (a1 : List UInt8) (s : spec_l06Unhex_b1_S) (r : spec_l06Unhex_b1_S ⊕ spec_l06Unhex_b1_R) (h : spec_l06Unhex_b1 a1 s = some r) (e : Env) (M : Mem) (hs : spec_l06Unhex_b1_RS a1 s e M) : Ev (fun k => (f72_l3 (CN k) k (prune [0, 4, 5] e) M).bind fun q => some q) (bQ (spec_l06Unhex_b1_RS a1) (spec_l06Unhex_b1_RR a1) r) := by
 obtain ⟨s1_1, s1_2⟩ := s
 unfold spec_l06Unhex_b1 at h
 obtain ⟨h23, h25, h27⟩ := hs
 generalize he22 : prune [0, 4, 5] e = e21
 have h24 := envp he22.symm rfl h23
 have h26 := envp he22.symm rfl h25
 have h28 := envp he22.symm rfl h27
 refine sq (sq (Rg (kx (mvO h28) (kx (mvO h24) (kx (lnB Tryd.underlying9 rfl) (kx (bLss rfl rfl) (Rn (hV (.str a1) h24 (hV (.int .u32 s1_1) h26 (hV (.int .i64 s1_2) h28 (hN rfl hZ)))) fun e29 h31 h32 h33 h34 => sN ?_)))))))
 clear h24 h26 h28
 rcases ite_some h with ⟨hb35, h⟩ | ⟨hb35, h⟩
 ·obtain ⟨x36, hx37, h⟩ := bind_some h
  obtain ⟨r117, hr118, h⟩ := bind_some h
  refine cT h34 hb35 (xx (sN (sq (bl (sq (Rg (kx (mvO h31) (kx (mvO h33) (kx (ixB rfl rfl hx37) (kx (mvO rfl) (Rn (hA h31 (hA h32 (hA h33 (hN rfl hZ)))) fun e38 h40 h41 h42 h43 => sN (bl (sq ?_)))))))))))))
  clear h31 h32 h33 h34
  refine Ev.cut (Q1 := spec_l06Unhex_c2_Q a1 s1_1 s1_2 x36 r117) (by
      have h := hr118
      refine Rg (kx (mvO h43) (kx (bGeq rfl rfl) (kx (mvO rfl) ?_)))
      rcases ite_some h with ⟨hb44, h⟩ | ⟨hb44, h⟩
      ·refine kx (guT rfl hb44 (mvO h43)) (kx (guT rfl hb44 (bLeq rfl rfl)) (kx (pkT rfl hb44 rfl) (kx (mvO rfl) (Rn (hA h40 (hA h41 (hA h42 (hA h43 (hN rfl hZ))))) fun e45 h47 h48 h49 h50 h51 => ?_))))
       clear h40 h41 h42 h43
       obtain rfl := si h
       exact kd (show spec_l06Unhex_c2_Q a1 s1_1 s1_2 x36 _ _ from ⟨rfl, h47, h48, h49, h50, h51⟩)
      refine kx (gsT rfl hb44) (kx (gsT rfl hb44) (kx (pkF rfl hb44 rfl) (kx (mvO rfl) (Rn (hA h40 (hA h41 (hA h42 (hA h43 (hV (.bool false) rfl hZ))))) fun e52 h54 h55 h56 h57 h58 => ?_))))
      clear h40 h41 h42 h43
      obtain rfl := si h
      exact kd (show spec_l06Unhex_c2_Q a1 s1_1 s1_2 x36 _ _ from ⟨rfl, h54, h55, h56, h57, h58⟩)) ?_
  revert h hr118
  revert r117
  intro y61 hr118 h
  intro x e59 M60 hq116
  obtain ⟨rfl, h62, h63, h64, h65, h66⟩ := hq116
  refine sN ?_
  rcases ite_some h with ⟨hb67, h⟩ | ⟨hb67, h⟩
  ·obtain ⟨n68, hx69, h⟩ := bind_some h
   refine cT h66 hb67 (Rg (kx (mvO h63) (kx (bShl rfl rfl hx69) (kx (mvO h65) (kx (bSub rfl rfl) (kx (cvI rfl) (kx (bOr rfl rfl) (kx (mvO rfl) (Rn (hA h62 (hN rfl (hV (.int .i64 s1_2) h64 hZ))) fun e70 h72 h73 h74 => bN (bN (sN (Rg (kx (mvO h74) (kx (bAdd rfl rfl) (kx (mvO rfl) (Rn (hA h72 (hA h73 (hN rfl hZ))) fun e75 h77 h78 h79 => ?_))))))))))))))))
   clear h62 h64 h65 h66 h72 h73
   obtain rfl := si h
   exact qN ⟨h77, h78, h79⟩
  refine cF h66 hb67 (sq (Rg (kx (mvO h65) (kx (bGeq rfl rfl) (kx (mvO rfl) ?_)))))
  rcases ite_some h with ⟨hb80, h⟩ | ⟨hb80, h⟩
  ·refine kx (guT rfl hb80 (mvO h65)) (kx (guT rfl hb80 (bLeq rfl rfl)) (kx (pkT rfl hb80 rfl) (kx (mvO rfl) (Rn (hA h62 (hA h63 (hV (.int .i64 s1_2) h64 (hV (.int .u8 (x36.toNat : Int)) h65 (hN rfl hZ))))) fun e81 h83 h84 h85 h86 h87 => sN ?_))))
   clear h62 h63 h64 h65 h66
   rcases ite_some h with ⟨hb88, h⟩ | ⟨hb88, h⟩
   ·obtain ⟨n89, hx90, h⟩ := bind_some h
    refine cT h87 hb88 (Rg (kx (mvO h84) (kx (bShl rfl rfl hx90) (kx (mvO h86) (kx (bSub rfl rfl) (kx (cvI rfl) (kx (bOr rfl rfl) (kx (bAdd rfl rfl) (kx (mvO rfl) (Rn (hA h83 (hN rfl (hA h85 hZ))) fun e91 h93 h94 h95 => bN (bN (sN (Rg (kx (mvO h95) (kx (bAdd rfl rfl) (kx (mvO rfl) (Rn (hA h93 (hA h94 (hN rfl hZ))) fun e96 h98 h99 h100 => ?_)))))))))))))))))
    clear h83 h85 h86 h87 h93 h94
    obtain rfl := si h
    exact qN ⟨h98, h99, h100⟩
   refine cF h87 hb88 (sq (Rg (kx (mvO rfl) (kx (mvO rfl) (Rn (hV (.int .u32 0) rfl (hV (.bool false) rfl hZ)) fun e101 h103 h104 => sN (xx (bR (bR (sR ?_)))))))))
   clear h83 h84 h85 h86 h87
   obtain rfl := si h
   exact qR ⟨rfl, h103, h104⟩
  refine kx (gsT rfl hb80) (kx (gsT rfl hb80) (kx (pkF rfl hb80 rfl) (kx (mvO rfl) (Rn (hA h62 (hA h63 (hV (.int .i64 s1_2) h64 (hV (.int .u8 (x36.toNat : Int)) h65 (hV (.bool false) rfl hZ))))) fun e105 h107 h108 h109 h110 h111 => sN (cF h111 rfl (sq (Rg (kx (mvO rfl) (kx (mvO rfl) (Rn (hV (.int .u32 0) rfl (hV (.bool false) rfl hZ)) fun e112 h114 h115 => sN (xx (bR (bR (sR ?_))))))))))))))
  clear h62 h63 h64 h65 h66 h107 h108 h109 h110 h111
  obtain rfl := si h
  exact qR ⟨rfl, h114, h115⟩
 refine cF h34 hb35 (xx (sE ?_))
 obtain rfl := si h
 exact qE ⟨rfl, h31, h32⟩
noncomputable def spec_l06Unhex (a1 : List UInt8) : Option (Int × Bool) :=
 (Lw (spec_l06Unhex_b1 a1) (0, 0)).bind fun r => match r with
 | (.inl _) =>
  some (0, false)
 | (.inr y128) =>
  some (y128, ((a1.length : Int) == 8))
def spec_l06Unhex_enc (r : Int × Bool) : AV := .tup [.int .u32 r.1, .bool r.2]
theorem spec_l06Unhex_ok (a1 : List UInt8) (r : Int × Bool) (h : spec_l06Unhex a1 = some r) : Ev (fun k => CN k 72 [.str a1] []) (fun p => rRes p.2 p.1 = spec_l06Unhex_enc r) := by
 unfold spec_l06Unhex at h
 obtain ⟨r119, hr120, h⟩ := bind_some h
 refine Ev.enter (F := fun k => f72 (CN k) k) (fun k => callN_eq rfl Tryd.func72 rfl rfl rfl (by decide +kernel) (f72_eq _ _)) (sq (Rg (kx (mvO rfl) (kx (mvO rfl) (Rn (hN rfl hZ) fun e1 h3 => sN (sq (Rg (kx (mvO rfl) (Rn (hA h3 (hV (.int .u32 0) rfl hZ)) fun e4 h6 h7 => sN (sq (sq (Rg (kx (mvO rfl) (Rn (hA h6 (hA h7 (hV (.int .i64 0) rfl hZ))) fun e8 h10 h11 h12 => sN (bl ?_)))))))))))))))
 clear h3 h6 h7
 rcases r119 with _ | y128
 ·refine Ev.loop (RS := spec_l06Unhex_b1_RS a1) (RR := spec_l06Unhex_b1_RR a1) (fun s r h e M hs => spec_l06Unhex_b1_ok a1 s r h e M hs) hr120 ⟨h10, h11, h12⟩ fun x e122 M123 hq121 => ?_
  obtain ⟨rfl, h124, h125⟩ := hq121
  refine bR (sR ?_)
  obtain rfl := si h
  exact eR (resT h124 (resT h125 res0)) rfl
 refine Ev.loop (RS := spec_l06Unhex_b1_RS a1) (RR := spec_l06Unhex_b1_RR a1) (fun s r h e M hs => spec_l06Unhex_b1_ok a1 s r h e M hs) hr120 ⟨h10, h11, h12⟩ fun x e126 M127 hq121 => ?_
 obtain ⟨rfl, h129, h130⟩ := hq121
 refine bE (sN (sq (Rg (kx (mvO h130) (kx (mvO h129) (kx (lnB Tryd.underlying9 rfl) (kx (bEql rfl rfl) (kx (mvO rfl) (kx (mvO rfl) (Rn (hN rfl (hN rfl hZ)) fun e131 h133 h134 => sN (xx ?_)))))))))))
 clear h129 h130
 obtain rfl := si h
 exact eR (resT h133 (resT h134 res0)) rfl
/-! ### loop.example/g01263/spec.ReadHalf (f71) -/
noncomputable def spec_ReadHalf (a1 : List UInt8) : Option (((Ar 16 Int)) ⊕ (Bool × (List Notch) × (Ar 16 Int))) :=
 (spec_l01ReadHalf a1).bind fun r => match r with
 | (.inl r10) =>
  some (.inl (Ar.rep 16 0))
 | (.inr (r39, r40, r41, r42)) =>
  if r42 = true then
   some (.inr (r39, r40, r41))
  else
   some (.inl (Ar.rep 16 0))
def spec_ReadHalf_enc (r : ((Ar 16 Int)) ⊕ (Bool × (List Notch) × (Ar 16 Int))) : AV :=
  match r with
  | (.inl g) => .tup [.agg (.bool false :: (.nils :: ((arC (cI .i8) 0 g) ++ ([] : List AV)))), .int .i64 5]
  | (.inr g) => .tup [.agg (.bool g.1 :: (.sl (some 156) (g.2.1.map Notch.c) :: ((arC (cI .i8) 0 g.2.2) ++ ([] : List AV)))), .int .i64 0]
theorem spec_ReadHalf_ok (a1 : List UInt8) (r : ((Ar 16 Int)) ⊕ (Bool × (List Notch) × (Ar 16 Int))) (h : spec_ReadHalf a1 = some r) : Ev (fun k => CN k 71 [.str a1] []) (fun p => rRes p.2 p.1 = spec_ReadHalf_enc r) := by
 unfold spec_ReadHalf at h
 refine Ev.enter (F := fun k => f71 (CN k) k) (fun k => callN_eq rfl Tryd.func71 rfl rfl rfl (by decide +kernel) (f71_eq _ _)) (sq (Rg (ku (alO zero57) fun M2 hM3 => ?_)))
 have o4 : M2[([] : Mem).length]? = some (.live ⟨.box, 57, 18, [(.bool false :: (.nils :: ((arC (cI .i8) 0 (Ar.rep 16 0)) ++ ([] : List AV))))]⟩) := push_new hM3
 obtain ⟨q80, hx9, h⟩ := bind_some h
 refine kx (mvO rfl) (Rn (hN rfl (hV (.loc ([] : Mem).length 1 0 0) rfl hZ)) fun e5 h7 h8 => sN (sq (Rg (kx (mvO h7) ?_))))
 rcases q80 with r10 | ⟨r39, r40, r41, r42⟩
 ·refine kc (cl (v := .tup [.agg (.bool false :: (.nils :: ((arC (cI .i8) 0 r10) ++ ([] : List AV)))), .bool false]) rfl (cns rfl rfl) rfl (spec_l01ReadHalf_ok a1 _ hx9) nm) (kx (mvO rfl) (kx (exT rfl rfl) (kx (exT rfl rfl) (ku (alO zero57) fun M12 hM13 => ?_))))
  have o14 := push_old hM13 o4
  have ne15 := ne_new o4
  have o16 : M12[M2.length]? = some (.live ⟨.box, 57, 18, [(.bool false :: (.nils :: ((arC (cI .i8) 0 (Ar.rep 16 0)) ++ ([] : List AV))))]⟩) := push_new hM13
  refine kw (stOK rfl rfl o16 rfl rfl ⟨rfl, ble rfl⟩ rfl rfl) fun M17 hM18 => ?_
  have o19 := set_ne hM18 ne15 o14
  have o20 : M17[M2.length]? = some (.live ⟨.box, 57, 18, [(.bool false :: (.nils :: ((arC (cI .i8) 0 r10) ++ ([] : List AV))))]⟩) := set_same hM18 o16
  refine kx (mvO rfl) (Rn (hA h8 (hV (.loc M2.length 1 0 0) rfl (hV (.bool false) rfl hZ))) fun e21 h23 h24 h25 => sN (sq (sq (Rg (kx (mvO h25) (kx (uNot rfl) (Rn (hA h23 (hA h24 (hV (.bool true) rfl hZ))) fun e26 h28 h29 h30 => sN (cT h30 rfl (sq (Rg (kx (bldT zero57 rfl (fill0 rfl)) (kw (stOK h28 rfl o19 rfl rfl ⟨rfl, ble rfl⟩ rfl rfl) fun M31 hM32 => ?_))))))))))))
  clear h7 h8 h23 h24 h25
  have o33 : M31[([] : Mem).length]? = some (.live ⟨.box, 57, 18, [(.bool false :: (.nils :: ((arC (cI .i8) 0 (Ar.rep 16 0)) ++ ([] : List AV))))]⟩) := set_same hM32 o19
  have o34 := set_ne hM32 (Ne.symm ne15) o20
  refine kx (mvO rfl) (Rn (hA h28 (hV (.int .i64 5) rfl hZ)) fun e35 h37 h38 => sN (xx (sR ?_)))
  clear h28 h29 h30
  obtain rfl := si h
  exact eR (resC (ag := true) (sz := 18) ⟨by kernel_rfl, by kernel_rfl, by kernel_rfl⟩ (ldOA (cs' := (.bool false :: (.nils :: ((arC (cI .i8) 0 (Ar.rep 16 0)) ++ ([] : List AV))))) h37 o33 rfl rfl (ble rfl) rfl) (resT h38 res0)) rfl
 refine kc (cl (v := .tup [.agg (.bool r39 :: (.sl (some 156) (r40.map Notch.c) :: ((arC (cI .i8) 0 r41) ++ ([] : List AV)))), .bool r42]) rfl (cns rfl rfl) rfl (spec_l01ReadHalf_ok a1 _ hx9) nm) (kx (mvO rfl) (kx (exT rfl rfl) (kx (exT rfl rfl) (ku (alO zero57) fun M44 hM45 => ?_))))
 have o46 := push_old hM45 o4
 have ne47 := ne_new o4
 have o48 : M44[M2.length]? = some (.live ⟨.box, 57, 18, [(.bool false :: (.nils :: ((arC (cI .i8) 0 (Ar.rep 16 0)) ++ ([] : List AV))))]⟩) := push_new hM45
 refine kw (stOK rfl rfl o48 rfl rfl ⟨rfl, ble rfl⟩ rfl rfl) fun M49 hM50 => ?_
 have o51 := set_ne hM50 ne47 o46
 have o52 : M49[M2.length]? = some (.live ⟨.box, 57, 18, [(.bool r39 :: (.sl (some 156) (r40.map Notch.c) :: ((arC (cI .i8) 0 r41) ++ ([] : List AV))))]⟩) := set_same hM50 o48
 refine kx (mvO rfl) (Rn (hA h8 (hV (.loc M2.length 1 0 0) rfl (hN rfl hZ))) fun e53 h55 h56 h57 => sN (sq (sq (Rg (kx (mvO h57) (kx (uNot rfl) (Rn (hA h55 (hA h56 (hN rfl hZ))) fun e58 h60 h61 h62 => sN ?_)))))))
 clear h7 h8 h55 h56 h57
 rcases ite_some h with ⟨hb63, h⟩ | ⟨hb63, h⟩
 ·refine cF h62 (congrArg Bool.not hb63) (xx (sN (sq (Rg (kx (ldOA (cs' := (.bool r39 :: (.sl (some 156) (r40.map Notch.c) :: ((arC (cI .i8) 0 r41) ++ ([] : List AV))))) h61 o52 rfl rfl (ble rfl) rfl) (kw (stOK h60 rfl o51 rfl rfl ⟨rfl, ble rfl⟩ rfl rfl) fun M64 hM65 => ?_))))))
  have o66 : M64[([] : Mem).length]? = some (.live ⟨.box, 57, 18, [(.bool r39 :: (.sl (some 156) (r40.map Notch.c) :: ((arC (cI .i8) 0 r41) ++ ([] : List AV))))]⟩) := set_same hM65 o51
  have o67 := set_ne hM65 (Ne.symm ne47) o52
  refine kx (mvO rfl) (Rn (hA h60 (hV (.int .i64 0) rfl hZ)) fun e68 h70 h71 => sN (xx ?_))
  clear h60 h61 h62
  obtain rfl := si h
  exact eR (resC (ag := true) (sz := 18) ⟨by kernel_rfl, by kernel_rfl, by kernel_rfl⟩ (ldOA (cs' := (.bool r39 :: (.sl (some 156) (r40.map Notch.c) :: ((arC (cI .i8) 0 r41) ++ ([] : List AV))))) h70 o66 rfl rfl (ble rfl) rfl) (resT h71 res0)) rfl
 refine cT h62 (congrArg Bool.not hb63) (sq (Rg (kx (bldT zero57 rfl (fill0 rfl)) (kw (stOK h60 rfl o51 rfl rfl ⟨rfl, ble rfl⟩ rfl rfl) fun M72 hM73 => ?_))))
 have o74 : M72[([] : Mem).length]? = some (.live ⟨.box, 57, 18, [(.bool false :: (.nils :: ((arC (cI .i8) 0 (Ar.rep 16 0)) ++ ([] : List AV))))]⟩) := set_same hM73 o51
 have o75 := set_ne hM73 (Ne.symm ne47) o52
 refine kx (mvO rfl) (Rn (hA h60 (hV (.int .i64 5) rfl hZ)) fun e76 h78 h79 => sN (xx (sR ?_)))
 clear h60 h61 h62
 obtain rfl := si h
 exact eR (resC (ag := true) (sz := 18) ⟨by kernel_rfl, by kernel_rfl, by kernel_rfl⟩ (ldOA (cs' := (.bool false :: (.nils :: ((arC (cI .i8) 0 (Ar.rep 16 0)) ++ ([] : List AV))))) h78 o74 rfl rfl (ble rfl) rfl) (resT h79 res0)) rfl
/-! ### loop.example/g01263/impl.linesOf (f67) -/
noncomputable def impl_linesOf (a1 : List UInt8) : Option (Unit ⊕ ((List (List UInt8)) × Bool)) :=
 if (a1 == ([] : List UInt8)) = true then
  some (.inl ())
 else
  (strings_Split a1 ([10] : List UInt8)).bind fun r14 =>
  (slc r14 0 (IntKind.i64.wrap ((r14.length : Int) - 1))).bind fun x22 =>
  (rd r14 (IntKind.i64.wrap ((r14.length : Int) - 1))).bind fun x24 =>
  some (.inr (x22, (x24 == ([] : List UInt8))))
def impl_linesOf_enc (r : Unit ⊕ ((List (List UInt8)) × Bool)) : AV :=
  match r with
  | (.inl g) => .tup [.nils, .bool true]
  | (.inr g) => .tup [.sl none (g.1.map cS), .bool g.2]
theorem impl_linesOf_ok (a1 : List UInt8) (r : Unit ⊕ ((List (List UInt8)) × Bool)) (h : impl_linesOf a1 = some r) : Ev (fun k => CN k 67 [.str a1] []) (fun p => rRes p.2 p.1 = impl_linesOf_enc r) := by
 unfold impl_linesOf at h
 refine Ev.enter (F := fun k => f67 (CN k) k) (fun k => callN_eq rfl Tryd.func67 rfl rfl rfl (by decide +kernel) (f67_eq _ _)) (sq (Rg (kx (mvO rfl) (kx (mvO rfl) (Rn (hN rfl hZ) fun e1 h3 => sN (sq (sq (Rg (kx (mvO h3) (kx (sEql rfl rfl) (Rn (hA h3 (hN rfl hZ)) fun e4 h6 h7 => sN ?_)))))))))))
 clear h3
 rcases ite_some h with ⟨hb8, h⟩ | ⟨hb8, h⟩
 ·refine cT h7 hb8 (sq (Rg (kx (mvO rfl) (kx (mvO rfl) (Rn (hV .nils rfl (hV (.bool true) rfl hZ)) fun e9 h11 h12 => sN (xx (sR ?_)))))))
  clear h6 h7
  obtain rfl := si h
  exact eR (resT h11 (resT h12 res0)) rfl
 obtain ⟨r14, hx13, h⟩ := bind_some h
 obtain ⟨x22, hx23, h⟩ := bind_some h
 obtain ⟨x24, hx25, h⟩ := bind_some h
 refine cF h7 hb8 (xx (sN (sq (Rg (kx (mvO h6) (kc (cl (v := .sl (some 9) (r14.map cS)) rfl (cns rfl (cns rfl rfl)) rfl (strings_Split_ok a1 ([10] : List UInt8) _ hx13) nm) (kx (mvO rfl) (Rn (hN rfl hZ) fun e15 h17 => sN (sq (Rg (kx (mvO h17) (kx (lnS Tryd.underlying86 rfl) (kx (bSub rfl rfl) (kx (mvO rfl) (Rn (hA h17 (hN rfl hZ)) fun e18 h20 h21 => sN (sq (Rd (kf (mvO h20) (kf (mvO h21) (kf (slS rfl rfl (bnd1 rfl) hx23 cS_fl) (kf (mvO h20) (kf (mvO h21) (kf (ixS rfl rfl hx25 cS_fl) (kf (ldP rfl rfl) (kf (sEql rfl rfl) (kf (mvO rfl) (kf (mvO rfl) (fZ (Rn (hN rfl (hN rfl hZ)) fun e26 h28 h29 => sN (xx ?_))))))))))))))))))))))))))))))
 clear h6 h7 h17 h20 h21
 obtain rfl := si h
 exact eR (resT h28 (resT h29 res0)) rfl
/-! ### loop.example/g01263/laws.eqMarkS (f64) -/
abbrev laws_eqMarkS_b1_S := Int
abbrev laws_eqMarkS_b1_R := Unit ⊕ Unit
def laws_eqMarkS_b1_RS (a1 : List Mark) (a2 : List Mark) (s : laws_eqMarkS_b1_S) (e : Env) (M : Mem) : Prop := eget e 0 = .sl none (a1.map Mark.c) ∧ eget e 1 = .sl none (a2.map Mark.c) ∧ eget e 5 = .int .i64 s
def laws_eqMarkS_b1_RR (a1 : List Mark) (a2 : List Mark) (r : laws_eqMarkS_b1_R) (x : Ex) (e : Env) (M : Mem) : Prop :=
  match r with
  | (.inl g) => x = .ret ∧ eget e 4 = .bool false
  | (.inr g) => x = .ext 0 ∧ True
noncomputable def laws_eqMarkS_b1 (a1 : List Mark) (a2 : List Mark) : laws_eqMarkS_b1_S → Option (laws_eqMarkS_b1_S ⊕ laws_eqMarkS_b1_R) := fun s1_1 =>
 if (decide (s1_1 < (a1.length : Int))) = true then
  (rd a1 s1_1).bind fun x42 =>
  (rd a2 s1_1).bind fun x44 =>
  (laws_eqMark x42 x44).bind fun r47 =>
  if r47 = true then
   some (.inl (IntKind.i64.wrap (s1_1 + 1)))
  else
   some (.inr (.inl ()))
 else
  some (.inr (.inr ()))
theorem laws_eqMarkS_b1_ok (a1 : List Mark) (a2 : List Mark) (s : laws_eqMarkS_b1_S) (r : laws_eqMarkS_b1_S ⊕ laws_eqMarkS_b1_R) (h : laws_eqMarkS_b1 a1 a2 s = some r) (e : Env) (M : Mem) (hs : laws_eqMarkS_b1_RS a1 a2 s e M) : Ev (fun k => (f64_l4 (CN k) k (prune [0, 1, 5] e) M).bind fun q => some q) (bQ (laws_eqMarkS_b1_RS a1 a2) (laws_eqMarkS_b1_RR a1 a2) r) := by
 revert h hs
 revert s
 intro s1_1 h hs
 unfold laws_eqMarkS_b1 at h
 obtain ⟨h29, h31, h33⟩ := hs
 generalize he28 : prune [0, 1, 5] e = e27
 have h30 := envp he28.symm rfl h29
 have h32 := envp he28.symm rfl h31
 have h34 := envp he28.symm rfl h33
 refine sq (sq (Rg (kx (mvO h34) (kx (mvO h30) (kx (lnS Tryd.underlying58 rfl) (kx (bLss rfl rfl) (Rn (hV (.sl none (a1.map Mark.c)) h30 (hV (.sl none (a2.map Mark.c)) h32 (hV (.int .i64 s1_1) h34 (hN rfl hZ)))) fun e35 h37 h38 h39 h40 => sN ?_)))))))
 clear h30 h32 h34
 rcases ite_some h with ⟨hb41, h⟩ | ⟨hb41, h⟩
 ·obtain ⟨x42, hx43, h⟩ := bind_some h
  obtain ⟨x44, hx45, h⟩ := bind_some h
  obtain ⟨r47, hx46, h⟩ := bind_some h
  refine cT h40 hb41 (xx (sN (sq (bl (sq (Rd (kf (mvO h37) (kf (mvO h39) (kf (ixS rfl rfl hx43 Mark.fl) (kf (ldPA rfl rfl rfl) (kf (mvO h38) (kf (mvO h39) (kf (ixS rfl rfl hx45 Mark.fl) (kf (ldPA rfl rfl rfl) (fc (cl (v := .bool r47) rfl (cns rfl (cns rfl rfl)) rfl (laws_eqMark_ok x42 x44 _ hx46) nm) (kf (uNot rfl) (fZ (Rn (hA h37 (hA h38 (hA h39 (hN rfl hZ)))) fun e48 h50 h51 h52 h53 => sN ?_))))))))))))))))))
  clear h37 h38 h39 h40
  rcases ite_some h with ⟨hb54, h⟩ | ⟨hb54, h⟩
  ·refine cF h53 (congrArg Bool.not hb54) (xx (bN (sN (Rg (kx (mvO h52) (kx (bAdd rfl rfl) (kx (mvO rfl) (Rn (hA h50 (hA h51 (hN rfl hZ))) fun e55 h57 h58 h59 => ?_))))))))
   clear h50 h51 h53
   obtain rfl := si h
   exact qN ⟨h57, h58, h59⟩
  refine cT h53 (congrArg Bool.not hb54) (sq (Rg (kx (mvO rfl) (Rn (hV (.bool false) rfl hZ) fun e60 h62 => sN (xx (bR (sR ?_)))))))
  clear h50 h51 h52 h53
  obtain rfl := si h
  exact qR ⟨rfl, h62⟩
 refine cF h40 hb41 (xx (sE ?_))
 obtain rfl := si h
 exact qE ⟨rfl, trivial⟩
noncomputable def laws_eqMarkS (a1 : List Mark) (a2 : List Mark) : Option Bool :=
 if ((a1.length : Int) != (a2.length : Int)) = true then
  some false
 else
  (Lw (laws_eqMarkS_b1 a1 a2) 0).bind fun r => match r with
  | (.inl _) =>
   some false
  | (.inr _) =>
   some true
def laws_eqMarkS_enc (r : Bool) : AV := .bool r
theorem laws_eqMarkS_ok (a1 : List Mark) (a2 : List Mark) (r : Bool) (h : laws_eqMarkS a1 a2 = some r) : Ev (fun k => CN k 64 [.sl none (a1.map Mark.c), .sl none (a2.map Mark.c)] []) (fun p => rRes p.2 p.1 = laws_eqMarkS_enc r) := by
 unfold laws_eqMarkS at h
 refine Ev.enter (F := fun k => f64 (CN k) k) (fun k => callN_eq rfl Tryd.func64 rfl rfl rfl (by decide +kernel) (f64_eq _ _)) (sq (Rg (kx (mvO rfl) (Rn (hN rfl (hN rfl hZ)) fun e1 h3 h4 => sN (sq (sq (Rg (kx (mvO h3) (kx (lnS Tryd.underlying58 rfl) (kx (mvO h4) (kx (lnS Tryd.underlying58 rfl) (kx (bNeq rfl rfl) (Rn (hA h3 (hA h4 (hN rfl hZ))) fun e5 h7 h8 h9 => sN ?_)))))))))))))
 clear h3 h4
 rcases ite_some h with ⟨hb10, h⟩ | ⟨hb10, h⟩
 ·refine cT h9 hb10 (sq (Rg (kx (mvO rfl) (Rn (hV (.bool false) rfl hZ) fun e11 h13 => sN (xx (sR ?_))))))
  clear h7 h8 h9
  obtain rfl := si h
  exact eR (resT h13 res0) rfl
 obtain ⟨r63, hr64, h⟩ := bind_some h
 refine cF h9 hb10 (xx (sN (sq (sq (Rg (kx (mvO rfl) (Rn (hA h7 (hA h8 (hV (.int .i64 0) rfl hZ))) fun e14 h16 h17 h18 => sN (bl ?_))))))))
 clear h7 h8 h9
 rcases r63 with _ | _
 ·refine Ev.loop (RS := laws_eqMarkS_b1_RS a1 a2) (RR := laws_eqMarkS_b1_RR a1 a2) (fun s r h e M hs => laws_eqMarkS_b1_ok a1 a2 s r h e M hs) hr64 ⟨h16, h17, h18⟩ fun x e66 M67 hq65 => ?_
  obtain ⟨rfl, h68⟩ := hq65
  refine bR (sR ?_)
  obtain rfl := si h
  exact eR (resT h68 res0) rfl
 refine Ev.loop (RS := laws_eqMarkS_b1_RS a1 a2) (RR := laws_eqMarkS_b1_RR a1 a2) (fun s r h e M hs => laws_eqMarkS_b1_ok a1 a2 s r h e M hs) hr64 ⟨h16, h17, h18⟩ fun x e69 M70 hq65 => ?_
 obtain ⟨rfl, _⟩ := hq65
 refine bE (sN (sq (Rg (kx (mvO rfl) (Rn (hV (.bool true) rfl hZ) fun e71 h73 => sN (xx ?_))))))
 obtain rfl := si h
 exact eR (resT h73 res0) rfl
/-! ### loop.example/g01263/laws.eqHalf (f63) -/
noncomputable def laws_eqHalf (a1 : Half) (a2 : Half) : Option Bool :=
 if (a1.Stock == a2.Stock) = true then
  (laws_eqNotchS a1.Notches a2.Notches).bind fun r12 =>
  if r12 = true then
   (laws_eqGrain a1.Grain a2.Grain).bind fun r20 =>
   if r20 = true then
    some true
   else
    some false
  else
   some false
 else
  some false
def laws_eqHalf_enc (r : Bool) : AV := .bool r
theorem laws_eqHalf_ok (a1 : Half) (a2 : Half) (r : Bool) (h : laws_eqHalf a1 a2 = some r) : Ev (fun k => CN k 63 [.agg (.bool a1.Stock :: (.sl none (a1.Notches.map Notch.c) :: ((arC (cI .i8) 0 a1.Grain) ++ ([] : List AV)))), .agg (.bool a2.Stock :: (.sl none (a2.Notches.map Notch.c) :: ((arC (cI .i8) 0 a2.Grain) ++ ([] : List AV))))] []) (fun p => rRes p.2 p.1 = laws_eqHalf_enc r) := by
 unfold laws_eqHalf at h
 refine Ev.enter (F := fun k => f63 (CN k) k) (fun k => callN_eq rfl Tryd.func63 rfl rfl rfl (by decide +kernel) (f63_eq _ _)) (sq (Rg (kx (bxI rfl rfl ⟨rfl, rfl, by decide⟩) (kx (bxI rfl rfl ⟨rfl, rfl, by decide⟩) (kx (mvO rfl) (Rn (hN rfl (hN rfl hZ)) fun e1 h3 h4 => sN (sq (sq (Rg (kx (faP h3 ⟨ble rfl, blt rfl⟩ rfl) (kx (ldP rfl rfl) (kx (faP h4 ⟨ble rfl, blt rfl⟩ rfl) (kx (ldP rfl rfl) (kx (oNeq (by kernel_rfl) rfl rfl) (Rn (hA h3 (hA h4 (hN rfl hZ))) fun e5 h7 h8 h9 => sN ?_)))))))))))))))
 clear h3 h4
 rcases ite_some h with ⟨hb10, h⟩ | ⟨hb10, h⟩
 ·obtain ⟨r12, hx11, h⟩ := bind_some h
  refine cF h9 (congrArg Bool.not hb10) (xx (sN (sq (sq (Rg (kx (faP h7 ⟨ble rfl, blt rfl⟩ rfl) (kx (ldP rfl rfl) (kx (faP h8 ⟨ble rfl, blt rfl⟩ rfl) (kx (ldP rfl rfl) (kc (cl (v := .bool r12) rfl (cns rfl (cns rfl rfl)) rfl (laws_eqNotchS_ok a1.Notches a2.Notches _ hx11) nm) (kx (uNot rfl) (Rn (hA h7 (hA h8 (hN rfl hZ))) fun e13 h15 h16 h17 => sN ?_))))))))))))
  clear h7 h8 h9
  rcases ite_some h with ⟨hb18, h⟩ | ⟨hb18, h⟩
  ·obtain ⟨r20, hx19, h⟩ := bind_some h
   refine cF h17 (congrArg Bool.not hb18) (xx (sN (sq (sq (Rg (kx (faP h15 ⟨ble rfl, blt rfl⟩ rfl) (kx (ldPA rfl rfl rfl) (kx (faP h16 ⟨ble rfl, blt rfl⟩ rfl) (kx (ldPA rfl rfl rfl) (kc (cl (v := .bool r20) rfl (cns rfl (cns rfl rfl)) rfl (laws_eqGrain_ok a1.Grain a2.Grain _ hx19) nm) (kx (uNot rfl) (Rn (hN rfl hZ) fun e21 h23 => sN ?_))))))))))))
   clear h15 h16 h17
   rcases ite_some h with ⟨hb24, h⟩ | ⟨hb24, h⟩
   ·refine cF h23 (congrArg Bool.not hb24) (xx (sN (sq (Rg (kx (mvO rfl) (Rn (hV (.bool true) rfl hZ) fun e25 h27 => sN (xx ?_)))))))
    clear h23
    obtain rfl := si h
    exact eR (resT h27 res0) rfl
   refine cT h23 (congrArg Bool.not hb24) (sq (Rg (kx (mvO rfl) (Rn (hV (.bool false) rfl hZ) fun e28 h30 => sN (xx (sR ?_))))))
   clear h23
   obtain rfl := si h
   exact eR (resT h30 res0) rfl
  refine cT h17 (congrArg Bool.not hb18) (sq (Rg (kx (mvO rfl) (Rn (hV (.bool false) rfl hZ) fun e31 h33 => sN (xx (sR ?_))))))
  clear h15 h16 h17
  obtain rfl := si h
  exact eR (resT h33 res0) rfl
 refine cT h9 (congrArg Bool.not hb10) (sq (Rg (kx (mvO rfl) (Rn (hV (.bool false) rfl hZ) fun e34 h36 => sN (xx (sR ?_))))))
 clear h7 h8 h9
 obtain rfl := si h
 exact eR (resT h36 res0) rfl
end Go.Proofs.YtbhbmgmnnkcmcaaDoor

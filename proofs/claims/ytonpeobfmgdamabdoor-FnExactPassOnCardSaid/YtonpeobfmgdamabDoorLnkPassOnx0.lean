/- Printed by a program of ours (ext.py). -/
import Derived.Test.YtonpeobfmgdamabDoorFnsPassOn
set_option linter.unusedVariables false
set_option linter.unusedSimpArgs false
set_option maxRecDepth 100000
set_option maxHeartbeats 2000000
namespace Go.Proofs.YtonpeobfmgdamabDoor
open Go Go.Ab
structure Notch where
  Kind : Int
  At : Int
  deriving DecidableEq
def Notch.c (x : Notch) : List AV := [.int .i8 x.Kind, .int .i16 x.At]
theorem Notch.fl : Fl Notch.c 2 := fun _ => ⟨rfl, rfl⟩
theorem Notch.flF : FlF Notch.c := fun _ => rfl
structure Mark where
  Holder : List UInt8
  Seal : Int
  deriving DecidableEq
def Mark.c (x : Mark) : List AV := [.str x.Holder, .int .u32 x.Seal]
theorem Mark.fl : Fl Mark.c 2 := fun _ => ⟨rfl, rfl⟩
theorem Mark.flF : FlF Mark.c := fun _ => rfl
structure Half where
  Stock : Bool
  Notches : List Notch
  Grain : Ar 16 Int
  deriving DecidableEq
def Half.c (x : Half) : List AV := (.bool x.Stock :: (.sl none (x.Notches.map Notch.c) :: ((arC (cI .i8) 0 x.Grain) ++ ([] : List AV))))
theorem Half.fl : Fl Half.c 18 := fun _ => ⟨rfl, rfl⟩
structure Chain where
  Debtor : List UInt8
  Stock : Half
  Marks : List Mark
  deriving DecidableEq
def Chain.c (x : Chain) : List AV := (.str x.Debtor :: (.bool x.Stock.Stock :: (.sl none (x.Stock.Notches.map Notch.c) :: ((arC (cI .i8) 0 x.Stock.Grain) ++ ((.sl none (x.Marks.map Mark.c) :: []) : List AV)))))
theorem Chain.fl : Fl Chain.c 20 := fun _ => ⟨rfl, rfl⟩
structure Party where
  Name : List UInt8
  Secret : Int
  deriving DecidableEq
def Party.c (x : Party) : List AV := [.str x.Name, .int .u32 x.Secret]
theorem Party.fl : Fl Party.c 2 := fun _ => ⟨rfl, rfl⟩
theorem Party.flF : FlF Party.c := fun _ => rfl
theorem co107 : cx.P.cellsOf 107 = 2 := by kernel_rfl
theorem co39 : cx.P.cellsOf 39 = 2 := by kernel_rfl
theorem zero107 : zeroOf cx.P 107 = [.int .i8 0, .int .i16 0] := by kernel_rfl
theorem zero29 : zeroOf cx.P 29 = (arC (cI .i8) 0 (Ar.rep 16 0)) := by kernel_rfl
theorem zero31 : zeroOf cx.P 31 = (.bool false :: (.nils :: ((arC (cI .i8) 0 (Ar.rep 16 0)) ++ ([] : List AV)))) := by kernel_rfl
theorem zero34 : zeroOf cx.P 34 = (.str ([] : List UInt8) :: (.bool false :: (.nils :: ((arC (cI .i8) 0 (Ar.rep 16 0)) ++ ((.nils :: []) : List AV))))) := by kernel_rfl
theorem zero39 : zeroOf cx.P 39 = [.str ([] : List UInt8), .int .u32 0] := by kernel_rfl
theorem zero46 : zeroOf cx.P 46 = [.str ([] : List UInt8), .int .u32 0] := by kernel_rfl
/-! ### loop.example/g01263/spec.l01Widths (f91) -/
noncomputable def spec_l01Widths : Option ((List Int)) :=
 some [1, 2, 4, 6, 9, 12]
def spec_l01Widths_enc (r : (List Int)) : AV := .sl (some 2) (r.map (cI .i64))
theorem spec_l01Widths_ok (r : (List Int)) (h : spec_l01Widths = some r) : Ev (fun k => CN k 91 [] []) (fun p => rRes p.2 p.1 = spec_l01Widths_enc r) := by
 unfold spec_l01Widths at h
 refine Ev.enter (F := fun k => f91 (CN k) k) (fun k => callN_eq rfl Tryd.func91 rfl rfl rfl (by decide +kernel) (f91_eq _ _)) (sq (Rg (kx (mvO rfl) (Rn hZ fun e1 => sN (sq (Rg (kx (litI (cns rfl (cns rfl (cns rfl (cns rfl (cns rfl (cns rfl rfl)))))) rfl ⟨rfl, by decide⟩) (kx (mvO rfl) (Rn (hN rfl hZ) fun e3 h5 => sN (xx ?_))))))))))
 obtain rfl := si h
 exact eR (resT h5 res0) rfl
/-! ### loop.example/g01263/spec.l01Ends (f107) -/
noncomputable def spec_l01Ends (a1 : Notch) : Option Int :=
 (spec_l01Widths).bind fun r5 =>
 (rd r5 a1.Kind).bind fun x6 =>
 some (IntKind.i64.wrap ((IntKind.i64.wrap a1.At) + x6))
def spec_l01Ends_enc (r : Int) : AV := .int .i64 r
theorem spec_l01Ends_ok (a1 : Notch) (r : Int) (h : spec_l01Ends a1 = some r) : Ev (fun k => CN k 107 [.agg [.int .i8 a1.Kind, .int .i16 a1.At]] []) (fun p => rRes p.2 p.1 = spec_l01Ends_enc r) := by
 unfold spec_l01Ends at h
 obtain ⟨r5, hx4, h⟩ := bind_some h
 obtain ⟨x6, hx7, h⟩ := bind_some h
 refine Ev.enter (F := fun k => f107 (CN k) k) (fun k => callN_eq rfl Tryd.func107 rfl rfl rfl (by decide +kernel) (f107_eq _ _)) (sq (Rg (kx (bxI rfl rfl ⟨rfl, rfl, by decide⟩) (kx (mvO rfl) (Rn (hN rfl hZ) fun e1 h3 => sN (sq (Rd (kf (faP h3 ⟨ble rfl, blt rfl⟩ rfl) (kf (ldP rfl rfl) (kf (cvI rfl) (fc (cl (v := .sl (some 2) (r5.map (cI .i64))) rfl rfl rfl (spec_l01Widths_ok  _ hx4) nm) (kf (faP h3 ⟨ble rfl, blt rfl⟩ rfl) (kf (ldP rfl rfl) (kf (ixS rfl rfl hx7 (cI_fl _)) (kf (ldP rfl rfl) (kf (bAdd rfl rfl) (kf (mvO rfl) (fZ (Rn (hN rfl hZ) fun e8 h10 => sN (xx ?_))))))))))))))))))))
 clear h3
 obtain rfl := si h
 exact eR (resT h10 res0) rfl
/-! ### loop.example/g01263/spec.l00In (f75) -/
noncomputable def spec_l00In (a1 : Int) (a2 : Int) (a3 : Int) : Option Bool :=
 if (decide (a1 ≥ a2)) = true then
  some (decide (a1 ≤ a3))
 else
  some false
def spec_l00In_enc (r : Bool) : AV := .bool r
theorem spec_l00In_ok (a1 : Int) (a2 : Int) (a3 : Int) (r : Bool) (h : spec_l00In a1 a2 a3 = some r) : Ev (fun k => CN k 75 [.int .i64 a1, .int .i64 a2, .int .i64 a3] []) (fun p => rRes p.2 p.1 = spec_l00In_enc r) := by
 unfold spec_l00In at h
 refine Ev.enter (F := fun k => f75 (CN k) k) (fun k => callN_eq rfl Tryd.func75 rfl rfl rfl (by decide +kernel) (f75_eq _ _)) (sq (Rg (kx (mvO rfl) (Rn (hN rfl (hN rfl (hN rfl hZ))) fun e1 h3 h4 h5 => sN (sq (Rg (kx (mvO h3) (kx (mvO h4) (kx (bGeq rfl rfl) (kx (mvO rfl) ?_))))))))))
 rcases ite_some h with ⟨hb6, h⟩ | ⟨hb6, h⟩
 ·refine kx (guT rfl hb6 (mvO h3)) (kx (guT rfl hb6 (mvO h5)) (kx (guT rfl hb6 (bLeq rfl rfl)) (kx (pkT rfl hb6 rfl) (kx (mvO rfl) (Rn (hN rfl hZ) fun e7 h9 => sN (xx ?_))))))
  clear h3 h4 h5
  obtain rfl := si h
  exact eR (resT h9 res0) rfl
 refine kx (gsT rfl hb6) (kx (gsT rfl hb6) (kx (gsT rfl hb6) (kx (pkF rfl hb6 rfl) (kx (mvO rfl) (Rn (hV (.bool false) rfl hZ) fun e10 h12 => sN (xx ?_))))))
 clear h3 h4 h5
 obtain rfl := si h
 exact eR (resT h12 res0) rfl
/-! ### loop.example/g01263/spec.l01Kind (f106) -/
noncomputable def spec_l01Kind (a1 : Int) : Option Bool :=
 (spec_l00In a1 0 5).bind fun r5 =>
 some r5
def spec_l01Kind_enc (r : Bool) : AV := .bool r
theorem spec_l01Kind_ok (a1 : Int) (r : Bool) (h : spec_l01Kind a1 = some r) : Ev (fun k => CN k 106 [.int .i64 a1] []) (fun p => rRes p.2 p.1 = spec_l01Kind_enc r) := by
 unfold spec_l01Kind at h
 obtain ⟨r5, hx4, h⟩ := bind_some h
 refine Ev.enter (F := fun k => f106 (CN k) k) (fun k => callN_eq rfl Tryd.func106 rfl rfl rfl (by decide +kernel) (f106_eq _ _)) (sq (Rg (kx (mvO rfl) (Rn (hN rfl hZ) fun e1 h3 => sN (sq (Rg (kx (mvO h3) (kc (cl (v := .bool r5) rfl (cns rfl (cns rfl (cns rfl rfl))) rfl (spec_l00In_ok a1 0 5 _ hx4) nm) (kx (mvO rfl) (Rn (hN rfl hZ) fun e6 h8 => sN (xx ?_)))))))))))
 clear h3
 obtain rfl := si h
 exact eR (resT h8 res0) rfl
/-! ### loop.example/g01263/laws.eqNotch (f101) -/
noncomputable def laws_eqNotch (a1 : Notch) (a2 : Notch) : Option Bool :=
 if (a1.Kind != a2.Kind) = true then
  some false
 else
  if (a1.At != a2.At) = true then
   some false
  else
   some true
def laws_eqNotch_enc (r : Bool) : AV := .bool r
theorem laws_eqNotch_ok (a1 : Notch) (a2 : Notch) (r : Bool) (h : laws_eqNotch a1 a2 = some r) : Ev (fun k => CN k 101 [.agg [.int .i8 a1.Kind, .int .i16 a1.At], .agg [.int .i8 a2.Kind, .int .i16 a2.At]] []) (fun p => rRes p.2 p.1 = laws_eqNotch_enc r) := by
 unfold laws_eqNotch at h
 refine Ev.enter (F := fun k => f101 (CN k) k) (fun k => callN_eq rfl Tryd.func101 rfl rfl rfl (by decide +kernel) (f101_eq _ _)) (sq (Rg (kx (bxI rfl rfl ⟨rfl, rfl, by decide⟩) (kx (bxI rfl rfl ⟨rfl, rfl, by decide⟩) (kx (mvO rfl) (Rn (hN rfl (hN rfl hZ)) fun e1 h3 h4 => sN (sq (sq (Rg (kx (faP h3 ⟨ble rfl, blt rfl⟩ rfl) (kx (ldP rfl rfl) (kx (faP h4 ⟨ble rfl, blt rfl⟩ rfl) (kx (ldP rfl rfl) (kx (bNeq rfl rfl) (Rn (hA h3 (hA h4 (hN rfl hZ))) fun e5 h7 h8 h9 => sN ?_)))))))))))))))
 clear h3 h4
 rcases ite_some h with ⟨hb10, h⟩ | ⟨hb10, h⟩
 ·refine cT h9 hb10 (sq (Rg (kx (mvO rfl) (Rn (hV (.bool false) rfl hZ) fun e11 h13 => sN (xx (sR ?_))))))
  clear h7 h8 h9
  obtain rfl := si h
  exact eR (resT h13 res0) rfl
 refine cF h9 hb10 (xx (sN (sq (sq (Rg (kx (faP h7 ⟨ble rfl, blt rfl⟩ rfl) (kx (ldP rfl rfl) (kx (faP h8 ⟨ble rfl, blt rfl⟩ rfl) (kx (ldP rfl rfl) (kx (bNeq rfl rfl) (Rn (hN rfl hZ) fun e14 h16 => sN ?_)))))))))))
 clear h7 h8 h9
 rcases ite_some h with ⟨hb17, h⟩ | ⟨hb17, h⟩
 ·refine cT h16 hb17 (sq (Rg (kx (mvO rfl) (Rn (hV (.bool false) rfl hZ) fun e18 h20 => sN (xx (sR ?_))))))
  clear h16
  obtain rfl := si h
  exact eR (resT h20 res0) rfl
 refine cF h16 hb17 (xx (sN (sq (Rg (kx (mvO rfl) (Rn (hV (.bool true) rfl hZ) fun e21 h23 => sN (xx ?_)))))))
 clear h16
 obtain rfl := si h
 exact eR (resT h23 res0) rfl
/-! ### loop.example/g01263/laws.toNotch (f100) -/
noncomputable def laws_toNotch (a1 : Notch) : Option (Int × Int) :=
 some (a1.Kind, a1.At)
def laws_toNotch_enc (r : Int × Int) : AV := .agg [.int .i8 r.1, .int .i16 r.2]
theorem laws_toNotch_ok (a1 : Notch) (r : Int × Int) (h : laws_toNotch a1 = some r) : Ev (fun k => CN k 100 [.agg [.int .i8 a1.Kind, .int .i16 a1.At]] []) (fun p => rRes p.2 p.1 = laws_toNotch_enc r) := by
 unfold laws_toNotch at h
 refine Ev.enter (F := fun k => f100 (CN k) k) (fun k => callN_eq rfl Tryd.func100 rfl rfl rfl (by decide +kernel) (f100_eq _ _)) (sq (Rg (kx (bxI rfl rfl ⟨rfl, rfl, by decide⟩) (ku (alO zero107) fun M2 hM3 => ?_))))
 have o4 : M2[([] : Mem).length]? = some (.live ⟨.box, 107, 2, [[.int .i8 0, .int .i16 0]]⟩) := push_new hM3
 refine Rn (hN rfl (hV (.loc ([] : Mem).length 1 0 0) rfl hZ)) fun e5 h7 h8 => sN (sq (Rg (ku (alO zero107) fun M10 hM11 => ?_)))
 have o12 := push_old hM11 o4
 have ne13 := ne_new o4
 have o14 : M10[M2.length]? = some (.live ⟨.box, 107, 2, [[.int .i8 0, .int .i16 0]]⟩) := push_new hM11
 refine Rn (hA h7 (hA h8 (hV (.loc M2.length 1 0 0) rfl hZ))) fun e15 h17 h18 h19 => sN (sq (Rg (kx (faP h17 ⟨ble rfl, blt rfl⟩ rfl) (kx (ldP rfl rfl) (kx (faO h19 o14 rfl) (kw (stO rfl rfl o14 rfl rfl ⟨rfl, ble rfl⟩ rfl rfl) fun M20 hM21 => ?_))))))
 clear h7 h8
 have o22 := set_ne hM21 ne13 o12
 have o23 : M20[M2.length]? = some (.live ⟨.box, 107, 2, [[.int .i8 a1.Kind, .int .i16 0]]⟩) := set_same hM21 o14
 refine Rn (hA h17 (hA h18 (hA h19 hZ))) fun e24 h26 h27 h28 => sN (sq (Rg (kx (faP h26 ⟨ble rfl, blt rfl⟩ rfl) (kx (ldP rfl rfl) (kx (faO h28 o23 rfl) (kw (stO rfl rfl o23 rfl rfl ⟨rfl, ble rfl⟩ rfl rfl) fun M29 hM30 => ?_))))))
 clear h17 h18 h19
 have o31 := set_ne hM30 ne13 o22
 have o32 : M29[M2.length]? = some (.live ⟨.box, 107, 2, [[.int .i8 a1.Kind, .int .i16 a1.At]]⟩) := set_same hM30 o23
 refine Rn (hA h27 (hA h28 hZ)) fun e33 h35 h36 => sN (sq (Rg (kx (ldOA h36 o32 rfl rfl (ble rfl) rfl) (kw (stO h35 rfl o31 rfl rfl ⟨rfl, ble rfl⟩ rfl rfl) fun M37 hM38 => ?_))))
 clear h26 h27 h28
 have o39 : M37[([] : Mem).length]? = some (.live ⟨.box, 107, 2, [[.int .i8 a1.Kind, .int .i16 a1.At]]⟩) := set_same hM38 o31
 have o40 := set_ne hM38 (Ne.symm ne13) o32
 refine Rn (hA h35 hZ) fun e41 h43 => sN (xx ?_)
 clear h35 h36
 obtain rfl := si h
 exact eR (resC (ag := true) (sz := 2) ⟨by kernel_rfl, by kernel_rfl, by kernel_rfl⟩ (ldOA h43 o39 rfl rfl (ble rfl) rfl) res0) rfl
/-! ### loop.example/g01263/spec.Decimal (f99) -/
noncomputable def spec_Decimal_F : Nat → Int → Option ((List UInt8))
  | 0, _ => none
  | k0 + 1, a1 =>
   if (decide (a1 < 10)) = true then
    (rem .i64 a1 10).bind fun n9 =>
    some (toB [(IntKind.u8.wrap (IntKind.i64.wrap (48 + n9)))])
   else
    (quo .i64 a1 10).bind fun n14 =>
    (spec_Decimal_F k0 n14).bind fun r17 =>
    (rem .i64 a1 10).bind fun n18 =>
    (sadd r17 (toB [(IntKind.u8.wrap (IntKind.i64.wrap (48 + n18)))])).bind fun w20 =>
    some w20
def spec_Decimal_enc (r : (List UInt8)) : AV := .str r
theorem spec_Decimal_F_ok : ∀ (k0 : Nat) (a1 : Int) (r : (List UInt8)) (h : spec_Decimal_F k0 a1 = some r), Ev (fun k => CN k 99 [.int .i64 a1] []) (fun p => rRes p.2 p.1 = spec_Decimal_enc r)
  | 0, a1, r, h => by cases h
  | k0 + 1, a1, r, h => by
   rw [spec_Decimal_F] at h
   refine Ev.enter (F := fun k => f99 (CN k) k) (fun k => callN_eq rfl Tryd.func99 rfl rfl rfl (by decide +kernel) (f99_eq _ _)) (sq (Rg (kx (mvO rfl) (Rn (hN rfl hZ) fun e1 h3 => sN (sq (sq (Rg (kx (mvO h3) (kx (bLss rfl rfl) (Rn (hA h3 (hN rfl hZ)) fun e4 h6 h7 => sN ?_))))))))))
   clear h3
   rcases ite_some h with ⟨hb8, h⟩ | ⟨hb8, h⟩
   ·obtain ⟨n9, hx10, h⟩ := bind_some h
    refine cT h7 hb8 (sq (Rg (kx (mvO h6) (kx (bRem rfl rfl hx10) (kx (bAdd rfl rfl) (kx (cvI rfl) (kx (litI (cns rfl rfl) rfl ⟨rfl, by decide⟩) (kx (cvB (elT (c := (cI .u8)) (xs := [(IntKind.u8.wrap (IntKind.i64.wrap (48 + n9)))]) rfl)) (kx (mvO rfl) (Rn (hN rfl hZ) fun e11 h13 => sN (xx (sR ?_))))))))))))
    clear h6 h7
    obtain rfl := si h
    exact eR (resT h13 res0) rfl
   obtain ⟨n14, hx15, h⟩ := bind_some h
   obtain ⟨r17, hx16, h⟩ := bind_some h
   obtain ⟨n18, hx19, h⟩ := bind_some h
   obtain ⟨w20, hx21, h⟩ := bind_some h
   refine cF h7 hb8 (xx (sN (sq (Rd (kf (mvO h6) (kf (bQuo rfl rfl hx15) (fc (cl (v := .str r17) rfl (cns rfl rfl) rfl (spec_Decimal_F_ok k0 n14 _ hx16) nm) (kf (mvO h6) (kf (bRem rfl rfl hx19) (kf (bAdd rfl rfl) (kf (cvI rfl) (kf (litI (cns rfl rfl) rfl ⟨rfl, by decide⟩) (kf (cvB (elT (c := (cI .u8)) (xs := [(IntKind.u8.wrap (IntKind.i64.wrap (48 + n18)))]) rfl)) (kf (sAdd rfl rfl hx21) (kf (mvO rfl) (fZ (Rn (hN rfl hZ) fun e22 h24 => sN (xx ?_))))))))))))))))))
   clear h6 h7
   obtain rfl := si h
   exact eR (resT h24 res0) rfl
noncomputable def spec_Decimal (a1 : Int) : Option ((List UInt8)) := spec_Decimal_F 64 a1
theorem spec_Decimal_ok (a1 : Int) (r : (List UInt8)) (h : spec_Decimal a1 = some r) : Ev (fun k => CN k 99 [.int .i64 a1] []) (fun p => rRes p.2 p.1 = spec_Decimal_enc r) := spec_Decimal_F_ok 64 a1 r h
/-! ### loop.example/g01263/spec.l01Letters (f98) -/
noncomputable def spec_l01Letters : Option Unit :=
 some ()
def spec_l01Letters_enc (r : Unit) : AV := .str ([100, 115, 108, 118, 99, 109] : List UInt8)
theorem spec_l01Letters_ok (r : Unit) (h : spec_l01Letters = some r) : Ev (fun k => CN k 98 [] []) (fun p => rRes p.2 p.1 = spec_l01Letters_enc r) := by
 unfold spec_l01Letters at h
 refine Ev.enter (F := fun k => f98 (CN k) k) (fun k => callN_eq rfl Tryd.func98 rfl rfl rfl (by decide +kernel) (f98_eq _ _)) (sq (Rg (kx (mvO rfl) (Rn hZ fun e1 => sN (sq (Rg (kx (mvO rfl) (Rn (hN rfl hZ) fun e3 h5 => sN (xx ?_)))))))))
 obtain rfl := si h
 exact eR (resT h5 res0) rfl
/-! ### loop.example/g01263/spec.l01Grain (f97) -/
abbrev spec_l01Grain_b1_S := Int
abbrev spec_l01Grain_b1_R := Unit ⊕ Unit
def spec_l01Grain_b1_RS (a1 : Ar 16 Int) (s : spec_l01Grain_b1_S) (e : Env) (M : Mem) : Prop := eget e 1 = .pt none (arC (cI .i8) 0 a1) ∧ eget e 3 = .int .i64 s
def spec_l01Grain_b1_RR (a1 : Ar 16 Int) (r : spec_l01Grain_b1_R) (x : Ex) (e : Env) (M : Mem) : Prop :=
  match r with
  | (.inl g) => x = .ret ∧ eget e 2 = .bool false
  | (.inr g) => x = .ext 0 ∧ True
noncomputable def spec_l01Grain_b1 (a1 : Ar 16 Int) : spec_l01Grain_b1_S → Option (spec_l01Grain_b1_S ⊕ spec_l01Grain_b1_R) := fun s1_1 =>
 if (decide (s1_1 < 16)) = true then
  (rdA a1 s1_1).bind fun x26 =>
  if (decide (x26 < (-3))) = true then
   some (.inr (.inl ()))
  else
   (rdA a1 s1_1).bind fun x37 =>
   if (decide (x37 > 3)) = true then
    some (.inr (.inl ()))
   else
    some (.inl (IntKind.i64.wrap (s1_1 + 1)))
 else
  some (.inr (.inr ()))
theorem spec_l01Grain_b1_ok (a1 : Ar 16 Int) (s : spec_l01Grain_b1_S) (r : spec_l01Grain_b1_S ⊕ spec_l01Grain_b1_R) (h : spec_l01Grain_b1 a1 s = some r) (e : Env) (M : Mem) (hs : spec_l01Grain_b1_RS a1 s e M) : Ev (fun k => (f97_l2 (CN k) k (prune [1, 3] e) M).bind fun q => some q) (bQ (spec_l01Grain_b1_RS a1) (spec_l01Grain_b1_RR a1) r) := by
 revert h hs
 revert s
 intro s1_1 h hs
 unfold spec_l01Grain_b1 at h
 obtain ⟨h16, h18⟩ := hs
 generalize he15 : prune [1, 3] e = e14
 have h17 := envp he15.symm rfl h16
 have h19 := envp he15.symm rfl h18
 refine sq (sq (Rg (kx (mvO h19) (kx (bLss rfl rfl) (Rn (hV (.pt none (arC (cI .i8) 0 a1)) h17 (hV (.int .i64 s1_1) h19 (hN rfl hZ))) fun e20 h22 h23 h24 => sN ?_)))))
 clear h17 h19
 rcases ite_some h with ⟨hb25, h⟩ | ⟨hb25, h⟩
 ·obtain ⟨x26, hx27, h⟩ := bind_some h
  refine cT h24 hb25 (xx (sN (sq (bl (sq (Rg (kx (mvO h23) (kx (ixPA (c := (cI .i8)) (z := 0) (g := a1) h22 rfl hx27 (fun _ => rfl)) (kx (ldP rfl rfl) (kx (bLss rfl rfl) (kx (mvO rfl) ?_)))))))))))
  rcases ite_some h with ⟨hb28, h⟩ | ⟨hb28, h⟩
  ·refine kx (gsF rfl hb28) (kx (gsF rfl hb28) (kx (gsF rfl hb28) (kx (gsF rfl hb28) (kx (pkT rfl hb28 rfl) (Rn (hA h22 (hA h23 (hV (.bool true) rfl hZ))) fun e29 h31 h32 h33 => sN (cT h33 rfl (sq (Rg (kx (mvO rfl) (Rn (hV (.bool false) rfl hZ) fun e34 h36 => sN (xx (bR (sR ?_)))))))))))))
   clear h22 h23 h24 h31 h32 h33
   obtain rfl := si h
   exact qR ⟨rfl, h36⟩
  obtain ⟨x37, hx38, h⟩ := bind_some h
  refine kx (guF rfl hb28 (mvO h23)) (kx (guF rfl hb28 (ixPA (c := (cI .i8)) (z := 0) (g := a1) h22 rfl hx38 (fun _ => rfl))) (kx (guF rfl hb28 (ldP rfl rfl)) (kx (guF rfl hb28 (bGtr rfl rfl)) (kx (pkF rfl hb28 rfl) (Rn (hA h22 (hA h23 (hN rfl hZ))) fun e39 h41 h42 h43 => sN ?_)))))
  clear h22 h23 h24
  rcases ite_some h with ⟨hb44, h⟩ | ⟨hb44, h⟩
  ·refine cT h43 hb44 (sq (Rg (kx (mvO rfl) (Rn (hV (.bool false) rfl hZ) fun e45 h47 => sN (xx (bR (sR ?_)))))))
   clear h41 h42 h43
   obtain rfl := si h
   exact qR ⟨rfl, h47⟩
  refine cF h43 hb44 (xx (bN (sN (Rg (kx (mvO h42) (kx (bAdd rfl rfl) (kx (mvO rfl) (Rn (hA h41 (hN rfl hZ)) fun e48 h50 h51 => ?_))))))))
  clear h41 h43
  obtain rfl := si h
  exact qN ⟨h50, h51⟩
 refine cF h24 hb25 (xx (sE ?_))
 obtain rfl := si h
 exact qE ⟨rfl, trivial⟩
noncomputable def spec_l01Grain (a1 : Ar 16 Int) : Option Bool :=
 (Lw (spec_l01Grain_b1 a1) 0).bind fun r => match r with
 | (.inl _) =>
  some false
 | (.inr _) =>
  some true
def spec_l01Grain_enc (r : Bool) : AV := .bool r
theorem spec_l01Grain_ok (a1 : Ar 16 Int) (r : Bool) (h : spec_l01Grain a1 = some r) : Ev (fun k => CN k 97 [.agg (arC (cI .i8) 0 a1)] []) (fun p => rRes p.2 p.1 = spec_l01Grain_enc r) := by
 unfold spec_l01Grain at h
 obtain ⟨r52, hr53, h⟩ := bind_some h
 refine Ev.enter (F := fun k => f97 (CN k) k) (fun k => callN_eq rfl Tryd.func97 rfl rfl rfl (by decide +kernel) (f97_eq _ _)) (sq (Rg (kx (bxI rfl rfl ⟨rfl, rfl, by decide⟩) (kx (mvO rfl) (Rn (hN rfl hZ) fun e1 h3 => sN (sq (sq (Rg (kx (mvO rfl) (Rn (hA h3 (hV (.int .i64 0) rfl hZ)) fun e4 h6 h7 => sN (bl ?_)))))))))))
 clear h3
 rcases r52 with _ | _
 ·refine Ev.loop (RS := spec_l01Grain_b1_RS a1) (RR := spec_l01Grain_b1_RR a1) (fun s r h e M hs => spec_l01Grain_b1_ok a1 s r h e M hs) hr53 ⟨h6, h7⟩ fun x e55 M56 hq54 => ?_
  obtain ⟨rfl, h57⟩ := hq54
  refine bR (sR ?_)
  obtain rfl := si h
  exact eR (resT h57 res0) rfl
 refine Ev.loop (RS := spec_l01Grain_b1_RS a1) (RR := spec_l01Grain_b1_RR a1) (fun s r h e M hs => spec_l01Grain_b1_ok a1 s r h e M hs) hr53 ⟨h6, h7⟩ fun x e58 M59 hq54 => ?_
 obtain ⟨rfl, _⟩ := hq54
 refine bE (sN (sq (Rg (kx (mvO rfl) (Rn (hV (.bool true) rfl hZ) fun e60 h62 => sN (xx ?_))))))
 obtain rfl := si h
 exact eR (resT h62 res0) rfl
/-! ### loop.example/g01263/spec.l01Notches (f96) -/
def spec_l01Notches_c2_Q (a1 : List Notch) (s1_1 : Int) (x34 : Notch) (i902_1 : Nat) (g : Bool) (q : Out) : Prop := q.1 = .nrm ∧ eget q.2.1 0 = .sl none (a1.map Notch.c) ∧ eget q.2.1 3 = .int .i64 s1_1 ∧ eget q.2.1 4 = .loc i902_1 1 0 0 ∧ eget q.2.1 32 = .bool g ∧ q.2.2[i902_1]? = some (.live ⟨.box, 107, 2, [[.int .i8 x34.Kind, .int .i16 x34.At]]⟩)
abbrev spec_l01Notches_b1_S := Int
abbrev spec_l01Notches_b1_R := Unit ⊕ Unit
def spec_l01Notches_b1_RS (a1 : List Notch) (s : spec_l01Notches_b1_S) (e : Env) (M : Mem) : Prop := eget e 0 = .sl none (a1.map Notch.c) ∧ eget e 3 = .int .i64 s
def spec_l01Notches_b1_RR (a1 : List Notch) (r : spec_l01Notches_b1_R) (x : Ex) (e : Env) (M : Mem) : Prop :=
  match r with
  | (.inl g) => x = .ret ∧ eget e 2 = .bool false
  | (.inr g) => x = .ext 0 ∧ True
noncomputable def spec_l01Notches_b1 (a1 : List Notch) : spec_l01Notches_b1_S → Option (spec_l01Notches_b1_S ⊕ spec_l01Notches_b1_R) := fun s1_1 =>
 if (decide (s1_1 < (a1.length : Int))) = true then
  (rd a1 s1_1).bind fun x34 =>
  ((spec_l01Kind (IntKind.i64.wrap x34.Kind)).bind fun r49 =>
  if r49 = true then
   if (decide (x34.At < 0)) = true then
    some true
   else
    (spec_l01Ends x34).bind fun r59 =>
    some (decide (r59 > 200))
  else
   some true).bind fun y74 =>
  if y74 = true then
   some (.inr (.inl ()))
  else
   if (decide (s1_1 > 0)) = true then
    (rd a1 (IntKind.i64.wrap (s1_1 - 1))).bind fun x85 =>
    if (decide (x34.Kind > x85.Kind)) = true then
     some (.inr (.inl ()))
    else
     (rd a1 (IntKind.i64.wrap (s1_1 - 1))).bind fun x96 =>
     (spec_l01Ends x96).bind fun r99 =>
     if (decide ((IntKind.i64.wrap x34.At) ≤ r99)) = true then
      some (.inr (.inl ()))
     else
      some (.inl (IntKind.i64.wrap (s1_1 + 1)))
   else
    some (.inl (IntKind.i64.wrap (s1_1 + 1)))
 else
  some (.inr (.inr ()))
theorem spec_l01Notches_b1_ok (a1 : List Notch) (s : spec_l01Notches_b1_S) (r : spec_l01Notches_b1_S ⊕ spec_l01Notches_b1_R) (h : spec_l01Notches_b1 a1 s = some r) (e : Env) (M : Mem) (hs : spec_l01Notches_b1_RS a1 s e M) : Ev (fun k => (f96_l4 (CN k) k (prune [0, 3] e) M).bind fun q => some q) (bQ (spec_l01Notches_b1_RS a1) (spec_l01Notches_b1_RR a1) r) := by
 revert h hs
 revert s
 intro s1_1 h hs
 unfold spec_l01Notches_b1 at h
 obtain ⟨h24, h26⟩ := hs
 generalize he23 : prune [0, 3] e = e22
 have h25 := envp he23.symm rfl h24
 have h27 := envp he23.symm rfl h26
 refine sq (sq (Rg (kx (mvO h27) (kx (mvO h25) (kx (lnS Tryd.underlying26 rfl) (kx (bLss rfl rfl) (Rn (hV (.sl none (a1.map Notch.c)) h25 (hV (.int .i64 s1_1) h27 (hN rfl hZ))) fun e28 h30 h31 h32 => sN ?_)))))))
 clear h25 h27
 rcases ite_some h with ⟨hb33, h⟩ | ⟨hb33, h⟩
 ·obtain ⟨x34, hx35, h⟩ := bind_some h
  refine cT h32 hb33 (xx (sN (sq (bl (sq (Rg (kx (mvO h30) (kx (mvO h31) (kx (ixS rfl rfl hx35 Notch.fl) (kx (ldPA rfl rfl rfl) (ku (alO zero107) fun M37 hM38 => ?_)))))))))))
  have o39 : M37[M.length]? = some (.live ⟨.box, 107, 2, [[.int .i8 0, .int .i16 0]]⟩) := push_new hM38
  refine kw (stO rfl rfl o39 rfl rfl ⟨rfl, ble rfl⟩ rfl rfl) fun M40 hM41 => ?_
  have o42 : M40[M.length]? = some (.live ⟨.box, 107, 2, [[.int .i8 x34.Kind, .int .i16 x34.At]]⟩) := set_same hM41 o39
  obtain ⟨r123, hr124, h⟩ := bind_some h
  refine Rn (hA h30 (hA h31 (hV (.loc M.length 1 0 0) rfl hZ))) fun e43 h45 h46 h47 => sN (sq (sq ?_))
  clear h30 h31 h32
  refine Ev.cut (Q1 := spec_l01Notches_c2_Q a1 s1_1 x34 M.length r123) (by
      have h := hr124
      obtain ⟨r49, hx48, h⟩ := bind_some h
      refine Rg (kx (faO h47 o42 rfl) (kx (ldO rfl o42 rfl rfl rfl) (kx (cvI rfl) (kc (cl (v := .bool r49) rfl (cns rfl rfl) rfl (spec_l01Kind_ok (IntKind.i64.wrap x34.Kind) _ hx48) nm) (kx (uNot rfl) (kx (mvO rfl) ?_))))))
      rcases ite_some h with ⟨hb50, h⟩ | ⟨hb50, h⟩
      ·refine kx (guF rfl (congrArg Bool.not hb50) (faO h47 o42 rfl)) (kx (guF rfl (congrArg Bool.not hb50) (ldO rfl o42 rfl rfl rfl)) (kx (guF rfl (congrArg Bool.not hb50) (bLss rfl rfl)) (kx (pkF rfl (congrArg Bool.not hb50) rfl) (kx (mvO rfl) ?_))))
       rcases ite_some h with ⟨hb51, h⟩ | ⟨hb51, h⟩
       ·refine kx (gsF rfl hb51) (kc (Ev.gsF rfl hb51) (kx (gsF rfl hb51) (kx (pkT rfl hb51 rfl) (Rn (hA h45 (hA h46 (hA h47 (hV (.bool true) rfl hZ)))) fun e52 h54 h55 h56 h57 => ?_))))
        clear h45 h46 h47
        obtain rfl := si h
        exact kd (show spec_l01Notches_c2_Q a1 s1_1 x34 M.length _ _ from ⟨rfl, h54, h55, h56, h57, o42⟩)
       obtain ⟨r59, hx58, h⟩ := bind_some h
       refine kx (guF rfl hb51 (ldOA h47 o42 rfl rfl (ble rfl) rfl)) (kc (Ev.guF rfl hb51 (cl (v := .int .i64 r59) rfl (cns rfl rfl) rfl (spec_l01Ends_ok x34 _ hx58) nm)) (kx (guF rfl hb51 (bGtr rfl rfl)) (kx (pkF rfl hb51 rfl) (Rn (hA h45 (hA h46 (hA h47 (hN rfl hZ)))) fun e60 h62 h63 h64 h65 => ?_))))
       clear h45 h46 h47
       obtain rfl := si h
       exact kd (show spec_l01Notches_c2_Q a1 s1_1 x34 M.length _ _ from ⟨rfl, h62, h63, h64, h65, o42⟩)
      refine kx (gsF rfl (congrArg Bool.not hb50)) (kx (gsF rfl (congrArg Bool.not hb50)) (kx (gsF rfl (congrArg Bool.not hb50)) (kx (pkT rfl (congrArg Bool.not hb50) rfl) (kx (mvO rfl) (kx (gsF rfl rfl) (kc (Ev.gsF rfl rfl) (kx (gsF rfl rfl) (kx (pkT rfl rfl rfl) (Rn (hA h45 (hA h46 (hA h47 (hV (.bool true) rfl hZ)))) fun e66 h68 h69 h70 h71 => ?_)))))))))
      clear h45 h46 h47
      obtain rfl := si h
      exact kd (show spec_l01Notches_c2_Q a1 s1_1 x34 M.length _ _ from ⟨rfl, h68, h69, h70, h71, o42⟩)) ?_
  revert h hr124
  revert r123
  intro y74 hr124 h
  intro x e72 M73 hq122
  obtain ⟨rfl, h75, h76, h77, h78, o79⟩ := hq122
  refine sN ?_
  rcases ite_some h with ⟨hb80, h⟩ | ⟨hb80, h⟩
  ·refine cT h78 hb80 (sq (Rg (kx (mvO rfl) (Rn (hV (.bool false) rfl hZ) fun e81 h83 => sN (xx (sR (bR (sR ?_))))))))
   clear h75 h76 h77 h78
   obtain rfl := si h
   exact qR ⟨rfl, h83⟩
  refine cF h78 hb80 (xx (sN (sq (Rd (kf (mvO h76) (kf (bGtr rfl rfl) (kf (mvO rfl) ?_)))))))
  rcases ite_some h with ⟨hb84, h⟩ | ⟨hb84, h⟩
  ·obtain ⟨x85, hx86, h⟩ := bind_some h
   refine kf (guT rfl hb84 (faO h77 o79 rfl)) (kf (guT rfl hb84 (ldO rfl o79 rfl rfl rfl)) (kf (guT rfl hb84 (mvO h75)) (kf (guT rfl hb84 (mvO h76)) (kf (guT rfl hb84 (bSub rfl rfl)) (kf (guT rfl hb84 (ixS rfl rfl hx86 Notch.fl)) (kf (guT rfl hb84 (faP rfl ⟨ble rfl, blt rfl⟩ rfl)) (kf (guT rfl hb84 (ldP rfl rfl)) (kf (guT rfl hb84 (bGtr rfl rfl)) (kf (guT rfl hb84 (mvO rfl)) ?_)))))))))
   rcases ite_some h with ⟨hb87, h⟩ | ⟨hb87, h⟩
   ·refine kf (gsF rfl hb87) (kf (gsF rfl hb87) (kf (gsF rfl hb87) (kf (gsF rfl hb87) (kf (gsF rfl hb87) (kf (gsF rfl hb87) (kf (gsF rfl hb87) (kf (gsF rfl hb87) (fc (Ev.gsF rfl hb87) (kf (gsF rfl hb87) (kf (guT rfl hb84 (pkT rfl hb87 rfl)) (kf (pkT rfl hb84 rfl) (fZ (Rn (hV (.sl none (a1.map Notch.c)) h75 (hV (.int .i64 s1_1) h76 (hV (.bool true) rfl hZ))) fun e88 h90 h91 h92 => sN (cT h92 rfl (sq (Rg (kx (mvO rfl) (Rn (hV (.bool false) rfl hZ) fun e93 h95 => sN (xx (bR (sR ?_)))))))))))))))))))))
    clear h75 h76 h77 h78 h90 h91 h92
    obtain rfl := si h
    exact qR ⟨rfl, h95⟩
   obtain ⟨x96, hx97, h⟩ := bind_some h
   obtain ⟨r99, hx98, h⟩ := bind_some h
   refine kf (guF rfl hb87 (faO h77 o79 rfl)) (kf (guF rfl hb87 (ldO rfl o79 rfl rfl rfl)) (kf (guF rfl hb87 (cvI rfl)) (kf (guF rfl hb87 (mvO h75)) (kf (guF rfl hb87 (mvO h76)) (kf (guF rfl hb87 (bSub rfl rfl)) (kf (guF rfl hb87 (ixS rfl rfl hx97 Notch.fl)) (kf (guF rfl hb87 (ldPA rfl rfl rfl)) (fc (Ev.guF rfl hb87 (cl (v := .int .i64 r99) rfl (cns rfl rfl) rfl (spec_l01Ends_ok x96 _ hx98) nm)) (kf (guF rfl hb87 (bLeq rfl rfl)) (kf (guT rfl hb84 (pkF rfl hb87 rfl)) (kf (pkT rfl hb84 rfl) (fZ (Rn (hV (.sl none (a1.map Notch.c)) h75 (hV (.int .i64 s1_1) h76 (hN rfl hZ))) fun e100 h102 h103 h104 => sN ?_)))))))))))))
   clear h75 h76 h77 h78
   rcases ite_some h with ⟨hb105, h⟩ | ⟨hb105, h⟩
   ·refine cT h104 hb105 (sq (Rg (kx (mvO rfl) (Rn (hV (.bool false) rfl hZ) fun e106 h108 => sN (xx (bR (sR ?_)))))))
    clear h102 h103 h104
    obtain rfl := si h
    exact qR ⟨rfl, h108⟩
   refine cF h104 hb105 (xx (bN (sN (Rg (kx (mvO h103) (kx (bAdd rfl rfl) (kx (mvO rfl) (Rn (hA h102 (hN rfl hZ)) fun e109 h111 h112 => ?_))))))))
   clear h102 h104
   obtain rfl := si h
   exact qN ⟨h111, h112⟩
  refine kf (gsT rfl hb84) (kf (gsT rfl hb84) (kf (gsT rfl hb84) (kf (gsT rfl hb84) (kf (gsT rfl hb84) (kf (gsT rfl hb84) (kf (gsT rfl hb84) (kf (gsT rfl hb84) (kf (gsT rfl hb84) (kf (gsT rfl hb84) (kf (gsU rfl) (kf (gsU rfl) (kf (gsU rfl) (kf (gsU rfl) (kf (gsU rfl) (kf (gsU rfl) (kf (gsU rfl) (kf (gsU rfl) (fc (Ev.gsU rfl) (kf (gsU rfl) (kf (gsT rfl hb84) (kf (pkF rfl hb84 rfl) (fZ (Rn (hV (.sl none (a1.map Notch.c)) h75 (hV (.int .i64 s1_1) h76 (hV (.bool false) rfl hZ))) fun e113 h115 h116 h117 => sN (cF h117 rfl (xx (bN (sN (Rg (kx (mvO h116) (kx (bAdd rfl rfl) (kx (mvO rfl) (Rn (hA h115 (hN rfl hZ)) fun e118 h120 h121 => ?_))))))))))))))))))))))))))))))))
  clear h75 h76 h77 h78 h115 h117
  obtain rfl := si h
  exact qN ⟨h120, h121⟩
 refine cF h32 hb33 (xx (sE ?_))
 obtain rfl := si h
 exact qE ⟨rfl, trivial⟩
noncomputable def spec_l01Notches (a1 : List Notch) : Option Bool :=
 if (decide ((a1.length : Int) > 60)) = true then
  some false
 else
  (Lw (spec_l01Notches_b1 a1) 0).bind fun r => match r with
  | (.inl _) =>
   some false
  | (.inr _) =>
   some true
def spec_l01Notches_enc (r : Bool) : AV := .bool r
theorem spec_l01Notches_ok (a1 : List Notch) (r : Bool) (h : spec_l01Notches a1 = some r) : Ev (fun k => CN k 96 [.sl none (a1.map Notch.c)] []) (fun p => rRes p.2 p.1 = spec_l01Notches_enc r) := by
 unfold spec_l01Notches at h
 refine Ev.enter (F := fun k => f96 (CN k) k) (fun k => callN_eq rfl Tryd.func96 rfl rfl rfl (by decide +kernel) (f96_eq _ _)) (sq (Rg (kx (mvO rfl) (Rn (hN rfl hZ) fun e1 h3 => sN (sq (sq (Rg (kx (mvO h3) (kx (lnS Tryd.underlying26 rfl) (kx (bGtr rfl rfl) (Rn (hA h3 (hN rfl hZ)) fun e4 h6 h7 => sN ?_)))))))))))
 clear h3
 rcases ite_some h with ⟨hb8, h⟩ | ⟨hb8, h⟩
 ·refine cT h7 hb8 (sq (Rg (kx (mvO rfl) (Rn (hV (.bool false) rfl hZ) fun e9 h11 => sN (xx (sR ?_))))))
  clear h6 h7
  obtain rfl := si h
  exact eR (resT h11 res0) rfl
 obtain ⟨r125, hr126, h⟩ := bind_some h
 refine cF h7 hb8 (xx (sN (sq (sq (Rg (kx (mvO rfl) (Rn (hA h6 (hV (.int .i64 0) rfl hZ)) fun e12 h14 h15 => sN (bl ?_))))))))
 clear h6 h7
 rcases r125 with _ | _
 ·refine Ev.loop (RS := spec_l01Notches_b1_RS a1) (RR := spec_l01Notches_b1_RR a1) (fun s r h e M hs => spec_l01Notches_b1_ok a1 s r h e M hs) hr126 ⟨h14, h15⟩ fun x e128 M129 hq127 => ?_
  obtain ⟨rfl, h130⟩ := hq127
  refine bR (sR ?_)
  obtain rfl := si h
  exact eR (resT h130 res0) rfl
 refine Ev.loop (RS := spec_l01Notches_b1_RS a1) (RR := spec_l01Notches_b1_RR a1) (fun s r h e M hs => spec_l01Notches_b1_ok a1 s r h e M hs) hr126 ⟨h14, h15⟩ fun x e131 M132 hq127 => ?_
 obtain ⟨rfl, _⟩ := hq127
 refine bE (sN (sq (Rg (kx (mvO rfl) (Rn (hV (.bool true) rfl hZ) fun e133 h135 => sN (xx ?_))))))
 obtain rfl := si h
 exact eR (resT h135 res0) rfl
/-! ### strconv.FormatInt (f102), by its contract -/
noncomputable def strconv_FormatInt (a1 : Int) (a2 : Int) : Option (List UInt8) := fmtI a1 a2
def strconv_FormatInt_enc (r : List UInt8) : AV := .str r
theorem strconv_FormatInt_ok (a1 : Int) (a2 : Int) (r : List UInt8) (h : strconv_FormatInt a1 a2 = some r) : Ev (fun k => CN k 102 [.int .i64 a1, .int .i64 a2] []) (fun p => rRes p.2 p.1 = strconv_FormatInt_enc r) := Ev.lib rfl rfl (lib_fmt h) rfl
/-! ### loop.example/g01263/impl.decimal (f93) -/
noncomputable def impl_decimal (a1 : Int) : Option ((List UInt8)) :=
 (strconv_FormatInt a1 10).bind fun r5 =>
 some r5
def impl_decimal_enc (r : (List UInt8)) : AV := .str r
theorem impl_decimal_ok (a1 : Int) (r : (List UInt8)) (h : impl_decimal a1 = some r) : Ev (fun k => CN k 93 [.int .i64 a1] []) (fun p => rRes p.2 p.1 = impl_decimal_enc r) := by
 unfold impl_decimal at h
 obtain ⟨r5, hx4, h⟩ := bind_some h
 refine Ev.enter (F := fun k => f93 (CN k) k) (fun k => callN_eq rfl Tryd.func93 rfl rfl rfl (by decide +kernel) (f93_eq _ _)) (sq (Rg (kx (mvO rfl) (Rn (hN rfl hZ) fun e1 h3 => sN (sq (Rg (kx (mvO h3) (kc (cl (v := .str r5) rfl (cns rfl (cns rfl rfl)) rfl (strconv_FormatInt_ok a1 10 _ hx4) nm) (kx (mvO rfl) (Rn (hN rfl hZ) fun e6 h8 => sN (xx ?_)))))))))))
 clear h3
 obtain rfl := si h
 exact eR (resT h8 res0) rfl
/-! ### loop.example/g01263/impl.width (f92) -/
noncomputable def impl_width (a1 : Int) : Option Int :=
 (rd [1, 2, 4, 6, 9, 12] a1).bind fun x4 =>
 some x4
def impl_width_enc (r : Int) : AV := .int .i64 r
theorem impl_width_ok (a1 : Int) (r : Int) (h : impl_width a1 = some r) : Ev (fun k => CN k 92 [.int .i64 a1] []) (fun p => rRes p.2 p.1 = impl_width_enc r) := by
 unfold impl_width at h
 obtain ⟨x4, hx5, h⟩ := bind_some h
 refine Ev.enter (F := fun k => f92 (CN k) k) (fun k => callN_eq rfl Tryd.func92 rfl rfl rfl (by decide +kernel) (f92_eq _ _)) (sq (Rg (kx (mvO rfl) (Rn (hN rfl hZ) fun e1 h3 => sN (sq (Rg (kx (litI (cns rfl (cns rfl (cns rfl (cns rfl (cns rfl (cns rfl rfl)))))) rfl ⟨rfl, by decide⟩) (kx (mvO h3) (kx (ixLt rfl rfl hx5 (cI_fl _)) (kx (ldP rfl rfl) (kx (mvO rfl) (Rn (hN rfl hZ) fun e6 h8 => sN (xx ?_)))))))))))))
 clear h3
 obtain rfl := si h
 exact eR (resT h8 res0) rfl
/-! ### loop.example/g01263/laws.heldNotchS (f88) -/
abbrev laws_heldNotchS_b1_S := Int × Int
abbrev laws_heldNotchS_b1_R := Unit ⊕ Int
def laws_heldNotchS_b1_RS (a1 : List Notch) (s : laws_heldNotchS_b1_S) (e : Env) (M : Mem) : Prop := eget e 0 = .sl none (a1.map Notch.c) ∧ eget e 1 = .int .i64 s.1 ∧ eget e 5 = .int .i64 s.2
def laws_heldNotchS_b1_RR (a1 : List Notch) (r : laws_heldNotchS_b1_R) (x : Ex) (e : Env) (M : Mem) : Prop :=
  match r with
  | (.inl g) => x = .ret ∧ eget e 4 = .int .i64 (-1)
  | (.inr g) => x = .ext 0 ∧ eget e 1 = .int .i64 g
noncomputable def laws_heldNotchS_b1 (a1 : List Notch) : laws_heldNotchS_b1_S → Option (laws_heldNotchS_b1_S ⊕ laws_heldNotchS_b1_R) := fun (s1_1, s1_2) =>
 if (decide (s1_2 < (a1.length : Int))) = true then
  (rd a1 s1_2).bind fun x33 =>
  if (x33.Kind != (IntKind.i8.wrap s1_1)) = true then
   some (.inr (.inl ()))
  else
   (rd a1 s1_2).bind fun x50 =>
   if (x50.At != (IntKind.i16.wrap (IntKind.i64.wrap (s1_1 + 1)))) = true then
    some (.inr (.inl ()))
   else
    some (.inl ((IntKind.i64.wrap ((IntKind.i64.wrap (s1_1 + 1)) + 1)), (IntKind.i64.wrap (s1_2 + 1))))
 else
  some (.inr (.inr s1_1))
theorem laws_heldNotchS_b1_ok (a1 : List Notch) (s : laws_heldNotchS_b1_S) (r : laws_heldNotchS_b1_S ⊕ laws_heldNotchS_b1_R) (h : laws_heldNotchS_b1 a1 s = some r) (e : Env) (M : Mem) (hs : laws_heldNotchS_b1_RS a1 s e M) : Ev (fun k => (f88_l2 (CN k) k (prune [0, 1, 5] e) M).bind fun q => some q) (bQ (laws_heldNotchS_b1_RS a1) (laws_heldNotchS_b1_RR a1) r) := by
 obtain ⟨s1_1, s1_2⟩ := s
 unfold laws_heldNotchS_b1 at h
 obtain ⟨h20, h22, h24⟩ := hs
 generalize he19 : prune [0, 1, 5] e = e18
 have h21 := envp he19.symm rfl h20
 have h23 := envp he19.symm rfl h22
 have h25 := envp he19.symm rfl h24
 refine sq (sq (Rg (kx (mvO h25) (kx (mvO h21) (kx (lnS Tryd.underlying26 rfl) (kx (bLss rfl rfl) (Rn (hV (.sl none (a1.map Notch.c)) h21 (hV (.int .i64 s1_1) h23 (hV (.int .i64 s1_2) h25 (hN rfl hZ)))) fun e26 h28 h29 h30 h31 => sN ?_)))))))
 clear h21 h23 h25
 rcases ite_some h with ⟨hb32, h⟩ | ⟨hb32, h⟩
 ·obtain ⟨x33, hx34, h⟩ := bind_some h
  refine cT h31 hb32 (xx (sN (sq (bl (sq (sq (Rg (kx (mvO h28) (kx (mvO h30) (kx (ixS rfl rfl hx34 Notch.fl) (kx (faP rfl ⟨ble rfl, blt rfl⟩ rfl) (kx (ldP rfl rfl) (kx (mvO h29) (kx (cvI rfl) (kx (bNeq rfl rfl) (Rn (hA h28 (hA h29 (hA h30 (hN rfl hZ)))) fun e35 h37 h38 h39 h40 => sN ?_))))))))))))))))
  clear h28 h29 h30 h31
  rcases ite_some h with ⟨hb41, h⟩ | ⟨hb41, h⟩
  ·refine cT h40 hb41 (sq (Rg (kx (mvO rfl) (Rn (hV (.int .i64 (-1)) rfl hZ) fun e42 h44 => sN (xx (sR (bR (sR ?_))))))))
   clear h37 h38 h39 h40
   obtain rfl := si h
   exact qR ⟨rfl, h44⟩
  obtain ⟨x50, hx51, h⟩ := bind_some h
  refine cF h40 hb41 (xx (sN (sq (Rg (kx (mvO h38) (kx (bAdd rfl rfl) (kx (mvO rfl) (Rn (hA h37 (hN rfl (hA h39 hZ))) fun e45 h47 h48 h49 => sN (sq (sq (Rg (kx (mvO h47) (kx (mvO h49) (kx (ixS rfl rfl hx51 Notch.fl) (kx (faP rfl ⟨ble rfl, blt rfl⟩ rfl) (kx (ldP rfl rfl) (kx (mvO h48) (kx (cvI rfl) (kx (bNeq rfl rfl) (Rn (hA h47 (hA h48 (hA h49 (hN rfl hZ)))) fun e52 h54 h55 h56 h57 => sN ?_))))))))))))))))))))
  clear h37 h39 h40 h47 h48 h49
  rcases ite_some h with ⟨hb58, h⟩ | ⟨hb58, h⟩
  ·refine cT h57 hb58 (sq (Rg (kx (mvO rfl) (Rn (hV (.int .i64 (-1)) rfl hZ) fun e59 h61 => sN (xx (sR (bR (sR ?_))))))))
   clear h54 h55 h56 h57
   obtain rfl := si h
   exact qR ⟨rfl, h61⟩
  refine cF h57 hb58 (xx (sN (Rg (kx (mvO h55) (kx (bAdd rfl rfl) (kx (mvO rfl) (Rn (hA h54 (hN rfl (hA h56 hZ))) fun e62 h64 h65 h66 => bN (sN (Rg (kx (mvO h66) (kx (bAdd rfl rfl) (kx (mvO rfl) (Rn (hA h64 (hA h65 (hN rfl hZ))) fun e67 h69 h70 h71 => ?_)))))))))))))
  clear h54 h56 h57 h64 h65
  obtain rfl := si h
  exact qN ⟨h69, h70, h71⟩
 refine cF h31 hb32 (xx (sE ?_))
 obtain rfl := si h
 exact qE ⟨rfl, h29⟩
noncomputable def laws_heldNotchS (a1 : List Notch) (a2 : Int) : Option Int :=
 (Lw (laws_heldNotchS_b1 a1) (a2, 0)).bind fun r => match r with
 | (.inl _) =>
  some (-1)
 | (.inr y80) =>
  some y80
def laws_heldNotchS_enc (r : Int) : AV := .int .i64 r
theorem laws_heldNotchS_ok (a1 : List Notch) (a2 : Int) (r : Int) (h : laws_heldNotchS a1 a2 = some r) : Ev (fun k => CN k 88 [.sl none (a1.map Notch.c), .int .i64 a2] []) (fun p => rRes p.2 p.1 = laws_heldNotchS_enc r) := by
 unfold laws_heldNotchS at h
 obtain ⟨r72, hr73, h⟩ := bind_some h
 refine Ev.enter (F := fun k => f88 (CN k) k) (fun k => callN_eq rfl Tryd.func88 rfl rfl rfl (by decide +kernel) (f88_eq _ _)) (sq (Rg (kx (mvO rfl) (Rn (hN rfl (hN rfl hZ)) fun e1 h3 h4 => sN (sq (sq (Rg (kx (mvO rfl) (Rn (hA h3 (hA h4 (hV (.int .i64 0) rfl hZ))) fun e5 h7 h8 h9 => sN (bl ?_))))))))))
 clear h3 h4
 rcases r72 with _ | y80
 ·refine Ev.loop (RS := laws_heldNotchS_b1_RS a1) (RR := laws_heldNotchS_b1_RR a1) (fun s r h e M hs => laws_heldNotchS_b1_ok a1 s r h e M hs) hr73 ⟨h7, h8, h9⟩ fun x e75 M76 hq74 => ?_
  obtain ⟨rfl, h77⟩ := hq74
  refine bR (sR ?_)
  obtain rfl := si h
  exact eR (resT h77 res0) rfl
 refine Ev.loop (RS := laws_heldNotchS_b1_RS a1) (RR := laws_heldNotchS_b1_RR a1) (fun s r h e M hs => laws_heldNotchS_b1_ok a1 s r h e M hs) hr73 ⟨h7, h8, h9⟩ fun x e78 M79 hq74 => ?_
 obtain ⟨rfl, h81⟩ := hq74
 refine bE (sN (sq (Rg (kx (mvO h81) (kx (mvO rfl) (Rn (hN rfl hZ) fun e82 h84 => sN (xx ?_)))))))
 clear h81
 obtain rfl := si h
 exact eR (resT h84 res0) rfl
/-! ### loop.example/g01263/laws.markText (f87) -/
abbrev laws_markText_b1_S := Int × (List UInt8)
abbrev laws_markText_b1_R := (List UInt8)
def laws_markText_b1_RS (s : laws_markText_b1_S) (e : Env) (M : Mem) : Prop := eget e 0 = .int .i64 s.1 ∧ eget e 3 = .str s.2
def laws_markText_b1_RR (g : laws_markText_b1_R) (x : Ex) (e : Env) (M : Mem) : Prop := x = .ext 0 ∧ eget e 3 = .str g
noncomputable def laws_markText_b1 : laws_markText_b1_S → Option (laws_markText_b1_S ⊕ laws_markText_b1_R) := fun (s1_1, s1_2) =>
 if (decide (s1_1 > 0)) = true then
  (rem .i64 s1_1 10).bind fun n34 =>
  (sadd (toB [(IntKind.u8.wrap (IntKind.i64.wrap (48 + n34)))]) s1_2).bind fun w36 =>
  (quo .i64 s1_1 10).bind fun n42 =>
  some (.inl (n42, w36))
 else
  some (.inr s1_2)
theorem laws_markText_b1_ok (s : laws_markText_b1_S) (r : laws_markText_b1_S ⊕ laws_markText_b1_R) (h : laws_markText_b1 s = some r) (e : Env) (M : Mem) (hs : laws_markText_b1_RS s e M) : Ev (fun k => (f87_l4 (CN k) k (prune [0, 3] e) M).bind fun q => some q) (bQ (laws_markText_b1_RS) (laws_markText_b1_RR) r) := by
 obtain ⟨s1_1, s1_2⟩ := s
 unfold laws_markText_b1 at h
 obtain ⟨h24, h26⟩ := hs
 generalize he23 : prune [0, 3] e = e22
 have h25 := envp he23.symm rfl h24
 have h27 := envp he23.symm rfl h26
 refine sq (sq (Rg (kx (mvO h25) (kx (bGtr rfl rfl) (Rn (hV (.int .i64 s1_1) h25 (hV (.str s1_2) h27 (hN rfl hZ))) fun e28 h30 h31 h32 => sN ?_)))))
 clear h25 h27
 rcases ite_some h with ⟨hb33, h⟩ | ⟨hb33, h⟩
 ·obtain ⟨n34, hx35, h⟩ := bind_some h
  obtain ⟨w36, hx37, h⟩ := bind_some h
  obtain ⟨n42, hx43, h⟩ := bind_some h
  refine cT h32 hb33 (xx (sN (bl (sq (Rg (kx (mvO h30) (kx (bRem rfl rfl hx35) (kx (bAdd rfl rfl) (kx (cvI rfl) (kx (litI (cns rfl rfl) rfl ⟨rfl, by decide⟩) (kx (cvB (elT (c := (cI .u8)) (xs := [(IntKind.u8.wrap (IntKind.i64.wrap (48 + n34)))]) rfl)) (kx (mvO h31) (kx (sAdd rfl rfl hx37) (kx (mvO rfl) (Rn (hA h30 (hN rfl hZ)) fun e38 h40 h41 => sN (Rg (kx (mvO h40) (kx (bQuo rfl rfl hx43) (kx (mvO rfl) (Rn (hN rfl (hA h41 hZ)) fun e44 h46 h47 => bN ?_))))))))))))))))))))
  clear h30 h32 h41
  obtain rfl := si h
  exact qN ⟨h46, h47⟩
 refine cF h32 hb33 (xx (sE ?_))
 obtain rfl := si h
 exact qE ⟨rfl, h31⟩
noncomputable def laws_markText (a1 : Int) : Option ((List UInt8)) :=
 if (decide (a1 ≤ 0)) = true then
  some ([109, 48] : List UInt8)
 else
  (Lw (laws_markText_b1) (a1, ([] : List UInt8))).bind fun y53 =>
  (sadd ([109] : List UInt8) y53).bind fun w55 =>
  some w55
def laws_markText_enc (r : (List UInt8)) : AV := .str r
theorem laws_markText_ok (a1 : Int) (r : (List UInt8)) (h : laws_markText a1 = some r) : Ev (fun k => CN k 87 [.int .i64 a1] []) (fun p => rRes p.2 p.1 = laws_markText_enc r) := by
 unfold laws_markText at h
 refine Ev.enter (F := fun k => f87 (CN k) k) (fun k => callN_eq rfl Tryd.func87 rfl rfl rfl (by decide +kernel) (f87_eq _ _)) (sq (Rg (kx (mvO rfl) (Rn (hN rfl hZ) fun e1 h3 => sN (sq (sq (Rg (kx (mvO h3) (kx (bLeq rfl rfl) (Rn (hA h3 (hN rfl hZ)) fun e4 h6 h7 => sN ?_))))))))))
 clear h3
 rcases ite_some h with ⟨hb8, h⟩ | ⟨hb8, h⟩
 ·refine cT h7 hb8 (sq (Rg (kx (mvO rfl) (Rn (hN rfl hZ) fun e9 h11 => sN (xx (sR ?_))))))
  clear h6 h7
  obtain rfl := si h
  exact eR (resT h11 res0) rfl
 obtain ⟨y53, hr49, h⟩ := bind_some h
 refine cF h7 hb8 (xx (sN (sq (Rg (kx (mvO rfl) (Rn (hA h6 (hN rfl hZ)) fun e12 h14 h15 => sN (sq (bl (Ev.loop (RS := laws_markText_b1_RS) (RR := laws_markText_b1_RR) (fun s r h e M hs => laws_markText_b1_ok s r h e M hs) hr49 ⟨h14, h15⟩ fun x e51 M52 hq50 => ?_)))))))))
 clear h6 h7
 obtain ⟨rfl, h54⟩ := hq50
 obtain ⟨w55, hx56, h⟩ := bind_some h
 refine bE (sN (sq (Rg (kx (mvO h54) (kx (sAdd rfl rfl hx56) (kx (mvO rfl) (Rn (hN rfl hZ) fun e57 h59 => sN (xx ?_))))))))
 clear h54
 obtain rfl := si h
 exact eR (resT h59 res0) rfl
/-! ### loop.example/g01263/laws.eqMark (f85) -/
noncomputable def laws_eqMark (a1 : Mark) (a2 : Mark) : Option Bool :=
 if (a1.Holder == a2.Holder) = true then
  if (a1.Seal != a2.Seal) = true then
   some false
  else
   some true
 else
  some false
def laws_eqMark_enc (r : Bool) : AV := .bool r
theorem laws_eqMark_ok (a1 : Mark) (a2 : Mark) (r : Bool) (h : laws_eqMark a1 a2 = some r) : Ev (fun k => CN k 85 [.agg [.str a1.Holder, .int .u32 a1.Seal], .agg [.str a2.Holder, .int .u32 a2.Seal]] []) (fun p => rRes p.2 p.1 = laws_eqMark_enc r) := by
 unfold laws_eqMark at h
 refine Ev.enter (F := fun k => f85 (CN k) k) (fun k => callN_eq rfl Tryd.func85 rfl rfl rfl (by decide +kernel) (f85_eq _ _)) (sq (Rg (kx (bxI rfl rfl ⟨rfl, rfl, by decide⟩) (kx (bxI rfl rfl ⟨rfl, rfl, by decide⟩) (kx (mvO rfl) (Rn (hN rfl (hN rfl hZ)) fun e1 h3 h4 => sN (sq (sq (Rg (kx (faP h3 ⟨ble rfl, blt rfl⟩ rfl) (kx (ldP rfl rfl) (kx (faP h4 ⟨ble rfl, blt rfl⟩ rfl) (kx (ldP rfl rfl) (kx (sNeq rfl rfl) (Rn (hA h3 (hA h4 (hN rfl hZ))) fun e5 h7 h8 h9 => sN ?_)))))))))))))))
 clear h3 h4
 rcases ite_some h with ⟨hb10, h⟩ | ⟨hb10, h⟩
 ·refine cF h9 (congrArg Bool.not hb10) (xx (sN (sq (sq (Rg (kx (faP h7 ⟨ble rfl, blt rfl⟩ rfl) (kx (ldP rfl rfl) (kx (faP h8 ⟨ble rfl, blt rfl⟩ rfl) (kx (ldP rfl rfl) (kx (bNeq rfl rfl) (Rn (hN rfl hZ) fun e11 h13 => sN ?_)))))))))))
  clear h7 h8 h9
  rcases ite_some h with ⟨hb14, h⟩ | ⟨hb14, h⟩
  ·refine cT h13 hb14 (sq (Rg (kx (mvO rfl) (Rn (hV (.bool false) rfl hZ) fun e15 h17 => sN (xx (sR ?_))))))
   clear h13
   obtain rfl := si h
   exact eR (resT h17 res0) rfl
  refine cF h13 hb14 (xx (sN (sq (Rg (kx (mvO rfl) (Rn (hV (.bool true) rfl hZ) fun e18 h20 => sN (xx ?_)))))))
  clear h13
  obtain rfl := si h
  exact eR (resT h20 res0) rfl
 refine cT h9 (congrArg Bool.not hb10) (sq (Rg (kx (mvO rfl) (Rn (hV (.bool false) rfl hZ) fun e21 h23 => sN (xx (sR ?_))))))
 clear h7 h8 h9
 obtain rfl := si h
 exact eR (resT h23 res0) rfl
/-! ### loop.example/g01263/laws.eqGrain (f84) -/
abbrev laws_eqGrain_b1_S := Int
abbrev laws_eqGrain_b1_R := Unit ⊕ Unit
def laws_eqGrain_b1_RS (a1 : Ar 16 Int) (a2 : Ar 16 Int) (s : laws_eqGrain_b1_S) (e : Env) (M : Mem) : Prop := eget e 2 = .pt none (arC (cI .i8) 0 a1) ∧ eget e 3 = .pt none (arC (cI .i8) 0 a2) ∧ eget e 5 = .int .i64 s
def laws_eqGrain_b1_RR (a1 : Ar 16 Int) (a2 : Ar 16 Int) (r : laws_eqGrain_b1_R) (x : Ex) (e : Env) (M : Mem) : Prop :=
  match r with
  | (.inl g) => x = .ret ∧ eget e 4 = .bool false
  | (.inr g) => x = .ext 0 ∧ True
noncomputable def laws_eqGrain_b1 (a1 : Ar 16 Int) (a2 : Ar 16 Int) : laws_eqGrain_b1_S → Option (laws_eqGrain_b1_S ⊕ laws_eqGrain_b1_R) := fun s1_1 =>
 if (decide (s1_1 < 16)) = true then
  (rdA a1 s1_1).bind fun x33 =>
  (rdA a2 s1_1).bind fun x35 =>
  if (x33 != x35) = true then
   some (.inr (.inl ()))
  else
   some (.inl (IntKind.i64.wrap (s1_1 + 1)))
 else
  some (.inr (.inr ()))
theorem laws_eqGrain_b1_ok (a1 : Ar 16 Int) (a2 : Ar 16 Int) (s : laws_eqGrain_b1_S) (r : laws_eqGrain_b1_S ⊕ laws_eqGrain_b1_R) (h : laws_eqGrain_b1 a1 a2 s = some r) (e : Env) (M : Mem) (hs : laws_eqGrain_b1_RS a1 a2 s e M) : Ev (fun k => (f84_l2 (CN k) k (prune [2, 3, 5] e) M).bind fun q => some q) (bQ (laws_eqGrain_b1_RS a1 a2) (laws_eqGrain_b1_RR a1 a2) r) := by
 revert h hs
 revert s
 intro s1_1 h hs
 unfold laws_eqGrain_b1 at h
 obtain ⟨h20, h22, h24⟩ := hs
 generalize he19 : prune [2, 3, 5] e = e18
 have h21 := envp he19.symm rfl h20
 have h23 := envp he19.symm rfl h22
 have h25 := envp he19.symm rfl h24
 refine sq (sq (Rg (kx (mvO h25) (kx (bLss rfl rfl) (Rn (hV (.pt none (arC (cI .i8) 0 a1)) h21 (hV (.pt none (arC (cI .i8) 0 a2)) h23 (hV (.int .i64 s1_1) h25 (hN rfl hZ)))) fun e26 h28 h29 h30 h31 => sN ?_)))))
 clear h21 h23 h25
 rcases ite_some h with ⟨hb32, h⟩ | ⟨hb32, h⟩
 ·obtain ⟨x33, hx34, h⟩ := bind_some h
  obtain ⟨x35, hx36, h⟩ := bind_some h
  refine cT h31 hb32 (xx (sN (sq (bl (sq (Rd (kf (mvO h30) (kf (ixPA (c := (cI .i8)) (z := 0) (g := a1) h28 rfl hx34 (fun _ => rfl)) (kf (ldP rfl rfl) (kf (mvO h30) (kf (ixPA (c := (cI .i8)) (z := 0) (g := a2) h29 rfl hx36 (fun _ => rfl)) (kf (ldP rfl rfl) (kf (bNeq rfl rfl) (fZ (Rn (hA h28 (hA h29 (hA h30 (hN rfl hZ)))) fun e37 h39 h40 h41 h42 => sN ?_)))))))))))))))
  clear h28 h29 h30 h31
  rcases ite_some h with ⟨hb43, h⟩ | ⟨hb43, h⟩
  ·refine cT h42 hb43 (sq (Rg (kx (mvO rfl) (Rn (hV (.bool false) rfl hZ) fun e44 h46 => sN (xx (bR (sR ?_)))))))
   clear h39 h40 h41 h42
   obtain rfl := si h
   exact qR ⟨rfl, h46⟩
  refine cF h42 hb43 (xx (bN (sN (Rg (kx (mvO h41) (kx (bAdd rfl rfl) (kx (mvO rfl) (Rn (hA h39 (hA h40 (hN rfl hZ))) fun e47 h49 h50 h51 => ?_))))))))
  clear h39 h40 h42
  obtain rfl := si h
  exact qN ⟨h49, h50, h51⟩
 refine cF h31 hb32 (xx (sE ?_))
 obtain rfl := si h
 exact qE ⟨rfl, trivial⟩
noncomputable def laws_eqGrain (a1 : Ar 16 Int) (a2 : Ar 16 Int) : Option Bool :=
 (Lw (laws_eqGrain_b1 a1 a2) 0).bind fun r => match r with
 | (.inl _) =>
  some false
 | (.inr _) =>
  some true
def laws_eqGrain_enc (r : Bool) : AV := .bool r
theorem laws_eqGrain_ok (a1 : Ar 16 Int) (a2 : Ar 16 Int) (r : Bool) (h : laws_eqGrain a1 a2 = some r) : Ev (fun k => CN k 84 [.agg (arC (cI .i8) 0 a1), .agg (arC (cI .i8) 0 a2)] []) (fun p => rRes p.2 p.1 = laws_eqGrain_enc r) := by
 unfold laws_eqGrain at h
 obtain ⟨r52, hr53, h⟩ := bind_some h
 refine Ev.enter (F := fun k => f84 (CN k) k) (fun k => callN_eq rfl Tryd.func84 rfl rfl rfl (by decide +kernel) (f84_eq _ _)) (sq (Rg (kx (bxI rfl rfl ⟨rfl, rfl, by decide⟩) (kx (bxI rfl rfl ⟨rfl, rfl, by decide⟩) (kx (mvO rfl) (Rn (hN rfl (hN rfl hZ)) fun e1 h3 h4 => sN (sq (sq (Rg (kx (mvO rfl) (Rn (hA h3 (hA h4 (hV (.int .i64 0) rfl hZ))) fun e5 h7 h8 h9 => sN (bl ?_))))))))))))
 clear h3 h4
 rcases r52 with _ | _
 ·refine Ev.loop (RS := laws_eqGrain_b1_RS a1 a2) (RR := laws_eqGrain_b1_RR a1 a2) (fun s r h e M hs => laws_eqGrain_b1_ok a1 a2 s r h e M hs) hr53 ⟨h7, h8, h9⟩ fun x e55 M56 hq54 => ?_
  obtain ⟨rfl, h57⟩ := hq54
  refine bR (sR ?_)
  obtain rfl := si h
  exact eR (resT h57 res0) rfl
 refine Ev.loop (RS := laws_eqGrain_b1_RS a1 a2) (RR := laws_eqGrain_b1_RR a1 a2) (fun s r h e M hs => laws_eqGrain_b1_ok a1 a2 s r h e M hs) hr53 ⟨h7, h8, h9⟩ fun x e58 M59 hq54 => ?_
 obtain ⟨rfl, _⟩ := hq54
 refine bE (sN (sq (Rg (kx (mvO rfl) (Rn (hV (.bool true) rfl hZ) fun e60 h62 => sN (xx ?_))))))
 obtain rfl := si h
 exact eR (resT h62 res0) rfl
/-! ### loop.example/g01263/laws.eqNotchS (f83) -/
abbrev laws_eqNotchS_b1_S := Int
abbrev laws_eqNotchS_b1_R := Unit ⊕ Unit
def laws_eqNotchS_b1_RS (a1 : List Notch) (a2 : List Notch) (s : laws_eqNotchS_b1_S) (e : Env) (M : Mem) : Prop := eget e 0 = .sl none (a1.map Notch.c) ∧ eget e 1 = .sl none (a2.map Notch.c) ∧ eget e 5 = .int .i64 s
def laws_eqNotchS_b1_RR (a1 : List Notch) (a2 : List Notch) (r : laws_eqNotchS_b1_R) (x : Ex) (e : Env) (M : Mem) : Prop :=
  match r with
  | (.inl g) => x = .ret ∧ eget e 4 = .bool false
  | (.inr g) => x = .ext 0 ∧ True
noncomputable def laws_eqNotchS_b1 (a1 : List Notch) (a2 : List Notch) : laws_eqNotchS_b1_S → Option (laws_eqNotchS_b1_S ⊕ laws_eqNotchS_b1_R) := fun s1_1 =>
 if (decide (s1_1 < (a1.length : Int))) = true then
  (rd a1 s1_1).bind fun x42 =>
  (rd a2 s1_1).bind fun x44 =>
  (laws_eqNotch x42 x44).bind fun r47 =>
  if r47 = true then
   some (.inl (IntKind.i64.wrap (s1_1 + 1)))
  else
   some (.inr (.inl ()))
 else
  some (.inr (.inr ()))
theorem laws_eqNotchS_b1_ok (a1 : List Notch) (a2 : List Notch) (s : laws_eqNotchS_b1_S) (r : laws_eqNotchS_b1_S ⊕ laws_eqNotchS_b1_R) (h : laws_eqNotchS_b1 a1 a2 s = some r) (e : Env) (M : Mem) (hs : laws_eqNotchS_b1_RS a1 a2 s e M) : Ev (fun k => (f83_l4 (CN k) k (prune [0, 1, 5] e) M).bind fun q => some q) (bQ (laws_eqNotchS_b1_RS a1 a2) (laws_eqNotchS_b1_RR a1 a2) r) := by
 revert h hs
 revert s
 intro s1_1 h hs
 unfold laws_eqNotchS_b1 at h
 obtain ⟨h29, h31, h33⟩ := hs
 generalize he28 : prune [0, 1, 5] e = e27
 have h30 := envp he28.symm rfl h29
 have h32 := envp he28.symm rfl h31
 have h34 := envp he28.symm rfl h33
 refine sq (sq (Rg (kx (mvO h34) (kx (mvO h30) (kx (lnS Tryd.underlying26 rfl) (kx (bLss rfl rfl) (Rn (hV (.sl none (a1.map Notch.c)) h30 (hV (.sl none (a2.map Notch.c)) h32 (hV (.int .i64 s1_1) h34 (hN rfl hZ)))) fun e35 h37 h38 h39 h40 => sN ?_)))))))
 clear h30 h32 h34
 rcases ite_some h with ⟨hb41, h⟩ | ⟨hb41, h⟩
 ·obtain ⟨x42, hx43, h⟩ := bind_some h
  obtain ⟨x44, hx45, h⟩ := bind_some h
  obtain ⟨r47, hx46, h⟩ := bind_some h
  refine cT h40 hb41 (xx (sN (sq (bl (sq (Rd (kf (mvO h37) (kf (mvO h39) (kf (ixS rfl rfl hx43 Notch.fl) (kf (ldPA rfl rfl rfl) (kf (mvO h38) (kf (mvO h39) (kf (ixS rfl rfl hx45 Notch.fl) (kf (ldPA rfl rfl rfl) (fc (cl (v := .bool r47) rfl (cns rfl (cns rfl rfl)) rfl (laws_eqNotch_ok x42 x44 _ hx46) nm) (kf (uNot rfl) (fZ (Rn (hA h37 (hA h38 (hA h39 (hN rfl hZ)))) fun e48 h50 h51 h52 h53 => sN ?_))))))))))))))))))
  clear h37 h38 h39 h40
  rcases ite_some h with ⟨hb54, h⟩ | ⟨hb54, h⟩
  ·refine cF h53 (congrArg Bool.not hb54) (xx (bN (sN (Rg (kx (mvO h52) (kx (bAdd rfl rfl) (kx (mvO rfl) (Rn (hA h50 (hA h51 (hN rfl hZ))) fun e55 h57 h58 h59 => ?_))))))))
   clear h50 h51 h53
   obtain rfl := si h
   exact qN ⟨h57, h58, h59⟩
  refine cT h53 (congrArg Bool.not hb54) (sq (Rg (kx (mvO rfl) (Rn (hV (.bool false) rfl hZ) fun e60 h62 => sN (xx (bR (sR ?_)))))))
  clear h50 h51 h52 h53
  obtain rfl := si h
  exact qR ⟨rfl, h62⟩
 refine cF h40 hb41 (xx (sE ?_))
 obtain rfl := si h
 exact qE ⟨rfl, trivial⟩
noncomputable def laws_eqNotchS (a1 : List Notch) (a2 : List Notch) : Option Bool :=
 if ((a1.length : Int) != (a2.length : Int)) = true then
  some false
 else
  (Lw (laws_eqNotchS_b1 a1 a2) 0).bind fun r => match r with
  | (.inl _) =>
   some false
  | (.inr _) =>
   some true
def laws_eqNotchS_enc (r : Bool) : AV := .bool r
theorem laws_eqNotchS_ok (a1 : List Notch) (a2 : List Notch) (r : Bool) (h : laws_eqNotchS a1 a2 = some r) : Ev (fun k => CN k 83 [.sl none (a1.map Notch.c), .sl none (a2.map Notch.c)] []) (fun p => rRes p.2 p.1 = laws_eqNotchS_enc r) := by
 unfold laws_eqNotchS at h
 refine Ev.enter (F := fun k => f83 (CN k) k) (fun k => callN_eq rfl Tryd.func83 rfl rfl rfl (by decide +kernel) (f83_eq _ _)) (sq (Rg (kx (mvO rfl) (Rn (hN rfl (hN rfl hZ)) fun e1 h3 h4 => sN (sq (sq (Rg (kx (mvO h3) (kx (lnS Tryd.underlying26 rfl) (kx (mvO h4) (kx (lnS Tryd.underlying26 rfl) (kx (bNeq rfl rfl) (Rn (hA h3 (hA h4 (hN rfl hZ))) fun e5 h7 h8 h9 => sN ?_)))))))))))))
 clear h3 h4
 rcases ite_some h with ⟨hb10, h⟩ | ⟨hb10, h⟩
 ·refine cT h9 hb10 (sq (Rg (kx (mvO rfl) (Rn (hV (.bool false) rfl hZ) fun e11 h13 => sN (xx (sR ?_))))))
  clear h7 h8 h9
  obtain rfl := si h
  exact eR (resT h13 res0) rfl
 obtain ⟨r63, hr64, h⟩ := bind_some h
 refine cF h9 hb10 (xx (sN (sq (sq (Rg (kx (mvO rfl) (Rn (hA h7 (hA h8 (hV (.int .i64 0) rfl hZ))) fun e14 h16 h17 h18 => sN (bl ?_))))))))
 clear h7 h8 h9
 rcases r63 with _ | _
 ·refine Ev.loop (RS := laws_eqNotchS_b1_RS a1 a2) (RR := laws_eqNotchS_b1_RR a1 a2) (fun s r h e M hs => laws_eqNotchS_b1_ok a1 a2 s r h e M hs) hr64 ⟨h16, h17, h18⟩ fun x e66 M67 hq65 => ?_
  obtain ⟨rfl, h68⟩ := hq65
  refine bR (sR ?_)
  obtain rfl := si h
  exact eR (resT h68 res0) rfl
 refine Ev.loop (RS := laws_eqNotchS_b1_RS a1 a2) (RR := laws_eqNotchS_b1_RR a1 a2) (fun s r h e M hs => laws_eqNotchS_b1_ok a1 a2 s r h e M hs) hr64 ⟨h16, h17, h18⟩ fun x e69 M70 hq65 => ?_
 obtain ⟨rfl, _⟩ := hq65
 refine bE (sN (sq (Rg (kx (mvO rfl) (Rn (hV (.bool true) rfl hZ) fun e71 h73 => sN (xx ?_))))))
 obtain rfl := si h
 exact eR (resT h73 res0) rfl
/-! ### loop.example/g01263/laws.toMark (f82) -/
noncomputable def laws_toMark (a1 : Mark) : Option ((List UInt8) × Int) :=
 some (a1.Holder, a1.Seal)
def laws_toMark_enc (r : (List UInt8) × Int) : AV := .agg [.str r.1, .int .u32 r.2]
theorem laws_toMark_ok (a1 : Mark) (r : (List UInt8) × Int) (h : laws_toMark a1 = some r) : Ev (fun k => CN k 82 [.agg [.str a1.Holder, .int .u32 a1.Seal]] []) (fun p => rRes p.2 p.1 = laws_toMark_enc r) := by
 unfold laws_toMark at h
 refine Ev.enter (F := fun k => f82 (CN k) k) (fun k => callN_eq rfl Tryd.func82 rfl rfl rfl (by decide +kernel) (f82_eq _ _)) (sq (Rg (kx (bxI rfl rfl ⟨rfl, rfl, by decide⟩) (ku (alO zero39) fun M2 hM3 => ?_))))
 have o4 : M2[([] : Mem).length]? = some (.live ⟨.box, 39, 2, [[.str ([] : List UInt8), .int .u32 0]]⟩) := push_new hM3
 refine Rn (hN rfl (hV (.loc ([] : Mem).length 1 0 0) rfl hZ)) fun e5 h7 h8 => sN (sq (Rg (ku (alO zero39) fun M10 hM11 => ?_)))
 have o12 := push_old hM11 o4
 have ne13 := ne_new o4
 have o14 : M10[M2.length]? = some (.live ⟨.box, 39, 2, [[.str ([] : List UInt8), .int .u32 0]]⟩) := push_new hM11
 refine Rn (hA h7 (hA h8 (hV (.loc M2.length 1 0 0) rfl hZ))) fun e15 h17 h18 h19 => sN (sq (Rg (kx (faP h17 ⟨ble rfl, blt rfl⟩ rfl) (kx (ldP rfl rfl) (kx (faO h19 o14 rfl) (kw (stO rfl rfl o14 rfl rfl ⟨rfl, ble rfl⟩ rfl rfl) fun M20 hM21 => ?_))))))
 clear h7 h8
 have o22 := set_ne hM21 ne13 o12
 have o23 : M20[M2.length]? = some (.live ⟨.box, 39, 2, [[.str a1.Holder, .int .u32 0]]⟩) := set_same hM21 o14
 refine Rn (hA h17 (hA h18 (hA h19 hZ))) fun e24 h26 h27 h28 => sN (sq (Rg (kx (faP h26 ⟨ble rfl, blt rfl⟩ rfl) (kx (ldP rfl rfl) (kx (faO h28 o23 rfl) (kw (stO rfl rfl o23 rfl rfl ⟨rfl, ble rfl⟩ rfl rfl) fun M29 hM30 => ?_))))))
 clear h17 h18 h19
 have o31 := set_ne hM30 ne13 o22
 have o32 : M29[M2.length]? = some (.live ⟨.box, 39, 2, [[.str a1.Holder, .int .u32 a1.Seal]]⟩) := set_same hM30 o23
 refine Rn (hA h27 (hA h28 hZ)) fun e33 h35 h36 => sN (sq (Rg (kx (ldOA h36 o32 rfl rfl (ble rfl) rfl) (kw (stO h35 rfl o31 rfl rfl ⟨rfl, ble rfl⟩ rfl rfl) fun M37 hM38 => ?_))))
 clear h26 h27 h28
 have o39 : M37[([] : Mem).length]? = some (.live ⟨.box, 39, 2, [[.str a1.Holder, .int .u32 a1.Seal]]⟩) := set_same hM38 o31
 have o40 := set_ne hM38 (Ne.symm ne13) o32
 refine Rn (hA h35 hZ) fun e41 h43 => sN (xx ?_)
 clear h35 h36
 obtain rfl := si h
 exact eR (resC (ag := true) (sz := 2) ⟨by kernel_rfl, by kernel_rfl, by kernel_rfl⟩ (ldOA h43 o39 rfl rfl (ble rfl) rfl) res0) rfl
/-! ### loop.example/g01263/laws.toGrain (f81) -/
abbrev laws_toGrain_b1_S := Int × (Ar 16 Int)
abbrev laws_toGrain_b1_R := (Ar 16 Int)
def laws_toGrain_b1_RS (a1 : Ar 16 Int) (i1_1 : Nat) (i1_2 : Nat) (s : laws_toGrain_b1_S) (e : Env) (M : Mem) : Prop := eget e 1 = .pt none (arC (cI .i8) 0 a1) ∧ eget e 2 = .loc i1_1 1 0 0 ∧ eget e 3 = .loc i1_2 1 0 0 ∧ eget e 4 = .int .i64 s.1 ∧ M[i1_1]? = some (.live ⟨.box, 29, 16, [(arC (cI .i8) 0 (Ar.rep 16 0))]⟩) ∧ M[i1_2]? = some (.live ⟨.box, 29, 16, [(arC (cI .i8) 0 s.2)]⟩)
def laws_toGrain_b1_RR (a1 : Ar 16 Int) (i1_1 : Nat) (i1_2 : Nat) (g : laws_toGrain_b1_R) (x : Ex) (e : Env) (M : Mem) : Prop := x = .ext 0 ∧ eget e 2 = .loc i1_1 1 0 0 ∧ eget e 3 = .loc i1_2 1 0 0 ∧ M[i1_1]? = some (.live ⟨.box, 29, 16, [(arC (cI .i8) 0 (Ar.rep 16 0))]⟩) ∧ M[i1_2]? = some (.live ⟨.box, 29, 16, [(arC (cI .i8) 0 g)]⟩)
noncomputable def laws_toGrain_b1 (a1 : Ar 16 Int) : laws_toGrain_b1_S → Option (laws_toGrain_b1_S ⊕ laws_toGrain_b1_R) := fun (s1_1, s1_2) =>
 if (decide (s1_1 < 16)) = true then
  (rdA a1 s1_1).bind fun x58 =>
  (rdA s1_2 s1_1).bind fun x60 =>
  some (.inl ((IntKind.i64.wrap (s1_1 + 1)), (s1_2.set s1_1.toNat x58)))
 else
  some (.inr s1_2)
theorem laws_toGrain_b1_ok (a1 : Ar 16 Int) (i1_1 : Nat) (i1_2 : Nat) (ne13 : i1_1 ≠ i1_2) (s : laws_toGrain_b1_S) (r : laws_toGrain_b1_S ⊕ laws_toGrain_b1_R) (h : laws_toGrain_b1 a1 s = some r) (e : Env) (M : Mem) (hs : laws_toGrain_b1_RS a1 i1_1 i1_2 s e M) : Ev (fun k => (f81_l3 (CN k) k (prune [1, 2, 3, 4] e) M).bind fun q => some q) (bQ (laws_toGrain_b1_RS a1 i1_1 i1_2) (laws_toGrain_b1_RR a1 i1_1 i1_2) r) := by
 obtain ⟨s1_1, s1_2⟩ := s
 unfold laws_toGrain_b1 at h
 obtain ⟨h40, h42, h44, h46, o48, o49⟩ := hs
 generalize he39 : prune [1, 2, 3, 4] e = e38
 have h41 := envp he39.symm rfl h40
 have h43 := envp he39.symm rfl h42
 have h45 := envp he39.symm rfl h44
 have h47 := envp he39.symm rfl h46
 refine sq (sq (Rg (kx (mvO h47) (kx (bLss rfl rfl) (Rn (hV (.pt none (arC (cI .i8) 0 a1)) h41 (hV (.loc i1_1 1 0 0) h43 (hV (.loc i1_2 1 0 0) h45 (hV (.int .i64 s1_1) h47 (hN rfl hZ))))) fun e50 h52 h53 h54 h55 h56 => sN ?_)))))
 clear h41 h43 h45 h47
 rcases ite_some h with ⟨hb57, h⟩ | ⟨hb57, h⟩
 ·obtain ⟨x58, hx59, h⟩ := bind_some h
  obtain ⟨x60, hx61, h⟩ := bind_some h
  refine cT h56 hb57 (xx (sN (sq (bl (Rg (kx (mvO h55) (kx (mvO h55) (kx (ixPA (c := (cI .i8)) (z := 0) (g := a1) h52 rfl hx59 (fun _ => rfl)) (kx (ldP rfl rfl) (kx (ixLA h54 o49 rfl rfl hx61) (kw (stLA (c := (cI .i8)) (z := 0) (g := s1_2) (pre := []) (post := []) (u' := x58) rfl rfl o49 rfl rfl rfl rfl (fun _ => rfl) rfl rfl hx61) fun M62 hM63 => ?_)))))))))))
  have o64 := set_ne hM63 ne13 o48
  have o65 : M62[i1_2]? = some (.live ⟨.box, 29, 16, [(arC (cI .i8) 0 (s1_2.set s1_1.toNat x58))]⟩) := set_same hM63 o49
  refine Rn (hA h52 (hA h53 (hA h54 (hA h55 hZ)))) fun e66 h68 h69 h70 h71 => bN (sN (Rg (kx (mvO h71) (kx (bAdd rfl rfl) (kx (mvO rfl) (Rn (hA h68 (hA h69 (hA h70 (hN rfl hZ)))) fun e72 h74 h75 h76 h77 => ?_))))))
  clear h52 h53 h54 h55 h56 h68 h69 h70
  obtain rfl := si h
  exact qN ⟨h74, h75, h76, h77, o64, o65⟩
 refine cF h56 hb57 (xx (sE ?_))
 obtain rfl := si h
 exact qE ⟨rfl, h53, h54, o48, o49⟩
noncomputable def laws_toGrain (a1 : Ar 16 Int) : Option ((Ar 16 Int)) :=
 (Lw (laws_toGrain_b1 a1) (0, (Ar.rep 16 0))).bind fun y83 =>
 some y83
def laws_toGrain_enc (r : (Ar 16 Int)) : AV := .agg (arC (cI .i8) 0 r)
theorem laws_toGrain_ok (a1 : Ar 16 Int) (r : (Ar 16 Int)) (h : laws_toGrain a1 = some r) : Ev (fun k => CN k 81 [.agg (arC (cI .i8) 0 a1)] []) (fun p => rRes p.2 p.1 = laws_toGrain_enc r) := by
 unfold laws_toGrain at h
 refine Ev.enter (F := fun k => f81 (CN k) k) (fun k => callN_eq rfl Tryd.func81 rfl rfl rfl (by decide +kernel) (f81_eq _ _)) (sq (Rg (kx (bxI rfl rfl ⟨rfl, rfl, by decide⟩) (ku (alO zero29) fun M2 hM3 => ?_))))
 have o4 : M2[([] : Mem).length]? = some (.live ⟨.box, 29, 16, [(arC (cI .i8) 0 (Ar.rep 16 0))]⟩) := push_new hM3
 refine Rn (hN rfl (hV (.loc ([] : Mem).length 1 0 0) rfl hZ)) fun e5 h7 h8 => sN (sq (Rg (ku (alO zero29) fun M10 hM11 => ?_)))
 have o12 := push_old hM11 o4
 have ne13 := ne_new o4
 have o14 : M10[M2.length]? = some (.live ⟨.box, 29, 16, [(arC (cI .i8) 0 (Ar.rep 16 0))]⟩) := push_new hM11
 obtain ⟨y83, hr79, h⟩ := bind_some h
 refine Rn (hA h7 (hA h8 (hV (.loc M2.length 1 0 0) rfl hZ))) fun e15 h17 h18 h19 => sN (sq (sq (Rg (kx (mvO rfl) (Rn (hA h17 (hA h18 (hA h19 (hV (.int .i64 0) rfl hZ)))) fun e20 h22 h23 h24 h25 => sN (bl (Ev.loop (RS := laws_toGrain_b1_RS a1 (([] : Mem).length) M2.length) (RR := laws_toGrain_b1_RR a1 (([] : Mem).length) M2.length) (fun s r h e M hs => laws_toGrain_b1_ok a1 (([] : Mem).length) M2.length ne13 s r h e M hs) hr79 ⟨h22, h23, h24, h25, o12, o14⟩ fun x e81 M82 hq80 => ?_)))))))
 clear h7 h8 h17 h18 h19
 obtain ⟨rfl, h84, h85, o86, o87⟩ := hq80
 refine bE (sN (sq (Rg (kx (ldOA (cs' := (arC (cI .i8) 0 y83)) h85 o87 rfl rfl (ble rfl) rfl) (kw (stO h84 rfl o86 rfl rfl ⟨rfl, ble rfl⟩ rfl rfl) fun M88 hM89 => ?_)))))
 have o90 : M88[([] : Mem).length]? = some (.live ⟨.box, 29, 16, [(arC (cI .i8) 0 y83)]⟩) := set_same hM89 o86
 have o91 := set_ne hM89 (Ne.symm ne13) o87
 refine Rn (hV (.loc ([] : Mem).length 1 0 0) h84 hZ) fun e92 h94 => sN (xx ?_)
 clear h84 h85
 obtain rfl := si h
 exact eR (resC (ag := true) (sz := 16) ⟨by kernel_rfl, by kernel_rfl, by kernel_rfl⟩ (ldOA (cs' := (arC (cI .i8) 0 y83)) h94 o90 rfl rfl (ble rfl) rfl) res0) rfl
/-! ### loop.example/g01263/laws.toNotchS (f80) -/
abbrev laws_toNotchS_b1_S := Int × (List Notch)
abbrev laws_toNotchS_b1_R := (List Notch)
def laws_toNotchS_b1_RS (a1 : List Notch) (x4 : List Notch) (i1_1 : Nat) (s : laws_toNotchS_b1_S) (e : Env) (M : Mem) : Prop := eget e 0 = .sl none (a1.map Notch.c) ∧ eget e 3 = .lsl i1_1 s.2.length 0 s.2.length ∧ eget e 4 = .int .i64 s.1 ∧ M[i1_1]? = some (.live ⟨.grow, 107, 2, s.2.map Notch.c⟩) ∧ s.2.length = x4.length
def laws_toNotchS_b1_RR (a1 : List Notch) (x4 : List Notch) (i1_1 : Nat) (g : laws_toNotchS_b1_R) (x : Ex) (e : Env) (M : Mem) : Prop := x = .ext 0 ∧ eget e 3 = .lsl i1_1 g.length 0 g.length ∧ M[i1_1]? = some (.live ⟨.grow, 107, 2, g.map Notch.c⟩) ∧ g.length = x4.length
noncomputable def laws_toNotchS_b1 (a1 : List Notch) : laws_toNotchS_b1_S → Option (laws_toNotchS_b1_S ⊕ laws_toNotchS_b1_R) := fun (s1_1, s1_2) =>
 if (decide (s1_1 < (a1.length : Int))) = true then
  (rd a1 s1_1).bind fun x45 =>
  (laws_toNotch x45).bind fun (r48, r49) =>
  (rd s1_2 s1_1).bind fun x50 =>
  some (.inl ((IntKind.i64.wrap (s1_1 + 1)), (s1_2.set s1_1.toNat (Notch.mk r48 r49))))
 else
  some (.inr s1_2)
theorem laws_toNotchS_b1_ok (a1 : List Notch) (x4 : List Notch) (i1_1 : Nat) (s : laws_toNotchS_b1_S) (r : laws_toNotchS_b1_S ⊕ laws_toNotchS_b1_R) (h : laws_toNotchS_b1 a1 s = some r) (e : Env) (M : Mem) (hs : laws_toNotchS_b1_RS a1 x4 i1_1 s e M) : Ev (fun k => (f80_l3 (CN k) k (prune [0, 3, 4] e) M).bind fun q => some q) (bQ (laws_toNotchS_b1_RS a1 x4 i1_1) (laws_toNotchS_b1_RR a1 x4 i1_1) r) := by
 obtain ⟨s1_1, s1_2⟩ := s
 unfold laws_toNotchS_b1 at h
 obtain ⟨h30, h32, h34, o36, hl37⟩ := hs
 generalize he29 : prune [0, 3, 4] e = e28
 have h31 := envp he29.symm rfl h30
 have h33 := envp he29.symm rfl h32
 have h35 := envp he29.symm rfl h34
 refine sq (sq (Rg (kx (mvO h35) (kx (mvO h31) (kx (lnS Tryd.underlying52 rfl) (kx (bLss rfl rfl) (Rn (hV (.sl none (a1.map Notch.c)) h31 (hV (.lsl i1_1 s1_2.length 0 s1_2.length) h33 (hV (.int .i64 s1_1) h35 (hN rfl hZ)))) fun e38 h40 h41 h42 h43 => sN ?_)))))))
 clear h31 h33 h35
 rcases ite_some h with ⟨hb44, h⟩ | ⟨hb44, h⟩
 ·obtain ⟨x45, hx46, h⟩ := bind_some h
  obtain ⟨⟨r48, r49⟩, hx47, h⟩ := bind_some h
  obtain ⟨x50, hx51, h⟩ := bind_some h
  refine cT h43 hb44 (xx (sN (sq (bl (Rg (kx (mvO h41) (kx (mvO h42) (kx (mvO h40) (kx (mvO h42) (kx (ixS rfl rfl hx46 Notch.fl) (kx (ldPA rfl rfl rfl) (kc (cl (v := .agg [.int .i8 r48, .int .i16 r49]) rfl (cns rfl rfl) rfl (laws_toNotch_ok x45 _ hx47) nm) (kx (ixO rfl o36 rfl rfl (rd_get hx51).1 (rd_lt hx51).2) (kw (stR (u := x50) (u' := (Notch.mk r48 r49)) rfl rfl o36 rfl (rz2 hx51) ⟨rfl, ble rfl⟩ rfl rfl) fun M52 hM53 => ?_))))))))))))))
  rw [Nat.zero_add] at hM53
  have o54 : M52[i1_1]? = some (.live ⟨.grow, 107, 2, (s1_2.set s1_1.toNat (Notch.mk r48 r49)).map Notch.c⟩) := set_same hM53 o36
  have hx55 := rd_set (u' := (Notch.mk r48 r49)) hx51
  refine Rn (hA h40 (hA h41 (hA h42 hZ))) fun e56 h58 h59 h60 => bN (sN (Rg (kx (mvO h60) (kx (bAdd rfl rfl) (kx (mvO rfl) (Rn (hA h58 (hA h59 (hN rfl hZ))) fun e61 h63 h64 h65 => ?_))))))
  clear h40 h41 h42 h43 h58 h59
  obtain rfl := si h
  exact qN ⟨h63, (lslL (L' := (s1_2.set s1_1.toNat (Notch.mk r48 r49)).length) h64 (by simp [hl37])), h65, o54, (by first | rfl | simp [hl37])⟩
 refine cF h43 hb44 (xx (sE ?_))
 obtain rfl := si h
 exact qE ⟨rfl, h41, o36, (by first | rfl | simp [hl37])⟩
noncomputable def laws_toNotchS (a1 : List Notch) : Option ((List Notch)) :=
 (mkS 4 (Notch.mk 0 0) (a1.length : Int)).bind fun x4 =>
 (Lw (laws_toNotchS_b1 a1) (0, x4)).bind fun y71 =>
 some y71
def laws_toNotchS_enc (r : (List Notch)) : AV := .sl (some 107) (r.map Notch.c)
theorem laws_toNotchS_ok (a1 : List Notch) (r : (List Notch)) (h : laws_toNotchS a1 = some r) : Ev (fun k => CN k 80 [.sl none (a1.map Notch.c)] []) (fun p => rRes p.2 p.1 = laws_toNotchS_enc r) := by
 unfold laws_toNotchS at h
 obtain ⟨x4, hx5, h⟩ := bind_some h
 refine Ev.enter (F := fun k => f80 (CN k) k) (fun k => callN_eq rfl Tryd.func80 rfl rfl rfl (by decide +kernel) (f80_eq _ _)) (sq (Rg (kx (mvO rfl) (Rn (hN rfl hZ) fun e1 h3 => sN (sq (Rg (kx (mvO h3) (kx (lnS Tryd.underlying52 rfl) (ku (mkO rfl rfl hx5 (c := Notch.c) zero107 Notch.fl (by decide)) fun M7 hM8 => ?_)))))))))
 have o9 : M7[([] : Mem).length]? = some (.live ⟨.grow, 107, 2, x4.map Notch.c⟩) := push_new hM8
 obtain ⟨y71, hr67, h⟩ := bind_some h
 refine kx (mvO rfl) (Rn (hA h3 (hV (.lsl ([] : Mem).length x4.length 0 x4.length) rfl hZ)) fun e10 h12 h13 => sN (sq (sq (Rg (kx (mvO rfl) (Rn (hA h12 (hA h13 (hV (.int .i64 0) rfl hZ))) fun e14 h16 h17 h18 => sN (bl (Ev.loop (RS := laws_toNotchS_b1_RS a1 x4 (([] : Mem).length)) (RR := laws_toNotchS_b1_RR a1 x4 (([] : Mem).length)) (fun s r h e M hs => laws_toNotchS_b1_ok a1 x4 (([] : Mem).length) s r h e M hs) hr67 ⟨h16, h17, h18, o9, rfl⟩ fun x e69 M70 hq68 => ?_))))))))
 clear h3 h12 h13
 obtain ⟨rfl, h72, o73, hl74⟩ := hq68
 refine bE (sN (sq (Rg (kx (mvO h72) (kx (mvO rfl) (Rn (hV (.lsl ([] : Mem).length y71.length 0 y71.length) rfl hZ) fun e75 h77 => sN (xx ?_)))))))
 clear h72
 obtain rfl := si h
 exact eR (resT h77 res0) (rr_row o73 rfl Notch.fl)
/-! ### loop.example/g01263/spec.l01Copy (f79) -/
noncomputable def spec_l01Copy (a1 : List Notch) : Option ((List Notch)) :=
 (app 4 ([] : List Notch) a1).bind fun x4 =>
 some x4
def spec_l01Copy_enc (r : (List Notch)) : AV := .sl (some 107) (r.map Notch.c)
theorem spec_l01Copy_ok (a1 : List Notch) (r : (List Notch)) (h : spec_l01Copy a1 = some r) : Ev (fun k => CN k 79 [.sl none (a1.map Notch.c)] []) (fun p => rRes p.2 p.1 = spec_l01Copy_enc r) := by
 unfold spec_l01Copy at h
 obtain ⟨x4, hx5, h⟩ := bind_some h
 refine Ev.enter (F := fun k => f79 (CN k) k) (fun k => callN_eq rfl Tryd.func79 rfl rfl rfl (by decide +kernel) (f79_eq _ _)) (sq (Rg (kx (mvO rfl) (Rn (hN rfl hZ) fun e1 h3 => sN (sq (Rg (kx (litI rfl rfl ⟨rfl, by decide⟩) (kx (mvO h3) (kx (aiT (c := Notch.c) (xs := ([] : List Notch)) rfl (elS rfl) hx5 Notch.fl (by decide)) (kx (mvO rfl) (Rn (hN rfl hZ) fun e6 h8 => sN (xx ?_))))))))))))
 clear h3
 obtain rfl := si h
 exact eR (resT h8 res0) rfl
/-! ### loop.example/g01263/spec.l06Number (f78) -/
abbrev spec_l06Number_b1_S := Int × Int
abbrev spec_l06Number_b1_R := Int
def spec_l06Number_b1_RS (a2 : Int) (s : spec_l06Number_b1_S) (e : Env) (M : Mem) : Prop := eget e 0 = .int .u32 s.1 ∧ eget e 1 = .int .u32 a2 ∧ eget e 5 = .int .i64 s.2
def spec_l06Number_b1_RR (a2 : Int) (g : spec_l06Number_b1_R) (x : Ex) (e : Env) (M : Mem) : Prop := x = .ext 0 ∧ eget e 0 = .int .u32 g
noncomputable def spec_l06Number_b1 (a2 : Int) : spec_l06Number_b1_S → Option (spec_l06Number_b1_S ⊕ spec_l06Number_b1_R) := fun (s1_1, s1_2) =>
 if (decide (s1_2 ≥ 0)) = true then
  (shr .u32 a2 (IntKind.u64.wrap s1_2)).bind fun n33 =>
  some (.inl ((IntKind.u32.wrap ((ixor .u32 s1_1 (iand .u32 n33 255)) * 16777619)), (IntKind.i64.wrap (s1_2 - 8))))
 else
  some (.inr s1_1)
theorem spec_l06Number_b1_ok (a2 : Int) (s : spec_l06Number_b1_S) (r : spec_l06Number_b1_S ⊕ spec_l06Number_b1_R) (h : spec_l06Number_b1 a2 s = some r) (e : Env) (M : Mem) (hs : spec_l06Number_b1_RS a2 s e M) : Ev (fun k => (f78_l2 (CN k) k (prune [0, 1, 5] e) M).bind fun q => some q) (bQ (spec_l06Number_b1_RS a2) (spec_l06Number_b1_RR a2) r) := by
 obtain ⟨s1_1, s1_2⟩ := s
 unfold spec_l06Number_b1 at h
 obtain ⟨h20, h22, h24⟩ := hs
 generalize he19 : prune [0, 1, 5] e = e18
 have h21 := envp he19.symm rfl h20
 have h23 := envp he19.symm rfl h22
 have h25 := envp he19.symm rfl h24
 refine sq (sq (Rg (kx (mvO h25) (kx (bGeq rfl rfl) (Rn (hV (.int .u32 s1_1) h21 (hV (.int .u32 a2) h23 (hV (.int .i64 s1_2) h25 (hN rfl hZ)))) fun e26 h28 h29 h30 h31 => sN ?_)))))
 clear h21 h23 h25
 rcases ite_some h with ⟨hb32, h⟩ | ⟨hb32, h⟩
 ·obtain ⟨n33, hx34, h⟩ := bind_some h
  refine cT h31 hb32 (xx (sN (sq (bl (Rg (kx (mvO h28) (kx (mvO h29) (kx (mvO h30) (kx (cvI rfl) (kx (bShr rfl rfl hx34) (kx (bAnd rfl rfl) (kx (bXor rfl rfl) (kx (bMul rfl rfl) (kx (mvO rfl) (Rn (hN rfl (hA h29 (hA h30 hZ))) fun e35 h37 h38 h39 => bN (sN (Rg (kx (mvO h39) (kx (bSub rfl rfl) (kx (mvO rfl) (Rn (hA h37 (hA h38 (hN rfl hZ))) fun e40 h42 h43 h44 => ?_)))))))))))))))))))))
  clear h29 h30 h31 h37 h38
  obtain rfl := si h
  exact qN ⟨h42, h43, h44⟩
 refine cF h31 hb32 (xx (sE ?_))
 obtain rfl := si h
 exact qE ⟨rfl, h28⟩
noncomputable def spec_l06Number (a1 : Int) (a2 : Int) : Option Int :=
 (Lw (spec_l06Number_b1 a2) (a1, 24)).bind fun y50 =>
 some y50
def spec_l06Number_enc (r : Int) : AV := .int .u32 r
theorem spec_l06Number_ok (a1 : Int) (a2 : Int) (r : Int) (h : spec_l06Number a1 a2 = some r) : Ev (fun k => CN k 78 [.int .u32 a1, .int .u32 a2] []) (fun p => rRes p.2 p.1 = spec_l06Number_enc r) := by
 unfold spec_l06Number at h
 obtain ⟨y50, hr46, h⟩ := bind_some h
 refine Ev.enter (F := fun k => f78 (CN k) k) (fun k => callN_eq rfl Tryd.func78 rfl rfl rfl (by decide +kernel) (f78_eq _ _)) (sq (Rg (kx (mvO rfl) (Rn (hN rfl (hN rfl hZ)) fun e1 h3 h4 => sN (sq (sq (Rg (kx (mvO rfl) (Rn (hA h3 (hA h4 (hV (.int .i64 24) rfl hZ))) fun e5 h7 h8 h9 => sN (bl (Ev.loop (RS := spec_l06Number_b1_RS a2) (RR := spec_l06Number_b1_RR a2) (fun s r h e M hs => spec_l06Number_b1_ok a2 s r h e M hs) hr46 ⟨h7, h8, h9⟩ fun x e48 M49 hq47 => ?_)))))))))))
 clear h3 h4
 obtain ⟨rfl, h51⟩ := hq47
 refine bE (sN (sq (Rg (kx (mvO h51) (kx (mvO rfl) (Rn (hN rfl hZ) fun e52 h54 => sN (xx ?_)))))))
 clear h51
 obtain rfl := si h
 exact eR (resT h54 res0) rfl
/-! ### loop.example/g01263/spec.l01Text (f77) -/
abbrev spec_l01Text_b1_S := (List UInt8) × Int
abbrev spec_l01Text_b1_R := (List UInt8)
def spec_l01Text_b1_RS (a1 : Half) (s : spec_l01Text_b1_S) (e : Env) (M : Mem) : Prop := eget e 0 = .pt none (.bool a1.Stock :: (.sl none (a1.Notches.map Notch.c) :: ((arC (cI .i8) 0 a1.Grain) ++ ([] : List AV)))) ∧ eget e 3 = .str s.1 ∧ eget e 4 = .int .i64 s.2
def spec_l01Text_b1_RR (a1 : Half) (g : spec_l01Text_b1_R) (x : Ex) (e : Env) (M : Mem) : Prop := x = .ext 0 ∧ eget e 0 = .pt none (.bool a1.Stock :: (.sl none (a1.Notches.map Notch.c) :: ((arC (cI .i8) 0 a1.Grain) ++ ([] : List AV)))) ∧ eget e 3 = .str g
noncomputable def spec_l01Text_b1 (a1 : Half) : spec_l01Text_b1_S → Option (spec_l01Text_b1_S ⊕ spec_l01Text_b1_R) := fun (s1_1, s1_2) =>
 if (decide (s1_2 < 16)) = true then
  (rdA a1.Grain s1_2).bind fun x46 =>
  (sadd s1_1 (toB [(IntKind.u8.wrap (IntKind.i64.wrap (100 + (IntKind.i64.wrap x46))))])).bind fun w48 =>
  some (.inl (w48, (IntKind.i64.wrap (s1_2 + 1))))
 else
  some (.inr s1_1)
theorem spec_l01Text_b1_ok (a1 : Half) (s : spec_l01Text_b1_S) (r : spec_l01Text_b1_S ⊕ spec_l01Text_b1_R) (h : spec_l01Text_b1 a1 s = some r) (e : Env) (M : Mem) (hs : spec_l01Text_b1_RS a1 s e M) : Ev (fun k => (f77_l5 (CN k) k (prune [0, 3, 4] e) M).bind fun q => some q) (bQ (spec_l01Text_b1_RS a1) (spec_l01Text_b1_RR a1) r) := by
 obtain ⟨s1_1, s1_2⟩ := s
 unfold spec_l01Text_b1 at h
 obtain ⟨h33, h35, h37⟩ := hs
 generalize he32 : prune [0, 3, 4] e = e31
 have h34 := envp he32.symm rfl h33
 have h36 := envp he32.symm rfl h35
 have h38 := envp he32.symm rfl h37
 refine sq (sq (Rg (kx (mvO h38) (kx (bLss rfl rfl) (Rn (hV (.pt none (.bool a1.Stock :: (.sl none (a1.Notches.map Notch.c) :: ((arC (cI .i8) 0 a1.Grain) ++ ([] : List AV))))) h34 (hV (.str s1_1) h36 (hV (.int .i64 s1_2) h38 (hN rfl hZ)))) fun e39 h41 h42 h43 h44 => sN ?_)))))
 clear h34 h36 h38
 rcases ite_some h with ⟨hb45, h⟩ | ⟨hb45, h⟩
 ·obtain ⟨x46, hx47, h⟩ := bind_some h
  obtain ⟨w48, hx49, h⟩ := bind_some h
  refine cT h44 hb45 (xx (sN (sq (bl (Rg (kx (mvO h42) (kx (mvO h41) (kx (mvO h43) (kx (ncP rfl) (kx (faP rfl ⟨ble rfl, blt rfl⟩ rfl) (kx (ixPA (c := (cI .i8)) (z := 0) (g := a1.Grain) rfl rfl hx47 (fun _ => rfl)) (kx (ldP rfl rfl) (kx (cvI rfl) (kx (bAdd rfl rfl) (kx (cvI rfl) (kx (litI (cns rfl rfl) rfl ⟨rfl, by decide⟩) (kx (cvB (elT (c := (cI .u8)) (xs := [(IntKind.u8.wrap (IntKind.i64.wrap (100 + (IntKind.i64.wrap x46))))]) rfl)) (kx (sAdd rfl rfl hx49) (kx (mvO rfl) (Rn (hA h41 (hN rfl (hA h43 hZ))) fun e50 h52 h53 h54 => bN (sN (Rg (kx (mvO h54) (kx (bAdd rfl rfl) (kx (mvO rfl) (Rn (hA h52 (hA h53 (hN rfl hZ))) fun e55 h57 h58 h59 => ?_))))))))))))))))))))))))))
  clear h41 h43 h44 h52 h53
  obtain rfl := si h
  exact qN ⟨h57, h58, h59⟩
 refine cF h44 hb45 (xx (sE ?_))
 obtain rfl := si h
 exact qE ⟨rfl, h41, h42⟩
abbrev spec_l01Text_b2_S := (List UInt8) × Int
abbrev spec_l01Text_b2_R := (List UInt8)
def spec_l01Text_b2_RS (a1 : Half) (s : spec_l01Text_b2_S) (e : Env) (M : Mem) : Prop := eget e 0 = .pt none (.bool a1.Stock :: (.sl none (a1.Notches.map Notch.c) :: ((arC (cI .i8) 0 a1.Grain) ++ ([] : List AV)))) ∧ eget e 3 = .str s.1 ∧ eget e 5 = .int .i64 s.2
def spec_l01Text_b2_RR (a1 : Half) (g : spec_l01Text_b2_R) (x : Ex) (e : Env) (M : Mem) : Prop := x = .ext 2 ∧ eget e 3 = .str g
noncomputable def spec_l01Text_b2 (a1 : Half) : spec_l01Text_b2_S → Option (spec_l01Text_b2_S ⊕ spec_l01Text_b2_R) := fun (s2_1, s2_2) =>
 if (decide (s2_2 < (a1.Notches.length : Int))) = true then
  (rd a1.Notches s2_2).bind fun x96 =>
  (spec_l01Letters).bind fun _ =>
  (slc ([100, 115, 108, 118, 99, 109] : List UInt8) x96.Kind (IntKind.i8.wrap (x96.Kind + 1))).bind fun x112 =>
  (sadd ([32] : List UInt8) x112).bind fun w114 =>
  (spec_Decimal (IntKind.i64.wrap x96.At)).bind fun r117 =>
  (sadd w114 r117).bind fun w118 =>
  (sadd s2_1 w118).bind fun w120 =>
  some (.inl (w120, (IntKind.i64.wrap (s2_2 + 1))))
 else
  some (.inr s2_1)
theorem spec_l01Text_b2_ok (a1 : Half) (s : spec_l01Text_b2_S) (r : spec_l01Text_b2_S ⊕ spec_l01Text_b2_R) (h : spec_l01Text_b2 a1 s = some r) (e : Env) (M : Mem) (hs : spec_l01Text_b2_RS a1 s e M) : Ev (fun k => (f77_l9 (CN k) k (prune [0, 3, 5] e) M).bind fun q => some q) (bQ (spec_l01Text_b2_RS a1) (spec_l01Text_b2_RR a1) r) := by
 obtain ⟨s2_1, s2_2⟩ := s
 unfold spec_l01Text_b2 at h
 obtain ⟨h83, h85, h87⟩ := hs
 generalize he82 : prune [0, 3, 5] e = e81
 have h84 := envp he82.symm rfl h83
 have h86 := envp he82.symm rfl h85
 have h88 := envp he82.symm rfl h87
 refine sq (sq (Rg (kx (mvO h88) (kx (mvO h84) (kx (ncP rfl) (kx (faP rfl ⟨ble rfl, blt rfl⟩ rfl) (kx (ldP rfl rfl) (kx (lnS Tryd.underlying26 rfl) (kx (bLss rfl rfl) (Rn (hV (.pt none (.bool a1.Stock :: (.sl none (a1.Notches.map Notch.c) :: ((arC (cI .i8) 0 a1.Grain) ++ ([] : List AV))))) h84 (hV (.str s2_1) h86 (hV (.int .i64 s2_2) h88 (hN rfl hZ)))) fun e89 h91 h92 h93 h94 => sN ?_))))))))))
 clear h84 h86 h88
 rcases ite_some h with ⟨hb95, h⟩ | ⟨hb95, h⟩
 ·obtain ⟨x96, hx97, h⟩ := bind_some h
  refine cT h94 hb95 (xx (sN (sq (bl (sq (Rg (kx (mvO h91) (kx (ncP rfl) (kx (faP rfl ⟨ble rfl, blt rfl⟩ rfl) (kx (ldP rfl rfl) (kx (mvO h93) (kx (ixS rfl rfl hx97 Notch.fl) (kx (ldPA rfl rfl rfl) (ku (alO zero107) fun M99 hM100 => ?_))))))))))))))
  have o101 : M99[M.length]? = some (.live ⟨.box, 107, 2, [[.int .i8 0, .int .i16 0]]⟩) := push_new hM100
  refine kw (stO rfl rfl o101 rfl rfl ⟨rfl, ble rfl⟩ rfl rfl) fun M102 hM103 => ?_
  have o104 : M102[M.length]? = some (.live ⟨.box, 107, 2, [[.int .i8 x96.Kind, .int .i16 x96.At]]⟩) := set_same hM103 o101
  obtain ⟨_, hx111, h⟩ := bind_some h
  obtain ⟨x112, hx113, h⟩ := bind_some h
  obtain ⟨w114, hx115, h⟩ := bind_some h
  obtain ⟨r117, hx116, h⟩ := bind_some h
  obtain ⟨w118, hx119, h⟩ := bind_some h
  obtain ⟨w120, hx121, h⟩ := bind_some h
  refine Rn (hA h91 (hA h92 (hA h93 (hV (.loc M.length 1 0 0) rfl hZ)))) fun e105 h107 h108 h109 h110 => sN (Rd (kf (mvO h108) (fc (cl (v := .str ([100, 115, 108, 118, 99, 109] : List UInt8)) rfl rfl rfl (spec_l01Letters_ok  _ hx111) nm) (kf (faO h110 o104 rfl) (kf (ldO rfl o104 rfl rfl rfl) (kf (faO h110 o104 rfl) (kf (ldO rfl o104 rfl rfl rfl) (kf (bAdd rfl rfl) (kf (ssl2 rfl (bnd1 rfl) (bnd1 rfl) hx113) (kf (sAdd rfl rfl hx115) (kf (faO h110 o104 rfl) (kf (ldO rfl o104 rfl rfl rfl) (kf (cvI rfl) (fc (cl (v := .str r117) rfl (cns rfl rfl) rfl (spec_Decimal_ok (IntKind.i64.wrap x96.At) _ hx116) nm) (kf (sAdd rfl rfl hx119) (kf (sAdd rfl rfl hx121) (kf (mvO rfl) (fZ (Rn (hA h107 (hN rfl (hA h109 hZ))) fun e122 h124 h125 h126 => bN (sN (Rg (kx (mvO h126) (kx (bAdd rfl rfl) (kx (mvO rfl) (Rn (hA h124 (hA h125 (hN rfl hZ))) fun e127 h129 h130 h131 => ?_)))))))))))))))))))))))))
  clear h91 h92 h93 h94 h107 h109 h110 h124 h125
  obtain rfl := si h
  exact qN ⟨h129, h130, h131⟩
 refine cF h94 hb95 (xx (sE ?_))
 obtain rfl := si h
 exact qE ⟨rfl, h92⟩
abbrev spec_l01Text_b3_S := (List UInt8) × Int
abbrev spec_l01Text_b3_R := (List UInt8)
def spec_l01Text_b3_RS (a1 : Half) (s : spec_l01Text_b3_S) (e : Env) (M : Mem) : Prop := eget e 0 = .pt none (.bool a1.Stock :: (.sl none (a1.Notches.map Notch.c) :: ((arC (cI .i8) 0 a1.Grain) ++ ([] : List AV)))) ∧ eget e 3 = .str s.1 ∧ eget e 4 = .int .i64 s.2
def spec_l01Text_b3_RR (a1 : Half) (g : spec_l01Text_b3_R) (x : Ex) (e : Env) (M : Mem) : Prop := x = .ext 0 ∧ eget e 0 = .pt none (.bool a1.Stock :: (.sl none (a1.Notches.map Notch.c) :: ((arC (cI .i8) 0 a1.Grain) ++ ([] : List AV)))) ∧ eget e 3 = .str g
noncomputable def spec_l01Text_b3 (a1 : Half) : spec_l01Text_b3_S → Option (spec_l01Text_b3_S ⊕ spec_l01Text_b3_R) := fun (s3_1, s3_2) =>
 if (decide (s3_2 < 16)) = true then
  (rdA a1.Grain s3_2).bind fun x170 =>
  (sadd s3_1 (toB [(IntKind.u8.wrap (IntKind.i64.wrap (100 + (IntKind.i64.wrap x170))))])).bind fun w172 =>
  some (.inl (w172, (IntKind.i64.wrap (s3_2 + 1))))
 else
  some (.inr s3_1)
theorem spec_l01Text_b3_ok (a1 : Half) (s : spec_l01Text_b3_S) (r : spec_l01Text_b3_S ⊕ spec_l01Text_b3_R) (h : spec_l01Text_b3 a1 s = some r) (e : Env) (M : Mem) (hs : spec_l01Text_b3_RS a1 s e M) : Ev (fun k => (f77_l5 (CN k) k (prune [0, 3, 4] e) M).bind fun q => some q) (bQ (spec_l01Text_b3_RS a1) (spec_l01Text_b3_RR a1) r) := by
 obtain ⟨s3_1, s3_2⟩ := s
 unfold spec_l01Text_b3 at h
 obtain ⟨h157, h159, h161⟩ := hs
 generalize he156 : prune [0, 3, 4] e = e155
 have h158 := envp he156.symm rfl h157
 have h160 := envp he156.symm rfl h159
 have h162 := envp he156.symm rfl h161
 refine sq (sq (Rg (kx (mvO h162) (kx (bLss rfl rfl) (Rn (hV (.pt none (.bool a1.Stock :: (.sl none (a1.Notches.map Notch.c) :: ((arC (cI .i8) 0 a1.Grain) ++ ([] : List AV))))) h158 (hV (.str s3_1) h160 (hV (.int .i64 s3_2) h162 (hN rfl hZ)))) fun e163 h165 h166 h167 h168 => sN ?_)))))
 clear h158 h160 h162
 rcases ite_some h with ⟨hb169, h⟩ | ⟨hb169, h⟩
 ·obtain ⟨x170, hx171, h⟩ := bind_some h
  obtain ⟨w172, hx173, h⟩ := bind_some h
  refine cT h168 hb169 (xx (sN (sq (bl (Rg (kx (mvO h166) (kx (mvO h165) (kx (mvO h167) (kx (ncP rfl) (kx (faP rfl ⟨ble rfl, blt rfl⟩ rfl) (kx (ixPA (c := (cI .i8)) (z := 0) (g := a1.Grain) rfl rfl hx171 (fun _ => rfl)) (kx (ldP rfl rfl) (kx (cvI rfl) (kx (bAdd rfl rfl) (kx (cvI rfl) (kx (litI (cns rfl rfl) rfl ⟨rfl, by decide⟩) (kx (cvB (elT (c := (cI .u8)) (xs := [(IntKind.u8.wrap (IntKind.i64.wrap (100 + (IntKind.i64.wrap x170))))]) rfl)) (kx (sAdd rfl rfl hx173) (kx (mvO rfl) (Rn (hA h165 (hN rfl (hA h167 hZ))) fun e174 h176 h177 h178 => bN (sN (Rg (kx (mvO h178) (kx (bAdd rfl rfl) (kx (mvO rfl) (Rn (hA h176 (hA h177 (hN rfl hZ))) fun e179 h181 h182 h183 => ?_))))))))))))))))))))))))))
  clear h165 h167 h168 h176 h177
  obtain rfl := si h
  exact qN ⟨h181, h182, h183⟩
 refine cF h168 hb169 (xx (sE ?_))
 obtain rfl := si h
 exact qE ⟨rfl, h165, h166⟩
abbrev spec_l01Text_b4_S := (List UInt8) × Int
abbrev spec_l01Text_b4_R := (List UInt8)
def spec_l01Text_b4_RS (a1 : Half) (s : spec_l01Text_b4_S) (e : Env) (M : Mem) : Prop := eget e 0 = .pt none (.bool a1.Stock :: (.sl none (a1.Notches.map Notch.c) :: ((arC (cI .i8) 0 a1.Grain) ++ ([] : List AV)))) ∧ eget e 3 = .str s.1 ∧ eget e 5 = .int .i64 s.2
def spec_l01Text_b4_RR (a1 : Half) (g : spec_l01Text_b4_R) (x : Ex) (e : Env) (M : Mem) : Prop := x = .ext 2 ∧ eget e 3 = .str g
noncomputable def spec_l01Text_b4 (a1 : Half) : spec_l01Text_b4_S → Option (spec_l01Text_b4_S ⊕ spec_l01Text_b4_R) := fun (s4_1, s4_2) =>
 if (decide (s4_2 < (a1.Notches.length : Int))) = true then
  (rd a1.Notches s4_2).bind fun x220 =>
  (spec_l01Letters).bind fun _ =>
  (slc ([100, 115, 108, 118, 99, 109] : List UInt8) x220.Kind (IntKind.i8.wrap (x220.Kind + 1))).bind fun x236 =>
  (sadd ([32] : List UInt8) x236).bind fun w238 =>
  (spec_Decimal (IntKind.i64.wrap x220.At)).bind fun r241 =>
  (sadd w238 r241).bind fun w242 =>
  (sadd s4_1 w242).bind fun w244 =>
  some (.inl (w244, (IntKind.i64.wrap (s4_2 + 1))))
 else
  some (.inr s4_1)
theorem spec_l01Text_b4_ok (a1 : Half) (s : spec_l01Text_b4_S) (r : spec_l01Text_b4_S ⊕ spec_l01Text_b4_R) (h : spec_l01Text_b4 a1 s = some r) (e : Env) (M : Mem) (hs : spec_l01Text_b4_RS a1 s e M) : Ev (fun k => (f77_l9 (CN k) k (prune [0, 3, 5] e) M).bind fun q => some q) (bQ (spec_l01Text_b4_RS a1) (spec_l01Text_b4_RR a1) r) := by
 obtain ⟨s4_1, s4_2⟩ := s
 unfold spec_l01Text_b4 at h
 obtain ⟨h207, h209, h211⟩ := hs
 generalize he206 : prune [0, 3, 5] e = e205
 have h208 := envp he206.symm rfl h207
 have h210 := envp he206.symm rfl h209
 have h212 := envp he206.symm rfl h211
 refine sq (sq (Rg (kx (mvO h212) (kx (mvO h208) (kx (ncP rfl) (kx (faP rfl ⟨ble rfl, blt rfl⟩ rfl) (kx (ldP rfl rfl) (kx (lnS Tryd.underlying26 rfl) (kx (bLss rfl rfl) (Rn (hV (.pt none (.bool a1.Stock :: (.sl none (a1.Notches.map Notch.c) :: ((arC (cI .i8) 0 a1.Grain) ++ ([] : List AV))))) h208 (hV (.str s4_1) h210 (hV (.int .i64 s4_2) h212 (hN rfl hZ)))) fun e213 h215 h216 h217 h218 => sN ?_))))))))))
 clear h208 h210 h212
 rcases ite_some h with ⟨hb219, h⟩ | ⟨hb219, h⟩
 ·obtain ⟨x220, hx221, h⟩ := bind_some h
  refine cT h218 hb219 (xx (sN (sq (bl (sq (Rg (kx (mvO h215) (kx (ncP rfl) (kx (faP rfl ⟨ble rfl, blt rfl⟩ rfl) (kx (ldP rfl rfl) (kx (mvO h217) (kx (ixS rfl rfl hx221 Notch.fl) (kx (ldPA rfl rfl rfl) (ku (alO zero107) fun M223 hM224 => ?_))))))))))))))
  have o225 : M223[M.length]? = some (.live ⟨.box, 107, 2, [[.int .i8 0, .int .i16 0]]⟩) := push_new hM224
  refine kw (stO rfl rfl o225 rfl rfl ⟨rfl, ble rfl⟩ rfl rfl) fun M226 hM227 => ?_
  have o228 : M226[M.length]? = some (.live ⟨.box, 107, 2, [[.int .i8 x220.Kind, .int .i16 x220.At]]⟩) := set_same hM227 o225
  obtain ⟨_, hx235, h⟩ := bind_some h
  obtain ⟨x236, hx237, h⟩ := bind_some h
  obtain ⟨w238, hx239, h⟩ := bind_some h
  obtain ⟨r241, hx240, h⟩ := bind_some h
  obtain ⟨w242, hx243, h⟩ := bind_some h
  obtain ⟨w244, hx245, h⟩ := bind_some h
  refine Rn (hA h215 (hA h216 (hA h217 (hV (.loc M.length 1 0 0) rfl hZ)))) fun e229 h231 h232 h233 h234 => sN (Rd (kf (mvO h232) (fc (cl (v := .str ([100, 115, 108, 118, 99, 109] : List UInt8)) rfl rfl rfl (spec_l01Letters_ok  _ hx235) nm) (kf (faO h234 o228 rfl) (kf (ldO rfl o228 rfl rfl rfl) (kf (faO h234 o228 rfl) (kf (ldO rfl o228 rfl rfl rfl) (kf (bAdd rfl rfl) (kf (ssl2 rfl (bnd1 rfl) (bnd1 rfl) hx237) (kf (sAdd rfl rfl hx239) (kf (faO h234 o228 rfl) (kf (ldO rfl o228 rfl rfl rfl) (kf (cvI rfl) (fc (cl (v := .str r241) rfl (cns rfl rfl) rfl (spec_Decimal_ok (IntKind.i64.wrap x220.At) _ hx240) nm) (kf (sAdd rfl rfl hx243) (kf (sAdd rfl rfl hx245) (kf (mvO rfl) (fZ (Rn (hA h231 (hN rfl (hA h233 hZ))) fun e246 h248 h249 h250 => bN (sN (Rg (kx (mvO h250) (kx (bAdd rfl rfl) (kx (mvO rfl) (Rn (hA h248 (hA h249 (hN rfl hZ))) fun e251 h253 h254 h255 => ?_)))))))))))))))))))))))))
  clear h215 h216 h217 h218 h231 h233 h234 h248 h249
  obtain rfl := si h
  exact qN ⟨h253, h254, h255⟩
 refine cF h218 hb219 (xx (sE ?_))
 obtain rfl := si h
 exact qE ⟨rfl, h216⟩
noncomputable def spec_l01Text (a1 : Half) : Option ((List UInt8)) :=
 if a1.Stock = true then
  (Lw (spec_l01Text_b1 a1) (([115, 116, 111, 99, 107, 32] : List UInt8), 0)).bind fun y65 =>
  (Lw (spec_l01Text_b2 a1) (y65, 0)).bind fun y137 =>
  some y137
 else
  (Lw (spec_l01Text_b3 a1) (([102, 111, 105, 108, 32] : List UInt8), 0)).bind fun y189 =>
  (Lw (spec_l01Text_b4 a1) (y189, 0)).bind fun y261 =>
  some y261
def spec_l01Text_enc (r : (List UInt8)) : AV := .str r
theorem spec_l01Text_ok (a1 : Half) (r : (List UInt8)) (h : spec_l01Text a1 = some r) : Ev (fun k => CN k 77 [.pt none (.bool a1.Stock :: (.sl none (a1.Notches.map Notch.c) :: ((arC (cI .i8) 0 a1.Grain) ++ ([] : List AV))))] []) (fun p => rRes p.2 p.1 = spec_l01Text_enc r) := by
 unfold spec_l01Text at h
 refine Ev.enter (F := fun k => f77 (CN k) k) (fun k => callN_eq rfl Tryd.func77 rfl rfl rfl (by decide +kernel) (f77_eq _ _)) (sq (Rg (kx (mvO rfl) (Rn (hN rfl hZ) fun e1 h3 => sN (sq (Rg (kx (mvO rfl) (Rn (hA h3 (hN rfl hZ)) fun e4 h6 h7 => sN (sq (sq (Rg (kx (mvO h6) (kx (ncP rfl) (kx (faP rfl ⟨ble rfl, blt rfl⟩ rfl) (kx (ldP rfl rfl) (Rn (hA h6 (hA h7 (hN rfl hZ))) fun e8 h10 h11 h12 => sN ?_))))))))))))))))
 clear h3 h6 h7
 rcases ite_some h with ⟨hb13, h⟩ | ⟨hb13, h⟩
 ·obtain ⟨y65, hr61, h⟩ := bind_some h
  refine cT h12 hb13 (Rg (kx (mvO rfl) (Rn (hA h10 (hN rfl hZ)) fun e14 h16 h17 => sN (sq (sq (Rg (kx (mvO rfl) (Rn (hA h16 (hA h17 (hV (.int .i64 0) rfl hZ))) fun e18 h20 h21 h22 => sN (bl (Ev.loop (RS := spec_l01Text_b1_RS a1) (RR := spec_l01Text_b1_RR a1) (fun s r h e M hs => spec_l01Text_b1_ok a1 s r h e M hs) hr61 ⟨h20, h21, h22⟩ fun x e63 M64 hq62 => ?_))))))))))
  clear h10 h12 h16 h17
  obtain ⟨rfl, h66, h67⟩ := hq62
  obtain ⟨y137, hr133, h⟩ := bind_some h
  refine bE (sN (sq (sq (Rg (kx (mvO rfl) (Rn (hV (.pt none (.bool a1.Stock :: (.sl none (a1.Notches.map Notch.c) :: ((arC (cI .i8) 0 a1.Grain) ++ ([] : List AV))))) h66 (hV (.str y65) h67 (hV (.int .i64 0) rfl hZ))) fun e68 h70 h71 h72 => sN (bl (Ev.loop (RS := spec_l01Text_b2_RS a1) (RR := spec_l01Text_b2_RR a1) (fun s r h e M hs => spec_l01Text_b2_ok a1 s r h e M hs) hr133 ⟨h70, h71, h72⟩ fun x e135 M136 hq134 => ?_))))))))
  clear h66 h67
  obtain ⟨rfl, h138⟩ := hq134
  refine bE (sN (sq (Rg (kx (mvO h138) (kx (mvO rfl) (Rn (hN rfl hZ) fun e139 h141 => sN (xx ?_)))))))
  clear h138
  obtain rfl := si h
  exact eR (resT h141 res0) rfl
 obtain ⟨y189, hr185, h⟩ := bind_some h
 refine cF h12 hb13 (xx (sN (sq (sq (Rg (kx (mvO rfl) (Rn (hA h10 (hA h11 (hV (.int .i64 0) rfl hZ))) fun e142 h144 h145 h146 => sN (bl (Ev.loop (RS := spec_l01Text_b3_RS a1) (RR := spec_l01Text_b3_RR a1) (fun s r h e M hs => spec_l01Text_b3_ok a1 s r h e M hs) hr185 ⟨h144, h145, h146⟩ fun x e187 M188 hq186 => ?_)))))))))
 clear h10 h11 h12
 obtain ⟨rfl, h190, h191⟩ := hq186
 obtain ⟨y261, hr257, h⟩ := bind_some h
 refine bE (sN (sq (sq (Rg (kx (mvO rfl) (Rn (hV (.pt none (.bool a1.Stock :: (.sl none (a1.Notches.map Notch.c) :: ((arC (cI .i8) 0 a1.Grain) ++ ([] : List AV))))) h190 (hV (.str y189) h191 (hV (.int .i64 0) rfl hZ))) fun e192 h194 h195 h196 => sN (bl (Ev.loop (RS := spec_l01Text_b4_RS a1) (RR := spec_l01Text_b4_RR a1) (fun s r h e M hs => spec_l01Text_b4_ok a1 s r h e M hs) hr257 ⟨h194, h195, h196⟩ fun x e259 M260 hq258 => ?_))))))))
 clear h190 h191
 obtain ⟨rfl, h262⟩ := hq258
 refine bE (sN (sq (Rg (kx (mvO h262) (kx (mvO rfl) (Rn (hN rfl hZ) fun e263 h265 => sN (xx ?_)))))))
 clear h262
 obtain rfl := si h
 exact eR (resT h265 res0) rfl
/-! ### loop.example/g01263/spec.l06Text (f76) -/
abbrev spec_l06Text_b1_S := Int × Int
abbrev spec_l06Text_b1_R := Int
def spec_l06Text_b1_RS (a2 : List UInt8) (s : spec_l06Text_b1_S) (e : Env) (M : Mem) : Prop := eget e 0 = .int .u32 s.1 ∧ eget e 1 = .str a2 ∧ eget e 5 = .int .i64 s.2
def spec_l06Text_b1_RR (a2 : List UInt8) (g : spec_l06Text_b1_R) (x : Ex) (e : Env) (M : Mem) : Prop := x = .ext 0 ∧ eget e 0 = .int .u32 g
noncomputable def spec_l06Text_b1 (a2 : List UInt8) : spec_l06Text_b1_S → Option (spec_l06Text_b1_S ⊕ spec_l06Text_b1_R) := fun (s1_1, s1_2) =>
 if (decide (s1_2 < (a2.length : Int))) = true then
  (rd a2 s1_2).bind fun x33 =>
  some (.inl ((IntKind.u32.wrap ((ixor .u32 s1_1 (IntKind.u32.wrap (x33.toNat : Int))) * 16777619)), (IntKind.i64.wrap (s1_2 + 1))))
 else
  some (.inr s1_1)
theorem spec_l06Text_b1_ok (a2 : List UInt8) (s : spec_l06Text_b1_S) (r : spec_l06Text_b1_S ⊕ spec_l06Text_b1_R) (h : spec_l06Text_b1 a2 s = some r) (e : Env) (M : Mem) (hs : spec_l06Text_b1_RS a2 s e M) : Ev (fun k => (f76_l2 (CN k) k (prune [0, 1, 5] e) M).bind fun q => some q) (bQ (spec_l06Text_b1_RS a2) (spec_l06Text_b1_RR a2) r) := by
 obtain ⟨s1_1, s1_2⟩ := s
 unfold spec_l06Text_b1 at h
 obtain ⟨h20, h22, h24⟩ := hs
 generalize he19 : prune [0, 1, 5] e = e18
 have h21 := envp he19.symm rfl h20
 have h23 := envp he19.symm rfl h22
 have h25 := envp he19.symm rfl h24
 refine sq (sq (Rg (kx (mvO h25) (kx (mvO h23) (kx (lnB Tryd.underlying9 rfl) (kx (bLss rfl rfl) (Rn (hV (.int .u32 s1_1) h21 (hV (.str a2) h23 (hV (.int .i64 s1_2) h25 (hN rfl hZ)))) fun e26 h28 h29 h30 h31 => sN ?_)))))))
 clear h21 h23 h25
 rcases ite_some h with ⟨hb32, h⟩ | ⟨hb32, h⟩
 ·obtain ⟨x33, hx34, h⟩ := bind_some h
  refine cT h31 hb32 (xx (sN (sq (bl (Rg (kx (mvO h28) (kx (mvO h29) (kx (mvO h30) (kx (ixB rfl rfl hx34) (kx (cvI rfl) (kx (bXor rfl rfl) (kx (bMul rfl rfl) (kx (mvO rfl) (Rn (hN rfl (hA h29 (hA h30 hZ))) fun e35 h37 h38 h39 => bN (sN (Rg (kx (mvO h39) (kx (bAdd rfl rfl) (kx (mvO rfl) (Rn (hA h37 (hA h38 (hN rfl hZ))) fun e40 h42 h43 h44 => ?_))))))))))))))))))))
  clear h29 h30 h31 h37 h38
  obtain rfl := si h
  exact qN ⟨h42, h43, h44⟩
 refine cF h31 hb32 (xx (sE ?_))
 obtain rfl := si h
 exact qE ⟨rfl, h28⟩
noncomputable def spec_l06Text (a1 : Int) (a2 : List UInt8) : Option Int :=
 (Lw (spec_l06Text_b1 a2) (a1, 0)).bind fun y50 =>
 some y50
def spec_l06Text_enc (r : Int) : AV := .int .u32 r
theorem spec_l06Text_ok (a1 : Int) (a2 : List UInt8) (r : Int) (h : spec_l06Text a1 a2 = some r) : Ev (fun k => CN k 76 [.int .u32 a1, .str a2] []) (fun p => rRes p.2 p.1 = spec_l06Text_enc r) := by
 unfold spec_l06Text at h
 obtain ⟨y50, hr46, h⟩ := bind_some h
 refine Ev.enter (F := fun k => f76 (CN k) k) (fun k => callN_eq rfl Tryd.func76 rfl rfl rfl (by decide +kernel) (f76_eq _ _)) (sq (Rg (kx (mvO rfl) (Rn (hN rfl (hN rfl hZ)) fun e1 h3 h4 => sN (sq (sq (Rg (kx (mvO rfl) (Rn (hA h3 (hA h4 (hV (.int .i64 0) rfl hZ))) fun e5 h7 h8 h9 => sN (bl (Ev.loop (RS := spec_l06Text_b1_RS a2) (RR := spec_l06Text_b1_RR a2) (fun s r h e M hs => spec_l06Text_b1_ok a2 s r h e M hs) hr46 ⟨h7, h8, h9⟩ fun x e48 M49 hq47 => ?_)))))))))))
 clear h3 h4
 obtain ⟨rfl, h51⟩ := hq47
 refine bE (sN (sq (Rg (kx (mvO h51) (kx (mvO rfl) (Rn (hN rfl hZ) fun e52 h54 => sN (xx ?_)))))))
 clear h51
 obtain rfl := si h
 exact eR (resT h54 res0) rfl
/-! ### loop.example/g01263/spec.l01Ok (f74) -/
noncomputable def spec_l01Ok (a1 : Half) : Option Bool :=
 (spec_l01Notches a1.Notches).bind fun r5 =>
 if r5 = true then
  (spec_l01Grain a1.Grain).bind fun r8 =>
  some r8
 else
  some false
def spec_l01Ok_enc (r : Bool) : AV := .bool r
theorem spec_l01Ok_ok (a1 : Half) (r : Bool) (h : spec_l01Ok a1 = some r) : Ev (fun k => CN k 74 [.pt none (.bool a1.Stock :: (.sl none (a1.Notches.map Notch.c) :: ((arC (cI .i8) 0 a1.Grain) ++ ([] : List AV))))] []) (fun p => rRes p.2 p.1 = spec_l01Ok_enc r) := by
 unfold spec_l01Ok at h
 obtain ⟨r5, hx4, h⟩ := bind_some h
 refine Ev.enter (F := fun k => f74 (CN k) k) (fun k => callN_eq rfl Tryd.func74 rfl rfl rfl (by decide +kernel) (f74_eq _ _)) (sq (Rg (kx (mvO rfl) (Rn (hN rfl hZ) fun e1 h3 => sN (sq (Rg (kx (mvO h3) (kx (ncP rfl) (kx (faP rfl ⟨ble rfl, blt rfl⟩ rfl) (kx (ldP rfl rfl) (kc (cl (v := .bool r5) rfl (cns rfl rfl) rfl (spec_l01Notches_ok a1.Notches _ hx4) nm) (kx (mvO rfl) ?_))))))))))))
 rcases ite_some h with ⟨hb6, h⟩ | ⟨hb6, h⟩
 ·obtain ⟨r8, hx7, h⟩ := bind_some h
  refine kx (guT rfl hb6 (mvO h3)) (kx (guT rfl hb6 (ncP rfl)) (kx (guT rfl hb6 (faP rfl ⟨ble rfl, blt rfl⟩ rfl)) (kx (guT rfl hb6 (ldPA rfl rfl rfl)) (kc (Ev.guT rfl hb6 (cl (v := .bool r8) rfl (cns rfl rfl) rfl (spec_l01Grain_ok a1.Grain _ hx7) nm)) (kx (pkT rfl hb6 rfl) (kx (mvO rfl) (Rn (hN rfl hZ) fun e9 h11 => sN (xx ?_))))))))
  clear h3
  obtain rfl := si h
  exact eR (resT h11 res0) rfl
 refine kx (gsT rfl hb6) (kx (gsT rfl hb6) (kx (gsT rfl hb6) (kx (gsT rfl hb6) (kc (Ev.gsT rfl hb6) (kx (pkF rfl hb6 rfl) (kx (mvO rfl) (Rn (hV (.bool false) rfl hZ) fun e12 h14 => sN (xx ?_))))))))
 clear h3
 obtain rfl := si h
 exact eR (resT h14 res0) rfl
/-! ### loop.example/g01263/laws.szMark (f73) -/
noncomputable def laws_szMark (a1 : Mark) (a2 : Int) : Option Int :=
 if (decide ((IntKind.i64.wrap (a2 - (a1.Holder.length : Int))) < 0)) = true then
  some (-1)
 else
  some (IntKind.i64.wrap (a2 - (a1.Holder.length : Int)))
def laws_szMark_enc (r : Int) : AV := .int .i64 r
theorem laws_szMark_ok (a1 : Mark) (a2 : Int) (r : Int) (h : laws_szMark a1 a2 = some r) : Ev (fun k => CN k 73 [.agg [.str a1.Holder, .int .u32 a1.Seal], .int .i64 a2] []) (fun p => rRes p.2 p.1 = laws_szMark_enc r) := by
 unfold laws_szMark at h
 refine Ev.enter (F := fun k => f73 (CN k) k) (fun k => callN_eq rfl Tryd.func73 rfl rfl rfl (by decide +kernel) (f73_eq _ _)) (sq (Rg (kx (bxI rfl rfl ⟨rfl, rfl, by decide⟩) (kx (mvO rfl) (Rn (hN rfl (hN rfl hZ)) fun e1 h3 h4 => sN (sq (Rg (kx (mvO h3) (kx (faP h4 ⟨ble rfl, blt rfl⟩ rfl) (kx (ldP rfl rfl) (kx (lnB Tryd.underlying9 rfl) (kx (bSub rfl rfl) (kx (mvO rfl) (Rn (hN rfl hZ) fun e5 h7 => sN (sq (sq (Rg (kx (mvO h7) (kx (bLss rfl rfl) (Rn (hA h7 (hN rfl hZ)) fun e8 h10 h11 => sN ?_))))))))))))))))))))
 clear h4 h7
 rcases ite_some h with ⟨hb12, h⟩ | ⟨hb12, h⟩
 ·refine cT h11 hb12 (sq (Rg (kx (mvO rfl) (Rn (hV (.int .i64 (-1)) rfl hZ) fun e13 h15 => sN (xx (sR ?_))))))
  clear h10 h11
  obtain rfl := si h
  exact eR (resT h15 res0) rfl
 refine cF h11 hb12 (xx (sN (sq (Rg (kx (mvO h10) (kx (mvO rfl) (Rn (hN rfl hZ) fun e16 h18 => sN (xx ?_))))))))
 clear h10 h11
 obtain rfl := si h
 exact eR (resT h18 res0) rfl
/-! ### loop.example/g01263/laws.szNotchS (f72) -/
noncomputable def laws_szNotchS (a1 : List Notch) (a2 : Int) : Option Int :=
 if (decide ((IntKind.i64.wrap (a2 - (a1.length : Int))) < 0)) = true then
  some (-1)
 else
  some (IntKind.i64.wrap (a2 - (a1.length : Int)))
def laws_szNotchS_enc (r : Int) : AV := .int .i64 r
theorem laws_szNotchS_ok (a1 : List Notch) (a2 : Int) (r : Int) (h : laws_szNotchS a1 a2 = some r) : Ev (fun k => CN k 72 [.sl none (a1.map Notch.c), .int .i64 a2] []) (fun p => rRes p.2 p.1 = laws_szNotchS_enc r) := by
 unfold laws_szNotchS at h
 refine Ev.enter (F := fun k => f72 (CN k) k) (fun k => callN_eq rfl Tryd.func72 rfl rfl rfl (by decide +kernel) (f72_eq _ _)) (sq (Rg (kx (mvO rfl) (Rn (hN rfl (hN rfl hZ)) fun e1 h3 h4 => sN (sq (Rg (kx (mvO h4) (kx (mvO h3) (kx (lnS Tryd.underlying52 rfl) (kx (bSub rfl rfl) (kx (mvO rfl) (Rn (hN rfl hZ) fun e5 h7 => sN (sq (sq (Rg (kx (mvO h7) (kx (bLss rfl rfl) (Rn (hA h7 (hN rfl hZ)) fun e8 h10 h11 => sN ?_))))))))))))))))))
 clear h3 h7
 rcases ite_some h with ⟨hb12, h⟩ | ⟨hb12, h⟩
 ·refine cT h11 hb12 (sq (Rg (kx (mvO rfl) (Rn (hV (.int .i64 (-1)) rfl hZ) fun e13 h15 => sN (xx (sR ?_))))))
  clear h10 h11
  obtain rfl := si h
  exact eR (resT h15 res0) rfl
 refine cF h11 hb12 (xx (sN (sq (Rg (kx (mvO h10) (kx (mvO rfl) (Rn (hN rfl hZ) fun e16 h18 => sN (xx ?_))))))))
 clear h10 h11
 obtain rfl := si h
 exact eR (resT h18 res0) rfl
/-! ### loop.example/g01263/impl.four (f68) -/
noncomputable def impl_four (a1 : Int) : Option ((List UInt8)) :=
 (shr .u32 a1 24).bind fun n4 =>
 (shr .u32 a1 16).bind fun n6 =>
 (shr .u32 a1 8).bind fun n8 =>
 some (toB [(IntKind.u8.wrap n4), (IntKind.u8.wrap n6), (IntKind.u8.wrap n8), (IntKind.u8.wrap a1)])
def impl_four_enc (r : (List UInt8)) : AV := .str r
theorem impl_four_ok (a1 : Int) (r : (List UInt8)) (h : impl_four a1 = some r) : Ev (fun k => CN k 68 [.int .u32 a1] []) (fun p => rRes p.2 p.1 = impl_four_enc r) := by
 unfold impl_four at h
 obtain ⟨n4, hx5, h⟩ := bind_some h
 obtain ⟨n6, hx7, h⟩ := bind_some h
 obtain ⟨n8, hx9, h⟩ := bind_some h
 refine Ev.enter (F := fun k => f68 (CN k) k) (fun k => callN_eq rfl Tryd.func68 rfl rfl rfl (by decide +kernel) (f68_eq _ _)) (sq (Rg (kx (mvO rfl) (Rn (hN rfl hZ) fun e1 h3 => sN (sq (Rg (kx (mvO h3) (kx (bShr rfl rfl hx5) (kx (cvI rfl) (kx (mvO h3) (kx (bShr rfl rfl hx7) (kx (cvI rfl) (kx (mvO h3) (kx (bShr rfl rfl hx9) (kx (cvI rfl) (kx (mvO h3) (kx (cvI rfl) (kx (litI (cns rfl (cns rfl (cns rfl (cns rfl rfl)))) rfl ⟨rfl, by decide⟩) (kx (cvB (elT (c := (cI .u8)) (xs := [(IntKind.u8.wrap n4), (IntKind.u8.wrap n6), (IntKind.u8.wrap n8), (IntKind.u8.wrap a1)]) rfl)) (kx (mvO rfl) (Rn (hN rfl hZ) fun e10 h12 => sN (xx ?_))))))))))))))))))))))
 clear h3
 obtain rfl := si h
 exact eR (resT h12 res0) rfl
/-! ### strings.Join (f94), by its contract -/
noncomputable def strings_Join (a1 : List (List UInt8)) (a2 : List UInt8) : Option (List UInt8) := joinI a1 a2
def strings_Join_enc (r : List UInt8) : AV := .str r
theorem strings_Join_ok (a1 : List (List UInt8)) (a2 : List UInt8) (r : List UInt8) (h : strings_Join a1 a2 = some r) : Ev (fun k => CN k 94 [.sl none (a1.map cS), .str a2] []) (fun p => rRes p.2 p.1 = strings_Join_enc r) := Ev.lib rfl rfl (lib_join h) rfl
/-! ### loop.example/g01263/impl.halfText (f67) -/
abbrev impl_halfText_b1_S := Int × (List Int)
abbrev impl_halfText_b1_R := (List Int)
def impl_halfText_b1_RS (a1 : Half) (i1_1 : Nat) (s : impl_halfText_b1_S) (e : Env) (M : Mem) : Prop := eget e 1 = .pt none (.bool a1.Stock :: (.sl none (a1.Notches.map Notch.c) :: ((arC (cI .i8) 0 a1.Grain) ++ ([] : List AV)))) ∧ eget e 3 = .str ([115, 116, 111, 99, 107] : List UInt8) ∧ eget e 4 = .lsl i1_1 s.2.length 0 s.2.length ∧ eget e 14 = .agg (arC (cI .i8) 0 a1.Grain) ∧ eget e 15 = .int .i64 s.1 ∧ M[i1_1]? = some (.live ⟨.grow, 5, 1, s.2.map (cI .u8)⟩)
def impl_halfText_b1_RR (a1 : Half) (i1_1 : Nat) (g : impl_halfText_b1_R) (x : Ex) (e : Env) (M : Mem) : Prop := x = .ext 0 ∧ eget e 1 = .pt none (.bool a1.Stock :: (.sl none (a1.Notches.map Notch.c) :: ((arC (cI .i8) 0 a1.Grain) ++ ([] : List AV)))) ∧ eget e 3 = .str ([115, 116, 111, 99, 107] : List UInt8) ∧ eget e 4 = .lsl i1_1 g.length 0 g.length ∧ M[i1_1]? = some (.live ⟨.grow, 5, 1, g.map (cI .u8)⟩)
noncomputable def impl_halfText_b1 (a1 : Half) : impl_halfText_b1_S → Option (impl_halfText_b1_S ⊕ impl_halfText_b1_R) := fun (s1_1, s1_2) =>
 if (decide (s1_1 < 16)) = true then
  (rdA a1.Grain s1_1).bind fun x69 =>
  (app 1 s1_2 [(IntKind.u8.wrap (IntKind.i8.wrap (100 + x69)))]).bind fun x79 =>
  some (.inl ((IntKind.i64.wrap (s1_1 + 1)), x79))
 else
  some (.inr s1_2)
theorem impl_halfText_b1_ok (a1 : Half) (i1_1 : Nat) (s : impl_halfText_b1_S) (r : impl_halfText_b1_S ⊕ impl_halfText_b1_R) (h : impl_halfText_b1 a1 s = some r) (e : Env) (M : Mem) (hs : impl_halfText_b1_RS a1 i1_1 s e M) : Ev (fun k => (f67_l6 (CN k) k (prune [1, 3, 4, 14, 15] e) M).bind fun q => some q) (bQ (impl_halfText_b1_RS a1 i1_1) (impl_halfText_b1_RR a1 i1_1) r) := by
 obtain ⟨s1_1, s1_2⟩ := s
 unfold impl_halfText_b1 at h
 obtain ⟨h49, h51, h53, h55, h57, o59⟩ := hs
 generalize he48 : prune [1, 3, 4, 14, 15] e = e47
 have h50 := envp he48.symm rfl h49
 have h52 := envp he48.symm rfl h51
 have h54 := envp he48.symm rfl h53
 have h56 := envp he48.symm rfl h55
 have h58 := envp he48.symm rfl h57
 refine sq (Rg (kx (bLss h58 rfl) (Rn (hV (.pt none (.bool a1.Stock :: (.sl none (a1.Notches.map Notch.c) :: ((arC (cI .i8) 0 a1.Grain) ++ ([] : List AV))))) h50 (hV (.str ([115, 116, 111, 99, 107] : List UInt8)) h52 (hV (.lsl i1_1 s1_2.length 0 s1_2.length) h54 (hV (.agg (arC (cI .i8) 0 a1.Grain)) h56 (hV (.int .i64 s1_1) h58 (hN rfl hZ)))))) fun e60 h62 h63 h64 h65 h66 h67 => sN (sq ?_))))
 clear h50 h52 h54 h56 h58
 rcases ite_some h with ⟨hb68, h⟩ | ⟨hb68, h⟩
 ·obtain ⟨x69, hx70, h⟩ := bind_some h
  obtain ⟨x79, hx80, h⟩ := bind_some h
  refine cT h67 hb68 (xx (sN (sq (bl (sq (Rg (kx (ixA1 (K := AV.int .i8) (c := (cI .i8)) (z := 0) (g := a1.Grain) h65 h66 hx70 (fun _ => rfl)) (kx (mvO rfl) (Rn (hA h62 (hA h63 (hA h64 (hN rfl (hA h65 (hA h66 hZ)))))) fun e71 h73 h74 h75 h76 h77 h78 => sN (Rg (kx (mvO h75) (kx (mvO h76) (kx (bAdd rfl rfl) (kx (cvI rfl) (kx (litI (cns rfl rfl) rfl ⟨rfl, by decide⟩) (kw (apO rfl o59 rfl (elT (c := (cI .u8)) (xs := [(IntKind.u8.wrap (IntKind.i8.wrap (100 + x69)))]) rfl) hx80 (cI_fl _) (by decide)) fun M81 hM82 => ?_))))))))))))))))
  clear h62 h63 h64 h65 h66 h67
  have o83 : M81[i1_1]? = some (.live ⟨.grow, 5, 1, x79.map (cI .u8)⟩) := set_same hM82 o59
  refine kx (mvO rfl) (Rn (hA h73 (hA h74 (hV (.lsl i1_1 x79.length 0 x79.length) rfl (hA h77 (hA h78 hZ))))) fun e84 h86 h87 h88 h89 h90 => bN (sN (Rg (kx (bAdd h90 rfl) (kx (mvO rfl) (Rn (hA h86 (hA h87 (hA h88 (hA h89 (hN rfl hZ))))) fun e91 h93 h94 h95 h96 h97 => ?_))))))
  clear h73 h74 h76 h77 h78 h86 h87 h88 h89
  obtain rfl := si h
  exact qN ⟨h93, h94, h95, h96, h97, o83⟩
 refine cF h67 hb68 (xx (sE ?_))
 obtain rfl := si h
 exact qE ⟨rfl, h62, h63, h64, o59⟩
abbrev impl_halfText_b2_S := Int × (List (List UInt8))
abbrev impl_halfText_b2_R := (List (List UInt8))
def impl_halfText_b2_RS (a1 : Half) (i2_1 : Nat) (s : impl_halfText_b2_S) (e : Env) (M : Mem) : Prop := eget e 7 = .lsl i2_1 s.2.length 0 s.2.length ∧ eget e 30 = .sl none (a1.Notches.map Notch.c) ∧ eget e 31 = .int .i64 (a1.Notches.length : Int) ∧ eget e 32 = .int .i64 s.1 ∧ M[i2_1]? = some (.live ⟨.grow, 9, 1, s.2.map cS⟩)
def impl_halfText_b2_RR (a1 : Half) (i2_1 : Nat) (g : impl_halfText_b2_R) (x : Ex) (e : Env) (M : Mem) : Prop := x = .ext 2 ∧ eget e 7 = .lsl i2_1 g.length 0 g.length ∧ M[i2_1]? = some (.live ⟨.grow, 9, 1, g.map cS⟩)
noncomputable def impl_halfText_b2 (a1 : Half) : impl_halfText_b2_S → Option (impl_halfText_b2_S ⊕ impl_halfText_b2_R) := fun (s2_1, s2_2) =>
 if (decide (s2_1 < (a1.Notches.length : Int))) = true then
  (rd a1.Notches s2_1).bind fun x154 =>
  (slc ([100, 115, 108, 118, 99, 109] : List UInt8) x154.Kind (IntKind.i8.wrap (x154.Kind + 1))).bind fun x173 =>
  (impl_decimal (IntKind.i64.wrap x154.At)).bind fun r176 =>
  (sadd x173 r176).bind fun w177 =>
  (app 16 s2_2 [w177]).bind fun x179 =>
  some (.inl ((IntKind.i64.wrap (s2_1 + 1)), x179))
 else
  some (.inr s2_2)
theorem impl_halfText_b2_ok (a1 : Half) (i2_1 : Nat) (s : impl_halfText_b2_S) (r : impl_halfText_b2_S ⊕ impl_halfText_b2_R) (h : impl_halfText_b2 a1 s = some r) (e : Env) (M : Mem) (hs : impl_halfText_b2_RS a1 i2_1 s e M) : Ev (fun k => (f67_l12 (CN k) k (prune [7, 30, 31, 32] e) M).bind fun q => some q) (bQ (impl_halfText_b2_RS a1 i2_1) (impl_halfText_b2_RR a1 i2_1) r) := by
 obtain ⟨s2_1, s2_2⟩ := s
 unfold impl_halfText_b2 at h
 obtain ⟨h137, h139, h141, h143, o145⟩ := hs
 generalize he136 : prune [7, 30, 31, 32] e = e135
 have h138 := envp he136.symm rfl h137
 have h140 := envp he136.symm rfl h139
 have h142 := envp he136.symm rfl h141
 have h144 := envp he136.symm rfl h143
 refine sq (Rg (kx (bLss h144 h142) (Rn (hV (.lsl i2_1 s2_2.length 0 s2_2.length) h138 (hV (.sl none (a1.Notches.map Notch.c)) h140 (hV (.int .i64 (a1.Notches.length : Int)) h142 (hV (.int .i64 s2_1) h144 (hN rfl hZ))))) fun e146 h148 h149 h150 h151 h152 => sN (sq ?_))))
 clear h138 h140 h142 h144
 rcases ite_some h with ⟨hb153, h⟩ | ⟨hb153, h⟩
 ·obtain ⟨x154, hx155, h⟩ := bind_some h
  refine cT h152 hb153 (xx (sN (sq (bl (sq (Rg (kx (ixS h149 h151 hx155 Notch.fl) (kx (ldPA rfl rfl rfl) (ku (alO zero107) fun M157 hM158 => ?_)))))))))
  have o159 := push_old hM158 o145
  have ne160 := ne_new o145
  have o161 : M157[M.length]? = some (.live ⟨.box, 107, 2, [[.int .i8 0, .int .i16 0]]⟩) := push_new hM158
  refine kw (stO rfl rfl o161 rfl rfl ⟨rfl, ble rfl⟩ rfl rfl) fun M162 hM163 => ?_
  have o164 := set_ne hM163 ne160 o159
  have o165 : M162[M.length]? = some (.live ⟨.box, 107, 2, [[.int .i8 x154.Kind, .int .i16 x154.At]]⟩) := set_same hM163 o161
  obtain ⟨x173, hx174, h⟩ := bind_some h
  obtain ⟨r176, hx175, h⟩ := bind_some h
  obtain ⟨w177, hx178, h⟩ := bind_some h
  obtain ⟨x179, hx180, h⟩ := bind_some h
  refine Rn (hA h148 (hV (.loc M.length 1 0 0) rfl (hA h149 (hA h150 (hA h151 hZ))))) fun e166 h168 h169 h170 h171 h172 => sN (Rd (kf (mvO h168) (kf (faO h169 o165 rfl) (kf (ldO rfl o165 rfl rfl rfl) (kf (faO h169 o165 rfl) (kf (ldO rfl o165 rfl rfl rfl) (kf (bAdd rfl rfl) (kf (ssl2 rfl (bnd1 rfl) (bnd1 rfl) hx174) (kf (faO h169 o165 rfl) (kf (ldO rfl o165 rfl rfl rfl) (kf (cvI rfl) (fc (cl (v := .str r176) rfl (cns rfl rfl) rfl (impl_decimal_ok (IntKind.i64.wrap x154.At) _ hx175) nm) (kf (sAdd rfl rfl hx178) (kf (litI (cns rfl rfl) rfl ⟨rfl, by decide⟩) (fZ (kw (apO rfl o164 rfl (elT (c := cS) (xs := [w177]) rfl) hx180 cS_fl (by decide)) fun M181 hM182 => ?_))))))))))))))))
  clear h148 h149 h150 h151 h152
  have o183 : M181[i2_1]? = some (.live ⟨.grow, 9, 1, x179.map cS⟩) := set_same hM182 o164
  have o184 := set_ne hM182 (Ne.symm ne160) o165
  refine kx (mvO rfl) (Rn (hV (.lsl i2_1 x179.length 0 x179.length) rfl (hA h170 (hA h171 (hA h172 hZ)))) fun e185 h187 h188 h189 h190 => bN (sN (Rg (kx (bAdd h190 rfl) (kx (mvO rfl) (Rn (hA h187 (hA h188 (hA h189 (hN rfl hZ)))) fun e191 h193 h194 h195 h196 => ?_))))))
  clear h169 h170 h171 h172 h187 h188 h189
  obtain rfl := si h
  exact qN ⟨h193, h194, h195, h196, o183⟩
 refine cF h152 hb153 (xx (sE ?_))
 obtain rfl := si h
 exact qE ⟨rfl, h148, o145⟩
abbrev impl_halfText_b3_S := Int × (List Int)
abbrev impl_halfText_b3_R := (List Int)
def impl_halfText_b3_RS (a1 : Half) (i3_1 : Nat) (s : impl_halfText_b3_S) (e : Env) (M : Mem) : Prop := eget e 1 = .pt none (.bool a1.Stock :: (.sl none (a1.Notches.map Notch.c) :: ((arC (cI .i8) 0 a1.Grain) ++ ([] : List AV)))) ∧ eget e 3 = .str ([102, 111, 105, 108] : List UInt8) ∧ eget e 4 = .lsl i3_1 s.2.length 0 s.2.length ∧ eget e 14 = .agg (arC (cI .i8) 0 a1.Grain) ∧ eget e 15 = .int .i64 s.1 ∧ M[i3_1]? = some (.live ⟨.grow, 5, 1, s.2.map (cI .u8)⟩)
def impl_halfText_b3_RR (a1 : Half) (i3_1 : Nat) (g : impl_halfText_b3_R) (x : Ex) (e : Env) (M : Mem) : Prop := x = .ext 0 ∧ eget e 1 = .pt none (.bool a1.Stock :: (.sl none (a1.Notches.map Notch.c) :: ((arC (cI .i8) 0 a1.Grain) ++ ([] : List AV)))) ∧ eget e 3 = .str ([102, 111, 105, 108] : List UInt8) ∧ eget e 4 = .lsl i3_1 g.length 0 g.length ∧ M[i3_1]? = some (.live ⟨.grow, 5, 1, g.map (cI .u8)⟩)
noncomputable def impl_halfText_b3 (a1 : Half) : impl_halfText_b3_S → Option (impl_halfText_b3_S ⊕ impl_halfText_b3_R) := fun (s3_1, s3_2) =>
 if (decide (s3_1 < 16)) = true then
  (rdA a1.Grain s3_1).bind fun x261 =>
  (app 1 s3_2 [(IntKind.u8.wrap (IntKind.i8.wrap (100 + x261)))]).bind fun x271 =>
  some (.inl ((IntKind.i64.wrap (s3_1 + 1)), x271))
 else
  some (.inr s3_2)
theorem impl_halfText_b3_ok (a1 : Half) (i3_1 : Nat) (s : impl_halfText_b3_S) (r : impl_halfText_b3_S ⊕ impl_halfText_b3_R) (h : impl_halfText_b3 a1 s = some r) (e : Env) (M : Mem) (hs : impl_halfText_b3_RS a1 i3_1 s e M) : Ev (fun k => (f67_l6 (CN k) k (prune [1, 3, 4, 14, 15] e) M).bind fun q => some q) (bQ (impl_halfText_b3_RS a1 i3_1) (impl_halfText_b3_RR a1 i3_1) r) := by
 obtain ⟨s3_1, s3_2⟩ := s
 unfold impl_halfText_b3 at h
 obtain ⟨h241, h243, h245, h247, h249, o251⟩ := hs
 generalize he240 : prune [1, 3, 4, 14, 15] e = e239
 have h242 := envp he240.symm rfl h241
 have h244 := envp he240.symm rfl h243
 have h246 := envp he240.symm rfl h245
 have h248 := envp he240.symm rfl h247
 have h250 := envp he240.symm rfl h249
 refine sq (Rg (kx (bLss h250 rfl) (Rn (hV (.pt none (.bool a1.Stock :: (.sl none (a1.Notches.map Notch.c) :: ((arC (cI .i8) 0 a1.Grain) ++ ([] : List AV))))) h242 (hV (.str ([102, 111, 105, 108] : List UInt8)) h244 (hV (.lsl i3_1 s3_2.length 0 s3_2.length) h246 (hV (.agg (arC (cI .i8) 0 a1.Grain)) h248 (hV (.int .i64 s3_1) h250 (hN rfl hZ)))))) fun e252 h254 h255 h256 h257 h258 h259 => sN (sq ?_))))
 clear h242 h244 h246 h248 h250
 rcases ite_some h with ⟨hb260, h⟩ | ⟨hb260, h⟩
 ·obtain ⟨x261, hx262, h⟩ := bind_some h
  obtain ⟨x271, hx272, h⟩ := bind_some h
  refine cT h259 hb260 (xx (sN (sq (bl (sq (Rg (kx (ixA1 (K := AV.int .i8) (c := (cI .i8)) (z := 0) (g := a1.Grain) h257 h258 hx262 (fun _ => rfl)) (kx (mvO rfl) (Rn (hA h254 (hA h255 (hA h256 (hN rfl (hA h257 (hA h258 hZ)))))) fun e263 h265 h266 h267 h268 h269 h270 => sN (Rg (kx (mvO h267) (kx (mvO h268) (kx (bAdd rfl rfl) (kx (cvI rfl) (kx (litI (cns rfl rfl) rfl ⟨rfl, by decide⟩) (kw (apO rfl o251 rfl (elT (c := (cI .u8)) (xs := [(IntKind.u8.wrap (IntKind.i8.wrap (100 + x261)))]) rfl) hx272 (cI_fl _) (by decide)) fun M273 hM274 => ?_))))))))))))))))
  clear h254 h255 h256 h257 h258 h259
  have o275 : M273[i3_1]? = some (.live ⟨.grow, 5, 1, x271.map (cI .u8)⟩) := set_same hM274 o251
  refine kx (mvO rfl) (Rn (hA h265 (hA h266 (hV (.lsl i3_1 x271.length 0 x271.length) rfl (hA h269 (hA h270 hZ))))) fun e276 h278 h279 h280 h281 h282 => bN (sN (Rg (kx (bAdd h282 rfl) (kx (mvO rfl) (Rn (hA h278 (hA h279 (hA h280 (hA h281 (hN rfl hZ))))) fun e283 h285 h286 h287 h288 h289 => ?_))))))
  clear h265 h266 h268 h269 h270 h278 h279 h280 h281
  obtain rfl := si h
  exact qN ⟨h285, h286, h287, h288, h289, o275⟩
 refine cF h259 hb260 (xx (sE ?_))
 obtain rfl := si h
 exact qE ⟨rfl, h254, h255, h256, o251⟩
abbrev impl_halfText_b4_S := Int × (List (List UInt8))
abbrev impl_halfText_b4_R := (List (List UInt8))
def impl_halfText_b4_RS (a1 : Half) (i4_1 : Nat) (s : impl_halfText_b4_S) (e : Env) (M : Mem) : Prop := eget e 7 = .lsl i4_1 s.2.length 0 s.2.length ∧ eget e 30 = .sl none (a1.Notches.map Notch.c) ∧ eget e 31 = .int .i64 (a1.Notches.length : Int) ∧ eget e 32 = .int .i64 s.1 ∧ M[i4_1]? = some (.live ⟨.grow, 9, 1, s.2.map cS⟩)
def impl_halfText_b4_RR (a1 : Half) (i4_1 : Nat) (g : impl_halfText_b4_R) (x : Ex) (e : Env) (M : Mem) : Prop := x = .ext 2 ∧ eget e 7 = .lsl i4_1 g.length 0 g.length ∧ M[i4_1]? = some (.live ⟨.grow, 9, 1, g.map cS⟩)
noncomputable def impl_halfText_b4 (a1 : Half) : impl_halfText_b4_S → Option (impl_halfText_b4_S ⊕ impl_halfText_b4_R) := fun (s4_1, s4_2) =>
 if (decide (s4_1 < (a1.Notches.length : Int))) = true then
  (rd a1.Notches s4_1).bind fun x346 =>
  (slc ([100, 115, 108, 118, 99, 109] : List UInt8) x346.Kind (IntKind.i8.wrap (x346.Kind + 1))).bind fun x365 =>
  (impl_decimal (IntKind.i64.wrap x346.At)).bind fun r368 =>
  (sadd x365 r368).bind fun w369 =>
  (app 16 s4_2 [w369]).bind fun x371 =>
  some (.inl ((IntKind.i64.wrap (s4_1 + 1)), x371))
 else
  some (.inr s4_2)
theorem impl_halfText_b4_ok (a1 : Half) (i4_1 : Nat) (s : impl_halfText_b4_S) (r : impl_halfText_b4_S ⊕ impl_halfText_b4_R) (h : impl_halfText_b4 a1 s = some r) (e : Env) (M : Mem) (hs : impl_halfText_b4_RS a1 i4_1 s e M) : Ev (fun k => (f67_l12 (CN k) k (prune [7, 30, 31, 32] e) M).bind fun q => some q) (bQ (impl_halfText_b4_RS a1 i4_1) (impl_halfText_b4_RR a1 i4_1) r) := by
 obtain ⟨s4_1, s4_2⟩ := s
 unfold impl_halfText_b4 at h
 obtain ⟨h329, h331, h333, h335, o337⟩ := hs
 generalize he328 : prune [7, 30, 31, 32] e = e327
 have h330 := envp he328.symm rfl h329
 have h332 := envp he328.symm rfl h331
 have h334 := envp he328.symm rfl h333
 have h336 := envp he328.symm rfl h335
 refine sq (Rg (kx (bLss h336 h334) (Rn (hV (.lsl i4_1 s4_2.length 0 s4_2.length) h330 (hV (.sl none (a1.Notches.map Notch.c)) h332 (hV (.int .i64 (a1.Notches.length : Int)) h334 (hV (.int .i64 s4_1) h336 (hN rfl hZ))))) fun e338 h340 h341 h342 h343 h344 => sN (sq ?_))))
 clear h330 h332 h334 h336
 rcases ite_some h with ⟨hb345, h⟩ | ⟨hb345, h⟩
 ·obtain ⟨x346, hx347, h⟩ := bind_some h
  refine cT h344 hb345 (xx (sN (sq (bl (sq (Rg (kx (ixS h341 h343 hx347 Notch.fl) (kx (ldPA rfl rfl rfl) (ku (alO zero107) fun M349 hM350 => ?_)))))))))
  have o351 := push_old hM350 o337
  have ne352 := ne_new o337
  have o353 : M349[M.length]? = some (.live ⟨.box, 107, 2, [[.int .i8 0, .int .i16 0]]⟩) := push_new hM350
  refine kw (stO rfl rfl o353 rfl rfl ⟨rfl, ble rfl⟩ rfl rfl) fun M354 hM355 => ?_
  have o356 := set_ne hM355 ne352 o351
  have o357 : M354[M.length]? = some (.live ⟨.box, 107, 2, [[.int .i8 x346.Kind, .int .i16 x346.At]]⟩) := set_same hM355 o353
  obtain ⟨x365, hx366, h⟩ := bind_some h
  obtain ⟨r368, hx367, h⟩ := bind_some h
  obtain ⟨w369, hx370, h⟩ := bind_some h
  obtain ⟨x371, hx372, h⟩ := bind_some h
  refine Rn (hA h340 (hV (.loc M.length 1 0 0) rfl (hA h341 (hA h342 (hA h343 hZ))))) fun e358 h360 h361 h362 h363 h364 => sN (Rd (kf (mvO h360) (kf (faO h361 o357 rfl) (kf (ldO rfl o357 rfl rfl rfl) (kf (faO h361 o357 rfl) (kf (ldO rfl o357 rfl rfl rfl) (kf (bAdd rfl rfl) (kf (ssl2 rfl (bnd1 rfl) (bnd1 rfl) hx366) (kf (faO h361 o357 rfl) (kf (ldO rfl o357 rfl rfl rfl) (kf (cvI rfl) (fc (cl (v := .str r368) rfl (cns rfl rfl) rfl (impl_decimal_ok (IntKind.i64.wrap x346.At) _ hx367) nm) (kf (sAdd rfl rfl hx370) (kf (litI (cns rfl rfl) rfl ⟨rfl, by decide⟩) (fZ (kw (apO rfl o356 rfl (elT (c := cS) (xs := [w369]) rfl) hx372 cS_fl (by decide)) fun M373 hM374 => ?_))))))))))))))))
  clear h340 h341 h342 h343 h344
  have o375 : M373[i4_1]? = some (.live ⟨.grow, 9, 1, x371.map cS⟩) := set_same hM374 o356
  have o376 := set_ne hM374 (Ne.symm ne352) o357
  refine kx (mvO rfl) (Rn (hV (.lsl i4_1 x371.length 0 x371.length) rfl (hA h362 (hA h363 (hA h364 hZ)))) fun e377 h379 h380 h381 h382 => bN (sN (Rg (kx (bAdd h382 rfl) (kx (mvO rfl) (Rn (hA h379 (hA h380 (hA h381 (hN rfl hZ)))) fun e383 h385 h386 h387 h388 => ?_))))))
  clear h361 h362 h363 h364 h379 h380 h381
  obtain rfl := si h
  exact qN ⟨h385, h386, h387, h388, o375⟩
 refine cF h344 hb345 (xx (sE ?_))
 obtain rfl := si h
 exact qE ⟨rfl, h340, o337⟩
noncomputable def impl_halfText (a1 : Half) : Option ((List UInt8)) :=
 if a1.Stock = true then
  (Lw (impl_halfText_b1 a1) (0, ([] : List Int))).bind fun y103 =>
  (Lw (impl_halfText_b2 a1) (0, [([115, 116, 111, 99, 107] : List UInt8), (toB y103)])).bind fun y202 =>
  (strings_Join y202 ([32] : List UInt8)).bind fun r206 =>
  some r206
 else
  (Lw (impl_halfText_b3 a1) (0, ([] : List Int))).bind fun y295 =>
  (Lw (impl_halfText_b4 a1) (0, [([102, 111, 105, 108] : List UInt8), (toB y295)])).bind fun y394 =>
  (strings_Join y394 ([32] : List UInt8)).bind fun r398 =>
  some r398
def impl_halfText_enc (r : (List UInt8)) : AV := .str r
theorem impl_halfText_ok (a1 : Half) (r : (List UInt8)) (h : impl_halfText a1 = some r) : Ev (fun k => CN k 67 [.agg (.bool a1.Stock :: (.sl none (a1.Notches.map Notch.c) :: ((arC (cI .i8) 0 a1.Grain) ++ ([] : List AV))))] []) (fun p => rRes p.2 p.1 = impl_halfText_enc r) := by
 unfold impl_halfText at h
 refine Ev.enter (F := fun k => f67 (CN k) k) (fun k => callN_eq rfl Tryd.func67 rfl rfl rfl (by decide +kernel) (f67_eq _ _)) (sq (Rg (kx (bxI rfl rfl ⟨rfl, rfl, by decide⟩) (kx (mvO rfl) (Rn (hN rfl hZ) fun e1 h3 => sN (sq (Rg (kx (mvO rfl) (Rn (hA h3 (hN rfl hZ)) fun e4 h6 h7 => sN (sq (sq (Rg (kx (faP h6 ⟨ble rfl, blt rfl⟩ rfl) (kx (ldP rfl rfl) (Rn (hA h6 (hA h7 (hN rfl hZ))) fun e8 h10 h11 h12 => sN ?_)))))))))))))))
 clear h3 h6 h7
 rcases ite_some h with ⟨hb13, h⟩ | ⟨hb13, h⟩
 ·refine cT h12 hb13 (Rg (kx (mvO rfl) (Rn (hA h10 (hN rfl hZ)) fun e14 h16 h17 => sN (sq (Rg (ku (litO (xs := ([] : List Int)) (c := (cI .u8)) rfl rfl (by decide)) fun M19 hM20 => ?_))))))
  clear h10 h12
  have o21 : M19[([] : Mem).length]? = some (.live ⟨.grow, 5, 1, ([] : List Int).map (cI .u8)⟩) := push_new hM20
  obtain ⟨y103, hr99, h⟩ := bind_some h
  refine kx (mvO rfl) (Rn (hA h16 (hA h17 (hV (.lsl ([] : Mem).length ([] : List Int).length 0 ([] : List Int).length) rfl hZ))) fun e22 h24 h25 h26 => sN (sq (sq (Rg (kx (faP h24 ⟨ble rfl, blt rfl⟩ rfl) (kx (ldPA rfl rfl rfl) (kx (mvO rfl) (Rn (hA h24 (hA h25 (hA h26 (hN rfl (hV (.int .i64 0) rfl hZ))))) fun e27 h29 h30 h31 h32 h33 => sN (bl (Ev.loop (RS := impl_halfText_b1_RS a1 (([] : Mem).length)) (RR := impl_halfText_b1_RR a1 (([] : Mem).length)) (fun s r h e M hs => impl_halfText_b1_ok a1 (([] : Mem).length) s r h e M hs) hr99 ⟨h29, h30, h31, h32, h33, o21⟩ fun x e101 M102 hq100 => ?_))))))))))
  clear h16 h17 h24 h25 h26
  obtain ⟨rfl, h104, h105, h106, o107⟩ := hq100
  refine bE (sN (sq (Rg (kx (mvO h105) (kx (mvO h106) (kx (cvB (elL rfl o107 rfl)) (ku (litO (xs := [([115, 116, 111, 99, 107] : List UInt8), (toB y103)]) (c := cS) (cns rfl (cns rfl rfl)) rfl (by decide)) fun M109 hM110 => ?_)))))))
  have o111 := push_old hM110 o107
  have ne112 := ne_new o107
  have o113 : M109[M102.length]? = some (.live ⟨.grow, 9, 1, [([115, 116, 111, 99, 107] : List UInt8), (toB y103)].map cS⟩) := push_new hM110
  obtain ⟨y202, hr198, h⟩ := bind_some h
  refine kx (mvO rfl) (Rn (hV (.pt none (.bool a1.Stock :: (.sl none (a1.Notches.map Notch.c) :: ((arC (cI .i8) 0 a1.Grain) ++ ([] : List AV))))) h104 (hV (.lsl M102.length [([115, 116, 111, 99, 107] : List UInt8), (toB y103)].length 0 [([115, 116, 111, 99, 107] : List UInt8), (toB y103)].length) rfl hZ)) fun e114 h116 h117 => sN (sq (sq (Rg (kx (faP h116 ⟨ble rfl, blt rfl⟩ rfl) (kx (ldP rfl rfl) (kx (lnS Tryd.underlying26 rfl) (kx (mvO rfl) (Rn (hA h117 (hN rfl (hN rfl (hV (.int .i64 0) rfl hZ)))) fun e118 h120 h121 h122 h123 => sN (bl (Ev.loop (RS := impl_halfText_b2_RS a1 M102.length) (RR := impl_halfText_b2_RR a1 M102.length) (fun s r h e M hs => impl_halfText_b2_ok a1 M102.length s r h e M hs) hr198 ⟨h120, h121, h122, h123, o113⟩ fun x e200 M201 hq199 => ?_)))))))))))
  clear h104 h105 h106 h116 h117
  obtain ⟨rfl, h203, o204⟩ := hq199
  obtain ⟨r206, hx205, h⟩ := bind_some h
  refine bE (sN (sq (Rg (kx (mvO h203) (kc (cl (v := .str r206) rfl (cns rfl (cns rfl rfl)) (ra1 (ra1_row o204 rfl cS_fl) (ra1 rfl ra0)) (strings_Join_ok y202 ([32] : List UInt8) _ hx205) (fun _ => rfl)) (kx (mvO rfl) (Rn (hN rfl hZ) fun e207 h209 => sN (xx ?_))))))))
  clear h203
  obtain rfl := si h
  exact eR (resT h209 res0) rfl
 refine cF h12 hb13 (xx (sN (sq (Rg (ku (litO (xs := ([] : List Int)) (c := (cI .u8)) rfl rfl (by decide)) fun M211 hM212 => ?_)))))
 have o213 : M211[([] : Mem).length]? = some (.live ⟨.grow, 5, 1, ([] : List Int).map (cI .u8)⟩) := push_new hM212
 obtain ⟨y295, hr291, h⟩ := bind_some h
 refine kx (mvO rfl) (Rn (hA h10 (hA h11 (hV (.lsl ([] : Mem).length ([] : List Int).length 0 ([] : List Int).length) rfl hZ))) fun e214 h216 h217 h218 => sN (sq (sq (Rg (kx (faP h216 ⟨ble rfl, blt rfl⟩ rfl) (kx (ldPA rfl rfl rfl) (kx (mvO rfl) (Rn (hA h216 (hA h217 (hA h218 (hN rfl (hV (.int .i64 0) rfl hZ))))) fun e219 h221 h222 h223 h224 h225 => sN (bl (Ev.loop (RS := impl_halfText_b3_RS a1 (([] : Mem).length)) (RR := impl_halfText_b3_RR a1 (([] : Mem).length)) (fun s r h e M hs => impl_halfText_b3_ok a1 (([] : Mem).length) s r h e M hs) hr291 ⟨h221, h222, h223, h224, h225, o213⟩ fun x e293 M294 hq292 => ?_))))))))))
 clear h10 h11 h12 h216 h217 h218
 obtain ⟨rfl, h296, h297, h298, o299⟩ := hq292
 refine bE (sN (sq (Rg (kx (mvO h297) (kx (mvO h298) (kx (cvB (elL rfl o299 rfl)) (ku (litO (xs := [([102, 111, 105, 108] : List UInt8), (toB y295)]) (c := cS) (cns rfl (cns rfl rfl)) rfl (by decide)) fun M301 hM302 => ?_)))))))
 have o303 := push_old hM302 o299
 have ne304 := ne_new o299
 have o305 : M301[M294.length]? = some (.live ⟨.grow, 9, 1, [([102, 111, 105, 108] : List UInt8), (toB y295)].map cS⟩) := push_new hM302
 obtain ⟨y394, hr390, h⟩ := bind_some h
 refine kx (mvO rfl) (Rn (hV (.pt none (.bool a1.Stock :: (.sl none (a1.Notches.map Notch.c) :: ((arC (cI .i8) 0 a1.Grain) ++ ([] : List AV))))) h296 (hV (.lsl M294.length [([102, 111, 105, 108] : List UInt8), (toB y295)].length 0 [([102, 111, 105, 108] : List UInt8), (toB y295)].length) rfl hZ)) fun e306 h308 h309 => sN (sq (sq (Rg (kx (faP h308 ⟨ble rfl, blt rfl⟩ rfl) (kx (ldP rfl rfl) (kx (lnS Tryd.underlying26 rfl) (kx (mvO rfl) (Rn (hA h309 (hN rfl (hN rfl (hV (.int .i64 0) rfl hZ)))) fun e310 h312 h313 h314 h315 => sN (bl (Ev.loop (RS := impl_halfText_b4_RS a1 M294.length) (RR := impl_halfText_b4_RR a1 M294.length) (fun s r h e M hs => impl_halfText_b4_ok a1 M294.length s r h e M hs) hr390 ⟨h312, h313, h314, h315, o305⟩ fun x e392 M393 hq391 => ?_)))))))))))
 clear h296 h297 h298 h308 h309
 obtain ⟨rfl, h395, o396⟩ := hq391
 obtain ⟨r398, hx397, h⟩ := bind_some h
 refine bE (sN (sq (Rg (kx (mvO h395) (kc (cl (v := .str r398) rfl (cns rfl (cns rfl rfl)) (ra1 (ra1_row o396 rfl cS_fl) (ra1 rfl ra0)) (strings_Join_ok y394 ([32] : List UInt8) _ hx397) (fun _ => rfl)) (kx (mvO rfl) (Rn (hN rfl hZ) fun e399 h401 => sN (xx ?_))))))))
 clear h395
 obtain rfl := si h
 exact eR (resT h401 res0) rfl
/-! ### slices.Clone[[]loop.example/g01263/impl.Notch,loop.example/g01263/impl.Notch] (f66) -/
noncomputable def slices_Clone_Notch (a1 : List Notch) : Option ((List Notch)) :=
 (app 4 ([] : List Notch) a1).bind fun x8 =>
 some x8
def slices_Clone_Notch_enc (r : (List Notch)) : AV := .sl (some 107) (r.map Notch.c)
theorem slices_Clone_Notch_ok (a1 : List Notch) (r : (List Notch)) (h : slices_Clone_Notch a1 = some r) : Ev (fun k => CN k 66 [.sl none (a1.map Notch.c)] []) (fun p => rRes p.2 p.1 = slices_Clone_Notch_enc r) := by
  refine Ev.prim rfl (Ev.notLib rfl ?_)
  by_cases hn : a1 = []
  · subst hn
    have e : r = [] := by simpa [slices_Clone_Notch, app] using h.symm
    subst e
    exact Ev.nilBoth (by kernel_rfl) (by kernel_rfl)
  · have hp : 0 < a1.length := List.length_pos_iff.2 hn
    refine Ev.nilNot (by simpa using hn) ?_
    unfold slices_Clone_Notch at h
    obtain ⟨x8, hx9, h⟩ := bind_some h
    refine Ev.enter0 (F := fun _ => f66 (CN0 2) 2) (fun k => callN_eq rfl Tryd.func66 rfl rfl rfl (by decide +kernel) (f66_eq _ _)) (sq (Rg (kx (mvO rfl) (Rn (hN rfl hZ) fun e1 h3 => sN (sq (sq (Rg (kx (mvO h3) (kx (bNilF Tryd.underlying26 hp rfl rfl) (Rn (hA h3 (hV (.bool false) rfl hZ)) fun e4 h6 h7 => sN (cF h7 rfl (xx (sN (sq (Rg (kx (litI rfl rfl ⟨rfl, by decide⟩) (kx (mvO h6) (kx (aiT (c := Notch.c) (xs := ([] : List Notch)) rfl (elS rfl) hx9 Notch.fl (by decide)) (kx (mvO rfl) (Rn (hN rfl hZ) fun e10 h12 => sN (xx ?_)))))))))))))))))))))
    clear h3 h6 h7
    obtain rfl := si h
    exact eR (resT h12 res0) rfl
/-! ### loop.example/g01263/impl.isLetters (f65) -/
abbrev impl_isLetters_b1_S := Int
abbrev impl_isLetters_b1_R := Unit ⊕ Unit
def impl_isLetters_b1_RS (a1 : List UInt8) (a2 : Int) (s : impl_isLetters_b1_S) (e : Env) (M : Mem) : Prop := eget e 0 = .str a1 ∧ eget e 1 = .int .i64 a2 ∧ eget e 7 = .int .i64 (a1.length : Int) ∧ eget e 8 = .int .i64 s
def impl_isLetters_b1_RR (a1 : List UInt8) (a2 : Int) (r : impl_isLetters_b1_R) (x : Ex) (e : Env) (M : Mem) : Prop :=
  match r with
  | (.inl g) => x = .ret ∧ eget e 4 = .bool false
  | (.inr g) => x = .ext 0 ∧ eget e 0 = .str a1 ∧ eget e 1 = .int .i64 a2
noncomputable def impl_isLetters_b1 (a1 : List UInt8) : impl_isLetters_b1_S → Option (impl_isLetters_b1_S ⊕ impl_isLetters_b1_R) := fun s1_1 =>
 if (decide (s1_1 < (a1.length : Int))) = true then
  (rd a1 s1_1).bind fun x46 =>
  if (decide ((x46.toNat : Int) < 97)) = true then
   some (.inr (.inl ()))
  else
   (rd a1 s1_1).bind fun x59 =>
   if (decide ((x59.toNat : Int) > 122)) = true then
    some (.inr (.inl ()))
   else
    some (.inl (IntKind.i64.wrap (s1_1 + 1)))
 else
  some (.inr (.inr ()))
theorem impl_isLetters_b1_ok (a1 : List UInt8) (a2 : Int) (s : impl_isLetters_b1_S) (r : impl_isLetters_b1_S ⊕ impl_isLetters_b1_R) (h : impl_isLetters_b1 a1 s = some r) (e : Env) (M : Mem) (hs : impl_isLetters_b1_RS a1 a2 s e M) : Ev (fun k => (f65_l2 (CN k) k (prune [0, 1, 7, 8] e) M).bind fun q => some q) (bQ (impl_isLetters_b1_RS a1 a2) (impl_isLetters_b1_RR a1 a2) r) := by
 revert h hs
 revert s
 intro s1_1 h hs
 unfold impl_isLetters_b1 at h
 obtain ⟨h23, h25, h27, h29⟩ := hs
 generalize he22 : prune [0, 1, 7, 8] e = e21
 have h24 := envp he22.symm rfl h23
 have h26 := envp he22.symm rfl h25
 have h28 := envp he22.symm rfl h27
 have h30 := envp he22.symm rfl h29
 refine sq (Rg (kx (bLss h30 h28) (Rn (hV (.str a1) h24 (hV (.int .i64 a2) h26 (hV (.int .i64 (a1.length : Int)) h28 (hV (.int .i64 s1_1) h30 (hN rfl hZ))))) fun e31 h33 h34 h35 h36 h37 => sN (sq ?_))))
 clear h24 h26 h28 h30
 rcases ite_some h with ⟨hb38, h⟩ | ⟨hb38, h⟩
 ·obtain ⟨x46, hx47, h⟩ := bind_some h
  refine cT h37 hb38 (xx (sN (sq (bl (sq (Rg (kx (mvO h36) (kx (mvO rfl) (Rn (hA h33 (hA h34 (hN rfl (hA h35 (hA h36 hZ))))) fun e39 h41 h42 h43 h44 h45 => sN (sq (Rg (kx (mvO h41) (kx (mvO h43) (kx (ixB rfl rfl hx47) (kx (bLss rfl rfl) (kx (mvO rfl) ?_))))))))))))))))
  clear h33 h34 h35 h36 h37
  rcases ite_some h with ⟨hb48, h⟩ | ⟨hb48, h⟩
  ·refine kx (gsF rfl hb48) (kx (gsF rfl hb48) (kx (gsF rfl hb48) (kx (gsF rfl hb48) (kx (pkT rfl hb48 rfl) (Rn (hA h41 (hA h42 (hA h44 (hA h45 (hV (.bool true) rfl hZ))))) fun e49 h51 h52 h53 h54 h55 => sN (cT h55 rfl (sq (Rg (kx (mvO rfl) (Rn (hV (.bool false) rfl hZ) fun e56 h58 => sN (xx (bR (sR ?_)))))))))))))
   clear h41 h42 h43 h44 h45 h51 h52 h53 h54 h55
   obtain rfl := si h
   exact qR ⟨rfl, h58⟩
  obtain ⟨x59, hx60, h⟩ := bind_some h
  refine kx (guF rfl hb48 (mvO h41)) (kx (guF rfl hb48 (mvO h43)) (kx (guF rfl hb48 (ixB rfl rfl hx60)) (kx (guF rfl hb48 (bGtr rfl rfl)) (kx (pkF rfl hb48 rfl) (Rn (hA h41 (hA h42 (hA h44 (hA h45 (hN rfl hZ))))) fun e61 h63 h64 h65 h66 h67 => sN ?_)))))
  clear h41 h42 h43 h44 h45
  rcases ite_some h with ⟨hb68, h⟩ | ⟨hb68, h⟩
  ·refine cT h67 hb68 (sq (Rg (kx (mvO rfl) (Rn (hV (.bool false) rfl hZ) fun e69 h71 => sN (xx (bR (sR ?_)))))))
   clear h63 h64 h65 h66 h67
   obtain rfl := si h
   exact qR ⟨rfl, h71⟩
  refine cF h67 hb68 (xx (bN (sN (Rg (kx (bAdd h66 rfl) (kx (mvO rfl) (Rn (hA h63 (hA h64 (hA h65 (hN rfl hZ)))) fun e72 h74 h75 h76 h77 => ?_)))))))
  clear h63 h64 h65 h67
  obtain rfl := si h
  exact qN ⟨h74, h75, h76, h77⟩
 refine cF h37 hb38 (xx (sE ?_))
 obtain rfl := si h
 exact qE ⟨rfl, h33, h34⟩
noncomputable def impl_isLetters (a1 : List UInt8) (a2 : Int) : Option Bool :=
 (Lw (impl_isLetters_b1 a1) 0).bind fun r => match r with
 | (.inl _) =>
  some false
 | (.inr _) =>
  if (decide ((a1.length : Int) ≥ 1)) = true then
   some (decide ((a1.length : Int) ≤ a2))
  else
   some false
def impl_isLetters_enc (r : Bool) : AV := .bool r
theorem impl_isLetters_ok (a1 : List UInt8) (a2 : Int) (r : Bool) (h : impl_isLetters a1 a2 = some r) : Ev (fun k => CN k 65 [.str a1, .int .i64 a2] []) (fun p => rRes p.2 p.1 = impl_isLetters_enc r) := by
 unfold impl_isLetters at h
 obtain ⟨r78, hr79, h⟩ := bind_some h
 refine Ev.enter (F := fun k => f65 (CN k) k) (fun k => callN_eq rfl Tryd.func65 rfl rfl rfl (by decide +kernel) (f65_eq _ _)) (sq (Rg (kx (mvO rfl) (Rn (hN rfl (hN rfl hZ)) fun e1 h3 h4 => sN (sq (sq (Rg (kx (mvO h3) (kx (lnB Tryd.underlying9 rfl) (kx (mvO rfl) (Rn (hA h3 (hA h4 (hN rfl (hV (.int .i64 0) rfl hZ)))) fun e5 h7 h8 h9 h10 => sN (bl ?_))))))))))))
 clear h3 h4
 rcases r78 with _ | _
 ·refine Ev.loop (RS := impl_isLetters_b1_RS a1 a2) (RR := impl_isLetters_b1_RR a1 a2) (fun s r h e M hs => impl_isLetters_b1_ok a1 a2 s r h e M hs) hr79 ⟨h7, h8, h9, h10⟩ fun x e81 M82 hq80 => ?_
  obtain ⟨rfl, h83⟩ := hq80
  refine bR (sR ?_)
  obtain rfl := si h
  exact eR (resT h83 res0) rfl
 refine Ev.loop (RS := impl_isLetters_b1_RS a1 a2) (RR := impl_isLetters_b1_RR a1 a2) (fun s r h e M hs => impl_isLetters_b1_ok a1 a2 s r h e M hs) hr79 ⟨h7, h8, h9, h10⟩ fun x e84 M85 hq80 => ?_
 obtain ⟨rfl, h86, h87⟩ := hq80
 refine bE (sN (sq (Rg (kx (mvO h86) (kx (lnB Tryd.underlying9 rfl) (kx (bGeq rfl rfl) (kx (mvO rfl) ?_)))))))
 rcases ite_some h with ⟨hb88, h⟩ | ⟨hb88, h⟩
 ·refine kx (guT rfl hb88 (mvO h86)) (kx (guT rfl hb88 (lnB Tryd.underlying9 rfl)) (kx (guT rfl hb88 (mvO h87)) (kx (guT rfl hb88 (bLeq rfl rfl)) (kx (pkT rfl hb88 rfl) (kx (mvO rfl) (Rn (hN rfl hZ) fun e89 h91 => sN (xx ?_)))))))
  clear h86 h87
  obtain rfl := si h
  exact eR (resT h91 res0) rfl
 refine kx (gsT rfl hb88) (kx (gsT rfl hb88) (kx (gsT rfl hb88) (kx (gsT rfl hb88) (kx (pkF rfl hb88 rfl) (kx (mvO rfl) (Rn (hV (.bool false) rfl hZ) fun e92 h94 => sN (xx ?_)))))))
 clear h86 h87
 obtain rfl := si h
 exact eR (resT h94 res0) rfl
/-! ### (loop.example/g01263/impl.Notch).end (f64) -/
noncomputable def impl_Notch_end (a1 : Notch) : Option Int :=
 (impl_width (IntKind.i64.wrap a1.Kind)).bind fun r5 =>
 some (IntKind.i64.wrap ((IntKind.i64.wrap a1.At) + r5))
def impl_Notch_end_enc (r : Int) : AV := .int .i64 r
theorem impl_Notch_end_ok (a1 : Notch) (r : Int) (h : impl_Notch_end a1 = some r) : Ev (fun k => CN k 64 [.agg [.int .i8 a1.Kind, .int .i16 a1.At]] []) (fun p => rRes p.2 p.1 = impl_Notch_end_enc r) := by
 unfold impl_Notch_end at h
 obtain ⟨r5, hx4, h⟩ := bind_some h
 refine Ev.enter (F := fun k => f64 (CN k) k) (fun k => callN_eq rfl Tryd.func64 rfl rfl rfl (by decide +kernel) (f64_eq _ _)) (sq (Rg (kx (bxI rfl rfl ⟨rfl, rfl, by decide⟩) (kx (mvO rfl) (Rn (hN rfl hZ) fun e1 h3 => sN (sq (Rd (kf (faP h3 ⟨ble rfl, blt rfl⟩ rfl) (kf (ldP rfl rfl) (kf (cvI rfl) (kf (faP h3 ⟨ble rfl, blt rfl⟩ rfl) (kf (ldP rfl rfl) (kf (cvI rfl) (fc (cl (v := .int .i64 r5) rfl (cns rfl rfl) rfl (impl_width_ok (IntKind.i64.wrap a1.Kind) _ hx4) nm) (kf (bAdd rfl rfl) (kf (mvO rfl) (fZ (Rn (hN rfl hZ) fun e6 h8 => sN (xx ?_)))))))))))))))))))
 clear h3
 obtain rfl := si h
 exact eR (resT h8 res0) rfl
/-! ### loop.example/g01263/impl.isKind (f63) -/
noncomputable def impl_isKind (a1 : Int) : Option Bool :=
 if (decide (a1 ≥ 0)) = true then
  some (decide (a1 ≤ 5))
 else
  some false
def impl_isKind_enc (r : Bool) : AV := .bool r
theorem impl_isKind_ok (a1 : Int) (r : Bool) (h : impl_isKind a1 = some r) : Ev (fun k => CN k 63 [.int .i64 a1] []) (fun p => rRes p.2 p.1 = impl_isKind_enc r) := by
 unfold impl_isKind at h
 refine Ev.enter (F := fun k => f63 (CN k) k) (fun k => callN_eq rfl Tryd.func63 rfl rfl rfl (by decide +kernel) (f63_eq _ _)) (sq (Rg (kx (mvO rfl) (Rn (hN rfl hZ) fun e1 h3 => sN (sq (Rg (kx (mvO h3) (kx (bGeq rfl rfl) (kx (mvO rfl) ?_)))))))))
 rcases ite_some h with ⟨hb4, h⟩ | ⟨hb4, h⟩
 ·refine kx (guT rfl hb4 (mvO h3)) (kx (guT rfl hb4 (bLeq rfl rfl)) (kx (pkT rfl hb4 rfl) (kx (mvO rfl) (Rn (hN rfl hZ) fun e5 h7 => sN (xx ?_)))))
  clear h3
  obtain rfl := si h
  exact eR (resT h7 res0) rfl
 refine kx (gsT rfl hb4) (kx (gsT rfl hb4) (kx (pkF rfl hb4 rfl) (kx (mvO rfl) (Rn (hV (.bool false) rfl hZ) fun e8 h10 => sN (xx ?_)))))
 clear h3
 obtain rfl := si h
 exact eR (resT h10 res0) rfl
/-! ### loop.example/g01263/impl.ValidGrain (f62) -/
abbrev impl_ValidGrain_b1_S := Int
abbrev impl_ValidGrain_b1_R := Unit ⊕ Unit
def impl_ValidGrain_b1_RS (a1 : Ar 16 Int) (s : impl_ValidGrain_b1_S) (e : Env) (M : Mem) : Prop := eget e 5 = .agg (arC (cI .i8) 0 a1) ∧ eget e 6 = .int .i64 s
def impl_ValidGrain_b1_RR (a1 : Ar 16 Int) (r : impl_ValidGrain_b1_R) (x : Ex) (e : Env) (M : Mem) : Prop :=
  match r with
  | (.inl g) => x = .ret ∧ eget e 2 = .bool false
  | (.inr g) => x = .ext 0 ∧ True
noncomputable def impl_ValidGrain_b1 (a1 : Ar 16 Int) : impl_ValidGrain_b1_S → Option (impl_ValidGrain_b1_S ⊕ impl_ValidGrain_b1_R) := fun s1_1 =>
 if (decide (s1_1 < 16)) = true then
  (rdA a1 s1_1).bind fun x26 =>
  if (decide (x26 < (-3))) = true then
   some (.inr (.inl ()))
  else
   if (decide (x26 > 3)) = true then
    some (.inr (.inl ()))
   else
    some (.inl (IntKind.i64.wrap (s1_1 + 1)))
 else
  some (.inr (.inr ()))
theorem impl_ValidGrain_b1_ok (a1 : Ar 16 Int) (s : impl_ValidGrain_b1_S) (r : impl_ValidGrain_b1_S ⊕ impl_ValidGrain_b1_R) (h : impl_ValidGrain_b1 a1 s = some r) (e : Env) (M : Mem) (hs : impl_ValidGrain_b1_RS a1 s e M) : Ev (fun k => (f62_l2 (CN k) k (prune [5, 6] e) M).bind fun q => some q) (bQ (impl_ValidGrain_b1_RS a1) (impl_ValidGrain_b1_RR a1) r) := by
 revert h hs
 revert s
 intro s1_1 h hs
 unfold impl_ValidGrain_b1 at h
 obtain ⟨h16, h18⟩ := hs
 generalize he15 : prune [5, 6] e = e14
 have h17 := envp he15.symm rfl h16
 have h19 := envp he15.symm rfl h18
 refine sq (Rg (kx (bLss h19 rfl) (Rn (hV (.agg (arC (cI .i8) 0 a1)) h17 (hV (.int .i64 s1_1) h19 (hN rfl hZ))) fun e20 h22 h23 h24 => sN (sq ?_))))
 clear h17 h19
 rcases ite_some h with ⟨hb25, h⟩ | ⟨hb25, h⟩
 ·obtain ⟨x26, hx27, h⟩ := bind_some h
  refine cT h24 hb25 (xx (sN (sq (bl (sq (Rg (kx (ixA1 (K := AV.int .i8) (c := (cI .i8)) (z := 0) (g := a1) h22 h23 hx27 (fun _ => rfl)) (kx (mvO rfl) (Rn (hN rfl (hA h22 (hA h23 hZ))) fun e28 h30 h31 h32 => sN (sq (Rg (kx (mvO h30) (kx (bLss rfl rfl) (kx (mvO rfl) ?_))))))))))))))
  clear h22 h23 h24
  rcases ite_some h with ⟨hb33, h⟩ | ⟨hb33, h⟩
  ·refine kx (gsF rfl hb33) (kx (gsF rfl hb33) (kx (pkT rfl hb33 rfl) (Rn (hA h31 (hA h32 (hV (.bool true) rfl hZ))) fun e34 h36 h37 h38 => sN (cT h38 rfl (sq (Rg (kx (mvO rfl) (Rn (hV (.bool false) rfl hZ) fun e39 h41 => sN (xx (bR (sR ?_)))))))))))
   clear h30 h31 h32 h36 h37 h38
   obtain rfl := si h
   exact qR ⟨rfl, h41⟩
  refine kx (guF rfl hb33 (mvO h30)) (kx (guF rfl hb33 (bGtr rfl rfl)) (kx (pkF rfl hb33 rfl) (Rn (hA h31 (hA h32 (hN rfl hZ))) fun e42 h44 h45 h46 => sN ?_)))
  clear h30 h31 h32
  rcases ite_some h with ⟨hb47, h⟩ | ⟨hb47, h⟩
  ·refine cT h46 hb47 (sq (Rg (kx (mvO rfl) (Rn (hV (.bool false) rfl hZ) fun e48 h50 => sN (xx (bR (sR ?_)))))))
   clear h44 h45 h46
   obtain rfl := si h
   exact qR ⟨rfl, h50⟩
  refine cF h46 hb47 (xx (bN (sN (Rg (kx (bAdd h45 rfl) (kx (mvO rfl) (Rn (hA h44 (hN rfl hZ)) fun e51 h53 h54 => ?_)))))))
  clear h44 h46
  obtain rfl := si h
  exact qN ⟨h53, h54⟩
 refine cF h24 hb25 (xx (sE ?_))
 obtain rfl := si h
 exact qE ⟨rfl, trivial⟩
noncomputable def impl_ValidGrain (a1 : Ar 16 Int) : Option Bool :=
 (Lw (impl_ValidGrain_b1 a1) 0).bind fun r => match r with
 | (.inl _) =>
  some false
 | (.inr _) =>
  some true
def impl_ValidGrain_enc (r : Bool) : AV := .bool r
theorem impl_ValidGrain_ok (a1 : Ar 16 Int) (r : Bool) (h : impl_ValidGrain a1 = some r) : Ev (fun k => CN k 62 [.agg (arC (cI .i8) 0 a1)] []) (fun p => rRes p.2 p.1 = impl_ValidGrain_enc r) := by
 unfold impl_ValidGrain at h
 obtain ⟨r55, hr56, h⟩ := bind_some h
 refine Ev.enter (F := fun k => f62 (CN k) k) (fun k => callN_eq rfl Tryd.func62 rfl rfl rfl (by decide +kernel) (f62_eq _ _)) (sq (Rg (kx (bxI rfl rfl ⟨rfl, rfl, by decide⟩) (kx (mvO rfl) (Rn (hN rfl hZ) fun e1 h3 => sN (sq (sq (Rg (kx (ldPA h3 rfl rfl) (kx (mvO rfl) (Rn (hN rfl (hV (.int .i64 0) rfl hZ)) fun e4 h6 h7 => sN (bl ?_))))))))))))
 clear h3
 rcases r55 with _ | _
 ·refine Ev.loop (RS := impl_ValidGrain_b1_RS a1) (RR := impl_ValidGrain_b1_RR a1) (fun s r h e M hs => impl_ValidGrain_b1_ok a1 s r h e M hs) hr56 ⟨h6, h7⟩ fun x e58 M59 hq57 => ?_
  obtain ⟨rfl, h60⟩ := hq57
  refine bR (sR ?_)
  obtain rfl := si h
  exact eR (resT h60 res0) rfl
 refine Ev.loop (RS := impl_ValidGrain_b1_RS a1) (RR := impl_ValidGrain_b1_RR a1) (fun s r h e M hs => impl_ValidGrain_b1_ok a1 s r h e M hs) hr56 ⟨h6, h7⟩ fun x e61 M62 hq57 => ?_
 obtain ⟨rfl, _⟩ := hq57
 refine bE (sN (sq (Rg (kx (mvO rfl) (Rn (hV (.bool true) rfl hZ) fun e63 h65 => sN (xx ?_))))))
 obtain rfl := si h
 exact eR (resT h65 res0) rfl
/-! ### loop.example/g01263/laws.heldMarkS (f56) -/
abbrev laws_heldMarkS_b1_S := Int × Int
abbrev laws_heldMarkS_b1_R := Unit ⊕ Int
def laws_heldMarkS_b1_RS (a1 : List Mark) (s : laws_heldMarkS_b1_S) (e : Env) (M : Mem) : Prop := eget e 0 = .sl none (a1.map Mark.c) ∧ eget e 1 = .int .i64 s.1 ∧ eget e 5 = .int .i64 s.2
def laws_heldMarkS_b1_RR (a1 : List Mark) (r : laws_heldMarkS_b1_R) (x : Ex) (e : Env) (M : Mem) : Prop :=
  match r with
  | (.inl g) => x = .ret ∧ eget e 4 = .int .i64 (-1)
  | (.inr g) => x = .ext 0 ∧ eget e 1 = .int .i64 g
noncomputable def laws_heldMarkS_b1 (a1 : List Mark) : laws_heldMarkS_b1_S → Option (laws_heldMarkS_b1_S ⊕ laws_heldMarkS_b1_R) := fun (s1_1, s1_2) =>
 if (decide (s1_2 < (a1.length : Int))) = true then
  (rd a1 s1_2).bind fun x33 =>
  (laws_markText s1_1).bind fun r36 =>
  if (x33.Holder == r36) = true then
   (rd a1 s1_2).bind fun x49 =>
   if (x49.Seal != (IntKind.u32.wrap (IntKind.i64.wrap (s1_1 + 1)))) = true then
    some (.inr (.inl ()))
   else
    some (.inl ((IntKind.i64.wrap ((IntKind.i64.wrap (s1_1 + 1)) + 1)), (IntKind.i64.wrap (s1_2 + 1))))
  else
   some (.inr (.inl ()))
 else
  some (.inr (.inr s1_1))
theorem laws_heldMarkS_b1_ok (a1 : List Mark) (s : laws_heldMarkS_b1_S) (r : laws_heldMarkS_b1_S ⊕ laws_heldMarkS_b1_R) (h : laws_heldMarkS_b1 a1 s = some r) (e : Env) (M : Mem) (hs : laws_heldMarkS_b1_RS a1 s e M) : Ev (fun k => (f56_l2 (CN k) k (prune [0, 1, 5] e) M).bind fun q => some q) (bQ (laws_heldMarkS_b1_RS a1) (laws_heldMarkS_b1_RR a1) r) := by
 obtain ⟨s1_1, s1_2⟩ := s
 unfold laws_heldMarkS_b1 at h
 obtain ⟨h20, h22, h24⟩ := hs
 generalize he19 : prune [0, 1, 5] e = e18
 have h21 := envp he19.symm rfl h20
 have h23 := envp he19.symm rfl h22
 have h25 := envp he19.symm rfl h24
 refine sq (sq (Rg (kx (mvO h25) (kx (mvO h21) (kx (lnS Tryd.underlying32 rfl) (kx (bLss rfl rfl) (Rn (hV (.sl none (a1.map Mark.c)) h21 (hV (.int .i64 s1_1) h23 (hV (.int .i64 s1_2) h25 (hN rfl hZ)))) fun e26 h28 h29 h30 h31 => sN ?_)))))))
 clear h21 h23 h25
 rcases ite_some h with ⟨hb32, h⟩ | ⟨hb32, h⟩
 ·obtain ⟨x33, hx34, h⟩ := bind_some h
  obtain ⟨r36, hx35, h⟩ := bind_some h
  refine cT h31 hb32 (xx (sN (sq (bl (sq (sq (Rd (kf (mvO h28) (kf (mvO h30) (kf (ixS rfl rfl hx34 Mark.fl) (kf (faP rfl ⟨ble rfl, blt rfl⟩ rfl) (kf (ldP rfl rfl) (kf (mvO h29) (fc (cl (v := .str r36) rfl (cns rfl rfl) rfl (laws_markText_ok s1_1 _ hx35) nm) (kf (sNeq rfl rfl) (fZ (Rn (hA h28 (hA h29 (hA h30 (hN rfl hZ)))) fun e37 h39 h40 h41 h42 => sN ?_)))))))))))))))))
  clear h28 h29 h30 h31
  rcases ite_some h with ⟨hb43, h⟩ | ⟨hb43, h⟩
  ·obtain ⟨x49, hx50, h⟩ := bind_some h
   refine cF h42 (congrArg Bool.not hb43) (xx (sN (sq (Rg (kx (mvO h40) (kx (bAdd rfl rfl) (kx (mvO rfl) (Rn (hA h39 (hN rfl (hA h41 hZ))) fun e44 h46 h47 h48 => sN (sq (sq (Rg (kx (mvO h46) (kx (mvO h48) (kx (ixS rfl rfl hx50 Mark.fl) (kx (faP rfl ⟨ble rfl, blt rfl⟩ rfl) (kx (ldP rfl rfl) (kx (mvO h47) (kx (cvI rfl) (kx (bNeq rfl rfl) (Rn (hA h46 (hA h47 (hA h48 (hN rfl hZ)))) fun e51 h53 h54 h55 h56 => sN ?_))))))))))))))))))))
   clear h39 h41 h42 h46 h47 h48
   rcases ite_some h with ⟨hb57, h⟩ | ⟨hb57, h⟩
   ·refine cT h56 hb57 (sq (Rg (kx (mvO rfl) (Rn (hV (.int .i64 (-1)) rfl hZ) fun e58 h60 => sN (xx (sR (bR (sR ?_))))))))
    clear h53 h54 h55 h56
    obtain rfl := si h
    exact qR ⟨rfl, h60⟩
   refine cF h56 hb57 (xx (sN (Rg (kx (mvO h54) (kx (bAdd rfl rfl) (kx (mvO rfl) (Rn (hA h53 (hN rfl (hA h55 hZ))) fun e61 h63 h64 h65 => bN (sN (Rg (kx (mvO h65) (kx (bAdd rfl rfl) (kx (mvO rfl) (Rn (hA h63 (hA h64 (hN rfl hZ))) fun e66 h68 h69 h70 => ?_)))))))))))))
   clear h53 h55 h56 h63 h64
   obtain rfl := si h
   exact qN ⟨h68, h69, h70⟩
  refine cT h42 (congrArg Bool.not hb43) (sq (Rg (kx (mvO rfl) (Rn (hV (.int .i64 (-1)) rfl hZ) fun e71 h73 => sN (xx (sR (bR (sR ?_))))))))
  clear h39 h40 h41 h42
  obtain rfl := si h
  exact qR ⟨rfl, h73⟩
 refine cF h31 hb32 (xx (sE ?_))
 obtain rfl := si h
 exact qE ⟨rfl, h29⟩
noncomputable def laws_heldMarkS (a1 : List Mark) (a2 : Int) : Option Int :=
 (Lw (laws_heldMarkS_b1 a1) (a2, 0)).bind fun r => match r with
 | (.inl _) =>
  some (-1)
 | (.inr y82) =>
  some y82
def laws_heldMarkS_enc (r : Int) : AV := .int .i64 r
theorem laws_heldMarkS_ok (a1 : List Mark) (a2 : Int) (r : Int) (h : laws_heldMarkS a1 a2 = some r) : Ev (fun k => CN k 56 [.sl none (a1.map Mark.c), .int .i64 a2] []) (fun p => rRes p.2 p.1 = laws_heldMarkS_enc r) := by
 unfold laws_heldMarkS at h
 obtain ⟨r74, hr75, h⟩ := bind_some h
 refine Ev.enter (F := fun k => f56 (CN k) k) (fun k => callN_eq rfl Tryd.func56 rfl rfl rfl (by decide +kernel) (f56_eq _ _)) (sq (Rg (kx (mvO rfl) (Rn (hN rfl (hN rfl hZ)) fun e1 h3 h4 => sN (sq (sq (Rg (kx (mvO rfl) (Rn (hA h3 (hA h4 (hV (.int .i64 0) rfl hZ))) fun e5 h7 h8 h9 => sN (bl ?_))))))))))
 clear h3 h4
 rcases r74 with _ | y82
 ·refine Ev.loop (RS := laws_heldMarkS_b1_RS a1) (RR := laws_heldMarkS_b1_RR a1) (fun s r h e M hs => laws_heldMarkS_b1_ok a1 s r h e M hs) hr75 ⟨h7, h8, h9⟩ fun x e77 M78 hq76 => ?_
  obtain ⟨rfl, h79⟩ := hq76
  refine bR (sR ?_)
  obtain rfl := si h
  exact eR (resT h79 res0) rfl
 refine Ev.loop (RS := laws_heldMarkS_b1_RS a1) (RR := laws_heldMarkS_b1_RR a1) (fun s r h e M hs => laws_heldMarkS_b1_ok a1 s r h e M hs) hr75 ⟨h7, h8, h9⟩ fun x e80 M81 hq76 => ?_
 obtain ⟨rfl, h83⟩ := hq76
 refine bE (sN (sq (Rg (kx (mvO h83) (kx (mvO rfl) (Rn (hN rfl hZ) fun e84 h86 => sN (xx ?_)))))))
 clear h83
 obtain rfl := si h
 exact eR (resT h86 res0) rfl
/-! ### loop.example/g01263/laws.heldHalf (f55) -/
noncomputable def laws_heldHalf (a1 : Half) (a2 : Int) : Option Int :=
 (laws_heldNotchS a1.Notches a2).bind fun r6 =>
 if (decide (r6 < 0)) = true then
  some (-1)
 else
  some r6
def laws_heldHalf_enc (r : Int) : AV := .int .i64 r
theorem laws_heldHalf_ok (a1 : Half) (a2 : Int) (r : Int) (h : laws_heldHalf a1 a2 = some r) : Ev (fun k => CN k 55 [.agg (.bool a1.Stock :: (.sl none (a1.Notches.map Notch.c) :: ((arC (cI .i8) 0 a1.Grain) ++ ([] : List AV)))), .int .i64 a2] []) (fun p => rRes p.2 p.1 = laws_heldHalf_enc r) := by
 unfold laws_heldHalf at h
 obtain ⟨r6, hx5, h⟩ := bind_some h
 refine Ev.enter (F := fun k => f55 (CN k) k) (fun k => callN_eq rfl Tryd.func55 rfl rfl rfl (by decide +kernel) (f55_eq _ _)) (sq (Rg (kx (bxI rfl rfl ⟨rfl, rfl, by decide⟩) (kx (mvO rfl) (Rn (hN rfl (hN rfl hZ)) fun e1 h3 h4 => sN (sq (Rg (kx (faP h4 ⟨ble rfl, blt rfl⟩ rfl) (kx (ldP rfl rfl) (kx (mvO h3) (kc (cl (v := .int .i64 r6) rfl (cns rfl (cns rfl rfl)) rfl (laws_heldNotchS_ok a1.Notches a2 _ hx5) nm) (kx (mvO rfl) (Rn (hN rfl hZ) fun e7 h9 => sN (sq (sq (Rg (kx (mvO h9) (kx (bLss rfl rfl) (Rn (hA h9 (hN rfl hZ)) fun e10 h12 h13 => sN ?_)))))))))))))))))))
 clear h4 h9
 rcases ite_some h with ⟨hb14, h⟩ | ⟨hb14, h⟩
 ·refine cT h13 hb14 (sq (Rg (kx (mvO rfl) (Rn (hV (.int .i64 (-1)) rfl hZ) fun e15 h17 => sN (xx (sR ?_))))))
  clear h12 h13
  obtain rfl := si h
  exact eR (resT h17 res0) rfl
 refine cF h13 hb14 (xx (sN (sq (Rg (kx (mvO h12) (kx (mvO rfl) (Rn (hN rfl hZ) fun e18 h20 => sN (xx ?_))))))))
 clear h12 h13
 obtain rfl := si h
 exact eR (resT h20 res0) rfl
/-! ### loop.example/g01263/laws.eqMarkS (f52) -/
abbrev laws_eqMarkS_b1_S := Int
abbrev laws_eqMarkS_b1_R := Unit ⊕ Unit
def laws_eqMarkS_b1_RS (a1 : List Mark) (a2 : List Mark) (s : laws_eqMarkS_b1_S) (e : Env) (M : Mem) : Prop := eget e 0 = .sl none (a1.map Mark.c) ∧ eget e 1 = .sl none (a2.map Mark.c) ∧ eget e 5 = .int .i64 s
def laws_eqMarkS_b1_RR (a1 : List Mark) (a2 : List Mark) (r : laws_eqMarkS_b1_R) (x : Ex) (e : Env) (M : Mem) : Prop :=
  match r with
  | (.inl g) => x = .ret ∧ eget e 4 = .bool false
  | (.inr g) => x = .ext 0 ∧ True
noncomputable def laws_eqMarkS_b1 (a1 : List Mark) (a2 : List Mark) : laws_eqMarkS_b1_S → Option (laws_eqMarkS_b1_S ⊕ laws_eqMarkS_b1_R) := fun s1_1 =>
 if (decide (s1_1 < (a1.length : Int))) = true then
  (rd a1 s1_1).bind fun x42 =>
  (rd a2 s1_1).bind fun x44 =>
  (laws_eqMark x42 x44).bind fun r47 =>
  if r47 = true then
   some (.inl (IntKind.i64.wrap (s1_1 + 1)))
  else
   some (.inr (.inl ()))
 else
  some (.inr (.inr ()))
theorem laws_eqMarkS_b1_ok (a1 : List Mark) (a2 : List Mark) (s : laws_eqMarkS_b1_S) (r : laws_eqMarkS_b1_S ⊕ laws_eqMarkS_b1_R) (h : laws_eqMarkS_b1 a1 a2 s = some r) (e : Env) (M : Mem) (hs : laws_eqMarkS_b1_RS a1 a2 s e M) : Ev (fun k => (f52_l4 (CN k) k (prune [0, 1, 5] e) M).bind fun q => some q) (bQ (laws_eqMarkS_b1_RS a1 a2) (laws_eqMarkS_b1_RR a1 a2) r) := by
 revert h hs
 revert s
 intro s1_1 h hs
 unfold laws_eqMarkS_b1 at h
 obtain ⟨h29, h31, h33⟩ := hs
 generalize he28 : prune [0, 1, 5] e = e27
 have h30 := envp he28.symm rfl h29
 have h32 := envp he28.symm rfl h31
 have h34 := envp he28.symm rfl h33
 refine sq (sq (Rg (kx (mvO h34) (kx (mvO h30) (kx (lnS Tryd.underlying32 rfl) (kx (bLss rfl rfl) (Rn (hV (.sl none (a1.map Mark.c)) h30 (hV (.sl none (a2.map Mark.c)) h32 (hV (.int .i64 s1_1) h34 (hN rfl hZ)))) fun e35 h37 h38 h39 h40 => sN ?_)))))))
 clear h30 h32 h34
 rcases ite_some h with ⟨hb41, h⟩ | ⟨hb41, h⟩
 ·obtain ⟨x42, hx43, h⟩ := bind_some h
  obtain ⟨x44, hx45, h⟩ := bind_some h
  obtain ⟨r47, hx46, h⟩ := bind_some h
  refine cT h40 hb41 (xx (sN (sq (bl (sq (Rd (kf (mvO h37) (kf (mvO h39) (kf (ixS rfl rfl hx43 Mark.fl) (kf (ldPA rfl rfl rfl) (kf (mvO h38) (kf (mvO h39) (kf (ixS rfl rfl hx45 Mark.fl) (kf (ldPA rfl rfl rfl) (fc (cl (v := .bool r47) rfl (cns rfl (cns rfl rfl)) rfl (laws_eqMark_ok x42 x44 _ hx46) nm) (kf (uNot rfl) (fZ (Rn (hA h37 (hA h38 (hA h39 (hN rfl hZ)))) fun e48 h50 h51 h52 h53 => sN ?_))))))))))))))))))
  clear h37 h38 h39 h40
  rcases ite_some h with ⟨hb54, h⟩ | ⟨hb54, h⟩
  ·refine cF h53 (congrArg Bool.not hb54) (xx (bN (sN (Rg (kx (mvO h52) (kx (bAdd rfl rfl) (kx (mvO rfl) (Rn (hA h50 (hA h51 (hN rfl hZ))) fun e55 h57 h58 h59 => ?_))))))))
   clear h50 h51 h53
   obtain rfl := si h
   exact qN ⟨h57, h58, h59⟩
  refine cT h53 (congrArg Bool.not hb54) (sq (Rg (kx (mvO rfl) (Rn (hV (.bool false) rfl hZ) fun e60 h62 => sN (xx (bR (sR ?_)))))))
  clear h50 h51 h52 h53
  obtain rfl := si h
  exact qR ⟨rfl, h62⟩
 refine cF h40 hb41 (xx (sE ?_))
 obtain rfl := si h
 exact qE ⟨rfl, trivial⟩
noncomputable def laws_eqMarkS (a1 : List Mark) (a2 : List Mark) : Option Bool :=
 if ((a1.length : Int) != (a2.length : Int)) = true then
  some false
 else
  (Lw (laws_eqMarkS_b1 a1 a2) 0).bind fun r => match r with
  | (.inl _) =>
   some false
  | (.inr _) =>
   some true
def laws_eqMarkS_enc (r : Bool) : AV := .bool r
theorem laws_eqMarkS_ok (a1 : List Mark) (a2 : List Mark) (r : Bool) (h : laws_eqMarkS a1 a2 = some r) : Ev (fun k => CN k 52 [.sl none (a1.map Mark.c), .sl none (a2.map Mark.c)] []) (fun p => rRes p.2 p.1 = laws_eqMarkS_enc r) := by
 unfold laws_eqMarkS at h
 refine Ev.enter (F := fun k => f52 (CN k) k) (fun k => callN_eq rfl Tryd.func52 rfl rfl rfl (by decide +kernel) (f52_eq _ _)) (sq (Rg (kx (mvO rfl) (Rn (hN rfl (hN rfl hZ)) fun e1 h3 h4 => sN (sq (sq (Rg (kx (mvO h3) (kx (lnS Tryd.underlying32 rfl) (kx (mvO h4) (kx (lnS Tryd.underlying32 rfl) (kx (bNeq rfl rfl) (Rn (hA h3 (hA h4 (hN rfl hZ))) fun e5 h7 h8 h9 => sN ?_)))))))))))))
 clear h3 h4
 rcases ite_some h with ⟨hb10, h⟩ | ⟨hb10, h⟩
 ·refine cT h9 hb10 (sq (Rg (kx (mvO rfl) (Rn (hV (.bool false) rfl hZ) fun e11 h13 => sN (xx (sR ?_))))))
  clear h7 h8 h9
  obtain rfl := si h
  exact eR (resT h13 res0) rfl
 obtain ⟨r63, hr64, h⟩ := bind_some h
 refine cF h9 hb10 (xx (sN (sq (sq (Rg (kx (mvO rfl) (Rn (hA h7 (hA h8 (hV (.int .i64 0) rfl hZ))) fun e14 h16 h17 h18 => sN (bl ?_))))))))
 clear h7 h8 h9
 rcases r63 with _ | _
 ·refine Ev.loop (RS := laws_eqMarkS_b1_RS a1 a2) (RR := laws_eqMarkS_b1_RR a1 a2) (fun s r h e M hs => laws_eqMarkS_b1_ok a1 a2 s r h e M hs) hr64 ⟨h16, h17, h18⟩ fun x e66 M67 hq65 => ?_
  obtain ⟨rfl, h68⟩ := hq65
  refine bR (sR ?_)
  obtain rfl := si h
  exact eR (resT h68 res0) rfl
 refine Ev.loop (RS := laws_eqMarkS_b1_RS a1 a2) (RR := laws_eqMarkS_b1_RR a1 a2) (fun s r h e M hs => laws_eqMarkS_b1_ok a1 a2 s r h e M hs) hr64 ⟨h16, h17, h18⟩ fun x e69 M70 hq65 => ?_
 obtain ⟨rfl, _⟩ := hq65
 refine bE (sN (sq (Rg (kx (mvO rfl) (Rn (hV (.bool true) rfl hZ) fun e71 h73 => sN (xx ?_))))))
 obtain rfl := si h
 exact eR (resT h73 res0) rfl
/-! ### loop.example/g01263/laws.eqHalf (f51) -/
noncomputable def laws_eqHalf (a1 : Half) (a2 : Half) : Option Bool :=
 if (a1.Stock == a2.Stock) = true then
  (laws_eqNotchS a1.Notches a2.Notches).bind fun r12 =>
  if r12 = true then
   (laws_eqGrain a1.Grain a2.Grain).bind fun r20 =>
   if r20 = true then
    some true
   else
    some false
  else
   some false
 else
  some false
def laws_eqHalf_enc (r : Bool) : AV := .bool r
theorem laws_eqHalf_ok (a1 : Half) (a2 : Half) (r : Bool) (h : laws_eqHalf a1 a2 = some r) : Ev (fun k => CN k 51 [.agg (.bool a1.Stock :: (.sl none (a1.Notches.map Notch.c) :: ((arC (cI .i8) 0 a1.Grain) ++ ([] : List AV)))), .agg (.bool a2.Stock :: (.sl none (a2.Notches.map Notch.c) :: ((arC (cI .i8) 0 a2.Grain) ++ ([] : List AV))))] []) (fun p => rRes p.2 p.1 = laws_eqHalf_enc r) := by
 unfold laws_eqHalf at h
 refine Ev.enter (F := fun k => f51 (CN k) k) (fun k => callN_eq rfl Tryd.func51 rfl rfl rfl (by decide +kernel) (f51_eq _ _)) (sq (Rg (kx (bxI rfl rfl ⟨rfl, rfl, by decide⟩) (kx (bxI rfl rfl ⟨rfl, rfl, by decide⟩) (kx (mvO rfl) (Rn (hN rfl (hN rfl hZ)) fun e1 h3 h4 => sN (sq (sq (Rg (kx (faP h3 ⟨ble rfl, blt rfl⟩ rfl) (kx (ldP rfl rfl) (kx (faP h4 ⟨ble rfl, blt rfl⟩ rfl) (kx (ldP rfl rfl) (kx (oNeq (by kernel_rfl) rfl rfl) (Rn (hA h3 (hA h4 (hN rfl hZ))) fun e5 h7 h8 h9 => sN ?_)))))))))))))))
 clear h3 h4
 rcases ite_some h with ⟨hb10, h⟩ | ⟨hb10, h⟩
 ·obtain ⟨r12, hx11, h⟩ := bind_some h
  refine cF h9 (congrArg Bool.not hb10) (xx (sN (sq (sq (Rg (kx (faP h7 ⟨ble rfl, blt rfl⟩ rfl) (kx (ldP rfl rfl) (kx (faP h8 ⟨ble rfl, blt rfl⟩ rfl) (kx (ldP rfl rfl) (kc (cl (v := .bool r12) rfl (cns rfl (cns rfl rfl)) rfl (laws_eqNotchS_ok a1.Notches a2.Notches _ hx11) nm) (kx (uNot rfl) (Rn (hA h7 (hA h8 (hN rfl hZ))) fun e13 h15 h16 h17 => sN ?_))))))))))))
  clear h7 h8 h9
  rcases ite_some h with ⟨hb18, h⟩ | ⟨hb18, h⟩
  ·obtain ⟨r20, hx19, h⟩ := bind_some h
   refine cF h17 (congrArg Bool.not hb18) (xx (sN (sq (sq (Rg (kx (faP h15 ⟨ble rfl, blt rfl⟩ rfl) (kx (ldPA rfl rfl rfl) (kx (faP h16 ⟨ble rfl, blt rfl⟩ rfl) (kx (ldPA rfl rfl rfl) (kc (cl (v := .bool r20) rfl (cns rfl (cns rfl rfl)) rfl (laws_eqGrain_ok a1.Grain a2.Grain _ hx19) nm) (kx (uNot rfl) (Rn (hN rfl hZ) fun e21 h23 => sN ?_))))))))))))
   clear h15 h16 h17
   rcases ite_some h with ⟨hb24, h⟩ | ⟨hb24, h⟩
   ·refine cF h23 (congrArg Bool.not hb24) (xx (sN (sq (Rg (kx (mvO rfl) (Rn (hV (.bool true) rfl hZ) fun e25 h27 => sN (xx ?_)))))))
    clear h23
    obtain rfl := si h
    exact eR (resT h27 res0) rfl
   refine cT h23 (congrArg Bool.not hb24) (sq (Rg (kx (mvO rfl) (Rn (hV (.bool false) rfl hZ) fun e28 h30 => sN (xx (sR ?_))))))
   clear h23
   obtain rfl := si h
   exact eR (resT h30 res0) rfl
  refine cT h17 (congrArg Bool.not hb18) (sq (Rg (kx (mvO rfl) (Rn (hV (.bool false) rfl hZ) fun e31 h33 => sN (xx (sR ?_))))))
  clear h15 h16 h17
  obtain rfl := si h
  exact eR (resT h33 res0) rfl
 refine cT h9 (congrArg Bool.not hb10) (sq (Rg (kx (mvO rfl) (Rn (hV (.bool false) rfl hZ) fun e34 h36 => sN (xx (sR ?_))))))
 clear h7 h8 h9
 obtain rfl := si h
 exact eR (resT h36 res0) rfl
/-! ### loop.example/g01263/laws.toMarkS (f50) -/
abbrev laws_toMarkS_b1_S := Int × (List Mark)
abbrev laws_toMarkS_b1_R := (List Mark)
def laws_toMarkS_b1_RS (a1 : List Mark) (x4 : List Mark) (i1_1 : Nat) (s : laws_toMarkS_b1_S) (e : Env) (M : Mem) : Prop := eget e 0 = .sl none (a1.map Mark.c) ∧ eget e 3 = .lsl i1_1 s.2.length 0 s.2.length ∧ eget e 4 = .int .i64 s.1 ∧ M[i1_1]? = some (.live ⟨.grow, 39, 2, s.2.map Mark.c⟩) ∧ s.2.length = x4.length
def laws_toMarkS_b1_RR (a1 : List Mark) (x4 : List Mark) (i1_1 : Nat) (g : laws_toMarkS_b1_R) (x : Ex) (e : Env) (M : Mem) : Prop := x = .ext 0 ∧ eget e 3 = .lsl i1_1 g.length 0 g.length ∧ M[i1_1]? = some (.live ⟨.grow, 39, 2, g.map Mark.c⟩) ∧ g.length = x4.length
noncomputable def laws_toMarkS_b1 (a1 : List Mark) : laws_toMarkS_b1_S → Option (laws_toMarkS_b1_S ⊕ laws_toMarkS_b1_R) := fun (s1_1, s1_2) =>
 if (decide (s1_1 < (a1.length : Int))) = true then
  (rd a1 s1_1).bind fun x45 =>
  (laws_toMark x45).bind fun (r48, r49) =>
  (rd s1_2 s1_1).bind fun x50 =>
  some (.inl ((IntKind.i64.wrap (s1_1 + 1)), (s1_2.set s1_1.toNat (Mark.mk r48 r49))))
 else
  some (.inr s1_2)
theorem laws_toMarkS_b1_ok (a1 : List Mark) (x4 : List Mark) (i1_1 : Nat) (s : laws_toMarkS_b1_S) (r : laws_toMarkS_b1_S ⊕ laws_toMarkS_b1_R) (h : laws_toMarkS_b1 a1 s = some r) (e : Env) (M : Mem) (hs : laws_toMarkS_b1_RS a1 x4 i1_1 s e M) : Ev (fun k => (f50_l3 (CN k) k (prune [0, 3, 4] e) M).bind fun q => some q) (bQ (laws_toMarkS_b1_RS a1 x4 i1_1) (laws_toMarkS_b1_RR a1 x4 i1_1) r) := by
 obtain ⟨s1_1, s1_2⟩ := s
 unfold laws_toMarkS_b1 at h
 obtain ⟨h30, h32, h34, o36, hl37⟩ := hs
 generalize he29 : prune [0, 3, 4] e = e28
 have h31 := envp he29.symm rfl h30
 have h33 := envp he29.symm rfl h32
 have h35 := envp he29.symm rfl h34
 refine sq (sq (Rg (kx (mvO h35) (kx (mvO h31) (kx (lnS Tryd.underlying55 rfl) (kx (bLss rfl rfl) (Rn (hV (.sl none (a1.map Mark.c)) h31 (hV (.lsl i1_1 s1_2.length 0 s1_2.length) h33 (hV (.int .i64 s1_1) h35 (hN rfl hZ)))) fun e38 h40 h41 h42 h43 => sN ?_)))))))
 clear h31 h33 h35
 rcases ite_some h with ⟨hb44, h⟩ | ⟨hb44, h⟩
 ·obtain ⟨x45, hx46, h⟩ := bind_some h
  obtain ⟨⟨r48, r49⟩, hx47, h⟩ := bind_some h
  obtain ⟨x50, hx51, h⟩ := bind_some h
  refine cT h43 hb44 (xx (sN (sq (bl (Rg (kx (mvO h41) (kx (mvO h42) (kx (mvO h40) (kx (mvO h42) (kx (ixS rfl rfl hx46 Mark.fl) (kx (ldPA rfl rfl rfl) (kc (cl (v := .agg [.str r48, .int .u32 r49]) rfl (cns rfl rfl) rfl (laws_toMark_ok x45 _ hx47) nm) (kx (ixO rfl o36 rfl rfl (rd_get hx51).1 (rd_lt hx51).2) (kw (stR (u := x50) (u' := (Mark.mk r48 r49)) rfl rfl o36 rfl (rz2 hx51) ⟨rfl, ble rfl⟩ rfl rfl) fun M52 hM53 => ?_))))))))))))))
  rw [Nat.zero_add] at hM53
  have o54 : M52[i1_1]? = some (.live ⟨.grow, 39, 2, (s1_2.set s1_1.toNat (Mark.mk r48 r49)).map Mark.c⟩) := set_same hM53 o36
  have hx55 := rd_set (u' := (Mark.mk r48 r49)) hx51
  refine Rn (hA h40 (hA h41 (hA h42 hZ))) fun e56 h58 h59 h60 => bN (sN (Rg (kx (mvO h60) (kx (bAdd rfl rfl) (kx (mvO rfl) (Rn (hA h58 (hA h59 (hN rfl hZ))) fun e61 h63 h64 h65 => ?_))))))
  clear h40 h41 h42 h43 h58 h59
  obtain rfl := si h
  exact qN ⟨h63, (lslL (L' := (s1_2.set s1_1.toNat (Mark.mk r48 r49)).length) h64 (by simp [hl37])), h65, o54, (by first | rfl | simp [hl37])⟩
 refine cF h43 hb44 (xx (sE ?_))
 obtain rfl := si h
 exact qE ⟨rfl, h41, o36, (by first | rfl | simp [hl37])⟩
noncomputable def laws_toMarkS (a1 : List Mark) : Option ((List Mark)) :=
 (mkS 24 (Mark.mk ([] : List UInt8) 0) (a1.length : Int)).bind fun x4 =>
 (Lw (laws_toMarkS_b1 a1) (0, x4)).bind fun y71 =>
 some y71
def laws_toMarkS_enc (r : (List Mark)) : AV := .sl (some 39) (r.map Mark.c)
theorem laws_toMarkS_ok (a1 : List Mark) (r : (List Mark)) (h : laws_toMarkS a1 = some r) : Ev (fun k => CN k 50 [.sl none (a1.map Mark.c)] []) (fun p => rRes p.2 p.1 = laws_toMarkS_enc r) := by
 unfold laws_toMarkS at h
 obtain ⟨x4, hx5, h⟩ := bind_some h
 refine Ev.enter (F := fun k => f50 (CN k) k) (fun k => callN_eq rfl Tryd.func50 rfl rfl rfl (by decide +kernel) (f50_eq _ _)) (sq (Rg (kx (mvO rfl) (Rn (hN rfl hZ) fun e1 h3 => sN (sq (Rg (kx (mvO h3) (kx (lnS Tryd.underlying55 rfl) (ku (mkO rfl rfl hx5 (c := Mark.c) zero39 Mark.fl (by decide)) fun M7 hM8 => ?_)))))))))
 have o9 : M7[([] : Mem).length]? = some (.live ⟨.grow, 39, 2, x4.map Mark.c⟩) := push_new hM8
 obtain ⟨y71, hr67, h⟩ := bind_some h
 refine kx (mvO rfl) (Rn (hA h3 (hV (.lsl ([] : Mem).length x4.length 0 x4.length) rfl hZ)) fun e10 h12 h13 => sN (sq (sq (Rg (kx (mvO rfl) (Rn (hA h12 (hA h13 (hV (.int .i64 0) rfl hZ))) fun e14 h16 h17 h18 => sN (bl (Ev.loop (RS := laws_toMarkS_b1_RS a1 x4 (([] : Mem).length)) (RR := laws_toMarkS_b1_RR a1 x4 (([] : Mem).length)) (fun s r h e M hs => laws_toMarkS_b1_ok a1 x4 (([] : Mem).length) s r h e M hs) hr67 ⟨h16, h17, h18, o9, rfl⟩ fun x e69 M70 hq68 => ?_))))))))
 clear h3 h12 h13
 obtain ⟨rfl, h72, o73, hl74⟩ := hq68
 refine bE (sN (sq (Rg (kx (mvO h72) (kx (mvO rfl) (Rn (hV (.lsl ([] : Mem).length y71.length 0 y71.length) rfl hZ) fun e75 h77 => sN (xx ?_)))))))
 clear h72
 obtain rfl := si h
 exact eR (resT h77 res0) (rr_row o73 rfl Mark.fl)
/-! ### loop.example/g01263/laws.toHalf (f49) -/
noncomputable def laws_toHalf (a1 : Half) : Option (Bool × (List Notch) × (Ar 16 Int)) :=
 (laws_toNotchS a1.Notches).bind fun r30 =>
 (laws_toGrain a1.Grain).bind fun r41 =>
 some (a1.Stock, r30, r41)
def laws_toHalf_enc (r : Bool × (List Notch) × (Ar 16 Int)) : AV := .agg (.bool r.1 :: (.sl (some 107) (r.2.1.map Notch.c) :: ((arC (cI .i8) 0 r.2.2) ++ ([] : List AV))))
theorem laws_toHalf_ok (a1 : Half) (r : Bool × (List Notch) × (Ar 16 Int)) (h : laws_toHalf a1 = some r) : Ev (fun k => CN k 49 [.agg (.bool a1.Stock :: (.sl none (a1.Notches.map Notch.c) :: ((arC (cI .i8) 0 a1.Grain) ++ ([] : List AV))))] []) (fun p => rRes p.2 p.1 = laws_toHalf_enc r) := by
 unfold laws_toHalf at h
 refine Ev.enter (F := fun k => f49 (CN k) k) (fun k => callN_eq rfl Tryd.func49 rfl rfl rfl (by decide +kernel) (f49_eq _ _)) (sq (Rg (kx (bxI rfl rfl ⟨rfl, rfl, by decide⟩) (ku (alO zero31) fun M2 hM3 => ?_))))
 have o4 : M2[([] : Mem).length]? = some (.live ⟨.box, 31, 18, [(.bool false :: (.nils :: ((arC (cI .i8) 0 (Ar.rep 16 0)) ++ ([] : List AV))))]⟩) := push_new hM3
 refine Rn (hN rfl (hV (.loc ([] : Mem).length 1 0 0) rfl hZ)) fun e5 h7 h8 => sN (sq (Rg (ku (alO zero31) fun M10 hM11 => ?_)))
 have o12 := push_old hM11 o4
 have ne13 := ne_new o4
 have o14 : M10[M2.length]? = some (.live ⟨.box, 31, 18, [(.bool false :: (.nils :: ((arC (cI .i8) 0 (Ar.rep 16 0)) ++ ([] : List AV))))]⟩) := push_new hM11
 refine Rn (hA h7 (hA h8 (hV (.loc M2.length 1 0 0) rfl hZ))) fun e15 h17 h18 h19 => sN (sq (Rg (kx (faP h17 ⟨ble rfl, blt rfl⟩ rfl) (kx (ldP rfl rfl) (kx (faO h19 o14 rfl) (kw (stO rfl rfl o14 rfl rfl ⟨rfl, ble rfl⟩ rfl rfl) fun M20 hM21 => ?_))))))
 clear h7 h8
 have o22 := set_ne hM21 ne13 o12
 have o23 : M20[M2.length]? = some (.live ⟨.box, 31, 18, [(.bool a1.Stock :: (.nils :: ((arC (cI .i8) 0 (Ar.rep 16 0)) ++ ([] : List AV))))]⟩) := set_same hM21 o14
 obtain ⟨r30, hx29, h⟩ := bind_some h
 refine Rn (hA h17 (hA h18 (hA h19 hZ))) fun e24 h26 h27 h28 => sN (sq (Rg (kx (faP h26 ⟨ble rfl, blt rfl⟩ rfl) (kx (ldP rfl rfl) (kc (cl (v := .sl (some 107) (r30.map Notch.c)) rfl (cns rfl rfl) rfl (laws_toNotchS_ok a1.Notches _ hx29) nm) (kx (faO h28 o23 rfl) (kw (stOK rfl rfl o23 rfl rfl ⟨rfl, ble rfl⟩ rfl rfl) fun M31 hM32 => ?_)))))))
 clear h17 h18 h19
 have o33 := set_ne hM32 ne13 o22
 have o34 : M31[M2.length]? = some (.live ⟨.box, 31, 18, [(.bool a1.Stock :: (.sl (some 107) (r30.map Notch.c) :: ((arC (cI .i8) 0 (Ar.rep 16 0)) ++ ([] : List AV))))]⟩) := set_same hM32 o23
 obtain ⟨r41, hx40, h⟩ := bind_some h
 refine Rn (hA h26 (hA h27 (hA h28 hZ))) fun e35 h37 h38 h39 => sN (sq (Rg (kx (faP h37 ⟨ble rfl, blt rfl⟩ rfl) (kx (ldPA rfl rfl rfl) (kc (cl (v := .agg (arC (cI .i8) 0 r41)) rfl (cns rfl rfl) rfl (laws_toGrain_ok a1.Grain _ hx40) nm) (kx (faO h39 o34 rfl) (kw (stO rfl rfl o34 rfl rfl ⟨rfl, ble rfl⟩ rfl rfl) fun M42 hM43 => ?_)))))))
 clear h26 h27 h28
 have o44 := set_ne hM43 ne13 o33
 have o45 : M42[M2.length]? = some (.live ⟨.box, 31, 18, [(.bool a1.Stock :: (.sl (some 107) (r30.map Notch.c) :: ((arC (cI .i8) 0 r41) ++ ([] : List AV))))]⟩) := set_same hM43 o34
 refine Rn (hA h38 (hA h39 hZ)) fun e46 h48 h49 => sN (sq (Rg (kx (ldOA (cs' := (.bool a1.Stock :: (.sl (some 107) (r30.map Notch.c) :: ((arC (cI .i8) 0 r41) ++ ([] : List AV))))) h49 o45 rfl rfl (ble rfl) rfl) (kw (stOK h48 rfl o44 rfl rfl ⟨rfl, ble rfl⟩ rfl rfl) fun M50 hM51 => ?_))))
 clear h37 h38 h39
 have o52 : M50[([] : Mem).length]? = some (.live ⟨.box, 31, 18, [(.bool a1.Stock :: (.sl (some 107) (r30.map Notch.c) :: ((arC (cI .i8) 0 r41) ++ ([] : List AV))))]⟩) := set_same hM51 o44
 have o53 := set_ne hM51 (Ne.symm ne13) o45
 refine Rn (hA h48 hZ) fun e54 h56 => sN (xx ?_)
 clear h48 h49
 obtain rfl := si h
 exact eR (resC (ag := true) (sz := 18) ⟨by kernel_rfl, by kernel_rfl, by kernel_rfl⟩ (ldOA (cs' := (.bool a1.Stock :: (.sl (some 107) (r30.map Notch.c) :: ((arC (cI .i8) 0 r41) ++ ([] : List AV))))) h56 o52 rfl rfl (ble rfl) rfl) res0) rfl
/-! ### loop.example/g01263/spec.l04Copy (f48) -/
noncomputable def spec_l04Copy (a1 : Half) : Option (Bool × (List Notch) × (Ar 16 Int)) :=
 (spec_l01Copy a1.Notches).bind fun r10 =>
 some (a1.Stock, r10, a1.Grain)
def spec_l04Copy_enc (r : Bool × (List Notch) × (Ar 16 Int)) : AV := .agg (.bool r.1 :: (.sl (some 107) (r.2.1.map Notch.c) :: ((arC (cI .i8) 0 r.2.2) ++ ([] : List AV))))
theorem spec_l04Copy_ok (a1 : Half) (r : Bool × (List Notch) × (Ar 16 Int)) (h : spec_l04Copy a1 = some r) : Ev (fun k => CN k 48 [.pt none (.bool a1.Stock :: (.sl none (a1.Notches.map Notch.c) :: ((arC (cI .i8) 0 a1.Grain) ++ ([] : List AV))))] []) (fun p => rRes p.2 p.1 = spec_l04Copy_enc r) := by
 unfold spec_l04Copy at h
 refine Ev.enter (F := fun k => f48 (CN k) k) (fun k => callN_eq rfl Tryd.func48 rfl rfl rfl (by decide +kernel) (f48_eq _ _)) (sq (Rg (ku (alO zero31) fun M2 hM3 => ?_)))
 have o4 : M2[([] : Mem).length]? = some (.live ⟨.box, 31, 18, [(.bool false :: (.nils :: ((arC (cI .i8) 0 (Ar.rep 16 0)) ++ ([] : List AV))))]⟩) := push_new hM3
 obtain ⟨r10, hx9, h⟩ := bind_some h
 refine Rn (hN rfl (hV (.loc ([] : Mem).length 1 0 0) rfl hZ)) fun e5 h7 h8 => sN (sq (Rd (kf (mvO h7) (kf (ncP rfl) (kf (faP rfl ⟨ble rfl, blt rfl⟩ rfl) (kf (ldP rfl rfl) (kf (mvO h7) (kf (ncP rfl) (kf (faP rfl ⟨ble rfl, blt rfl⟩ rfl) (kf (ldP rfl rfl) (fc (cl (v := .sl (some 107) (r10.map Notch.c)) rfl (cns rfl rfl) rfl (spec_l01Copy_ok a1.Notches _ hx9) nm) (kf (mvO h7) (kf (ncP rfl) (kf (faP rfl ⟨ble rfl, blt rfl⟩ rfl) (kf (ldPA rfl rfl rfl) (kf (bldT zero31 (cns (pr3 rfl) (cns (pr3 rfl) (cns (pr3 rfl) rfl))) (fill1 (cs' := (.bool a1.Stock :: (.nils :: ((arC (cI .i8) 0 (Ar.rep 16 0)) ++ ([] : List AV))))) ⟨rfl, ble rfl⟩ rfl rfl (fill1 (cs' := (.bool a1.Stock :: (.sl (some 107) (r10.map Notch.c) :: ((arC (cI .i8) 0 (Ar.rep 16 0)) ++ ([] : List AV))))) ⟨rfl, ble rfl⟩ rfl rfl (fill1 (cs' := (.bool a1.Stock :: (.sl (some 107) (r10.map Notch.c) :: ((arC (cI .i8) 0 a1.Grain) ++ ([] : List AV))))) ⟨rfl, ble rfl⟩ rfl rfl (fill0 rfl))))) (fZ (kw (stOK h8 rfl o4 rfl rfl ⟨rfl, ble rfl⟩ rfl rfl) fun M11 hM12 => ?_))))))))))))))))))
 have o13 : M11[([] : Mem).length]? = some (.live ⟨.box, 31, 18, [(.bool a1.Stock :: (.sl (some 107) (r10.map Notch.c) :: ((arC (cI .i8) 0 a1.Grain) ++ ([] : List AV))))]⟩) := set_same hM12 o4
 refine Rn (hA h8 hZ) fun e14 h16 => sN (xx ?_)
 clear h7 h8
 obtain rfl := si h
 exact eR (resC (ag := true) (sz := 18) ⟨by kernel_rfl, by kernel_rfl, by kernel_rfl⟩ (ldOA (cs' := (.bool a1.Stock :: (.sl (some 107) (r10.map Notch.c) :: ((arC (cI .i8) 0 a1.Grain) ++ ([] : List AV))))) h16 o13 rfl rfl (ble rfl) rfl) res0) rfl
/-! ### loop.example/g01263/spec.l06Seal (f47) -/
noncomputable def spec_l06Seal (a1 : Half) (a2 : Int) (a3 : List UInt8) (a4 : Int) : Option Int :=
 (spec_l01Text a1).bind fun r8 =>
 (spec_l06Text 2166136261 r8).bind fun r10 =>
 (spec_l06Number r10 a2).bind fun r18 =>
 (spec_l06Text r18 a3).bind fun r25 =>
 (spec_l06Number r25 a4).bind fun r31 =>
 some r31
def spec_l06Seal_enc (r : Int) : AV := .int .u32 r
theorem spec_l06Seal_ok (a1 : Half) (a2 : Int) (a3 : List UInt8) (a4 : Int) (r : Int) (h : spec_l06Seal a1 a2 a3 a4 = some r) : Ev (fun k => CN k 47 [.pt none (.bool a1.Stock :: (.sl none (a1.Notches.map Notch.c) :: ((arC (cI .i8) 0 a1.Grain) ++ ([] : List AV)))), .int .u32 a2, .str a3, .int .u32 a4] []) (fun p => rRes p.2 p.1 = spec_l06Seal_enc r) := by
 unfold spec_l06Seal at h
 obtain ⟨r8, hx7, h⟩ := bind_some h
 obtain ⟨r10, hx9, h⟩ := bind_some h
 obtain ⟨r18, hx17, h⟩ := bind_some h
 obtain ⟨r25, hx24, h⟩ := bind_some h
 obtain ⟨r31, hx30, h⟩ := bind_some h
 refine Ev.enter (F := fun k => f47 (CN k) k) (fun k => callN_eq rfl Tryd.func47 rfl rfl rfl (by decide +kernel) (f47_eq _ _)) (sq (Rg (kx (mvO rfl) (Rn (hN rfl (hN rfl (hN rfl (hN rfl hZ)))) fun e1 h3 h4 h5 h6 => sN (sq (Rg (kx (mvO h3) (kc (cl (v := .str r8) rfl (cns rfl rfl) rfl (spec_l01Text_ok a1 _ hx7) nm) (kc (cl (v := .int .u32 r10) rfl (cns rfl (cns rfl rfl)) rfl (spec_l06Text_ok 2166136261 r8 _ hx9) nm) (kx (mvO rfl) (Rn (hA h4 (hA h5 (hA h6 (hN rfl hZ)))) fun e11 h13 h14 h15 h16 => sN (sq (Rg (kx (mvO h16) (kx (mvO h13) (kc (cl (v := .int .u32 r18) rfl (cns rfl (cns rfl rfl)) rfl (spec_l06Number_ok r10 a2 _ hx17) nm) (kx (mvO rfl) (Rn (hA h14 (hA h15 (hN rfl hZ))) fun e19 h21 h22 h23 => sN (sq (Rg (kx (mvO h23) (kx (mvO h21) (kc (cl (v := .int .u32 r25) rfl (cns rfl (cns rfl rfl)) rfl (spec_l06Text_ok r18 a3 _ hx24) nm) (kx (mvO rfl) (Rn (hA h22 (hN rfl hZ)) fun e26 h28 h29 => sN (sq (Rg (kx (mvO h29) (kx (mvO h28) (kc (cl (v := .int .u32 r31) rfl (cns rfl (cns rfl rfl)) rfl (spec_l06Number_ok r25 a4 _ hx30) nm) (kx (mvO rfl) (Rn (hN rfl hZ) fun e32 h34 => sN (xx ?_)))))))))))))))))))))))))))))))))
 clear h3 h4 h5 h6 h13 h14 h15 h21 h22 h28 h29
 obtain rfl := si h
 exact eR (resT h34 res0) rfl
/-! ### loop.example/g01263/spec.l06Name (f46) -/
abbrev spec_l06Name_b1_S := Int
abbrev spec_l06Name_b1_R := Unit ⊕ Unit
def spec_l06Name_b1_RS (a1 : List UInt8) (s : spec_l06Name_b1_S) (e : Env) (M : Mem) : Prop := eget e 0 = .str a1 ∧ eget e 3 = .int .i64 s
def spec_l06Name_b1_RR (a1 : List UInt8) (r : spec_l06Name_b1_R) (x : Ex) (e : Env) (M : Mem) : Prop :=
  match r with
  | (.inl g) => x = .ret ∧ eget e 2 = .bool false
  | (.inr g) => x = .ext 0 ∧ eget e 0 = .str a1
noncomputable def spec_l06Name_b1 (a1 : List UInt8) : spec_l06Name_b1_S → Option (spec_l06Name_b1_S ⊕ spec_l06Name_b1_R) := fun s1_1 =>
 if (decide (s1_1 < (a1.length : Int))) = true then
  (rd a1 s1_1).bind fun x26 =>
  if (decide ((x26.toNat : Int) < 97)) = true then
   some (.inr (.inl ()))
  else
   (rd a1 s1_1).bind fun x37 =>
   if (decide ((x37.toNat : Int) > 122)) = true then
    some (.inr (.inl ()))
   else
    some (.inl (IntKind.i64.wrap (s1_1 + 1)))
 else
  some (.inr (.inr ()))
theorem spec_l06Name_b1_ok (a1 : List UInt8) (s : spec_l06Name_b1_S) (r : spec_l06Name_b1_S ⊕ spec_l06Name_b1_R) (h : spec_l06Name_b1 a1 s = some r) (e : Env) (M : Mem) (hs : spec_l06Name_b1_RS a1 s e M) : Ev (fun k => (f46_l2 (CN k) k (prune [0, 3] e) M).bind fun q => some q) (bQ (spec_l06Name_b1_RS a1) (spec_l06Name_b1_RR a1) r) := by
 revert h hs
 revert s
 intro s1_1 h hs
 unfold spec_l06Name_b1 at h
 obtain ⟨h16, h18⟩ := hs
 generalize he15 : prune [0, 3] e = e14
 have h17 := envp he15.symm rfl h16
 have h19 := envp he15.symm rfl h18
 refine sq (sq (Rg (kx (mvO h19) (kx (mvO h17) (kx (lnB Tryd.underlying9 rfl) (kx (bLss rfl rfl) (Rn (hV (.str a1) h17 (hV (.int .i64 s1_1) h19 (hN rfl hZ))) fun e20 h22 h23 h24 => sN ?_)))))))
 clear h17 h19
 rcases ite_some h with ⟨hb25, h⟩ | ⟨hb25, h⟩
 ·obtain ⟨x26, hx27, h⟩ := bind_some h
  refine cT h24 hb25 (xx (sN (sq (bl (sq (Rg (kx (mvO h22) (kx (mvO h23) (kx (ixB rfl rfl hx27) (kx (bLss rfl rfl) (kx (mvO rfl) ?_)))))))))))
  rcases ite_some h with ⟨hb28, h⟩ | ⟨hb28, h⟩
  ·refine kx (gsF rfl hb28) (kx (gsF rfl hb28) (kx (gsF rfl hb28) (kx (gsF rfl hb28) (kx (pkT rfl hb28 rfl) (Rn (hA h22 (hA h23 (hV (.bool true) rfl hZ))) fun e29 h31 h32 h33 => sN (cT h33 rfl (sq (Rg (kx (mvO rfl) (Rn (hV (.bool false) rfl hZ) fun e34 h36 => sN (xx (bR (sR ?_)))))))))))))
   clear h22 h23 h24 h31 h32 h33
   obtain rfl := si h
   exact qR ⟨rfl, h36⟩
  obtain ⟨x37, hx38, h⟩ := bind_some h
  refine kx (guF rfl hb28 (mvO h22)) (kx (guF rfl hb28 (mvO h23)) (kx (guF rfl hb28 (ixB rfl rfl hx38)) (kx (guF rfl hb28 (bGtr rfl rfl)) (kx (pkF rfl hb28 rfl) (Rn (hA h22 (hA h23 (hN rfl hZ))) fun e39 h41 h42 h43 => sN ?_)))))
  clear h22 h23 h24
  rcases ite_some h with ⟨hb44, h⟩ | ⟨hb44, h⟩
  ·refine cT h43 hb44 (sq (Rg (kx (mvO rfl) (Rn (hV (.bool false) rfl hZ) fun e45 h47 => sN (xx (bR (sR ?_)))))))
   clear h41 h42 h43
   obtain rfl := si h
   exact qR ⟨rfl, h47⟩
  refine cF h43 hb44 (xx (bN (sN (Rg (kx (mvO h42) (kx (bAdd rfl rfl) (kx (mvO rfl) (Rn (hA h41 (hN rfl hZ)) fun e48 h50 h51 => ?_))))))))
  clear h41 h43
  obtain rfl := si h
  exact qN ⟨h50, h51⟩
 refine cF h24 hb25 (xx (sE ?_))
 obtain rfl := si h
 exact qE ⟨rfl, h22⟩
noncomputable def spec_l06Name (a1 : List UInt8) : Option Bool :=
 (Lw (spec_l06Name_b1 a1) 0).bind fun r => match r with
 | (.inl _) =>
  some false
 | (.inr _) =>
  if (a1 == ([] : List UInt8)) = true then
   some false
  else
   some (decide ((a1.length : Int) ≤ 12))
def spec_l06Name_enc (r : Bool) : AV := .bool r
theorem spec_l06Name_ok (a1 : List UInt8) (r : Bool) (h : spec_l06Name a1 = some r) : Ev (fun k => CN k 46 [.str a1] []) (fun p => rRes p.2 p.1 = spec_l06Name_enc r) := by
 unfold spec_l06Name at h
 obtain ⟨r52, hr53, h⟩ := bind_some h
 refine Ev.enter (F := fun k => f46 (CN k) k) (fun k => callN_eq rfl Tryd.func46 rfl rfl rfl (by decide +kernel) (f46_eq _ _)) (sq (Rg (kx (mvO rfl) (Rn (hN rfl hZ) fun e1 h3 => sN (sq (sq (Rg (kx (mvO rfl) (Rn (hA h3 (hV (.int .i64 0) rfl hZ)) fun e4 h6 h7 => sN (bl ?_))))))))))
 clear h3
 rcases r52 with _ | _
 ·refine Ev.loop (RS := spec_l06Name_b1_RS a1) (RR := spec_l06Name_b1_RR a1) (fun s r h e M hs => spec_l06Name_b1_ok a1 s r h e M hs) hr53 ⟨h6, h7⟩ fun x e55 M56 hq54 => ?_
  obtain ⟨rfl, h57⟩ := hq54
  refine bR (sR ?_)
  obtain rfl := si h
  exact eR (resT h57 res0) rfl
 refine Ev.loop (RS := spec_l06Name_b1_RS a1) (RR := spec_l06Name_b1_RR a1) (fun s r h e M hs => spec_l06Name_b1_ok a1 s r h e M hs) hr53 ⟨h6, h7⟩ fun x e58 M59 hq54 => ?_
 obtain ⟨rfl, h60⟩ := hq54
 refine bE (sN (sq (Rg (kx (mvO h60) (kx (sNeq rfl rfl) (kx (mvO rfl) ?_))))))
 rcases ite_some h with ⟨hb61, h⟩ | ⟨hb61, h⟩
 ·refine kx (gsT rfl (congrArg Bool.not hb61)) (kx (gsT rfl (congrArg Bool.not hb61)) (kx (gsT rfl (congrArg Bool.not hb61)) (kx (pkF rfl (congrArg Bool.not hb61) rfl) (kx (mvO rfl) (Rn (hV (.bool false) rfl hZ) fun e62 h64 => sN (xx ?_))))))
  clear h60
  obtain rfl := si h
  exact eR (resT h64 res0) rfl
 refine kx (guT rfl (congrArg Bool.not hb61) (mvO h60)) (kx (guT rfl (congrArg Bool.not hb61) (lnB Tryd.underlying9 rfl)) (kx (guT rfl (congrArg Bool.not hb61) (bLeq rfl rfl)) (kx (pkT rfl (congrArg Bool.not hb61) rfl) (kx (mvO rfl) (Rn (hN rfl hZ) fun e65 h67 => sN (xx ?_))))))
 clear h60
 obtain rfl := si h
 exact eR (resT h67 res0) rfl
/-! ### loop.example/g01263/spec.l06Last (f45) -/
noncomputable def spec_l06Last (a1 : Chain) : Option ((List UInt8) × Int) :=
 (rd a1.Marks (IntKind.i64.wrap ((a1.Marks.length : Int) - 1))).bind fun x9 =>
 some (x9.Holder, x9.Seal)
def spec_l06Last_enc (r : (List UInt8) × Int) : AV := .agg [.str r.1, .int .u32 r.2]
theorem spec_l06Last_ok (a1 : Chain) (r : (List UInt8) × Int) (h : spec_l06Last a1 = some r) : Ev (fun k => CN k 45 [.pt none (.str a1.Debtor :: (.bool a1.Stock.Stock :: (.sl none (a1.Stock.Notches.map Notch.c) :: ((arC (cI .i8) 0 a1.Stock.Grain) ++ ((.sl none (a1.Marks.map Mark.c) :: []) : List AV)))))] []) (fun p => rRes p.2 p.1 = spec_l06Last_enc r) := by
 unfold spec_l06Last at h
 refine Ev.enter (F := fun k => f45 (CN k) k) (fun k => callN_eq rfl Tryd.func45 rfl rfl rfl (by decide +kernel) (f45_eq _ _)) (sq (Rg (ku (alO zero39) fun M2 hM3 => ?_)))
 have o4 : M2[([] : Mem).length]? = some (.live ⟨.box, 39, 2, [[.str ([] : List UInt8), .int .u32 0]]⟩) := push_new hM3
 obtain ⟨x9, hx10, h⟩ := bind_some h
 refine Rn (hN rfl (hV (.loc ([] : Mem).length 1 0 0) rfl hZ)) fun e5 h7 h8 => sN (sq (Rd (kf (mvO h7) (kf (ncP rfl) (kf (faP rfl ⟨ble rfl, blt rfl⟩ rfl) (kf (ldP rfl rfl) (kf (mvO h7) (kf (ncP rfl) (kf (faP rfl ⟨ble rfl, blt rfl⟩ rfl) (kf (ldP rfl rfl) (kf (lnS Tryd.underlying32 rfl) (kf (bSub rfl rfl) (kf (ixS rfl rfl hx10 Mark.fl) (kf (ldPA rfl rfl rfl) (fZ (kw (stO h8 rfl o4 rfl rfl ⟨rfl, ble rfl⟩ rfl rfl) fun M11 hM12 => ?_))))))))))))))))
 have o13 : M11[([] : Mem).length]? = some (.live ⟨.box, 39, 2, [[.str x9.Holder, .int .u32 x9.Seal]]⟩) := set_same hM12 o4
 refine Rn (hA h8 hZ) fun e14 h16 => sN (xx ?_)
 clear h7 h8
 obtain rfl := si h
 exact eR (resC (ag := true) (sz := 2) ⟨by kernel_rfl, by kernel_rfl, by kernel_rfl⟩ (ldOA h16 o13 rfl rfl (ble rfl) rfl) res0) rfl
/-! ### loop.example/g01263/spec.l06Ok (f44) -/
def spec_l06Ok_c1_Q (a1 : Chain) (g : Bool) (q : Out) : Prop := q.1 = .nrm ∧ eget q.2.1 0 = .pt none (.str a1.Debtor :: (.bool a1.Stock.Stock :: (.sl none (a1.Stock.Notches.map Notch.c) :: ((arC (cI .i8) 0 a1.Stock.Grain) ++ ((.sl none (a1.Marks.map Mark.c) :: []) : List AV))))) ∧ eget q.2.1 34 = .bool g
abbrev spec_l06Ok_b1_S := (List UInt8) × Int
abbrev spec_l06Ok_b1_R := Unit ⊕ Unit
def spec_l06Ok_b1_RS (a1 : Chain) (s : spec_l06Ok_b1_S) (e : Env) (M : Mem) : Prop := eget e 0 = .pt none (.str a1.Debtor :: (.bool a1.Stock.Stock :: (.sl none (a1.Stock.Notches.map Notch.c) :: ((arC (cI .i8) 0 a1.Stock.Grain) ++ ((.sl none (a1.Marks.map Mark.c) :: []) : List AV))))) ∧ eget e 3 = .str s.1 ∧ eget e 4 = .int .i64 s.2
def spec_l06Ok_b1_RR (a1 : Chain) (r : spec_l06Ok_b1_R) (x : Ex) (e : Env) (M : Mem) : Prop :=
  match r with
  | (.inl g) => x = .ret ∧ eget e 2 = .bool false
  | (.inr g) => x = .ext 0 ∧ True
noncomputable def spec_l06Ok_b1 (a1 : Chain) : spec_l06Ok_b1_S → Option (spec_l06Ok_b1_S ⊕ spec_l06Ok_b1_R) := fun (s1_1, s1_2) =>
 if (decide (s1_2 < (a1.Marks.length : Int))) = true then
  (rd a1.Marks s1_2).bind fun x70 =>
  (spec_l06Name x70.Holder).bind fun r73 =>
  if r73 = true then
   (rd a1.Marks s1_2).bind fun x75 =>
   if (x75.Holder == s1_1) = true then
    some (.inr (.inl ()))
   else
    (rd a1.Marks s1_2).bind fun x86 =>
    some (.inl (x86.Holder, (IntKind.i64.wrap (s1_2 + 1))))
  else
   some (.inr (.inl ()))
 else
  some (.inr (.inr ()))
theorem spec_l06Ok_b1_ok (a1 : Chain) (s : spec_l06Ok_b1_S) (r : spec_l06Ok_b1_S ⊕ spec_l06Ok_b1_R) (h : spec_l06Ok_b1 a1 s = some r) (e : Env) (M : Mem) (hs : spec_l06Ok_b1_RS a1 s e M) : Ev (fun k => (f44_l5 (CN k) k (prune [0, 3, 4] e) M).bind fun q => some q) (bQ (spec_l06Ok_b1_RS a1) (spec_l06Ok_b1_RR a1) r) := by
 obtain ⟨s1_1, s1_2⟩ := s
 unfold spec_l06Ok_b1 at h
 obtain ⟨h57, h59, h61⟩ := hs
 generalize he56 : prune [0, 3, 4] e = e55
 have h58 := envp he56.symm rfl h57
 have h60 := envp he56.symm rfl h59
 have h62 := envp he56.symm rfl h61
 refine sq (sq (Rg (kx (mvO h62) (kx (mvO h58) (kx (ncP rfl) (kx (faP rfl ⟨ble rfl, blt rfl⟩ rfl) (kx (ldP rfl rfl) (kx (lnS Tryd.underlying32 rfl) (kx (bLss rfl rfl) (Rn (hV (.pt none (.str a1.Debtor :: (.bool a1.Stock.Stock :: (.sl none (a1.Stock.Notches.map Notch.c) :: ((arC (cI .i8) 0 a1.Stock.Grain) ++ ((.sl none (a1.Marks.map Mark.c) :: []) : List AV)))))) h58 (hV (.str s1_1) h60 (hV (.int .i64 s1_2) h62 (hN rfl hZ)))) fun e63 h65 h66 h67 h68 => sN ?_))))))))))
 clear h58 h60 h62
 rcases ite_some h with ⟨hb69, h⟩ | ⟨hb69, h⟩
 ·obtain ⟨x70, hx71, h⟩ := bind_some h
  obtain ⟨r73, hx72, h⟩ := bind_some h
  refine cT h68 hb69 (xx (sN (sq (bl (sq (sq (Rg (kx (mvO h65) (kx (ncP rfl) (kx (faP rfl ⟨ble rfl, blt rfl⟩ rfl) (kx (ldP rfl rfl) (kx (mvO h67) (kx (ixS rfl rfl hx71 Mark.fl) (kx (faP rfl ⟨ble rfl, blt rfl⟩ rfl) (kx (ldP rfl rfl) (kc (cl (v := .bool r73) rfl (cns rfl rfl) rfl (spec_l06Name_ok x70.Holder _ hx72) nm) (kx (uNot rfl) (kx (mvO rfl) ?_))))))))))))))))))
  rcases ite_some h with ⟨hb74, h⟩ | ⟨hb74, h⟩
  ·obtain ⟨x75, hx76, h⟩ := bind_some h
   refine kx (guF rfl (congrArg Bool.not hb74) (mvO h65)) (kx (guF rfl (congrArg Bool.not hb74) (ncP rfl)) (kx (guF rfl (congrArg Bool.not hb74) (faP rfl ⟨ble rfl, blt rfl⟩ rfl)) (kx (guF rfl (congrArg Bool.not hb74) (ldP rfl rfl)) (kx (guF rfl (congrArg Bool.not hb74) (mvO h67)) (kx (guF rfl (congrArg Bool.not hb74) (ixS rfl rfl hx76 Mark.fl)) (kx (guF rfl (congrArg Bool.not hb74) (faP rfl ⟨ble rfl, blt rfl⟩ rfl)) (kx (guF rfl (congrArg Bool.not hb74) (ldP rfl rfl)) (kx (guF rfl (congrArg Bool.not hb74) (mvO h66)) (kx (guF rfl (congrArg Bool.not hb74) (sEql rfl rfl)) (kx (pkF rfl (congrArg Bool.not hb74) rfl) (Rn (hA h65 (hA h67 (hN rfl hZ))) fun e77 h79 h80 h81 => sN ?_)))))))))))
   clear h65 h66 h67 h68
   rcases ite_some h with ⟨hb82, h⟩ | ⟨hb82, h⟩
   ·refine cT h81 hb82 (sq (Rg (kx (mvO rfl) (Rn (hV (.bool false) rfl hZ) fun e83 h85 => sN (xx (sR (bR (sR ?_))))))))
    clear h79 h80 h81
    obtain rfl := si h
    exact qR ⟨rfl, h85⟩
   obtain ⟨x86, hx87, h⟩ := bind_some h
   refine cF h81 hb82 (xx (sN (Rg (kx (mvO h79) (kx (ncP rfl) (kx (faP rfl ⟨ble rfl, blt rfl⟩ rfl) (kx (ldP rfl rfl) (kx (mvO h80) (kx (ixS rfl rfl hx87 Mark.fl) (kx (faP rfl ⟨ble rfl, blt rfl⟩ rfl) (kx (ldP rfl rfl) (kx (mvO rfl) (Rn (hA h79 (hN rfl (hA h80 hZ))) fun e88 h90 h91 h92 => bN (sN (Rg (kx (mvO h92) (kx (bAdd rfl rfl) (kx (mvO rfl) (Rn (hA h90 (hA h91 (hN rfl hZ))) fun e93 h95 h96 h97 => ?_)))))))))))))))))))
   clear h79 h80 h81 h90 h91
   obtain rfl := si h
   exact qN ⟨h95, h96, h97⟩
  refine kx (gsF rfl (congrArg Bool.not hb74)) (kx (gsF rfl (congrArg Bool.not hb74)) (kx (gsF rfl (congrArg Bool.not hb74)) (kx (gsF rfl (congrArg Bool.not hb74)) (kx (gsF rfl (congrArg Bool.not hb74)) (kx (gsF rfl (congrArg Bool.not hb74)) (kx (gsF rfl (congrArg Bool.not hb74)) (kx (gsF rfl (congrArg Bool.not hb74)) (kx (gsF rfl (congrArg Bool.not hb74)) (kx (gsF rfl (congrArg Bool.not hb74)) (kx (pkT rfl (congrArg Bool.not hb74) rfl) (Rn (hA h65 (hA h67 (hV (.bool true) rfl hZ))) fun e98 h100 h101 h102 => sN (cT h102 rfl (sq (Rg (kx (mvO rfl) (Rn (hV (.bool false) rfl hZ) fun e103 h105 => sN (xx (sR (bR (sR ?_))))))))))))))))))))
  clear h65 h66 h67 h68 h100 h101 h102
  obtain rfl := si h
  exact qR ⟨rfl, h105⟩
 refine cF h68 hb69 (xx (sE ?_))
 obtain rfl := si h
 exact qE ⟨rfl, trivial⟩
noncomputable def spec_l06Ok (a1 : Chain) : Option Bool :=
 ((spec_l06Name a1.Debtor).bind fun r5 =>
 if r5 = true then
  (spec_l01Ok a1.Stock).bind fun r8 =>
  if r8 = true then
   if a1.Stock.Stock = true then
    (spec_l00In (a1.Marks.length : Int) 1 30).bind fun r12 =>
    some (!r12)
   else
    some true
  else
   some true
 else
  some true).bind fun y31 =>
 if y31 = true then
  some false
 else
  (Lw (spec_l06Ok_b1 a1) (a1.Debtor, 0)).bind fun r => match r with
  | (.inl _) =>
   some false
  | (.inr _) =>
   some true
def spec_l06Ok_enc (r : Bool) : AV := .bool r
theorem spec_l06Ok_ok (a1 : Chain) (r : Bool) (h : spec_l06Ok a1 = some r) : Ev (fun k => CN k 44 [.pt none (.str a1.Debtor :: (.bool a1.Stock.Stock :: (.sl none (a1.Stock.Notches.map Notch.c) :: ((arC (cI .i8) 0 a1.Stock.Grain) ++ ((.sl none (a1.Marks.map Mark.c) :: []) : List AV)))))] []) (fun p => rRes p.2 p.1 = spec_l06Ok_enc r) := by
 unfold spec_l06Ok at h
 obtain ⟨r118, hr119, h⟩ := bind_some h
 refine Ev.enter (F := fun k => f44 (CN k) k) (fun k => callN_eq rfl Tryd.func44 rfl rfl rfl (by decide +kernel) (f44_eq _ _)) (sq (Rg (kx (mvO rfl) (Rn (hN rfl hZ) fun e1 h3 => sN (sq (sq ?_))))))
 refine Ev.cut (Q1 := spec_l06Ok_c1_Q a1 r118) (by
     have h := hr119
     obtain ⟨r5, hx4, h⟩ := bind_some h
     refine Rg (kx (mvO h3) (kx (ncP rfl) (kx (faP rfl ⟨ble rfl, blt rfl⟩ rfl) (kx (ldP rfl rfl) (kc (cl (v := .bool r5) rfl (cns rfl rfl) rfl (spec_l06Name_ok a1.Debtor _ hx4) nm) (kx (uNot rfl) (kx (mvO rfl) ?_)))))))
     rcases ite_some h with ⟨hb6, h⟩ | ⟨hb6, h⟩
     ·obtain ⟨r8, hx7, h⟩ := bind_some h
      refine kx (guF rfl (congrArg Bool.not hb6) (mvO h3)) (kx (guF rfl (congrArg Bool.not hb6) (ncP rfl)) (kx (guF rfl (congrArg Bool.not hb6) (faP rfl ⟨ble rfl, blt rfl⟩ rfl)) (kc (Ev.guF rfl (congrArg Bool.not hb6) (cl (v := .bool r8) rfl (cns rfl rfl) rfl (spec_l01Ok_ok a1.Stock _ hx7) nm)) (kx (guF rfl (congrArg Bool.not hb6) (uNot rfl)) (kx (pkF rfl (congrArg Bool.not hb6) rfl) (kx (mvO rfl) ?_))))))
      rcases ite_some h with ⟨hb9, h⟩ | ⟨hb9, h⟩
      ·refine kx (guF rfl (congrArg Bool.not hb9) (mvO h3)) (kx (guF rfl (congrArg Bool.not hb9) (ncP rfl)) (kx (guF rfl (congrArg Bool.not hb9) (faP rfl ⟨ble rfl, blt rfl⟩ rfl)) (kx (guF rfl (congrArg Bool.not hb9) (faP rfl ⟨ble rfl, blt rfl⟩ rfl)) (kx (guF rfl (congrArg Bool.not hb9) (ldP rfl rfl)) (kx (guF rfl (congrArg Bool.not hb9) (uNot rfl)) (kx (pkF rfl (congrArg Bool.not hb9) rfl) (kx (mvO rfl) ?_)))))))
       rcases ite_some h with ⟨hb10, h⟩ | ⟨hb10, h⟩
       ·obtain ⟨r12, hx11, h⟩ := bind_some h
        refine kx (guF rfl (congrArg Bool.not hb10) (mvO h3)) (kx (guF rfl (congrArg Bool.not hb10) (ncP rfl)) (kx (guF rfl (congrArg Bool.not hb10) (faP rfl ⟨ble rfl, blt rfl⟩ rfl)) (kx (guF rfl (congrArg Bool.not hb10) (ldP rfl rfl)) (kx (guF rfl (congrArg Bool.not hb10) (lnS Tryd.underlying32 rfl)) (kc (Ev.guF rfl (congrArg Bool.not hb10) (cl (v := .bool r12) rfl (cns rfl (cns rfl (cns rfl rfl))) rfl (spec_l00In_ok (a1.Marks.length : Int) 1 30 _ hx11) nm)) (kx (guF rfl (congrArg Bool.not hb10) (uNot rfl)) (kx (pkF rfl (congrArg Bool.not hb10) rfl) (Rn (hA h3 (hN rfl hZ)) fun e13 h15 h16 => ?_))))))))
        clear h3
        obtain rfl := si h
        exact kd (show spec_l06Ok_c1_Q a1 _ _ from ⟨rfl, h15, h16⟩)
       refine kx (gsF rfl (congrArg Bool.not hb10)) (kx (gsF rfl (congrArg Bool.not hb10)) (kx (gsF rfl (congrArg Bool.not hb10)) (kx (gsF rfl (congrArg Bool.not hb10)) (kx (gsF rfl (congrArg Bool.not hb10)) (kc (Ev.gsF rfl (congrArg Bool.not hb10)) (kx (gsF rfl (congrArg Bool.not hb10)) (kx (pkT rfl (congrArg Bool.not hb10) rfl) (Rn (hA h3 (hV (.bool true) rfl hZ)) fun e17 h19 h20 => ?_))))))))
       clear h3
       obtain rfl := si h
       exact kd (show spec_l06Ok_c1_Q a1 _ _ from ⟨rfl, h19, h20⟩)
      refine kx (gsF rfl (congrArg Bool.not hb9)) (kx (gsF rfl (congrArg Bool.not hb9)) (kx (gsF rfl (congrArg Bool.not hb9)) (kx (gsF rfl (congrArg Bool.not hb9)) (kx (gsF rfl (congrArg Bool.not hb9)) (kx (gsF rfl (congrArg Bool.not hb9)) (kx (pkT rfl (congrArg Bool.not hb9) rfl) (kx (mvO rfl) (kx (gsF rfl rfl) (kx (gsF rfl rfl) (kx (gsF rfl rfl) (kx (gsF rfl rfl) (kx (gsF rfl rfl) (kc (Ev.gsF rfl rfl) (kx (gsF rfl rfl) (kx (pkT rfl rfl rfl) (Rn (hA h3 (hV (.bool true) rfl hZ)) fun e21 h23 h24 => ?_))))))))))))))))
      clear h3
      obtain rfl := si h
      exact kd (show spec_l06Ok_c1_Q a1 _ _ from ⟨rfl, h23, h24⟩)
     refine kx (gsF rfl (congrArg Bool.not hb6)) (kx (gsF rfl (congrArg Bool.not hb6)) (kx (gsF rfl (congrArg Bool.not hb6)) (kc (Ev.gsF rfl (congrArg Bool.not hb6)) (kx (gsF rfl (congrArg Bool.not hb6)) (kx (pkT rfl (congrArg Bool.not hb6) rfl) (kx (mvO rfl) (kx (gsF rfl rfl) (kx (gsF rfl rfl) (kx (gsF rfl rfl) (kx (gsF rfl rfl) (kx (gsF rfl rfl) (kx (gsF rfl rfl) (kx (pkT rfl rfl rfl) (kx (mvO rfl) (kx (gsF rfl rfl) (kx (gsF rfl rfl) (kx (gsF rfl rfl) (kx (gsF rfl rfl) (kx (gsF rfl rfl) (kc (Ev.gsF rfl rfl) (kx (gsF rfl rfl) (kx (pkT rfl rfl rfl) (Rn (hA h3 (hV (.bool true) rfl hZ)) fun e25 h27 h28 => ?_)))))))))))))))))))))))
     clear h3
     obtain rfl := si h
     exact kd (show spec_l06Ok_c1_Q a1 _ _ from ⟨rfl, h27, h28⟩)) ?_
 revert h hr119
 revert r118
 intro y31 hr119 h
 intro x e29 M30 hq117
 obtain ⟨rfl, h32, h33⟩ := hq117
 refine sN ?_
 rcases ite_some h with ⟨hb34, h⟩ | ⟨hb34, h⟩
 ·refine cT h33 hb34 (sq (Rg (kx (mvO rfl) (Rn (hV (.bool false) rfl hZ) fun e35 h37 => sN (xx (sR ?_))))))
  clear h32 h33
  obtain rfl := si h
  exact eR (resT h37 res0) rfl
 obtain ⟨r106, hr107, h⟩ := bind_some h
 refine cF h33 hb34 (xx (sN (sq (Rg (kx (mvO h32) (kx (ncP rfl) (kx (faP rfl ⟨ble rfl, blt rfl⟩ rfl) (kx (ldP rfl rfl) (kx (mvO rfl) (Rn (hV (.pt none (.str a1.Debtor :: (.bool a1.Stock.Stock :: (.sl none (a1.Stock.Notches.map Notch.c) :: ((arC (cI .i8) 0 a1.Stock.Grain) ++ ((.sl none (a1.Marks.map Mark.c) :: []) : List AV)))))) h32 (hN rfl hZ)) fun e38 h40 h41 => sN (sq (sq (Rg (kx (mvO rfl) (Rn (hA h40 (hA h41 (hV (.int .i64 0) rfl hZ))) fun e42 h44 h45 h46 => sN (bl ?_))))))))))))))))
 clear h32 h33 h40 h41
 rcases r106 with _ | _
 ·refine Ev.loop (RS := spec_l06Ok_b1_RS a1) (RR := spec_l06Ok_b1_RR a1) (fun s r h e M hs => spec_l06Ok_b1_ok a1 s r h e M hs) hr107 ⟨h44, h45, h46⟩ fun x e109 M110 hq108 => ?_
  obtain ⟨rfl, h111⟩ := hq108
  refine bR (sR ?_)
  obtain rfl := si h
  exact eR (resT h111 res0) rfl
 refine Ev.loop (RS := spec_l06Ok_b1_RS a1) (RR := spec_l06Ok_b1_RR a1) (fun s r h e M hs => spec_l06Ok_b1_ok a1 s r h e M hs) hr107 ⟨h44, h45, h46⟩ fun x e112 M113 hq108 => ?_
 obtain ⟨rfl, _⟩ := hq108
 refine bE (sN (sq (Rg (kx (mvO rfl) (Rn (hV (.bool true) rfl hZ) fun e114 h116 => sN (xx ?_))))))
 obtain rfl := si h
 exact eR (resT h116 res0) rfl
/-! ### loop.example/g01263/laws.szMarkS (f43) -/
abbrev laws_szMarkS_b1_S := Int × Int
abbrev laws_szMarkS_b1_R := Unit ⊕ Int
def laws_szMarkS_b1_RS (a1 : List Mark) (s : laws_szMarkS_b1_S) (e : Env) (M : Mem) : Prop := eget e 0 = .sl none (a1.map Mark.c) ∧ eget e 1 = .int .i64 s.1 ∧ eget e 5 = .int .i64 s.2
def laws_szMarkS_b1_RR (a1 : List Mark) (r : laws_szMarkS_b1_R) (x : Ex) (e : Env) (M : Mem) : Prop :=
  match r with
  | (.inl g) => x = .ret ∧ eget e 4 = .int .i64 (-1)
  | (.inr g) => x = .ext 0 ∧ eget e 1 = .int .i64 g
noncomputable def laws_szMarkS_b1 (a1 : List Mark) : laws_szMarkS_b1_S → Option (laws_szMarkS_b1_S ⊕ laws_szMarkS_b1_R) := fun (s1_1, s1_2) =>
 if (decide (s1_2 < (a1.length : Int))) = true then
  (rd a1 s1_2).bind fun x46 =>
  (laws_szMark x46 s1_1).bind fun r49 =>
  if (decide (r49 < 0)) = true then
   some (.inr (.inl ()))
  else
   some (.inl (r49, (IntKind.i64.wrap (s1_2 + 1))))
 else
  some (.inr (.inr s1_1))
theorem laws_szMarkS_b1_ok (a1 : List Mark) (s : laws_szMarkS_b1_S) (r : laws_szMarkS_b1_S ⊕ laws_szMarkS_b1_R) (h : laws_szMarkS_b1 a1 s = some r) (e : Env) (M : Mem) (hs : laws_szMarkS_b1_RS a1 s e M) : Ev (fun k => (f43_l5 (CN k) k (prune [0, 1, 5] e) M).bind fun q => some q) (bQ (laws_szMarkS_b1_RS a1) (laws_szMarkS_b1_RR a1) r) := by
 obtain ⟨s1_1, s1_2⟩ := s
 unfold laws_szMarkS_b1 at h
 obtain ⟨h33, h35, h37⟩ := hs
 generalize he32 : prune [0, 1, 5] e = e31
 have h34 := envp he32.symm rfl h33
 have h36 := envp he32.symm rfl h35
 have h38 := envp he32.symm rfl h37
 refine sq (sq (Rg (kx (mvO h38) (kx (mvO h34) (kx (lnS Tryd.underlying55 rfl) (kx (bLss rfl rfl) (Rn (hV (.sl none (a1.map Mark.c)) h34 (hV (.int .i64 s1_1) h36 (hV (.int .i64 s1_2) h38 (hN rfl hZ)))) fun e39 h41 h42 h43 h44 => sN ?_)))))))
 clear h34 h36 h38
 rcases ite_some h with ⟨hb45, h⟩ | ⟨hb45, h⟩
 ·obtain ⟨x46, hx47, h⟩ := bind_some h
  obtain ⟨r49, hx48, h⟩ := bind_some h
  refine cT h44 hb45 (xx (sN (sq (bl (sq (Rg (kx (mvO h41) (kx (mvO h43) (kx (ixS rfl rfl hx47 Mark.fl) (kx (ldPA rfl rfl rfl) (kx (mvO h42) (kc (cl (v := .int .i64 r49) rfl (cns rfl (cns rfl rfl)) rfl (laws_szMark_ok x46 s1_1 _ hx48) nm) (kx (mvO rfl) (Rn (hA h41 (hN rfl (hA h43 hZ))) fun e50 h52 h53 h54 => sN (sq (Rg (kx (mvO h53) (kx (bLss rfl rfl) (Rn (hA h52 (hA h53 (hA h54 (hN rfl hZ)))) fun e55 h57 h58 h59 h60 => sN ?_)))))))))))))))))))
  clear h41 h43 h44 h52 h53 h54
  rcases ite_some h with ⟨hb61, h⟩ | ⟨hb61, h⟩
  ·refine cT h60 hb61 (sq (Rg (kx (mvO rfl) (Rn (hV (.int .i64 (-1)) rfl hZ) fun e62 h64 => sN (xx (bR (sR ?_)))))))
   clear h57 h58 h59 h60
   obtain rfl := si h
   exact qR ⟨rfl, h64⟩
  refine cF h60 hb61 (xx (bN (sN (Rg (kx (mvO h59) (kx (bAdd rfl rfl) (kx (mvO rfl) (Rn (hA h57 (hA h58 (hN rfl hZ))) fun e65 h67 h68 h69 => ?_))))))))
  clear h57 h58 h60
  obtain rfl := si h
  exact qN ⟨h67, h68, h69⟩
 refine cF h44 hb45 (xx (sE ?_))
 obtain rfl := si h
 exact qE ⟨rfl, h42⟩
noncomputable def laws_szMarkS (a1 : List Mark) (a2 : Int) : Option Int :=
 if (decide ((IntKind.i64.wrap (a2 - (a1.length : Int))) < 0)) = true then
  some (-1)
 else
  (Lw (laws_szMarkS_b1 a1) ((IntKind.i64.wrap (a2 - (a1.length : Int))), 0)).bind fun r => match r with
  | (.inl _) =>
   some (-1)
  | (.inr y78) =>
   some y78
def laws_szMarkS_enc (r : Int) : AV := .int .i64 r
theorem laws_szMarkS_ok (a1 : List Mark) (a2 : Int) (r : Int) (h : laws_szMarkS a1 a2 = some r) : Ev (fun k => CN k 43 [.sl none (a1.map Mark.c), .int .i64 a2] []) (fun p => rRes p.2 p.1 = laws_szMarkS_enc r) := by
 unfold laws_szMarkS at h
 refine Ev.enter (F := fun k => f43 (CN k) k) (fun k => callN_eq rfl Tryd.func43 rfl rfl rfl (by decide +kernel) (f43_eq _ _)) (sq (Rg (kx (mvO rfl) (Rn (hN rfl (hN rfl hZ)) fun e1 h3 h4 => sN (sq (Rg (kx (mvO h4) (kx (mvO h3) (kx (lnS Tryd.underlying55 rfl) (kx (bSub rfl rfl) (kx (mvO rfl) (Rn (hA h3 (hN rfl hZ)) fun e5 h7 h8 => sN (sq (sq (Rg (kx (mvO h8) (kx (bLss rfl rfl) (Rn (hA h7 (hA h8 (hN rfl hZ))) fun e9 h11 h12 h13 => sN ?_))))))))))))))))))
 clear h3 h7 h8
 rcases ite_some h with ⟨hb14, h⟩ | ⟨hb14, h⟩
 ·refine cT h13 hb14 (sq (Rg (kx (mvO rfl) (Rn (hV (.int .i64 (-1)) rfl hZ) fun e15 h17 => sN (xx (sR ?_))))))
  clear h11 h12 h13
  obtain rfl := si h
  exact eR (resT h17 res0) rfl
 obtain ⟨r70, hr71, h⟩ := bind_some h
 refine cF h13 hb14 (xx (sN (sq (sq (Rg (kx (mvO rfl) (Rn (hA h11 (hA h12 (hV (.int .i64 0) rfl hZ))) fun e18 h20 h21 h22 => sN (bl ?_))))))))
 clear h11 h12 h13
 rcases r70 with _ | y78
 ·refine Ev.loop (RS := laws_szMarkS_b1_RS a1) (RR := laws_szMarkS_b1_RR a1) (fun s r h e M hs => laws_szMarkS_b1_ok a1 s r h e M hs) hr71 ⟨h20, h21, h22⟩ fun x e73 M74 hq72 => ?_
  obtain ⟨rfl, h75⟩ := hq72
  refine bR (sR ?_)
  obtain rfl := si h
  exact eR (resT h75 res0) rfl
 refine Ev.loop (RS := laws_szMarkS_b1_RS a1) (RR := laws_szMarkS_b1_RR a1) (fun s r h e M hs => laws_szMarkS_b1_ok a1 s r h e M hs) hr71 ⟨h20, h21, h22⟩ fun x e76 M77 hq72 => ?_
 obtain ⟨rfl, h79⟩ := hq72
 refine bE (sN (sq (Rg (kx (mvO h79) (kx (mvO rfl) (Rn (hN rfl hZ) fun e80 h82 => sN (xx ?_)))))))
 clear h79
 obtain rfl := si h
 exact eR (resT h82 res0) rfl
/-! ### loop.example/g01263/laws.szHalf (f42) -/
noncomputable def laws_szHalf (a1 : Half) (a2 : Int) : Option Int :=
 (laws_szNotchS a1.Notches a2).bind fun r6 =>
 if (decide (r6 < 0)) = true then
  some (-1)
 else
  some r6
def laws_szHalf_enc (r : Int) : AV := .int .i64 r
theorem laws_szHalf_ok (a1 : Half) (a2 : Int) (r : Int) (h : laws_szHalf a1 a2 = some r) : Ev (fun k => CN k 42 [.agg (.bool a1.Stock :: (.sl none (a1.Notches.map Notch.c) :: ((arC (cI .i8) 0 a1.Grain) ++ ([] : List AV)))), .int .i64 a2] []) (fun p => rRes p.2 p.1 = laws_szHalf_enc r) := by
 unfold laws_szHalf at h
 obtain ⟨r6, hx5, h⟩ := bind_some h
 refine Ev.enter (F := fun k => f42 (CN k) k) (fun k => callN_eq rfl Tryd.func42 rfl rfl rfl (by decide +kernel) (f42_eq _ _)) (sq (Rg (kx (bxI rfl rfl ⟨rfl, rfl, by decide⟩) (kx (mvO rfl) (Rn (hN rfl (hN rfl hZ)) fun e1 h3 h4 => sN (sq (Rg (kx (faP h4 ⟨ble rfl, blt rfl⟩ rfl) (kx (ldP rfl rfl) (kx (mvO h3) (kc (cl (v := .int .i64 r6) rfl (cns rfl (cns rfl rfl)) rfl (laws_szNotchS_ok a1.Notches a2 _ hx5) nm) (kx (mvO rfl) (Rn (hN rfl hZ) fun e7 h9 => sN (sq (sq (Rg (kx (mvO h9) (kx (bLss rfl rfl) (Rn (hA h9 (hN rfl hZ)) fun e10 h12 h13 => sN ?_)))))))))))))))))))
 clear h4 h9
 rcases ite_some h with ⟨hb14, h⟩ | ⟨hb14, h⟩
 ·refine cT h13 hb14 (sq (Rg (kx (mvO rfl) (Rn (hV (.int .i64 (-1)) rfl hZ) fun e15 h17 => sN (xx (sR ?_))))))
  clear h12 h13
  obtain rfl := si h
  exact eR (resT h17 res0) rfl
 refine cF h13 hb14 (xx (sN (sq (Rg (kx (mvO h12) (kx (mvO rfl) (Rn (hN rfl hZ) fun e18 h20 => sN (xx ?_))))))))
 clear h12 h13
 obtain rfl := si h
 exact eR (resT h20 res0) rfl
/-! ### slices.Clone[[]loop.example/g01263/impl.Mark,loop.example/g01263/impl.Mark] (f38) -/
noncomputable def slices_Clone_Mark (a1 : List Mark) : Option ((List Mark)) :=
 (app 24 ([] : List Mark) a1).bind fun x8 =>
 some x8
def slices_Clone_Mark_enc (r : (List Mark)) : AV := .sl (some 39) (r.map Mark.c)
theorem slices_Clone_Mark_ok (a1 : List Mark) (r : (List Mark)) (h : slices_Clone_Mark a1 = some r) : Ev (fun k => CN k 38 [.sl none (a1.map Mark.c)] []) (fun p => rRes p.2 p.1 = slices_Clone_Mark_enc r) := by
  refine Ev.prim rfl (Ev.notLib rfl ?_)
  by_cases hn : a1 = []
  · subst hn
    have e : r = [] := by simpa [slices_Clone_Mark, app] using h.symm
    subst e
    exact Ev.nilBoth (by kernel_rfl) (by kernel_rfl)
  · have hp : 0 < a1.length := List.length_pos_iff.2 hn
    refine Ev.nilNot (by simpa using hn) ?_
    unfold slices_Clone_Mark at h
    obtain ⟨x8, hx9, h⟩ := bind_some h
    refine Ev.enter0 (F := fun _ => f38 (CN0 2) 2) (fun k => callN_eq rfl Tryd.func38 rfl rfl rfl (by decide +kernel) (f38_eq _ _)) (sq (Rg (kx (mvO rfl) (Rn (hN rfl hZ) fun e1 h3 => sN (sq (sq (Rg (kx (mvO h3) (kx (bNilF Tryd.underlying32 hp rfl rfl) (Rn (hA h3 (hV (.bool false) rfl hZ)) fun e4 h6 h7 => sN (cF h7 rfl (xx (sN (sq (Rg (kx (litI rfl rfl ⟨rfl, by decide⟩) (kx (mvO h6) (kx (aiT (c := Mark.c) (xs := ([] : List Mark)) rfl (elS rfl) hx9 Mark.fl (by decide)) (kx (mvO rfl) (Rn (hN rfl hZ) fun e10 h12 => sN (xx ?_)))))))))))))))))))))
    clear h3 h6 h7
    obtain rfl := si h
    exact eR (resT h12 res0) rfl
/-! ### loop.example/g01263/impl.last (f37) -/
noncomputable def impl_last (a1 : Chain) : Option ((List UInt8) × Int) :=
 (rd a1.Marks (IntKind.i64.wrap ((a1.Marks.length : Int) - 1))).bind fun x9 =>
 some (x9.Holder, x9.Seal)
def impl_last_enc (r : (List UInt8) × Int) : AV := .agg [.str r.1, .int .u32 r.2]
theorem impl_last_ok (a1 : Chain) (r : (List UInt8) × Int) (h : impl_last a1 = some r) : Ev (fun k => CN k 37 [.agg (.str a1.Debtor :: (.bool a1.Stock.Stock :: (.sl none (a1.Stock.Notches.map Notch.c) :: ((arC (cI .i8) 0 a1.Stock.Grain) ++ ((.sl none (a1.Marks.map Mark.c) :: []) : List AV)))))] []) (fun p => rRes p.2 p.1 = impl_last_enc r) := by
 unfold impl_last at h
 refine Ev.enter (F := fun k => f37 (CN k) k) (fun k => callN_eq rfl Tryd.func37 rfl rfl rfl (by decide +kernel) (f37_eq _ _)) (sq (Rg (kx (bxI rfl rfl ⟨rfl, rfl, by decide⟩) (ku (alO zero39) fun M2 hM3 => ?_))))
 have o4 : M2[([] : Mem).length]? = some (.live ⟨.box, 39, 2, [[.str ([] : List UInt8), .int .u32 0]]⟩) := push_new hM3
 obtain ⟨x9, hx10, h⟩ := bind_some h
 refine Rn (hN rfl (hV (.loc ([] : Mem).length 1 0 0) rfl hZ)) fun e5 h7 h8 => sN (sq (Rg (kx (faP h7 ⟨ble rfl, blt rfl⟩ rfl) (kx (ldP rfl rfl) (kx (faP h7 ⟨ble rfl, blt rfl⟩ rfl) (kx (ldP rfl rfl) (kx (lnS Tryd.underlying32 rfl) (kx (bSub rfl rfl) (kx (ixS rfl rfl hx10 Mark.fl) (kx (ldPA rfl rfl rfl) (kw (stO h8 rfl o4 rfl rfl ⟨rfl, ble rfl⟩ rfl rfl) fun M11 hM12 => ?_)))))))))))
 have o13 : M11[([] : Mem).length]? = some (.live ⟨.box, 39, 2, [[.str x9.Holder, .int .u32 x9.Seal]]⟩) := set_same hM12 o4
 refine Rn (hA h8 hZ) fun e14 h16 => sN (xx ?_)
 clear h7 h8
 obtain rfl := si h
 exact eR (resC (ag := true) (sz := 2) ⟨by kernel_rfl, by kernel_rfl, by kernel_rfl⟩ (ldOA h16 o13 rfl rfl (ble rfl) rfl) res0) rfl
/-! ### loop.example/g01263/impl.seal (f36) -/
abbrev impl_seal_b1_S := Int × Int
abbrev impl_seal_b1_R := Int
def impl_seal_b1_RS (w24 : List UInt8) (s : impl_seal_b1_S) (e : Env) (M : Mem) : Prop := eget e 9 = .int .u32 s.1 ∧ eget e 10 = .str w24 ∧ eget e 23 = .int .i64 (w24.length : Int) ∧ eget e 24 = .int .i64 s.2
def impl_seal_b1_RR (w24 : List UInt8) (g : impl_seal_b1_R) (x : Ex) (e : Env) (M : Mem) : Prop := x = .ext 0 ∧ eget e 9 = .int .u32 g
noncomputable def impl_seal_b1 (w24 : List UInt8) : impl_seal_b1_S → Option (impl_seal_b1_S ⊕ impl_seal_b1_R) := fun (s1_1, s1_2) =>
 if (decide (s1_2 < (w24.length : Int))) = true then
  (rd w24 s1_2).bind fun x71 =>
  some (.inl ((IntKind.u32.wrap ((ixor .u32 s1_1 (IntKind.u32.wrap (x71.toNat : Int))) * 16777619)), (IntKind.i64.wrap (s1_2 + 1))))
 else
  some (.inr s1_1)
theorem impl_seal_b1_ok (w24 : List UInt8) (s : impl_seal_b1_S) (r : impl_seal_b1_S ⊕ impl_seal_b1_R) (h : impl_seal_b1 w24 s = some r) (e : Env) (M : Mem) (hs : impl_seal_b1_RS w24 s e M) : Ev (fun k => (f36_l4 (CN k) k (prune [9, 10, 23, 24] e) M).bind fun q => some q) (bQ (impl_seal_b1_RS w24) (impl_seal_b1_RR w24) r) := by
 obtain ⟨s1_1, s1_2⟩ := s
 unfold impl_seal_b1 at h
 obtain ⟨h48, h50, h52, h54⟩ := hs
 generalize he47 : prune [9, 10, 23, 24] e = e46
 have h49 := envp he47.symm rfl h48
 have h51 := envp he47.symm rfl h50
 have h53 := envp he47.symm rfl h52
 have h55 := envp he47.symm rfl h54
 refine sq (Rg (kx (bLss h55 h53) (Rn (hV (.int .u32 s1_1) h49 (hV (.str w24) h51 (hV (.int .i64 (w24.length : Int)) h53 (hV (.int .i64 s1_2) h55 (hN rfl hZ))))) fun e56 h58 h59 h60 h61 h62 => sN (sq ?_))))
 clear h49 h51 h53 h55
 rcases ite_some h with ⟨hb63, h⟩ | ⟨hb63, h⟩
 ·obtain ⟨x71, hx72, h⟩ := bind_some h
  refine cT h62 hb63 (xx (sN (sq (bl (sq (Rg (kx (mvO h61) (kx (mvO rfl) (Rn (hA h58 (hA h59 (hN rfl (hA h60 (hA h61 hZ))))) fun e64 h66 h67 h68 h69 h70 => sN (Rg (kx (mvO h66) (kx (mvO h67) (kx (mvO h68) (kx (ixB rfl rfl hx72) (kx (cvI rfl) (kx (bXor rfl rfl) (kx (bMul rfl rfl) (kx (mvO rfl) (Rn (hN rfl (hA h67 (hA h69 (hA h70 hZ)))) fun e73 h75 h76 h77 h78 => bN (sN (Rg (kx (bAdd h78 rfl) (kx (mvO rfl) (Rn (hA h75 (hA h76 (hA h77 (hN rfl hZ)))) fun e79 h81 h82 h83 h84 => ?_))))))))))))))))))))))))
  clear h58 h59 h60 h61 h62 h67 h68 h69 h70 h75 h76 h77
  obtain rfl := si h
  exact qN ⟨h81, h82, h83, h84⟩
 refine cF h62 hb63 (xx (sE ?_))
 obtain rfl := si h
 exact qE ⟨rfl, h58⟩
noncomputable def impl_seal (a1 : Half) (a2 : Int) (a3 : List UInt8) (a4 : Int) : Option Int :=
 (impl_halfText a1).bind fun r15 =>
 (impl_four a2).bind fun r17 =>
 (sadd r15 r17).bind fun w18 =>
 (sadd w18 a3).bind fun w20 =>
 (impl_four a4).bind fun r23 =>
 (sadd w20 r23).bind fun w24 =>
 (Lw (impl_seal_b1 w24) (2166136261, 0)).bind fun y90 =>
 some y90
def impl_seal_enc (r : Int) : AV := .int .u32 r
theorem impl_seal_ok (a1 : Half) (a2 : Int) (a3 : List UInt8) (a4 : Int) (r : Int) (h : impl_seal a1 a2 a3 a4 = some r) : Ev (fun k => CN k 36 [.agg (.bool a1.Stock :: (.sl none (a1.Notches.map Notch.c) :: ((arC (cI .i8) 0 a1.Grain) ++ ([] : List AV)))), .int .u32 a2, .str a3, .int .u32 a4] []) (fun p => rRes p.2 p.1 = impl_seal_enc r) := by
 unfold impl_seal at h
 obtain ⟨r15, hx14, h⟩ := bind_some h
 obtain ⟨r17, hx16, h⟩ := bind_some h
 obtain ⟨w18, hx19, h⟩ := bind_some h
 obtain ⟨w20, hx21, h⟩ := bind_some h
 obtain ⟨r23, hx22, h⟩ := bind_some h
 obtain ⟨w24, hx25, h⟩ := bind_some h
 obtain ⟨y90, hr86, h⟩ := bind_some h
 refine Ev.enter (F := fun k => f36 (CN k) k) (fun k => callN_eq rfl Tryd.func36 rfl rfl rfl (by decide +kernel) (f36_eq _ _)) (sq (Rg (kx (bxI rfl rfl ⟨rfl, rfl, by decide⟩) (kx (mvO rfl) (Rn (hN rfl (hN rfl (hN rfl (hN rfl hZ)))) fun e1 h3 h4 h5 h6 => sN (sq (Rg (kx (mvO rfl) (Rn (hA h3 (hA h4 (hA h5 (hA h6 (hV (.int .u32 2166136261) rfl hZ))))) fun e7 h9 h10 h11 h12 h13 => sN (sq (Rg (kx (ldPA h12 rfl rfl) (kc (cl (v := .str r15) rfl (cns rfl rfl) rfl (impl_halfText_ok a1 _ hx14) nm) (kx (mvO h9) (kc (cl (v := .str r17) rfl (cns rfl rfl) rfl (impl_four_ok a2 _ hx16) nm) (kx (sAdd rfl rfl hx19) (kx (mvO h10) (kx (sAdd rfl rfl hx21) (kx (mvO h11) (kc (cl (v := .str r23) rfl (cns rfl rfl) rfl (impl_four_ok a4 _ hx22) nm) (kx (sAdd rfl rfl hx25) (kx (mvO rfl) (Rn (hA h13 (hN rfl hZ)) fun e26 h28 h29 => sN (sq (sq (Rg (kx (mvO h29) (kx (lnB Tryd.underlying9 rfl) (kx (mvO rfl) (Rn (hA h28 (hA h29 (hN rfl (hV (.int .i64 0) rfl hZ)))) fun e30 h32 h33 h34 h35 => sN (bl (Ev.loop (RS := impl_seal_b1_RS w24) (RR := impl_seal_b1_RR w24) (fun s r h e M hs => impl_seal_b1_ok w24 s r h e M hs) hr86 ⟨h32, h33, h34, h35⟩ fun x e88 M89 hq87 => ?_))))))))))))))))))))))))))))))))
 clear h3 h4 h5 h6 h10 h11 h12 h13 h9 h28 h29
 obtain ⟨rfl, h91⟩ := hq87
 refine bE (sN (sq (Rg (kx (mvO h91) (kx (mvO rfl) (Rn (hN rfl hZ) fun e92 h94 => sN (xx ?_)))))))
 clear h91
 obtain rfl := si h
 exact eR (resT h94 res0) rfl
/-! ### loop.example/g01263/impl.ownHalf (f35) -/
noncomputable def impl_ownHalf (a1 : Half) : Option (Bool × (List Notch) × (Ar 16 Int)) :=
 (slices_Clone_Notch a1.Notches).bind fun r16 =>
 some (a1.Stock, r16, a1.Grain)
def impl_ownHalf_enc (r : Bool × (List Notch) × (Ar 16 Int)) : AV := .agg (.bool r.1 :: (.sl (some 107) (r.2.1.map Notch.c) :: ((arC (cI .i8) 0 r.2.2) ++ ([] : List AV))))
theorem impl_ownHalf_ok (a1 : Half) (r : Bool × (List Notch) × (Ar 16 Int)) (h : impl_ownHalf a1 = some r) : Ev (fun k => CN k 35 [.agg (.bool a1.Stock :: (.sl none (a1.Notches.map Notch.c) :: ((arC (cI .i8) 0 a1.Grain) ++ ([] : List AV))))] []) (fun p => rRes p.2 p.1 = impl_ownHalf_enc r) := by
 unfold impl_ownHalf at h
 refine Ev.enter (F := fun k => f35 (CN k) k) (fun k => callN_eq rfl Tryd.func35 rfl rfl rfl (by decide +kernel) (f35_eq _ _)) (sq (Rg (ku (bxO rfl rfl ⟨rfl, rfl, by decide⟩) fun M2 hM3 => ?_)))
 have o4 : M2[([] : Mem).length]? = some (.live ⟨.box, 31, 18, [(.bool a1.Stock :: (.sl none (a1.Notches.map Notch.c) :: ((arC (cI .i8) 0 a1.Grain) ++ ([] : List AV))))]⟩) := push_new hM3
 refine ku (alO zero31) fun M6 hM7 => ?_
 have o8 := push_old hM7 o4
 have ne9 := ne_new o4
 have o10 : M6[M2.length]? = some (.live ⟨.box, 31, 18, [(.bool false :: (.nils :: ((arC (cI .i8) 0 (Ar.rep 16 0)) ++ ([] : List AV))))]⟩) := push_new hM7
 obtain ⟨r16, hx15, h⟩ := bind_some h
 refine Rn (hV (.loc ([] : Mem).length 1 0 0) rfl (hV (.loc M2.length 1 0 0) rfl hZ)) fun e11 h13 h14 => sN (sq (Rg (kx (faO h13 o8 rfl) (kx (ldO rfl o8 rfl rfl rfl) (kc (cl (v := .sl (some 107) (r16.map Notch.c)) rfl (cns rfl rfl) rfl (slices_Clone_Notch_ok a1.Notches _ hx15) nm) (kx (faO h13 o8 rfl) (kw (stOK rfl rfl o8 rfl rfl ⟨rfl, ble rfl⟩ rfl rfl) fun M17 hM18 => ?_)))))))
 have o19 : M17[([] : Mem).length]? = some (.live ⟨.box, 31, 18, [(.bool a1.Stock :: (.sl (some 107) (r16.map Notch.c) :: ((arC (cI .i8) 0 a1.Grain) ++ ([] : List AV))))]⟩) := set_same hM18 o8
 have o20 := set_ne hM18 (Ne.symm ne9) o10
 refine Rn (hA h13 (hA h14 hZ)) fun e21 h23 h24 => sN (sq (Rg (kx (ldOA (cs' := (.bool a1.Stock :: (.sl (some 107) (r16.map Notch.c) :: ((arC (cI .i8) 0 a1.Grain) ++ ([] : List AV))))) h23 o19 rfl rfl (ble rfl) rfl) (kw (stOK h24 rfl o20 rfl rfl ⟨rfl, ble rfl⟩ rfl rfl) fun M25 hM26 => ?_))))
 clear h13 h14
 have o27 := set_ne hM26 ne9 o19
 have o28 : M25[M2.length]? = some (.live ⟨.box, 31, 18, [(.bool a1.Stock :: (.sl (some 107) (r16.map Notch.c) :: ((arC (cI .i8) 0 a1.Grain) ++ ([] : List AV))))]⟩) := set_same hM26 o20
 refine Rn (hA h24 hZ) fun e29 h31 => sN (xx ?_)
 clear h23 h24
 obtain rfl := si h
 exact eR (resC (ag := true) (sz := 18) ⟨by kernel_rfl, by kernel_rfl, by kernel_rfl⟩ (ldOA (cs' := (.bool a1.Stock :: (.sl (some 107) (r16.map Notch.c) :: ((arC (cI .i8) 0 a1.Grain) ++ ([] : List AV))))) h31 o28 rfl rfl (ble rfl) rfl) res0) rfl
/-! ### loop.example/g01263/impl.isName (f34) -/
noncomputable def impl_isName (a1 : List UInt8) : Option Bool :=
 (impl_isLetters a1 12).bind fun r5 =>
 some r5
def impl_isName_enc (r : Bool) : AV := .bool r
theorem impl_isName_ok (a1 : List UInt8) (r : Bool) (h : impl_isName a1 = some r) : Ev (fun k => CN k 34 [.str a1] []) (fun p => rRes p.2 p.1 = impl_isName_enc r) := by
 unfold impl_isName at h
 obtain ⟨r5, hx4, h⟩ := bind_some h
 refine Ev.enter (F := fun k => f34 (CN k) k) (fun k => callN_eq rfl Tryd.func34 rfl rfl rfl (by decide +kernel) (f34_eq _ _)) (sq (Rg (kx (mvO rfl) (Rn (hN rfl hZ) fun e1 h3 => sN (sq (Rg (kx (mvO h3) (kc (cl (v := .bool r5) rfl (cns rfl (cns rfl rfl)) rfl (impl_isLetters_ok a1 12 _ hx4) nm) (kx (mvO rfl) (Rn (hN rfl hZ) fun e6 h8 => sN (xx ?_)))))))))))
 clear h3
 obtain rfl := si h
 exact eR (resT h8 res0) rfl
/-! ### loop.example/g01263/impl.ValidHalf (f33) -/
def impl_ValidHalf_c1_Q (a1 : Half) (g : Bool) (q : Out) : Prop := q.1 = .nrm ∧ eget q.2.1 1 = .pt none (.bool a1.Stock :: (.sl none (a1.Notches.map Notch.c) :: ((arC (cI .i8) 0 a1.Grain) ++ ([] : List AV)))) ∧ eget q.2.1 14 = .bool g
def impl_ValidHalf_c3_Q (a1 : Half) (s1_1 : Int) (x58 : Notch) (i903_1 : Nat) (g : Bool) (q : Out) : Prop := q.1 = .nrm ∧ eget q.2.1 1 = .pt none (.bool a1.Stock :: (.sl none (a1.Notches.map Notch.c) :: ((arC (cI .i8) 0 a1.Grain) ++ ([] : List AV)))) ∧ eget q.2.1 3 = .int .i64 s1_1 ∧ eget q.2.1 4 = .loc i903_1 1 0 0 ∧ eget q.2.1 16 = .sl none (a1.Notches.map Notch.c) ∧ eget q.2.1 17 = .int .i64 (a1.Notches.length : Int) ∧ eget q.2.1 18 = .int .i64 s1_1 ∧ eget q.2.1 37 = .bool g ∧ q.2.2[i903_1]? = some (.live ⟨.box, 107, 2, [[.int .i8 x58.Kind, .int .i16 x58.At]]⟩)
abbrev impl_ValidHalf_b1_S := Int
abbrev impl_ValidHalf_b1_R := Unit ⊕ Unit
def impl_ValidHalf_b1_RS (a1 : Half) (s : impl_ValidHalf_b1_S) (e : Env) (M : Mem) : Prop := eget e 1 = .pt none (.bool a1.Stock :: (.sl none (a1.Notches.map Notch.c) :: ((arC (cI .i8) 0 a1.Grain) ++ ([] : List AV)))) ∧ eget e 16 = .sl none (a1.Notches.map Notch.c) ∧ eget e 17 = .int .i64 (a1.Notches.length : Int) ∧ eget e 18 = .int .i64 s
def impl_ValidHalf_b1_RR (a1 : Half) (r : impl_ValidHalf_b1_R) (x : Ex) (e : Env) (M : Mem) : Prop :=
  match r with
  | (.inl g) => x = .ret ∧ eget e 2 = .bool false
  | (.inr g) => x = .ext 0 ∧ True
noncomputable def impl_ValidHalf_b1 (a1 : Half) : impl_ValidHalf_b1_S → Option (impl_ValidHalf_b1_S ⊕ impl_ValidHalf_b1_R) := fun s1_1 =>
 if (decide (s1_1 < (a1.Notches.length : Int))) = true then
  (rd a1.Notches s1_1).bind fun x58 =>
  ((impl_isKind (IntKind.i64.wrap x58.Kind)).bind fun r76 =>
  if r76 = true then
   if (decide (x58.At < 0)) = true then
    some true
   else
    (impl_Notch_end x58).bind fun r89 =>
    some (decide (r89 > 200))
  else
   some true).bind fun y110 =>
  if y110 = true then
   some (.inr (.inl ()))
  else
   if (decide (s1_1 > 0)) = true then
    (rd a1.Notches (IntKind.i64.wrap (s1_1 - 1))).bind fun x124 =>
    (impl_Notch_end x124).bind fun r127 =>
    if (decide ((IntKind.i64.wrap x58.At) ≤ r127)) = true then
     some (.inr (.inl ()))
    else
     (rd a1.Notches (IntKind.i64.wrap (s1_1 - 1))).bind fun x139 =>
     if (decide (x58.Kind > x139.Kind)) = true then
      some (.inr (.inl ()))
     else
      some (.inl (IntKind.i64.wrap (s1_1 + 1)))
   else
    some (.inl (IntKind.i64.wrap (s1_1 + 1)))
 else
  some (.inr (.inr ()))
theorem impl_ValidHalf_b1_ok (a1 : Half) (s : impl_ValidHalf_b1_S) (r : impl_ValidHalf_b1_S ⊕ impl_ValidHalf_b1_R) (h : impl_ValidHalf_b1 a1 s = some r) (e : Env) (M : Mem) (hs : impl_ValidHalf_b1_RS a1 s e M) : Ev (fun k => (f33_l4 (CN k) k (prune [1, 16, 17, 18] e) M).bind fun q => some q) (bQ (impl_ValidHalf_b1_RS a1) (impl_ValidHalf_b1_RR a1) r) := by
 revert h hs
 revert s
 intro s1_1 h hs
 unfold impl_ValidHalf_b1 at h
 obtain ⟨h42, h44, h46, h48⟩ := hs
 generalize he41 : prune [1, 16, 17, 18] e = e40
 have h43 := envp he41.symm rfl h42
 have h45 := envp he41.symm rfl h44
 have h47 := envp he41.symm rfl h46
 have h49 := envp he41.symm rfl h48
 refine sq (Rg (kx (bLss h49 h47) (Rn (hV (.pt none (.bool a1.Stock :: (.sl none (a1.Notches.map Notch.c) :: ((arC (cI .i8) 0 a1.Grain) ++ ([] : List AV))))) h43 (hV (.sl none (a1.Notches.map Notch.c)) h45 (hV (.int .i64 (a1.Notches.length : Int)) h47 (hV (.int .i64 s1_1) h49 (hN rfl hZ))))) fun e50 h52 h53 h54 h55 h56 => sN (sq ?_))))
 clear h43 h45 h47 h49
 rcases ite_some h with ⟨hb57, h⟩ | ⟨hb57, h⟩
 ·obtain ⟨x58, hx59, h⟩ := bind_some h
  refine cT h56 hb57 (xx (sN (sq (bl (sq (Rg (kx (mvO h55) (kx (ixS h53 h55 hx59 Notch.fl) (kx (ldPA rfl rfl rfl) (ku (alO zero107) fun M61 hM62 => ?_))))))))))
  have o63 : M61[M.length]? = some (.live ⟨.box, 107, 2, [[.int .i8 0, .int .i16 0]]⟩) := push_new hM62
  refine kx (mvO rfl) (kw (stO rfl rfl o63 rfl rfl ⟨rfl, ble rfl⟩ rfl rfl) fun M64 hM65 => ?_)
  have o66 : M64[M.length]? = some (.live ⟨.box, 107, 2, [[.int .i8 x58.Kind, .int .i16 x58.At]]⟩) := set_same hM65 o63
  obtain ⟨r172, hr173, h⟩ := bind_some h
  refine Rn (hA h52 (hN rfl (hV (.loc M.length 1 0 0) rfl (hA h53 (hA h54 (hA h55 hZ)))))) fun e67 h69 h70 h71 h72 h73 h74 => sN (sq (sq ?_))
  clear h52 h53 h54 h55 h56
  refine Ev.cut (Q1 := impl_ValidHalf_c3_Q a1 s1_1 x58 M.length r172) (by
      have h := hr173
      obtain ⟨r76, hx75, h⟩ := bind_some h
      refine Rg (kx (faO h71 o66 rfl) (kx (ldO rfl o66 rfl rfl rfl) (kx (cvI rfl) (kc (cl (v := .bool r76) rfl (cns rfl rfl) rfl (impl_isKind_ok (IntKind.i64.wrap x58.Kind) _ hx75) nm) (kx (uNot rfl) (kx (mvO rfl) ?_))))))
      rcases ite_some h with ⟨hb77, h⟩ | ⟨hb77, h⟩
      ·refine kx (guF rfl (congrArg Bool.not hb77) (faO h71 o66 rfl)) (kx (guF rfl (congrArg Bool.not hb77) (ldO rfl o66 rfl rfl rfl)) (kx (guF rfl (congrArg Bool.not hb77) (bLss rfl rfl)) (kx (pkF rfl (congrArg Bool.not hb77) rfl) (kx (mvO rfl) ?_))))
       rcases ite_some h with ⟨hb78, h⟩ | ⟨hb78, h⟩
       ·refine kx (gsF rfl hb78) (kc (Ev.gsF rfl hb78) (kx (gsF rfl hb78) (kx (pkT rfl hb78 rfl) (Rn (hA h69 (hA h70 (hA h71 (hA h72 (hA h73 (hA h74 (hV (.bool true) rfl hZ))))))) fun e79 h81 h82 h83 h84 h85 h86 h87 => ?_))))
        clear h69 h70 h71 h72 h73 h74
        obtain rfl := si h
        exact kd (show impl_ValidHalf_c3_Q a1 s1_1 x58 M.length _ _ from ⟨rfl, h81, h82, h83, h84, h85, h86, h87, o66⟩)
       obtain ⟨r89, hx88, h⟩ := bind_some h
       refine kx (guF rfl hb78 (ldOA h71 o66 rfl rfl (ble rfl) rfl)) (kc (Ev.guF rfl hb78 (cl (v := .int .i64 r89) rfl (cns rfl rfl) rfl (impl_Notch_end_ok x58 _ hx88) nm)) (kx (guF rfl hb78 (bGtr rfl rfl)) (kx (pkF rfl hb78 rfl) (Rn (hA h69 (hA h70 (hA h71 (hA h72 (hA h73 (hA h74 (hN rfl hZ))))))) fun e90 h92 h93 h94 h95 h96 h97 h98 => ?_))))
       clear h69 h70 h71 h72 h73 h74
       obtain rfl := si h
       exact kd (show impl_ValidHalf_c3_Q a1 s1_1 x58 M.length _ _ from ⟨rfl, h92, h93, h94, h95, h96, h97, h98, o66⟩)
      refine kx (gsF rfl (congrArg Bool.not hb77)) (kx (gsF rfl (congrArg Bool.not hb77)) (kx (gsF rfl (congrArg Bool.not hb77)) (kx (pkT rfl (congrArg Bool.not hb77) rfl) (kx (mvO rfl) (kx (gsF rfl rfl) (kc (Ev.gsF rfl rfl) (kx (gsF rfl rfl) (kx (pkT rfl rfl rfl) (Rn (hA h69 (hA h70 (hA h71 (hA h72 (hA h73 (hA h74 (hV (.bool true) rfl hZ))))))) fun e99 h101 h102 h103 h104 h105 h106 h107 => ?_)))))))))
      clear h69 h70 h71 h72 h73 h74
      obtain rfl := si h
      exact kd (show impl_ValidHalf_c3_Q a1 s1_1 x58 M.length _ _ from ⟨rfl, h101, h102, h103, h104, h105, h106, h107, o66⟩)) ?_
  revert h hr173
  revert r172
  intro y110 hr173 h
  intro x e108 M109 hq171
  obtain ⟨rfl, h111, h112, h113, h114, h115, h116, h117, o118⟩ := hq171
  refine sN ?_
  rcases ite_some h with ⟨hb119, h⟩ | ⟨hb119, h⟩
  ·refine cT h117 hb119 (sq (Rg (kx (mvO rfl) (Rn (hV (.bool false) rfl hZ) fun e120 h122 => sN (xx (sR (bR (sR ?_))))))))
   clear h111 h112 h113 h114 h115 h116 h117
   obtain rfl := si h
   exact qR ⟨rfl, h122⟩
  refine cF h117 hb119 (xx (sN (sq (Rd (kf (mvO h112) (kf (bGtr rfl rfl) (kf (mvO rfl) ?_)))))))
  rcases ite_some h with ⟨hb123, h⟩ | ⟨hb123, h⟩
  ·obtain ⟨x124, hx125, h⟩ := bind_some h
   obtain ⟨r127, hx126, h⟩ := bind_some h
   refine kf (guT rfl hb123 (faO h113 o118 rfl)) (kf (guT rfl hb123 (ldO rfl o118 rfl rfl rfl)) (kf (guT rfl hb123 (cvI rfl)) (kf (guT rfl hb123 (faP h111 ⟨ble rfl, blt rfl⟩ rfl)) (kf (guT rfl hb123 (ldP rfl rfl)) (kf (guT rfl hb123 (mvO h112)) (kf (guT rfl hb123 (bSub rfl rfl)) (kf (guT rfl hb123 (ixS rfl rfl hx125 Notch.fl)) (kf (guT rfl hb123 (ldPA rfl rfl rfl)) (fc (Ev.guT rfl hb123 (cl (v := .int .i64 r127) rfl (cns rfl rfl) rfl (impl_Notch_end_ok x124 _ hx126) nm)) (kf (guT rfl hb123 (bLeq rfl rfl)) (kf (guT rfl hb123 (mvO rfl)) ?_)))))))))))
   rcases ite_some h with ⟨hb128, h⟩ | ⟨hb128, h⟩
   ·refine kf (gsF rfl hb128) (kf (gsF rfl hb128) (kf (gsF rfl hb128) (kf (gsF rfl hb128) (kf (gsF rfl hb128) (kf (gsF rfl hb128) (kf (gsF rfl hb128) (kf (gsF rfl hb128) (kf (gsF rfl hb128) (kf (gsF rfl hb128) (kf (guT rfl hb123 (pkT rfl hb128 rfl)) (kf (pkT rfl hb123 rfl) (fZ (Rn (hV (.pt none (.bool a1.Stock :: (.sl none (a1.Notches.map Notch.c) :: ((arC (cI .i8) 0 a1.Grain) ++ ([] : List AV))))) h111 (hV (.sl none (a1.Notches.map Notch.c)) h114 (hV (.int .i64 (a1.Notches.length : Int)) h115 (hV (.int .i64 s1_1) h116 (hV (.bool true) rfl hZ))))) fun e129 h131 h132 h133 h134 h135 => sN (cT h135 rfl (sq (Rg (kx (mvO rfl) (Rn (hV (.bool false) rfl hZ) fun e136 h138 => sN (xx (bR (sR ?_)))))))))))))))))))))
    clear h111 h112 h113 h114 h115 h116 h117 h131 h132 h133 h134 h135
    obtain rfl := si h
    exact qR ⟨rfl, h138⟩
   obtain ⟨x139, hx140, h⟩ := bind_some h
   refine kf (guF rfl hb128 (faO h113 o118 rfl)) (kf (guF rfl hb128 (ldO rfl o118 rfl rfl rfl)) (kf (guF rfl hb128 (faP h111 ⟨ble rfl, blt rfl⟩ rfl)) (kf (guF rfl hb128 (ldP rfl rfl)) (kf (guF rfl hb128 (mvO h112)) (kf (guF rfl hb128 (bSub rfl rfl)) (kf (guF rfl hb128 (ixS rfl rfl hx140 Notch.fl)) (kf (guF rfl hb128 (faP rfl ⟨ble rfl, blt rfl⟩ rfl)) (kf (guF rfl hb128 (ldP rfl rfl)) (kf (guF rfl hb128 (bGtr rfl rfl)) (kf (guT rfl hb123 (pkF rfl hb128 rfl)) (kf (pkT rfl hb123 rfl) (fZ (Rn (hV (.pt none (.bool a1.Stock :: (.sl none (a1.Notches.map Notch.c) :: ((arC (cI .i8) 0 a1.Grain) ++ ([] : List AV))))) h111 (hV (.sl none (a1.Notches.map Notch.c)) h114 (hV (.int .i64 (a1.Notches.length : Int)) h115 (hV (.int .i64 s1_1) h116 (hN rfl hZ))))) fun e141 h143 h144 h145 h146 h147 => sN ?_)))))))))))))
   clear h111 h112 h113 h114 h115 h116 h117
   rcases ite_some h with ⟨hb148, h⟩ | ⟨hb148, h⟩
   ·refine cT h147 hb148 (sq (Rg (kx (mvO rfl) (Rn (hV (.bool false) rfl hZ) fun e149 h151 => sN (xx (bR (sR ?_)))))))
    clear h143 h144 h145 h146 h147
    obtain rfl := si h
    exact qR ⟨rfl, h151⟩
   refine cF h147 hb148 (xx (bN (sN (Rg (kx (bAdd h146 rfl) (kx (mvO rfl) (Rn (hA h143 (hA h144 (hA h145 (hN rfl hZ)))) fun e152 h154 h155 h156 h157 => ?_)))))))
   clear h143 h144 h145 h147
   obtain rfl := si h
   exact qN ⟨h154, h155, h156, h157⟩
  refine kf (gsT rfl hb123) (kf (gsT rfl hb123) (kf (gsT rfl hb123) (kf (gsT rfl hb123) (kf (gsT rfl hb123) (kf (gsT rfl hb123) (kf (gsT rfl hb123) (kf (gsT rfl hb123) (kf (gsT rfl hb123) (fc (Ev.gsT rfl hb123) (kf (gsT rfl hb123) (kf (gsT rfl hb123) (kf (gsU rfl) (kf (gsU rfl) (kf (gsU rfl) (kf (gsU rfl) (kf (gsU rfl) (kf (gsU rfl) (kf (gsU rfl) (kf (gsU rfl) (kf (gsU rfl) (kf (gsU rfl) (kf (gsT rfl hb123) (kf (pkF rfl hb123 rfl) (fZ (Rn (hV (.pt none (.bool a1.Stock :: (.sl none (a1.Notches.map Notch.c) :: ((arC (cI .i8) 0 a1.Grain) ++ ([] : List AV))))) h111 (hV (.sl none (a1.Notches.map Notch.c)) h114 (hV (.int .i64 (a1.Notches.length : Int)) h115 (hV (.int .i64 s1_1) h116 (hV (.bool false) rfl hZ))))) fun e158 h160 h161 h162 h163 h164 => sN (cF h164 rfl (xx (bN (sN (Rg (kx (bAdd h163 rfl) (kx (mvO rfl) (Rn (hA h160 (hA h161 (hA h162 (hN rfl hZ)))) fun e165 h167 h168 h169 h170 => ?_)))))))))))))))))))))))))))))))))
  clear h111 h112 h113 h114 h115 h116 h117 h160 h161 h162 h164
  obtain rfl := si h
  exact qN ⟨h167, h168, h169, h170⟩
 refine cF h56 hb57 (xx (sE ?_))
 obtain rfl := si h
 exact qE ⟨rfl, trivial⟩
noncomputable def impl_ValidHalf (a1 : Half) : Option Bool :=
 (if (decide ((a1.Notches.length : Int) > 60)) = true then
  some true
 else
  (impl_ValidGrain a1.Grain).bind fun r10 =>
  some (!r10)).bind fun y17 =>
 if y17 = true then
  some false
 else
  (Lw (impl_ValidHalf_b1 a1) 0).bind fun r => match r with
  | (.inl _) =>
   some false
  | (.inr _) =>
   some true
def impl_ValidHalf_enc (r : Bool) : AV := .bool r
theorem impl_ValidHalf_ok (a1 : Half) (r : Bool) (h : impl_ValidHalf a1 = some r) : Ev (fun k => CN k 33 [.agg (.bool a1.Stock :: (.sl none (a1.Notches.map Notch.c) :: ((arC (cI .i8) 0 a1.Grain) ++ ([] : List AV))))] []) (fun p => rRes p.2 p.1 = impl_ValidHalf_enc r) := by
 unfold impl_ValidHalf at h
 obtain ⟨r186, hr187, h⟩ := bind_some h
 refine Ev.enter (F := fun k => f33 (CN k) k) (fun k => callN_eq rfl Tryd.func33 rfl rfl rfl (by decide +kernel) (f33_eq _ _)) (sq (Rg (kx (bxI rfl rfl ⟨rfl, rfl, by decide⟩) (kx (mvO rfl) (Rn (hN rfl hZ) fun e1 h3 => sN (sq (sq ?_)))))))
 refine Ev.cut (Q1 := impl_ValidHalf_c1_Q a1 r186) (by
     have h := hr187
     refine Rg (kx (faP h3 ⟨ble rfl, blt rfl⟩ rfl) (kx (ldP rfl rfl) (kx (lnS Tryd.underlying26 rfl) (kx (bGtr rfl rfl) (kx (mvO rfl) ?_)))))
     rcases ite_some h with ⟨hb4, h⟩ | ⟨hb4, h⟩
     ·refine kx (gsF rfl hb4) (kx (gsF rfl hb4) (kc (Ev.gsF rfl hb4) (kx (gsF rfl hb4) (kx (pkT rfl hb4 rfl) (Rn (hA h3 (hV (.bool true) rfl hZ)) fun e5 h7 h8 => ?_)))))
      clear h3
      obtain rfl := si h
      exact kd (show impl_ValidHalf_c1_Q a1 _ _ from ⟨rfl, h7, h8⟩)
     obtain ⟨r10, hx9, h⟩ := bind_some h
     refine kx (guF rfl hb4 (faP h3 ⟨ble rfl, blt rfl⟩ rfl)) (kx (guF rfl hb4 (ldPA rfl rfl rfl)) (kc (Ev.guF rfl hb4 (cl (v := .bool r10) rfl (cns rfl rfl) rfl (impl_ValidGrain_ok a1.Grain _ hx9) nm)) (kx (guF rfl hb4 (uNot rfl)) (kx (pkF rfl hb4 rfl) (Rn (hA h3 (hN rfl hZ)) fun e11 h13 h14 => ?_)))))
     clear h3
     obtain rfl := si h
     exact kd (show impl_ValidHalf_c1_Q a1 _ _ from ⟨rfl, h13, h14⟩)) ?_
 revert h hr187
 revert r186
 intro y17 hr187 h
 intro x e15 M16 hq185
 obtain ⟨rfl, h18, h19⟩ := hq185
 refine sN ?_
 rcases ite_some h with ⟨hb20, h⟩ | ⟨hb20, h⟩
 ·refine cT h19 hb20 (sq (Rg (kx (mvO rfl) (Rn (hV (.bool false) rfl hZ) fun e21 h23 => sN (xx (sR ?_))))))
  clear h18 h19
  obtain rfl := si h
  exact eR (resT h23 res0) rfl
 obtain ⟨r174, hr175, h⟩ := bind_some h
 refine cF h19 hb20 (xx (sN (sq (sq (Rg (kx (faP h18 ⟨ble rfl, blt rfl⟩ rfl) (kx (ldP rfl rfl) (kx (lnS Tryd.underlying26 rfl) (kx (mvO rfl) (Rn (hV (.pt none (.bool a1.Stock :: (.sl none (a1.Notches.map Notch.c) :: ((arC (cI .i8) 0 a1.Grain) ++ ([] : List AV))))) h18 (hN rfl (hN rfl (hV (.int .i64 0) rfl hZ)))) fun e24 h26 h27 h28 h29 => sN (bl ?_)))))))))))
 clear h18 h19
 rcases r174 with _ | _
 ·refine Ev.loop (RS := impl_ValidHalf_b1_RS a1) (RR := impl_ValidHalf_b1_RR a1) (fun s r h e M hs => impl_ValidHalf_b1_ok a1 s r h e M hs) hr175 ⟨h26, h27, h28, h29⟩ fun x e177 M178 hq176 => ?_
  obtain ⟨rfl, h179⟩ := hq176
  refine bR (sR ?_)
  obtain rfl := si h
  exact eR (resT h179 res0) rfl
 refine Ev.loop (RS := impl_ValidHalf_b1_RS a1) (RR := impl_ValidHalf_b1_RR a1) (fun s r h e M hs => impl_ValidHalf_b1_ok a1 s r h e M hs) hr175 ⟨h26, h27, h28, h29⟩ fun x e180 M181 hq176 => ?_
 obtain ⟨rfl, _⟩ := hq176
 refine bE (sN (sq (Rg (kx (mvO rfl) (Rn (hV (.bool true) rfl hZ) fun e182 h184 => sN (xx ?_))))))
 obtain rfl := si h
 exact eR (resT h184 res0) rfl
/-! ### loop.example/g01263/impl.ValidChain (f28) -/
def impl_ValidChain_c1_Q (a1 : Chain) (g : Bool) (q : Out) : Prop := q.1 = .nrm ∧ eget q.2.1 1 = .pt none (.str a1.Debtor :: (.bool a1.Stock.Stock :: (.sl none (a1.Stock.Notches.map Notch.c) :: ((arC (cI .i8) 0 a1.Stock.Grain) ++ ((.sl none (a1.Marks.map Mark.c) :: []) : List AV))))) ∧ eget q.2.1 33 = .bool g
abbrev impl_ValidChain_b1_S := (List UInt8) × Int
abbrev impl_ValidChain_b1_R := Unit ⊕ Unit
def impl_ValidChain_b1_RS (a1 : Chain) (s : impl_ValidChain_b1_S) (e : Env) (M : Mem) : Prop := eget e 3 = .str s.1 ∧ eget e 37 = .sl none (a1.Marks.map Mark.c) ∧ eget e 38 = .int .i64 (a1.Marks.length : Int) ∧ eget e 39 = .int .i64 s.2
def impl_ValidChain_b1_RR (a1 : Chain) (r : impl_ValidChain_b1_R) (x : Ex) (e : Env) (M : Mem) : Prop :=
  match r with
  | (.inl g) => x = .ret ∧ eget e 2 = .bool false
  | (.inr g) => x = .ext 0 ∧ True
noncomputable def impl_ValidChain_b1 (a1 : Chain) : impl_ValidChain_b1_S → Option (impl_ValidChain_b1_S ⊕ impl_ValidChain_b1_R) := fun (s1_1, s1_2) =>
 if (decide (s1_2 < (a1.Marks.length : Int))) = true then
  (rd a1.Marks s1_2).bind fun x79 =>
  (impl_isName x79.Holder).bind fun r96 =>
  if r96 = true then
   if (x79.Holder == s1_1) = true then
    some (.inr (.inl ()))
   else
    some (.inl (x79.Holder, (IntKind.i64.wrap (s1_2 + 1))))
  else
   some (.inr (.inl ()))
 else
  some (.inr (.inr ()))
theorem impl_ValidChain_b1_ok (a1 : Chain) (s : impl_ValidChain_b1_S) (r : impl_ValidChain_b1_S ⊕ impl_ValidChain_b1_R) (h : impl_ValidChain_b1 a1 s = some r) (e : Env) (M : Mem) (hs : impl_ValidChain_b1_RS a1 s e M) : Ev (fun k => (f28_l5 (CN k) k (prune [3, 37, 38, 39] e) M).bind fun q => some q) (bQ (impl_ValidChain_b1_RS a1) (impl_ValidChain_b1_RR a1) r) := by
 obtain ⟨s1_1, s1_2⟩ := s
 unfold impl_ValidChain_b1 at h
 obtain ⟨h63, h65, h67, h69⟩ := hs
 generalize he62 : prune [3, 37, 38, 39] e = e61
 have h64 := envp he62.symm rfl h63
 have h66 := envp he62.symm rfl h65
 have h68 := envp he62.symm rfl h67
 have h70 := envp he62.symm rfl h69
 refine sq (Rg (kx (bLss h70 h68) (Rn (hV (.str s1_1) h64 (hV (.sl none (a1.Marks.map Mark.c)) h66 (hV (.int .i64 (a1.Marks.length : Int)) h68 (hV (.int .i64 s1_2) h70 (hN rfl hZ))))) fun e71 h73 h74 h75 h76 h77 => sN (sq ?_))))
 clear h64 h66 h68 h70
 rcases ite_some h with ⟨hb78, h⟩ | ⟨hb78, h⟩
 ·obtain ⟨x79, hx80, h⟩ := bind_some h
  refine cT h77 hb78 (xx (sN (sq (bl (sq (Rg (kx (ixS h74 h76 hx80 Mark.fl) (kx (ldPA rfl rfl rfl) (ku (alO zero39) fun M82 hM83 => ?_)))))))))
  have o84 : M82[M.length]? = some (.live ⟨.box, 39, 2, [[.str ([] : List UInt8), .int .u32 0]]⟩) := push_new hM83
  refine kw (stO rfl rfl o84 rfl rfl ⟨rfl, ble rfl⟩ rfl rfl) fun M85 hM86 => ?_
  have o87 : M85[M.length]? = some (.live ⟨.box, 39, 2, [[.str x79.Holder, .int .u32 x79.Seal]]⟩) := set_same hM86 o84
  obtain ⟨r96, hx95, h⟩ := bind_some h
  refine Rn (hA h73 (hV (.loc M.length 1 0 0) rfl (hA h74 (hA h75 (hA h76 hZ))))) fun e88 h90 h91 h92 h93 h94 => sN (sq (sq (Rg (kx (faO h91 o87 rfl) (kx (ldO rfl o87 rfl rfl rfl) (kc (cl (v := .bool r96) rfl (cns rfl rfl) rfl (impl_isName_ok x79.Holder _ hx95) nm) (kx (uNot rfl) (kx (mvO rfl) ?_))))))))
  clear h73 h74 h75 h76 h77
  rcases ite_some h with ⟨hb97, h⟩ | ⟨hb97, h⟩
  ·refine kx (guF rfl (congrArg Bool.not hb97) (faO h91 o87 rfl)) (kx (guF rfl (congrArg Bool.not hb97) (ldO rfl o87 rfl rfl rfl)) (kx (guF rfl (congrArg Bool.not hb97) (mvO h90)) (kx (guF rfl (congrArg Bool.not hb97) (sEql rfl rfl)) (kx (pkF rfl (congrArg Bool.not hb97) rfl) (Rn (hA h91 (hA h92 (hA h93 (hA h94 (hN rfl hZ))))) fun e98 h100 h101 h102 h103 h104 => sN ?_)))))
   clear h90 h91 h92 h93 h94
   rcases ite_some h with ⟨hb105, h⟩ | ⟨hb105, h⟩
   ·refine cT h104 hb105 (sq (Rg (kx (mvO rfl) (Rn (hV (.bool false) rfl hZ) fun e106 h108 => sN (xx (sR (bR (sR ?_))))))))
    clear h100 h101 h102 h103 h104
    obtain rfl := si h
    exact qR ⟨rfl, h108⟩
   refine cF h104 hb105 (xx (sN (Rg (kx (faO h100 o87 rfl) (kx (ldO rfl o87 rfl rfl rfl) (kx (mvO rfl) (Rn (hN rfl (hA h101 (hA h102 (hA h103 hZ)))) fun e109 h111 h112 h113 h114 => bN (sN (Rg (kx (bAdd h114 rfl) (kx (mvO rfl) (Rn (hA h111 (hA h112 (hA h113 (hN rfl hZ)))) fun e115 h117 h118 h119 h120 => ?_))))))))))))
   clear h100 h101 h102 h103 h104 h111 h112 h113
   obtain rfl := si h
   exact qN ⟨h117, h118, h119, h120⟩
  refine kx (gsF rfl (congrArg Bool.not hb97)) (kx (gsF rfl (congrArg Bool.not hb97)) (kx (gsF rfl (congrArg Bool.not hb97)) (kx (gsF rfl (congrArg Bool.not hb97)) (kx (pkT rfl (congrArg Bool.not hb97) rfl) (Rn (hA h91 (hA h92 (hA h93 (hA h94 (hV (.bool true) rfl hZ))))) fun e121 h123 h124 h125 h126 h127 => sN (cT h127 rfl (sq (Rg (kx (mvO rfl) (Rn (hV (.bool false) rfl hZ) fun e128 h130 => sN (xx (sR (bR (sR ?_))))))))))))))
  clear h90 h91 h92 h93 h94 h123 h124 h125 h126 h127
  obtain rfl := si h
  exact qR ⟨rfl, h130⟩
 refine cF h77 hb78 (xx (sE ?_))
 obtain rfl := si h
 exact qE ⟨rfl, trivial⟩
noncomputable def impl_ValidChain (a1 : Chain) : Option Bool :=
 ((impl_isName a1.Debtor).bind fun r5 =>
 if r5 = true then
  (impl_ValidHalf a1.Stock).bind fun r8 =>
  if r8 = true then
   if a1.Stock.Stock = true then
    if (decide ((a1.Marks.length : Int) < 1)) = true then
     some true
    else
     some (decide ((a1.Marks.length : Int) > 30))
   else
    some true
  else
   some true
 else
  some true).bind fun y34 =>
 if y34 = true then
  some false
 else
  (Lw (impl_ValidChain_b1 a1) (a1.Debtor, 0)).bind fun r => match r with
  | (.inl _) =>
   some false
  | (.inr _) =>
   some true
def impl_ValidChain_enc (r : Bool) : AV := .bool r
theorem impl_ValidChain_ok (a1 : Chain) (r : Bool) (h : impl_ValidChain a1 = some r) : Ev (fun k => CN k 28 [.agg (.str a1.Debtor :: (.bool a1.Stock.Stock :: (.sl none (a1.Stock.Notches.map Notch.c) :: ((arC (cI .i8) 0 a1.Stock.Grain) ++ ((.sl none (a1.Marks.map Mark.c) :: []) : List AV)))))] []) (fun p => rRes p.2 p.1 = impl_ValidChain_enc r) := by
 unfold impl_ValidChain at h
 obtain ⟨r143, hr144, h⟩ := bind_some h
 refine Ev.enter (F := fun k => f28 (CN k) k) (fun k => callN_eq rfl Tryd.func28 rfl rfl rfl (by decide +kernel) (f28_eq _ _)) (sq (Rg (kx (bxI rfl rfl ⟨rfl, rfl, by decide⟩) (kx (mvO rfl) (Rn (hN rfl hZ) fun e1 h3 => sN (sq (sq ?_)))))))
 refine Ev.cut (Q1 := impl_ValidChain_c1_Q a1 r143) (by
     have h := hr144
     obtain ⟨r5, hx4, h⟩ := bind_some h
     refine Rg (kx (faP h3 ⟨ble rfl, blt rfl⟩ rfl) (kx (ldP rfl rfl) (kc (cl (v := .bool r5) rfl (cns rfl rfl) rfl (impl_isName_ok a1.Debtor _ hx4) nm) (kx (uNot rfl) (kx (mvO rfl) ?_)))))
     rcases ite_some h with ⟨hb6, h⟩ | ⟨hb6, h⟩
     ·obtain ⟨r8, hx7, h⟩ := bind_some h
      refine kx (guF rfl (congrArg Bool.not hb6) (faP h3 ⟨ble rfl, blt rfl⟩ rfl)) (kx (guF rfl (congrArg Bool.not hb6) (ldPA rfl rfl rfl)) (kc (Ev.guF rfl (congrArg Bool.not hb6) (cl (v := .bool r8) rfl (cns rfl rfl) rfl (impl_ValidHalf_ok a1.Stock _ hx7) nm)) (kx (guF rfl (congrArg Bool.not hb6) (uNot rfl)) (kx (pkF rfl (congrArg Bool.not hb6) rfl) (kx (mvO rfl) ?_)))))
      rcases ite_some h with ⟨hb9, h⟩ | ⟨hb9, h⟩
      ·refine kx (guF rfl (congrArg Bool.not hb9) (faP h3 ⟨ble rfl, blt rfl⟩ rfl)) (kx (guF rfl (congrArg Bool.not hb9) (faP rfl ⟨ble rfl, blt rfl⟩ rfl)) (kx (guF rfl (congrArg Bool.not hb9) (ldP rfl rfl)) (kx (guF rfl (congrArg Bool.not hb9) (uNot rfl)) (kx (pkF rfl (congrArg Bool.not hb9) rfl) (kx (mvO rfl) ?_)))))
       rcases ite_some h with ⟨hb10, h⟩ | ⟨hb10, h⟩
       ·refine kx (guF rfl (congrArg Bool.not hb10) (faP h3 ⟨ble rfl, blt rfl⟩ rfl)) (kx (guF rfl (congrArg Bool.not hb10) (ldP rfl rfl)) (kx (guF rfl (congrArg Bool.not hb10) (lnS Tryd.underlying32 rfl)) (kx (guF rfl (congrArg Bool.not hb10) (bLss rfl rfl)) (kx (pkF rfl (congrArg Bool.not hb10) rfl) (kx (mvO rfl) ?_)))))
        rcases ite_some h with ⟨hb11, h⟩ | ⟨hb11, h⟩
        ·refine kx (gsF rfl hb11) (kx (gsF rfl hb11) (kx (gsF rfl hb11) (kx (gsF rfl hb11) (kx (pkT rfl hb11 rfl) (Rn (hA h3 (hV (.bool true) rfl hZ)) fun e12 h14 h15 => ?_)))))
         clear h3
         obtain rfl := si h
         exact kd (show impl_ValidChain_c1_Q a1 _ _ from ⟨rfl, h14, h15⟩)
        refine kx (guF rfl hb11 (faP h3 ⟨ble rfl, blt rfl⟩ rfl)) (kx (guF rfl hb11 (ldP rfl rfl)) (kx (guF rfl hb11 (lnS Tryd.underlying32 rfl)) (kx (guF rfl hb11 (bGtr rfl rfl)) (kx (pkF rfl hb11 rfl) (Rn (hA h3 (hN rfl hZ)) fun e16 h18 h19 => ?_)))))
        clear h3
        obtain rfl := si h
        exact kd (show impl_ValidChain_c1_Q a1 _ _ from ⟨rfl, h18, h19⟩)
       refine kx (gsF rfl (congrArg Bool.not hb10)) (kx (gsF rfl (congrArg Bool.not hb10)) (kx (gsF rfl (congrArg Bool.not hb10)) (kx (gsF rfl (congrArg Bool.not hb10)) (kx (pkT rfl (congrArg Bool.not hb10) rfl) (kx (mvO rfl) (kx (gsF rfl rfl) (kx (gsF rfl rfl) (kx (gsF rfl rfl) (kx (gsF rfl rfl) (kx (pkT rfl rfl rfl) (Rn (hA h3 (hV (.bool true) rfl hZ)) fun e20 h22 h23 => ?_)))))))))))
       clear h3
       obtain rfl := si h
       exact kd (show impl_ValidChain_c1_Q a1 _ _ from ⟨rfl, h22, h23⟩)
      refine kx (gsF rfl (congrArg Bool.not hb9)) (kx (gsF rfl (congrArg Bool.not hb9)) (kx (gsF rfl (congrArg Bool.not hb9)) (kx (gsF rfl (congrArg Bool.not hb9)) (kx (pkT rfl (congrArg Bool.not hb9) rfl) (kx (mvO rfl) (kx (gsF rfl rfl) (kx (gsF rfl rfl) (kx (gsF rfl rfl) (kx (gsF rfl rfl) (kx (pkT rfl rfl rfl) (kx (mvO rfl) (kx (gsF rfl rfl) (kx (gsF rfl rfl) (kx (gsF rfl rfl) (kx (gsF rfl rfl) (kx (pkT rfl rfl rfl) (Rn (hA h3 (hV (.bool true) rfl hZ)) fun e24 h26 h27 => ?_)))))))))))))))))
      clear h3
      obtain rfl := si h
      exact kd (show impl_ValidChain_c1_Q a1 _ _ from ⟨rfl, h26, h27⟩)
     refine kx (gsF rfl (congrArg Bool.not hb6)) (kx (gsF rfl (congrArg Bool.not hb6)) (kc (Ev.gsF rfl (congrArg Bool.not hb6)) (kx (gsF rfl (congrArg Bool.not hb6)) (kx (pkT rfl (congrArg Bool.not hb6) rfl) (kx (mvO rfl) (kx (gsF rfl rfl) (kx (gsF rfl rfl) (kx (gsF rfl rfl) (kx (gsF rfl rfl) (kx (pkT rfl rfl rfl) (kx (mvO rfl) (kx (gsF rfl rfl) (kx (gsF rfl rfl) (kx (gsF rfl rfl) (kx (gsF rfl rfl) (kx (pkT rfl rfl rfl) (kx (mvO rfl) (kx (gsF rfl rfl) (kx (gsF rfl rfl) (kx (gsF rfl rfl) (kx (gsF rfl rfl) (kx (pkT rfl rfl rfl) (Rn (hA h3 (hV (.bool true) rfl hZ)) fun e28 h30 h31 => ?_)))))))))))))))))))))))
     clear h3
     obtain rfl := si h
     exact kd (show impl_ValidChain_c1_Q a1 _ _ from ⟨rfl, h30, h31⟩)) ?_
 revert h hr144
 revert r143
 intro y34 hr144 h
 intro x e32 M33 hq142
 obtain ⟨rfl, h35, h36⟩ := hq142
 refine sN ?_
 rcases ite_some h with ⟨hb37, h⟩ | ⟨hb37, h⟩
 ·refine cT h36 hb37 (sq (Rg (kx (mvO rfl) (Rn (hV (.bool false) rfl hZ) fun e38 h40 => sN (xx (sR ?_))))))
  clear h35 h36
  obtain rfl := si h
  exact eR (resT h40 res0) rfl
 obtain ⟨r131, hr132, h⟩ := bind_some h
 refine cF h36 hb37 (xx (sN (sq (Rg (kx (faP h35 ⟨ble rfl, blt rfl⟩ rfl) (kx (ldP rfl rfl) (kx (mvO rfl) (Rn (hV (.pt none (.str a1.Debtor :: (.bool a1.Stock.Stock :: (.sl none (a1.Stock.Notches.map Notch.c) :: ((arC (cI .i8) 0 a1.Stock.Grain) ++ ((.sl none (a1.Marks.map Mark.c) :: []) : List AV)))))) h35 (hN rfl hZ)) fun e41 h43 h44 => sN (sq (sq (Rg (kx (faP h43 ⟨ble rfl, blt rfl⟩ rfl) (kx (ldP rfl rfl) (kx (lnS Tryd.underlying32 rfl) (kx (mvO rfl) (Rn (hA h44 (hN rfl (hN rfl (hV (.int .i64 0) rfl hZ)))) fun e45 h47 h48 h49 h50 => sN (bl ?_)))))))))))))))))
 clear h35 h36 h43 h44
 rcases r131 with _ | _
 ·refine Ev.loop (RS := impl_ValidChain_b1_RS a1) (RR := impl_ValidChain_b1_RR a1) (fun s r h e M hs => impl_ValidChain_b1_ok a1 s r h e M hs) hr132 ⟨h47, h48, h49, h50⟩ fun x e134 M135 hq133 => ?_
  obtain ⟨rfl, h136⟩ := hq133
  refine bR (sR ?_)
  obtain rfl := si h
  exact eR (resT h136 res0) rfl
 refine Ev.loop (RS := impl_ValidChain_b1_RS a1) (RR := impl_ValidChain_b1_RR a1) (fun s r h e M hs => impl_ValidChain_b1_ok a1 s r h e M hs) hr132 ⟨h47, h48, h49, h50⟩ fun x e137 M138 hq133 => ?_
 obtain ⟨rfl, _⟩ := hq133
 refine bE (sN (sq (Rg (kx (mvO rfl) (Rn (hV (.bool true) rfl hZ) fun e139 h141 => sN (xx ?_))))))
 obtain rfl := si h
 exact eR (resT h141 res0) rfl
/-! ### loop.example/g01263/laws.heldChain (f23) -/
noncomputable def laws_heldChain (a1 : Chain) (a2 : Int) : Option Int :=
 (laws_heldHalf a1.Stock a2).bind fun r6 =>
 if (decide (r6 < 0)) = true then
  some (-1)
 else
  (laws_heldMarkS a1.Marks r6).bind fun r21 =>
  if (decide (r21 < 0)) = true then
   some (-1)
  else
   some r21
def laws_heldChain_enc (r : Int) : AV := .int .i64 r
theorem laws_heldChain_ok (a1 : Chain) (a2 : Int) (r : Int) (h : laws_heldChain a1 a2 = some r) : Ev (fun k => CN k 23 [.agg (.str a1.Debtor :: (.bool a1.Stock.Stock :: (.sl none (a1.Stock.Notches.map Notch.c) :: ((arC (cI .i8) 0 a1.Stock.Grain) ++ ((.sl none (a1.Marks.map Mark.c) :: []) : List AV))))), .int .i64 a2] []) (fun p => rRes p.2 p.1 = laws_heldChain_enc r) := by
 unfold laws_heldChain at h
 obtain ⟨r6, hx5, h⟩ := bind_some h
 refine Ev.enter (F := fun k => f23 (CN k) k) (fun k => callN_eq rfl Tryd.func23 rfl rfl rfl (by decide +kernel) (f23_eq _ _)) (sq (Rg (kx (bxI rfl rfl ⟨rfl, rfl, by decide⟩) (kx (mvO rfl) (Rn (hN rfl (hN rfl hZ)) fun e1 h3 h4 => sN (sq (Rg (kx (faP h4 ⟨ble rfl, blt rfl⟩ rfl) (kx (ldPA rfl rfl rfl) (kx (mvO h3) (kc (cl (v := .int .i64 r6) rfl (cns rfl (cns rfl rfl)) rfl (laws_heldHalf_ok a1.Stock a2 _ hx5) nm) (kx (mvO rfl) (Rn (hN rfl (hA h4 hZ)) fun e7 h9 h10 => sN (sq (sq (Rg (kx (mvO h9) (kx (bLss rfl rfl) (Rn (hA h9 (hA h10 (hN rfl hZ))) fun e11 h13 h14 h15 => sN ?_)))))))))))))))))))
 clear h4 h10 h9
 rcases ite_some h with ⟨hb16, h⟩ | ⟨hb16, h⟩
 ·refine cT h15 hb16 (sq (Rg (kx (mvO rfl) (Rn (hV (.int .i64 (-1)) rfl hZ) fun e17 h19 => sN (xx (sR ?_))))))
  clear h13 h14 h15
  obtain rfl := si h
  exact eR (resT h19 res0) rfl
 obtain ⟨r21, hx20, h⟩ := bind_some h
 refine cF h15 hb16 (xx (sN (sq (Rg (kx (faP h14 ⟨ble rfl, blt rfl⟩ rfl) (kx (ldP rfl rfl) (kx (mvO h13) (kc (cl (v := .int .i64 r21) rfl (cns rfl (cns rfl rfl)) rfl (laws_heldMarkS_ok a1.Marks r6 _ hx20) nm) (kx (mvO rfl) (Rn (hN rfl hZ) fun e22 h24 => sN (sq (sq (Rg (kx (mvO h24) (kx (bLss rfl rfl) (Rn (hA h24 (hN rfl hZ)) fun e25 h27 h28 => sN ?_))))))))))))))))
 clear h14 h15 h24
 rcases ite_some h with ⟨hb29, h⟩ | ⟨hb29, h⟩
 ·refine cT h28 hb29 (sq (Rg (kx (mvO rfl) (Rn (hV (.int .i64 (-1)) rfl hZ) fun e30 h32 => sN (xx (sR ?_))))))
  clear h27 h28
  obtain rfl := si h
  exact eR (resT h32 res0) rfl
 refine cF h28 hb29 (xx (sN (sq (Rg (kx (mvO h27) (kx (mvO rfl) (Rn (hN rfl hZ) fun e33 h35 => sN (xx ?_))))))))
 clear h27 h28
 obtain rfl := si h
 exact eR (resT h35 res0) rfl
/-! ### loop.example/g01263/laws.eqChain (f21) -/
noncomputable def laws_eqChain (a1 : Chain) (a2 : Chain) : Option Bool :=
 if (a1.Debtor == a2.Debtor) = true then
  (laws_eqHalf a1.Stock a2.Stock).bind fun r12 =>
  if r12 = true then
   (laws_eqMarkS a1.Marks a2.Marks).bind fun r20 =>
   if r20 = true then
    some true
   else
    some false
  else
   some false
 else
  some false
def laws_eqChain_enc (r : Bool) : AV := .bool r
theorem laws_eqChain_ok (a1 : Chain) (a2 : Chain) (r : Bool) (h : laws_eqChain a1 a2 = some r) : Ev (fun k => CN k 21 [.agg (.str a1.Debtor :: (.bool a1.Stock.Stock :: (.sl none (a1.Stock.Notches.map Notch.c) :: ((arC (cI .i8) 0 a1.Stock.Grain) ++ ((.sl none (a1.Marks.map Mark.c) :: []) : List AV))))), .agg (.str a2.Debtor :: (.bool a2.Stock.Stock :: (.sl none (a2.Stock.Notches.map Notch.c) :: ((arC (cI .i8) 0 a2.Stock.Grain) ++ ((.sl none (a2.Marks.map Mark.c) :: []) : List AV)))))] []) (fun p => rRes p.2 p.1 = laws_eqChain_enc r) := by
 unfold laws_eqChain at h
 refine Ev.enter (F := fun k => f21 (CN k) k) (fun k => callN_eq rfl Tryd.func21 rfl rfl rfl (by decide +kernel) (f21_eq _ _)) (sq (Rg (kx (bxI rfl rfl ⟨rfl, rfl, by decide⟩) (kx (bxI rfl rfl ⟨rfl, rfl, by decide⟩) (kx (mvO rfl) (Rn (hN rfl (hN rfl hZ)) fun e1 h3 h4 => sN (sq (sq (Rg (kx (faP h3 ⟨ble rfl, blt rfl⟩ rfl) (kx (ldP rfl rfl) (kx (faP h4 ⟨ble rfl, blt rfl⟩ rfl) (kx (ldP rfl rfl) (kx (sNeq rfl rfl) (Rn (hA h3 (hA h4 (hN rfl hZ))) fun e5 h7 h8 h9 => sN ?_)))))))))))))))
 clear h3 h4
 rcases ite_some h with ⟨hb10, h⟩ | ⟨hb10, h⟩
 ·obtain ⟨r12, hx11, h⟩ := bind_some h
  refine cF h9 (congrArg Bool.not hb10) (xx (sN (sq (sq (Rg (kx (faP h7 ⟨ble rfl, blt rfl⟩ rfl) (kx (ldPA rfl rfl rfl) (kx (faP h8 ⟨ble rfl, blt rfl⟩ rfl) (kx (ldPA rfl rfl rfl) (kc (cl (v := .bool r12) rfl (cns rfl (cns rfl rfl)) rfl (laws_eqHalf_ok a1.Stock a2.Stock _ hx11) nm) (kx (uNot rfl) (Rn (hA h7 (hA h8 (hN rfl hZ))) fun e13 h15 h16 h17 => sN ?_))))))))))))
  clear h7 h8 h9
  rcases ite_some h with ⟨hb18, h⟩ | ⟨hb18, h⟩
  ·obtain ⟨r20, hx19, h⟩ := bind_some h
   refine cF h17 (congrArg Bool.not hb18) (xx (sN (sq (sq (Rg (kx (faP h15 ⟨ble rfl, blt rfl⟩ rfl) (kx (ldP rfl rfl) (kx (faP h16 ⟨ble rfl, blt rfl⟩ rfl) (kx (ldP rfl rfl) (kc (cl (v := .bool r20) rfl (cns rfl (cns rfl rfl)) rfl (laws_eqMarkS_ok a1.Marks a2.Marks _ hx19) nm) (kx (uNot rfl) (Rn (hN rfl hZ) fun e21 h23 => sN ?_))))))))))))
   clear h15 h16 h17
   rcases ite_some h with ⟨hb24, h⟩ | ⟨hb24, h⟩
   ·refine cF h23 (congrArg Bool.not hb24) (xx (sN (sq (Rg (kx (mvO rfl) (Rn (hV (.bool true) rfl hZ) fun e25 h27 => sN (xx ?_)))))))
    clear h23
    obtain rfl := si h
    exact eR (resT h27 res0) rfl
   refine cT h23 (congrArg Bool.not hb24) (sq (Rg (kx (mvO rfl) (Rn (hV (.bool false) rfl hZ) fun e28 h30 => sN (xx (sR ?_))))))
   clear h23
   obtain rfl := si h
   exact eR (resT h30 res0) rfl
  refine cT h17 (congrArg Bool.not hb18) (sq (Rg (kx (mvO rfl) (Rn (hV (.bool false) rfl hZ) fun e31 h33 => sN (xx (sR ?_))))))
  clear h15 h16 h17
  obtain rfl := si h
  exact eR (resT h33 res0) rfl
 refine cT h9 (congrArg Bool.not hb10) (sq (Rg (kx (mvO rfl) (Rn (hV (.bool false) rfl hZ) fun e34 h36 => sN (xx (sR ?_))))))
 clear h7 h8 h9
 obtain rfl := si h
 exact eR (resT h36 res0) rfl
/-! ### loop.example/g01263/laws.toParty (f20) -/
noncomputable def laws_toParty (a1 : Party) : Option ((List UInt8) × Int) :=
 some (a1.Name, a1.Secret)
def laws_toParty_enc (r : (List UInt8) × Int) : AV := .agg [.str r.1, .int .u32 r.2]
theorem laws_toParty_ok (a1 : Party) (r : (List UInt8) × Int) (h : laws_toParty a1 = some r) : Ev (fun k => CN k 20 [.agg [.str a1.Name, .int .u32 a1.Secret]] []) (fun p => rRes p.2 p.1 = laws_toParty_enc r) := by
 unfold laws_toParty at h
 refine Ev.enter (F := fun k => f20 (CN k) k) (fun k => callN_eq rfl Tryd.func20 rfl rfl rfl (by decide +kernel) (f20_eq _ _)) (sq (Rg (kx (bxI rfl rfl ⟨rfl, rfl, by decide⟩) (ku (alO zero46) fun M2 hM3 => ?_))))
 have o4 : M2[([] : Mem).length]? = some (.live ⟨.box, 46, 2, [[.str ([] : List UInt8), .int .u32 0]]⟩) := push_new hM3
 refine Rn (hN rfl (hV (.loc ([] : Mem).length 1 0 0) rfl hZ)) fun e5 h7 h8 => sN (sq (Rg (ku (alO zero46) fun M10 hM11 => ?_)))
 have o12 := push_old hM11 o4
 have ne13 := ne_new o4
 have o14 : M10[M2.length]? = some (.live ⟨.box, 46, 2, [[.str ([] : List UInt8), .int .u32 0]]⟩) := push_new hM11
 refine Rn (hA h7 (hA h8 (hV (.loc M2.length 1 0 0) rfl hZ))) fun e15 h17 h18 h19 => sN (sq (Rg (kx (faP h17 ⟨ble rfl, blt rfl⟩ rfl) (kx (ldP rfl rfl) (kx (faO h19 o14 rfl) (kw (stO rfl rfl o14 rfl rfl ⟨rfl, ble rfl⟩ rfl rfl) fun M20 hM21 => ?_))))))
 clear h7 h8
 have o22 := set_ne hM21 ne13 o12
 have o23 : M20[M2.length]? = some (.live ⟨.box, 46, 2, [[.str a1.Name, .int .u32 0]]⟩) := set_same hM21 o14
 refine Rn (hA h17 (hA h18 (hA h19 hZ))) fun e24 h26 h27 h28 => sN (sq (Rg (kx (faP h26 ⟨ble rfl, blt rfl⟩ rfl) (kx (ldP rfl rfl) (kx (faO h28 o23 rfl) (kw (stO rfl rfl o23 rfl rfl ⟨rfl, ble rfl⟩ rfl rfl) fun M29 hM30 => ?_))))))
 clear h17 h18 h19
 have o31 := set_ne hM30 ne13 o22
 have o32 : M29[M2.length]? = some (.live ⟨.box, 46, 2, [[.str a1.Name, .int .u32 a1.Secret]]⟩) := set_same hM30 o23
 refine Rn (hA h27 (hA h28 hZ)) fun e33 h35 h36 => sN (sq (Rg (kx (ldOA h36 o32 rfl rfl (ble rfl) rfl) (kw (stO h35 rfl o31 rfl rfl ⟨rfl, ble rfl⟩ rfl rfl) fun M37 hM38 => ?_))))
 clear h26 h27 h28
 have o39 : M37[([] : Mem).length]? = some (.live ⟨.box, 46, 2, [[.str a1.Name, .int .u32 a1.Secret]]⟩) := set_same hM38 o31
 have o40 := set_ne hM38 (Ne.symm ne13) o32
 refine Rn (hA h35 hZ) fun e41 h43 => sN (xx ?_)
 clear h35 h36
 obtain rfl := si h
 exact eR (resC (ag := true) (sz := 2) ⟨by kernel_rfl, by kernel_rfl, by kernel_rfl⟩ (ldOA h43 o39 rfl rfl (ble rfl) rfl) res0) rfl
end Go.Proofs.YtonpeobfmgdamabDoor

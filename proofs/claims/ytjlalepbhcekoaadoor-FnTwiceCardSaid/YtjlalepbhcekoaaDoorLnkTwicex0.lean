/- Printed by a program of ours (ext.py). -/
import Derived.Test.YtjlalepbhcekoaaDoorFnsTwice
set_option linter.unusedVariables false
set_option linter.unusedSimpArgs false
set_option maxRecDepth 100000
set_option maxHeartbeats 20000000
namespace Go.Proofs.YtjlalepbhcekoaaDoor
open Go Go.Ab
structure Party where
  Name : List UInt8
  Secret : Int
  deriving DecidableEq
def Party.c (x : Party) : List AV := [.str x.Name, .int .u32 x.Secret]
theorem Party.fl : Fl Party.c 2 := fun _ => ⟨rfl, rfl⟩
theorem Party.flF : FlF Party.c := fun _ => rfl
structure Notch where
  Kind : Int
  At : Int
  deriving DecidableEq
def Notch.c (x : Notch) : List AV := [.int .i8 x.Kind, .int .i16 x.At]
theorem Notch.fl : Fl Notch.c 2 := fun _ => ⟨rfl, rfl⟩
theorem Notch.flF : FlF Notch.c := fun _ => rfl
structure Half where
  Stock : Bool
  Notches : List Notch
  Grain : Ar 16 Int
  deriving DecidableEq
def Half.c (x : Half) : List AV := (.bool x.Stock :: (.sl none (x.Notches.map Notch.c) :: ((arC (cI .i8) 0 x.Grain) ++ ([] : List AV))))
theorem Half.fl : Fl Half.c 18 := fun _ => ⟨rfl, rfl⟩
structure Mark where
  Holder : List UInt8
  Seal : Int
  deriving DecidableEq
def Mark.c (x : Mark) : List AV := [.str x.Holder, .int .u32 x.Seal]
theorem Mark.fl : Fl Mark.c 2 := fun _ => ⟨rfl, rfl⟩
theorem Mark.flF : FlF Mark.c := fun _ => rfl
structure Chain where
  Debtor : List UInt8
  Stock : Half
  Marks : List Mark
  deriving DecidableEq
def Chain.c (x : Chain) : List AV := (.str x.Debtor :: (.bool x.Stock.Stock :: (.sl none (x.Stock.Notches.map Notch.c) :: ((arC (cI .i8) 0 x.Stock.Grain) ++ ((.sl none (x.Marks.map Mark.c) :: []) : List AV)))))
theorem Chain.fl : Fl Chain.c 20 := fun _ => ⟨rfl, rfl⟩
structure L00Src where
  Code : List Int
  At : Int
  Seed : Int
  deriving DecidableEq
def L00Src.c (x : L00Src) : List AV := [.sl none (x.Code.map (cI .u8)), .int .i64 x.At, .int .u64 x.Seed]
theorem L00Src.fl : Fl L00Src.c 3 := fun _ => ⟨rfl, rfl⟩
theorem co141 : cx.P.cellsOf 141 = 2 := by kernel_rfl
theorem co60 : cx.P.cellsOf 60 = 2 := by kernel_rfl
theorem nty52 : nilTys cx.P 6 52 = [0, 142, 0, 0, 0, 0, 0, 0, 0, 0, 0, 0, 0, 0, 0, 0, 0, 0] := by kernel_rfl
theorem zero125 : zeroOf cx.P 125 = [.nils, .int .i64 0, .int .u64 0] := by kernel_rfl
theorem zero141 : zeroOf cx.P 141 = [.int .i8 0, .int .i16 0] := by kernel_rfl
theorem zero50 : zeroOf cx.P 50 = (arC (cI .i8) 0 (Ar.rep 16 0)) := by kernel_rfl
theorem zero52 : zeroOf cx.P 52 = (.bool false :: (.nils :: ((arC (cI .i8) 0 (Ar.rep 16 0)) ++ ([] : List AV)))) := by kernel_rfl
theorem zero55 : zeroOf cx.P 55 = (.str ([] : List UInt8) :: (.bool false :: (.nils :: ((arC (cI .i8) 0 (Ar.rep 16 0)) ++ ((.nils :: []) : List AV))))) := by kernel_rfl
theorem zero60 : zeroOf cx.P 60 = [.str ([] : List UInt8), .int .u32 0] := by kernel_rfl
theorem zero66 : zeroOf cx.P 66 = [.str ([] : List UInt8), .int .u32 0] := by kernel_rfl
/-! ### loop.example/g01263/spec.Decimal (f161) -/
noncomputable def spec_Decimal_F : Nat → Int → Option ((List UInt8))
  | 0, _ => none
  | k0 + 1, a1 =>
   if (decide (a1 < 10)) = true then
    (rem .i64 a1 10).bind fun n9 =>
    some (toB [(IntKind.u8.wrap (IntKind.i64.wrap (48 + n9)))])
   else
    (quo .i64 a1 10).bind fun n14 =>
    (spec_Decimal_F k0 n14).bind fun r17 =>
    (rem .i64 a1 10).bind fun n18 =>
    (sadd r17 (toB [(IntKind.u8.wrap (IntKind.i64.wrap (48 + n18)))])).bind fun w20 =>
    some w20
def spec_Decimal_enc (r : (List UInt8)) : AV := .str r
theorem spec_Decimal_F_ok : ∀ (k0 : Nat) (a1 : Int) (r : (List UInt8)) (h : spec_Decimal_F k0 a1 = some r), Ev (fun k => CN k 161 [.int .i64 a1] []) (fun p => rRes p.2 p.1 = spec_Decimal_enc r)
  | 0, a1, r, h => by cases h
  | k0 + 1, a1, r, h => by
   rw [spec_Decimal_F] at h
   refine Ev.enter (F := fun k => f161 (CN k) k) (fun k => callN_eq rfl Tryd.func161 rfl rfl rfl (by decide +kernel) (f161_eq _ _)) (sq (Rg (kx (mvO rfl) (Rn (hN rfl hZ) fun e1 h3 => sN (sq (sq (Rg (kx (mvO h3) (kx (bLss rfl rfl) (Rn (hA h3 (hN rfl hZ)) fun e4 h6 h7 => sN ?_))))))))))
   clear h3
   rcases ite_some h with ⟨hb8, h⟩ | ⟨hb8, h⟩
   ·obtain ⟨n9, hx10, h⟩ := bind_some h
    refine cT h7 hb8 (sq (Rg (kx (mvO h6) (kx (bRem rfl rfl hx10) (kx (bAdd rfl rfl) (kx (cvI rfl) (kx (litI (cns rfl rfl) rfl ⟨rfl, by decide⟩) (kx (cvB (elT (c := (cI .u8)) (xs := [(IntKind.u8.wrap (IntKind.i64.wrap (48 + n9)))]) rfl)) (kx (mvO rfl) (Rn (hN rfl hZ) fun e11 h13 => sN (xx (sR ?_))))))))))))
    clear h6 h7
    obtain rfl := si h
    exact eR (resT h13 res0) rfl
   obtain ⟨n14, hx15, h⟩ := bind_some h
   obtain ⟨r17, hx16, h⟩ := bind_some h
   obtain ⟨n18, hx19, h⟩ := bind_some h
   obtain ⟨w20, hx21, h⟩ := bind_some h
   refine cF h7 hb8 (xx (sN (sq (Rd (kf (mvO h6) (kf (bQuo rfl rfl hx15) (fc (cl (v := .str r17) rfl rfl (cns rfl rfl) rfl (spec_Decimal_F_ok k0 n14 _ hx16) nm) (kf (mvO h6) (kf (bRem rfl rfl hx19) (kf (bAdd rfl rfl) (kf (cvI rfl) (kf (litI (cns rfl rfl) rfl ⟨rfl, by decide⟩) (kf (cvB (elT (c := (cI .u8)) (xs := [(IntKind.u8.wrap (IntKind.i64.wrap (48 + n18)))]) rfl)) (kf (sAdd rfl rfl hx21) (kf (mvO rfl) (fZ (Rn (hN rfl hZ) fun e22 h24 => sN (xx ?_))))))))))))))))))
   clear h6 h7
   obtain rfl := si h
   exact eR (resT h24 res0) rfl
noncomputable def spec_Decimal (a1 : Int) : Option ((List UInt8)) := spec_Decimal_F 64 a1
theorem spec_Decimal_ok (a1 : Int) (r : (List UInt8)) (h : spec_Decimal a1 = some r) : Ev (fun k => CN k 161 [.int .i64 a1] []) (fun p => rRes p.2 p.1 = spec_Decimal_enc r) := spec_Decimal_F_ok 64 a1 r h
/-! ### loop.example/g01263/spec.l01Letters (f160) -/
noncomputable def spec_l01Letters : Option Unit :=
 some ()
def spec_l01Letters_enc (r : Unit) : AV := .str ([100, 115, 108, 118, 99, 109] : List UInt8)
theorem spec_l01Letters_ok (r : Unit) (h : spec_l01Letters = some r) : Ev (fun k => CN k 160 [] []) (fun p => rRes p.2 p.1 = spec_l01Letters_enc r) := by
 unfold spec_l01Letters at h
 refine Ev.enter (F := fun k => f160 (CN k) k) (fun k => callN_eq rfl Tryd.func160 rfl rfl rfl (by decide +kernel) (f160_eq _ _)) (sq (Rg (kx (mvO rfl) (Rn hZ fun e1 => sN (sq (Rg (kx (mvO rfl) (Rn (hN rfl hZ) fun e3 h5 => sN (xx ?_)))))))))
 obtain rfl := si h
 exact eR (resT h5 res0) rfl
/-! ### loop.example/g01263/spec.l01Widths (f124) -/
noncomputable def spec_l01Widths : Option ((List Int)) :=
 some [1, 2, 4, 6, 9, 12]
def spec_l01Widths_enc (r : (List Int)) : AV := .sl none (r.map (cI .i64))
theorem spec_l01Widths_ok (r : (List Int)) (h : spec_l01Widths = some r) : Ev (fun k => CN k 124 [] []) (fun p => wkR (rRes p.2 p.1) = spec_l01Widths_enc r ∧ ownAll (rRes p.2 p.1) = true) := by
 unfold spec_l01Widths at h
 refine Ev.enter (F := fun k => f124 (CN k) k) (fun k => callN_eq rfl Tryd.func124 rfl rfl rfl (by decide +kernel) (f124_eq _ _)) (sq (Rg (kx (mvO rfl) (Rn hZ fun e1 => sN (sq (Rg (kx (litI (cns rfl (cns rfl (cns rfl (cns rfl (cns rfl (cns rfl rfl)))))) rfl ⟨rfl, by decide⟩) (kx (mvO rfl) (Rn (hN rfl hZ) fun e3 h5 => sN (xx ?_))))))))))
 obtain rfl := si h
 exact eR (resT h5 res0) (wkO (y := .sl (some 2) ([1, 2, 4, 6, 9, 12].map (cI .i64))) rfl rfl (ownA_row (c := (cI .i64)) (fun _ => rfl)))
/-! ### loop.example/g01263/spec.l01Ends (f159) -/
noncomputable def spec_l01Ends (a1 : Notch) : Option Int :=
 (spec_l01Widths).bind fun r5 =>
 (rd r5 a1.Kind).bind fun x6 =>
 some (IntKind.i64.wrap ((IntKind.i64.wrap a1.At) + x6))
def spec_l01Ends_enc (r : Int) : AV := .int .i64 r
theorem spec_l01Ends_ok (a1 : Notch) (r : Int) (h : spec_l01Ends a1 = some r) : Ev (fun k => CN k 159 [.agg [.int .i8 a1.Kind, .int .i16 a1.At]] []) (fun p => rRes p.2 p.1 = spec_l01Ends_enc r) := by
 unfold spec_l01Ends at h
 obtain ⟨r5, hx4, h⟩ := bind_some h
 obtain ⟨x6, hx7, h⟩ := bind_some h
 refine Ev.enter (F := fun k => f159 (CN k) k) (fun k => callN_eq rfl Tryd.func159 rfl rfl rfl (by decide +kernel) (f159_eq _ _)) (sq (Rg (kx (bxI rfl rfl ⟨rfl, rfl, by decide⟩) (kx (mvO rfl) (Rn (hN rfl hZ) fun e1 h3 => sN (sq (Rd (kf (faP h3 ⟨ble rfl, blt rfl⟩ rfl) (kf (ldP rfl rfl) (kf (cvI rfl) (fc (clO (v := .sl none (r5.map (cI .i64))) rfl rfl rfl rfl (spec_l01Widths_ok  _ hx4)) (kf (faP h3 ⟨ble rfl, blt rfl⟩ rfl) (kf (ldP rfl rfl) (kf (ixS rfl rfl hx7 (cI_fl _)) (kf (ldP rfl rfl) (kf (bAdd rfl rfl) (kf (mvO rfl) (fZ (Rn (hN rfl hZ) fun e8 h10 => sN (xx ?_))))))))))))))))))))
 clear h3
 obtain rfl := si h
 exact eR (resT h10 res0) rfl
/-! ### loop.example/g01263/spec.l00In (f84) -/
noncomputable def spec_l00In (a1 : Int) (a2 : Int) (a3 : Int) : Option Bool :=
 if (decide (a1 ≥ a2)) = true then
  some (decide (a1 ≤ a3))
 else
  some false
def spec_l00In_enc (r : Bool) : AV := .bool r
theorem spec_l00In_ok (a1 : Int) (a2 : Int) (a3 : Int) (r : Bool) (h : spec_l00In a1 a2 a3 = some r) : Ev (fun k => CN k 84 [.int .i64 a1, .int .i64 a2, .int .i64 a3] []) (fun p => rRes p.2 p.1 = spec_l00In_enc r) := by
 unfold spec_l00In at h
 refine Ev.enter (F := fun k => f84 (CN k) k) (fun k => callN_eq rfl Tryd.func84 rfl rfl rfl (by decide +kernel) (f84_eq _ _)) (sq (Rg (kx (mvO rfl) (Rn (hN rfl (hN rfl (hN rfl hZ))) fun e1 h3 h4 h5 => sN (sq (Rg (kx (mvO h3) (kx (mvO h4) (kx (bGeq rfl rfl) (kx (mvO rfl) ?_))))))))))
 rcases ite_some h with ⟨hb6, h⟩ | ⟨hb6, h⟩
 ·refine kx (guT rfl hb6 (mvO h3)) (kx (guT rfl hb6 (mvO h5)) (kx (guT rfl hb6 (bLeq rfl rfl)) (kx (pkT rfl hb6 rfl) (kx (mvO rfl) (Rn (hN rfl hZ) fun e7 h9 => sN (xx ?_))))))
  clear h3 h4 h5
  obtain rfl := si h
  exact eR (resT h9 res0) rfl
 refine kx (gsT rfl hb6) (kx (gsT rfl hb6) (kx (gsT rfl hb6) (kx (pkF rfl hb6 rfl) (kx (mvO rfl) (Rn (hV (.bool false) rfl hZ) fun e10 h12 => sN (xx ?_))))))
 clear h3 h4 h5
 obtain rfl := si h
 exact eR (resT h12 res0) rfl
/-! ### loop.example/g01263/spec.l01Kind (f158) -/
noncomputable def spec_l01Kind (a1 : Int) : Option Bool :=
 (spec_l00In a1 0 5).bind fun r5 =>
 some r5
def spec_l01Kind_enc (r : Bool) : AV := .bool r
theorem spec_l01Kind_ok (a1 : Int) (r : Bool) (h : spec_l01Kind a1 = some r) : Ev (fun k => CN k 158 [.int .i64 a1] []) (fun p => rRes p.2 p.1 = spec_l01Kind_enc r) := by
 unfold spec_l01Kind at h
 obtain ⟨r5, hx4, h⟩ := bind_some h
 refine Ev.enter (F := fun k => f158 (CN k) k) (fun k => callN_eq rfl Tryd.func158 rfl rfl rfl (by decide +kernel) (f158_eq _ _)) (sq (Rg (kx (mvO rfl) (Rn (hN rfl hZ) fun e1 h3 => sN (sq (Rg (kx (mvO h3) (kc (cl (v := .bool r5) rfl rfl (cns rfl (cns rfl (cns rfl rfl))) rfl (spec_l00In_ok a1 0 5 _ hx4) nm) (kx (mvO rfl) (Rn (hN rfl hZ) fun e6 h8 => sN (xx ?_)))))))))))
 clear h3
 obtain rfl := si h
 exact eR (resT h8 res0) rfl
/-! ### loop.example/g01263/spec.l01Copy (f144) -/
noncomputable def spec_l01Copy (a1 : List Notch) : Option ((List Notch)) :=
 (app 4 ([] : List Notch) a1).bind fun x4 =>
 some x4
def spec_l01Copy_enc (r : (List Notch)) : AV := .sl (some 141) (r.map Notch.c)
theorem spec_l01Copy_ok (a1 : List Notch) (r : (List Notch)) (h : spec_l01Copy a1 = some r) : Ev (fun k => CN k 144 [.sl none (a1.map Notch.c)] []) (fun p => rRes p.2 p.1 = spec_l01Copy_enc r) := by
 unfold spec_l01Copy at h
 obtain ⟨x4, hx5, h⟩ := bind_some h
 refine Ev.enter (F := fun k => f144 (CN k) k) (fun k => callN_eq rfl Tryd.func144 rfl rfl rfl (by decide +kernel) (f144_eq _ _)) (sq (Rg (kx (mvO rfl) (Rn (hN rfl hZ) fun e1 h3 => sN (sq (Rg (kx (litI rfl rfl ⟨rfl, by decide⟩) (kx (mvO h3) (kx (aiT (c := Notch.c) (xs := ([] : List Notch)) rfl (elS rfl) hx5 Notch.fl (by decide)) (kx (mvO rfl) (Rn (hN rfl hZ) fun e6 h8 => sN (xx ?_))))))))))))
 clear h3
 obtain rfl := si h
 exact eR (resT h8 res0) rfl
/-! ### loop.example/g01263/spec.l06Number (f143) -/
abbrev spec_l06Number_b1_S := Int × Int
abbrev spec_l06Number_b1_R := Int
def spec_l06Number_b1_RS (a2 : Int) (s : spec_l06Number_b1_S) (e : Env) (M : Mem) : Prop := eget e 0 = .int .u32 s.1 ∧ eget e 1 = .int .u32 a2 ∧ eget e 5 = .int .i64 s.2
def spec_l06Number_b1_RR (a2 : Int) (g : spec_l06Number_b1_R) (x : Ex) (e : Env) (M : Mem) : Prop := x = .ext 0 ∧ eget e 0 = .int .u32 g
noncomputable def spec_l06Number_b1 (a2 : Int) : spec_l06Number_b1_S → Option (spec_l06Number_b1_S ⊕ spec_l06Number_b1_R) := fun (s1_1, s1_2) =>
 if (decide (s1_2 ≥ 0)) = true then
  (shr .u32 a2 (IntKind.u64.wrap s1_2)).bind fun n33 =>
  some (.inl ((IntKind.u32.wrap ((ixor .u32 s1_1 (iand .u32 n33 255)) * 16777619)), (IntKind.i64.wrap (s1_2 - 8))))
 else
  some (.inr s1_1)
theorem spec_l06Number_b1_ok (a2 : Int) (s : spec_l06Number_b1_S) (r : spec_l06Number_b1_S ⊕ spec_l06Number_b1_R) (h : spec_l06Number_b1 a2 s = some r) (e : Env) (M : Mem) (hs : spec_l06Number_b1_RS a2 s e M) : Ev (fun k => (f143_l2 (CN k) k (prune [0, 1, 5] e) M).bind fun q => some q) (bQ (spec_l06Number_b1_RS a2) (spec_l06Number_b1_RR a2) r) := by
 obtain ⟨s1_1, s1_2⟩ := s
 unfold spec_l06Number_b1 at h
 obtain ⟨h20, h22, h24⟩ := hs
 generalize he19 : prune [0, 1, 5] e = e18
 have h21 := envp he19.symm rfl h20
 have h23 := envp he19.symm rfl h22
 have h25 := envp he19.symm rfl h24
 refine sq (sq (Rg (kx (mvO h25) (kx (bGeq rfl rfl) (Rn (hV (.int .u32 s1_1) h21 (hV (.int .u32 a2) h23 (hV (.int .i64 s1_2) h25 (hN rfl hZ)))) fun e26 h28 h29 h30 h31 => sN ?_)))))
 clear h21 h23 h25
 rcases ite_some h with ⟨hb32, h⟩ | ⟨hb32, h⟩
 ·obtain ⟨n33, hx34, h⟩ := bind_some h
  refine cT h31 hb32 (xx (sN (sq (bl (Rg (kx (mvO h28) (kx (mvO h29) (kx (mvO h30) (kx (cvI rfl) (kx (bShr rfl rfl hx34) (kx (bAnd rfl rfl) (kx (bXor rfl rfl) (kx (bMul rfl rfl) (kx (mvO rfl) (Rn (hN rfl (hA h29 (hA h30 hZ))) fun e35 h37 h38 h39 => bN (sN (Rg (kx (mvO h39) (kx (bSub rfl rfl) (kx (mvO rfl) (Rn (hA h37 (hA h38 (hN rfl hZ))) fun e40 h42 h43 h44 => ?_)))))))))))))))))))))
  clear h29 h30 h31 h37 h38
  obtain rfl := si h
  exact qN ⟨h42, h43, h44⟩
 refine cF h31 hb32 (xx (sE ?_))
 obtain rfl := si h
 exact qE ⟨rfl, h28⟩
noncomputable def spec_l06Number (a1 : Int) (a2 : Int) : Option Int :=
 (Lw (spec_l06Number_b1 a2) (a1, 24)).bind fun y50 =>
 some y50
def spec_l06Number_enc (r : Int) : AV := .int .u32 r
theorem spec_l06Number_ok (a1 : Int) (a2 : Int) (r : Int) (h : spec_l06Number a1 a2 = some r) : Ev (fun k => CN k 143 [.int .u32 a1, .int .u32 a2] []) (fun p => rRes p.2 p.1 = spec_l06Number_enc r) := by
 unfold spec_l06Number at h
 obtain ⟨y50, hr46, h⟩ := bind_some h
 refine Ev.enter (F := fun k => f143 (CN k) k) (fun k => callN_eq rfl Tryd.func143 rfl rfl rfl (by decide +kernel) (f143_eq _ _)) (sq (Rg (kx (mvO rfl) (Rn (hN rfl (hN rfl hZ)) fun e1 h3 h4 => sN (sq (sq (Rg (kx (mvO rfl) (Rn (hA h3 (hA h4 (hV (.int .i64 24) rfl hZ))) fun e5 h7 h8 h9 => sN (bl (Ev.loop (RS := spec_l06Number_b1_RS a2) (RR := spec_l06Number_b1_RR a2) (fun s r h e M hs => spec_l06Number_b1_ok a2 s r h e M hs) hr46 ⟨h7, h8, h9⟩ fun x e48 M49 hq47 => ?_)))))))))))
 clear h3 h4
 obtain ⟨rfl, h51⟩ := hq47
 refine bE (sN (sq (Rg (kx (mvO h51) (kx (mvO rfl) (Rn (hN rfl hZ) fun e52 h54 => sN (xx ?_)))))))
 clear h51
 obtain rfl := si h
 exact eR (resT h54 res0) rfl
/-! ### loop.example/g01263/spec.l01Text (f142) -/
abbrev spec_l01Text_b1_S := (List UInt8) × Int
abbrev spec_l01Text_b1_R := (List UInt8)
def spec_l01Text_b1_RS (a1 : Half) (s : spec_l01Text_b1_S) (e : Env) (M : Mem) : Prop := eget e 0 = .pt none (.bool a1.Stock :: (.sl none (a1.Notches.map Notch.c) :: ((arC (cI .i8) 0 a1.Grain) ++ ([] : List AV)))) ∧ eget e 3 = .str s.1 ∧ eget e 4 = .int .i64 s.2
def spec_l01Text_b1_RR (a1 : Half) (g : spec_l01Text_b1_R) (x : Ex) (e : Env) (M : Mem) : Prop := x = .ext 0 ∧ eget e 0 = .pt none (.bool a1.Stock :: (.sl none (a1.Notches.map Notch.c) :: ((arC (cI .i8) 0 a1.Grain) ++ ([] : List AV)))) ∧ eget e 3 = .str g
noncomputable def spec_l01Text_b1 (a1 : Half) : spec_l01Text_b1_S → Option (spec_l01Text_b1_S ⊕ spec_l01Text_b1_R) := fun (s1_1, s1_2) =>
 if (decide (s1_2 < 16)) = true then
  (rdA a1.Grain s1_2).bind fun x46 =>
  (sadd s1_1 (toB [(IntKind.u8.wrap (IntKind.i64.wrap (100 + (IntKind.i64.wrap x46))))])).bind fun w48 =>
  some (.inl (w48, (IntKind.i64.wrap (s1_2 + 1))))
 else
  some (.inr s1_1)
theorem spec_l01Text_b1_ok (a1 : Half) (s : spec_l01Text_b1_S) (r : spec_l01Text_b1_S ⊕ spec_l01Text_b1_R) (h : spec_l01Text_b1 a1 s = some r) (e : Env) (M : Mem) (hs : spec_l01Text_b1_RS a1 s e M) : Ev (fun k => (f142_l5 (CN k) k (prune [0, 3, 4] e) M).bind fun q => some q) (bQ (spec_l01Text_b1_RS a1) (spec_l01Text_b1_RR a1) r) := by
 obtain ⟨s1_1, s1_2⟩ := s
 unfold spec_l01Text_b1 at h
 obtain ⟨h33, h35, h37⟩ := hs
 generalize he32 : prune [0, 3, 4] e = e31
 have h34 := envp he32.symm rfl h33
 have h36 := envp he32.symm rfl h35
 have h38 := envp he32.symm rfl h37
 refine sq (sq (Rg (kx (mvO h38) (kx (bLss rfl rfl) (Rn (hV (.pt none (.bool a1.Stock :: (.sl none (a1.Notches.map Notch.c) :: ((arC (cI .i8) 0 a1.Grain) ++ ([] : List AV))))) h34 (hV (.str s1_1) h36 (hV (.int .i64 s1_2) h38 (hN rfl hZ)))) fun e39 h41 h42 h43 h44 => sN ?_)))))
 clear h34 h36 h38
 rcases ite_some h with ⟨hb45, h⟩ | ⟨hb45, h⟩
 ·obtain ⟨x46, hx47, h⟩ := bind_some h
  obtain ⟨w48, hx49, h⟩ := bind_some h
  refine cT h44 hb45 (xx (sN (sq (bl (Rg (kx (mvO h42) (kx (mvO h41) (kx (mvO h43) (kx (ncP rfl) (kx (faP rfl ⟨ble rfl, blt rfl⟩ rfl) (kx (ixPA (c := (cI .i8)) (z := 0) (g := a1.Grain) rfl rfl hx47 (fun _ => rfl)) (kx (ldP rfl rfl) (kx (cvI rfl) (kx (bAdd rfl rfl) (kx (cvI rfl) (kx (litI (cns rfl rfl) rfl ⟨rfl, by decide⟩) (kx (cvB (elT (c := (cI .u8)) (xs := [(IntKind.u8.wrap (IntKind.i64.wrap (100 + (IntKind.i64.wrap x46))))]) rfl)) (kx (sAdd rfl rfl hx49) (kx (mvO rfl) (Rn (hA h41 (hN rfl (hA h43 hZ))) fun e50 h52 h53 h54 => bN (sN (Rg (kx (mvO h54) (kx (bAdd rfl rfl) (kx (mvO rfl) (Rn (hA h52 (hA h53 (hN rfl hZ))) fun e55 h57 h58 h59 => ?_))))))))))))))))))))))))))
  clear h41 h43 h44 h52 h53
  obtain rfl := si h
  exact qN ⟨h57, h58, h59⟩
 refine cF h44 hb45 (xx (sE ?_))
 obtain rfl := si h
 exact qE ⟨rfl, h41, h42⟩
abbrev spec_l01Text_b2_S := (List UInt8) × Int
abbrev spec_l01Text_b2_R := (List UInt8)
def spec_l01Text_b2_RS (a1 : Half) (s : spec_l01Text_b2_S) (e : Env) (M : Mem) : Prop := eget e 0 = .pt none (.bool a1.Stock :: (.sl none (a1.Notches.map Notch.c) :: ((arC (cI .i8) 0 a1.Grain) ++ ([] : List AV)))) ∧ eget e 3 = .str s.1 ∧ eget e 5 = .int .i64 s.2
def spec_l01Text_b2_RR (a1 : Half) (g : spec_l01Text_b2_R) (x : Ex) (e : Env) (M : Mem) : Prop := x = .ext 2 ∧ eget e 3 = .str g
noncomputable def spec_l01Text_b2 (a1 : Half) : spec_l01Text_b2_S → Option (spec_l01Text_b2_S ⊕ spec_l01Text_b2_R) := fun (s2_1, s2_2) =>
 if (decide (s2_2 < (a1.Notches.length : Int))) = true then
  (rd a1.Notches s2_2).bind fun x96 =>
  (spec_l01Letters).bind fun _ =>
  (slc ([100, 115, 108, 118, 99, 109] : List UInt8) x96.Kind (IntKind.i8.wrap (x96.Kind + 1))).bind fun x112 =>
  (sadd ([32] : List UInt8) x112).bind fun w114 =>
  (spec_Decimal (IntKind.i64.wrap x96.At)).bind fun r117 =>
  (sadd w114 r117).bind fun w118 =>
  (sadd s2_1 w118).bind fun w120 =>
  some (.inl (w120, (IntKind.i64.wrap (s2_2 + 1))))
 else
  some (.inr s2_1)
theorem spec_l01Text_b2_ok (a1 : Half) (s : spec_l01Text_b2_S) (r : spec_l01Text_b2_S ⊕ spec_l01Text_b2_R) (h : spec_l01Text_b2 a1 s = some r) (e : Env) (M : Mem) (hs : spec_l01Text_b2_RS a1 s e M) : Ev (fun k => (f142_l9 (CN k) k (prune [0, 3, 5] e) M).bind fun q => some q) (bQ (spec_l01Text_b2_RS a1) (spec_l01Text_b2_RR a1) r) := by
 obtain ⟨s2_1, s2_2⟩ := s
 unfold spec_l01Text_b2 at h
 obtain ⟨h83, h85, h87⟩ := hs
 generalize he82 : prune [0, 3, 5] e = e81
 have h84 := envp he82.symm rfl h83
 have h86 := envp he82.symm rfl h85
 have h88 := envp he82.symm rfl h87
 refine sq (sq (Rg (kx (mvO h88) (kx (mvO h84) (kx (ncP rfl) (kx (faP rfl ⟨ble rfl, blt rfl⟩ rfl) (kx (ldP rfl rfl) (kx (lnS Tryd.underlying48 rfl) (kx (bLss rfl rfl) (Rn (hV (.pt none (.bool a1.Stock :: (.sl none (a1.Notches.map Notch.c) :: ((arC (cI .i8) 0 a1.Grain) ++ ([] : List AV))))) h84 (hV (.str s2_1) h86 (hV (.int .i64 s2_2) h88 (hN rfl hZ)))) fun e89 h91 h92 h93 h94 => sN ?_))))))))))
 clear h84 h86 h88
 rcases ite_some h with ⟨hb95, h⟩ | ⟨hb95, h⟩
 ·obtain ⟨x96, hx97, h⟩ := bind_some h
  refine cT h94 hb95 (xx (sN (sq (bl (sq (Rg (kx (mvO h91) (kx (ncP rfl) (kx (faP rfl ⟨ble rfl, blt rfl⟩ rfl) (kx (ldP rfl rfl) (kx (mvO h93) (kx (ixS rfl rfl hx97 Notch.fl) (kx (ldPA rfl rfl rfl) (ku (alO zero141) fun M99 hM100 => ?_))))))))))))))
  have o101 : M99[M.length]? = some (.live ⟨.box, 141, 2, [[.int .i8 0, .int .i16 0]]⟩) := push_new hM100
  refine kw (stO rfl rfl o101 rfl rfl ⟨rfl, ble rfl⟩ rfl rfl) fun M102 hM103 => ?_
  have o104 : M102[M.length]? = some (.live ⟨.box, 141, 2, [[.int .i8 x96.Kind, .int .i16 x96.At]]⟩) := set_same hM103 o101
  obtain ⟨_, hx111, h⟩ := bind_some h
  obtain ⟨x112, hx113, h⟩ := bind_some h
  obtain ⟨w114, hx115, h⟩ := bind_some h
  obtain ⟨r117, hx116, h⟩ := bind_some h
  obtain ⟨w118, hx119, h⟩ := bind_some h
  obtain ⟨w120, hx121, h⟩ := bind_some h
  refine Rn (hA h91 (hA h92 (hA h93 (hV (.loc M.length 1 0 0) rfl hZ)))) fun e105 h107 h108 h109 h110 => sN (Rd (kf (mvO h108) (fc (cl (v := .str ([100, 115, 108, 118, 99, 109] : List UInt8)) rfl rfl rfl rfl (spec_l01Letters_ok  _ hx111) nm) (kf (faO h110 o104 rfl) (kf (ldO rfl o104 rfl rfl rfl) (kf (faO h110 o104 rfl) (kf (ldO rfl o104 rfl rfl rfl) (kf (bAdd rfl rfl) (kf (ssl2 rfl (bnd1 rfl) (bnd1 rfl) hx113) (kf (sAdd rfl rfl hx115) (kf (faO h110 o104 rfl) (kf (ldO rfl o104 rfl rfl rfl) (kf (cvI rfl) (fc (cl (v := .str r117) rfl rfl (cns rfl rfl) rfl (spec_Decimal_ok (IntKind.i64.wrap x96.At) _ hx116) nm) (kf (sAdd rfl rfl hx119) (kf (sAdd rfl rfl hx121) (kf (mvO rfl) (fZ (Rn (hA h107 (hN rfl (hA h109 hZ))) fun e122 h124 h125 h126 => bN (sN (Rg (kx (mvO h126) (kx (bAdd rfl rfl) (kx (mvO rfl) (Rn (hA h124 (hA h125 (hN rfl hZ))) fun e127 h129 h130 h131 => ?_)))))))))))))))))))))))))
  clear h91 h92 h93 h94 h107 h109 h110 h124 h125
  obtain rfl := si h
  exact qN ⟨h129, h130, h131⟩
 refine cF h94 hb95 (xx (sE ?_))
 obtain rfl := si h
 exact qE ⟨rfl, h92⟩
abbrev spec_l01Text_b3_S := (List UInt8) × Int
abbrev spec_l01Text_b3_R := (List UInt8)
def spec_l01Text_b3_RS (a1 : Half) (s : spec_l01Text_b3_S) (e : Env) (M : Mem) : Prop := eget e 0 = .pt none (.bool a1.Stock :: (.sl none (a1.Notches.map Notch.c) :: ((arC (cI .i8) 0 a1.Grain) ++ ([] : List AV)))) ∧ eget e 3 = .str s.1 ∧ eget e 4 = .int .i64 s.2
def spec_l01Text_b3_RR (a1 : Half) (g : spec_l01Text_b3_R) (x : Ex) (e : Env) (M : Mem) : Prop := x = .ext 0 ∧ eget e 0 = .pt none (.bool a1.Stock :: (.sl none (a1.Notches.map Notch.c) :: ((arC (cI .i8) 0 a1.Grain) ++ ([] : List AV)))) ∧ eget e 3 = .str g
noncomputable def spec_l01Text_b3 (a1 : Half) : spec_l01Text_b3_S → Option (spec_l01Text_b3_S ⊕ spec_l01Text_b3_R) := fun (s3_1, s3_2) =>
 if (decide (s3_2 < 16)) = true then
  (rdA a1.Grain s3_2).bind fun x170 =>
  (sadd s3_1 (toB [(IntKind.u8.wrap (IntKind.i64.wrap (100 + (IntKind.i64.wrap x170))))])).bind fun w172 =>
  some (.inl (w172, (IntKind.i64.wrap (s3_2 + 1))))
 else
  some (.inr s3_1)
theorem spec_l01Text_b3_ok (a1 : Half) (s : spec_l01Text_b3_S) (r : spec_l01Text_b3_S ⊕ spec_l01Text_b3_R) (h : spec_l01Text_b3 a1 s = some r) (e : Env) (M : Mem) (hs : spec_l01Text_b3_RS a1 s e M) : Ev (fun k => (f142_l5 (CN k) k (prune [0, 3, 4] e) M).bind fun q => some q) (bQ (spec_l01Text_b3_RS a1) (spec_l01Text_b3_RR a1) r) := by
 obtain ⟨s3_1, s3_2⟩ := s
 unfold spec_l01Text_b3 at h
 obtain ⟨h157, h159, h161⟩ := hs
 generalize he156 : prune [0, 3, 4] e = e155
 have h158 := envp he156.symm rfl h157
 have h160 := envp he156.symm rfl h159
 have h162 := envp he156.symm rfl h161
 refine sq (sq (Rg (kx (mvO h162) (kx (bLss rfl rfl) (Rn (hV (.pt none (.bool a1.Stock :: (.sl none (a1.Notches.map Notch.c) :: ((arC (cI .i8) 0 a1.Grain) ++ ([] : List AV))))) h158 (hV (.str s3_1) h160 (hV (.int .i64 s3_2) h162 (hN rfl hZ)))) fun e163 h165 h166 h167 h168 => sN ?_)))))
 clear h158 h160 h162
 rcases ite_some h with ⟨hb169, h⟩ | ⟨hb169, h⟩
 ·obtain ⟨x170, hx171, h⟩ := bind_some h
  obtain ⟨w172, hx173, h⟩ := bind_some h
  refine cT h168 hb169 (xx (sN (sq (bl (Rg (kx (mvO h166) (kx (mvO h165) (kx (mvO h167) (kx (ncP rfl) (kx (faP rfl ⟨ble rfl, blt rfl⟩ rfl) (kx (ixPA (c := (cI .i8)) (z := 0) (g := a1.Grain) rfl rfl hx171 (fun _ => rfl)) (kx (ldP rfl rfl) (kx (cvI rfl) (kx (bAdd rfl rfl) (kx (cvI rfl) (kx (litI (cns rfl rfl) rfl ⟨rfl, by decide⟩) (kx (cvB (elT (c := (cI .u8)) (xs := [(IntKind.u8.wrap (IntKind.i64.wrap (100 + (IntKind.i64.wrap x170))))]) rfl)) (kx (sAdd rfl rfl hx173) (kx (mvO rfl) (Rn (hA h165 (hN rfl (hA h167 hZ))) fun e174 h176 h177 h178 => bN (sN (Rg (kx (mvO h178) (kx (bAdd rfl rfl) (kx (mvO rfl) (Rn (hA h176 (hA h177 (hN rfl hZ))) fun e179 h181 h182 h183 => ?_))))))))))))))))))))))))))
  clear h165 h167 h168 h176 h177
  obtain rfl := si h
  exact qN ⟨h181, h182, h183⟩
 refine cF h168 hb169 (xx (sE ?_))
 obtain rfl := si h
 exact qE ⟨rfl, h165, h166⟩
abbrev spec_l01Text_b4_S := (List UInt8) × Int
abbrev spec_l01Text_b4_R := (List UInt8)
def spec_l01Text_b4_RS (a1 : Half) (s : spec_l01Text_b4_S) (e : Env) (M : Mem) : Prop := eget e 0 = .pt none (.bool a1.Stock :: (.sl none (a1.Notches.map Notch.c) :: ((arC (cI .i8) 0 a1.Grain) ++ ([] : List AV)))) ∧ eget e 3 = .str s.1 ∧ eget e 5 = .int .i64 s.2
def spec_l01Text_b4_RR (a1 : Half) (g : spec_l01Text_b4_R) (x : Ex) (e : Env) (M : Mem) : Prop := x = .ext 2 ∧ eget e 3 = .str g
noncomputable def spec_l01Text_b4 (a1 : Half) : spec_l01Text_b4_S → Option (spec_l01Text_b4_S ⊕ spec_l01Text_b4_R) := fun (s4_1, s4_2) =>
 if (decide (s4_2 < (a1.Notches.length : Int))) = true then
  (rd a1.Notches s4_2).bind fun x220 =>
  (spec_l01Letters).bind fun _ =>
  (slc ([100, 115, 108, 118, 99, 109] : List UInt8) x220.Kind (IntKind.i8.wrap (x220.Kind + 1))).bind fun x236 =>
  (sadd ([32] : List UInt8) x236).bind fun w238 =>
  (spec_Decimal (IntKind.i64.wrap x220.At)).bind fun r241 =>
  (sadd w238 r241).bind fun w242 =>
  (sadd s4_1 w242).bind fun w244 =>
  some (.inl (w244, (IntKind.i64.wrap (s4_2 + 1))))
 else
  some (.inr s4_1)
theorem spec_l01Text_b4_ok (a1 : Half) (s : spec_l01Text_b4_S) (r : spec_l01Text_b4_S ⊕ spec_l01Text_b4_R) (h : spec_l01Text_b4 a1 s = some r) (e : Env) (M : Mem) (hs : spec_l01Text_b4_RS a1 s e M) : Ev (fun k => (f142_l9 (CN k) k (prune [0, 3, 5] e) M).bind fun q => some q) (bQ (spec_l01Text_b4_RS a1) (spec_l01Text_b4_RR a1) r) := by
 obtain ⟨s4_1, s4_2⟩ := s
 unfold spec_l01Text_b4 at h
 obtain ⟨h207, h209, h211⟩ := hs
 generalize he206 : prune [0, 3, 5] e = e205
 have h208 := envp he206.symm rfl h207
 have h210 := envp he206.symm rfl h209
 have h212 := envp he206.symm rfl h211
 refine sq (sq (Rg (kx (mvO h212) (kx (mvO h208) (kx (ncP rfl) (kx (faP rfl ⟨ble rfl, blt rfl⟩ rfl) (kx (ldP rfl rfl) (kx (lnS Tryd.underlying48 rfl) (kx (bLss rfl rfl) (Rn (hV (.pt none (.bool a1.Stock :: (.sl none (a1.Notches.map Notch.c) :: ((arC (cI .i8) 0 a1.Grain) ++ ([] : List AV))))) h208 (hV (.str s4_1) h210 (hV (.int .i64 s4_2) h212 (hN rfl hZ)))) fun e213 h215 h216 h217 h218 => sN ?_))))))))))
 clear h208 h210 h212
 rcases ite_some h with ⟨hb219, h⟩ | ⟨hb219, h⟩
 ·obtain ⟨x220, hx221, h⟩ := bind_some h
  refine cT h218 hb219 (xx (sN (sq (bl (sq (Rg (kx (mvO h215) (kx (ncP rfl) (kx (faP rfl ⟨ble rfl, blt rfl⟩ rfl) (kx (ldP rfl rfl) (kx (mvO h217) (kx (ixS rfl rfl hx221 Notch.fl) (kx (ldPA rfl rfl rfl) (ku (alO zero141) fun M223 hM224 => ?_))))))))))))))
  have o225 : M223[M.length]? = some (.live ⟨.box, 141, 2, [[.int .i8 0, .int .i16 0]]⟩) := push_new hM224
  refine kw (stO rfl rfl o225 rfl rfl ⟨rfl, ble rfl⟩ rfl rfl) fun M226 hM227 => ?_
  have o228 : M226[M.length]? = some (.live ⟨.box, 141, 2, [[.int .i8 x220.Kind, .int .i16 x220.At]]⟩) := set_same hM227 o225
  obtain ⟨_, hx235, h⟩ := bind_some h
  obtain ⟨x236, hx237, h⟩ := bind_some h
  obtain ⟨w238, hx239, h⟩ := bind_some h
  obtain ⟨r241, hx240, h⟩ := bind_some h
  obtain ⟨w242, hx243, h⟩ := bind_some h
  obtain ⟨w244, hx245, h⟩ := bind_some h
  refine Rn (hA h215 (hA h216 (hA h217 (hV (.loc M.length 1 0 0) rfl hZ)))) fun e229 h231 h232 h233 h234 => sN (Rd (kf (mvO h232) (fc (cl (v := .str ([100, 115, 108, 118, 99, 109] : List UInt8)) rfl rfl rfl rfl (spec_l01Letters_ok  _ hx235) nm) (kf (faO h234 o228 rfl) (kf (ldO rfl o228 rfl rfl rfl) (kf (faO h234 o228 rfl) (kf (ldO rfl o228 rfl rfl rfl) (kf (bAdd rfl rfl) (kf (ssl2 rfl (bnd1 rfl) (bnd1 rfl) hx237) (kf (sAdd rfl rfl hx239) (kf (faO h234 o228 rfl) (kf (ldO rfl o228 rfl rfl rfl) (kf (cvI rfl) (fc (cl (v := .str r241) rfl rfl (cns rfl rfl) rfl (spec_Decimal_ok (IntKind.i64.wrap x220.At) _ hx240) nm) (kf (sAdd rfl rfl hx243) (kf (sAdd rfl rfl hx245) (kf (mvO rfl) (fZ (Rn (hA h231 (hN rfl (hA h233 hZ))) fun e246 h248 h249 h250 => bN (sN (Rg (kx (mvO h250) (kx (bAdd rfl rfl) (kx (mvO rfl) (Rn (hA h248 (hA h249 (hN rfl hZ))) fun e251 h253 h254 h255 => ?_)))))))))))))))))))))))))
  clear h215 h216 h217 h218 h231 h233 h234 h248 h249
  obtain rfl := si h
  exact qN ⟨h253, h254, h255⟩
 refine cF h218 hb219 (xx (sE ?_))
 obtain rfl := si h
 exact qE ⟨rfl, h216⟩
noncomputable def spec_l01Text (a1 : Half) : Option ((List UInt8)) :=
 if a1.Stock = true then
  (Lw (spec_l01Text_b1 a1) (([115, 116, 111, 99, 107, 32] : List UInt8), 0)).bind fun y65 =>
  (Lw (spec_l01Text_b2 a1) (y65, 0)).bind fun y137 =>
  some y137
 else
  (Lw (spec_l01Text_b3 a1) (([102, 111, 105, 108, 32] : List UInt8), 0)).bind fun y189 =>
  (Lw (spec_l01Text_b4 a1) (y189, 0)).bind fun y261 =>
  some y261
def spec_l01Text_enc (r : (List UInt8)) : AV := .str r
theorem spec_l01Text_ok (a1 : Half) (r : (List UInt8)) (h : spec_l01Text a1 = some r) : Ev (fun k => CN k 142 [.pt none (.bool a1.Stock :: (.sl none (a1.Notches.map Notch.c) :: ((arC (cI .i8) 0 a1.Grain) ++ ([] : List AV))))] []) (fun p => rRes p.2 p.1 = spec_l01Text_enc r) := by
 unfold spec_l01Text at h
 refine Ev.enter (F := fun k => f142 (CN k) k) (fun k => callN_eq rfl Tryd.func142 rfl rfl rfl (by decide +kernel) (f142_eq _ _)) (sq (Rg (kx (mvO rfl) (Rn (hN rfl hZ) fun e1 h3 => sN (sq (Rg (kx (mvO rfl) (Rn (hA h3 (hN rfl hZ)) fun e4 h6 h7 => sN (sq (sq (Rg (kx (mvO h6) (kx (ncP rfl) (kx (faP rfl ⟨ble rfl, blt rfl⟩ rfl) (kx (ldP rfl rfl) (Rn (hA h6 (hA h7 (hN rfl hZ))) fun e8 h10 h11 h12 => sN ?_))))))))))))))))
 clear h3 h6 h7
 rcases ite_some h with ⟨hb13, h⟩ | ⟨hb13, h⟩
 ·obtain ⟨y65, hr61, h⟩ := bind_some h
  refine cT h12 hb13 (Rg (kx (mvO rfl) (Rn (hA h10 (hN rfl hZ)) fun e14 h16 h17 => sN (sq (sq (Rg (kx (mvO rfl) (Rn (hA h16 (hA h17 (hV (.int .i64 0) rfl hZ))) fun e18 h20 h21 h22 => sN (bl (Ev.loop (RS := spec_l01Text_b1_RS a1) (RR := spec_l01Text_b1_RR a1) (fun s r h e M hs => spec_l01Text_b1_ok a1 s r h e M hs) hr61 ⟨h20, h21, h22⟩ fun x e63 M64 hq62 => ?_))))))))))
  clear h10 h12 h16 h17
  obtain ⟨rfl, h66, h67⟩ := hq62
  obtain ⟨y137, hr133, h⟩ := bind_some h
  refine bE (sN (sq (sq (Rg (kx (mvO rfl) (Rn (hV (.pt none (.bool a1.Stock :: (.sl none (a1.Notches.map Notch.c) :: ((arC (cI .i8) 0 a1.Grain) ++ ([] : List AV))))) h66 (hV (.str y65) h67 (hV (.int .i64 0) rfl hZ))) fun e68 h70 h71 h72 => sN (bl (Ev.loop (RS := spec_l01Text_b2_RS a1) (RR := spec_l01Text_b2_RR a1) (fun s r h e M hs => spec_l01Text_b2_ok a1 s r h e M hs) hr133 ⟨h70, h71, h72⟩ fun x e135 M136 hq134 => ?_))))))))
  clear h66 h67
  obtain ⟨rfl, h138⟩ := hq134
  refine bE (sN (sq (Rg (kx (mvO h138) (kx (mvO rfl) (Rn (hN rfl hZ) fun e139 h141 => sN (xx ?_)))))))
  clear h138
  obtain rfl := si h
  exact eR (resT h141 res0) rfl
 obtain ⟨y189, hr185, h⟩ := bind_some h
 refine cF h12 hb13 (xx (sN (sq (sq (Rg (kx (mvO rfl) (Rn (hA h10 (hA h11 (hV (.int .i64 0) rfl hZ))) fun e142 h144 h145 h146 => sN (bl (Ev.loop (RS := spec_l01Text_b3_RS a1) (RR := spec_l01Text_b3_RR a1) (fun s r h e M hs => spec_l01Text_b3_ok a1 s r h e M hs) hr185 ⟨h144, h145, h146⟩ fun x e187 M188 hq186 => ?_)))))))))
 clear h10 h11 h12
 obtain ⟨rfl, h190, h191⟩ := hq186
 obtain ⟨y261, hr257, h⟩ := bind_some h
 refine bE (sN (sq (sq (Rg (kx (mvO rfl) (Rn (hV (.pt none (.bool a1.Stock :: (.sl none (a1.Notches.map Notch.c) :: ((arC (cI .i8) 0 a1.Grain) ++ ([] : List AV))))) h190 (hV (.str y189) h191 (hV (.int .i64 0) rfl hZ))) fun e192 h194 h195 h196 => sN (bl (Ev.loop (RS := spec_l01Text_b4_RS a1) (RR := spec_l01Text_b4_RR a1) (fun s r h e M hs => spec_l01Text_b4_ok a1 s r h e M hs) hr257 ⟨h194, h195, h196⟩ fun x e259 M260 hq258 => ?_))))))))
 clear h190 h191
 obtain ⟨rfl, h262⟩ := hq258
 refine bE (sN (sq (Rg (kx (mvO h262) (kx (mvO rfl) (Rn (hN rfl hZ) fun e263 h265 => sN (xx ?_)))))))
 clear h262
 obtain rfl := si h
 exact eR (resT h265 res0) rfl
/-! ### loop.example/g01263/spec.l06Text (f141) -/
abbrev spec_l06Text_b1_S := Int × Int
abbrev spec_l06Text_b1_R := Int
def spec_l06Text_b1_RS (a2 : List UInt8) (s : spec_l06Text_b1_S) (e : Env) (M : Mem) : Prop := eget e 0 = .int .u32 s.1 ∧ eget e 1 = .str a2 ∧ eget e 5 = .int .i64 s.2
def spec_l06Text_b1_RR (a2 : List UInt8) (g : spec_l06Text_b1_R) (x : Ex) (e : Env) (M : Mem) : Prop := x = .ext 0 ∧ eget e 0 = .int .u32 g
noncomputable def spec_l06Text_b1 (a2 : List UInt8) : spec_l06Text_b1_S → Option (spec_l06Text_b1_S ⊕ spec_l06Text_b1_R) := fun (s1_1, s1_2) =>
 if (decide (s1_2 < (a2.length : Int))) = true then
  (rd a2 s1_2).bind fun x33 =>
  some (.inl ((IntKind.u32.wrap ((ixor .u32 s1_1 (IntKind.u32.wrap (x33.toNat : Int))) * 16777619)), (IntKind.i64.wrap (s1_2 + 1))))
 else
  some (.inr s1_1)
theorem spec_l06Text_b1_ok (a2 : List UInt8) (s : spec_l06Text_b1_S) (r : spec_l06Text_b1_S ⊕ spec_l06Text_b1_R) (h : spec_l06Text_b1 a2 s = some r) (e : Env) (M : Mem) (hs : spec_l06Text_b1_RS a2 s e M) : Ev (fun k => (f141_l2 (CN k) k (prune [0, 1, 5] e) M).bind fun q => some q) (bQ (spec_l06Text_b1_RS a2) (spec_l06Text_b1_RR a2) r) := by
 obtain ⟨s1_1, s1_2⟩ := s
 unfold spec_l06Text_b1 at h
 obtain ⟨h20, h22, h24⟩ := hs
 generalize he19 : prune [0, 1, 5] e = e18
 have h21 := envp he19.symm rfl h20
 have h23 := envp he19.symm rfl h22
 have h25 := envp he19.symm rfl h24
 refine sq (sq (Rg (kx (mvO h25) (kx (mvO h23) (kx (lnB Tryd.underlying9 rfl) (kx (bLss rfl rfl) (Rn (hV (.int .u32 s1_1) h21 (hV (.str a2) h23 (hV (.int .i64 s1_2) h25 (hN rfl hZ)))) fun e26 h28 h29 h30 h31 => sN ?_)))))))
 clear h21 h23 h25
 rcases ite_some h with ⟨hb32, h⟩ | ⟨hb32, h⟩
 ·obtain ⟨x33, hx34, h⟩ := bind_some h
  refine cT h31 hb32 (xx (sN (sq (bl (Rg (kx (mvO h28) (kx (mvO h29) (kx (mvO h30) (kx (ixB rfl rfl hx34) (kx (cvI rfl) (kx (bXor rfl rfl) (kx (bMul rfl rfl) (kx (mvO rfl) (Rn (hN rfl (hA h29 (hA h30 hZ))) fun e35 h37 h38 h39 => bN (sN (Rg (kx (mvO h39) (kx (bAdd rfl rfl) (kx (mvO rfl) (Rn (hA h37 (hA h38 (hN rfl hZ))) fun e40 h42 h43 h44 => ?_))))))))))))))))))))
  clear h29 h30 h31 h37 h38
  obtain rfl := si h
  exact qN ⟨h42, h43, h44⟩
 refine cF h31 hb32 (xx (sE ?_))
 obtain rfl := si h
 exact qE ⟨rfl, h28⟩
noncomputable def spec_l06Text (a1 : Int) (a2 : List UInt8) : Option Int :=
 (Lw (spec_l06Text_b1 a2) (a1, 0)).bind fun y50 =>
 some y50
def spec_l06Text_enc (r : Int) : AV := .int .u32 r
theorem spec_l06Text_ok (a1 : Int) (a2 : List UInt8) (r : Int) (h : spec_l06Text a1 a2 = some r) : Ev (fun k => CN k 141 [.int .u32 a1, .str a2] []) (fun p => rRes p.2 p.1 = spec_l06Text_enc r) := by
 unfold spec_l06Text at h
 obtain ⟨y50, hr46, h⟩ := bind_some h
 refine Ev.enter (F := fun k => f141 (CN k) k) (fun k => callN_eq rfl Tryd.func141 rfl rfl rfl (by decide +kernel) (f141_eq _ _)) (sq (Rg (kx (mvO rfl) (Rn (hN rfl (hN rfl hZ)) fun e1 h3 h4 => sN (sq (sq (Rg (kx (mvO rfl) (Rn (hA h3 (hA h4 (hV (.int .i64 0) rfl hZ))) fun e5 h7 h8 h9 => sN (bl (Ev.loop (RS := spec_l06Text_b1_RS a2) (RR := spec_l06Text_b1_RR a2) (fun s r h e M hs => spec_l06Text_b1_ok a2 s r h e M hs) hr46 ⟨h7, h8, h9⟩ fun x e48 M49 hq47 => ?_)))))))))))
 clear h3 h4
 obtain ⟨rfl, h51⟩ := hq47
 refine bE (sN (sq (Rg (kx (mvO h51) (kx (mvO rfl) (Rn (hN rfl hZ) fun e52 h54 => sN (xx ?_)))))))
 clear h51
 obtain rfl := si h
 exact eR (resT h54 res0) rfl
/-! ### loop.example/g01263/spec.l01Grain (f140) -/
abbrev spec_l01Grain_b1_S := Int
abbrev spec_l01Grain_b1_R := Unit ⊕ Unit
def spec_l01Grain_b1_RS (a1 : Ar 16 Int) (s : spec_l01Grain_b1_S) (e : Env) (M : Mem) : Prop := eget e 1 = .pt none (arC (cI .i8) 0 a1) ∧ eget e 3 = .int .i64 s
def spec_l01Grain_b1_RR (a1 : Ar 16 Int) (r : spec_l01Grain_b1_R) (x : Ex) (e : Env) (M : Mem) : Prop :=
  match r with
  | (.inl g) => x = .ret ∧ eget e 2 = .bool false
  | (.inr g) => x = .ext 0 ∧ True
noncomputable def spec_l01Grain_b1 (a1 : Ar 16 Int) : spec_l01Grain_b1_S → Option (spec_l01Grain_b1_S ⊕ spec_l01Grain_b1_R) := fun s1_1 =>
 if (decide (s1_1 < 16)) = true then
  (rdA a1 s1_1).bind fun x26 =>
  if (decide (x26 < (-3))) = true then
   some (.inr (.inl ()))
  else
   (rdA a1 s1_1).bind fun x37 =>
   if (decide (x37 > 3)) = true then
    some (.inr (.inl ()))
   else
    some (.inl (IntKind.i64.wrap (s1_1 + 1)))
 else
  some (.inr (.inr ()))
theorem spec_l01Grain_b1_ok (a1 : Ar 16 Int) (s : spec_l01Grain_b1_S) (r : spec_l01Grain_b1_S ⊕ spec_l01Grain_b1_R) (h : spec_l01Grain_b1 a1 s = some r) (e : Env) (M : Mem) (hs : spec_l01Grain_b1_RS a1 s e M) : Ev (fun k => (f140_l2 (CN k) k (prune [1, 3] e) M).bind fun q => some q) (bQ (spec_l01Grain_b1_RS a1) (spec_l01Grain_b1_RR a1) r) := by
 revert h hs
 revert s
 intro s1_1 h hs
 unfold spec_l01Grain_b1 at h
 obtain ⟨h16, h18⟩ := hs
 generalize he15 : prune [1, 3] e = e14
 have h17 := envp he15.symm rfl h16
 have h19 := envp he15.symm rfl h18
 refine sq (sq (Rg (kx (mvO h19) (kx (bLss rfl rfl) (Rn (hV (.pt none (arC (cI .i8) 0 a1)) h17 (hV (.int .i64 s1_1) h19 (hN rfl hZ))) fun e20 h22 h23 h24 => sN ?_)))))
 clear h17 h19
 rcases ite_some h with ⟨hb25, h⟩ | ⟨hb25, h⟩
 ·obtain ⟨x26, hx27, h⟩ := bind_some h
  refine cT h24 hb25 (xx (sN (sq (bl (sq (Rg (kx (mvO h23) (kx (ixPA (c := (cI .i8)) (z := 0) (g := a1) h22 rfl hx27 (fun _ => rfl)) (kx (ldP rfl rfl) (kx (bLss rfl rfl) (kx (mvO rfl) ?_)))))))))))
  rcases ite_some h with ⟨hb28, h⟩ | ⟨hb28, h⟩
  ·refine kx (gsF rfl hb28) (kx (gsF rfl hb28) (kx (gsF rfl hb28) (kx (gsF rfl hb28) (kx (pkT rfl hb28 rfl) (Rn (hA h22 (hA h23 (hV (.bool true) rfl hZ))) fun e29 h31 h32 h33 => sN (cT h33 rfl (sq (Rg (kx (mvO rfl) (Rn (hV (.bool false) rfl hZ) fun e34 h36 => sN (xx (bR (sR ?_)))))))))))))
   clear h22 h23 h24 h31 h32 h33
   obtain rfl := si h
   exact qR ⟨rfl, h36⟩
  obtain ⟨x37, hx38, h⟩ := bind_some h
  refine kx (guF rfl hb28 (mvO h23)) (kx (guF rfl hb28 (ixPA (c := (cI .i8)) (z := 0) (g := a1) h22 rfl hx38 (fun _ => rfl))) (kx (guF rfl hb28 (ldP rfl rfl)) (kx (guF rfl hb28 (bGtr rfl rfl)) (kx (pkF rfl hb28 rfl) (Rn (hA h22 (hA h23 (hN rfl hZ))) fun e39 h41 h42 h43 => sN ?_)))))
  clear h22 h23 h24
  rcases ite_some h with ⟨hb44, h⟩ | ⟨hb44, h⟩
  ·refine cT h43 hb44 (sq (Rg (kx (mvO rfl) (Rn (hV (.bool false) rfl hZ) fun e45 h47 => sN (xx (bR (sR ?_)))))))
   clear h41 h42 h43
   obtain rfl := si h
   exact qR ⟨rfl, h47⟩
  refine cF h43 hb44 (xx (bN (sN (Rg (kx (mvO h42) (kx (bAdd rfl rfl) (kx (mvO rfl) (Rn (hA h41 (hN rfl hZ)) fun e48 h50 h51 => ?_))))))))
  clear h41 h43
  obtain rfl := si h
  exact qN ⟨h50, h51⟩
 refine cF h24 hb25 (xx (sE ?_))
 obtain rfl := si h
 exact qE ⟨rfl, trivial⟩
noncomputable def spec_l01Grain (a1 : Ar 16 Int) : Option Bool :=
 (Lw (spec_l01Grain_b1 a1) 0).bind fun r => match r with
 | (.inl _) =>
  some false
 | (.inr _) =>
  some true
def spec_l01Grain_enc (r : Bool) : AV := .bool r
theorem spec_l01Grain_ok (a1 : Ar 16 Int) (r : Bool) (h : spec_l01Grain a1 = some r) : Ev (fun k => CN k 140 [.agg (arC (cI .i8) 0 a1)] []) (fun p => rRes p.2 p.1 = spec_l01Grain_enc r) := by
 unfold spec_l01Grain at h
 obtain ⟨r52, hr53, h⟩ := bind_some h
 refine Ev.enter (F := fun k => f140 (CN k) k) (fun k => callN_eq rfl Tryd.func140 rfl rfl rfl (by decide +kernel) (f140_eq _ _)) (sq (Rg (kx (bxI rfl rfl ⟨rfl, rfl, by decide⟩) (kx (mvO rfl) (Rn (hN rfl hZ) fun e1 h3 => sN (sq (sq (Rg (kx (mvO rfl) (Rn (hA h3 (hV (.int .i64 0) rfl hZ)) fun e4 h6 h7 => sN (bl ?_)))))))))))
 clear h3
 rcases r52 with _ | _
 ·refine Ev.loop (RS := spec_l01Grain_b1_RS a1) (RR := spec_l01Grain_b1_RR a1) (fun s r h e M hs => spec_l01Grain_b1_ok a1 s r h e M hs) hr53 ⟨h6, h7⟩ fun x e55 M56 hq54 => ?_
  obtain ⟨rfl, h57⟩ := hq54
  refine bR (sR ?_)
  obtain rfl := si h
  exact eR (resT h57 res0) rfl
 refine Ev.loop (RS := spec_l01Grain_b1_RS a1) (RR := spec_l01Grain_b1_RR a1) (fun s r h e M hs => spec_l01Grain_b1_ok a1 s r h e M hs) hr53 ⟨h6, h7⟩ fun x e58 M59 hq54 => ?_
 obtain ⟨rfl, _⟩ := hq54
 refine bE (sN (sq (Rg (kx (mvO rfl) (Rn (hV (.bool true) rfl hZ) fun e60 h62 => sN (xx ?_))))))
 obtain rfl := si h
 exact eR (resT h62 res0) rfl
/-! ### loop.example/g01263/spec.l01Notches (f139) -/
def spec_l01Notches_c2_Q (a1 : List Notch) (s1_1 : Int) (x34 : Notch) (i902_1 : Nat) (g : Bool) (q : Out) : Prop := q.1 = .nrm ∧ eget q.2.1 0 = .sl none (a1.map Notch.c) ∧ eget q.2.1 3 = .int .i64 s1_1 ∧ eget q.2.1 4 = .loc i902_1 1 0 0 ∧ eget q.2.1 32 = .bool g ∧ q.2.2[i902_1]? = some (.live ⟨.box, 141, 2, [[.int .i8 x34.Kind, .int .i16 x34.At]]⟩)
abbrev spec_l01Notches_b1_S := Int
abbrev spec_l01Notches_b1_R := Unit ⊕ Unit
def spec_l01Notches_b1_RS (a1 : List Notch) (s : spec_l01Notches_b1_S) (e : Env) (M : Mem) : Prop := eget e 0 = .sl none (a1.map Notch.c) ∧ eget e 3 = .int .i64 s
def spec_l01Notches_b1_RR (a1 : List Notch) (r : spec_l01Notches_b1_R) (x : Ex) (e : Env) (M : Mem) : Prop :=
  match r with
  | (.inl g) => x = .ret ∧ eget e 2 = .bool false
  | (.inr g) => x = .ext 0 ∧ True
noncomputable def spec_l01Notches_b1 (a1 : List Notch) : spec_l01Notches_b1_S → Option (spec_l01Notches_b1_S ⊕ spec_l01Notches_b1_R) := fun s1_1 =>
 if (decide (s1_1 < (a1.length : Int))) = true then
  (rd a1 s1_1).bind fun x34 =>
  ((spec_l01Kind (IntKind.i64.wrap x34.Kind)).bind fun r49 =>
  if r49 = true then
   if (decide (x34.At < 0)) = true then
    some true
   else
    (spec_l01Ends x34).bind fun r59 =>
    some (decide (r59 > 200))
  else
   some true).bind fun y74 =>
  if y74 = true then
   some (.inr (.inl ()))
  else
   if (decide (s1_1 > 0)) = true then
    (rd a1 (IntKind.i64.wrap (s1_1 - 1))).bind fun x85 =>
    if (decide (x34.Kind > x85.Kind)) = true then
     some (.inr (.inl ()))
    else
     (rd a1 (IntKind.i64.wrap (s1_1 - 1))).bind fun x96 =>
     (spec_l01Ends x96).bind fun r99 =>
     if (decide ((IntKind.i64.wrap x34.At) ≤ r99)) = true then
      some (.inr (.inl ()))
     else
      some (.inl (IntKind.i64.wrap (s1_1 + 1)))
   else
    some (.inl (IntKind.i64.wrap (s1_1 + 1)))
 else
  some (.inr (.inr ()))
theorem spec_l01Notches_b1_ok (a1 : List Notch) (s : spec_l01Notches_b1_S) (r : spec_l01Notches_b1_S ⊕ spec_l01Notches_b1_R) (h : spec_l01Notches_b1 a1 s = some r) (e : Env) (M : Mem) (hs : spec_l01Notches_b1_RS a1 s e M) : Ev (fun k => (f139_l4 (CN k) k (prune [0, 3] e) M).bind fun q => some q) (bQ (spec_l01Notches_b1_RS a1) (spec_l01Notches_b1_RR a1) r) := by
 revert h hs
 revert s
 intro s1_1 h hs
 unfold spec_l01Notches_b1 at h
 obtain ⟨h24, h26⟩ := hs
 generalize he23 : prune [0, 3] e = e22
 have h25 := envp he23.symm rfl h24
 have h27 := envp he23.symm rfl h26
 refine sq (sq (Rg (kx (mvO h27) (kx (mvO h25) (kx (lnS Tryd.underlying48 rfl) (kx (bLss rfl rfl) (Rn (hV (.sl none (a1.map Notch.c)) h25 (hV (.int .i64 s1_1) h27 (hN rfl hZ))) fun e28 h30 h31 h32 => sN ?_)))))))
 clear h25 h27
 rcases ite_some h with ⟨hb33, h⟩ | ⟨hb33, h⟩
 ·obtain ⟨x34, hx35, h⟩ := bind_some h
  refine cT h32 hb33 (xx (sN (sq (bl (sq (Rg (kx (mvO h30) (kx (mvO h31) (kx (ixS rfl rfl hx35 Notch.fl) (kx (ldPA rfl rfl rfl) (ku (alO zero141) fun M37 hM38 => ?_)))))))))))
  have o39 : M37[M.length]? = some (.live ⟨.box, 141, 2, [[.int .i8 0, .int .i16 0]]⟩) := push_new hM38
  refine kw (stO rfl rfl o39 rfl rfl ⟨rfl, ble rfl⟩ rfl rfl) fun M40 hM41 => ?_
  have o42 : M40[M.length]? = some (.live ⟨.box, 141, 2, [[.int .i8 x34.Kind, .int .i16 x34.At]]⟩) := set_same hM41 o39
  obtain ⟨r123, hr124, h⟩ := bind_some h
  refine Rn (hA h30 (hA h31 (hV (.loc M.length 1 0 0) rfl hZ))) fun e43 h45 h46 h47 => sN (sq (sq ?_))
  clear h30 h31 h32
  refine Ev.cut (Q1 := spec_l01Notches_c2_Q a1 s1_1 x34 M.length r123) (by
      have h := hr124
      obtain ⟨r49, hx48, h⟩ := bind_some h
      refine Rg (kx (faO h47 o42 rfl) (kx (ldO rfl o42 rfl rfl rfl) (kx (cvI rfl) (kc (cl (v := .bool r49) rfl rfl (cns rfl rfl) rfl (spec_l01Kind_ok (IntKind.i64.wrap x34.Kind) _ hx48) nm) (kx (uNot rfl) (kx (mvO rfl) ?_))))))
      rcases ite_some h with ⟨hb50, h⟩ | ⟨hb50, h⟩
      ·refine kx (guF rfl (congrArg Bool.not hb50) (faO h47 o42 rfl)) (kx (guF rfl (congrArg Bool.not hb50) (ldO rfl o42 rfl rfl rfl)) (kx (guF rfl (congrArg Bool.not hb50) (bLss rfl rfl)) (kx (pkF rfl (congrArg Bool.not hb50) rfl) (kx (mvO rfl) ?_))))
       rcases ite_some h with ⟨hb51, h⟩ | ⟨hb51, h⟩
       ·refine kx (gsF rfl hb51) (kc (Ev.gsF rfl hb51) (kx (gsF rfl hb51) (kx (pkT rfl hb51 rfl) (Rn (hA h45 (hA h46 (hA h47 (hV (.bool true) rfl hZ)))) fun e52 h54 h55 h56 h57 => ?_))))
        clear h45 h46 h47
        obtain rfl := si h
        exact kd (show spec_l01Notches_c2_Q a1 s1_1 x34 M.length _ _ from ⟨rfl, h54, h55, h56, h57, o42⟩)
       obtain ⟨r59, hx58, h⟩ := bind_some h
       refine kx (guF rfl hb51 (ldOA h47 o42 rfl rfl (ble rfl) rfl)) (kc (Ev.guF rfl hb51 (cl (v := .int .i64 r59) rfl rfl (cns rfl rfl) rfl (spec_l01Ends_ok x34 _ hx58) nm)) (kx (guF rfl hb51 (bGtr rfl rfl)) (kx (pkF rfl hb51 rfl) (Rn (hA h45 (hA h46 (hA h47 (hN rfl hZ)))) fun e60 h62 h63 h64 h65 => ?_))))
       clear h45 h46 h47
       obtain rfl := si h
       exact kd (show spec_l01Notches_c2_Q a1 s1_1 x34 M.length _ _ from ⟨rfl, h62, h63, h64, h65, o42⟩)
      refine kx (gsF rfl (congrArg Bool.not hb50)) (kx (gsF rfl (congrArg Bool.not hb50)) (kx (gsF rfl (congrArg Bool.not hb50)) (kx (pkT rfl (congrArg Bool.not hb50) rfl) (kx (mvO rfl) (kx (gsF rfl rfl) (kc (Ev.gsF rfl rfl) (kx (gsF rfl rfl) (kx (pkT rfl rfl rfl) (Rn (hA h45 (hA h46 (hA h47 (hV (.bool true) rfl hZ)))) fun e66 h68 h69 h70 h71 => ?_)))))))))
      clear h45 h46 h47
      obtain rfl := si h
      exact kd (show spec_l01Notches_c2_Q a1 s1_1 x34 M.length _ _ from ⟨rfl, h68, h69, h70, h71, o42⟩)) ?_
  revert h hr124
  revert r123
  intro y74 hr124 h
  intro x e72 M73 hq122
  obtain ⟨rfl, h75, h76, h77, h78, o79⟩ := hq122
  refine sN ?_
  rcases ite_some h with ⟨hb80, h⟩ | ⟨hb80, h⟩
  ·refine cT h78 hb80 (sq (Rg (kx (mvO rfl) (Rn (hV (.bool false) rfl hZ) fun e81 h83 => sN (xx (sR (bR (sR ?_))))))))
   clear h75 h76 h77 h78
   obtain rfl := si h
   exact qR ⟨rfl, h83⟩
  refine cF h78 hb80 (xx (sN (sq (Rd (kf (mvO h76) (kf (bGtr rfl rfl) (kf (mvO rfl) ?_)))))))
  rcases ite_some h with ⟨hb84, h⟩ | ⟨hb84, h⟩
  ·obtain ⟨x85, hx86, h⟩ := bind_some h
   refine kf (guT rfl hb84 (faO h77 o79 rfl)) (kf (guT rfl hb84 (ldO rfl o79 rfl rfl rfl)) (kf (guT rfl hb84 (mvO h75)) (kf (guT rfl hb84 (mvO h76)) (kf (guT rfl hb84 (bSub rfl rfl)) (kf (guT rfl hb84 (ixS rfl rfl hx86 Notch.fl)) (kf (guT rfl hb84 (faP rfl ⟨ble rfl, blt rfl⟩ rfl)) (kf (guT rfl hb84 (ldP rfl rfl)) (kf (guT rfl hb84 (bGtr rfl rfl)) (kf (guT rfl hb84 (mvO rfl)) ?_)))))))))
   rcases ite_some h with ⟨hb87, h⟩ | ⟨hb87, h⟩
   ·refine kf (gsF rfl hb87) (kf (gsF rfl hb87) (kf (gsF rfl hb87) (kf (gsF rfl hb87) (kf (gsF rfl hb87) (kf (gsF rfl hb87) (kf (gsF rfl hb87) (kf (gsF rfl hb87) (fc (Ev.gsF rfl hb87) (kf (gsF rfl hb87) (kf (guT rfl hb84 (pkT rfl hb87 rfl)) (kf (pkT rfl hb84 rfl) (fZ (Rn (hV (.sl none (a1.map Notch.c)) h75 (hV (.int .i64 s1_1) h76 (hV (.bool true) rfl hZ))) fun e88 h90 h91 h92 => sN (cT h92 rfl (sq (Rg (kx (mvO rfl) (Rn (hV (.bool false) rfl hZ) fun e93 h95 => sN (xx (bR (sR ?_)))))))))))))))))))))
    clear h75 h76 h77 h78 h90 h91 h92
    obtain rfl := si h
    exact qR ⟨rfl, h95⟩
   obtain ⟨x96, hx97, h⟩ := bind_some h
   obtain ⟨r99, hx98, h⟩ := bind_some h
   refine kf (guF rfl hb87 (faO h77 o79 rfl)) (kf (guF rfl hb87 (ldO rfl o79 rfl rfl rfl)) (kf (guF rfl hb87 (cvI rfl)) (kf (guF rfl hb87 (mvO h75)) (kf (guF rfl hb87 (mvO h76)) (kf (guF rfl hb87 (bSub rfl rfl)) (kf (guF rfl hb87 (ixS rfl rfl hx97 Notch.fl)) (kf (guF rfl hb87 (ldPA rfl rfl rfl)) (fc (Ev.guF rfl hb87 (cl (v := .int .i64 r99) rfl rfl (cns rfl rfl) rfl (spec_l01Ends_ok x96 _ hx98) nm)) (kf (guF rfl hb87 (bLeq rfl rfl)) (kf (guT rfl hb84 (pkF rfl hb87 rfl)) (kf (pkT rfl hb84 rfl) (fZ (Rn (hV (.sl none (a1.map Notch.c)) h75 (hV (.int .i64 s1_1) h76 (hN rfl hZ))) fun e100 h102 h103 h104 => sN ?_)))))))))))))
   clear h75 h76 h77 h78
   rcases ite_some h with ⟨hb105, h⟩ | ⟨hb105, h⟩
   ·refine cT h104 hb105 (sq (Rg (kx (mvO rfl) (Rn (hV (.bool false) rfl hZ) fun e106 h108 => sN (xx (bR (sR ?_)))))))
    clear h102 h103 h104
    obtain rfl := si h
    exact qR ⟨rfl, h108⟩
   refine cF h104 hb105 (xx (bN (sN (Rg (kx (mvO h103) (kx (bAdd rfl rfl) (kx (mvO rfl) (Rn (hA h102 (hN rfl hZ)) fun e109 h111 h112 => ?_))))))))
   clear h102 h104
   obtain rfl := si h
   exact qN ⟨h111, h112⟩
  refine kf (gsT rfl hb84) (kf (gsT rfl hb84) (kf (gsT rfl hb84) (kf (gsT rfl hb84) (kf (gsT rfl hb84) (kf (gsT rfl hb84) (kf (gsT rfl hb84) (kf (gsT rfl hb84) (kf (gsT rfl hb84) (kf (gsT rfl hb84) (kf (gsU rfl) (kf (gsU rfl) (kf (gsU rfl) (kf (gsU rfl) (kf (gsU rfl) (kf (gsU rfl) (kf (gsU rfl) (kf (gsU rfl) (fc (Ev.gsU rfl) (kf (gsU rfl) (kf (gsT rfl hb84) (kf (pkF rfl hb84 rfl) (fZ (Rn (hV (.sl none (a1.map Notch.c)) h75 (hV (.int .i64 s1_1) h76 (hV (.bool false) rfl hZ))) fun e113 h115 h116 h117 => sN (cF h117 rfl (xx (bN (sN (Rg (kx (mvO h116) (kx (bAdd rfl rfl) (kx (mvO rfl) (Rn (hA h115 (hN rfl hZ)) fun e118 h120 h121 => ?_))))))))))))))))))))))))))))))))
  clear h75 h76 h77 h78 h115 h117
  obtain rfl := si h
  exact qN ⟨h120, h121⟩
 refine cF h32 hb33 (xx (sE ?_))
 obtain rfl := si h
 exact qE ⟨rfl, trivial⟩
noncomputable def spec_l01Notches (a1 : List Notch) : Option Bool :=
 if (decide ((a1.length : Int) > 60)) = true then
  some false
 else
  (Lw (spec_l01Notches_b1 a1) 0).bind fun r => match r with
  | (.inl _) =>
   some false
  | (.inr _) =>
   some true
def spec_l01Notches_enc (r : Bool) : AV := .bool r
theorem spec_l01Notches_ok (a1 : List Notch) (r : Bool) (h : spec_l01Notches a1 = some r) : Ev (fun k => CN k 139 [.sl none (a1.map Notch.c)] []) (fun p => rRes p.2 p.1 = spec_l01Notches_enc r) := by
 unfold spec_l01Notches at h
 refine Ev.enter (F := fun k => f139 (CN k) k) (fun k => callN_eq rfl Tryd.func139 rfl rfl rfl (by decide +kernel) (f139_eq _ _)) (sq (Rg (kx (mvO rfl) (Rn (hN rfl hZ) fun e1 h3 => sN (sq (sq (Rg (kx (mvO h3) (kx (lnS Tryd.underlying48 rfl) (kx (bGtr rfl rfl) (Rn (hA h3 (hN rfl hZ)) fun e4 h6 h7 => sN ?_)))))))))))
 clear h3
 rcases ite_some h with ⟨hb8, h⟩ | ⟨hb8, h⟩
 ·refine cT h7 hb8 (sq (Rg (kx (mvO rfl) (Rn (hV (.bool false) rfl hZ) fun e9 h11 => sN (xx (sR ?_))))))
  clear h6 h7
  obtain rfl := si h
  exact eR (resT h11 res0) rfl
 obtain ⟨r125, hr126, h⟩ := bind_some h
 refine cF h7 hb8 (xx (sN (sq (sq (Rg (kx (mvO rfl) (Rn (hA h6 (hV (.int .i64 0) rfl hZ)) fun e12 h14 h15 => sN (bl ?_))))))))
 clear h6 h7
 rcases r125 with _ | _
 ·refine Ev.loop (RS := spec_l01Notches_b1_RS a1) (RR := spec_l01Notches_b1_RR a1) (fun s r h e M hs => spec_l01Notches_b1_ok a1 s r h e M hs) hr126 ⟨h14, h15⟩ fun x e128 M129 hq127 => ?_
  obtain ⟨rfl, h130⟩ := hq127
  refine bR (sR ?_)
  obtain rfl := si h
  exact eR (resT h130 res0) rfl
 refine Ev.loop (RS := spec_l01Notches_b1_RS a1) (RR := spec_l01Notches_b1_RR a1) (fun s r h e M hs => spec_l01Notches_b1_ok a1 s r h e M hs) hr126 ⟨h14, h15⟩ fun x e131 M132 hq127 => ?_
 obtain ⟨rfl, _⟩ := hq127
 refine bE (sN (sq (Rg (kx (mvO rfl) (Rn (hV (.bool true) rfl hZ) fun e133 h135 => sN (xx ?_))))))
 obtain rfl := si h
 exact eR (resT h135 res0) rfl
/-! ### loop.example/g01263/spec.l01SameNotches (f130) -/
abbrev spec_l01SameNotches_b1_S := Int
abbrev spec_l01SameNotches_b1_R := Unit ⊕ Unit
def spec_l01SameNotches_b1_RS (a1 : List Notch) (a2 : List Notch) (s : spec_l01SameNotches_b1_S) (e : Env) (M : Mem) : Prop := eget e 0 = .sl none (a1.map Notch.c) ∧ eget e 1 = .sl none (a2.map Notch.c) ∧ eget e 5 = .int .i64 s
def spec_l01SameNotches_b1_RR (a1 : List Notch) (a2 : List Notch) (r : spec_l01SameNotches_b1_R) (x : Ex) (e : Env) (M : Mem) : Prop :=
  match r with
  | (.inl g) => x = .ret ∧ eget e 4 = .bool false
  | (.inr g) => x = .ext 0 ∧ True
noncomputable def spec_l01SameNotches_b1 (a1 : List Notch) (a2 : List Notch) : spec_l01SameNotches_b1_S → Option (spec_l01SameNotches_b1_S ⊕ spec_l01SameNotches_b1_R) := fun s1_1 =>
 if (decide (s1_1 < (a1.length : Int))) = true then
  (rd a1 s1_1).bind fun x42 =>
  (rd a2 s1_1).bind fun x44 =>
  if ((x42.Kind == x44.Kind) && ((x42.At == x44.At) && true)) = true then
   some (.inl (IntKind.i64.wrap (s1_1 + 1)))
  else
   some (.inr (.inl ()))
 else
  some (.inr (.inr ()))
theorem spec_l01SameNotches_b1_ok (a1 : List Notch) (a2 : List Notch) (s : spec_l01SameNotches_b1_S) (r : spec_l01SameNotches_b1_S ⊕ spec_l01SameNotches_b1_R) (h : spec_l01SameNotches_b1 a1 a2 s = some r) (e : Env) (M : Mem) (hs : spec_l01SameNotches_b1_RS a1 a2 s e M) : Ev (fun k => (f130_l4 (CN k) k (prune [0, 1, 5] e) M).bind fun q => some q) (bQ (spec_l01SameNotches_b1_RS a1 a2) (spec_l01SameNotches_b1_RR a1 a2) r) := by
 revert h hs
 revert s
 intro s1_1 h hs
 unfold spec_l01SameNotches_b1 at h
 obtain ⟨h29, h31, h33⟩ := hs
 generalize he28 : prune [0, 1, 5] e = e27
 have h30 := envp he28.symm rfl h29
 have h32 := envp he28.symm rfl h31
 have h34 := envp he28.symm rfl h33
 refine sq (sq (Rg (kx (mvO h34) (kx (mvO h30) (kx (lnS Tryd.underlying48 rfl) (kx (bLss rfl rfl) (Rn (hV (.sl none (a1.map Notch.c)) h30 (hV (.sl none (a2.map Notch.c)) h32 (hV (.int .i64 s1_1) h34 (hN rfl hZ)))) fun e35 h37 h38 h39 h40 => sN ?_)))))))
 clear h30 h32 h34
 rcases ite_some h with ⟨hb41, h⟩ | ⟨hb41, h⟩
 ·obtain ⟨x42, hx43, h⟩ := bind_some h
  obtain ⟨x44, hx45, h⟩ := bind_some h
  refine cT h40 hb41 (xx (sN (sq (bl (sq (Rd (kf (mvO h37) (kf (mvO h39) (kf (ixS rfl rfl hx43 Notch.fl) (kf (ldPA rfl rfl rfl) (kf (mvO h38) (kf (mvO h39) (kf (ixS rfl rfl hx45 Notch.fl) (kf (ldPA rfl rfl rfl) (kf (gNeq rfl rfl (by kernel_rfl) rfl) (fZ (Rn (hA h37 (hA h38 (hA h39 (hN rfl hZ)))) fun e46 h48 h49 h50 h51 => sN ?_)))))))))))))))))
  clear h37 h38 h39 h40
  rcases ite_some h with ⟨hb52, h⟩ | ⟨hb52, h⟩
  ·refine cF h51 (congrArg Bool.not hb52) (xx (bN (sN (Rg (kx (mvO h50) (kx (bAdd rfl rfl) (kx (mvO rfl) (Rn (hA h48 (hA h49 (hN rfl hZ))) fun e53 h55 h56 h57 => ?_))))))))
   clear h48 h49 h51
   obtain rfl := si h
   exact qN ⟨h55, h56, h57⟩
  refine cT h51 (congrArg Bool.not hb52) (sq (Rg (kx (mvO rfl) (Rn (hV (.bool false) rfl hZ) fun e58 h60 => sN (xx (bR (sR ?_)))))))
  clear h48 h49 h50 h51
  obtain rfl := si h
  exact qR ⟨rfl, h60⟩
 refine cF h40 hb41 (xx (sE ?_))
 obtain rfl := si h
 exact qE ⟨rfl, trivial⟩
noncomputable def spec_l01SameNotches (a1 : List Notch) (a2 : List Notch) : Option Bool :=
 if ((a1.length : Int) != (a2.length : Int)) = true then
  some false
 else
  (Lw (spec_l01SameNotches_b1 a1 a2) 0).bind fun r => match r with
  | (.inl _) =>
   some false
  | (.inr _) =>
   some true
def spec_l01SameNotches_enc (r : Bool) : AV := .bool r
theorem spec_l01SameNotches_ok (a1 : List Notch) (a2 : List Notch) (r : Bool) (h : spec_l01SameNotches a1 a2 = some r) : Ev (fun k => CN k 130 [.sl none (a1.map Notch.c), .sl none (a2.map Notch.c)] []) (fun p => rRes p.2 p.1 = spec_l01SameNotches_enc r) := by
 unfold spec_l01SameNotches at h
 refine Ev.enter (F := fun k => f130 (CN k) k) (fun k => callN_eq rfl Tryd.func130 rfl rfl rfl (by decide +kernel) (f130_eq _ _)) (sq (Rg (kx (mvO rfl) (Rn (hN rfl (hN rfl hZ)) fun e1 h3 h4 => sN (sq (sq (Rg (kx (mvO h3) (kx (lnS Tryd.underlying48 rfl) (kx (mvO h4) (kx (lnS Tryd.underlying48 rfl) (kx (bNeq rfl rfl) (Rn (hA h3 (hA h4 (hN rfl hZ))) fun e5 h7 h8 h9 => sN ?_)))))))))))))
 clear h3 h4
 rcases ite_some h with ⟨hb10, h⟩ | ⟨hb10, h⟩
 ·refine cT h9 hb10 (sq (Rg (kx (mvO rfl) (Rn (hV (.bool false) rfl hZ) fun e11 h13 => sN (xx (sR ?_))))))
  clear h7 h8 h9
  obtain rfl := si h
  exact eR (resT h13 res0) rfl
 obtain ⟨r61, hr62, h⟩ := bind_some h
 refine cF h9 hb10 (xx (sN (sq (sq (Rg (kx (mvO rfl) (Rn (hA h7 (hA h8 (hV (.int .i64 0) rfl hZ))) fun e14 h16 h17 h18 => sN (bl ?_))))))))
 clear h7 h8 h9
 rcases r61 with _ | _
 ·refine Ev.loop (RS := spec_l01SameNotches_b1_RS a1 a2) (RR := spec_l01SameNotches_b1_RR a1 a2) (fun s r h e M hs => spec_l01SameNotches_b1_ok a1 a2 s r h e M hs) hr62 ⟨h16, h17, h18⟩ fun x e64 M65 hq63 => ?_
  obtain ⟨rfl, h66⟩ := hq63
  refine bR (sR ?_)
  obtain rfl := si h
  exact eR (resT h66 res0) rfl
 refine Ev.loop (RS := spec_l01SameNotches_b1_RS a1 a2) (RR := spec_l01SameNotches_b1_RR a1 a2) (fun s r h e M hs => spec_l01SameNotches_b1_ok a1 a2 s r h e M hs) hr62 ⟨h16, h17, h18⟩ fun x e67 M68 hq63 => ?_
 obtain ⟨rfl, _⟩ := hq63
 refine bE (sN (sq (Rg (kx (mvO rfl) (Rn (hV (.bool true) rfl hZ) fun e69 h71 => sN (xx ?_))))))
 obtain rfl := si h
 exact eR (resT h71 res0) rfl
/-! ### loop.example/g01263/impl.width (f129) -/
noncomputable def impl_width (a1 : Int) : Option Int :=
 (rd [1, 2, 4, 6, 9, 12] a1).bind fun x4 =>
 some x4
def impl_width_enc (r : Int) : AV := .int .i64 r
theorem impl_width_ok (a1 : Int) (r : Int) (h : impl_width a1 = some r) : Ev (fun k => CN k 129 [.int .i64 a1] []) (fun p => rRes p.2 p.1 = impl_width_enc r) := by
 unfold impl_width at h
 obtain ⟨x4, hx5, h⟩ := bind_some h
 refine Ev.enter (F := fun k => f129 (CN k) k) (fun k => callN_eq rfl Tryd.func129 rfl rfl rfl (by decide +kernel) (f129_eq _ _)) (sq (Rg (kx (mvO rfl) (Rn (hN rfl hZ) fun e1 h3 => sN (sq (Rg (kx (litI (cns rfl (cns rfl (cns rfl (cns rfl (cns rfl (cns rfl rfl)))))) rfl ⟨rfl, by decide⟩) (kx (mvO h3) (kx (ixLt rfl rfl hx5 (cI_fl _)) (kx (ldP rfl rfl) (kx (mvO rfl) (Rn (hN rfl hZ) fun e6 h8 => sN (xx ?_)))))))))))))
 clear h3
 obtain rfl := si h
 exact eR (resT h8 res0) rfl
/-! ### loop.example/g01263/spec.l06Last (f128) -/
noncomputable def spec_l06Last (a1 : Chain) : Option ((List UInt8) × Int) :=
 (rd a1.Marks (IntKind.i64.wrap ((a1.Marks.length : Int) - 1))).bind fun x9 =>
 some (x9.Holder, x9.Seal)
def spec_l06Last_enc (r : (List UInt8) × Int) : AV := .agg [.str r.1, .int .u32 r.2]
theorem spec_l06Last_ok (a1 : Chain) (r : (List UInt8) × Int) (h : spec_l06Last a1 = some r) : Ev (fun k => CN k 128 [.pt none (.str a1.Debtor :: (.bool a1.Stock.Stock :: (.sl none (a1.Stock.Notches.map Notch.c) :: ((arC (cI .i8) 0 a1.Stock.Grain) ++ ((.sl none (a1.Marks.map Mark.c) :: []) : List AV)))))] []) (fun p => rRes p.2 p.1 = spec_l06Last_enc r) := by
 unfold spec_l06Last at h
 refine Ev.enter (F := fun k => f128 (CN k) k) (fun k => callN_eq rfl Tryd.func128 rfl rfl rfl (by decide +kernel) (f128_eq _ _)) (sq (Rg (ku (alO zero60) fun M2 hM3 => ?_)))
 have o4 : M2[([] : Mem).length]? = some (.live ⟨.box, 60, 2, [[.str ([] : List UInt8), .int .u32 0]]⟩) := push_new hM3
 obtain ⟨x9, hx10, h⟩ := bind_some h
 refine Rn (hN rfl (hV (.loc ([] : Mem).length 1 0 0) rfl hZ)) fun e5 h7 h8 => sN (sq (Rd (kf (mvO h7) (kf (ncP rfl) (kf (faP rfl ⟨ble rfl, blt rfl⟩ rfl) (kf (ldP rfl rfl) (kf (mvO h7) (kf (ncP rfl) (kf (faP rfl ⟨ble rfl, blt rfl⟩ rfl) (kf (ldP rfl rfl) (kf (lnS Tryd.underlying53 rfl) (kf (bSub rfl rfl) (kf (ixS rfl rfl hx10 Mark.fl) (kf (ldPA rfl rfl rfl) (fZ (kw (stO h8 rfl o4 rfl rfl ⟨rfl, ble rfl⟩ rfl rfl) fun M11 hM12 => ?_))))))))))))))))
 have o13 : M11[([] : Mem).length]? = some (.live ⟨.box, 60, 2, [[.str x9.Holder, .int .u32 x9.Seal]]⟩) := set_same hM12 o4
 refine Rn (hA h8 hZ) fun e14 h16 => sN (xx ?_)
 clear h7 h8
 obtain rfl := si h
 exact eR (resC (ag := true) (sz := 2) ⟨by kernel_rfl, by kernel_rfl, by kernel_rfl⟩ (ldOA h16 o13 rfl rfl (ble rfl) rfl) res0) rfl
/-! ### loop.example/g01263/spec.l04Copy (f127) -/
noncomputable def spec_l04Copy (a1 : Half) : Option (Bool × (List Notch) × (Ar 16 Int)) :=
 (spec_l01Copy a1.Notches).bind fun r10 =>
 some (a1.Stock, r10, a1.Grain)
def spec_l04Copy_enc (r : Bool × (List Notch) × (Ar 16 Int)) : AV := .agg (.bool r.1 :: (.sl (some 141) (r.2.1.map Notch.c) :: ((arC (cI .i8) 0 r.2.2) ++ ([] : List AV))))
theorem spec_l04Copy_ok (a1 : Half) (r : Bool × (List Notch) × (Ar 16 Int)) (h : spec_l04Copy a1 = some r) : Ev (fun k => CN k 127 [.pt none (.bool a1.Stock :: (.sl none (a1.Notches.map Notch.c) :: ((arC (cI .i8) 0 a1.Grain) ++ ([] : List AV))))] []) (fun p => rRes p.2 p.1 = spec_l04Copy_enc r) := by
 unfold spec_l04Copy at h
 refine Ev.enter (F := fun k => f127 (CN k) k) (fun k => callN_eq rfl Tryd.func127 rfl rfl rfl (by decide +kernel) (f127_eq _ _)) (sq (Rg (ku (alO zero52) fun M2 hM3 => ?_)))
 have o4 : M2[([] : Mem).length]? = some (.live ⟨.box, 52, 18, [(.bool false :: (.nils :: ((arC (cI .i8) 0 (Ar.rep 16 0)) ++ ([] : List AV))))]⟩) := push_new hM3
 obtain ⟨r10, hx9, h⟩ := bind_some h
 refine Rn (hN rfl (hV (.loc ([] : Mem).length 1 0 0) rfl hZ)) fun e5 h7 h8 => sN (sq (Rd (kf (mvO h7) (kf (ncP rfl) (kf (faP rfl ⟨ble rfl, blt rfl⟩ rfl) (kf (ldP rfl rfl) (kf (mvO h7) (kf (ncP rfl) (kf (faP rfl ⟨ble rfl, blt rfl⟩ rfl) (kf (ldP rfl rfl) (fc (cl (v := .sl (some 141) (r10.map Notch.c)) rfl rfl (cns rfl rfl) rfl (spec_l01Copy_ok a1.Notches _ hx9) nm) (kf (mvO h7) (kf (ncP rfl) (kf (faP rfl ⟨ble rfl, blt rfl⟩ rfl) (kf (ldPA rfl rfl rfl) (kf (bldT zero52 (cns (pr3 rfl) (cns (pr3 rfl) (cns (pr3 rfl) rfl))) (fill1 (cs' := (.bool a1.Stock :: (.nils :: ((arC (cI .i8) 0 (Ar.rep 16 0)) ++ ([] : List AV))))) ⟨rfl, ble rfl⟩ rfl rfl (fill1 (cs' := (.bool a1.Stock :: (.sl (some 141) (r10.map Notch.c) :: ((arC (cI .i8) 0 (Ar.rep 16 0)) ++ ([] : List AV))))) ⟨rfl, ble rfl⟩ rfl rfl (fill1 (cs' := (.bool a1.Stock :: (.sl (some 141) (r10.map Notch.c) :: ((arC (cI .i8) 0 a1.Grain) ++ ([] : List AV))))) ⟨rfl, ble rfl⟩ rfl rfl (fill0 rfl))))) (fZ (kw (stOK h8 rfl o4 rfl rfl ⟨rfl, ble rfl⟩ rfl rfl) fun M11 hM12 => ?_))))))))))))))))))
 have o13 : M11[([] : Mem).length]? = some (.live ⟨.box, 52, 18, [(.bool a1.Stock :: (.sl (some 141) (r10.map Notch.c) :: ((arC (cI .i8) 0 a1.Grain) ++ ([] : List AV))))]⟩) := set_same hM12 o4
 refine Rn (hA h8 hZ) fun e14 h16 => sN (xx ?_)
 clear h7 h8
 obtain rfl := si h
 exact eR (resC (ag := true) (sz := 18) ⟨by kernel_rfl, by kernel_rfl, by kernel_rfl⟩ (ldOA (cs' := (.bool a1.Stock :: (.sl (some 141) (r10.map Notch.c) :: ((arC (cI .i8) 0 a1.Grain) ++ ([] : List AV))))) h16 o13 rfl rfl (ble rfl) rfl) res0) rfl
/-! ### loop.example/g01263/spec.l06Seal (f126) -/
noncomputable def spec_l06Seal (a1 : Half) (a2 : Int) (a3 : List UInt8) (a4 : Int) : Option Int :=
 (spec_l01Text a1).bind fun r8 =>
 (spec_l06Text 2166136261 r8).bind fun r10 =>
 (spec_l06Number r10 a2).bind fun r18 =>
 (spec_l06Text r18 a3).bind fun r25 =>
 (spec_l06Number r25 a4).bind fun r31 =>
 some r31
def spec_l06Seal_enc (r : Int) : AV := .int .u32 r
theorem spec_l06Seal_ok (a1 : Half) (a2 : Int) (a3 : List UInt8) (a4 : Int) (r : Int) (h : spec_l06Seal a1 a2 a3 a4 = some r) : Ev (fun k => CN k 126 [.pt none (.bool a1.Stock :: (.sl none (a1.Notches.map Notch.c) :: ((arC (cI .i8) 0 a1.Grain) ++ ([] : List AV)))), .int .u32 a2, .str a3, .int .u32 a4] []) (fun p => rRes p.2 p.1 = spec_l06Seal_enc r) := by
 unfold spec_l06Seal at h
 obtain ⟨r8, hx7, h⟩ := bind_some h
 obtain ⟨r10, hx9, h⟩ := bind_some h
 obtain ⟨r18, hx17, h⟩ := bind_some h
 obtain ⟨r25, hx24, h⟩ := bind_some h
 obtain ⟨r31, hx30, h⟩ := bind_some h
 refine Ev.enter (F := fun k => f126 (CN k) k) (fun k => callN_eq rfl Tryd.func126 rfl rfl rfl (by decide +kernel) (f126_eq _ _)) (sq (Rg (kx (mvO rfl) (Rn (hN rfl (hN rfl (hN rfl (hN rfl hZ)))) fun e1 h3 h4 h5 h6 => sN (sq (Rg (kx (mvO h3) (kc (cl (v := .str r8) rfl rfl (cns rfl rfl) rfl (spec_l01Text_ok a1 _ hx7) nm) (kc (cl (v := .int .u32 r10) rfl rfl (cns rfl (cns rfl rfl)) rfl (spec_l06Text_ok 2166136261 r8 _ hx9) nm) (kx (mvO rfl) (Rn (hA h4 (hA h5 (hA h6 (hN rfl hZ)))) fun e11 h13 h14 h15 h16 => sN (sq (Rg (kx (mvO h16) (kx (mvO h13) (kc (cl (v := .int .u32 r18) rfl rfl (cns rfl (cns rfl rfl)) rfl (spec_l06Number_ok r10 a2 _ hx17) nm) (kx (mvO rfl) (Rn (hA h14 (hA h15 (hN rfl hZ))) fun e19 h21 h22 h23 => sN (sq (Rg (kx (mvO h23) (kx (mvO h21) (kc (cl (v := .int .u32 r25) rfl rfl (cns rfl (cns rfl rfl)) rfl (spec_l06Text_ok r18 a3 _ hx24) nm) (kx (mvO rfl) (Rn (hA h22 (hN rfl hZ)) fun e26 h28 h29 => sN (sq (Rg (kx (mvO h29) (kx (mvO h28) (kc (cl (v := .int .u32 r31) rfl rfl (cns rfl (cns rfl rfl)) rfl (spec_l06Number_ok r25 a4 _ hx30) nm) (kx (mvO rfl) (Rn (hN rfl hZ) fun e32 h34 => sN (xx ?_)))))))))))))))))))))))))))))))))
 clear h3 h4 h5 h6 h13 h14 h15 h21 h22 h28 h29
 obtain rfl := si h
 exact eR (resT h34 res0) rfl
/-! ### loop.example/g01263/spec.l01Ok (f125) -/
noncomputable def spec_l01Ok (a1 : Half) : Option Bool :=
 (spec_l01Notches a1.Notches).bind fun r5 =>
 if r5 = true then
  (spec_l01Grain a1.Grain).bind fun r8 =>
  some r8
 else
  some false
def spec_l01Ok_enc (r : Bool) : AV := .bool r
theorem spec_l01Ok_ok (a1 : Half) (r : Bool) (h : spec_l01Ok a1 = some r) : Ev (fun k => CN k 125 [.pt none (.bool a1.Stock :: (.sl none (a1.Notches.map Notch.c) :: ((arC (cI .i8) 0 a1.Grain) ++ ([] : List AV))))] []) (fun p => rRes p.2 p.1 = spec_l01Ok_enc r) := by
 unfold spec_l01Ok at h
 obtain ⟨r5, hx4, h⟩ := bind_some h
 refine Ev.enter (F := fun k => f125 (CN k) k) (fun k => callN_eq rfl Tryd.func125 rfl rfl rfl (by decide +kernel) (f125_eq _ _)) (sq (Rg (kx (mvO rfl) (Rn (hN rfl hZ) fun e1 h3 => sN (sq (Rg (kx (mvO h3) (kx (ncP rfl) (kx (faP rfl ⟨ble rfl, blt rfl⟩ rfl) (kx (ldP rfl rfl) (kc (cl (v := .bool r5) rfl rfl (cns rfl rfl) rfl (spec_l01Notches_ok a1.Notches _ hx4) nm) (kx (mvO rfl) ?_))))))))))))
 rcases ite_some h with ⟨hb6, h⟩ | ⟨hb6, h⟩
 ·obtain ⟨r8, hx7, h⟩ := bind_some h
  refine kx (guT rfl hb6 (mvO h3)) (kx (guT rfl hb6 (ncP rfl)) (kx (guT rfl hb6 (faP rfl ⟨ble rfl, blt rfl⟩ rfl)) (kx (guT rfl hb6 (ldPA rfl rfl rfl)) (kc (Ev.guT rfl hb6 (cl (v := .bool r8) rfl rfl (cns rfl rfl) rfl (spec_l01Grain_ok a1.Grain _ hx7) nm)) (kx (pkT rfl hb6 rfl) (kx (mvO rfl) (Rn (hN rfl hZ) fun e9 h11 => sN (xx ?_))))))))
  clear h3
  obtain rfl := si h
  exact eR (resT h11 res0) rfl
 refine kx (gsT rfl hb6) (kx (gsT rfl hb6) (kx (gsT rfl hb6) (kx (gsT rfl hb6) (kc (Ev.gsT rfl hb6) (kx (pkF rfl hb6 rfl) (kx (mvO rfl) (Rn (hV (.bool false) rfl hZ) fun e12 h14 => sN (xx ?_))))))))
 clear h3
 obtain rfl := si h
 exact eR (resT h14 res0) rfl
/-! ### loop.example/g01263/spec.GrainFrom (f123) -/
abbrev spec_GrainFrom_b1_S := Int × Int × (Ar 16 Int)
abbrev spec_GrainFrom_b1_R := Int × (Ar 16 Int)
def spec_GrainFrom_b1_RS (i1_1 : Nat) (i1_2 : Nat) (s : spec_GrainFrom_b1_S) (e : Env) (M : Mem) : Prop := eget e 0 = .int .u32 s.1 ∧ eget e 2 = .loc i1_1 1 0 0 ∧ eget e 4 = .loc i1_2 1 0 0 ∧ eget e 5 = .int .i64 s.2.1 ∧ M[i1_1]? = some (.live ⟨.box, 50, 16, [(arC (cI .i8) 0 (Ar.rep 16 0))]⟩) ∧ M[i1_2]? = some (.live ⟨.box, 50, 16, [(arC (cI .i8) 0 s.2.2)]⟩)
def spec_GrainFrom_b1_RR (i1_1 : Nat) (i1_2 : Nat) (g : spec_GrainFrom_b1_R) (x : Ex) (e : Env) (M : Mem) : Prop := x = .ext 0 ∧ eget e 0 = .int .u32 g.1 ∧ eget e 2 = .loc i1_1 1 0 0 ∧ eget e 4 = .loc i1_2 1 0 0 ∧ M[i1_1]? = some (.live ⟨.box, 50, 16, [(arC (cI .i8) 0 (Ar.rep 16 0))]⟩) ∧ M[i1_2]? = some (.live ⟨.box, 50, 16, [(arC (cI .i8) 0 g.2)]⟩)
noncomputable def spec_GrainFrom_b1 : spec_GrainFrom_b1_S → Option (spec_GrainFrom_b1_S ⊕ spec_GrainFrom_b1_R) := fun (s1_1, s1_2, s1_3) =>
 if (decide (s1_2 < 16)) = true then
  (quo .u32 (IntKind.u32.wrap ((IntKind.u32.wrap (1664525 * s1_1)) + 1013904223)) 65536).bind fun n68 =>
  (rem .u32 n68 7).bind fun n70 =>
  (rdA s1_3 s1_2).bind fun x72 =>
  some (.inl ((IntKind.u32.wrap ((IntKind.u32.wrap (1664525 * s1_1)) + 1013904223)), (IntKind.i64.wrap (s1_2 + 1)), (s1_3.set s1_2.toNat (IntKind.i8.wrap ((IntKind.i8.wrap n70) - 3)))))
 else
  some (.inr (s1_1, s1_3))
theorem spec_GrainFrom_b1_ok (i1_1 : Nat) (i1_2 : Nat) (ne13 : i1_1 ≠ i1_2) (s : spec_GrainFrom_b1_S) (r : spec_GrainFrom_b1_S ⊕ spec_GrainFrom_b1_R) (h : spec_GrainFrom_b1 s = some r) (e : Env) (M : Mem) (hs : spec_GrainFrom_b1_RS i1_1 i1_2 s e M) : Ev (fun k => (f123_l3 (CN k) k (prune [0, 2, 4, 5] e) M).bind fun q => some q) (bQ (spec_GrainFrom_b1_RS i1_1 i1_2) (spec_GrainFrom_b1_RR i1_1 i1_2) r) := by
 obtain ⟨s1_1, s1_2, s1_3⟩ := s
 unfold spec_GrainFrom_b1 at h
 obtain ⟨h44, h46, h48, h50, o52, o53⟩ := hs
 generalize he43 : prune [0, 2, 4, 5] e = e42
 have h45 := envp he43.symm rfl h44
 have h47 := envp he43.symm rfl h46
 have h49 := envp he43.symm rfl h48
 have h51 := envp he43.symm rfl h50
 refine sq (sq (Rg (kx (mvO h51) (kx (bLss rfl rfl) (Rn (hV (.int .u32 s1_1) h45 (hV (.loc i1_1 1 0 0) h47 (hV (.loc i1_2 1 0 0) h49 (hV (.int .i64 s1_2) h51 (hN rfl hZ))))) fun e54 h56 h57 h58 h59 h60 => sN ?_)))))
 clear h45 h47 h49 h51
 rcases ite_some h with ⟨hb61, h⟩ | ⟨hb61, h⟩
 ·obtain ⟨n68, hx69, h⟩ := bind_some h
  obtain ⟨n70, hx71, h⟩ := bind_some h
  obtain ⟨x72, hx73, h⟩ := bind_some h
  refine cT h60 hb61 (xx (sN (sq (bl (sq (Rg (kx (mvO h56) (kx (bMul rfl rfl) (kx (bAdd rfl rfl) (kx (mvO rfl) (Rn (hN rfl (hA h57 (hA h58 (hA h59 hZ)))) fun e62 h64 h65 h66 h67 => sN (Rg (kx (mvO h67) (kx (mvO h64) (kx (bQuo rfl rfl hx69) (kx (bRem rfl rfl hx71) (kx (cvI rfl) (kx (bSub rfl rfl) (kx (ixLA h66 o53 rfl rfl hx73) (kw (stLA (c := (cI .i8)) (z := 0) (g := s1_3) (pre := []) (post := []) (u' := (IntKind.i8.wrap ((IntKind.i8.wrap n70) - 3))) rfl rfl o53 rfl rfl rfl rfl (fun _ => rfl) rfl rfl hx73) fun M74 hM75 => ?_))))))))))))))))))))
  clear h57 h58 h59 h60
  have o76 := set_ne hM75 ne13 o52
  have o77 : M74[i1_2]? = some (.live ⟨.box, 50, 16, [(arC (cI .i8) 0 (s1_3.set s1_2.toNat (IntKind.i8.wrap ((IntKind.i8.wrap n70) - 3))))]⟩) := set_same hM75 o53
  refine Rn (hA h64 (hA h65 (hA h66 (hA h67 hZ)))) fun e78 h80 h81 h82 h83 => bN (sN (Rg (kx (mvO h83) (kx (bAdd rfl rfl) (kx (mvO rfl) (Rn (hA h80 (hA h81 (hA h82 (hN rfl hZ)))) fun e84 h86 h87 h88 h89 => ?_))))))
  clear h64 h65 h66 h67 h80 h81 h82
  obtain rfl := si h
  exact qN ⟨h86, h87, h88, h89, o76, o77⟩
 refine cF h60 hb61 (xx (sE ?_))
 obtain rfl := si h
 exact qE ⟨rfl, h56, h57, h58, o52, o53⟩
noncomputable def spec_GrainFrom (a1 : Int) : Option ((Ar 16 Int) × Int) :=
 (Lw (spec_GrainFrom_b1) (a1, 0, (Ar.rep 16 0))).bind fun (y95, y96) =>
 some (y96, y95)
def spec_GrainFrom_enc (r : (Ar 16 Int) × Int) : AV := .tup [.agg (arC (cI .i8) 0 r.1), .int .u32 r.2]
theorem spec_GrainFrom_ok (a1 : Int) (r : (Ar 16 Int) × Int) (h : spec_GrainFrom a1 = some r) : Ev (fun k => CN k 123 [.int .u32 a1] []) (fun p => rRes p.2 p.1 = spec_GrainFrom_enc r) := by
 unfold spec_GrainFrom at h
 refine Ev.enter (F := fun k => f123 (CN k) k) (fun k => callN_eq rfl Tryd.func123 rfl rfl rfl (by decide +kernel) (f123_eq _ _)) (sq (Rg (ku (alO zero50) fun M2 hM3 => ?_)))
 have o4 : M2[([] : Mem).length]? = some (.live ⟨.box, 50, 16, [(arC (cI .i8) 0 (Ar.rep 16 0))]⟩) := push_new hM3
 refine kx (mvO rfl) (Rn (hN rfl (hV (.loc ([] : Mem).length 1 0 0) rfl hZ)) fun e5 h7 h8 => sN (sq (Rg (kx (bldT zero50 rfl (fill0 rfl)) (ku (alO zero50) fun M10 hM11 => ?_)))))
 have o12 := push_old hM11 o4
 have ne13 := ne_new o4
 have o14 : M10[M2.length]? = some (.live ⟨.box, 50, 16, [(arC (cI .i8) 0 (Ar.rep 16 0))]⟩) := push_new hM11
 refine kw (stO rfl rfl o14 rfl rfl ⟨rfl, ble rfl⟩ rfl rfl) fun M15 hM16 => ?_
 have o17 := set_ne hM16 ne13 o12
 have o18 : M15[M2.length]? = some (.live ⟨.box, 50, 16, [(arC (cI .i8) 0 (Ar.rep 16 0))]⟩) := set_same hM16 o14
 obtain ⟨⟨y95, y96⟩, hr91, h⟩ := bind_some h
 refine Rn (hA h7 (hA h8 (hV (.loc M2.length 1 0 0) rfl hZ))) fun e19 h21 h22 h23 => sN (sq (sq (Rg (kx (mvO rfl) (Rn (hA h21 (hA h22 (hA h23 (hV (.int .i64 0) rfl hZ)))) fun e24 h26 h27 h28 h29 => sN (bl (Ev.loop (RS := spec_GrainFrom_b1_RS (([] : Mem).length) M2.length) (RR := spec_GrainFrom_b1_RR (([] : Mem).length) M2.length) (fun s r h e M hs => spec_GrainFrom_b1_ok (([] : Mem).length) M2.length ne13 s r h e M hs) hr91 ⟨h26, h27, h28, h29, o17, o18⟩ fun x e93 M94 hq92 => ?_)))))))
 clear h7 h8 h21 h22 h23
 obtain ⟨rfl, h97, h98, h99, o100, o101⟩ := hq92
 refine bE (sN (sq (Rg (kx (ldOA (cs' := (arC (cI .i8) 0 y96)) h99 o101 rfl rfl (ble rfl) rfl) (kx (mvO h97) (kw (stO h98 rfl o100 rfl rfl ⟨rfl, ble rfl⟩ rfl rfl) fun M102 hM103 => ?_))))))
 have o104 : M102[([] : Mem).length]? = some (.live ⟨.box, 50, 16, [(arC (cI .i8) 0 y96)]⟩) := set_same hM103 o100
 have o105 := set_ne hM103 (Ne.symm ne13) o101
 refine kx (mvO rfl) (Rn (hV (.loc ([] : Mem).length 1 0 0) h98 (hN rfl hZ)) fun e106 h108 h109 => sN (xx ?_))
 clear h97 h98 h99
 obtain rfl := si h
 exact eR (resC (ag := true) (sz := 16) ⟨by kernel_rfl, by kernel_rfl, by kernel_rfl⟩ (ldOA (cs' := (arC (cI .i8) 0 y96)) h108 o104 rfl rfl (ble rfl) rfl) (resT h109 res0)) rfl
/-! ### loop.example/g01263/spec.l01Same (f106) -/
noncomputable def spec_l01Same (a1 : Half) (a2 : Half) : Option Bool :=
 if (a1.Stock == a2.Stock) = true then
  if (arB 16 (fun j => a1.Grain.get 0 j == a2.Grain.get 0 j) true) = true then
   (spec_l01SameNotches a1.Notches a2.Notches).bind fun r8 =>
   some r8
  else
   some false
 else
  some false
def spec_l01Same_enc (r : Bool) : AV := .bool r
theorem spec_l01Same_ok (a1 : Half) (a2 : Half) (r : Bool) (h : spec_l01Same a1 a2 = some r) : Ev (fun k => CN k 106 [.pt none (.bool a1.Stock :: (.sl none (a1.Notches.map Notch.c) :: ((arC (cI .i8) 0 a1.Grain) ++ ([] : List AV)))), .pt none (.bool a2.Stock :: (.sl none (a2.Notches.map Notch.c) :: ((arC (cI .i8) 0 a2.Grain) ++ ([] : List AV))))] []) (fun p => rRes p.2 p.1 = spec_l01Same_enc r) := by
 unfold spec_l01Same at h
 refine Ev.enter (F := fun k => f106 (CN k) k) (fun k => callN_eq rfl Tryd.func106 rfl rfl rfl (by decide +kernel) (f106_eq _ _)) (sq (Rg (kx (mvO rfl) (Rn (hN rfl (hN rfl hZ)) fun e1 h3 h4 => sN (sq (Rd (kf (mvO h3) (kf (ncP rfl) (kf (faP rfl ⟨ble rfl, blt rfl⟩ rfl) (kf (ldP rfl rfl) (kf (mvO h4) (kf (ncP rfl) (kf (faP rfl ⟨ble rfl, blt rfl⟩ rfl) (kf (ldP rfl rfl) (kf (oEql (by kernel_rfl) rfl rfl) (kf (mvO rfl) ?_))))))))))))))))
 rcases ite_some h with ⟨hb5, h⟩ | ⟨hb5, h⟩
 ·refine kf (guT rfl hb5 (mvO h3)) (kf (guT rfl hb5 (ncP rfl)) (kf (guT rfl hb5 (faP rfl ⟨ble rfl, blt rfl⟩ rfl)) (kf (guT rfl hb5 (ldPA rfl rfl rfl)) (kf (guT rfl hb5 (mvO h4)) (kf (guT rfl hb5 (ncP rfl)) (kf (guT rfl hb5 (faP rfl ⟨ble rfl, blt rfl⟩ rfl)) (kf (guT rfl hb5 (ldPA rfl rfl rfl)) (kf (guT rfl hb5 (gEql rfl rfl (by kernel_rfl) rfl)) (kf (pkT rfl hb5 rfl) (kf (mvO rfl) ?_))))))))))
  rcases ite_some h with ⟨hb6, h⟩ | ⟨hb6, h⟩
  ·obtain ⟨r8, hx7, h⟩ := bind_some h
   refine kf (guT rfl hb6 (mvO h3)) (kf (guT rfl hb6 (ncP rfl)) (kf (guT rfl hb6 (faP rfl ⟨ble rfl, blt rfl⟩ rfl)) (kf (guT rfl hb6 (ldP rfl rfl)) (kf (guT rfl hb6 (mvO h4)) (kf (guT rfl hb6 (ncP rfl)) (kf (guT rfl hb6 (faP rfl ⟨ble rfl, blt rfl⟩ rfl)) (kf (guT rfl hb6 (ldP rfl rfl)) (fc (Ev.guT rfl hb6 (cl (v := .bool r8) rfl rfl (cns rfl (cns rfl rfl)) rfl (spec_l01SameNotches_ok a1.Notches a2.Notches _ hx7) nm)) (kf (pkT rfl hb6 rfl) (kf (mvO rfl) (fZ (Rn (hN rfl hZ) fun e9 h11 => sN (xx ?_)))))))))))))
   clear h3 h4
   obtain rfl := si h
   exact eR (resT h11 res0) rfl
  refine kf (gsT rfl hb6) (kf (gsT rfl hb6) (kf (gsT rfl hb6) (kf (gsT rfl hb6) (kf (gsT rfl hb6) (kf (gsT rfl hb6) (kf (gsT rfl hb6) (kf (gsT rfl hb6) (fc (Ev.gsT rfl hb6) (kf (pkF rfl hb6 rfl) (kf (mvO rfl) (fZ (Rn (hV (.bool false) rfl hZ) fun e12 h14 => sN (xx ?_)))))))))))))
  clear h3 h4
  obtain rfl := si h
  exact eR (resT h14 res0) rfl
 refine kf (gsT rfl hb5) (kf (gsT rfl hb5) (kf (gsT rfl hb5) (kf (gsT rfl hb5) (kf (gsT rfl hb5) (kf (gsT rfl hb5) (kf (gsT rfl hb5) (kf (gsT rfl hb5) (kf (gsT rfl hb5) (kf (pkF rfl hb5 rfl) (kf (mvO rfl) (kf (gsT rfl rfl) (kf (gsT rfl rfl) (kf (gsT rfl rfl) (kf (gsT rfl rfl) (kf (gsT rfl rfl) (kf (gsT rfl rfl) (kf (gsT rfl rfl) (kf (gsT rfl rfl) (fc (Ev.gsT rfl rfl) (kf (pkF rfl rfl rfl) (kf (mvO rfl) (fZ (Rn (hV (.bool false) rfl hZ) fun e15 h17 => sN (xx ?_))))))))))))))))))))))))
 clear h3 h4
 obtain rfl := si h
 exact eR (resT h17 res0) rfl
/-! ### loop.example/g01263/spec.l06Name (f98) -/
abbrev spec_l06Name_b1_S := Int
abbrev spec_l06Name_b1_R := Unit ⊕ Unit
def spec_l06Name_b1_RS (a1 : List UInt8) (s : spec_l06Name_b1_S) (e : Env) (M : Mem) : Prop := eget e 0 = .str a1 ∧ eget e 3 = .int .i64 s
def spec_l06Name_b1_RR (a1 : List UInt8) (r : spec_l06Name_b1_R) (x : Ex) (e : Env) (M : Mem) : Prop :=
  match r with
  | (.inl g) => x = .ret ∧ eget e 2 = .bool false
  | (.inr g) => x = .ext 0 ∧ eget e 0 = .str a1
noncomputable def spec_l06Name_b1 (a1 : List UInt8) : spec_l06Name_b1_S → Option (spec_l06Name_b1_S ⊕ spec_l06Name_b1_R) := fun s1_1 =>
 if (decide (s1_1 < (a1.length : Int))) = true then
  (rd a1 s1_1).bind fun x26 =>
  if (decide ((x26.toNat : Int) < 97)) = true then
   some (.inr (.inl ()))
  else
   (rd a1 s1_1).bind fun x37 =>
   if (decide ((x37.toNat : Int) > 122)) = true then
    some (.inr (.inl ()))
   else
    some (.inl (IntKind.i64.wrap (s1_1 + 1)))
 else
  some (.inr (.inr ()))
theorem spec_l06Name_b1_ok (a1 : List UInt8) (s : spec_l06Name_b1_S) (r : spec_l06Name_b1_S ⊕ spec_l06Name_b1_R) (h : spec_l06Name_b1 a1 s = some r) (e : Env) (M : Mem) (hs : spec_l06Name_b1_RS a1 s e M) : Ev (fun k => (f98_l2 (CN k) k (prune [0, 3] e) M).bind fun q => some q) (bQ (spec_l06Name_b1_RS a1) (spec_l06Name_b1_RR a1) r) := by
 revert h hs
 revert s
 intro s1_1 h hs
 unfold spec_l06Name_b1 at h
 obtain ⟨h16, h18⟩ := hs
 generalize he15 : prune [0, 3] e = e14
 have h17 := envp he15.symm rfl h16
 have h19 := envp he15.symm rfl h18
 refine sq (sq (Rg (kx (mvO h19) (kx (mvO h17) (kx (lnB Tryd.underlying9 rfl) (kx (bLss rfl rfl) (Rn (hV (.str a1) h17 (hV (.int .i64 s1_1) h19 (hN rfl hZ))) fun e20 h22 h23 h24 => sN ?_)))))))
 clear h17 h19
 rcases ite_some h with ⟨hb25, h⟩ | ⟨hb25, h⟩
 ·obtain ⟨x26, hx27, h⟩ := bind_some h
  refine cT h24 hb25 (xx (sN (sq (bl (sq (Rg (kx (mvO h22) (kx (mvO h23) (kx (ixB rfl rfl hx27) (kx (bLss rfl rfl) (kx (mvO rfl) ?_)))))))))))
  rcases ite_some h with ⟨hb28, h⟩ | ⟨hb28, h⟩
  ·refine kx (gsF rfl hb28) (kx (gsF rfl hb28) (kx (gsF rfl hb28) (kx (gsF rfl hb28) (kx (pkT rfl hb28 rfl) (Rn (hA h22 (hA h23 (hV (.bool true) rfl hZ))) fun e29 h31 h32 h33 => sN (cT h33 rfl (sq (Rg (kx (mvO rfl) (Rn (hV (.bool false) rfl hZ) fun e34 h36 => sN (xx (bR (sR ?_)))))))))))))
   clear h22 h23 h24 h31 h32 h33
   obtain rfl := si h
   exact qR ⟨rfl, h36⟩
  obtain ⟨x37, hx38, h⟩ := bind_some h
  refine kx (guF rfl hb28 (mvO h22)) (kx (guF rfl hb28 (mvO h23)) (kx (guF rfl hb28 (ixB rfl rfl hx38)) (kx (guF rfl hb28 (bGtr rfl rfl)) (kx (pkF rfl hb28 rfl) (Rn (hA h22 (hA h23 (hN rfl hZ))) fun e39 h41 h42 h43 => sN ?_)))))
  clear h22 h23 h24
  rcases ite_some h with ⟨hb44, h⟩ | ⟨hb44, h⟩
  ·refine cT h43 hb44 (sq (Rg (kx (mvO rfl) (Rn (hV (.bool false) rfl hZ) fun e45 h47 => sN (xx (bR (sR ?_)))))))
   clear h41 h42 h43
   obtain rfl := si h
   exact qR ⟨rfl, h47⟩
  refine cF h43 hb44 (xx (bN (sN (Rg (kx (mvO h42) (kx (bAdd rfl rfl) (kx (mvO rfl) (Rn (hA h41 (hN rfl hZ)) fun e48 h50 h51 => ?_))))))))
  clear h41 h43
  obtain rfl := si h
  exact qN ⟨h50, h51⟩
 refine cF h24 hb25 (xx (sE ?_))
 obtain rfl := si h
 exact qE ⟨rfl, h22⟩
noncomputable def spec_l06Name (a1 : List UInt8) : Option Bool :=
 (Lw (spec_l06Name_b1 a1) 0).bind fun r => match r with
 | (.inl _) =>
  some false
 | (.inr _) =>
  if (a1 == ([] : List UInt8)) = true then
   some false
  else
   some (decide ((a1.length : Int) ≤ 12))
def spec_l06Name_enc (r : Bool) : AV := .bool r
theorem spec_l06Name_ok (a1 : List UInt8) (r : Bool) (h : spec_l06Name a1 = some r) : Ev (fun k => CN k 98 [.str a1] []) (fun p => rRes p.2 p.1 = spec_l06Name_enc r) := by
 unfold spec_l06Name at h
 obtain ⟨r52, hr53, h⟩ := bind_some h
 refine Ev.enter (F := fun k => f98 (CN k) k) (fun k => callN_eq rfl Tryd.func98 rfl rfl rfl (by decide +kernel) (f98_eq _ _)) (sq (Rg (kx (mvO rfl) (Rn (hN rfl hZ) fun e1 h3 => sN (sq (sq (Rg (kx (mvO rfl) (Rn (hA h3 (hV (.int .i64 0) rfl hZ)) fun e4 h6 h7 => sN (bl ?_))))))))))
 clear h3
 rcases r52 with _ | _
 ·refine Ev.loop (RS := spec_l06Name_b1_RS a1) (RR := spec_l06Name_b1_RR a1) (fun s r h e M hs => spec_l06Name_b1_ok a1 s r h e M hs) hr53 ⟨h6, h7⟩ fun x e55 M56 hq54 => ?_
  obtain ⟨rfl, h57⟩ := hq54
  refine bR (sR ?_)
  obtain rfl := si h
  exact eR (resT h57 res0) rfl
 refine Ev.loop (RS := spec_l06Name_b1_RS a1) (RR := spec_l06Name_b1_RR a1) (fun s r h e M hs => spec_l06Name_b1_ok a1 s r h e M hs) hr53 ⟨h6, h7⟩ fun x e58 M59 hq54 => ?_
 obtain ⟨rfl, h60⟩ := hq54
 refine bE (sN (sq (Rg (kx (mvO h60) (kx (sNeq rfl rfl) (kx (mvO rfl) ?_))))))
 rcases ite_some h with ⟨hb61, h⟩ | ⟨hb61, h⟩
 ·refine kx (gsT rfl (congrArg Bool.not hb61)) (kx (gsT rfl (congrArg Bool.not hb61)) (kx (gsT rfl (congrArg Bool.not hb61)) (kx (pkF rfl (congrArg Bool.not hb61) rfl) (kx (mvO rfl) (Rn (hV (.bool false) rfl hZ) fun e62 h64 => sN (xx ?_))))))
  clear h60
  obtain rfl := si h
  exact eR (resT h64 res0) rfl
 refine kx (guT rfl (congrArg Bool.not hb61) (mvO h60)) (kx (guT rfl (congrArg Bool.not hb61) (lnB Tryd.underlying9 rfl)) (kx (guT rfl (congrArg Bool.not hb61) (bLeq rfl rfl)) (kx (pkT rfl (congrArg Bool.not hb61) rfl) (kx (mvO rfl) (Rn (hN rfl hZ) fun e65 h67 => sN (xx ?_))))))
 clear h60
 obtain rfl := si h
 exact eR (resT h67 res0) rfl
/-! ### loop.example/g01263/spec.l06Ok (f105) -/
def spec_l06Ok_c1_Q (a1 : Chain) (g : Bool) (q : Out) : Prop := q.1 = .nrm ∧ eget q.2.1 0 = .pt none (.str a1.Debtor :: (.bool a1.Stock.Stock :: (.sl none (a1.Stock.Notches.map Notch.c) :: ((arC (cI .i8) 0 a1.Stock.Grain) ++ ((.sl none (a1.Marks.map Mark.c) :: []) : List AV))))) ∧ eget q.2.1 34 = .bool g
abbrev spec_l06Ok_b1_S := (List UInt8) × Int
abbrev spec_l06Ok_b1_R := Unit ⊕ Unit
def spec_l06Ok_b1_RS (a1 : Chain) (s : spec_l06Ok_b1_S) (e : Env) (M : Mem) : Prop := eget e 0 = .pt none (.str a1.Debtor :: (.bool a1.Stock.Stock :: (.sl none (a1.Stock.Notches.map Notch.c) :: ((arC (cI .i8) 0 a1.Stock.Grain) ++ ((.sl none (a1.Marks.map Mark.c) :: []) : List AV))))) ∧ eget e 3 = .str s.1 ∧ eget e 4 = .int .i64 s.2
def spec_l06Ok_b1_RR (a1 : Chain) (r : spec_l06Ok_b1_R) (x : Ex) (e : Env) (M : Mem) : Prop :=
  match r with
  | (.inl g) => x = .ret ∧ eget e 2 = .bool false
  | (.inr g) => x = .ext 0 ∧ True
noncomputable def spec_l06Ok_b1 (a1 : Chain) : spec_l06Ok_b1_S → Option (spec_l06Ok_b1_S ⊕ spec_l06Ok_b1_R) := fun (s1_1, s1_2) =>
 if (decide (s1_2 < (a1.Marks.length : Int))) = true then
  (rd a1.Marks s1_2).bind fun x70 =>
  (spec_l06Name x70.Holder).bind fun r73 =>
  if r73 = true then
   (rd a1.Marks s1_2).bind fun x75 =>
   if (x75.Holder == s1_1) = true then
    some (.inr (.inl ()))
   else
    (rd a1.Marks s1_2).bind fun x86 =>
    some (.inl (x86.Holder, (IntKind.i64.wrap (s1_2 + 1))))
  else
   some (.inr (.inl ()))
 else
  some (.inr (.inr ()))
theorem spec_l06Ok_b1_ok (a1 : Chain) (s : spec_l06Ok_b1_S) (r : spec_l06Ok_b1_S ⊕ spec_l06Ok_b1_R) (h : spec_l06Ok_b1 a1 s = some r) (e : Env) (M : Mem) (hs : spec_l06Ok_b1_RS a1 s e M) : Ev (fun k => (f105_l5 (CN k) k (prune [0, 3, 4] e) M).bind fun q => some q) (bQ (spec_l06Ok_b1_RS a1) (spec_l06Ok_b1_RR a1) r) := by
 obtain ⟨s1_1, s1_2⟩ := s
 unfold spec_l06Ok_b1 at h
 obtain ⟨h57, h59, h61⟩ := hs
 generalize he56 : prune [0, 3, 4] e = e55
 have h58 := envp he56.symm rfl h57
 have h60 := envp he56.symm rfl h59
 have h62 := envp he56.symm rfl h61
 refine sq (sq (Rg (kx (mvO h62) (kx (mvO h58) (kx (ncP rfl) (kx (faP rfl ⟨ble rfl, blt rfl⟩ rfl) (kx (ldP rfl rfl) (kx (lnS Tryd.underlying53 rfl) (kx (bLss rfl rfl) (Rn (hV (.pt none (.str a1.Debtor :: (.bool a1.Stock.Stock :: (.sl none (a1.Stock.Notches.map Notch.c) :: ((arC (cI .i8) 0 a1.Stock.Grain) ++ ((.sl none (a1.Marks.map Mark.c) :: []) : List AV)))))) h58 (hV (.str s1_1) h60 (hV (.int .i64 s1_2) h62 (hN rfl hZ)))) fun e63 h65 h66 h67 h68 => sN ?_))))))))))
 clear h58 h60 h62
 rcases ite_some h with ⟨hb69, h⟩ | ⟨hb69, h⟩
 ·obtain ⟨x70, hx71, h⟩ := bind_some h
  obtain ⟨r73, hx72, h⟩ := bind_some h
  refine cT h68 hb69 (xx (sN (sq (bl (sq (sq (Rg (kx (mvO h65) (kx (ncP rfl) (kx (faP rfl ⟨ble rfl, blt rfl⟩ rfl) (kx (ldP rfl rfl) (kx (mvO h67) (kx (ixS rfl rfl hx71 Mark.fl) (kx (faP rfl ⟨ble rfl, blt rfl⟩ rfl) (kx (ldP rfl rfl) (kc (cl (v := .bool r73) rfl rfl (cns rfl rfl) rfl (spec_l06Name_ok x70.Holder _ hx72) nm) (kx (uNot rfl) (kx (mvO rfl) ?_))))))))))))))))))
  rcases ite_some h with ⟨hb74, h⟩ | ⟨hb74, h⟩
  ·obtain ⟨x75, hx76, h⟩ := bind_some h
   refine kx (guF rfl (congrArg Bool.not hb74) (mvO h65)) (kx (guF rfl (congrArg Bool.not hb74) (ncP rfl)) (kx (guF rfl (congrArg Bool.not hb74) (faP rfl ⟨ble rfl, blt rfl⟩ rfl)) (kx (guF rfl (congrArg Bool.not hb74) (ldP rfl rfl)) (kx (guF rfl (congrArg Bool.not hb74) (mvO h67)) (kx (guF rfl (congrArg Bool.not hb74) (ixS rfl rfl hx76 Mark.fl)) (kx (guF rfl (congrArg Bool.not hb74) (faP rfl ⟨ble rfl, blt rfl⟩ rfl)) (kx (guF rfl (congrArg Bool.not hb74) (ldP rfl rfl)) (kx (guF rfl (congrArg Bool.not hb74) (mvO h66)) (kx (guF rfl (congrArg Bool.not hb74) (sEql rfl rfl)) (kx (pkF rfl (congrArg Bool.not hb74) rfl) (Rn (hA h65 (hA h67 (hN rfl hZ))) fun e77 h79 h80 h81 => sN ?_)))))))))))
   clear h65 h66 h67 h68
   rcases ite_some h with ⟨hb82, h⟩ | ⟨hb82, h⟩
   ·refine cT h81 hb82 (sq (Rg (kx (mvO rfl) (Rn (hV (.bool false) rfl hZ) fun e83 h85 => sN (xx (sR (bR (sR ?_))))))))
    clear h79 h80 h81
    obtain rfl := si h
    exact qR ⟨rfl, h85⟩
   obtain ⟨x86, hx87, h⟩ := bind_some h
   refine cF h81 hb82 (xx (sN (Rg (kx (mvO h79) (kx (ncP rfl) (kx (faP rfl ⟨ble rfl, blt rfl⟩ rfl) (kx (ldP rfl rfl) (kx (mvO h80) (kx (ixS rfl rfl hx87 Mark.fl) (kx (faP rfl ⟨ble rfl, blt rfl⟩ rfl) (kx (ldP rfl rfl) (kx (mvO rfl) (Rn (hA h79 (hN rfl (hA h80 hZ))) fun e88 h90 h91 h92 => bN (sN (Rg (kx (mvO h92) (kx (bAdd rfl rfl) (kx (mvO rfl) (Rn (hA h90 (hA h91 (hN rfl hZ))) fun e93 h95 h96 h97 => ?_)))))))))))))))))))
   clear h79 h80 h81 h90 h91
   obtain rfl := si h
   exact qN ⟨h95, h96, h97⟩
  refine kx (gsF rfl (congrArg Bool.not hb74)) (kx (gsF rfl (congrArg Bool.not hb74)) (kx (gsF rfl (congrArg Bool.not hb74)) (kx (gsF rfl (congrArg Bool.not hb74)) (kx (gsF rfl (congrArg Bool.not hb74)) (kx (gsF rfl (congrArg Bool.not hb74)) (kx (gsF rfl (congrArg Bool.not hb74)) (kx (gsF rfl (congrArg Bool.not hb74)) (kx (gsF rfl (congrArg Bool.not hb74)) (kx (gsF rfl (congrArg Bool.not hb74)) (kx (pkT rfl (congrArg Bool.not hb74) rfl) (Rn (hA h65 (hA h67 (hV (.bool true) rfl hZ))) fun e98 h100 h101 h102 => sN (cT h102 rfl (sq (Rg (kx (mvO rfl) (Rn (hV (.bool false) rfl hZ) fun e103 h105 => sN (xx (sR (bR (sR ?_))))))))))))))))))))
  clear h65 h66 h67 h68 h100 h101 h102
  obtain rfl := si h
  exact qR ⟨rfl, h105⟩
 refine cF h68 hb69 (xx (sE ?_))
 obtain rfl := si h
 exact qE ⟨rfl, trivial⟩
noncomputable def spec_l06Ok (a1 : Chain) : Option Bool :=
 ((spec_l06Name a1.Debtor).bind fun r5 =>
 if r5 = true then
  (spec_l01Ok a1.Stock).bind fun r8 =>
  if r8 = true then
   if a1.Stock.Stock = true then
    (spec_l00In (a1.Marks.length : Int) 1 30).bind fun r12 =>
    some (!r12)
   else
    some true
  else
   some true
 else
  some true).bind fun y31 =>
 if y31 = true then
  some false
 else
  (Lw (spec_l06Ok_b1 a1) (a1.Debtor, 0)).bind fun r => match r with
  | (.inl _) =>
   some false
  | (.inr _) =>
   some true
def spec_l06Ok_enc (r : Bool) : AV := .bool r
theorem spec_l06Ok_ok (a1 : Chain) (r : Bool) (h : spec_l06Ok a1 = some r) : Ev (fun k => CN k 105 [.pt none (.str a1.Debtor :: (.bool a1.Stock.Stock :: (.sl none (a1.Stock.Notches.map Notch.c) :: ((arC (cI .i8) 0 a1.Stock.Grain) ++ ((.sl none (a1.Marks.map Mark.c) :: []) : List AV)))))] []) (fun p => rRes p.2 p.1 = spec_l06Ok_enc r) := by
 unfold spec_l06Ok at h
 obtain ⟨r118, hr119, h⟩ := bind_some h
 refine Ev.enter (F := fun k => f105 (CN k) k) (fun k => callN_eq rfl Tryd.func105 rfl rfl rfl (by decide +kernel) (f105_eq _ _)) (sq (Rg (kx (mvO rfl) (Rn (hN rfl hZ) fun e1 h3 => sN (sq (sq ?_))))))
 refine Ev.cut (Q1 := spec_l06Ok_c1_Q a1 r118) (by
     have h := hr119
     obtain ⟨r5, hx4, h⟩ := bind_some h
     refine Rg (kx (mvO h3) (kx (ncP rfl) (kx (faP rfl ⟨ble rfl, blt rfl⟩ rfl) (kx (ldP rfl rfl) (kc (cl (v := .bool r5) rfl rfl (cns rfl rfl) rfl (spec_l06Name_ok a1.Debtor _ hx4) nm) (kx (uNot rfl) (kx (mvO rfl) ?_)))))))
     rcases ite_some h with ⟨hb6, h⟩ | ⟨hb6, h⟩
     ·obtain ⟨r8, hx7, h⟩ := bind_some h
      refine kx (guF rfl (congrArg Bool.not hb6) (mvO h3)) (kx (guF rfl (congrArg Bool.not hb6) (ncP rfl)) (kx (guF rfl (congrArg Bool.not hb6) (faP rfl ⟨ble rfl, blt rfl⟩ rfl)) (kc (Ev.guF rfl (congrArg Bool.not hb6) (cl (v := .bool r8) rfl rfl (cns rfl rfl) rfl (spec_l01Ok_ok a1.Stock _ hx7) nm)) (kx (guF rfl (congrArg Bool.not hb6) (uNot rfl)) (kx (pkF rfl (congrArg Bool.not hb6) rfl) (kx (mvO rfl) ?_))))))
      rcases ite_some h with ⟨hb9, h⟩ | ⟨hb9, h⟩
      ·refine kx (guF rfl (congrArg Bool.not hb9) (mvO h3)) (kx (guF rfl (congrArg Bool.not hb9) (ncP rfl)) (kx (guF rfl (congrArg Bool.not hb9) (faP rfl ⟨ble rfl, blt rfl⟩ rfl)) (kx (guF rfl (congrArg Bool.not hb9) (faP rfl ⟨ble rfl, blt rfl⟩ rfl)) (kx (guF rfl (congrArg Bool.not hb9) (ldP rfl rfl)) (kx (guF rfl (congrArg Bool.not hb9) (uNot rfl)) (kx (pkF rfl (congrArg Bool.not hb9) rfl) (kx (mvO rfl) ?_)))))))
       rcases ite_some h with ⟨hb10, h⟩ | ⟨hb10, h⟩
       ·obtain ⟨r12, hx11, h⟩ := bind_some h
        refine kx (guF rfl (congrArg Bool.not hb10) (mvO h3)) (kx (guF rfl (congrArg Bool.not hb10) (ncP rfl)) (kx (guF rfl (congrArg Bool.not hb10) (faP rfl ⟨ble rfl, blt rfl⟩ rfl)) (kx (guF rfl (congrArg Bool.not hb10) (ldP rfl rfl)) (kx (guF rfl (congrArg Bool.not hb10) (lnS Tryd.underlying53 rfl)) (kc (Ev.guF rfl (congrArg Bool.not hb10) (cl (v := .bool r12) rfl rfl (cns rfl (cns rfl (cns rfl rfl))) rfl (spec_l00In_ok (a1.Marks.length : Int) 1 30 _ hx11) nm)) (kx (guF rfl (congrArg Bool.not hb10) (uNot rfl)) (kx (pkF rfl (congrArg Bool.not hb10) rfl) (Rn (hA h3 (hN rfl hZ)) fun e13 h15 h16 => ?_))))))))
        clear h3
        obtain rfl := si h
        exact kd (show spec_l06Ok_c1_Q a1 _ _ from ⟨rfl, h15, h16⟩)
       refine kx (gsF rfl (congrArg Bool.not hb10)) (kx (gsF rfl (congrArg Bool.not hb10)) (kx (gsF rfl (congrArg Bool.not hb10)) (kx (gsF rfl (congrArg Bool.not hb10)) (kx (gsF rfl (congrArg Bool.not hb10)) (kc (Ev.gsF rfl (congrArg Bool.not hb10)) (kx (gsF rfl (congrArg Bool.not hb10)) (kx (pkT rfl (congrArg Bool.not hb10) rfl) (Rn (hA h3 (hV (.bool true) rfl hZ)) fun e17 h19 h20 => ?_))))))))
       clear h3
       obtain rfl := si h
       exact kd (show spec_l06Ok_c1_Q a1 _ _ from ⟨rfl, h19, h20⟩)
      refine kx (gsF rfl (congrArg Bool.not hb9)) (kx (gsF rfl (congrArg Bool.not hb9)) (kx (gsF rfl (congrArg Bool.not hb9)) (kx (gsF rfl (congrArg Bool.not hb9)) (kx (gsF rfl (congrArg Bool.not hb9)) (kx (gsF rfl (congrArg Bool.not hb9)) (kx (pkT rfl (congrArg Bool.not hb9) rfl) (kx (mvO rfl) (kx (gsF rfl rfl) (kx (gsF rfl rfl) (kx (gsF rfl rfl) (kx (gsF rfl rfl) (kx (gsF rfl rfl) (kc (Ev.gsF rfl rfl) (kx (gsF rfl rfl) (kx (pkT rfl rfl rfl) (Rn (hA h3 (hV (.bool true) rfl hZ)) fun e21 h23 h24 => ?_))))))))))))))))
      clear h3
      obtain rfl := si h
      exact kd (show spec_l06Ok_c1_Q a1 _ _ from ⟨rfl, h23, h24⟩)
     refine kx (gsF rfl (congrArg Bool.not hb6)) (kx (gsF rfl (congrArg Bool.not hb6)) (kx (gsF rfl (congrArg Bool.not hb6)) (kc (Ev.gsF rfl (congrArg Bool.not hb6)) (kx (gsF rfl (congrArg Bool.not hb6)) (kx (pkT rfl (congrArg Bool.not hb6) rfl) (kx (mvO rfl) (kx (gsF rfl rfl) (kx (gsF rfl rfl) (kx (gsF rfl rfl) (kx (gsF rfl rfl) (kx (gsF rfl rfl) (kx (gsF rfl rfl) (kx (pkT rfl rfl rfl) (kx (mvO rfl) (kx (gsF rfl rfl) (kx (gsF rfl rfl) (kx (gsF rfl rfl) (kx (gsF rfl rfl) (kx (gsF rfl rfl) (kc (Ev.gsF rfl rfl) (kx (gsF rfl rfl) (kx (pkT rfl rfl rfl) (Rn (hA h3 (hV (.bool true) rfl hZ)) fun e25 h27 h28 => ?_)))))))))))))))))))))))
     clear h3
     obtain rfl := si h
     exact kd (show spec_l06Ok_c1_Q a1 _ _ from ⟨rfl, h27, h28⟩)) ?_
 revert h hr119
 revert r118
 intro y31 hr119 h
 intro x e29 M30 hq117
 obtain ⟨rfl, h32, h33⟩ := hq117
 refine sN ?_
 rcases ite_some h with ⟨hb34, h⟩ | ⟨hb34, h⟩
 ·refine cT h33 hb34 (sq (Rg (kx (mvO rfl) (Rn (hV (.bool false) rfl hZ) fun e35 h37 => sN (xx (sR ?_))))))
  clear h32 h33
  obtain rfl := si h
  exact eR (resT h37 res0) rfl
 obtain ⟨r106, hr107, h⟩ := bind_some h
 refine cF h33 hb34 (xx (sN (sq (Rg (kx (mvO h32) (kx (ncP rfl) (kx (faP rfl ⟨ble rfl, blt rfl⟩ rfl) (kx (ldP rfl rfl) (kx (mvO rfl) (Rn (hV (.pt none (.str a1.Debtor :: (.bool a1.Stock.Stock :: (.sl none (a1.Stock.Notches.map Notch.c) :: ((arC (cI .i8) 0 a1.Stock.Grain) ++ ((.sl none (a1.Marks.map Mark.c) :: []) : List AV)))))) h32 (hN rfl hZ)) fun e38 h40 h41 => sN (sq (sq (Rg (kx (mvO rfl) (Rn (hA h40 (hA h41 (hV (.int .i64 0) rfl hZ))) fun e42 h44 h45 h46 => sN (bl ?_))))))))))))))))
 clear h32 h33 h40 h41
 rcases r106 with _ | _
 ·refine Ev.loop (RS := spec_l06Ok_b1_RS a1) (RR := spec_l06Ok_b1_RR a1) (fun s r h e M hs => spec_l06Ok_b1_ok a1 s r h e M hs) hr107 ⟨h44, h45, h46⟩ fun x e109 M110 hq108 => ?_
  obtain ⟨rfl, h111⟩ := hq108
  refine bR (sR ?_)
  obtain rfl := si h
  exact eR (resT h111 res0) rfl
 refine Ev.loop (RS := spec_l06Ok_b1_RS a1) (RR := spec_l06Ok_b1_RR a1) (fun s r h e M hs => spec_l06Ok_b1_ok a1 s r h e M hs) hr107 ⟨h44, h45, h46⟩ fun x e112 M113 hq108 => ?_
 obtain ⟨rfl, _⟩ := hq108
 refine bE (sN (sq (Rg (kx (mvO rfl) (Rn (hV (.bool true) rfl hZ) fun e114 h116 => sN (xx ?_))))))
 obtain rfl := si h
 exact eR (resT h116 res0) rfl
/-! ### loop.example/g01263/impl.four (f104) -/
noncomputable def impl_four (a1 : Int) : Option ((List UInt8)) :=
 (shr .u32 a1 24).bind fun n4 =>
 (shr .u32 a1 16).bind fun n6 =>
 (shr .u32 a1 8).bind fun n8 =>
 some (toB [(IntKind.u8.wrap n4), (IntKind.u8.wrap n6), (IntKind.u8.wrap n8), (IntKind.u8.wrap a1)])
def impl_four_enc (r : (List UInt8)) : AV := .str r
theorem impl_four_ok (a1 : Int) (r : (List UInt8)) (h : impl_four a1 = some r) : Ev (fun k => CN k 104 [.int .u32 a1] []) (fun p => rRes p.2 p.1 = impl_four_enc r) := by
 unfold impl_four at h
 obtain ⟨n4, hx5, h⟩ := bind_some h
 obtain ⟨n6, hx7, h⟩ := bind_some h
 obtain ⟨n8, hx9, h⟩ := bind_some h
 refine Ev.enter (F := fun k => f104 (CN k) k) (fun k => callN_eq rfl Tryd.func104 rfl rfl rfl (by decide +kernel) (f104_eq _ _)) (sq (Rg (kx (mvO rfl) (Rn (hN rfl hZ) fun e1 h3 => sN (sq (Rg (kx (mvO h3) (kx (bShr rfl rfl hx5) (kx (cvI rfl) (kx (mvO h3) (kx (bShr rfl rfl hx7) (kx (cvI rfl) (kx (mvO h3) (kx (bShr rfl rfl hx9) (kx (cvI rfl) (kx (mvO h3) (kx (cvI rfl) (kx (litI (cns rfl (cns rfl (cns rfl (cns rfl rfl)))) rfl ⟨rfl, by decide⟩) (kx (cvB (elT (c := (cI .u8)) (xs := [(IntKind.u8.wrap n4), (IntKind.u8.wrap n6), (IntKind.u8.wrap n8), (IntKind.u8.wrap a1)]) rfl)) (kx (mvO rfl) (Rn (hN rfl hZ) fun e10 h12 => sN (xx ?_))))))))))))))))))))))
 clear h3
 obtain rfl := si h
 exact eR (resT h12 res0) rfl
/-! ### strconv.FormatInt (f121), by its contract -/
noncomputable def strconv_FormatInt (a1 : Int) (a2 : Int) : Option ((List UInt8)) := fmtI a1 a2
def strconv_FormatInt_enc (r : (List UInt8)) : AV := .str r
theorem strconv_FormatInt_ok (a1 : Int) (a2 : Int) (r : (List UInt8)) (h : strconv_FormatInt a1 a2 = some r) : Ev (fun k => CN k 121 [.int .i64 a1, .int .i64 a2] []) (fun p => rRes p.2 p.1 = strconv_FormatInt_enc r) := Ev.lib rfl rfl (lib_fmt h) rfl
/-! ### loop.example/g01263/impl.decimal (f91) -/
noncomputable def impl_decimal (a1 : Int) : Option ((List UInt8)) :=
 (strconv_FormatInt a1 10).bind fun r5 =>
 some r5
def impl_decimal_enc (r : (List UInt8)) : AV := .str r
theorem impl_decimal_ok (a1 : Int) (r : (List UInt8)) (h : impl_decimal a1 = some r) : Ev (fun k => CN k 91 [.int .i64 a1] []) (fun p => rRes p.2 p.1 = impl_decimal_enc r) := by
 unfold impl_decimal at h
 obtain ⟨r5, hx4, h⟩ := bind_some h
 refine Ev.enter (F := fun k => f91 (CN k) k) (fun k => callN_eq rfl Tryd.func91 rfl rfl rfl (by decide +kernel) (f91_eq _ _)) (sq (Rg (kx (mvO rfl) (Rn (hN rfl hZ) fun e1 h3 => sN (sq (Rg (kx (mvO h3) (kc (cl (v := .str r5) rfl rfl (cns rfl (cns rfl rfl)) rfl (strconv_FormatInt_ok a1 10 _ hx4) nm) (kx (mvO rfl) (Rn (hN rfl hZ) fun e6 h8 => sN (xx ?_)))))))))))
 clear h3
 obtain rfl := si h
 exact eR (resT h8 res0) rfl
/-! ### strings.Join (f90), by its contract -/
noncomputable def strings_Join (a1 : List (List UInt8)) (a2 : List UInt8) : Option ((List UInt8)) := joinI a1 a2
def strings_Join_enc (r : (List UInt8)) : AV := .str r
theorem strings_Join_ok (a1 : List (List UInt8)) (a2 : List UInt8) (r : (List UInt8)) (h : strings_Join a1 a2 = some r) : Ev (fun k => CN k 90 [.sl none (a1.map cS), .str a2] []) (fun p => rRes p.2 p.1 = strings_Join_enc r) := Ev.lib rfl rfl (lib_join h) rfl
/-! ### loop.example/g01263/impl.halfText (f103) -/
abbrev impl_halfText_b1_S := Int × (List Int)
abbrev impl_halfText_b1_R := (List Int)
def impl_halfText_b1_RS (a1 : Half) (i1_1 : Nat) (s : impl_halfText_b1_S) (e : Env) (M : Mem) : Prop := eget e 1 = .pt none (.bool a1.Stock :: (.sl none (a1.Notches.map Notch.c) :: ((arC (cI .i8) 0 a1.Grain) ++ ([] : List AV)))) ∧ eget e 3 = .str ([115, 116, 111, 99, 107] : List UInt8) ∧ eget e 4 = .lsl i1_1 s.2.length 0 s.2.length ∧ eget e 14 = .agg (arC (cI .i8) 0 a1.Grain) ∧ eget e 15 = .int .i64 s.1 ∧ M[i1_1]? = some (.live ⟨.grow, 5, 1, s.2.map (cI .u8)⟩)
def impl_halfText_b1_RR (a1 : Half) (i1_1 : Nat) (g : impl_halfText_b1_R) (x : Ex) (e : Env) (M : Mem) : Prop := x = .ext 0 ∧ eget e 1 = .pt none (.bool a1.Stock :: (.sl none (a1.Notches.map Notch.c) :: ((arC (cI .i8) 0 a1.Grain) ++ ([] : List AV)))) ∧ eget e 3 = .str ([115, 116, 111, 99, 107] : List UInt8) ∧ eget e 4 = .lsl i1_1 g.length 0 g.length ∧ M[i1_1]? = some (.live ⟨.grow, 5, 1, g.map (cI .u8)⟩)
noncomputable def impl_halfText_b1 (a1 : Half) : impl_halfText_b1_S → Option (impl_halfText_b1_S ⊕ impl_halfText_b1_R) := fun (s1_1, s1_2) =>
 if (decide (s1_1 < 16)) = true then
  (rdA a1.Grain s1_1).bind fun x69 =>
  (app 1 s1_2 [(IntKind.u8.wrap (IntKind.i8.wrap (100 + x69)))]).bind fun x79 =>
  some (.inl ((IntKind.i64.wrap (s1_1 + 1)), x79))
 else
  some (.inr s1_2)
theorem impl_halfText_b1_ok (a1 : Half) (i1_1 : Nat) (s : impl_halfText_b1_S) (r : impl_halfText_b1_S ⊕ impl_halfText_b1_R) (h : impl_halfText_b1 a1 s = some r) (e : Env) (M : Mem) (hs : impl_halfText_b1_RS a1 i1_1 s e M) : Ev (fun k => (f103_l6 (CN k) k (prune [1, 3, 4, 14, 15] e) M).bind fun q => some q) (bQ (impl_halfText_b1_RS a1 i1_1) (impl_halfText_b1_RR a1 i1_1) r) := by
 obtain ⟨s1_1, s1_2⟩ := s
 unfold impl_halfText_b1 at h
 obtain ⟨h49, h51, h53, h55, h57, o59⟩ := hs
 generalize he48 : prune [1, 3, 4, 14, 15] e = e47
 have h50 := envp he48.symm rfl h49
 have h52 := envp he48.symm rfl h51
 have h54 := envp he48.symm rfl h53
 have h56 := envp he48.symm rfl h55
 have h58 := envp he48.symm rfl h57
 refine sq (Rg (kx (bLss h58 rfl) (Rn (hV (.pt none (.bool a1.Stock :: (.sl none (a1.Notches.map Notch.c) :: ((arC (cI .i8) 0 a1.Grain) ++ ([] : List AV))))) h50 (hV (.str ([115, 116, 111, 99, 107] : List UInt8)) h52 (hV (.lsl i1_1 s1_2.length 0 s1_2.length) h54 (hV (.agg (arC (cI .i8) 0 a1.Grain)) h56 (hV (.int .i64 s1_1) h58 (hN rfl hZ)))))) fun e60 h62 h63 h64 h65 h66 h67 => sN (sq ?_))))
 clear h50 h52 h54 h56 h58
 rcases ite_some h with ⟨hb68, h⟩ | ⟨hb68, h⟩
 ·obtain ⟨x69, hx70, h⟩ := bind_some h
  obtain ⟨x79, hx80, h⟩ := bind_some h
  refine cT h67 hb68 (xx (sN (sq (bl (sq (Rg (kx (ixA1 (K := AV.int .i8) (c := (cI .i8)) (z := 0) (g := a1.Grain) h65 h66 hx70 (fun _ => rfl)) (kx (mvO rfl) (Rn (hA h62 (hA h63 (hA h64 (hN rfl (hA h65 (hA h66 hZ)))))) fun e71 h73 h74 h75 h76 h77 h78 => sN (Rg (kx (mvO h75) (kx (mvO h76) (kx (bAdd rfl rfl) (kx (cvI rfl) (kx (litI (cns rfl rfl) rfl ⟨rfl, by decide⟩) (kw (apO rfl o59 rfl (elT (c := (cI .u8)) (xs := [(IntKind.u8.wrap (IntKind.i8.wrap (100 + x69)))]) rfl) hx80 (cI_fl _) (by decide)) fun M81 hM82 => ?_))))))))))))))))
  clear h62 h63 h64 h65 h66 h67
  have o83 : M81[i1_1]? = some (.live ⟨.grow, 5, 1, x79.map (cI .u8)⟩) := set_same hM82 o59
  refine kx (mvO rfl) (Rn (hA h73 (hA h74 (hV (.lsl i1_1 x79.length 0 x79.length) rfl (hA h77 (hA h78 hZ))))) fun e84 h86 h87 h88 h89 h90 => bN (sN (Rg (kx (bAdd h90 rfl) (kx (mvO rfl) (Rn (hA h86 (hA h87 (hA h88 (hA h89 (hN rfl hZ))))) fun e91 h93 h94 h95 h96 h97 => ?_))))))
  clear h73 h74 h76 h77 h78 h86 h87 h88 h89
  obtain rfl := si h
  exact qN ⟨h93, h94, h95, h96, h97, o83⟩
 refine cF h67 hb68 (xx (sE ?_))
 obtain rfl := si h
 exact qE ⟨rfl, h62, h63, h64, o59⟩
abbrev impl_halfText_b2_S := Int × (List (List UInt8))
abbrev impl_halfText_b2_R := (List (List UInt8))
def impl_halfText_b2_RS (a1 : Half) (i2_1 : Nat) (s : impl_halfText_b2_S) (e : Env) (M : Mem) : Prop := eget e 7 = .lsl i2_1 s.2.length 0 s.2.length ∧ eget e 30 = .sl none (a1.Notches.map Notch.c) ∧ eget e 31 = .int .i64 (a1.Notches.length : Int) ∧ eget e 32 = .int .i64 s.1 ∧ M[i2_1]? = some (.live ⟨.grow, 9, 1, s.2.map cS⟩)
def impl_halfText_b2_RR (a1 : Half) (i2_1 : Nat) (g : impl_halfText_b2_R) (x : Ex) (e : Env) (M : Mem) : Prop := x = .ext 2 ∧ eget e 7 = .lsl i2_1 g.length 0 g.length ∧ M[i2_1]? = some (.live ⟨.grow, 9, 1, g.map cS⟩)
noncomputable def impl_halfText_b2 (a1 : Half) : impl_halfText_b2_S → Option (impl_halfText_b2_S ⊕ impl_halfText_b2_R) := fun (s2_1, s2_2) =>
 if (decide (s2_1 < (a1.Notches.length : Int))) = true then
  (rd a1.Notches s2_1).bind fun x154 =>
  (slc ([100, 115, 108, 118, 99, 109] : List UInt8) x154.Kind (IntKind.i8.wrap (x154.Kind + 1))).bind fun x173 =>
  (impl_decimal (IntKind.i64.wrap x154.At)).bind fun r176 =>
  (sadd x173 r176).bind fun w177 =>
  (app 16 s2_2 [w177]).bind fun x179 =>
  some (.inl ((IntKind.i64.wrap (s2_1 + 1)), x179))
 else
  some (.inr s2_2)
theorem impl_halfText_b2_ok (a1 : Half) (i2_1 : Nat) (s : impl_halfText_b2_S) (r : impl_halfText_b2_S ⊕ impl_halfText_b2_R) (h : impl_halfText_b2 a1 s = some r) (e : Env) (M : Mem) (hs : impl_halfText_b2_RS a1 i2_1 s e M) : Ev (fun k => (f103_l12 (CN k) k (prune [7, 30, 31, 32] e) M).bind fun q => some q) (bQ (impl_halfText_b2_RS a1 i2_1) (impl_halfText_b2_RR a1 i2_1) r) := by
 obtain ⟨s2_1, s2_2⟩ := s
 unfold impl_halfText_b2 at h
 obtain ⟨h137, h139, h141, h143, o145⟩ := hs
 generalize he136 : prune [7, 30, 31, 32] e = e135
 have h138 := envp he136.symm rfl h137
 have h140 := envp he136.symm rfl h139
 have h142 := envp he136.symm rfl h141
 have h144 := envp he136.symm rfl h143
 refine sq (Rg (kx (bLss h144 h142) (Rn (hV (.lsl i2_1 s2_2.length 0 s2_2.length) h138 (hV (.sl none (a1.Notches.map Notch.c)) h140 (hV (.int .i64 (a1.Notches.length : Int)) h142 (hV (.int .i64 s2_1) h144 (hN rfl hZ))))) fun e146 h148 h149 h150 h151 h152 => sN (sq ?_))))
 clear h138 h140 h142 h144
 rcases ite_some h with ⟨hb153, h⟩ | ⟨hb153, h⟩
 ·obtain ⟨x154, hx155, h⟩ := bind_some h
  refine cT h152 hb153 (xx (sN (sq (bl (sq (Rg (kx (ixS h149 h151 hx155 Notch.fl) (kx (ldPA rfl rfl rfl) (ku (alO zero141) fun M157 hM158 => ?_)))))))))
  have o159 := push_old hM158 o145
  have ne160 := ne_new o145
  have o161 : M157[M.length]? = some (.live ⟨.box, 141, 2, [[.int .i8 0, .int .i16 0]]⟩) := push_new hM158
  refine kw (stO rfl rfl o161 rfl rfl ⟨rfl, ble rfl⟩ rfl rfl) fun M162 hM163 => ?_
  have o164 := set_ne hM163 ne160 o159
  have o165 : M162[M.length]? = some (.live ⟨.box, 141, 2, [[.int .i8 x154.Kind, .int .i16 x154.At]]⟩) := set_same hM163 o161
  obtain ⟨x173, hx174, h⟩ := bind_some h
  obtain ⟨r176, hx175, h⟩ := bind_some h
  obtain ⟨w177, hx178, h⟩ := bind_some h
  obtain ⟨x179, hx180, h⟩ := bind_some h
  refine Rn (hA h148 (hV (.loc M.length 1 0 0) rfl (hA h149 (hA h150 (hA h151 hZ))))) fun e166 h168 h169 h170 h171 h172 => sN (Rd (kf (mvO h168) (kf (faO h169 o165 rfl) (kf (ldO rfl o165 rfl rfl rfl) (kf (faO h169 o165 rfl) (kf (ldO rfl o165 rfl rfl rfl) (kf (bAdd rfl rfl) (kf (ssl2 rfl (bnd1 rfl) (bnd1 rfl) hx174) (kf (faO h169 o165 rfl) (kf (ldO rfl o165 rfl rfl rfl) (kf (cvI rfl) (fc (cl (v := .str r176) rfl rfl (cns rfl rfl) rfl (impl_decimal_ok (IntKind.i64.wrap x154.At) _ hx175) nm) (kf (sAdd rfl rfl hx178) (kf (litI (cns rfl rfl) rfl ⟨rfl, by decide⟩) (fZ (kw (apO rfl o164 rfl (elT (c := cS) (xs := [w177]) rfl) hx180 cS_fl (by decide)) fun M181 hM182 => ?_))))))))))))))))
  clear h148 h149 h150 h151 h152
  have o183 : M181[i2_1]? = some (.live ⟨.grow, 9, 1, x179.map cS⟩) := set_same hM182 o164
  have o184 := set_ne hM182 (Ne.symm ne160) o165
  refine kx (mvO rfl) (Rn (hV (.lsl i2_1 x179.length 0 x179.length) rfl (hA h170 (hA h171 (hA h172 hZ)))) fun e185 h187 h188 h189 h190 => bN (sN (Rg (kx (bAdd h190 rfl) (kx (mvO rfl) (Rn (hA h187 (hA h188 (hA h189 (hN rfl hZ)))) fun e191 h193 h194 h195 h196 => ?_))))))
  clear h169 h170 h171 h172 h187 h188 h189
  obtain rfl := si h
  exact qN ⟨h193, h194, h195, h196, o183⟩
 refine cF h152 hb153 (xx (sE ?_))
 obtain rfl := si h
 exact qE ⟨rfl, h148, o145⟩
abbrev impl_halfText_b3_S := Int × (List Int)
abbrev impl_halfText_b3_R := (List Int)
def impl_halfText_b3_RS (a1 : Half) (i3_1 : Nat) (s : impl_halfText_b3_S) (e : Env) (M : Mem) : Prop := eget e 1 = .pt none (.bool a1.Stock :: (.sl none (a1.Notches.map Notch.c) :: ((arC (cI .i8) 0 a1.Grain) ++ ([] : List AV)))) ∧ eget e 3 = .str ([102, 111, 105, 108] : List UInt8) ∧ eget e 4 = .lsl i3_1 s.2.length 0 s.2.length ∧ eget e 14 = .agg (arC (cI .i8) 0 a1.Grain) ∧ eget e 15 = .int .i64 s.1 ∧ M[i3_1]? = some (.live ⟨.grow, 5, 1, s.2.map (cI .u8)⟩)
def impl_halfText_b3_RR (a1 : Half) (i3_1 : Nat) (g : impl_halfText_b3_R) (x : Ex) (e : Env) (M : Mem) : Prop := x = .ext 0 ∧ eget e 1 = .pt none (.bool a1.Stock :: (.sl none (a1.Notches.map Notch.c) :: ((arC (cI .i8) 0 a1.Grain) ++ ([] : List AV)))) ∧ eget e 3 = .str ([102, 111, 105, 108] : List UInt8) ∧ eget e 4 = .lsl i3_1 g.length 0 g.length ∧ M[i3_1]? = some (.live ⟨.grow, 5, 1, g.map (cI .u8)⟩)
noncomputable def impl_halfText_b3 (a1 : Half) : impl_halfText_b3_S → Option (impl_halfText_b3_S ⊕ impl_halfText_b3_R) := fun (s3_1, s3_2) =>
 if (decide (s3_1 < 16)) = true then
  (rdA a1.Grain s3_1).bind fun x261 =>
  (app 1 s3_2 [(IntKind.u8.wrap (IntKind.i8.wrap (100 + x261)))]).bind fun x271 =>
  some (.inl ((IntKind.i64.wrap (s3_1 + 1)), x271))
 else
  some (.inr s3_2)
theorem impl_halfText_b3_ok (a1 : Half) (i3_1 : Nat) (s : impl_halfText_b3_S) (r : impl_halfText_b3_S ⊕ impl_halfText_b3_R) (h : impl_halfText_b3 a1 s = some r) (e : Env) (M : Mem) (hs : impl_halfText_b3_RS a1 i3_1 s e M) : Ev (fun k => (f103_l6 (CN k) k (prune [1, 3, 4, 14, 15] e) M).bind fun q => some q) (bQ (impl_halfText_b3_RS a1 i3_1) (impl_halfText_b3_RR a1 i3_1) r) := by
 obtain ⟨s3_1, s3_2⟩ := s
 unfold impl_halfText_b3 at h
 obtain ⟨h241, h243, h245, h247, h249, o251⟩ := hs
 generalize he240 : prune [1, 3, 4, 14, 15] e = e239
 have h242 := envp he240.symm rfl h241
 have h244 := envp he240.symm rfl h243
 have h246 := envp he240.symm rfl h245
 have h248 := envp he240.symm rfl h247
 have h250 := envp he240.symm rfl h249
 refine sq (Rg (kx (bLss h250 rfl) (Rn (hV (.pt none (.bool a1.Stock :: (.sl none (a1.Notches.map Notch.c) :: ((arC (cI .i8) 0 a1.Grain) ++ ([] : List AV))))) h242 (hV (.str ([102, 111, 105, 108] : List UInt8)) h244 (hV (.lsl i3_1 s3_2.length 0 s3_2.length) h246 (hV (.agg (arC (cI .i8) 0 a1.Grain)) h248 (hV (.int .i64 s3_1) h250 (hN rfl hZ)))))) fun e252 h254 h255 h256 h257 h258 h259 => sN (sq ?_))))
 clear h242 h244 h246 h248 h250
 rcases ite_some h with ⟨hb260, h⟩ | ⟨hb260, h⟩
 ·obtain ⟨x261, hx262, h⟩ := bind_some h
  obtain ⟨x271, hx272, h⟩ := bind_some h
  refine cT h259 hb260 (xx (sN (sq (bl (sq (Rg (kx (ixA1 (K := AV.int .i8) (c := (cI .i8)) (z := 0) (g := a1.Grain) h257 h258 hx262 (fun _ => rfl)) (kx (mvO rfl) (Rn (hA h254 (hA h255 (hA h256 (hN rfl (hA h257 (hA h258 hZ)))))) fun e263 h265 h266 h267 h268 h269 h270 => sN (Rg (kx (mvO h267) (kx (mvO h268) (kx (bAdd rfl rfl) (kx (cvI rfl) (kx (litI (cns rfl rfl) rfl ⟨rfl, by decide⟩) (kw (apO rfl o251 rfl (elT (c := (cI .u8)) (xs := [(IntKind.u8.wrap (IntKind.i8.wrap (100 + x261)))]) rfl) hx272 (cI_fl _) (by decide)) fun M273 hM274 => ?_))))))))))))))))
  clear h254 h255 h256 h257 h258 h259
  have o275 : M273[i3_1]? = some (.live ⟨.grow, 5, 1, x271.map (cI .u8)⟩) := set_same hM274 o251
  refine kx (mvO rfl) (Rn (hA h265 (hA h266 (hV (.lsl i3_1 x271.length 0 x271.length) rfl (hA h269 (hA h270 hZ))))) fun e276 h278 h279 h280 h281 h282 => bN (sN (Rg (kx (bAdd h282 rfl) (kx (mvO rfl) (Rn (hA h278 (hA h279 (hA h280 (hA h281 (hN rfl hZ))))) fun e283 h285 h286 h287 h288 h289 => ?_))))))
  clear h265 h266 h268 h269 h270 h278 h279 h280 h281
  obtain rfl := si h
  exact qN ⟨h285, h286, h287, h288, h289, o275⟩
 refine cF h259 hb260 (xx (sE ?_))
 obtain rfl := si h
 exact qE ⟨rfl, h254, h255, h256, o251⟩
abbrev impl_halfText_b4_S := Int × (List (List UInt8))
abbrev impl_halfText_b4_R := (List (List UInt8))
def impl_halfText_b4_RS (a1 : Half) (i4_1 : Nat) (s : impl_halfText_b4_S) (e : Env) (M : Mem) : Prop := eget e 7 = .lsl i4_1 s.2.length 0 s.2.length ∧ eget e 30 = .sl none (a1.Notches.map Notch.c) ∧ eget e 31 = .int .i64 (a1.Notches.length : Int) ∧ eget e 32 = .int .i64 s.1 ∧ M[i4_1]? = some (.live ⟨.grow, 9, 1, s.2.map cS⟩)
def impl_halfText_b4_RR (a1 : Half) (i4_1 : Nat) (g : impl_halfText_b4_R) (x : Ex) (e : Env) (M : Mem) : Prop := x = .ext 2 ∧ eget e 7 = .lsl i4_1 g.length 0 g.length ∧ M[i4_1]? = some (.live ⟨.grow, 9, 1, g.map cS⟩)
noncomputable def impl_halfText_b4 (a1 : Half) : impl_halfText_b4_S → Option (impl_halfText_b4_S ⊕ impl_halfText_b4_R) := fun (s4_1, s4_2) =>
 if (decide (s4_1 < (a1.Notches.length : Int))) = true then
  (rd a1.Notches s4_1).bind fun x346 =>
  (slc ([100, 115, 108, 118, 99, 109] : List UInt8) x346.Kind (IntKind.i8.wrap (x346.Kind + 1))).bind fun x365 =>
  (impl_decimal (IntKind.i64.wrap x346.At)).bind fun r368 =>
  (sadd x365 r368).bind fun w369 =>
  (app 16 s4_2 [w369]).bind fun x371 =>
  some (.inl ((IntKind.i64.wrap (s4_1 + 1)), x371))
 else
  some (.inr s4_2)
theorem impl_halfText_b4_ok (a1 : Half) (i4_1 : Nat) (s : impl_halfText_b4_S) (r : impl_halfText_b4_S ⊕ impl_halfText_b4_R) (h : impl_halfText_b4 a1 s = some r) (e : Env) (M : Mem) (hs : impl_halfText_b4_RS a1 i4_1 s e M) : Ev (fun k => (f103_l12 (CN k) k (prune [7, 30, 31, 32] e) M).bind fun q => some q) (bQ (impl_halfText_b4_RS a1 i4_1) (impl_halfText_b4_RR a1 i4_1) r) := by
 obtain ⟨s4_1, s4_2⟩ := s
 unfold impl_halfText_b4 at h
 obtain ⟨h329, h331, h333, h335, o337⟩ := hs
 generalize he328 : prune [7, 30, 31, 32] e = e327
 have h330 := envp he328.symm rfl h329
 have h332 := envp he328.symm rfl h331
 have h334 := envp he328.symm rfl h333
 have h336 := envp he328.symm rfl h335
 refine sq (Rg (kx (bLss h336 h334) (Rn (hV (.lsl i4_1 s4_2.length 0 s4_2.length) h330 (hV (.sl none (a1.Notches.map Notch.c)) h332 (hV (.int .i64 (a1.Notches.length : Int)) h334 (hV (.int .i64 s4_1) h336 (hN rfl hZ))))) fun e338 h340 h341 h342 h343 h344 => sN (sq ?_))))
 clear h330 h332 h334 h336
 rcases ite_some h with ⟨hb345, h⟩ | ⟨hb345, h⟩
 ·obtain ⟨x346, hx347, h⟩ := bind_some h
  refine cT h344 hb345 (xx (sN (sq (bl (sq (Rg (kx (ixS h341 h343 hx347 Notch.fl) (kx (ldPA rfl rfl rfl) (ku (alO zero141) fun M349 hM350 => ?_)))))))))
  have o351 := push_old hM350 o337
  have ne352 := ne_new o337
  have o353 : M349[M.length]? = some (.live ⟨.box, 141, 2, [[.int .i8 0, .int .i16 0]]⟩) := push_new hM350
  refine kw (stO rfl rfl o353 rfl rfl ⟨rfl, ble rfl⟩ rfl rfl) fun M354 hM355 => ?_
  have o356 := set_ne hM355 ne352 o351
  have o357 : M354[M.length]? = some (.live ⟨.box, 141, 2, [[.int .i8 x346.Kind, .int .i16 x346.At]]⟩) := set_same hM355 o353
  obtain ⟨x365, hx366, h⟩ := bind_some h
  obtain ⟨r368, hx367, h⟩ := bind_some h
  obtain ⟨w369, hx370, h⟩ := bind_some h
  obtain ⟨x371, hx372, h⟩ := bind_some h
  refine Rn (hA h340 (hV (.loc M.length 1 0 0) rfl (hA h341 (hA h342 (hA h343 hZ))))) fun e358 h360 h361 h362 h363 h364 => sN (Rd (kf (mvO h360) (kf (faO h361 o357 rfl) (kf (ldO rfl o357 rfl rfl rfl) (kf (faO h361 o357 rfl) (kf (ldO rfl o357 rfl rfl rfl) (kf (bAdd rfl rfl) (kf (ssl2 rfl (bnd1 rfl) (bnd1 rfl) hx366) (kf (faO h361 o357 rfl) (kf (ldO rfl o357 rfl rfl rfl) (kf (cvI rfl) (fc (cl (v := .str r368) rfl rfl (cns rfl rfl) rfl (impl_decimal_ok (IntKind.i64.wrap x346.At) _ hx367) nm) (kf (sAdd rfl rfl hx370) (kf (litI (cns rfl rfl) rfl ⟨rfl, by decide⟩) (fZ (kw (apO rfl o356 rfl (elT (c := cS) (xs := [w369]) rfl) hx372 cS_fl (by decide)) fun M373 hM374 => ?_))))))))))))))))
  clear h340 h341 h342 h343 h344
  have o375 : M373[i4_1]? = some (.live ⟨.grow, 9, 1, x371.map cS⟩) := set_same hM374 o356
  have o376 := set_ne hM374 (Ne.symm ne352) o357
  refine kx (mvO rfl) (Rn (hV (.lsl i4_1 x371.length 0 x371.length) rfl (hA h362 (hA h363 (hA h364 hZ)))) fun e377 h379 h380 h381 h382 => bN (sN (Rg (kx (bAdd h382 rfl) (kx (mvO rfl) (Rn (hA h379 (hA h380 (hA h381 (hN rfl hZ)))) fun e383 h385 h386 h387 h388 => ?_))))))
  clear h361 h362 h363 h364 h379 h380 h381
  obtain rfl := si h
  exact qN ⟨h385, h386, h387, h388, o375⟩
 refine cF h344 hb345 (xx (sE ?_))
 obtain rfl := si h
 exact qE ⟨rfl, h340, o337⟩
noncomputable def impl_halfText (a1 : Half) : Option ((List UInt8)) :=
 if a1.Stock = true then
  (Lw (impl_halfText_b1 a1) (0, ([] : List Int))).bind fun y103 =>
  (Lw (impl_halfText_b2 a1) (0, [([115, 116, 111, 99, 107] : List UInt8), (toB y103)])).bind fun y202 =>
  (strings_Join y202 ([32] : List UInt8)).bind fun r206 =>
  some r206
 else
  (Lw (impl_halfText_b3 a1) (0, ([] : List Int))).bind fun y295 =>
  (Lw (impl_halfText_b4 a1) (0, [([102, 111, 105, 108] : List UInt8), (toB y295)])).bind fun y394 =>
  (strings_Join y394 ([32] : List UInt8)).bind fun r398 =>
  some r398
def impl_halfText_enc (r : (List UInt8)) : AV := .str r
theorem impl_halfText_ok (a1 : Half) (r : (List UInt8)) (h : impl_halfText a1 = some r) : Ev (fun k => CN k 103 [.agg (.bool a1.Stock :: (.sl none (a1.Notches.map Notch.c) :: ((arC (cI .i8) 0 a1.Grain) ++ ([] : List AV))))] []) (fun p => rRes p.2 p.1 = impl_halfText_enc r) := by
 unfold impl_halfText at h
 refine Ev.enter (F := fun k => f103 (CN k) k) (fun k => callN_eq rfl Tryd.func103 rfl rfl rfl (by decide +kernel) (f103_eq _ _)) (sq (Rg (kx (bxI rfl rfl ⟨rfl, rfl, by decide⟩) (kx (mvO rfl) (Rn (hN rfl hZ) fun e1 h3 => sN (sq (Rg (kx (mvO rfl) (Rn (hA h3 (hN rfl hZ)) fun e4 h6 h7 => sN (sq (sq (Rg (kx (faP h6 ⟨ble rfl, blt rfl⟩ rfl) (kx (ldP rfl rfl) (Rn (hA h6 (hA h7 (hN rfl hZ))) fun e8 h10 h11 h12 => sN ?_)))))))))))))))
 clear h3 h6 h7
 rcases ite_some h with ⟨hb13, h⟩ | ⟨hb13, h⟩
 ·refine cT h12 hb13 (Rg (kx (mvO rfl) (Rn (hA h10 (hN rfl hZ)) fun e14 h16 h17 => sN (sq (Rg (ku (litO (xs := ([] : List Int)) (c := (cI .u8)) rfl rfl (by decide)) fun M19 hM20 => ?_))))))
  clear h10 h12
  have o21 : M19[([] : Mem).length]? = some (.live ⟨.grow, 5, 1, ([] : List Int).map (cI .u8)⟩) := push_new hM20
  obtain ⟨y103, hr99, h⟩ := bind_some h
  refine kx (mvO rfl) (Rn (hA h16 (hA h17 (hV (.lsl ([] : Mem).length ([] : List Int).length 0 ([] : List Int).length) rfl hZ))) fun e22 h24 h25 h26 => sN (sq (sq (Rg (kx (faP h24 ⟨ble rfl, blt rfl⟩ rfl) (kx (ldPA rfl rfl rfl) (kx (mvO rfl) (Rn (hA h24 (hA h25 (hA h26 (hN rfl (hV (.int .i64 0) rfl hZ))))) fun e27 h29 h30 h31 h32 h33 => sN (bl (Ev.loop (RS := impl_halfText_b1_RS a1 (([] : Mem).length)) (RR := impl_halfText_b1_RR a1 (([] : Mem).length)) (fun s r h e M hs => impl_halfText_b1_ok a1 (([] : Mem).length) s r h e M hs) hr99 ⟨h29, h30, h31, h32, h33, o21⟩ fun x e101 M102 hq100 => ?_))))))))))
  clear h16 h17 h24 h25 h26
  obtain ⟨rfl, h104, h105, h106, o107⟩ := hq100
  refine bE (sN (sq (Rg (kx (mvO h105) (kx (mvO h106) (kx (cvB (elL rfl o107 rfl)) (ku (litO (xs := [([115, 116, 111, 99, 107] : List UInt8), (toB y103)]) (c := cS) (cns rfl (cns rfl rfl)) rfl (by decide)) fun M109 hM110 => ?_)))))))
  have o111 := push_old hM110 o107
  have ne112 := ne_new o107
  have o113 : M109[M102.length]? = some (.live ⟨.grow, 9, 1, [([115, 116, 111, 99, 107] : List UInt8), (toB y103)].map cS⟩) := push_new hM110
  obtain ⟨y202, hr198, h⟩ := bind_some h
  refine kx (mvO rfl) (Rn (hV (.pt none (.bool a1.Stock :: (.sl none (a1.Notches.map Notch.c) :: ((arC (cI .i8) 0 a1.Grain) ++ ([] : List AV))))) h104 (hV (.lsl M102.length [([115, 116, 111, 99, 107] : List UInt8), (toB y103)].length 0 [([115, 116, 111, 99, 107] : List UInt8), (toB y103)].length) rfl hZ)) fun e114 h116 h117 => sN (sq (sq (Rg (kx (faP h116 ⟨ble rfl, blt rfl⟩ rfl) (kx (ldP rfl rfl) (kx (lnS Tryd.underlying48 rfl) (kx (mvO rfl) (Rn (hA h117 (hN rfl (hN rfl (hV (.int .i64 0) rfl hZ)))) fun e118 h120 h121 h122 h123 => sN (bl (Ev.loop (RS := impl_halfText_b2_RS a1 M102.length) (RR := impl_halfText_b2_RR a1 M102.length) (fun s r h e M hs => impl_halfText_b2_ok a1 M102.length s r h e M hs) hr198 ⟨h120, h121, h122, h123, o113⟩ fun x e200 M201 hq199 => ?_)))))))))))
  clear h104 h105 h106 h116 h117
  obtain ⟨rfl, h203, o204⟩ := hq199
  obtain ⟨r206, hx205, h⟩ := bind_some h
  refine bE (sN (sq (Rg (kx (mvO h203) (kc (cl (v := .str r206) rfl rfl (cns rfl (cns rfl rfl)) (ra1 (ra1_row o204 rfl cS_fl) (ra1 rfl ra0)) (strings_Join_ok y202 ([32] : List UInt8) _ hx205) (fun _ => rfl)) (kx (mvO rfl) (Rn (hN rfl hZ) fun e207 h209 => sN (xx ?_))))))))
  clear h203
  obtain rfl := si h
  exact eR (resT h209 res0) rfl
 refine cF h12 hb13 (xx (sN (sq (Rg (ku (litO (xs := ([] : List Int)) (c := (cI .u8)) rfl rfl (by decide)) fun M211 hM212 => ?_)))))
 have o213 : M211[([] : Mem).length]? = some (.live ⟨.grow, 5, 1, ([] : List Int).map (cI .u8)⟩) := push_new hM212
 obtain ⟨y295, hr291, h⟩ := bind_some h
 refine kx (mvO rfl) (Rn (hA h10 (hA h11 (hV (.lsl ([] : Mem).length ([] : List Int).length 0 ([] : List Int).length) rfl hZ))) fun e214 h216 h217 h218 => sN (sq (sq (Rg (kx (faP h216 ⟨ble rfl, blt rfl⟩ rfl) (kx (ldPA rfl rfl rfl) (kx (mvO rfl) (Rn (hA h216 (hA h217 (hA h218 (hN rfl (hV (.int .i64 0) rfl hZ))))) fun e219 h221 h222 h223 h224 h225 => sN (bl (Ev.loop (RS := impl_halfText_b3_RS a1 (([] : Mem).length)) (RR := impl_halfText_b3_RR a1 (([] : Mem).length)) (fun s r h e M hs => impl_halfText_b3_ok a1 (([] : Mem).length) s r h e M hs) hr291 ⟨h221, h222, h223, h224, h225, o213⟩ fun x e293 M294 hq292 => ?_))))))))))
 clear h10 h11 h12 h216 h217 h218
 obtain ⟨rfl, h296, h297, h298, o299⟩ := hq292
 refine bE (sN (sq (Rg (kx (mvO h297) (kx (mvO h298) (kx (cvB (elL rfl o299 rfl)) (ku (litO (xs := [([102, 111, 105, 108] : List UInt8), (toB y295)]) (c := cS) (cns rfl (cns rfl rfl)) rfl (by decide)) fun M301 hM302 => ?_)))))))
 have o303 := push_old hM302 o299
 have ne304 := ne_new o299
 have o305 : M301[M294.length]? = some (.live ⟨.grow, 9, 1, [([102, 111, 105, 108] : List UInt8), (toB y295)].map cS⟩) := push_new hM302
 obtain ⟨y394, hr390, h⟩ := bind_some h
 refine kx (mvO rfl) (Rn (hV (.pt none (.bool a1.Stock :: (.sl none (a1.Notches.map Notch.c) :: ((arC (cI .i8) 0 a1.Grain) ++ ([] : List AV))))) h296 (hV (.lsl M294.length [([102, 111, 105, 108] : List UInt8), (toB y295)].length 0 [([102, 111, 105, 108] : List UInt8), (toB y295)].length) rfl hZ)) fun e306 h308 h309 => sN (sq (sq (Rg (kx (faP h308 ⟨ble rfl, blt rfl⟩ rfl) (kx (ldP rfl rfl) (kx (lnS Tryd.underlying48 rfl) (kx (mvO rfl) (Rn (hA h309 (hN rfl (hN rfl (hV (.int .i64 0) rfl hZ)))) fun e310 h312 h313 h314 h315 => sN (bl (Ev.loop (RS := impl_halfText_b4_RS a1 M294.length) (RR := impl_halfText_b4_RR a1 M294.length) (fun s r h e M hs => impl_halfText_b4_ok a1 M294.length s r h e M hs) hr390 ⟨h312, h313, h314, h315, o305⟩ fun x e392 M393 hq391 => ?_)))))))))))
 clear h296 h297 h298 h308 h309
 obtain ⟨rfl, h395, o396⟩ := hq391
 obtain ⟨r398, hx397, h⟩ := bind_some h
 refine bE (sN (sq (Rg (kx (mvO h395) (kc (cl (v := .str r398) rfl rfl (cns rfl (cns rfl rfl)) (ra1 (ra1_row o396 rfl cS_fl) (ra1 rfl ra0)) (strings_Join_ok y394 ([32] : List UInt8) _ hx397) (fun _ => rfl)) (kx (mvO rfl) (Rn (hN rfl hZ) fun e399 h401 => sN (xx ?_))))))))
 clear h395
 obtain rfl := si h
 exact eR (resT h401 res0) rfl
/-! ### slices.Clone[[]loop.example/g01263/impl.Notch,loop.example/g01263/impl.Notch] (f102) -/
noncomputable def slices_Clone_Notch (a1 : List Notch) : Option ((List Notch)) :=
 (app 4 ([] : List Notch) a1).bind fun x8 =>
 some x8
def slices_Clone_Notch_enc (r : (List Notch)) : AV := .sl (some 141) (r.map Notch.c)
theorem slices_Clone_Notch_ok (a1 : List Notch) (r : (List Notch)) (h : slices_Clone_Notch a1 = some r) : Ev (fun k => CN k 102 [.sl none (a1.map Notch.c)] []) (fun p => rRes p.2 p.1 = slices_Clone_Notch_enc r) := by
  refine Ev.prim rfl (Ev.notLib rfl ?_)
  by_cases hn : a1 = []
  · subst hn
    have e : r = [] := by simpa [slices_Clone_Notch, app] using h.symm
    subst e
    exact Ev.nilBoth (by kernel_rfl) (by kernel_rfl)
  · have hp : 0 < a1.length := List.length_pos_iff.2 hn
    refine Ev.nilNot (by simpa using hn) ?_
    unfold slices_Clone_Notch at h
    obtain ⟨x8, hx9, h⟩ := bind_some h
    refine Ev.enter0 (F := fun _ => f102 (CN0 2) 2) (fun k => callN_eq rfl Tryd.func102 rfl rfl rfl (by decide +kernel) (f102_eq _ _)) (sq (Rg (kx (mvO rfl) (Rn (hN rfl hZ) fun e1 h3 => sN (sq (sq (Rg (kx (mvO h3) (kx (bNilF Tryd.underlying48 hp rfl rfl) (Rn (hA h3 (hV (.bool false) rfl hZ)) fun e4 h6 h7 => sN (cF h7 rfl (xx (sN (sq (Rg (kx (litI rfl rfl ⟨rfl, by decide⟩) (kx (mvO h6) (kx (aiT (c := Notch.c) (xs := ([] : List Notch)) rfl (elS rfl) hx9 Notch.fl (by decide)) (kx (mvO rfl) (Rn (hN rfl hZ) fun e10 h12 => sN (xx ?_)))))))))))))))))))))
    clear h3 h6 h7
    obtain rfl := si h
    exact eR (resT h12 res0) rfl
/-! ### (loop.example/g01263/impl.Notch).end (f101) -/
noncomputable def impl_Notch_end (a1 : Notch) : Option Int :=
 (impl_width (IntKind.i64.wrap a1.Kind)).bind fun r5 =>
 some (IntKind.i64.wrap ((IntKind.i64.wrap a1.At) + r5))
def impl_Notch_end_enc (r : Int) : AV := .int .i64 r
theorem impl_Notch_end_ok (a1 : Notch) (r : Int) (h : impl_Notch_end a1 = some r) : Ev (fun k => CN k 101 [.agg [.int .i8 a1.Kind, .int .i16 a1.At]] []) (fun p => rRes p.2 p.1 = impl_Notch_end_enc r) := by
 unfold impl_Notch_end at h
 obtain ⟨r5, hx4, h⟩ := bind_some h
 refine Ev.enter (F := fun k => f101 (CN k) k) (fun k => callN_eq rfl Tryd.func101 rfl rfl rfl (by decide +kernel) (f101_eq _ _)) (sq (Rg (kx (bxI rfl rfl ⟨rfl, rfl, by decide⟩) (kx (mvO rfl) (Rn (hN rfl hZ) fun e1 h3 => sN (sq (Rd (kf (faP h3 ⟨ble rfl, blt rfl⟩ rfl) (kf (ldP rfl rfl) (kf (cvI rfl) (kf (faP h3 ⟨ble rfl, blt rfl⟩ rfl) (kf (ldP rfl rfl) (kf (cvI rfl) (fc (cl (v := .int .i64 r5) rfl rfl (cns rfl rfl) rfl (impl_width_ok (IntKind.i64.wrap a1.Kind) _ hx4) nm) (kf (bAdd rfl rfl) (kf (mvO rfl) (fZ (Rn (hN rfl hZ) fun e6 h8 => sN (xx ?_)))))))))))))))))))
 clear h3
 obtain rfl := si h
 exact eR (resT h8 res0) rfl
/-! ### loop.example/g01263/impl.isKind (f100) -/
noncomputable def impl_isKind (a1 : Int) : Option Bool :=
 if (decide (a1 ≥ 0)) = true then
  some (decide (a1 ≤ 5))
 else
  some false
def impl_isKind_enc (r : Bool) : AV := .bool r
theorem impl_isKind_ok (a1 : Int) (r : Bool) (h : impl_isKind a1 = some r) : Ev (fun k => CN k 100 [.int .i64 a1] []) (fun p => rRes p.2 p.1 = impl_isKind_enc r) := by
 unfold impl_isKind at h
 refine Ev.enter (F := fun k => f100 (CN k) k) (fun k => callN_eq rfl Tryd.func100 rfl rfl rfl (by decide +kernel) (f100_eq _ _)) (sq (Rg (kx (mvO rfl) (Rn (hN rfl hZ) fun e1 h3 => sN (sq (Rg (kx (mvO h3) (kx (bGeq rfl rfl) (kx (mvO rfl) ?_)))))))))
 rcases ite_some h with ⟨hb4, h⟩ | ⟨hb4, h⟩
 ·refine kx (guT rfl hb4 (mvO h3)) (kx (guT rfl hb4 (bLeq rfl rfl)) (kx (pkT rfl hb4 rfl) (kx (mvO rfl) (Rn (hN rfl hZ) fun e5 h7 => sN (xx ?_)))))
  clear h3
  obtain rfl := si h
  exact eR (resT h7 res0) rfl
 refine kx (gsT rfl hb4) (kx (gsT rfl hb4) (kx (pkF rfl hb4 rfl) (kx (mvO rfl) (Rn (hV (.bool false) rfl hZ) fun e8 h10 => sN (xx ?_)))))
 clear h3
 obtain rfl := si h
 exact eR (resT h10 res0) rfl
/-! ### loop.example/g01263/impl.ValidGrain (f99) -/
abbrev impl_ValidGrain_b1_S := Int
abbrev impl_ValidGrain_b1_R := Unit ⊕ Unit
def impl_ValidGrain_b1_RS (a1 : Ar 16 Int) (s : impl_ValidGrain_b1_S) (e : Env) (M : Mem) : Prop := eget e 5 = .agg (arC (cI .i8) 0 a1) ∧ eget e 6 = .int .i64 s
def impl_ValidGrain_b1_RR (a1 : Ar 16 Int) (r : impl_ValidGrain_b1_R) (x : Ex) (e : Env) (M : Mem) : Prop :=
  match r with
  | (.inl g) => x = .ret ∧ eget e 2 = .bool false
  | (.inr g) => x = .ext 0 ∧ True
noncomputable def impl_ValidGrain_b1 (a1 : Ar 16 Int) : impl_ValidGrain_b1_S → Option (impl_ValidGrain_b1_S ⊕ impl_ValidGrain_b1_R) := fun s1_1 =>
 if (decide (s1_1 < 16)) = true then
  (rdA a1 s1_1).bind fun x26 =>
  if (decide (x26 < (-3))) = true then
   some (.inr (.inl ()))
  else
   if (decide (x26 > 3)) = true then
    some (.inr (.inl ()))
   else
    some (.inl (IntKind.i64.wrap (s1_1 + 1)))
 else
  some (.inr (.inr ()))
theorem impl_ValidGrain_b1_ok (a1 : Ar 16 Int) (s : impl_ValidGrain_b1_S) (r : impl_ValidGrain_b1_S ⊕ impl_ValidGrain_b1_R) (h : impl_ValidGrain_b1 a1 s = some r) (e : Env) (M : Mem) (hs : impl_ValidGrain_b1_RS a1 s e M) : Ev (fun k => (f99_l2 (CN k) k (prune [5, 6] e) M).bind fun q => some q) (bQ (impl_ValidGrain_b1_RS a1) (impl_ValidGrain_b1_RR a1) r) := by
 revert h hs
 revert s
 intro s1_1 h hs
 unfold impl_ValidGrain_b1 at h
 obtain ⟨h16, h18⟩ := hs
 generalize he15 : prune [5, 6] e = e14
 have h17 := envp he15.symm rfl h16
 have h19 := envp he15.symm rfl h18
 refine sq (Rg (kx (bLss h19 rfl) (Rn (hV (.agg (arC (cI .i8) 0 a1)) h17 (hV (.int .i64 s1_1) h19 (hN rfl hZ))) fun e20 h22 h23 h24 => sN (sq ?_))))
 clear h17 h19
 rcases ite_some h with ⟨hb25, h⟩ | ⟨hb25, h⟩
 ·obtain ⟨x26, hx27, h⟩ := bind_some h
  refine cT h24 hb25 (xx (sN (sq (bl (sq (Rg (kx (ixA1 (K := AV.int .i8) (c := (cI .i8)) (z := 0) (g := a1) h22 h23 hx27 (fun _ => rfl)) (kx (mvO rfl) (Rn (hN rfl (hA h22 (hA h23 hZ))) fun e28 h30 h31 h32 => sN (sq (Rg (kx (mvO h30) (kx (bLss rfl rfl) (kx (mvO rfl) ?_))))))))))))))
  clear h22 h23 h24
  rcases ite_some h with ⟨hb33, h⟩ | ⟨hb33, h⟩
  ·refine kx (gsF rfl hb33) (kx (gsF rfl hb33) (kx (pkT rfl hb33 rfl) (Rn (hA h31 (hA h32 (hV (.bool true) rfl hZ))) fun e34 h36 h37 h38 => sN (cT h38 rfl (sq (Rg (kx (mvO rfl) (Rn (hV (.bool false) rfl hZ) fun e39 h41 => sN (xx (bR (sR ?_)))))))))))
   clear h30 h31 h32 h36 h37 h38
   obtain rfl := si h
   exact qR ⟨rfl, h41⟩
  refine kx (guF rfl hb33 (mvO h30)) (kx (guF rfl hb33 (bGtr rfl rfl)) (kx (pkF rfl hb33 rfl) (Rn (hA h31 (hA h32 (hN rfl hZ))) fun e42 h44 h45 h46 => sN ?_)))
  clear h30 h31 h32
  rcases ite_some h with ⟨hb47, h⟩ | ⟨hb47, h⟩
  ·refine cT h46 hb47 (sq (Rg (kx (mvO rfl) (Rn (hV (.bool false) rfl hZ) fun e48 h50 => sN (xx (bR (sR ?_)))))))
   clear h44 h45 h46
   obtain rfl := si h
   exact qR ⟨rfl, h50⟩
  refine cF h46 hb47 (xx (bN (sN (Rg (kx (bAdd h45 rfl) (kx (mvO rfl) (Rn (hA h44 (hN rfl hZ)) fun e51 h53 h54 => ?_)))))))
  clear h44 h46
  obtain rfl := si h
  exact qN ⟨h53, h54⟩
 refine cF h24 hb25 (xx (sE ?_))
 obtain rfl := si h
 exact qE ⟨rfl, trivial⟩
noncomputable def impl_ValidGrain (a1 : Ar 16 Int) : Option Bool :=
 (Lw (impl_ValidGrain_b1 a1) 0).bind fun r => match r with
 | (.inl _) =>
  some false
 | (.inr _) =>
  some true
def impl_ValidGrain_enc (r : Bool) : AV := .bool r
theorem impl_ValidGrain_ok (a1 : Ar 16 Int) (r : Bool) (h : impl_ValidGrain a1 = some r) : Ev (fun k => CN k 99 [.agg (arC (cI .i8) 0 a1)] []) (fun p => rRes p.2 p.1 = impl_ValidGrain_enc r) := by
 unfold impl_ValidGrain at h
 obtain ⟨r55, hr56, h⟩ := bind_some h
 refine Ev.enter (F := fun k => f99 (CN k) k) (fun k => callN_eq rfl Tryd.func99 rfl rfl rfl (by decide +kernel) (f99_eq _ _)) (sq (Rg (kx (bxI rfl rfl ⟨rfl, rfl, by decide⟩) (kx (mvO rfl) (Rn (hN rfl hZ) fun e1 h3 => sN (sq (sq (Rg (kx (ldPA h3 rfl rfl) (kx (mvO rfl) (Rn (hN rfl (hV (.int .i64 0) rfl hZ)) fun e4 h6 h7 => sN (bl ?_))))))))))))
 clear h3
 rcases r55 with _ | _
 ·refine Ev.loop (RS := impl_ValidGrain_b1_RS a1) (RR := impl_ValidGrain_b1_RR a1) (fun s r h e M hs => impl_ValidGrain_b1_ok a1 s r h e M hs) hr56 ⟨h6, h7⟩ fun x e58 M59 hq57 => ?_
  obtain ⟨rfl, h60⟩ := hq57
  refine bR (sR ?_)
  obtain rfl := si h
  exact eR (resT h60 res0) rfl
 refine Ev.loop (RS := impl_ValidGrain_b1_RS a1) (RR := impl_ValidGrain_b1_RR a1) (fun s r h e M hs => impl_ValidGrain_b1_ok a1 s r h e M hs) hr56 ⟨h6, h7⟩ fun x e61 M62 hq57 => ?_
 obtain ⟨rfl, _⟩ := hq57
 refine bE (sN (sq (Rg (kx (mvO rfl) (Rn (hV (.bool true) rfl hZ) fun e63 h65 => sN (xx ?_))))))
 obtain rfl := si h
 exact eR (resT h65 res0) rfl
/-! ### slices.Equal[[]loop.example/g01263/impl.Notch,loop.example/g01263/impl.Notch] (f97) -/
abbrev slices_Equal_Notch_b1_S := Int
abbrev slices_Equal_Notch_b1_R := Unit ⊕ Unit
def slices_Equal_Notch_b1_RS (a1 : List Notch) (a2 : List Notch) (s : slices_Equal_Notch_b1_S) (e : Env) (M : Mem) : Prop := eget e 0 = .sl none (a1.map Notch.c) ∧ eget e 1 = .sl none (a2.map Notch.c) ∧ eget e 12 = .int .i64 (a1.length : Int) ∧ eget e 13 = .int .i64 s
def slices_Equal_Notch_b1_RR (a1 : List Notch) (a2 : List Notch) (r : slices_Equal_Notch_b1_R) (x : Ex) (e : Env) (M : Mem) : Prop :=
  match r with
  | (.inl g) => x = .ret ∧ eget e 4 = .bool false
  | (.inr g) => x = .ext 0 ∧ True
noncomputable def slices_Equal_Notch_b1 (a1 : List Notch) (a2 : List Notch) : slices_Equal_Notch_b1_S → Option (slices_Equal_Notch_b1_S ⊕ slices_Equal_Notch_b1_R) := fun s1_1 =>
 if (decide (s1_1 < (a1.length : Int))) = true then
  (rd a1 s1_1).bind fun x55 =>
  (rd a2 s1_1).bind fun x57 =>
  if ((x55.Kind == x57.Kind) && ((x55.At == x57.At) && true)) = true then
   some (.inl (IntKind.i64.wrap (s1_1 + 1)))
  else
   some (.inr (.inl ()))
 else
  some (.inr (.inr ()))
theorem slices_Equal_Notch_b1_ok (a1 : List Notch) (a2 : List Notch) (s : slices_Equal_Notch_b1_S) (r : slices_Equal_Notch_b1_S ⊕ slices_Equal_Notch_b1_R) (h : slices_Equal_Notch_b1 a1 a2 s = some r) (e : Env) (M : Mem) (hs : slices_Equal_Notch_b1_RS a1 a2 s e M) : Ev (fun k => (f97_l4 (CN k) k (prune [0, 1, 12, 13] e) M).bind fun q => some q) (bQ (slices_Equal_Notch_b1_RS a1 a2) (slices_Equal_Notch_b1_RR a1 a2) r) := by
 revert h hs
 revert s
 intro s1_1 h hs
 unfold slices_Equal_Notch_b1 at h
 obtain ⟨h32, h34, h36, h38⟩ := hs
 generalize he31 : prune [0, 1, 12, 13] e = e30
 have h33 := envp he31.symm rfl h32
 have h35 := envp he31.symm rfl h34
 have h37 := envp he31.symm rfl h36
 have h39 := envp he31.symm rfl h38
 refine sq (Rg (kx (bLss h39 h37) (Rn (hV (.sl none (a1.map Notch.c)) h33 (hV (.sl none (a2.map Notch.c)) h35 (hV (.int .i64 (a1.length : Int)) h37 (hV (.int .i64 s1_1) h39 (hN rfl hZ))))) fun e40 h42 h43 h44 h45 h46 => sN (sq ?_))))
 clear h33 h35 h37 h39
 rcases ite_some h with ⟨hb47, h⟩ | ⟨hb47, h⟩
 ·obtain ⟨x55, hx56, h⟩ := bind_some h
  obtain ⟨x57, hx58, h⟩ := bind_some h
  refine cT h46 hb47 (xx (sN (sq (bl (sq (Rg (kx (mvO h45) (kx (mvO rfl) (Rn (hA h42 (hA h43 (hN rfl (hA h44 (hA h45 hZ))))) fun e48 h50 h51 h52 h53 h54 => sN (sq (Rd (kf (mvO h50) (kf (mvO h52) (kf (ixS rfl rfl hx56 Notch.fl) (kf (ldPA rfl rfl rfl) (kf (mvO h51) (kf (mvO h52) (kf (ixS rfl rfl hx58 Notch.fl) (kf (ldPA rfl rfl rfl) (kf (gNeq rfl rfl (by kernel_rfl) rfl) (fZ (Rn (hA h50 (hA h51 (hA h53 (hA h54 (hN rfl hZ))))) fun e59 h61 h62 h63 h64 h65 => sN ?_))))))))))))))))))))))
  clear h42 h43 h44 h45 h46 h50 h51 h52 h53 h54
  rcases ite_some h with ⟨hb66, h⟩ | ⟨hb66, h⟩
  ·refine cF h65 (congrArg Bool.not hb66) (xx (bN (sN (Rg (kx (bAdd h64 rfl) (kx (mvO rfl) (Rn (hA h61 (hA h62 (hA h63 (hN rfl hZ)))) fun e67 h69 h70 h71 h72 => ?_)))))))
   clear h61 h62 h63 h65
   obtain rfl := si h
   exact qN ⟨h69, h70, h71, h72⟩
  refine cT h65 (congrArg Bool.not hb66) (sq (Rg (kx (mvO rfl) (Rn (hV (.bool false) rfl hZ) fun e73 h75 => sN (xx (bR (sR ?_)))))))
  clear h61 h62 h63 h64 h65
  obtain rfl := si h
  exact qR ⟨rfl, h75⟩
 refine cF h46 hb47 (xx (sE ?_))
 obtain rfl := si h
 exact qE ⟨rfl, trivial⟩
noncomputable def slices_Equal_Notch (a1 : List Notch) (a2 : List Notch) : Option Bool :=
 if ((a1.length : Int) != (a2.length : Int)) = true then
  some false
 else
  (Lw (slices_Equal_Notch_b1 a1 a2) 0).bind fun r => match r with
  | (.inl _) =>
   some false
  | (.inr _) =>
   some true
def slices_Equal_Notch_enc (r : Bool) : AV := .bool r
theorem slices_Equal_Notch_ok (a1 : List Notch) (a2 : List Notch) (r : Bool) (h : slices_Equal_Notch a1 a2 = some r) : Ev (fun k => CN k 97 [.sl none (a1.map Notch.c), .sl none (a2.map Notch.c)] []) (fun p => rRes p.2 p.1 = slices_Equal_Notch_enc r) := by
 unfold slices_Equal_Notch at h
 refine Ev.enter (F := fun k => f97 (CN k) k) (fun k => callN_eq rfl Tryd.func97 rfl rfl rfl (by decide +kernel) (f97_eq _ _)) (sq (Rg (kx (mvO rfl) (Rn (hN rfl (hN rfl hZ)) fun e1 h3 h4 => sN (sq (sq (Rg (kx (mvO h3) (kx (lnS Tryd.underlying48 rfl) (kx (mvO h4) (kx (lnS Tryd.underlying48 rfl) (kx (bNeq rfl rfl) (Rn (hA h3 (hA h4 (hN rfl hZ))) fun e5 h7 h8 h9 => sN ?_)))))))))))))
 clear h3 h4
 rcases ite_some h with ⟨hb10, h⟩ | ⟨hb10, h⟩
 ·refine cT h9 hb10 (sq (Rg (kx (mvO rfl) (Rn (hV (.bool false) rfl hZ) fun e11 h13 => sN (xx (sR ?_))))))
  clear h7 h8 h9
  obtain rfl := si h
  exact eR (resT h13 res0) rfl
 obtain ⟨r76, hr77, h⟩ := bind_some h
 refine cF h9 hb10 (xx (sN (sq (sq (Rg (kx (mvO h7) (kx (lnS Tryd.underlying48 rfl) (kx (mvO rfl) (Rn (hA h7 (hA h8 (hN rfl (hV (.int .i64 0) rfl hZ)))) fun e14 h16 h17 h18 h19 => sN (bl ?_))))))))))
 clear h7 h8 h9
 rcases r76 with _ | _
 ·refine Ev.loop (RS := slices_Equal_Notch_b1_RS a1 a2) (RR := slices_Equal_Notch_b1_RR a1 a2) (fun s r h e M hs => slices_Equal_Notch_b1_ok a1 a2 s r h e M hs) hr77 ⟨h16, h17, h18, h19⟩ fun x e79 M80 hq78 => ?_
  obtain ⟨rfl, h81⟩ := hq78
  refine bR (sR ?_)
  obtain rfl := si h
  exact eR (resT h81 res0) rfl
 refine Ev.loop (RS := slices_Equal_Notch_b1_RS a1 a2) (RR := slices_Equal_Notch_b1_RR a1 a2) (fun s r h e M hs => slices_Equal_Notch_b1_ok a1 a2 s r h e M hs) hr77 ⟨h16, h17, h18, h19⟩ fun x e82 M83 hq78 => ?_
 obtain ⟨rfl, _⟩ := hq78
 refine bE (sN (sq (Rg (kx (mvO rfl) (Rn (hV (.bool true) rfl hZ) fun e84 h86 => sN (xx ?_))))))
 obtain rfl := si h
 exact eR (resT h86 res0) rfl
/-! ### loop.example/g01263/spec.PassOn (f95) -/
def spec_PassOn_c1_Q (a1 : Chain) (a2 : Party) (a3 : List UInt8) (r22 : List UInt8) (r23 : Int) (i901_1 : Nat) (i901_2 : Nat) (g : Bool) (q : Out) : Prop := q.1 = .nrm ∧ eget q.2.1 2 = .str a3 ∧ eget q.2.1 3 = .pt none (.str a1.Debtor :: (.bool a1.Stock.Stock :: (.sl none (a1.Stock.Notches.map Notch.c) :: ((arC (cI .i8) 0 a1.Stock.Grain) ++ ((.sl none (a1.Marks.map Mark.c) :: []) : List AV))))) ∧ eget q.2.1 4 = .pt none [.str a2.Name, .int .u32 a2.Secret] ∧ eget q.2.1 6 = .loc i901_1 1 0 0 ∧ eget q.2.1 8 = .loc i901_2 1 0 0 ∧ eget q.2.1 28 = .bool g ∧ q.2.2[i901_1]? = some (.live ⟨.box, 55, 20, [(.str ([] : List UInt8) :: (.bool false :: (.nils :: ((arC (cI .i8) 0 (Ar.rep 16 0)) ++ ((.nils :: []) : List AV)))))]⟩) ∧ q.2.2[i901_2]? = some (.live ⟨.box, 60, 2, [[.str r22, .int .u32 r23]]⟩)
noncomputable def spec_PassOn (a1 : Chain) (a2 : Party) (a3 : List UInt8) : Option ((List UInt8) × Bool × (List Notch) × (Ar 16 Int) × (List Mark) × Int) :=
 (spec_l06Ok a1).bind fun r12 =>
 if r12 = true then
  (spec_l06Last a1).bind fun (r22, r23) =>
  if (a2.Name == r22) = true then
   ((spec_l06Name a3).bind fun r51 =>
   if r51 = true then
    some (a3 == a2.Name)
   else
    some true).bind fun y71 =>
   if y71 = true then
    some (([] : List UInt8), false, ([] : List Notch), (Ar.rep 16 0), ([] : List Mark), 2)
   else
    if (decide ((a1.Marks.length : Int) ≥ 30)) = true then
     some (([] : List UInt8), false, ([] : List Notch), (Ar.rep 16 0), ([] : List Mark), 3)
    else
     (spec_l06Seal a1.Stock r23 a3 a2.Secret).bind fun r107 =>
     (spec_l04Copy a1.Stock).bind fun (r127, r128, r129) =>
     (app 24 ([] : List Mark) a1.Marks).bind fun x143 =>
     (app 24 x143 [(Mark.mk a3 r107)]).bind fun x151 =>
     some (a1.Debtor, r127, r128, r129, x151, 0)
  else
   some (([] : List UInt8), false, ([] : List Notch), (Ar.rep 16 0), ([] : List Mark), 4)
 else
  some (([] : List UInt8), false, ([] : List Notch), (Ar.rep 16 0), ([] : List Mark), 1)
def spec_PassOn_enc (r : (List UInt8) × Bool × (List Notch) × (Ar 16 Int) × (List Mark) × Int) : AV := .tup [.agg (.str r.1 :: (.bool r.2.1 :: (.sl none (r.2.2.1.map Notch.c) :: ((arC (cI .i8) 0 r.2.2.2.1) ++ ((.sl none (r.2.2.2.2.1.map Mark.c) :: []) : List AV))))), .int .i64 r.2.2.2.2.2]
theorem spec_PassOn_ok (a1 : Chain) (a2 : Party) (a3 : List UInt8) (r : (List UInt8) × Bool × (List Notch) × (Ar 16 Int) × (List Mark) × Int) (h : spec_PassOn a1 a2 a3 = some r) : Ev (fun k => CN k 95 [.agg (.str a1.Debtor :: (.bool a1.Stock.Stock :: (.sl none (a1.Stock.Notches.map Notch.c) :: ((arC (cI .i8) 0 a1.Stock.Grain) ++ ((.sl none (a1.Marks.map Mark.c) :: []) : List AV))))), .agg [.str a2.Name, .int .u32 a2.Secret], .str a3] []) (fun p => wkR (rRes p.2 p.1) = spec_PassOn_enc r ∧ ownAll (rRes p.2 p.1) = true) := by
 unfold spec_PassOn at h
 refine Ev.enter (F := fun k => f95 (CN k) k) (fun k => callN_eq rfl Tryd.func95 rfl rfl rfl (by decide +kernel) (f95_eq _ _)) (sq (Rg (kx (bxI rfl rfl ⟨rfl, rfl, by decide⟩) (kx (bxI rfl rfl ⟨rfl, rfl, by decide⟩) (ku (alO zero55) fun M2 hM3 => ?_)))))
 have o4 : M2[([] : Mem).length]? = some (.live ⟨.box, 55, 20, [(.str ([] : List UInt8) :: (.bool false :: (.nils :: ((arC (cI .i8) 0 (Ar.rep 16 0)) ++ ((.nils :: []) : List AV)))))]⟩) := push_new hM3
 obtain ⟨r12, hx11, h⟩ := bind_some h
 refine kx (mvO rfl) (Rn (hN rfl (hN rfl (hN rfl (hV (.loc ([] : Mem).length 1 0 0) rfl hZ)))) fun e5 h7 h8 h9 h10 => sN (sq (sq (Rg (kc (cl (v := .bool r12) rfl rfl (cns h8 rfl) rfl (spec_l06Ok_ok a1 _ hx11) nm) (kx (uNot rfl) (Rn (hA h7 (hA h8 (hA h9 (hA h10 (hN rfl hZ))))) fun e13 h15 h16 h17 h18 h19 => sN ?_)))))))
 clear h10 h7 h8 h9
 rcases ite_some h with ⟨hb20, h⟩ | ⟨hb20, h⟩
 ·obtain ⟨⟨r22, r23⟩, hx21, h⟩ := bind_some h
  refine cF h19 (congrArg Bool.not hb20) (xx (sN (sq (Rg (kc (cl (v := .agg [.str r22, .int .u32 r23]) rfl rfl (cns h16 rfl) rfl (spec_l06Last_ok a1 _ hx21) nm) (ku (alO zero60) fun M25 hM26 => ?_))))))
  have o27 := push_old hM26 o4
  have ne28 := ne_new o4
  have o29 : M25[M2.length]? = some (.live ⟨.box, 60, 2, [[.str ([] : List UInt8), .int .u32 0]]⟩) := push_new hM26
  refine kw (stO rfl rfl o29 rfl rfl ⟨rfl, ble rfl⟩ rfl rfl) fun M30 hM31 => ?_
  have o32 := set_ne hM31 ne28 o27
  have o33 : M30[M2.length]? = some (.live ⟨.box, 60, 2, [[.str r22, .int .u32 r23]]⟩) := set_same hM31 o29
  refine Rn (hA h15 (hA h16 (hA h17 (hA h18 (hV (.loc M2.length 1 0 0) rfl hZ))))) fun e34 h36 h37 h38 h39 h40 => sN (sq (sq (Rg (kx (faP h38 ⟨ble rfl, blt rfl⟩ rfl) (kx (ldP rfl rfl) (kx (faO h40 o33 rfl) (kx (ldO rfl o33 rfl rfl rfl) (kx (sNeq rfl rfl) (Rn (hA h36 (hA h37 (hA h38 (hA h39 (hA h40 (hN rfl hZ)))))) fun e41 h43 h44 h45 h46 h47 h48 => sN ?_)))))))))
  clear h15 h16 h17 h18 h19 h36 h37 h38 h39 h40
  rcases ite_some h with ⟨hb49, h⟩ | ⟨hb49, h⟩
  ·obtain ⟨r170, hr171, h⟩ := bind_some h
   refine cF h48 (congrArg Bool.not hb49) (xx (sN (sq (sq ?_))))
   refine Ev.cut (Q1 := spec_PassOn_c1_Q a1 a2 a3 r22 r23 (([] : Mem).length) M2.length r170) (by
       have h := hr171
       obtain ⟨r51, hx50, h⟩ := bind_some h
       refine Rg (kx (mvO h43) (kc (cl (v := .bool r51) rfl rfl (cns rfl rfl) rfl (spec_l06Name_ok a3 _ hx50) nm) (kx (uNot rfl) (kx (mvO rfl) ?_))))
       rcases ite_some h with ⟨hb52, h⟩ | ⟨hb52, h⟩
       ·refine kx (guF rfl (congrArg Bool.not hb52) (mvO h43)) (kx (guF rfl (congrArg Bool.not hb52) (faP h45 ⟨ble rfl, blt rfl⟩ rfl)) (kx (guF rfl (congrArg Bool.not hb52) (ldP rfl rfl)) (kx (guF rfl (congrArg Bool.not hb52) (sEql rfl rfl)) (kx (pkF rfl (congrArg Bool.not hb52) rfl) (Rn (hA h43 (hA h44 (hA h45 (hA h46 (hA h47 (hN rfl hZ)))))) fun e53 h55 h56 h57 h58 h59 h60 => ?_)))))
        clear h43 h44 h45 h46 h47 h48
        obtain rfl := si h
        exact kd (show spec_PassOn_c1_Q a1 a2 a3 r22 r23 (([] : Mem).length) M2.length _ _ from ⟨rfl, h55, h56, h57, h58, h59, h60, o32, o33⟩)
       refine kx (gsF rfl (congrArg Bool.not hb52)) (kx (gsF rfl (congrArg Bool.not hb52)) (kx (gsF rfl (congrArg Bool.not hb52)) (kx (gsF rfl (congrArg Bool.not hb52)) (kx (pkT rfl (congrArg Bool.not hb52) rfl) (Rn (hA h43 (hA h44 (hA h45 (hA h46 (hA h47 (hV (.bool true) rfl hZ)))))) fun e61 h63 h64 h65 h66 h67 h68 => ?_)))))
       clear h43 h44 h45 h46 h47 h48
       obtain rfl := si h
       exact kd (show spec_PassOn_c1_Q a1 a2 a3 r22 r23 (([] : Mem).length) M2.length _ _ from ⟨rfl, h63, h64, h65, h66, h67, h68, o32, o33⟩)) ?_
   revert h hr171
   revert r170
   intro y71 hr171 h
   intro x e69 M70 hq169
   obtain ⟨rfl, h72, h73, h74, h75, h76, h77, o78, o79⟩ := hq169
   refine sN ?_
   rcases ite_some h with ⟨hb80, h⟩ | ⟨hb80, h⟩
   ·refine cT h77 hb80 (sq (Rg (kx (bldT zero55 rfl (fill0 rfl)) (kw (stO h75 rfl o78 rfl rfl ⟨rfl, ble rfl⟩ rfl rfl) fun M81 hM82 => ?_))))
    have o83 : M81[([] : Mem).length]? = some (.live ⟨.box, 55, 20, [(.str ([] : List UInt8) :: (.bool false :: (.nils :: ((arC (cI .i8) 0 (Ar.rep 16 0)) ++ ((.nils :: []) : List AV)))))]⟩) := set_same hM82 o78
    have o84 := set_ne hM82 (Ne.symm ne28) o79
    refine kx (mvO rfl) (Rn (hA h75 (hV (.int .i64 2) rfl hZ)) fun e85 h87 h88 => sN (xx (sR ?_)))
    clear h72 h73 h74 h75 h76 h77
    obtain rfl := si h
    exact eR (resC (ag := true) (sz := 20) ⟨by kernel_rfl, by kernel_rfl, by kernel_rfl⟩ (ldOA (cs' := (.str ([] : List UInt8) :: (.bool false :: (.nils :: ((arC (cI .i8) 0 (Ar.rep 16 0)) ++ ((.nils :: []) : List AV)))))) h87 o83 rfl rfl (ble rfl) rfl) (resT h88 res0)) (wkO (y := .tup [.agg (.str ([] : List UInt8) :: (.bool false :: (.nils :: ((arC (cI .i8) 0 (Ar.rep 16 0)) ++ ((.nils :: []) : List AV))))), .int .i64 2]) rfl (wk_tup (mp1 (wk_agg (mp1 rfl (mp1 rfl (mp1 rfl (mpA (fun _ => wk1_flat) (fun _ => rfl) (mp1 rfl mp0)))))) (mp1 rfl mp0))) (own_tup (oa1 (own2_agg (oa1 rfl (oa1 rfl (oa1 rfl (oaA (fun _ => own1_flat) (fun _ => rfl) (oa1 rfl oa0)))))) (oa1 rfl oa0))))
   refine cF h77 hb80 (xx (sN (sq (sq (Rg (kx (faP h73 ⟨ble rfl, blt rfl⟩ rfl) (kx (ldP rfl rfl) (kx (lnS Tryd.underlying53 rfl) (kx (bGeq rfl rfl) (Rn (hA h72 (hA h73 (hA h74 (hA h75 (hA h76 (hN rfl hZ)))))) fun e89 h91 h92 h93 h94 h95 h96 => sN ?_))))))))))
   clear h72 h73 h74 h75 h76 h77
   rcases ite_some h with ⟨hb97, h⟩ | ⟨hb97, h⟩
   ·refine cT h96 hb97 (sq (Rg (kx (bldT zero55 rfl (fill0 rfl)) (kw (stO h94 rfl o78 rfl rfl ⟨rfl, ble rfl⟩ rfl rfl) fun M98 hM99 => ?_))))
    have o100 : M98[([] : Mem).length]? = some (.live ⟨.box, 55, 20, [(.str ([] : List UInt8) :: (.bool false :: (.nils :: ((arC (cI .i8) 0 (Ar.rep 16 0)) ++ ((.nils :: []) : List AV)))))]⟩) := set_same hM99 o78
    have o101 := set_ne hM99 (Ne.symm ne28) o79
    refine kx (mvO rfl) (Rn (hA h94 (hV (.int .i64 3) rfl hZ)) fun e102 h104 h105 => sN (xx (sR ?_)))
    clear h91 h92 h93 h94 h95 h96
    obtain rfl := si h
    exact eR (resC (ag := true) (sz := 20) ⟨by kernel_rfl, by kernel_rfl, by kernel_rfl⟩ (ldOA (cs' := (.str ([] : List UInt8) :: (.bool false :: (.nils :: ((arC (cI .i8) 0 (Ar.rep 16 0)) ++ ((.nils :: []) : List AV)))))) h104 o100 rfl rfl (ble rfl) rfl) (resT h105 res0)) (wkO (y := .tup [.agg (.str ([] : List UInt8) :: (.bool false :: (.nils :: ((arC (cI .i8) 0 (Ar.rep 16 0)) ++ ((.nils :: []) : List AV))))), .int .i64 3]) rfl (wk_tup (mp1 (wk_agg (mp1 rfl (mp1 rfl (mp1 rfl (mpA (fun _ => wk1_flat) (fun _ => rfl) (mp1 rfl mp0)))))) (mp1 rfl mp0))) (own_tup (oa1 (own2_agg (oa1 rfl (oa1 rfl (oa1 rfl (oaA (fun _ => own1_flat) (fun _ => rfl) (oa1 rfl oa0)))))) (oa1 rfl oa0))))
   obtain ⟨r107, hx106, h⟩ := bind_some h
   refine cF h96 hb97 (xx (sN (sq (Rg (kx (mvO h91) (kx (faP h92 ⟨ble rfl, blt rfl⟩ rfl) (kx (faO h95 o79 rfl) (kx (ldO rfl o79 rfl rfl rfl) (kx (mvO h91) (kx (faP h93 ⟨ble rfl, blt rfl⟩ rfl) (kx (ldP rfl rfl) (kc (cl (v := .int .u32 r107) rfl rfl (cns rfl (cns rfl (cns rfl (cns rfl rfl)))) rfl (spec_l06Seal_ok a1.Stock r23 a3 a2.Secret _ hx106) nm) (kx (bldT zero60 (cns (pr3 rfl) (cns (pr3 rfl) rfl)) (fill1 ⟨rfl, ble rfl⟩ rfl rfl (fill1 ⟨rfl, ble rfl⟩ rfl rfl (fill0 rfl)))) (ku (alO zero60) fun M109 hM110 => ?_))))))))))))))
   have o111 := push_old hM110 o78
   have ne112 := ne_new o78
   have o113 := push_old hM110 o79
   have ne114 := ne_new o79
   have o115 : M109[M70.length]? = some (.live ⟨.box, 60, 2, [[.str ([] : List UInt8), .int .u32 0]]⟩) := push_new hM110
   refine kw (stO rfl rfl o115 rfl rfl ⟨rfl, ble rfl⟩ rfl rfl) fun M116 hM117 => ?_
   have o118 := set_ne hM117 ne112 o111
   have o119 := set_ne hM117 ne114 o113
   have o120 : M116[M70.length]? = some (.live ⟨.box, 60, 2, [[.str a3, .int .u32 r107]]⟩) := set_same hM117 o115
   obtain ⟨⟨r127, r128, r129⟩, hx126, h⟩ := bind_some h
   refine Rn (hA h92 (hA h94 (hV (.loc M70.length 1 0 0) rfl hZ))) fun e121 h123 h124 h125 => sN (sq (RdS (kfS (faP h123 ⟨ble rfl, blt rfl⟩ rfl) (kfS (ldP rfl rfl) (kfS (faP h123 ⟨ble rfl, blt rfl⟩ rfl) (fpS (Ev.callT (v := .agg (.bool r127 :: (.sl (some 141) (r128.map Notch.c) :: ((arC (cI .i8) 0 r129) ++ ([] : List AV))))) rfl (cns rfl rfl) rfl (spec_l04Copy_ok a1.Stock _ hx126) (th_gen (v' := .agg (.bool r127 :: (.lsl M116.length r128.length 0 r128.length :: ((arC (cI .i8) 0 r129) ++ ([] : List AV))))) (l := [⟨.grow, 141, 2, r128.map Notch.c⟩]) (own_agg (oa1 rfl (oa1 (own1_row' (c := Notch.c) Notch.flF) (oaA (fun _ => own1_flat) (fun _ => rfl) oa0)))) (by simp [thaw, thaw2, thaw1, thawL, co141, thA (c := (cI .i8)) (fun _ => rfl), thA0 (c := (cI .i8)) (fun _ => rfl)]) rfl rfl)) (kpS (litO (xs := ([] : List Mark)) (c := Mark.c) rfl rfl (by decide)) (kfS (faP h123 ⟨ble rfl, blt rfl⟩ rfl) (kfS (ldP rfl rfl) (kgS (ldOA h125 o120 rfl rfl (ble rfl) rfl) (kfS (litI (cns rfl rfl) rfl ⟨rfl, by decide⟩) (feS fun M132 hM133 => ?_))))))))))))
   clear h91 h92 h93 h94 h95 h96
   have hM133 := fendM hM133 [⟨.grow, 141, 2, r128.map Notch.c⟩, ⟨.grow, 60, 2, ([] : List Mark).map Mark.c⟩] rfl
   have o134 := push_old hM133 o118
   have o135 := push_old hM133 o120
   have ne136 : ([] : Mem).length ≠ M116.length := by have := lt_of_get (M := M116) o118; omega
   have ne137 : M70.length ≠ M116.length := by have := lt_of_get (M := M116) o120; omega
   have o138 : M132[M116.length]? = some (.live ⟨.grow, 141, 2, r128.map Notch.c⟩) := push_at hM133 0 rfl
   have ne139 : ([] : Mem).length ≠ (M116.length + 1) := by have := lt_of_get (M := M116) o118; omega
   have ne140 : M70.length ≠ (M116.length + 1) := by have := lt_of_get (M := M116) o120; omega
   have ne141 : M116.length ≠ (M116.length + 1) := by omega
   have o142 : M132[(M116.length + 1)]? = some (.live ⟨.grow, 60, 2, ([] : List Mark).map Mark.c⟩) := push_at hM133 1 rfl
   obtain ⟨x143, hx144, h⟩ := bind_some h
   refine kw (apO rfl o142 rfl (elS rfl) hx144 Mark.fl (by decide)) fun M145 hM146 => ?_
   have o147 := set_ne hM146 ne139 o134
   have o148 := set_ne hM146 ne140 o135
   have o149 := set_ne hM146 ne141 o138
   have o150 : M145[(M116.length + 1)]? = some (.live ⟨.grow, 60, 2, x143.map Mark.c⟩) := set_same hM146 o142
   obtain ⟨x151, hx152, h⟩ := bind_some h
   refine ck (ckP (ldOA h125 o148 rfl rfl (ble rfl) rfl) ck0) (kw (apO rfl o150 rfl (elT (c := Mark.c) (xs := [(Mark.mk a3 r107)]) rfl) hx152 Mark.fl (by decide)) fun M153 hM154 => ?_)
   have o155 := set_ne hM154 ne139 o147
   have o156 := set_ne hM154 ne140 o148
   have o157 := set_ne hM154 ne141 o149
   have o158 : M153[(M116.length + 1)]? = some (.live ⟨.grow, 60, 2, x151.map Mark.c⟩) := set_same hM154 o150
   refine ck (ckD rfl ck0) (kx (bldT zero55 (cns (pr3 rfl) (cns (pr3 rfl) (cns (pr3 rfl) rfl))) (fill1 (cs' := (.str a1.Debtor :: (.bool false :: (.nils :: ((arC (cI .i8) 0 (Ar.rep 16 0)) ++ ((.nils :: []) : List AV)))))) ⟨rfl, ble rfl⟩ rfl rfl (fill1 (cs' := (.str a1.Debtor :: (.bool r127 :: (.lsl M116.length r128.length 0 r128.length :: ((arC (cI .i8) 0 r129) ++ ((.nils :: []) : List AV)))))) ⟨rfl, ble rfl⟩ (all1 rfl (all1 (okL o157 (by simp)) (oaP (fun _ => rfl) all0))) rfl (fill1 (cs' := (.str a1.Debtor :: (.bool r127 :: (.lsl M116.length r128.length 0 r128.length :: ((arC (cI .i8) 0 r129) ++ ((.lsl (M116.length + 1) x151.length 0 x151.length :: []) : List AV)))))) ⟨rfl, ble rfl⟩ (all1 (okL o158 (by simp)) all0) rfl (fill0 rfl))))) (ck (ckD rfl ck0) (kw (stO h124 rfl o155 rfl rfl ⟨rfl, ble rfl⟩ (all1 rfl (all1 rfl (all1 (okL o157 (by simp)) (oaS (rest := [.lsl (M116.length + 1) x151.length 0 x151.length]) (fun _ => rfl) (all1 (okL o158 (by simp)) all0))))) rfl) fun M159 hM160 => ?_)))
   have o161 : M159[([] : Mem).length]? = some (.live ⟨.box, 55, 20, [(.str a1.Debtor :: (.bool r127 :: (.lsl M116.length r128.length 0 r128.length :: ((arC (cI .i8) 0 r129) ++ ((.lsl (M116.length + 1) x151.length 0 x151.length :: []) : List AV)))))]⟩) := set_same hM160 o155
   have o162 := set_ne hM160 (Ne.symm ne112) o156
   have o163 := set_ne hM160 (Ne.symm ne136) o157
   have o164 := set_ne hM160 (Ne.symm ne139) o158
   refine ck (ckD rfl ck0) (kx (mvO rfl) (ck (ckD rfl ck0) (Rn (hA h124 (hV (.int .i64 0) rfl hZ)) fun e165 h167 h168 => sN (xx ?_))))
   clear h123 h124 h125
   obtain rfl := si h
   exact eR (resC (ag := true) (sz := 20) ⟨by kernel_rfl, by kernel_rfl, by kernel_rfl⟩ (ldOA (cs' := (.str a1.Debtor :: (.bool r127 :: (.lsl M116.length r128.length 0 r128.length :: ((arC (cI .i8) 0 r129) ++ ((.lsl (M116.length + 1) x151.length 0 x151.length :: []) : List AV)))))) h167 o161 rfl rfl (ble rfl) rfl) (resT h168 res0)) (wkO (y := .tup [.agg (.str a1.Debtor :: (.bool r127 :: (.sl (some 141) (r128.map Notch.c) :: ((arC (cI .i8) 0 r129) ++ ((.sl (some 60) (x151.map Mark.c) :: []) : List AV))))), .int .i64 0]) (rr_tup (mp1 (rr_agg (mp1 rfl (mp1 rfl (mp1 (rr_row o163 rfl Notch.fl) (mpA (fun _ => rRes1_flat) (fun _ => rfl) (mp1 (rr_row o164 rfl Mark.fl) mp0)))))) (mp1 rfl mp0))) (wk_tup (mp1 (wk_agg (mp1 rfl (mp1 rfl (mp1 rfl (mpA (fun _ => wk1_flat) (fun _ => rfl) (mp1 rfl mp0)))))) (mp1 rfl mp0))) (own_tup (oa1 (own2_agg (oa1 rfl (oa1 rfl (oa1 (own1_row' (c := Notch.c) Notch.flF) (oaA (fun _ => own1_flat) (fun _ => rfl) (oa1 (own1_row' (c := Mark.c) Mark.flF) oa0)))))) (oa1 rfl oa0))))
  refine cT h48 (congrArg Bool.not hb49) (sq (Rg (kx (bldT zero55 rfl (fill0 rfl)) (kw (stO h46 rfl o32 rfl rfl ⟨rfl, ble rfl⟩ rfl rfl) fun M172 hM173 => ?_))))
  have o174 : M172[([] : Mem).length]? = some (.live ⟨.box, 55, 20, [(.str ([] : List UInt8) :: (.bool false :: (.nils :: ((arC (cI .i8) 0 (Ar.rep 16 0)) ++ ((.nils :: []) : List AV)))))]⟩) := set_same hM173 o32
  have o175 := set_ne hM173 (Ne.symm ne28) o33
  refine kx (mvO rfl) (Rn (hA h46 (hV (.int .i64 4) rfl hZ)) fun e176 h178 h179 => sN (xx (sR ?_)))
  clear h43 h44 h45 h46 h47 h48
  obtain rfl := si h
  exact eR (resC (ag := true) (sz := 20) ⟨by kernel_rfl, by kernel_rfl, by kernel_rfl⟩ (ldOA (cs' := (.str ([] : List UInt8) :: (.bool false :: (.nils :: ((arC (cI .i8) 0 (Ar.rep 16 0)) ++ ((.nils :: []) : List AV)))))) h178 o174 rfl rfl (ble rfl) rfl) (resT h179 res0)) (wkO (y := .tup [.agg (.str ([] : List UInt8) :: (.bool false :: (.nils :: ((arC (cI .i8) 0 (Ar.rep 16 0)) ++ ((.nils :: []) : List AV))))), .int .i64 4]) rfl (wk_tup (mp1 (wk_agg (mp1 rfl (mp1 rfl (mp1 rfl (mpA (fun _ => wk1_flat) (fun _ => rfl) (mp1 rfl mp0)))))) (mp1 rfl mp0))) (own_tup (oa1 (own2_agg (oa1 rfl (oa1 rfl (oa1 rfl (oaA (fun _ => own1_flat) (fun _ => rfl) (oa1 rfl oa0)))))) (oa1 rfl oa0))))
 refine cT h19 (congrArg Bool.not hb20) (sq (Rg (kx (bldT zero55 rfl (fill0 rfl)) (kw (stO h18 rfl o4 rfl rfl ⟨rfl, ble rfl⟩ rfl rfl) fun M180 hM181 => ?_))))
 have o182 : M180[([] : Mem).length]? = some (.live ⟨.box, 55, 20, [(.str ([] : List UInt8) :: (.bool false :: (.nils :: ((arC (cI .i8) 0 (Ar.rep 16 0)) ++ ((.nils :: []) : List AV)))))]⟩) := set_same hM181 o4
 refine kx (mvO rfl) (Rn (hA h18 (hV (.int .i64 1) rfl hZ)) fun e183 h185 h186 => sN (xx (sR ?_)))
 clear h15 h16 h17 h18 h19
 obtain rfl := si h
 exact eR (resC (ag := true) (sz := 20) ⟨by kernel_rfl, by kernel_rfl, by kernel_rfl⟩ (ldOA (cs' := (.str ([] : List UInt8) :: (.bool false :: (.nils :: ((arC (cI .i8) 0 (Ar.rep 16 0)) ++ ((.nils :: []) : List AV)))))) h185 o182 rfl rfl (ble rfl) rfl) (resT h186 res0)) (wkO (y := .tup [.agg (.str ([] : List UInt8) :: (.bool false :: (.nils :: ((arC (cI .i8) 0 (Ar.rep 16 0)) ++ ((.nils :: []) : List AV))))), .int .i64 1]) rfl (wk_tup (mp1 (wk_agg (mp1 rfl (mp1 rfl (mp1 rfl (mpA (fun _ => wk1_flat) (fun _ => rfl) (mp1 rfl mp0)))))) (mp1 rfl mp0))) (own_tup (oa1 (own2_agg (oa1 rfl (oa1 rfl (oa1 rfl (oaA (fun _ => own1_flat) (fun _ => rfl) (oa1 rfl oa0)))))) (oa1 rfl oa0))))
/-! ### loop.example/g01263/spec.StartChain (f94) -/
noncomputable def spec_StartChain (a1 : Half) (a2 : Party) (a3 : List UInt8) : Option ((List UInt8) × Bool × (List Notch) × (Ar 16 Int) × (List Mark) × Int) :=
 (spec_l01Ok a1).bind fun r12 =>
 if r12 = true then
  if a1.Stock = true then
   (spec_l06Name a2.Name).bind fun r30 =>
   if r30 = true then
    (spec_l06Name a3).bind fun r33 =>
    if r33 = true then
     if (a2.Name == a3) = true then
      some (([] : List UInt8), false, ([] : List Notch), (Ar.rep 16 0), ([] : List Mark), 2)
     else
      (spec_l06Seal a1 0 a3 a2.Secret).bind fun r51 =>
      (spec_l04Copy a1).bind fun (r60, r61, r62) =>
      some (a2.Name, r60, r61, r62, [(Mark.mk a3 r51)], 0)
    else
     some (([] : List UInt8), false, ([] : List Notch), (Ar.rep 16 0), ([] : List Mark), 2)
   else
    some (([] : List UInt8), false, ([] : List Notch), (Ar.rep 16 0), ([] : List Mark), 2)
  else
   some (([] : List UInt8), false, ([] : List Notch), (Ar.rep 16 0), ([] : List Mark), 4)
 else
  some (([] : List UInt8), false, ([] : List Notch), (Ar.rep 16 0), ([] : List Mark), 1)
def spec_StartChain_enc (r : (List UInt8) × Bool × (List Notch) × (Ar 16 Int) × (List Mark) × Int) : AV := .tup [.agg (.str r.1 :: (.bool r.2.1 :: (.sl none (r.2.2.1.map Notch.c) :: ((arC (cI .i8) 0 r.2.2.2.1) ++ ((.sl none (r.2.2.2.2.1.map Mark.c) :: []) : List AV))))), .int .i64 r.2.2.2.2.2]
theorem spec_StartChain_ok (a1 : Half) (a2 : Party) (a3 : List UInt8) (r : (List UInt8) × Bool × (List Notch) × (Ar 16 Int) × (List Mark) × Int) (h : spec_StartChain a1 a2 a3 = some r) : Ev (fun k => CN k 94 [.agg (.bool a1.Stock :: (.sl none (a1.Notches.map Notch.c) :: ((arC (cI .i8) 0 a1.Grain) ++ ([] : List AV)))), .agg [.str a2.Name, .int .u32 a2.Secret], .str a3] []) (fun p => wkR (rRes p.2 p.1) = spec_StartChain_enc r) := by
 unfold spec_StartChain at h
 refine Ev.enter (F := fun k => f94 (CN k) k) (fun k => callN_eq rfl Tryd.func94 rfl rfl rfl (by decide +kernel) (f94_eq _ _)) (sq (Rg (kx (bxI rfl rfl ⟨rfl, rfl, by decide⟩) (kx (bxI rfl rfl ⟨rfl, rfl, by decide⟩) (ku (alO zero55) fun M2 hM3 => ?_)))))
 have o4 : M2[([] : Mem).length]? = some (.live ⟨.box, 55, 20, [(.str ([] : List UInt8) :: (.bool false :: (.nils :: ((arC (cI .i8) 0 (Ar.rep 16 0)) ++ ((.nils :: []) : List AV)))))]⟩) := push_new hM3
 obtain ⟨r12, hx11, h⟩ := bind_some h
 refine kx (mvO rfl) (Rn (hN rfl (hN rfl (hN rfl (hV (.loc ([] : Mem).length 1 0 0) rfl hZ)))) fun e5 h7 h8 h9 h10 => sN (sq (sq (Rg (kc (cl (v := .bool r12) rfl rfl (cns h8 rfl) rfl (spec_l01Ok_ok a1 _ hx11) nm) (kx (uNot rfl) (Rn (hA h7 (hA h8 (hA h9 (hA h10 (hN rfl hZ))))) fun e13 h15 h16 h17 h18 h19 => sN ?_)))))))
 clear h10 h7 h8 h9
 rcases ite_some h with ⟨hb20, h⟩ | ⟨hb20, h⟩
 ·refine cF h19 (congrArg Bool.not hb20) (xx (sN (sq (sq (Rg (kx (faP h16 ⟨ble rfl, blt rfl⟩ rfl) (kx (ldP rfl rfl) (kx (uNot rfl) (Rn (hA h15 (hA h16 (hA h17 (hA h18 (hN rfl hZ))))) fun e21 h23 h24 h25 h26 h27 => sN ?_)))))))))
  clear h15 h16 h17 h18 h19
  rcases ite_some h with ⟨hb28, h⟩ | ⟨hb28, h⟩
  ·obtain ⟨r30, hx29, h⟩ := bind_some h
   refine cF h27 (congrArg Bool.not hb28) (xx (sN (sq (sq (Rg (kx (faP h25 ⟨ble rfl, blt rfl⟩ rfl) (kx (ldP rfl rfl) (kc (cl (v := .bool r30) rfl rfl (cns rfl rfl) rfl (spec_l06Name_ok a2.Name _ hx29) nm) (kx (uNot rfl) (kx (mvO rfl) ?_))))))))))
   rcases ite_some h with ⟨hb31, h⟩ | ⟨hb31, h⟩
   ·obtain ⟨r33, hx32, h⟩ := bind_some h
    refine kx (guF rfl (congrArg Bool.not hb31) (mvO h23)) (kc (Ev.guF rfl (congrArg Bool.not hb31) (cl (v := .bool r33) rfl rfl (cns rfl rfl) rfl (spec_l06Name_ok a3 _ hx32) nm)) (kx (guF rfl (congrArg Bool.not hb31) (uNot rfl)) (kx (pkF rfl (congrArg Bool.not hb31) rfl) (kx (mvO rfl) ?_))))
    rcases ite_some h with ⟨hb34, h⟩ | ⟨hb34, h⟩
    ·refine kx (guF rfl (congrArg Bool.not hb34) (faP h25 ⟨ble rfl, blt rfl⟩ rfl)) (kx (guF rfl (congrArg Bool.not hb34) (ldP rfl rfl)) (kx (guF rfl (congrArg Bool.not hb34) (mvO h23)) (kx (guF rfl (congrArg Bool.not hb34) (sEql rfl rfl)) (kx (pkF rfl (congrArg Bool.not hb34) rfl) (Rn (hA h23 (hA h24 (hA h25 (hA h26 (hN rfl hZ))))) fun e35 h37 h38 h39 h40 h41 => sN ?_)))))
     clear h23 h24 h25 h26 h27
     rcases ite_some h with ⟨hb42, h⟩ | ⟨hb42, h⟩
     ·refine cT h41 hb42 (sq (Rg (kx (bldT zero55 rfl (fill0 rfl)) (kw (stO h40 rfl o4 rfl rfl ⟨rfl, ble rfl⟩ rfl rfl) fun M43 hM44 => ?_))))
      have o45 : M43[([] : Mem).length]? = some (.live ⟨.box, 55, 20, [(.str ([] : List UInt8) :: (.bool false :: (.nils :: ((arC (cI .i8) 0 (Ar.rep 16 0)) ++ ((.nils :: []) : List AV)))))]⟩) := set_same hM44 o4
      refine kx (mvO rfl) (Rn (hA h40 (hV (.int .i64 2) rfl hZ)) fun e46 h48 h49 => sN (xx (sR ?_)))
      clear h37 h38 h39 h40 h41
      obtain rfl := si h
      exact eR (resC (ag := true) (sz := 20) ⟨by kernel_rfl, by kernel_rfl, by kernel_rfl⟩ (ldOA (cs' := (.str ([] : List UInt8) :: (.bool false :: (.nils :: ((arC (cI .i8) 0 (Ar.rep 16 0)) ++ ((.nils :: []) : List AV)))))) h48 o45 rfl rfl (ble rfl) rfl) (resT h49 res0)) (wkH (y := .tup [.agg (.str ([] : List UInt8) :: (.bool false :: (.nils :: ((arC (cI .i8) 0 (Ar.rep 16 0)) ++ ((.nils :: []) : List AV))))), .int .i64 2]) rfl (wk_tup (mp1 (wk_agg (mp1 rfl (mp1 rfl (mp1 rfl (mpA (fun _ => wk1_flat) (fun _ => rfl) (mp1 rfl mp0)))))) (mp1 rfl mp0))))
     obtain ⟨r51, hx50, h⟩ := bind_some h
     obtain ⟨⟨r60, r61, r62⟩, hx59, h⟩ := bind_some h
     refine cF h41 hb42 (xx (sN (sq (Rg (kx (mvO h37) (kx (faP h39 ⟨ble rfl, blt rfl⟩ rfl) (kx (ldP rfl rfl) (kc (cl (v := .int .u32 r51) rfl rfl (cns h38 (cns rfl (cns rfl (cns rfl rfl)))) rfl (spec_l06Seal_ok a1 0 a3 a2.Secret _ hx50) nm) (kx (mvO rfl) (Rn (hA h37 (hA h38 (hA h39 (hA h40 (hN rfl hZ))))) fun e52 h54 h55 h56 h57 h58 => sN (sq (Rd (kf (faP h56 ⟨ble rfl, blt rfl⟩ rfl) (kf (ldP rfl rfl) (fc (cl (v := .agg (.bool r60 :: (.sl (some 141) (r61.map Notch.c) :: ((arC (cI .i8) 0 r62) ++ ([] : List AV))))) rfl rfl (cns h55 rfl) rfl (spec_l04Copy_ok a1 _ hx59) nm) (kf (mvO h54) (kf (mvO h58) (kf (bldT zero60 (cns (pr3 rfl) (cns (pr3 rfl) rfl)) (fill1 ⟨rfl, ble rfl⟩ rfl rfl (fill1 ⟨rfl, ble rfl⟩ rfl rfl (fill0 rfl)))) (kf (litI (cns rfl rfl) rfl ⟨rfl, by decide⟩) (kf (bldT zero55 (cns (pr3 rfl) (cns (pr3 rfl) (cns (pr3 rfl) rfl))) (fill1 (cs' := (.str a2.Name :: (.bool false :: (.nils :: ((arC (cI .i8) 0 (Ar.rep 16 0)) ++ ((.nils :: []) : List AV)))))) ⟨rfl, ble rfl⟩ rfl rfl (fill1 (cs' := (.str a2.Name :: (.bool r60 :: (.sl (some 141) (r61.map Notch.c) :: ((arC (cI .i8) 0 r62) ++ ((.nils :: []) : List AV)))))) ⟨rfl, ble rfl⟩ rfl rfl (fill1 (cs' := (.str a2.Name :: (.bool r60 :: (.sl (some 141) (r61.map Notch.c) :: ((arC (cI .i8) 0 r62) ++ ((.lit 60 ([(Mark.mk a3 r51)].map Mark.c) :: []) : List AV)))))) ⟨rfl, ble rfl⟩ rfl rfl (fill0 rfl))))) (fZ (kw (stO h57 rfl o4 rfl rfl ⟨rfl, ble rfl⟩ rfl rfl) fun M63 hM64 => ?_))))))))))))))))))))))
     clear h37 h38 h39 h40 h41
     have o65 : M63[([] : Mem).length]? = some (.live ⟨.box, 55, 20, [(.str a2.Name :: (.bool r60 :: (.sl none (r61.map Notch.c) :: ((arC (cI .i8) 0 r62) ++ ((.sl none ([(Mark.mk a3 r51)].map Mark.c) :: []) : List AV)))))]⟩) := set_same hM64 o4
     refine kx (mvO rfl) (Rn (hA h57 (hV (.int .i64 0) rfl hZ)) fun e66 h68 h69 => sN (xx ?_))
     clear h54 h55 h56 h57 h58
     obtain rfl := si h
     exact eR (resC (ag := true) (sz := 20) ⟨by kernel_rfl, by kernel_rfl, by kernel_rfl⟩ (ldOA (cs' := (.str a2.Name :: (.bool r60 :: (.sl none (r61.map Notch.c) :: ((arC (cI .i8) 0 r62) ++ ((.sl none ([(Mark.mk a3 r51)].map Mark.c) :: []) : List AV)))))) h68 o65 rfl rfl (ble rfl) rfl) (resT h69 res0)) (wkH (y := .tup [.agg (.str a2.Name :: (.bool r60 :: (.sl none (r61.map Notch.c) :: ((arC (cI .i8) 0 r62) ++ ((.sl none ([(Mark.mk a3 r51)].map Mark.c) :: []) : List AV))))), .int .i64 0]) rfl (wk_tup (mp1 (wk_agg (mp1 rfl (mp1 rfl (mp1 rfl (mpA (fun _ => wk1_flat) (fun _ => rfl) (mp1 rfl mp0)))))) (mp1 rfl mp0))))
    refine kx (gsF rfl (congrArg Bool.not hb34)) (kx (gsF rfl (congrArg Bool.not hb34)) (kx (gsF rfl (congrArg Bool.not hb34)) (kx (gsF rfl (congrArg Bool.not hb34)) (kx (pkT rfl (congrArg Bool.not hb34) rfl) (Rn (hA h23 (hA h24 (hA h25 (hA h26 (hV (.bool true) rfl hZ))))) fun e70 h72 h73 h74 h75 h76 => sN (cT h76 rfl (sq (Rg (kx (bldT zero55 rfl (fill0 rfl)) (kw (stO h75 rfl o4 rfl rfl ⟨rfl, ble rfl⟩ rfl rfl) fun M77 hM78 => ?_))))))))))
    clear h23 h24 h25 h26 h27
    have o79 : M77[([] : Mem).length]? = some (.live ⟨.box, 55, 20, [(.str ([] : List UInt8) :: (.bool false :: (.nils :: ((arC (cI .i8) 0 (Ar.rep 16 0)) ++ ((.nils :: []) : List AV)))))]⟩) := set_same hM78 o4
    refine kx (mvO rfl) (Rn (hA h75 (hV (.int .i64 2) rfl hZ)) fun e80 h82 h83 => sN (xx (sR ?_)))
    clear h72 h73 h74 h75 h76
    obtain rfl := si h
    exact eR (resC (ag := true) (sz := 20) ⟨by kernel_rfl, by kernel_rfl, by kernel_rfl⟩ (ldOA (cs' := (.str ([] : List UInt8) :: (.bool false :: (.nils :: ((arC (cI .i8) 0 (Ar.rep 16 0)) ++ ((.nils :: []) : List AV)))))) h82 o79 rfl rfl (ble rfl) rfl) (resT h83 res0)) (wkH (y := .tup [.agg (.str ([] : List UInt8) :: (.bool false :: (.nils :: ((arC (cI .i8) 0 (Ar.rep 16 0)) ++ ((.nils :: []) : List AV))))), .int .i64 2]) rfl (wk_tup (mp1 (wk_agg (mp1 rfl (mp1 rfl (mp1 rfl (mpA (fun _ => wk1_flat) (fun _ => rfl) (mp1 rfl mp0)))))) (mp1 rfl mp0))))
   refine kx (gsF rfl (congrArg Bool.not hb31)) (kc (Ev.gsF rfl (congrArg Bool.not hb31)) (kx (gsF rfl (congrArg Bool.not hb31)) (kx (pkT rfl (congrArg Bool.not hb31) rfl) (kx (mvO rfl) (kx (gsF rfl rfl) (kx (gsF rfl rfl) (kx (gsF rfl rfl) (kx (gsF rfl rfl) (kx (pkT rfl rfl rfl) (Rn (hA h23 (hA h24 (hA h25 (hA h26 (hV (.bool true) rfl hZ))))) fun e84 h86 h87 h88 h89 h90 => sN (cT h90 rfl (sq (Rg (kx (bldT zero55 rfl (fill0 rfl)) (kw (stO h89 rfl o4 rfl rfl ⟨rfl, ble rfl⟩ rfl rfl) fun M91 hM92 => ?_)))))))))))))))
   clear h23 h24 h25 h26 h27
   have o93 : M91[([] : Mem).length]? = some (.live ⟨.box, 55, 20, [(.str ([] : List UInt8) :: (.bool false :: (.nils :: ((arC (cI .i8) 0 (Ar.rep 16 0)) ++ ((.nils :: []) : List AV)))))]⟩) := set_same hM92 o4
   refine kx (mvO rfl) (Rn (hA h89 (hV (.int .i64 2) rfl hZ)) fun e94 h96 h97 => sN (xx (sR ?_)))
   clear h86 h87 h88 h89 h90
   obtain rfl := si h
   exact eR (resC (ag := true) (sz := 20) ⟨by kernel_rfl, by kernel_rfl, by kernel_rfl⟩ (ldOA (cs' := (.str ([] : List UInt8) :: (.bool false :: (.nils :: ((arC (cI .i8) 0 (Ar.rep 16 0)) ++ ((.nils :: []) : List AV)))))) h96 o93 rfl rfl (ble rfl) rfl) (resT h97 res0)) (wkH (y := .tup [.agg (.str ([] : List UInt8) :: (.bool false :: (.nils :: ((arC (cI .i8) 0 (Ar.rep 16 0)) ++ ((.nils :: []) : List AV))))), .int .i64 2]) rfl (wk_tup (mp1 (wk_agg (mp1 rfl (mp1 rfl (mp1 rfl (mpA (fun _ => wk1_flat) (fun _ => rfl) (mp1 rfl mp0)))))) (mp1 rfl mp0))))
  refine cT h27 (congrArg Bool.not hb28) (sq (Rg (kx (bldT zero55 rfl (fill0 rfl)) (kw (stO h26 rfl o4 rfl rfl ⟨rfl, ble rfl⟩ rfl rfl) fun M98 hM99 => ?_))))
  have o100 : M98[([] : Mem).length]? = some (.live ⟨.box, 55, 20, [(.str ([] : List UInt8) :: (.bool false :: (.nils :: ((arC (cI .i8) 0 (Ar.rep 16 0)) ++ ((.nils :: []) : List AV)))))]⟩) := set_same hM99 o4
  refine kx (mvO rfl) (Rn (hA h26 (hV (.int .i64 4) rfl hZ)) fun e101 h103 h104 => sN (xx (sR ?_)))
  clear h23 h24 h25 h26 h27
  obtain rfl := si h
  exact eR (resC (ag := true) (sz := 20) ⟨by kernel_rfl, by kernel_rfl, by kernel_rfl⟩ (ldOA (cs' := (.str ([] : List UInt8) :: (.bool false :: (.nils :: ((arC (cI .i8) 0 (Ar.rep 16 0)) ++ ((.nils :: []) : List AV)))))) h103 o100 rfl rfl (ble rfl) rfl) (resT h104 res0)) (wkH (y := .tup [.agg (.str ([] : List UInt8) :: (.bool false :: (.nils :: ((arC (cI .i8) 0 (Ar.rep 16 0)) ++ ((.nils :: []) : List AV))))), .int .i64 4]) rfl (wk_tup (mp1 (wk_agg (mp1 rfl (mp1 rfl (mp1 rfl (mpA (fun _ => wk1_flat) (fun _ => rfl) (mp1 rfl mp0)))))) (mp1 rfl mp0))))
 refine cT h19 (congrArg Bool.not hb20) (sq (Rg (kx (bldT zero55 rfl (fill0 rfl)) (kw (stO h18 rfl o4 rfl rfl ⟨rfl, ble rfl⟩ rfl rfl) fun M105 hM106 => ?_))))
 have o107 : M105[([] : Mem).length]? = some (.live ⟨.box, 55, 20, [(.str ([] : List UInt8) :: (.bool false :: (.nils :: ((arC (cI .i8) 0 (Ar.rep 16 0)) ++ ((.nils :: []) : List AV)))))]⟩) := set_same hM106 o4
 refine kx (mvO rfl) (Rn (hA h18 (hV (.int .i64 1) rfl hZ)) fun e108 h110 h111 => sN (xx (sR ?_)))
 clear h15 h16 h17 h18 h19
 obtain rfl := si h
 exact eR (resC (ag := true) (sz := 20) ⟨by kernel_rfl, by kernel_rfl, by kernel_rfl⟩ (ldOA (cs' := (.str ([] : List UInt8) :: (.bool false :: (.nils :: ((arC (cI .i8) 0 (Ar.rep 16 0)) ++ ((.nils :: []) : List AV)))))) h110 o107 rfl rfl (ble rfl) rfl) (resT h111 res0)) (wkH (y := .tup [.agg (.str ([] : List UInt8) :: (.bool false :: (.nils :: ((arC (cI .i8) 0 (Ar.rep 16 0)) ++ ((.nils :: []) : List AV))))), .int .i64 1]) rfl (wk_tup (mp1 (wk_agg (mp1 rfl (mp1 rfl (mp1 rfl (mpA (fun _ => wk1_flat) (fun _ => rfl) (mp1 rfl mp0)))))) (mp1 rfl mp0))))
/-! ### loop.example/g01263/spec.l06Who (f92) -/
noncomputable def spec_l06Who : Option ((List (List UInt8))) :=
 some [([107, 105, 110, 103] : List UInt8), ([97, 110, 110] : List UInt8), ([98, 111, 98] : List UInt8), ([99, 105, 100] : List UInt8), ([100, 97, 110] : List UInt8), ([101, 118, 101] : List UInt8)]
def spec_l06Who_enc (r : (List (List UInt8))) : AV := .sl none (r.map cS)
theorem spec_l06Who_ok (r : (List (List UInt8))) (h : spec_l06Who = some r) : Ev (fun k => CN k 92 [] []) (fun p => wkR (rRes p.2 p.1) = spec_l06Who_enc r ∧ ownAll (rRes p.2 p.1) = true) := by
 unfold spec_l06Who at h
 refine Ev.enter (F := fun k => f92 (CN k) k) (fun k => callN_eq rfl Tryd.func92 rfl rfl rfl (by decide +kernel) (f92_eq _ _)) (sq (Rg (kx (mvO rfl) (Rn hZ fun e1 => sN (sq (Rg (kx (litI (cns rfl (cns rfl (cns rfl (cns rfl (cns rfl (cns rfl rfl)))))) rfl ⟨rfl, by decide⟩) (kx (mvO rfl) (Rn (hN rfl hZ) fun e3 h5 => sN (xx ?_))))))))))
 obtain rfl := si h
 exact eR (resT h5 res0) (wkO (y := .sl (some 9) ([([107, 105, 110, 103] : List UInt8), ([97, 110, 110] : List UInt8), ([98, 111, 98] : List UInt8), ([99, 105, 100] : List UInt8), ([100, 97, 110] : List UInt8), ([101, 118, 101] : List UInt8)].map cS)) rfl rfl (ownA_row (c := cS) (fun _ => rfl)))
/-! ### loop.example/g01263/impl.find$1 (f108) -/
noncomputable def impl_find_1 (a1 : Party) (a2 : List UInt8) : Option Bool :=
 some (a1.Name == a2)
def impl_find_1_enc (r : Bool) : AV := .bool r
theorem impl_find_1_ok (a1 : Party) (a2 : List UInt8) (r : Bool) (h : impl_find_1 a1 a2 = some r) : Ev (fun k => CN k 108 [.agg [.str a1.Name, .int .u32 a1.Secret], .pt none [.str a2]] []) (fun p => rRes p.2 p.1 = impl_find_1_enc r) := by
 unfold impl_find_1 at h
 refine Ev.enter (F := fun k => f108 (CN k) k) (fun k => callN_eq rfl Tryd.func108 rfl rfl rfl (by decide +kernel) (f108_eq _ _)) (sq (Rg (kx (bxI rfl rfl ⟨rfl, rfl, by decide⟩) (kx (mvO rfl) (Rn (hN rfl (hN rfl hZ)) fun e1 h3 h4 => sN (sq (Rg (kx (faP h4 ⟨ble rfl, blt rfl⟩ rfl) (kx (ldP rfl rfl) (kx (ldP h3 rfl) (kx (sEql rfl rfl) (kx (mvO rfl) (Rn (hN rfl hZ) fun e5 h7 => sN (xx ?_))))))))))))))
 clear h3 h4
 obtain rfl := si h
 exact eR (resT h7 res0) rfl
/-! ### slices.IndexFunc[[]loop.example/g01263/impl.Party,loop.example/g01263/impl.Party] (f107) -/
abbrev slices_IndexFunc_Party__impl_find_1_b1_S := Int
abbrev slices_IndexFunc_Party__impl_find_1_b1_R := Int ⊕ Unit
def slices_IndexFunc_Party__impl_find_1_b1_RS (a1 : List Party) (a2 : List UInt8) (s : slices_IndexFunc_Party__impl_find_1_b1_S) (e : Env) (M : Mem) : Prop := eget e 0 = .sl none (a1.map Party.c) ∧ eget e 1 = .fn 108 [.pt none [.str a2]] ∧ eget e 7 = .int .i64 (a1.length : Int) ∧ eget e 8 = .int .i64 s
def slices_IndexFunc_Party__impl_find_1_b1_RR (a1 : List Party) (a2 : List UInt8) (r : slices_IndexFunc_Party__impl_find_1_b1_R) (x : Ex) (e : Env) (M : Mem) : Prop :=
  match r with
  | (.inl g) => x = .ret ∧ eget e 4 = .int .i64 g
  | (.inr g) => x = .ext 0 ∧ True
noncomputable def slices_IndexFunc_Party__impl_find_1_b1 (a1 : List Party) (a2 : List UInt8) : slices_IndexFunc_Party__impl_find_1_b1_S → Option (slices_IndexFunc_Party__impl_find_1_b1_S ⊕ slices_IndexFunc_Party__impl_find_1_b1_R) := fun s1_1 =>
 if (decide (s1_1 < (a1.length : Int))) = true then
  (rd a1 s1_1).bind fun x46 =>
  (impl_find_1 x46 a2).bind fun r49 =>
  if r49 = true then
   some (.inr (.inl s1_1))
  else
   some (.inl (IntKind.i64.wrap (s1_1 + 1)))
 else
  some (.inr (.inr ()))
theorem slices_IndexFunc_Party__impl_find_1_b1_ok (a1 : List Party) (a2 : List UInt8) (s : slices_IndexFunc_Party__impl_find_1_b1_S) (r : slices_IndexFunc_Party__impl_find_1_b1_S ⊕ slices_IndexFunc_Party__impl_find_1_b1_R) (h : slices_IndexFunc_Party__impl_find_1_b1 a1 a2 s = some r) (e : Env) (M : Mem) (hs : slices_IndexFunc_Party__impl_find_1_b1_RS a1 a2 s e M) : Ev (fun k => (f107_l2 (CN k) k (prune [0, 1, 7, 8] e) M).bind fun q => some q) (bQ (slices_IndexFunc_Party__impl_find_1_b1_RS a1 a2) (slices_IndexFunc_Party__impl_find_1_b1_RR a1 a2) r) := by
 revert h hs
 revert s
 intro s1_1 h hs
 unfold slices_IndexFunc_Party__impl_find_1_b1 at h
 obtain ⟨h23, h25, h27, h29⟩ := hs
 generalize he22 : prune [0, 1, 7, 8] e = e21
 have h24 := envp he22.symm rfl h23
 have h26 := envp he22.symm rfl h25
 have h28 := envp he22.symm rfl h27
 have h30 := envp he22.symm rfl h29
 refine sq (Rg (kx (bLss h30 h28) (Rn (hV (.sl none (a1.map Party.c)) h24 (hV (.fn 108 [.pt none [.str a2]]) h26 (hV (.int .i64 (a1.length : Int)) h28 (hV (.int .i64 s1_1) h30 (hN rfl hZ))))) fun e31 h33 h34 h35 h36 h37 => sN (sq ?_))))
 clear h24 h26 h28 h30
 rcases ite_some h with ⟨hb38, h⟩ | ⟨hb38, h⟩
 ·obtain ⟨x46, hx47, h⟩ := bind_some h
  obtain ⟨r49, hx48, h⟩ := bind_some h
  refine cT h37 hb38 (xx (sN (sq (bl (sq (Rg (kx (mvO h36) (kx (mvO rfl) (Rn (hA h33 (hA h34 (hN rfl (hA h35 (hA h36 hZ))))) fun e39 h41 h42 h43 h44 h45 => sN (sq (Rg (kx (mvO h42) (kx (mvO h41) (kx (mvO h43) (kx (ixS rfl rfl hx47 Party.fl) (kx (ldPA rfl rfl rfl) (kc (cl (v := .bool r49) rfl rfl (cns rfl (cns rfl rfl)) rfl (impl_find_1_ok x46 a2 _ hx48) nm) (Rn (hA h41 (hA h42 (hA h43 (hA h44 (hA h45 (hN rfl hZ)))))) fun e50 h52 h53 h54 h55 h56 h57 => sN ?_))))))))))))))))))
  clear h33 h34 h35 h36 h37 h41 h42 h43 h44 h45
  rcases ite_some h with ⟨hb58, h⟩ | ⟨hb58, h⟩
  ·refine cT h57 hb58 (sq (Rg (kx (mvO h54) (kx (mvO rfl) (Rn (hN rfl hZ) fun e59 h61 => sN (xx (bR (sR ?_))))))))
   clear h52 h53 h54 h55 h56 h57
   obtain rfl := si h
   exact qR ⟨rfl, h61⟩
  refine cF h57 hb58 (xx (bN (sN (Rg (kx (bAdd h56 rfl) (kx (mvO rfl) (Rn (hA h52 (hA h53 (hA h55 (hN rfl hZ)))) fun e62 h64 h65 h66 h67 => ?_)))))))
  clear h52 h53 h54 h55 h57
  obtain rfl := si h
  exact qN ⟨h64, h65, h66, h67⟩
 refine cF h37 hb38 (xx (sE ?_))
 obtain rfl := si h
 exact qE ⟨rfl, trivial⟩
noncomputable def slices_IndexFunc_Party__impl_find_1 (a1 : List Party) (a2 : List UInt8) : Option Int :=
 (Lw (slices_IndexFunc_Party__impl_find_1_b1 a1 a2) 0).bind fun r => match r with
 | (.inl y73) =>
  some y73
 | (.inr _) =>
  some (-1)
def slices_IndexFunc_Party__impl_find_1_enc (r : Int) : AV := .int .i64 r
theorem slices_IndexFunc_Party__impl_find_1_ok (a1 : List Party) (a2 : List UInt8) (r : Int) (h : slices_IndexFunc_Party__impl_find_1 a1 a2 = some r) : Ev (fun k => CN k 107 [.sl none (a1.map Party.c), .fn 108 [.pt none [.str a2]]] []) (fun p => rRes p.2 p.1 = slices_IndexFunc_Party__impl_find_1_enc r) := by
 unfold slices_IndexFunc_Party__impl_find_1 at h
 obtain ⟨r68, hr69, h⟩ := bind_some h
 refine Ev.enter (F := fun k => f107 (CN k) k) (fun k => callN_eq rfl Tryd.func107 rfl rfl rfl (by decide +kernel) (f107_eq _ _)) (sq (Rg (kx (mvO rfl) (Rn (hN rfl (hV (.fn 108 [.pt none [.str a2]]) rfl hZ)) fun e1 h3 h4 => sN (sq (sq (Rg (kx (mvO h3) (kx (lnS Tryd.underlying46 rfl) (kx (mvO rfl) (Rn (hA h3 (hA h4 (hN rfl (hV (.int .i64 0) rfl hZ)))) fun e5 h7 h8 h9 h10 => sN (bl ?_))))))))))))
 clear h3 h4
 rcases r68 with y73 | _
 ·refine Ev.loop (RS := slices_IndexFunc_Party__impl_find_1_b1_RS a1 a2) (RR := slices_IndexFunc_Party__impl_find_1_b1_RR a1 a2) (fun s r h e M hs => slices_IndexFunc_Party__impl_find_1_b1_ok a1 a2 s r h e M hs) hr69 ⟨h7, h8, h9, h10⟩ fun x e71 M72 hq70 => ?_
  obtain ⟨rfl, h74⟩ := hq70
  refine bR (sR ?_)
  obtain rfl := si h
  exact eR (resT h74 res0) rfl
 refine Ev.loop (RS := slices_IndexFunc_Party__impl_find_1_b1_RS a1 a2) (RR := slices_IndexFunc_Party__impl_find_1_b1_RR a1 a2) (fun s r h e M hs => slices_IndexFunc_Party__impl_find_1_b1_ok a1 a2 s r h e M hs) hr69 ⟨h7, h8, h9, h10⟩ fun x e75 M76 hq70 => ?_
 obtain ⟨rfl, _⟩ := hq70
 refine bE (sN (sq (Rg (kx (mvO rfl) (Rn (hV (.int .i64 (-1)) rfl hZ) fun e77 h79 => sN (xx ?_))))))
 obtain rfl := si h
 exact eR (resT h79 res0) rfl
/-! ### loop.example/g01263/impl.find (f73) -/
noncomputable def impl_find (a1 : List Party) (a2 : List UInt8) : Option Int :=
 (slices_IndexFunc_Party__impl_find_1 a1 a2).bind fun r6 =>
 some r6
def impl_find_enc (r : Int) : AV := .int .i64 r
theorem impl_find_ok (a1 : List Party) (a2 : List UInt8) (r : Int) (h : impl_find a1 a2 = some r) : Ev (fun k => CN k 73 [.sl none (a1.map Party.c), .str a2] []) (fun p => rRes p.2 p.1 = impl_find_enc r) := by
 unfold impl_find at h
 obtain ⟨r6, hx5, h⟩ := bind_some h
 refine Ev.enter (F := fun k => f73 (CN k) k) (fun k => callN_eq rfl Tryd.func73 rfl rfl rfl (by decide +kernel) (f73_eq _ _)) (sq (Rg (kx (bxI rfl rfl ⟨rfl, rfl, by decide⟩) (kx (mvO rfl) (Rn (hN rfl (hN rfl hZ)) fun e1 h3 h4 => sN (sq (Rg (kx (mvO h3) (kx (mvO (congrArg (AV.fn 108) (cns h4 rfl))) (kc (cl (v := .int .i64 r6) rfl rfl (cns rfl (cns rfl rfl)) rfl (slices_IndexFunc_Party__impl_find_1_ok a1 a2 _ hx5) nm) (kx (mvO rfl) (Rn (hN rfl hZ) fun e7 h9 => sN (xx ?_)))))))))))))
 clear h3 h4
 obtain rfl := si h
 exact eR (resT h9 res0) rfl
/-! ### loop.example/g01263/impl.isLetters (f42) -/
abbrev impl_isLetters_b1_S := Int
abbrev impl_isLetters_b1_R := Unit ⊕ Unit
def impl_isLetters_b1_RS (a1 : List UInt8) (a2 : Int) (s : impl_isLetters_b1_S) (e : Env) (M : Mem) : Prop := eget e 0 = .str a1 ∧ eget e 1 = .int .i64 a2 ∧ eget e 7 = .int .i64 (a1.length : Int) ∧ eget e 8 = .int .i64 s
def impl_isLetters_b1_RR (a1 : List UInt8) (a2 : Int) (r : impl_isLetters_b1_R) (x : Ex) (e : Env) (M : Mem) : Prop :=
  match r with
  | (.inl g) => x = .ret ∧ eget e 4 = .bool false
  | (.inr g) => x = .ext 0 ∧ eget e 0 = .str a1 ∧ eget e 1 = .int .i64 a2
noncomputable def impl_isLetters_b1 (a1 : List UInt8) : impl_isLetters_b1_S → Option (impl_isLetters_b1_S ⊕ impl_isLetters_b1_R) := fun s1_1 =>
 if (decide (s1_1 < (a1.length : Int))) = true then
  (rd a1 s1_1).bind fun x46 =>
  if (decide ((x46.toNat : Int) < 97)) = true then
   some (.inr (.inl ()))
  else
   (rd a1 s1_1).bind fun x59 =>
   if (decide ((x59.toNat : Int) > 122)) = true then
    some (.inr (.inl ()))
   else
    some (.inl (IntKind.i64.wrap (s1_1 + 1)))
 else
  some (.inr (.inr ()))
theorem impl_isLetters_b1_ok (a1 : List UInt8) (a2 : Int) (s : impl_isLetters_b1_S) (r : impl_isLetters_b1_S ⊕ impl_isLetters_b1_R) (h : impl_isLetters_b1 a1 s = some r) (e : Env) (M : Mem) (hs : impl_isLetters_b1_RS a1 a2 s e M) : Ev (fun k => (f42_l2 (CN k) k (prune [0, 1, 7, 8] e) M).bind fun q => some q) (bQ (impl_isLetters_b1_RS a1 a2) (impl_isLetters_b1_RR a1 a2) r) := by
 revert h hs
 revert s
 intro s1_1 h hs
 unfold impl_isLetters_b1 at h
 obtain ⟨h23, h25, h27, h29⟩ := hs
 generalize he22 : prune [0, 1, 7, 8] e = e21
 have h24 := envp he22.symm rfl h23
 have h26 := envp he22.symm rfl h25
 have h28 := envp he22.symm rfl h27
 have h30 := envp he22.symm rfl h29
 refine sq (Rg (kx (bLss h30 h28) (Rn (hV (.str a1) h24 (hV (.int .i64 a2) h26 (hV (.int .i64 (a1.length : Int)) h28 (hV (.int .i64 s1_1) h30 (hN rfl hZ))))) fun e31 h33 h34 h35 h36 h37 => sN (sq ?_))))
 clear h24 h26 h28 h30
 rcases ite_some h with ⟨hb38, h⟩ | ⟨hb38, h⟩
 ·obtain ⟨x46, hx47, h⟩ := bind_some h
  refine cT h37 hb38 (xx (sN (sq (bl (sq (Rg (kx (mvO h36) (kx (mvO rfl) (Rn (hA h33 (hA h34 (hN rfl (hA h35 (hA h36 hZ))))) fun e39 h41 h42 h43 h44 h45 => sN (sq (Rg (kx (mvO h41) (kx (mvO h43) (kx (ixB rfl rfl hx47) (kx (bLss rfl rfl) (kx (mvO rfl) ?_))))))))))))))))
  clear h33 h34 h35 h36 h37
  rcases ite_some h with ⟨hb48, h⟩ | ⟨hb48, h⟩
  ·refine kx (gsF rfl hb48) (kx (gsF rfl hb48) (kx (gsF rfl hb48) (kx (gsF rfl hb48) (kx (pkT rfl hb48 rfl) (Rn (hA h41 (hA h42 (hA h44 (hA h45 (hV (.bool true) rfl hZ))))) fun e49 h51 h52 h53 h54 h55 => sN (cT h55 rfl (sq (Rg (kx (mvO rfl) (Rn (hV (.bool false) rfl hZ) fun e56 h58 => sN (xx (bR (sR ?_)))))))))))))
   clear h41 h42 h43 h44 h45 h51 h52 h53 h54 h55
   obtain rfl := si h
   exact qR ⟨rfl, h58⟩
  obtain ⟨x59, hx60, h⟩ := bind_some h
  refine kx (guF rfl hb48 (mvO h41)) (kx (guF rfl hb48 (mvO h43)) (kx (guF rfl hb48 (ixB rfl rfl hx60)) (kx (guF rfl hb48 (bGtr rfl rfl)) (kx (pkF rfl hb48 rfl) (Rn (hA h41 (hA h42 (hA h44 (hA h45 (hN rfl hZ))))) fun e61 h63 h64 h65 h66 h67 => sN ?_)))))
  clear h41 h42 h43 h44 h45
  rcases ite_some h with ⟨hb68, h⟩ | ⟨hb68, h⟩
  ·refine cT h67 hb68 (sq (Rg (kx (mvO rfl) (Rn (hV (.bool false) rfl hZ) fun e69 h71 => sN (xx (bR (sR ?_)))))))
   clear h63 h64 h65 h66 h67
   obtain rfl := si h
   exact qR ⟨rfl, h71⟩
  refine cF h67 hb68 (xx (bN (sN (Rg (kx (bAdd h66 rfl) (kx (mvO rfl) (Rn (hA h63 (hA h64 (hA h65 (hN rfl hZ)))) fun e72 h74 h75 h76 h77 => ?_)))))))
  clear h63 h64 h65 h67
  obtain rfl := si h
  exact qN ⟨h74, h75, h76, h77⟩
 refine cF h37 hb38 (xx (sE ?_))
 obtain rfl := si h
 exact qE ⟨rfl, h33, h34⟩
noncomputable def impl_isLetters (a1 : List UInt8) (a2 : Int) : Option Bool :=
 (Lw (impl_isLetters_b1 a1) 0).bind fun r => match r with
 | (.inl _) =>
  some false
 | (.inr _) =>
  if (decide ((a1.length : Int) ≥ 1)) = true then
   some (decide ((a1.length : Int) ≤ a2))
  else
   some false
def impl_isLetters_enc (r : Bool) : AV := .bool r
theorem impl_isLetters_ok (a1 : List UInt8) (a2 : Int) (r : Bool) (h : impl_isLetters a1 a2 = some r) : Ev (fun k => CN k 42 [.str a1, .int .i64 a2] []) (fun p => rRes p.2 p.1 = impl_isLetters_enc r) := by
 unfold impl_isLetters at h
 obtain ⟨r78, hr79, h⟩ := bind_some h
 refine Ev.enter (F := fun k => f42 (CN k) k) (fun k => callN_eq rfl Tryd.func42 rfl rfl rfl (by decide +kernel) (f42_eq _ _)) (sq (Rg (kx (mvO rfl) (Rn (hN rfl (hN rfl hZ)) fun e1 h3 h4 => sN (sq (sq (Rg (kx (mvO h3) (kx (lnB Tryd.underlying9 rfl) (kx (mvO rfl) (Rn (hA h3 (hA h4 (hN rfl (hV (.int .i64 0) rfl hZ)))) fun e5 h7 h8 h9 h10 => sN (bl ?_))))))))))))
 clear h3 h4
 rcases r78 with _ | _
 ·refine Ev.loop (RS := impl_isLetters_b1_RS a1 a2) (RR := impl_isLetters_b1_RR a1 a2) (fun s r h e M hs => impl_isLetters_b1_ok a1 a2 s r h e M hs) hr79 ⟨h7, h8, h9, h10⟩ fun x e81 M82 hq80 => ?_
  obtain ⟨rfl, h83⟩ := hq80
  refine bR (sR ?_)
  obtain rfl := si h
  exact eR (resT h83 res0) rfl
 refine Ev.loop (RS := impl_isLetters_b1_RS a1 a2) (RR := impl_isLetters_b1_RR a1 a2) (fun s r h e M hs => impl_isLetters_b1_ok a1 a2 s r h e M hs) hr79 ⟨h7, h8, h9, h10⟩ fun x e84 M85 hq80 => ?_
 obtain ⟨rfl, h86, h87⟩ := hq80
 refine bE (sN (sq (Rg (kx (mvO h86) (kx (lnB Tryd.underlying9 rfl) (kx (bGeq rfl rfl) (kx (mvO rfl) ?_)))))))
 rcases ite_some h with ⟨hb88, h⟩ | ⟨hb88, h⟩
 ·refine kx (guT rfl hb88 (mvO h86)) (kx (guT rfl hb88 (lnB Tryd.underlying9 rfl)) (kx (guT rfl hb88 (mvO h87)) (kx (guT rfl hb88 (bLeq rfl rfl)) (kx (pkT rfl hb88 rfl) (kx (mvO rfl) (Rn (hN rfl hZ) fun e89 h91 => sN (xx ?_)))))))
  clear h86 h87
  obtain rfl := si h
  exact eR (resT h91 res0) rfl
 refine kx (gsT rfl hb88) (kx (gsT rfl hb88) (kx (gsT rfl hb88) (kx (gsT rfl hb88) (kx (pkF rfl hb88 rfl) (kx (mvO rfl) (Rn (hV (.bool false) rfl hZ) fun e92 h94 => sN (xx ?_)))))))
 clear h86 h87
 obtain rfl := si h
 exact eR (resT h94 res0) rfl
/-! ### loop.example/g01263/impl.isName (f66) -/
noncomputable def impl_isName (a1 : List UInt8) : Option Bool :=
 (impl_isLetters a1 12).bind fun r5 =>
 some r5
def impl_isName_enc (r : Bool) : AV := .bool r
theorem impl_isName_ok (a1 : List UInt8) (r : Bool) (h : impl_isName a1 = some r) : Ev (fun k => CN k 66 [.str a1] []) (fun p => rRes p.2 p.1 = impl_isName_enc r) := by
 unfold impl_isName at h
 obtain ⟨r5, hx4, h⟩ := bind_some h
 refine Ev.enter (F := fun k => f66 (CN k) k) (fun k => callN_eq rfl Tryd.func66 rfl rfl rfl (by decide +kernel) (f66_eq _ _)) (sq (Rg (kx (mvO rfl) (Rn (hN rfl hZ) fun e1 h3 => sN (sq (Rg (kx (mvO h3) (kc (cl (v := .bool r5) rfl rfl (cns rfl (cns rfl rfl)) rfl (impl_isLetters_ok a1 12 _ hx4) nm) (kx (mvO rfl) (Rn (hN rfl hZ) fun e6 h8 => sN (xx ?_)))))))))))
 clear h3
 obtain rfl := si h
 exact eR (resT h8 res0) rfl
/-! ### loop.example/g01263/impl.ValidParties (f72) -/
abbrev impl_ValidParties_b1_S := Int
abbrev impl_ValidParties_b1_R := Unit ⊕ Unit
def impl_ValidParties_b1_RS (a1 : List Party) (s : impl_ValidParties_b1_S) (e : Env) (M : Mem) : Prop := eget e 0 = .sl none (a1.map Party.c) ∧ eget e 5 = .sl none (a1.map Party.c) ∧ eget e 6 = .int .i64 (a1.length : Int) ∧ eget e 7 = .int .i64 s
def impl_ValidParties_b1_RR (a1 : List Party) (r : impl_ValidParties_b1_R) (x : Ex) (e : Env) (M : Mem) : Prop :=
  match r with
  | (.inl g) => x = .ret ∧ eget e 2 = .bool false
  | (.inr g) => x = .ext 0 ∧ eget e 0 = .sl none (a1.map Party.c)
noncomputable def impl_ValidParties_b1 (a1 : List Party) : impl_ValidParties_b1_S → Option (impl_ValidParties_b1_S ⊕ impl_ValidParties_b1_R) := fun s1_1 =>
 if (decide (s1_1 < (a1.length : Int))) = true then
  (rd a1 s1_1).bind fun x38 =>
  (impl_isName x38.Name).bind fun r56 =>
  if r56 = true then
   (slc a1 0 s1_1).bind fun x58 =>
   (impl_find x58 x38.Name).bind fun r61 =>
   if (decide (r61 ≥ 0)) = true then
    some (.inr (.inl ()))
   else
    some (.inl (IntKind.i64.wrap (s1_1 + 1)))
  else
   some (.inr (.inl ()))
 else
  some (.inr (.inr ()))
theorem impl_ValidParties_b1_ok (a1 : List Party) (s : impl_ValidParties_b1_S) (r : impl_ValidParties_b1_S ⊕ impl_ValidParties_b1_R) (h : impl_ValidParties_b1 a1 s = some r) (e : Env) (M : Mem) (hs : impl_ValidParties_b1_RS a1 s e M) : Ev (fun k => (f72_l2 (CN k) k (prune [0, 5, 6, 7] e) M).bind fun q => some q) (bQ (impl_ValidParties_b1_RS a1) (impl_ValidParties_b1_RR a1) r) := by
 revert h hs
 revert s
 intro s1_1 h hs
 unfold impl_ValidParties_b1 at h
 obtain ⟨h22, h24, h26, h28⟩ := hs
 generalize he21 : prune [0, 5, 6, 7] e = e20
 have h23 := envp he21.symm rfl h22
 have h25 := envp he21.symm rfl h24
 have h27 := envp he21.symm rfl h26
 have h29 := envp he21.symm rfl h28
 refine sq (Rg (kx (bLss h29 h27) (Rn (hV (.sl none (a1.map Party.c)) h23 (hV (.sl none (a1.map Party.c)) h25 (hV (.int .i64 (a1.length : Int)) h27 (hV (.int .i64 s1_1) h29 (hN rfl hZ))))) fun e30 h32 h33 h34 h35 h36 => sN (sq ?_))))
 clear h23 h25 h27 h29
 rcases ite_some h with ⟨hb37, h⟩ | ⟨hb37, h⟩
 ·obtain ⟨x38, hx39, h⟩ := bind_some h
  refine cT h36 hb37 (xx (sN (sq (bl (sq (Rg (kx (mvO h35) (kx (ixS h33 h35 hx39 Party.fl) (kx (ldPA rfl rfl rfl) (ku (alO zero66) fun M41 hM42 => ?_))))))))))
  have o43 : M41[M.length]? = some (.live ⟨.box, 66, 2, [[.str ([] : List UInt8), .int .u32 0]]⟩) := push_new hM42
  refine kx (mvO rfl) (kw (stO rfl rfl o43 rfl rfl ⟨rfl, ble rfl⟩ rfl rfl) fun M44 hM45 => ?_)
  have o46 : M44[M.length]? = some (.live ⟨.box, 66, 2, [[.str x38.Name, .int .u32 x38.Secret]]⟩) := set_same hM45 o43
  obtain ⟨r56, hx55, h⟩ := bind_some h
  refine Rn (hA h32 (hN rfl (hV (.loc M.length 1 0 0) rfl (hA h33 (hA h34 (hA h35 hZ)))))) fun e47 h49 h50 h51 h52 h53 h54 => sN (sq (Rd (kf (faO h51 o46 rfl) (kf (ldO rfl o46 rfl rfl rfl) (fc (cl (v := .bool r56) rfl rfl (cns rfl rfl) rfl (impl_isName_ok x38.Name _ hx55) nm) (kf (uNot rfl) (kf (mvO rfl) ?_)))))))
  clear h32 h33 h34 h35 h36
  rcases ite_some h with ⟨hb57, h⟩ | ⟨hb57, h⟩
  ·obtain ⟨x58, hx59, h⟩ := bind_some h
   obtain ⟨r61, hx60, h⟩ := bind_some h
   refine kf (guF rfl (congrArg Bool.not hb57) (mvO h49)) (kf (guF rfl (congrArg Bool.not hb57) (mvO h50)) (kf (guF rfl (congrArg Bool.not hb57) (slS rfl rfl (bnd1 rfl) hx59 Party.fl)) (kf (guF rfl (congrArg Bool.not hb57) (faO h51 o46 rfl)) (kf (guF rfl (congrArg Bool.not hb57) (ldO rfl o46 rfl rfl rfl)) (fc (Ev.guF rfl (congrArg Bool.not hb57) (cl (v := .int .i64 r61) rfl rfl (cns rfl (cns rfl rfl)) rfl (impl_find_ok x58 x38.Name _ hx60) nm)) (kf (guF rfl (congrArg Bool.not hb57) (bGeq rfl rfl)) (kf (pkF rfl (congrArg Bool.not hb57) rfl) (fZ (Rn (hA h49 (hA h52 (hA h53 (hA h54 (hN rfl hZ))))) fun e62 h64 h65 h66 h67 h68 => sN ?_)))))))))
   clear h49 h50 h51 h52 h53 h54
   rcases ite_some h with ⟨hb69, h⟩ | ⟨hb69, h⟩
   ·refine cT h68 hb69 (sq (Rg (kx (mvO rfl) (Rn (hV (.bool false) rfl hZ) fun e70 h72 => sN (xx (bR (sR ?_)))))))
    clear h64 h65 h66 h67 h68
    obtain rfl := si h
    exact qR ⟨rfl, h72⟩
   refine cF h68 hb69 (xx (bN (sN (Rg (kx (bAdd h67 rfl) (kx (mvO rfl) (Rn (hA h64 (hA h65 (hA h66 (hN rfl hZ)))) fun e73 h75 h76 h77 h78 => ?_)))))))
   clear h64 h65 h66 h68
   obtain rfl := si h
   exact qN ⟨h75, h76, h77, h78⟩
  refine kf (gsF rfl (congrArg Bool.not hb57)) (kf (gsF rfl (congrArg Bool.not hb57)) (kf (gsF rfl (congrArg Bool.not hb57)) (kf (gsF rfl (congrArg Bool.not hb57)) (kf (gsF rfl (congrArg Bool.not hb57)) (fc (Ev.gsF rfl (congrArg Bool.not hb57)) (kf (gsF rfl (congrArg Bool.not hb57)) (kf (pkT rfl (congrArg Bool.not hb57) rfl) (fZ (Rn (hA h49 (hA h52 (hA h53 (hA h54 (hV (.bool true) rfl hZ))))) fun e79 h81 h82 h83 h84 h85 => sN (cT h85 rfl (sq (Rg (kx (mvO rfl) (Rn (hV (.bool false) rfl hZ) fun e86 h88 => sN (xx (bR (sR ?_)))))))))))))))))
  clear h49 h50 h51 h52 h53 h54 h81 h82 h83 h84 h85
  obtain rfl := si h
  exact qR ⟨rfl, h88⟩
 refine cF h36 hb37 (xx (sE ?_))
 obtain rfl := si h
 exact qE ⟨rfl, h32⟩
noncomputable def impl_ValidParties (a1 : List Party) : Option Bool :=
 (Lw (impl_ValidParties_b1 a1) 0).bind fun r => match r with
 | (.inl _) =>
  some false
 | (.inr _) =>
  some (decide ((a1.length : Int) ≤ 20))
def impl_ValidParties_enc (r : Bool) : AV := .bool r
theorem impl_ValidParties_ok (a1 : List Party) (r : Bool) (h : impl_ValidParties a1 = some r) : Ev (fun k => CN k 72 [.sl none (a1.map Party.c)] []) (fun p => rRes p.2 p.1 = impl_ValidParties_enc r) := by
 unfold impl_ValidParties at h
 obtain ⟨r89, hr90, h⟩ := bind_some h
 refine Ev.enter (F := fun k => f72 (CN k) k) (fun k => callN_eq rfl Tryd.func72 rfl rfl rfl (by decide +kernel) (f72_eq _ _)) (sq (Rg (kx (mvO rfl) (Rn (hN rfl hZ) fun e1 h3 => sN (sq (sq (Rg (kx (mvO h3) (kx (lnS Tryd.underlying46 rfl) (kx (mvO rfl) (Rn (hA h3 (hN rfl (hN rfl (hV (.int .i64 0) rfl hZ)))) fun e4 h6 h7 h8 h9 => sN (bl ?_))))))))))))
 clear h3
 rcases r89 with _ | _
 ·refine Ev.loop (RS := impl_ValidParties_b1_RS a1) (RR := impl_ValidParties_b1_RR a1) (fun s r h e M hs => impl_ValidParties_b1_ok a1 s r h e M hs) hr90 ⟨h6, h7, h8, h9⟩ fun x e92 M93 hq91 => ?_
  obtain ⟨rfl, h94⟩ := hq91
  refine bR (sR ?_)
  obtain rfl := si h
  exact eR (resT h94 res0) rfl
 refine Ev.loop (RS := impl_ValidParties_b1_RS a1) (RR := impl_ValidParties_b1_RR a1) (fun s r h e M hs => impl_ValidParties_b1_ok a1 s r h e M hs) hr90 ⟨h6, h7, h8, h9⟩ fun x e95 M96 hq91 => ?_
 obtain ⟨rfl, h97⟩ := hq91
 refine bE (sN (sq (Rg (kx (mvO h97) (kx (lnS Tryd.underlying46 rfl) (kx (bLeq rfl rfl) (kx (mvO rfl) (Rn (hN rfl hZ) fun e98 h100 => sN (xx ?_)))))))))
 clear h97
 obtain rfl := si h
 exact eR (resT h100 res0) rfl
/-! ### loop.example/g01263/spec.l06Common (f71) -/
def spec_l06Common_c1_Q (a1 : Chain) (a2 : Chain) (g : Bool) (q : Out) : Prop := q.1 = .nrm ∧ eget q.2.1 0 = .pt none (.str a1.Debtor :: (.bool a1.Stock.Stock :: (.sl none (a1.Stock.Notches.map Notch.c) :: ((arC (cI .i8) 0 a1.Stock.Grain) ++ ((.sl none (a1.Marks.map Mark.c) :: []) : List AV))))) ∧ eget q.2.1 1 = .pt none (.str a2.Debtor :: (.bool a2.Stock.Stock :: (.sl none (a2.Stock.Notches.map Notch.c) :: ((arC (cI .i8) 0 a2.Stock.Grain) ++ ((.sl none (a2.Marks.map Mark.c) :: []) : List AV))))) ∧ eget q.2.1 14 = .bool g
def spec_l06Common_c2_Q (a1 : Chain) (a2 : Chain) (g : Bool) (q : Out) : Prop := q.1 = .nrm ∧ eget q.2.1 0 = .pt none (.str a1.Debtor :: (.bool a1.Stock.Stock :: (.sl none (a1.Stock.Notches.map Notch.c) :: ((arC (cI .i8) 0 a1.Stock.Grain) ++ ((.sl none (a1.Marks.map Mark.c) :: []) : List AV))))) ∧ eget q.2.1 1 = .pt none (.str a2.Debtor :: (.bool a2.Stock.Stock :: (.sl none (a2.Stock.Notches.map Notch.c) :: ((arC (cI .i8) 0 a2.Stock.Grain) ++ ((.sl none (a2.Marks.map Mark.c) :: []) : List AV))))) ∧ eget q.2.1 33 = .bool g
abbrev spec_l06Common_b1_S := Int
abbrev spec_l06Common_b1_R := Int
def spec_l06Common_b1_RS (a1 : Chain) (a2 : Chain) (s : spec_l06Common_b1_S) (e : Env) (M : Mem) : Prop := eget e 0 = .pt none (.str a1.Debtor :: (.bool a1.Stock.Stock :: (.sl none (a1.Stock.Notches.map Notch.c) :: ((arC (cI .i8) 0 a1.Stock.Grain) ++ ((.sl none (a1.Marks.map Mark.c) :: []) : List AV))))) ∧ eget e 1 = .pt none (.str a2.Debtor :: (.bool a2.Stock.Stock :: (.sl none (a2.Stock.Notches.map Notch.c) :: ((arC (cI .i8) 0 a2.Stock.Grain) ++ ((.sl none (a2.Marks.map Mark.c) :: []) : List AV))))) ∧ eget e 6 = .int .i64 s
def spec_l06Common_b1_RR (a1 : Chain) (a2 : Chain) (g : spec_l06Common_b1_R) (x : Ex) (e : Env) (M : Mem) : Prop := x = .ext 0 ∧ eget e 6 = .int .i64 g
noncomputable def spec_l06Common_b1 (a1 : Chain) (a2 : Chain) : spec_l06Common_b1_S → Option (spec_l06Common_b1_S ⊕ spec_l06Common_b1_R) := fun s1_1 =>
 if (decide (s1_1 < (a1.Marks.length : Int))) = true then
  if (decide (s1_1 < (a2.Marks.length : Int))) = true then
   (rd a1.Marks s1_1).bind fun x78 =>
   (rd a2.Marks s1_1).bind fun x80 =>
   if ((x78.Holder == x80.Holder) && ((x78.Seal == x80.Seal) && true)) = true then
    some (.inl (IntKind.i64.wrap (s1_1 + 1)))
   else
    some (.inr s1_1)
  else
   some (.inr s1_1)
 else
  some (.inr s1_1)
theorem spec_l06Common_b1_ok (a1 : Chain) (a2 : Chain) (s : spec_l06Common_b1_S) (r : spec_l06Common_b1_S ⊕ spec_l06Common_b1_R) (h : spec_l06Common_b1 a1 a2 s = some r) (e : Env) (M : Mem) (hs : spec_l06Common_b1_RS a1 a2 s e M) : Ev (fun k => (f71_l6 (CN k) k (prune [0, 1, 6] e) M).bind fun q => some q) (bQ (spec_l06Common_b1_RS a1 a2) (spec_l06Common_b1_RR a1 a2) r) := by
 revert h hs
 revert s
 intro s1_1 h hs
 unfold spec_l06Common_b1 at h
 obtain ⟨h70, h72, h74⟩ := hs
 generalize he69 : prune [0, 1, 6] e = e68
 have h71 := envp he69.symm rfl h70
 have h73 := envp he69.symm rfl h72
 have h75 := envp he69.symm rfl h74
 refine sq (sq (Rd (kf (mvO h75) (kf (mvO h71) (kf (ncP rfl) (kf (faP rfl ⟨ble rfl, blt rfl⟩ rfl) (kf (ldP rfl rfl) (kf (lnS Tryd.underlying53 rfl) (kf (bLss rfl rfl) (kf (mvO rfl) ?_))))))))))
 rcases ite_some h with ⟨hb76, h⟩ | ⟨hb76, h⟩
 ·refine kf (guT rfl hb76 (mvO h75)) (kf (guT rfl hb76 (mvO h73)) (kf (guT rfl hb76 (ncP rfl)) (kf (guT rfl hb76 (faP rfl ⟨ble rfl, blt rfl⟩ rfl)) (kf (guT rfl hb76 (ldP rfl rfl)) (kf (guT rfl hb76 (lnS Tryd.underlying53 rfl)) (kf (guT rfl hb76 (bLss rfl rfl)) (kf (pkT rfl hb76 rfl) (kf (mvO rfl) ?_))))))))
  rcases ite_some h with ⟨hb77, h⟩ | ⟨hb77, h⟩
  ·obtain ⟨x78, hx79, h⟩ := bind_some h
   obtain ⟨x80, hx81, h⟩ := bind_some h
   refine kf (guT rfl hb77 (mvO h71)) (kf (guT rfl hb77 (ncP rfl)) (kf (guT rfl hb77 (faP rfl ⟨ble rfl, blt rfl⟩ rfl)) (kf (guT rfl hb77 (ldP rfl rfl)) (kf (guT rfl hb77 (mvO h75)) (kf (guT rfl hb77 (ixS rfl rfl hx79 Mark.fl)) (kf (guT rfl hb77 (ldPA rfl rfl rfl)) (kf (guT rfl hb77 (mvO h73)) (kf (guT rfl hb77 (ncP rfl)) (kf (guT rfl hb77 (faP rfl ⟨ble rfl, blt rfl⟩ rfl)) (kf (guT rfl hb77 (ldP rfl rfl)) (kf (guT rfl hb77 (mvO h75)) (kf (guT rfl hb77 (ixS rfl rfl hx81 Mark.fl)) (kf (guT rfl hb77 (ldPA rfl rfl rfl)) (kf (guT rfl hb77 (gEql rfl rfl (by kernel_rfl) rfl)) (kf (pkT rfl hb77 rfl) (fZ (Rn (hV (.pt none (.str a1.Debtor :: (.bool a1.Stock.Stock :: (.sl none (a1.Stock.Notches.map Notch.c) :: ((arC (cI .i8) 0 a1.Stock.Grain) ++ ((.sl none (a1.Marks.map Mark.c) :: []) : List AV)))))) h71 (hV (.pt none (.str a2.Debtor :: (.bool a2.Stock.Stock :: (.sl none (a2.Stock.Notches.map Notch.c) :: ((arC (cI .i8) 0 a2.Stock.Grain) ++ ((.sl none (a2.Marks.map Mark.c) :: []) : List AV)))))) h73 (hV (.int .i64 s1_1) h75 (hN rfl hZ)))) fun e82 h84 h85 h86 h87 => sN ?_)))))))))))))))))
   clear h71 h73 h75
   rcases ite_some h with ⟨hb88, h⟩ | ⟨hb88, h⟩
   ·refine cT h87 hb88 (xx (sN (bl (Rg (kx (mvO h86) (kx (bAdd rfl rfl) (kx (mvO rfl) (Rn (hA h84 (hA h85 (hN rfl hZ))) fun e89 h91 h92 h93 => bN ?_))))))))
    clear h84 h85 h87
    obtain rfl := si h
    exact qN ⟨h91, h92, h93⟩
   refine cF h87 hb88 (xx (sE ?_))
   obtain rfl := si h
   exact qE ⟨rfl, h86⟩
  refine kf (gsT rfl hb77) (kf (gsT rfl hb77) (kf (gsT rfl hb77) (kf (gsT rfl hb77) (kf (gsT rfl hb77) (kf (gsT rfl hb77) (kf (gsT rfl hb77) (kf (gsT rfl hb77) (kf (gsT rfl hb77) (kf (gsT rfl hb77) (kf (gsT rfl hb77) (kf (gsT rfl hb77) (kf (gsT rfl hb77) (kf (gsT rfl hb77) (kf (gsT rfl hb77) (kf (pkF rfl hb77 rfl) (fZ (Rn (hV (.pt none (.str a1.Debtor :: (.bool a1.Stock.Stock :: (.sl none (a1.Stock.Notches.map Notch.c) :: ((arC (cI .i8) 0 a1.Stock.Grain) ++ ((.sl none (a1.Marks.map Mark.c) :: []) : List AV)))))) h71 (hV (.pt none (.str a2.Debtor :: (.bool a2.Stock.Stock :: (.sl none (a2.Stock.Notches.map Notch.c) :: ((arC (cI .i8) 0 a2.Stock.Grain) ++ ((.sl none (a2.Marks.map Mark.c) :: []) : List AV)))))) h73 (hV (.int .i64 s1_1) h75 (hV (.bool false) rfl hZ)))) fun e94 h96 h97 h98 h99 => sN (cF h99 rfl (xx (sE ?_))))))))))))))))))))
  clear h71 h73 h75
  obtain rfl := si h
  exact qE ⟨rfl, h98⟩
 refine kf (gsT rfl hb76) (kf (gsT rfl hb76) (kf (gsT rfl hb76) (kf (gsT rfl hb76) (kf (gsT rfl hb76) (kf (gsT rfl hb76) (kf (gsT rfl hb76) (kf (pkF rfl hb76 rfl) (kf (mvO rfl) (kf (gsT rfl rfl) (kf (gsT rfl rfl) (kf (gsT rfl rfl) (kf (gsT rfl rfl) (kf (gsT rfl rfl) (kf (gsT rfl rfl) (kf (gsT rfl rfl) (kf (gsT rfl rfl) (kf (gsT rfl rfl) (kf (gsT rfl rfl) (kf (gsT rfl rfl) (kf (gsT rfl rfl) (kf (gsT rfl rfl) (kf (gsT rfl rfl) (kf (gsT rfl rfl) (kf (pkF rfl rfl rfl) (fZ (Rn (hV (.pt none (.str a1.Debtor :: (.bool a1.Stock.Stock :: (.sl none (a1.Stock.Notches.map Notch.c) :: ((arC (cI .i8) 0 a1.Stock.Grain) ++ ((.sl none (a1.Marks.map Mark.c) :: []) : List AV)))))) h71 (hV (.pt none (.str a2.Debtor :: (.bool a2.Stock.Stock :: (.sl none (a2.Stock.Notches.map Notch.c) :: ((arC (cI .i8) 0 a2.Stock.Grain) ++ ((.sl none (a2.Marks.map Mark.c) :: []) : List AV)))))) h73 (hV (.int .i64 s1_1) h75 (hV (.bool false) rfl hZ)))) fun e100 h102 h103 h104 h105 => sN (cF h105 rfl (xx (sE ?_)))))))))))))))))))))))))))))
 clear h71 h73 h75
 obtain rfl := si h
 exact qE ⟨rfl, h104⟩
noncomputable def spec_l06Common (a1 : Chain) (a2 : Chain) : Option (Int × Int) :=
 ((spec_l06Ok a1).bind fun r6 =>
 if r6 = true then
  (spec_l06Ok a2).bind fun r9 =>
  some (!r9)
 else
  some true).bind fun y22 =>
 if y22 = true then
  some (0, 1)
 else
  (if (a1.Debtor == a2.Debtor) = true then
   (spec_l01Same a1.Stock a2.Stock).bind fun r33 =>
   some (!r33)
  else
   some true).bind fun y46 =>
  if y46 = true then
   some (0, 4)
  else
   (Lw (spec_l06Common_b1 a1 a2) 0).bind fun y111 =>
   some (y111, 0)
def spec_l06Common_enc (r : Int × Int) : AV := .tup [.int .i64 r.1, .int .i64 r.2]
theorem spec_l06Common_ok (a1 : Chain) (a2 : Chain) (r : Int × Int) (h : spec_l06Common a1 a2 = some r) : Ev (fun k => CN k 71 [.pt none (.str a1.Debtor :: (.bool a1.Stock.Stock :: (.sl none (a1.Stock.Notches.map Notch.c) :: ((arC (cI .i8) 0 a1.Stock.Grain) ++ ((.sl none (a1.Marks.map Mark.c) :: []) : List AV))))), .pt none (.str a2.Debtor :: (.bool a2.Stock.Stock :: (.sl none (a2.Stock.Notches.map Notch.c) :: ((arC (cI .i8) 0 a2.Stock.Grain) ++ ((.sl none (a2.Marks.map Mark.c) :: []) : List AV)))))] []) (fun p => rRes p.2 p.1 = spec_l06Common_enc r) := by
 unfold spec_l06Common at h
 obtain ⟨r121, hr122, h⟩ := bind_some h
 refine Ev.enter (F := fun k => f71 (CN k) k) (fun k => callN_eq rfl Tryd.func71 rfl rfl rfl (by decide +kernel) (f71_eq _ _)) (sq (Rg (kx (mvO rfl) (kx (mvO rfl) (Rn (hN rfl (hN rfl hZ)) fun e1 h3 h4 => sN (sq (sq ?_)))))))
 refine Ev.cut (Q1 := spec_l06Common_c1_Q a1 a2 r121) (by
     have h := hr122
     obtain ⟨r6, hx5, h⟩ := bind_some h
     refine Rg (kx (mvO h3) (kc (cl (v := .bool r6) rfl rfl (cns rfl rfl) rfl (spec_l06Ok_ok a1 _ hx5) nm) (kx (uNot rfl) (kx (mvO rfl) ?_))))
     rcases ite_some h with ⟨hb7, h⟩ | ⟨hb7, h⟩
     ·obtain ⟨r9, hx8, h⟩ := bind_some h
      refine kx (guF rfl (congrArg Bool.not hb7) (mvO h4)) (kc (Ev.guF rfl (congrArg Bool.not hb7) (cl (v := .bool r9) rfl rfl (cns rfl rfl) rfl (spec_l06Ok_ok a2 _ hx8) nm)) (kx (guF rfl (congrArg Bool.not hb7) (uNot rfl)) (kx (pkF rfl (congrArg Bool.not hb7) rfl) (Rn (hA h3 (hA h4 (hN rfl hZ))) fun e10 h12 h13 h14 => ?_))))
      clear h3 h4
      obtain rfl := si h
      exact kd (show spec_l06Common_c1_Q a1 a2 _ _ from ⟨rfl, h12, h13, h14⟩)
     refine kx (gsF rfl (congrArg Bool.not hb7)) (kc (Ev.gsF rfl (congrArg Bool.not hb7)) (kx (gsF rfl (congrArg Bool.not hb7)) (kx (pkT rfl (congrArg Bool.not hb7) rfl) (Rn (hA h3 (hA h4 (hV (.bool true) rfl hZ))) fun e15 h17 h18 h19 => ?_))))
     clear h3 h4
     obtain rfl := si h
     exact kd (show spec_l06Common_c1_Q a1 a2 _ _ from ⟨rfl, h17, h18, h19⟩)) ?_
 revert h hr122
 revert r121
 intro y22 hr122 h
 intro x e20 M21 hq120
 obtain ⟨rfl, h23, h24, h25⟩ := hq120
 refine sN ?_
 rcases ite_some h with ⟨hb26, h⟩ | ⟨hb26, h⟩
 ·refine cT h25 hb26 (sq (Rg (kx (mvO rfl) (kx (mvO rfl) (Rn (hV (.int .i64 0) rfl (hV (.int .i64 1) rfl hZ)) fun e27 h29 h30 => sN (xx (sR ?_)))))))
  clear h23 h24 h25
  obtain rfl := si h
  exact eR (resT h29 (resT h30 res0)) rfl
 obtain ⟨r118, hr119, h⟩ := bind_some h
 refine cF h25 hb26 (xx (sN (sq (sq ?_))))
 refine Ev.cut (Q1 := spec_l06Common_c2_Q a1 a2 r118) (by
     have h := hr119
     refine Rd (kf (mvO h23) (kf (ncP rfl) (kf (faP rfl ⟨ble rfl, blt rfl⟩ rfl) (kf (ldP rfl rfl) (kf (mvO h24) (kf (ncP rfl) (kf (faP rfl ⟨ble rfl, blt rfl⟩ rfl) (kf (ldP rfl rfl) (kf (sNeq rfl rfl) (kf (mvO rfl) ?_))))))))))
     rcases ite_some h with ⟨hb31, h⟩ | ⟨hb31, h⟩
     ·obtain ⟨r33, hx32, h⟩ := bind_some h
      refine kf (guF rfl (congrArg Bool.not hb31) (mvO h23)) (kf (guF rfl (congrArg Bool.not hb31) (ncP rfl)) (kf (guF rfl (congrArg Bool.not hb31) (faP rfl ⟨ble rfl, blt rfl⟩ rfl)) (kf (guF rfl (congrArg Bool.not hb31) (mvO h24)) (kf (guF rfl (congrArg Bool.not hb31) (ncP rfl)) (kf (guF rfl (congrArg Bool.not hb31) (faP rfl ⟨ble rfl, blt rfl⟩ rfl)) (fc (Ev.guF rfl (congrArg Bool.not hb31) (cl (v := .bool r33) rfl rfl (cns rfl (cns rfl rfl)) rfl (spec_l01Same_ok a1.Stock a2.Stock _ hx32) nm)) (kf (guF rfl (congrArg Bool.not hb31) (uNot rfl)) (kf (pkF rfl (congrArg Bool.not hb31) rfl) (fZ (Rn (hV (.pt none (.str a1.Debtor :: (.bool a1.Stock.Stock :: (.sl none (a1.Stock.Notches.map Notch.c) :: ((arC (cI .i8) 0 a1.Stock.Grain) ++ ((.sl none (a1.Marks.map Mark.c) :: []) : List AV)))))) h23 (hV (.pt none (.str a2.Debtor :: (.bool a2.Stock.Stock :: (.sl none (a2.Stock.Notches.map Notch.c) :: ((arC (cI .i8) 0 a2.Stock.Grain) ++ ((.sl none (a2.Marks.map Mark.c) :: []) : List AV)))))) h24 (hN rfl hZ))) fun e34 h36 h37 h38 => ?_))))))))))
      clear h23 h24 h25
      obtain rfl := si h
      exact kd (show spec_l06Common_c2_Q a1 a2 _ _ from ⟨rfl, h36, h37, h38⟩)
     refine kf (gsF rfl (congrArg Bool.not hb31)) (kf (gsF rfl (congrArg Bool.not hb31)) (kf (gsF rfl (congrArg Bool.not hb31)) (kf (gsF rfl (congrArg Bool.not hb31)) (kf (gsF rfl (congrArg Bool.not hb31)) (kf (gsF rfl (congrArg Bool.not hb31)) (fc (Ev.gsF rfl (congrArg Bool.not hb31)) (kf (gsF rfl (congrArg Bool.not hb31)) (kf (pkT rfl (congrArg Bool.not hb31) rfl) (fZ (Rn (hV (.pt none (.str a1.Debtor :: (.bool a1.Stock.Stock :: (.sl none (a1.Stock.Notches.map Notch.c) :: ((arC (cI .i8) 0 a1.Stock.Grain) ++ ((.sl none (a1.Marks.map Mark.c) :: []) : List AV)))))) h23 (hV (.pt none (.str a2.Debtor :: (.bool a2.Stock.Stock :: (.sl none (a2.Stock.Notches.map Notch.c) :: ((arC (cI .i8) 0 a2.Stock.Grain) ++ ((.sl none (a2.Marks.map Mark.c) :: []) : List AV)))))) h24 (hV (.bool true) rfl hZ))) fun e39 h41 h42 h43 => ?_))))))))))
     clear h23 h24 h25
     obtain rfl := si h
     exact kd (show spec_l06Common_c2_Q a1 a2 _ _ from ⟨rfl, h41, h42, h43⟩)) ?_
 revert h hr119
 revert r118
 intro y46 hr119 h
 intro x e44 M45 hq117
 obtain ⟨rfl, h47, h48, h49⟩ := hq117
 refine sN ?_
 rcases ite_some h with ⟨hb50, h⟩ | ⟨hb50, h⟩
 ·refine cT h49 hb50 (sq (Rg (kx (mvO rfl) (kx (mvO rfl) (Rn (hV (.int .i64 0) rfl (hV (.int .i64 4) rfl hZ)) fun e51 h53 h54 => sN (xx (sR ?_)))))))
  clear h47 h48 h49
  obtain rfl := si h
  exact eR (resT h53 (resT h54 res0)) rfl
 obtain ⟨y111, hr107, h⟩ := bind_some h
 refine cF h49 hb50 (xx (sN (sq (Rg (kx (mvO rfl) (Rn (hV (.pt none (.str a1.Debtor :: (.bool a1.Stock.Stock :: (.sl none (a1.Stock.Notches.map Notch.c) :: ((arC (cI .i8) 0 a1.Stock.Grain) ++ ((.sl none (a1.Marks.map Mark.c) :: []) : List AV)))))) h47 (hV (.pt none (.str a2.Debtor :: (.bool a2.Stock.Stock :: (.sl none (a2.Stock.Notches.map Notch.c) :: ((arC (cI .i8) 0 a2.Stock.Grain) ++ ((.sl none (a2.Marks.map Mark.c) :: []) : List AV)))))) h48 (hV (.int .i64 0) rfl hZ))) fun e55 h57 h58 h59 => sN (sq (bl (Ev.loop (RS := spec_l06Common_b1_RS a1 a2) (RR := spec_l06Common_b1_RR a1 a2) (fun s r h e M hs => spec_l06Common_b1_ok a1 a2 s r h e M hs) hr107 ⟨h57, h58, h59⟩ fun x e109 M110 hq108 => ?_)))))))))
 clear h47 h48 h49
 obtain ⟨rfl, h112⟩ := hq108
 refine bE (sN (sq (Rg (kx (mvO h112) (kx (mvO rfl) (kx (mvO rfl) (Rn (hN rfl (hV (.int .i64 0) rfl hZ)) fun e113 h115 h116 => sN (xx ?_))))))))
 clear h112
 obtain rfl := si h
 exact eR (resT h115 (resT h116 res0)) rfl
/-! ### slices.Clone[[]loop.example/g01263/impl.Mark,loop.example/g01263/impl.Mark] (f70) -/
noncomputable def slices_Clone_Mark (a1 : List Mark) : Option ((List Mark)) :=
 (app 24 ([] : List Mark) a1).bind fun x8 =>
 some x8
def slices_Clone_Mark_enc (r : (List Mark)) : AV := .sl (some 60) (r.map Mark.c)
theorem slices_Clone_Mark_ok (a1 : List Mark) (r : (List Mark)) (h : slices_Clone_Mark a1 = some r) : Ev (fun k => CN k 70 [.sl none (a1.map Mark.c)] []) (fun p => rRes p.2 p.1 = slices_Clone_Mark_enc r) := by
  refine Ev.prim rfl (Ev.notLib rfl ?_)
  by_cases hn : a1 = []
  · subst hn
    have e : r = [] := by simpa [slices_Clone_Mark, app] using h.symm
    subst e
    exact Ev.nilBoth (by kernel_rfl) (by kernel_rfl)
  · have hp : 0 < a1.length := List.length_pos_iff.2 hn
    refine Ev.nilNot (by simpa using hn) ?_
    unfold slices_Clone_Mark at h
    obtain ⟨x8, hx9, h⟩ := bind_some h
    refine Ev.enter0 (F := fun _ => f70 (CN0 2) 2) (fun k => callN_eq rfl Tryd.func70 rfl rfl rfl (by decide +kernel) (f70_eq _ _)) (sq (Rg (kx (mvO rfl) (Rn (hN rfl hZ) fun e1 h3 => sN (sq (sq (Rg (kx (mvO h3) (kx (bNilF Tryd.underlying53 hp rfl rfl) (Rn (hA h3 (hV (.bool false) rfl hZ)) fun e4 h6 h7 => sN (cF h7 rfl (xx (sN (sq (Rg (kx (litI rfl rfl ⟨rfl, by decide⟩) (kx (mvO h6) (kx (aiT (c := Mark.c) (xs := ([] : List Mark)) rfl (elS rfl) hx9 Mark.fl (by decide)) (kx (mvO rfl) (Rn (hN rfl hZ) fun e10 h12 => sN (xx ?_)))))))))))))))))))))
    clear h3 h6 h7
    obtain rfl := si h
    exact eR (resT h12 res0) rfl
/-! ### loop.example/g01263/impl.last (f69) -/
noncomputable def impl_last (a1 : Chain) : Option ((List UInt8) × Int) :=
 (rd a1.Marks (IntKind.i64.wrap ((a1.Marks.length : Int) - 1))).bind fun x9 =>
 some (x9.Holder, x9.Seal)
def impl_last_enc (r : (List UInt8) × Int) : AV := .agg [.str r.1, .int .u32 r.2]
theorem impl_last_ok (a1 : Chain) (r : (List UInt8) × Int) (h : impl_last a1 = some r) : Ev (fun k => CN k 69 [.agg (.str a1.Debtor :: (.bool a1.Stock.Stock :: (.sl none (a1.Stock.Notches.map Notch.c) :: ((arC (cI .i8) 0 a1.Stock.Grain) ++ ((.sl none (a1.Marks.map Mark.c) :: []) : List AV)))))] []) (fun p => rRes p.2 p.1 = impl_last_enc r) := by
 unfold impl_last at h
 refine Ev.enter (F := fun k => f69 (CN k) k) (fun k => callN_eq rfl Tryd.func69 rfl rfl rfl (by decide +kernel) (f69_eq _ _)) (sq (Rg (kx (bxI rfl rfl ⟨rfl, rfl, by decide⟩) (ku (alO zero60) fun M2 hM3 => ?_))))
 have o4 : M2[([] : Mem).length]? = some (.live ⟨.box, 60, 2, [[.str ([] : List UInt8), .int .u32 0]]⟩) := push_new hM3
 obtain ⟨x9, hx10, h⟩ := bind_some h
 refine Rn (hN rfl (hV (.loc ([] : Mem).length 1 0 0) rfl hZ)) fun e5 h7 h8 => sN (sq (Rg (kx (faP h7 ⟨ble rfl, blt rfl⟩ rfl) (kx (ldP rfl rfl) (kx (faP h7 ⟨ble rfl, blt rfl⟩ rfl) (kx (ldP rfl rfl) (kx (lnS Tryd.underlying53 rfl) (kx (bSub rfl rfl) (kx (ixS rfl rfl hx10 Mark.fl) (kx (ldPA rfl rfl rfl) (kw (stO h8 rfl o4 rfl rfl ⟨rfl, ble rfl⟩ rfl rfl) fun M11 hM12 => ?_)))))))))))
 have o13 : M11[([] : Mem).length]? = some (.live ⟨.box, 60, 2, [[.str x9.Holder, .int .u32 x9.Seal]]⟩) := set_same hM12 o4
 refine Rn (hA h8 hZ) fun e14 h16 => sN (xx ?_)
 clear h7 h8
 obtain rfl := si h
 exact eR (resC (ag := true) (sz := 2) ⟨by kernel_rfl, by kernel_rfl, by kernel_rfl⟩ (ldOA h16 o13 rfl rfl (ble rfl) rfl) res0) rfl
/-! ### loop.example/g01263/impl.seal (f68) -/
abbrev impl_seal_b1_S := Int × Int
abbrev impl_seal_b1_R := Int
def impl_seal_b1_RS (w24 : List UInt8) (s : impl_seal_b1_S) (e : Env) (M : Mem) : Prop := eget e 9 = .int .u32 s.1 ∧ eget e 10 = .str w24 ∧ eget e 23 = .int .i64 (w24.length : Int) ∧ eget e 24 = .int .i64 s.2
def impl_seal_b1_RR (w24 : List UInt8) (g : impl_seal_b1_R) (x : Ex) (e : Env) (M : Mem) : Prop := x = .ext 0 ∧ eget e 9 = .int .u32 g
noncomputable def impl_seal_b1 (w24 : List UInt8) : impl_seal_b1_S → Option (impl_seal_b1_S ⊕ impl_seal_b1_R) := fun (s1_1, s1_2) =>
 if (decide (s1_2 < (w24.length : Int))) = true then
  (rd w24 s1_2).bind fun x71 =>
  some (.inl ((IntKind.u32.wrap ((ixor .u32 s1_1 (IntKind.u32.wrap (x71.toNat : Int))) * 16777619)), (IntKind.i64.wrap (s1_2 + 1))))
 else
  some (.inr s1_1)
theorem impl_seal_b1_ok (w24 : List UInt8) (s : impl_seal_b1_S) (r : impl_seal_b1_S ⊕ impl_seal_b1_R) (h : impl_seal_b1 w24 s = some r) (e : Env) (M : Mem) (hs : impl_seal_b1_RS w24 s e M) : Ev (fun k => (f68_l4 (CN k) k (prune [9, 10, 23, 24] e) M).bind fun q => some q) (bQ (impl_seal_b1_RS w24) (impl_seal_b1_RR w24) r) := by
 obtain ⟨s1_1, s1_2⟩ := s
 unfold impl_seal_b1 at h
 obtain ⟨h48, h50, h52, h54⟩ := hs
 generalize he47 : prune [9, 10, 23, 24] e = e46
 have h49 := envp he47.symm rfl h48
 have h51 := envp he47.symm rfl h50
 have h53 := envp he47.symm rfl h52
 have h55 := envp he47.symm rfl h54
 refine sq (Rg (kx (bLss h55 h53) (Rn (hV (.int .u32 s1_1) h49 (hV (.str w24) h51 (hV (.int .i64 (w24.length : Int)) h53 (hV (.int .i64 s1_2) h55 (hN rfl hZ))))) fun e56 h58 h59 h60 h61 h62 => sN (sq ?_))))
 clear h49 h51 h53 h55
 rcases ite_some h with ⟨hb63, h⟩ | ⟨hb63, h⟩
 ·obtain ⟨x71, hx72, h⟩ := bind_some h
  refine cT h62 hb63 (xx (sN (sq (bl (sq (Rg (kx (mvO h61) (kx (mvO rfl) (Rn (hA h58 (hA h59 (hN rfl (hA h60 (hA h61 hZ))))) fun e64 h66 h67 h68 h69 h70 => sN (Rg (kx (mvO h66) (kx (mvO h67) (kx (mvO h68) (kx (ixB rfl rfl hx72) (kx (cvI rfl) (kx (bXor rfl rfl) (kx (bMul rfl rfl) (kx (mvO rfl) (Rn (hN rfl (hA h67 (hA h69 (hA h70 hZ)))) fun e73 h75 h76 h77 h78 => bN (sN (Rg (kx (bAdd h78 rfl) (kx (mvO rfl) (Rn (hA h75 (hA h76 (hA h77 (hN rfl hZ)))) fun e79 h81 h82 h83 h84 => ?_))))))))))))))))))))))))
  clear h58 h59 h60 h61 h62 h67 h68 h69 h70 h75 h76 h77
  obtain rfl := si h
  exact qN ⟨h81, h82, h83, h84⟩
 refine cF h62 hb63 (xx (sE ?_))
 obtain rfl := si h
 exact qE ⟨rfl, h58⟩
noncomputable def impl_seal (a1 : Half) (a2 : Int) (a3 : List UInt8) (a4 : Int) : Option Int :=
 (impl_halfText a1).bind fun r15 =>
 (impl_four a2).bind fun r17 =>
 (sadd r15 r17).bind fun w18 =>
 (sadd w18 a3).bind fun w20 =>
 (impl_four a4).bind fun r23 =>
 (sadd w20 r23).bind fun w24 =>
 (Lw (impl_seal_b1 w24) (2166136261, 0)).bind fun y90 =>
 some y90
def impl_seal_enc (r : Int) : AV := .int .u32 r
theorem impl_seal_ok (a1 : Half) (a2 : Int) (a3 : List UInt8) (a4 : Int) (r : Int) (h : impl_seal a1 a2 a3 a4 = some r) : Ev (fun k => CN k 68 [.agg (.bool a1.Stock :: (.sl none (a1.Notches.map Notch.c) :: ((arC (cI .i8) 0 a1.Grain) ++ ([] : List AV)))), .int .u32 a2, .str a3, .int .u32 a4] []) (fun p => rRes p.2 p.1 = impl_seal_enc r) := by
 unfold impl_seal at h
 obtain ⟨r15, hx14, h⟩ := bind_some h
 obtain ⟨r17, hx16, h⟩ := bind_some h
 obtain ⟨w18, hx19, h⟩ := bind_some h
 obtain ⟨w20, hx21, h⟩ := bind_some h
 obtain ⟨r23, hx22, h⟩ := bind_some h
 obtain ⟨w24, hx25, h⟩ := bind_some h
 obtain ⟨y90, hr86, h⟩ := bind_some h
 refine Ev.enter (F := fun k => f68 (CN k) k) (fun k => callN_eq rfl Tryd.func68 rfl rfl rfl (by decide +kernel) (f68_eq _ _)) (sq (Rg (kx (bxI rfl rfl ⟨rfl, rfl, by decide⟩) (kx (mvO rfl) (Rn (hN rfl (hN rfl (hN rfl (hN rfl hZ)))) fun e1 h3 h4 h5 h6 => sN (sq (Rg (kx (mvO rfl) (Rn (hA h3 (hA h4 (hA h5 (hA h6 (hV (.int .u32 2166136261) rfl hZ))))) fun e7 h9 h10 h11 h12 h13 => sN (sq (Rg (kx (ldPA h12 rfl rfl) (kc (cl (v := .str r15) rfl rfl (cns rfl rfl) rfl (impl_halfText_ok a1 _ hx14) nm) (kx (mvO h9) (kc (cl (v := .str r17) rfl rfl (cns rfl rfl) rfl (impl_four_ok a2 _ hx16) nm) (kx (sAdd rfl rfl hx19) (kx (mvO h10) (kx (sAdd rfl rfl hx21) (kx (mvO h11) (kc (cl (v := .str r23) rfl rfl (cns rfl rfl) rfl (impl_four_ok a4 _ hx22) nm) (kx (sAdd rfl rfl hx25) (kx (mvO rfl) (Rn (hA h13 (hN rfl hZ)) fun e26 h28 h29 => sN (sq (sq (Rg (kx (mvO h29) (kx (lnB Tryd.underlying9 rfl) (kx (mvO rfl) (Rn (hA h28 (hA h29 (hN rfl (hV (.int .i64 0) rfl hZ)))) fun e30 h32 h33 h34 h35 => sN (bl (Ev.loop (RS := impl_seal_b1_RS w24) (RR := impl_seal_b1_RR w24) (fun s r h e M hs => impl_seal_b1_ok w24 s r h e M hs) hr86 ⟨h32, h33, h34, h35⟩ fun x e88 M89 hq87 => ?_))))))))))))))))))))))))))))))))
 clear h3 h4 h5 h6 h10 h11 h12 h13 h9 h28 h29
 obtain ⟨rfl, h91⟩ := hq87
 refine bE (sN (sq (Rg (kx (mvO h91) (kx (mvO rfl) (Rn (hN rfl hZ) fun e92 h94 => sN (xx ?_)))))))
 clear h91
 obtain rfl := si h
 exact eR (resT h94 res0) rfl
/-! ### loop.example/g01263/impl.ownHalf (f67) -/
noncomputable def impl_ownHalf (a1 : Half) : Option (Bool × (List Notch) × (Ar 16 Int)) :=
 (slices_Clone_Notch a1.Notches).bind fun r16 =>
 some (a1.Stock, r16, a1.Grain)
def impl_ownHalf_enc (r : Bool × (List Notch) × (Ar 16 Int)) : AV := .agg (.bool r.1 :: (.sl (some 141) (r.2.1.map Notch.c) :: ((arC (cI .i8) 0 r.2.2) ++ ([] : List AV))))
theorem impl_ownHalf_ok (a1 : Half) (r : Bool × (List Notch) × (Ar 16 Int)) (h : impl_ownHalf a1 = some r) : Ev (fun k => CN k 67 [.agg (.bool a1.Stock :: (.sl none (a1.Notches.map Notch.c) :: ((arC (cI .i8) 0 a1.Grain) ++ ([] : List AV))))] []) (fun p => rRes p.2 p.1 = impl_ownHalf_enc r) := by
 unfold impl_ownHalf at h
 refine Ev.enter (F := fun k => f67 (CN k) k) (fun k => callN_eq rfl Tryd.func67 rfl rfl rfl (by decide +kernel) (f67_eq _ _)) (sq (Rg (ku (bxO rfl rfl ⟨rfl, rfl, by decide⟩) fun M2 hM3 => ?_)))
 have o4 : M2[([] : Mem).length]? = some (.live ⟨.box, 52, 18, [(.bool a1.Stock :: (.sl none (a1.Notches.map Notch.c) :: ((arC (cI .i8) 0 a1.Grain) ++ ([] : List AV))))]⟩) := push_new hM3
 refine ku (alO zero52) fun M6 hM7 => ?_
 have o8 := push_old hM7 o4
 have ne9 := ne_new o4
 have o10 : M6[M2.length]? = some (.live ⟨.box, 52, 18, [(.bool false :: (.nils :: ((arC (cI .i8) 0 (Ar.rep 16 0)) ++ ([] : List AV))))]⟩) := push_new hM7
 obtain ⟨r16, hx15, h⟩ := bind_some h
 refine Rn (hV (.loc ([] : Mem).length 1 0 0) rfl (hV (.loc M2.length 1 0 0) rfl hZ)) fun e11 h13 h14 => sN (sq (Rg (kx (faO h13 o8 rfl) (kx (ldO rfl o8 rfl rfl rfl) (kc (cl (v := .sl (some 141) (r16.map Notch.c)) rfl rfl (cns rfl rfl) rfl (slices_Clone_Notch_ok a1.Notches _ hx15) nm) (kx (faO h13 o8 rfl) (kw (stOK rfl rfl o8 rfl rfl ⟨rfl, ble rfl⟩ rfl rfl) fun M17 hM18 => ?_)))))))
 have o19 : M17[([] : Mem).length]? = some (.live ⟨.box, 52, 18, [(.bool a1.Stock :: (.sl (some 141) (r16.map Notch.c) :: ((arC (cI .i8) 0 a1.Grain) ++ ([] : List AV))))]⟩) := set_same hM18 o8
 have o20 := set_ne hM18 (Ne.symm ne9) o10
 refine Rn (hA h13 (hA h14 hZ)) fun e21 h23 h24 => sN (sq (Rg (kx (ldOA (cs' := (.bool a1.Stock :: (.sl (some 141) (r16.map Notch.c) :: ((arC (cI .i8) 0 a1.Grain) ++ ([] : List AV))))) h23 o19 rfl rfl (ble rfl) rfl) (kw (stOK h24 rfl o20 rfl rfl ⟨rfl, ble rfl⟩ rfl rfl) fun M25 hM26 => ?_))))
 clear h13 h14
 have o27 := set_ne hM26 ne9 o19
 have o28 : M25[M2.length]? = some (.live ⟨.box, 52, 18, [(.bool a1.Stock :: (.sl (some 141) (r16.map Notch.c) :: ((arC (cI .i8) 0 a1.Grain) ++ ([] : List AV))))]⟩) := set_same hM26 o20
 refine Rn (hA h24 hZ) fun e29 h31 => sN (xx ?_)
 clear h23 h24
 obtain rfl := si h
 exact eR (resC (ag := true) (sz := 18) ⟨by kernel_rfl, by kernel_rfl, by kernel_rfl⟩ (ldOA (cs' := (.bool a1.Stock :: (.sl (some 141) (r16.map Notch.c) :: ((arC (cI .i8) 0 a1.Grain) ++ ([] : List AV))))) h31 o28 rfl rfl (ble rfl) rfl) res0) rfl
/-! ### loop.example/g01263/impl.ValidHalf (f65) -/
def impl_ValidHalf_c1_Q (a1 : Half) (g : Bool) (q : Out) : Prop := q.1 = .nrm ∧ eget q.2.1 1 = .pt none (.bool a1.Stock :: (.sl none (a1.Notches.map Notch.c) :: ((arC (cI .i8) 0 a1.Grain) ++ ([] : List AV)))) ∧ eget q.2.1 14 = .bool g
def impl_ValidHalf_c3_Q (a1 : Half) (s1_1 : Int) (x58 : Notch) (i903_1 : Nat) (g : Bool) (q : Out) : Prop := q.1 = .nrm ∧ eget q.2.1 1 = .pt none (.bool a1.Stock :: (.sl none (a1.Notches.map Notch.c) :: ((arC (cI .i8) 0 a1.Grain) ++ ([] : List AV)))) ∧ eget q.2.1 3 = .int .i64 s1_1 ∧ eget q.2.1 4 = .loc i903_1 1 0 0 ∧ eget q.2.1 16 = .sl none (a1.Notches.map Notch.c) ∧ eget q.2.1 17 = .int .i64 (a1.Notches.length : Int) ∧ eget q.2.1 18 = .int .i64 s1_1 ∧ eget q.2.1 37 = .bool g ∧ q.2.2[i903_1]? = some (.live ⟨.box, 141, 2, [[.int .i8 x58.Kind, .int .i16 x58.At]]⟩)
abbrev impl_ValidHalf_b1_S := Int
abbrev impl_ValidHalf_b1_R := Unit ⊕ Unit
def impl_ValidHalf_b1_RS (a1 : Half) (s : impl_ValidHalf_b1_S) (e : Env) (M : Mem) : Prop := eget e 1 = .pt none (.bool a1.Stock :: (.sl none (a1.Notches.map Notch.c) :: ((arC (cI .i8) 0 a1.Grain) ++ ([] : List AV)))) ∧ eget e 16 = .sl none (a1.Notches.map Notch.c) ∧ eget e 17 = .int .i64 (a1.Notches.length : Int) ∧ eget e 18 = .int .i64 s
def impl_ValidHalf_b1_RR (a1 : Half) (r : impl_ValidHalf_b1_R) (x : Ex) (e : Env) (M : Mem) : Prop :=
  match r with
  | (.inl g) => x = .ret ∧ eget e 2 = .bool false
  | (.inr g) => x = .ext 0 ∧ True
noncomputable def impl_ValidHalf_b1 (a1 : Half) : impl_ValidHalf_b1_S → Option (impl_ValidHalf_b1_S ⊕ impl_ValidHalf_b1_R) := fun s1_1 =>
 if (decide (s1_1 < (a1.Notches.length : Int))) = true then
  (rd a1.Notches s1_1).bind fun x58 =>
  ((impl_isKind (IntKind.i64.wrap x58.Kind)).bind fun r76 =>
  if r76 = true then
   if (decide (x58.At < 0)) = true then
    some true
   else
    (impl_Notch_end x58).bind fun r89 =>
    some (decide (r89 > 200))
  else
   some true).bind fun y110 =>
  if y110 = true then
   some (.inr (.inl ()))
  else
   if (decide (s1_1 > 0)) = true then
    (rd a1.Notches (IntKind.i64.wrap (s1_1 - 1))).bind fun x124 =>
    (impl_Notch_end x124).bind fun r127 =>
    if (decide ((IntKind.i64.wrap x58.At) ≤ r127)) = true then
     some (.inr (.inl ()))
    else
     (rd a1.Notches (IntKind.i64.wrap (s1_1 - 1))).bind fun x139 =>
     if (decide (x58.Kind > x139.Kind)) = true then
      some (.inr (.inl ()))
     else
      some (.inl (IntKind.i64.wrap (s1_1 + 1)))
   else
    some (.inl (IntKind.i64.wrap (s1_1 + 1)))
 else
  some (.inr (.inr ()))
theorem impl_ValidHalf_b1_ok (a1 : Half) (s : impl_ValidHalf_b1_S) (r : impl_ValidHalf_b1_S ⊕ impl_ValidHalf_b1_R) (h : impl_ValidHalf_b1 a1 s = some r) (e : Env) (M : Mem) (hs : impl_ValidHalf_b1_RS a1 s e M) : Ev (fun k => (f65_l4 (CN k) k (prune [1, 16, 17, 18] e) M).bind fun q => some q) (bQ (impl_ValidHalf_b1_RS a1) (impl_ValidHalf_b1_RR a1) r) := by
 revert h hs
 revert s
 intro s1_1 h hs
 unfold impl_ValidHalf_b1 at h
 obtain ⟨h42, h44, h46, h48⟩ := hs
 generalize he41 : prune [1, 16, 17, 18] e = e40
 have h43 := envp he41.symm rfl h42
 have h45 := envp he41.symm rfl h44
 have h47 := envp he41.symm rfl h46
 have h49 := envp he41.symm rfl h48
 refine sq (Rg (kx (bLss h49 h47) (Rn (hV (.pt none (.bool a1.Stock :: (.sl none (a1.Notches.map Notch.c) :: ((arC (cI .i8) 0 a1.Grain) ++ ([] : List AV))))) h43 (hV (.sl none (a1.Notches.map Notch.c)) h45 (hV (.int .i64 (a1.Notches.length : Int)) h47 (hV (.int .i64 s1_1) h49 (hN rfl hZ))))) fun e50 h52 h53 h54 h55 h56 => sN (sq ?_))))
 clear h43 h45 h47 h49
 rcases ite_some h with ⟨hb57, h⟩ | ⟨hb57, h⟩
 ·obtain ⟨x58, hx59, h⟩ := bind_some h
  refine cT h56 hb57 (xx (sN (sq (bl (sq (Rg (kx (mvO h55) (kx (ixS h53 h55 hx59 Notch.fl) (kx (ldPA rfl rfl rfl) (ku (alO zero141) fun M61 hM62 => ?_))))))))))
  have o63 : M61[M.length]? = some (.live ⟨.box, 141, 2, [[.int .i8 0, .int .i16 0]]⟩) := push_new hM62
  refine kx (mvO rfl) (kw (stO rfl rfl o63 rfl rfl ⟨rfl, ble rfl⟩ rfl rfl) fun M64 hM65 => ?_)
  have o66 : M64[M.length]? = some (.live ⟨.box, 141, 2, [[.int .i8 x58.Kind, .int .i16 x58.At]]⟩) := set_same hM65 o63
  obtain ⟨r172, hr173, h⟩ := bind_some h
  refine Rn (hA h52 (hN rfl (hV (.loc M.length 1 0 0) rfl (hA h53 (hA h54 (hA h55 hZ)))))) fun e67 h69 h70 h71 h72 h73 h74 => sN (sq (sq ?_))
  clear h52 h53 h54 h55 h56
  refine Ev.cut (Q1 := impl_ValidHalf_c3_Q a1 s1_1 x58 M.length r172) (by
      have h := hr173
      obtain ⟨r76, hx75, h⟩ := bind_some h
      refine Rg (kx (faO h71 o66 rfl) (kx (ldO rfl o66 rfl rfl rfl) (kx (cvI rfl) (kc (cl (v := .bool r76) rfl rfl (cns rfl rfl) rfl (impl_isKind_ok (IntKind.i64.wrap x58.Kind) _ hx75) nm) (kx (uNot rfl) (kx (mvO rfl) ?_))))))
      rcases ite_some h with ⟨hb77, h⟩ | ⟨hb77, h⟩
      ·refine kx (guF rfl (congrArg Bool.not hb77) (faO h71 o66 rfl)) (kx (guF rfl (congrArg Bool.not hb77) (ldO rfl o66 rfl rfl rfl)) (kx (guF rfl (congrArg Bool.not hb77) (bLss rfl rfl)) (kx (pkF rfl (congrArg Bool.not hb77) rfl) (kx (mvO rfl) ?_))))
       rcases ite_some h with ⟨hb78, h⟩ | ⟨hb78, h⟩
       ·refine kx (gsF rfl hb78) (kc (Ev.gsF rfl hb78) (kx (gsF rfl hb78) (kx (pkT rfl hb78 rfl) (Rn (hA h69 (hA h70 (hA h71 (hA h72 (hA h73 (hA h74 (hV (.bool true) rfl hZ))))))) fun e79 h81 h82 h83 h84 h85 h86 h87 => ?_))))
        clear h69 h70 h71 h72 h73 h74
        obtain rfl := si h
        exact kd (show impl_ValidHalf_c3_Q a1 s1_1 x58 M.length _ _ from ⟨rfl, h81, h82, h83, h84, h85, h86, h87, o66⟩)
       obtain ⟨r89, hx88, h⟩ := bind_some h
       refine kx (guF rfl hb78 (ldOA h71 o66 rfl rfl (ble rfl) rfl)) (kc (Ev.guF rfl hb78 (cl (v := .int .i64 r89) rfl rfl (cns rfl rfl) rfl (impl_Notch_end_ok x58 _ hx88) nm)) (kx (guF rfl hb78 (bGtr rfl rfl)) (kx (pkF rfl hb78 rfl) (Rn (hA h69 (hA h70 (hA h71 (hA h72 (hA h73 (hA h74 (hN rfl hZ))))))) fun e90 h92 h93 h94 h95 h96 h97 h98 => ?_))))
       clear h69 h70 h71 h72 h73 h74
       obtain rfl := si h
       exact kd (show impl_ValidHalf_c3_Q a1 s1_1 x58 M.length _ _ from ⟨rfl, h92, h93, h94, h95, h96, h97, h98, o66⟩)
      refine kx (gsF rfl (congrArg Bool.not hb77)) (kx (gsF rfl (congrArg Bool.not hb77)) (kx (gsF rfl (congrArg Bool.not hb77)) (kx (pkT rfl (congrArg Bool.not hb77) rfl) (kx (mvO rfl) (kx (gsF rfl rfl) (kc (Ev.gsF rfl rfl) (kx (gsF rfl rfl) (kx (pkT rfl rfl rfl) (Rn (hA h69 (hA h70 (hA h71 (hA h72 (hA h73 (hA h74 (hV (.bool true) rfl hZ))))))) fun e99 h101 h102 h103 h104 h105 h106 h107 => ?_)))))))))
      clear h69 h70 h71 h72 h73 h74
      obtain rfl := si h
      exact kd (show impl_ValidHalf_c3_Q a1 s1_1 x58 M.length _ _ from ⟨rfl, h101, h102, h103, h104, h105, h106, h107, o66⟩)) ?_
  revert h hr173
  revert r172
  intro y110 hr173 h
  intro x e108 M109 hq171
  obtain ⟨rfl, h111, h112, h113, h114, h115, h116, h117, o118⟩ := hq171
  refine sN ?_
  rcases ite_some h with ⟨hb119, h⟩ | ⟨hb119, h⟩
  ·refine cT h117 hb119 (sq (Rg (kx (mvO rfl) (Rn (hV (.bool false) rfl hZ) fun e120 h122 => sN (xx (sR (bR (sR ?_))))))))
   clear h111 h112 h113 h114 h115 h116 h117
   obtain rfl := si h
   exact qR ⟨rfl, h122⟩
  refine cF h117 hb119 (xx (sN (sq (Rd (kf (mvO h112) (kf (bGtr rfl rfl) (kf (mvO rfl) ?_)))))))
  rcases ite_some h with ⟨hb123, h⟩ | ⟨hb123, h⟩
  ·obtain ⟨x124, hx125, h⟩ := bind_some h
   obtain ⟨r127, hx126, h⟩ := bind_some h
   refine kf (guT rfl hb123 (faO h113 o118 rfl)) (kf (guT rfl hb123 (ldO rfl o118 rfl rfl rfl)) (kf (guT rfl hb123 (cvI rfl)) (kf (guT rfl hb123 (faP h111 ⟨ble rfl, blt rfl⟩ rfl)) (kf (guT rfl hb123 (ldP rfl rfl)) (kf (guT rfl hb123 (mvO h112)) (kf (guT rfl hb123 (bSub rfl rfl)) (kf (guT rfl hb123 (ixS rfl rfl hx125 Notch.fl)) (kf (guT rfl hb123 (ldPA rfl rfl rfl)) (fc (Ev.guT rfl hb123 (cl (v := .int .i64 r127) rfl rfl (cns rfl rfl) rfl (impl_Notch_end_ok x124 _ hx126) nm)) (kf (guT rfl hb123 (bLeq rfl rfl)) (kf (guT rfl hb123 (mvO rfl)) ?_)))))))))))
   rcases ite_some h with ⟨hb128, h⟩ | ⟨hb128, h⟩
   ·refine kf (gsF rfl hb128) (kf (gsF rfl hb128) (kf (gsF rfl hb128) (kf (gsF rfl hb128) (kf (gsF rfl hb128) (kf (gsF rfl hb128) (kf (gsF rfl hb128) (kf (gsF rfl hb128) (kf (gsF rfl hb128) (kf (gsF rfl hb128) (kf (guT rfl hb123 (pkT rfl hb128 rfl)) (kf (pkT rfl hb123 rfl) (fZ (Rn (hV (.pt none (.bool a1.Stock :: (.sl none (a1.Notches.map Notch.c) :: ((arC (cI .i8) 0 a1.Grain) ++ ([] : List AV))))) h111 (hV (.sl none (a1.Notches.map Notch.c)) h114 (hV (.int .i64 (a1.Notches.length : Int)) h115 (hV (.int .i64 s1_1) h116 (hV (.bool true) rfl hZ))))) fun e129 h131 h132 h133 h134 h135 => sN (cT h135 rfl (sq (Rg (kx (mvO rfl) (Rn (hV (.bool false) rfl hZ) fun e136 h138 => sN (xx (bR (sR ?_)))))))))))))))))))))
    clear h111 h112 h113 h114 h115 h116 h117 h131 h132 h133 h134 h135
    obtain rfl := si h
    exact qR ⟨rfl, h138⟩
   obtain ⟨x139, hx140, h⟩ := bind_some h
   refine kf (guF rfl hb128 (faO h113 o118 rfl)) (kf (guF rfl hb128 (ldO rfl o118 rfl rfl rfl)) (kf (guF rfl hb128 (faP h111 ⟨ble rfl, blt rfl⟩ rfl)) (kf (guF rfl hb128 (ldP rfl rfl)) (kf (guF rfl hb128 (mvO h112)) (kf (guF rfl hb128 (bSub rfl rfl)) (kf (guF rfl hb128 (ixS rfl rfl hx140 Notch.fl)) (kf (guF rfl hb128 (faP rfl ⟨ble rfl, blt rfl⟩ rfl)) (kf (guF rfl hb128 (ldP rfl rfl)) (kf (guF rfl hb128 (bGtr rfl rfl)) (kf (guT rfl hb123 (pkF rfl hb128 rfl)) (kf (pkT rfl hb123 rfl) (fZ (Rn (hV (.pt none (.bool a1.Stock :: (.sl none (a1.Notches.map Notch.c) :: ((arC (cI .i8) 0 a1.Grain) ++ ([] : List AV))))) h111 (hV (.sl none (a1.Notches.map Notch.c)) h114 (hV (.int .i64 (a1.Notches.length : Int)) h115 (hV (.int .i64 s1_1) h116 (hN rfl hZ))))) fun e141 h143 h144 h145 h146 h147 => sN ?_)))))))))))))
   clear h111 h112 h113 h114 h115 h116 h117
   rcases ite_some h with ⟨hb148, h⟩ | ⟨hb148, h⟩
   ·refine cT h147 hb148 (sq (Rg (kx (mvO rfl) (Rn (hV (.bool false) rfl hZ) fun e149 h151 => sN (xx (bR (sR ?_)))))))
    clear h143 h144 h145 h146 h147
    obtain rfl := si h
    exact qR ⟨rfl, h151⟩
   refine cF h147 hb148 (xx (bN (sN (Rg (kx (bAdd h146 rfl) (kx (mvO rfl) (Rn (hA h143 (hA h144 (hA h145 (hN rfl hZ)))) fun e152 h154 h155 h156 h157 => ?_)))))))
   clear h143 h144 h145 h147
   obtain rfl := si h
   exact qN ⟨h154, h155, h156, h157⟩
  refine kf (gsT rfl hb123) (kf (gsT rfl hb123) (kf (gsT rfl hb123) (kf (gsT rfl hb123) (kf (gsT rfl hb123) (kf (gsT rfl hb123) (kf (gsT rfl hb123) (kf (gsT rfl hb123) (kf (gsT rfl hb123) (fc (Ev.gsT rfl hb123) (kf (gsT rfl hb123) (kf (gsT rfl hb123) (kf (gsU rfl) (kf (gsU rfl) (kf (gsU rfl) (kf (gsU rfl) (kf (gsU rfl) (kf (gsU rfl) (kf (gsU rfl) (kf (gsU rfl) (kf (gsU rfl) (kf (gsU rfl) (kf (gsT rfl hb123) (kf (pkF rfl hb123 rfl) (fZ (Rn (hV (.pt none (.bool a1.Stock :: (.sl none (a1.Notches.map Notch.c) :: ((arC (cI .i8) 0 a1.Grain) ++ ([] : List AV))))) h111 (hV (.sl none (a1.Notches.map Notch.c)) h114 (hV (.int .i64 (a1.Notches.length : Int)) h115 (hV (.int .i64 s1_1) h116 (hV (.bool false) rfl hZ))))) fun e158 h160 h161 h162 h163 h164 => sN (cF h164 rfl (xx (bN (sN (Rg (kx (bAdd h163 rfl) (kx (mvO rfl) (Rn (hA h160 (hA h161 (hA h162 (hN rfl hZ)))) fun e165 h167 h168 h169 h170 => ?_)))))))))))))))))))))))))))))))))
  clear h111 h112 h113 h114 h115 h116 h117 h160 h161 h162 h164
  obtain rfl := si h
  exact qN ⟨h167, h168, h169, h170⟩
 refine cF h56 hb57 (xx (sE ?_))
 obtain rfl := si h
 exact qE ⟨rfl, trivial⟩
noncomputable def impl_ValidHalf (a1 : Half) : Option Bool :=
 (if (decide ((a1.Notches.length : Int) > 60)) = true then
  some true
 else
  (impl_ValidGrain a1.Grain).bind fun r10 =>
  some (!r10)).bind fun y17 =>
 if y17 = true then
  some false
 else
  (Lw (impl_ValidHalf_b1 a1) 0).bind fun r => match r with
  | (.inl _) =>
   some false
  | (.inr _) =>
   some true
def impl_ValidHalf_enc (r : Bool) : AV := .bool r
theorem impl_ValidHalf_ok (a1 : Half) (r : Bool) (h : impl_ValidHalf a1 = some r) : Ev (fun k => CN k 65 [.agg (.bool a1.Stock :: (.sl none (a1.Notches.map Notch.c) :: ((arC (cI .i8) 0 a1.Grain) ++ ([] : List AV))))] []) (fun p => rRes p.2 p.1 = impl_ValidHalf_enc r) := by
 unfold impl_ValidHalf at h
 obtain ⟨r186, hr187, h⟩ := bind_some h
 refine Ev.enter (F := fun k => f65 (CN k) k) (fun k => callN_eq rfl Tryd.func65 rfl rfl rfl (by decide +kernel) (f65_eq _ _)) (sq (Rg (kx (bxI rfl rfl ⟨rfl, rfl, by decide⟩) (kx (mvO rfl) (Rn (hN rfl hZ) fun e1 h3 => sN (sq (sq ?_)))))))
 refine Ev.cut (Q1 := impl_ValidHalf_c1_Q a1 r186) (by
     have h := hr187
     refine Rg (kx (faP h3 ⟨ble rfl, blt rfl⟩ rfl) (kx (ldP rfl rfl) (kx (lnS Tryd.underlying48 rfl) (kx (bGtr rfl rfl) (kx (mvO rfl) ?_)))))
     rcases ite_some h with ⟨hb4, h⟩ | ⟨hb4, h⟩
     ·refine kx (gsF rfl hb4) (kx (gsF rfl hb4) (kc (Ev.gsF rfl hb4) (kx (gsF rfl hb4) (kx (pkT rfl hb4 rfl) (Rn (hA h3 (hV (.bool true) rfl hZ)) fun e5 h7 h8 => ?_)))))
      clear h3
      obtain rfl := si h
      exact kd (show impl_ValidHalf_c1_Q a1 _ _ from ⟨rfl, h7, h8⟩)
     obtain ⟨r10, hx9, h⟩ := bind_some h
     refine kx (guF rfl hb4 (faP h3 ⟨ble rfl, blt rfl⟩ rfl)) (kx (guF rfl hb4 (ldPA rfl rfl rfl)) (kc (Ev.guF rfl hb4 (cl (v := .bool r10) rfl rfl (cns rfl rfl) rfl (impl_ValidGrain_ok a1.Grain _ hx9) nm)) (kx (guF rfl hb4 (uNot rfl)) (kx (pkF rfl hb4 rfl) (Rn (hA h3 (hN rfl hZ)) fun e11 h13 h14 => ?_)))))
     clear h3
     obtain rfl := si h
     exact kd (show impl_ValidHalf_c1_Q a1 _ _ from ⟨rfl, h13, h14⟩)) ?_
 revert h hr187
 revert r186
 intro y17 hr187 h
 intro x e15 M16 hq185
 obtain ⟨rfl, h18, h19⟩ := hq185
 refine sN ?_
 rcases ite_some h with ⟨hb20, h⟩ | ⟨hb20, h⟩
 ·refine cT h19 hb20 (sq (Rg (kx (mvO rfl) (Rn (hV (.bool false) rfl hZ) fun e21 h23 => sN (xx (sR ?_))))))
  clear h18 h19
  obtain rfl := si h
  exact eR (resT h23 res0) rfl
 obtain ⟨r174, hr175, h⟩ := bind_some h
 refine cF h19 hb20 (xx (sN (sq (sq (Rg (kx (faP h18 ⟨ble rfl, blt rfl⟩ rfl) (kx (ldP rfl rfl) (kx (lnS Tryd.underlying48 rfl) (kx (mvO rfl) (Rn (hV (.pt none (.bool a1.Stock :: (.sl none (a1.Notches.map Notch.c) :: ((arC (cI .i8) 0 a1.Grain) ++ ([] : List AV))))) h18 (hN rfl (hN rfl (hV (.int .i64 0) rfl hZ)))) fun e24 h26 h27 h28 h29 => sN (bl ?_)))))))))))
 clear h18 h19
 rcases r174 with _ | _
 ·refine Ev.loop (RS := impl_ValidHalf_b1_RS a1) (RR := impl_ValidHalf_b1_RR a1) (fun s r h e M hs => impl_ValidHalf_b1_ok a1 s r h e M hs) hr175 ⟨h26, h27, h28, h29⟩ fun x e177 M178 hq176 => ?_
  obtain ⟨rfl, h179⟩ := hq176
  refine bR (sR ?_)
  obtain rfl := si h
  exact eR (resT h179 res0) rfl
 refine Ev.loop (RS := impl_ValidHalf_b1_RS a1) (RR := impl_ValidHalf_b1_RR a1) (fun s r h e M hs => impl_ValidHalf_b1_ok a1 s r h e M hs) hr175 ⟨h26, h27, h28, h29⟩ fun x e180 M181 hq176 => ?_
 obtain ⟨rfl, _⟩ := hq176
 refine bE (sN (sq (Rg (kx (mvO rfl) (Rn (hV (.bool true) rfl hZ) fun e182 h184 => sN (xx ?_))))))
 obtain rfl := si h
 exact eR (resT h184 res0) rfl
/-! ### loop.example/g01263/spec.l06Find (f64) -/
abbrev spec_l06Find_b1_S := Int
abbrev spec_l06Find_b1_R := Int ⊕ Unit
def spec_l06Find_b1_RS (a1 : List Party) (a2 : List UInt8) (s : spec_l06Find_b1_S) (e : Env) (M : Mem) : Prop := eget e 0 = .sl none (a1.map Party.c) ∧ eget e 1 = .str a2 ∧ eget e 5 = .int .i64 s
def spec_l06Find_b1_RR (a1 : List Party) (a2 : List UInt8) (r : spec_l06Find_b1_R) (x : Ex) (e : Env) (M : Mem) : Prop :=
  match r with
  | (.inl g) => x = .ret ∧ eget e 4 = .int .i64 g
  | (.inr g) => x = .ext 0 ∧ True
noncomputable def spec_l06Find_b1 (a1 : List Party) (a2 : List UInt8) : spec_l06Find_b1_S → Option (spec_l06Find_b1_S ⊕ spec_l06Find_b1_R) := fun s1_1 =>
 if (decide (s1_1 < (a1.length : Int))) = true then
  (rd a1 s1_1).bind fun x33 =>
  if (x33.Name == a2) = true then
   some (.inr (.inl s1_1))
  else
   some (.inl (IntKind.i64.wrap (s1_1 + 1)))
 else
  some (.inr (.inr ()))
theorem spec_l06Find_b1_ok (a1 : List Party) (a2 : List UInt8) (s : spec_l06Find_b1_S) (r : spec_l06Find_b1_S ⊕ spec_l06Find_b1_R) (h : spec_l06Find_b1 a1 a2 s = some r) (e : Env) (M : Mem) (hs : spec_l06Find_b1_RS a1 a2 s e M) : Ev (fun k => (f64_l2 (CN k) k (prune [0, 1, 5] e) M).bind fun q => some q) (bQ (spec_l06Find_b1_RS a1 a2) (spec_l06Find_b1_RR a1 a2) r) := by
 revert h hs
 revert s
 intro s1_1 h hs
 unfold spec_l06Find_b1 at h
 obtain ⟨h20, h22, h24⟩ := hs
 generalize he19 : prune [0, 1, 5] e = e18
 have h21 := envp he19.symm rfl h20
 have h23 := envp he19.symm rfl h22
 have h25 := envp he19.symm rfl h24
 refine sq (sq (Rg (kx (mvO h25) (kx (mvO h21) (kx (lnS Tryd.underlying46 rfl) (kx (bLss rfl rfl) (Rn (hV (.sl none (a1.map Party.c)) h21 (hV (.str a2) h23 (hV (.int .i64 s1_1) h25 (hN rfl hZ)))) fun e26 h28 h29 h30 h31 => sN ?_)))))))
 clear h21 h23 h25
 rcases ite_some h with ⟨hb32, h⟩ | ⟨hb32, h⟩
 ·obtain ⟨x33, hx34, h⟩ := bind_some h
  refine cT h31 hb32 (xx (sN (sq (bl (sq (Rg (kx (mvO h28) (kx (mvO h30) (kx (ixS rfl rfl hx34 Party.fl) (kx (faP rfl ⟨ble rfl, blt rfl⟩ rfl) (kx (ldP rfl rfl) (kx (mvO h29) (kx (sEql rfl rfl) (Rn (hA h28 (hA h29 (hA h30 (hN rfl hZ)))) fun e35 h37 h38 h39 h40 => sN ?_))))))))))))))
  clear h28 h29 h30 h31
  rcases ite_some h with ⟨hb41, h⟩ | ⟨hb41, h⟩
  ·refine cT h40 hb41 (sq (Rg (kx (mvO h39) (kx (mvO rfl) (Rn (hN rfl hZ) fun e42 h44 => sN (xx (bR (sR ?_))))))))
   clear h37 h38 h39 h40
   obtain rfl := si h
   exact qR ⟨rfl, h44⟩
  refine cF h40 hb41 (xx (bN (sN (Rg (kx (mvO h39) (kx (bAdd rfl rfl) (kx (mvO rfl) (Rn (hA h37 (hA h38 (hN rfl hZ))) fun e45 h47 h48 h49 => ?_))))))))
  clear h37 h38 h40
  obtain rfl := si h
  exact qN ⟨h47, h48, h49⟩
 refine cF h31 hb32 (xx (sE ?_))
 obtain rfl := si h
 exact qE ⟨rfl, trivial⟩
noncomputable def spec_l06Find (a1 : List Party) (a2 : List UInt8) : Option Int :=
 (Lw (spec_l06Find_b1 a1 a2) 0).bind fun r => match r with
 | (.inl y55) =>
  some y55
 | (.inr _) =>
  some (-1)
def spec_l06Find_enc (r : Int) : AV := .int .i64 r
theorem spec_l06Find_ok (a1 : List Party) (a2 : List UInt8) (r : Int) (h : spec_l06Find a1 a2 = some r) : Ev (fun k => CN k 64 [.sl none (a1.map Party.c), .str a2] []) (fun p => rRes p.2 p.1 = spec_l06Find_enc r) := by
 unfold spec_l06Find at h
 obtain ⟨r50, hr51, h⟩ := bind_some h
 refine Ev.enter (F := fun k => f64 (CN k) k) (fun k => callN_eq rfl Tryd.func64 rfl rfl rfl (by decide +kernel) (f64_eq _ _)) (sq (Rg (kx (mvO rfl) (Rn (hN rfl (hN rfl hZ)) fun e1 h3 h4 => sN (sq (sq (Rg (kx (mvO rfl) (Rn (hA h3 (hA h4 (hV (.int .i64 0) rfl hZ))) fun e5 h7 h8 h9 => sN (bl ?_))))))))))
 clear h3 h4
 rcases r50 with y55 | _
 ·refine Ev.loop (RS := spec_l06Find_b1_RS a1 a2) (RR := spec_l06Find_b1_RR a1 a2) (fun s r h e M hs => spec_l06Find_b1_ok a1 a2 s r h e M hs) hr51 ⟨h7, h8, h9⟩ fun x e53 M54 hq52 => ?_
  obtain ⟨rfl, h56⟩ := hq52
  refine bR (sR ?_)
  obtain rfl := si h
  exact eR (resT h56 res0) rfl
 refine Ev.loop (RS := spec_l06Find_b1_RS a1 a2) (RR := spec_l06Find_b1_RR a1 a2) (fun s r h e M hs => spec_l06Find_b1_ok a1 a2 s r h e M hs) hr51 ⟨h7, h8, h9⟩ fun x e57 M58 hq52 => ?_
 obtain ⟨rfl, _⟩ := hq52
 refine bE (sN (sq (Rg (kx (mvO rfl) (Rn (hV (.int .i64 (-1)) rfl hZ) fun e59 h61 => sN (xx ?_))))))
 obtain rfl := si h
 exact eR (resT h61 res0) rfl
/-! ### loop.example/g01263/spec.l06Parties (f63) -/
abbrev spec_l06Parties_b1_S := Int
abbrev spec_l06Parties_b1_R := Unit ⊕ Unit
def spec_l06Parties_b1_RS (a1 : List Party) (s : spec_l06Parties_b1_S) (e : Env) (M : Mem) : Prop := eget e 0 = .sl none (a1.map Party.c) ∧ eget e 3 = .int .i64 s
def spec_l06Parties_b1_RR (a1 : List Party) (r : spec_l06Parties_b1_R) (x : Ex) (e : Env) (M : Mem) : Prop :=
  match r with
  | (.inl g) => x = .ret ∧ eget e 2 = .bool false
  | (.inr g) => x = .ext 0 ∧ True
noncomputable def spec_l06Parties_b1 (a1 : List Party) : spec_l06Parties_b1_S → Option (spec_l06Parties_b1_S ⊕ spec_l06Parties_b1_R) := fun s1_1 =>
 if (decide (s1_1 < (a1.length : Int))) = true then
  (rd a1 s1_1).bind fun x34 =>
  (spec_l06Name x34.Name).bind fun r37 =>
  if r37 = true then
   (rd a1 s1_1).bind fun x39 =>
   (spec_l06Find a1 x39.Name).bind fun r42 =>
   if (r42 != s1_1) = true then
    some (.inr (.inl ()))
   else
    some (.inl (IntKind.i64.wrap (s1_1 + 1)))
  else
   some (.inr (.inl ()))
 else
  some (.inr (.inr ()))
theorem spec_l06Parties_b1_ok (a1 : List Party) (s : spec_l06Parties_b1_S) (r : spec_l06Parties_b1_S ⊕ spec_l06Parties_b1_R) (h : spec_l06Parties_b1 a1 s = some r) (e : Env) (M : Mem) (hs : spec_l06Parties_b1_RS a1 s e M) : Ev (fun k => (f63_l4 (CN k) k (prune [0, 3] e) M).bind fun q => some q) (bQ (spec_l06Parties_b1_RS a1) (spec_l06Parties_b1_RR a1) r) := by
 revert h hs
 revert s
 intro s1_1 h hs
 unfold spec_l06Parties_b1 at h
 obtain ⟨h24, h26⟩ := hs
 generalize he23 : prune [0, 3] e = e22
 have h25 := envp he23.symm rfl h24
 have h27 := envp he23.symm rfl h26
 refine sq (sq (Rg (kx (mvO h27) (kx (mvO h25) (kx (lnS Tryd.underlying46 rfl) (kx (bLss rfl rfl) (Rn (hV (.sl none (a1.map Party.c)) h25 (hV (.int .i64 s1_1) h27 (hN rfl hZ))) fun e28 h30 h31 h32 => sN ?_)))))))
 clear h25 h27
 rcases ite_some h with ⟨hb33, h⟩ | ⟨hb33, h⟩
 ·obtain ⟨x34, hx35, h⟩ := bind_some h
  obtain ⟨r37, hx36, h⟩ := bind_some h
  refine cT h32 hb33 (xx (sN (sq (bl (sq (Rg (kx (mvO h30) (kx (mvO h31) (kx (ixS rfl rfl hx35 Party.fl) (kx (faP rfl ⟨ble rfl, blt rfl⟩ rfl) (kx (ldP rfl rfl) (kc (cl (v := .bool r37) rfl rfl (cns rfl rfl) rfl (spec_l06Name_ok x34.Name _ hx36) nm) (kx (uNot rfl) (kx (mvO rfl) ?_))))))))))))))
  rcases ite_some h with ⟨hb38, h⟩ | ⟨hb38, h⟩
  ·obtain ⟨x39, hx40, h⟩ := bind_some h
   obtain ⟨r42, hx41, h⟩ := bind_some h
   refine kx (guF rfl (congrArg Bool.not hb38) (mvO h30)) (kx (guF rfl (congrArg Bool.not hb38) (mvO h30)) (kx (guF rfl (congrArg Bool.not hb38) (mvO h31)) (kx (guF rfl (congrArg Bool.not hb38) (ixS rfl rfl hx40 Party.fl)) (kx (guF rfl (congrArg Bool.not hb38) (faP rfl ⟨ble rfl, blt rfl⟩ rfl)) (kx (guF rfl (congrArg Bool.not hb38) (ldP rfl rfl)) (kc (Ev.guF rfl (congrArg Bool.not hb38) (cl (v := .int .i64 r42) rfl rfl (cns rfl (cns rfl rfl)) rfl (spec_l06Find_ok a1 x39.Name _ hx41) nm)) (kx (guF rfl (congrArg Bool.not hb38) (mvO h31)) (kx (guF rfl (congrArg Bool.not hb38) (bNeq rfl rfl)) (kx (pkF rfl (congrArg Bool.not hb38) rfl) (Rn (hA h30 (hA h31 (hN rfl hZ))) fun e43 h45 h46 h47 => sN ?_))))))))))
   clear h30 h31 h32
   rcases ite_some h with ⟨hb48, h⟩ | ⟨hb48, h⟩
   ·refine cT h47 hb48 (sq (Rg (kx (mvO rfl) (Rn (hV (.bool false) rfl hZ) fun e49 h51 => sN (xx (bR (sR ?_)))))))
    clear h45 h46 h47
    obtain rfl := si h
    exact qR ⟨rfl, h51⟩
   refine cF h47 hb48 (xx (bN (sN (Rg (kx (mvO h46) (kx (bAdd rfl rfl) (kx (mvO rfl) (Rn (hA h45 (hN rfl hZ)) fun e52 h54 h55 => ?_))))))))
   clear h45 h47
   obtain rfl := si h
   exact qN ⟨h54, h55⟩
  refine kx (gsF rfl (congrArg Bool.not hb38)) (kx (gsF rfl (congrArg Bool.not hb38)) (kx (gsF rfl (congrArg Bool.not hb38)) (kx (gsF rfl (congrArg Bool.not hb38)) (kx (gsF rfl (congrArg Bool.not hb38)) (kx (gsF rfl (congrArg Bool.not hb38)) (kc (Ev.gsF rfl (congrArg Bool.not hb38)) (kx (gsF rfl (congrArg Bool.not hb38)) (kx (gsF rfl (congrArg Bool.not hb38)) (kx (pkT rfl (congrArg Bool.not hb38) rfl) (Rn (hA h30 (hA h31 (hV (.bool true) rfl hZ))) fun e56 h58 h59 h60 => sN (cT h60 rfl (sq (Rg (kx (mvO rfl) (Rn (hV (.bool false) rfl hZ) fun e61 h63 => sN (xx (bR (sR ?_))))))))))))))))))
  clear h30 h31 h32 h58 h59 h60
  obtain rfl := si h
  exact qR ⟨rfl, h63⟩
 refine cF h32 hb33 (xx (sE ?_))
 obtain rfl := si h
 exact qE ⟨rfl, trivial⟩
noncomputable def spec_l06Parties (a1 : List Party) : Option Bool :=
 if (decide ((a1.length : Int) > 20)) = true then
  some false
 else
  (Lw (spec_l06Parties_b1 a1) 0).bind fun r => match r with
  | (.inl _) =>
   some false
  | (.inr _) =>
   some true
def spec_l06Parties_enc (r : Bool) : AV := .bool r
theorem spec_l06Parties_ok (a1 : List Party) (r : Bool) (h : spec_l06Parties a1 = some r) : Ev (fun k => CN k 63 [.sl none (a1.map Party.c)] []) (fun p => rRes p.2 p.1 = spec_l06Parties_enc r) := by
 unfold spec_l06Parties at h
 refine Ev.enter (F := fun k => f63 (CN k) k) (fun k => callN_eq rfl Tryd.func63 rfl rfl rfl (by decide +kernel) (f63_eq _ _)) (sq (Rg (kx (mvO rfl) (Rn (hN rfl hZ) fun e1 h3 => sN (sq (sq (Rg (kx (mvO h3) (kx (lnS Tryd.underlying46 rfl) (kx (bGtr rfl rfl) (Rn (hA h3 (hN rfl hZ)) fun e4 h6 h7 => sN ?_)))))))))))
 clear h3
 rcases ite_some h with ⟨hb8, h⟩ | ⟨hb8, h⟩
 ·refine cT h7 hb8 (sq (Rg (kx (mvO rfl) (Rn (hV (.bool false) rfl hZ) fun e9 h11 => sN (xx (sR ?_))))))
  clear h6 h7
  obtain rfl := si h
  exact eR (resT h11 res0) rfl
 obtain ⟨r64, hr65, h⟩ := bind_some h
 refine cF h7 hb8 (xx (sN (sq (sq (Rg (kx (mvO rfl) (Rn (hA h6 (hV (.int .i64 0) rfl hZ)) fun e12 h14 h15 => sN (bl ?_))))))))
 clear h6 h7
 rcases r64 with _ | _
 ·refine Ev.loop (RS := spec_l06Parties_b1_RS a1) (RR := spec_l06Parties_b1_RR a1) (fun s r h e M hs => spec_l06Parties_b1_ok a1 s r h e M hs) hr65 ⟨h14, h15⟩ fun x e67 M68 hq66 => ?_
  obtain ⟨rfl, h69⟩ := hq66
  refine bR (sR ?_)
  obtain rfl := si h
  exact eR (resT h69 res0) rfl
 refine Ev.loop (RS := spec_l06Parties_b1_RS a1) (RR := spec_l06Parties_b1_RR a1) (fun s r h e M hs => spec_l06Parties_b1_ok a1 s r h e M hs) hr65 ⟨h14, h15⟩ fun x e70 M71 hq66 => ?_
 obtain ⟨rfl, _⟩ := hq66
 refine bE (sN (sq (Rg (kx (mvO rfl) (Rn (hV (.bool true) rfl hZ) fun e72 h74 => sN (xx ?_))))))
 obtain rfl := si h
 exact eR (resT h74 res0) rfl
end Go.Proofs.YtjlalepbhcekoaaDoor

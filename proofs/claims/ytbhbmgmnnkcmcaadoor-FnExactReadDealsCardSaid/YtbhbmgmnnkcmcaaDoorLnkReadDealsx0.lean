/- Printed by a program of ours (ext.py). -/
import Derived.Test.YtbhbmgmnnkcmcaaDoorFnsReadDeals
set_option linter.unusedVariables false
set_option linter.unusedSimpArgs false
set_option maxRecDepth 100000
set_option maxHeartbeats 2000000
namespace Go.Proofs.YtbhbmgmnnkcmcaaDoor
open Go Go.Ab
structure Deal where
  Day : Int
  Kind : Int
  Tally : Int
  From : Int
  To : Int
  Amount : Int
  deriving DecidableEq
def Deal.c (x : Deal) : List AV := [.int .i64 x.Day, .int .i8 x.Kind, .int .i64 x.Tally, .int .i64 x.From, .int .i64 x.To, .int .i64 x.Amount]
theorem Deal.fl : Fl Deal.c 6 := fun _ => ⟨rfl, rfl⟩
theorem Deal.flF : FlF Deal.c := fun _ => rfl
theorem co126 : cx.P.cellsOf 126 = 6 := by kernel_rfl
theorem zero126 : zeroOf cx.P 126 = [.int .i64 0, .int .i8 0, .int .i64 0, .int .i64 0, .int .i64 0, .int .i64 0] := by kernel_rfl
/-! ### loop.example/g01263/impl.uses (f161) -/
noncomputable def impl_uses (a1 : Int) : Option (Bool × Bool × Bool × Bool) :=
 if (a1 == 1) = true then
  some (false, true, true, true)
 else
  if (a1 == 2) = true then
   some (true, true, true, false)
  else
   if (a1 == 3) = true then
    some (true, false, false, true)
   else
    some (true, true, false, false)
def impl_uses_enc (r : Bool × Bool × Bool × Bool) : AV := .tup [.bool r.1, .bool r.2.1, .bool r.2.2.1, .bool r.2.2.2]
theorem impl_uses_ok (a1 : Int) (r : Bool × Bool × Bool × Bool) (h : impl_uses a1 = some r) : Ev (fun k => CN k 161 [.int .i8 a1] []) (fun p => rRes p.2 p.1 = impl_uses_enc r) := by
 unfold impl_uses at h
 refine Ev.enter (F := fun k => f161 (CN k) k) (fun k => callN_eq rfl Tryd.func161 rfl rfl rfl (by decide +kernel) (f161_eq _ _)) (sq (Rg (kx (mvO rfl) (kx (mvO rfl) (kx (mvO rfl) (kx (mvO rfl) (Rn (hN rfl hZ) fun e1 h3 => sN (sq (sq (Rg (kx (mvO h3) (Rn (hN rfl hZ) fun e4 h6 => sN (bl (sq (Rg (kx (bEql h6 rfl) (kx (mvO rfl) (Rn (hA h6 (hN rfl hZ)) fun e7 h9 h10 => sN ?_))))))))))))))))))
 clear h3 h6
 rcases ite_some h with ⟨hb11, h⟩ | ⟨hb11, h⟩
 ·refine cT h10 hb11 (sq (Rg (kx (mvO rfl) (kx (mvO rfl) (kx (mvO rfl) (kx (mvO rfl) (Rn (hV (.bool false) rfl (hV (.bool true) rfl (hV (.bool true) rfl (hV (.bool true) rfl hZ)))) fun e12 h14 h15 h16 h17 => sN (xx (bR (sR ?_))))))))))
  clear h10 h9
  obtain rfl := si h
  exact eR (resT h14 (resT h15 (resT h16 (resT h17 res0)))) rfl
 refine cF h10 hb11 (sq (Rg (kx (bEql h9 rfl) (kx (mvO rfl) (Rn (hA h9 (hN rfl hZ)) fun e18 h20 h21 => sN ?_)))))
 clear h10 h9
 rcases ite_some h with ⟨hb22, h⟩ | ⟨hb22, h⟩
 ·refine cT h21 hb22 (sq (Rg (kx (mvO rfl) (kx (mvO rfl) (kx (mvO rfl) (kx (mvO rfl) (Rn (hV (.bool true) rfl (hV (.bool true) rfl (hV (.bool true) rfl (hV (.bool false) rfl hZ)))) fun e23 h25 h26 h27 h28 => sN (xx (bR (sR ?_))))))))))
  clear h20 h21
  obtain rfl := si h
  exact eR (resT h25 (resT h26 (resT h27 (resT h28 res0)))) rfl
 refine cF h21 hb22 (sq (Rg (kx (bEql h20 rfl) (kx (mvO rfl) (Rn (hN rfl hZ) fun e29 h31 => sN ?_)))))
 clear h20 h21
 rcases ite_some h with ⟨hb32, h⟩ | ⟨hb32, h⟩
 ·refine cT h31 hb32 (sq (Rg (kx (mvO rfl) (kx (mvO rfl) (kx (mvO rfl) (kx (mvO rfl) (Rn (hV (.bool true) rfl (hV (.bool false) rfl (hV (.bool false) rfl (hV (.bool true) rfl hZ)))) fun e33 h35 h36 h37 h38 => sN (xx (bR (sR ?_))))))))))
  clear h31
  obtain rfl := si h
  exact eR (resT h35 (resT h36 (resT h37 (resT h38 res0)))) rfl
 refine cF h31 hb32 (xx (bN (sN (sq (Rg (kx (mvO rfl) (kx (mvO rfl) (kx (mvO rfl) (kx (mvO rfl) (Rn (hV (.bool true) rfl (hV (.bool true) rfl (hV (.bool false) rfl (hV (.bool false) rfl hZ)))) fun e39 h41 h42 h43 h44 => sN (xx ?_)))))))))))
 clear h31
 obtain rfl := si h
 exact eR (resT h41 (resT h42 (resT h43 (resT h44 res0)))) rfl
/-! ### loop.example/g01263/impl.ValidDeal$1 (f160) -/
noncomputable def impl_ValidDeal_1 (a1 : Bool) (a2 : Int) (a3 : Int) (a4 : Int) : Option Bool :=
 if a1 = true then
  if (decide (a2 ≥ a3)) = true then
   if (decide (a2 ≤ a4)) = true then
    some true
   else
    some false
  else
   some false
 else
  some (a2 == 0)
def impl_ValidDeal_1_enc (r : Bool) : AV := .bool r
theorem impl_ValidDeal_1_ok (a1 : Bool) (a2 : Int) (a3 : Int) (a4 : Int) (r : Bool) (h : impl_ValidDeal_1 a1 a2 a3 a4 = some r) : Ev (fun k => CN k 160 [.bool a1, .int .i64 a2, .int .i64 a3, .int .i64 a4] []) (fun p => rRes p.2 p.1 = impl_ValidDeal_1_enc r) := by
 unfold impl_ValidDeal_1 at h
 refine Ev.enter (F := fun k => f160 (CN k) k) (fun k => callN_eq rfl Tryd.func160 rfl rfl rfl (by decide +kernel) (f160_eq _ _)) (sq (Rg (kx (mvO rfl) (Rn (hN rfl (hN rfl (hN rfl (hN rfl hZ)))) fun e1 h3 h4 h5 h6 => sN (sq (Rg (kx (mvO h3) (kx (mvO rfl) ?_))))))))
 rcases ite_some h with ⟨hb7, h⟩ | ⟨hb7, h⟩
 ·refine kx (guT rfl hb7 (mvO h4)) (kx (guT rfl hb7 (mvO h5)) (kx (guT rfl hb7 (bGeq rfl rfl)) (kx (pkT rfl hb7 rfl) (kx (mvO rfl) ?_))))
  rcases ite_some h with ⟨hb8, h⟩ | ⟨hb8, h⟩
  ·refine kx (guT rfl hb8 (mvO h4)) (kx (guT rfl hb8 (mvO h6)) (kx (guT rfl hb8 (bLeq rfl rfl)) (kx (pkT rfl hb8 rfl) (kx (mvO rfl) ?_))))
   rcases ite_some h with ⟨hb9, h⟩ | ⟨hb9, h⟩
   ·refine kx (gsF rfl hb9) (kx (gsF rfl hb9) (kx (gsF rfl hb9) (kx (gsU rfl) (kx (gsU rfl) (kx (gsF rfl hb9) (kx (pkT rfl hb9 rfl) (kx (mvO rfl) (Rn (hV (.bool true) rfl hZ) fun e10 h12 => sN (xx ?_)))))))))
    clear h3 h4 h5 h6
    obtain rfl := si h
    exact eR (resT h12 res0) rfl
   refine kx (guF rfl hb9 (mvO h3)) (kx (guF rfl hb9 (uNot rfl)) (kx (guF rfl hb9 (mvO rfl)) (kx (gsT rfl (congrArg Bool.not hb7)) (kx (gsT rfl (congrArg Bool.not hb7)) (kx (guF rfl hb9 (pkF rfl (congrArg Bool.not hb7) rfl)) (kx (pkF rfl hb9 rfl) (kx (mvO rfl) (Rn (hV (.bool false) rfl hZ) fun e13 h15 => sN (xx ?_)))))))))
   clear h3 h4 h5 h6
   obtain rfl := si h
   exact eR (resT h15 res0) rfl
  refine kx (gsT rfl hb8) (kx (gsT rfl hb8) (kx (gsT rfl hb8) (kx (pkF rfl hb8 rfl) (kx (mvO rfl) (kx (guF rfl rfl (mvO h3)) (kx (guF rfl rfl (uNot rfl)) (kx (guF rfl rfl (mvO rfl)) (kx (gsT rfl (congrArg Bool.not hb7)) (kx (gsT rfl (congrArg Bool.not hb7)) (kx (guF rfl rfl (pkF rfl (congrArg Bool.not hb7) rfl)) (kx (pkF rfl rfl rfl) (kx (mvO rfl) (Rn (hV (.bool false) rfl hZ) fun e16 h18 => sN (xx ?_))))))))))))))
  clear h3 h4 h5 h6
  obtain rfl := si h
  exact eR (resT h18 res0) rfl
 refine kx (gsT rfl hb7) (kx (gsT rfl hb7) (kx (gsT rfl hb7) (kx (pkF rfl hb7 rfl) (kx (mvO rfl) (kx (gsT rfl rfl) (kx (gsT rfl rfl) (kx (gsT rfl rfl) (kx (pkF rfl rfl rfl) (kx (mvO rfl) (kx (guF rfl rfl (mvO h3)) (kx (guF rfl rfl (uNot rfl)) (kx (guF rfl rfl (mvO rfl)) (kx (guT rfl (congrArg Bool.not hb7) (mvO h4)) (kx (guT rfl (congrArg Bool.not hb7) (bEql rfl rfl)) (kx (guF rfl rfl (pkT rfl (congrArg Bool.not hb7) rfl)) (kx (pkF rfl rfl rfl) (kx (mvO rfl) (Rn (hN rfl hZ) fun e19 h21 => sN (xx ?_)))))))))))))))))))
 clear h3 h4 h5 h6
 obtain rfl := si h
 exact eR (resT h21 res0) rfl
/-! ### loop.example/g01263/impl.isBookDay (f159) -/
noncomputable def impl_isBookDay (a1 : Int) : Option Bool :=
 if (decide (a1 ≥ 0)) = true then
  some (decide (a1 ≤ 100000))
 else
  some false
def impl_isBookDay_enc (r : Bool) : AV := .bool r
theorem impl_isBookDay_ok (a1 : Int) (r : Bool) (h : impl_isBookDay a1 = some r) : Ev (fun k => CN k 159 [.int .i64 a1] []) (fun p => rRes p.2 p.1 = impl_isBookDay_enc r) := by
 unfold impl_isBookDay at h
 refine Ev.enter (F := fun k => f159 (CN k) k) (fun k => callN_eq rfl Tryd.func159 rfl rfl rfl (by decide +kernel) (f159_eq _ _)) (sq (Rg (kx (mvO rfl) (Rn (hN rfl hZ) fun e1 h3 => sN (sq (Rg (kx (mvO h3) (kx (bGeq rfl rfl) (kx (mvO rfl) ?_)))))))))
 rcases ite_some h with ⟨hb4, h⟩ | ⟨hb4, h⟩
 ·refine kx (guT rfl hb4 (mvO h3)) (kx (guT rfl hb4 (bLeq rfl rfl)) (kx (pkT rfl hb4 rfl) (kx (mvO rfl) (Rn (hN rfl hZ) fun e5 h7 => sN (xx ?_)))))
  clear h3
  obtain rfl := si h
  exact eR (resT h7 res0) rfl
 refine kx (gsT rfl hb4) (kx (gsT rfl hb4) (kx (pkF rfl hb4 rfl) (kx (mvO rfl) (Rn (hV (.bool false) rfl hZ) fun e8 h10 => sN (xx ?_)))))
 clear h3
 obtain rfl := si h
 exact eR (resT h10 res0) rfl
/-! ### loop.example/g01263/spec.l00In (f84) -/
noncomputable def spec_l00In (a1 : Int) (a2 : Int) (a3 : Int) : Option Bool :=
 if (decide (a1 ≥ a2)) = true then
  some (decide (a1 ≤ a3))
 else
  some false
def spec_l00In_enc (r : Bool) : AV := .bool r
theorem spec_l00In_ok (a1 : Int) (a2 : Int) (a3 : Int) (r : Bool) (h : spec_l00In a1 a2 a3 = some r) : Ev (fun k => CN k 84 [.int .i64 a1, .int .i64 a2, .int .i64 a3] []) (fun p => rRes p.2 p.1 = spec_l00In_enc r) := by
 unfold spec_l00In at h
 refine Ev.enter (F := fun k => f84 (CN k) k) (fun k => callN_eq rfl Tryd.func84 rfl rfl rfl (by decide +kernel) (f84_eq _ _)) (sq (Rg (kx (mvO rfl) (Rn (hN rfl (hN rfl (hN rfl hZ))) fun e1 h3 h4 h5 => sN (sq (Rg (kx (mvO h3) (kx (mvO h4) (kx (bGeq rfl rfl) (kx (mvO rfl) ?_))))))))))
 rcases ite_some h with ⟨hb6, h⟩ | ⟨hb6, h⟩
 ·refine kx (guT rfl hb6 (mvO h3)) (kx (guT rfl hb6 (mvO h5)) (kx (guT rfl hb6 (bLeq rfl rfl)) (kx (pkT rfl hb6 rfl) (kx (mvO rfl) (Rn (hN rfl hZ) fun e7 h9 => sN (xx ?_))))))
  clear h3 h4 h5
  obtain rfl := si h
  exact eR (resT h9 res0) rfl
 refine kx (gsT rfl hb6) (kx (gsT rfl hb6) (kx (gsT rfl hb6) (kx (pkF rfl hb6 rfl) (kx (mvO rfl) (Rn (hV (.bool false) rfl hZ) fun e10 h12 => sN (xx ?_))))))
 clear h3 h4 h5
 obtain rfl := si h
 exact eR (resT h12 res0) rfl
/-! ### loop.example/g01263/spec.l07Day (f158) -/
noncomputable def spec_l07Day (a1 : Int) : Option Bool :=
 (spec_l00In a1 0 100000).bind fun r5 =>
 some r5
def spec_l07Day_enc (r : Bool) : AV := .bool r
theorem spec_l07Day_ok (a1 : Int) (r : Bool) (h : spec_l07Day a1 = some r) : Ev (fun k => CN k 158 [.int .i64 a1] []) (fun p => rRes p.2 p.1 = spec_l07Day_enc r) := by
 unfold spec_l07Day at h
 obtain ⟨r5, hx4, h⟩ := bind_some h
 refine Ev.enter (F := fun k => f158 (CN k) k) (fun k => callN_eq rfl Tryd.func158 rfl rfl rfl (by decide +kernel) (f158_eq _ _)) (sq (Rg (kx (mvO rfl) (Rn (hN rfl hZ) fun e1 h3 => sN (sq (Rg (kx (mvO h3) (kc (cl (v := .bool r5) rfl (cns rfl (cns rfl (cns rfl rfl))) rfl (spec_l00In_ok a1 0 100000 _ hx4) nm) (kx (mvO rfl) (Rn (hN rfl hZ) fun e6 h8 => sN (xx ?_)))))))))))
 clear h3
 obtain rfl := si h
 exact eR (resT h8 res0) rfl
/-! ### loop.example/g01263/impl.worth (f153) -/
noncomputable def impl_worth (a1 : Int) : Option Int :=
 (rd [1, 12, 240, 4800, 24000, 240000] a1).bind fun x4 =>
 some x4
def impl_worth_enc (r : Int) : AV := .int .i64 r
theorem impl_worth_ok (a1 : Int) (r : Int) (h : impl_worth a1 = some r) : Ev (fun k => CN k 153 [.int .i64 a1] []) (fun p => rRes p.2 p.1 = impl_worth_enc r) := by
 unfold impl_worth at h
 obtain ⟨x4, hx5, h⟩ := bind_some h
 refine Ev.enter (F := fun k => f153 (CN k) k) (fun k => callN_eq rfl Tryd.func153 rfl rfl rfl (by decide +kernel) (f153_eq _ _)) (sq (Rg (kx (mvO rfl) (Rn (hN rfl hZ) fun e1 h3 => sN (sq (Rg (kx (litI (cns rfl (cns rfl (cns rfl (cns rfl (cns rfl (cns rfl rfl)))))) rfl ⟨rfl, by decide⟩) (kx (mvO h3) (kx (ixLt rfl rfl hx5 (cI_fl _)) (kx (ldP rfl rfl) (kx (mvO rfl) (Rn (hN rfl hZ) fun e6 h8 => sN (xx ?_)))))))))))))
 clear h3
 obtain rfl := si h
 exact eR (resT h8 res0) rfl
/-! ### loop.example/g01263/spec.Decimal (f139) -/
noncomputable def spec_Decimal_F : Nat → Int → Option ((List UInt8))
  | 0, _ => none
  | k0 + 1, a1 =>
   if (decide (a1 < 10)) = true then
    (rem .i64 a1 10).bind fun n9 =>
    some (toB [(IntKind.u8.wrap (IntKind.i64.wrap (48 + n9)))])
   else
    (quo .i64 a1 10).bind fun n14 =>
    (spec_Decimal_F k0 n14).bind fun r17 =>
    (rem .i64 a1 10).bind fun n18 =>
    (sadd r17 (toB [(IntKind.u8.wrap (IntKind.i64.wrap (48 + n18)))])).bind fun w20 =>
    some w20
def spec_Decimal_enc (r : (List UInt8)) : AV := .str r
theorem spec_Decimal_F_ok : ∀ (k0 : Nat) (a1 : Int) (r : (List UInt8)) (h : spec_Decimal_F k0 a1 = some r), Ev (fun k => CN k 139 [.int .i64 a1] []) (fun p => rRes p.2 p.1 = spec_Decimal_enc r)
  | 0, a1, r, h => by cases h
  | k0 + 1, a1, r, h => by
   rw [spec_Decimal_F] at h
   refine Ev.enter (F := fun k => f139 (CN k) k) (fun k => callN_eq rfl Tryd.func139 rfl rfl rfl (by decide +kernel) (f139_eq _ _)) (sq (Rg (kx (mvO rfl) (Rn (hN rfl hZ) fun e1 h3 => sN (sq (sq (Rg (kx (mvO h3) (kx (bLss rfl rfl) (Rn (hA h3 (hN rfl hZ)) fun e4 h6 h7 => sN ?_))))))))))
   clear h3
   rcases ite_some h with ⟨hb8, h⟩ | ⟨hb8, h⟩
   ·obtain ⟨n9, hx10, h⟩ := bind_some h
    refine cT h7 hb8 (sq (Rg (kx (mvO h6) (kx (bRem rfl rfl hx10) (kx (bAdd rfl rfl) (kx (cvI rfl) (kx (litI (cns rfl rfl) rfl ⟨rfl, by decide⟩) (kx (cvB (elT (c := (cI .u8)) (xs := [(IntKind.u8.wrap (IntKind.i64.wrap (48 + n9)))]) rfl)) (kx (mvO rfl) (Rn (hN rfl hZ) fun e11 h13 => sN (xx (sR ?_))))))))))))
    clear h6 h7
    obtain rfl := si h
    exact eR (resT h13 res0) rfl
   obtain ⟨n14, hx15, h⟩ := bind_some h
   obtain ⟨r17, hx16, h⟩ := bind_some h
   obtain ⟨n18, hx19, h⟩ := bind_some h
   obtain ⟨w20, hx21, h⟩ := bind_some h
   refine cF h7 hb8 (xx (sN (sq (Rd (kf (mvO h6) (kf (bQuo rfl rfl hx15) (fc (cl (v := .str r17) rfl (cns rfl rfl) rfl (spec_Decimal_F_ok k0 n14 _ hx16) nm) (kf (mvO h6) (kf (bRem rfl rfl hx19) (kf (bAdd rfl rfl) (kf (cvI rfl) (kf (litI (cns rfl rfl) rfl ⟨rfl, by decide⟩) (kf (cvB (elT (c := (cI .u8)) (xs := [(IntKind.u8.wrap (IntKind.i64.wrap (48 + n18)))]) rfl)) (kf (sAdd rfl rfl hx21) (kf (mvO rfl) (fZ (Rn (hN rfl hZ) fun e22 h24 => sN (xx ?_))))))))))))))))))
   clear h6 h7
   obtain rfl := si h
   exact eR (resT h24 res0) rfl
noncomputable def spec_Decimal (a1 : Int) : Option ((List UInt8)) := spec_Decimal_F 64 a1
theorem spec_Decimal_ok (a1 : Int) (r : (List UInt8)) (h : spec_Decimal a1 = some r) : Ev (fun k => CN k 139 [.int .i64 a1] []) (fun p => rRes p.2 p.1 = spec_Decimal_enc r) := spec_Decimal_F_ok 64 a1 r h
/-! ### strconv.FormatInt (f133), by its contract -/
noncomputable def strconv_FormatInt (a1 : Int) (a2 : Int) : Option ((List UInt8)) := fmtI a1 a2
def strconv_FormatInt_enc (r : (List UInt8)) : AV := .str r
theorem strconv_FormatInt_ok (a1 : Int) (a2 : Int) (r : (List UInt8)) (h : strconv_FormatInt a1 a2 = some r) : Ev (fun k => CN k 133 [.int .i64 a1, .int .i64 a2] []) (fun p => rRes p.2 p.1 = strconv_FormatInt_enc r) := Ev.lib rfl rfl (lib_fmt h) rfl
/-! ### loop.example/g01263/impl.decimal (f90) -/
noncomputable def impl_decimal (a1 : Int) : Option ((List UInt8)) :=
 (strconv_FormatInt a1 10).bind fun r5 =>
 some r5
def impl_decimal_enc (r : (List UInt8)) : AV := .str r
theorem impl_decimal_ok (a1 : Int) (r : (List UInt8)) (h : impl_decimal a1 = some r) : Ev (fun k => CN k 90 [.int .i64 a1] []) (fun p => rRes p.2 p.1 = impl_decimal_enc r) := by
 unfold impl_decimal at h
 obtain ⟨r5, hx4, h⟩ := bind_some h
 refine Ev.enter (F := fun k => f90 (CN k) k) (fun k => callN_eq rfl Tryd.func90 rfl rfl rfl (by decide +kernel) (f90_eq _ _)) (sq (Rg (kx (mvO rfl) (Rn (hN rfl hZ) fun e1 h3 => sN (sq (Rg (kx (mvO h3) (kc (cl (v := .str r5) rfl (cns rfl (cns rfl rfl)) rfl (strconv_FormatInt_ok a1 10 _ hx4) nm) (kx (mvO rfl) (Rn (hN rfl hZ) fun e6 h8 => sN (xx ?_)))))))))))
 clear h3
 obtain rfl := si h
 exact eR (resT h8 res0) rfl
/-! ### loop.example/g01263/impl.isAmount (f42) -/
noncomputable def impl_isAmount (a1 : Int) : Option Bool :=
 if (decide (a1 ≥ 0)) = true then
  some (decide (a1 ≤ 100000000))
 else
  some false
def impl_isAmount_enc (r : Bool) : AV := .bool r
theorem impl_isAmount_ok (a1 : Int) (r : Bool) (h : impl_isAmount a1 = some r) : Ev (fun k => CN k 42 [.int .i64 a1] []) (fun p => rRes p.2 p.1 = impl_isAmount_enc r) := by
 unfold impl_isAmount at h
 refine Ev.enter (F := fun k => f42 (CN k) k) (fun k => callN_eq rfl Tryd.func42 rfl rfl rfl (by decide +kernel) (f42_eq _ _)) (sq (Rg (kx (mvO rfl) (Rn (hN rfl hZ) fun e1 h3 => sN (sq (Rg (kx (mvO h3) (kx (bGeq rfl rfl) (kx (mvO rfl) ?_)))))))))
 rcases ite_some h with ⟨hb4, h⟩ | ⟨hb4, h⟩
 ·refine kx (guT rfl hb4 (mvO h3)) (kx (guT rfl hb4 (bLeq rfl rfl)) (kx (pkT rfl hb4 rfl) (kx (mvO rfl) (Rn (hN rfl hZ) fun e5 h7 => sN (xx ?_)))))
  clear h3
  obtain rfl := si h
  exact eR (resT h7 res0) rfl
 refine kx (gsT rfl hb4) (kx (gsT rfl hb4) (kx (pkF rfl hb4 rfl) (kx (mvO rfl) (Rn (hV (.bool false) rfl hZ) fun e8 h10 => sN (xx ?_)))))
 clear h3
 obtain rfl := si h
 exact eR (resT h10 res0) rfl
/-! ### strings.Join (f91), by its contract -/
noncomputable def strings_Join (a1 : List (List UInt8)) (a2 : List UInt8) : Option ((List UInt8)) := joinI a1 a2
def strings_Join_enc (r : (List UInt8)) : AV := .str r
theorem strings_Join_ok (a1 : List (List UInt8)) (a2 : List UInt8) (r : (List UInt8)) (h : strings_Join a1 a2 = some r) : Ev (fun k => CN k 91 [.sl none (a1.map cS), .str a2] []) (fun p => rRes p.2 p.1 = strings_Join_enc r) := Ev.lib rfl rfl (lib_join h) rfl
/-! ### loop.example/g01263/impl.AmountText (f45) -/
abbrev impl_AmountText_b1_S := Int × (List (List UInt8))
abbrev impl_AmountText_b1_R := (List (List UInt8))
def impl_AmountText_b1_RS (n27 : Int) (n31 : Int) (n33 : Int) (i1_1 : Nat) (s : impl_AmountText_b1_S) (e : Env) (M : Mem) : Prop := eget e 3 = .lsl i1_1 s.2.length 0 s.2.length ∧ eget e 19 = .lit 2 ([n27, n31, n33].map (cI .i64)) ∧ eget e 20 = .int .i64 ([n27, n31, n33].length : Int) ∧ eget e 21 = .int .i64 s.1 ∧ M[i1_1]? = some (.live ⟨.grow, 9, 1, s.2.map cS⟩)
def impl_AmountText_b1_RR (n27 : Int) (n31 : Int) (n33 : Int) (i1_1 : Nat) (g : impl_AmountText_b1_R) (x : Ex) (e : Env) (M : Mem) : Prop := x = .ext 0 ∧ eget e 3 = .lsl i1_1 g.length 0 g.length ∧ M[i1_1]? = some (.live ⟨.grow, 9, 1, g.map cS⟩)
noncomputable def impl_AmountText_b1 (n27 : Int) (n31 : Int) (n33 : Int) : impl_AmountText_b1_S → Option (impl_AmountText_b1_S ⊕ impl_AmountText_b1_R) := fun (s1_1, s1_2) =>
 if (decide (s1_1 < ([n27, n31, n33].length : Int))) = true then
  (rd [n27, n31, n33] s1_1).bind fun x71 =>
  if (decide (x71 > 0)) = true then
   (impl_decimal x71).bind fun r92 =>
   (slc ([108, 115, 100] : List UInt8) s1_1 (IntKind.i64.wrap (s1_1 + 1))).bind fun x93 =>
   (sadd r92 x93).bind fun w95 =>
   (app 16 s1_2 [w95]).bind fun x97 =>
   some (.inl ((IntKind.i64.wrap (s1_1 + 1)), x97))
  else
   some (.inl ((IntKind.i64.wrap (s1_1 + 1)), s1_2))
 else
  some (.inr s1_2)
theorem impl_AmountText_b1_ok (n27 : Int) (n31 : Int) (n33 : Int) (i1_1 : Nat) (s : impl_AmountText_b1_S) (r : impl_AmountText_b1_S ⊕ impl_AmountText_b1_R) (h : impl_AmountText_b1 n27 n31 n33 s = some r) (e : Env) (M : Mem) (hs : impl_AmountText_b1_RS n27 n31 n33 i1_1 s e M) : Ev (fun k => (f45_l7 (CN k) k (prune [3, 19, 20, 21] e) M).bind fun q => some q) (bQ (impl_AmountText_b1_RS n27 n31 n33 i1_1) (impl_AmountText_b1_RR n27 n31 n33 i1_1) r) := by
 obtain ⟨s1_1, s1_2⟩ := s
 unfold impl_AmountText_b1 at h
 obtain ⟨h54, h56, h58, h60, o62⟩ := hs
 generalize he53 : prune [3, 19, 20, 21] e = e52
 have h55 := envp he53.symm rfl h54
 have h57 := envp he53.symm rfl h56
 have h59 := envp he53.symm rfl h58
 have h61 := envp he53.symm rfl h60
 refine sq (Rg (kx (bLss h61 h59) (Rn (hV (.lsl i1_1 s1_2.length 0 s1_2.length) h55 (hV (.lit 2 ([n27, n31, n33].map (cI .i64))) h57 (hV (.int .i64 ([n27, n31, n33].length : Int)) h59 (hV (.int .i64 s1_1) h61 (hN rfl hZ))))) fun e63 h65 h66 h67 h68 h69 => sN (sq ?_))))
 clear h55 h57 h59 h61
 rcases ite_some h with ⟨hb70, h⟩ | ⟨hb70, h⟩
 ·obtain ⟨x71, hx72, h⟩ := bind_some h
  refine cT h69 hb70 (xx (sN (sq (bl (sq (Rg (kx (mvO h68) (kx (ixLt h66 h68 hx72 (cI_fl _)) (kx (ldP rfl rfl) (kx (mvO rfl) (kx (mvO rfl) (Rn (hA h65 (hN rfl (hN rfl (hA h66 (hA h67 (hA h68 hZ)))))) fun e73 h75 h76 h77 h78 h79 h80 => sN (sq (Rg (kx (mvO h77) (kx (bGtr rfl rfl) (Rn (hA h75 (hA h76 (hA h77 (hA h78 (hA h79 (hA h80 (hN rfl hZ))))))) fun e81 h83 h84 h85 h86 h87 h88 h89 => sN ?_)))))))))))))))))
  clear h65 h66 h67 h68 h69 h75 h76 h77 h78 h79 h80
  rcases ite_some h with ⟨hb90, h⟩ | ⟨hb90, h⟩
  ·obtain ⟨r92, hx91, h⟩ := bind_some h
   obtain ⟨x93, hx94, h⟩ := bind_some h
   obtain ⟨w95, hx96, h⟩ := bind_some h
   obtain ⟨x97, hx98, h⟩ := bind_some h
   refine cT h89 hb90 (Rd (kf (mvO h83) (kf (mvO h85) (fc (cl (v := .str r92) rfl (cns rfl rfl) rfl (impl_decimal_ok x71 _ hx91) nm) (kf (mvO h84) (kf (mvO h84) (kf (bAdd rfl rfl) (kf (ssl2 rfl (bnd1 rfl) (bnd1 rfl) hx94) (kf (sAdd rfl rfl hx96) (kf (litI (cns rfl rfl) rfl ⟨rfl, by decide⟩) (fZ (kw (apO rfl o62 rfl (elT (c := cS) (xs := [w95]) rfl) hx98 cS_fl (by decide)) fun M99 hM100 => ?_))))))))))))
   have o101 : M99[i1_1]? = some (.live ⟨.grow, 9, 1, x97.map cS⟩) := set_same hM100 o62
   refine kx (mvO rfl) (Rn (hV (.lsl i1_1 x97.length 0 x97.length) rfl (hA h86 (hA h87 (hA h88 hZ)))) fun e102 h104 h105 h106 h107 => bN (sN (Rg (kx (bAdd h107 rfl) (kx (mvO rfl) (Rn (hA h104 (hA h105 (hA h106 (hN rfl hZ)))) fun e108 h110 h111 h112 h113 => ?_))))))
   clear h84 h85 h86 h87 h88 h89 h104 h105 h106
   obtain rfl := si h
   exact qN ⟨h110, h111, h112, h113, o101⟩
  refine cF h89 hb90 (xx (bN (sN (Rg (kx (bAdd h88 rfl) (kx (mvO rfl) (Rn (hA h83 (hA h86 (hA h87 (hN rfl hZ)))) fun e114 h116 h117 h118 h119 => ?_)))))))
  clear h83 h84 h85 h86 h87 h89
  obtain rfl := si h
  exact qN ⟨h116, h117, h118, h119, o62⟩
 refine cF h69 hb70 (xx (sE ?_))
 obtain rfl := si h
 exact qE ⟨rfl, h65, o62⟩
noncomputable def impl_AmountText (a1 : Int) : Option ((List UInt8)) :=
 (impl_isAmount a1).bind fun r5 =>
 if r5 = true then
  if (a1 == 0) = true then
   some ([48, 100] : List UInt8)
  else
   (quo .i64 a1 240).bind fun n27 =>
   (quo .i64 a1 12).bind fun n29 =>
   (rem .i64 n29 20).bind fun n31 =>
   (rem .i64 a1 12).bind fun n33 =>
   (Lw (impl_AmountText_b1 n27 n31 n33) (0, ([] : List (List UInt8)))).bind fun y125 =>
   (strings_Join y125 ([32] : List UInt8)).bind fun r129 =>
   some r129
 else
  some ([] : List UInt8)
def impl_AmountText_enc (r : (List UInt8)) : AV := .str r
theorem impl_AmountText_ok (a1 : Int) (r : (List UInt8)) (h : impl_AmountText a1 = some r) : Ev (fun k => CN k 45 [.int .i64 a1] []) (fun p => rRes p.2 p.1 = impl_AmountText_enc r) := by
 unfold impl_AmountText at h
 obtain ⟨r5, hx4, h⟩ := bind_some h
 refine Ev.enter (F := fun k => f45 (CN k) k) (fun k => callN_eq rfl Tryd.func45 rfl rfl rfl (by decide +kernel) (f45_eq _ _)) (sq (Rg (kx (mvO rfl) (Rn (hN rfl hZ) fun e1 h3 => sN (sq (sq (Rg (kx (mvO h3) (kc (cl (v := .bool r5) rfl (cns rfl rfl) rfl (impl_isAmount_ok a1 _ hx4) nm) (kx (uNot rfl) (Rn (hA h3 (hN rfl hZ)) fun e6 h8 h9 => sN ?_)))))))))))
 clear h3
 rcases ite_some h with ⟨hb10, h⟩ | ⟨hb10, h⟩
 ·refine cF h9 (congrArg Bool.not hb10) (xx (sN (sq (sq (Rg (kx (mvO h8) (kx (bEql rfl rfl) (Rn (hA h8 (hN rfl hZ)) fun e11 h13 h14 => sN ?_))))))))
  clear h8 h9
  rcases ite_some h with ⟨hb15, h⟩ | ⟨hb15, h⟩
  ·refine cT h14 hb15 (sq (Rg (kx (mvO rfl) (Rn (hN rfl hZ) fun e16 h18 => sN (xx (sR ?_))))))
   clear h13 h14
   obtain rfl := si h
   exact eR (resT h18 res0) rfl
  refine cF h14 hb15 (xx (sN (sq (Rg (ku (litO (xs := ([] : List (List UInt8))) (c := cS) rfl rfl (by decide)) fun M20 hM21 => ?_)))))
  have o22 : M20[([] : Mem).length]? = some (.live ⟨.grow, 9, 1, ([] : List (List UInt8)).map cS⟩) := push_new hM21
  obtain ⟨n27, hx28, h⟩ := bind_some h
  obtain ⟨n29, hx30, h⟩ := bind_some h
  obtain ⟨n31, hx32, h⟩ := bind_some h
  obtain ⟨n33, hx34, h⟩ := bind_some h
  obtain ⟨y125, hr121, h⟩ := bind_some h
  refine kx (mvO rfl) (Rn (hA h13 (hV (.lsl ([] : Mem).length ([] : List (List UInt8)).length 0 ([] : List (List UInt8)).length) rfl hZ)) fun e23 h25 h26 => sN (sq (sq (Rg (kx (mvO h25) (kx (bQuo rfl rfl hx28) (kx (mvO h25) (kx (bQuo rfl rfl hx30) (kx (bRem rfl rfl hx32) (kx (mvO h25) (kx (bRem rfl rfl hx34) (kx (litI (cns rfl (cns rfl (cns rfl rfl))) rfl ⟨rfl, by decide⟩) (kx (lnT (c := (cI .i64)) (xs := [n27, n31, n33]) Tryd.underlying136 rfl) (kx (mvO rfl) (Rn (hA h26 (hN rfl (hN rfl (hV (.int .i64 0) rfl hZ)))) fun e35 h37 h38 h39 h40 => sN (bl (Ev.loop (RS := impl_AmountText_b1_RS n27 n31 n33 (([] : Mem).length)) (RR := impl_AmountText_b1_RR n27 n31 n33 (([] : Mem).length)) (fun s r h e M hs => impl_AmountText_b1_ok n27 n31 n33 (([] : Mem).length) s r h e M hs) hr121 ⟨h37, h38, h39, h40, o22⟩ fun x e123 M124 hq122 => ?_)))))))))))))))))
  clear h13 h14 h25 h26
  obtain ⟨rfl, h126, o127⟩ := hq122
  obtain ⟨r129, hx128, h⟩ := bind_some h
  refine bE (sN (sq (Rg (kx (mvO h126) (kc (cl (v := .str r129) rfl (cns rfl (cns rfl rfl)) (ra1 (ra1_row o127 rfl cS_fl) (ra1 rfl ra0)) (strings_Join_ok y125 ([32] : List UInt8) _ hx128) (fun _ => rfl)) (kx (mvO rfl) (Rn (hN rfl hZ) fun e130 h132 => sN (xx ?_))))))))
  clear h126
  obtain rfl := si h
  exact eR (resT h132 res0) rfl
 refine cT h9 (congrArg Bool.not hb10) (sq (Rg (kx (mvO rfl) (Rn (hN rfl hZ) fun e133 h135 => sN (xx (sR ?_))))))
 clear h8 h9
 obtain rfl := si h
 exact eR (resT h135 res0) rfl
/-! ### loop.example/g01263/impl.dealText (f130) -/
noncomputable def impl_dealText (a1 : Deal) : Option ((List UInt8)) :=
 if (a1.Kind == 1) = true then
  (impl_decimal a1.Day).bind fun r15 =>
  (sadd r15 ([32, 99, 117, 116, 32] : List UInt8)).bind fun w16 =>
  (impl_decimal a1.From).bind fun r19 =>
  (sadd w16 r19).bind fun w20 =>
  (sadd w20 ([32] : List UInt8)).bind fun w22 =>
  (impl_decimal a1.To).bind fun r25 =>
  (sadd w22 r25).bind fun w26 =>
  (sadd w26 ([32] : List UInt8)).bind fun w28 =>
  (impl_AmountText a1.Amount).bind fun r31 =>
  (sadd w28 r31).bind fun w32 =>
  some w32
 else
  if (a1.Kind == 2) = true then
   (impl_decimal a1.Day).bind fun r44 =>
   (sadd r44 ([32, 112, 97, 115, 115, 32] : List UInt8)).bind fun w45 =>
   (impl_decimal a1.Tally).bind fun r48 =>
   (sadd w45 r48).bind fun w49 =>
   (sadd w49 ([32] : List UInt8)).bind fun w51 =>
   (impl_decimal a1.From).bind fun r54 =>
   (sadd w51 r54).bind fun w55 =>
   (sadd w55 ([32] : List UInt8)).bind fun w57 =>
   (impl_decimal a1.To).bind fun r60 =>
   (sadd w57 r60).bind fun w61 =>
   some w61
  else
   if (a1.Kind == 3) = true then
    (impl_decimal a1.Day).bind fun r72 =>
    (sadd r72 ([32, 112, 97, 121, 32] : List UInt8)).bind fun w73 =>
    (impl_decimal a1.Tally).bind fun r76 =>
    (sadd w73 r76).bind fun w77 =>
    (sadd w77 ([32] : List UInt8)).bind fun w79 =>
    (impl_AmountText a1.Amount).bind fun r82 =>
    (sadd w79 r82).bind fun w83 =>
    some w83
   else
    (impl_decimal a1.Day).bind fun r89 =>
    (sadd r89 ([32, 101, 110, 100, 32] : List UInt8)).bind fun w90 =>
    (impl_decimal a1.Tally).bind fun r93 =>
    (sadd w90 r93).bind fun w94 =>
    (sadd w94 ([32] : List UInt8)).bind fun w96 =>
    (impl_decimal a1.From).bind fun r99 =>
    (sadd w96 r99).bind fun w100 =>
    some w100
def impl_dealText_enc (r : (List UInt8)) : AV := .str r
theorem impl_dealText_ok (a1 : Deal) (r : (List UInt8)) (h : impl_dealText a1 = some r) : Ev (fun k => CN k 130 [.agg [.int .i64 a1.Day, .int .i8 a1.Kind, .int .i64 a1.Tally, .int .i64 a1.From, .int .i64 a1.To, .int .i64 a1.Amount]] []) (fun p => rRes p.2 p.1 = impl_dealText_enc r) := by
 unfold impl_dealText at h
 refine Ev.enter (F := fun k => f130 (CN k) k) (fun k => callN_eq rfl Tryd.func130 rfl rfl rfl (by decide +kernel) (f130_eq _ _)) (sq (Rg (kx (bxI rfl rfl ⟨rfl, rfl, by decide⟩) (kx (mvO rfl) (Rn (hN rfl hZ) fun e1 h3 => sN (sq (sq (Rg (kx (faP h3 ⟨ble rfl, blt rfl⟩ rfl) (kx (ldP rfl rfl) (Rn (hA h3 (hN rfl hZ)) fun e4 h6 h7 => sN (bl (sq (Rg (kx (bEql h7 rfl) (kx (mvO rfl) (Rn (hA h6 (hA h7 (hN rfl hZ))) fun e8 h10 h11 h12 => sN ?_)))))))))))))))))
 clear h3 h6 h7
 rcases ite_some h with ⟨hb13, h⟩ | ⟨hb13, h⟩
 ·obtain ⟨r15, hx14, h⟩ := bind_some h
  obtain ⟨w16, hx17, h⟩ := bind_some h
  obtain ⟨r19, hx18, h⟩ := bind_some h
  obtain ⟨w20, hx21, h⟩ := bind_some h
  obtain ⟨w22, hx23, h⟩ := bind_some h
  obtain ⟨r25, hx24, h⟩ := bind_some h
  obtain ⟨w26, hx27, h⟩ := bind_some h
  obtain ⟨w28, hx29, h⟩ := bind_some h
  obtain ⟨r31, hx30, h⟩ := bind_some h
  obtain ⟨w32, hx33, h⟩ := bind_some h
  refine cT h12 hb13 (sq (Rd (kf (faP h10 ⟨ble rfl, blt rfl⟩ rfl) (kf (ldP rfl rfl) (fc (cl (v := .str r15) rfl (cns rfl rfl) rfl (impl_decimal_ok a1.Day _ hx14) nm) (kf (sAdd rfl rfl hx17) (kf (faP h10 ⟨ble rfl, blt rfl⟩ rfl) (kf (ldP rfl rfl) (fc (cl (v := .str r19) rfl (cns rfl rfl) rfl (impl_decimal_ok a1.From _ hx18) nm) (kf (sAdd rfl rfl hx21) (kf (sAdd rfl rfl hx23) (kf (faP h10 ⟨ble rfl, blt rfl⟩ rfl) (kf (ldP rfl rfl) (fc (cl (v := .str r25) rfl (cns rfl rfl) rfl (impl_decimal_ok a1.To _ hx24) nm) (kf (sAdd rfl rfl hx27) (kf (sAdd rfl rfl hx29) (kf (faP h10 ⟨ble rfl, blt rfl⟩ rfl) (kf (ldP rfl rfl) (fc (cl (v := .str r31) rfl (cns rfl rfl) rfl (impl_AmountText_ok a1.Amount _ hx30) nm) (kf (sAdd rfl rfl hx33) (kf (mvO rfl) (fZ (Rn (hN rfl hZ) fun e34 h36 => sN (xx (bR (sR ?_))))))))))))))))))))))))))
  clear h10 h11 h12
  obtain rfl := si h
  exact eR (resT h36 res0) rfl
 refine cF h12 hb13 (sq (Rg (kx (bEql h11 rfl) (kx (mvO rfl) (Rn (hA h10 (hA h11 (hN rfl hZ))) fun e37 h39 h40 h41 => sN ?_)))))
 clear h10 h11 h12
 rcases ite_some h with ⟨hb42, h⟩ | ⟨hb42, h⟩
 ·obtain ⟨r44, hx43, h⟩ := bind_some h
  obtain ⟨w45, hx46, h⟩ := bind_some h
  obtain ⟨r48, hx47, h⟩ := bind_some h
  obtain ⟨w49, hx50, h⟩ := bind_some h
  obtain ⟨w51, hx52, h⟩ := bind_some h
  obtain ⟨r54, hx53, h⟩ := bind_some h
  obtain ⟨w55, hx56, h⟩ := bind_some h
  obtain ⟨w57, hx58, h⟩ := bind_some h
  obtain ⟨r60, hx59, h⟩ := bind_some h
  obtain ⟨w61, hx62, h⟩ := bind_some h
  refine cT h41 hb42 (sq (Rd (kf (faP h39 ⟨ble rfl, blt rfl⟩ rfl) (kf (ldP rfl rfl) (fc (cl (v := .str r44) rfl (cns rfl rfl) rfl (impl_decimal_ok a1.Day _ hx43) nm) (kf (sAdd rfl rfl hx46) (kf (faP h39 ⟨ble rfl, blt rfl⟩ rfl) (kf (ldP rfl rfl) (fc (cl (v := .str r48) rfl (cns rfl rfl) rfl (impl_decimal_ok a1.Tally _ hx47) nm) (kf (sAdd rfl rfl hx50) (kf (sAdd rfl rfl hx52) (kf (faP h39 ⟨ble rfl, blt rfl⟩ rfl) (kf (ldP rfl rfl) (fc (cl (v := .str r54) rfl (cns rfl rfl) rfl (impl_decimal_ok a1.From _ hx53) nm) (kf (sAdd rfl rfl hx56) (kf (sAdd rfl rfl hx58) (kf (faP h39 ⟨ble rfl, blt rfl⟩ rfl) (kf (ldP rfl rfl) (fc (cl (v := .str r60) rfl (cns rfl rfl) rfl (impl_decimal_ok a1.To _ hx59) nm) (kf (sAdd rfl rfl hx62) (kf (mvO rfl) (fZ (Rn (hN rfl hZ) fun e63 h65 => sN (xx (bR (sR ?_))))))))))))))))))))))))))
  clear h39 h40 h41
  obtain rfl := si h
  exact eR (resT h65 res0) rfl
 refine cF h41 hb42 (sq (Rg (kx (bEql h40 rfl) (kx (mvO rfl) (Rn (hA h39 (hN rfl hZ)) fun e66 h68 h69 => sN ?_)))))
 clear h39 h40 h41
 rcases ite_some h with ⟨hb70, h⟩ | ⟨hb70, h⟩
 ·obtain ⟨r72, hx71, h⟩ := bind_some h
  obtain ⟨w73, hx74, h⟩ := bind_some h
  obtain ⟨r76, hx75, h⟩ := bind_some h
  obtain ⟨w77, hx78, h⟩ := bind_some h
  obtain ⟨w79, hx80, h⟩ := bind_some h
  obtain ⟨r82, hx81, h⟩ := bind_some h
  obtain ⟨w83, hx84, h⟩ := bind_some h
  refine cT h69 hb70 (sq (Rd (kf (faP h68 ⟨ble rfl, blt rfl⟩ rfl) (kf (ldP rfl rfl) (fc (cl (v := .str r72) rfl (cns rfl rfl) rfl (impl_decimal_ok a1.Day _ hx71) nm) (kf (sAdd rfl rfl hx74) (kf (faP h68 ⟨ble rfl, blt rfl⟩ rfl) (kf (ldP rfl rfl) (fc (cl (v := .str r76) rfl (cns rfl rfl) rfl (impl_decimal_ok a1.Tally _ hx75) nm) (kf (sAdd rfl rfl hx78) (kf (sAdd rfl rfl hx80) (kf (faP h68 ⟨ble rfl, blt rfl⟩ rfl) (kf (ldP rfl rfl) (fc (cl (v := .str r82) rfl (cns rfl rfl) rfl (impl_AmountText_ok a1.Amount _ hx81) nm) (kf (sAdd rfl rfl hx84) (kf (mvO rfl) (fZ (Rn (hN rfl hZ) fun e85 h87 => sN (xx (bR (sR ?_)))))))))))))))))))))
  clear h68 h69
  obtain rfl := si h
  exact eR (resT h87 res0) rfl
 obtain ⟨r89, hx88, h⟩ := bind_some h
 obtain ⟨w90, hx91, h⟩ := bind_some h
 obtain ⟨r93, hx92, h⟩ := bind_some h
 obtain ⟨w94, hx95, h⟩ := bind_some h
 obtain ⟨w96, hx97, h⟩ := bind_some h
 obtain ⟨r99, hx98, h⟩ := bind_some h
 obtain ⟨w100, hx101, h⟩ := bind_some h
 refine cF h69 hb70 (xx (bN (sN (sq (Rd (kf (faP h68 ⟨ble rfl, blt rfl⟩ rfl) (kf (ldP rfl rfl) (fc (cl (v := .str r89) rfl (cns rfl rfl) rfl (impl_decimal_ok a1.Day _ hx88) nm) (kf (sAdd rfl rfl hx91) (kf (faP h68 ⟨ble rfl, blt rfl⟩ rfl) (kf (ldP rfl rfl) (fc (cl (v := .str r93) rfl (cns rfl rfl) rfl (impl_decimal_ok a1.Tally _ hx92) nm) (kf (sAdd rfl rfl hx95) (kf (sAdd rfl rfl hx97) (kf (faP h68 ⟨ble rfl, blt rfl⟩ rfl) (kf (ldP rfl rfl) (fc (cl (v := .str r99) rfl (cns rfl rfl) rfl (impl_decimal_ok a1.From _ hx98) nm) (kf (sAdd rfl rfl hx101) (kf (mvO rfl) (fZ (Rn (hN rfl hZ) fun e102 h104 => sN (xx ?_))))))))))))))))))))))
 clear h68 h69
 obtain rfl := si h
 exact eR (resT h104 res0) rfl
/-! ### loop.example/g01263/impl.ValidDeal (f129) -/
def impl_ValidDeal_c1_Q (a1 : Deal) (g : Bool) (q : Out) : Prop := q.1 = .nrm ∧ eget q.2.1 1 = .pt none [.int .i64 a1.Day, .int .i8 a1.Kind, .int .i64 a1.Tally, .int .i64 a1.From, .int .i64 a1.To, .int .i64 a1.Amount] ∧ eget q.2.1 21 = .bool g
noncomputable def impl_ValidDeal (a1 : Deal) : Option Bool :=
 (if (decide (a1.Kind < 1)) = true then
  some true
 else
  if (decide (a1.Kind > 4)) = true then
   some true
  else
   (impl_isBookDay a1.Day).bind fun r15 =>
   some (!r15)).bind fun y22 =>
 if y22 = true then
  some false
 else
  (impl_uses a1.Kind).bind fun (r34, r35, r36, r37) =>
  (impl_ValidDeal_1 r34 a1.Tally 0 39).bind fun r47 =>
  if r47 = true then
   (impl_ValidDeal_1 r35 a1.From 0 15).bind fun r50 =>
   if r50 = true then
    (impl_ValidDeal_1 r36 a1.To 0 15).bind fun r53 =>
    if r53 = true then
     (impl_ValidDeal_1 r37 a1.Amount 1 100000000).bind fun r56 =>
     some r56
    else
     some false
   else
    some false
  else
   some false
def impl_ValidDeal_enc (r : Bool) : AV := .bool r
theorem impl_ValidDeal_ok (a1 : Deal) (r : Bool) (h : impl_ValidDeal a1 = some r) : Ev (fun k => CN k 129 [.agg [.int .i64 a1.Day, .int .i8 a1.Kind, .int .i64 a1.Tally, .int .i64 a1.From, .int .i64 a1.To, .int .i64 a1.Amount]] []) (fun p => rRes p.2 p.1 = impl_ValidDeal_enc r) := by
 unfold impl_ValidDeal at h
 obtain ⟨r70, hr71, h⟩ := bind_some h
 refine Ev.enter (F := fun k => f129 (CN k) k) (fun k => callN_eq rfl Tryd.func129 rfl rfl rfl (by decide +kernel) (f129_eq _ _)) (sq (Rg (kx (bxI rfl rfl ⟨rfl, rfl, by decide⟩) (kx (mvO rfl) (Rn (hN rfl hZ) fun e1 h3 => sN (sq (sq ?_)))))))
 refine Ev.cut (Q1 := impl_ValidDeal_c1_Q a1 r70) (by
     have h := hr71
     refine Rg (kx (faP h3 ⟨ble rfl, blt rfl⟩ rfl) (kx (ldP rfl rfl) (kx (bLss rfl rfl) (kx (mvO rfl) ?_))))
     rcases ite_some h with ⟨hb4, h⟩ | ⟨hb4, h⟩
     ·refine kx (gsF rfl hb4) (kx (gsF rfl hb4) (kx (gsF rfl hb4) (kx (pkT rfl hb4 rfl) (kx (mvO rfl) (kx (gsF rfl rfl) (kx (gsF rfl rfl) (kc (Ev.gsF rfl rfl) (kx (gsF rfl rfl) (kx (pkT rfl rfl rfl) (Rn (hA h3 (hV (.bool true) rfl hZ)) fun e5 h7 h8 => ?_))))))))))
      clear h3
      obtain rfl := si h
      exact kd (show impl_ValidDeal_c1_Q a1 _ _ from ⟨rfl, h7, h8⟩)
     refine kx (guF rfl hb4 (faP h3 ⟨ble rfl, blt rfl⟩ rfl)) (kx (guF rfl hb4 (ldP rfl rfl)) (kx (guF rfl hb4 (bGtr rfl rfl)) (kx (pkF rfl hb4 rfl) (kx (mvO rfl) ?_))))
     rcases ite_some h with ⟨hb9, h⟩ | ⟨hb9, h⟩
     ·refine kx (gsF rfl hb9) (kx (gsF rfl hb9) (kc (Ev.gsF rfl hb9) (kx (gsF rfl hb9) (kx (pkT rfl hb9 rfl) (Rn (hA h3 (hV (.bool true) rfl hZ)) fun e10 h12 h13 => ?_)))))
      clear h3
      obtain rfl := si h
      exact kd (show impl_ValidDeal_c1_Q a1 _ _ from ⟨rfl, h12, h13⟩)
     obtain ⟨r15, hx14, h⟩ := bind_some h
     refine kx (guF rfl hb9 (faP h3 ⟨ble rfl, blt rfl⟩ rfl)) (kx (guF rfl hb9 (ldP rfl rfl)) (kc (Ev.guF rfl hb9 (cl (v := .bool r15) rfl (cns rfl rfl) rfl (impl_isBookDay_ok a1.Day _ hx14) nm)) (kx (guF rfl hb9 (uNot rfl)) (kx (pkF rfl hb9 rfl) (Rn (hA h3 (hN rfl hZ)) fun e16 h18 h19 => ?_)))))
     clear h3
     obtain rfl := si h
     exact kd (show impl_ValidDeal_c1_Q a1 _ _ from ⟨rfl, h18, h19⟩)) ?_
 revert h hr71
 revert r70
 intro y22 hr71 h
 intro x e20 M21 hq69
 obtain ⟨rfl, h23, h24⟩ := hq69
 refine sN ?_
 rcases ite_some h with ⟨hb25, h⟩ | ⟨hb25, h⟩
 ·refine cT h24 hb25 (sq (Rg (kx (mvO rfl) (Rn (hV (.bool false) rfl hZ) fun e26 h28 => sN (xx (sR ?_))))))
  clear h23 h24
  obtain rfl := si h
  exact eR (resT h28 res0) rfl
 obtain ⟨⟨r34, r35, r36, r37⟩, hx33, h⟩ := bind_some h
 obtain ⟨r47, hx46, h⟩ := bind_some h
 refine cF h24 hb25 (xx (sN (sq (Rg (kx (mvO rfl) (Rn (hV (.pt none [.int .i64 a1.Day, .int .i8 a1.Kind, .int .i64 a1.Tally, .int .i64 a1.From, .int .i64 a1.To, .int .i64 a1.Amount]) h23 (hV (.fn 160 []) rfl hZ)) fun e29 h31 h32 => sN (sq (Rg (kx (faP h31 ⟨ble rfl, blt rfl⟩ rfl) (kx (ldP rfl rfl) (kc (cl (v := .tup [.bool r34, .bool r35, .bool r36, .bool r37]) rfl (cns rfl rfl) rfl (impl_uses_ok a1.Kind _ hx33) nm) (kx (mvO rfl) (kx (exT rfl rfl) (kx (exT rfl rfl) (kx (exT rfl rfl) (kx (exT rfl rfl) (kx (mvO rfl) (kx (mvO rfl) (kx (mvO rfl) (kx (mvO rfl) (Rn (hA h31 (hA h32 (hN rfl (hN rfl (hN rfl (hN rfl hZ)))))) fun e38 h40 h41 h42 h43 h44 h45 => sN (sq (Rg (kx (mvO h41) (kx (mvO h42) (kx (faP h40 ⟨ble rfl, blt rfl⟩ rfl) (kx (ldP rfl rfl) (kc (cl (v := .bool r47) rfl (cns rfl (cns rfl (cns rfl (cns rfl rfl)))) rfl (impl_ValidDeal_1_ok r34 a1.Tally 0 39 _ hx46) nm) (kx (mvO rfl) ?_)))))))))))))))))))))))))))))
 clear h23 h24 h31 h32
 rcases ite_some h with ⟨hb48, h⟩ | ⟨hb48, h⟩
 ·obtain ⟨r50, hx49, h⟩ := bind_some h
  refine kx (guT rfl hb48 (mvO h41)) (kx (guT rfl hb48 (mvO h43)) (kx (guT rfl hb48 (faP h40 ⟨ble rfl, blt rfl⟩ rfl)) (kx (guT rfl hb48 (ldP rfl rfl)) (kc (Ev.guT rfl hb48 (cl (v := .bool r50) rfl (cns rfl (cns rfl (cns rfl (cns rfl rfl)))) rfl (impl_ValidDeal_1_ok r35 a1.From 0 15 _ hx49) nm)) (kx (pkT rfl hb48 rfl) (kx (mvO rfl) ?_))))))
  rcases ite_some h with ⟨hb51, h⟩ | ⟨hb51, h⟩
  ·obtain ⟨r53, hx52, h⟩ := bind_some h
   refine kx (guT rfl hb51 (mvO h41)) (kx (guT rfl hb51 (mvO h44)) (kx (guT rfl hb51 (faP h40 ⟨ble rfl, blt rfl⟩ rfl)) (kx (guT rfl hb51 (ldP rfl rfl)) (kc (Ev.guT rfl hb51 (cl (v := .bool r53) rfl (cns rfl (cns rfl (cns rfl (cns rfl rfl)))) rfl (impl_ValidDeal_1_ok r36 a1.To 0 15 _ hx52) nm)) (kx (pkT rfl hb51 rfl) (kx (mvO rfl) ?_))))))
   rcases ite_some h with ⟨hb54, h⟩ | ⟨hb54, h⟩
   ·obtain ⟨r56, hx55, h⟩ := bind_some h
    refine kx (guT rfl hb54 (mvO h41)) (kx (guT rfl hb54 (mvO h45)) (kx (guT rfl hb54 (faP h40 ⟨ble rfl, blt rfl⟩ rfl)) (kx (guT rfl hb54 (ldP rfl rfl)) (kc (Ev.guT rfl hb54 (cl (v := .bool r56) rfl (cns rfl (cns rfl (cns rfl (cns rfl rfl)))) rfl (impl_ValidDeal_1_ok r37 a1.Amount 1 100000000 _ hx55) nm)) (kx (pkT rfl hb54 rfl) (kx (mvO rfl) (Rn (hN rfl hZ) fun e57 h59 => sN (xx ?_))))))))
    clear h40 h41 h42 h43 h44 h45
    obtain rfl := si h
    exact eR (resT h59 res0) rfl
   refine kx (gsT rfl hb54) (kx (gsT rfl hb54) (kx (gsT rfl hb54) (kx (gsT rfl hb54) (kc (Ev.gsT rfl hb54) (kx (pkF rfl hb54 rfl) (kx (mvO rfl) (Rn (hV (.bool false) rfl hZ) fun e60 h62 => sN (xx ?_))))))))
   clear h40 h41 h42 h43 h44 h45
   obtain rfl := si h
   exact eR (resT h62 res0) rfl
  refine kx (gsT rfl hb51) (kx (gsT rfl hb51) (kx (gsT rfl hb51) (kx (gsT rfl hb51) (kc (Ev.gsT rfl hb51) (kx (pkF rfl hb51 rfl) (kx (mvO rfl) (kx (gsT rfl rfl) (kx (gsT rfl rfl) (kx (gsT rfl rfl) (kx (gsT rfl rfl) (kc (Ev.gsT rfl rfl) (kx (pkF rfl rfl rfl) (kx (mvO rfl) (Rn (hV (.bool false) rfl hZ) fun e63 h65 => sN (xx ?_)))))))))))))))
  clear h40 h41 h42 h43 h44 h45
  obtain rfl := si h
  exact eR (resT h65 res0) rfl
 refine kx (gsT rfl hb48) (kx (gsT rfl hb48) (kx (gsT rfl hb48) (kx (gsT rfl hb48) (kc (Ev.gsT rfl hb48) (kx (pkF rfl hb48 rfl) (kx (mvO rfl) (kx (gsT rfl rfl) (kx (gsT rfl rfl) (kx (gsT rfl rfl) (kx (gsT rfl rfl) (kc (Ev.gsT rfl rfl) (kx (pkF rfl rfl rfl) (kx (mvO rfl) (kx (gsT rfl rfl) (kx (gsT rfl rfl) (kx (gsT rfl rfl) (kx (gsT rfl rfl) (kc (Ev.gsT rfl rfl) (kx (pkF rfl rfl rfl) (kx (mvO rfl) (Rn (hV (.bool false) rfl hZ) fun e66 h68 => sN (xx ?_))))))))))))))))))))))
 clear h40 h41 h42 h43 h44 h45
 obtain rfl := si h
 exact eR (resT h68 res0) rfl
/-! ### loop.example/g01263/spec.l07Deal (f128) -/
noncomputable def spec_l07Deal (a1 : Deal) : Option Bool :=
 (spec_l00In a1.Tally 0 39).bind fun r5 =>
 (spec_l00In a1.From 0 15).bind fun r11 =>
 (spec_l00In a1.To 0 15).bind fun r18 =>
 (spec_l00In a1.Amount 1 100000000).bind fun r26 =>
 (spec_l07Day a1.Day).bind fun r35 =>
 if r35 = true then
  if (a1.Kind == 1) = true then
   if (a1.Tally == 0) = true then
    if r11 = true then
     if r18 = true then
      some r26
     else
      some false
    else
     some false
   else
    some false
  else
   if (a1.Kind == 2) = true then
    if r5 = true then
     if r11 = true then
      if r18 = true then
       some (a1.Amount == 0)
      else
       some false
     else
      some false
    else
     some false
   else
    if (a1.Kind == 3) = true then
     if r5 = true then
      if (a1.From == 0) = true then
       if (a1.To == 0) = true then
        some r26
       else
        some false
      else
       some false
     else
      some false
    else
     if (a1.Kind == 4) = true then
      if r5 = true then
       if r11 = true then
        if (a1.To == 0) = true then
         some (a1.Amount == 0)
        else
         some false
       else
        some false
      else
       some false
     else
      some false
 else
  some false
def spec_l07Deal_enc (r : Bool) : AV := .bool r
theorem spec_l07Deal_ok (a1 : Deal) (r : Bool) (h : spec_l07Deal a1 = some r) : Ev (fun k => CN k 128 [.pt none [.int .i64 a1.Day, .int .i8 a1.Kind, .int .i64 a1.Tally, .int .i64 a1.From, .int .i64 a1.To, .int .i64 a1.Amount]] []) (fun p => rRes p.2 p.1 = spec_l07Deal_enc r) := by
 unfold spec_l07Deal at h
 obtain ⟨r5, hx4, h⟩ := bind_some h
 obtain ⟨r11, hx10, h⟩ := bind_some h
 obtain ⟨r18, hx17, h⟩ := bind_some h
 obtain ⟨r26, hx25, h⟩ := bind_some h
 obtain ⟨r35, hx34, h⟩ := bind_some h
 refine Ev.enter (F := fun k => f128 (CN k) k) (fun k => callN_eq rfl Tryd.func128 rfl rfl rfl (by decide +kernel) (f128_eq _ _)) (sq (Rg (kx (mvO rfl) (Rn (hN rfl hZ) fun e1 h3 => sN (sq (Rg (kx (mvO h3) (kx (ncP rfl) (kx (faP rfl ⟨ble rfl, blt rfl⟩ rfl) (kx (ldP rfl rfl) (kc (cl (v := .bool r5) rfl (cns rfl (cns rfl (cns rfl rfl))) rfl (spec_l00In_ok a1.Tally 0 39 _ hx4) nm) (kx (mvO rfl) (Rn (hA h3 (hN rfl hZ)) fun e6 h8 h9 => sN (sq (Rg (kx (mvO h8) (kx (ncP rfl) (kx (faP rfl ⟨ble rfl, blt rfl⟩ rfl) (kx (ldP rfl rfl) (kc (cl (v := .bool r11) rfl (cns rfl (cns rfl (cns rfl rfl))) rfl (spec_l00In_ok a1.From 0 15 _ hx10) nm) (kx (mvO rfl) (Rn (hA h8 (hA h9 (hN rfl hZ))) fun e12 h14 h15 h16 => sN (sq (Rg (kx (mvO h14) (kx (ncP rfl) (kx (faP rfl ⟨ble rfl, blt rfl⟩ rfl) (kx (ldP rfl rfl) (kc (cl (v := .bool r18) rfl (cns rfl (cns rfl (cns rfl rfl))) rfl (spec_l00In_ok a1.To 0 15 _ hx17) nm) (kx (mvO rfl) (Rn (hA h14 (hA h15 (hA h16 (hN rfl hZ)))) fun e19 h21 h22 h23 h24 => sN (sq (Rg (kx (mvO h21) (kx (ncP rfl) (kx (faP rfl ⟨ble rfl, blt rfl⟩ rfl) (kx (ldP rfl rfl) (kc (cl (v := .bool r26) rfl (cns rfl (cns rfl (cns rfl rfl))) rfl (spec_l00In_ok a1.Amount 1 100000000 _ hx25) nm) (kx (mvO rfl) (Rn (hA h21 (hA h22 (hA h23 (hA h24 (hN rfl hZ))))) fun e27 h29 h30 h31 h32 h33 => sN (sq (sq (Rg (kx (mvO h29) (kx (ncP rfl) (kx (faP rfl ⟨ble rfl, blt rfl⟩ rfl) (kx (ldP rfl rfl) (kc (cl (v := .bool r35) rfl (cns rfl rfl) rfl (spec_l07Day_ok a1.Day _ hx34) nm) (kx (uNot rfl) (Rn (hA h29 (hA h30 (hA h31 (hA h32 (hA h33 (hN rfl hZ)))))) fun e36 h38 h39 h40 h41 h42 h43 => sN ?_))))))))))))))))))))))))))))))))))))))))))))))))))
 clear h3 h8 h9 h14 h15 h16 h21 h22 h23 h24 h29 h30 h31 h32 h33
 rcases ite_some h with ⟨hb44, h⟩ | ⟨hb44, h⟩
 ·refine cF h43 (congrArg Bool.not hb44) (xx (sN (sq (sq (Rg (kx (mvO h38) (kx (ncP rfl) (kx (faP rfl ⟨ble rfl, blt rfl⟩ rfl) (kx (ldP rfl rfl) (Rn (hA h38 (hA h39 (hA h40 (hA h41 (hA h42 (hN rfl hZ)))))) fun e45 h47 h48 h49 h50 h51 h52 => sN (bl (sq (Rg (kx (bEql h52 rfl) (kx (mvO rfl) (Rn (hA h47 (hA h48 (hA h49 (hA h50 (hA h51 (hA h52 (hN rfl hZ))))))) fun e53 h55 h56 h57 h58 h59 h60 h61 => sN ?_))))))))))))))))
  clear h38 h39 h40 h41 h42 h43 h47 h48 h49 h50 h51 h52
  rcases ite_some h with ⟨hb62, h⟩ | ⟨hb62, h⟩
  ·refine cT h61 hb62 (sq (Rg (kx (mvO h55) (kx (ncP rfl) (kx (faP rfl ⟨ble rfl, blt rfl⟩ rfl) (kx (ldP rfl rfl) (kx (bEql rfl rfl) (kx (mvO rfl) ?_))))))))
   rcases ite_some h with ⟨hb63, h⟩ | ⟨hb63, h⟩
   ·refine kx (guT rfl hb63 (mvO h57)) (kx (pkT rfl hb63 rfl) (kx (mvO rfl) ?_))
    rcases ite_some h with ⟨hb64, h⟩ | ⟨hb64, h⟩
    ·refine kx (guT rfl hb64 (mvO h58)) (kx (pkT rfl hb64 rfl) (kx (mvO rfl) ?_))
     rcases ite_some h with ⟨hb65, h⟩ | ⟨hb65, h⟩
     ·refine kx (guT rfl hb65 (mvO h59)) (kx (pkT rfl hb65 rfl) (kx (mvO rfl) (Rn (hN rfl hZ) fun e66 h68 => sN (xx (bR (sR ?_))))))
      clear h55 h56 h57 h58 h59 h60 h61
      obtain rfl := si h
      exact eR (resT h68 res0) rfl
     refine kx (gsT rfl hb65) (kx (pkF rfl hb65 rfl) (kx (mvO rfl) (Rn (hV (.bool false) rfl hZ) fun e69 h71 => sN (xx (bR (sR ?_))))))
     clear h55 h56 h57 h58 h59 h60 h61
     obtain rfl := si h
     exact eR (resT h71 res0) rfl
    refine kx (gsT rfl hb64) (kx (pkF rfl hb64 rfl) (kx (mvO rfl) (kx (gsT rfl rfl) (kx (pkF rfl rfl rfl) (kx (mvO rfl) (Rn (hV (.bool false) rfl hZ) fun e72 h74 => sN (xx (bR (sR ?_)))))))))
    clear h55 h56 h57 h58 h59 h60 h61
    obtain rfl := si h
    exact eR (resT h74 res0) rfl
   refine kx (gsT rfl hb63) (kx (pkF rfl hb63 rfl) (kx (mvO rfl) (kx (gsT rfl rfl) (kx (pkF rfl rfl rfl) (kx (mvO rfl) (kx (gsT rfl rfl) (kx (pkF rfl rfl rfl) (kx (mvO rfl) (Rn (hV (.bool false) rfl hZ) fun e75 h77 => sN (xx (bR (sR ?_))))))))))))
   clear h55 h56 h57 h58 h59 h60 h61
   obtain rfl := si h
   exact eR (resT h77 res0) rfl
  refine cF h61 hb62 (sq (Rg (kx (bEql h60 rfl) (kx (mvO rfl) (Rn (hA h55 (hA h56 (hA h57 (hA h58 (hA h59 (hA h60 (hN rfl hZ))))))) fun e78 h80 h81 h82 h83 h84 h85 h86 => sN ?_)))))
  clear h55 h56 h57 h58 h59 h60 h61
  rcases ite_some h with ⟨hb87, h⟩ | ⟨hb87, h⟩
  ·refine cT h86 hb87 (sq (Rg (kx (mvO h81) (kx (mvO rfl) ?_))))
   rcases ite_some h with ⟨hb88, h⟩ | ⟨hb88, h⟩
   ·refine kx (guT rfl hb88 (mvO h82)) (kx (pkT rfl hb88 rfl) (kx (mvO rfl) ?_))
    rcases ite_some h with ⟨hb89, h⟩ | ⟨hb89, h⟩
    ·refine kx (guT rfl hb89 (mvO h83)) (kx (pkT rfl hb89 rfl) (kx (mvO rfl) ?_))
     rcases ite_some h with ⟨hb90, h⟩ | ⟨hb90, h⟩
     ·refine kx (guT rfl hb90 (mvO h80)) (kx (guT rfl hb90 (ncP rfl)) (kx (guT rfl hb90 (faP rfl ⟨ble rfl, blt rfl⟩ rfl)) (kx (guT rfl hb90 (ldP rfl rfl)) (kx (guT rfl hb90 (bEql rfl rfl)) (kx (pkT rfl hb90 rfl) (kx (mvO rfl) (Rn (hN rfl hZ) fun e91 h93 => sN (xx (bR (sR ?_))))))))))
      clear h80 h81 h82 h83 h84 h85 h86
      obtain rfl := si h
      exact eR (resT h93 res0) rfl
     refine kx (gsT rfl hb90) (kx (gsT rfl hb90) (kx (gsT rfl hb90) (kx (gsT rfl hb90) (kx (gsT rfl hb90) (kx (pkF rfl hb90 rfl) (kx (mvO rfl) (Rn (hV (.bool false) rfl hZ) fun e94 h96 => sN (xx (bR (sR ?_))))))))))
     clear h80 h81 h82 h83 h84 h85 h86
     obtain rfl := si h
     exact eR (resT h96 res0) rfl
    refine kx (gsT rfl hb89) (kx (pkF rfl hb89 rfl) (kx (mvO rfl) (kx (gsT rfl rfl) (kx (gsT rfl rfl) (kx (gsT rfl rfl) (kx (gsT rfl rfl) (kx (gsT rfl rfl) (kx (pkF rfl rfl rfl) (kx (mvO rfl) (Rn (hV (.bool false) rfl hZ) fun e97 h99 => sN (xx (bR (sR ?_)))))))))))))
    clear h80 h81 h82 h83 h84 h85 h86
    obtain rfl := si h
    exact eR (resT h99 res0) rfl
   refine kx (gsT rfl hb88) (kx (pkF rfl hb88 rfl) (kx (mvO rfl) (kx (gsT rfl rfl) (kx (pkF rfl rfl rfl) (kx (mvO rfl) (kx (gsT rfl rfl) (kx (gsT rfl rfl) (kx (gsT rfl rfl) (kx (gsT rfl rfl) (kx (gsT rfl rfl) (kx (pkF rfl rfl rfl) (kx (mvO rfl) (Rn (hV (.bool false) rfl hZ) fun e100 h102 => sN (xx (bR (sR ?_))))))))))))))))
   clear h80 h81 h82 h83 h84 h85 h86
   obtain rfl := si h
   exact eR (resT h102 res0) rfl
  refine cF h86 hb87 (sq (Rg (kx (bEql h85 rfl) (kx (mvO rfl) (Rn (hA h80 (hA h81 (hA h82 (hA h84 (hA h85 (hN rfl hZ)))))) fun e103 h105 h106 h107 h108 h109 h110 => sN ?_)))))
  clear h80 h81 h82 h83 h84 h85 h86
  rcases ite_some h with ⟨hb111, h⟩ | ⟨hb111, h⟩
  ·refine cT h110 hb111 (sq (Rg (kx (mvO h106) (kx (mvO rfl) ?_))))
   rcases ite_some h with ⟨hb112, h⟩ | ⟨hb112, h⟩
   ·refine kx (guT rfl hb112 (mvO h105)) (kx (guT rfl hb112 (ncP rfl)) (kx (guT rfl hb112 (faP rfl ⟨ble rfl, blt rfl⟩ rfl)) (kx (guT rfl hb112 (ldP rfl rfl)) (kx (guT rfl hb112 (bEql rfl rfl)) (kx (pkT rfl hb112 rfl) (kx (mvO rfl) ?_))))))
    rcases ite_some h with ⟨hb113, h⟩ | ⟨hb113, h⟩
    ·refine kx (guT rfl hb113 (mvO h105)) (kx (guT rfl hb113 (ncP rfl)) (kx (guT rfl hb113 (faP rfl ⟨ble rfl, blt rfl⟩ rfl)) (kx (guT rfl hb113 (ldP rfl rfl)) (kx (guT rfl hb113 (bEql rfl rfl)) (kx (pkT rfl hb113 rfl) (kx (mvO rfl) ?_))))))
     rcases ite_some h with ⟨hb114, h⟩ | ⟨hb114, h⟩
     ·refine kx (guT rfl hb114 (mvO h108)) (kx (pkT rfl hb114 rfl) (kx (mvO rfl) (Rn (hN rfl hZ) fun e115 h117 => sN (xx (bR (sR ?_))))))
      clear h105 h106 h107 h108 h109 h110
      obtain rfl := si h
      exact eR (resT h117 res0) rfl
     refine kx (gsT rfl hb114) (kx (pkF rfl hb114 rfl) (kx (mvO rfl) (Rn (hV (.bool false) rfl hZ) fun e118 h120 => sN (xx (bR (sR ?_))))))
     clear h105 h106 h107 h108 h109 h110
     obtain rfl := si h
     exact eR (resT h120 res0) rfl
    refine kx (gsT rfl hb113) (kx (gsT rfl hb113) (kx (gsT rfl hb113) (kx (gsT rfl hb113) (kx (gsT rfl hb113) (kx (pkF rfl hb113 rfl) (kx (mvO rfl) (kx (gsT rfl rfl) (kx (pkF rfl rfl rfl) (kx (mvO rfl) (Rn (hV (.bool false) rfl hZ) fun e121 h123 => sN (xx (bR (sR ?_)))))))))))))
    clear h105 h106 h107 h108 h109 h110
    obtain rfl := si h
    exact eR (resT h123 res0) rfl
   refine kx (gsT rfl hb112) (kx (gsT rfl hb112) (kx (gsT rfl hb112) (kx (gsT rfl hb112) (kx (gsT rfl hb112) (kx (pkF rfl hb112 rfl) (kx (mvO rfl) (kx (gsT rfl rfl) (kx (gsT rfl rfl) (kx (gsT rfl rfl) (kx (gsT rfl rfl) (kx (gsT rfl rfl) (kx (pkF rfl rfl rfl) (kx (mvO rfl) (kx (gsT rfl rfl) (kx (pkF rfl rfl rfl) (kx (mvO rfl) (Rn (hV (.bool false) rfl hZ) fun e124 h126 => sN (xx (bR (sR ?_))))))))))))))))))))
   clear h105 h106 h107 h108 h109 h110
   obtain rfl := si h
   exact eR (resT h126 res0) rfl
  refine cF h110 hb111 (sq (Rg (kx (bEql h109 rfl) (kx (mvO rfl) (Rn (hA h105 (hA h106 (hA h107 (hN rfl hZ)))) fun e127 h129 h130 h131 h132 => sN ?_)))))
  clear h105 h106 h107 h108 h109 h110
  rcases ite_some h with ⟨hb133, h⟩ | ⟨hb133, h⟩
  ·refine cT h132 hb133 (sq (Rg (kx (mvO h130) (kx (mvO rfl) ?_))))
   rcases ite_some h with ⟨hb134, h⟩ | ⟨hb134, h⟩
   ·refine kx (guT rfl hb134 (mvO h131)) (kx (pkT rfl hb134 rfl) (kx (mvO rfl) ?_))
    rcases ite_some h with ⟨hb135, h⟩ | ⟨hb135, h⟩
    ·refine kx (guT rfl hb135 (mvO h129)) (kx (guT rfl hb135 (ncP rfl)) (kx (guT rfl hb135 (faP rfl ⟨ble rfl, blt rfl⟩ rfl)) (kx (guT rfl hb135 (ldP rfl rfl)) (kx (guT rfl hb135 (bEql rfl rfl)) (kx (pkT rfl hb135 rfl) (kx (mvO rfl) ?_))))))
     rcases ite_some h with ⟨hb136, h⟩ | ⟨hb136, h⟩
     ·refine kx (guT rfl hb136 (mvO h129)) (kx (guT rfl hb136 (ncP rfl)) (kx (guT rfl hb136 (faP rfl ⟨ble rfl, blt rfl⟩ rfl)) (kx (guT rfl hb136 (ldP rfl rfl)) (kx (guT rfl hb136 (bEql rfl rfl)) (kx (pkT rfl hb136 rfl) (kx (mvO rfl) (Rn (hN rfl hZ) fun e137 h139 => sN (xx (bR (sR ?_))))))))))
      clear h129 h130 h131 h132
      obtain rfl := si h
      exact eR (resT h139 res0) rfl
     refine kx (gsT rfl hb136) (kx (gsT rfl hb136) (kx (gsT rfl hb136) (kx (gsT rfl hb136) (kx (gsT rfl hb136) (kx (pkF rfl hb136 rfl) (kx (mvO rfl) (Rn (hV (.bool false) rfl hZ) fun e140 h142 => sN (xx (bR (sR ?_))))))))))
     clear h129 h130 h131 h132
     obtain rfl := si h
     exact eR (resT h142 res0) rfl
    refine kx (gsT rfl hb135) (kx (gsT rfl hb135) (kx (gsT rfl hb135) (kx (gsT rfl hb135) (kx (gsT rfl hb135) (kx (pkF rfl hb135 rfl) (kx (mvO rfl) (kx (gsT rfl rfl) (kx (gsT rfl rfl) (kx (gsT rfl rfl) (kx (gsT rfl rfl) (kx (gsT rfl rfl) (kx (pkF rfl rfl rfl) (kx (mvO rfl) (Rn (hV (.bool false) rfl hZ) fun e143 h145 => sN (xx (bR (sR ?_)))))))))))))))))
    clear h129 h130 h131 h132
    obtain rfl := si h
    exact eR (resT h145 res0) rfl
   refine kx (gsT rfl hb134) (kx (pkF rfl hb134 rfl) (kx (mvO rfl) (kx (gsT rfl rfl) (kx (gsT rfl rfl) (kx (gsT rfl rfl) (kx (gsT rfl rfl) (kx (gsT rfl rfl) (kx (pkF rfl rfl rfl) (kx (mvO rfl) (kx (gsT rfl rfl) (kx (gsT rfl rfl) (kx (gsT rfl rfl) (kx (gsT rfl rfl) (kx (gsT rfl rfl) (kx (pkF rfl rfl rfl) (kx (mvO rfl) (Rn (hV (.bool false) rfl hZ) fun e146 h148 => sN (xx (bR (sR ?_))))))))))))))))))))
   clear h129 h130 h131 h132
   obtain rfl := si h
   exact eR (resT h148 res0) rfl
  refine cF h132 hb133 (xx (bN (sN (sq (Rg (kx (mvO rfl) (Rn (hV (.bool false) rfl hZ) fun e149 h151 => sN (xx ?_))))))))
  clear h129 h130 h131 h132
  obtain rfl := si h
  exact eR (resT h151 res0) rfl
 refine cT h43 (congrArg Bool.not hb44) (sq (Rg (kx (mvO rfl) (Rn (hV (.bool false) rfl hZ) fun e152 h154 => sN (xx (sR ?_))))))
 clear h38 h39 h40 h41 h42 h43
 obtain rfl := si h
 exact eR (resT h154 res0) rfl
/-! ### loop.example/g01263/spec.l07Join (f127) -/
abbrev spec_l07Join_b1_S := (List UInt8) × Int
abbrev spec_l07Join_b1_R := (List UInt8)
def spec_l07Join_b1_RS (a1 : List (List UInt8)) (s : spec_l07Join_b1_S) (e : Env) (M : Mem) : Prop := eget e 0 = .sl none (a1.map cS) ∧ eget e 3 = .str s.1 ∧ eget e 4 = .int .i64 s.2
def spec_l07Join_b1_RR (a1 : List (List UInt8)) (g : spec_l07Join_b1_R) (x : Ex) (e : Env) (M : Mem) : Prop := x = .ext 0 ∧ eget e 3 = .str g
noncomputable def spec_l07Join_b1 (a1 : List (List UInt8)) : spec_l07Join_b1_S → Option (spec_l07Join_b1_S ⊕ spec_l07Join_b1_R) := fun (s1_1, s1_2) =>
 if (decide (s1_2 < (a1.length : Int))) = true then
  if (decide (s1_2 > 0)) = true then
   (sadd s1_1 ([32] : List UInt8)).bind fun w43 =>
   (rd a1 s1_2).bind fun x50 =>
   (sadd w43 x50).bind fun w52 =>
   some (.inl (w52, (IntKind.i64.wrap (s1_2 + 1))))
  else
   (rd a1 s1_2).bind fun x64 =>
   (sadd s1_1 x64).bind fun w66 =>
   some (.inl (w66, (IntKind.i64.wrap (s1_2 + 1))))
 else
  some (.inr s1_1)
theorem spec_l07Join_b1_ok (a1 : List (List UInt8)) (s : spec_l07Join_b1_S) (r : spec_l07Join_b1_S ⊕ spec_l07Join_b1_R) (h : spec_l07Join_b1 a1 s = some r) (e : Env) (M : Mem) (hs : spec_l07Join_b1_RS a1 s e M) : Ev (fun k => (f127_l3 (CN k) k (prune [0, 3, 4] e) M).bind fun q => some q) (bQ (spec_l07Join_b1_RS a1) (spec_l07Join_b1_RR a1) r) := by
 obtain ⟨s1_1, s1_2⟩ := s
 unfold spec_l07Join_b1 at h
 obtain ⟨h23, h25, h27⟩ := hs
 generalize he22 : prune [0, 3, 4] e = e21
 have h24 := envp he22.symm rfl h23
 have h26 := envp he22.symm rfl h25
 have h28 := envp he22.symm rfl h27
 refine sq (sq (Rg (kx (mvO h28) (kx (mvO h24) (kx (lnS Tryd.underlying86 rfl) (kx (bLss rfl rfl) (Rn (hV (.sl none (a1.map cS)) h24 (hV (.str s1_1) h26 (hV (.int .i64 s1_2) h28 (hN rfl hZ)))) fun e29 h31 h32 h33 h34 => sN ?_)))))))
 clear h24 h26 h28
 rcases ite_some h with ⟨hb35, h⟩ | ⟨hb35, h⟩
 ·refine cT h34 hb35 (xx (sN (sq (bl (sq (sq (Rg (kx (mvO h33) (kx (bGtr rfl rfl) (Rn (hA h31 (hA h32 (hA h33 (hN rfl hZ)))) fun e36 h38 h39 h40 h41 => sN ?_))))))))))
  clear h31 h32 h33 h34
  rcases ite_some h with ⟨hb42, h⟩ | ⟨hb42, h⟩
  ·obtain ⟨w43, hx44, h⟩ := bind_some h
   obtain ⟨x50, hx51, h⟩ := bind_some h
   obtain ⟨w52, hx53, h⟩ := bind_some h
   refine cT h41 hb42 (Rg (kx (mvO h39) (kx (sAdd rfl rfl hx44) (kx (mvO rfl) (Rn (hA h38 (hN rfl (hA h40 hZ))) fun e45 h47 h48 h49 => sN (Rg (kx (mvO h48) (kx (mvO h47) (kx (mvO h49) (kx (ixS rfl rfl hx51 cS_fl) (kx (ldP rfl rfl) (kx (sAdd rfl rfl hx53) (kx (mvO rfl) (Rn (hA h47 (hN rfl (hA h49 hZ))) fun e54 h56 h57 h58 => bN (sN (Rg (kx (mvO h58) (kx (bAdd rfl rfl) (kx (mvO rfl) (Rn (hA h56 (hA h57 (hN rfl hZ))) fun e59 h61 h62 h63 => ?_))))))))))))))))))))
   clear h38 h40 h41 h47 h49 h56 h57
   obtain rfl := si h
   exact qN ⟨h61, h62, h63⟩
  obtain ⟨x64, hx65, h⟩ := bind_some h
  obtain ⟨w66, hx67, h⟩ := bind_some h
  refine cF h41 hb42 (xx (sN (Rg (kx (mvO h39) (kx (mvO h38) (kx (mvO h40) (kx (ixS rfl rfl hx65 cS_fl) (kx (ldP rfl rfl) (kx (sAdd rfl rfl hx67) (kx (mvO rfl) (Rn (hA h38 (hN rfl (hA h40 hZ))) fun e68 h70 h71 h72 => bN (sN (Rg (kx (mvO h72) (kx (bAdd rfl rfl) (kx (mvO rfl) (Rn (hA h70 (hA h71 (hN rfl hZ))) fun e73 h75 h76 h77 => ?_)))))))))))))))))
  clear h38 h40 h41 h70 h71
  obtain rfl := si h
  exact qN ⟨h75, h76, h77⟩
 refine cF h34 hb35 (xx (sE ?_))
 obtain rfl := si h
 exact qE ⟨rfl, h32⟩
noncomputable def spec_l07Join (a1 : List (List UInt8)) : Option ((List UInt8)) :=
 (Lw (spec_l07Join_b1 a1) (([] : List UInt8), 0)).bind fun y83 =>
 some y83
def spec_l07Join_enc (r : (List UInt8)) : AV := .str r
theorem spec_l07Join_ok (a1 : List (List UInt8)) (r : (List UInt8)) (h : spec_l07Join a1 = some r) : Ev (fun k => CN k 127 [.sl none (a1.map cS)] []) (fun p => rRes p.2 p.1 = spec_l07Join_enc r) := by
 unfold spec_l07Join at h
 obtain ⟨y83, hr79, h⟩ := bind_some h
 refine Ev.enter (F := fun k => f127 (CN k) k) (fun k => callN_eq rfl Tryd.func127 rfl rfl rfl (by decide +kernel) (f127_eq _ _)) (sq (Rg (kx (mvO rfl) (Rn (hN rfl hZ) fun e1 h3 => sN (sq (Rg (kx (mvO rfl) (Rn (hA h3 (hN rfl hZ)) fun e4 h6 h7 => sN (sq (sq (Rg (kx (mvO rfl) (Rn (hA h6 (hA h7 (hV (.int .i64 0) rfl hZ))) fun e8 h10 h11 h12 => sN (bl (Ev.loop (RS := spec_l07Join_b1_RS a1) (RR := spec_l07Join_b1_RR a1) (fun s r h e M hs => spec_l07Join_b1_ok a1 s r h e M hs) hr79 ⟨h10, h11, h12⟩ fun x e81 M82 hq80 => ?_)))))))))))))))
 clear h3 h6 h7
 obtain ⟨rfl, h84⟩ := hq80
 refine bE (sN (sq (Rg (kx (mvO h84) (kx (mvO rfl) (Rn (hN rfl hZ) fun e85 h87 => sN (xx ?_)))))))
 clear h84
 obtain rfl := si h
 exact eR (resT h87 res0) rfl
/-! ### loop.example/g01263/spec.l01Split (f65) -/
abbrev spec_l01Split_b1_S := Int × Int × (List (List UInt8))
abbrev spec_l01Split_b1_R := Int × (List (List UInt8))
def spec_l01Split_b1_RS (a1 : List UInt8) (a2 : Int) (i1_1 : Nat) (s : spec_l01Split_b1_S) (e : Env) (M : Mem) : Prop := eget e 0 = .str a1 ∧ eget e 1 = .int .u8 a2 ∧ eget e 5 = .lsl i1_1 s.2.2.length 0 s.2.2.length ∧ eget e 6 = .int .i64 s.1 ∧ eget e 7 = .int .i64 s.2.1 ∧ M[i1_1]? = some (.live ⟨.grow, 9, 1, s.2.2.map cS⟩)
def spec_l01Split_b1_RR (a1 : List UInt8) (a2 : Int) (i1_1 : Nat) (g : spec_l01Split_b1_R) (x : Ex) (e : Env) (M : Mem) : Prop := x = .ext 0 ∧ eget e 0 = .str a1 ∧ eget e 5 = .lsl i1_1 g.2.length 0 g.2.length ∧ eget e 6 = .int .i64 g.1 ∧ M[i1_1]? = some (.live ⟨.grow, 9, 1, g.2.map cS⟩)
noncomputable def spec_l01Split_b1 (a1 : List UInt8) (a2 : Int) : spec_l01Split_b1_S → Option (spec_l01Split_b1_S ⊕ spec_l01Split_b1_R) := fun (s1_1, s1_2, s1_3) =>
 if (decide (s1_2 < (a1.length : Int))) = true then
  (rd a1 s1_2).bind fun x62 =>
  if ((x62.toNat : Int) == a2) = true then
   (slc a1 s1_1 s1_2).bind fun x73 =>
   (app 16 s1_3 [x73]).bind fun x75 =>
   some (.inl ((IntKind.i64.wrap (s1_2 + 1)), (IntKind.i64.wrap (s1_2 + 1)), x75))
  else
   some (.inl (s1_1, (IntKind.i64.wrap (s1_2 + 1)), s1_3))
 else
  some (.inr (s1_1, s1_3))
theorem spec_l01Split_b1_ok (a1 : List UInt8) (a2 : Int) (i1_1 : Nat) (s : spec_l01Split_b1_S) (r : spec_l01Split_b1_S ⊕ spec_l01Split_b1_R) (h : spec_l01Split_b1 a1 a2 s = some r) (e : Env) (M : Mem) (hs : spec_l01Split_b1_RS a1 a2 i1_1 s e M) : Ev (fun k => (f65_l4 (CN k) k (prune [0, 1, 5, 6, 7] e) M).bind fun q => some q) (bQ (spec_l01Split_b1_RS a1 a2 i1_1) (spec_l01Split_b1_RR a1 a2 i1_1) r) := by
 obtain ⟨s1_1, s1_2, s1_3⟩ := s
 unfold spec_l01Split_b1 at h
 obtain ⟨h42, h44, h46, h48, h50, o52⟩ := hs
 generalize he41 : prune [0, 1, 5, 6, 7] e = e40
 have h43 := envp he41.symm rfl h42
 have h45 := envp he41.symm rfl h44
 have h47 := envp he41.symm rfl h46
 have h49 := envp he41.symm rfl h48
 have h51 := envp he41.symm rfl h50
 refine sq (sq (Rg (kx (mvO h51) (kx (mvO h43) (kx (lnB Tryd.underlying9 rfl) (kx (bLss rfl rfl) (Rn (hV (.str a1) h43 (hV (.int .u8 a2) h45 (hV (.lsl i1_1 s1_3.length 0 s1_3.length) h47 (hV (.int .i64 s1_1) h49 (hV (.int .i64 s1_2) h51 (hN rfl hZ)))))) fun e53 h55 h56 h57 h58 h59 h60 => sN ?_)))))))
 clear h43 h45 h47 h49 h51
 rcases ite_some h with ⟨hb61, h⟩ | ⟨hb61, h⟩
 ·obtain ⟨x62, hx63, h⟩ := bind_some h
  refine cT h60 hb61 (xx (sN (sq (bl (sq (Rg (kx (mvO h55) (kx (mvO h59) (kx (ixB rfl rfl hx63) (kx (mvO h56) (kx (bEql rfl rfl) (Rn (hA h55 (hA h56 (hA h57 (hA h58 (hA h59 (hN rfl hZ)))))) fun e64 h66 h67 h68 h69 h70 h71 => sN ?_))))))))))))
  clear h55 h56 h57 h58 h59 h60
  rcases ite_some h with ⟨hb72, h⟩ | ⟨hb72, h⟩
  ·obtain ⟨x73, hx74, h⟩ := bind_some h
   obtain ⟨x75, hx76, h⟩ := bind_some h
   refine cT h71 hb72 (sq (Rg (kx (mvO h68) (kx (mvO h66) (kx (mvO h69) (kx (mvO h70) (kx (ssl2 rfl (bnd1 rfl) (bnd1 rfl) hx74) (kx (litI (cns rfl rfl) rfl ⟨rfl, by decide⟩) (kw (apO rfl o52 rfl (elT (c := cS) (xs := [x73]) rfl) hx76 cS_fl (by decide)) fun M77 hM78 => ?_)))))))))
   have o79 : M77[i1_1]? = some (.live ⟨.grow, 9, 1, x75.map cS⟩) := set_same hM78 o52
   refine kx (mvO rfl) (Rn (hA h66 (hA h67 (hV (.lsl i1_1 x75.length 0 x75.length) rfl (hA h70 hZ)))) fun e80 h82 h83 h84 h85 => sN (Rg (kx (mvO h85) (kx (bAdd rfl rfl) (kx (mvO rfl) (Rn (hA h82 (hA h83 (hA h84 (hN rfl (hA h85 hZ))))) fun e86 h88 h89 h90 h91 h92 => bN (sN (Rg (kx (mvO h92) (kx (bAdd rfl rfl) (kx (mvO rfl) (Rn (hA h88 (hA h89 (hA h90 (hA h91 (hN rfl hZ))))) fun e93 h95 h96 h97 h98 h99 => ?_))))))))))))
   clear h66 h67 h69 h70 h71 h82 h83 h84 h85 h88 h89 h90 h91
   obtain rfl := si h
   exact qN ⟨h95, h96, h97, h98, h99, o79⟩
  refine cF h71 hb72 (xx (bN (sN (Rg (kx (mvO h70) (kx (bAdd rfl rfl) (kx (mvO rfl) (Rn (hA h66 (hA h67 (hA h68 (hA h69 (hN rfl hZ))))) fun e100 h102 h103 h104 h105 h106 => ?_))))))))
  clear h66 h67 h68 h69 h71
  obtain rfl := si h
  exact qN ⟨h102, h103, h104, h105, h106, o52⟩
 refine cF h60 hb61 (xx (sE ?_))
 obtain rfl := si h
 exact qE ⟨rfl, h55, h57, h58, o52⟩
noncomputable def spec_l01Split (a1 : List UInt8) (a2 : Int) : Option ((List (List UInt8))) :=
 (Lw (spec_l01Split_b1 a1 a2) (0, 0, ([] : List (List UInt8)))).bind fun (y112, y113) =>
 (slc a1 y112 (a1.length : Int)).bind fun x118 =>
 (app 16 y113 [x118]).bind fun x120 =>
 some x120
def spec_l01Split_enc (r : (List (List UInt8))) : AV := .sl (some 9) (r.map cS)
theorem spec_l01Split_ok (a1 : List UInt8) (a2 : Int) (r : (List (List UInt8))) (h : spec_l01Split a1 a2 = some r) : Ev (fun k => CN k 65 [.str a1, .int .u8 a2] []) (fun p => rRes p.2 p.1 = spec_l01Split_enc r) := by
 unfold spec_l01Split at h
 refine Ev.enter (F := fun k => f65 (CN k) k) (fun k => callN_eq rfl Tryd.func65 rfl rfl rfl (by decide +kernel) (f65_eq _ _)) (sq (Rg (kx (mvO rfl) (Rn (hN rfl (hN rfl hZ)) fun e1 h3 h4 => sN (sq (Rg (ku (litO (xs := ([] : List (List UInt8))) (c := cS) rfl rfl (by decide)) fun M6 hM7 => ?_)))))))
 have o8 : M6[([] : Mem).length]? = some (.live ⟨.grow, 9, 1, ([] : List (List UInt8)).map cS⟩) := push_new hM7
 obtain ⟨⟨y112, y113⟩, hr108, h⟩ := bind_some h
 refine kx (mvO rfl) (Rn (hA h3 (hA h4 (hV (.lsl ([] : Mem).length ([] : List (List UInt8)).length 0 ([] : List (List UInt8)).length) rfl hZ))) fun e9 h11 h12 h13 => sN (sq (Rg (kx (mvO rfl) (Rn (hA h11 (hA h12 (hA h13 (hV (.int .i64 0) rfl hZ)))) fun e14 h16 h17 h18 h19 => sN (sq (sq (Rg (kx (mvO rfl) (Rn (hA h16 (hA h17 (hA h18 (hA h19 (hV (.int .i64 0) rfl hZ))))) fun e20 h22 h23 h24 h25 h26 => sN (bl (Ev.loop (RS := spec_l01Split_b1_RS a1 a2 (([] : Mem).length)) (RR := spec_l01Split_b1_RR a1 a2 (([] : Mem).length)) (fun s r h e M hs => spec_l01Split_b1_ok a1 a2 (([] : Mem).length) s r h e M hs) hr108 ⟨h22, h23, h24, h25, h26, o8⟩ fun x e110 M111 hq109 => ?_))))))))))))
 clear h3 h4 h11 h12 h13 h16 h17 h18 h19
 obtain ⟨rfl, h114, h115, h116, o117⟩ := hq109
 obtain ⟨x118, hx119, h⟩ := bind_some h
 obtain ⟨x120, hx121, h⟩ := bind_some h
 refine bE (sN (sq (Rg (kx (mvO h115) (kx (mvO h114) (kx (mvO h116) (kx (ssl2 rfl (bnd1 rfl) rfl hx119) (kx (litI (cns rfl rfl) rfl ⟨rfl, by decide⟩) (kw (apO rfl o117 rfl (elT (c := cS) (xs := [x118]) rfl) hx121 cS_fl (by decide)) fun M122 hM123 => ?_)))))))))
 have o124 : M122[([] : Mem).length]? = some (.live ⟨.grow, 9, 1, x120.map cS⟩) := set_same hM123 o117
 refine kx (mvO rfl) (Rn (hV (.lsl ([] : Mem).length x120.length 0 x120.length) rfl hZ) fun e125 h127 => sN (xx ?_))
 clear h114 h116
 obtain rfl := si h
 exact eR (resT h127 res0) (rr_row o124 rfl cS_fl)
/-! ### loop.example/g01263/spec.l01Number (f125) -/
def spec_l01Number_c1_Q (a1 : List UInt8) (r : Unit ⊕ Bool) (q : Out) : Prop :=
  match r with
  | (.inl g) => q.1 = .ret ∧ eget q.2.1 2 = .int .i64 0 ∧ eget q.2.1 3 = .bool false
  | (.inr g) => q.1 = .nrm ∧ eget q.2.1 0 = .str a1 ∧ eget q.2.1 22 = .bool g
abbrev spec_l01Number_b1_S := Int × Int
abbrev spec_l01Number_b1_R := Unit ⊕ Int
def spec_l01Number_b1_RS (a1 : List UInt8) (s : spec_l01Number_b1_S) (e : Env) (M : Mem) : Prop := eget e 0 = .str a1 ∧ eget e 4 = .int .i64 s.1 ∧ eget e 5 = .int .i64 s.2
def spec_l01Number_b1_RR (a1 : List UInt8) (r : spec_l01Number_b1_R) (x : Ex) (e : Env) (M : Mem) : Prop :=
  match r with
  | (.inl g) => x = .ret ∧ eget e 2 = .int .i64 0 ∧ eget e 3 = .bool false
  | (.inr g) => x = .ext 0 ∧ eget e 4 = .int .i64 g
noncomputable def spec_l01Number_b1 (a1 : List UInt8) : spec_l01Number_b1_S → Option (spec_l01Number_b1_S ⊕ spec_l01Number_b1_R) := fun (s1_1, s1_2) =>
 if (decide (s1_2 < (a1.length : Int))) = true then
  (rd a1 s1_2).bind fun x80 =>
  if (decide ((x80.toNat : Int) < 48)) = true then
   some (.inr (.inl ()))
  else
   (rd a1 s1_2).bind fun x93 =>
   if (decide ((x93.toNat : Int) > 57)) = true then
    some (.inr (.inl ()))
   else
    (rd a1 s1_2).bind fun x106 =>
    some (.inl ((IntKind.i64.wrap ((IntKind.i64.wrap (10 * s1_1)) + (IntKind.i64.wrap (IntKind.u8.wrap ((x106.toNat : Int) - 48))))), (IntKind.i64.wrap (s1_2 + 1))))
 else
  some (.inr (.inr s1_1))
theorem spec_l01Number_b1_ok (a1 : List UInt8) (s : spec_l01Number_b1_S) (r : spec_l01Number_b1_S ⊕ spec_l01Number_b1_R) (h : spec_l01Number_b1 a1 s = some r) (e : Env) (M : Mem) (hs : spec_l01Number_b1_RS a1 s e M) : Ev (fun k => (f125_l5 (CN k) k (prune [0, 4, 5] e) M).bind fun q => some q) (bQ (spec_l01Number_b1_RS a1) (spec_l01Number_b1_RR a1) r) := by
 obtain ⟨s1_1, s1_2⟩ := s
 unfold spec_l01Number_b1 at h
 obtain ⟨h67, h69, h71⟩ := hs
 generalize he66 : prune [0, 4, 5] e = e65
 have h68 := envp he66.symm rfl h67
 have h70 := envp he66.symm rfl h69
 have h72 := envp he66.symm rfl h71
 refine sq (sq (Rg (kx (mvO h72) (kx (mvO h68) (kx (lnB Tryd.underlying9 rfl) (kx (bLss rfl rfl) (Rn (hV (.str a1) h68 (hV (.int .i64 s1_1) h70 (hV (.int .i64 s1_2) h72 (hN rfl hZ)))) fun e73 h75 h76 h77 h78 => sN ?_)))))))
 clear h68 h70 h72
 rcases ite_some h with ⟨hb79, h⟩ | ⟨hb79, h⟩
 ·obtain ⟨x80, hx81, h⟩ := bind_some h
  refine cT h78 hb79 (xx (sN (sq (bl (sq (sq (Rg (kx (mvO h75) (kx (mvO h77) (kx (ixB rfl rfl hx81) (kx (bLss rfl rfl) (kx (mvO rfl) ?_))))))))))))
  rcases ite_some h with ⟨hb82, h⟩ | ⟨hb82, h⟩
  ·refine kx (gsF rfl hb82) (kx (gsF rfl hb82) (kx (gsF rfl hb82) (kx (gsF rfl hb82) (kx (pkT rfl hb82 rfl) (Rn (hA h75 (hA h76 (hA h77 (hV (.bool true) rfl hZ)))) fun e83 h85 h86 h87 h88 => sN (cT h88 rfl (sq (Rg (kx (mvO rfl) (kx (mvO rfl) (Rn (hV (.int .i64 0) rfl (hV (.bool false) rfl hZ)) fun e89 h91 h92 => sN (xx (sR (bR (sR ?_)))))))))))))))
   clear h75 h76 h77 h78 h85 h86 h87 h88
   obtain rfl := si h
   exact qR ⟨rfl, h91, h92⟩
  obtain ⟨x93, hx94, h⟩ := bind_some h
  refine kx (guF rfl hb82 (mvO h75)) (kx (guF rfl hb82 (mvO h77)) (kx (guF rfl hb82 (ixB rfl rfl hx94)) (kx (guF rfl hb82 (bGtr rfl rfl)) (kx (pkF rfl hb82 rfl) (Rn (hA h75 (hA h76 (hA h77 (hN rfl hZ)))) fun e95 h97 h98 h99 h100 => sN ?_)))))
  clear h75 h76 h77 h78
  rcases ite_some h with ⟨hb101, h⟩ | ⟨hb101, h⟩
  ·refine cT h100 hb101 (sq (Rg (kx (mvO rfl) (kx (mvO rfl) (Rn (hV (.int .i64 0) rfl (hV (.bool false) rfl hZ)) fun e102 h104 h105 => sN (xx (sR (bR (sR ?_)))))))))
   clear h100 h97 h98 h99
   obtain rfl := si h
   exact qR ⟨rfl, h104, h105⟩
  obtain ⟨x106, hx107, h⟩ := bind_some h
  refine cF h100 hb101 (xx (sN (Rg (kx (mvO h98) (kx (bMul rfl rfl) (kx (mvO h97) (kx (mvO h99) (kx (ixB rfl rfl hx107) (kx (bSub rfl rfl) (kx (cvI rfl) (kx (bAdd rfl rfl) (kx (mvO rfl) (Rn (hA h97 (hN rfl (hA h99 hZ))) fun e108 h110 h111 h112 => bN (sN (Rg (kx (mvO h112) (kx (bAdd rfl rfl) (kx (mvO rfl) (Rn (hA h110 (hA h111 (hN rfl hZ))) fun e113 h115 h116 h117 => ?_)))))))))))))))))))
  clear h100 h97 h99 h110 h111
  obtain rfl := si h
  exact qN ⟨h115, h116, h117⟩
 refine cF h78 hb79 (xx (sE ?_))
 obtain rfl := si h
 exact qE ⟨rfl, h76⟩
noncomputable def spec_l01Number (a1 : List UInt8) : Option (Int × Bool) :=
 ((if (a1 == ([] : List UInt8)) = true then
  some (.inl ())
 else
  if (decide ((a1.length : Int) > 10)) = true then
   some (.inl ())
  else
   (rd a1 0).bind fun x22 =>
   if ((x22.toNat : Int) == 48) = true then
    if (decide ((a1.length : Int) > 1)) = true then
     some (.inl ())
    else
     some (.inr (decide ((a1.length : Int) > 1)))
   else
    some (.inr false) : Option (Unit ⊕ Bool))).bind fun r => match r with
 | (.inl _) =>
  some (0, false)
 | (.inr y45) =>
  (Lw (spec_l01Number_b1 a1) (0, 0)).bind fun r => match r with
  | (.inl _) =>
   some (0, false)
  | (.inr y127) =>
   some (y127, true)
def spec_l01Number_enc (r : Int × Bool) : AV := .tup [.int .i64 r.1, .bool r.2]
theorem spec_l01Number_ok (a1 : List UInt8) (r : Int × Bool) (h : spec_l01Number a1 = some r) : Ev (fun k => CN k 125 [.str a1] []) (fun p => rRes p.2 p.1 = spec_l01Number_enc r) := by
 unfold spec_l01Number at h
 obtain ⟨r134, hr135, h⟩ := bind_some h
 refine Ev.enter (F := fun k => f125 (CN k) k) (fun k => callN_eq rfl Tryd.func125 rfl rfl rfl (by decide +kernel) (f125_eq _ _)) (sq (Rg (kx (mvO rfl) (kx (mvO rfl) (Rn (hN rfl hZ) fun e1 h3 => sN (sq ?_))))))
 refine Ev.cut (Q1 := spec_l01Number_c1_Q a1 r134) (by
     have h := hr135
     refine sq (Rg (kx (mvO h3) (kx (sEql rfl rfl) (kx (mvO rfl) ?_))))
     rcases ite_some h with ⟨hb4, h⟩ | ⟨hb4, h⟩
     ·refine kx (gsF rfl hb4) (kx (gsF rfl hb4) (kx (gsF rfl hb4) (kx (pkT rfl hb4 rfl) (kx (mvO rfl) (kx (gsF rfl rfl) (kx (gsF rfl rfl) (kx (gsF rfl rfl) (kx (gsF rfl rfl) (kx (gsU rfl) (kx (gsU rfl) (kx (gsU rfl) (kx (gsF rfl rfl) (kx (pkT rfl rfl rfl) (Rn (hA h3 (hV (.bool true) rfl hZ)) fun e5 h7 h8 => sN (cT h8 rfl (sq (Rg (kx (mvO rfl) (kx (mvO rfl) (Rn (hV (.int .i64 0) rfl (hV (.bool false) rfl hZ)) fun e9 h11 h12 => sN (xx ?_)))))))))))))))))))))
      clear h3 h7 h8
      obtain rfl := si h
      exact kd (show spec_l01Number_c1_Q a1 _ _ from ⟨rfl, h11, h12⟩)
     refine kx (guF rfl hb4 (mvO h3)) (kx (guF rfl hb4 (lnB Tryd.underlying9 rfl)) (kx (guF rfl hb4 (bGtr rfl rfl)) (kx (pkF rfl hb4 rfl) (kx (mvO rfl) ?_))))
     rcases ite_some h with ⟨hb13, h⟩ | ⟨hb13, h⟩
     ·refine kx (gsF rfl hb13) (kx (gsF rfl hb13) (kx (gsF rfl hb13) (kx (gsF rfl hb13) (kx (gsU rfl) (kx (gsU rfl) (kx (gsU rfl) (kx (gsF rfl hb13) (kx (pkT rfl hb13 rfl) (Rn (hA h3 (hV (.bool true) rfl hZ)) fun e14 h16 h17 => sN (cT h17 rfl (sq (Rg (kx (mvO rfl) (kx (mvO rfl) (Rn (hV (.int .i64 0) rfl (hV (.bool false) rfl hZ)) fun e18 h20 h21 => sN (xx ?_))))))))))))))))
      clear h3 h16 h17
      obtain rfl := si h
      exact kd (show spec_l01Number_c1_Q a1 _ _ from ⟨rfl, h20, h21⟩)
     obtain ⟨x22, hx23, h⟩ := bind_some h
     refine kx (guF rfl hb13 (mvO h3)) (kx (guF rfl hb13 (ixB rfl rfl hx23)) (kx (guF rfl hb13 (bEql rfl rfl)) (kx (guF rfl hb13 (mvO rfl)) ?_)))
     rcases ite_some h with ⟨hb24, h⟩ | ⟨hb24, h⟩
     ·refine kx (guT rfl hb24 (mvO h3)) (kx (guT rfl hb24 (lnB Tryd.underlying9 rfl)) (kx (guT rfl hb24 (bGtr rfl rfl)) (kx (guF rfl hb13 (pkT rfl hb24 rfl)) (kx (pkF rfl hb13 rfl) (Rn (hA h3 (hN rfl hZ)) fun e25 h27 h28 => sN ?_)))))
      clear h3
      rcases ite_some h with ⟨hb29, h⟩ | ⟨hb29, h⟩
      ·refine cT h28 hb29 (sq (Rg (kx (mvO rfl) (kx (mvO rfl) (Rn (hV (.int .i64 0) rfl (hV (.bool false) rfl hZ)) fun e30 h32 h33 => sN (xx ?_))))))
       clear h27 h28
       obtain rfl := si h
       exact kd (show spec_l01Number_c1_Q a1 _ _ from ⟨rfl, h32, h33⟩)
      refine cF h28 hb29 (xx ?_)
      obtain rfl := si h
      exact kd (show spec_l01Number_c1_Q a1 _ _ from ⟨rfl, h27, h28⟩)
     refine kx (gsT rfl hb24) (kx (gsT rfl hb24) (kx (gsT rfl hb24) (kx (guF rfl hb13 (pkF rfl hb24 rfl)) (kx (pkF rfl hb13 rfl) (Rn (hA h3 (hV (.bool false) rfl hZ)) fun e34 h36 h37 => sN (cF h37 rfl (xx ?_)))))))
     clear h3
     obtain rfl := si h
     exact kd (show spec_l01Number_c1_Q a1 _ _ from ⟨rfl, h36, h37⟩)) ?_
 rcases r134 with _ | y45
 ·intro x e38 M39 hq42
  obtain ⟨rfl, h40, h41⟩ := hq42
  refine sR ?_
  obtain rfl := si h
  exact eR (resT h40 (resT h41 res0)) rfl
 intro x e43 M44 hq133
 obtain ⟨rfl, h46, h47⟩ := hq133
 obtain ⟨r118, hr119, h⟩ := bind_some h
 refine sN (sq (Rg (kx (mvO rfl) (Rn (hV (.str a1) h46 (hV (.int .i64 0) rfl hZ)) fun e48 h50 h51 => sN (sq (sq (Rg (kx (mvO rfl) (Rn (hA h50 (hA h51 (hV (.int .i64 0) rfl hZ))) fun e52 h54 h55 h56 => sN (bl ?_))))))))))
 clear h46 h47 h50 h51
 rcases r118 with _ | y127
 ·refine Ev.loop (RS := spec_l01Number_b1_RS a1) (RR := spec_l01Number_b1_RR a1) (fun s r h e M hs => spec_l01Number_b1_ok a1 s r h e M hs) hr119 ⟨h54, h55, h56⟩ fun x e121 M122 hq120 => ?_
  obtain ⟨rfl, h123, h124⟩ := hq120
  refine bR (sR ?_)
  obtain rfl := si h
  exact eR (resT h123 (resT h124 res0)) rfl
 refine Ev.loop (RS := spec_l01Number_b1_RS a1) (RR := spec_l01Number_b1_RR a1) (fun s r h e M hs => spec_l01Number_b1_ok a1 s r h e M hs) hr119 ⟨h54, h55, h56⟩ fun x e125 M126 hq120 => ?_
 obtain ⟨rfl, h128⟩ := hq120
 refine bE (sN (sq (Rg (kx (mvO h128) (kx (mvO rfl) (kx (mvO rfl) (Rn (hN rfl (hV (.bool true) rfl hZ)) fun e129 h131 h132 => sN (xx ?_))))))))
 clear h128
 obtain rfl := si h
 exact eR (resT h131 (resT h132 res0)) rfl
/-! ### loop.example/g01263/spec.l01Amount (f49) -/
noncomputable def spec_l01Amount (a1 : Int) : Option Bool :=
 (spec_l00In a1 0 100000000).bind fun r5 =>
 some r5
def spec_l01Amount_enc (r : Bool) : AV := .bool r
theorem spec_l01Amount_ok (a1 : Int) (r : Bool) (h : spec_l01Amount a1 = some r) : Ev (fun k => CN k 49 [.int .i64 a1] []) (fun p => rRes p.2 p.1 = spec_l01Amount_enc r) := by
 unfold spec_l01Amount at h
 obtain ⟨r5, hx4, h⟩ := bind_some h
 refine Ev.enter (F := fun k => f49 (CN k) k) (fun k => callN_eq rfl Tryd.func49 rfl rfl rfl (by decide +kernel) (f49_eq _ _)) (sq (Rg (kx (mvO rfl) (Rn (hN rfl hZ) fun e1 h3 => sN (sq (Rg (kx (mvO h3) (kc (cl (v := .bool r5) rfl (cns rfl (cns rfl (cns rfl rfl))) rfl (spec_l00In_ok a1 0 100000000 _ hx4) nm) (kx (mvO rfl) (Rn (hN rfl hZ) fun e6 h8 => sN (xx ?_)))))))))))
 clear h3
 obtain rfl := si h
 exact eR (resT h8 res0) rfl
/-! ### loop.example/g01263/spec.l01Part (f94) -/
noncomputable def spec_l01Part (a1 : List UInt8) (a2 : Int) (a3 : List UInt8) : Option ((List UInt8)) :=
 if (a2 == 0) = true then
  some a1
 else
  if (a1 == ([] : List UInt8)) = true then
   (spec_Decimal a2).bind fun r24 =>
   (sadd a1 r24).bind fun w25 =>
   (sadd w25 a3).bind fun w27 =>
   some w27
  else
   (sadd a1 ([32] : List UInt8)).bind fun w32 =>
   (spec_Decimal a2).bind fun r40 =>
   (sadd w32 r40).bind fun w41 =>
   (sadd w41 a3).bind fun w43 =>
   some w43
def spec_l01Part_enc (r : (List UInt8)) : AV := .str r
theorem spec_l01Part_ok (a1 : List UInt8) (a2 : Int) (a3 : List UInt8) (r : (List UInt8)) (h : spec_l01Part a1 a2 a3 = some r) : Ev (fun k => CN k 94 [.str a1, .int .i64 a2, .str a3] []) (fun p => rRes p.2 p.1 = spec_l01Part_enc r) := by
 unfold spec_l01Part at h
 refine Ev.enter (F := fun k => f94 (CN k) k) (fun k => callN_eq rfl Tryd.func94 rfl rfl rfl (by decide +kernel) (f94_eq _ _)) (sq (Rg (kx (mvO rfl) (Rn (hN rfl (hN rfl (hN rfl hZ))) fun e1 h3 h4 h5 => sN (sq (sq (Rg (kx (mvO h4) (kx (bEql rfl rfl) (Rn (hA h3 (hA h4 (hA h5 (hN rfl hZ)))) fun e6 h8 h9 h10 h11 => sN ?_))))))))))
 clear h3 h4 h5
 rcases ite_some h with ⟨hb12, h⟩ | ⟨hb12, h⟩
 ·refine cT h11 hb12 (sq (Rg (kx (mvO h8) (kx (mvO rfl) (Rn (hN rfl hZ) fun e13 h15 => sN (xx (sR ?_)))))))
  clear h10 h11 h8 h9
  obtain rfl := si h
  exact eR (resT h15 res0) rfl
 refine cF h11 hb12 (xx (sN (sq (sq (Rg (kx (mvO h8) (kx (sNeq rfl rfl) (Rn (hA h8 (hA h9 (hA h10 (hN rfl hZ)))) fun e16 h18 h19 h20 h21 => sN ?_))))))))
 clear h10 h11 h8 h9
 rcases ite_some h with ⟨hb22, h⟩ | ⟨hb22, h⟩
 ·obtain ⟨r24, hx23, h⟩ := bind_some h
  obtain ⟨w25, hx26, h⟩ := bind_some h
  obtain ⟨w27, hx28, h⟩ := bind_some h
  refine cF h21 (congrArg Bool.not hb22) (xx (sN (sq (Rg (kx (mvO h18) (kx (mvO h19) (kc (cl (v := .str r24) rfl (cns rfl rfl) rfl (spec_Decimal_ok a2 _ hx23) nm) (kx (sAdd rfl rfl hx26) (kx (mvO h20) (kx (sAdd rfl rfl hx28) (kx (mvO rfl) (Rn (hN rfl hZ) fun e29 h31 => sN (xx ?_)))))))))))))
  clear h18 h19 h20 h21
  obtain rfl := si h
  exact eR (resT h31 res0) rfl
 obtain ⟨w32, hx33, h⟩ := bind_some h
 obtain ⟨r40, hx39, h⟩ := bind_some h
 obtain ⟨w41, hx42, h⟩ := bind_some h
 obtain ⟨w43, hx44, h⟩ := bind_some h
 refine cT h21 (congrArg Bool.not hb22) (Rg (kx (mvO h18) (kx (sAdd rfl rfl hx33) (kx (mvO rfl) (Rn (hN rfl (hA h19 (hA h20 hZ))) fun e34 h36 h37 h38 => sN (sq (Rg (kx (mvO h36) (kx (mvO h37) (kc (cl (v := .str r40) rfl (cns rfl rfl) rfl (spec_Decimal_ok a2 _ hx39) nm) (kx (sAdd rfl rfl hx42) (kx (mvO h38) (kx (sAdd rfl rfl hx44) (kx (mvO rfl) (Rn (hN rfl hZ) fun e45 h47 => sN (xx ?_))))))))))))))))
 clear h19 h20 h21 h36 h37 h38
 obtain rfl := si h
 exact eR (resT h47 res0) rfl
/-! ### loop.example/g01263/spec.l01AmountText (f50) -/
noncomputable def spec_l01AmountText (a1 : Int) : Option ((List UInt8)) :=
 if (a1 == 0) = true then
  some ([48, 100] : List UInt8)
 else
  (quo .i64 a1 240).bind fun n12 =>
  (spec_l01Part ([] : List UInt8) n12 ([108] : List UInt8)).bind fun r15 =>
  (quo .i64 a1 12).bind fun n20 =>
  (rem .i64 n20 20).bind fun n22 =>
  (spec_l01Part r15 n22 ([115] : List UInt8)).bind fun r25 =>
  (rem .i64 a1 12).bind fun n30 =>
  (spec_l01Part r25 n30 ([100] : List UInt8)).bind fun r33 =>
  some r33
def spec_l01AmountText_enc (r : (List UInt8)) : AV := .str r
theorem spec_l01AmountText_ok (a1 : Int) (r : (List UInt8)) (h : spec_l01AmountText a1 = some r) : Ev (fun k => CN k 50 [.int .i64 a1] []) (fun p => rRes p.2 p.1 = spec_l01AmountText_enc r) := by
 unfold spec_l01AmountText at h
 refine Ev.enter (F := fun k => f50 (CN k) k) (fun k => callN_eq rfl Tryd.func50 rfl rfl rfl (by decide +kernel) (f50_eq _ _)) (sq (Rg (kx (mvO rfl) (Rn (hN rfl hZ) fun e1 h3 => sN (sq (sq (Rg (kx (mvO h3) (kx (bEql rfl rfl) (Rn (hA h3 (hN rfl hZ)) fun e4 h6 h7 => sN ?_))))))))))
 clear h3
 rcases ite_some h with ⟨hb8, h⟩ | ⟨hb8, h⟩
 ·refine cT h7 hb8 (sq (Rg (kx (mvO rfl) (Rn (hN rfl hZ) fun e9 h11 => sN (xx (sR ?_))))))
  clear h6 h7
  obtain rfl := si h
  exact eR (resT h11 res0) rfl
 obtain ⟨n12, hx13, h⟩ := bind_some h
 obtain ⟨r15, hx14, h⟩ := bind_some h
 obtain ⟨n20, hx21, h⟩ := bind_some h
 obtain ⟨n22, hx23, h⟩ := bind_some h
 obtain ⟨r25, hx24, h⟩ := bind_some h
 obtain ⟨n30, hx31, h⟩ := bind_some h
 obtain ⟨r33, hx32, h⟩ := bind_some h
 refine cF h7 hb8 (xx (sN (sq (Rg (kx (mvO h6) (kx (bQuo rfl rfl hx13) (kc (cl (v := .str r15) rfl (cns rfl (cns rfl (cns rfl rfl))) rfl (spec_l01Part_ok ([] : List UInt8) n12 ([108] : List UInt8) _ hx14) nm) (kx (mvO rfl) (Rn (hA h6 (hN rfl hZ)) fun e16 h18 h19 => sN (sq (Rg (kx (mvO h19) (kx (mvO h18) (kx (bQuo rfl rfl hx21) (kx (bRem rfl rfl hx23) (kc (cl (v := .str r25) rfl (cns rfl (cns rfl (cns rfl rfl))) rfl (spec_l01Part_ok r15 n22 ([115] : List UInt8) _ hx24) nm) (kx (mvO rfl) (Rn (hA h18 (hN rfl hZ)) fun e26 h28 h29 => sN (sq (Rg (kx (mvO h29) (kx (mvO h28) (kx (bRem rfl rfl hx31) (kc (cl (v := .str r33) rfl (cns rfl (cns rfl (cns rfl rfl))) rfl (spec_l01Part_ok r25 n30 ([100] : List UInt8) _ hx32) nm) (kx (mvO rfl) (Rn (hN rfl hZ) fun e34 h36 => sN (xx ?_)))))))))))))))))))))))))))
 clear h6 h7 h18 h28 h29
 obtain rfl := si h
 exact eR (resT h36 res0) rfl
/-! ### loop.example/g01263/spec.l01ReadAmount (f126) -/
def spec_l01ReadAmount_c2_Q (a1 : List UInt8) (r5 : List (List UInt8)) (s1_1 : Int) (s1_2 : Int) (x49 : List UInt8) (r76 : Int) (g : Bool) (q : Out) : Prop := q.1 = .nrm ∧ eget q.2.1 0 = .str a1 ∧ eget q.2.1 4 = .sl (some 9) (r5.map cS) ∧ eget q.2.1 5 = .int .i64 s1_1 ∧ eget q.2.1 6 = .int .i64 s1_2 ∧ eget q.2.1 7 = .int .i64 (x49.length : Int) ∧ eget q.2.1 8 = .int .i64 r76 ∧ eget q.2.1 41 = .bool g
abbrev spec_l01ReadAmount_b1_S := Int × Int
abbrev spec_l01ReadAmount_b1_R := Unit ⊕ Int
def spec_l01ReadAmount_b1_RS (a1 : List UInt8) (r5 : List (List UInt8)) (s : spec_l01ReadAmount_b1_S) (e : Env) (M : Mem) : Prop := eget e 0 = .str a1 ∧ eget e 4 = .sl (some 9) (r5.map cS) ∧ eget e 5 = .int .i64 s.1 ∧ eget e 6 = .int .i64 s.2
def spec_l01ReadAmount_b1_RR (a1 : List UInt8) (r5 : List (List UInt8)) (r : spec_l01ReadAmount_b1_R) (x : Ex) (e : Env) (M : Mem) : Prop :=
  match r with
  | (.inl g) => x = .ret ∧ eget e 2 = .int .i64 0 ∧ eget e 3 = .bool false
  | (.inr g) => x = .ext 0 ∧ eget e 0 = .str a1 ∧ eget e 5 = .int .i64 g
noncomputable def spec_l01ReadAmount_b1 (r5 : List (List UInt8)) : spec_l01ReadAmount_b1_S → Option (spec_l01ReadAmount_b1_S ⊕ spec_l01ReadAmount_b1_R) := fun (s1_1, s1_2) =>
 if (decide (s1_2 < (r5.length : Int))) = true then
  (rd r5 s1_2).bind fun x49 =>
  if (decide ((x49.length : Int) < 2)) = true then
   some (.inr (.inl ()))
  else
   (rd r5 s1_2).bind fun x71 =>
   (slc x71 0 (IntKind.i64.wrap ((x49.length : Int) - 1))).bind fun x73 =>
   (spec_l01Number x73).bind fun (r76, r77) =>
   (if r77 = true then
    some (decide (r76 > 100000000))
   else
    some true).bind fun y108 =>
   if y108 = true then
    some (.inr (.inl ()))
   else
    (rd r5 s1_2).bind fun x121 =>
    (rd x121 (IntKind.i64.wrap ((x49.length : Int) - 1))).bind fun x123 =>
    if ((x123.toNat : Int) == 108) = true then
     some (.inl ((IntKind.i64.wrap (s1_1 + (IntKind.i64.wrap (240 * r76)))), (IntKind.i64.wrap (s1_2 + 1))))
    else
     if ((x123.toNat : Int) == 115) = true then
      some (.inl ((IntKind.i64.wrap (s1_1 + (IntKind.i64.wrap (12 * r76)))), (IntKind.i64.wrap (s1_2 + 1))))
     else
      if ((x123.toNat : Int) == 100) = true then
       some (.inl ((IntKind.i64.wrap (s1_1 + r76)), (IntKind.i64.wrap (s1_2 + 1))))
      else
       some (.inr (.inl ()))
 else
  some (.inr (.inr s1_1))
theorem spec_l01ReadAmount_b1_ok (a1 : List UInt8) (r5 : List (List UInt8)) (s : spec_l01ReadAmount_b1_S) (r : spec_l01ReadAmount_b1_S ⊕ spec_l01ReadAmount_b1_R) (h : spec_l01ReadAmount_b1 r5 s = some r) (e : Env) (M : Mem) (hs : spec_l01ReadAmount_b1_RS a1 r5 s e M) : Ev (fun k => (f126_l4 (CN k) k (prune [0, 4, 5, 6] e) M).bind fun q => some q) (bQ (spec_l01ReadAmount_b1_RS a1 r5) (spec_l01ReadAmount_b1_RR a1 r5) r) := by
 obtain ⟨s1_1, s1_2⟩ := s
 unfold spec_l01ReadAmount_b1 at h
 obtain ⟨h33, h35, h37, h39⟩ := hs
 generalize he32 : prune [0, 4, 5, 6] e = e31
 have h34 := envp he32.symm rfl h33
 have h36 := envp he32.symm rfl h35
 have h38 := envp he32.symm rfl h37
 have h40 := envp he32.symm rfl h39
 refine sq (sq (Rg (kx (mvO h40) (kx (mvO h36) (kx (lnS Tryd.underlying86 rfl) (kx (bLss rfl rfl) (Rn (hV (.str a1) h34 (hV (.sl (some 9) (r5.map cS)) h36 (hV (.int .i64 s1_1) h38 (hV (.int .i64 s1_2) h40 (hN rfl hZ))))) fun e41 h43 h44 h45 h46 h47 => sN ?_)))))))
 clear h34 h36 h38 h40
 rcases ite_some h with ⟨hb48, h⟩ | ⟨hb48, h⟩
 ·obtain ⟨x49, hx50, h⟩ := bind_some h
  refine cT h47 hb48 (xx (sN (sq (bl (sq (Rg (kx (mvO h44) (kx (mvO h46) (kx (ixS rfl rfl hx50 cS_fl) (kx (ldP rfl rfl) (kx (lnB Tryd.underlying9 rfl) (kx (mvO rfl) (Rn (hA h43 (hA h44 (hA h45 (hA h46 (hN rfl hZ))))) fun e51 h53 h54 h55 h56 h57 => sN (sq (sq (Rg (kx (mvO h57) (kx (bLss rfl rfl) (Rn (hA h53 (hA h54 (hA h55 (hA h56 (hA h57 (hN rfl hZ)))))) fun e58 h60 h61 h62 h63 h64 h65 => sN ?_)))))))))))))))))))
  clear h43 h44 h45 h46 h47 h53 h54 h55 h56 h57
  rcases ite_some h with ⟨hb66, h⟩ | ⟨hb66, h⟩
  ·refine cT h65 hb66 (sq (Rg (kx (mvO rfl) (kx (mvO rfl) (Rn (hV (.int .i64 0) rfl (hV (.bool false) rfl hZ)) fun e67 h69 h70 => sN (xx (sR (bR (sR ?_)))))))))
   clear h60 h61 h62 h63 h64 h65
   obtain rfl := si h
   exact qR ⟨rfl, h69, h70⟩
  obtain ⟨x71, hx72, h⟩ := bind_some h
  obtain ⟨x73, hx74, h⟩ := bind_some h
  obtain ⟨⟨r76, r77⟩, hx75, h⟩ := bind_some h
  obtain ⟨r203, hr204, h⟩ := bind_some h
  refine cF h65 hb66 (xx (sN (sq (Rg (kx (mvO h61) (kx (mvO h63) (kx (ixS rfl rfl hx72 cS_fl) (kx (ldP rfl rfl) (kx (mvO h64) (kx (bSub rfl rfl) (kx (ssl2 rfl rfl (bnd1 rfl) hx74) (kc (cl (v := .tup [.int .i64 r76, .bool r77]) rfl (cns rfl rfl) rfl (spec_l01Number_ok x73 _ hx75) nm) (kx (mvO rfl) (kx (exT rfl rfl) (kx (exT rfl rfl) (kx (mvO rfl) (kx (mvO rfl) (Rn (hA h60 (hA h61 (hA h62 (hA h63 (hA h64 (hN rfl (hN rfl hZ))))))) fun e78 h80 h81 h82 h83 h84 h85 h86 => sN (sq (sq ?_))))))))))))))))))))
  clear h60 h61 h62 h63 h64 h65
  refine Ev.cut (Q1 := spec_l01ReadAmount_c2_Q a1 r5 s1_1 s1_2 x49 r76 r203) (by
      have h := hr204
      refine Rg (kx (mvO h86) (kx (uNot rfl) (kx (mvO rfl) ?_)))
      rcases ite_some h with ⟨hb87, h⟩ | ⟨hb87, h⟩
      ·refine kx (guF rfl (congrArg Bool.not hb87) (mvO h85)) (kx (guF rfl (congrArg Bool.not hb87) (bGtr rfl rfl)) (kx (pkF rfl (congrArg Bool.not hb87) rfl) (Rn (hA h80 (hA h81 (hA h82 (hA h83 (hA h84 (hA h85 (hN rfl hZ))))))) fun e88 h90 h91 h92 h93 h94 h95 h96 => ?_)))
       clear h80 h81 h82 h83 h84 h85 h86
       obtain rfl := si h
       exact kd (show spec_l01ReadAmount_c2_Q a1 r5 s1_1 s1_2 x49 r76 _ _ from ⟨rfl, h90, h91, h92, h93, h94, h95, h96⟩)
      refine kx (gsF rfl (congrArg Bool.not hb87)) (kx (gsF rfl (congrArg Bool.not hb87)) (kx (pkT rfl (congrArg Bool.not hb87) rfl) (Rn (hA h80 (hA h81 (hA h82 (hA h83 (hA h84 (hA h85 (hV (.bool true) rfl hZ))))))) fun e97 h99 h100 h101 h102 h103 h104 h105 => ?_)))
      clear h80 h81 h82 h83 h84 h85 h86
      obtain rfl := si h
      exact kd (show spec_l01ReadAmount_c2_Q a1 r5 s1_1 s1_2 x49 r76 _ _ from ⟨rfl, h99, h100, h101, h102, h103, h104, h105⟩)) ?_
  revert h hr204
  revert r203
  intro y108 hr204 h
  intro x e106 M107 hq202
  obtain ⟨rfl, h109, h110, h111, h112, h113, h114, h115⟩ := hq202
  refine sN ?_
  rcases ite_some h with ⟨hb116, h⟩ | ⟨hb116, h⟩
  ·refine cT h115 hb116 (sq (Rg (kx (mvO rfl) (kx (mvO rfl) (Rn (hV (.int .i64 0) rfl (hV (.bool false) rfl hZ)) fun e117 h119 h120 => sN (xx (sR (bR (sR ?_)))))))))
   clear h109 h110 h111 h112 h113 h114 h115
   obtain rfl := si h
   exact qR ⟨rfl, h119, h120⟩
  obtain ⟨x121, hx122, h⟩ := bind_some h
  obtain ⟨x123, hx124, h⟩ := bind_some h
  refine cF h115 hb116 (xx (sN (sq (Rg (kx (mvO h110) (kx (mvO h112) (kx (ixS rfl rfl hx122 cS_fl) (kx (ldP rfl rfl) (kx (mvO h113) (kx (bSub rfl rfl) (kx (ixB rfl rfl hx124) (Rn (hV (.str a1) h109 (hV (.sl (some 9) (r5.map cS)) h110 (hV (.int .i64 s1_1) h111 (hV (.int .i64 s1_2) h112 (hV (.int .i64 r76) h114 (hN rfl hZ)))))) fun e125 h127 h128 h129 h130 h131 h132 => sN (bl (sq (Rg (kx (bEql h132 rfl) (kx (mvO rfl) (Rn (hA h127 (hA h128 (hA h129 (hA h130 (hA h131 (hA h132 (hN rfl hZ))))))) fun e133 h135 h136 h137 h138 h139 h140 h141 => sN ?_))))))))))))))))))
  clear h109 h110 h111 h112 h113 h114 h115 h127 h128 h129 h130 h131 h132
  rcases ite_some h with ⟨hb142, h⟩ | ⟨hb142, h⟩
  ·refine cT h141 hb142 (Rg (kx (mvO h137) (kx (mvO h139) (kx (bMul rfl rfl) (kx (bAdd rfl rfl) (kx (mvO rfl) (Rn (hA h135 (hA h136 (hN rfl (hA h138 hZ)))) fun e143 h145 h146 h147 h148 => bN (bN (sN (Rg (kx (mvO h148) (kx (bAdd rfl rfl) (kx (mvO rfl) (Rn (hA h145 (hA h146 (hA h147 (hN rfl hZ)))) fun e149 h151 h152 h153 h154 => ?_))))))))))))))
   clear h135 h136 h138 h139 h140 h141 h145 h146 h147
   obtain rfl := si h
   exact qN ⟨h151, h152, h153, h154⟩
  refine cF h141 hb142 (sq (Rg (kx (bEql h140 rfl) (kx (mvO rfl) (Rn (hA h135 (hA h136 (hA h137 (hA h138 (hA h139 (hA h140 (hN rfl hZ))))))) fun e155 h157 h158 h159 h160 h161 h162 h163 => sN ?_)))))
  clear h135 h136 h137 h138 h139 h140 h141
  rcases ite_some h with ⟨hb164, h⟩ | ⟨hb164, h⟩
  ·refine cT h163 hb164 (Rg (kx (mvO h159) (kx (mvO h161) (kx (bMul rfl rfl) (kx (bAdd rfl rfl) (kx (mvO rfl) (Rn (hA h157 (hA h158 (hN rfl (hA h160 hZ)))) fun e165 h167 h168 h169 h170 => bN (bN (sN (Rg (kx (mvO h170) (kx (bAdd rfl rfl) (kx (mvO rfl) (Rn (hA h167 (hA h168 (hA h169 (hN rfl hZ)))) fun e171 h173 h174 h175 h176 => ?_))))))))))))))
   clear h157 h158 h160 h161 h162 h163 h167 h168 h169
   obtain rfl := si h
   exact qN ⟨h173, h174, h175, h176⟩
  refine cF h163 hb164 (sq (Rg (kx (bEql h162 rfl) (kx (mvO rfl) (Rn (hA h157 (hA h158 (hA h159 (hA h160 (hA h161 (hN rfl hZ)))))) fun e177 h179 h180 h181 h182 h183 h184 => sN ?_)))))
  clear h157 h158 h159 h160 h161 h162 h163
  rcases ite_some h with ⟨hb185, h⟩ | ⟨hb185, h⟩
  ·refine cT h184 hb185 (Rg (kx (mvO h181) (kx (mvO h183) (kx (bAdd rfl rfl) (kx (mvO rfl) (Rn (hA h179 (hA h180 (hN rfl (hA h182 hZ)))) fun e186 h188 h189 h190 h191 => bN (bN (sN (Rg (kx (mvO h191) (kx (bAdd rfl rfl) (kx (mvO rfl) (Rn (hA h188 (hA h189 (hA h190 (hN rfl hZ)))) fun e192 h194 h195 h196 h197 => ?_)))))))))))))
   clear h179 h180 h182 h183 h184 h188 h189 h190
   obtain rfl := si h
   exact qN ⟨h194, h195, h196, h197⟩
  refine cF h184 hb185 (sq (Rg (kx (mvO rfl) (kx (mvO rfl) (Rn (hV (.int .i64 0) rfl (hV (.bool false) rfl hZ)) fun e198 h200 h201 => sN (xx (bR (bR (sR ?_)))))))))
  clear h179 h180 h181 h182 h183 h184
  obtain rfl := si h
  exact qR ⟨rfl, h200, h201⟩
 refine cF h47 hb48 (xx (sE ?_))
 obtain rfl := si h
 exact qE ⟨rfl, h43, h45⟩
noncomputable def spec_l01ReadAmount (a1 : List UInt8) : Option (Int × Bool) :=
 (spec_l01Split a1 32).bind fun r5 =>
 (Lw (spec_l01ReadAmount_b1 r5) (0, 0)).bind fun r => match r with
 | (.inl _) =>
  some (0, false)
 | (.inr y214) =>
  (spec_l01Amount y214).bind fun r218 =>
  if r218 = true then
   (spec_l01AmountText y214).bind fun r221 =>
   some (y214, (r221 == a1))
  else
   some (y214, false)
def spec_l01ReadAmount_enc (r : Int × Bool) : AV := .tup [.int .i64 r.1, .bool r.2]
theorem spec_l01ReadAmount_ok (a1 : List UInt8) (r : Int × Bool) (h : spec_l01ReadAmount a1 = some r) : Ev (fun k => CN k 126 [.str a1] []) (fun p => rRes p.2 p.1 = spec_l01ReadAmount_enc r) := by
 unfold spec_l01ReadAmount at h
 obtain ⟨r5, hx4, h⟩ := bind_some h
 obtain ⟨r205, hr206, h⟩ := bind_some h
 refine Ev.enter (F := fun k => f126 (CN k) k) (fun k => callN_eq rfl Tryd.func126 rfl rfl rfl (by decide +kernel) (f126_eq _ _)) (sq (Rg (kx (mvO rfl) (kx (mvO rfl) (Rn (hN rfl hZ) fun e1 h3 => sN (sq (Rg (kx (mvO h3) (kc (cl (v := .sl (some 9) (r5.map cS)) rfl (cns rfl (cns rfl rfl)) rfl (spec_l01Split_ok a1 32 _ hx4) nm) (kx (mvO rfl) (Rn (hA h3 (hN rfl hZ)) fun e6 h8 h9 => sN (sq (Rg (kx (mvO rfl) (Rn (hA h8 (hA h9 (hV (.int .i64 0) rfl hZ))) fun e10 h12 h13 h14 => sN (sq (sq (Rg (kx (mvO rfl) (Rn (hA h12 (hA h13 (hA h14 (hV (.int .i64 0) rfl hZ)))) fun e15 h17 h18 h19 h20 => sN (bl ?_)))))))))))))))))))))
 clear h3 h8 h9 h12 h13 h14
 rcases r205 with _ | y214
 ·refine Ev.loop (RS := spec_l01ReadAmount_b1_RS a1 r5) (RR := spec_l01ReadAmount_b1_RR a1 r5) (fun s r h e M hs => spec_l01ReadAmount_b1_ok a1 r5 s r h e M hs) hr206 ⟨h17, h18, h19, h20⟩ fun x e208 M209 hq207 => ?_
  obtain ⟨rfl, h210, h211⟩ := hq207
  refine bR (sR ?_)
  obtain rfl := si h
  exact eR (resT h210 (resT h211 res0)) rfl
 refine Ev.loop (RS := spec_l01ReadAmount_b1_RS a1 r5) (RR := spec_l01ReadAmount_b1_RR a1 r5) (fun s r h e M hs => spec_l01ReadAmount_b1_ok a1 r5 s r h e M hs) hr206 ⟨h17, h18, h19, h20⟩ fun x e212 M213 hq207 => ?_
 obtain ⟨rfl, h215, h216⟩ := hq207
 obtain ⟨r218, hx217, h⟩ := bind_some h
 refine bE (sN (sq (Rg (kx (mvO h216) (kx (mvO h216) (kc (cl (v := .bool r218) rfl (cns rfl rfl) rfl (spec_l01Amount_ok y214 _ hx217) nm) (kx (mvO rfl) ?_)))))))
 rcases ite_some h with ⟨hb219, h⟩ | ⟨hb219, h⟩
 ·obtain ⟨r221, hx220, h⟩ := bind_some h
  refine kx (guT rfl hb219 (mvO h216)) (kc (Ev.guT rfl hb219 (cl (v := .str r221) rfl (cns rfl rfl) rfl (spec_l01AmountText_ok y214 _ hx220) nm)) (kx (guT rfl hb219 (mvO h215)) (kx (guT rfl hb219 (sEql rfl rfl)) (kx (pkT rfl hb219 rfl) (kx (mvO rfl) (kx (mvO rfl) (Rn (hN rfl (hN rfl hZ)) fun e222 h224 h225 => sN (xx ?_))))))))
  clear h215 h216
  obtain rfl := si h
  exact eR (resT h224 (resT h225 res0)) rfl
 refine kx (gsT rfl hb219) (kc (Ev.gsT rfl hb219) (kx (gsT rfl hb219) (kx (gsT rfl hb219) (kx (pkF rfl hb219 rfl) (kx (mvO rfl) (kx (mvO rfl) (Rn (hN rfl (hV (.bool false) rfl hZ)) fun e226 h228 h229 => sN (xx ?_))))))))
 clear h215 h216
 obtain rfl := si h
 exact eR (resT h228 (resT h229 res0)) rfl
/-! ### loop.example/g01263/impl.number (f121) -/
def impl_number_c1_Q (a1 : List UInt8) (r : Unit ⊕ Bool) (q : Out) : Prop :=
  match r with
  | (.inl g) => q.1 = .ret ∧ eget q.2.1 2 = .int .i64 0 ∧ eget q.2.1 3 = .bool false
  | (.inr g) => q.1 = .nrm ∧ eget q.2.1 0 = .str a1 ∧ eget q.2.1 22 = .bool g
abbrev impl_number_b1_S := Int × Int
abbrev impl_number_b1_R := Unit ⊕ Int
def impl_number_b1_RS (a1 : List UInt8) (s : impl_number_b1_S) (e : Env) (M : Mem) : Prop := eget e 0 = .str a1 ∧ eget e 4 = .int .i64 s.1 ∧ eget e 24 = .int .i64 (a1.length : Int) ∧ eget e 25 = .int .i64 s.2
def impl_number_b1_RR (a1 : List UInt8) (r : impl_number_b1_R) (x : Ex) (e : Env) (M : Mem) : Prop :=
  match r with
  | (.inl g) => x = .ret ∧ eget e 2 = .int .i64 0 ∧ eget e 3 = .bool false
  | (.inr g) => x = .ext 0 ∧ eget e 4 = .int .i64 g
noncomputable def impl_number_b1 (a1 : List UInt8) : impl_number_b1_S → Option (impl_number_b1_S ⊕ impl_number_b1_R) := fun (s1_1, s1_2) =>
 if (decide (s1_2 < (a1.length : Int))) = true then
  (rd a1 s1_2).bind fun x93 =>
  if (decide ((x93.toNat : Int) < 48)) = true then
   some (.inr (.inl ()))
  else
   (rd a1 s1_2).bind fun x108 =>
   if (decide ((x108.toNat : Int) > 57)) = true then
    some (.inr (.inl ()))
   else
    (rd a1 s1_2).bind fun x123 =>
    some (.inl ((IntKind.i64.wrap ((IntKind.i64.wrap (s1_1 * 10)) + (IntKind.i64.wrap (IntKind.u8.wrap ((x123.toNat : Int) - 48))))), (IntKind.i64.wrap (s1_2 + 1))))
 else
  some (.inr (.inr s1_1))
theorem impl_number_b1_ok (a1 : List UInt8) (s : impl_number_b1_S) (r : impl_number_b1_S ⊕ impl_number_b1_R) (h : impl_number_b1 a1 s = some r) (e : Env) (M : Mem) (hs : impl_number_b1_RS a1 s e M) : Ev (fun k => (f121_l5 (CN k) k (prune [0, 4, 24, 25] e) M).bind fun q => some q) (bQ (impl_number_b1_RS a1) (impl_number_b1_RR a1) r) := by
 obtain ⟨s1_1, s1_2⟩ := s
 unfold impl_number_b1 at h
 obtain ⟨h70, h72, h74, h76⟩ := hs
 generalize he69 : prune [0, 4, 24, 25] e = e68
 have h71 := envp he69.symm rfl h70
 have h73 := envp he69.symm rfl h72
 have h75 := envp he69.symm rfl h74
 have h77 := envp he69.symm rfl h76
 refine sq (Rg (kx (bLss h77 h75) (Rn (hV (.str a1) h71 (hV (.int .i64 s1_1) h73 (hV (.int .i64 (a1.length : Int)) h75 (hV (.int .i64 s1_2) h77 (hN rfl hZ))))) fun e78 h80 h81 h82 h83 h84 => sN (sq ?_))))
 clear h71 h73 h75 h77
 rcases ite_some h with ⟨hb85, h⟩ | ⟨hb85, h⟩
 ·obtain ⟨x93, hx94, h⟩ := bind_some h
  refine cT h84 hb85 (xx (sN (sq (bl (sq (Rg (kx (mvO h83) (kx (mvO rfl) (Rn (hA h80 (hA h81 (hN rfl (hA h82 (hA h83 hZ))))) fun e86 h88 h89 h90 h91 h92 => sN (sq (sq (Rg (kx (mvO h88) (kx (mvO h90) (kx (ixB rfl rfl hx94) (kx (bLss rfl rfl) (kx (mvO rfl) ?_)))))))))))))))))
  clear h80 h81 h82 h83 h84
  rcases ite_some h with ⟨hb95, h⟩ | ⟨hb95, h⟩
  ·refine kx (gsF rfl hb95) (kx (gsF rfl hb95) (kx (gsF rfl hb95) (kx (gsF rfl hb95) (kx (pkT rfl hb95 rfl) (Rn (hA h88 (hA h89 (hA h90 (hA h91 (hA h92 (hV (.bool true) rfl hZ)))))) fun e96 h98 h99 h100 h101 h102 h103 => sN (cT h103 rfl (sq (Rg (kx (mvO rfl) (kx (mvO rfl) (Rn (hV (.int .i64 0) rfl (hV (.bool false) rfl hZ)) fun e104 h106 h107 => sN (xx (sR (bR (sR ?_)))))))))))))))
   clear h88 h89 h90 h91 h92 h100 h101 h102 h103 h98 h99
   obtain rfl := si h
   exact qR ⟨rfl, h106, h107⟩
  obtain ⟨x108, hx109, h⟩ := bind_some h
  refine kx (guF rfl hb95 (mvO h88)) (kx (guF rfl hb95 (mvO h90)) (kx (guF rfl hb95 (ixB rfl rfl hx109)) (kx (guF rfl hb95 (bGtr rfl rfl)) (kx (pkF rfl hb95 rfl) (Rn (hA h88 (hA h89 (hA h90 (hA h91 (hA h92 (hN rfl hZ)))))) fun e110 h112 h113 h114 h115 h116 h117 => sN ?_)))))
  clear h88 h89 h90 h91 h92
  rcases ite_some h with ⟨hb118, h⟩ | ⟨hb118, h⟩
  ·refine cT h117 hb118 (sq (Rg (kx (mvO rfl) (kx (mvO rfl) (Rn (hV (.int .i64 0) rfl (hV (.bool false) rfl hZ)) fun e119 h121 h122 => sN (xx (sR (bR (sR ?_)))))))))
   clear h112 h113 h114 h115 h116 h117
   obtain rfl := si h
   exact qR ⟨rfl, h121, h122⟩
  obtain ⟨x123, hx124, h⟩ := bind_some h
  refine cF h117 hb118 (xx (sN (Rg (kx (mvO h113) (kx (bMul rfl rfl) (kx (mvO h112) (kx (mvO h114) (kx (ixB rfl rfl hx124) (kx (bSub rfl rfl) (kx (cvI rfl) (kx (bAdd rfl rfl) (kx (mvO rfl) (Rn (hA h112 (hN rfl (hA h115 (hA h116 hZ)))) fun e125 h127 h128 h129 h130 => bN (sN (Rg (kx (bAdd h130 rfl) (kx (mvO rfl) (Rn (hA h127 (hA h128 (hA h129 (hN rfl hZ)))) fun e131 h133 h134 h135 h136 => ?_))))))))))))))))))
  clear h112 h114 h115 h116 h117 h127 h128 h129
  obtain rfl := si h
  exact qN ⟨h133, h134, h135, h136⟩
 refine cF h84 hb85 (xx (sE ?_))
 obtain rfl := si h
 exact qE ⟨rfl, h81⟩
noncomputable def impl_number (a1 : List UInt8) : Option (Int × Bool) :=
 ((if (a1 == ([] : List UInt8)) = true then
  some (.inl ())
 else
  if (decide ((a1.length : Int) > 9)) = true then
   some (.inl ())
  else
   (rd a1 0).bind fun x22 =>
   if ((x22.toNat : Int) == 48) = true then
    if (decide ((a1.length : Int) > 1)) = true then
     some (.inl ())
    else
     some (.inr (decide ((a1.length : Int) > 1)))
   else
    some (.inr false) : Option (Unit ⊕ Bool))).bind fun r => match r with
 | (.inl _) =>
  some (0, false)
 | (.inr y45) =>
  (Lw (impl_number_b1 a1) (0, 0)).bind fun r => match r with
  | (.inl _) =>
   some (0, false)
  | (.inr y146) =>
   some (y146, true)
def impl_number_enc (r : Int × Bool) : AV := .tup [.int .i64 r.1, .bool r.2]
theorem impl_number_ok (a1 : List UInt8) (r : Int × Bool) (h : impl_number a1 = some r) : Ev (fun k => CN k 121 [.str a1] []) (fun p => rRes p.2 p.1 = impl_number_enc r) := by
 unfold impl_number at h
 obtain ⟨r153, hr154, h⟩ := bind_some h
 refine Ev.enter (F := fun k => f121 (CN k) k) (fun k => callN_eq rfl Tryd.func121 rfl rfl rfl (by decide +kernel) (f121_eq _ _)) (sq (Rg (kx (mvO rfl) (kx (mvO rfl) (Rn (hN rfl hZ) fun e1 h3 => sN (sq ?_))))))
 refine Ev.cut (Q1 := impl_number_c1_Q a1 r153) (by
     have h := hr154
     refine sq (Rg (kx (mvO h3) (kx (sEql rfl rfl) (kx (mvO rfl) ?_))))
     rcases ite_some h with ⟨hb4, h⟩ | ⟨hb4, h⟩
     ·refine kx (gsF rfl hb4) (kx (gsF rfl hb4) (kx (gsF rfl hb4) (kx (pkT rfl hb4 rfl) (kx (mvO rfl) (kx (gsF rfl rfl) (kx (gsF rfl rfl) (kx (gsF rfl rfl) (kx (gsF rfl rfl) (kx (gsU rfl) (kx (gsU rfl) (kx (gsU rfl) (kx (gsF rfl rfl) (kx (pkT rfl rfl rfl) (Rn (hA h3 (hV (.bool true) rfl hZ)) fun e5 h7 h8 => sN (cT h8 rfl (sq (Rg (kx (mvO rfl) (kx (mvO rfl) (Rn (hV (.int .i64 0) rfl (hV (.bool false) rfl hZ)) fun e9 h11 h12 => sN (xx ?_)))))))))))))))))))))
      clear h3 h7 h8
      obtain rfl := si h
      exact kd (show impl_number_c1_Q a1 _ _ from ⟨rfl, h11, h12⟩)
     refine kx (guF rfl hb4 (mvO h3)) (kx (guF rfl hb4 (lnB Tryd.underlying9 rfl)) (kx (guF rfl hb4 (bGtr rfl rfl)) (kx (pkF rfl hb4 rfl) (kx (mvO rfl) ?_))))
     rcases ite_some h with ⟨hb13, h⟩ | ⟨hb13, h⟩
     ·refine kx (gsF rfl hb13) (kx (gsF rfl hb13) (kx (gsF rfl hb13) (kx (gsF rfl hb13) (kx (gsU rfl) (kx (gsU rfl) (kx (gsU rfl) (kx (gsF rfl hb13) (kx (pkT rfl hb13 rfl) (Rn (hA h3 (hV (.bool true) rfl hZ)) fun e14 h16 h17 => sN (cT h17 rfl (sq (Rg (kx (mvO rfl) (kx (mvO rfl) (Rn (hV (.int .i64 0) rfl (hV (.bool false) rfl hZ)) fun e18 h20 h21 => sN (xx ?_))))))))))))))))
      clear h3 h16 h17
      obtain rfl := si h
      exact kd (show impl_number_c1_Q a1 _ _ from ⟨rfl, h20, h21⟩)
     obtain ⟨x22, hx23, h⟩ := bind_some h
     refine kx (guF rfl hb13 (mvO h3)) (kx (guF rfl hb13 (ixB rfl rfl hx23)) (kx (guF rfl hb13 (bEql rfl rfl)) (kx (guF rfl hb13 (mvO rfl)) ?_)))
     rcases ite_some h with ⟨hb24, h⟩ | ⟨hb24, h⟩
     ·refine kx (guT rfl hb24 (mvO h3)) (kx (guT rfl hb24 (lnB Tryd.underlying9 rfl)) (kx (guT rfl hb24 (bGtr rfl rfl)) (kx (guF rfl hb13 (pkT rfl hb24 rfl)) (kx (pkF rfl hb13 rfl) (Rn (hA h3 (hN rfl hZ)) fun e25 h27 h28 => sN ?_)))))
      clear h3
      rcases ite_some h with ⟨hb29, h⟩ | ⟨hb29, h⟩
      ·refine cT h28 hb29 (sq (Rg (kx (mvO rfl) (kx (mvO rfl) (Rn (hV (.int .i64 0) rfl (hV (.bool false) rfl hZ)) fun e30 h32 h33 => sN (xx ?_))))))
       clear h27 h28
       obtain rfl := si h
       exact kd (show impl_number_c1_Q a1 _ _ from ⟨rfl, h32, h33⟩)
      refine cF h28 hb29 (xx ?_)
      obtain rfl := si h
      exact kd (show impl_number_c1_Q a1 _ _ from ⟨rfl, h27, h28⟩)
     refine kx (gsT rfl hb24) (kx (gsT rfl hb24) (kx (gsT rfl hb24) (kx (guF rfl hb13 (pkF rfl hb24 rfl)) (kx (pkF rfl hb13 rfl) (Rn (hA h3 (hV (.bool false) rfl hZ)) fun e34 h36 h37 => sN (cF h37 rfl (xx ?_)))))))
     clear h3
     obtain rfl := si h
     exact kd (show impl_number_c1_Q a1 _ _ from ⟨rfl, h36, h37⟩)) ?_
 rcases r153 with _ | y45
 ·intro x e38 M39 hq42
  obtain ⟨rfl, h40, h41⟩ := hq42
  refine sR ?_
  obtain rfl := si h
  exact eR (resT h40 (resT h41 res0)) rfl
 intro x e43 M44 hq152
 obtain ⟨rfl, h46, h47⟩ := hq152
 obtain ⟨r137, hr138, h⟩ := bind_some h
 refine sN (sq (Rg (kx (mvO rfl) (Rn (hV (.str a1) h46 (hV (.int .i64 0) rfl hZ)) fun e48 h50 h51 => sN (sq (sq (Rg (kx (mvO h50) (kx (lnB Tryd.underlying9 rfl) (kx (mvO rfl) (Rn (hA h50 (hA h51 (hN rfl (hV (.int .i64 0) rfl hZ)))) fun e52 h54 h55 h56 h57 => sN (bl ?_))))))))))))
 clear h46 h47 h50 h51
 rcases r137 with _ | y146
 ·refine Ev.loop (RS := impl_number_b1_RS a1) (RR := impl_number_b1_RR a1) (fun s r h e M hs => impl_number_b1_ok a1 s r h e M hs) hr138 ⟨h54, h55, h56, h57⟩ fun x e140 M141 hq139 => ?_
  obtain ⟨rfl, h142, h143⟩ := hq139
  refine bR (sR ?_)
  obtain rfl := si h
  exact eR (resT h142 (resT h143 res0)) rfl
 refine Ev.loop (RS := impl_number_b1_RS a1) (RR := impl_number_b1_RR a1) (fun s r h e M hs => impl_number_b1_ok a1 s r h e M hs) hr138 ⟨h54, h55, h56, h57⟩ fun x e144 M145 hq139 => ?_
 obtain ⟨rfl, h147⟩ := hq139
 refine bE (sN (sq (Rg (kx (mvO h147) (kx (mvO rfl) (kx (mvO rfl) (Rn (hN rfl (hV (.bool true) rfl hZ)) fun e148 h150 h151 => sN (xx ?_))))))))
 clear h147
 obtain rfl := si h
 exact eR (resT h150 (resT h151 res0)) rfl
/-! ### strings.Split (f114), by its contract -/
noncomputable def strings_Split (a1 : List UInt8) (a2 : List UInt8) : Option ((List (List UInt8))) := splitI a1 a2
def strings_Split_enc (r : (List (List UInt8))) : AV := .sl (some 9) (r.map cS)
theorem strings_Split_ok (a1 : List UInt8) (a2 : List UInt8) (r : (List (List UInt8))) (h : strings_Split a1 a2 = some r) : Ev (fun k => CN k 114 [.str a1, .str a2] []) (fun p => rRes p.2 p.1 = strings_Split_enc r) := Ev.lib rfl rfl (lib_split rfl h) rfl
/-! ### strings.IndexByte (f120), by its contract -/
noncomputable def strings_IndexByte (a1 : List UInt8) (a2 : Int) : Option (Int) := idxI a1 a2
def strings_IndexByte_enc (r : Int) : AV := .int .i64 r
theorem strings_IndexByte_ok (a1 : List UInt8) (a2 : Int) (r : Int) (h : strings_IndexByte a1 a2 = some r) : Ev (fun k => CN k 120 [.str a1, .int .u8 a2] []) (fun p => rRes p.2 p.1 = strings_IndexByte_enc r) := Ev.lib rfl rfl (lib_idx h) rfl
/-! ### loop.example/g01263/impl.ReadAmount (f116) -/
abbrev impl_ReadAmount_b1_S := Int × Int
abbrev impl_ReadAmount_b1_R := Unit ⊕ Int
def impl_ReadAmount_b1_RS (a1 : List UInt8) (r18 : List (List UInt8)) (s : impl_ReadAmount_b1_S) (e : Env) (M : Mem) : Prop := eget e 0 = .str a1 ∧ eget e 4 = .int .i64 s.1 ∧ eget e 14 = .sl (some 9) (r18.map cS) ∧ eget e 15 = .int .i64 (r18.length : Int) ∧ eget e 16 = .int .i64 s.2
def impl_ReadAmount_b1_RR (a1 : List UInt8) (r18 : List (List UInt8)) (r : impl_ReadAmount_b1_R) (x : Ex) (e : Env) (M : Mem) : Prop :=
  match r with
  | (.inl g) => x = .ret ∧ eget e 2 = .int .i64 0 ∧ eget e 3 = .int .i64 5
  | (.inr g) => x = .ext 0 ∧ eget e 0 = .str a1 ∧ eget e 4 = .int .i64 g
noncomputable def impl_ReadAmount_b1 (r18 : List (List UInt8)) : impl_ReadAmount_b1_S → Option (impl_ReadAmount_b1_S ⊕ impl_ReadAmount_b1_R) := fun (s1_1, s1_2) =>
 if (decide (s1_2 < (r18.length : Int))) = true then
  (rd r18 s1_2).bind fun x59 =>
  if (x59 == ([] : List UInt8)) = true then
   some (.inr (.inl ()))
  else
   (slc x59 0 (IntKind.i64.wrap ((x59.length : Int) - 1))).bind fun x83 =>
   (impl_number x83).bind fun (r86, r87) =>
   (rd x59 (IntKind.i64.wrap ((x59.length : Int) - 1))).bind fun x98 =>
   (strings_IndexByte ([100, 115, 108] : List UInt8) (x98.toNat : Int)).bind fun r101 =>
   if r87 = true then
    if (decide (r101 < 0)) = true then
     some (.inr (.inl ()))
    else
     (impl_worth r101).bind fun r129 =>
     some (.inl ((IntKind.i64.wrap (s1_1 + (IntKind.i64.wrap (r86 * r129)))), (IntKind.i64.wrap (s1_2 + 1))))
   else
    some (.inr (.inl ()))
 else
  some (.inr (.inr s1_1))
theorem impl_ReadAmount_b1_ok (a1 : List UInt8) (r18 : List (List UInt8)) (s : impl_ReadAmount_b1_S) (r : impl_ReadAmount_b1_S ⊕ impl_ReadAmount_b1_R) (h : impl_ReadAmount_b1 r18 s = some r) (e : Env) (M : Mem) (hs : impl_ReadAmount_b1_RS a1 r18 s e M) : Ev (fun k => (f116_l5 (CN k) k (prune [0, 4, 14, 15, 16] e) M).bind fun q => some q) (bQ (impl_ReadAmount_b1_RS a1 r18) (impl_ReadAmount_b1_RR a1 r18) r) := by
 obtain ⟨s1_1, s1_2⟩ := s
 unfold impl_ReadAmount_b1 at h
 obtain ⟨h40, h42, h44, h46, h48⟩ := hs
 generalize he39 : prune [0, 4, 14, 15, 16] e = e38
 have h41 := envp he39.symm rfl h40
 have h43 := envp he39.symm rfl h42
 have h45 := envp he39.symm rfl h44
 have h47 := envp he39.symm rfl h46
 have h49 := envp he39.symm rfl h48
 refine sq (Rg (kx (bLss h49 h47) (Rn (hV (.str a1) h41 (hV (.int .i64 s1_1) h43 (hV (.sl (some 9) (r18.map cS)) h45 (hV (.int .i64 (r18.length : Int)) h47 (hV (.int .i64 s1_2) h49 (hN rfl hZ)))))) fun e50 h52 h53 h54 h55 h56 h57 => sN (sq ?_))))
 clear h41 h43 h45 h47 h49
 rcases ite_some h with ⟨hb58, h⟩ | ⟨hb58, h⟩
 ·obtain ⟨x59, hx60, h⟩ := bind_some h
  refine cT h57 hb58 (xx (sN (sq (bl (sq (Rg (kx (ixS h54 h56 hx60 cS_fl) (kx (ldP rfl rfl) (kx (mvO rfl) (Rn (hA h52 (hA h53 (hN rfl (hA h54 (hA h55 (hA h56 hZ)))))) fun e61 h63 h64 h65 h66 h67 h68 => sN (sq (sq (Rg (kx (mvO h65) (kx (sEql rfl rfl) (Rn (hA h63 (hA h64 (hA h65 (hA h66 (hA h67 (hA h68 (hN rfl hZ))))))) fun e69 h71 h72 h73 h74 h75 h76 h77 => sN ?_))))))))))))))))
  clear h52 h53 h54 h55 h56 h57 h63 h64 h65 h66 h67 h68
  rcases ite_some h with ⟨hb78, h⟩ | ⟨hb78, h⟩
  ·refine cT h77 hb78 (sq (Rg (kx (mvO rfl) (kx (mvO rfl) (Rn (hV (.int .i64 0) rfl (hV (.int .i64 5) rfl hZ)) fun e79 h81 h82 => sN (xx (sR (bR (sR ?_)))))))))
   clear h71 h72 h73 h74 h75 h76 h77
   obtain rfl := si h
   exact qR ⟨rfl, h81, h82⟩
  obtain ⟨x83, hx84, h⟩ := bind_some h
  obtain ⟨⟨r86, r87⟩, hx85, h⟩ := bind_some h
  obtain ⟨x98, hx99, h⟩ := bind_some h
  obtain ⟨r101, hx100, h⟩ := bind_some h
  refine cF h77 hb78 (xx (sN (sq (Rg (kx (mvO h73) (kx (mvO h73) (kx (lnB Tryd.underlying9 rfl) (kx (bSub rfl rfl) (kx (ssl2 rfl rfl (bnd1 rfl) hx84) (kc (cl (v := .tup [.int .i64 r86, .bool r87]) rfl (cns rfl rfl) rfl (impl_number_ok x83 _ hx85) nm) (kx (mvO rfl) (kx (exT rfl rfl) (kx (exT rfl rfl) (kx (mvO rfl) (kx (mvO rfl) (Rn (hA h71 (hA h72 (hA h73 (hN rfl (hN rfl (hA h74 (hA h75 (hA h76 hZ)))))))) fun e88 h90 h91 h92 h93 h94 h95 h96 h97 => sN (sq (Rg (kx (mvO h92) (kx (mvO h92) (kx (lnB Tryd.underlying9 rfl) (kx (bSub rfl rfl) (kx (ixB rfl rfl hx99) (kc (cl (v := .int .i64 r101) rfl (cns rfl (cns rfl rfl)) rfl (strings_IndexByte_ok ([100, 115, 108] : List UInt8) (x98.toNat : Int) _ hx100) nm) (kx (mvO rfl) (Rn (hA h90 (hA h91 (hA h93 (hA h94 (hN rfl (hA h95 (hA h96 (hA h97 hZ)))))))) fun e102 h104 h105 h106 h107 h108 h109 h110 h111 => sN (sq (sq (Rg (kx (mvO h107) (kx (uNot rfl) (kx (mvO rfl) ?_))))))))))))))))))))))))))))))))
  clear h71 h72 h73 h74 h75 h76 h77 h90 h91 h92 h93 h94 h95 h96 h97
  rcases ite_some h with ⟨hb112, h⟩ | ⟨hb112, h⟩
  ·refine kx (guF rfl (congrArg Bool.not hb112) (mvO h108)) (kx (guF rfl (congrArg Bool.not hb112) (bLss rfl rfl)) (kx (pkF rfl (congrArg Bool.not hb112) rfl) (Rn (hA h104 (hA h105 (hA h106 (hA h108 (hA h109 (hA h110 (hA h111 (hN rfl hZ)))))))) fun e113 h115 h116 h117 h118 h119 h120 h121 h122 => sN ?_)))
   clear h104 h105 h106 h107 h108 h109 h110 h111
   rcases ite_some h with ⟨hb123, h⟩ | ⟨hb123, h⟩
   ·refine cT h122 hb123 (sq (Rg (kx (mvO rfl) (kx (mvO rfl) (Rn (hV (.int .i64 0) rfl (hV (.int .i64 5) rfl hZ)) fun e124 h126 h127 => sN (xx (sR (bR (sR ?_)))))))))
    clear h115 h116 h117 h118 h119 h120 h121 h122
    obtain rfl := si h
    exact qR ⟨rfl, h126, h127⟩
   obtain ⟨r129, hx128, h⟩ := bind_some h
   refine cF h122 hb123 (xx (sN (Rg (kx (mvO h116) (kx (mvO h117) (kx (mvO h118) (kc (cl (v := .int .i64 r129) rfl (cns rfl rfl) rfl (impl_worth_ok r101 _ hx128) nm) (kx (bMul rfl rfl) (kx (bAdd rfl rfl) (kx (mvO rfl) (Rn (hA h115 (hN rfl (hA h119 (hA h120 (hA h121 hZ))))) fun e130 h132 h133 h134 h135 h136 => bN (sN (Rg (kx (bAdd h136 rfl) (kx (mvO rfl) (Rn (hA h132 (hA h133 (hA h134 (hA h135 (hN rfl hZ))))) fun e137 h139 h140 h141 h142 h143 => ?_))))))))))))))))
   clear h115 h117 h118 h119 h120 h121 h122 h132 h133 h134 h135
   obtain rfl := si h
   exact qN ⟨h139, h140, h141, h142, h143⟩
  refine kx (gsF rfl (congrArg Bool.not hb112)) (kx (gsF rfl (congrArg Bool.not hb112)) (kx (pkT rfl (congrArg Bool.not hb112) rfl) (Rn (hA h104 (hA h105 (hA h106 (hA h108 (hA h109 (hA h110 (hA h111 (hV (.bool true) rfl hZ)))))))) fun e144 h146 h147 h148 h149 h150 h151 h152 h153 => sN (cT h153 rfl (sq (Rg (kx (mvO rfl) (kx (mvO rfl) (Rn (hV (.int .i64 0) rfl (hV (.int .i64 5) rfl hZ)) fun e154 h156 h157 => sN (xx (sR (bR (sR ?_)))))))))))))
  clear h104 h105 h106 h107 h108 h109 h110 h111 h146 h147 h148 h149 h150 h151 h152 h153
  obtain rfl := si h
  exact qR ⟨rfl, h156, h157⟩
 refine cF h57 hb58 (xx (sE ?_))
 obtain rfl := si h
 exact qE ⟨rfl, h52, h53⟩
noncomputable def impl_ReadAmount (a1 : List UInt8) : Option (Int × Int) :=
 if (decide ((a1.length : Int) > 30)) = true then
  some (0, 5)
 else
  (strings_Split a1 ([32] : List UInt8)).bind fun r18 =>
  (Lw (impl_ReadAmount_b1 r18) (0, 0)).bind fun r => match r with
  | (.inl _) =>
   some (0, 5)
  | (.inr y167) =>
   (impl_AmountText y167).bind fun r171 =>
   if (r171 == a1) = true then
    some (y167, 0)
   else
    some (0, 5)
def impl_ReadAmount_enc (r : Int × Int) : AV := .tup [.int .i64 r.1, .int .i64 r.2]
theorem impl_ReadAmount_ok (a1 : List UInt8) (r : Int × Int) (h : impl_ReadAmount a1 = some r) : Ev (fun k => CN k 116 [.str a1] []) (fun p => rRes p.2 p.1 = impl_ReadAmount_enc r) := by
 unfold impl_ReadAmount at h
 refine Ev.enter (F := fun k => f116 (CN k) k) (fun k => callN_eq rfl Tryd.func116 rfl rfl rfl (by decide +kernel) (f116_eq _ _)) (sq (Rg (kx (mvO rfl) (kx (mvO rfl) (Rn (hN rfl hZ) fun e1 h3 => sN (sq (sq (Rg (kx (mvO h3) (kx (lnB Tryd.underlying9 rfl) (kx (bGtr rfl rfl) (Rn (hA h3 (hN rfl hZ)) fun e4 h6 h7 => sN ?_))))))))))))
 clear h3
 rcases ite_some h with ⟨hb8, h⟩ | ⟨hb8, h⟩
 ·refine cT h7 hb8 (sq (Rg (kx (mvO rfl) (kx (mvO rfl) (Rn (hV (.int .i64 0) rfl (hV (.int .i64 5) rfl hZ)) fun e9 h11 h12 => sN (xx (sR ?_)))))))
  clear h6 h7
  obtain rfl := si h
  exact eR (resT h11 (resT h12 res0)) rfl
 obtain ⟨r18, hx17, h⟩ := bind_some h
 obtain ⟨r158, hr159, h⟩ := bind_some h
 refine cF h7 hb8 (xx (sN (sq (Rg (kx (mvO rfl) (Rn (hA h6 (hV (.int .i64 0) rfl hZ)) fun e13 h15 h16 => sN (sq (sq (Rg (kx (mvO h15) (kc (cl (v := .sl (some 9) (r18.map cS)) rfl (cns rfl (cns rfl rfl)) rfl (strings_Split_ok a1 ([32] : List UInt8) _ hx17) nm) (kx (lnS Tryd.underlying86 rfl) (kx (mvO rfl) (Rn (hA h15 (hA h16 (hN rfl (hN rfl (hV (.int .i64 0) rfl hZ))))) fun e19 h21 h22 h23 h24 h25 => sN (bl ?_)))))))))))))))
 clear h6 h7 h15 h16
 rcases r158 with _ | y167
 ·refine Ev.loop (RS := impl_ReadAmount_b1_RS a1 r18) (RR := impl_ReadAmount_b1_RR a1 r18) (fun s r h e M hs => impl_ReadAmount_b1_ok a1 r18 s r h e M hs) hr159 ⟨h21, h22, h23, h24, h25⟩ fun x e161 M162 hq160 => ?_
  obtain ⟨rfl, h163, h164⟩ := hq160
  refine bR (sR ?_)
  obtain rfl := si h
  exact eR (resT h163 (resT h164 res0)) rfl
 refine Ev.loop (RS := impl_ReadAmount_b1_RS a1 r18) (RR := impl_ReadAmount_b1_RR a1 r18) (fun s r h e M hs => impl_ReadAmount_b1_ok a1 r18 s r h e M hs) hr159 ⟨h21, h22, h23, h24, h25⟩ fun x e165 M166 hq160 => ?_
 obtain ⟨rfl, h168, h169⟩ := hq160
 obtain ⟨r171, hx170, h⟩ := bind_some h
 refine bE (sN (sq (sq (Rg (kx (mvO h169) (kc (cl (v := .str r171) rfl (cns rfl rfl) rfl (impl_AmountText_ok y167 _ hx170) nm) (kx (mvO h168) (kx (sNeq rfl rfl) (Rn (hV (.int .i64 y167) h169 (hN rfl hZ)) fun e172 h174 h175 => sN ?_)))))))))
 clear h168 h169
 rcases ite_some h with ⟨hb176, h⟩ | ⟨hb176, h⟩
 ·refine cF h175 (congrArg Bool.not hb176) (xx (sN (sq (Rg (kx (mvO h174) (kx (mvO rfl) (kx (mvO rfl) (Rn (hN rfl (hV (.int .i64 0) rfl hZ)) fun e177 h179 h180 => sN (xx ?_)))))))))
  clear h174 h175
  obtain rfl := si h
  exact eR (resT h179 (resT h180 res0)) rfl
 refine cT h175 (congrArg Bool.not hb176) (sq (Rg (kx (mvO rfl) (kx (mvO rfl) (Rn (hV (.int .i64 0) rfl (hV (.int .i64 5) rfl hZ)) fun e181 h183 h184 => sN (xx (sR ?_)))))))
 clear h174 h175
 obtain rfl := si h
 exact eR (resT h183 (resT h184 res0)) rfl
/-! ### slices.Index[[]string,string] (f115) -/
abbrev slices_Index_string_b1_S := Int
abbrev slices_Index_string_b1_R := Int ⊕ Unit
def slices_Index_string_b1_RS (a1 : List (List UInt8)) (a2 : List UInt8) (s : slices_Index_string_b1_S) (e : Env) (M : Mem) : Prop := eget e 0 = .sl none (a1.map cS) ∧ eget e 1 = .str a2 ∧ eget e 7 = .int .i64 (a1.length : Int) ∧ eget e 8 = .int .i64 s
def slices_Index_string_b1_RR (a1 : List (List UInt8)) (a2 : List UInt8) (r : slices_Index_string_b1_R) (x : Ex) (e : Env) (M : Mem) : Prop :=
  match r with
  | (.inl g) => x = .ret ∧ eget e 4 = .int .i64 g
  | (.inr g) => x = .ext 0 ∧ True
noncomputable def slices_Index_string_b1 (a1 : List (List UInt8)) (a2 : List UInt8) : slices_Index_string_b1_S → Option (slices_Index_string_b1_S ⊕ slices_Index_string_b1_R) := fun s1_1 =>
 if (decide (s1_1 < (a1.length : Int))) = true then
  (rd a1 s1_1).bind fun x46 =>
  if (a2 == x46) = true then
   some (.inr (.inl s1_1))
  else
   some (.inl (IntKind.i64.wrap (s1_1 + 1)))
 else
  some (.inr (.inr ()))
theorem slices_Index_string_b1_ok (a1 : List (List UInt8)) (a2 : List UInt8) (s : slices_Index_string_b1_S) (r : slices_Index_string_b1_S ⊕ slices_Index_string_b1_R) (h : slices_Index_string_b1 a1 a2 s = some r) (e : Env) (M : Mem) (hs : slices_Index_string_b1_RS a1 a2 s e M) : Ev (fun k => (f115_l2 (CN k) k (prune [0, 1, 7, 8] e) M).bind fun q => some q) (bQ (slices_Index_string_b1_RS a1 a2) (slices_Index_string_b1_RR a1 a2) r) := by
 revert h hs
 revert s
 intro s1_1 h hs
 unfold slices_Index_string_b1 at h
 obtain ⟨h23, h25, h27, h29⟩ := hs
 generalize he22 : prune [0, 1, 7, 8] e = e21
 have h24 := envp he22.symm rfl h23
 have h26 := envp he22.symm rfl h25
 have h28 := envp he22.symm rfl h27
 have h30 := envp he22.symm rfl h29
 refine sq (Rg (kx (bLss h30 h28) (Rn (hV (.sl none (a1.map cS)) h24 (hV (.str a2) h26 (hV (.int .i64 (a1.length : Int)) h28 (hV (.int .i64 s1_1) h30 (hN rfl hZ))))) fun e31 h33 h34 h35 h36 h37 => sN (sq ?_))))
 clear h24 h26 h28 h30
 rcases ite_some h with ⟨hb38, h⟩ | ⟨hb38, h⟩
 ·obtain ⟨x46, hx47, h⟩ := bind_some h
  refine cT h37 hb38 (xx (sN (sq (bl (sq (Rg (kx (mvO h36) (kx (mvO rfl) (Rn (hA h33 (hA h34 (hN rfl (hA h35 (hA h36 hZ))))) fun e39 h41 h42 h43 h44 h45 => sN (sq (Rg (kx (mvO h42) (kx (mvO h41) (kx (mvO h43) (kx (ixS rfl rfl hx47 cS_fl) (kx (ldP rfl rfl) (kx (sEql rfl rfl) (Rn (hA h41 (hA h42 (hA h43 (hA h44 (hA h45 (hN rfl hZ)))))) fun e48 h50 h51 h52 h53 h54 h55 => sN ?_))))))))))))))))))
  clear h33 h34 h35 h36 h37 h41 h42 h43 h44 h45
  rcases ite_some h with ⟨hb56, h⟩ | ⟨hb56, h⟩
  ·refine cT h55 hb56 (sq (Rg (kx (mvO h52) (kx (mvO rfl) (Rn (hN rfl hZ) fun e57 h59 => sN (xx (bR (sR ?_))))))))
   clear h50 h51 h52 h53 h54 h55
   obtain rfl := si h
   exact qR ⟨rfl, h59⟩
  refine cF h55 hb56 (xx (bN (sN (Rg (kx (bAdd h54 rfl) (kx (mvO rfl) (Rn (hA h50 (hA h51 (hA h53 (hN rfl hZ)))) fun e60 h62 h63 h64 h65 => ?_)))))))
  clear h50 h51 h52 h53 h55
  obtain rfl := si h
  exact qN ⟨h62, h63, h64, h65⟩
 refine cF h37 hb38 (xx (sE ?_))
 obtain rfl := si h
 exact qE ⟨rfl, trivial⟩
noncomputable def slices_Index_string (a1 : List (List UInt8)) (a2 : List UInt8) : Option Int :=
 (Lw (slices_Index_string_b1 a1 a2) 0).bind fun r => match r with
 | (.inl y71) =>
  some y71
 | (.inr _) =>
  some (-1)
def slices_Index_string_enc (r : Int) : AV := .int .i64 r
theorem slices_Index_string_ok (a1 : List (List UInt8)) (a2 : List UInt8) (r : Int) (h : slices_Index_string a1 a2 = some r) : Ev (fun k => CN k 115 [.sl none (a1.map cS), .str a2] []) (fun p => rRes p.2 p.1 = slices_Index_string_enc r) := by
 unfold slices_Index_string at h
 obtain ⟨r66, hr67, h⟩ := bind_some h
 refine Ev.enter (F := fun k => f115 (CN k) k) (fun k => callN_eq rfl Tryd.func115 rfl rfl rfl (by decide +kernel) (f115_eq _ _)) (sq (Rg (kx (mvO rfl) (Rn (hN rfl (hN rfl hZ)) fun e1 h3 h4 => sN (sq (sq (Rg (kx (mvO h3) (kx (lnS Tryd.underlying86 rfl) (kx (mvO rfl) (Rn (hA h3 (hA h4 (hN rfl (hV (.int .i64 0) rfl hZ)))) fun e5 h7 h8 h9 h10 => sN (bl ?_))))))))))))
 clear h3 h4
 rcases r66 with y71 | _
 ·refine Ev.loop (RS := slices_Index_string_b1_RS a1 a2) (RR := slices_Index_string_b1_RR a1 a2) (fun s r h e M hs => slices_Index_string_b1_ok a1 a2 s r h e M hs) hr67 ⟨h7, h8, h9, h10⟩ fun x e69 M70 hq68 => ?_
  obtain ⟨rfl, h72⟩ := hq68
  refine bR (sR ?_)
  obtain rfl := si h
  exact eR (resT h72 res0) rfl
 refine Ev.loop (RS := slices_Index_string_b1_RS a1 a2) (RR := slices_Index_string_b1_RR a1 a2) (fun s r h e M hs => slices_Index_string_b1_ok a1 a2 s r h e M hs) hr67 ⟨h7, h8, h9, h10⟩ fun x e73 M74 hq68 => ?_
 obtain ⟨rfl, _⟩ := hq68
 refine bE (sN (sq (Rg (kx (mvO rfl) (Rn (hV (.int .i64 (-1)) rfl hZ) fun e75 h77 => sN (xx ?_))))))
 obtain rfl := si h
 exact eR (resT h77 res0) rfl
/-! ### loop.example/g01263/laws.eqDeal (f82) -/
noncomputable def laws_eqDeal (a1 : Deal) (a2 : Deal) : Option Bool :=
 if (a1.Day != a2.Day) = true then
  some false
 else
  if (a1.Kind != a2.Kind) = true then
   some false
  else
   if (a1.Tally != a2.Tally) = true then
    some false
   else
    if (a1.From != a2.From) = true then
     some false
    else
     if (a1.To != a2.To) = true then
      some false
     else
      if (a1.Amount != a2.Amount) = true then
       some false
      else
       some true
def laws_eqDeal_enc (r : Bool) : AV := .bool r
theorem laws_eqDeal_ok (a1 : Deal) (a2 : Deal) (r : Bool) (h : laws_eqDeal a1 a2 = some r) : Ev (fun k => CN k 82 [.agg [.int .i64 a1.Day, .int .i8 a1.Kind, .int .i64 a1.Tally, .int .i64 a1.From, .int .i64 a1.To, .int .i64 a1.Amount], .agg [.int .i64 a2.Day, .int .i8 a2.Kind, .int .i64 a2.Tally, .int .i64 a2.From, .int .i64 a2.To, .int .i64 a2.Amount]] []) (fun p => rRes p.2 p.1 = laws_eqDeal_enc r) := by
 unfold laws_eqDeal at h
 refine Ev.enter (F := fun k => f82 (CN k) k) (fun k => callN_eq rfl Tryd.func82 rfl rfl rfl (by decide +kernel) (f82_eq _ _)) (sq (Rg (kx (bxI rfl rfl ⟨rfl, rfl, by decide⟩) (kx (bxI rfl rfl ⟨rfl, rfl, by decide⟩) (kx (mvO rfl) (Rn (hN rfl (hN rfl hZ)) fun e1 h3 h4 => sN (sq (sq (Rg (kx (faP h3 ⟨ble rfl, blt rfl⟩ rfl) (kx (ldP rfl rfl) (kx (faP h4 ⟨ble rfl, blt rfl⟩ rfl) (kx (ldP rfl rfl) (kx (bNeq rfl rfl) (Rn (hA h3 (hA h4 (hN rfl hZ))) fun e5 h7 h8 h9 => sN ?_)))))))))))))))
 clear h3 h4
 rcases ite_some h with ⟨hb10, h⟩ | ⟨hb10, h⟩
 ·refine cT h9 hb10 (sq (Rg (kx (mvO rfl) (Rn (hV (.bool false) rfl hZ) fun e11 h13 => sN (xx (sR ?_))))))
  clear h7 h8 h9
  obtain rfl := si h
  exact eR (resT h13 res0) rfl
 refine cF h9 hb10 (xx (sN (sq (sq (Rg (kx (faP h7 ⟨ble rfl, blt rfl⟩ rfl) (kx (ldP rfl rfl) (kx (faP h8 ⟨ble rfl, blt rfl⟩ rfl) (kx (ldP rfl rfl) (kx (bNeq rfl rfl) (Rn (hA h7 (hA h8 (hN rfl hZ))) fun e14 h16 h17 h18 => sN ?_)))))))))))
 clear h7 h8 h9
 rcases ite_some h with ⟨hb19, h⟩ | ⟨hb19, h⟩
 ·refine cT h18 hb19 (sq (Rg (kx (mvO rfl) (Rn (hV (.bool false) rfl hZ) fun e20 h22 => sN (xx (sR ?_))))))
  clear h16 h17 h18
  obtain rfl := si h
  exact eR (resT h22 res0) rfl
 refine cF h18 hb19 (xx (sN (sq (sq (Rg (kx (faP h16 ⟨ble rfl, blt rfl⟩ rfl) (kx (ldP rfl rfl) (kx (faP h17 ⟨ble rfl, blt rfl⟩ rfl) (kx (ldP rfl rfl) (kx (bNeq rfl rfl) (Rn (hA h16 (hA h17 (hN rfl hZ))) fun e23 h25 h26 h27 => sN ?_)))))))))))
 clear h16 h17 h18
 rcases ite_some h with ⟨hb28, h⟩ | ⟨hb28, h⟩
 ·refine cT h27 hb28 (sq (Rg (kx (mvO rfl) (Rn (hV (.bool false) rfl hZ) fun e29 h31 => sN (xx (sR ?_))))))
  clear h25 h26 h27
  obtain rfl := si h
  exact eR (resT h31 res0) rfl
 refine cF h27 hb28 (xx (sN (sq (sq (Rg (kx (faP h25 ⟨ble rfl, blt rfl⟩ rfl) (kx (ldP rfl rfl) (kx (faP h26 ⟨ble rfl, blt rfl⟩ rfl) (kx (ldP rfl rfl) (kx (bNeq rfl rfl) (Rn (hA h25 (hA h26 (hN rfl hZ))) fun e32 h34 h35 h36 => sN ?_)))))))))))
 clear h25 h26 h27
 rcases ite_some h with ⟨hb37, h⟩ | ⟨hb37, h⟩
 ·refine cT h36 hb37 (sq (Rg (kx (mvO rfl) (Rn (hV (.bool false) rfl hZ) fun e38 h40 => sN (xx (sR ?_))))))
  clear h34 h35 h36
  obtain rfl := si h
  exact eR (resT h40 res0) rfl
 refine cF h36 hb37 (xx (sN (sq (sq (Rg (kx (faP h34 ⟨ble rfl, blt rfl⟩ rfl) (kx (ldP rfl rfl) (kx (faP h35 ⟨ble rfl, blt rfl⟩ rfl) (kx (ldP rfl rfl) (kx (bNeq rfl rfl) (Rn (hA h34 (hA h35 (hN rfl hZ))) fun e41 h43 h44 h45 => sN ?_)))))))))))
 clear h34 h35 h36
 rcases ite_some h with ⟨hb46, h⟩ | ⟨hb46, h⟩
 ·refine cT h45 hb46 (sq (Rg (kx (mvO rfl) (Rn (hV (.bool false) rfl hZ) fun e47 h49 => sN (xx (sR ?_))))))
  clear h43 h44 h45
  obtain rfl := si h
  exact eR (resT h49 res0) rfl
 refine cF h45 hb46 (xx (sN (sq (sq (Rg (kx (faP h43 ⟨ble rfl, blt rfl⟩ rfl) (kx (ldP rfl rfl) (kx (faP h44 ⟨ble rfl, blt rfl⟩ rfl) (kx (ldP rfl rfl) (kx (bNeq rfl rfl) (Rn (hN rfl hZ) fun e50 h52 => sN ?_)))))))))))
 clear h43 h44 h45
 rcases ite_some h with ⟨hb53, h⟩ | ⟨hb53, h⟩
 ·refine cT h52 hb53 (sq (Rg (kx (mvO rfl) (Rn (hV (.bool false) rfl hZ) fun e54 h56 => sN (xx (sR ?_))))))
  clear h52
  obtain rfl := si h
  exact eR (resT h56 res0) rfl
 refine cF h52 hb53 (xx (sN (sq (Rg (kx (mvO rfl) (Rn (hV (.bool true) rfl hZ) fun e57 h59 => sN (xx ?_)))))))
 clear h52
 obtain rfl := si h
 exact eR (resT h59 res0) rfl
/-! ### loop.example/g01263/impl.readDeal (f81) -/
def impl_readDeal_c1_Q (a1 : List UInt8) (r10 : List (List UInt8)) (i901_1 : Nat) (g : Bool) (q : Out) : Prop := q.1 = .nrm ∧ eget q.2.1 0 = .str a1 ∧ eget q.2.1 2 = .loc i901_1 1 0 0 ∧ eget q.2.1 4 = .sl (some 9) (r10.map cS) ∧ eget q.2.1 25 = .bool g ∧ q.2.2[i901_1]? = some (.live ⟨.box, 126, 6, [[.int .i64 0, .int .i8 0, .int .i64 0, .int .i64 0, .int .i64 0, .int .i64 0]]⟩)
def impl_readDeal_c2_Q (a1 : List UInt8) (r48 : Int) (r118 : Int) (x142 : List (List UInt8)) (i902_1 : Nat) (i902_2 : Nat) (i902_3 : Nat) (g : Bool) (q : Out) : Prop := q.1 = .nrm ∧ eget q.2.1 0 = .str a1 ∧ eget q.2.1 2 = .loc i902_1 1 0 0 ∧ eget q.2.1 5 = .loc i902_2 1 0 0 ∧ eget q.2.1 6 = .lsl i902_3 [3, 4].length 0 [3, 4].length ∧ eget q.2.1 9 = .sl none (x142.map cS) ∧ eget q.2.1 81 = .bool g ∧ q.2.2[i902_1]? = some (.live ⟨.box, 126, 6, [[.int .i64 0, .int .i8 0, .int .i64 0, .int .i64 0, .int .i64 0, .int .i64 0]]⟩) ∧ q.2.2[i902_2]? = some (.live ⟨.box, 126, 6, [[.int .i64 r118, .int .i8 (IntKind.i8.wrap r48), .int .i64 0, .int .i64 0, .int .i64 0, .int .i64 0]]⟩) ∧ q.2.2[i902_3]? = some (.live ⟨.grow, 179, 1, [3, 4].map (cP i902_2 1)⟩)
def impl_readDeal_c3_Q (a1 : List UInt8) (r48 : Int) (r521 : Int) (x545 : List (List UInt8)) (i903_1 : Nat) (i903_2 : Nat) (i903_3 : Nat) (g : Bool) (q : Out) : Prop := q.1 = .nrm ∧ eget q.2.1 0 = .str a1 ∧ eget q.2.1 2 = .loc i903_1 1 0 0 ∧ eget q.2.1 5 = .loc i903_2 1 0 0 ∧ eget q.2.1 6 = .lsl i903_3 [2, 3, 4].length 0 [2, 3, 4].length ∧ eget q.2.1 9 = .sl none (x545.map cS) ∧ eget q.2.1 81 = .bool g ∧ q.2.2[i903_1]? = some (.live ⟨.box, 126, 6, [[.int .i64 0, .int .i8 0, .int .i64 0, .int .i64 0, .int .i64 0, .int .i64 0]]⟩) ∧ q.2.2[i903_2]? = some (.live ⟨.box, 126, 6, [[.int .i64 r521, .int .i8 (IntKind.i8.wrap r48), .int .i64 0, .int .i64 0, .int .i64 0, .int .i64 0]]⟩) ∧ q.2.2[i903_3]? = some (.live ⟨.grow, 179, 1, [2, 3, 4].map (cP i903_2 1)⟩)
def impl_readDeal_c4_Q (a1 : List UInt8) (r48 : Int) (r1047 : Int) (x1071 : List (List UInt8)) (i904_1 : Nat) (i904_2 : Nat) (i904_3 : Nat) (g : Bool) (q : Out) : Prop := q.1 = .nrm ∧ eget q.2.1 0 = .str a1 ∧ eget q.2.1 2 = .loc i904_1 1 0 0 ∧ eget q.2.1 5 = .loc i904_2 1 0 0 ∧ eget q.2.1 6 = .lsl i904_3 [2].length 0 [2].length ∧ eget q.2.1 9 = .sl none (x1071.map cS) ∧ eget q.2.1 81 = .bool g ∧ q.2.2[i904_1]? = some (.live ⟨.box, 126, 6, [[.int .i64 0, .int .i8 0, .int .i64 0, .int .i64 0, .int .i64 0, .int .i64 0]]⟩) ∧ q.2.2[i904_3]? = some (.live ⟨.grow, 179, 1, [2].map (cP i904_2 1)⟩) ∧ q.2.2[i904_2]? = some (.live ⟨.box, 126, 6, [[.int .i64 r1047, .int .i8 (IntKind.i8.wrap r48), .int .i64 0, .int .i64 0, .int .i64 0, .int .i64 0]]⟩)
def impl_readDeal_c5_Q (a1 : List UInt8) (r48 : Int) (r1350 : Int) (x1374 : List (List UInt8)) (i905_1 : Nat) (i905_2 : Nat) (i905_3 : Nat) (g : Bool) (q : Out) : Prop := q.1 = .nrm ∧ eget q.2.1 0 = .str a1 ∧ eget q.2.1 2 = .loc i905_1 1 0 0 ∧ eget q.2.1 5 = .loc i905_2 1 0 0 ∧ eget q.2.1 6 = .lsl i905_3 [2, 3].length 0 [2, 3].length ∧ eget q.2.1 9 = .sl none (x1374.map cS) ∧ eget q.2.1 81 = .bool g ∧ q.2.2[i905_1]? = some (.live ⟨.box, 126, 6, [[.int .i64 0, .int .i8 0, .int .i64 0, .int .i64 0, .int .i64 0, .int .i64 0]]⟩) ∧ q.2.2[i905_3]? = some (.live ⟨.grow, 179, 1, [2, 3].map (cP i905_2 1)⟩) ∧ q.2.2[i905_2]? = some (.live ⟨.box, 126, 6, [[.int .i64 r1350, .int .i8 (IntKind.i8.wrap r48), .int .i64 0, .int .i64 0, .int .i64 0, .int .i64 0]]⟩)
def impl_readDeal_c6_Q (a1 : List UInt8) (r48 : Int) (r1689 : Int) (x1713 : List (List UInt8)) (i906_1 : Nat) (i906_2 : Nat) (i906_3 : Nat) (g : Unit) (q : Out) : Prop := q.1 = .nrm ∧ eget q.2.1 0 = .str a1 ∧ eget q.2.1 2 = .loc i906_1 1 0 0 ∧ eget q.2.1 5 = .loc i906_2 1 0 0 ∧ eget q.2.1 6 = .lsl i906_3 ([] : List Nat).length 0 ([] : List Nat).length ∧ eget q.2.1 9 = .sl none (x1713.map cS) ∧ eget q.2.1 81 = .bool true ∧ q.2.2[i906_1]? = some (.live ⟨.box, 126, 6, [[.int .i64 0, .int .i8 0, .int .i64 0, .int .i64 0, .int .i64 0, .int .i64 0]]⟩) ∧ q.2.2[i906_2]? = some (.live ⟨.box, 126, 6, [[.int .i64 r1689, .int .i8 (IntKind.i8.wrap r48), .int .i64 0, .int .i64 0, .int .i64 0, .int .i64 0]]⟩) ∧ q.2.2[i906_3]? = some (.live ⟨.grow, 179, 1, ([] : List Nat).map (cP 0 1)⟩)
noncomputable def impl_readDeal (a1 : List UInt8) : Option (Int × Int × Int × Int × Int × Int × Bool) :=
 (strings_Split a1 ([32] : List UInt8)).bind fun r10 =>
 (if (decide ((r10.length : Int) < 4)) = true then
  some true
 else
  some (decide ((r10.length : Int) > 8))).bind fun y31 =>
 if y31 = true then
  some (0, 0, 0, 0, 0, 0, false)
 else
  (rd r10 1).bind fun x45 =>
  (slices_Index_string [([] : List UInt8), ([99, 117, 116] : List UInt8), ([112, 97, 115, 115] : List UInt8), ([112, 97, 121] : List UInt8), ([101, 110, 100] : List UInt8)] x45).bind fun r48 =>
  if ((IntKind.i8.wrap r48) == 1) = true then
   (rd r10 0).bind fun x115 =>
   (impl_number x115).bind fun (r118, r119) =>
   (slc r10 2 (r10.length : Int)).bind fun x142 =>
   (if r119 = true then
    some (decide ((x142.length : Int) < 2))
   else
    some true).bind fun y171 =>
   if y171 = true then
    some (0, 0, 0, 0, 0, 0, false)
   else
    (rd x142 0).bind fun x234 =>
    (impl_number x234).bind fun (r237, r238) =>
    if r238 = true then
     (rd x142 1).bind fun x324 =>
     (impl_number x324).bind fun (r327, r328) =>
     if r328 = true then
      (slc x142 2 (x142.length : Int)).bind fun x410 =>
      (strings_Join x410 ([32] : List UInt8)).bind fun r413 =>
      (impl_ReadAmount r413).bind fun (r415, r416) =>
      if (r416 != 0) = true then
       some (0, 0, 0, 0, 0, 0, false)
      else
       (impl_ValidDeal (Deal.mk r118 (IntKind.i8.wrap r48) 0 r237 r327 r415)).bind fun r450 =>
       if r450 = true then
        (impl_dealText (Deal.mk r118 (IntKind.i8.wrap r48) 0 r237 r327 r415)).bind fun r453 =>
        some (r118, (IntKind.i8.wrap r48), 0, r237, r327, r415, (r453 == a1))
       else
        some (r118, (IntKind.i8.wrap r48), 0, r237, r327, r415, false)
     else
      some (0, 0, 0, 0, 0, 0, false)
    else
     some (0, 0, 0, 0, 0, 0, false)
  else
   if ((IntKind.i8.wrap r48) == 2) = true then
    (rd r10 0).bind fun x518 =>
    (impl_number x518).bind fun (r521, r522) =>
    (slc r10 2 (r10.length : Int)).bind fun x545 =>
    (if r522 = true then
     some (decide ((x545.length : Int) < 3))
    else
     some true).bind fun y574 =>
    if y574 = true then
     some (0, 0, 0, 0, 0, 0, false)
    else
     (rd x545 0).bind fun x637 =>
     (impl_number x637).bind fun (r640, r641) =>
     if r641 = true then
      (rd x545 1).bind fun x727 =>
      (impl_number x727).bind fun (r730, r731) =>
      if r731 = true then
       (rd x545 2).bind fun x817 =>
       (impl_number x817).bind fun (r820, r821) =>
       if r821 = true then
        if ((IntKind.i8.wrap r48) == 3) = true then
         (slc x545 3 (x545.length : Int)).bind fun x904 =>
         (strings_Join x904 ([32] : List UInt8)).bind fun r907 =>
         (impl_ReadAmount r907).bind fun (r909, r910) =>
         if (r910 != 0) = true then
          some (0, 0, 0, 0, 0, 0, false)
         else
          (impl_ValidDeal (Deal.mk r521 (IntKind.i8.wrap r48) r640 r730 r820 r909)).bind fun r944 =>
          if r944 = true then
           (impl_dealText (Deal.mk r521 (IntKind.i8.wrap r48) r640 r730 r820 r909)).bind fun r947 =>
           some (r521, (IntKind.i8.wrap r48), r640, r730, r820, r909, (r947 == a1))
          else
           some (r521, (IntKind.i8.wrap r48), r640, r730, r820, r909, false)
        else
         (impl_ValidDeal (Deal.mk r521 (IntKind.i8.wrap r48) r640 r730 r820 0)).bind fun r965 =>
         if r965 = true then
          (impl_dealText (Deal.mk r521 (IntKind.i8.wrap r48) r640 r730 r820 0)).bind fun r968 =>
          some (r521, (IntKind.i8.wrap r48), r640, r730, r820, 0, (r968 == a1))
         else
          some (r521, (IntKind.i8.wrap r48), r640, r730, r820, 0, false)
       else
        some (0, 0, 0, 0, 0, 0, false)
      else
       some (0, 0, 0, 0, 0, 0, false)
     else
      some (0, 0, 0, 0, 0, 0, false)
   else
    if ((IntKind.i8.wrap r48) == 3) = true then
     (rd r10 0).bind fun x1044 =>
     (impl_number x1044).bind fun (r1047, r1048) =>
     (slc r10 2 (r10.length : Int)).bind fun x1071 =>
     (if r1048 = true then
      some (decide ((x1071.length : Int) < 1))
     else
      some true).bind fun y1100 =>
     if y1100 = true then
      some (0, 0, 0, 0, 0, 0, false)
     else
      (rd x1071 0).bind fun x1163 =>
      (impl_number x1163).bind fun (r1166, r1167) =>
      if r1167 = true then
       (slc x1071 1 (x1071.length : Int)).bind fun x1249 =>
       (strings_Join x1249 ([32] : List UInt8)).bind fun r1252 =>
       (impl_ReadAmount r1252).bind fun (r1254, r1255) =>
       if (r1255 != 0) = true then
        some (0, 0, 0, 0, 0, 0, false)
       else
        (impl_ValidDeal (Deal.mk r1047 (IntKind.i8.wrap r48) r1166 0 0 r1254)).bind fun r1289 =>
        if r1289 = true then
         (impl_dealText (Deal.mk r1047 (IntKind.i8.wrap r48) r1166 0 0 r1254)).bind fun r1292 =>
         some (r1047, (IntKind.i8.wrap r48), r1166, 0, 0, r1254, (r1292 == a1))
        else
         some (r1047, (IntKind.i8.wrap r48), r1166, 0, 0, r1254, false)
      else
       some (0, 0, 0, 0, 0, 0, false)
    else
     if ((IntKind.i8.wrap r48) == 4) = true then
      (rd r10 0).bind fun x1347 =>
      (impl_number x1347).bind fun (r1350, r1351) =>
      (slc r10 2 (r10.length : Int)).bind fun x1374 =>
      (if r1351 = true then
       some (decide ((x1374.length : Int) < 2))
      else
       some true).bind fun y1403 =>
      if y1403 = true then
       some (0, 0, 0, 0, 0, 0, false)
      else
       (rd x1374 0).bind fun x1466 =>
       (impl_number x1466).bind fun (r1469, r1470) =>
       if r1470 = true then
        (rd x1374 1).bind fun x1556 =>
        (impl_number x1556).bind fun (r1559, r1560) =>
        if r1560 = true then
         (impl_ValidDeal (Deal.mk r1350 (IntKind.i8.wrap r48) r1469 r1559 0 0)).bind fun r1643 =>
         if r1643 = true then
          (impl_dealText (Deal.mk r1350 (IntKind.i8.wrap r48) r1469 r1559 0 0)).bind fun r1646 =>
          some (r1350, (IntKind.i8.wrap r48), r1469, r1559, 0, 0, (r1646 == a1))
         else
          some (r1350, (IntKind.i8.wrap r48), r1469, r1559, 0, 0, false)
        else
         some (0, 0, 0, 0, 0, 0, false)
       else
        some (0, 0, 0, 0, 0, 0, false)
     else
      (rd r10 0).bind fun x1686 =>
      (impl_number x1686).bind fun (r1689, r1690) =>
      (slc r10 2 (r10.length : Int)).bind fun x1713 =>
      (if r1690 = true then
       some ()
      else
       some ()).bind fun _ =>
      some (0, 0, 0, 0, 0, 0, false)
def impl_readDeal_enc (r : Int × Int × Int × Int × Int × Int × Bool) : AV := .tup [.agg [.int .i64 r.1, .int .i8 r.2.1, .int .i64 r.2.2.1, .int .i64 r.2.2.2.1, .int .i64 r.2.2.2.2.1, .int .i64 r.2.2.2.2.2.1], .bool r.2.2.2.2.2.2]
theorem impl_readDeal_ok (a1 : List UInt8) (r : Int × Int × Int × Int × Int × Int × Bool) (h : impl_readDeal a1 = some r) : Ev (fun k => CN k 81 [.str a1] []) (fun p => rRes p.2 p.1 = impl_readDeal_enc r) := by
 unfold impl_readDeal at h
 refine Ev.enter (F := fun k => f81 (CN k) k) (fun k => callN_eq rfl Tryd.func81 rfl rfl rfl (by decide +kernel) (f81_eq _ _)) (sq (Rg (ku (alO zero126) fun M2 hM3 => ?_)))
 have o4 : M2[([] : Mem).length]? = some (.live ⟨.box, 126, 6, [[.int .i64 0, .int .i8 0, .int .i64 0, .int .i64 0, .int .i64 0, .int .i64 0]]⟩) := push_new hM3
 obtain ⟨r10, hx9, h⟩ := bind_some h
 obtain ⟨r1764, hr1765, h⟩ := bind_some h
 refine kx (mvO rfl) (Rn (hN rfl (hV (.loc ([] : Mem).length 1 0 0) rfl hZ)) fun e5 h7 h8 => sN (sq (Rg (kx (mvO h7) (kc (cl (v := .sl (some 9) (r10.map cS)) rfl (cns rfl (cns rfl rfl)) rfl (strings_Split_ok a1 ([32] : List UInt8) _ hx9) nm) (kx (mvO rfl) (Rn (hA h7 (hA h8 (hN rfl hZ))) fun e11 h13 h14 h15 => sN (sq (sq ?_)))))))))
 clear h7 h8
 refine Ev.cut (Q1 := impl_readDeal_c1_Q a1 r10 (([] : Mem).length) r1764) (by
     have h := hr1765
     refine Rg (kx (mvO h15) (kx (lnS Tryd.underlying86 rfl) (kx (bLss rfl rfl) (kx (mvO rfl) ?_))))
     rcases ite_some h with ⟨hb16, h⟩ | ⟨hb16, h⟩
     ·refine kx (gsF rfl hb16) (kx (gsF rfl hb16) (kx (gsF rfl hb16) (kx (pkT rfl hb16 rfl) (Rn (hA h13 (hA h14 (hA h15 (hV (.bool true) rfl hZ)))) fun e17 h19 h20 h21 h22 => ?_))))
      clear h13 h14 h15
      obtain rfl := si h
      exact kd (show impl_readDeal_c1_Q a1 r10 (([] : Mem).length) _ _ from ⟨rfl, h19, h20, h21, h22, o4⟩)
     refine kx (guF rfl hb16 (mvO h15)) (kx (guF rfl hb16 (lnS Tryd.underlying86 rfl)) (kx (guF rfl hb16 (bGtr rfl rfl)) (kx (pkF rfl hb16 rfl) (Rn (hA h13 (hA h14 (hA h15 (hN rfl hZ)))) fun e23 h25 h26 h27 h28 => ?_))))
     clear h13 h14 h15
     obtain rfl := si h
     exact kd (show impl_readDeal_c1_Q a1 r10 (([] : Mem).length) _ _ from ⟨rfl, h25, h26, h27, h28, o4⟩)) ?_
 revert h hr1765
 revert r1764
 intro y31 hr1765 h
 intro x e29 M30 hq1763
 obtain ⟨rfl, h32, h33, h34, h35, o36⟩ := hq1763
 refine sN ?_
 rcases ite_some h with ⟨hb37, h⟩ | ⟨hb37, h⟩
 ·refine cT h35 hb37 (sq (Rg (kx (bldT zero126 rfl (fill0 rfl)) (kw (stO h33 rfl o36 rfl rfl ⟨rfl, ble rfl⟩ rfl rfl) fun M38 hM39 => ?_))))
  have o40 : M38[([] : Mem).length]? = some (.live ⟨.box, 126, 6, [[.int .i64 0, .int .i8 0, .int .i64 0, .int .i64 0, .int .i64 0, .int .i64 0]]⟩) := set_same hM39 o36
  refine kx (mvO rfl) (Rn (hA h33 (hV (.bool false) rfl hZ)) fun e41 h43 h44 => sN (xx (sR ?_)))
  clear h32 h33 h34 h35
  obtain rfl := si h
  exact eR (resC (ag := true) (sz := 6) ⟨by kernel_rfl, by kernel_rfl, by kernel_rfl⟩ (ldOA h43 o40 rfl rfl (ble rfl) rfl) (resT h44 res0)) rfl
 obtain ⟨x45, hx46, h⟩ := bind_some h
 obtain ⟨r48, hx47, h⟩ := bind_some h
 refine cF h35 hb37 (xx (sN (sq (Rg (kx (litI (cns rfl (cns rfl (cns rfl (cns rfl (cns rfl rfl))))) rfl ⟨rfl, by decide⟩) (kx (mvO h34) (kx (ixS rfl rfl hx46 cS_fl) (kx (ldP rfl rfl) (kc (cl (v := .int .i64 r48) rfl (cns rfl (cns rfl rfl)) rfl (slices_Index_string_ok [([] : List UInt8), ([99, 117, 116] : List UInt8), ([112, 97, 115, 115] : List UInt8), ([112, 97, 121] : List UInt8), ([101, 110, 100] : List UInt8)] x45 _ hx47) nm) (kx (cvI rfl) (kx (bldT zero126 (cns (pr3 rfl) rfl) (fill1 ⟨rfl, ble rfl⟩ rfl rfl (fill0 rfl))) (ku (alO zero126) fun M50 hM51 => ?_))))))))))))
 have o52 := push_old hM51 o36
 have ne53 := ne_new o36
 have o54 : M50[M30.length]? = some (.live ⟨.box, 126, 6, [[.int .i64 0, .int .i8 0, .int .i64 0, .int .i64 0, .int .i64 0, .int .i64 0]]⟩) := push_new hM51
 refine kw (stO rfl rfl o54 rfl rfl ⟨rfl, ble rfl⟩ rfl rfl) fun M55 hM56 => ?_
 have o57 := set_ne hM56 ne53 o52
 have o58 : M55[M30.length]? = some (.live ⟨.box, 126, 6, [[.int .i64 0, .int .i8 (IntKind.i8.wrap r48), .int .i64 0, .int .i64 0, .int .i64 0, .int .i64 0]]⟩) := set_same hM56 o54
 refine Rn (hA h32 (hA h33 (hA h34 (hV (.loc M30.length 1 0 0) rfl hZ)))) fun e59 h61 h62 h63 h64 => sN (sq (Rg (ku (litO (kp := false) (xs := ([] : List Nat)) (c := (cP 0 1)) rfl rfl (by decide)) fun M66 hM67 => ?_)))
 clear h32 h33 h34 h35
 have o68 := push_old hM67 o57
 have ne69 := ne_new o57
 have o70 := push_old hM67 o58
 have ne71 := ne_new o58
 have o72 : M66[M55.length]? = some (.live ⟨.grow, 179, 1, ([] : List Nat).map (cP 0 1)⟩) := push_new hM67
 refine kx (mvO rfl) (Rn (hA h61 (hA h62 (hA h63 (hA h64 (hV (.lsl M55.length ([] : List Nat).length 0 ([] : List Nat).length) rfl hZ))))) fun e73 h75 h76 h77 h78 h79 => sN (sq (sq (Rg (kx (faO h78 o70 rfl) (kx (ldO rfl o70 rfl rfl rfl) (Rn (hA h75 (hA h76 (hA h77 (hA h78 (hA h79 (hN rfl hZ)))))) fun e80 h82 h83 h84 h85 h86 h87 => sN (bl (sq (Rg (kx (bEql h87 rfl) (kx (mvO rfl) (Rn (hA h82 (hA h83 (hA h84 (hA h85 (hA h86 (hA h87 (hN rfl hZ))))))) fun e88 h90 h91 h92 h93 h94 h95 h96 => sN ?_)))))))))))))
 clear h61 h62 h63 h64 h75 h76 h77 h78 h79 h82 h83 h84 h85 h86 h87
 rcases ite_some h with ⟨hb97, h⟩ | ⟨hb97, h⟩
 ·refine cT h96 hb97 (Rg (kx (faO h93 o70 rfl) (kx (faO h93 o70 rfl) (ku (litO (kp := false) (xs := [3, 4]) (c := (cP M30.length 1)) (vs' := ([3, 4]).map fun o => .loc M30.length 1 0 o) (cns rfl (cns rfl rfl)) (partsP (okL (off := 0) (i := 0) o70 (by simp)) [3, 4]) (by decide)) fun M99 hM100 => ?_))))
  have o101 := push_old hM100 o68
  have ne102 := ne_new o68
  have o103 := push_old hM100 o70
  have ne104 := ne_new o70
  have o105 := push_old hM100 o72
  have ne106 := ne_new o72
  have o107 : M99[M66.length]? = some (.live ⟨.grow, 179, 1, [3, 4].map (cP M30.length 1)⟩) := push_new hM100
  obtain ⟨x115, hx116, h⟩ := bind_some h
  obtain ⟨⟨r118, r119⟩, hx117, h⟩ := bind_some h
  refine kx (mvO rfl) (Rn (hA h90 (hA h91 (hA h92 (hA h93 (hV (.lsl M66.length [3, 4].length 0 [3, 4].length) rfl hZ))))) fun e108 h110 h111 h112 h113 h114 => bN (sN (sq (Rg (kx (mvO h112) (kx (ixS rfl rfl hx116 cS_fl) (kx (ldP rfl rfl) (kc (cl (v := .tup [.int .i64 r118, .bool r119]) rfl (cns rfl rfl) rfl (impl_number_ok x115 _ hx117) nm) (kx (mvO rfl) (kx (exT rfl rfl) (kx (exT rfl rfl) (kx (mvO rfl) (kx (mvO rfl) (Rn (hA h110 (hA h111 (hA h112 (hA h113 (hA h114 (hN rfl (hN rfl hZ))))))) fun e120 h122 h123 h124 h125 h126 h127 h128 => sN (sq (Rg (kx (mvO h127) (kx (faO h125 o103 rfl) (kw (stO rfl rfl o103 rfl rfl ⟨rfl, ble rfl⟩ rfl rfl) fun M129 hM130 => ?_)))))))))))))))))))
  clear h90 h91 h92 h93 h95 h96 h110 h111 h112 h113 h114
  have o131 := set_ne hM130 ne53 o101
  have o132 : M129[M30.length]? = some (.live ⟨.box, 126, 6, [[.int .i64 r118, .int .i8 (IntKind.i8.wrap r48), .int .i64 0, .int .i64 0, .int .i64 0, .int .i64 0]]⟩) := set_same hM130 o103
  have o133 := set_ne hM130 (Ne.symm ne104) o107
  obtain ⟨x142, hx143, h⟩ := bind_some h
  obtain ⟨r489, hr490, h⟩ := bind_some h
  refine Rn (hA h122 (hA h123 (hA h124 (hA h125 (hA h126 (hA h128 hZ)))))) fun e134 h136 h137 h138 h139 h140 h141 => sN (sq (Rg (kx (mvO h138) (kx (slS rfl (bnd1 rfl) rfl hx143 cS_fl) (kx (mvO rfl) (Rn (hA h136 (hA h137 (hA h139 (hA h140 (hA h141 (hN rfl hZ)))))) fun e144 h146 h147 h148 h149 h150 h151 => sN (sq (sq ?_))))))))
  clear h122 h123 h124 h125 h126 h127 h128 h136 h137 h138 h139 h140 h141
  refine Ev.cut (Q1 := impl_readDeal_c2_Q a1 r48 r118 x142 (([] : Mem).length) M30.length M66.length r489) (by
      have h := hr490
      refine Rg (kx (mvO h150) (kx (uNot rfl) (kx (mvO rfl) ?_)))
      rcases ite_some h with ⟨hb152, h⟩ | ⟨hb152, h⟩
      ·refine kx (guF rfl (congrArg Bool.not hb152) (mvO h149)) (kx (guF rfl (congrArg Bool.not hb152) (lnL Tryd.underlying178 rfl o133 (by simp))) (kx (guF rfl (congrArg Bool.not hb152) (bEql rfl rfl)) (kx (pkF rfl (congrArg Bool.not hb152) rfl) (kx (mvO rfl) (kx (guF rfl rfl (mvO h151)) (kx (guF rfl rfl (lnS Tryd.underlying86 rfl)) (kx (guF rfl rfl (mvO h149)) (kx (guF rfl rfl (lnL Tryd.underlying178 rfl o133 (by simp))) (kx (guF rfl rfl (bLss rfl rfl)) (kx (pkF rfl rfl rfl) (Rn (hA h146 (hA h147 (hA h148 (hA h149 (hA h151 (hN rfl hZ)))))) fun e153 h155 h156 h157 h158 h159 h160 => ?_)))))))))))
       clear h146 h147 h148 h149 h150 h151
       obtain rfl := si h
       exact kd (show impl_readDeal_c2_Q a1 r48 r118 x142 (([] : Mem).length) M30.length M66.length _ _ from ⟨rfl, h155, h156, h157, h158, h159, h160, o131, o132, o133⟩)
      refine kx (gsF rfl (congrArg Bool.not hb152)) (kx (gsF rfl (congrArg Bool.not hb152)) (kx (gsF rfl (congrArg Bool.not hb152)) (kx (pkT rfl (congrArg Bool.not hb152) rfl) (kx (mvO rfl) (kx (gsF rfl rfl) (kx (gsF rfl rfl) (kx (gsF rfl rfl) (kx (gsF rfl rfl) (kx (gsF rfl rfl) (kx (pkT rfl rfl rfl) (Rn (hA h146 (hA h147 (hA h148 (hA h149 (hA h151 (hV (.bool true) rfl hZ)))))) fun e161 h163 h164 h165 h166 h167 h168 => ?_)))))))))))
      clear h146 h147 h148 h149 h150 h151
      obtain rfl := si h
      exact kd (show impl_readDeal_c2_Q a1 r48 r118 x142 (([] : Mem).length) M30.length M66.length _ _ from ⟨rfl, h163, h164, h165, h166, h167, h168, o131, o132, o133⟩)) ?_
  revert h hr490
  revert r489
  intro y171 hr490 h
  intro x e169 M170 hq488
  obtain ⟨rfl, h172, h173, h174, h175, h176, h177, o178, o179, o180⟩ := hq488
  refine sN ?_
  rcases ite_some h with ⟨hb181, h⟩ | ⟨hb181, h⟩
  ·refine cT h177 hb181 (sq (Rg (kx (bldT zero126 rfl (fill0 rfl)) (kw (stO h173 rfl o178 rfl rfl ⟨rfl, ble rfl⟩ rfl rfl) fun M182 hM183 => ?_))))
   have o184 : M182[([] : Mem).length]? = some (.live ⟨.box, 126, 6, [[.int .i64 0, .int .i8 0, .int .i64 0, .int .i64 0, .int .i64 0, .int .i64 0]]⟩) := set_same hM183 o178
   have o185 := set_ne hM183 (Ne.symm ne53) o179
   have o186 := set_ne hM183 (Ne.symm ne102) o180
   refine kx (mvO rfl) (Rn (hV (.loc ([] : Mem).length 1 0 0) h173 (hV (.bool false) rfl hZ)) fun e187 h189 h190 => sN (xx (sR ?_)))
   clear h172 h173 h174 h175 h176 h177
   obtain rfl := si h
   exact eR (resC (ag := true) (sz := 6) ⟨by kernel_rfl, by kernel_rfl, by kernel_rfl⟩ (ldOA h189 o184 rfl rfl (ble rfl) rfl) (resT h190 res0)) rfl
  refine cF h177 hb181 (xx (sN (sq (sq (Rg (kx (mvO h175) (kx (lnL Tryd.underlying178 rfl o180 (by simp)) (kx (mvO rfl) (Rn (hV (.str a1) h172 (hV (.loc ([] : Mem).length 1 0 0) h173 (hV (.loc M30.length 1 0 0) h174 (hV (.lsl M66.length [3, 4].length 0 [3, 4].length) h175 (hV (.sl none (x142.map cS)) h176 (hV (.lsl M66.length [3, 4].length 0 [3, 4].length) rfl (hV (.int .i64 2) rfl (hV (.int .i64 0) rfl hZ)))))))) fun e191 h193 h194 h195 h196 h197 h198 h199 h200 => sN (bl (Ev.unroll 6 (luS fun e201 he202 => ?_))))))))))))
  clear h172 h173 h174 h175 h176 h177
  have h203 := envp he202 rfl h193
  have h204 := envp he202 rfl h194
  have h205 := envp he202 rfl h195
  have h206 := envp he202 rfl h196
  have h207 := envp he202 rfl h197
  have h208 := envp he202 rfl h198
  have h209 := envp he202 rfl h199
  have h210 := envp he202 rfl h200
  obtain ⟨x234, hx235, h⟩ := bind_some h
  obtain ⟨⟨r237, r238⟩, hx236, h⟩ := bind_some h
  refine sq (Rg (kx (bLss h210 h209) (Rn (hV (.str a1) h203 (hV (.loc ([] : Mem).length 1 0 0) h204 (hV (.loc M30.length 1 0 0) h205 (hV (.lsl M66.length [3, 4].length 0 [3, 4].length) h206 (hV (.sl none (x142.map cS)) h207 (hV (.lsl M66.length [3, 4].length 0 [3, 4].length) h208 (hV (.int .i64 2) h209 (hV (.int .i64 0) h210 (hV (.bool true) rfl hZ))))))))) fun e211 h213 h214 h215 h216 h217 h218 h219 h220 h221 => sN (sq (cT h221 rfl (xx (sN (sq (bl (sq (Rg (kx (mvO h220) (kx (ixO h218 o180 rfl h220 (rd_get (show rd ([3, 4] : List Nat) 0 = some 3 from rfl)).1 (rd_lt (show rd ([3, 4] : List Nat) 0 = some 3 from rfl)).2) (kx (ldO rfl o180 (by simp) (rz (show rd ([3, 4] : List Nat) 0 = some 3 from rfl)) rfl) (kx (mvO rfl) (kx (mvO rfl) (Rn (hA h213 (hA h214 (hA h215 (hA h216 (hA h217 (hV (.int .i64 0) rfl (hV (.loc M30.length 1 0 3) rfl (hA h218 (hA h219 (hA h220 hZ)))))))))) fun e222 h224 h225 h226 h227 h228 h229 h230 h231 h232 h233 => sN (sq (Rg (kx (mvO h228) (kx (mvO h229) (kx (ixS rfl rfl hx235 cS_fl) (kx (ldP rfl rfl) (kc (cl (v := .tup [.int .i64 r237, .bool r238]) rfl (cns rfl rfl) rfl (impl_number_ok x234 _ hx236) nm) (kx (mvO rfl) (kx (exT rfl rfl) (kx (exT rfl rfl) (kx (mvO rfl) (kx (mvO rfl) (Rn (hA h224 (hA h225 (hA h226 (hA h227 (hA h228 (hA h230 (hN rfl (hN rfl (hA h231 (hA h232 (hA h233 hZ))))))))))) fun e239 h241 h242 h243 h244 h245 h246 h247 h248 h249 h250 h251 => sN (sq (sq (Rg (kx (mvO h248) (kx (uNot rfl) (Rn (hA h241 (hA h242 (hA h243 (hA h244 (hA h245 (hA h246 (hA h247 (hA h249 (hA h250 (hA h251 (hN rfl hZ))))))))))) fun e252 h254 h255 h256 h257 h258 h259 h260 h261 h262 h263 h264 => sN ?_))))))))))))))))))))))))))))))))))))
  clear h203 h204 h205 h206 h207 h208 h209 h210 h213 h214 h215 h216 h217 h218 h219 h220 h221 h224 h225 h226 h227 h228 h229 h230 h231 h232 h233 h241 h242 h243 h244 h245 h246 h247 h248 h249 h250 h251
  rcases ite_some h with ⟨hb265, h⟩ | ⟨hb265, h⟩
  ·refine cF h264 (congrArg Bool.not hb265) (xx (sN (Rg (kx (mvO h259) (kx (mvO h260) (kx (ncO rfl o179 rfl) (kw (stO rfl rfl o179 rfl rfl ⟨rfl, ble rfl⟩ rfl rfl) fun M266 hM267 => ?_)))))))
   have o268 := set_ne hM267 ne53 o178
   have o269 : M266[M30.length]? = some (.live ⟨.box, 126, 6, [[.int .i64 r118, .int .i8 (IntKind.i8.wrap r48), .int .i64 0, .int .i64 r237, .int .i64 0, .int .i64 0]]⟩) := set_same hM267 o179
   have o270 := set_ne hM267 (Ne.symm ne104) o180
   refine Rn (hA h254 (hA h255 (hA h256 (hA h257 (hA h258 (hA h261 (hA h262 (hA h263 hZ)))))))) fun e271 h273 h274 h275 h276 h277 h278 h279 h280 => bN (sN (Rg (kx (bAdd h280 rfl) (kx (mvO rfl) (Rn (hA h273 (hA h274 (hA h275 (hA h276 (hA h277 (hA h278 (hA h279 (hV (.int .i64 1) rfl hZ)))))))) fun e281 h283 h284 h285 h286 h287 h288 h289 h290 => luN (luS fun e291 he292 => ?_))))))
   clear h254 h255 h256 h257 h258 h259 h260 h261 h262 h263 h264 h273 h274 h275 h276 h277 h278 h279
   have h293 := envp he292 rfl h283
   have h294 := envp he292 rfl h284
   have h295 := envp he292 rfl h285
   have h296 := envp he292 rfl h286
   have h297 := envp he292 rfl h287
   have h298 := envp he292 rfl h288
   have h299 := envp he292 rfl h289
   have h300 := envp he292 rfl h290
   obtain ⟨x324, hx325, h⟩ := bind_some h
   obtain ⟨⟨r327, r328⟩, hx326, h⟩ := bind_some h
   refine sq (Rg (kx (bLss h300 h299) (Rn (hV (.str a1) h293 (hV (.loc ([] : Mem).length 1 0 0) h294 (hV (.loc M30.length 1 0 0) h295 (hV (.lsl M66.length [3, 4].length 0 [3, 4].length) h296 (hV (.sl none (x142.map cS)) h297 (hV (.lsl M66.length [3, 4].length 0 [3, 4].length) h298 (hV (.int .i64 2) h299 (hV (.int .i64 1) h300 (hV (.bool true) rfl hZ))))))))) fun e301 h303 h304 h305 h306 h307 h308 h309 h310 h311 => sN (sq (cT h311 rfl (xx (sN (sq (bl (sq (Rg (kx (mvO h310) (kx (ixO h308 o270 rfl h310 (rd_get (show rd ([3, 4] : List Nat) 1 = some 4 from rfl)).1 (rd_lt (show rd ([3, 4] : List Nat) 1 = some 4 from rfl)).2) (kx (ldO rfl o270 (by simp) (rz (show rd ([3, 4] : List Nat) 1 = some 4 from rfl)) rfl) (kx (mvO rfl) (kx (mvO rfl) (Rn (hA h303 (hA h304 (hA h305 (hA h306 (hA h307 (hV (.int .i64 1) rfl (hV (.loc M30.length 1 0 4) rfl (hA h308 (hA h309 (hA h310 hZ)))))))))) fun e312 h314 h315 h316 h317 h318 h319 h320 h321 h322 h323 => sN (sq (Rg (kx (mvO h318) (kx (mvO h319) (kx (ixS rfl rfl hx325 cS_fl) (kx (ldP rfl rfl) (kc (cl (v := .tup [.int .i64 r327, .bool r328]) rfl (cns rfl rfl) rfl (impl_number_ok x324 _ hx326) nm) (kx (mvO rfl) (kx (exT rfl rfl) (kx (exT rfl rfl) (kx (mvO rfl) (kx (mvO rfl) (Rn (hA h314 (hA h315 (hA h316 (hA h317 (hA h318 (hA h320 (hN rfl (hN rfl (hA h321 (hA h322 (hA h323 hZ))))))))))) fun e329 h331 h332 h333 h334 h335 h336 h337 h338 h339 h340 h341 => sN (sq (sq (Rg (kx (mvO h338) (kx (uNot rfl) (Rn (hA h331 (hA h332 (hA h333 (hA h334 (hA h335 (hA h336 (hA h337 (hA h339 (hA h340 (hA h341 (hN rfl hZ))))))))))) fun e342 h344 h345 h346 h347 h348 h349 h350 h351 h352 h353 h354 => sN ?_))))))))))))))))))))))))))))))))))))
   clear h293 h294 h295 h296 h297 h298 h299 h300 h303 h304 h305 h306 h307 h308 h309 h310 h311 h314 h315 h316 h317 h318 h319 h320 h321 h322 h323 h331 h332 h333 h334 h335 h336 h337 h338 h339 h340 h341
   rcases ite_some h with ⟨hb355, h⟩ | ⟨hb355, h⟩
   ·refine cF h354 (congrArg Bool.not hb355) (xx (sN (Rg (kx (mvO h349) (kx (mvO h350) (kx (ncO rfl o269 rfl) (kw (stO rfl rfl o269 rfl rfl ⟨rfl, ble rfl⟩ rfl rfl) fun M356 hM357 => ?_)))))))
    have o358 := set_ne hM357 ne53 o268
    have o359 : M356[M30.length]? = some (.live ⟨.box, 126, 6, [[.int .i64 r118, .int .i8 (IntKind.i8.wrap r48), .int .i64 0, .int .i64 r237, .int .i64 r327, .int .i64 0]]⟩) := set_same hM357 o269
    have o360 := set_ne hM357 (Ne.symm ne104) o270
    refine Rn (hA h344 (hA h345 (hA h346 (hA h347 (hA h348 (hA h351 (hA h352 (hA h353 hZ)))))))) fun e361 h363 h364 h365 h366 h367 h368 h369 h370 => bN (sN (Rg (kx (bAdd h370 rfl) (kx (mvO rfl) (Rn (hA h363 (hA h364 (hA h365 (hA h366 (hA h367 (hA h368 (hA h369 (hV (.int .i64 2) rfl hZ)))))))) fun e371 h373 h374 h375 h376 h377 h378 h379 h380 => luN (luS fun e381 he382 => ?_))))))
    clear h344 h345 h346 h347 h348 h349 h350 h351 h352 h353 h354 h363 h364 h365 h366 h367 h368 h369
    have h383 := envp he382 rfl h373
    have h384 := envp he382 rfl h374
    have h385 := envp he382 rfl h375
    have h386 := envp he382 rfl h376
    have h387 := envp he382 rfl h377
    have h388 := envp he382 rfl h378
    have h389 := envp he382 rfl h379
    have h390 := envp he382 rfl h380
    obtain ⟨x410, hx411, h⟩ := bind_some h
    obtain ⟨r413, hx412, h⟩ := bind_some h
    obtain ⟨⟨r415, r416⟩, hx414, h⟩ := bind_some h
    refine sq (Rg (kx (bLss h390 h389) (Rn (hV (.str a1) h383 (hV (.loc ([] : Mem).length 1 0 0) h384 (hV (.loc M30.length 1 0 0) h385 (hV (.lsl M66.length [3, 4].length 0 [3, 4].length) h386 (hV (.sl none (x142.map cS)) h387 (hV (.lsl M66.length [3, 4].length 0 [3, 4].length) h388 (hV (.int .i64 2) h389 (hV (.int .i64 2) h390 (hV (.bool false) rfl hZ))))))))) fun e391 h393 h394 h395 h396 h397 h398 h399 h400 h401 => sN (sq (cF h401 rfl (xx (sE (luE (bE (sN (sq (sq (Rg (kx (faO h395 o359 rfl) (kx (ldO rfl o359 rfl rfl rfl) (kx (bEql rfl rfl) (kx (mvO rfl) (kx (gsF rfl hb97) (kx (gsF rfl hb97) (kx (gsF rfl hb97) (kx (pkT rfl hb97 rfl) (Rn (hA h393 (hA h394 (hA h395 (hA h396 (hA h397 (hV (.bool true) rfl hZ)))))) fun e402 h404 h405 h406 h407 h408 h409 => sN (cT h409 rfl (sq (Rg (kx (mvO h408) (kx (mvO h407) (kx (lnL Tryd.underlying178 rfl o360 (by simp)) (kx (slS rfl (bnd1 rfl) rfl hx411 cS_fl) (kc (cl (v := .str r413) rfl (cns rfl (cns rfl rfl)) rfl (strings_Join_ok x410 ([32] : List UInt8) _ hx412) nm) (kc (cl (v := .tup [.int .i64 r415, .int .i64 r416]) rfl (cns rfl rfl) rfl (impl_ReadAmount_ok r413 _ hx414) nm) (kx (mvO rfl) (kx (exT rfl rfl) (kx (exT rfl rfl) (kx (mvO rfl) (kx (mvO rfl) (Rn (hA h404 (hA h405 (hA h406 (hN rfl (hN rfl hZ))))) fun e417 h419 h420 h421 h422 h423 => sN (sq (sq (Rg (kx (mvO h423) (kx (bNeq rfl rfl) (Rn (hA h419 (hA h420 (hA h421 (hA h422 (hN rfl hZ))))) fun e424 h426 h427 h428 h429 h430 => sN ?_)))))))))))))))))))))))))))))))))))))))))))
    clear h383 h384 h385 h386 h387 h388 h389 h390 h393 h394 h395 h396 h397 h398 h399 h400 h401 h404 h405 h406 h407 h408 h409 h419 h420 h421 h422 h423
    rcases ite_some h with ⟨hb431, h⟩ | ⟨hb431, h⟩
    ·refine cT h430 hb431 (sq (Rg (kx (bldT zero126 rfl (fill0 rfl)) (kw (stO h427 rfl o358 rfl rfl ⟨rfl, ble rfl⟩ rfl rfl) fun M432 hM433 => ?_))))
     have o434 : M432[([] : Mem).length]? = some (.live ⟨.box, 126, 6, [[.int .i64 0, .int .i8 0, .int .i64 0, .int .i64 0, .int .i64 0, .int .i64 0]]⟩) := set_same hM433 o358
     have o435 := set_ne hM433 (Ne.symm ne53) o359
     refine kx (mvO rfl) (Rn (hA h427 (hV (.bool false) rfl hZ)) fun e436 h438 h439 => sN (xx (sR (sR ?_))))
     clear h426 h427 h428 h429 h430
     obtain rfl := si h
     exact eR (resC (ag := true) (sz := 6) ⟨by kernel_rfl, by kernel_rfl, by kernel_rfl⟩ (ldOA h438 o434 rfl rfl (ble rfl) rfl) (resT h439 res0)) rfl
    refine cF h430 hb431 (xx (sN (Rg (kx (mvO h429) (kx (faO h428 o359 rfl) (kw (stO rfl rfl o359 rfl rfl ⟨rfl, ble rfl⟩ rfl rfl) fun M440 hM441 => ?_))))))
    have o442 := set_ne hM441 ne53 o358
    have o443 : M440[M30.length]? = some (.live ⟨.box, 126, 6, [[.int .i64 r118, .int .i8 (IntKind.i8.wrap r48), .int .i64 0, .int .i64 r237, .int .i64 r327, .int .i64 r415]]⟩) := set_same hM441 o359
    obtain ⟨r450, hx449, h⟩ := bind_some h
    refine Rn (hA h426 (hA h427 (hA h428 hZ))) fun e444 h446 h447 h448 => sN (sq (Rd (kf (ldOA h448 o443 rfl rfl (ble rfl) rfl) (kf (ldOA h448 o443 rfl rfl (ble rfl) rfl) (fc (cl (v := .bool r450) rfl (cns rfl rfl) rfl (impl_ValidDeal_ok (Deal.mk r118 (IntKind.i8.wrap r48) 0 r237 r327 r415) _ hx449) nm) (kf (mvO rfl) ?_))))))
    clear h426 h427 h428 h429 h430
    rcases ite_some h with ⟨hb451, h⟩ | ⟨hb451, h⟩
    ·obtain ⟨r453, hx452, h⟩ := bind_some h
     refine kf (guT rfl hb451 (ldOA h448 o443 rfl rfl (ble rfl) rfl)) (fc (Ev.guT rfl hb451 (cl (v := .str r453) rfl (cns rfl rfl) rfl (impl_dealText_ok (Deal.mk r118 (IntKind.i8.wrap r48) 0 r237 r327 r415) _ hx452) nm)) (kf (guT rfl hb451 (mvO h446)) (kf (guT rfl hb451 (sEql rfl rfl)) (kf (pkT rfl hb451 rfl) (fZ (kw (stO h447 rfl o442 rfl rfl ⟨rfl, ble rfl⟩ rfl rfl) fun M454 hM455 => ?_))))))
     have o456 : M454[([] : Mem).length]? = some (.live ⟨.box, 126, 6, [[.int .i64 r118, .int .i8 (IntKind.i8.wrap r48), .int .i64 0, .int .i64 r237, .int .i64 r327, .int .i64 r415]]⟩) := set_same hM455 o442
     have o457 := set_ne hM455 (Ne.symm ne53) o443
     refine kx (mvO rfl) (Rn (hA h447 (hN rfl hZ)) fun e458 h460 h461 => sN (xx ?_))
     clear h446 h447 h448
     obtain rfl := si h
     exact eR (resC (ag := true) (sz := 6) ⟨by kernel_rfl, by kernel_rfl, by kernel_rfl⟩ (ldOA h460 o456 rfl rfl (ble rfl) rfl) (resT h461 res0)) rfl
    refine kf (gsT rfl hb451) (fc (Ev.gsT rfl hb451) (kf (gsT rfl hb451) (kf (gsT rfl hb451) (kf (pkF rfl hb451 rfl) (fZ (kw (stO h447 rfl o442 rfl rfl ⟨rfl, ble rfl⟩ rfl rfl) fun M462 hM463 => ?_))))))
    have o464 : M462[([] : Mem).length]? = some (.live ⟨.box, 126, 6, [[.int .i64 r118, .int .i8 (IntKind.i8.wrap r48), .int .i64 0, .int .i64 r237, .int .i64 r327, .int .i64 r415]]⟩) := set_same hM463 o442
    have o465 := set_ne hM463 (Ne.symm ne53) o443
    refine kx (mvO rfl) (Rn (hA h447 (hV (.bool false) rfl hZ)) fun e466 h468 h469 => sN (xx ?_))
    clear h446 h447 h448
    obtain rfl := si h
    exact eR (resC (ag := true) (sz := 6) ⟨by kernel_rfl, by kernel_rfl, by kernel_rfl⟩ (ldOA h468 o464 rfl rfl (ble rfl) rfl) (resT h469 res0)) rfl
   refine cT h354 (congrArg Bool.not hb355) (sq (Rg (kx (bldT zero126 rfl (fill0 rfl)) (kw (stO h345 rfl o268 rfl rfl ⟨rfl, ble rfl⟩ rfl rfl) fun M470 hM471 => ?_))))
   have o472 : M470[([] : Mem).length]? = some (.live ⟨.box, 126, 6, [[.int .i64 0, .int .i8 0, .int .i64 0, .int .i64 0, .int .i64 0, .int .i64 0]]⟩) := set_same hM471 o268
   have o473 := set_ne hM471 (Ne.symm ne53) o269
   have o474 := set_ne hM471 (Ne.symm ne102) o270
   refine kx (mvO rfl) (Rn (hA h345 (hV (.bool false) rfl hZ)) fun e475 h477 h478 => sN (xx (sR (bR (sR (luR (bR (sR ?_))))))))
   clear h344 h345 h346 h347 h348 h349 h350 h351 h352 h353 h354
   obtain rfl := si h
   exact eR (resC (ag := true) (sz := 6) ⟨by kernel_rfl, by kernel_rfl, by kernel_rfl⟩ (ldOA h477 o472 rfl rfl (ble rfl) rfl) (resT h478 res0)) rfl
  refine cT h264 (congrArg Bool.not hb265) (sq (Rg (kx (bldT zero126 rfl (fill0 rfl)) (kw (stO h255 rfl o178 rfl rfl ⟨rfl, ble rfl⟩ rfl rfl) fun M479 hM480 => ?_))))
  have o481 : M479[([] : Mem).length]? = some (.live ⟨.box, 126, 6, [[.int .i64 0, .int .i8 0, .int .i64 0, .int .i64 0, .int .i64 0, .int .i64 0]]⟩) := set_same hM480 o178
  have o482 := set_ne hM480 (Ne.symm ne53) o179
  have o483 := set_ne hM480 (Ne.symm ne102) o180
  refine kx (mvO rfl) (Rn (hA h255 (hV (.bool false) rfl hZ)) fun e484 h486 h487 => sN (xx (sR (bR (sR (luR (bR (sR ?_))))))))
  clear h254 h255 h256 h257 h258 h259 h260 h261 h262 h263 h264
  obtain rfl := si h
  exact eR (resC (ag := true) (sz := 6) ⟨by kernel_rfl, by kernel_rfl, by kernel_rfl⟩ (ldOA h486 o481 rfl rfl (ble rfl) rfl) (resT h487 res0)) rfl
 refine cF h96 hb97 (sq (Rg (kx (bEql h95 rfl) (kx (mvO rfl) (Rn (hA h90 (hA h91 (hA h92 (hA h93 (hA h94 (hA h95 (hN rfl hZ))))))) fun e491 h493 h494 h495 h496 h497 h498 h499 => sN ?_)))))
 clear h90 h91 h92 h93 h94 h95 h96
 rcases ite_some h with ⟨hb500, h⟩ | ⟨hb500, h⟩
 ·refine cT h499 hb500 (Rg (kx (faO h496 o70 rfl) (kx (faO h496 o70 rfl) (kx (faO h496 o70 rfl) (ku (litO (kp := false) (xs := [2, 3, 4]) (c := (cP M30.length 1)) (vs' := ([2, 3, 4]).map fun o => .loc M30.length 1 0 o) (cns rfl (cns rfl (cns rfl rfl))) (partsP (okL (off := 0) (i := 0) o70 (by simp)) [2, 3, 4]) (by decide)) fun M502 hM503 => ?_)))))
  have o504 := push_old hM503 o68
  have ne505 := ne_new o68
  have o506 := push_old hM503 o70
  have ne507 := ne_new o70
  have o508 := push_old hM503 o72
  have ne509 := ne_new o72
  have o510 : M502[M66.length]? = some (.live ⟨.grow, 179, 1, [2, 3, 4].map (cP M30.length 1)⟩) := push_new hM503
  obtain ⟨x518, hx519, h⟩ := bind_some h
  obtain ⟨⟨r521, r522⟩, hx520, h⟩ := bind_some h
  refine kx (mvO rfl) (Rn (hA h493 (hA h494 (hA h495 (hA h496 (hV (.lsl M66.length [2, 3, 4].length 0 [2, 3, 4].length) rfl hZ))))) fun e511 h513 h514 h515 h516 h517 => bN (sN (sq (Rg (kx (mvO h515) (kx (ixS rfl rfl hx519 cS_fl) (kx (ldP rfl rfl) (kc (cl (v := .tup [.int .i64 r521, .bool r522]) rfl (cns rfl rfl) rfl (impl_number_ok x518 _ hx520) nm) (kx (mvO rfl) (kx (exT rfl rfl) (kx (exT rfl rfl) (kx (mvO rfl) (kx (mvO rfl) (Rn (hA h513 (hA h514 (hA h515 (hA h516 (hA h517 (hN rfl (hN rfl hZ))))))) fun e523 h525 h526 h527 h528 h529 h530 h531 => sN (sq (Rg (kx (mvO h530) (kx (faO h528 o506 rfl) (kw (stO rfl rfl o506 rfl rfl ⟨rfl, ble rfl⟩ rfl rfl) fun M532 hM533 => ?_)))))))))))))))))))
  clear h493 h494 h495 h496 h498 h499 h513 h514 h515 h516 h517
  have o534 := set_ne hM533 ne53 o504
  have o535 : M532[M30.length]? = some (.live ⟨.box, 126, 6, [[.int .i64 r521, .int .i8 (IntKind.i8.wrap r48), .int .i64 0, .int .i64 0, .int .i64 0, .int .i64 0]]⟩) := set_same hM533 o506
  have o536 := set_ne hM533 (Ne.symm ne507) o510
  obtain ⟨x545, hx546, h⟩ := bind_some h
  obtain ⟨r1015, hr1016, h⟩ := bind_some h
  refine Rn (hA h525 (hA h526 (hA h527 (hA h528 (hA h529 (hA h531 hZ)))))) fun e537 h539 h540 h541 h542 h543 h544 => sN (sq (Rg (kx (mvO h541) (kx (slS rfl (bnd1 rfl) rfl hx546 cS_fl) (kx (mvO rfl) (Rn (hA h539 (hA h540 (hA h542 (hA h543 (hA h544 (hN rfl hZ)))))) fun e547 h549 h550 h551 h552 h553 h554 => sN (sq (sq ?_))))))))
  clear h525 h526 h527 h528 h529 h530 h531 h539 h540 h541 h542 h543 h544
  refine Ev.cut (Q1 := impl_readDeal_c3_Q a1 r48 r521 x545 (([] : Mem).length) M30.length M66.length r1015) (by
      have h := hr1016
      refine Rg (kx (mvO h553) (kx (uNot rfl) (kx (mvO rfl) ?_)))
      rcases ite_some h with ⟨hb555, h⟩ | ⟨hb555, h⟩
      ·refine kx (guF rfl (congrArg Bool.not hb555) (mvO h552)) (kx (guF rfl (congrArg Bool.not hb555) (lnL Tryd.underlying178 rfl o536 (by simp))) (kx (guF rfl (congrArg Bool.not hb555) (bEql rfl rfl)) (kx (pkF rfl (congrArg Bool.not hb555) rfl) (kx (mvO rfl) (kx (guF rfl rfl (mvO h554)) (kx (guF rfl rfl (lnS Tryd.underlying86 rfl)) (kx (guF rfl rfl (mvO h552)) (kx (guF rfl rfl (lnL Tryd.underlying178 rfl o536 (by simp))) (kx (guF rfl rfl (bLss rfl rfl)) (kx (pkF rfl rfl rfl) (Rn (hA h549 (hA h550 (hA h551 (hA h552 (hA h554 (hN rfl hZ)))))) fun e556 h558 h559 h560 h561 h562 h563 => ?_)))))))))))
       clear h549 h550 h551 h552 h553 h554
       obtain rfl := si h
       exact kd (show impl_readDeal_c3_Q a1 r48 r521 x545 (([] : Mem).length) M30.length M66.length _ _ from ⟨rfl, h558, h559, h560, h561, h562, h563, o534, o535, o536⟩)
      refine kx (gsF rfl (congrArg Bool.not hb555)) (kx (gsF rfl (congrArg Bool.not hb555)) (kx (gsF rfl (congrArg Bool.not hb555)) (kx (pkT rfl (congrArg Bool.not hb555) rfl) (kx (mvO rfl) (kx (gsF rfl rfl) (kx (gsF rfl rfl) (kx (gsF rfl rfl) (kx (gsF rfl rfl) (kx (gsF rfl rfl) (kx (pkT rfl rfl rfl) (Rn (hA h549 (hA h550 (hA h551 (hA h552 (hA h554 (hV (.bool true) rfl hZ)))))) fun e564 h566 h567 h568 h569 h570 h571 => ?_)))))))))))
      clear h549 h550 h551 h552 h553 h554
      obtain rfl := si h
      exact kd (show impl_readDeal_c3_Q a1 r48 r521 x545 (([] : Mem).length) M30.length M66.length _ _ from ⟨rfl, h566, h567, h568, h569, h570, h571, o534, o535, o536⟩)) ?_
  revert h hr1016
  revert r1015
  intro y574 hr1016 h
  intro x e572 M573 hq1014
  obtain ⟨rfl, h575, h576, h577, h578, h579, h580, o581, o582, o583⟩ := hq1014
  refine sN ?_
  rcases ite_some h with ⟨hb584, h⟩ | ⟨hb584, h⟩
  ·refine cT h580 hb584 (sq (Rg (kx (bldT zero126 rfl (fill0 rfl)) (kw (stO h576 rfl o581 rfl rfl ⟨rfl, ble rfl⟩ rfl rfl) fun M585 hM586 => ?_))))
   have o587 : M585[([] : Mem).length]? = some (.live ⟨.box, 126, 6, [[.int .i64 0, .int .i8 0, .int .i64 0, .int .i64 0, .int .i64 0, .int .i64 0]]⟩) := set_same hM586 o581
   have o588 := set_ne hM586 (Ne.symm ne53) o582
   have o589 := set_ne hM586 (Ne.symm ne505) o583
   refine kx (mvO rfl) (Rn (hV (.loc ([] : Mem).length 1 0 0) h576 (hV (.bool false) rfl hZ)) fun e590 h592 h593 => sN (xx (sR ?_)))
   clear h575 h576 h577 h578 h579 h580
   obtain rfl := si h
   exact eR (resC (ag := true) (sz := 6) ⟨by kernel_rfl, by kernel_rfl, by kernel_rfl⟩ (ldOA h592 o587 rfl rfl (ble rfl) rfl) (resT h593 res0)) rfl
  refine cF h580 hb584 (xx (sN (sq (sq (Rg (kx (mvO h578) (kx (lnL Tryd.underlying178 rfl o583 (by simp)) (kx (mvO rfl) (Rn (hV (.str a1) h575 (hV (.loc ([] : Mem).length 1 0 0) h576 (hV (.loc M30.length 1 0 0) h577 (hV (.lsl M66.length [2, 3, 4].length 0 [2, 3, 4].length) h578 (hV (.sl none (x545.map cS)) h579 (hV (.lsl M66.length [2, 3, 4].length 0 [2, 3, 4].length) rfl (hV (.int .i64 3) rfl (hV (.int .i64 0) rfl hZ)))))))) fun e594 h596 h597 h598 h599 h600 h601 h602 h603 => sN (bl (Ev.unroll 6 (luS fun e604 he605 => ?_))))))))))))
  clear h575 h576 h577 h578 h579 h580
  have h606 := envp he605 rfl h596
  have h607 := envp he605 rfl h597
  have h608 := envp he605 rfl h598
  have h609 := envp he605 rfl h599
  have h610 := envp he605 rfl h600
  have h611 := envp he605 rfl h601
  have h612 := envp he605 rfl h602
  have h613 := envp he605 rfl h603
  obtain ⟨x637, hx638, h⟩ := bind_some h
  obtain ⟨⟨r640, r641⟩, hx639, h⟩ := bind_some h
  refine sq (Rg (kx (bLss h613 h612) (Rn (hV (.str a1) h606 (hV (.loc ([] : Mem).length 1 0 0) h607 (hV (.loc M30.length 1 0 0) h608 (hV (.lsl M66.length [2, 3, 4].length 0 [2, 3, 4].length) h609 (hV (.sl none (x545.map cS)) h610 (hV (.lsl M66.length [2, 3, 4].length 0 [2, 3, 4].length) h611 (hV (.int .i64 3) h612 (hV (.int .i64 0) h613 (hV (.bool true) rfl hZ))))))))) fun e614 h616 h617 h618 h619 h620 h621 h622 h623 h624 => sN (sq (cT h624 rfl (xx (sN (sq (bl (sq (Rg (kx (mvO h623) (kx (ixO h621 o583 rfl h623 (rd_get (show rd ([2, 3, 4] : List Nat) 0 = some 2 from rfl)).1 (rd_lt (show rd ([2, 3, 4] : List Nat) 0 = some 2 from rfl)).2) (kx (ldO rfl o583 (by simp) (rz (show rd ([2, 3, 4] : List Nat) 0 = some 2 from rfl)) rfl) (kx (mvO rfl) (kx (mvO rfl) (Rn (hA h616 (hA h617 (hA h618 (hA h619 (hA h620 (hV (.int .i64 0) rfl (hV (.loc M30.length 1 0 2) rfl (hA h621 (hA h622 (hA h623 hZ)))))))))) fun e625 h627 h628 h629 h630 h631 h632 h633 h634 h635 h636 => sN (sq (Rg (kx (mvO h631) (kx (mvO h632) (kx (ixS rfl rfl hx638 cS_fl) (kx (ldP rfl rfl) (kc (cl (v := .tup [.int .i64 r640, .bool r641]) rfl (cns rfl rfl) rfl (impl_number_ok x637 _ hx639) nm) (kx (mvO rfl) (kx (exT rfl rfl) (kx (exT rfl rfl) (kx (mvO rfl) (kx (mvO rfl) (Rn (hA h627 (hA h628 (hA h629 (hA h630 (hA h631 (hA h633 (hN rfl (hN rfl (hA h634 (hA h635 (hA h636 hZ))))))))))) fun e642 h644 h645 h646 h647 h648 h649 h650 h651 h652 h653 h654 => sN (sq (sq (Rg (kx (mvO h651) (kx (uNot rfl) (Rn (hA h644 (hA h645 (hA h646 (hA h647 (hA h648 (hA h649 (hA h650 (hA h652 (hA h653 (hA h654 (hN rfl hZ))))))))))) fun e655 h657 h658 h659 h660 h661 h662 h663 h664 h665 h666 h667 => sN ?_))))))))))))))))))))))))))))))))))))
  clear h606 h607 h608 h609 h610 h611 h612 h613 h616 h617 h618 h619 h620 h621 h622 h623 h624 h627 h628 h629 h630 h631 h632 h633 h634 h635 h636 h644 h645 h646 h647 h648 h649 h650 h651 h652 h653 h654
  rcases ite_some h with ⟨hb668, h⟩ | ⟨hb668, h⟩
  ·refine cF h667 (congrArg Bool.not hb668) (xx (sN (Rg (kx (mvO h662) (kx (mvO h663) (kx (ncO rfl o582 rfl) (kw (stO rfl rfl o582 rfl rfl ⟨rfl, ble rfl⟩ rfl rfl) fun M669 hM670 => ?_)))))))
   have o671 := set_ne hM670 ne53 o581
   have o672 : M669[M30.length]? = some (.live ⟨.box, 126, 6, [[.int .i64 r521, .int .i8 (IntKind.i8.wrap r48), .int .i64 r640, .int .i64 0, .int .i64 0, .int .i64 0]]⟩) := set_same hM670 o582
   have o673 := set_ne hM670 (Ne.symm ne507) o583
   refine Rn (hA h657 (hA h658 (hA h659 (hA h660 (hA h661 (hA h664 (hA h665 (hA h666 hZ)))))))) fun e674 h676 h677 h678 h679 h680 h681 h682 h683 => bN (sN (Rg (kx (bAdd h683 rfl) (kx (mvO rfl) (Rn (hA h676 (hA h677 (hA h678 (hA h679 (hA h680 (hA h681 (hA h682 (hV (.int .i64 1) rfl hZ)))))))) fun e684 h686 h687 h688 h689 h690 h691 h692 h693 => luN (luS fun e694 he695 => ?_))))))
   clear h657 h658 h659 h660 h661 h662 h663 h664 h665 h666 h667 h676 h677 h678 h679 h680 h681 h682
   have h696 := envp he695 rfl h686
   have h697 := envp he695 rfl h687
   have h698 := envp he695 rfl h688
   have h699 := envp he695 rfl h689
   have h700 := envp he695 rfl h690
   have h701 := envp he695 rfl h691
   have h702 := envp he695 rfl h692
   have h703 := envp he695 rfl h693
   obtain ⟨x727, hx728, h⟩ := bind_some h
   obtain ⟨⟨r730, r731⟩, hx729, h⟩ := bind_some h
   refine sq (Rg (kx (bLss h703 h702) (Rn (hV (.str a1) h696 (hV (.loc ([] : Mem).length 1 0 0) h697 (hV (.loc M30.length 1 0 0) h698 (hV (.lsl M66.length [2, 3, 4].length 0 [2, 3, 4].length) h699 (hV (.sl none (x545.map cS)) h700 (hV (.lsl M66.length [2, 3, 4].length 0 [2, 3, 4].length) h701 (hV (.int .i64 3) h702 (hV (.int .i64 1) h703 (hV (.bool true) rfl hZ))))))))) fun e704 h706 h707 h708 h709 h710 h711 h712 h713 h714 => sN (sq (cT h714 rfl (xx (sN (sq (bl (sq (Rg (kx (mvO h713) (kx (ixO h711 o673 rfl h713 (rd_get (show rd ([2, 3, 4] : List Nat) 1 = some 3 from rfl)).1 (rd_lt (show rd ([2, 3, 4] : List Nat) 1 = some 3 from rfl)).2) (kx (ldO rfl o673 (by simp) (rz (show rd ([2, 3, 4] : List Nat) 1 = some 3 from rfl)) rfl) (kx (mvO rfl) (kx (mvO rfl) (Rn (hA h706 (hA h707 (hA h708 (hA h709 (hA h710 (hV (.int .i64 1) rfl (hV (.loc M30.length 1 0 3) rfl (hA h711 (hA h712 (hA h713 hZ)))))))))) fun e715 h717 h718 h719 h720 h721 h722 h723 h724 h725 h726 => sN (sq (Rg (kx (mvO h721) (kx (mvO h722) (kx (ixS rfl rfl hx728 cS_fl) (kx (ldP rfl rfl) (kc (cl (v := .tup [.int .i64 r730, .bool r731]) rfl (cns rfl rfl) rfl (impl_number_ok x727 _ hx729) nm) (kx (mvO rfl) (kx (exT rfl rfl) (kx (exT rfl rfl) (kx (mvO rfl) (kx (mvO rfl) (Rn (hA h717 (hA h718 (hA h719 (hA h720 (hA h721 (hA h723 (hN rfl (hN rfl (hA h724 (hA h725 (hA h726 hZ))))))))))) fun e732 h734 h735 h736 h737 h738 h739 h740 h741 h742 h743 h744 => sN (sq (sq (Rg (kx (mvO h741) (kx (uNot rfl) (Rn (hA h734 (hA h735 (hA h736 (hA h737 (hA h738 (hA h739 (hA h740 (hA h742 (hA h743 (hA h744 (hN rfl hZ))))))))))) fun e745 h747 h748 h749 h750 h751 h752 h753 h754 h755 h756 h757 => sN ?_))))))))))))))))))))))))))))))))))))
   clear h696 h697 h698 h699 h700 h701 h702 h703 h706 h707 h708 h709 h710 h711 h712 h713 h714 h717 h718 h719 h720 h721 h722 h723 h724 h725 h726 h734 h735 h736 h737 h738 h739 h740 h741 h742 h743 h744
   rcases ite_some h with ⟨hb758, h⟩ | ⟨hb758, h⟩
   ·refine cF h757 (congrArg Bool.not hb758) (xx (sN (Rg (kx (mvO h752) (kx (mvO h753) (kx (ncO rfl o672 rfl) (kw (stO rfl rfl o672 rfl rfl ⟨rfl, ble rfl⟩ rfl rfl) fun M759 hM760 => ?_)))))))
    have o761 := set_ne hM760 ne53 o671
    have o762 : M759[M30.length]? = some (.live ⟨.box, 126, 6, [[.int .i64 r521, .int .i8 (IntKind.i8.wrap r48), .int .i64 r640, .int .i64 r730, .int .i64 0, .int .i64 0]]⟩) := set_same hM760 o672
    have o763 := set_ne hM760 (Ne.symm ne507) o673
    refine Rn (hA h747 (hA h748 (hA h749 (hA h750 (hA h751 (hA h754 (hA h755 (hA h756 hZ)))))))) fun e764 h766 h767 h768 h769 h770 h771 h772 h773 => bN (sN (Rg (kx (bAdd h773 rfl) (kx (mvO rfl) (Rn (hA h766 (hA h767 (hA h768 (hA h769 (hA h770 (hA h771 (hA h772 (hV (.int .i64 2) rfl hZ)))))))) fun e774 h776 h777 h778 h779 h780 h781 h782 h783 => luN (luS fun e784 he785 => ?_))))))
    clear h747 h748 h749 h750 h751 h752 h753 h754 h755 h756 h757 h766 h767 h768 h769 h770 h771 h772
    have h786 := envp he785 rfl h776
    have h787 := envp he785 rfl h777
    have h788 := envp he785 rfl h778
    have h789 := envp he785 rfl h779
    have h790 := envp he785 rfl h780
    have h791 := envp he785 rfl h781
    have h792 := envp he785 rfl h782
    have h793 := envp he785 rfl h783
    obtain ⟨x817, hx818, h⟩ := bind_some h
    obtain ⟨⟨r820, r821⟩, hx819, h⟩ := bind_some h
    refine sq (Rg (kx (bLss h793 h792) (Rn (hV (.str a1) h786 (hV (.loc ([] : Mem).length 1 0 0) h787 (hV (.loc M30.length 1 0 0) h788 (hV (.lsl M66.length [2, 3, 4].length 0 [2, 3, 4].length) h789 (hV (.sl none (x545.map cS)) h790 (hV (.lsl M66.length [2, 3, 4].length 0 [2, 3, 4].length) h791 (hV (.int .i64 3) h792 (hV (.int .i64 2) h793 (hV (.bool true) rfl hZ))))))))) fun e794 h796 h797 h798 h799 h800 h801 h802 h803 h804 => sN (sq (cT h804 rfl (xx (sN (sq (bl (sq (Rg (kx (mvO h803) (kx (ixO h801 o763 rfl h803 (rd_get (show rd ([2, 3, 4] : List Nat) 2 = some 4 from rfl)).1 (rd_lt (show rd ([2, 3, 4] : List Nat) 2 = some 4 from rfl)).2) (kx (ldO rfl o763 (by simp) (rz (show rd ([2, 3, 4] : List Nat) 2 = some 4 from rfl)) rfl) (kx (mvO rfl) (kx (mvO rfl) (Rn (hA h796 (hA h797 (hA h798 (hA h799 (hA h800 (hV (.int .i64 2) rfl (hV (.loc M30.length 1 0 4) rfl (hA h801 (hA h802 (hA h803 hZ)))))))))) fun e805 h807 h808 h809 h810 h811 h812 h813 h814 h815 h816 => sN (sq (Rg (kx (mvO h811) (kx (mvO h812) (kx (ixS rfl rfl hx818 cS_fl) (kx (ldP rfl rfl) (kc (cl (v := .tup [.int .i64 r820, .bool r821]) rfl (cns rfl rfl) rfl (impl_number_ok x817 _ hx819) nm) (kx (mvO rfl) (kx (exT rfl rfl) (kx (exT rfl rfl) (kx (mvO rfl) (kx (mvO rfl) (Rn (hA h807 (hA h808 (hA h809 (hA h810 (hA h811 (hA h813 (hN rfl (hN rfl (hA h814 (hA h815 (hA h816 hZ))))))))))) fun e822 h824 h825 h826 h827 h828 h829 h830 h831 h832 h833 h834 => sN (sq (sq (Rg (kx (mvO h831) (kx (uNot rfl) (Rn (hA h824 (hA h825 (hA h826 (hA h827 (hA h828 (hA h829 (hA h830 (hA h832 (hA h833 (hA h834 (hN rfl hZ))))))))))) fun e835 h837 h838 h839 h840 h841 h842 h843 h844 h845 h846 h847 => sN ?_))))))))))))))))))))))))))))))))))))
    clear h786 h787 h788 h789 h790 h791 h792 h793 h796 h797 h798 h799 h800 h801 h802 h803 h804 h807 h808 h809 h810 h811 h812 h813 h814 h815 h816 h824 h825 h826 h827 h828 h829 h830 h831 h832 h833 h834
    rcases ite_some h with ⟨hb848, h⟩ | ⟨hb848, h⟩
    ·refine cF h847 (congrArg Bool.not hb848) (xx (sN (Rg (kx (mvO h842) (kx (mvO h843) (kx (ncO rfl o762 rfl) (kw (stO rfl rfl o762 rfl rfl ⟨rfl, ble rfl⟩ rfl rfl) fun M849 hM850 => ?_)))))))
     have o851 := set_ne hM850 ne53 o761
     have o852 : M849[M30.length]? = some (.live ⟨.box, 126, 6, [[.int .i64 r521, .int .i8 (IntKind.i8.wrap r48), .int .i64 r640, .int .i64 r730, .int .i64 r820, .int .i64 0]]⟩) := set_same hM850 o762
     have o853 := set_ne hM850 (Ne.symm ne507) o763
     refine Rn (hA h837 (hA h838 (hA h839 (hA h840 (hA h841 (hA h844 (hA h845 (hA h846 hZ)))))))) fun e854 h856 h857 h858 h859 h860 h861 h862 h863 => bN (sN (Rg (kx (bAdd h863 rfl) (kx (mvO rfl) (Rn (hA h856 (hA h857 (hA h858 (hA h859 (hA h860 (hA h861 (hA h862 (hV (.int .i64 3) rfl hZ)))))))) fun e864 h866 h867 h868 h869 h870 h871 h872 h873 => luN (luS fun e874 he875 => ?_))))))
     clear h837 h838 h839 h840 h841 h842 h843 h844 h845 h846 h847 h856 h857 h858 h859 h860 h861 h862
     have h876 := envp he875 rfl h866
     have h877 := envp he875 rfl h867
     have h878 := envp he875 rfl h868
     have h879 := envp he875 rfl h869
     have h880 := envp he875 rfl h870
     have h881 := envp he875 rfl h871
     have h882 := envp he875 rfl h872
     have h883 := envp he875 rfl h873
     refine sq (Rg (kx (bLss h883 h882) (Rn (hV (.str a1) h876 (hV (.loc ([] : Mem).length 1 0 0) h877 (hV (.loc M30.length 1 0 0) h878 (hV (.lsl M66.length [2, 3, 4].length 0 [2, 3, 4].length) h879 (hV (.sl none (x545.map cS)) h880 (hV (.lsl M66.length [2, 3, 4].length 0 [2, 3, 4].length) h881 (hV (.int .i64 3) h882 (hV (.int .i64 3) h883 (hV (.bool false) rfl hZ))))))))) fun e884 h886 h887 h888 h889 h890 h891 h892 h893 h894 => sN (sq (cF h894 rfl (xx (sE (luE (bE (sN (sq (sq (Rg (kx (faO h888 o852 rfl) (kx (ldO rfl o852 rfl rfl rfl) (kx (bEql rfl rfl) (kx (mvO rfl) (kx (guF rfl hb97 (faO h888 o852 rfl)) (kx (guF rfl hb97 (ldO rfl o852 rfl rfl rfl)) (kx (guF rfl hb97 (bEql rfl rfl)) (kx (pkF rfl hb97 rfl) (Rn (hA h886 (hA h887 (hA h888 (hA h889 (hA h890 (hN rfl hZ)))))) fun e895 h897 h898 h899 h900 h901 h902 => sN ?_))))))))))))))))))))))
     clear h876 h877 h878 h879 h880 h881 h882 h883 h886 h887 h888 h889 h890 h891 h892 h893 h894
     rcases ite_some h with ⟨hb903, h⟩ | ⟨hb903, h⟩
     ·obtain ⟨x904, hx905, h⟩ := bind_some h
      obtain ⟨r907, hx906, h⟩ := bind_some h
      obtain ⟨⟨r909, r910⟩, hx908, h⟩ := bind_some h
      refine cT h902 hb903 (sq (Rg (kx (mvO h901) (kx (mvO h900) (kx (lnL Tryd.underlying178 rfl o853 (by simp)) (kx (slS rfl (bnd1 rfl) rfl hx905 cS_fl) (kc (cl (v := .str r907) rfl (cns rfl (cns rfl rfl)) rfl (strings_Join_ok x904 ([32] : List UInt8) _ hx906) nm) (kc (cl (v := .tup [.int .i64 r909, .int .i64 r910]) rfl (cns rfl rfl) rfl (impl_ReadAmount_ok r907 _ hx908) nm) (kx (mvO rfl) (kx (exT rfl rfl) (kx (exT rfl rfl) (kx (mvO rfl) (kx (mvO rfl) (Rn (hA h897 (hA h898 (hA h899 (hN rfl (hN rfl hZ))))) fun e911 h913 h914 h915 h916 h917 => sN (sq (sq (Rg (kx (mvO h917) (kx (bNeq rfl rfl) (Rn (hA h913 (hA h914 (hA h915 (hA h916 (hN rfl hZ))))) fun e918 h920 h921 h922 h923 h924 => sN ?_))))))))))))))))))))
      clear h897 h898 h899 h900 h901 h902 h913 h914 h915 h916 h917
      rcases ite_some h with ⟨hb925, h⟩ | ⟨hb925, h⟩
      ·refine cT h924 hb925 (sq (Rg (kx (bldT zero126 rfl (fill0 rfl)) (kw (stO h921 rfl o851 rfl rfl ⟨rfl, ble rfl⟩ rfl rfl) fun M926 hM927 => ?_))))
       have o928 : M926[([] : Mem).length]? = some (.live ⟨.box, 126, 6, [[.int .i64 0, .int .i8 0, .int .i64 0, .int .i64 0, .int .i64 0, .int .i64 0]]⟩) := set_same hM927 o851
       have o929 := set_ne hM927 (Ne.symm ne53) o852
       refine kx (mvO rfl) (Rn (hA h921 (hV (.bool false) rfl hZ)) fun e930 h932 h933 => sN (xx (sR (sR ?_))))
       clear h920 h921 h922 h923 h924
       obtain rfl := si h
       exact eR (resC (ag := true) (sz := 6) ⟨by kernel_rfl, by kernel_rfl, by kernel_rfl⟩ (ldOA h932 o928 rfl rfl (ble rfl) rfl) (resT h933 res0)) rfl
      refine cF h924 hb925 (xx (sN (Rg (kx (mvO h923) (kx (faO h922 o852 rfl) (kw (stO rfl rfl o852 rfl rfl ⟨rfl, ble rfl⟩ rfl rfl) fun M934 hM935 => ?_))))))
      have o936 := set_ne hM935 ne53 o851
      have o937 : M934[M30.length]? = some (.live ⟨.box, 126, 6, [[.int .i64 r521, .int .i8 (IntKind.i8.wrap r48), .int .i64 r640, .int .i64 r730, .int .i64 r820, .int .i64 r909]]⟩) := set_same hM935 o852
      obtain ⟨r944, hx943, h⟩ := bind_some h
      refine Rn (hA h920 (hA h921 (hA h922 hZ))) fun e938 h940 h941 h942 => sN (sq (Rd (kf (ldOA h942 o937 rfl rfl (ble rfl) rfl) (kf (ldOA h942 o937 rfl rfl (ble rfl) rfl) (fc (cl (v := .bool r944) rfl (cns rfl rfl) rfl (impl_ValidDeal_ok (Deal.mk r521 (IntKind.i8.wrap r48) r640 r730 r820 r909) _ hx943) nm) (kf (mvO rfl) ?_))))))
      clear h920 h921 h922 h923 h924
      rcases ite_some h with ⟨hb945, h⟩ | ⟨hb945, h⟩
      ·obtain ⟨r947, hx946, h⟩ := bind_some h
       refine kf (guT rfl hb945 (ldOA h942 o937 rfl rfl (ble rfl) rfl)) (fc (Ev.guT rfl hb945 (cl (v := .str r947) rfl (cns rfl rfl) rfl (impl_dealText_ok (Deal.mk r521 (IntKind.i8.wrap r48) r640 r730 r820 r909) _ hx946) nm)) (kf (guT rfl hb945 (mvO h940)) (kf (guT rfl hb945 (sEql rfl rfl)) (kf (pkT rfl hb945 rfl) (fZ (kw (stO h941 rfl o936 rfl rfl ⟨rfl, ble rfl⟩ rfl rfl) fun M948 hM949 => ?_))))))
       have o950 : M948[([] : Mem).length]? = some (.live ⟨.box, 126, 6, [[.int .i64 r521, .int .i8 (IntKind.i8.wrap r48), .int .i64 r640, .int .i64 r730, .int .i64 r820, .int .i64 r909]]⟩) := set_same hM949 o936
       have o951 := set_ne hM949 (Ne.symm ne53) o937
       refine kx (mvO rfl) (Rn (hA h941 (hN rfl hZ)) fun e952 h954 h955 => sN (xx ?_))
       clear h940 h941 h942
       obtain rfl := si h
       exact eR (resC (ag := true) (sz := 6) ⟨by kernel_rfl, by kernel_rfl, by kernel_rfl⟩ (ldOA h954 o950 rfl rfl (ble rfl) rfl) (resT h955 res0)) rfl
      refine kf (gsT rfl hb945) (fc (Ev.gsT rfl hb945) (kf (gsT rfl hb945) (kf (gsT rfl hb945) (kf (pkF rfl hb945 rfl) (fZ (kw (stO h941 rfl o936 rfl rfl ⟨rfl, ble rfl⟩ rfl rfl) fun M956 hM957 => ?_))))))
      have o958 : M956[([] : Mem).length]? = some (.live ⟨.box, 126, 6, [[.int .i64 r521, .int .i8 (IntKind.i8.wrap r48), .int .i64 r640, .int .i64 r730, .int .i64 r820, .int .i64 r909]]⟩) := set_same hM957 o936
      have o959 := set_ne hM957 (Ne.symm ne53) o937
      refine kx (mvO rfl) (Rn (hA h941 (hV (.bool false) rfl hZ)) fun e960 h962 h963 => sN (xx ?_))
      clear h940 h941 h942
      obtain rfl := si h
      exact eR (resC (ag := true) (sz := 6) ⟨by kernel_rfl, by kernel_rfl, by kernel_rfl⟩ (ldOA h962 o958 rfl rfl (ble rfl) rfl) (resT h963 res0)) rfl
     obtain ⟨r965, hx964, h⟩ := bind_some h
     refine cF h902 hb903 (xx (sN (sq (Rd (kf (ldOA h899 o852 rfl rfl (ble rfl) rfl) (kf (ldOA h899 o852 rfl rfl (ble rfl) rfl) (fc (cl (v := .bool r965) rfl (cns rfl rfl) rfl (impl_ValidDeal_ok (Deal.mk r521 (IntKind.i8.wrap r48) r640 r730 r820 0) _ hx964) nm) (kf (mvO rfl) ?_))))))))
     rcases ite_some h with ⟨hb966, h⟩ | ⟨hb966, h⟩
     ·obtain ⟨r968, hx967, h⟩ := bind_some h
      refine kf (guT rfl hb966 (ldOA h899 o852 rfl rfl (ble rfl) rfl)) (fc (Ev.guT rfl hb966 (cl (v := .str r968) rfl (cns rfl rfl) rfl (impl_dealText_ok (Deal.mk r521 (IntKind.i8.wrap r48) r640 r730 r820 0) _ hx967) nm)) (kf (guT rfl hb966 (mvO h897)) (kf (guT rfl hb966 (sEql rfl rfl)) (kf (pkT rfl hb966 rfl) (fZ (kw (stO h898 rfl o851 rfl rfl ⟨rfl, ble rfl⟩ rfl rfl) fun M969 hM970 => ?_))))))
      have o971 : M969[([] : Mem).length]? = some (.live ⟨.box, 126, 6, [[.int .i64 r521, .int .i8 (IntKind.i8.wrap r48), .int .i64 r640, .int .i64 r730, .int .i64 r820, .int .i64 0]]⟩) := set_same hM970 o851
      have o972 := set_ne hM970 (Ne.symm ne53) o852
      have o973 := set_ne hM970 (Ne.symm ne505) o853
      refine kx (mvO rfl) (Rn (hA h898 (hN rfl hZ)) fun e974 h976 h977 => sN (xx ?_))
      clear h897 h898 h899 h900 h901 h902
      obtain rfl := si h
      exact eR (resC (ag := true) (sz := 6) ⟨by kernel_rfl, by kernel_rfl, by kernel_rfl⟩ (ldOA h976 o971 rfl rfl (ble rfl) rfl) (resT h977 res0)) rfl
     refine kf (gsT rfl hb966) (fc (Ev.gsT rfl hb966) (kf (gsT rfl hb966) (kf (gsT rfl hb966) (kf (pkF rfl hb966 rfl) (fZ (kw (stO h898 rfl o851 rfl rfl ⟨rfl, ble rfl⟩ rfl rfl) fun M978 hM979 => ?_))))))
     have o980 : M978[([] : Mem).length]? = some (.live ⟨.box, 126, 6, [[.int .i64 r521, .int .i8 (IntKind.i8.wrap r48), .int .i64 r640, .int .i64 r730, .int .i64 r820, .int .i64 0]]⟩) := set_same hM979 o851
     have o981 := set_ne hM979 (Ne.symm ne53) o852
     have o982 := set_ne hM979 (Ne.symm ne505) o853
     refine kx (mvO rfl) (Rn (hA h898 (hV (.bool false) rfl hZ)) fun e983 h985 h986 => sN (xx ?_))
     clear h897 h898 h899 h900 h901 h902
     obtain rfl := si h
     exact eR (resC (ag := true) (sz := 6) ⟨by kernel_rfl, by kernel_rfl, by kernel_rfl⟩ (ldOA h985 o980 rfl rfl (ble rfl) rfl) (resT h986 res0)) rfl
    refine cT h847 (congrArg Bool.not hb848) (sq (Rg (kx (bldT zero126 rfl (fill0 rfl)) (kw (stO h838 rfl o761 rfl rfl ⟨rfl, ble rfl⟩ rfl rfl) fun M987 hM988 => ?_))))
    have o989 : M987[([] : Mem).length]? = some (.live ⟨.box, 126, 6, [[.int .i64 0, .int .i8 0, .int .i64 0, .int .i64 0, .int .i64 0, .int .i64 0]]⟩) := set_same hM988 o761
    have o990 := set_ne hM988 (Ne.symm ne53) o762
    have o991 := set_ne hM988 (Ne.symm ne505) o763
    refine kx (mvO rfl) (Rn (hA h838 (hV (.bool false) rfl hZ)) fun e992 h994 h995 => sN (xx (sR (bR (sR (luR (bR (sR ?_))))))))
    clear h837 h838 h839 h840 h841 h842 h843 h844 h845 h846 h847
    obtain rfl := si h
    exact eR (resC (ag := true) (sz := 6) ⟨by kernel_rfl, by kernel_rfl, by kernel_rfl⟩ (ldOA h994 o989 rfl rfl (ble rfl) rfl) (resT h995 res0)) rfl
   refine cT h757 (congrArg Bool.not hb758) (sq (Rg (kx (bldT zero126 rfl (fill0 rfl)) (kw (stO h748 rfl o671 rfl rfl ⟨rfl, ble rfl⟩ rfl rfl) fun M996 hM997 => ?_))))
   have o998 : M996[([] : Mem).length]? = some (.live ⟨.box, 126, 6, [[.int .i64 0, .int .i8 0, .int .i64 0, .int .i64 0, .int .i64 0, .int .i64 0]]⟩) := set_same hM997 o671
   have o999 := set_ne hM997 (Ne.symm ne53) o672
   have o1000 := set_ne hM997 (Ne.symm ne505) o673
   refine kx (mvO rfl) (Rn (hA h748 (hV (.bool false) rfl hZ)) fun e1001 h1003 h1004 => sN (xx (sR (bR (sR (luR (bR (sR ?_))))))))
   clear h747 h748 h749 h750 h751 h752 h753 h754 h755 h756 h757
   obtain rfl := si h
   exact eR (resC (ag := true) (sz := 6) ⟨by kernel_rfl, by kernel_rfl, by kernel_rfl⟩ (ldOA h1003 o998 rfl rfl (ble rfl) rfl) (resT h1004 res0)) rfl
  refine cT h667 (congrArg Bool.not hb668) (sq (Rg (kx (bldT zero126 rfl (fill0 rfl)) (kw (stO h658 rfl o581 rfl rfl ⟨rfl, ble rfl⟩ rfl rfl) fun M1005 hM1006 => ?_))))
  have o1007 : M1005[([] : Mem).length]? = some (.live ⟨.box, 126, 6, [[.int .i64 0, .int .i8 0, .int .i64 0, .int .i64 0, .int .i64 0, .int .i64 0]]⟩) := set_same hM1006 o581
  have o1008 := set_ne hM1006 (Ne.symm ne53) o582
  have o1009 := set_ne hM1006 (Ne.symm ne505) o583
  refine kx (mvO rfl) (Rn (hA h658 (hV (.bool false) rfl hZ)) fun e1010 h1012 h1013 => sN (xx (sR (bR (sR (luR (bR (sR ?_))))))))
  clear h657 h658 h659 h660 h661 h662 h663 h664 h665 h666 h667
  obtain rfl := si h
  exact eR (resC (ag := true) (sz := 6) ⟨by kernel_rfl, by kernel_rfl, by kernel_rfl⟩ (ldOA h1012 o1007 rfl rfl (ble rfl) rfl) (resT h1013 res0)) rfl
 refine cF h499 hb500 (sq (Rg (kx (bEql h498 rfl) (kx (mvO rfl) (Rn (hA h493 (hA h494 (hA h495 (hA h496 (hA h497 (hA h498 (hN rfl hZ))))))) fun e1017 h1019 h1020 h1021 h1022 h1023 h1024 h1025 => sN ?_)))))
 clear h493 h494 h495 h496 h497 h498 h499
 rcases ite_some h with ⟨hb1026, h⟩ | ⟨hb1026, h⟩
 ·refine cT h1025 hb1026 (Rg (kx (faO h1022 o70 rfl) (ku (litO (kp := false) (xs := [2]) (c := (cP M30.length 1)) (vs' := ([2]).map fun o => .loc M30.length 1 0 o) (cns rfl rfl) (partsP (okL (off := 0) (i := 0) o70 (by simp)) [2]) (by decide)) fun M1028 hM1029 => ?_)))
  have o1030 := push_old hM1029 o68
  have ne1031 := ne_new o68
  have o1032 := push_old hM1029 o70
  have ne1033 := ne_new o70
  have o1034 := push_old hM1029 o72
  have ne1035 := ne_new o72
  have o1036 : M1028[M66.length]? = some (.live ⟨.grow, 179, 1, [2].map (cP M30.length 1)⟩) := push_new hM1029
  obtain ⟨x1044, hx1045, h⟩ := bind_some h
  obtain ⟨⟨r1047, r1048⟩, hx1046, h⟩ := bind_some h
  refine kx (mvO rfl) (Rn (hA h1019 (hA h1020 (hA h1021 (hA h1022 (hV (.lsl M66.length [2].length 0 [2].length) rfl hZ))))) fun e1037 h1039 h1040 h1041 h1042 h1043 => bN (sN (sq (Rg (kx (mvO h1041) (kx (ixS rfl rfl hx1045 cS_fl) (kx (ldP rfl rfl) (kc (cl (v := .tup [.int .i64 r1047, .bool r1048]) rfl (cns rfl rfl) rfl (impl_number_ok x1044 _ hx1046) nm) (kx (mvO rfl) (kx (exT rfl rfl) (kx (exT rfl rfl) (kx (mvO rfl) (kx (mvO rfl) (Rn (hA h1039 (hA h1040 (hA h1041 (hA h1042 (hA h1043 (hN rfl (hN rfl hZ))))))) fun e1049 h1051 h1052 h1053 h1054 h1055 h1056 h1057 => sN (sq (Rg (kx (mvO h1056) (kx (faO h1054 o1032 rfl) (kw (stO rfl rfl o1032 rfl rfl ⟨rfl, ble rfl⟩ rfl rfl) fun M1058 hM1059 => ?_)))))))))))))))))))
  clear h1019 h1020 h1021 h1022 h1024 h1025 h1039 h1040 h1041 h1042 h1043
  have o1060 := set_ne hM1059 ne53 o1030
  have o1061 : M1058[M30.length]? = some (.live ⟨.box, 126, 6, [[.int .i64 r1047, .int .i8 (IntKind.i8.wrap r48), .int .i64 0, .int .i64 0, .int .i64 0, .int .i64 0]]⟩) := set_same hM1059 o1032
  have o1062 := set_ne hM1059 (Ne.symm ne1033) o1036
  obtain ⟨x1071, hx1072, h⟩ := bind_some h
  obtain ⟨r1319, hr1320, h⟩ := bind_some h
  refine Rn (hA h1051 (hA h1052 (hA h1053 (hA h1054 (hA h1055 (hA h1057 hZ)))))) fun e1063 h1065 h1066 h1067 h1068 h1069 h1070 => sN (sq (Rg (kx (mvO h1067) (kx (slS rfl (bnd1 rfl) rfl hx1072 cS_fl) (kx (mvO rfl) (Rn (hA h1065 (hA h1066 (hA h1068 (hA h1069 (hA h1070 (hN rfl hZ)))))) fun e1073 h1075 h1076 h1077 h1078 h1079 h1080 => sN (sq (sq ?_))))))))
  clear h1051 h1052 h1053 h1054 h1055 h1056 h1057 h1065 h1066 h1067 h1068 h1069 h1070
  refine Ev.cut (Q1 := impl_readDeal_c4_Q a1 r48 r1047 x1071 (([] : Mem).length) M30.length M66.length r1319) (by
      have h := hr1320
      refine Rg (kx (mvO h1079) (kx (uNot rfl) (kx (mvO rfl) ?_)))
      rcases ite_some h with ⟨hb1081, h⟩ | ⟨hb1081, h⟩
      ·refine kx (guF rfl (congrArg Bool.not hb1081) (mvO h1078)) (kx (guF rfl (congrArg Bool.not hb1081) (lnL Tryd.underlying178 rfl o1062 (by simp))) (kx (guF rfl (congrArg Bool.not hb1081) (bEql rfl rfl)) (kx (pkF rfl (congrArg Bool.not hb1081) rfl) (kx (mvO rfl) (kx (guF rfl rfl (mvO h1080)) (kx (guF rfl rfl (lnS Tryd.underlying86 rfl)) (kx (guF rfl rfl (mvO h1078)) (kx (guF rfl rfl (lnL Tryd.underlying178 rfl o1062 (by simp))) (kx (guF rfl rfl (bLss rfl rfl)) (kx (pkF rfl rfl rfl) (Rn (hA h1075 (hA h1076 (hA h1077 (hA h1078 (hA h1080 (hN rfl hZ)))))) fun e1082 h1084 h1085 h1086 h1087 h1088 h1089 => ?_)))))))))))
       clear h1075 h1076 h1077 h1078 h1079 h1080
       obtain rfl := si h
       exact kd (show impl_readDeal_c4_Q a1 r48 r1047 x1071 (([] : Mem).length) M30.length M66.length _ _ from ⟨rfl, h1084, h1085, h1086, h1087, h1088, h1089, o1060, o1062, o1061⟩)
      refine kx (gsF rfl (congrArg Bool.not hb1081)) (kx (gsF rfl (congrArg Bool.not hb1081)) (kx (gsF rfl (congrArg Bool.not hb1081)) (kx (pkT rfl (congrArg Bool.not hb1081) rfl) (kx (mvO rfl) (kx (gsF rfl rfl) (kx (gsF rfl rfl) (kx (gsF rfl rfl) (kx (gsF rfl rfl) (kx (gsF rfl rfl) (kx (pkT rfl rfl rfl) (Rn (hA h1075 (hA h1076 (hA h1077 (hA h1078 (hA h1080 (hV (.bool true) rfl hZ)))))) fun e1090 h1092 h1093 h1094 h1095 h1096 h1097 => ?_)))))))))))
      clear h1075 h1076 h1077 h1078 h1079 h1080
      obtain rfl := si h
      exact kd (show impl_readDeal_c4_Q a1 r48 r1047 x1071 (([] : Mem).length) M30.length M66.length _ _ from ⟨rfl, h1092, h1093, h1094, h1095, h1096, h1097, o1060, o1062, o1061⟩)) ?_
  revert h hr1320
  revert r1319
  intro y1100 hr1320 h
  intro x e1098 M1099 hq1318
  obtain ⟨rfl, h1101, h1102, h1103, h1104, h1105, h1106, o1107, o1108, o1109⟩ := hq1318
  refine sN ?_
  rcases ite_some h with ⟨hb1110, h⟩ | ⟨hb1110, h⟩
  ·refine cT h1106 hb1110 (sq (Rg (kx (bldT zero126 rfl (fill0 rfl)) (kw (stO h1102 rfl o1107 rfl rfl ⟨rfl, ble rfl⟩ rfl rfl) fun M1111 hM1112 => ?_))))
   have o1113 : M1111[([] : Mem).length]? = some (.live ⟨.box, 126, 6, [[.int .i64 0, .int .i8 0, .int .i64 0, .int .i64 0, .int .i64 0, .int .i64 0]]⟩) := set_same hM1112 o1107
   have o1114 := set_ne hM1112 (Ne.symm ne1031) o1108
   have o1115 := set_ne hM1112 (Ne.symm ne53) o1109
   refine kx (mvO rfl) (Rn (hV (.loc ([] : Mem).length 1 0 0) h1102 (hV (.bool false) rfl hZ)) fun e1116 h1118 h1119 => sN (xx (sR ?_)))
   clear h1101 h1102 h1103 h1104 h1105 h1106
   obtain rfl := si h
   exact eR (resC (ag := true) (sz := 6) ⟨by kernel_rfl, by kernel_rfl, by kernel_rfl⟩ (ldOA h1118 o1113 rfl rfl (ble rfl) rfl) (resT h1119 res0)) rfl
  refine cF h1106 hb1110 (xx (sN (sq (sq (Rg (kx (mvO h1104) (kx (lnL Tryd.underlying178 rfl o1108 (by simp)) (kx (mvO rfl) (Rn (hV (.str a1) h1101 (hV (.loc ([] : Mem).length 1 0 0) h1102 (hV (.loc M30.length 1 0 0) h1103 (hV (.lsl M66.length [2].length 0 [2].length) h1104 (hV (.sl none (x1071.map cS)) h1105 (hV (.lsl M66.length [2].length 0 [2].length) rfl (hV (.int .i64 1) rfl (hV (.int .i64 0) rfl hZ)))))))) fun e1120 h1122 h1123 h1124 h1125 h1126 h1127 h1128 h1129 => sN (bl (Ev.unroll 6 (luS fun e1130 he1131 => ?_))))))))))))
  clear h1101 h1102 h1103 h1104 h1105 h1106
  have h1132 := envp he1131 rfl h1122
  have h1133 := envp he1131 rfl h1123
  have h1134 := envp he1131 rfl h1124
  have h1135 := envp he1131 rfl h1125
  have h1136 := envp he1131 rfl h1126
  have h1137 := envp he1131 rfl h1127
  have h1138 := envp he1131 rfl h1128
  have h1139 := envp he1131 rfl h1129
  obtain ⟨x1163, hx1164, h⟩ := bind_some h
  obtain ⟨⟨r1166, r1167⟩, hx1165, h⟩ := bind_some h
  refine sq (Rg (kx (bLss h1139 h1138) (Rn (hV (.str a1) h1132 (hV (.loc ([] : Mem).length 1 0 0) h1133 (hV (.loc M30.length 1 0 0) h1134 (hV (.lsl M66.length [2].length 0 [2].length) h1135 (hV (.sl none (x1071.map cS)) h1136 (hV (.lsl M66.length [2].length 0 [2].length) h1137 (hV (.int .i64 1) h1138 (hV (.int .i64 0) h1139 (hV (.bool true) rfl hZ))))))))) fun e1140 h1142 h1143 h1144 h1145 h1146 h1147 h1148 h1149 h1150 => sN (sq (cT h1150 rfl (xx (sN (sq (bl (sq (Rg (kx (mvO h1149) (kx (ixO h1147 o1108 rfl h1149 (rd_get (show rd ([2] : List Nat) 0 = some 2 from rfl)).1 (rd_lt (show rd ([2] : List Nat) 0 = some 2 from rfl)).2) (kx (ldO rfl o1108 (by simp) (rz (show rd ([2] : List Nat) 0 = some 2 from rfl)) rfl) (kx (mvO rfl) (kx (mvO rfl) (Rn (hA h1142 (hA h1143 (hA h1144 (hA h1145 (hA h1146 (hV (.int .i64 0) rfl (hV (.loc M30.length 1 0 2) rfl (hA h1147 (hA h1148 (hA h1149 hZ)))))))))) fun e1151 h1153 h1154 h1155 h1156 h1157 h1158 h1159 h1160 h1161 h1162 => sN (sq (Rg (kx (mvO h1157) (kx (mvO h1158) (kx (ixS rfl rfl hx1164 cS_fl) (kx (ldP rfl rfl) (kc (cl (v := .tup [.int .i64 r1166, .bool r1167]) rfl (cns rfl rfl) rfl (impl_number_ok x1163 _ hx1165) nm) (kx (mvO rfl) (kx (exT rfl rfl) (kx (exT rfl rfl) (kx (mvO rfl) (kx (mvO rfl) (Rn (hA h1153 (hA h1154 (hA h1155 (hA h1156 (hA h1157 (hA h1159 (hN rfl (hN rfl (hA h1160 (hA h1161 (hA h1162 hZ))))))))))) fun e1168 h1170 h1171 h1172 h1173 h1174 h1175 h1176 h1177 h1178 h1179 h1180 => sN (sq (sq (Rg (kx (mvO h1177) (kx (uNot rfl) (Rn (hA h1170 (hA h1171 (hA h1172 (hA h1173 (hA h1174 (hA h1175 (hA h1176 (hA h1178 (hA h1179 (hA h1180 (hN rfl hZ))))))))))) fun e1181 h1183 h1184 h1185 h1186 h1187 h1188 h1189 h1190 h1191 h1192 h1193 => sN ?_))))))))))))))))))))))))))))))))))))
  clear h1132 h1133 h1134 h1135 h1136 h1137 h1138 h1139 h1142 h1143 h1144 h1145 h1146 h1147 h1148 h1149 h1150 h1153 h1154 h1155 h1156 h1157 h1158 h1159 h1160 h1161 h1162 h1170 h1171 h1172 h1173 h1174 h1175 h1176 h1177 h1178 h1179 h1180
  rcases ite_some h with ⟨hb1194, h⟩ | ⟨hb1194, h⟩
  ·refine cF h1193 (congrArg Bool.not hb1194) (xx (sN (Rg (kx (mvO h1188) (kx (mvO h1189) (kx (ncO rfl o1109 rfl) (kw (stO rfl rfl o1109 rfl rfl ⟨rfl, ble rfl⟩ rfl rfl) fun M1195 hM1196 => ?_)))))))
   have o1197 := set_ne hM1196 ne53 o1107
   have o1198 := set_ne hM1196 (Ne.symm ne1033) o1108
   have o1199 : M1195[M30.length]? = some (.live ⟨.box, 126, 6, [[.int .i64 r1047, .int .i8 (IntKind.i8.wrap r48), .int .i64 r1166, .int .i64 0, .int .i64 0, .int .i64 0]]⟩) := set_same hM1196 o1109
   refine Rn (hA h1183 (hA h1184 (hA h1185 (hA h1186 (hA h1187 (hA h1190 (hA h1191 (hA h1192 hZ)))))))) fun e1200 h1202 h1203 h1204 h1205 h1206 h1207 h1208 h1209 => bN (sN (Rg (kx (bAdd h1209 rfl) (kx (mvO rfl) (Rn (hA h1202 (hA h1203 (hA h1204 (hA h1205 (hA h1206 (hA h1207 (hA h1208 (hV (.int .i64 1) rfl hZ)))))))) fun e1210 h1212 h1213 h1214 h1215 h1216 h1217 h1218 h1219 => luN (luS fun e1220 he1221 => ?_))))))
   clear h1183 h1184 h1185 h1186 h1187 h1188 h1189 h1190 h1191 h1192 h1193 h1202 h1203 h1204 h1205 h1206 h1207 h1208
   have h1222 := envp he1221 rfl h1212
   have h1223 := envp he1221 rfl h1213
   have h1224 := envp he1221 rfl h1214
   have h1225 := envp he1221 rfl h1215
   have h1226 := envp he1221 rfl h1216
   have h1227 := envp he1221 rfl h1217
   have h1228 := envp he1221 rfl h1218
   have h1229 := envp he1221 rfl h1219
   obtain ⟨x1249, hx1250, h⟩ := bind_some h
   obtain ⟨r1252, hx1251, h⟩ := bind_some h
   obtain ⟨⟨r1254, r1255⟩, hx1253, h⟩ := bind_some h
   refine sq (Rg (kx (bLss h1229 h1228) (Rn (hV (.str a1) h1222 (hV (.loc ([] : Mem).length 1 0 0) h1223 (hV (.loc M30.length 1 0 0) h1224 (hV (.lsl M66.length [2].length 0 [2].length) h1225 (hV (.sl none (x1071.map cS)) h1226 (hV (.lsl M66.length [2].length 0 [2].length) h1227 (hV (.int .i64 1) h1228 (hV (.int .i64 1) h1229 (hV (.bool false) rfl hZ))))))))) fun e1230 h1232 h1233 h1234 h1235 h1236 h1237 h1238 h1239 h1240 => sN (sq (cF h1240 rfl (xx (sE (luE (bE (sN (sq (sq (Rg (kx (faO h1234 o1199 rfl) (kx (ldO rfl o1199 rfl rfl rfl) (kx (bEql rfl rfl) (kx (mvO rfl) (kx (guF rfl hb97 (faO h1234 o1199 rfl)) (kx (guF rfl hb97 (ldO rfl o1199 rfl rfl rfl)) (kx (guF rfl hb97 (bEql rfl rfl)) (kx (pkF rfl hb97 rfl) (Rn (hA h1232 (hA h1233 (hA h1234 (hA h1235 (hA h1236 (hN rfl hZ)))))) fun e1241 h1243 h1244 h1245 h1246 h1247 h1248 => sN (cT h1248 hb1026 (sq (Rg (kx (mvO h1247) (kx (mvO h1246) (kx (lnL Tryd.underlying178 rfl o1198 (by simp)) (kx (slS rfl (bnd1 rfl) rfl hx1250 cS_fl) (kc (cl (v := .str r1252) rfl (cns rfl (cns rfl rfl)) rfl (strings_Join_ok x1249 ([32] : List UInt8) _ hx1251) nm) (kc (cl (v := .tup [.int .i64 r1254, .int .i64 r1255]) rfl (cns rfl rfl) rfl (impl_ReadAmount_ok r1252 _ hx1253) nm) (kx (mvO rfl) (kx (exT rfl rfl) (kx (exT rfl rfl) (kx (mvO rfl) (kx (mvO rfl) (Rn (hA h1243 (hA h1244 (hA h1245 (hN rfl (hN rfl hZ))))) fun e1256 h1258 h1259 h1260 h1261 h1262 => sN (sq (sq (Rg (kx (mvO h1262) (kx (bNeq rfl rfl) (Rn (hA h1258 (hA h1259 (hA h1260 (hA h1261 (hN rfl hZ))))) fun e1263 h1265 h1266 h1267 h1268 h1269 => sN ?_)))))))))))))))))))))))))))))))))))))))))))
   clear h1222 h1223 h1224 h1225 h1226 h1227 h1228 h1229 h1232 h1233 h1234 h1235 h1236 h1237 h1238 h1239 h1240 h1243 h1244 h1245 h1246 h1247 h1248 h1258 h1259 h1260 h1261 h1262
   rcases ite_some h with ⟨hb1270, h⟩ | ⟨hb1270, h⟩
   ·refine cT h1269 hb1270 (sq (Rg (kx (bldT zero126 rfl (fill0 rfl)) (kw (stO h1266 rfl o1197 rfl rfl ⟨rfl, ble rfl⟩ rfl rfl) fun M1271 hM1272 => ?_))))
    have o1273 : M1271[([] : Mem).length]? = some (.live ⟨.box, 126, 6, [[.int .i64 0, .int .i8 0, .int .i64 0, .int .i64 0, .int .i64 0, .int .i64 0]]⟩) := set_same hM1272 o1197
    have o1274 := set_ne hM1272 (Ne.symm ne53) o1199
    refine kx (mvO rfl) (Rn (hA h1266 (hV (.bool false) rfl hZ)) fun e1275 h1277 h1278 => sN (xx (sR (sR ?_))))
    clear h1265 h1266 h1267 h1268 h1269
    obtain rfl := si h
    exact eR (resC (ag := true) (sz := 6) ⟨by kernel_rfl, by kernel_rfl, by kernel_rfl⟩ (ldOA h1277 o1273 rfl rfl (ble rfl) rfl) (resT h1278 res0)) rfl
   refine cF h1269 hb1270 (xx (sN (Rg (kx (mvO h1268) (kx (faO h1267 o1199 rfl) (kw (stO rfl rfl o1199 rfl rfl ⟨rfl, ble rfl⟩ rfl rfl) fun M1279 hM1280 => ?_))))))
   have o1281 := set_ne hM1280 ne53 o1197
   have o1282 : M1279[M30.length]? = some (.live ⟨.box, 126, 6, [[.int .i64 r1047, .int .i8 (IntKind.i8.wrap r48), .int .i64 r1166, .int .i64 0, .int .i64 0, .int .i64 r1254]]⟩) := set_same hM1280 o1199
   obtain ⟨r1289, hx1288, h⟩ := bind_some h
   refine Rn (hA h1265 (hA h1266 (hA h1267 hZ))) fun e1283 h1285 h1286 h1287 => sN (sq (Rd (kf (ldOA h1287 o1282 rfl rfl (ble rfl) rfl) (kf (ldOA h1287 o1282 rfl rfl (ble rfl) rfl) (fc (cl (v := .bool r1289) rfl (cns rfl rfl) rfl (impl_ValidDeal_ok (Deal.mk r1047 (IntKind.i8.wrap r48) r1166 0 0 r1254) _ hx1288) nm) (kf (mvO rfl) ?_))))))
   clear h1265 h1266 h1267 h1268 h1269
   rcases ite_some h with ⟨hb1290, h⟩ | ⟨hb1290, h⟩
   ·obtain ⟨r1292, hx1291, h⟩ := bind_some h
    refine kf (guT rfl hb1290 (ldOA h1287 o1282 rfl rfl (ble rfl) rfl)) (fc (Ev.guT rfl hb1290 (cl (v := .str r1292) rfl (cns rfl rfl) rfl (impl_dealText_ok (Deal.mk r1047 (IntKind.i8.wrap r48) r1166 0 0 r1254) _ hx1291) nm)) (kf (guT rfl hb1290 (mvO h1285)) (kf (guT rfl hb1290 (sEql rfl rfl)) (kf (pkT rfl hb1290 rfl) (fZ (kw (stO h1286 rfl o1281 rfl rfl ⟨rfl, ble rfl⟩ rfl rfl) fun M1293 hM1294 => ?_))))))
    have o1295 : M1293[([] : Mem).length]? = some (.live ⟨.box, 126, 6, [[.int .i64 r1047, .int .i8 (IntKind.i8.wrap r48), .int .i64 r1166, .int .i64 0, .int .i64 0, .int .i64 r1254]]⟩) := set_same hM1294 o1281
    have o1296 := set_ne hM1294 (Ne.symm ne53) o1282
    refine kx (mvO rfl) (Rn (hA h1286 (hN rfl hZ)) fun e1297 h1299 h1300 => sN (xx ?_))
    clear h1285 h1286 h1287
    obtain rfl := si h
    exact eR (resC (ag := true) (sz := 6) ⟨by kernel_rfl, by kernel_rfl, by kernel_rfl⟩ (ldOA h1299 o1295 rfl rfl (ble rfl) rfl) (resT h1300 res0)) rfl
   refine kf (gsT rfl hb1290) (fc (Ev.gsT rfl hb1290) (kf (gsT rfl hb1290) (kf (gsT rfl hb1290) (kf (pkF rfl hb1290 rfl) (fZ (kw (stO h1286 rfl o1281 rfl rfl ⟨rfl, ble rfl⟩ rfl rfl) fun M1301 hM1302 => ?_))))))
   have o1303 : M1301[([] : Mem).length]? = some (.live ⟨.box, 126, 6, [[.int .i64 r1047, .int .i8 (IntKind.i8.wrap r48), .int .i64 r1166, .int .i64 0, .int .i64 0, .int .i64 r1254]]⟩) := set_same hM1302 o1281
   have o1304 := set_ne hM1302 (Ne.symm ne53) o1282
   refine kx (mvO rfl) (Rn (hA h1286 (hV (.bool false) rfl hZ)) fun e1305 h1307 h1308 => sN (xx ?_))
   clear h1285 h1286 h1287
   obtain rfl := si h
   exact eR (resC (ag := true) (sz := 6) ⟨by kernel_rfl, by kernel_rfl, by kernel_rfl⟩ (ldOA h1307 o1303 rfl rfl (ble rfl) rfl) (resT h1308 res0)) rfl
  refine cT h1193 (congrArg Bool.not hb1194) (sq (Rg (kx (bldT zero126 rfl (fill0 rfl)) (kw (stO h1184 rfl o1107 rfl rfl ⟨rfl, ble rfl⟩ rfl rfl) fun M1309 hM1310 => ?_))))
  have o1311 : M1309[([] : Mem).length]? = some (.live ⟨.box, 126, 6, [[.int .i64 0, .int .i8 0, .int .i64 0, .int .i64 0, .int .i64 0, .int .i64 0]]⟩) := set_same hM1310 o1107
  have o1312 := set_ne hM1310 (Ne.symm ne1031) o1108
  have o1313 := set_ne hM1310 (Ne.symm ne53) o1109
  refine kx (mvO rfl) (Rn (hA h1184 (hV (.bool false) rfl hZ)) fun e1314 h1316 h1317 => sN (xx (sR (bR (sR (luR (bR (sR ?_))))))))
  clear h1183 h1184 h1185 h1186 h1187 h1188 h1189 h1190 h1191 h1192 h1193
  obtain rfl := si h
  exact eR (resC (ag := true) (sz := 6) ⟨by kernel_rfl, by kernel_rfl, by kernel_rfl⟩ (ldOA h1316 o1311 rfl rfl (ble rfl) rfl) (resT h1317 res0)) rfl
 refine cF h1025 hb1026 (sq (Rg (kx (bEql h1024 rfl) (kx (mvO rfl) (Rn (hA h1019 (hA h1020 (hA h1021 (hA h1022 (hA h1023 (hN rfl hZ)))))) fun e1321 h1323 h1324 h1325 h1326 h1327 h1328 => sN ?_)))))
 clear h1019 h1020 h1021 h1022 h1023 h1024 h1025
 rcases ite_some h with ⟨hb1329, h⟩ | ⟨hb1329, h⟩
 ·refine cT h1328 hb1329 (Rg (kx (faO h1326 o70 rfl) (kx (faO h1326 o70 rfl) (ku (litO (kp := false) (xs := [2, 3]) (c := (cP M30.length 1)) (vs' := ([2, 3]).map fun o => .loc M30.length 1 0 o) (cns rfl (cns rfl rfl)) (partsP (okL (off := 0) (i := 0) o70 (by simp)) [2, 3]) (by decide)) fun M1331 hM1332 => ?_))))
  have o1333 := push_old hM1332 o68
  have ne1334 := ne_new o68
  have o1335 := push_old hM1332 o70
  have ne1336 := ne_new o70
  have o1337 := push_old hM1332 o72
  have ne1338 := ne_new o72
  have o1339 : M1331[M66.length]? = some (.live ⟨.grow, 179, 1, [2, 3].map (cP M30.length 1)⟩) := push_new hM1332
  obtain ⟨x1347, hx1348, h⟩ := bind_some h
  obtain ⟨⟨r1350, r1351⟩, hx1349, h⟩ := bind_some h
  refine kx (mvO rfl) (Rn (hA h1323 (hA h1324 (hA h1325 (hA h1326 (hV (.lsl M66.length [2, 3].length 0 [2, 3].length) rfl hZ))))) fun e1340 h1342 h1343 h1344 h1345 h1346 => bN (sN (sq (Rg (kx (mvO h1344) (kx (ixS rfl rfl hx1348 cS_fl) (kx (ldP rfl rfl) (kc (cl (v := .tup [.int .i64 r1350, .bool r1351]) rfl (cns rfl rfl) rfl (impl_number_ok x1347 _ hx1349) nm) (kx (mvO rfl) (kx (exT rfl rfl) (kx (exT rfl rfl) (kx (mvO rfl) (kx (mvO rfl) (Rn (hA h1342 (hA h1343 (hA h1344 (hA h1345 (hA h1346 (hN rfl (hN rfl hZ))))))) fun e1352 h1354 h1355 h1356 h1357 h1358 h1359 h1360 => sN (sq (Rg (kx (mvO h1359) (kx (faO h1357 o1335 rfl) (kw (stO rfl rfl o1335 rfl rfl ⟨rfl, ble rfl⟩ rfl rfl) fun M1361 hM1362 => ?_)))))))))))))))))))
  clear h1323 h1324 h1325 h1326 h1328 h1342 h1343 h1344 h1345 h1346
  have o1363 := set_ne hM1362 ne53 o1333
  have o1364 : M1361[M30.length]? = some (.live ⟨.box, 126, 6, [[.int .i64 r1350, .int .i8 (IntKind.i8.wrap r48), .int .i64 0, .int .i64 0, .int .i64 0, .int .i64 0]]⟩) := set_same hM1362 o1335
  have o1365 := set_ne hM1362 (Ne.symm ne1336) o1339
  obtain ⟨x1374, hx1375, h⟩ := bind_some h
  obtain ⟨r1684, hr1685, h⟩ := bind_some h
  refine Rn (hA h1354 (hA h1355 (hA h1356 (hA h1357 (hA h1358 (hA h1360 hZ)))))) fun e1366 h1368 h1369 h1370 h1371 h1372 h1373 => sN (sq (Rg (kx (mvO h1370) (kx (slS rfl (bnd1 rfl) rfl hx1375 cS_fl) (kx (mvO rfl) (Rn (hA h1368 (hA h1369 (hA h1371 (hA h1372 (hA h1373 (hN rfl hZ)))))) fun e1376 h1378 h1379 h1380 h1381 h1382 h1383 => sN (sq (sq ?_))))))))
  clear h1354 h1355 h1356 h1357 h1358 h1359 h1360 h1368 h1369 h1370 h1371 h1372 h1373
  refine Ev.cut (Q1 := impl_readDeal_c5_Q a1 r48 r1350 x1374 (([] : Mem).length) M30.length M66.length r1684) (by
      have h := hr1685
      refine Rg (kx (mvO h1382) (kx (uNot rfl) (kx (mvO rfl) ?_)))
      rcases ite_some h with ⟨hb1384, h⟩ | ⟨hb1384, h⟩
      ·refine kx (guF rfl (congrArg Bool.not hb1384) (mvO h1381)) (kx (guF rfl (congrArg Bool.not hb1384) (lnL Tryd.underlying178 rfl o1365 (by simp))) (kx (guF rfl (congrArg Bool.not hb1384) (bEql rfl rfl)) (kx (pkF rfl (congrArg Bool.not hb1384) rfl) (kx (mvO rfl) (kx (guF rfl rfl (mvO h1383)) (kx (guF rfl rfl (lnS Tryd.underlying86 rfl)) (kx (guF rfl rfl (mvO h1381)) (kx (guF rfl rfl (lnL Tryd.underlying178 rfl o1365 (by simp))) (kx (guF rfl rfl (bLss rfl rfl)) (kx (pkF rfl rfl rfl) (Rn (hA h1378 (hA h1379 (hA h1380 (hA h1381 (hA h1383 (hN rfl hZ)))))) fun e1385 h1387 h1388 h1389 h1390 h1391 h1392 => ?_)))))))))))
       clear h1378 h1379 h1380 h1381 h1382 h1383
       obtain rfl := si h
       exact kd (show impl_readDeal_c5_Q a1 r48 r1350 x1374 (([] : Mem).length) M30.length M66.length _ _ from ⟨rfl, h1387, h1388, h1389, h1390, h1391, h1392, o1363, o1365, o1364⟩)
      refine kx (gsF rfl (congrArg Bool.not hb1384)) (kx (gsF rfl (congrArg Bool.not hb1384)) (kx (gsF rfl (congrArg Bool.not hb1384)) (kx (pkT rfl (congrArg Bool.not hb1384) rfl) (kx (mvO rfl) (kx (gsF rfl rfl) (kx (gsF rfl rfl) (kx (gsF rfl rfl) (kx (gsF rfl rfl) (kx (gsF rfl rfl) (kx (pkT rfl rfl rfl) (Rn (hA h1378 (hA h1379 (hA h1380 (hA h1381 (hA h1383 (hV (.bool true) rfl hZ)))))) fun e1393 h1395 h1396 h1397 h1398 h1399 h1400 => ?_)))))))))))
      clear h1378 h1379 h1380 h1381 h1382 h1383
      obtain rfl := si h
      exact kd (show impl_readDeal_c5_Q a1 r48 r1350 x1374 (([] : Mem).length) M30.length M66.length _ _ from ⟨rfl, h1395, h1396, h1397, h1398, h1399, h1400, o1363, o1365, o1364⟩)) ?_
  revert h hr1685
  revert r1684
  intro y1403 hr1685 h
  intro x e1401 M1402 hq1683
  obtain ⟨rfl, h1404, h1405, h1406, h1407, h1408, h1409, o1410, o1411, o1412⟩ := hq1683
  refine sN ?_
  rcases ite_some h with ⟨hb1413, h⟩ | ⟨hb1413, h⟩
  ·refine cT h1409 hb1413 (sq (Rg (kx (bldT zero126 rfl (fill0 rfl)) (kw (stO h1405 rfl o1410 rfl rfl ⟨rfl, ble rfl⟩ rfl rfl) fun M1414 hM1415 => ?_))))
   have o1416 : M1414[([] : Mem).length]? = some (.live ⟨.box, 126, 6, [[.int .i64 0, .int .i8 0, .int .i64 0, .int .i64 0, .int .i64 0, .int .i64 0]]⟩) := set_same hM1415 o1410
   have o1417 := set_ne hM1415 (Ne.symm ne1334) o1411
   have o1418 := set_ne hM1415 (Ne.symm ne53) o1412
   refine kx (mvO rfl) (Rn (hV (.loc ([] : Mem).length 1 0 0) h1405 (hV (.bool false) rfl hZ)) fun e1419 h1421 h1422 => sN (xx (sR ?_)))
   clear h1404 h1405 h1406 h1407 h1408 h1409
   obtain rfl := si h
   exact eR (resC (ag := true) (sz := 6) ⟨by kernel_rfl, by kernel_rfl, by kernel_rfl⟩ (ldOA h1421 o1416 rfl rfl (ble rfl) rfl) (resT h1422 res0)) rfl
  refine cF h1409 hb1413 (xx (sN (sq (sq (Rg (kx (mvO h1407) (kx (lnL Tryd.underlying178 rfl o1411 (by simp)) (kx (mvO rfl) (Rn (hV (.str a1) h1404 (hV (.loc ([] : Mem).length 1 0 0) h1405 (hV (.loc M30.length 1 0 0) h1406 (hV (.lsl M66.length [2, 3].length 0 [2, 3].length) h1407 (hV (.sl none (x1374.map cS)) h1408 (hV (.lsl M66.length [2, 3].length 0 [2, 3].length) rfl (hV (.int .i64 2) rfl (hV (.int .i64 0) rfl hZ)))))))) fun e1423 h1425 h1426 h1427 h1428 h1429 h1430 h1431 h1432 => sN (bl (Ev.unroll 6 (luS fun e1433 he1434 => ?_))))))))))))
  clear h1404 h1405 h1406 h1407 h1408 h1409
  have h1435 := envp he1434 rfl h1425
  have h1436 := envp he1434 rfl h1426
  have h1437 := envp he1434 rfl h1427
  have h1438 := envp he1434 rfl h1428
  have h1439 := envp he1434 rfl h1429
  have h1440 := envp he1434 rfl h1430
  have h1441 := envp he1434 rfl h1431
  have h1442 := envp he1434 rfl h1432
  obtain ⟨x1466, hx1467, h⟩ := bind_some h
  obtain ⟨⟨r1469, r1470⟩, hx1468, h⟩ := bind_some h
  refine sq (Rg (kx (bLss h1442 h1441) (Rn (hV (.str a1) h1435 (hV (.loc ([] : Mem).length 1 0 0) h1436 (hV (.loc M30.length 1 0 0) h1437 (hV (.lsl M66.length [2, 3].length 0 [2, 3].length) h1438 (hV (.sl none (x1374.map cS)) h1439 (hV (.lsl M66.length [2, 3].length 0 [2, 3].length) h1440 (hV (.int .i64 2) h1441 (hV (.int .i64 0) h1442 (hV (.bool true) rfl hZ))))))))) fun e1443 h1445 h1446 h1447 h1448 h1449 h1450 h1451 h1452 h1453 => sN (sq (cT h1453 rfl (xx (sN (sq (bl (sq (Rg (kx (mvO h1452) (kx (ixO h1450 o1411 rfl h1452 (rd_get (show rd ([2, 3] : List Nat) 0 = some 2 from rfl)).1 (rd_lt (show rd ([2, 3] : List Nat) 0 = some 2 from rfl)).2) (kx (ldO rfl o1411 (by simp) (rz (show rd ([2, 3] : List Nat) 0 = some 2 from rfl)) rfl) (kx (mvO rfl) (kx (mvO rfl) (Rn (hA h1445 (hA h1446 (hA h1447 (hA h1448 (hA h1449 (hV (.int .i64 0) rfl (hV (.loc M30.length 1 0 2) rfl (hA h1450 (hA h1451 (hA h1452 hZ)))))))))) fun e1454 h1456 h1457 h1458 h1459 h1460 h1461 h1462 h1463 h1464 h1465 => sN (sq (Rg (kx (mvO h1460) (kx (mvO h1461) (kx (ixS rfl rfl hx1467 cS_fl) (kx (ldP rfl rfl) (kc (cl (v := .tup [.int .i64 r1469, .bool r1470]) rfl (cns rfl rfl) rfl (impl_number_ok x1466 _ hx1468) nm) (kx (mvO rfl) (kx (exT rfl rfl) (kx (exT rfl rfl) (kx (mvO rfl) (kx (mvO rfl) (Rn (hA h1456 (hA h1457 (hA h1458 (hA h1459 (hA h1460 (hA h1462 (hN rfl (hN rfl (hA h1463 (hA h1464 (hA h1465 hZ))))))))))) fun e1471 h1473 h1474 h1475 h1476 h1477 h1478 h1479 h1480 h1481 h1482 h1483 => sN (sq (sq (Rg (kx (mvO h1480) (kx (uNot rfl) (Rn (hA h1473 (hA h1474 (hA h1475 (hA h1476 (hA h1477 (hA h1478 (hA h1479 (hA h1481 (hA h1482 (hA h1483 (hN rfl hZ))))))))))) fun e1484 h1486 h1487 h1488 h1489 h1490 h1491 h1492 h1493 h1494 h1495 h1496 => sN ?_))))))))))))))))))))))))))))))))))))
  clear h1435 h1436 h1437 h1438 h1439 h1440 h1441 h1442 h1445 h1446 h1447 h1448 h1449 h1450 h1451 h1452 h1453 h1456 h1457 h1458 h1459 h1460 h1461 h1462 h1463 h1464 h1465 h1473 h1474 h1475 h1476 h1477 h1478 h1479 h1480 h1481 h1482 h1483
  rcases ite_some h with ⟨hb1497, h⟩ | ⟨hb1497, h⟩
  ·refine cF h1496 (congrArg Bool.not hb1497) (xx (sN (Rg (kx (mvO h1491) (kx (mvO h1492) (kx (ncO rfl o1412 rfl) (kw (stO rfl rfl o1412 rfl rfl ⟨rfl, ble rfl⟩ rfl rfl) fun M1498 hM1499 => ?_)))))))
   have o1500 := set_ne hM1499 ne53 o1410
   have o1501 := set_ne hM1499 (Ne.symm ne1336) o1411
   have o1502 : M1498[M30.length]? = some (.live ⟨.box, 126, 6, [[.int .i64 r1350, .int .i8 (IntKind.i8.wrap r48), .int .i64 r1469, .int .i64 0, .int .i64 0, .int .i64 0]]⟩) := set_same hM1499 o1412
   refine Rn (hA h1486 (hA h1487 (hA h1488 (hA h1489 (hA h1490 (hA h1493 (hA h1494 (hA h1495 hZ)))))))) fun e1503 h1505 h1506 h1507 h1508 h1509 h1510 h1511 h1512 => bN (sN (Rg (kx (bAdd h1512 rfl) (kx (mvO rfl) (Rn (hA h1505 (hA h1506 (hA h1507 (hA h1508 (hA h1509 (hA h1510 (hA h1511 (hV (.int .i64 1) rfl hZ)))))))) fun e1513 h1515 h1516 h1517 h1518 h1519 h1520 h1521 h1522 => luN (luS fun e1523 he1524 => ?_))))))
   clear h1486 h1487 h1488 h1489 h1490 h1491 h1492 h1493 h1494 h1495 h1496 h1505 h1506 h1507 h1508 h1509 h1510 h1511
   have h1525 := envp he1524 rfl h1515
   have h1526 := envp he1524 rfl h1516
   have h1527 := envp he1524 rfl h1517
   have h1528 := envp he1524 rfl h1518
   have h1529 := envp he1524 rfl h1519
   have h1530 := envp he1524 rfl h1520
   have h1531 := envp he1524 rfl h1521
   have h1532 := envp he1524 rfl h1522
   obtain ⟨x1556, hx1557, h⟩ := bind_some h
   obtain ⟨⟨r1559, r1560⟩, hx1558, h⟩ := bind_some h
   refine sq (Rg (kx (bLss h1532 h1531) (Rn (hV (.str a1) h1525 (hV (.loc ([] : Mem).length 1 0 0) h1526 (hV (.loc M30.length 1 0 0) h1527 (hV (.lsl M66.length [2, 3].length 0 [2, 3].length) h1528 (hV (.sl none (x1374.map cS)) h1529 (hV (.lsl M66.length [2, 3].length 0 [2, 3].length) h1530 (hV (.int .i64 2) h1531 (hV (.int .i64 1) h1532 (hV (.bool true) rfl hZ))))))))) fun e1533 h1535 h1536 h1537 h1538 h1539 h1540 h1541 h1542 h1543 => sN (sq (cT h1543 rfl (xx (sN (sq (bl (sq (Rg (kx (mvO h1542) (kx (ixO h1540 o1501 rfl h1542 (rd_get (show rd ([2, 3] : List Nat) 1 = some 3 from rfl)).1 (rd_lt (show rd ([2, 3] : List Nat) 1 = some 3 from rfl)).2) (kx (ldO rfl o1501 (by simp) (rz (show rd ([2, 3] : List Nat) 1 = some 3 from rfl)) rfl) (kx (mvO rfl) (kx (mvO rfl) (Rn (hA h1535 (hA h1536 (hA h1537 (hA h1538 (hA h1539 (hV (.int .i64 1) rfl (hV (.loc M30.length 1 0 3) rfl (hA h1540 (hA h1541 (hA h1542 hZ)))))))))) fun e1544 h1546 h1547 h1548 h1549 h1550 h1551 h1552 h1553 h1554 h1555 => sN (sq (Rg (kx (mvO h1550) (kx (mvO h1551) (kx (ixS rfl rfl hx1557 cS_fl) (kx (ldP rfl rfl) (kc (cl (v := .tup [.int .i64 r1559, .bool r1560]) rfl (cns rfl rfl) rfl (impl_number_ok x1556 _ hx1558) nm) (kx (mvO rfl) (kx (exT rfl rfl) (kx (exT rfl rfl) (kx (mvO rfl) (kx (mvO rfl) (Rn (hA h1546 (hA h1547 (hA h1548 (hA h1549 (hA h1550 (hA h1552 (hN rfl (hN rfl (hA h1553 (hA h1554 (hA h1555 hZ))))))))))) fun e1561 h1563 h1564 h1565 h1566 h1567 h1568 h1569 h1570 h1571 h1572 h1573 => sN (sq (sq (Rg (kx (mvO h1570) (kx (uNot rfl) (Rn (hA h1563 (hA h1564 (hA h1565 (hA h1566 (hA h1567 (hA h1568 (hA h1569 (hA h1571 (hA h1572 (hA h1573 (hN rfl hZ))))))))))) fun e1574 h1576 h1577 h1578 h1579 h1580 h1581 h1582 h1583 h1584 h1585 h1586 => sN ?_))))))))))))))))))))))))))))))))))))
   clear h1525 h1526 h1527 h1528 h1529 h1530 h1531 h1532 h1535 h1536 h1537 h1538 h1539 h1540 h1541 h1542 h1543 h1546 h1547 h1548 h1549 h1550 h1551 h1552 h1553 h1554 h1555 h1563 h1564 h1565 h1566 h1567 h1568 h1569 h1570 h1571 h1572 h1573
   rcases ite_some h with ⟨hb1587, h⟩ | ⟨hb1587, h⟩
   ·refine cF h1586 (congrArg Bool.not hb1587) (xx (sN (Rg (kx (mvO h1581) (kx (mvO h1582) (kx (ncO rfl o1502 rfl) (kw (stO rfl rfl o1502 rfl rfl ⟨rfl, ble rfl⟩ rfl rfl) fun M1588 hM1589 => ?_)))))))
    have o1590 := set_ne hM1589 ne53 o1500
    have o1591 := set_ne hM1589 (Ne.symm ne1336) o1501
    have o1592 : M1588[M30.length]? = some (.live ⟨.box, 126, 6, [[.int .i64 r1350, .int .i8 (IntKind.i8.wrap r48), .int .i64 r1469, .int .i64 r1559, .int .i64 0, .int .i64 0]]⟩) := set_same hM1589 o1502
    refine Rn (hA h1576 (hA h1577 (hA h1578 (hA h1579 (hA h1580 (hA h1583 (hA h1584 (hA h1585 hZ)))))))) fun e1593 h1595 h1596 h1597 h1598 h1599 h1600 h1601 h1602 => bN (sN (Rg (kx (bAdd h1602 rfl) (kx (mvO rfl) (Rn (hA h1595 (hA h1596 (hA h1597 (hA h1598 (hA h1599 (hA h1600 (hA h1601 (hV (.int .i64 2) rfl hZ)))))))) fun e1603 h1605 h1606 h1607 h1608 h1609 h1610 h1611 h1612 => luN (luS fun e1613 he1614 => ?_))))))
    clear h1576 h1577 h1578 h1579 h1580 h1581 h1582 h1583 h1584 h1585 h1586 h1595 h1596 h1597 h1598 h1599 h1600 h1601
    have h1615 := envp he1614 rfl h1605
    have h1616 := envp he1614 rfl h1606
    have h1617 := envp he1614 rfl h1607
    have h1618 := envp he1614 rfl h1608
    have h1619 := envp he1614 rfl h1609
    have h1620 := envp he1614 rfl h1610
    have h1621 := envp he1614 rfl h1611
    have h1622 := envp he1614 rfl h1612
    obtain ⟨r1643, hx1642, h⟩ := bind_some h
    refine sq (Rg (kx (bLss h1622 h1621) (Rn (hV (.str a1) h1615 (hV (.loc ([] : Mem).length 1 0 0) h1616 (hV (.loc M30.length 1 0 0) h1617 (hV (.lsl M66.length [2, 3].length 0 [2, 3].length) h1618 (hV (.sl none (x1374.map cS)) h1619 (hV (.lsl M66.length [2, 3].length 0 [2, 3].length) h1620 (hV (.int .i64 2) h1621 (hV (.int .i64 2) h1622 (hV (.bool false) rfl hZ))))))))) fun e1623 h1625 h1626 h1627 h1628 h1629 h1630 h1631 h1632 h1633 => sN (sq (cF h1633 rfl (xx (sE (luE (bE (sN (sq (sq (Rg (kx (faO h1627 o1592 rfl) (kx (ldO rfl o1592 rfl rfl rfl) (kx (bEql rfl rfl) (kx (mvO rfl) (kx (guF rfl hb97 (faO h1627 o1592 rfl)) (kx (guF rfl hb97 (ldO rfl o1592 rfl rfl rfl)) (kx (guF rfl hb97 (bEql rfl rfl)) (kx (pkF rfl hb97 rfl) (Rn (hA h1625 (hA h1626 (hA h1627 (hA h1628 (hA h1629 (hN rfl hZ)))))) fun e1634 h1636 h1637 h1638 h1639 h1640 h1641 => sN (cF h1641 hb1026 (xx (sN (sq (Rd (kf (ldOA h1638 o1592 rfl rfl (ble rfl) rfl) (kf (ldOA h1638 o1592 rfl rfl (ble rfl) rfl) (fc (cl (v := .bool r1643) rfl (cns rfl rfl) rfl (impl_ValidDeal_ok (Deal.mk r1350 (IntKind.i8.wrap r48) r1469 r1559 0 0) _ hx1642) nm) (kf (mvO rfl) ?_)))))))))))))))))))))))))))))))
    clear h1615 h1616 h1617 h1618 h1619 h1620 h1621 h1622 h1625 h1626 h1627 h1628 h1629 h1630 h1631 h1632 h1633
    rcases ite_some h with ⟨hb1644, h⟩ | ⟨hb1644, h⟩
    ·obtain ⟨r1646, hx1645, h⟩ := bind_some h
     refine kf (guT rfl hb1644 (ldOA h1638 o1592 rfl rfl (ble rfl) rfl)) (fc (Ev.guT rfl hb1644 (cl (v := .str r1646) rfl (cns rfl rfl) rfl (impl_dealText_ok (Deal.mk r1350 (IntKind.i8.wrap r48) r1469 r1559 0 0) _ hx1645) nm)) (kf (guT rfl hb1644 (mvO h1636)) (kf (guT rfl hb1644 (sEql rfl rfl)) (kf (pkT rfl hb1644 rfl) (fZ (kw (stO h1637 rfl o1590 rfl rfl ⟨rfl, ble rfl⟩ rfl rfl) fun M1647 hM1648 => ?_))))))
     have o1649 : M1647[([] : Mem).length]? = some (.live ⟨.box, 126, 6, [[.int .i64 r1350, .int .i8 (IntKind.i8.wrap r48), .int .i64 r1469, .int .i64 r1559, .int .i64 0, .int .i64 0]]⟩) := set_same hM1648 o1590
     have o1650 := set_ne hM1648 (Ne.symm ne1334) o1591
     have o1651 := set_ne hM1648 (Ne.symm ne53) o1592
     refine kx (mvO rfl) (Rn (hA h1637 (hN rfl hZ)) fun e1652 h1654 h1655 => sN (xx ?_))
     clear h1636 h1637 h1638 h1639 h1640 h1641
     obtain rfl := si h
     exact eR (resC (ag := true) (sz := 6) ⟨by kernel_rfl, by kernel_rfl, by kernel_rfl⟩ (ldOA h1654 o1649 rfl rfl (ble rfl) rfl) (resT h1655 res0)) rfl
    refine kf (gsT rfl hb1644) (fc (Ev.gsT rfl hb1644) (kf (gsT rfl hb1644) (kf (gsT rfl hb1644) (kf (pkF rfl hb1644 rfl) (fZ (kw (stO h1637 rfl o1590 rfl rfl ⟨rfl, ble rfl⟩ rfl rfl) fun M1656 hM1657 => ?_))))))
    have o1658 : M1656[([] : Mem).length]? = some (.live ⟨.box, 126, 6, [[.int .i64 r1350, .int .i8 (IntKind.i8.wrap r48), .int .i64 r1469, .int .i64 r1559, .int .i64 0, .int .i64 0]]⟩) := set_same hM1657 o1590
    have o1659 := set_ne hM1657 (Ne.symm ne1334) o1591
    have o1660 := set_ne hM1657 (Ne.symm ne53) o1592
    refine kx (mvO rfl) (Rn (hA h1637 (hV (.bool false) rfl hZ)) fun e1661 h1663 h1664 => sN (xx ?_))
    clear h1636 h1637 h1638 h1639 h1640 h1641
    obtain rfl := si h
    exact eR (resC (ag := true) (sz := 6) ⟨by kernel_rfl, by kernel_rfl, by kernel_rfl⟩ (ldOA h1663 o1658 rfl rfl (ble rfl) rfl) (resT h1664 res0)) rfl
   refine cT h1586 (congrArg Bool.not hb1587) (sq (Rg (kx (bldT zero126 rfl (fill0 rfl)) (kw (stO h1577 rfl o1500 rfl rfl ⟨rfl, ble rfl⟩ rfl rfl) fun M1665 hM1666 => ?_))))
   have o1667 : M1665[([] : Mem).length]? = some (.live ⟨.box, 126, 6, [[.int .i64 0, .int .i8 0, .int .i64 0, .int .i64 0, .int .i64 0, .int .i64 0]]⟩) := set_same hM1666 o1500
   have o1668 := set_ne hM1666 (Ne.symm ne1334) o1501
   have o1669 := set_ne hM1666 (Ne.symm ne53) o1502
   refine kx (mvO rfl) (Rn (hA h1577 (hV (.bool false) rfl hZ)) fun e1670 h1672 h1673 => sN (xx (sR (bR (sR (luR (bR (sR ?_))))))))
   clear h1576 h1577 h1578 h1579 h1580 h1581 h1582 h1583 h1584 h1585 h1586
   obtain rfl := si h
   exact eR (resC (ag := true) (sz := 6) ⟨by kernel_rfl, by kernel_rfl, by kernel_rfl⟩ (ldOA h1672 o1667 rfl rfl (ble rfl) rfl) (resT h1673 res0)) rfl
  refine cT h1496 (congrArg Bool.not hb1497) (sq (Rg (kx (bldT zero126 rfl (fill0 rfl)) (kw (stO h1487 rfl o1410 rfl rfl ⟨rfl, ble rfl⟩ rfl rfl) fun M1674 hM1675 => ?_))))
  have o1676 : M1674[([] : Mem).length]? = some (.live ⟨.box, 126, 6, [[.int .i64 0, .int .i8 0, .int .i64 0, .int .i64 0, .int .i64 0, .int .i64 0]]⟩) := set_same hM1675 o1410
  have o1677 := set_ne hM1675 (Ne.symm ne1334) o1411
  have o1678 := set_ne hM1675 (Ne.symm ne53) o1412
  refine kx (mvO rfl) (Rn (hA h1487 (hV (.bool false) rfl hZ)) fun e1679 h1681 h1682 => sN (xx (sR (bR (sR (luR (bR (sR ?_))))))))
  clear h1486 h1487 h1488 h1489 h1490 h1491 h1492 h1493 h1494 h1495 h1496
  obtain rfl := si h
  exact eR (resC (ag := true) (sz := 6) ⟨by kernel_rfl, by kernel_rfl, by kernel_rfl⟩ (ldOA h1681 o1676 rfl rfl (ble rfl) rfl) (resT h1682 res0)) rfl
 obtain ⟨x1686, hx1687, h⟩ := bind_some h
 obtain ⟨⟨r1689, r1690⟩, hx1688, h⟩ := bind_some h
 refine cF h1328 hb1329 (xx (bN (sN (sq (Rg (kx (mvO h1325) (kx (ixS rfl rfl hx1687 cS_fl) (kx (ldP rfl rfl) (kc (cl (v := .tup [.int .i64 r1689, .bool r1690]) rfl (cns rfl rfl) rfl (impl_number_ok x1686 _ hx1688) nm) (kx (mvO rfl) (kx (exT rfl rfl) (kx (exT rfl rfl) (kx (mvO rfl) (kx (mvO rfl) (Rn (hA h1323 (hA h1324 (hA h1325 (hA h1326 (hA h1327 (hN rfl (hN rfl hZ))))))) fun e1691 h1693 h1694 h1695 h1696 h1697 h1698 h1699 => sN (sq (Rg (kx (mvO h1698) (kx (faO h1696 o70 rfl) (kw (stO rfl rfl o70 rfl rfl ⟨rfl, ble rfl⟩ rfl rfl) fun M1700 hM1701 => ?_))))))))))))))))))))
 clear h1323 h1324 h1325 h1326 h1327 h1328
 have o1702 := set_ne hM1701 ne53 o68
 have o1703 : M1700[M30.length]? = some (.live ⟨.box, 126, 6, [[.int .i64 r1689, .int .i8 (IntKind.i8.wrap r48), .int .i64 0, .int .i64 0, .int .i64 0, .int .i64 0]]⟩) := set_same hM1701 o70
 have o1704 := set_ne hM1701 (Ne.symm ne71) o72
 obtain ⟨x1713, hx1714, h⟩ := bind_some h
 obtain ⟨r1761, hr1762, h⟩ := bind_some h
 refine Rn (hA h1693 (hA h1694 (hA h1695 (hA h1696 (hA h1697 (hA h1699 hZ)))))) fun e1705 h1707 h1708 h1709 h1710 h1711 h1712 => sN (sq (Rg (kx (mvO h1709) (kx (slS rfl (bnd1 rfl) rfl hx1714 cS_fl) (kx (mvO rfl) (Rn (hA h1707 (hA h1708 (hA h1710 (hA h1711 (hA h1712 (hN rfl hZ)))))) fun e1715 h1717 h1718 h1719 h1720 h1721 h1722 => sN (sq (sq ?_))))))))
 clear h1693 h1694 h1695 h1696 h1697 h1698 h1699 h1707 h1708 h1709 h1710 h1711 h1712
 refine Ev.cut (Q1 := impl_readDeal_c6_Q a1 r48 r1689 x1713 (([] : Mem).length) M30.length M55.length r1761) (by
     have h := hr1762
     refine Rg (kx (mvO h1721) (kx (uNot rfl) (kx (mvO rfl) ?_)))
     rcases ite_some h with ⟨hb1723, h⟩ | ⟨hb1723, h⟩
     ·refine kx (guF rfl (congrArg Bool.not hb1723) (mvO h1720)) (kx (guF rfl (congrArg Bool.not hb1723) (lnL Tryd.underlying178 rfl o1704 (by simp))) (kx (guF rfl (congrArg Bool.not hb1723) (bEql rfl rfl)) (kx (pkF rfl (congrArg Bool.not hb1723) rfl) (kx (mvO rfl) (kx (gsF rfl rfl) (kx (gsF rfl rfl) (kx (gsF rfl rfl) (kx (gsF rfl rfl) (kx (gsF rfl rfl) (kx (pkT rfl rfl rfl) (Rn (hA h1717 (hA h1718 (hA h1719 (hA h1720 (hA h1722 (hV (.bool true) rfl hZ)))))) fun e1724 h1726 h1727 h1728 h1729 h1730 h1731 => ?_)))))))))))
      clear h1717 h1718 h1719 h1720 h1721 h1722
      obtain rfl := si h
      exact kd (show impl_readDeal_c6_Q a1 r48 r1689 x1713 (([] : Mem).length) M30.length M55.length _ _ from ⟨rfl, h1726, h1727, h1728, h1729, h1730, h1731, o1702, o1703, o1704⟩)
     refine kx (gsF rfl (congrArg Bool.not hb1723)) (kx (gsF rfl (congrArg Bool.not hb1723)) (kx (gsF rfl (congrArg Bool.not hb1723)) (kx (pkT rfl (congrArg Bool.not hb1723) rfl) (kx (mvO rfl) (kx (gsF rfl rfl) (kx (gsF rfl rfl) (kx (gsF rfl rfl) (kx (gsF rfl rfl) (kx (gsF rfl rfl) (kx (pkT rfl rfl rfl) (Rn (hA h1717 (hA h1718 (hA h1719 (hA h1720 (hA h1722 (hV (.bool true) rfl hZ)))))) fun e1732 h1734 h1735 h1736 h1737 h1738 h1739 => ?_)))))))))))
     clear h1717 h1718 h1719 h1720 h1721 h1722
     obtain rfl := si h
     exact kd (show impl_readDeal_c6_Q a1 r48 r1689 x1713 (([] : Mem).length) M30.length M55.length _ _ from ⟨rfl, h1734, h1735, h1736, h1737, h1738, h1739, o1702, o1703, o1704⟩)) ?_
 intro x e1740 M1741 hq1760
 obtain ⟨rfl, h1742, h1743, h1744, h1745, h1746, h1747, o1748, o1749, o1750⟩ := hq1760
 refine sN (cT h1747 rfl (sq (Rg (kx (bldT zero126 rfl (fill0 rfl)) (kw (stO h1743 rfl o1748 rfl rfl ⟨rfl, ble rfl⟩ rfl rfl) fun M1751 hM1752 => ?_)))))
 have o1753 : M1751[([] : Mem).length]? = some (.live ⟨.box, 126, 6, [[.int .i64 0, .int .i8 0, .int .i64 0, .int .i64 0, .int .i64 0, .int .i64 0]]⟩) := set_same hM1752 o1748
 have o1754 := set_ne hM1752 (Ne.symm ne53) o1749
 have o1755 := set_ne hM1752 (Ne.symm ne69) o1750
 refine kx (mvO rfl) (Rn (hV (.loc ([] : Mem).length 1 0 0) h1743 (hV (.bool false) rfl hZ)) fun e1756 h1758 h1759 => sN (xx (sR ?_)))
 clear h1742 h1743 h1744 h1745 h1746 h1747
 obtain rfl := si h
 exact eR (resC (ag := true) (sz := 6) ⟨by kernel_rfl, by kernel_rfl, by kernel_rfl⟩ (ldOA h1758 o1753 rfl rfl (ble rfl) rfl) (resT h1759 res0)) rfl
end Go.Proofs.YtbhbmgmnnkcmcaaDoor

/- Printed by a program of ours (ext.py). -/
import Derived.Test.YtkkmbehooldmjaaDoorFnsDealsText
set_option linter.unusedVariables false
set_option linter.unusedSimpArgs false
set_option maxRecDepth 100000
set_option maxHeartbeats 2000000
namespace Go.Proofs.YtkkmbehooldmjaaDoor
open Go Go.Ab
structure Deal where
  Day : Int
  Kind : Int
  Tally : Int
  From : Int
  To : Int
  Amount : Int
  deriving DecidableEq
def Deal.c (x : Deal) : List AV := [.int .i64 x.Day, .int .i8 x.Kind, .int .i64 x.Tally, .int .i64 x.From, .int .i64 x.To, .int .i64 x.Amount]
theorem Deal.fl : Fl Deal.c 6 := fun _ => ⟨rfl, rfl⟩
theorem Deal.flF : FlF Deal.c := fun _ => rfl
theorem zero32 : zeroOf cx.P 32 = [.int .i64 0, .int .i8 0, .int .i64 0, .int .i64 0, .int .i64 0, .int .i64 0] := by kernel_rfl
/-! ### loop.example/g01263/spec.Decimal (f22) -/
noncomputable def spec_Decimal_F : Nat → Int → Option ((List UInt8))
  | 0, _ => none
  | k0 + 1, a1 =>
   if (decide (a1 < 10)) = true then
    (rem .i64 a1 10).bind fun n9 =>
    some (toB [(IntKind.u8.wrap (IntKind.i64.wrap (48 + n9)))])
   else
    (quo .i64 a1 10).bind fun n14 =>
    (spec_Decimal_F k0 n14).bind fun r17 =>
    (rem .i64 a1 10).bind fun n18 =>
    (sadd r17 (toB [(IntKind.u8.wrap (IntKind.i64.wrap (48 + n18)))])).bind fun w20 =>
    some w20
def spec_Decimal_enc (r : (List UInt8)) : AV := .str r
theorem spec_Decimal_F_ok : ∀ (k0 : Nat) (a1 : Int) (r : (List UInt8)) (h : spec_Decimal_F k0 a1 = some r), Ev (fun k => CN k 22 [.int .i64 a1] []) (fun p => rRes p.2 p.1 = spec_Decimal_enc r)
  | 0, a1, r, h => by cases h
  | k0 + 1, a1, r, h => by
   rw [spec_Decimal_F] at h
   refine Ev.enter (F := fun k => f22 (CN k) k) (fun k => callN_eq rfl Tryd.func22 rfl rfl rfl (by decide +kernel) (f22_eq _ _)) (sq (Rg (kx (mvO rfl) (Rn (hN rfl hZ) fun e1 h3 => sN (sq (sq (Rg (kx (mvO h3) (kx (bLss rfl rfl) (Rn (hA h3 (hN rfl hZ)) fun e4 h6 h7 => sN ?_))))))))))
   clear h3
   rcases ite_some h with ⟨hb8, h⟩ | ⟨hb8, h⟩
   ·obtain ⟨n9, hx10, h⟩ := bind_some h
    refine cT h7 hb8 (sq (Rg (kx (mvO h6) (kx (bRem rfl rfl hx10) (kx (bAdd rfl rfl) (kx (cvI rfl) (kx (litI (cns rfl rfl) rfl ⟨rfl, by decide⟩) (kx (cvB (elT (c := (cI .u8)) (xs := [(IntKind.u8.wrap (IntKind.i64.wrap (48 + n9)))]) rfl)) (kx (mvO rfl) (Rn (hN rfl hZ) fun e11 h13 => sN (xx (sR ?_))))))))))))
    clear h6 h7
    obtain rfl := si h
    exact eR (resT h13 res0) rfl
   obtain ⟨n14, hx15, h⟩ := bind_some h
   obtain ⟨r17, hx16, h⟩ := bind_some h
   obtain ⟨n18, hx19, h⟩ := bind_some h
   obtain ⟨w20, hx21, h⟩ := bind_some h
   refine cF h7 hb8 (xx (sN (sq (Rd (kf (mvO h6) (kf (bQuo rfl rfl hx15) (fc (cl (v := .str r17) rfl (cns rfl rfl) rfl (spec_Decimal_F_ok k0 n14 _ hx16) nm) (kf (mvO h6) (kf (bRem rfl rfl hx19) (kf (bAdd rfl rfl) (kf (cvI rfl) (kf (litI (cns rfl rfl) rfl ⟨rfl, by decide⟩) (kf (cvB (elT (c := (cI .u8)) (xs := [(IntKind.u8.wrap (IntKind.i64.wrap (48 + n18)))]) rfl)) (kf (sAdd rfl rfl hx21) (kf (mvO rfl) (fZ (Rn (hN rfl hZ) fun e22 h24 => sN (xx ?_))))))))))))))))))
   clear h6 h7
   obtain rfl := si h
   exact eR (resT h24 res0) rfl
noncomputable def spec_Decimal (a1 : Int) : Option ((List UInt8)) := spec_Decimal_F 64 a1
theorem spec_Decimal_ok (a1 : Int) (r : (List UInt8)) (h : spec_Decimal a1 = some r) : Ev (fun k => CN k 22 [.int .i64 a1] []) (fun p => rRes p.2 p.1 = spec_Decimal_enc r) := spec_Decimal_F_ok 64 a1 r h
/-! ### loop.example/g01263/spec.l01Part (f30) -/
noncomputable def spec_l01Part (a1 : List UInt8) (a2 : Int) (a3 : List UInt8) : Option ((List UInt8)) :=
 if (a2 == 0) = true then
  some a1
 else
  if (a1 == ([] : List UInt8)) = true then
   (spec_Decimal a2).bind fun r24 =>
   (sadd a1 r24).bind fun w25 =>
   (sadd w25 a3).bind fun w27 =>
   some w27
  else
   (sadd a1 ([32] : List UInt8)).bind fun w32 =>
   (spec_Decimal a2).bind fun r40 =>
   (sadd w32 r40).bind fun w41 =>
   (sadd w41 a3).bind fun w43 =>
   some w43
def spec_l01Part_enc (r : (List UInt8)) : AV := .str r
theorem spec_l01Part_ok (a1 : List UInt8) (a2 : Int) (a3 : List UInt8) (r : (List UInt8)) (h : spec_l01Part a1 a2 a3 = some r) : Ev (fun k => CN k 30 [.str a1, .int .i64 a2, .str a3] []) (fun p => rRes p.2 p.1 = spec_l01Part_enc r) := by
 unfold spec_l01Part at h
 refine Ev.enter (F := fun k => f30 (CN k) k) (fun k => callN_eq rfl Tryd.func30 rfl rfl rfl (by decide +kernel) (f30_eq _ _)) (sq (Rg (kx (mvO rfl) (Rn (hN rfl (hN rfl (hN rfl hZ))) fun e1 h3 h4 h5 => sN (sq (sq (Rg (kx (mvO h4) (kx (bEql rfl rfl) (Rn (hA h3 (hA h4 (hA h5 (hN rfl hZ)))) fun e6 h8 h9 h10 h11 => sN ?_))))))))))
 clear h3 h4 h5
 rcases ite_some h with ⟨hb12, h⟩ | ⟨hb12, h⟩
 ·refine cT h11 hb12 (sq (Rg (kx (mvO h8) (kx (mvO rfl) (Rn (hN rfl hZ) fun e13 h15 => sN (xx (sR ?_)))))))
  clear h10 h11 h8 h9
  obtain rfl := si h
  exact eR (resT h15 res0) rfl
 refine cF h11 hb12 (xx (sN (sq (sq (Rg (kx (mvO h8) (kx (sNeq rfl rfl) (Rn (hA h8 (hA h9 (hA h10 (hN rfl hZ)))) fun e16 h18 h19 h20 h21 => sN ?_))))))))
 clear h10 h11 h8 h9
 rcases ite_some h with ⟨hb22, h⟩ | ⟨hb22, h⟩
 ·obtain ⟨r24, hx23, h⟩ := bind_some h
  obtain ⟨w25, hx26, h⟩ := bind_some h
  obtain ⟨w27, hx28, h⟩ := bind_some h
  refine cF h21 (congrArg Bool.not hb22) (xx (sN (sq (Rg (kx (mvO h18) (kx (mvO h19) (kc (cl (v := .str r24) rfl (cns rfl rfl) rfl (spec_Decimal_ok a2 _ hx23) nm) (kx (sAdd rfl rfl hx26) (kx (mvO h20) (kx (sAdd rfl rfl hx28) (kx (mvO rfl) (Rn (hN rfl hZ) fun e29 h31 => sN (xx ?_)))))))))))))
  clear h18 h19 h20 h21
  obtain rfl := si h
  exact eR (resT h31 res0) rfl
 obtain ⟨w32, hx33, h⟩ := bind_some h
 obtain ⟨r40, hx39, h⟩ := bind_some h
 obtain ⟨w41, hx42, h⟩ := bind_some h
 obtain ⟨w43, hx44, h⟩ := bind_some h
 refine cT h21 (congrArg Bool.not hb22) (Rg (kx (mvO h18) (kx (sAdd rfl rfl hx33) (kx (mvO rfl) (Rn (hN rfl (hA h19 (hA h20 hZ))) fun e34 h36 h37 h38 => sN (sq (Rg (kx (mvO h36) (kx (mvO h37) (kc (cl (v := .str r40) rfl (cns rfl rfl) rfl (spec_Decimal_ok a2 _ hx39) nm) (kx (sAdd rfl rfl hx42) (kx (mvO h38) (kx (sAdd rfl rfl hx44) (kx (mvO rfl) (Rn (hN rfl hZ) fun e45 h47 => sN (xx ?_))))))))))))))))
 clear h19 h20 h21 h36 h37 h38
 obtain rfl := si h
 exact eR (resT h47 res0) rfl
/-! ### loop.example/g01263/impl.isAmount (f28) -/
noncomputable def impl_isAmount (a1 : Int) : Option Bool :=
 if (decide (a1 ≥ 0)) = true then
  some (decide (a1 ≤ 100000000))
 else
  some false
def impl_isAmount_enc (r : Bool) : AV := .bool r
theorem impl_isAmount_ok (a1 : Int) (r : Bool) (h : impl_isAmount a1 = some r) : Ev (fun k => CN k 28 [.int .i64 a1] []) (fun p => rRes p.2 p.1 = impl_isAmount_enc r) := by
 unfold impl_isAmount at h
 refine Ev.enter (F := fun k => f28 (CN k) k) (fun k => callN_eq rfl Tryd.func28 rfl rfl rfl (by decide +kernel) (f28_eq _ _)) (sq (Rg (kx (mvO rfl) (Rn (hN rfl hZ) fun e1 h3 => sN (sq (Rg (kx (mvO h3) (kx (bGeq rfl rfl) (kx (mvO rfl) ?_)))))))))
 rcases ite_some h with ⟨hb4, h⟩ | ⟨hb4, h⟩
 ·refine kx (guT rfl hb4 (mvO h3)) (kx (guT rfl hb4 (bLeq rfl rfl)) (kx (pkT rfl hb4 rfl) (kx (mvO rfl) (Rn (hN rfl hZ) fun e5 h7 => sN (xx ?_)))))
  clear h3
  obtain rfl := si h
  exact eR (resT h7 res0) rfl
 refine kx (gsT rfl hb4) (kx (gsT rfl hb4) (kx (pkF rfl hb4 rfl) (kx (mvO rfl) (Rn (hV (.bool false) rfl hZ) fun e8 h10 => sN (xx ?_)))))
 clear h3
 obtain rfl := si h
 exact eR (resT h10 res0) rfl
/-! ### loop.example/g01263/impl.uses (f26) -/
noncomputable def impl_uses (a1 : Int) : Option (Bool × Bool × Bool × Bool) :=
 if (a1 == 1) = true then
  some (false, true, true, true)
 else
  if (a1 == 2) = true then
   some (true, true, true, false)
  else
   if (a1 == 3) = true then
    some (true, false, false, true)
   else
    some (true, true, false, false)
def impl_uses_enc (r : Bool × Bool × Bool × Bool) : AV := .tup [.bool r.1, .bool r.2.1, .bool r.2.2.1, .bool r.2.2.2]
theorem impl_uses_ok (a1 : Int) (r : Bool × Bool × Bool × Bool) (h : impl_uses a1 = some r) : Ev (fun k => CN k 26 [.int .i8 a1] []) (fun p => rRes p.2 p.1 = impl_uses_enc r) := by
 unfold impl_uses at h
 refine Ev.enter (F := fun k => f26 (CN k) k) (fun k => callN_eq rfl Tryd.func26 rfl rfl rfl (by decide +kernel) (f26_eq _ _)) (sq (Rg (kx (mvO rfl) (kx (mvO rfl) (kx (mvO rfl) (kx (mvO rfl) (Rn (hN rfl hZ) fun e1 h3 => sN (sq (sq (Rg (kx (mvO h3) (Rn (hN rfl hZ) fun e4 h6 => sN (bl (sq (Rg (kx (bEql h6 rfl) (kx (mvO rfl) (Rn (hA h6 (hN rfl hZ)) fun e7 h9 h10 => sN ?_))))))))))))))))))
 clear h3 h6
 rcases ite_some h with ⟨hb11, h⟩ | ⟨hb11, h⟩
 ·refine cT h10 hb11 (sq (Rg (kx (mvO rfl) (kx (mvO rfl) (kx (mvO rfl) (kx (mvO rfl) (Rn (hV (.bool false) rfl (hV (.bool true) rfl (hV (.bool true) rfl (hV (.bool true) rfl hZ)))) fun e12 h14 h15 h16 h17 => sN (xx (bR (sR ?_))))))))))
  clear h10 h9
  obtain rfl := si h
  exact eR (resT h14 (resT h15 (resT h16 (resT h17 res0)))) rfl
 refine cF h10 hb11 (sq (Rg (kx (bEql h9 rfl) (kx (mvO rfl) (Rn (hA h9 (hN rfl hZ)) fun e18 h20 h21 => sN ?_)))))
 clear h10 h9
 rcases ite_some h with ⟨hb22, h⟩ | ⟨hb22, h⟩
 ·refine cT h21 hb22 (sq (Rg (kx (mvO rfl) (kx (mvO rfl) (kx (mvO rfl) (kx (mvO rfl) (Rn (hV (.bool true) rfl (hV (.bool true) rfl (hV (.bool true) rfl (hV (.bool false) rfl hZ)))) fun e23 h25 h26 h27 h28 => sN (xx (bR (sR ?_))))))))))
  clear h20 h21
  obtain rfl := si h
  exact eR (resT h25 (resT h26 (resT h27 (resT h28 res0)))) rfl
 refine cF h21 hb22 (sq (Rg (kx (bEql h20 rfl) (kx (mvO rfl) (Rn (hN rfl hZ) fun e29 h31 => sN ?_)))))
 clear h20 h21
 rcases ite_some h with ⟨hb32, h⟩ | ⟨hb32, h⟩
 ·refine cT h31 hb32 (sq (Rg (kx (mvO rfl) (kx (mvO rfl) (kx (mvO rfl) (kx (mvO rfl) (Rn (hV (.bool true) rfl (hV (.bool false) rfl (hV (.bool false) rfl (hV (.bool true) rfl hZ)))) fun e33 h35 h36 h37 h38 => sN (xx (bR (sR ?_))))))))))
  clear h31
  obtain rfl := si h
  exact eR (resT h35 (resT h36 (resT h37 (resT h38 res0)))) rfl
 refine cF h31 hb32 (xx (bN (sN (sq (Rg (kx (mvO rfl) (kx (mvO rfl) (kx (mvO rfl) (kx (mvO rfl) (Rn (hV (.bool true) rfl (hV (.bool true) rfl (hV (.bool false) rfl (hV (.bool false) rfl hZ)))) fun e39 h41 h42 h43 h44 => sN (xx ?_)))))))))))
 clear h31
 obtain rfl := si h
 exact eR (resT h41 (resT h42 (resT h43 (resT h44 res0)))) rfl
/-! ### loop.example/g01263/impl.ValidDeal$1 (f25) -/
noncomputable def impl_ValidDeal_1 (a1 : Bool) (a2 : Int) (a3 : Int) (a4 : Int) : Option Bool :=
 if a1 = true then
  if (decide (a2 ≥ a3)) = true then
   if (decide (a2 ≤ a4)) = true then
    some true
   else
    some false
  else
   some false
 else
  some (a2 == 0)
def impl_ValidDeal_1_enc (r : Bool) : AV := .bool r
theorem impl_ValidDeal_1_ok (a1 : Bool) (a2 : Int) (a3 : Int) (a4 : Int) (r : Bool) (h : impl_ValidDeal_1 a1 a2 a3 a4 = some r) : Ev (fun k => CN k 25 [.bool a1, .int .i64 a2, .int .i64 a3, .int .i64 a4] []) (fun p => rRes p.2 p.1 = impl_ValidDeal_1_enc r) := by
 unfold impl_ValidDeal_1 at h
 refine Ev.enter (F := fun k => f25 (CN k) k) (fun k => callN_eq rfl Tryd.func25 rfl rfl rfl (by decide +kernel) (f25_eq _ _)) (sq (Rg (kx (mvO rfl) (Rn (hN rfl (hN rfl (hN rfl (hN rfl hZ)))) fun e1 h3 h4 h5 h6 => sN (sq (Rg (kx (mvO h3) (kx (mvO rfl) ?_))))))))
 rcases ite_some h with ⟨hb7, h⟩ | ⟨hb7, h⟩
 ·refine kx (guT rfl hb7 (mvO h4)) (kx (guT rfl hb7 (mvO h5)) (kx (guT rfl hb7 (bGeq rfl rfl)) (kx (pkT rfl hb7 rfl) (kx (mvO rfl) ?_))))
  rcases ite_some h with ⟨hb8, h⟩ | ⟨hb8, h⟩
  ·refine kx (guT rfl hb8 (mvO h4)) (kx (guT rfl hb8 (mvO h6)) (kx (guT rfl hb8 (bLeq rfl rfl)) (kx (pkT rfl hb8 rfl) (kx (mvO rfl) ?_))))
   rcases ite_some h with ⟨hb9, h⟩ | ⟨hb9, h⟩
   ·refine kx (gsF rfl hb9) (kx (gsF rfl hb9) (kx (gsF rfl hb9) (kx (gsU rfl) (kx (gsU rfl) (kx (gsF rfl hb9) (kx (pkT rfl hb9 rfl) (kx (mvO rfl) (Rn (hV (.bool true) rfl hZ) fun e10 h12 => sN (xx ?_)))))))))
    clear h3 h4 h5 h6
    obtain rfl := si h
    exact eR (resT h12 res0) rfl
   refine kx (guF rfl hb9 (mvO h3)) (kx (guF rfl hb9 (uNot rfl)) (kx (guF rfl hb9 (mvO rfl)) (kx (gsT rfl (congrArg Bool.not hb7)) (kx (gsT rfl (congrArg Bool.not hb7)) (kx (guF rfl hb9 (pkF rfl (congrArg Bool.not hb7) rfl)) (kx (pkF rfl hb9 rfl) (kx (mvO rfl) (Rn (hV (.bool false) rfl hZ) fun e13 h15 => sN (xx ?_)))))))))
   clear h3 h4 h5 h6
   obtain rfl := si h
   exact eR (resT h15 res0) rfl
  refine kx (gsT rfl hb8) (kx (gsT rfl hb8) (kx (gsT rfl hb8) (kx (pkF rfl hb8 rfl) (kx (mvO rfl) (kx (guF rfl rfl (mvO h3)) (kx (guF rfl rfl (uNot rfl)) (kx (guF rfl rfl (mvO rfl)) (kx (gsT rfl (congrArg Bool.not hb7)) (kx (gsT rfl (congrArg Bool.not hb7)) (kx (guF rfl rfl (pkF rfl (congrArg Bool.not hb7) rfl)) (kx (pkF rfl rfl rfl) (kx (mvO rfl) (Rn (hV (.bool false) rfl hZ) fun e16 h18 => sN (xx ?_))))))))))))))
  clear h3 h4 h5 h6
  obtain rfl := si h
  exact eR (resT h18 res0) rfl
 refine kx (gsT rfl hb7) (kx (gsT rfl hb7) (kx (gsT rfl hb7) (kx (pkF rfl hb7 rfl) (kx (mvO rfl) (kx (gsT rfl rfl) (kx (gsT rfl rfl) (kx (gsT rfl rfl) (kx (pkF rfl rfl rfl) (kx (mvO rfl) (kx (guF rfl rfl (mvO h3)) (kx (guF rfl rfl (uNot rfl)) (kx (guF rfl rfl (mvO rfl)) (kx (guT rfl (congrArg Bool.not hb7) (mvO h4)) (kx (guT rfl (congrArg Bool.not hb7) (bEql rfl rfl)) (kx (guF rfl rfl (pkT rfl (congrArg Bool.not hb7) rfl)) (kx (pkF rfl rfl rfl) (kx (mvO rfl) (Rn (hN rfl hZ) fun e19 h21 => sN (xx ?_)))))))))))))))))))
 clear h3 h4 h5 h6
 obtain rfl := si h
 exact eR (resT h21 res0) rfl
/-! ### loop.example/g01263/impl.isBookDay (f24) -/
noncomputable def impl_isBookDay (a1 : Int) : Option Bool :=
 if (decide (a1 ≥ 0)) = true then
  some (decide (a1 ≤ 100000))
 else
  some false
def impl_isBookDay_enc (r : Bool) : AV := .bool r
theorem impl_isBookDay_ok (a1 : Int) (r : Bool) (h : impl_isBookDay a1 = some r) : Ev (fun k => CN k 24 [.int .i64 a1] []) (fun p => rRes p.2 p.1 = impl_isBookDay_enc r) := by
 unfold impl_isBookDay at h
 refine Ev.enter (F := fun k => f24 (CN k) k) (fun k => callN_eq rfl Tryd.func24 rfl rfl rfl (by decide +kernel) (f24_eq _ _)) (sq (Rg (kx (mvO rfl) (Rn (hN rfl hZ) fun e1 h3 => sN (sq (Rg (kx (mvO h3) (kx (bGeq rfl rfl) (kx (mvO rfl) ?_)))))))))
 rcases ite_some h with ⟨hb4, h⟩ | ⟨hb4, h⟩
 ·refine kx (guT rfl hb4 (mvO h3)) (kx (guT rfl hb4 (bLeq rfl rfl)) (kx (pkT rfl hb4 rfl) (kx (mvO rfl) (Rn (hN rfl hZ) fun e5 h7 => sN (xx ?_)))))
  clear h3
  obtain rfl := si h
  exact eR (resT h7 res0) rfl
 refine kx (gsT rfl hb4) (kx (gsT rfl hb4) (kx (pkF rfl hb4 rfl) (kx (mvO rfl) (Rn (hV (.bool false) rfl hZ) fun e8 h10 => sN (xx ?_)))))
 clear h3
 obtain rfl := si h
 exact eR (resT h10 res0) rfl
/-! ### loop.example/g01263/spec.l01AmountText (f23) -/
noncomputable def spec_l01AmountText (a1 : Int) : Option ((List UInt8)) :=
 if (a1 == 0) = true then
  some ([48, 100] : List UInt8)
 else
  (quo .i64 a1 240).bind fun n12 =>
  (spec_l01Part ([] : List UInt8) n12 ([108] : List UInt8)).bind fun r15 =>
  (quo .i64 a1 12).bind fun n20 =>
  (rem .i64 n20 20).bind fun n22 =>
  (spec_l01Part r15 n22 ([115] : List UInt8)).bind fun r25 =>
  (rem .i64 a1 12).bind fun n30 =>
  (spec_l01Part r25 n30 ([100] : List UInt8)).bind fun r33 =>
  some r33
def spec_l01AmountText_enc (r : (List UInt8)) : AV := .str r
theorem spec_l01AmountText_ok (a1 : Int) (r : (List UInt8)) (h : spec_l01AmountText a1 = some r) : Ev (fun k => CN k 23 [.int .i64 a1] []) (fun p => rRes p.2 p.1 = spec_l01AmountText_enc r) := by
 unfold spec_l01AmountText at h
 refine Ev.enter (F := fun k => f23 (CN k) k) (fun k => callN_eq rfl Tryd.func23 rfl rfl rfl (by decide +kernel) (f23_eq _ _)) (sq (Rg (kx (mvO rfl) (Rn (hN rfl hZ) fun e1 h3 => sN (sq (sq (Rg (kx (mvO h3) (kx (bEql rfl rfl) (Rn (hA h3 (hN rfl hZ)) fun e4 h6 h7 => sN ?_))))))))))
 clear h3
 rcases ite_some h with ⟨hb8, h⟩ | ⟨hb8, h⟩
 ·refine cT h7 hb8 (sq (Rg (kx (mvO rfl) (Rn (hN rfl hZ) fun e9 h11 => sN (xx (sR ?_))))))
  clear h6 h7
  obtain rfl := si h
  exact eR (resT h11 res0) rfl
 obtain ⟨n12, hx13, h⟩ := bind_some h
 obtain ⟨r15, hx14, h⟩ := bind_some h
 obtain ⟨n20, hx21, h⟩ := bind_some h
 obtain ⟨n22, hx23, h⟩ := bind_some h
 obtain ⟨r25, hx24, h⟩ := bind_some h
 obtain ⟨n30, hx31, h⟩ := bind_some h
 obtain ⟨r33, hx32, h⟩ := bind_some h
 refine cF h7 hb8 (xx (sN (sq (Rg (kx (mvO h6) (kx (bQuo rfl rfl hx13) (kc (cl (v := .str r15) rfl (cns rfl (cns rfl (cns rfl rfl))) rfl (spec_l01Part_ok ([] : List UInt8) n12 ([108] : List UInt8) _ hx14) nm) (kx (mvO rfl) (Rn (hA h6 (hN rfl hZ)) fun e16 h18 h19 => sN (sq (Rg (kx (mvO h19) (kx (mvO h18) (kx (bQuo rfl rfl hx21) (kx (bRem rfl rfl hx23) (kc (cl (v := .str r25) rfl (cns rfl (cns rfl (cns rfl rfl))) rfl (spec_l01Part_ok r15 n22 ([115] : List UInt8) _ hx24) nm) (kx (mvO rfl) (Rn (hA h18 (hN rfl hZ)) fun e26 h28 h29 => sN (sq (Rg (kx (mvO h29) (kx (mvO h28) (kx (bRem rfl rfl hx31) (kc (cl (v := .str r33) rfl (cns rfl (cns rfl (cns rfl rfl))) rfl (spec_l01Part_ok r25 n30 ([100] : List UInt8) _ hx32) nm) (kx (mvO rfl) (Rn (hN rfl hZ) fun e34 h36 => sN (xx ?_)))))))))))))))))))))))))))
 clear h6 h7 h18 h28 h29
 obtain rfl := si h
 exact eR (resT h36 res0) rfl
/-! ### loop.example/g01263/spec.l00In (f20) -/
noncomputable def spec_l00In (a1 : Int) (a2 : Int) (a3 : Int) : Option Bool :=
 if (decide (a1 ≥ a2)) = true then
  some (decide (a1 ≤ a3))
 else
  some false
def spec_l00In_enc (r : Bool) : AV := .bool r
theorem spec_l00In_ok (a1 : Int) (a2 : Int) (a3 : Int) (r : Bool) (h : spec_l00In a1 a2 a3 = some r) : Ev (fun k => CN k 20 [.int .i64 a1, .int .i64 a2, .int .i64 a3] []) (fun p => rRes p.2 p.1 = spec_l00In_enc r) := by
 unfold spec_l00In at h
 refine Ev.enter (F := fun k => f20 (CN k) k) (fun k => callN_eq rfl Tryd.func20 rfl rfl rfl (by decide +kernel) (f20_eq _ _)) (sq (Rg (kx (mvO rfl) (Rn (hN rfl (hN rfl (hN rfl hZ))) fun e1 h3 h4 h5 => sN (sq (Rg (kx (mvO h3) (kx (mvO h4) (kx (bGeq rfl rfl) (kx (mvO rfl) ?_))))))))))
 rcases ite_some h with ⟨hb6, h⟩ | ⟨hb6, h⟩
 ·refine kx (guT rfl hb6 (mvO h3)) (kx (guT rfl hb6 (mvO h5)) (kx (guT rfl hb6 (bLeq rfl rfl)) (kx (pkT rfl hb6 rfl) (kx (mvO rfl) (Rn (hN rfl hZ) fun e7 h9 => sN (xx ?_))))))
  clear h3 h4 h5
  obtain rfl := si h
  exact eR (resT h9 res0) rfl
 refine kx (gsT rfl hb6) (kx (gsT rfl hb6) (kx (gsT rfl hb6) (kx (pkF rfl hb6 rfl) (kx (mvO rfl) (Rn (hV (.bool false) rfl hZ) fun e10 h12 => sN (xx ?_))))))
 clear h3 h4 h5
 obtain rfl := si h
 exact eR (resT h12 res0) rfl
/-! ### loop.example/g01263/spec.l07Day (f21) -/
noncomputable def spec_l07Day (a1 : Int) : Option Bool :=
 (spec_l00In a1 0 100000).bind fun r5 =>
 some r5
def spec_l07Day_enc (r : Bool) : AV := .bool r
theorem spec_l07Day_ok (a1 : Int) (r : Bool) (h : spec_l07Day a1 = some r) : Ev (fun k => CN k 21 [.int .i64 a1] []) (fun p => rRes p.2 p.1 = spec_l07Day_enc r) := by
 unfold spec_l07Day at h
 obtain ⟨r5, hx4, h⟩ := bind_some h
 refine Ev.enter (F := fun k => f21 (CN k) k) (fun k => callN_eq rfl Tryd.func21 rfl rfl rfl (by decide +kernel) (f21_eq _ _)) (sq (Rg (kx (mvO rfl) (Rn (hN rfl hZ) fun e1 h3 => sN (sq (Rg (kx (mvO h3) (kc (cl (v := .bool r5) rfl (cns rfl (cns rfl (cns rfl rfl))) rfl (spec_l00In_ok a1 0 100000 _ hx4) nm) (kx (mvO rfl) (Rn (hN rfl hZ) fun e6 h8 => sN (xx ?_)))))))))))
 clear h3
 obtain rfl := si h
 exact eR (resT h8 res0) rfl
/-! ### strconv.FormatInt (f27), by its contract -/
noncomputable def strconv_FormatInt (a1 : Int) (a2 : Int) : Option (List UInt8) := fmtI a1 a2
def strconv_FormatInt_enc (r : List UInt8) : AV := .str r
theorem strconv_FormatInt_ok (a1 : Int) (a2 : Int) (r : List UInt8) (h : strconv_FormatInt a1 a2 = some r) : Ev (fun k => CN k 27 [.int .i64 a1, .int .i64 a2] []) (fun p => rRes p.2 p.1 = strconv_FormatInt_enc r) := Ev.lib rfl rfl (lib_fmt h) rfl
/-! ### loop.example/g01263/impl.decimal (f18) -/
noncomputable def impl_decimal (a1 : Int) : Option ((List UInt8)) :=
 (strconv_FormatInt a1 10).bind fun r5 =>
 some r5
def impl_decimal_enc (r : (List UInt8)) : AV := .str r
theorem impl_decimal_ok (a1 : Int) (r : (List UInt8)) (h : impl_decimal a1 = some r) : Ev (fun k => CN k 18 [.int .i64 a1] []) (fun p => rRes p.2 p.1 = impl_decimal_enc r) := by
 unfold impl_decimal at h
 obtain ⟨r5, hx4, h⟩ := bind_some h
 refine Ev.enter (F := fun k => f18 (CN k) k) (fun k => callN_eq rfl Tryd.func18 rfl rfl rfl (by decide +kernel) (f18_eq _ _)) (sq (Rg (kx (mvO rfl) (Rn (hN rfl hZ) fun e1 h3 => sN (sq (Rg (kx (mvO h3) (kc (cl (v := .str r5) rfl (cns rfl (cns rfl rfl)) rfl (strconv_FormatInt_ok a1 10 _ hx4) nm) (kx (mvO rfl) (Rn (hN rfl hZ) fun e6 h8 => sN (xx ?_)))))))))))
 clear h3
 obtain rfl := si h
 exact eR (resT h8 res0) rfl
/-! ### strings.Join (f29), by its contract -/
noncomputable def strings_Join (a1 : List (List UInt8)) (a2 : List UInt8) : Option (List UInt8) := joinI a1 a2
def strings_Join_enc (r : List UInt8) : AV := .str r
theorem strings_Join_ok (a1 : List (List UInt8)) (a2 : List UInt8) (r : List UInt8) (h : strings_Join a1 a2 = some r) : Ev (fun k => CN k 29 [.sl none (a1.map cS), .str a2] []) (fun p => rRes p.2 p.1 = strings_Join_enc r) := Ev.lib rfl rfl (lib_join h) rfl
/-! ### loop.example/g01263/impl.AmountText (f19) -/
abbrev impl_AmountText_b1_S := Int × (List (List UInt8))
abbrev impl_AmountText_b1_R := (List (List UInt8))
def impl_AmountText_b1_RS (n27 : Int) (n31 : Int) (n33 : Int) (i1_1 : Nat) (s : impl_AmountText_b1_S) (e : Env) (M : Mem) : Prop := eget e 3 = .lsl i1_1 s.2.length 0 s.2.length ∧ eget e 19 = .lit 2 ([n27, n31, n33].map (cI .i64)) ∧ eget e 20 = .int .i64 ([n27, n31, n33].length : Int) ∧ eget e 21 = .int .i64 s.1 ∧ M[i1_1]? = some (.live ⟨.grow, 9, 1, s.2.map cS⟩)
def impl_AmountText_b1_RR (n27 : Int) (n31 : Int) (n33 : Int) (i1_1 : Nat) (g : impl_AmountText_b1_R) (x : Ex) (e : Env) (M : Mem) : Prop := x = .ext 0 ∧ eget e 3 = .lsl i1_1 g.length 0 g.length ∧ M[i1_1]? = some (.live ⟨.grow, 9, 1, g.map cS⟩)
noncomputable def impl_AmountText_b1 (n27 : Int) (n31 : Int) (n33 : Int) : impl_AmountText_b1_S → Option (impl_AmountText_b1_S ⊕ impl_AmountText_b1_R) := fun (s1_1, s1_2) =>
 if (decide (s1_1 < ([n27, n31, n33].length : Int))) = true then
  (rd [n27, n31, n33] s1_1).bind fun x71 =>
  if (decide (x71 > 0)) = true then
   (impl_decimal x71).bind fun r92 =>
   (slc ([108, 115, 100] : List UInt8) s1_1 (IntKind.i64.wrap (s1_1 + 1))).bind fun x93 =>
   (sadd r92 x93).bind fun w95 =>
   (app 16 s1_2 [w95]).bind fun x97 =>
   some (.inl ((IntKind.i64.wrap (s1_1 + 1)), x97))
  else
   some (.inl ((IntKind.i64.wrap (s1_1 + 1)), s1_2))
 else
  some (.inr s1_2)
theorem impl_AmountText_b1_ok (n27 : Int) (n31 : Int) (n33 : Int) (i1_1 : Nat) (s : impl_AmountText_b1_S) (r : impl_AmountText_b1_S ⊕ impl_AmountText_b1_R) (h : impl_AmountText_b1 n27 n31 n33 s = some r) (e : Env) (M : Mem) (hs : impl_AmountText_b1_RS n27 n31 n33 i1_1 s e M) : Ev (fun k => (f19_l7 (CN k) k (prune [3, 19, 20, 21] e) M).bind fun q => some q) (bQ (impl_AmountText_b1_RS n27 n31 n33 i1_1) (impl_AmountText_b1_RR n27 n31 n33 i1_1) r) := by
 obtain ⟨s1_1, s1_2⟩ := s
 unfold impl_AmountText_b1 at h
 obtain ⟨h54, h56, h58, h60, o62⟩ := hs
 generalize he53 : prune [3, 19, 20, 21] e = e52
 have h55 := envp he53.symm rfl h54
 have h57 := envp he53.symm rfl h56
 have h59 := envp he53.symm rfl h58
 have h61 := envp he53.symm rfl h60
 refine sq (Rg (kx (bLss h61 h59) (Rn (hV (.lsl i1_1 s1_2.length 0 s1_2.length) h55 (hV (.lit 2 ([n27, n31, n33].map (cI .i64))) h57 (hV (.int .i64 ([n27, n31, n33].length : Int)) h59 (hV (.int .i64 s1_1) h61 (hN rfl hZ))))) fun e63 h65 h66 h67 h68 h69 => sN (sq ?_))))
 clear h55 h57 h59 h61
 rcases ite_some h with ⟨hb70, h⟩ | ⟨hb70, h⟩
 ·obtain ⟨x71, hx72, h⟩ := bind_some h
  refine cT h69 hb70 (xx (sN (sq (bl (sq (Rg (kx (mvO h68) (kx (ixLt h66 h68 hx72 (cI_fl _)) (kx (ldP rfl rfl) (kx (mvO rfl) (kx (mvO rfl) (Rn (hA h65 (hN rfl (hN rfl (hA h66 (hA h67 (hA h68 hZ)))))) fun e73 h75 h76 h77 h78 h79 h80 => sN (sq (Rg (kx (mvO h77) (kx (bGtr rfl rfl) (Rn (hA h75 (hA h76 (hA h77 (hA h78 (hA h79 (hA h80 (hN rfl hZ))))))) fun e81 h83 h84 h85 h86 h87 h88 h89 => sN ?_)))))))))))))))))
  clear h65 h66 h67 h68 h69 h75 h76 h77 h78 h79 h80
  rcases ite_some h with ⟨hb90, h⟩ | ⟨hb90, h⟩
  ·obtain ⟨r92, hx91, h⟩ := bind_some h
   obtain ⟨x93, hx94, h⟩ := bind_some h
   obtain ⟨w95, hx96, h⟩ := bind_some h
   obtain ⟨x97, hx98, h⟩ := bind_some h
   refine cT h89 hb90 (Rd (kf (mvO h83) (kf (mvO h85) (fc (cl (v := .str r92) rfl (cns rfl rfl) rfl (impl_decimal_ok x71 _ hx91) nm) (kf (mvO h84) (kf (mvO h84) (kf (bAdd rfl rfl) (kf (ssl2 rfl (bnd1 rfl) (bnd1 rfl) hx94) (kf (sAdd rfl rfl hx96) (kf (litI (cns rfl rfl) rfl ⟨rfl, by decide⟩) (fZ (kw (apO rfl o62 rfl (elT (c := cS) (xs := [w95]) rfl) hx98 cS_fl (by decide)) fun M99 hM100 => ?_))))))))))))
   have o101 : M99[i1_1]? = some (.live ⟨.grow, 9, 1, x97.map cS⟩) := set_same hM100 o62
   refine kx (mvO rfl) (Rn (hV (.lsl i1_1 x97.length 0 x97.length) rfl (hA h86 (hA h87 (hA h88 hZ)))) fun e102 h104 h105 h106 h107 => bN (sN (Rg (kx (bAdd h107 rfl) (kx (mvO rfl) (Rn (hA h104 (hA h105 (hA h106 (hN rfl hZ)))) fun e108 h110 h111 h112 h113 => ?_))))))
   clear h84 h85 h86 h87 h88 h89 h104 h105 h106
   obtain rfl := si h
   exact qN ⟨h110, h111, h112, h113, o101⟩
  refine cF h89 hb90 (xx (bN (sN (Rg (kx (bAdd h88 rfl) (kx (mvO rfl) (Rn (hA h83 (hA h86 (hA h87 (hN rfl hZ)))) fun e114 h116 h117 h118 h119 => ?_)))))))
  clear h83 h84 h85 h86 h87 h89
  obtain rfl := si h
  exact qN ⟨h116, h117, h118, h119, o62⟩
 refine cF h69 hb70 (xx (sE ?_))
 obtain rfl := si h
 exact qE ⟨rfl, h65, o62⟩
noncomputable def impl_AmountText (a1 : Int) : Option ((List UInt8)) :=
 (impl_isAmount a1).bind fun r5 =>
 if r5 = true then
  if (a1 == 0) = true then
   some ([48, 100] : List UInt8)
  else
   (quo .i64 a1 240).bind fun n27 =>
   (quo .i64 a1 12).bind fun n29 =>
   (rem .i64 n29 20).bind fun n31 =>
   (rem .i64 a1 12).bind fun n33 =>
   (Lw (impl_AmountText_b1 n27 n31 n33) (0, ([] : List (List UInt8)))).bind fun y125 =>
   (strings_Join y125 ([32] : List UInt8)).bind fun r129 =>
   some r129
 else
  some ([] : List UInt8)
def impl_AmountText_enc (r : (List UInt8)) : AV := .str r
theorem impl_AmountText_ok (a1 : Int) (r : (List UInt8)) (h : impl_AmountText a1 = some r) : Ev (fun k => CN k 19 [.int .i64 a1] []) (fun p => rRes p.2 p.1 = impl_AmountText_enc r) := by
 unfold impl_AmountText at h
 obtain ⟨r5, hx4, h⟩ := bind_some h
 refine Ev.enter (F := fun k => f19 (CN k) k) (fun k => callN_eq rfl Tryd.func19 rfl rfl rfl (by decide +kernel) (f19_eq _ _)) (sq (Rg (kx (mvO rfl) (Rn (hN rfl hZ) fun e1 h3 => sN (sq (sq (Rg (kx (mvO h3) (kc (cl (v := .bool r5) rfl (cns rfl rfl) rfl (impl_isAmount_ok a1 _ hx4) nm) (kx (uNot rfl) (Rn (hA h3 (hN rfl hZ)) fun e6 h8 h9 => sN ?_)))))))))))
 clear h3
 rcases ite_some h with ⟨hb10, h⟩ | ⟨hb10, h⟩
 ·refine cF h9 (congrArg Bool.not hb10) (xx (sN (sq (sq (Rg (kx (mvO h8) (kx (bEql rfl rfl) (Rn (hA h8 (hN rfl hZ)) fun e11 h13 h14 => sN ?_))))))))
  clear h8 h9
  rcases ite_some h with ⟨hb15, h⟩ | ⟨hb15, h⟩
  ·refine cT h14 hb15 (sq (Rg (kx (mvO rfl) (Rn (hN rfl hZ) fun e16 h18 => sN (xx (sR ?_))))))
   clear h13 h14
   obtain rfl := si h
   exact eR (resT h18 res0) rfl
  refine cF h14 hb15 (xx (sN (sq (Rg (ku (litO (xs := ([] : List (List UInt8))) (c := cS) rfl rfl (by decide)) fun M20 hM21 => ?_)))))
  have o22 : M20[([] : Mem).length]? = some (.live ⟨.grow, 9, 1, ([] : List (List UInt8)).map cS⟩) := push_new hM21
  obtain ⟨n27, hx28, h⟩ := bind_some h
  obtain ⟨n29, hx30, h⟩ := bind_some h
  obtain ⟨n31, hx32, h⟩ := bind_some h
  obtain ⟨n33, hx34, h⟩ := bind_some h
  obtain ⟨y125, hr121, h⟩ := bind_some h
  refine kx (mvO rfl) (Rn (hA h13 (hV (.lsl ([] : Mem).length ([] : List (List UInt8)).length 0 ([] : List (List UInt8)).length) rfl hZ)) fun e23 h25 h26 => sN (sq (sq (Rg (kx (mvO h25) (kx (bQuo rfl rfl hx28) (kx (mvO h25) (kx (bQuo rfl rfl hx30) (kx (bRem rfl rfl hx32) (kx (mvO h25) (kx (bRem rfl rfl hx34) (kx (litI (cns rfl (cns rfl (cns rfl rfl))) rfl ⟨rfl, by decide⟩) (kx (lnT (c := (cI .i64)) (xs := [n27, n31, n33]) Tryd.underlying49 rfl) (kx (mvO rfl) (Rn (hA h26 (hN rfl (hN rfl (hV (.int .i64 0) rfl hZ)))) fun e35 h37 h38 h39 h40 => sN (bl (Ev.loop (RS := impl_AmountText_b1_RS n27 n31 n33 (([] : Mem).length)) (RR := impl_AmountText_b1_RR n27 n31 n33 (([] : Mem).length)) (fun s r h e M hs => impl_AmountText_b1_ok n27 n31 n33 (([] : Mem).length) s r h e M hs) hr121 ⟨h37, h38, h39, h40, o22⟩ fun x e123 M124 hq122 => ?_)))))))))))))))))
  clear h13 h14 h25 h26
  obtain ⟨rfl, h126, o127⟩ := hq122
  obtain ⟨r129, hx128, h⟩ := bind_some h
  refine bE (sN (sq (Rg (kx (mvO h126) (kc (cl (v := .str r129) rfl (cns rfl (cns rfl rfl)) (ra1 (ra1_row o127 rfl cS_fl) (ra1 rfl ra0)) (strings_Join_ok y125 ([32] : List UInt8) _ hx128) (fun _ => rfl)) (kx (mvO rfl) (Rn (hN rfl hZ) fun e130 h132 => sN (xx ?_))))))))
  clear h126
  obtain rfl := si h
  exact eR (resT h132 res0) rfl
 refine cT h9 (congrArg Bool.not hb10) (sq (Rg (kx (mvO rfl) (Rn (hN rfl hZ) fun e133 h135 => sN (xx (sR ?_))))))
 clear h8 h9
 obtain rfl := si h
 exact eR (resT h135 res0) rfl
/-! ### loop.example/g01263/impl.ValidDeal (f17) -/
def impl_ValidDeal_c1_Q (a1 : Deal) (g : Bool) (q : Out) : Prop := q.1 = .nrm ∧ eget q.2.1 1 = .pt none [.int .i64 a1.Day, .int .i8 a1.Kind, .int .i64 a1.Tally, .int .i64 a1.From, .int .i64 a1.To, .int .i64 a1.Amount] ∧ eget q.2.1 21 = .bool g
noncomputable def impl_ValidDeal (a1 : Deal) : Option Bool :=
 (if (decide (a1.Kind < 1)) = true then
  some true
 else
  if (decide (a1.Kind > 4)) = true then
   some true
  else
   (impl_isBookDay a1.Day).bind fun r15 =>
   some (!r15)).bind fun y22 =>
 if y22 = true then
  some false
 else
  (impl_uses a1.Kind).bind fun (r34, r35, r36, r37) =>
  (impl_ValidDeal_1 r34 a1.Tally 0 39).bind fun r47 =>
  if r47 = true then
   (impl_ValidDeal_1 r35 a1.From 0 15).bind fun r50 =>
   if r50 = true then
    (impl_ValidDeal_1 r36 a1.To 0 15).bind fun r53 =>
    if r53 = true then
     (impl_ValidDeal_1 r37 a1.Amount 1 100000000).bind fun r56 =>
     some r56
    else
     some false
   else
    some false
  else
   some false
def impl_ValidDeal_enc (r : Bool) : AV := .bool r
theorem impl_ValidDeal_ok (a1 : Deal) (r : Bool) (h : impl_ValidDeal a1 = some r) : Ev (fun k => CN k 17 [.agg [.int .i64 a1.Day, .int .i8 a1.Kind, .int .i64 a1.Tally, .int .i64 a1.From, .int .i64 a1.To, .int .i64 a1.Amount]] []) (fun p => rRes p.2 p.1 = impl_ValidDeal_enc r) := by
 unfold impl_ValidDeal at h
 obtain ⟨r70, hr71, h⟩ := bind_some h
 refine Ev.enter (F := fun k => f17 (CN k) k) (fun k => callN_eq rfl Tryd.func17 rfl rfl rfl (by decide +kernel) (f17_eq _ _)) (sq (Rg (kx (bxI rfl rfl ⟨rfl, rfl, by decide⟩) (kx (mvO rfl) (Rn (hN rfl hZ) fun e1 h3 => sN (sq (sq ?_)))))))
 refine Ev.cut (Q1 := impl_ValidDeal_c1_Q a1 r70) (by
     have h := hr71
     refine Rg (kx (faP h3 ⟨ble rfl, blt rfl⟩ rfl) (kx (ldP rfl rfl) (kx (bLss rfl rfl) (kx (mvO rfl) ?_))))
     rcases ite_some h with ⟨hb4, h⟩ | ⟨hb4, h⟩
     ·refine kx (gsF rfl hb4) (kx (gsF rfl hb4) (kx (gsF rfl hb4) (kx (pkT rfl hb4 rfl) (kx (mvO rfl) (kx (gsF rfl rfl) (kx (gsF rfl rfl) (kc (Ev.gsF rfl rfl) (kx (gsF rfl rfl) (kx (pkT rfl rfl rfl) (Rn (hA h3 (hV (.bool true) rfl hZ)) fun e5 h7 h8 => ?_))))))))))
      clear h3
      obtain rfl := si h
      exact kd (show impl_ValidDeal_c1_Q a1 _ _ from ⟨rfl, h7, h8⟩)
     refine kx (guF rfl hb4 (faP h3 ⟨ble rfl, blt rfl⟩ rfl)) (kx (guF rfl hb4 (ldP rfl rfl)) (kx (guF rfl hb4 (bGtr rfl rfl)) (kx (pkF rfl hb4 rfl) (kx (mvO rfl) ?_))))
     rcases ite_some h with ⟨hb9, h⟩ | ⟨hb9, h⟩
     ·refine kx (gsF rfl hb9) (kx (gsF rfl hb9) (kc (Ev.gsF rfl hb9) (kx (gsF rfl hb9) (kx (pkT rfl hb9 rfl) (Rn (hA h3 (hV (.bool true) rfl hZ)) fun e10 h12 h13 => ?_)))))
      clear h3
      obtain rfl := si h
      exact kd (show impl_ValidDeal_c1_Q a1 _ _ from ⟨rfl, h12, h13⟩)
     obtain ⟨r15, hx14, h⟩ := bind_some h
     refine kx (guF rfl hb9 (faP h3 ⟨ble rfl, blt rfl⟩ rfl)) (kx (guF rfl hb9 (ldP rfl rfl)) (kc (Ev.guF rfl hb9 (cl (v := .bool r15) rfl (cns rfl rfl) rfl (impl_isBookDay_ok a1.Day _ hx14) nm)) (kx (guF rfl hb9 (uNot rfl)) (kx (pkF rfl hb9 rfl) (Rn (hA h3 (hN rfl hZ)) fun e16 h18 h19 => ?_)))))
     clear h3
     obtain rfl := si h
     exact kd (show impl_ValidDeal_c1_Q a1 _ _ from ⟨rfl, h18, h19⟩)) ?_
 revert h hr71
 revert r70
 intro y22 hr71 h
 intro x e20 M21 hq69
 obtain ⟨rfl, h23, h24⟩ := hq69
 refine sN ?_
 rcases ite_some h with ⟨hb25, h⟩ | ⟨hb25, h⟩
 ·refine cT h24 hb25 (sq (Rg (kx (mvO rfl) (Rn (hV (.bool false) rfl hZ) fun e26 h28 => sN (xx (sR ?_))))))
  clear h23 h24
  obtain rfl := si h
  exact eR (resT h28 res0) rfl
 obtain ⟨⟨r34, r35, r36, r37⟩, hx33, h⟩ := bind_some h
 obtain ⟨r47, hx46, h⟩ := bind_some h
 refine cF h24 hb25 (xx (sN (sq (Rg (kx (mvO rfl) (Rn (hV (.pt none [.int .i64 a1.Day, .int .i8 a1.Kind, .int .i64 a1.Tally, .int .i64 a1.From, .int .i64 a1.To, .int .i64 a1.Amount]) h23 (hV (.fn 25 []) rfl hZ)) fun e29 h31 h32 => sN (sq (Rg (kx (faP h31 ⟨ble rfl, blt rfl⟩ rfl) (kx (ldP rfl rfl) (kc (cl (v := .tup [.bool r34, .bool r35, .bool r36, .bool r37]) rfl (cns rfl rfl) rfl (impl_uses_ok a1.Kind _ hx33) nm) (kx (mvO rfl) (kx (exT rfl rfl) (kx (exT rfl rfl) (kx (exT rfl rfl) (kx (exT rfl rfl) (kx (mvO rfl) (kx (mvO rfl) (kx (mvO rfl) (kx (mvO rfl) (Rn (hA h31 (hA h32 (hN rfl (hN rfl (hN rfl (hN rfl hZ)))))) fun e38 h40 h41 h42 h43 h44 h45 => sN (sq (Rg (kx (mvO h41) (kx (mvO h42) (kx (faP h40 ⟨ble rfl, blt rfl⟩ rfl) (kx (ldP rfl rfl) (kc (cl (v := .bool r47) rfl (cns rfl (cns rfl (cns rfl (cns rfl rfl)))) rfl (impl_ValidDeal_1_ok r34 a1.Tally 0 39 _ hx46) nm) (kx (mvO rfl) ?_)))))))))))))))))))))))))))))
 clear h23 h24 h31 h32
 rcases ite_some h with ⟨hb48, h⟩ | ⟨hb48, h⟩
 ·obtain ⟨r50, hx49, h⟩ := bind_some h
  refine kx (guT rfl hb48 (mvO h41)) (kx (guT rfl hb48 (mvO h43)) (kx (guT rfl hb48 (faP h40 ⟨ble rfl, blt rfl⟩ rfl)) (kx (guT rfl hb48 (ldP rfl rfl)) (kc (Ev.guT rfl hb48 (cl (v := .bool r50) rfl (cns rfl (cns rfl (cns rfl (cns rfl rfl)))) rfl (impl_ValidDeal_1_ok r35 a1.From 0 15 _ hx49) nm)) (kx (pkT rfl hb48 rfl) (kx (mvO rfl) ?_))))))
  rcases ite_some h with ⟨hb51, h⟩ | ⟨hb51, h⟩
  ·obtain ⟨r53, hx52, h⟩ := bind_some h
   refine kx (guT rfl hb51 (mvO h41)) (kx (guT rfl hb51 (mvO h44)) (kx (guT rfl hb51 (faP h40 ⟨ble rfl, blt rfl⟩ rfl)) (kx (guT rfl hb51 (ldP rfl rfl)) (kc (Ev.guT rfl hb51 (cl (v := .bool r53) rfl (cns rfl (cns rfl (cns rfl (cns rfl rfl)))) rfl (impl_ValidDeal_1_ok r36 a1.To 0 15 _ hx52) nm)) (kx (pkT rfl hb51 rfl) (kx (mvO rfl) ?_))))))
   rcases ite_some h with ⟨hb54, h⟩ | ⟨hb54, h⟩
   ·obtain ⟨r56, hx55, h⟩ := bind_some h
    refine kx (guT rfl hb54 (mvO h41)) (kx (guT rfl hb54 (mvO h45)) (kx (guT rfl hb54 (faP h40 ⟨ble rfl, blt rfl⟩ rfl)) (kx (guT rfl hb54 (ldP rfl rfl)) (kc (Ev.guT rfl hb54 (cl (v := .bool r56) rfl (cns rfl (cns rfl (cns rfl (cns rfl rfl)))) rfl (impl_ValidDeal_1_ok r37 a1.Amount 1 100000000 _ hx55) nm)) (kx (pkT rfl hb54 rfl) (kx (mvO rfl) (Rn (hN rfl hZ) fun e57 h59 => sN (xx ?_))))))))
    clear h40 h41 h42 h43 h44 h45
    obtain rfl := si h
    exact eR (resT h59 res0) rfl
   refine kx (gsT rfl hb54) (kx (gsT rfl hb54) (kx (gsT rfl hb54) (kx (gsT rfl hb54) (kc (Ev.gsT rfl hb54) (kx (pkF rfl hb54 rfl) (kx (mvO rfl) (Rn (hV (.bool false) rfl hZ) fun e60 h62 => sN (xx ?_))))))))
   clear h40 h41 h42 h43 h44 h45
   obtain rfl := si h
   exact eR (resT h62 res0) rfl
  refine kx (gsT rfl hb51) (kx (gsT rfl hb51) (kx (gsT rfl hb51) (kx (gsT rfl hb51) (kc (Ev.gsT rfl hb51) (kx (pkF rfl hb51 rfl) (kx (mvO rfl) (kx (gsT rfl rfl) (kx (gsT rfl rfl) (kx (gsT rfl rfl) (kx (gsT rfl rfl) (kc (Ev.gsT rfl rfl) (kx (pkF rfl rfl rfl) (kx (mvO rfl) (Rn (hV (.bool false) rfl hZ) fun e63 h65 => sN (xx ?_)))))))))))))))
  clear h40 h41 h42 h43 h44 h45
  obtain rfl := si h
  exact eR (resT h65 res0) rfl
 refine kx (gsT rfl hb48) (kx (gsT rfl hb48) (kx (gsT rfl hb48) (kx (gsT rfl hb48) (kc (Ev.gsT rfl hb48) (kx (pkF rfl hb48 rfl) (kx (mvO rfl) (kx (gsT rfl rfl) (kx (gsT rfl rfl) (kx (gsT rfl rfl) (kx (gsT rfl rfl) (kc (Ev.gsT rfl rfl) (kx (pkF rfl rfl rfl) (kx (mvO rfl) (kx (gsT rfl rfl) (kx (gsT rfl rfl) (kx (gsT rfl rfl) (kx (gsT rfl rfl) (kc (Ev.gsT rfl rfl) (kx (pkF rfl rfl rfl) (kx (mvO rfl) (Rn (hV (.bool false) rfl hZ) fun e66 h68 => sN (xx ?_))))))))))))))))))))))
 clear h40 h41 h42 h43 h44 h45
 obtain rfl := si h
 exact eR (resT h68 res0) rfl
/-! ### loop.example/g01263/spec.l07Line (f16) -/
noncomputable def spec_l07Line (a1 : Deal) : Option ((List UInt8)) :=
 (spec_Decimal a1.Day).bind fun r5 =>
 if (a1.Kind == 1) = true then
  (sadd r5 ([32, 99, 117, 116, 32] : List UInt8)).bind fun w22 =>
  (spec_Decimal a1.From).bind fun r25 =>
  (sadd w22 r25).bind fun w26 =>
  (sadd w26 ([32] : List UInt8)).bind fun w28 =>
  (spec_Decimal a1.To).bind fun r31 =>
  (sadd w28 r31).bind fun w32 =>
  (sadd w32 ([32] : List UInt8)).bind fun w34 =>
  (spec_l01AmountText a1.Amount).bind fun r37 =>
  (sadd w34 r37).bind fun w38 =>
  some w38
 else
  if (a1.Kind == 2) = true then
   (sadd r5 ([32, 112, 97, 115, 115, 32] : List UInt8)).bind fun w50 =>
   (spec_Decimal a1.Tally).bind fun r53 =>
   (sadd w50 r53).bind fun w54 =>
   (sadd w54 ([32] : List UInt8)).bind fun w56 =>
   (spec_Decimal a1.From).bind fun r59 =>
   (sadd w56 r59).bind fun w60 =>
   (sadd w60 ([32] : List UInt8)).bind fun w62 =>
   (spec_Decimal a1.To).bind fun r65 =>
   (sadd w62 r65).bind fun w66 =>
   some w66
  else
   if (a1.Kind == 3) = true then
    (sadd r5 ([32, 112, 97, 121, 32] : List UInt8)).bind fun w77 =>
    (spec_Decimal a1.Tally).bind fun r80 =>
    (sadd w77 r80).bind fun w81 =>
    (sadd w81 ([32] : List UInt8)).bind fun w83 =>
    (spec_l01AmountText a1.Amount).bind fun r86 =>
    (sadd w83 r86).bind fun w87 =>
    some w87
   else
    (sadd r5 ([32, 101, 110, 100, 32] : List UInt8)).bind fun w92 =>
    (spec_Decimal a1.Tally).bind fun r95 =>
    (sadd w92 r95).bind fun w96 =>
    (sadd w96 ([32] : List UInt8)).bind fun w98 =>
    (spec_Decimal a1.From).bind fun r101 =>
    (sadd w98 r101).bind fun w102 =>
    some w102
def spec_l07Line_enc (r : (List UInt8)) : AV := .str r
theorem spec_l07Line_ok (a1 : Deal) (r : (List UInt8)) (h : spec_l07Line a1 = some r) : Ev (fun k => CN k 16 [.pt none [.int .i64 a1.Day, .int .i8 a1.Kind, .int .i64 a1.Tally, .int .i64 a1.From, .int .i64 a1.To, .int .i64 a1.Amount]] []) (fun p => rRes p.2 p.1 = spec_l07Line_enc r) := by
 unfold spec_l07Line at h
 obtain ⟨r5, hx4, h⟩ := bind_some h
 refine Ev.enter (F := fun k => f16 (CN k) k) (fun k => callN_eq rfl Tryd.func16 rfl rfl rfl (by decide +kernel) (f16_eq _ _)) (sq (Rg (kx (mvO rfl) (Rn (hN rfl hZ) fun e1 h3 => sN (sq (Rg (kx (mvO h3) (kx (ncP rfl) (kx (faP rfl ⟨ble rfl, blt rfl⟩ rfl) (kx (ldP rfl rfl) (kc (cl (v := .str r5) rfl (cns rfl rfl) rfl (spec_Decimal_ok a1.Day _ hx4) nm) (kx (mvO rfl) (Rn (hA h3 (hN rfl hZ)) fun e6 h8 h9 => sN (sq (sq (Rg (kx (mvO h8) (kx (ncP rfl) (kx (faP rfl ⟨ble rfl, blt rfl⟩ rfl) (kx (ldP rfl rfl) (Rn (hA h8 (hA h9 (hN rfl hZ))) fun e10 h12 h13 h14 => sN (bl (sq (Rg (kx (bEql h14 rfl) (kx (mvO rfl) (Rn (hA h12 (hA h13 (hA h14 (hN rfl hZ)))) fun e15 h17 h18 h19 h20 => sN ?_)))))))))))))))))))))))))))
 clear h3 h8 h9 h12 h13 h14
 rcases ite_some h with ⟨hb21, h⟩ | ⟨hb21, h⟩
 ·obtain ⟨w22, hx23, h⟩ := bind_some h
  obtain ⟨r25, hx24, h⟩ := bind_some h
  obtain ⟨w26, hx27, h⟩ := bind_some h
  obtain ⟨w28, hx29, h⟩ := bind_some h
  obtain ⟨r31, hx30, h⟩ := bind_some h
  obtain ⟨w32, hx33, h⟩ := bind_some h
  obtain ⟨w34, hx35, h⟩ := bind_some h
  obtain ⟨r37, hx36, h⟩ := bind_some h
  obtain ⟨w38, hx39, h⟩ := bind_some h
  refine cT h20 hb21 (sq (Rd (kf (mvO h18) (kf (sAdd rfl rfl hx23) (kf (mvO h17) (kf (ncP rfl) (kf (faP rfl ⟨ble rfl, blt rfl⟩ rfl) (kf (ldP rfl rfl) (fc (cl (v := .str r25) rfl (cns rfl rfl) rfl (spec_Decimal_ok a1.From _ hx24) nm) (kf (sAdd rfl rfl hx27) (kf (sAdd rfl rfl hx29) (kf (mvO h17) (kf (ncP rfl) (kf (faP rfl ⟨ble rfl, blt rfl⟩ rfl) (kf (ldP rfl rfl) (fc (cl (v := .str r31) rfl (cns rfl rfl) rfl (spec_Decimal_ok a1.To _ hx30) nm) (kf (sAdd rfl rfl hx33) (kf (sAdd rfl rfl hx35) (kf (mvO h17) (kf (ncP rfl) (kf (faP rfl ⟨ble rfl, blt rfl⟩ rfl) (kf (ldP rfl rfl) (fc (cl (v := .str r37) rfl (cns rfl rfl) rfl (spec_l01AmountText_ok a1.Amount _ hx36) nm) (kf (sAdd rfl rfl hx39) (kf (mvO rfl) (fZ (Rn (hN rfl hZ) fun e40 h42 => sN (xx (bR (sR ?_))))))))))))))))))))))))))))))
  clear h17 h18 h19 h20
  obtain rfl := si h
  exact eR (resT h42 res0) rfl
 refine cF h20 hb21 (sq (Rg (kx (bEql h19 rfl) (kx (mvO rfl) (Rn (hA h17 (hA h18 (hA h19 (hN rfl hZ)))) fun e43 h45 h46 h47 h48 => sN ?_)))))
 clear h17 h18 h19 h20
 rcases ite_some h with ⟨hb49, h⟩ | ⟨hb49, h⟩
 ·obtain ⟨w50, hx51, h⟩ := bind_some h
  obtain ⟨r53, hx52, h⟩ := bind_some h
  obtain ⟨w54, hx55, h⟩ := bind_some h
  obtain ⟨w56, hx57, h⟩ := bind_some h
  obtain ⟨r59, hx58, h⟩ := bind_some h
  obtain ⟨w60, hx61, h⟩ := bind_some h
  obtain ⟨w62, hx63, h⟩ := bind_some h
  obtain ⟨r65, hx64, h⟩ := bind_some h
  obtain ⟨w66, hx67, h⟩ := bind_some h
  refine cT h48 hb49 (sq (Rd (kf (mvO h46) (kf (sAdd rfl rfl hx51) (kf (mvO h45) (kf (ncP rfl) (kf (faP rfl ⟨ble rfl, blt rfl⟩ rfl) (kf (ldP rfl rfl) (fc (cl (v := .str r53) rfl (cns rfl rfl) rfl (spec_Decimal_ok a1.Tally _ hx52) nm) (kf (sAdd rfl rfl hx55) (kf (sAdd rfl rfl hx57) (kf (mvO h45) (kf (ncP rfl) (kf (faP rfl ⟨ble rfl, blt rfl⟩ rfl) (kf (ldP rfl rfl) (fc (cl (v := .str r59) rfl (cns rfl rfl) rfl (spec_Decimal_ok a1.From _ hx58) nm) (kf (sAdd rfl rfl hx61) (kf (sAdd rfl rfl hx63) (kf (mvO h45) (kf (ncP rfl) (kf (faP rfl ⟨ble rfl, blt rfl⟩ rfl) (kf (ldP rfl rfl) (fc (cl (v := .str r65) rfl (cns rfl rfl) rfl (spec_Decimal_ok a1.To _ hx64) nm) (kf (sAdd rfl rfl hx67) (kf (mvO rfl) (fZ (Rn (hN rfl hZ) fun e68 h70 => sN (xx (bR (sR ?_))))))))))))))))))))))))))))))
  clear h45 h46 h47 h48
  obtain rfl := si h
  exact eR (resT h70 res0) rfl
 refine cF h48 hb49 (sq (Rg (kx (bEql h47 rfl) (kx (mvO rfl) (Rn (hA h45 (hA h46 (hN rfl hZ))) fun e71 h73 h74 h75 => sN ?_)))))
 clear h45 h46 h47 h48
 rcases ite_some h with ⟨hb76, h⟩ | ⟨hb76, h⟩
 ·obtain ⟨w77, hx78, h⟩ := bind_some h
  obtain ⟨r80, hx79, h⟩ := bind_some h
  obtain ⟨w81, hx82, h⟩ := bind_some h
  obtain ⟨w83, hx84, h⟩ := bind_some h
  obtain ⟨r86, hx85, h⟩ := bind_some h
  obtain ⟨w87, hx88, h⟩ := bind_some h
  refine cT h75 hb76 (sq (Rd (kf (mvO h74) (kf (sAdd rfl rfl hx78) (kf (mvO h73) (kf (ncP rfl) (kf (faP rfl ⟨ble rfl, blt rfl⟩ rfl) (kf (ldP rfl rfl) (fc (cl (v := .str r80) rfl (cns rfl rfl) rfl (spec_Decimal_ok a1.Tally _ hx79) nm) (kf (sAdd rfl rfl hx82) (kf (sAdd rfl rfl hx84) (kf (mvO h73) (kf (ncP rfl) (kf (faP rfl ⟨ble rfl, blt rfl⟩ rfl) (kf (ldP rfl rfl) (fc (cl (v := .str r86) rfl (cns rfl rfl) rfl (spec_l01AmountText_ok a1.Amount _ hx85) nm) (kf (sAdd rfl rfl hx88) (kf (mvO rfl) (fZ (Rn (hN rfl hZ) fun e89 h91 => sN (xx (bR (sR ?_)))))))))))))))))))))))
  clear h73 h74 h75
  obtain rfl := si h
  exact eR (resT h91 res0) rfl
 obtain ⟨w92, hx93, h⟩ := bind_some h
 obtain ⟨r95, hx94, h⟩ := bind_some h
 obtain ⟨w96, hx97, h⟩ := bind_some h
 obtain ⟨w98, hx99, h⟩ := bind_some h
 obtain ⟨r101, hx100, h⟩ := bind_some h
 obtain ⟨w102, hx103, h⟩ := bind_some h
 refine cF h75 hb76 (xx (bN (sN (sq (Rd (kf (mvO h74) (kf (sAdd rfl rfl hx93) (kf (mvO h73) (kf (ncP rfl) (kf (faP rfl ⟨ble rfl, blt rfl⟩ rfl) (kf (ldP rfl rfl) (fc (cl (v := .str r95) rfl (cns rfl rfl) rfl (spec_Decimal_ok a1.Tally _ hx94) nm) (kf (sAdd rfl rfl hx97) (kf (sAdd rfl rfl hx99) (kf (mvO h73) (kf (ncP rfl) (kf (faP rfl ⟨ble rfl, blt rfl⟩ rfl) (kf (ldP rfl rfl) (fc (cl (v := .str r101) rfl (cns rfl rfl) rfl (spec_Decimal_ok a1.From _ hx100) nm) (kf (sAdd rfl rfl hx103) (kf (mvO rfl) (fZ (Rn (hN rfl hZ) fun e104 h106 => sN (xx ?_))))))))))))))))))))))))
 clear h73 h74 h75
 obtain rfl := si h
 exact eR (resT h106 res0) rfl
/-! ### loop.example/g01263/spec.l07Deal (f15) -/
noncomputable def spec_l07Deal (a1 : Deal) : Option Bool :=
 (spec_l00In a1.Tally 0 39).bind fun r5 =>
 (spec_l00In a1.From 0 15).bind fun r11 =>
 (spec_l00In a1.To 0 15).bind fun r18 =>
 (spec_l00In a1.Amount 1 100000000).bind fun r26 =>
 (spec_l07Day a1.Day).bind fun r35 =>
 if r35 = true then
  if (a1.Kind == 1) = true then
   if (a1.Tally == 0) = true then
    if r11 = true then
     if r18 = true then
      some r26
     else
      some false
    else
     some false
   else
    some false
  else
   if (a1.Kind == 2) = true then
    if r5 = true then
     if r11 = true then
      if r18 = true then
       some (a1.Amount == 0)
      else
       some false
     else
      some false
    else
     some false
   else
    if (a1.Kind == 3) = true then
     if r5 = true then
      if (a1.From == 0) = true then
       if (a1.To == 0) = true then
        some r26
       else
        some false
      else
       some false
     else
      some false
    else
     if (a1.Kind == 4) = true then
      if r5 = true then
       if r11 = true then
        if (a1.To == 0) = true then
         some (a1.Amount == 0)
        else
         some false
       else
        some false
      else
       some false
     else
      some false
 else
  some false
def spec_l07Deal_enc (r : Bool) : AV := .bool r
theorem spec_l07Deal_ok (a1 : Deal) (r : Bool) (h : spec_l07Deal a1 = some r) : Ev (fun k => CN k 15 [.pt none [.int .i64 a1.Day, .int .i8 a1.Kind, .int .i64 a1.Tally, .int .i64 a1.From, .int .i64 a1.To, .int .i64 a1.Amount]] []) (fun p => rRes p.2 p.1 = spec_l07Deal_enc r) := by
 unfold spec_l07Deal at h
 obtain ⟨r5, hx4, h⟩ := bind_some h
 obtain ⟨r11, hx10, h⟩ := bind_some h
 obtain ⟨r18, hx17, h⟩ := bind_some h
 obtain ⟨r26, hx25, h⟩ := bind_some h
 obtain ⟨r35, hx34, h⟩ := bind_some h
 refine Ev.enter (F := fun k => f15 (CN k) k) (fun k => callN_eq rfl Tryd.func15 rfl rfl rfl (by decide +kernel) (f15_eq _ _)) (sq (Rg (kx (mvO rfl) (Rn (hN rfl hZ) fun e1 h3 => sN (sq (Rg (kx (mvO h3) (kx (ncP rfl) (kx (faP rfl ⟨ble rfl, blt rfl⟩ rfl) (kx (ldP rfl rfl) (kc (cl (v := .bool r5) rfl (cns rfl (cns rfl (cns rfl rfl))) rfl (spec_l00In_ok a1.Tally 0 39 _ hx4) nm) (kx (mvO rfl) (Rn (hA h3 (hN rfl hZ)) fun e6 h8 h9 => sN (sq (Rg (kx (mvO h8) (kx (ncP rfl) (kx (faP rfl ⟨ble rfl, blt rfl⟩ rfl) (kx (ldP rfl rfl) (kc (cl (v := .bool r11) rfl (cns rfl (cns rfl (cns rfl rfl))) rfl (spec_l00In_ok a1.From 0 15 _ hx10) nm) (kx (mvO rfl) (Rn (hA h8 (hA h9 (hN rfl hZ))) fun e12 h14 h15 h16 => sN (sq (Rg (kx (mvO h14) (kx (ncP rfl) (kx (faP rfl ⟨ble rfl, blt rfl⟩ rfl) (kx (ldP rfl rfl) (kc (cl (v := .bool r18) rfl (cns rfl (cns rfl (cns rfl rfl))) rfl (spec_l00In_ok a1.To 0 15 _ hx17) nm) (kx (mvO rfl) (Rn (hA h14 (hA h15 (hA h16 (hN rfl hZ)))) fun e19 h21 h22 h23 h24 => sN (sq (Rg (kx (mvO h21) (kx (ncP rfl) (kx (faP rfl ⟨ble rfl, blt rfl⟩ rfl) (kx (ldP rfl rfl) (kc (cl (v := .bool r26) rfl (cns rfl (cns rfl (cns rfl rfl))) rfl (spec_l00In_ok a1.Amount 1 100000000 _ hx25) nm) (kx (mvO rfl) (Rn (hA h21 (hA h22 (hA h23 (hA h24 (hN rfl hZ))))) fun e27 h29 h30 h31 h32 h33 => sN (sq (sq (Rg (kx (mvO h29) (kx (ncP rfl) (kx (faP rfl ⟨ble rfl, blt rfl⟩ rfl) (kx (ldP rfl rfl) (kc (cl (v := .bool r35) rfl (cns rfl rfl) rfl (spec_l07Day_ok a1.Day _ hx34) nm) (kx (uNot rfl) (Rn (hA h29 (hA h30 (hA h31 (hA h32 (hA h33 (hN rfl hZ)))))) fun e36 h38 h39 h40 h41 h42 h43 => sN ?_))))))))))))))))))))))))))))))))))))))))))))))))))
 clear h3 h8 h9 h14 h15 h16 h21 h22 h23 h24 h29 h30 h31 h32 h33
 rcases ite_some h with ⟨hb44, h⟩ | ⟨hb44, h⟩
 ·refine cF h43 (congrArg Bool.not hb44) (xx (sN (sq (sq (Rg (kx (mvO h38) (kx (ncP rfl) (kx (faP rfl ⟨ble rfl, blt rfl⟩ rfl) (kx (ldP rfl rfl) (Rn (hA h38 (hA h39 (hA h40 (hA h41 (hA h42 (hN rfl hZ)))))) fun e45 h47 h48 h49 h50 h51 h52 => sN (bl (sq (Rg (kx (bEql h52 rfl) (kx (mvO rfl) (Rn (hA h47 (hA h48 (hA h49 (hA h50 (hA h51 (hA h52 (hN rfl hZ))))))) fun e53 h55 h56 h57 h58 h59 h60 h61 => sN ?_))))))))))))))))
  clear h38 h39 h40 h41 h42 h43 h47 h48 h49 h50 h51 h52
  rcases ite_some h with ⟨hb62, h⟩ | ⟨hb62, h⟩
  ·refine cT h61 hb62 (sq (Rg (kx (mvO h55) (kx (ncP rfl) (kx (faP rfl ⟨ble rfl, blt rfl⟩ rfl) (kx (ldP rfl rfl) (kx (bEql rfl rfl) (kx (mvO rfl) ?_))))))))
   rcases ite_some h with ⟨hb63, h⟩ | ⟨hb63, h⟩
   ·refine kx (guT rfl hb63 (mvO h57)) (kx (pkT rfl hb63 rfl) (kx (mvO rfl) ?_))
    rcases ite_some h with ⟨hb64, h⟩ | ⟨hb64, h⟩
    ·refine kx (guT rfl hb64 (mvO h58)) (kx (pkT rfl hb64 rfl) (kx (mvO rfl) ?_))
     rcases ite_some h with ⟨hb65, h⟩ | ⟨hb65, h⟩
     ·refine kx (guT rfl hb65 (mvO h59)) (kx (pkT rfl hb65 rfl) (kx (mvO rfl) (Rn (hN rfl hZ) fun e66 h68 => sN (xx (bR (sR ?_))))))
      clear h55 h56 h57 h58 h59 h60 h61
      obtain rfl := si h
      exact eR (resT h68 res0) rfl
     refine kx (gsT rfl hb65) (kx (pkF rfl hb65 rfl) (kx (mvO rfl) (Rn (hV (.bool false) rfl hZ) fun e69 h71 => sN (xx (bR (sR ?_))))))
     clear h55 h56 h57 h58 h59 h60 h61
     obtain rfl := si h
     exact eR (resT h71 res0) rfl
    refine kx (gsT rfl hb64) (kx (pkF rfl hb64 rfl) (kx (mvO rfl) (kx (gsT rfl rfl) (kx (pkF rfl rfl rfl) (kx (mvO rfl) (Rn (hV (.bool false) rfl hZ) fun e72 h74 => sN (xx (bR (sR ?_)))))))))
    clear h55 h56 h57 h58 h59 h60 h61
    obtain rfl := si h
    exact eR (resT h74 res0) rfl
   refine kx (gsT rfl hb63) (kx (pkF rfl hb63 rfl) (kx (mvO rfl) (kx (gsT rfl rfl) (kx (pkF rfl rfl rfl) (kx (mvO rfl) (kx (gsT rfl rfl) (kx (pkF rfl rfl rfl) (kx (mvO rfl) (Rn (hV (.bool false) rfl hZ) fun e75 h77 => sN (xx (bR (sR ?_))))))))))))
   clear h55 h56 h57 h58 h59 h60 h61
   obtain rfl := si h
   exact eR (resT h77 res0) rfl
  refine cF h61 hb62 (sq (Rg (kx (bEql h60 rfl) (kx (mvO rfl) (Rn (hA h55 (hA h56 (hA h57 (hA h58 (hA h59 (hA h60 (hN rfl hZ))))))) fun e78 h80 h81 h82 h83 h84 h85 h86 => sN ?_)))))
  clear h55 h56 h57 h58 h59 h60 h61
  rcases ite_some h with ⟨hb87, h⟩ | ⟨hb87, h⟩
  ·refine cT h86 hb87 (sq (Rg (kx (mvO h81) (kx (mvO rfl) ?_))))
   rcases ite_some h with ⟨hb88, h⟩ | ⟨hb88, h⟩
   ·refine kx (guT rfl hb88 (mvO h82)) (kx (pkT rfl hb88 rfl) (kx (mvO rfl) ?_))
    rcases ite_some h with ⟨hb89, h⟩ | ⟨hb89, h⟩
    ·refine kx (guT rfl hb89 (mvO h83)) (kx (pkT rfl hb89 rfl) (kx (mvO rfl) ?_))
     rcases ite_some h with ⟨hb90, h⟩ | ⟨hb90, h⟩
     ·refine kx (guT rfl hb90 (mvO h80)) (kx (guT rfl hb90 (ncP rfl)) (kx (guT rfl hb90 (faP rfl ⟨ble rfl, blt rfl⟩ rfl)) (kx (guT rfl hb90 (ldP rfl rfl)) (kx (guT rfl hb90 (bEql rfl rfl)) (kx (pkT rfl hb90 rfl) (kx (mvO rfl) (Rn (hN rfl hZ) fun e91 h93 => sN (xx (bR (sR ?_))))))))))
      clear h80 h81 h82 h83 h84 h85 h86
      obtain rfl := si h
      exact eR (resT h93 res0) rfl
     refine kx (gsT rfl hb90) (kx (gsT rfl hb90) (kx (gsT rfl hb90) (kx (gsT rfl hb90) (kx (gsT rfl hb90) (kx (pkF rfl hb90 rfl) (kx (mvO rfl) (Rn (hV (.bool false) rfl hZ) fun e94 h96 => sN (xx (bR (sR ?_))))))))))
     clear h80 h81 h82 h83 h84 h85 h86
     obtain rfl := si h
     exact eR (resT h96 res0) rfl
    refine kx (gsT rfl hb89) (kx (pkF rfl hb89 rfl) (kx (mvO rfl) (kx (gsT rfl rfl) (kx (gsT rfl rfl) (kx (gsT rfl rfl) (kx (gsT rfl rfl) (kx (gsT rfl rfl) (kx (pkF rfl rfl rfl) (kx (mvO rfl) (Rn (hV (.bool false) rfl hZ) fun e97 h99 => sN (xx (bR (sR ?_)))))))))))))
    clear h80 h81 h82 h83 h84 h85 h86
    obtain rfl := si h
    exact eR (resT h99 res0) rfl
   refine kx (gsT rfl hb88) (kx (pkF rfl hb88 rfl) (kx (mvO rfl) (kx (gsT rfl rfl) (kx (pkF rfl rfl rfl) (kx (mvO rfl) (kx (gsT rfl rfl) (kx (gsT rfl rfl) (kx (gsT rfl rfl) (kx (gsT rfl rfl) (kx (gsT rfl rfl) (kx (pkF rfl rfl rfl) (kx (mvO rfl) (Rn (hV (.bool false) rfl hZ) fun e100 h102 => sN (xx (bR (sR ?_))))))))))))))))
   clear h80 h81 h82 h83 h84 h85 h86
   obtain rfl := si h
   exact eR (resT h102 res0) rfl
  refine cF h86 hb87 (sq (Rg (kx (bEql h85 rfl) (kx (mvO rfl) (Rn (hA h80 (hA h81 (hA h82 (hA h84 (hA h85 (hN rfl hZ)))))) fun e103 h105 h106 h107 h108 h109 h110 => sN ?_)))))
  clear h80 h81 h82 h83 h84 h85 h86
  rcases ite_some h with ⟨hb111, h⟩ | ⟨hb111, h⟩
  ·refine cT h110 hb111 (sq (Rg (kx (mvO h106) (kx (mvO rfl) ?_))))
   rcases ite_some h with ⟨hb112, h⟩ | ⟨hb112, h⟩
   ·refine kx (guT rfl hb112 (mvO h105)) (kx (guT rfl hb112 (ncP rfl)) (kx (guT rfl hb112 (faP rfl ⟨ble rfl, blt rfl⟩ rfl)) (kx (guT rfl hb112 (ldP rfl rfl)) (kx (guT rfl hb112 (bEql rfl rfl)) (kx (pkT rfl hb112 rfl) (kx (mvO rfl) ?_))))))
    rcases ite_some h with ⟨hb113, h⟩ | ⟨hb113, h⟩
    ·refine kx (guT rfl hb113 (mvO h105)) (kx (guT rfl hb113 (ncP rfl)) (kx (guT rfl hb113 (faP rfl ⟨ble rfl, blt rfl⟩ rfl)) (kx (guT rfl hb113 (ldP rfl rfl)) (kx (guT rfl hb113 (bEql rfl rfl)) (kx (pkT rfl hb113 rfl) (kx (mvO rfl) ?_))))))
     rcases ite_some h with ⟨hb114, h⟩ | ⟨hb114, h⟩
     ·refine kx (guT rfl hb114 (mvO h108)) (kx (pkT rfl hb114 rfl) (kx (mvO rfl) (Rn (hN rfl hZ) fun e115 h117 => sN (xx (bR (sR ?_))))))
      clear h105 h106 h107 h108 h109 h110
      obtain rfl := si h
      exact eR (resT h117 res0) rfl
     refine kx (gsT rfl hb114) (kx (pkF rfl hb114 rfl) (kx (mvO rfl) (Rn (hV (.bool false) rfl hZ) fun e118 h120 => sN (xx (bR (sR ?_))))))
     clear h105 h106 h107 h108 h109 h110
     obtain rfl := si h
     exact eR (resT h120 res0) rfl
    refine kx (gsT rfl hb113) (kx (gsT rfl hb113) (kx (gsT rfl hb113) (kx (gsT rfl hb113) (kx (gsT rfl hb113) (kx (pkF rfl hb113 rfl) (kx (mvO rfl) (kx (gsT rfl rfl) (kx (pkF rfl rfl rfl) (kx (mvO rfl) (Rn (hV (.bool false) rfl hZ) fun e121 h123 => sN (xx (bR (sR ?_)))))))))))))
    clear h105 h106 h107 h108 h109 h110
    obtain rfl := si h
    exact eR (resT h123 res0) rfl
   refine kx (gsT rfl hb112) (kx (gsT rfl hb112) (kx (gsT rfl hb112) (kx (gsT rfl hb112) (kx (gsT rfl hb112) (kx (pkF rfl hb112 rfl) (kx (mvO rfl) (kx (gsT rfl rfl) (kx (gsT rfl rfl) (kx (gsT rfl rfl) (kx (gsT rfl rfl) (kx (gsT rfl rfl) (kx (pkF rfl rfl rfl) (kx (mvO rfl) (kx (gsT rfl rfl) (kx (pkF rfl rfl rfl) (kx (mvO rfl) (Rn (hV (.bool false) rfl hZ) fun e124 h126 => sN (xx (bR (sR ?_))))))))))))))))))))
   clear h105 h106 h107 h108 h109 h110
   obtain rfl := si h
   exact eR (resT h126 res0) rfl
  refine cF h110 hb111 (sq (Rg (kx (bEql h109 rfl) (kx (mvO rfl) (Rn (hA h105 (hA h106 (hA h107 (hN rfl hZ)))) fun e127 h129 h130 h131 h132 => sN ?_)))))
  clear h105 h106 h107 h108 h109 h110
  rcases ite_some h with ⟨hb133, h⟩ | ⟨hb133, h⟩
  ·refine cT h132 hb133 (sq (Rg (kx (mvO h130) (kx (mvO rfl) ?_))))
   rcases ite_some h with ⟨hb134, h⟩ | ⟨hb134, h⟩
   ·refine kx (guT rfl hb134 (mvO h131)) (kx (pkT rfl hb134 rfl) (kx (mvO rfl) ?_))
    rcases ite_some h with ⟨hb135, h⟩ | ⟨hb135, h⟩
    ·refine kx (guT rfl hb135 (mvO h129)) (kx (guT rfl hb135 (ncP rfl)) (kx (guT rfl hb135 (faP rfl ⟨ble rfl, blt rfl⟩ rfl)) (kx (guT rfl hb135 (ldP rfl rfl)) (kx (guT rfl hb135 (bEql rfl rfl)) (kx (pkT rfl hb135 rfl) (kx (mvO rfl) ?_))))))
     rcases ite_some h with ⟨hb136, h⟩ | ⟨hb136, h⟩
     ·refine kx (guT rfl hb136 (mvO h129)) (kx (guT rfl hb136 (ncP rfl)) (kx (guT rfl hb136 (faP rfl ⟨ble rfl, blt rfl⟩ rfl)) (kx (guT rfl hb136 (ldP rfl rfl)) (kx (guT rfl hb136 (bEql rfl rfl)) (kx (pkT rfl hb136 rfl) (kx (mvO rfl) (Rn (hN rfl hZ) fun e137 h139 => sN (xx (bR (sR ?_))))))))))
      clear h129 h130 h131 h132
      obtain rfl := si h
      exact eR (resT h139 res0) rfl
     refine kx (gsT rfl hb136) (kx (gsT rfl hb136) (kx (gsT rfl hb136) (kx (gsT rfl hb136) (kx (gsT rfl hb136) (kx (pkF rfl hb136 rfl) (kx (mvO rfl) (Rn (hV (.bool false) rfl hZ) fun e140 h142 => sN (xx (bR (sR ?_))))))))))
     clear h129 h130 h131 h132
     obtain rfl := si h
     exact eR (resT h142 res0) rfl
    refine kx (gsT rfl hb135) (kx (gsT rfl hb135) (kx (gsT rfl hb135) (kx (gsT rfl hb135) (kx (gsT rfl hb135) (kx (pkF rfl hb135 rfl) (kx (mvO rfl) (kx (gsT rfl rfl) (kx (gsT rfl rfl) (kx (gsT rfl rfl) (kx (gsT rfl rfl) (kx (gsT rfl rfl) (kx (pkF rfl rfl rfl) (kx (mvO rfl) (Rn (hV (.bool false) rfl hZ) fun e143 h145 => sN (xx (bR (sR ?_)))))))))))))))))
    clear h129 h130 h131 h132
    obtain rfl := si h
    exact eR (resT h145 res0) rfl
   refine kx (gsT rfl hb134) (kx (pkF rfl hb134 rfl) (kx (mvO rfl) (kx (gsT rfl rfl) (kx (gsT rfl rfl) (kx (gsT rfl rfl) (kx (gsT rfl rfl) (kx (gsT rfl rfl) (kx (pkF rfl rfl rfl) (kx (mvO rfl) (kx (gsT rfl rfl) (kx (gsT rfl rfl) (kx (gsT rfl rfl) (kx (gsT rfl rfl) (kx (gsT rfl rfl) (kx (pkF rfl rfl rfl) (kx (mvO rfl) (Rn (hV (.bool false) rfl hZ) fun e146 h148 => sN (xx (bR (sR ?_))))))))))))))))))))
   clear h129 h130 h131 h132
   obtain rfl := si h
   exact eR (resT h148 res0) rfl
  refine cF h132 hb133 (xx (bN (sN (sq (Rg (kx (mvO rfl) (Rn (hV (.bool false) rfl hZ) fun e149 h151 => sN (xx ?_))))))))
  clear h129 h130 h131 h132
  obtain rfl := si h
  exact eR (resT h151 res0) rfl
 refine cT h43 (congrArg Bool.not hb44) (sq (Rg (kx (mvO rfl) (Rn (hV (.bool false) rfl hZ) fun e152 h154 => sN (xx (sR ?_))))))
 clear h38 h39 h40 h41 h42 h43
 obtain rfl := si h
 exact eR (resT h154 res0) rfl
/-! ### loop.example/g01263/laws.eqDeal (f14) -/
noncomputable def laws_eqDeal (a1 : Deal) (a2 : Deal) : Option Bool :=
 if (a1.Day != a2.Day) = true then
  some false
 else
  if (a1.Kind != a2.Kind) = true then
   some false
  else
   if (a1.Tally != a2.Tally) = true then
    some false
   else
    if (a1.From != a2.From) = true then
     some false
    else
     if (a1.To != a2.To) = true then
      some false
     else
      if (a1.Amount != a2.Amount) = true then
       some false
      else
       some true
def laws_eqDeal_enc (r : Bool) : AV := .bool r
theorem laws_eqDeal_ok (a1 : Deal) (a2 : Deal) (r : Bool) (h : laws_eqDeal a1 a2 = some r) : Ev (fun k => CN k 14 [.agg [.int .i64 a1.Day, .int .i8 a1.Kind, .int .i64 a1.Tally, .int .i64 a1.From, .int .i64 a1.To, .int .i64 a1.Amount], .agg [.int .i64 a2.Day, .int .i8 a2.Kind, .int .i64 a2.Tally, .int .i64 a2.From, .int .i64 a2.To, .int .i64 a2.Amount]] []) (fun p => rRes p.2 p.1 = laws_eqDeal_enc r) := by
 unfold laws_eqDeal at h
 refine Ev.enter (F := fun k => f14 (CN k) k) (fun k => callN_eq rfl Tryd.func14 rfl rfl rfl (by decide +kernel) (f14_eq _ _)) (sq (Rg (kx (bxI rfl rfl ⟨rfl, rfl, by decide⟩) (kx (bxI rfl rfl ⟨rfl, rfl, by decide⟩) (kx (mvO rfl) (Rn (hN rfl (hN rfl hZ)) fun e1 h3 h4 => sN (sq (sq (Rg (kx (faP h3 ⟨ble rfl, blt rfl⟩ rfl) (kx (ldP rfl rfl) (kx (faP h4 ⟨ble rfl, blt rfl⟩ rfl) (kx (ldP rfl rfl) (kx (bNeq rfl rfl) (Rn (hA h3 (hA h4 (hN rfl hZ))) fun e5 h7 h8 h9 => sN ?_)))))))))))))))
 clear h3 h4
 rcases ite_some h with ⟨hb10, h⟩ | ⟨hb10, h⟩
 ·refine cT h9 hb10 (sq (Rg (kx (mvO rfl) (Rn (hV (.bool false) rfl hZ) fun e11 h13 => sN (xx (sR ?_))))))
  clear h7 h8 h9
  obtain rfl := si h
  exact eR (resT h13 res0) rfl
 refine cF h9 hb10 (xx (sN (sq (sq (Rg (kx (faP h7 ⟨ble rfl, blt rfl⟩ rfl) (kx (ldP rfl rfl) (kx (faP h8 ⟨ble rfl, blt rfl⟩ rfl) (kx (ldP rfl rfl) (kx (bNeq rfl rfl) (Rn (hA h7 (hA h8 (hN rfl hZ))) fun e14 h16 h17 h18 => sN ?_)))))))))))
 clear h7 h8 h9
 rcases ite_some h with ⟨hb19, h⟩ | ⟨hb19, h⟩
 ·refine cT h18 hb19 (sq (Rg (kx (mvO rfl) (Rn (hV (.bool false) rfl hZ) fun e20 h22 => sN (xx (sR ?_))))))
  clear h16 h17 h18
  obtain rfl := si h
  exact eR (resT h22 res0) rfl
 refine cF h18 hb19 (xx (sN (sq (sq (Rg (kx (faP h16 ⟨ble rfl, blt rfl⟩ rfl) (kx (ldP rfl rfl) (kx (faP h17 ⟨ble rfl, blt rfl⟩ rfl) (kx (ldP rfl rfl) (kx (bNeq rfl rfl) (Rn (hA h16 (hA h17 (hN rfl hZ))) fun e23 h25 h26 h27 => sN ?_)))))))))))
 clear h16 h17 h18
 rcases ite_some h with ⟨hb28, h⟩ | ⟨hb28, h⟩
 ·refine cT h27 hb28 (sq (Rg (kx (mvO rfl) (Rn (hV (.bool false) rfl hZ) fun e29 h31 => sN (xx (sR ?_))))))
  clear h25 h26 h27
  obtain rfl := si h
  exact eR (resT h31 res0) rfl
 refine cF h27 hb28 (xx (sN (sq (sq (Rg (kx (faP h25 ⟨ble rfl, blt rfl⟩ rfl) (kx (ldP rfl rfl) (kx (faP h26 ⟨ble rfl, blt rfl⟩ rfl) (kx (ldP rfl rfl) (kx (bNeq rfl rfl) (Rn (hA h25 (hA h26 (hN rfl hZ))) fun e32 h34 h35 h36 => sN ?_)))))))))))
 clear h25 h26 h27
 rcases ite_some h with ⟨hb37, h⟩ | ⟨hb37, h⟩
 ·refine cT h36 hb37 (sq (Rg (kx (mvO rfl) (Rn (hV (.bool false) rfl hZ) fun e38 h40 => sN (xx (sR ?_))))))
  clear h34 h35 h36
  obtain rfl := si h
  exact eR (resT h40 res0) rfl
 refine cF h36 hb37 (xx (sN (sq (sq (Rg (kx (faP h34 ⟨ble rfl, blt rfl⟩ rfl) (kx (ldP rfl rfl) (kx (faP h35 ⟨ble rfl, blt rfl⟩ rfl) (kx (ldP rfl rfl) (kx (bNeq rfl rfl) (Rn (hA h34 (hA h35 (hN rfl hZ))) fun e41 h43 h44 h45 => sN ?_)))))))))))
 clear h34 h35 h36
 rcases ite_some h with ⟨hb46, h⟩ | ⟨hb46, h⟩
 ·refine cT h45 hb46 (sq (Rg (kx (mvO rfl) (Rn (hV (.bool false) rfl hZ) fun e47 h49 => sN (xx (sR ?_))))))
  clear h43 h44 h45
  obtain rfl := si h
  exact eR (resT h49 res0) rfl
 refine cF h45 hb46 (xx (sN (sq (sq (Rg (kx (faP h43 ⟨ble rfl, blt rfl⟩ rfl) (kx (ldP rfl rfl) (kx (faP h44 ⟨ble rfl, blt rfl⟩ rfl) (kx (ldP rfl rfl) (kx (bNeq rfl rfl) (Rn (hN rfl hZ) fun e50 h52 => sN ?_)))))))))))
 clear h43 h44 h45
 rcases ite_some h with ⟨hb53, h⟩ | ⟨hb53, h⟩
 ·refine cT h52 hb53 (sq (Rg (kx (mvO rfl) (Rn (hV (.bool false) rfl hZ) fun e54 h56 => sN (xx (sR ?_))))))
  clear h52
  obtain rfl := si h
  exact eR (resT h56 res0) rfl
 refine cF h52 hb53 (xx (sN (sq (Rg (kx (mvO rfl) (Rn (hV (.bool true) rfl hZ) fun e57 h59 => sN (xx ?_)))))))
 clear h52
 obtain rfl := si h
 exact eR (resT h59 res0) rfl
/-! ### loop.example/g01263/impl.dealText (f13) -/
noncomputable def impl_dealText (a1 : Deal) : Option ((List UInt8)) :=
 if (a1.Kind == 1) = true then
  (impl_decimal a1.Day).bind fun r15 =>
  (sadd r15 ([32, 99, 117, 116, 32] : List UInt8)).bind fun w16 =>
  (impl_decimal a1.From).bind fun r19 =>
  (sadd w16 r19).bind fun w20 =>
  (sadd w20 ([32] : List UInt8)).bind fun w22 =>
  (impl_decimal a1.To).bind fun r25 =>
  (sadd w22 r25).bind fun w26 =>
  (sadd w26 ([32] : List UInt8)).bind fun w28 =>
  (impl_AmountText a1.Amount).bind fun r31 =>
  (sadd w28 r31).bind fun w32 =>
  some w32
 else
  if (a1.Kind == 2) = true then
   (impl_decimal a1.Day).bind fun r44 =>
   (sadd r44 ([32, 112, 97, 115, 115, 32] : List UInt8)).bind fun w45 =>
   (impl_decimal a1.Tally).bind fun r48 =>
   (sadd w45 r48).bind fun w49 =>
   (sadd w49 ([32] : List UInt8)).bind fun w51 =>
   (impl_decimal a1.From).bind fun r54 =>
   (sadd w51 r54).bind fun w55 =>
   (sadd w55 ([32] : List UInt8)).bind fun w57 =>
   (impl_decimal a1.To).bind fun r60 =>
   (sadd w57 r60).bind fun w61 =>
   some w61
  else
   if (a1.Kind == 3) = true then
    (impl_decimal a1.Day).bind fun r72 =>
    (sadd r72 ([32, 112, 97, 121, 32] : List UInt8)).bind fun w73 =>
    (impl_decimal a1.Tally).bind fun r76 =>
    (sadd w73 r76).bind fun w77 =>
    (sadd w77 ([32] : List UInt8)).bind fun w79 =>
    (impl_AmountText a1.Amount).bind fun r82 =>
    (sadd w79 r82).bind fun w83 =>
    some w83
   else
    (impl_decimal a1.Day).bind fun r89 =>
    (sadd r89 ([32, 101, 110, 100, 32] : List UInt8)).bind fun w90 =>
    (impl_decimal a1.Tally).bind fun r93 =>
    (sadd w90 r93).bind fun w94 =>
    (sadd w94 ([32] : List UInt8)).bind fun w96 =>
    (impl_decimal a1.From).bind fun r99 =>
    (sadd w96 r99).bind fun w100 =>
    some w100
def impl_dealText_enc (r : (List UInt8)) : AV := .str r
theorem impl_dealText_ok (a1 : Deal) (r : (List UInt8)) (h : impl_dealText a1 = some r) : Ev (fun k => CN k 13 [.agg [.int .i64 a1.Day, .int .i8 a1.Kind, .int .i64 a1.Tally, .int .i64 a1.From, .int .i64 a1.To, .int .i64 a1.Amount]] []) (fun p => rRes p.2 p.1 = impl_dealText_enc r) := by
 unfold impl_dealText at h
 refine Ev.enter (F := fun k => f13 (CN k) k) (fun k => callN_eq rfl Tryd.func13 rfl rfl rfl (by decide +kernel) (f13_eq _ _)) (sq (Rg (kx (bxI rfl rfl ⟨rfl, rfl, by decide⟩) (kx (mvO rfl) (Rn (hN rfl hZ) fun e1 h3 => sN (sq (sq (Rg (kx (faP h3 ⟨ble rfl, blt rfl⟩ rfl) (kx (ldP rfl rfl) (Rn (hA h3 (hN rfl hZ)) fun e4 h6 h7 => sN (bl (sq (Rg (kx (bEql h7 rfl) (kx (mvO rfl) (Rn (hA h6 (hA h7 (hN rfl hZ))) fun e8 h10 h11 h12 => sN ?_)))))))))))))))))
 clear h3 h6 h7
 rcases ite_some h with ⟨hb13, h⟩ | ⟨hb13, h⟩
 ·obtain ⟨r15, hx14, h⟩ := bind_some h
  obtain ⟨w16, hx17, h⟩ := bind_some h
  obtain ⟨r19, hx18, h⟩ := bind_some h
  obtain ⟨w20, hx21, h⟩ := bind_some h
  obtain ⟨w22, hx23, h⟩ := bind_some h
  obtain ⟨r25, hx24, h⟩ := bind_some h
  obtain ⟨w26, hx27, h⟩ := bind_some h
  obtain ⟨w28, hx29, h⟩ := bind_some h
  obtain ⟨r31, hx30, h⟩ := bind_some h
  obtain ⟨w32, hx33, h⟩ := bind_some h
  refine cT h12 hb13 (sq (Rd (kf (faP h10 ⟨ble rfl, blt rfl⟩ rfl) (kf (ldP rfl rfl) (fc (cl (v := .str r15) rfl (cns rfl rfl) rfl (impl_decimal_ok a1.Day _ hx14) nm) (kf (sAdd rfl rfl hx17) (kf (faP h10 ⟨ble rfl, blt rfl⟩ rfl) (kf (ldP rfl rfl) (fc (cl (v := .str r19) rfl (cns rfl rfl) rfl (impl_decimal_ok a1.From _ hx18) nm) (kf (sAdd rfl rfl hx21) (kf (sAdd rfl rfl hx23) (kf (faP h10 ⟨ble rfl, blt rfl⟩ rfl) (kf (ldP rfl rfl) (fc (cl (v := .str r25) rfl (cns rfl rfl) rfl (impl_decimal_ok a1.To _ hx24) nm) (kf (sAdd rfl rfl hx27) (kf (sAdd rfl rfl hx29) (kf (faP h10 ⟨ble rfl, blt rfl⟩ rfl) (kf (ldP rfl rfl) (fc (cl (v := .str r31) rfl (cns rfl rfl) rfl (impl_AmountText_ok a1.Amount _ hx30) nm) (kf (sAdd rfl rfl hx33) (kf (mvO rfl) (fZ (Rn (hN rfl hZ) fun e34 h36 => sN (xx (bR (sR ?_))))))))))))))))))))))))))
  clear h10 h11 h12
  obtain rfl := si h
  exact eR (resT h36 res0) rfl
 refine cF h12 hb13 (sq (Rg (kx (bEql h11 rfl) (kx (mvO rfl) (Rn (hA h10 (hA h11 (hN rfl hZ))) fun e37 h39 h40 h41 => sN ?_)))))
 clear h10 h11 h12
 rcases ite_some h with ⟨hb42, h⟩ | ⟨hb42, h⟩
 ·obtain ⟨r44, hx43, h⟩ := bind_some h
  obtain ⟨w45, hx46, h⟩ := bind_some h
  obtain ⟨r48, hx47, h⟩ := bind_some h
  obtain ⟨w49, hx50, h⟩ := bind_some h
  obtain ⟨w51, hx52, h⟩ := bind_some h
  obtain ⟨r54, hx53, h⟩ := bind_some h
  obtain ⟨w55, hx56, h⟩ := bind_some h
  obtain ⟨w57, hx58, h⟩ := bind_some h
  obtain ⟨r60, hx59, h⟩ := bind_some h
  obtain ⟨w61, hx62, h⟩ := bind_some h
  refine cT h41 hb42 (sq (Rd (kf (faP h39 ⟨ble rfl, blt rfl⟩ rfl) (kf (ldP rfl rfl) (fc (cl (v := .str r44) rfl (cns rfl rfl) rfl (impl_decimal_ok a1.Day _ hx43) nm) (kf (sAdd rfl rfl hx46) (kf (faP h39 ⟨ble rfl, blt rfl⟩ rfl) (kf (ldP rfl rfl) (fc (cl (v := .str r48) rfl (cns rfl rfl) rfl (impl_decimal_ok a1.Tally _ hx47) nm) (kf (sAdd rfl rfl hx50) (kf (sAdd rfl rfl hx52) (kf (faP h39 ⟨ble rfl, blt rfl⟩ rfl) (kf (ldP rfl rfl) (fc (cl (v := .str r54) rfl (cns rfl rfl) rfl (impl_decimal_ok a1.From _ hx53) nm) (kf (sAdd rfl rfl hx56) (kf (sAdd rfl rfl hx58) (kf (faP h39 ⟨ble rfl, blt rfl⟩ rfl) (kf (ldP rfl rfl) (fc (cl (v := .str r60) rfl (cns rfl rfl) rfl (impl_decimal_ok a1.To _ hx59) nm) (kf (sAdd rfl rfl hx62) (kf (mvO rfl) (fZ (Rn (hN rfl hZ) fun e63 h65 => sN (xx (bR (sR ?_))))))))))))))))))))))))))
  clear h39 h40 h41
  obtain rfl := si h
  exact eR (resT h65 res0) rfl
 refine cF h41 hb42 (sq (Rg (kx (bEql h40 rfl) (kx (mvO rfl) (Rn (hA h39 (hN rfl hZ)) fun e66 h68 h69 => sN ?_)))))
 clear h39 h40 h41
 rcases ite_some h with ⟨hb70, h⟩ | ⟨hb70, h⟩
 ·obtain ⟨r72, hx71, h⟩ := bind_some h
  obtain ⟨w73, hx74, h⟩ := bind_some h
  obtain ⟨r76, hx75, h⟩ := bind_some h
  obtain ⟨w77, hx78, h⟩ := bind_some h
  obtain ⟨w79, hx80, h⟩ := bind_some h
  obtain ⟨r82, hx81, h⟩ := bind_some h
  obtain ⟨w83, hx84, h⟩ := bind_some h
  refine cT h69 hb70 (sq (Rd (kf (faP h68 ⟨ble rfl, blt rfl⟩ rfl) (kf (ldP rfl rfl) (fc (cl (v := .str r72) rfl (cns rfl rfl) rfl (impl_decimal_ok a1.Day _ hx71) nm) (kf (sAdd rfl rfl hx74) (kf (faP h68 ⟨ble rfl, blt rfl⟩ rfl) (kf (ldP rfl rfl) (fc (cl (v := .str r76) rfl (cns rfl rfl) rfl (impl_decimal_ok a1.Tally _ hx75) nm) (kf (sAdd rfl rfl hx78) (kf (sAdd rfl rfl hx80) (kf (faP h68 ⟨ble rfl, blt rfl⟩ rfl) (kf (ldP rfl rfl) (fc (cl (v := .str r82) rfl (cns rfl rfl) rfl (impl_AmountText_ok a1.Amount _ hx81) nm) (kf (sAdd rfl rfl hx84) (kf (mvO rfl) (fZ (Rn (hN rfl hZ) fun e85 h87 => sN (xx (bR (sR ?_)))))))))))))))))))))
  clear h68 h69
  obtain rfl := si h
  exact eR (resT h87 res0) rfl
 obtain ⟨r89, hx88, h⟩ := bind_some h
 obtain ⟨w90, hx91, h⟩ := bind_some h
 obtain ⟨r93, hx92, h⟩ := bind_some h
 obtain ⟨w94, hx95, h⟩ := bind_some h
 obtain ⟨w96, hx97, h⟩ := bind_some h
 obtain ⟨r99, hx98, h⟩ := bind_some h
 obtain ⟨w100, hx101, h⟩ := bind_some h
 refine cF h69 hb70 (xx (bN (sN (sq (Rd (kf (faP h68 ⟨ble rfl, blt rfl⟩ rfl) (kf (ldP rfl rfl) (fc (cl (v := .str r89) rfl (cns rfl rfl) rfl (impl_decimal_ok a1.Day _ hx88) nm) (kf (sAdd rfl rfl hx91) (kf (faP h68 ⟨ble rfl, blt rfl⟩ rfl) (kf (ldP rfl rfl) (fc (cl (v := .str r93) rfl (cns rfl rfl) rfl (impl_decimal_ok a1.Tally _ hx92) nm) (kf (sAdd rfl rfl hx95) (kf (sAdd rfl rfl hx97) (kf (faP h68 ⟨ble rfl, blt rfl⟩ rfl) (kf (ldP rfl rfl) (fc (cl (v := .str r99) rfl (cns rfl rfl) rfl (impl_decimal_ok a1.From _ hx98) nm) (kf (sAdd rfl rfl hx101) (kf (mvO rfl) (fZ (Rn (hN rfl hZ) fun e102 h104 => sN (xx ?_))))))))))))))))))))))
 clear h68 h69
 obtain rfl := si h
 exact eR (resT h104 res0) rfl
/-! ### loop.example/g01263/impl.areDeals (f12) -/
abbrev impl_areDeals_b1_S := Int
abbrev impl_areDeals_b1_R := Unit ⊕ Unit
def impl_areDeals_b1_RS (a1 : List Deal) (s : impl_areDeals_b1_S) (e : Env) (M : Mem) : Prop := eget e 5 = .sl none (a1.map Deal.c) ∧ eget e 6 = .int .i64 (a1.length : Int) ∧ eget e 7 = .int .i64 s
def impl_areDeals_b1_RR (a1 : List Deal) (r : impl_areDeals_b1_R) (x : Ex) (e : Env) (M : Mem) : Prop :=
  match r with
  | (.inl g) => x = .ret ∧ eget e 2 = .bool false
  | (.inr g) => x = .ext 0 ∧ True
noncomputable def impl_areDeals_b1 (a1 : List Deal) : impl_areDeals_b1_S → Option (impl_areDeals_b1_S ⊕ impl_areDeals_b1_R) := fun s1_1 =>
 if (decide (s1_1 < (a1.length : Int))) = true then
  (rd a1 s1_1).bind fun x32 =>
  (impl_ValidDeal x32).bind fun r48 =>
  if r48 = true then
   some (.inl (IntKind.i64.wrap (s1_1 + 1)))
  else
   some (.inr (.inl ()))
 else
  some (.inr (.inr ()))
theorem impl_areDeals_b1_ok (a1 : List Deal) (s : impl_areDeals_b1_S) (r : impl_areDeals_b1_S ⊕ impl_areDeals_b1_R) (h : impl_areDeals_b1 a1 s = some r) (e : Env) (M : Mem) (hs : impl_areDeals_b1_RS a1 s e M) : Ev (fun k => (f12_l2 (CN k) k (prune [5, 6, 7] e) M).bind fun q => some q) (bQ (impl_areDeals_b1_RS a1) (impl_areDeals_b1_RR a1) r) := by
 revert h hs
 revert s
 intro s1_1 h hs
 unfold impl_areDeals_b1 at h
 obtain ⟨h19, h21, h23⟩ := hs
 generalize he18 : prune [5, 6, 7] e = e17
 have h20 := envp he18.symm rfl h19
 have h22 := envp he18.symm rfl h21
 have h24 := envp he18.symm rfl h23
 refine sq (Rg (kx (bLss h24 h22) (Rn (hV (.sl none (a1.map Deal.c)) h20 (hV (.int .i64 (a1.length : Int)) h22 (hV (.int .i64 s1_1) h24 (hN rfl hZ)))) fun e25 h27 h28 h29 h30 => sN (sq ?_))))
 clear h20 h22 h24
 rcases ite_some h with ⟨hb31, h⟩ | ⟨hb31, h⟩
 ·obtain ⟨x32, hx33, h⟩ := bind_some h
  refine cT h30 hb31 (xx (sN (sq (bl (sq (Rg (kx (ixS h27 h29 hx33 Deal.fl) (kx (ldPA rfl rfl rfl) (ku (alO zero32) fun M35 hM36 => ?_)))))))))
  have o37 : M35[M.length]? = some (.live ⟨.box, 32, 6, [[.int .i64 0, .int .i8 0, .int .i64 0, .int .i64 0, .int .i64 0, .int .i64 0]]⟩) := push_new hM36
  refine kw (stO rfl rfl o37 rfl rfl ⟨rfl, ble rfl⟩ rfl rfl) fun M38 hM39 => ?_
  have o40 : M38[M.length]? = some (.live ⟨.box, 32, 6, [[.int .i64 x32.Day, .int .i8 x32.Kind, .int .i64 x32.Tally, .int .i64 x32.From, .int .i64 x32.To, .int .i64 x32.Amount]]⟩) := set_same hM39 o37
  obtain ⟨r48, hx47, h⟩ := bind_some h
  refine Rn (hV (.loc M.length 1 0 0) rfl (hA h27 (hA h28 (hA h29 hZ)))) fun e41 h43 h44 h45 h46 => sN (sq (Rg (kx (ldOA h43 o40 rfl rfl (ble rfl) rfl) (kc (cl (v := .bool r48) rfl (cns rfl rfl) rfl (impl_ValidDeal_ok x32 _ hx47) nm) (kx (uNot rfl) (Rn (hA h44 (hA h45 (hA h46 (hN rfl hZ)))) fun e49 h51 h52 h53 h54 => sN ?_))))))
  clear h27 h28 h29 h30 h43 h44 h45 h46
  rcases ite_some h with ⟨hb55, h⟩ | ⟨hb55, h⟩
  ·refine cF h54 (congrArg Bool.not hb55) (xx (bN (sN (Rg (kx (bAdd h53 rfl) (kx (mvO rfl) (Rn (hA h51 (hA h52 (hN rfl hZ))) fun e56 h58 h59 h60 => ?_)))))))
   clear h51 h52 h54
   obtain rfl := si h
   exact qN ⟨h58, h59, h60⟩
  refine cT h54 (congrArg Bool.not hb55) (sq (Rg (kx (mvO rfl) (Rn (hV (.bool false) rfl hZ) fun e61 h63 => sN (xx (bR (sR ?_)))))))
  clear h51 h52 h53 h54
  obtain rfl := si h
  exact qR ⟨rfl, h63⟩
 refine cF h30 hb31 (xx (sE ?_))
 obtain rfl := si h
 exact qE ⟨rfl, trivial⟩
noncomputable def impl_areDeals (a1 : List Deal) : Option Bool :=
 (Lw (impl_areDeals_b1 a1) 0).bind fun r => match r with
 | (.inl _) =>
  some false
 | (.inr _) =>
  some true
def impl_areDeals_enc (r : Bool) : AV := .bool r
theorem impl_areDeals_ok (a1 : List Deal) (r : Bool) (h : impl_areDeals a1 = some r) : Ev (fun k => CN k 12 [.sl none (a1.map Deal.c)] []) (fun p => rRes p.2 p.1 = impl_areDeals_enc r) := by
 unfold impl_areDeals at h
 obtain ⟨r64, hr65, h⟩ := bind_some h
 refine Ev.enter (F := fun k => f12 (CN k) k) (fun k => callN_eq rfl Tryd.func12 rfl rfl rfl (by decide +kernel) (f12_eq _ _)) (sq (Rg (kx (mvO rfl) (Rn (hN rfl hZ) fun e1 h3 => sN (sq (sq (Rg (kx (mvO h3) (kx (lnS Tryd.underlying25 rfl) (kx (mvO rfl) (Rn (hN rfl (hN rfl (hV (.int .i64 0) rfl hZ))) fun e4 h6 h7 h8 => sN (bl ?_))))))))))))
 clear h3
 rcases r64 with _ | _
 ·refine Ev.loop (RS := impl_areDeals_b1_RS a1) (RR := impl_areDeals_b1_RR a1) (fun s r h e M hs => impl_areDeals_b1_ok a1 s r h e M hs) hr65 ⟨h6, h7, h8⟩ fun x e67 M68 hq66 => ?_
  obtain ⟨rfl, h69⟩ := hq66
  refine bR (sR ?_)
  obtain rfl := si h
  exact eR (resT h69 res0) rfl
 refine Ev.loop (RS := impl_areDeals_b1_RS a1) (RR := impl_areDeals_b1_RR a1) (fun s r h e M hs => impl_areDeals_b1_ok a1 s r h e M hs) hr65 ⟨h6, h7, h8⟩ fun x e70 M71 hq66 => ?_
 obtain ⟨rfl, _⟩ := hq66
 refine bE (sN (sq (Rg (kx (mvO rfl) (Rn (hV (.bool true) rfl hZ) fun e72 h74 => sN (xx ?_))))))
 obtain rfl := si h
 exact eR (resT h74 res0) rfl
/-! ### loop.example/g01263/laws.toDeal (f11) -/
noncomputable def laws_toDeal (a1 : Deal) : Option (Int × Int × Int × Int × Int × Int) :=
 some (a1.Day, a1.Kind, a1.Tally, a1.From, a1.To, a1.Amount)
def laws_toDeal_enc (r : Int × Int × Int × Int × Int × Int) : AV := .agg [.int .i64 r.1, .int .i8 r.2.1, .int .i64 r.2.2.1, .int .i64 r.2.2.2.1, .int .i64 r.2.2.2.2.1, .int .i64 r.2.2.2.2.2]
theorem laws_toDeal_ok (a1 : Deal) (r : Int × Int × Int × Int × Int × Int) (h : laws_toDeal a1 = some r) : Ev (fun k => CN k 11 [.agg [.int .i64 a1.Day, .int .i8 a1.Kind, .int .i64 a1.Tally, .int .i64 a1.From, .int .i64 a1.To, .int .i64 a1.Amount]] []) (fun p => rRes p.2 p.1 = laws_toDeal_enc r) := by
 unfold laws_toDeal at h
 refine Ev.enter (F := fun k => f11 (CN k) k) (fun k => callN_eq rfl Tryd.func11 rfl rfl rfl (by decide +kernel) (f11_eq _ _)) (sq (Rg (kx (bxI rfl rfl ⟨rfl, rfl, by decide⟩) (ku (alO zero32) fun M2 hM3 => ?_))))
 have o4 : M2[([] : Mem).length]? = some (.live ⟨.box, 32, 6, [[.int .i64 0, .int .i8 0, .int .i64 0, .int .i64 0, .int .i64 0, .int .i64 0]]⟩) := push_new hM3
 refine Rn (hN rfl (hV (.loc ([] : Mem).length 1 0 0) rfl hZ)) fun e5 h7 h8 => sN (sq (Rg (ku (alO zero32) fun M10 hM11 => ?_)))
 have o12 := push_old hM11 o4
 have ne13 := ne_new o4
 have o14 : M10[M2.length]? = some (.live ⟨.box, 32, 6, [[.int .i64 0, .int .i8 0, .int .i64 0, .int .i64 0, .int .i64 0, .int .i64 0]]⟩) := push_new hM11
 refine Rn (hA h7 (hA h8 (hV (.loc M2.length 1 0 0) rfl hZ))) fun e15 h17 h18 h19 => sN (sq (Rg (kx (faP h17 ⟨ble rfl, blt rfl⟩ rfl) (kx (ldP rfl rfl) (kx (faO h19 o14 rfl) (kw (stO rfl rfl o14 rfl rfl ⟨rfl, ble rfl⟩ rfl rfl) fun M20 hM21 => ?_))))))
 clear h7 h8
 have o22 := set_ne hM21 ne13 o12
 have o23 : M20[M2.length]? = some (.live ⟨.box, 32, 6, [[.int .i64 a1.Day, .int .i8 0, .int .i64 0, .int .i64 0, .int .i64 0, .int .i64 0]]⟩) := set_same hM21 o14
 refine Rn (hA h17 (hA h18 (hA h19 hZ))) fun e24 h26 h27 h28 => sN (sq (Rg (kx (faP h26 ⟨ble rfl, blt rfl⟩ rfl) (kx (ldP rfl rfl) (kx (faO h28 o23 rfl) (kw (stO rfl rfl o23 rfl rfl ⟨rfl, ble rfl⟩ rfl rfl) fun M29 hM30 => ?_))))))
 clear h17 h18 h19
 have o31 := set_ne hM30 ne13 o22
 have o32 : M29[M2.length]? = some (.live ⟨.box, 32, 6, [[.int .i64 a1.Day, .int .i8 a1.Kind, .int .i64 0, .int .i64 0, .int .i64 0, .int .i64 0]]⟩) := set_same hM30 o23
 refine Rn (hA h26 (hA h27 (hA h28 hZ))) fun e33 h35 h36 h37 => sN (sq (Rg (kx (faP h35 ⟨ble rfl, blt rfl⟩ rfl) (kx (ldP rfl rfl) (kx (faO h37 o32 rfl) (kw (stO rfl rfl o32 rfl rfl ⟨rfl, ble rfl⟩ rfl rfl) fun M38 hM39 => ?_))))))
 clear h26 h27 h28
 have o40 := set_ne hM39 ne13 o31
 have o41 : M38[M2.length]? = some (.live ⟨.box, 32, 6, [[.int .i64 a1.Day, .int .i8 a1.Kind, .int .i64 a1.Tally, .int .i64 0, .int .i64 0, .int .i64 0]]⟩) := set_same hM39 o32
 refine Rn (hA h35 (hA h36 (hA h37 hZ))) fun e42 h44 h45 h46 => sN (sq (Rg (kx (faP h44 ⟨ble rfl, blt rfl⟩ rfl) (kx (ldP rfl rfl) (kx (faO h46 o41 rfl) (kw (stO rfl rfl o41 rfl rfl ⟨rfl, ble rfl⟩ rfl rfl) fun M47 hM48 => ?_))))))
 clear h35 h36 h37
 have o49 := set_ne hM48 ne13 o40
 have o50 : M47[M2.length]? = some (.live ⟨.box, 32, 6, [[.int .i64 a1.Day, .int .i8 a1.Kind, .int .i64 a1.Tally, .int .i64 a1.From, .int .i64 0, .int .i64 0]]⟩) := set_same hM48 o41
 refine Rn (hA h44 (hA h45 (hA h46 hZ))) fun e51 h53 h54 h55 => sN (sq (Rg (kx (faP h53 ⟨ble rfl, blt rfl⟩ rfl) (kx (ldP rfl rfl) (kx (faO h55 o50 rfl) (kw (stO rfl rfl o50 rfl rfl ⟨rfl, ble rfl⟩ rfl rfl) fun M56 hM57 => ?_))))))
 clear h44 h45 h46
 have o58 := set_ne hM57 ne13 o49
 have o59 : M56[M2.length]? = some (.live ⟨.box, 32, 6, [[.int .i64 a1.Day, .int .i8 a1.Kind, .int .i64 a1.Tally, .int .i64 a1.From, .int .i64 a1.To, .int .i64 0]]⟩) := set_same hM57 o50
 refine Rn (hA h53 (hA h54 (hA h55 hZ))) fun e60 h62 h63 h64 => sN (sq (Rg (kx (faP h62 ⟨ble rfl, blt rfl⟩ rfl) (kx (ldP rfl rfl) (kx (faO h64 o59 rfl) (kw (stO rfl rfl o59 rfl rfl ⟨rfl, ble rfl⟩ rfl rfl) fun M65 hM66 => ?_))))))
 clear h53 h54 h55
 have o67 := set_ne hM66 ne13 o58
 have o68 : M65[M2.length]? = some (.live ⟨.box, 32, 6, [[.int .i64 a1.Day, .int .i8 a1.Kind, .int .i64 a1.Tally, .int .i64 a1.From, .int .i64 a1.To, .int .i64 a1.Amount]]⟩) := set_same hM66 o59
 refine Rn (hA h63 (hA h64 hZ)) fun e69 h71 h72 => sN (sq (Rg (kx (ldOA h72 o68 rfl rfl (ble rfl) rfl) (kw (stO h71 rfl o67 rfl rfl ⟨rfl, ble rfl⟩ rfl rfl) fun M73 hM74 => ?_))))
 clear h62 h63 h64
 have o75 : M73[([] : Mem).length]? = some (.live ⟨.box, 32, 6, [[.int .i64 a1.Day, .int .i8 a1.Kind, .int .i64 a1.Tally, .int .i64 a1.From, .int .i64 a1.To, .int .i64 a1.Amount]]⟩) := set_same hM74 o67
 have o76 := set_ne hM74 (Ne.symm ne13) o68
 refine Rn (hA h71 hZ) fun e77 h79 => sN (xx ?_)
 clear h71 h72
 obtain rfl := si h
 exact eR (resC (ag := true) (sz := 6) ⟨by kernel_rfl, by kernel_rfl, by kernel_rfl⟩ (ldOA h79 o75 rfl rfl (ble rfl) rfl) res0) rfl
/-! ### loop.example/g01263/spec.l07Text (f10) -/
abbrev spec_l07Text_b1_S := (List UInt8) × Int
abbrev spec_l07Text_b1_R := (List UInt8)
def spec_l07Text_b1_RS (a1 : List Deal) (s : spec_l07Text_b1_S) (e : Env) (M : Mem) : Prop := eget e 0 = .sl none (a1.map Deal.c) ∧ eget e 3 = .str s.1 ∧ eget e 4 = .int .i64 s.2
def spec_l07Text_b1_RR (a1 : List Deal) (g : spec_l07Text_b1_R) (x : Ex) (e : Env) (M : Mem) : Prop := x = .ext 0 ∧ eget e 3 = .str g
noncomputable def spec_l07Text_b1 (a1 : List Deal) : spec_l07Text_b1_S → Option (spec_l07Text_b1_S ⊕ spec_l07Text_b1_R) := fun (s1_1, s1_2) =>
 if (decide (s1_2 < (a1.length : Int))) = true then
  (rd a1 s1_2).bind fun x36 =>
  (spec_l07Line x36).bind fun r39 =>
  (sadd r39 ([10] : List UInt8)).bind fun w40 =>
  (sadd s1_1 w40).bind fun w42 =>
  some (.inl (w42, (IntKind.i64.wrap (s1_2 + 1))))
 else
  some (.inr s1_1)
theorem spec_l07Text_b1_ok (a1 : List Deal) (s : spec_l07Text_b1_S) (r : spec_l07Text_b1_S ⊕ spec_l07Text_b1_R) (h : spec_l07Text_b1 a1 s = some r) (e : Env) (M : Mem) (hs : spec_l07Text_b1_RS a1 s e M) : Ev (fun k => (f10_l3 (CN k) k (prune [0, 3, 4] e) M).bind fun q => some q) (bQ (spec_l07Text_b1_RS a1) (spec_l07Text_b1_RR a1) r) := by
 obtain ⟨s1_1, s1_2⟩ := s
 unfold spec_l07Text_b1 at h
 obtain ⟨h23, h25, h27⟩ := hs
 generalize he22 : prune [0, 3, 4] e = e21
 have h24 := envp he22.symm rfl h23
 have h26 := envp he22.symm rfl h25
 have h28 := envp he22.symm rfl h27
 refine sq (sq (Rg (kx (mvO h28) (kx (mvO h24) (kx (lnS Tryd.underlying25 rfl) (kx (bLss rfl rfl) (Rn (hV (.sl none (a1.map Deal.c)) h24 (hV (.str s1_1) h26 (hV (.int .i64 s1_2) h28 (hN rfl hZ)))) fun e29 h31 h32 h33 h34 => sN ?_)))))))
 clear h24 h26 h28
 rcases ite_some h with ⟨hb35, h⟩ | ⟨hb35, h⟩
 ·obtain ⟨x36, hx37, h⟩ := bind_some h
  obtain ⟨r39, hx38, h⟩ := bind_some h
  obtain ⟨w40, hx41, h⟩ := bind_some h
  obtain ⟨w42, hx43, h⟩ := bind_some h
  refine cT h34 hb35 (xx (sN (sq (bl (Rg (kx (mvO h32) (kx (mvO h31) (kx (mvO h33) (kx (ixS rfl rfl hx37 Deal.fl) (kc (cl (v := .str r39) rfl (cns rfl rfl) rfl (spec_l07Line_ok x36 _ hx38) nm) (kx (sAdd rfl rfl hx41) (kx (sAdd rfl rfl hx43) (kx (mvO rfl) (Rn (hA h31 (hN rfl (hA h33 hZ))) fun e44 h46 h47 h48 => bN (sN (Rg (kx (mvO h48) (kx (bAdd rfl rfl) (kx (mvO rfl) (Rn (hA h46 (hA h47 (hN rfl hZ))) fun e49 h51 h52 h53 => ?_))))))))))))))))))))
  clear h31 h33 h34 h46 h47
  obtain rfl := si h
  exact qN ⟨h51, h52, h53⟩
 refine cF h34 hb35 (xx (sE ?_))
 obtain rfl := si h
 exact qE ⟨rfl, h32⟩
noncomputable def spec_l07Text (a1 : List Deal) : Option ((List UInt8)) :=
 (Lw (spec_l07Text_b1 a1) (([] : List UInt8), 0)).bind fun y59 =>
 some y59
def spec_l07Text_enc (r : (List UInt8)) : AV := .str r
theorem spec_l07Text_ok (a1 : List Deal) (r : (List UInt8)) (h : spec_l07Text a1 = some r) : Ev (fun k => CN k 10 [.sl none (a1.map Deal.c)] []) (fun p => rRes p.2 p.1 = spec_l07Text_enc r) := by
 unfold spec_l07Text at h
 obtain ⟨y59, hr55, h⟩ := bind_some h
 refine Ev.enter (F := fun k => f10 (CN k) k) (fun k => callN_eq rfl Tryd.func10 rfl rfl rfl (by decide +kernel) (f10_eq _ _)) (sq (Rg (kx (mvO rfl) (Rn (hN rfl hZ) fun e1 h3 => sN (sq (Rg (kx (mvO rfl) (Rn (hA h3 (hN rfl hZ)) fun e4 h6 h7 => sN (sq (sq (Rg (kx (mvO rfl) (Rn (hA h6 (hA h7 (hV (.int .i64 0) rfl hZ))) fun e8 h10 h11 h12 => sN (bl (Ev.loop (RS := spec_l07Text_b1_RS a1) (RR := spec_l07Text_b1_RR a1) (fun s r h e M hs => spec_l07Text_b1_ok a1 s r h e M hs) hr55 ⟨h10, h11, h12⟩ fun x e57 M58 hq56 => ?_)))))))))))))))
 clear h3 h6 h7
 obtain ⟨rfl, h60⟩ := hq56
 refine bE (sN (sq (Rg (kx (mvO h60) (kx (mvO rfl) (Rn (hN rfl hZ) fun e61 h63 => sN (xx ?_)))))))
 clear h60
 obtain rfl := si h
 exact eR (resT h63 res0) rfl
/-! ### loop.example/g01263/spec.l07Deals (f9) -/
abbrev spec_l07Deals_b1_S := Int
abbrev spec_l07Deals_b1_R := Unit ⊕ Unit
def spec_l07Deals_b1_RS (a1 : List Deal) (s : spec_l07Deals_b1_S) (e : Env) (M : Mem) : Prop := eget e 0 = .sl none (a1.map Deal.c) ∧ eget e 3 = .int .i64 s
def spec_l07Deals_b1_RR (a1 : List Deal) (r : spec_l07Deals_b1_R) (x : Ex) (e : Env) (M : Mem) : Prop :=
  match r with
  | (.inl g) => x = .ret ∧ eget e 2 = .bool false
  | (.inr g) => x = .ext 0 ∧ True
noncomputable def spec_l07Deals_b1 (a1 : List Deal) : spec_l07Deals_b1_S → Option (spec_l07Deals_b1_S ⊕ spec_l07Deals_b1_R) := fun s1_1 =>
 if (decide (s1_1 < (a1.length : Int))) = true then
  (rd a1 s1_1).bind fun x26 =>
  (spec_l07Deal x26).bind fun r29 =>
  if r29 = true then
   some (.inl (IntKind.i64.wrap (s1_1 + 1)))
  else
   some (.inr (.inl ()))
 else
  some (.inr (.inr ()))
theorem spec_l07Deals_b1_ok (a1 : List Deal) (s : spec_l07Deals_b1_S) (r : spec_l07Deals_b1_S ⊕ spec_l07Deals_b1_R) (h : spec_l07Deals_b1 a1 s = some r) (e : Env) (M : Mem) (hs : spec_l07Deals_b1_RS a1 s e M) : Ev (fun k => (f9_l2 (CN k) k (prune [0, 3] e) M).bind fun q => some q) (bQ (spec_l07Deals_b1_RS a1) (spec_l07Deals_b1_RR a1) r) := by
 revert h hs
 revert s
 intro s1_1 h hs
 unfold spec_l07Deals_b1 at h
 obtain ⟨h16, h18⟩ := hs
 generalize he15 : prune [0, 3] e = e14
 have h17 := envp he15.symm rfl h16
 have h19 := envp he15.symm rfl h18
 refine sq (sq (Rg (kx (mvO h19) (kx (mvO h17) (kx (lnS Tryd.underlying25 rfl) (kx (bLss rfl rfl) (Rn (hV (.sl none (a1.map Deal.c)) h17 (hV (.int .i64 s1_1) h19 (hN rfl hZ))) fun e20 h22 h23 h24 => sN ?_)))))))
 clear h17 h19
 rcases ite_some h with ⟨hb25, h⟩ | ⟨hb25, h⟩
 ·obtain ⟨x26, hx27, h⟩ := bind_some h
  obtain ⟨r29, hx28, h⟩ := bind_some h
  refine cT h24 hb25 (xx (sN (sq (bl (sq (Rg (kx (mvO h22) (kx (mvO h23) (kx (ixS rfl rfl hx27 Deal.fl) (kc (cl (v := .bool r29) rfl (cns rfl rfl) rfl (spec_l07Deal_ok x26 _ hx28) nm) (kx (uNot rfl) (Rn (hA h22 (hA h23 (hN rfl hZ))) fun e30 h32 h33 h34 => sN ?_))))))))))))
  clear h22 h23 h24
  rcases ite_some h with ⟨hb35, h⟩ | ⟨hb35, h⟩
  ·refine cF h34 (congrArg Bool.not hb35) (xx (bN (sN (Rg (kx (mvO h33) (kx (bAdd rfl rfl) (kx (mvO rfl) (Rn (hA h32 (hN rfl hZ)) fun e36 h38 h39 => ?_))))))))
   clear h32 h34
   obtain rfl := si h
   exact qN ⟨h38, h39⟩
  refine cT h34 (congrArg Bool.not hb35) (sq (Rg (kx (mvO rfl) (Rn (hV (.bool false) rfl hZ) fun e40 h42 => sN (xx (bR (sR ?_)))))))
  clear h32 h33 h34
  obtain rfl := si h
  exact qR ⟨rfl, h42⟩
 refine cF h24 hb25 (xx (sE ?_))
 obtain rfl := si h
 exact qE ⟨rfl, trivial⟩
noncomputable def spec_l07Deals (a1 : List Deal) : Option Bool :=
 (Lw (spec_l07Deals_b1 a1) 0).bind fun r => match r with
 | (.inl _) =>
  some false
 | (.inr _) =>
  some true
def spec_l07Deals_enc (r : Bool) : AV := .bool r
theorem spec_l07Deals_ok (a1 : List Deal) (r : Bool) (h : spec_l07Deals a1 = some r) : Ev (fun k => CN k 9 [.sl none (a1.map Deal.c)] []) (fun p => rRes p.2 p.1 = spec_l07Deals_enc r) := by
 unfold spec_l07Deals at h
 obtain ⟨r43, hr44, h⟩ := bind_some h
 refine Ev.enter (F := fun k => f9 (CN k) k) (fun k => callN_eq rfl Tryd.func9 rfl rfl rfl (by decide +kernel) (f9_eq _ _)) (sq (Rg (kx (mvO rfl) (Rn (hN rfl hZ) fun e1 h3 => sN (sq (sq (Rg (kx (mvO rfl) (Rn (hA h3 (hV (.int .i64 0) rfl hZ)) fun e4 h6 h7 => sN (bl ?_))))))))))
 clear h3
 rcases r43 with _ | _
 ·refine Ev.loop (RS := spec_l07Deals_b1_RS a1) (RR := spec_l07Deals_b1_RR a1) (fun s r h e M hs => spec_l07Deals_b1_ok a1 s r h e M hs) hr44 ⟨h6, h7⟩ fun x e46 M47 hq45 => ?_
  obtain ⟨rfl, h48⟩ := hq45
  refine bR (sR ?_)
  obtain rfl := si h
  exact eR (resT h48 res0) rfl
 refine Ev.loop (RS := spec_l07Deals_b1_RS a1) (RR := spec_l07Deals_b1_RR a1) (fun s r h e M hs => spec_l07Deals_b1_ok a1 s r h e M hs) hr44 ⟨h6, h7⟩ fun x e49 M50 hq45 => ?_
 obtain ⟨rfl, _⟩ := hq45
 refine bE (sN (sq (Rg (kx (mvO rfl) (Rn (hV (.bool true) rfl hZ) fun e51 h53 => sN (xx ?_))))))
 obtain rfl := si h
 exact eR (resT h53 res0) rfl
/-! ### loop.example/g01263/laws.eqDealS (f8) -/
abbrev laws_eqDealS_b1_S := Int
abbrev laws_eqDealS_b1_R := Unit ⊕ Unit
def laws_eqDealS_b1_RS (a1 : List Deal) (a2 : List Deal) (s : laws_eqDealS_b1_S) (e : Env) (M : Mem) : Prop := eget e 0 = .sl none (a1.map Deal.c) ∧ eget e 1 = .sl none (a2.map Deal.c) ∧ eget e 5 = .int .i64 s
def laws_eqDealS_b1_RR (a1 : List Deal) (a2 : List Deal) (r : laws_eqDealS_b1_R) (x : Ex) (e : Env) (M : Mem) : Prop :=
  match r with
  | (.inl g) => x = .ret ∧ eget e 4 = .bool false
  | (.inr g) => x = .ext 0 ∧ True
noncomputable def laws_eqDealS_b1 (a1 : List Deal) (a2 : List Deal) : laws_eqDealS_b1_S → Option (laws_eqDealS_b1_S ⊕ laws_eqDealS_b1_R) := fun s1_1 =>
 if (decide (s1_1 < (a1.length : Int))) = true then
  (rd a1 s1_1).bind fun x42 =>
  (rd a2 s1_1).bind fun x44 =>
  (laws_eqDeal x42 x44).bind fun r47 =>
  if r47 = true then
   some (.inl (IntKind.i64.wrap (s1_1 + 1)))
  else
   some (.inr (.inl ()))
 else
  some (.inr (.inr ()))
theorem laws_eqDealS_b1_ok (a1 : List Deal) (a2 : List Deal) (s : laws_eqDealS_b1_S) (r : laws_eqDealS_b1_S ⊕ laws_eqDealS_b1_R) (h : laws_eqDealS_b1 a1 a2 s = some r) (e : Env) (M : Mem) (hs : laws_eqDealS_b1_RS a1 a2 s e M) : Ev (fun k => (f8_l4 (CN k) k (prune [0, 1, 5] e) M).bind fun q => some q) (bQ (laws_eqDealS_b1_RS a1 a2) (laws_eqDealS_b1_RR a1 a2) r) := by
 revert h hs
 revert s
 intro s1_1 h hs
 unfold laws_eqDealS_b1 at h
 obtain ⟨h29, h31, h33⟩ := hs
 generalize he28 : prune [0, 1, 5] e = e27
 have h30 := envp he28.symm rfl h29
 have h32 := envp he28.symm rfl h31
 have h34 := envp he28.symm rfl h33
 refine sq (sq (Rg (kx (mvO h34) (kx (mvO h30) (kx (lnS Tryd.underlying25 rfl) (kx (bLss rfl rfl) (Rn (hV (.sl none (a1.map Deal.c)) h30 (hV (.sl none (a2.map Deal.c)) h32 (hV (.int .i64 s1_1) h34 (hN rfl hZ)))) fun e35 h37 h38 h39 h40 => sN ?_)))))))
 clear h30 h32 h34
 rcases ite_some h with ⟨hb41, h⟩ | ⟨hb41, h⟩
 ·obtain ⟨x42, hx43, h⟩ := bind_some h
  obtain ⟨x44, hx45, h⟩ := bind_some h
  obtain ⟨r47, hx46, h⟩ := bind_some h
  refine cT h40 hb41 (xx (sN (sq (bl (sq (Rd (kf (mvO h37) (kf (mvO h39) (kf (ixS rfl rfl hx43 Deal.fl) (kf (ldPA rfl rfl rfl) (kf (mvO h38) (kf (mvO h39) (kf (ixS rfl rfl hx45 Deal.fl) (kf (ldPA rfl rfl rfl) (fc (cl (v := .bool r47) rfl (cns rfl (cns rfl rfl)) rfl (laws_eqDeal_ok x42 x44 _ hx46) nm) (kf (uNot rfl) (fZ (Rn (hA h37 (hA h38 (hA h39 (hN rfl hZ)))) fun e48 h50 h51 h52 h53 => sN ?_))))))))))))))))))
  clear h37 h38 h39 h40
  rcases ite_some h with ⟨hb54, h⟩ | ⟨hb54, h⟩
  ·refine cF h53 (congrArg Bool.not hb54) (xx (bN (sN (Rg (kx (mvO h52) (kx (bAdd rfl rfl) (kx (mvO rfl) (Rn (hA h50 (hA h51 (hN rfl hZ))) fun e55 h57 h58 h59 => ?_))))))))
   clear h50 h51 h53
   obtain rfl := si h
   exact qN ⟨h57, h58, h59⟩
  refine cT h53 (congrArg Bool.not hb54) (sq (Rg (kx (mvO rfl) (Rn (hV (.bool false) rfl hZ) fun e60 h62 => sN (xx (bR (sR ?_)))))))
  clear h50 h51 h52 h53
  obtain rfl := si h
  exact qR ⟨rfl, h62⟩
 refine cF h40 hb41 (xx (sE ?_))
 obtain rfl := si h
 exact qE ⟨rfl, trivial⟩
noncomputable def laws_eqDealS (a1 : List Deal) (a2 : List Deal) : Option Bool :=
 if ((a1.length : Int) != (a2.length : Int)) = true then
  some false
 else
  (Lw (laws_eqDealS_b1 a1 a2) 0).bind fun r => match r with
  | (.inl _) =>
   some false
  | (.inr _) =>
   some true
def laws_eqDealS_enc (r : Bool) : AV := .bool r
theorem laws_eqDealS_ok (a1 : List Deal) (a2 : List Deal) (r : Bool) (h : laws_eqDealS a1 a2 = some r) : Ev (fun k => CN k 8 [.sl none (a1.map Deal.c), .sl none (a2.map Deal.c)] []) (fun p => rRes p.2 p.1 = laws_eqDealS_enc r) := by
 unfold laws_eqDealS at h
 refine Ev.enter (F := fun k => f8 (CN k) k) (fun k => callN_eq rfl Tryd.func8 rfl rfl rfl (by decide +kernel) (f8_eq _ _)) (sq (Rg (kx (mvO rfl) (Rn (hN rfl (hN rfl hZ)) fun e1 h3 h4 => sN (sq (sq (Rg (kx (mvO h3) (kx (lnS Tryd.underlying25 rfl) (kx (mvO h4) (kx (lnS Tryd.underlying25 rfl) (kx (bNeq rfl rfl) (Rn (hA h3 (hA h4 (hN rfl hZ))) fun e5 h7 h8 h9 => sN ?_)))))))))))))
 clear h3 h4
 rcases ite_some h with ⟨hb10, h⟩ | ⟨hb10, h⟩
 ·refine cT h9 hb10 (sq (Rg (kx (mvO rfl) (Rn (hV (.bool false) rfl hZ) fun e11 h13 => sN (xx (sR ?_))))))
  clear h7 h8 h9
  obtain rfl := si h
  exact eR (resT h13 res0) rfl
 obtain ⟨r63, hr64, h⟩ := bind_some h
 refine cF h9 hb10 (xx (sN (sq (sq (Rg (kx (mvO rfl) (Rn (hA h7 (hA h8 (hV (.int .i64 0) rfl hZ))) fun e14 h16 h17 h18 => sN (bl ?_))))))))
 clear h7 h8 h9
 rcases r63 with _ | _
 ·refine Ev.loop (RS := laws_eqDealS_b1_RS a1 a2) (RR := laws_eqDealS_b1_RR a1 a2) (fun s r h e M hs => laws_eqDealS_b1_ok a1 a2 s r h e M hs) hr64 ⟨h16, h17, h18⟩ fun x e66 M67 hq65 => ?_
  obtain ⟨rfl, h68⟩ := hq65
  refine bR (sR ?_)
  obtain rfl := si h
  exact eR (resT h68 res0) rfl
 refine Ev.loop (RS := laws_eqDealS_b1_RS a1 a2) (RR := laws_eqDealS_b1_RR a1 a2) (fun s r h e M hs => laws_eqDealS_b1_ok a1 a2 s r h e M hs) hr64 ⟨h16, h17, h18⟩ fun x e69 M70 hq65 => ?_
 obtain ⟨rfl, _⟩ := hq65
 refine bE (sN (sq (Rg (kx (mvO rfl) (Rn (hV (.bool true) rfl hZ) fun e71 h73 => sN (xx ?_))))))
 obtain rfl := si h
 exact eR (resT h73 res0) rfl
/-! ### loop.example/g01263/impl.DealsText (f7) -/
def impl_DealsText_c1_Q (a1 : List Deal) (g : Bool) (q : Out) : Prop := q.1 = .nrm ∧ eget q.2.1 0 = .sl none (a1.map Deal.c) ∧ eget q.2.1 13 = .bool g
abbrev impl_DealsText_b1_S := (List UInt8) × Int
abbrev impl_DealsText_b1_R := (List UInt8)
def impl_DealsText_b1_RS (a1 : List Deal) (s : impl_DealsText_b1_S) (e : Env) (M : Mem) : Prop := eget e 3 = .str s.1 ∧ eget e 14 = .sl none (a1.map Deal.c) ∧ eget e 15 = .int .i64 (a1.length : Int) ∧ eget e 16 = .int .i64 s.2
def impl_DealsText_b1_RR (a1 : List Deal) (g : impl_DealsText_b1_R) (x : Ex) (e : Env) (M : Mem) : Prop := x = .ext 0 ∧ eget e 3 = .str g
noncomputable def impl_DealsText_b1 (a1 : List Deal) : impl_DealsText_b1_S → Option (impl_DealsText_b1_S ⊕ impl_DealsText_b1_R) := fun (s1_1, s1_2) =>
 if (decide (s1_2 < (a1.length : Int))) = true then
  (rd a1 s1_2).bind fun x62 =>
  (impl_dealText x62).bind fun r79 =>
  (sadd r79 ([10] : List UInt8)).bind fun w80 =>
  (sadd s1_1 w80).bind fun w82 =>
  some (.inl (w82, (IntKind.i64.wrap (s1_2 + 1))))
 else
  some (.inr s1_1)
theorem impl_DealsText_b1_ok (a1 : List Deal) (s : impl_DealsText_b1_S) (r : impl_DealsText_b1_S ⊕ impl_DealsText_b1_R) (h : impl_DealsText_b1 a1 s = some r) (e : Env) (M : Mem) (hs : impl_DealsText_b1_RS a1 s e M) : Ev (fun k => (f7_l5 (CN k) k (prune [3, 14, 15, 16] e) M).bind fun q => some q) (bQ (impl_DealsText_b1_RS a1) (impl_DealsText_b1_RR a1) r) := by
 obtain ⟨s1_1, s1_2⟩ := s
 unfold impl_DealsText_b1 at h
 obtain ⟨h46, h48, h50, h52⟩ := hs
 generalize he45 : prune [3, 14, 15, 16] e = e44
 have h47 := envp he45.symm rfl h46
 have h49 := envp he45.symm rfl h48
 have h51 := envp he45.symm rfl h50
 have h53 := envp he45.symm rfl h52
 refine sq (Rg (kx (bLss h53 h51) (Rn (hV (.str s1_1) h47 (hV (.sl none (a1.map Deal.c)) h49 (hV (.int .i64 (a1.length : Int)) h51 (hV (.int .i64 s1_2) h53 (hN rfl hZ))))) fun e54 h56 h57 h58 h59 h60 => sN (sq ?_))))
 clear h47 h49 h51 h53
 rcases ite_some h with ⟨hb61, h⟩ | ⟨hb61, h⟩
 ·obtain ⟨x62, hx63, h⟩ := bind_some h
  refine cT h60 hb61 (xx (sN (sq (bl (sq (Rg (kx (ixS h57 h59 hx63 Deal.fl) (kx (ldPA rfl rfl rfl) (ku (alO zero32) fun M65 hM66 => ?_)))))))))
  have o67 : M65[M.length]? = some (.live ⟨.box, 32, 6, [[.int .i64 0, .int .i8 0, .int .i64 0, .int .i64 0, .int .i64 0, .int .i64 0]]⟩) := push_new hM66
  refine kw (stO rfl rfl o67 rfl rfl ⟨rfl, ble rfl⟩ rfl rfl) fun M68 hM69 => ?_
  have o70 : M68[M.length]? = some (.live ⟨.box, 32, 6, [[.int .i64 x62.Day, .int .i8 x62.Kind, .int .i64 x62.Tally, .int .i64 x62.From, .int .i64 x62.To, .int .i64 x62.Amount]]⟩) := set_same hM69 o67
  obtain ⟨r79, hx78, h⟩ := bind_some h
  obtain ⟨w80, hx81, h⟩ := bind_some h
  obtain ⟨w82, hx83, h⟩ := bind_some h
  refine Rn (hA h56 (hV (.loc M.length 1 0 0) rfl (hA h57 (hA h58 (hA h59 hZ))))) fun e71 h73 h74 h75 h76 h77 => sN (Rg (kx (mvO h73) (kx (ldOA h74 o70 rfl rfl (ble rfl) rfl) (kc (cl (v := .str r79) rfl (cns rfl rfl) rfl (impl_dealText_ok x62 _ hx78) nm) (kx (sAdd rfl rfl hx81) (kx (sAdd rfl rfl hx83) (kx (mvO rfl) (Rn (hN rfl (hA h75 (hA h76 (hA h77 hZ)))) fun e84 h86 h87 h88 h89 => bN (sN (Rg (kx (bAdd h89 rfl) (kx (mvO rfl) (Rn (hA h86 (hA h87 (hA h88 (hN rfl hZ)))) fun e90 h92 h93 h94 h95 => ?_)))))))))))))
  clear h56 h57 h58 h59 h60 h74 h75 h76 h77 h86 h87 h88
  obtain rfl := si h
  exact qN ⟨h92, h93, h94, h95⟩
 refine cF h60 hb61 (xx (sE ?_))
 obtain rfl := si h
 exact qE ⟨rfl, h56⟩
noncomputable def impl_DealsText (a1 : List Deal) : Option ((List UInt8)) :=
 ((impl_areDeals a1).bind fun r5 =>
 if r5 = true then
  some (decide ((a1.length : Int) > 80))
 else
  some true).bind fun y17 =>
 if y17 = true then
  some ([] : List UInt8)
 else
  (Lw (impl_DealsText_b1 a1) (([] : List UInt8), 0)).bind fun y101 =>
  some y101
def impl_DealsText_enc (r : (List UInt8)) : AV := .str r
theorem impl_DealsText_ok (a1 : List Deal) (r : (List UInt8)) (h : impl_DealsText a1 = some r) : Ev (fun k => CN k 7 [.sl none (a1.map Deal.c)] []) (fun p => rRes p.2 p.1 = impl_DealsText_enc r) := by
 unfold impl_DealsText at h
 obtain ⟨r107, hr108, h⟩ := bind_some h
 refine Ev.enter (F := fun k => f7 (CN k) k) (fun k => callN_eq rfl Tryd.func7 rfl rfl rfl (by decide +kernel) (f7_eq _ _)) (sq (Rg (kx (mvO rfl) (Rn (hN rfl hZ) fun e1 h3 => sN (sq (sq ?_))))))
 refine Ev.cut (Q1 := impl_DealsText_c1_Q a1 r107) (by
     have h := hr108
     obtain ⟨r5, hx4, h⟩ := bind_some h
     refine Rg (kx (mvO h3) (kc (cl (v := .bool r5) rfl (cns rfl rfl) rfl (impl_areDeals_ok a1 _ hx4) nm) (kx (uNot rfl) (kx (mvO rfl) ?_))))
     rcases ite_some h with ⟨hb6, h⟩ | ⟨hb6, h⟩
     ·refine kx (guF rfl (congrArg Bool.not hb6) (mvO h3)) (kx (guF rfl (congrArg Bool.not hb6) (lnS Tryd.underlying25 rfl)) (kx (guF rfl (congrArg Bool.not hb6) (bGtr rfl rfl)) (kx (pkF rfl (congrArg Bool.not hb6) rfl) (Rn (hA h3 (hN rfl hZ)) fun e7 h9 h10 => ?_))))
      clear h3
      obtain rfl := si h
      exact kd (show impl_DealsText_c1_Q a1 _ _ from ⟨rfl, h9, h10⟩)
     refine kx (gsF rfl (congrArg Bool.not hb6)) (kx (gsF rfl (congrArg Bool.not hb6)) (kx (gsF rfl (congrArg Bool.not hb6)) (kx (pkT rfl (congrArg Bool.not hb6) rfl) (Rn (hA h3 (hV (.bool true) rfl hZ)) fun e11 h13 h14 => ?_))))
     clear h3
     obtain rfl := si h
     exact kd (show impl_DealsText_c1_Q a1 _ _ from ⟨rfl, h13, h14⟩)) ?_
 revert h hr108
 revert r107
 intro y17 hr108 h
 intro x e15 M16 hq106
 obtain ⟨rfl, h18, h19⟩ := hq106
 refine sN ?_
 rcases ite_some h with ⟨hb20, h⟩ | ⟨hb20, h⟩
 ·refine cT h19 hb20 (sq (Rg (kx (mvO rfl) (Rn (hN rfl hZ) fun e21 h23 => sN (xx (sR ?_))))))
  clear h18 h19
  obtain rfl := si h
  exact eR (resT h23 res0) rfl
 obtain ⟨y101, hr97, h⟩ := bind_some h
 refine cF h19 hb20 (xx (sN (sq (Rg (kx (mvO rfl) (Rn (hV (.sl none (a1.map Deal.c)) h18 (hN rfl hZ)) fun e24 h26 h27 => sN (sq (sq (Rg (kx (mvO h26) (kx (lnS Tryd.underlying25 rfl) (kx (mvO rfl) (Rn (hA h27 (hN rfl (hN rfl (hV (.int .i64 0) rfl hZ)))) fun e28 h30 h31 h32 h33 => sN (bl (Ev.loop (RS := impl_DealsText_b1_RS a1) (RR := impl_DealsText_b1_RR a1) (fun s r h e M hs => impl_DealsText_b1_ok a1 s r h e M hs) hr97 ⟨h30, h31, h32, h33⟩ fun x e99 M100 hq98 => ?_)))))))))))))))
 clear h18 h19 h26 h27
 obtain ⟨rfl, h102⟩ := hq98
 refine bE (sN (sq (Rg (kx (mvO h102) (kx (mvO rfl) (Rn (hN rfl hZ) fun e103 h105 => sN (xx ?_)))))))
 clear h102
 obtain rfl := si h
 exact eR (resT h105 res0) rfl
/-! ### loop.example/g01263/laws.toDealS (f6) -/
abbrev laws_toDealS_b1_S := Int × (List Deal)
abbrev laws_toDealS_b1_R := (List Deal)
def laws_toDealS_b1_RS (a1 : List Deal) (x4 : List Deal) (i1_1 : Nat) (s : laws_toDealS_b1_S) (e : Env) (M : Mem) : Prop := eget e 0 = .sl none (a1.map Deal.c) ∧ eget e 3 = .lsl i1_1 s.2.length 0 s.2.length ∧ eget e 4 = .int .i64 s.1 ∧ M[i1_1]? = some (.live ⟨.grow, 32, 6, s.2.map Deal.c⟩) ∧ s.2.length = x4.length
def laws_toDealS_b1_RR (a1 : List Deal) (x4 : List Deal) (i1_1 : Nat) (g : laws_toDealS_b1_R) (x : Ex) (e : Env) (M : Mem) : Prop := x = .ext 0 ∧ eget e 3 = .lsl i1_1 g.length 0 g.length ∧ M[i1_1]? = some (.live ⟨.grow, 32, 6, g.map Deal.c⟩) ∧ g.length = x4.length
noncomputable def laws_toDealS_b1 (a1 : List Deal) : laws_toDealS_b1_S → Option (laws_toDealS_b1_S ⊕ laws_toDealS_b1_R) := fun (s1_1, s1_2) =>
 if (decide (s1_1 < (a1.length : Int))) = true then
  (rd a1 s1_1).bind fun x45 =>
  (laws_toDeal x45).bind fun (r48, r49, r50, r51, r52, r53) =>
  (rd s1_2 s1_1).bind fun x54 =>
  some (.inl ((IntKind.i64.wrap (s1_1 + 1)), (s1_2.set s1_1.toNat (Deal.mk r48 r49 r50 r51 r52 r53))))
 else
  some (.inr s1_2)
theorem laws_toDealS_b1_ok (a1 : List Deal) (x4 : List Deal) (i1_1 : Nat) (s : laws_toDealS_b1_S) (r : laws_toDealS_b1_S ⊕ laws_toDealS_b1_R) (h : laws_toDealS_b1 a1 s = some r) (e : Env) (M : Mem) (hs : laws_toDealS_b1_RS a1 x4 i1_1 s e M) : Ev (fun k => (f6_l3 (CN k) k (prune [0, 3, 4] e) M).bind fun q => some q) (bQ (laws_toDealS_b1_RS a1 x4 i1_1) (laws_toDealS_b1_RR a1 x4 i1_1) r) := by
 obtain ⟨s1_1, s1_2⟩ := s
 unfold laws_toDealS_b1 at h
 obtain ⟨h30, h32, h34, o36, hl37⟩ := hs
 generalize he29 : prune [0, 3, 4] e = e28
 have h31 := envp he29.symm rfl h30
 have h33 := envp he29.symm rfl h32
 have h35 := envp he29.symm rfl h34
 refine sq (sq (Rg (kx (mvO h35) (kx (mvO h31) (kx (lnS Tryd.underlying22 rfl) (kx (bLss rfl rfl) (Rn (hV (.sl none (a1.map Deal.c)) h31 (hV (.lsl i1_1 s1_2.length 0 s1_2.length) h33 (hV (.int .i64 s1_1) h35 (hN rfl hZ)))) fun e38 h40 h41 h42 h43 => sN ?_)))))))
 clear h31 h33 h35
 rcases ite_some h with ⟨hb44, h⟩ | ⟨hb44, h⟩
 ·obtain ⟨x45, hx46, h⟩ := bind_some h
  obtain ⟨⟨r48, r49, r50, r51, r52, r53⟩, hx47, h⟩ := bind_some h
  obtain ⟨x54, hx55, h⟩ := bind_some h
  refine cT h43 hb44 (xx (sN (sq (bl (Rg (kx (mvO h41) (kx (mvO h42) (kx (mvO h40) (kx (mvO h42) (kx (ixS rfl rfl hx46 Deal.fl) (kx (ldPA rfl rfl rfl) (kc (cl (v := .agg [.int .i64 r48, .int .i8 r49, .int .i64 r50, .int .i64 r51, .int .i64 r52, .int .i64 r53]) rfl (cns rfl rfl) rfl (laws_toDeal_ok x45 _ hx47) nm) (kx (ixO rfl o36 rfl rfl (rd_get hx55).1 (rd_lt hx55).2) (kw (stR (u := x54) (u' := (Deal.mk r48 r49 r50 r51 r52 r53)) rfl rfl o36 rfl (rz2 hx55) ⟨rfl, ble rfl⟩ rfl rfl) fun M56 hM57 => ?_))))))))))))))
  rw [Nat.zero_add] at hM57
  have o58 : M56[i1_1]? = some (.live ⟨.grow, 32, 6, (s1_2.set s1_1.toNat (Deal.mk r48 r49 r50 r51 r52 r53)).map Deal.c⟩) := set_same hM57 o36
  have hx59 := rd_set (u' := (Deal.mk r48 r49 r50 r51 r52 r53)) hx55
  refine Rn (hA h40 (hA h41 (hA h42 hZ))) fun e60 h62 h63 h64 => bN (sN (Rg (kx (mvO h64) (kx (bAdd rfl rfl) (kx (mvO rfl) (Rn (hA h62 (hA h63 (hN rfl hZ))) fun e65 h67 h68 h69 => ?_))))))
  clear h40 h41 h42 h43 h62 h63
  obtain rfl := si h
  exact qN ⟨h67, (lslL (L' := (s1_2.set s1_1.toNat (Deal.mk r48 r49 r50 r51 r52 r53)).length) h68 (by simp [hl37])), h69, o58, (by first | rfl | simp [hl37])⟩
 refine cF h43 hb44 (xx (sE ?_))
 obtain rfl := si h
 exact qE ⟨rfl, h41, o36, (by first | rfl | simp [hl37])⟩
noncomputable def laws_toDealS (a1 : List Deal) : Option ((List Deal)) :=
 (mkS 48 (Deal.mk 0 0 0 0 0 0) (a1.length : Int)).bind fun x4 =>
 (Lw (laws_toDealS_b1 a1) (0, x4)).bind fun y75 =>
 some y75
def laws_toDealS_enc (r : (List Deal)) : AV := .sl (some 32) (r.map Deal.c)
theorem laws_toDealS_ok (a1 : List Deal) (r : (List Deal)) (h : laws_toDealS a1 = some r) : Ev (fun k => CN k 6 [.sl none (a1.map Deal.c)] []) (fun p => rRes p.2 p.1 = laws_toDealS_enc r) := by
 unfold laws_toDealS at h
 obtain ⟨x4, hx5, h⟩ := bind_some h
 refine Ev.enter (F := fun k => f6 (CN k) k) (fun k => callN_eq rfl Tryd.func6 rfl rfl rfl (by decide +kernel) (f6_eq _ _)) (sq (Rg (kx (mvO rfl) (Rn (hN rfl hZ) fun e1 h3 => sN (sq (Rg (kx (mvO h3) (kx (lnS Tryd.underlying22 rfl) (ku (mkO rfl rfl hx5 (c := Deal.c) zero32 Deal.fl (by decide)) fun M7 hM8 => ?_)))))))))
 have o9 : M7[([] : Mem).length]? = some (.live ⟨.grow, 32, 6, x4.map Deal.c⟩) := push_new hM8
 obtain ⟨y75, hr71, h⟩ := bind_some h
 refine kx (mvO rfl) (Rn (hA h3 (hV (.lsl ([] : Mem).length x4.length 0 x4.length) rfl hZ)) fun e10 h12 h13 => sN (sq (sq (Rg (kx (mvO rfl) (Rn (hA h12 (hA h13 (hV (.int .i64 0) rfl hZ))) fun e14 h16 h17 h18 => sN (bl (Ev.loop (RS := laws_toDealS_b1_RS a1 x4 (([] : Mem).length)) (RR := laws_toDealS_b1_RR a1 x4 (([] : Mem).length)) (fun s r h e M hs => laws_toDealS_b1_ok a1 x4 (([] : Mem).length) s r h e M hs) hr71 ⟨h16, h17, h18, o9, rfl⟩ fun x e73 M74 hq72 => ?_))))))))
 clear h3 h12 h13
 obtain ⟨rfl, h76, o77, hl78⟩ := hq72
 refine bE (sN (sq (Rg (kx (mvO h76) (kx (mvO rfl) (Rn (hV (.lsl ([] : Mem).length y75.length 0 y75.length) rfl hZ) fun e79 h81 => sN (xx ?_)))))))
 clear h76
 obtain rfl := si h
 exact eR (resT h81 res0) (rr_row o77 rfl Deal.fl)
/-! ### loop.example/g01263/spec.DealsText (f5) -/
noncomputable def spec_DealsText (a1 : List Deal) : Option ((List UInt8)) :=
 (spec_l07Deals a1).bind fun r5 =>
 if r5 = true then
  if (decide ((a1.length : Int) > 80)) = true then
   some ([] : List UInt8)
  else
   (spec_l07Text a1).bind fun r16 =>
   some r16
 else
  some ([] : List UInt8)
def spec_DealsText_enc (r : (List UInt8)) : AV := .str r
theorem spec_DealsText_ok (a1 : List Deal) (r : (List UInt8)) (h : spec_DealsText a1 = some r) : Ev (fun k => CN k 5 [.sl none (a1.map Deal.c)] []) (fun p => rRes p.2 p.1 = spec_DealsText_enc r) := by
 unfold spec_DealsText at h
 obtain ⟨r5, hx4, h⟩ := bind_some h
 refine Ev.enter (F := fun k => f5 (CN k) k) (fun k => callN_eq rfl Tryd.func5 rfl rfl rfl (by decide +kernel) (f5_eq _ _)) (sq (Rg (kx (mvO rfl) (Rn (hN rfl hZ) fun e1 h3 => sN (sq (sq (Rg (kx (mvO h3) (kc (cl (v := .bool r5) rfl (cns rfl rfl) rfl (spec_l07Deals_ok a1 _ hx4) nm) (kx (uNot rfl) (kx (mvO rfl) ?_)))))))))))
 rcases ite_some h with ⟨hb6, h⟩ | ⟨hb6, h⟩
 ·refine kx (guF rfl (congrArg Bool.not hb6) (mvO h3)) (kx (guF rfl (congrArg Bool.not hb6) (lnS Tryd.underlying25 rfl)) (kx (guF rfl (congrArg Bool.not hb6) (bGtr rfl rfl)) (kx (pkF rfl (congrArg Bool.not hb6) rfl) (Rn (hA h3 (hN rfl hZ)) fun e7 h9 h10 => sN ?_))))
  clear h3
  rcases ite_some h with ⟨hb11, h⟩ | ⟨hb11, h⟩
  ·refine cT h10 hb11 (sq (Rg (kx (mvO rfl) (Rn (hN rfl hZ) fun e12 h14 => sN (xx (sR ?_))))))
   clear h10 h9
   obtain rfl := si h
   exact eR (resT h14 res0) rfl
  obtain ⟨r16, hx15, h⟩ := bind_some h
  refine cF h10 hb11 (xx (sN (sq (Rg (kx (mvO h9) (kc (cl (v := .str r16) rfl (cns rfl rfl) rfl (spec_l07Text_ok a1 _ hx15) nm) (kx (mvO rfl) (Rn (hN rfl hZ) fun e17 h19 => sN (xx ?_)))))))))
  clear h10 h9
  obtain rfl := si h
  exact eR (resT h19 res0) rfl
 refine kx (gsF rfl (congrArg Bool.not hb6)) (kx (gsF rfl (congrArg Bool.not hb6)) (kx (gsF rfl (congrArg Bool.not hb6)) (kx (pkT rfl (congrArg Bool.not hb6) rfl) (Rn (hA h3 (hV (.bool true) rfl hZ)) fun e20 h22 h23 => sN (cT h23 rfl (sq (Rg (kx (mvO rfl) (Rn (hN rfl hZ) fun e24 h26 => sN (xx (sR ?_)))))))))))
 clear h3 h22 h23
 obtain rfl := si h
 exact eR (resT h26 res0) rfl
/-! ### loop.example/g01263/laws.szDealS (f4) -/
noncomputable def laws_szDealS (a1 : List Deal) (a2 : Int) : Option Int :=
 if (decide ((IntKind.i64.wrap (a2 - (a1.length : Int))) < 0)) = true then
  some (-1)
 else
  some (IntKind.i64.wrap (a2 - (a1.length : Int)))
def laws_szDealS_enc (r : Int) : AV := .int .i64 r
theorem laws_szDealS_ok (a1 : List Deal) (a2 : Int) (r : Int) (h : laws_szDealS a1 a2 = some r) : Ev (fun k => CN k 4 [.sl none (a1.map Deal.c), .int .i64 a2] []) (fun p => rRes p.2 p.1 = laws_szDealS_enc r) := by
 unfold laws_szDealS at h
 refine Ev.enter (F := fun k => f4 (CN k) k) (fun k => callN_eq rfl Tryd.func4 rfl rfl rfl (by decide +kernel) (f4_eq _ _)) (sq (Rg (kx (mvO rfl) (Rn (hN rfl (hN rfl hZ)) fun e1 h3 h4 => sN (sq (Rg (kx (mvO h4) (kx (mvO h3) (kx (lnS Tryd.underlying22 rfl) (kx (bSub rfl rfl) (kx (mvO rfl) (Rn (hN rfl hZ) fun e5 h7 => sN (sq (sq (Rg (kx (mvO h7) (kx (bLss rfl rfl) (Rn (hA h7 (hN rfl hZ)) fun e8 h10 h11 => sN ?_))))))))))))))))))
 clear h3 h7
 rcases ite_some h with ⟨hb12, h⟩ | ⟨hb12, h⟩
 ·refine cT h11 hb12 (sq (Rg (kx (mvO rfl) (Rn (hV (.int .i64 (-1)) rfl hZ) fun e13 h15 => sN (xx (sR ?_))))))
  clear h10 h11
  obtain rfl := si h
  exact eR (resT h15 res0) rfl
 refine cF h11 hb12 (xx (sN (sq (Rg (kx (mvO h10) (kx (mvO rfl) (Rn (hN rfl hZ) fun e16 h18 => sN (xx ?_))))))))
 clear h10 h11
 obtain rfl := si h
 exact eR (resT h18 res0) rfl
/-! ### loop.example/g01263/laws.FnExactDealsText (f3) -/
noncomputable def laws_FnExactDealsText (a1 : List Deal) : Option Bool :=
 (laws_szDealS a1 1048576).bind fun r9 =>
 if (decide (r9 < 0)) = true then
  some true
 else
  (laws_toDealS a1).bind fun r23 =>
  (spec_DealsText r23).bind fun r25 =>
  (laws_toDealS a1).bind fun r31 =>
  (impl_DealsText r31).bind fun r38 =>
  if (r38 == r25) = true then
   (laws_toDealS a1).bind fun r52 =>
   (laws_eqDealS r31 r52).bind fun r54 =>
   if r54 = true then
    some true
   else
    some false
  else
   some false
def laws_FnExactDealsText_enc (r : Bool) : AV := .bool r
theorem laws_FnExactDealsText_ok (a1 : List Deal) (r : Bool) (h : laws_FnExactDealsText a1 = some r) : Ev (fun k => CN k 3 [.sl none (a1.map Deal.c)] []) (fun p => rRes p.2 p.1 = laws_FnExactDealsText_enc r) := by
 unfold laws_FnExactDealsText at h
 obtain ⟨r9, hx8, h⟩ := bind_some h
 refine Ev.enter (F := fun k => f3 (CN k) k) (fun k => callN_eq rfl Tryd.func3 rfl rfl rfl (by decide +kernel) (f3_eq _ _)) (sq (Rg (kx (mvO rfl) (Rn (hN rfl hZ) fun e1 h3 => sN (sq (Rg (kx (mvO rfl) (Rn (hA h3 (hV (.int .i64 1048576) rfl hZ)) fun e4 h6 h7 => sN (sq (Rg (kx (mvO h6) (kx (mvO h7) (kc (cl (v := .int .i64 r9) rfl (cns rfl (cns rfl rfl)) rfl (laws_szDealS_ok a1 1048576 _ hx8) nm) (kx (mvO rfl) (Rn (hA h6 (hN rfl hZ)) fun e10 h12 h13 => sN (sq (sq (Rg (kx (mvO h13) (kx (bLss rfl rfl) (Rn (hA h12 (hN rfl hZ)) fun e14 h16 h17 => sN ?_)))))))))))))))))))))
 clear h3 h6 h12 h13
 rcases ite_some h with ⟨hb18, h⟩ | ⟨hb18, h⟩
 ·refine cT h17 hb18 (sq (Rg (kx (mvO rfl) (Rn (hV (.bool true) rfl hZ) fun e19 h21 => sN (xx (sR ?_))))))
  clear h16 h17
  obtain rfl := si h
  exact eR (resT h21 res0) rfl
 obtain ⟨r23, hx22, h⟩ := bind_some h
 obtain ⟨r25, hx24, h⟩ := bind_some h
 obtain ⟨r31, hx30, h⟩ := bind_some h
 obtain ⟨r38, hx37, h⟩ := bind_some h
 refine cF h17 hb18 (xx (sN (sq (Rg (kx (mvO h16) (kc (cl (v := .sl (some 32) (r23.map Deal.c)) rfl (cns rfl rfl) rfl (laws_toDealS_ok a1 _ hx22) nm) (kc (cl (v := .str r25) rfl (cns rfl rfl) rfl (spec_DealsText_ok r23 _ hx24) nm) (kx (mvO rfl) (Rn (hA h16 (hN rfl hZ)) fun e26 h28 h29 => sN (sq (Rg (kx (mvO h28) (kc (cl (v := .sl (some 32) (r31.map Deal.c)) rfl (cns rfl rfl) rfl (laws_toDealS_ok a1 _ hx30) nm) (kx (mvO rfl) (Rn (hA h28 (hA h29 (hN rfl hZ))) fun e32 h34 h35 h36 => sN (sq (Rg (kx (mvO h36) (kc (cl (v := .str r38) rfl (cns rfl rfl) rfl (impl_DealsText_ok r31 _ hx37) nm) (kx (mvO rfl) (Rn (hA h34 (hA h35 (hA h36 (hN rfl hZ)))) fun e39 h41 h42 h43 h44 => sN (sq (sq (Rg (kx (mvO h44) (kx (mvO h42) (kx (sNeq rfl rfl) (Rn (hA h41 (hA h43 (hN rfl hZ))) fun e45 h47 h48 h49 => sN ?_))))))))))))))))))))))))))))
 clear h16 h17 h28 h29 h34 h35 h36 h41 h42 h43 h44
 rcases ite_some h with ⟨hb50, h⟩ | ⟨hb50, h⟩
 ·obtain ⟨r52, hx51, h⟩ := bind_some h
  obtain ⟨r54, hx53, h⟩ := bind_some h
  refine cF h49 (congrArg Bool.not hb50) (xx (sN (sq (sq (Rg (kx (mvO h48) (kx (mvO h47) (kc (cl (v := .sl (some 32) (r52.map Deal.c)) rfl (cns rfl rfl) rfl (laws_toDealS_ok a1 _ hx51) nm) (kc (cl (v := .bool r54) rfl (cns rfl (cns rfl rfl)) rfl (laws_eqDealS_ok r31 r52 _ hx53) nm) (kx (uNot rfl) (Rn (hN rfl hZ) fun e55 h57 => sN ?_)))))))))))
  clear h47 h48 h49
  rcases ite_some h with ⟨hb58, h⟩ | ⟨hb58, h⟩
  ·refine cF h57 (congrArg Bool.not hb58) (xx (sN (sq (Rg (kx (mvO rfl) (Rn (hV (.bool true) rfl hZ) fun e59 h61 => sN (xx ?_)))))))
   clear h57
   obtain rfl := si h
   exact eR (resT h61 res0) rfl
  refine cT h57 (congrArg Bool.not hb58) (sq (Rg (kx (mvO rfl) (Rn (hV (.bool false) rfl hZ) fun e62 h64 => sN (xx (sR ?_))))))
  clear h57
  obtain rfl := si h
  exact eR (resT h64 res0) rfl
 refine cT h49 (congrArg Bool.not hb50) (sq (Rg (kx (mvO rfl) (Rn (hV (.bool false) rfl hZ) fun e65 h67 => sN (xx (sR ?_))))))
 clear h47 h48 h49
 obtain rfl := si h
 exact eR (resT h67 res0) rfl
end Go.Proofs.YtkkmbehooldmjaaDoor

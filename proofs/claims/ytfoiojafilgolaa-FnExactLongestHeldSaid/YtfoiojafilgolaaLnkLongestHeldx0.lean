/- Printed by a program of ours (ext.py). -/
import Derived.Test.YtfoiojafilgolaaFnsLongestHeld
set_option linter.unusedVariables false
set_option linter.unusedSimpArgs false
set_option maxRecDepth 100000
set_option maxHeartbeats 2000000
namespace Go.Proofs.Ytfoiojafilgolaa
open Go Go.Ab
structure Tally where
  Debtor : Int
  Holder : Int
  Cut : Int
  Amount : Int
  Left : Int
  deriving DecidableEq
def Tally.c (x : Tally) : List AV := [.int .i64 x.Debtor, .int .i64 x.Holder, .int .i64 x.Cut, .int .i64 x.Amount, .int .i64 x.Left]
theorem Tally.fl : Fl Tally.c 5 := fun _ => ⟨rfl, rfl⟩
theorem Tally.flF : FlF Tally.c := fun _ => rfl
structure Book where
  Day : Int
  Cash : List Int
  Tallies : List Tally
  deriving DecidableEq
def Book.c (x : Book) : List AV := [.int .i64 x.Day, .sl none (x.Cash.map (cI .i64)), .sl none (x.Tallies.map Tally.c)]
theorem Book.fl : Fl Book.c 3 := fun _ => ⟨rfl, rfl⟩
def Book.o (x : Book) : List AV := [.int .i64 x.Day, .sl (some 2) (x.Cash.map (cI .i64)), .sl (some 110) (x.Tallies.map Tally.c)]
theorem Book.oc : FlC Book.o 3 := fun x => ⟨rfl, rfl, by simp only [Book.o, List.all_cons, List.all_nil, nOk_int, nOk_bool, nOk_str, nOk_sl (c := (cI .i64)) (fun _ => rfl), nOk_sl (c := Tally.c) Tally.flF, Bool.and_self], rfl⟩
structure Deal where
  Day : Int
  Kind : Int
  Tally : Int
  From : Int
  To : Int
  Amount : Int
  deriving DecidableEq
def Deal.c (x : Deal) : List AV := [.int .i64 x.Day, .int .i8 x.Kind, .int .i64 x.Tally, .int .i64 x.From, .int .i64 x.To, .int .i64 x.Amount]
theorem Deal.fl : Fl Deal.c 6 := fun _ => ⟨rfl, rfl⟩
theorem Deal.flF : FlF Deal.c := fun _ => rfl
theorem co110 : cx.P.cellsOf 110 = 5 := by kernel_rfl
theorem co2 : cx.P.cellsOf 2 = 1 := by kernel_rfl
theorem zero100 : zeroOf cx.P 100 = [.nils] := by kernel_rfl
theorem zero110 : zeroOf cx.P 110 = [.int .i64 0, .int .i64 0, .int .i64 0, .int .i64 0, .int .i64 0] := by kernel_rfl
theorem zero114 : zeroOf cx.P 114 = [.int .i64 0, .int .i8 0, .int .i64 0, .int .i64 0, .int .i64 0, .int .i64 0] := by kernel_rfl
theorem zero2 : zeroOf cx.P 2 = [.int .i64 0] := by kernel_rfl
theorem zero24 : zeroOf cx.P 24 = [.nils] := by kernel_rfl
theorem zero4 : zeroOf cx.P 4 = [.bool false] := by kernel_rfl
theorem zero50 : zeroOf cx.P 50 = [.int .i64 0, .nils, .nils] := by kernel_rfl
/-! ### loop.example/g01263/impl.uses (f164) -/
noncomputable def impl_uses (a1 : Int) : Option (Bool × Bool × Bool × Bool) :=
 if (a1 == 1) = true then
  some (false, true, true, true)
 else
  if (a1 == 2) = true then
   some (true, true, true, false)
  else
   if (a1 == 3) = true then
    some (true, false, false, true)
   else
    some (true, true, false, false)
def impl_uses_enc (r : Bool × Bool × Bool × Bool) : AV := .tup [.bool r.1, .bool r.2.1, .bool r.2.2.1, .bool r.2.2.2]
theorem impl_uses_ok (a1 : Int) (r : Bool × Bool × Bool × Bool) (h : impl_uses a1 = some r) : Ev (fun k => CN k 164 [.int .i8 a1] []) (fun p => rRes p.2 p.1 = impl_uses_enc r) := by
 unfold impl_uses at h
 refine Ev.enter (F := fun k => f164 (CN k) k) (fun k => callN_eq rfl Try.func164 rfl rfl rfl (by decide +kernel) (f164_eq _ _)) (sq (Rg (kx (mvO rfl) (kx (mvO rfl) (kx (mvO rfl) (kx (mvO rfl) (Rn (hN rfl hZ) fun e1 h3 => sN (sq (sq (Rg (kx (mvO h3) (Rn (hN rfl hZ) fun e4 h6 => sN (bl (sq (Rg (kx (bEql h6 rfl) (kx (mvO rfl) (Rn (hA h6 (hN rfl hZ)) fun e7 h9 h10 => sN ?_))))))))))))))))))
 clear h3 h6
 rcases ite_some h with ⟨hb11, h⟩ | ⟨hb11, h⟩
 ·refine cT h10 hb11 (sq (Rg (kx (mvO rfl) (kx (mvO rfl) (kx (mvO rfl) (kx (mvO rfl) (Rn (hV (.bool false) rfl (hV (.bool true) rfl (hV (.bool true) rfl (hV (.bool true) rfl hZ)))) fun e12 h14 h15 h16 h17 => sN (xx (bR (sR ?_))))))))))
  clear h10 h9
  obtain rfl := si h
  exact eR (resT h14 (resT h15 (resT h16 (resT h17 res0)))) rfl
 refine cF h10 hb11 (sq (Rg (kx (bEql h9 rfl) (kx (mvO rfl) (Rn (hA h9 (hN rfl hZ)) fun e18 h20 h21 => sN ?_)))))
 clear h10 h9
 rcases ite_some h with ⟨hb22, h⟩ | ⟨hb22, h⟩
 ·refine cT h21 hb22 (sq (Rg (kx (mvO rfl) (kx (mvO rfl) (kx (mvO rfl) (kx (mvO rfl) (Rn (hV (.bool true) rfl (hV (.bool true) rfl (hV (.bool true) rfl (hV (.bool false) rfl hZ)))) fun e23 h25 h26 h27 h28 => sN (xx (bR (sR ?_))))))))))
  clear h20 h21
  obtain rfl := si h
  exact eR (resT h25 (resT h26 (resT h27 (resT h28 res0)))) rfl
 refine cF h21 hb22 (sq (Rg (kx (bEql h20 rfl) (kx (mvO rfl) (Rn (hN rfl hZ) fun e29 h31 => sN ?_)))))
 clear h20 h21
 rcases ite_some h with ⟨hb32, h⟩ | ⟨hb32, h⟩
 ·refine cT h31 hb32 (sq (Rg (kx (mvO rfl) (kx (mvO rfl) (kx (mvO rfl) (kx (mvO rfl) (Rn (hV (.bool true) rfl (hV (.bool false) rfl (hV (.bool false) rfl (hV (.bool true) rfl hZ)))) fun e33 h35 h36 h37 h38 => sN (xx (bR (sR ?_))))))))))
  clear h31
  obtain rfl := si h
  exact eR (resT h35 (resT h36 (resT h37 (resT h38 res0)))) rfl
 refine cF h31 hb32 (xx (bN (sN (sq (Rg (kx (mvO rfl) (kx (mvO rfl) (kx (mvO rfl) (kx (mvO rfl) (Rn (hV (.bool true) rfl (hV (.bool true) rfl (hV (.bool false) rfl (hV (.bool false) rfl hZ)))) fun e39 h41 h42 h43 h44 => sN (xx ?_)))))))))))
 clear h31
 obtain rfl := si h
 exact eR (resT h41 (resT h42 (resT h43 (resT h44 res0)))) rfl
/-! ### loop.example/g01263/impl.ValidDeal$1 (f163) -/
noncomputable def impl_ValidDeal_1 (a1 : Bool) (a2 : Int) (a3 : Int) (a4 : Int) : Option Bool :=
 if a1 = true then
  if (decide (a2 ≥ a3)) = true then
   if (decide (a2 ≤ a4)) = true then
    some true
   else
    some false
  else
   some false
 else
  some (a2 == 0)
def impl_ValidDeal_1_enc (r : Bool) : AV := .bool r
theorem impl_ValidDeal_1_ok (a1 : Bool) (a2 : Int) (a3 : Int) (a4 : Int) (r : Bool) (h : impl_ValidDeal_1 a1 a2 a3 a4 = some r) : Ev (fun k => CN k 163 [.bool a1, .int .i64 a2, .int .i64 a3, .int .i64 a4] []) (fun p => rRes p.2 p.1 = impl_ValidDeal_1_enc r) := by
 unfold impl_ValidDeal_1 at h
 refine Ev.enter (F := fun k => f163 (CN k) k) (fun k => callN_eq rfl Try.func163 rfl rfl rfl (by decide +kernel) (f163_eq _ _)) (sq (Rg (kx (mvO rfl) (Rn (hN rfl (hN rfl (hN rfl (hN rfl hZ)))) fun e1 h3 h4 h5 h6 => sN (sq (Rg (kx (mvO h3) (kx (mvO rfl) ?_))))))))
 rcases ite_some h with ⟨hb7, h⟩ | ⟨hb7, h⟩
 ·refine kx (guT rfl hb7 (mvO h4)) (kx (guT rfl hb7 (mvO h5)) (kx (guT rfl hb7 (bGeq rfl rfl)) (kx (pkT rfl hb7 rfl) (kx (mvO rfl) ?_))))
  rcases ite_some h with ⟨hb8, h⟩ | ⟨hb8, h⟩
  ·refine kx (guT rfl hb8 (mvO h4)) (kx (guT rfl hb8 (mvO h6)) (kx (guT rfl hb8 (bLeq rfl rfl)) (kx (pkT rfl hb8 rfl) (kx (mvO rfl) ?_))))
   rcases ite_some h with ⟨hb9, h⟩ | ⟨hb9, h⟩
   ·refine kx (gsF rfl hb9) (kx (gsF rfl hb9) (kx (gsF rfl hb9) (kx (gsU rfl) (kx (gsU rfl) (kx (gsF rfl hb9) (kx (pkT rfl hb9 rfl) (kx (mvO rfl) (Rn (hV (.bool true) rfl hZ) fun e10 h12 => sN (xx ?_)))))))))
    clear h3 h4 h5 h6
    obtain rfl := si h
    exact eR (resT h12 res0) rfl
   refine kx (guF rfl hb9 (mvO h3)) (kx (guF rfl hb9 (uNot rfl)) (kx (guF rfl hb9 (mvO rfl)) (kx (gsT rfl (congrArg Bool.not hb7)) (kx (gsT rfl (congrArg Bool.not hb7)) (kx (guF rfl hb9 (pkF rfl (congrArg Bool.not hb7) rfl)) (kx (pkF rfl hb9 rfl) (kx (mvO rfl) (Rn (hV (.bool false) rfl hZ) fun e13 h15 => sN (xx ?_)))))))))
   clear h3 h4 h5 h6
   obtain rfl := si h
   exact eR (resT h15 res0) rfl
  refine kx (gsT rfl hb8) (kx (gsT rfl hb8) (kx (gsT rfl hb8) (kx (pkF rfl hb8 rfl) (kx (mvO rfl) (kx (guF rfl rfl (mvO h3)) (kx (guF rfl rfl (uNot rfl)) (kx (guF rfl rfl (mvO rfl)) (kx (gsT rfl (congrArg Bool.not hb7)) (kx (gsT rfl (congrArg Bool.not hb7)) (kx (guF rfl rfl (pkF rfl (congrArg Bool.not hb7) rfl)) (kx (pkF rfl rfl rfl) (kx (mvO rfl) (Rn (hV (.bool false) rfl hZ) fun e16 h18 => sN (xx ?_))))))))))))))
  clear h3 h4 h5 h6
  obtain rfl := si h
  exact eR (resT h18 res0) rfl
 refine kx (gsT rfl hb7) (kx (gsT rfl hb7) (kx (gsT rfl hb7) (kx (pkF rfl hb7 rfl) (kx (mvO rfl) (kx (gsT rfl rfl) (kx (gsT rfl rfl) (kx (gsT rfl rfl) (kx (pkF rfl rfl rfl) (kx (mvO rfl) (kx (guF rfl rfl (mvO h3)) (kx (guF rfl rfl (uNot rfl)) (kx (guF rfl rfl (mvO rfl)) (kx (guT rfl (congrArg Bool.not hb7) (mvO h4)) (kx (guT rfl (congrArg Bool.not hb7) (bEql rfl rfl)) (kx (guF rfl rfl (pkT rfl (congrArg Bool.not hb7) rfl)) (kx (pkF rfl rfl rfl) (kx (mvO rfl) (Rn (hN rfl hZ) fun e19 h21 => sN (xx ?_)))))))))))))))))))
 clear h3 h4 h5 h6
 obtain rfl := si h
 exact eR (resT h21 res0) rfl
/-! ### slices.Clone[[]loop.example/g01263/impl.Tally,loop.example/g01263/impl.Tally] (f153) -/
noncomputable def slices_Clone_Tally (a1 : List Tally) : Option ((List Tally)) :=
 (app 40 ([] : List Tally) a1).bind fun x8 =>
 some x8
def slices_Clone_Tally_enc (r : (List Tally)) : AV := .sl (some 110) (r.map Tally.c)
theorem slices_Clone_Tally_ok (a1 : List Tally) (r : (List Tally)) (h : slices_Clone_Tally a1 = some r) : Ev (fun k => CN k 153 [.sl none (a1.map Tally.c)] []) (fun p => rRes p.2 p.1 = slices_Clone_Tally_enc r) := by
  refine Ev.prim rfl ?_
  by_cases hn : a1 = []
  · subst hn
    have e : r = [] := by simpa [slices_Clone_Tally, app] using h.symm
    subst e
    exact Ev.nilBoth (by kernel_rfl) (by kernel_rfl)
  · have hp : 0 < a1.length := List.length_pos_iff.2 hn
    refine Ev.nilNot (by simpa using hn) ?_
    unfold slices_Clone_Tally at h
    obtain ⟨x8, hx9, h⟩ := bind_some h
    refine Ev.enter0 (F := fun _ => f153 (CN0 2) 2) (fun k => callN_eq rfl Try.func153 rfl rfl rfl (by decide +kernel) (f153_eq _ _)) (sq (Rg (kx (mvO rfl) (Rn (hN rfl hZ) fun e1 h3 => sN (sq (sq (Rg (kx (mvO h3) (kx (bNilF Try.underlying48 hp rfl rfl) (Rn (hA h3 (hV (.bool false) rfl hZ)) fun e4 h6 h7 => sN (cF h7 rfl (xx (sN (sq (Rg (kx (litI rfl rfl ⟨rfl, by decide⟩) (kx (mvO h6) (kx (aiT (c := Tally.c) (xs := ([] : List Tally)) rfl (elS rfl) hx9 Tally.fl (by decide)) (kx (mvO rfl) (Rn (hN rfl hZ) fun e10 h12 => sN (xx ?_)))))))))))))))))))))
    clear h3 h6 h7
    obtain rfl := si h
    exact eR (resT h12 res0) rfl
/-! ### slices.Clone[[]int64,int64] (f152) -/
noncomputable def slices_Clone_int64 (a1 : List Int) : Option ((List Int)) :=
 (app 8 ([] : List Int) a1).bind fun x8 =>
 some x8
def slices_Clone_int64_enc (r : (List Int)) : AV := .sl (some 2) (r.map (cI .i64))
theorem slices_Clone_int64_ok (a1 : List Int) (r : (List Int)) (h : slices_Clone_int64 a1 = some r) : Ev (fun k => CN k 152 [.sl none (a1.map (cI .i64))] []) (fun p => rRes p.2 p.1 = slices_Clone_int64_enc r) := by
  refine Ev.prim rfl ?_
  by_cases hn : a1 = []
  · subst hn
    have e : r = [] := by simpa [slices_Clone_int64, app] using h.symm
    subst e
    exact Ev.nilBoth (by kernel_rfl) (by kernel_rfl)
  · have hp : 0 < a1.length := List.length_pos_iff.2 hn
    refine Ev.nilNot (by simpa using hn) ?_
    unfold slices_Clone_int64 at h
    obtain ⟨x8, hx9, h⟩ := bind_some h
    refine Ev.enter0 (F := fun _ => f152 (CN0 2) 2) (fun k => callN_eq rfl Try.func152 rfl rfl rfl (by decide +kernel) (f152_eq _ _)) (sq (Rg (kx (mvO rfl) (Rn (hN rfl hZ) fun e1 h3 => sN (sq (sq (Rg (kx (mvO h3) (kx (bNilF Try.underlying24 hp rfl rfl) (Rn (hA h3 (hV (.bool false) rfl hZ)) fun e4 h6 h7 => sN (cF h7 rfl (xx (sN (sq (Rg (kx (litI rfl rfl ⟨rfl, by decide⟩) (kx (mvO h6) (kx (aiT (c := (cI .i64)) (xs := ([] : List Int)) rfl (elS rfl) hx9 (cI_fl _) (by decide)) (kx (mvO rfl) (Rn (hN rfl hZ) fun e10 h12 => sN (xx ?_)))))))))))))))))))))
    clear h3 h6 h7
    obtain rfl := si h
    exact eR (resT h12 res0) rfl
/-! ### loop.example/g01263/impl.ownBook (f123) -/
noncomputable def impl_ownBook (a1 : Book) : Option (Int × (List Int) × (List Tally)) :=
 (slices_Clone_int64 a1.Cash).bind fun r16 =>
 (slices_Clone_Tally a1.Tallies).bind fun r26 =>
 some (a1.Day, r16, r26)
def impl_ownBook_enc (r : Int × (List Int) × (List Tally)) : AV := .agg [.int .i64 r.1, .sl (some 2) (r.2.1.map (cI .i64)), .sl (some 110) (r.2.2.map Tally.c)]
theorem impl_ownBook_ok (a1 : Book) (r : Int × (List Int) × (List Tally)) (h : impl_ownBook a1 = some r) : Ev (fun k => CN k 123 [.agg [.int .i64 a1.Day, .sl none (a1.Cash.map (cI .i64)), .sl none (a1.Tallies.map Tally.c)]] []) (fun p => rRes p.2 p.1 = impl_ownBook_enc r) := by
 unfold impl_ownBook at h
 refine Ev.enter (F := fun k => f123 (CN k) k) (fun k => callN_eq rfl Try.func123 rfl rfl rfl (by decide +kernel) (f123_eq _ _)) (sq (Rg (ku (bxO rfl rfl ⟨rfl, rfl, by decide⟩) fun M2 hM3 => ?_)))
 have o4 : M2[([] : Mem).length]? = some (.live ⟨.box, 50, 3, [[.int .i64 a1.Day, .sl none (a1.Cash.map (cI .i64)), .sl none (a1.Tallies.map Tally.c)]]⟩) := push_new hM3
 refine ku (alO zero50) fun M6 hM7 => ?_
 have o8 := push_old hM7 o4
 have ne9 := ne_new o4
 have o10 : M6[M2.length]? = some (.live ⟨.box, 50, 3, [[.int .i64 0, .nils, .nils]]⟩) := push_new hM7
 obtain ⟨r16, hx15, h⟩ := bind_some h
 refine Rn (hV (.loc ([] : Mem).length 1 0 0) rfl (hV (.loc M2.length 1 0 0) rfl hZ)) fun e11 h13 h14 => sN (sq (Rg (kx (faO h13 o8 rfl) (kx (ldO rfl o8 rfl rfl rfl) (kc (cl (v := .sl (some 2) (r16.map (cI .i64))) rfl (cns rfl rfl) rfl (slices_Clone_int64_ok a1.Cash _ hx15) nm) (kx (faO h13 o8 rfl) (kw (stOK rfl rfl o8 rfl rfl ⟨rfl, ble rfl⟩ rfl rfl) fun M17 hM18 => ?_)))))))
 have o19 : M17[([] : Mem).length]? = some (.live ⟨.box, 50, 3, [[.int .i64 a1.Day, .sl (some 2) (r16.map (cI .i64)), .sl none (a1.Tallies.map Tally.c)]]⟩) := set_same hM18 o8
 have o20 := set_ne hM18 (Ne.symm ne9) o10
 obtain ⟨r26, hx25, h⟩ := bind_some h
 refine Rn (hA h13 (hA h14 hZ)) fun e21 h23 h24 => sN (sq (Rg (kx (faO h23 o19 rfl) (kx (ldO rfl o19 rfl rfl rfl) (kc (cl (v := .sl (some 110) (r26.map Tally.c)) rfl (cns rfl rfl) rfl (slices_Clone_Tally_ok a1.Tallies _ hx25) nm) (kx (faO h23 o19 rfl) (kw (stOK rfl rfl o19 rfl rfl ⟨rfl, ble rfl⟩ rfl rfl) fun M27 hM28 => ?_)))))))
 clear h13 h14
 have o29 : M27[([] : Mem).length]? = some (.live ⟨.box, 50, 3, [[.int .i64 a1.Day, .sl (some 2) (r16.map (cI .i64)), .sl (some 110) (r26.map Tally.c)]]⟩) := set_same hM28 o19
 have o30 := set_ne hM28 (Ne.symm ne9) o20
 refine Rn (hA h23 (hA h24 hZ)) fun e31 h33 h34 => sN (sq (Rg (kx (ldOA h33 o29 rfl rfl (ble rfl) rfl) (kw (stOK h34 rfl o30 rfl rfl ⟨rfl, ble rfl⟩ rfl rfl) fun M35 hM36 => ?_))))
 clear h23 h24
 have o37 := set_ne hM36 ne9 o29
 have o38 : M35[M2.length]? = some (.live ⟨.box, 50, 3, [[.int .i64 a1.Day, .sl (some 2) (r16.map (cI .i64)), .sl (some 110) (r26.map Tally.c)]]⟩) := set_same hM36 o30
 refine Rn (hA h34 hZ) fun e39 h41 => sN (xx ?_)
 clear h33 h34
 obtain rfl := si h
 exact eR (resC (ag := true) (sz := 3) ⟨by kernel_rfl, by kernel_rfl, by kernel_rfl⟩ (ldOA h41 o38 rfl rfl (ble rfl) rfl) res0) rfl
/-! ### loop.example/g01263/impl.do (f151) -/
def impl_do_c1_Q (a1 : Book) (a2 : Deal) (r33 : Bool) (r34 : Bool) (i901_1 : Nat) (i901_2 : Nat) (r : Unit ⊕ Bool) (q : Out) : Prop :=
  match r with
  | (.inl g) => q.1 = .ret ∧ eget q.2.1 4 = .loc i901_2 1 0 0 ∧ eget q.2.1 5 = .int .i64 2 ∧ q.2.2[i901_2]? = some (.live ⟨.box, 50, 3, [[.int .i64 0, .nils, .nils]]⟩)
  | (.inr g) => q.1 = .nrm ∧ eget q.2.1 2 = .loc i901_1 1 0 0 ∧ eget q.2.1 3 = .pt none [.int .i64 a2.Day, .int .i8 a2.Kind, .int .i64 a2.Tally, .int .i64 a2.From, .int .i64 a2.To, .int .i64 a2.Amount] ∧ eget q.2.1 4 = .loc i901_2 1 0 0 ∧ eget q.2.1 7 = .bool r33 ∧ eget q.2.1 8 = .bool r34 ∧ eget q.2.1 55 = .bool g ∧ q.2.2[i901_1]? = some (.live ⟨.box, 50, 3, [[.int .i64 a1.Day, .sl none (a1.Cash.map (cI .i64)), .sl none (a1.Tallies.map Tally.c)]]⟩) ∧ q.2.2[i901_2]? = some (.live ⟨.box, 50, 3, [[.int .i64 0, .nils, .nils]]⟩)
def impl_do_c2_Q (a1 : Book) (a2 : Deal) (r33 : Bool) (i902_1 : Nat) (i902_2 : Nat) (r : Unit ⊕ Bool) (q : Out) : Prop :=
  match r with
  | (.inl g) => q.1 = .ret ∧ eget q.2.1 4 = .loc i902_2 1 0 0 ∧ eget q.2.1 5 = .int .i64 4 ∧ q.2.2[i902_2]? = some (.live ⟨.box, 50, 3, [[.int .i64 0, .nils, .nils]]⟩)
  | (.inr g) => q.1 = .nrm ∧ eget q.2.1 2 = .loc i902_1 1 0 0 ∧ eget q.2.1 3 = .pt none [.int .i64 a2.Day, .int .i8 a2.Kind, .int .i64 a2.Tally, .int .i64 a2.From, .int .i64 a2.To, .int .i64 a2.Amount] ∧ eget q.2.1 4 = .loc i902_2 1 0 0 ∧ eget q.2.1 7 = .bool r33 ∧ eget q.2.1 67 = .bool g ∧ q.2.2[i902_1]? = some (.live ⟨.box, 50, 3, [[.int .i64 a1.Day, .sl none (a1.Cash.map (cI .i64)), .sl none (a1.Tallies.map Tally.c)]]⟩) ∧ q.2.2[i902_2]? = some (.live ⟨.box, 50, 3, [[.int .i64 0, .nils, .nils]]⟩)
def impl_do_c3_Q (a2 : Deal) (r278 : List Int) (r279 : List Tally) (i903_1 : Nat) (i903_2 : Nat) (i903_3 : Nat) (i903_4 : Nat) (r : Unit ⊕ Bool) (q : Out) : Prop :=
  match r with
  | (.inl g) => q.1 = .ret ∧ eget q.2.1 4 = .loc i903_2 1 0 0 ∧ eget q.2.1 5 = .int .i64 4 ∧ q.2.2[i903_2]? = some (.live ⟨.box, 50, 3, [[.int .i64 0, .nils, .nils]]⟩)
  | (.inr g) => q.1 = .nrm ∧ eget q.2.1 2 = .loc i903_1 1 0 0 ∧ eget q.2.1 3 = .pt none [.int .i64 a2.Day, .int .i8 a2.Kind, .int .i64 a2.Tally, .int .i64 a2.From, .int .i64 a2.To, .int .i64 a2.Amount] ∧ eget q.2.1 4 = .loc i903_2 1 0 0 ∧ eget q.2.1 11 = .loc (i903_3 + 1) r279.length (0 + a2.Tally.toNat) 0 ∧ eget q.2.1 134 = .bool g ∧ q.2.2[i903_1]? = some (.live ⟨.box, 50, 3, [[.int .i64 a2.Day, .lsl i903_3 r278.length 0 r278.length, .lsl (i903_3 + 1) r279.length 0 r279.length]]⟩) ∧ q.2.2[i903_3]? = some (.live ⟨.grow, 2, 1, r278.map (cI .i64)⟩) ∧ q.2.2[(i903_3 + 1)]? = some (.live ⟨.grow, 110, 5, r279.map Tally.c⟩) ∧ q.2.2[i903_2]? = some (.live ⟨.box, 50, 3, [[.int .i64 0, .nils, .nils]]⟩)
noncomputable def impl_do (a1 : Book) (a2 : Deal) : Option (Int ⊕ (Int × (List Int) × (List Tally))) :=
 if (decide (a2.Day < a1.Day)) = true then
  some (.inl 4)
 else
  (impl_uses a2.Kind).bind fun (r32, r33, r34, r35) =>
  ((if r33 = true then
   if (decide (a2.From ≥ (a1.Cash.length : Int))) = true then
    some (.inl ())
   else
    if r34 = true then
     if (decide (a2.To ≥ (a1.Cash.length : Int))) = true then
      some (.inl ())
     else
      if r32 = true then
       if (decide (a2.Tally ≥ (a1.Tallies.length : Int))) = true then
        some (.inl ())
       else
        some (.inr (decide (a2.Tally ≥ (a1.Tallies.length : Int))))
      else
       some (.inr false)
    else
     if r32 = true then
      if (decide (a2.Tally ≥ (a1.Tallies.length : Int))) = true then
       some (.inl ())
      else
       some (.inr (decide (a2.Tally ≥ (a1.Tallies.length : Int))))
     else
      some (.inr false)
  else
   if r34 = true then
    if (decide (a2.To ≥ (a1.Cash.length : Int))) = true then
     some (.inl ())
    else
     if r32 = true then
      if (decide (a2.Tally ≥ (a1.Tallies.length : Int))) = true then
       some (.inl ())
      else
       some (.inr (decide (a2.Tally ≥ (a1.Tallies.length : Int))))
     else
      some (.inr false)
   else
    if r32 = true then
     if (decide (a2.Tally ≥ (a1.Tallies.length : Int))) = true then
      some (.inl ())
     else
      some (.inr (decide (a2.Tally ≥ (a1.Tallies.length : Int))))
    else
     some (.inr false) : Option (Unit ⊕ Bool))).bind fun r => match r with
  | (.inl _) =>
   some (.inl 2)
  | (.inr y219) =>
   ((if r33 = true then
    if r34 = true then
     if (a2.From == a2.To) = true then
      some (.inl ())
     else
      some (.inr (a2.From == a2.To))
    else
     some (.inr false)
   else
    some (.inr false) : Option (Unit ⊕ Bool))).bind fun r => match r with
   | (.inl _) =>
    some (.inl 4)
   | (.inr y268) =>
    (impl_ownBook a1).bind fun (r277, r278, r279) =>
    if (a2.Kind == 1) = true then
     if ((r279.length : Int) == 40) = true then
      some (.inl 3)
     else
      (app 40 r279 [(Tally.mk a2.From a2.To a2.Day a2.Amount a2.Amount)]).bind fun x342 =>
      some (.inr (a2.Day, r278, x342))
    else
     (rd r279 a2.Tally).bind fun x370 =>
     ((if r33 = true then
      if (a2.From != x370.Holder) = true then
       some (.inl ())
      else
       if (x370.Left == 0) = true then
        some (.inl ())
       else
        if (a2.Kind == 3) = true then
         if (decide (a2.Amount > x370.Left)) = true then
          some (.inl ())
         else
          some (.inr (decide (a2.Amount > x370.Left)))
        else
         some (.inr false)
     else
      if (x370.Left == 0) = true then
       some (.inl ())
      else
       if (a2.Kind == 3) = true then
        if (decide (a2.Amount > x370.Left)) = true then
         some (.inl ())
        else
         some (.inr (decide (a2.Amount > x370.Left)))
       else
        some (.inr false) : Option (Unit ⊕ Bool))).bind fun r => match r with
     | (.inl _) =>
      some (.inl 4)
     | (.inr y494) =>
      if (a2.Kind == 2) = true then
       if (a2.To == ((Tally.mk x370.Debtor a2.To x370.Cut x370.Amount x370.Left)).Debtor) = true then
        some (.inr (a2.Day, r278, ((r279.set a2.Tally.toNat (Tally.mk x370.Debtor a2.To x370.Cut x370.Amount x370.Left)).set a2.Tally.toNat (Tally.mk ((Tally.mk x370.Debtor a2.To x370.Cut x370.Amount x370.Left)).Debtor ((Tally.mk x370.Debtor a2.To x370.Cut x370.Amount x370.Left)).Holder ((Tally.mk x370.Debtor a2.To x370.Cut x370.Amount x370.Left)).Cut ((Tally.mk x370.Debtor a2.To x370.Cut x370.Amount x370.Left)).Amount 0))))
       else
        some (.inr (a2.Day, r278, (r279.set a2.Tally.toNat (Tally.mk x370.Debtor a2.To x370.Cut x370.Amount x370.Left))))
      else
       if (a2.Kind == 3) = true then
        (rd r278 x370.Debtor).bind fun x580 =>
        if (decide (x580 < a2.Amount)) = true then
         some (.inl 8)
        else
         (rd r278 x370.Debtor).bind fun x600 =>
         (rd r278 x370.Debtor).bind fun x602 =>
         (rd (r278.set x370.Debtor.toNat (IntKind.i64.wrap (x600 - a2.Amount))) x370.Holder).bind fun x617 =>
         (rd (r278.set x370.Debtor.toNat (IntKind.i64.wrap (x600 - a2.Amount))) x370.Holder).bind fun x619 =>
         (rd ((r278.set x370.Debtor.toNat (IntKind.i64.wrap (x600 - a2.Amount))).set x370.Holder.toNat (IntKind.i64.wrap (x617 + a2.Amount))) (((Tally.mk x370.Debtor x370.Holder x370.Cut x370.Amount (IntKind.i64.wrap (x370.Left - a2.Amount)))).Holder)).bind fun x646 =>
         if (decide (x646 > 100000000)) = true then
          some (.inl 3)
         else
          some (.inr (a2.Day, ((r278.set x370.Debtor.toNat (IntKind.i64.wrap (x600 - a2.Amount))).set x370.Holder.toNat (IntKind.i64.wrap (x617 + a2.Amount))), (r279.set a2.Tally.toNat (Tally.mk x370.Debtor x370.Holder x370.Cut x370.Amount (IntKind.i64.wrap (x370.Left - a2.Amount))))))
       else
        if (a2.Kind == 4) = true then
         some (.inr (a2.Day, r278, (r279.set a2.Tally.toNat (Tally.mk x370.Debtor x370.Holder x370.Cut x370.Amount 0))))
        else
         some (.inr (a2.Day, r278, r279))
def impl_do_enc (r : Int ⊕ (Int × (List Int) × (List Tally))) : AV :=
  match r with
  | (.inl g) => .tup [.agg [.int .i64 0, .nils, .nils], .int .i64 g]
  | (.inr g) => .tup [.agg [.int .i64 g.1, .sl (some 2) (g.2.1.map (cI .i64)), .sl (some 110) (g.2.2.map Tally.c)], .int .i64 0]
theorem impl_do_ok (a1 : Book) (a2 : Deal) (r : Int ⊕ (Int × (List Int) × (List Tally))) (h : impl_do a1 a2 = some r) : Ev (fun k => CN k 151 [.agg [.int .i64 a1.Day, .sl none (a1.Cash.map (cI .i64)), .sl none (a1.Tallies.map Tally.c)], .agg [.int .i64 a2.Day, .int .i8 a2.Kind, .int .i64 a2.Tally, .int .i64 a2.From, .int .i64 a2.To, .int .i64 a2.Amount]] []) (fun p => rRes p.2 p.1 = impl_do_enc r) := by
 unfold impl_do at h
 refine Ev.enter (F := fun k => f151 (CN k) k) (fun k => callN_eq rfl Try.func151 rfl rfl rfl (by decide +kernel) (f151_eq _ _)) (sq (Rg (ku (bxO rfl rfl ⟨rfl, rfl, by decide⟩) fun M2 hM3 => ?_)))
 have o4 : M2[([] : Mem).length]? = some (.live ⟨.box, 50, 3, [[.int .i64 a1.Day, .sl none (a1.Cash.map (cI .i64)), .sl none (a1.Tallies.map Tally.c)]]⟩) := push_new hM3
 refine kx (bxI rfl rfl ⟨rfl, rfl, by decide⟩) (ku (alO zero50) fun M6 hM7 => ?_)
 have o8 := push_old hM7 o4
 have ne9 := ne_new o4
 have o10 : M6[M2.length]? = some (.live ⟨.box, 50, 3, [[.int .i64 0, .nils, .nils]]⟩) := push_new hM7
 refine kx (mvO rfl) (Rn (hV (.loc ([] : Mem).length 1 0 0) rfl (hN rfl (hV (.loc M2.length 1 0 0) rfl hZ))) fun e11 h13 h14 h15 => sN (sq (sq (Rg (kx (faP h14 ⟨ble rfl, blt rfl⟩ rfl) (kx (ldP rfl rfl) (kx (faO h13 o8 rfl) (kx (ldO rfl o8 rfl rfl rfl) (kx (bLss rfl rfl) (Rn (hA h13 (hA h14 (hA h15 (hN rfl hZ)))) fun e16 h18 h19 h20 h21 => sN ?_))))))))))
 clear h13 h14 h15
 rcases ite_some h with ⟨hb22, h⟩ | ⟨hb22, h⟩
 ·refine cT h21 hb22 (sq (Rg (kx (bldT zero50 rfl (fill0 rfl)) (kw (stO h20 rfl o10 rfl rfl ⟨rfl, ble rfl⟩ rfl rfl) fun M23 hM24 => ?_))))
  have o25 := set_ne hM24 ne9 o8
  have o26 : M23[M2.length]? = some (.live ⟨.box, 50, 3, [[.int .i64 0, .nils, .nils]]⟩) := set_same hM24 o10
  refine kx (mvO rfl) (Rn (hA h20 (hV (.int .i64 4) rfl hZ)) fun e27 h29 h30 => sN (xx (sR ?_)))
  clear h18 h19 h20 h21
  obtain rfl := si h
  exact eR (resC (ag := true) (sz := 3) ⟨by kernel_rfl, by kernel_rfl, by kernel_rfl⟩ (ldOA h29 o26 rfl rfl (ble rfl) rfl) (resT h30 res0)) rfl
 obtain ⟨⟨r32, r33, r34, r35⟩, hx31, h⟩ := bind_some h
 obtain ⟨r719, hr720, h⟩ := bind_some h
 refine cF h21 hb22 (xx (sN (sq (Rg (kx (faP h19 ⟨ble rfl, blt rfl⟩ rfl) (kx (ldP rfl rfl) (kc (cl (v := .tup [.bool r32, .bool r33, .bool r34, .bool r35]) rfl (cns rfl rfl) rfl (impl_uses_ok a2.Kind _ hx31) nm) (kx (mvO rfl) (kx (exT rfl rfl) (kx (exT rfl rfl) (kx (exT rfl rfl) (kx (exT rfl rfl) (kx (mvO rfl) (kx (mvO rfl) (kx (mvO rfl) (kx (mvO rfl) (Rn (hA h18 (hA h19 (hA h20 (hN rfl (hN rfl (hN rfl hZ)))))) fun e36 h38 h39 h40 h41 h42 h43 => sN (sq (Rg (kx (faO h38 o8 rfl) (kx (ldO rfl o8 rfl rfl rfl) (kx (lnS Try.underlying24 rfl) (kx (mvO rfl) (Rn (hA h38 (hA h39 (hA h40 (hA h41 (hA h42 (hA h43 (hN rfl hZ))))))) fun e44 h46 h47 h48 h49 h50 h51 h52 => sN (sq ?_)))))))))))))))))))))))))
 clear h18 h19 h20 h21 h38 h39 h40 h41 h42 h43
 refine Ev.cut (Q1 := impl_do_c1_Q a1 a2 r33 r34 (([] : Mem).length) M2.length r719) (by
     have h := hr720
     refine sq (Rg (kx (mvO h50) (kx (mvO rfl) ?_)))
     rcases ite_some h with ⟨hb53, h⟩ | ⟨hb53, h⟩
     ·refine kx (guT rfl hb53 (faP h47 ⟨ble rfl, blt rfl⟩ rfl)) (kx (guT rfl hb53 (ldP rfl rfl)) (kx (guT rfl hb53 (mvO h52)) (kx (guT rfl hb53 (bGeq rfl rfl)) (kx (pkT rfl hb53 rfl) (kx (mvO rfl) ?_)))))
      rcases ite_some h with ⟨hb54, h⟩ | ⟨hb54, h⟩
      ·refine kx (gsF rfl hb54) (kx (gsF rfl hb54) (kx (gsU rfl) (kx (gsU rfl) (kx (gsU rfl) (kx (gsU rfl) (kx (gsF rfl hb54) (kx (pkT rfl hb54 rfl) (kx (mvO rfl) (kx (gsF rfl rfl) (kx (gsF rfl rfl) (kx (gsU rfl) (kx (gsU rfl) (kx (gsU rfl) (kx (gsU rfl) (kx (gsU rfl) (kx (gsU rfl) (kx (gsF rfl rfl) (kx (pkT rfl rfl rfl) (Rn (hA h46 (hA h47 (hA h48 (hA h50 (hA h51 (hV (.bool true) rfl hZ)))))) fun e55 h57 h58 h59 h60 h61 h62 => sN (cT h62 rfl (sq (Rg (kx (bldT zero50 rfl (fill0 rfl)) (kw (stO h59 rfl o10 rfl rfl ⟨rfl, ble rfl⟩ rfl rfl) fun M63 hM64 => ?_))))))))))))))))))))))))
       clear h46 h47 h48 h49 h50 h51 h52
       have o65 := set_ne hM64 ne9 o8
       have o66 : M63[M2.length]? = some (.live ⟨.box, 50, 3, [[.int .i64 0, .nils, .nils]]⟩) := set_same hM64 o10
       refine kx (mvO rfl) (Rn (hA h59 (hV (.int .i64 2) rfl hZ)) fun e67 h69 h70 => sN (xx ?_))
       clear h57 h58 h59 h60 h61 h62
       obtain rfl := si h
       exact kd (show impl_do_c1_Q a1 a2 r33 r34 (([] : Mem).length) M2.length _ _ from ⟨rfl, h69, h70, o66⟩)
      refine kx (guF rfl hb54 (mvO h51)) (kx (guF rfl hb54 (mvO rfl)) ?_)
      rcases ite_some h with ⟨hb71, h⟩ | ⟨hb71, h⟩
      ·refine kx (guT rfl hb71 (faP h47 ⟨ble rfl, blt rfl⟩ rfl)) (kx (guT rfl hb71 (ldP rfl rfl)) (kx (guT rfl hb71 (mvO h52)) (kx (guT rfl hb71 (bGeq rfl rfl)) (kx (guF rfl hb54 (pkT rfl hb71 rfl)) (kx (pkF rfl hb54 rfl) (kx (mvO rfl) ?_))))))
       rcases ite_some h with ⟨hb72, h⟩ | ⟨hb72, h⟩
       ·refine kx (gsF rfl hb72) (kx (gsF rfl hb72) (kx (gsU rfl) (kx (gsU rfl) (kx (gsU rfl) (kx (gsU rfl) (kx (gsU rfl) (kx (gsU rfl) (kx (gsF rfl hb72) (kx (pkT rfl hb72 rfl) (Rn (hA h46 (hA h47 (hA h48 (hA h50 (hA h51 (hV (.bool true) rfl hZ)))))) fun e73 h75 h76 h77 h78 h79 h80 => sN (cT h80 rfl (sq (Rg (kx (bldT zero50 rfl (fill0 rfl)) (kw (stO h77 rfl o10 rfl rfl ⟨rfl, ble rfl⟩ rfl rfl) fun M81 hM82 => ?_)))))))))))))))
        clear h46 h47 h48 h49 h50 h51 h52
        have o83 := set_ne hM82 ne9 o8
        have o84 : M81[M2.length]? = some (.live ⟨.box, 50, 3, [[.int .i64 0, .nils, .nils]]⟩) := set_same hM82 o10
        refine kx (mvO rfl) (Rn (hA h77 (hV (.int .i64 2) rfl hZ)) fun e85 h87 h88 => sN (xx ?_))
        clear h75 h76 h77 h78 h79 h80
        obtain rfl := si h
        exact kd (show impl_do_c1_Q a1 a2 r33 r34 (([] : Mem).length) M2.length _ _ from ⟨rfl, h87, h88, o84⟩)
       refine kx (guF rfl hb72 (mvO h49)) (kx (guF rfl hb72 (mvO rfl)) ?_)
       rcases ite_some h with ⟨hb89, h⟩ | ⟨hb89, h⟩
       ·refine kx (guT rfl hb89 (faP h47 ⟨ble rfl, blt rfl⟩ rfl)) (kx (guT rfl hb89 (ldP rfl rfl)) (kx (guT rfl hb89 (faO h46 o8 rfl)) (kx (guT rfl hb89 (ldO rfl o8 rfl rfl rfl)) (kx (guT rfl hb89 (lnS Try.underlying48 rfl)) (kx (guT rfl hb89 (bGeq rfl rfl)) (kx (guF rfl hb72 (pkT rfl hb89 rfl)) (kx (pkF rfl hb72 rfl) (Rn (hA h46 (hA h47 (hA h48 (hA h50 (hA h51 (hN rfl hZ)))))) fun e90 h92 h93 h94 h95 h96 h97 => sN ?_))))))))
        clear h46 h47 h48 h49 h50 h51 h52
        rcases ite_some h with ⟨hb98, h⟩ | ⟨hb98, h⟩
        ·refine cT h97 hb98 (sq (Rg (kx (bldT zero50 rfl (fill0 rfl)) (kw (stO h94 rfl o10 rfl rfl ⟨rfl, ble rfl⟩ rfl rfl) fun M99 hM100 => ?_))))
         have o101 := set_ne hM100 ne9 o8
         have o102 : M99[M2.length]? = some (.live ⟨.box, 50, 3, [[.int .i64 0, .nils, .nils]]⟩) := set_same hM100 o10
         refine kx (mvO rfl) (Rn (hA h94 (hV (.int .i64 2) rfl hZ)) fun e103 h105 h106 => sN (xx ?_))
         clear h92 h93 h94 h95 h96 h97
         obtain rfl := si h
         exact kd (show impl_do_c1_Q a1 a2 r33 r34 (([] : Mem).length) M2.length _ _ from ⟨rfl, h105, h106, o102⟩)
        refine cF h97 hb98 (xx ?_)
        obtain rfl := si h
        exact kd (show impl_do_c1_Q a1 a2 r33 r34 (([] : Mem).length) M2.length _ _ from ⟨rfl, h92, h93, h94, h95, h96, h97, o8, o10⟩)
       refine kx (gsT rfl hb89) (kx (gsT rfl hb89) (kx (gsT rfl hb89) (kx (gsT rfl hb89) (kx (gsT rfl hb89) (kx (gsT rfl hb89) (kx (guF rfl hb72 (pkF rfl hb89 rfl)) (kx (pkF rfl hb72 rfl) (Rn (hA h46 (hA h47 (hA h48 (hA h50 (hA h51 (hV (.bool false) rfl hZ)))))) fun e107 h109 h110 h111 h112 h113 h114 => sN (cF h114 rfl (xx ?_))))))))))
       clear h46 h47 h48 h49 h50 h51 h52
       obtain rfl := si h
       exact kd (show impl_do_c1_Q a1 a2 r33 r34 (([] : Mem).length) M2.length _ _ from ⟨rfl, h109, h110, h111, h112, h113, h114, o8, o10⟩)
      refine kx (gsT rfl hb71) (kx (gsT rfl hb71) (kx (gsT rfl hb71) (kx (gsT rfl hb71) (kx (guF rfl hb54 (pkF rfl hb71 rfl)) (kx (pkF rfl hb54 rfl) (kx (mvO rfl) (kx (guF rfl rfl (mvO h49)) (kx (guF rfl rfl (mvO rfl)) ?_))))))))
      rcases ite_some h with ⟨hb115, h⟩ | ⟨hb115, h⟩
      ·refine kx (guT rfl hb115 (faP h47 ⟨ble rfl, blt rfl⟩ rfl)) (kx (guT rfl hb115 (ldP rfl rfl)) (kx (guT rfl hb115 (faO h46 o8 rfl)) (kx (guT rfl hb115 (ldO rfl o8 rfl rfl rfl)) (kx (guT rfl hb115 (lnS Try.underlying48 rfl)) (kx (guT rfl hb115 (bGeq rfl rfl)) (kx (guF rfl rfl (pkT rfl hb115 rfl)) (kx (pkF rfl rfl rfl) (Rn (hA h46 (hA h47 (hA h48 (hA h50 (hA h51 (hN rfl hZ)))))) fun e116 h118 h119 h120 h121 h122 h123 => sN ?_))))))))
       clear h46 h47 h48 h49 h50 h51 h52
       rcases ite_some h with ⟨hb124, h⟩ | ⟨hb124, h⟩
       ·refine cT h123 hb124 (sq (Rg (kx (bldT zero50 rfl (fill0 rfl)) (kw (stO h120 rfl o10 rfl rfl ⟨rfl, ble rfl⟩ rfl rfl) fun M125 hM126 => ?_))))
        have o127 := set_ne hM126 ne9 o8
        have o128 : M125[M2.length]? = some (.live ⟨.box, 50, 3, [[.int .i64 0, .nils, .nils]]⟩) := set_same hM126 o10
        refine kx (mvO rfl) (Rn (hA h120 (hV (.int .i64 2) rfl hZ)) fun e129 h131 h132 => sN (xx ?_))
        clear h118 h119 h120 h121 h122 h123
        obtain rfl := si h
        exact kd (show impl_do_c1_Q a1 a2 r33 r34 (([] : Mem).length) M2.length _ _ from ⟨rfl, h131, h132, o128⟩)
       refine cF h123 hb124 (xx ?_)
       obtain rfl := si h
       exact kd (show impl_do_c1_Q a1 a2 r33 r34 (([] : Mem).length) M2.length _ _ from ⟨rfl, h118, h119, h120, h121, h122, h123, o8, o10⟩)
      refine kx (gsT rfl hb115) (kx (gsT rfl hb115) (kx (gsT rfl hb115) (kx (gsT rfl hb115) (kx (gsT rfl hb115) (kx (gsT rfl hb115) (kx (guF rfl rfl (pkF rfl hb115 rfl)) (kx (pkF rfl rfl rfl) (Rn (hA h46 (hA h47 (hA h48 (hA h50 (hA h51 (hV (.bool false) rfl hZ)))))) fun e133 h135 h136 h137 h138 h139 h140 => sN (cF h140 rfl (xx ?_))))))))))
      clear h46 h47 h48 h49 h50 h51 h52
      obtain rfl := si h
      exact kd (show impl_do_c1_Q a1 a2 r33 r34 (([] : Mem).length) M2.length _ _ from ⟨rfl, h135, h136, h137, h138, h139, h140, o8, o10⟩)
     refine kx (gsT rfl hb53) (kx (gsT rfl hb53) (kx (gsT rfl hb53) (kx (gsT rfl hb53) (kx (pkF rfl hb53 rfl) (kx (mvO rfl) (kx (guF rfl rfl (mvO h51)) (kx (guF rfl rfl (mvO rfl)) ?_)))))))
     rcases ite_some h with ⟨hb141, h⟩ | ⟨hb141, h⟩
     ·refine kx (guT rfl hb141 (faP h47 ⟨ble rfl, blt rfl⟩ rfl)) (kx (guT rfl hb141 (ldP rfl rfl)) (kx (guT rfl hb141 (mvO h52)) (kx (guT rfl hb141 (bGeq rfl rfl)) (kx (guF rfl rfl (pkT rfl hb141 rfl)) (kx (pkF rfl rfl rfl) (kx (mvO rfl) ?_))))))
      rcases ite_some h with ⟨hb142, h⟩ | ⟨hb142, h⟩
      ·refine kx (gsF rfl hb142) (kx (gsF rfl hb142) (kx (gsU rfl) (kx (gsU rfl) (kx (gsU rfl) (kx (gsU rfl) (kx (gsU rfl) (kx (gsU rfl) (kx (gsF rfl hb142) (kx (pkT rfl hb142 rfl) (Rn (hA h46 (hA h47 (hA h48 (hA h50 (hA h51 (hV (.bool true) rfl hZ)))))) fun e143 h145 h146 h147 h148 h149 h150 => sN (cT h150 rfl (sq (Rg (kx (bldT zero50 rfl (fill0 rfl)) (kw (stO h147 rfl o10 rfl rfl ⟨rfl, ble rfl⟩ rfl rfl) fun M151 hM152 => ?_)))))))))))))))
       clear h46 h47 h48 h49 h50 h51 h52
       have o153 := set_ne hM152 ne9 o8
       have o154 : M151[M2.length]? = some (.live ⟨.box, 50, 3, [[.int .i64 0, .nils, .nils]]⟩) := set_same hM152 o10
       refine kx (mvO rfl) (Rn (hA h147 (hV (.int .i64 2) rfl hZ)) fun e155 h157 h158 => sN (xx ?_))
       clear h145 h146 h147 h148 h149 h150
       obtain rfl := si h
       exact kd (show impl_do_c1_Q a1 a2 r33 r34 (([] : Mem).length) M2.length _ _ from ⟨rfl, h157, h158, o154⟩)
      refine kx (guF rfl hb142 (mvO h49)) (kx (guF rfl hb142 (mvO rfl)) ?_)
      rcases ite_some h with ⟨hb159, h⟩ | ⟨hb159, h⟩
      ·refine kx (guT rfl hb159 (faP h47 ⟨ble rfl, blt rfl⟩ rfl)) (kx (guT rfl hb159 (ldP rfl rfl)) (kx (guT rfl hb159 (faO h46 o8 rfl)) (kx (guT rfl hb159 (ldO rfl o8 rfl rfl rfl)) (kx (guT rfl hb159 (lnS Try.underlying48 rfl)) (kx (guT rfl hb159 (bGeq rfl rfl)) (kx (guF rfl hb142 (pkT rfl hb159 rfl)) (kx (pkF rfl hb142 rfl) (Rn (hA h46 (hA h47 (hA h48 (hA h50 (hA h51 (hN rfl hZ)))))) fun e160 h162 h163 h164 h165 h166 h167 => sN ?_))))))))
       clear h46 h47 h48 h49 h50 h51 h52
       rcases ite_some h with ⟨hb168, h⟩ | ⟨hb168, h⟩
       ·refine cT h167 hb168 (sq (Rg (kx (bldT zero50 rfl (fill0 rfl)) (kw (stO h164 rfl o10 rfl rfl ⟨rfl, ble rfl⟩ rfl rfl) fun M169 hM170 => ?_))))
        have o171 := set_ne hM170 ne9 o8
        have o172 : M169[M2.length]? = some (.live ⟨.box, 50, 3, [[.int .i64 0, .nils, .nils]]⟩) := set_same hM170 o10
        refine kx (mvO rfl) (Rn (hA h164 (hV (.int .i64 2) rfl hZ)) fun e173 h175 h176 => sN (xx ?_))
        clear h162 h163 h164 h165 h166 h167
        obtain rfl := si h
        exact kd (show impl_do_c1_Q a1 a2 r33 r34 (([] : Mem).length) M2.length _ _ from ⟨rfl, h175, h176, o172⟩)
       refine cF h167 hb168 (xx ?_)
       obtain rfl := si h
       exact kd (show impl_do_c1_Q a1 a2 r33 r34 (([] : Mem).length) M2.length _ _ from ⟨rfl, h162, h163, h164, h165, h166, h167, o8, o10⟩)
      refine kx (gsT rfl hb159) (kx (gsT rfl hb159) (kx (gsT rfl hb159) (kx (gsT rfl hb159) (kx (gsT rfl hb159) (kx (gsT rfl hb159) (kx (guF rfl hb142 (pkF rfl hb159 rfl)) (kx (pkF rfl hb142 rfl) (Rn (hA h46 (hA h47 (hA h48 (hA h50 (hA h51 (hV (.bool false) rfl hZ)))))) fun e177 h179 h180 h181 h182 h183 h184 => sN (cF h184 rfl (xx ?_))))))))))
      clear h46 h47 h48 h49 h50 h51 h52
      obtain rfl := si h
      exact kd (show impl_do_c1_Q a1 a2 r33 r34 (([] : Mem).length) M2.length _ _ from ⟨rfl, h179, h180, h181, h182, h183, h184, o8, o10⟩)
     refine kx (gsT rfl hb141) (kx (gsT rfl hb141) (kx (gsT rfl hb141) (kx (gsT rfl hb141) (kx (guF rfl rfl (pkF rfl hb141 rfl)) (kx (pkF rfl rfl rfl) (kx (mvO rfl) (kx (guF rfl rfl (mvO h49)) (kx (guF rfl rfl (mvO rfl)) ?_))))))))
     rcases ite_some h with ⟨hb185, h⟩ | ⟨hb185, h⟩
     ·refine kx (guT rfl hb185 (faP h47 ⟨ble rfl, blt rfl⟩ rfl)) (kx (guT rfl hb185 (ldP rfl rfl)) (kx (guT rfl hb185 (faO h46 o8 rfl)) (kx (guT rfl hb185 (ldO rfl o8 rfl rfl rfl)) (kx (guT rfl hb185 (lnS Try.underlying48 rfl)) (kx (guT rfl hb185 (bGeq rfl rfl)) (kx (guF rfl rfl (pkT rfl hb185 rfl)) (kx (pkF rfl rfl rfl) (Rn (hA h46 (hA h47 (hA h48 (hA h50 (hA h51 (hN rfl hZ)))))) fun e186 h188 h189 h190 h191 h192 h193 => sN ?_))))))))
      clear h46 h47 h48 h49 h50 h51 h52
      rcases ite_some h with ⟨hb194, h⟩ | ⟨hb194, h⟩
      ·refine cT h193 hb194 (sq (Rg (kx (bldT zero50 rfl (fill0 rfl)) (kw (stO h190 rfl o10 rfl rfl ⟨rfl, ble rfl⟩ rfl rfl) fun M195 hM196 => ?_))))
       have o197 := set_ne hM196 ne9 o8
       have o198 : M195[M2.length]? = some (.live ⟨.box, 50, 3, [[.int .i64 0, .nils, .nils]]⟩) := set_same hM196 o10
       refine kx (mvO rfl) (Rn (hA h190 (hV (.int .i64 2) rfl hZ)) fun e199 h201 h202 => sN (xx ?_))
       clear h188 h189 h190 h191 h192 h193
       obtain rfl := si h
       exact kd (show impl_do_c1_Q a1 a2 r33 r34 (([] : Mem).length) M2.length _ _ from ⟨rfl, h201, h202, o198⟩)
      refine cF h193 hb194 (xx ?_)
      obtain rfl := si h
      exact kd (show impl_do_c1_Q a1 a2 r33 r34 (([] : Mem).length) M2.length _ _ from ⟨rfl, h188, h189, h190, h191, h192, h193, o8, o10⟩)
     refine kx (gsT rfl hb185) (kx (gsT rfl hb185) (kx (gsT rfl hb185) (kx (gsT rfl hb185) (kx (gsT rfl hb185) (kx (gsT rfl hb185) (kx (guF rfl rfl (pkF rfl hb185 rfl)) (kx (pkF rfl rfl rfl) (Rn (hA h46 (hA h47 (hA h48 (hA h50 (hA h51 (hV (.bool false) rfl hZ)))))) fun e203 h205 h206 h207 h208 h209 h210 => sN (cF h210 rfl (xx ?_))))))))))
     clear h46 h47 h48 h49 h50 h51 h52
     obtain rfl := si h
     exact kd (show impl_do_c1_Q a1 a2 r33 r34 (([] : Mem).length) M2.length _ _ from ⟨rfl, h205, h206, h207, h208, h209, h210, o8, o10⟩)) ?_
 rcases r719 with _ | y219
 ·intro x e211 M212 hq216
  obtain ⟨rfl, h213, h214, o215⟩ := hq216
  refine sR ?_
  obtain rfl := si h
  exact eR (resC (ag := true) (sz := 3) ⟨by kernel_rfl, by kernel_rfl, by kernel_rfl⟩ (ldOA h213 o215 rfl rfl (ble rfl) rfl) (resT h214 res0)) rfl
 intro x e217 M218 hq718
 obtain ⟨rfl, h220, h221, h222, h223, h224, h225, o226, o227⟩ := hq718
 obtain ⟨r716, hr717, h⟩ := bind_some h
 refine sN (sq ?_)
 refine Ev.cut (Q1 := impl_do_c2_Q a1 a2 r33 (([] : Mem).length) M2.length r716) (by
     have h := hr717
     refine sq (Rg (kx (mvO h223) (kx (mvO rfl) ?_)))
     rcases ite_some h with ⟨hb228, h⟩ | ⟨hb228, h⟩
     ·refine kx (guT rfl hb228 (mvO h224)) (kx (pkT rfl hb228 rfl) (kx (mvO rfl) ?_))
      rcases ite_some h with ⟨hb229, h⟩ | ⟨hb229, h⟩
      ·refine kx (guT rfl hb229 (faP h221 ⟨ble rfl, blt rfl⟩ rfl)) (kx (guT rfl hb229 (ldP rfl rfl)) (kx (guT rfl hb229 (faP h221 ⟨ble rfl, blt rfl⟩ rfl)) (kx (guT rfl hb229 (ldP rfl rfl)) (kx (guT rfl hb229 (bEql rfl rfl)) (kx (pkT rfl hb229 rfl) (Rn (hV (.loc ([] : Mem).length 1 0 0) h220 (hV (.pt none [.int .i64 a2.Day, .int .i8 a2.Kind, .int .i64 a2.Tally, .int .i64 a2.From, .int .i64 a2.To, .int .i64 a2.Amount]) h221 (hV (.loc M2.length 1 0 0) h222 (hV (.bool r33) h223 (hN rfl hZ))))) fun e230 h232 h233 h234 h235 h236 => sN ?_))))))
       clear h220 h221 h222 h223 h224 h225
       rcases ite_some h with ⟨hb237, h⟩ | ⟨hb237, h⟩
       ·refine cT h236 hb237 (sq (Rg (kx (bldT zero50 rfl (fill0 rfl)) (kw (stO h234 rfl o227 rfl rfl ⟨rfl, ble rfl⟩ rfl rfl) fun M238 hM239 => ?_))))
        have o240 := set_ne hM239 ne9 o226
        have o241 : M238[M2.length]? = some (.live ⟨.box, 50, 3, [[.int .i64 0, .nils, .nils]]⟩) := set_same hM239 o227
        refine kx (mvO rfl) (Rn (hA h234 (hV (.int .i64 4) rfl hZ)) fun e242 h244 h245 => sN (xx ?_))
        clear h232 h233 h234 h235 h236
        obtain rfl := si h
        exact kd (show impl_do_c2_Q a1 a2 r33 (([] : Mem).length) M2.length _ _ from ⟨rfl, h244, h245, o241⟩)
       refine cF h236 hb237 (xx ?_)
       obtain rfl := si h
       exact kd (show impl_do_c2_Q a1 a2 r33 (([] : Mem).length) M2.length _ _ from ⟨rfl, h232, h233, h234, h235, h236, o226, o227⟩)
      refine kx (gsT rfl hb229) (kx (gsT rfl hb229) (kx (gsT rfl hb229) (kx (gsT rfl hb229) (kx (gsT rfl hb229) (kx (pkF rfl hb229 rfl) (Rn (hV (.loc ([] : Mem).length 1 0 0) h220 (hV (.pt none [.int .i64 a2.Day, .int .i8 a2.Kind, .int .i64 a2.Tally, .int .i64 a2.From, .int .i64 a2.To, .int .i64 a2.Amount]) h221 (hV (.loc M2.length 1 0 0) h222 (hV (.bool r33) h223 (hV (.bool false) rfl hZ))))) fun e246 h248 h249 h250 h251 h252 => sN (cF h252 rfl (xx ?_))))))))
      clear h220 h221 h222 h223 h224 h225
      obtain rfl := si h
      exact kd (show impl_do_c2_Q a1 a2 r33 (([] : Mem).length) M2.length _ _ from ⟨rfl, h248, h249, h250, h251, h252, o226, o227⟩)
     refine kx (gsT rfl hb228) (kx (pkF rfl hb228 rfl) (kx (mvO rfl) (kx (gsT rfl rfl) (kx (gsT rfl rfl) (kx (gsT rfl rfl) (kx (gsT rfl rfl) (kx (gsT rfl rfl) (kx (pkF rfl rfl rfl) (Rn (hV (.loc ([] : Mem).length 1 0 0) h220 (hV (.pt none [.int .i64 a2.Day, .int .i8 a2.Kind, .int .i64 a2.Tally, .int .i64 a2.From, .int .i64 a2.To, .int .i64 a2.Amount]) h221 (hV (.loc M2.length 1 0 0) h222 (hV (.bool r33) h223 (hV (.bool false) rfl hZ))))) fun e253 h255 h256 h257 h258 h259 => sN (cF h259 rfl (xx ?_)))))))))))
     clear h220 h221 h222 h223 h224 h225
     obtain rfl := si h
     exact kd (show impl_do_c2_Q a1 a2 r33 (([] : Mem).length) M2.length _ _ from ⟨rfl, h255, h256, h257, h258, h259, o226, o227⟩)) ?_
 rcases r716 with _ | y268
 ·intro x e260 M261 hq265
  obtain ⟨rfl, h262, h263, o264⟩ := hq265
  refine sR ?_
  obtain rfl := si h
  exact eR (resC (ag := true) (sz := 3) ⟨by kernel_rfl, by kernel_rfl, by kernel_rfl⟩ (ldOA h262 o264 rfl rfl (ble rfl) rfl) (resT h263 res0)) rfl
 intro x e266 M267 hq715
 obtain ⟨rfl, h269, h270, h271, h272, h273, o274, o275⟩ := hq715
 obtain ⟨⟨r277, r278, r279⟩, hx276, h⟩ := bind_some h
 refine sN (sq (Rg (kx (ldOA h269 o274 rfl rfl (ble rfl) rfl) (Ev.nxcp (Ev.callT (v := .agg [.int .i64 r277, .sl (some 2) (r278.map (cI .i64)), .sl (some 110) (r279.map Tally.c)]) rfl (cns rfl rfl) rfl (impl_ownBook_ok a1 _ hx276) (th_gen (v' := .agg [.int .i64 r277, .lsl M267.length r278.length 0 r278.length, .lsl (M267.length + 1) r279.length 0 r279.length]) (l := [⟨.grow, 2, 1, r278.map (cI .i64)⟩, ⟨.grow, 110, 5, r279.map Tally.c⟩]) (own_agg (oa1 rfl (oa1 (own1_row' (c := (cI .i64)) (fun _ => rfl)) (oa1 (own1_row' (c := Tally.c) Tally.flF) oa0)))) (by simp [thaw, thaw2, thaw1, thawL, co2, co110]) rfl rfl)) fun M282 hM283 => ?_))))
 have o284 := push_old hM283 o274
 have o285 := push_old hM283 o275
 have ne286 : ([] : Mem).length ≠ M267.length := by have := lt_of_get (M := M267) o274; omega
 have ne287 : M2.length ≠ M267.length := by have := lt_of_get (M := M267) o275; omega
 have o288 : M282[M267.length]? = some (.live ⟨.grow, 2, 1, r278.map (cI .i64)⟩) := push_at hM283 0 rfl
 have ne289 : ([] : Mem).length ≠ (M267.length + 1) := by have := lt_of_get (M := M267) o274; omega
 have ne290 : M2.length ≠ (M267.length + 1) := by have := lt_of_get (M := M267) o275; omega
 have ne291 : M267.length ≠ (M267.length + 1) := by omega
 have o292 : M282[(M267.length + 1)]? = some (.live ⟨.grow, 110, 5, r279.map Tally.c⟩) := push_at hM283 1 rfl
 refine kw (stO h269 rfl o284 rfl rfl ⟨rfl, ble rfl⟩ (all1 rfl (all1 (okL o288 (by simp)) (all1 (okL o292 (by simp)) all0))) rfl) fun M293 hM294 => ?_
 have o295 : M293[([] : Mem).length]? = some (.live ⟨.box, 50, 3, [[.int .i64 r277, .lsl M267.length r278.length 0 r278.length, .lsl (M267.length + 1) r279.length 0 r279.length]]⟩) := set_same hM294 o284
 have o296 := set_ne hM294 (Ne.symm ne9) o285
 have o297 := set_ne hM294 (Ne.symm ne286) o288
 have o298 := set_ne hM294 (Ne.symm ne289) o292
 refine Rn (hV (.loc ([] : Mem).length 1 0 0) h269 (hV (.pt none [.int .i64 a2.Day, .int .i8 a2.Kind, .int .i64 a2.Tally, .int .i64 a2.From, .int .i64 a2.To, .int .i64 a2.Amount]) h270 (hV (.loc M2.length 1 0 0) h271 (hV (.bool r33) h272 hZ)))) fun e299 h301 h302 h303 h304 => sN (sq (Rg (kx (faP h302 ⟨ble rfl, blt rfl⟩ rfl) (kx (ldP rfl rfl) (kx (faO h301 o295 rfl) (kw (stO rfl rfl o295 rfl rfl ⟨rfl, ble rfl⟩ rfl rfl) fun M305 hM306 => ?_))))))
 clear h269 h270 h271 h272 h273
 have o307 : M305[([] : Mem).length]? = some (.live ⟨.box, 50, 3, [[.int .i64 a2.Day, .lsl M267.length r278.length 0 r278.length, .lsl (M267.length + 1) r279.length 0 r279.length]]⟩) := set_same hM306 o295
 have o308 := set_ne hM306 (Ne.symm ne9) o296
 have o309 := set_ne hM306 (Ne.symm ne286) o297
 have o310 := set_ne hM306 (Ne.symm ne289) o298
 refine Rn (hA h301 (hA h302 (hA h303 (hA h304 hZ)))) fun e311 h313 h314 h315 h316 => sN (sq (sq (Rg (kx (faP h314 ⟨ble rfl, blt rfl⟩ rfl) (kx (ldP rfl rfl) (kx (bEql rfl rfl) (Rn (hA h313 (hA h314 (hA h315 (hA h316 (hN rfl hZ))))) fun e317 h319 h320 h321 h322 h323 => sN ?_)))))))
 clear h301 h302 h303 h304 h313 h314 h315 h316
 rcases ite_some h with ⟨hb324, h⟩ | ⟨hb324, h⟩
 ·refine cT h323 hb324 (sq (sq (Rg (kx (faO h319 o307 rfl) (kx (ldO rfl o307 rfl rfl rfl) (kx (lnL Try.underlying48 rfl o310 (by simp)) (kx (bEql rfl rfl) (Rn (hA h319 (hA h320 (hA h321 (hN rfl hZ)))) fun e325 h327 h328 h329 h330 => sN ?_))))))))
  clear h319 h320 h321 h322 h323
  rcases ite_some h with ⟨hb331, h⟩ | ⟨hb331, h⟩
  ·refine cT h330 hb331 (sq (Rg (kx (bldT zero50 rfl (fill0 rfl)) (kw (stO h329 rfl o308 rfl rfl ⟨rfl, ble rfl⟩ rfl rfl) fun M332 hM333 => ?_))))
   have o334 := set_ne hM333 ne9 o307
   have o335 : M332[M2.length]? = some (.live ⟨.box, 50, 3, [[.int .i64 0, .nils, .nils]]⟩) := set_same hM333 o308
   have o336 := set_ne hM333 (Ne.symm ne287) o309
   have o337 := set_ne hM333 (Ne.symm ne290) o310
   refine kx (mvO rfl) (Rn (hA h329 (hV (.int .i64 3) rfl hZ)) fun e338 h340 h341 => sN (xx (sR (sR ?_))))
   clear h327 h328 h329 h330
   obtain rfl := si h
   exact eR (resC (ag := true) (sz := 3) ⟨by kernel_rfl, by kernel_rfl, by kernel_rfl⟩ (ldOA h340 o335 rfl rfl (ble rfl) rfl) (resT h341 res0)) rfl
  obtain ⟨x342, hx343, h⟩ := bind_some h
  refine cF h330 hb331 (xx (sN (sq (Rg (kx (faO h327 o307 rfl) (kx (ldO rfl o307 rfl rfl rfl) (kx (faP h328 ⟨ble rfl, blt rfl⟩ rfl) (kx (ldP rfl rfl) (kx (faP h328 ⟨ble rfl, blt rfl⟩ rfl) (kx (ldP rfl rfl) (kx (faP h328 ⟨ble rfl, blt rfl⟩ rfl) (kx (ldP rfl rfl) (kx (faP h328 ⟨ble rfl, blt rfl⟩ rfl) (kx (ldP rfl rfl) (kx (faP h328 ⟨ble rfl, blt rfl⟩ rfl) (kx (ldP rfl rfl) (kx (bldT zero110 (cns (pr3 rfl) (cns (pr3 rfl) (cns (pr3 rfl) (cns (pr3 rfl) (cns (pr3 rfl) rfl))))) (fill1 ⟨rfl, ble rfl⟩ rfl rfl (fill1 ⟨rfl, ble rfl⟩ rfl rfl (fill1 ⟨rfl, ble rfl⟩ rfl rfl (fill1 ⟨rfl, ble rfl⟩ rfl rfl (fill1 ⟨rfl, ble rfl⟩ rfl rfl (fill0 rfl))))))) (kx (litI (cns rfl rfl) rfl ⟨rfl, by decide⟩) (kw (apO rfl o310 rfl (elT (c := Tally.c) (xs := [(Tally.mk a2.From a2.To a2.Day a2.Amount a2.Amount)]) rfl) hx343 Tally.fl (by decide)) fun M344 hM345 => ?_)))))))))))))))))))
  have o346 := set_ne hM345 ne289 o307
  have o347 := set_ne hM345 ne290 o308
  have o348 := set_ne hM345 ne291 o309
  have o349 : M344[(M267.length + 1)]? = some (.live ⟨.grow, 110, 5, x342.map Tally.c⟩) := set_same hM345 o310
  refine kx (faO h327 o346 rfl) (kw (stO rfl rfl o346 rfl rfl ⟨rfl, ble rfl⟩ (all1 (okL o349 (by simp)) all0) rfl) fun M350 hM351 => ?_)
  have o352 : M350[([] : Mem).length]? = some (.live ⟨.box, 50, 3, [[.int .i64 a2.Day, .lsl M267.length r278.length 0 r278.length, .lsl (M267.length + 1) x342.length 0 x342.length]]⟩) := set_same hM351 o346
  have o353 := set_ne hM351 (Ne.symm ne9) o347
  have o354 := set_ne hM351 (Ne.symm ne286) o348
  have o355 := set_ne hM351 (Ne.symm ne289) o349
  refine Rn (hA h327 (hA h329 hZ)) fun e356 h358 h359 => sN (sq (Rg (kx (ldOA h358 o352 rfl rfl (ble rfl) rfl) (kw (stO h359 rfl o353 rfl rfl ⟨rfl, ble rfl⟩ (all1 rfl (all1 (okL o354 (by simp)) (all1 (okL o355 (by simp)) all0))) rfl) fun M360 hM361 => ?_))))
  clear h327 h328 h329 h330
  have o362 := set_ne hM361 ne9 o352
  have o363 : M360[M2.length]? = some (.live ⟨.box, 50, 3, [[.int .i64 a2.Day, .lsl M267.length r278.length 0 r278.length, .lsl (M267.length + 1) x342.length 0 x342.length]]⟩) := set_same hM361 o353
  have o364 := set_ne hM361 (Ne.symm ne287) o354
  have o365 := set_ne hM361 (Ne.symm ne290) o355
  refine kx (mvO rfl) (Rn (hA h359 (hV (.int .i64 0) rfl hZ)) fun e366 h368 h369 => sN (xx (sR ?_)))
  clear h358 h359
  obtain rfl := si h
  exact eR (resC (ag := true) (sz := 3) ⟨by kernel_rfl, by kernel_rfl, by kernel_rfl⟩ (ldOA h368 o363 rfl rfl (ble rfl) rfl) (resT h369 res0)) (rr_tup (mp1 (rr_agg (mp1 rfl (mp1 (rr_row o364 rfl (cI_fl _)) (mp1 (rr_row o365 rfl Tally.fl) mp0)))) (mp1 rfl mp0)))
 obtain ⟨x370, hx371, h⟩ := bind_some h
 obtain ⟨r713, hr714, h⟩ := bind_some h
 refine cF h323 hb324 (xx (sN (sq (Rg (kx (faO h319 o307 rfl) (kx (ldO rfl o307 rfl rfl rfl) (kx (faP h320 ⟨ble rfl, blt rfl⟩ rfl) (kx (ldP rfl rfl) (kx (ixO rfl o310 rfl rfl (rd_get hx371).1 (rd_lt hx371).2) (kx (mvO rfl) (Rn (hA h319 (hA h320 (hA h321 (hA h322 (hV (.loc (M267.length + 1) r279.length (0 + a2.Tally.toNat) 0) rfl hZ))))) fun e372 h374 h375 h376 h377 h378 => sN (sq ?_))))))))))))
 clear h319 h320 h321 h322 h323
 refine Ev.cut (Q1 := impl_do_c3_Q a2 r278 r279 (([] : Mem).length) M2.length M267.length (M267.length + 1) r713) (by
     have h := hr714
     refine sq (Rd (kf (mvO h377) (kf (mvO rfl) ?_)))
     rcases ite_some h with ⟨hb379, h⟩ | ⟨hb379, h⟩
     ·refine kf (guT rfl hb379 (faP h375 ⟨ble rfl, blt rfl⟩ rfl)) (kf (guT rfl hb379 (ldP rfl rfl)) (kf (guT rfl hb379 (mvO h378)) (kf (guT rfl hb379 (ncO rfl o310 (by simp))) (kf (guT rfl hb379 (faO rfl o310 (by simp))) (kf (guT rfl hb379 (ldO rfl o310 (by simp) (rz hx371) rfl)) (kf (guT rfl hb379 (bNeq rfl rfl)) (kf (pkT rfl hb379 rfl) (kf (mvO rfl) ?_))))))))
      rcases ite_some h with ⟨hb380, h⟩ | ⟨hb380, h⟩
      ·refine kf (gsF rfl hb380) (kf (gsF rfl hb380) (kf (gsF rfl hb380) (kf (gsF rfl hb380) (kf (gsF rfl hb380) (kf (pkT rfl hb380 rfl) (kf (mvO rfl) (kf (gsF rfl rfl) (kf (gsF rfl rfl) (kf (gsF rfl rfl) (kf (gsF rfl rfl) (kf (gsU rfl) (kf (gsU rfl) (kf (gsU rfl) (kf (gsU rfl) (kf (gsU rfl) (kf (gsU rfl) (kf (gsU rfl) (kf (gsF rfl rfl) (kf (pkT rfl rfl rfl) (fZ (Rn (hA h374 (hA h375 (hA h376 (hA h378 (hV (.bool true) rfl hZ))))) fun e381 h383 h384 h385 h386 h387 => sN (cT h387 rfl (sq (Rg (kx (bldT zero50 rfl (fill0 rfl)) (kw (stO h385 rfl o308 rfl rfl ⟨rfl, ble rfl⟩ rfl rfl) fun M388 hM389 => ?_))))))))))))))))))))))))))
       clear h374 h375 h376 h377 h378
       have o390 := set_ne hM389 ne9 o307
       have o391 : M388[M2.length]? = some (.live ⟨.box, 50, 3, [[.int .i64 0, .nils, .nils]]⟩) := set_same hM389 o308
       have o392 := set_ne hM389 (Ne.symm ne287) o309
       have o393 := set_ne hM389 (Ne.symm ne290) o310
       refine kx (mvO rfl) (Rn (hA h385 (hV (.int .i64 4) rfl hZ)) fun e394 h396 h397 => sN (xx ?_))
       clear h383 h384 h385 h386 h387
       obtain rfl := si h
       exact kd (show impl_do_c3_Q a2 r278 r279 (([] : Mem).length) M2.length M267.length (M267.length + 1) _ _ from ⟨rfl, h396, h397, o391⟩)
      refine kf (guF rfl hb380 (mvO h378)) (kf (guF rfl hb380 (ncO rfl o310 (by simp))) (kf (guF rfl hb380 (faO rfl o310 (by simp))) (kf (guF rfl hb380 (ldO rfl o310 (by simp) (rz hx371) rfl)) (kf (guF rfl hb380 (bEql rfl rfl)) (kf (pkF rfl hb380 rfl) (kf (mvO rfl) ?_))))))
      rcases ite_some h with ⟨hb398, h⟩ | ⟨hb398, h⟩
      ·refine kf (gsF rfl hb398) (kf (gsF rfl hb398) (kf (gsF rfl hb398) (kf (gsF rfl hb398) (kf (gsU rfl) (kf (gsU rfl) (kf (gsU rfl) (kf (gsU rfl) (kf (gsU rfl) (kf (gsU rfl) (kf (gsU rfl) (kf (gsF rfl hb398) (kf (pkT rfl hb398 rfl) (fZ (Rn (hA h374 (hA h375 (hA h376 (hA h378 (hV (.bool true) rfl hZ))))) fun e399 h401 h402 h403 h404 h405 => sN (cT h405 rfl (sq (Rg (kx (bldT zero50 rfl (fill0 rfl)) (kw (stO h403 rfl o308 rfl rfl ⟨rfl, ble rfl⟩ rfl rfl) fun M406 hM407 => ?_)))))))))))))))))))
       clear h374 h375 h376 h377 h378
       have o408 := set_ne hM407 ne9 o307
       have o409 : M406[M2.length]? = some (.live ⟨.box, 50, 3, [[.int .i64 0, .nils, .nils]]⟩) := set_same hM407 o308
       have o410 := set_ne hM407 (Ne.symm ne287) o309
       have o411 := set_ne hM407 (Ne.symm ne290) o310
       refine kx (mvO rfl) (Rn (hA h403 (hV (.int .i64 4) rfl hZ)) fun e412 h414 h415 => sN (xx ?_))
       clear h401 h402 h403 h404 h405
       obtain rfl := si h
       exact kd (show impl_do_c3_Q a2 r278 r279 (([] : Mem).length) M2.length M267.length (M267.length + 1) _ _ from ⟨rfl, h414, h415, o409⟩)
      refine kf (guF rfl hb398 (faP h375 ⟨ble rfl, blt rfl⟩ rfl)) (kf (guF rfl hb398 (ldP rfl rfl)) (kf (guF rfl hb398 (bEql rfl rfl)) (kf (guF rfl hb398 (mvO rfl)) ?_)))
      rcases ite_some h with ⟨hb416, h⟩ | ⟨hb416, h⟩
      ·refine kf (guT rfl hb416 (faP h375 ⟨ble rfl, blt rfl⟩ rfl)) (kf (guT rfl hb416 (ldP rfl rfl)) (kf (guT rfl hb416 (mvO h378)) (kf (guT rfl hb416 (ncO rfl o310 (by simp))) (kf (guT rfl hb416 (faO rfl o310 (by simp))) (kf (guT rfl hb416 (ldO rfl o310 (by simp) (rz hx371) rfl)) (kf (guT rfl hb416 (bGtr rfl rfl)) (kf (guF rfl hb398 (pkT rfl hb416 rfl)) (kf (pkF rfl hb398 rfl) (fZ (Rn (hA h374 (hA h375 (hA h376 (hA h378 (hN rfl hZ))))) fun e417 h419 h420 h421 h422 h423 => sN ?_))))))))))
       clear h374 h375 h376 h377 h378
       rcases ite_some h with ⟨hb424, h⟩ | ⟨hb424, h⟩
       ·refine cT h423 hb424 (sq (Rg (kx (bldT zero50 rfl (fill0 rfl)) (kw (stO h421 rfl o308 rfl rfl ⟨rfl, ble rfl⟩ rfl rfl) fun M425 hM426 => ?_))))
        have o427 := set_ne hM426 ne9 o307
        have o428 : M425[M2.length]? = some (.live ⟨.box, 50, 3, [[.int .i64 0, .nils, .nils]]⟩) := set_same hM426 o308
        have o429 := set_ne hM426 (Ne.symm ne287) o309
        have o430 := set_ne hM426 (Ne.symm ne290) o310
        refine kx (mvO rfl) (Rn (hA h421 (hV (.int .i64 4) rfl hZ)) fun e431 h433 h434 => sN (xx ?_))
        clear h419 h420 h421 h422 h423
        obtain rfl := si h
        exact kd (show impl_do_c3_Q a2 r278 r279 (([] : Mem).length) M2.length M267.length (M267.length + 1) _ _ from ⟨rfl, h433, h434, o428⟩)
       refine cF h423 hb424 (xx ?_)
       obtain rfl := si h
       exact kd (show impl_do_c3_Q a2 r278 r279 (([] : Mem).length) M2.length M267.length (M267.length + 1) _ _ from ⟨rfl, h419, h420, h421, h422, h423, o307, o309, o310, o308⟩)
      refine kf (gsT rfl hb416) (kf (gsT rfl hb416) (kf (gsT rfl hb416) (kf (gsT rfl hb416) (kf (gsT rfl hb416) (kf (gsT rfl hb416) (kf (gsT rfl hb416) (kf (guF rfl hb398 (pkF rfl hb416 rfl)) (kf (pkF rfl hb398 rfl) (fZ (Rn (hA h374 (hA h375 (hA h376 (hA h378 (hV (.bool false) rfl hZ))))) fun e435 h437 h438 h439 h440 h441 => sN (cF h441 rfl (xx ?_))))))))))))
      clear h374 h375 h376 h377 h378
      obtain rfl := si h
      exact kd (show impl_do_c3_Q a2 r278 r279 (([] : Mem).length) M2.length M267.length (M267.length + 1) _ _ from ⟨rfl, h437, h438, h439, h440, h441, o307, o309, o310, o308⟩)
     refine kf (gsT rfl hb379) (kf (gsT rfl hb379) (kf (gsT rfl hb379) (kf (gsT rfl hb379) (kf (gsT rfl hb379) (kf (gsT rfl hb379) (kf (gsT rfl hb379) (kf (pkF rfl hb379 rfl) (kf (mvO rfl) (kf (guF rfl rfl (mvO h378)) (kf (guF rfl rfl (ncO rfl o310 (by simp))) (kf (guF rfl rfl (faO rfl o310 (by simp))) (kf (guF rfl rfl (ldO rfl o310 (by simp) (rz hx371) rfl)) (kf (guF rfl rfl (bEql rfl rfl)) (kf (pkF rfl rfl rfl) (kf (mvO rfl) ?_)))))))))))))))
     rcases ite_some h with ⟨hb442, h⟩ | ⟨hb442, h⟩
     ·refine kf (gsF rfl hb442) (kf (gsF rfl hb442) (kf (gsF rfl hb442) (kf (gsF rfl hb442) (kf (gsU rfl) (kf (gsU rfl) (kf (gsU rfl) (kf (gsU rfl) (kf (gsU rfl) (kf (gsU rfl) (kf (gsU rfl) (kf (gsF rfl hb442) (kf (pkT rfl hb442 rfl) (fZ (Rn (hA h374 (hA h375 (hA h376 (hA h378 (hV (.bool true) rfl hZ))))) fun e443 h445 h446 h447 h448 h449 => sN (cT h449 rfl (sq (Rg (kx (bldT zero50 rfl (fill0 rfl)) (kw (stO h447 rfl o308 rfl rfl ⟨rfl, ble rfl⟩ rfl rfl) fun M450 hM451 => ?_)))))))))))))))))))
      clear h374 h375 h376 h377 h378
      have o452 := set_ne hM451 ne9 o307
      have o453 : M450[M2.length]? = some (.live ⟨.box, 50, 3, [[.int .i64 0, .nils, .nils]]⟩) := set_same hM451 o308
      have o454 := set_ne hM451 (Ne.symm ne287) o309
      have o455 := set_ne hM451 (Ne.symm ne290) o310
      refine kx (mvO rfl) (Rn (hA h447 (hV (.int .i64 4) rfl hZ)) fun e456 h458 h459 => sN (xx ?_))
      clear h445 h446 h447 h448 h449
      obtain rfl := si h
      exact kd (show impl_do_c3_Q a2 r278 r279 (([] : Mem).length) M2.length M267.length (M267.length + 1) _ _ from ⟨rfl, h458, h459, o453⟩)
     refine kf (guF rfl hb442 (faP h375 ⟨ble rfl, blt rfl⟩ rfl)) (kf (guF rfl hb442 (ldP rfl rfl)) (kf (guF rfl hb442 (bEql rfl rfl)) (kf (guF rfl hb442 (mvO rfl)) ?_)))
     rcases ite_some h with ⟨hb460, h⟩ | ⟨hb460, h⟩
     ·refine kf (guT rfl hb460 (faP h375 ⟨ble rfl, blt rfl⟩ rfl)) (kf (guT rfl hb460 (ldP rfl rfl)) (kf (guT rfl hb460 (mvO h378)) (kf (guT rfl hb460 (ncO rfl o310 (by simp))) (kf (guT rfl hb460 (faO rfl o310 (by simp))) (kf (guT rfl hb460 (ldO rfl o310 (by simp) (rz hx371) rfl)) (kf (guT rfl hb460 (bGtr rfl rfl)) (kf (guF rfl hb442 (pkT rfl hb460 rfl)) (kf (pkF rfl hb442 rfl) (fZ (Rn (hA h374 (hA h375 (hA h376 (hA h378 (hN rfl hZ))))) fun e461 h463 h464 h465 h466 h467 => sN ?_))))))))))
      clear h374 h375 h376 h377 h378
      rcases ite_some h with ⟨hb468, h⟩ | ⟨hb468, h⟩
      ·refine cT h467 hb468 (sq (Rg (kx (bldT zero50 rfl (fill0 rfl)) (kw (stO h465 rfl o308 rfl rfl ⟨rfl, ble rfl⟩ rfl rfl) fun M469 hM470 => ?_))))
       have o471 := set_ne hM470 ne9 o307
       have o472 : M469[M2.length]? = some (.live ⟨.box, 50, 3, [[.int .i64 0, .nils, .nils]]⟩) := set_same hM470 o308
       have o473 := set_ne hM470 (Ne.symm ne287) o309
       have o474 := set_ne hM470 (Ne.symm ne290) o310
       refine kx (mvO rfl) (Rn (hA h465 (hV (.int .i64 4) rfl hZ)) fun e475 h477 h478 => sN (xx ?_))
       clear h463 h464 h465 h466 h467
       obtain rfl := si h
       exact kd (show impl_do_c3_Q a2 r278 r279 (([] : Mem).length) M2.length M267.length (M267.length + 1) _ _ from ⟨rfl, h477, h478, o472⟩)
      refine cF h467 hb468 (xx ?_)
      obtain rfl := si h
      exact kd (show impl_do_c3_Q a2 r278 r279 (([] : Mem).length) M2.length M267.length (M267.length + 1) _ _ from ⟨rfl, h463, h464, h465, h466, h467, o307, o309, o310, o308⟩)
     refine kf (gsT rfl hb460) (kf (gsT rfl hb460) (kf (gsT rfl hb460) (kf (gsT rfl hb460) (kf (gsT rfl hb460) (kf (gsT rfl hb460) (kf (gsT rfl hb460) (kf (guF rfl hb442 (pkF rfl hb460 rfl)) (kf (pkF rfl hb442 rfl) (fZ (Rn (hA h374 (hA h375 (hA h376 (hA h378 (hV (.bool false) rfl hZ))))) fun e479 h481 h482 h483 h484 h485 => sN (cF h485 rfl (xx ?_))))))))))))
     clear h374 h375 h376 h377 h378
     obtain rfl := si h
     exact kd (show impl_do_c3_Q a2 r278 r279 (([] : Mem).length) M2.length M267.length (M267.length + 1) _ _ from ⟨rfl, h481, h482, h483, h484, h485, o307, o309, o310, o308⟩)) ?_
 rcases r713 with _ | y494
 ·intro x e486 M487 hq491
  obtain ⟨rfl, h488, h489, o490⟩ := hq491
  refine sR ?_
  obtain rfl := si h
  exact eR (resC (ag := true) (sz := 3) ⟨by kernel_rfl, by kernel_rfl, by kernel_rfl⟩ (ldOA h488 o490 rfl rfl (ble rfl) rfl) (resT h489 res0)) rfl
 intro x e492 M493 hq712
 obtain ⟨rfl, h495, h496, h497, h498, h499, o500, o501, o502, o503⟩ := hq712
 refine sN (sq (sq (Rg (kx (faP h496 ⟨ble rfl, blt rfl⟩ rfl) (kx (ldP rfl rfl) (Rn (hV (.loc ([] : Mem).length 1 0 0) h495 (hV (.pt none [.int .i64 a2.Day, .int .i8 a2.Kind, .int .i64 a2.Tally, .int .i64 a2.From, .int .i64 a2.To, .int .i64 a2.Amount]) h496 (hV (.loc M2.length 1 0 0) h497 (hV (.loc (M267.length + 1) r279.length (0 + a2.Tally.toNat) 0) h498 (hN rfl hZ))))) fun e504 h506 h507 h508 h509 h510 => sN (bl (sq (Rg (kx (bEql h510 rfl) (kx (mvO rfl) (Rn (hA h506 (hA h507 (hA h508 (hA h509 (hA h510 (hN rfl hZ)))))) fun e511 h513 h514 h515 h516 h517 h518 => sN ?_))))))))))))
 clear h495 h496 h497 h498 h499 h506 h507 h508 h509 h510
 rcases ite_some h with ⟨hb519, h⟩ | ⟨hb519, h⟩
 ·refine cT h518 hb519 (sq (Rg (kx (mvO h516) (kx (faP h514 ⟨ble rfl, blt rfl⟩ rfl) (kx (ldP rfl rfl) (kx (ncO rfl o502 (by simp)) (kx (faO rfl o502 (by simp)) (kw (stR (u := x370) (u' := (Tally.mk x370.Debtor a2.To x370.Cut x370.Amount x370.Left)) rfl rfl o502 rfl (rz2 hx371) ⟨rfl, ble rfl⟩ rfl rfl) fun M520 hM521 => ?_))))))))
  rw [Nat.zero_add] at hM521
  have o522 := set_ne hM521 ne289 o500
  have o523 := set_ne hM521 ne291 o501
  have o524 : M520[(M267.length + 1)]? = some (.live ⟨.grow, 110, 5, (r279.set a2.Tally.toNat (Tally.mk x370.Debtor a2.To x370.Cut x370.Amount x370.Left)).map Tally.c⟩) := set_same hM521 o502
  have o525 := set_ne hM521 ne290 o503
  have hx526 := rd_set (u' := (Tally.mk x370.Debtor a2.To x370.Cut x370.Amount x370.Left)) hx371
  refine Rn (hA h513 (hA h514 (hA h515 (hA h516 hZ)))) fun e527 h529 h530 h531 h532 => sN (sq (Rd (kf (faP h530 ⟨ble rfl, blt rfl⟩ rfl) (kf (ldP rfl rfl) (kf (mvO h532) (kf (ncO rfl o524 (by simp)) (kf (faO rfl o524 (by simp)) (kf (ldO rfl o524 (by simp) (rz hx526) rfl) (kf (bEql rfl rfl) (fZ (Rn (hA h529 (hA h531 (hA h532 (hN rfl hZ)))) fun e533 h535 h536 h537 h538 => sN ?_)))))))))))
  clear h513 h514 h515 h516 h517 h518 h529 h530 h531 h532
  rcases ite_some h with ⟨hb539, h⟩ | ⟨hb539, h⟩
  ·refine cT h538 hb539 (Rg (kx (mvO h537) (kx (ncO rfl o524 (by simp)) (kx (faO rfl o524 (by simp)) (kw (stR (u := (Tally.mk x370.Debtor a2.To x370.Cut x370.Amount x370.Left)) (u' := (Tally.mk ((Tally.mk x370.Debtor a2.To x370.Cut x370.Amount x370.Left)).Debtor ((Tally.mk x370.Debtor a2.To x370.Cut x370.Amount x370.Left)).Holder ((Tally.mk x370.Debtor a2.To x370.Cut x370.Amount x370.Left)).Cut ((Tally.mk x370.Debtor a2.To x370.Cut x370.Amount x370.Left)).Amount 0)) rfl rfl o524 (by simp) (rz2 hx526) ⟨rfl, ble rfl⟩ rfl rfl) fun M540 hM541 => ?_)))))
   rw [Nat.zero_add] at hM541
   have o542 := set_ne hM541 ne289 o522
   have o543 := set_ne hM541 ne291 o523
   have o544 : M540[(M267.length + 1)]? = some (.live ⟨.grow, 110, 5, ((r279.set a2.Tally.toNat (Tally.mk x370.Debtor a2.To x370.Cut x370.Amount x370.Left)).set a2.Tally.toNat (Tally.mk ((Tally.mk x370.Debtor a2.To x370.Cut x370.Amount x370.Left)).Debtor ((Tally.mk x370.Debtor a2.To x370.Cut x370.Amount x370.Left)).Holder ((Tally.mk x370.Debtor a2.To x370.Cut x370.Amount x370.Left)).Cut ((Tally.mk x370.Debtor a2.To x370.Cut x370.Amount x370.Left)).Amount 0)).map Tally.c⟩) := set_same hM541 o524
   have o545 := set_ne hM541 ne290 o525
   have hx546 := rd_set (u' := (Tally.mk ((Tally.mk x370.Debtor a2.To x370.Cut x370.Amount x370.Left)).Debtor ((Tally.mk x370.Debtor a2.To x370.Cut x370.Amount x370.Left)).Holder ((Tally.mk x370.Debtor a2.To x370.Cut x370.Amount x370.Left)).Cut ((Tally.mk x370.Debtor a2.To x370.Cut x370.Amount x370.Left)).Amount 0)) hx526
   refine Rn (hA h535 (hA h536 hZ)) fun e547 h549 h550 => bN (sN (sq (Rg (kx (ldOA h549 o542 rfl rfl (ble rfl) rfl) (kw (stO h550 rfl o545 rfl rfl ⟨rfl, ble rfl⟩ (all1 rfl (all1 (okL o543 (by simp)) (all1 (okL o544 (by simp)) all0))) rfl) fun M551 hM552 => ?_)))))
   clear h535 h536 h537 h538
   have o553 := set_ne hM552 ne9 o542
   have o554 := set_ne hM552 (Ne.symm ne287) o543
   have o555 := set_ne hM552 (Ne.symm ne290) o544
   have o556 : M551[M2.length]? = some (.live ⟨.box, 50, 3, [[.int .i64 a2.Day, .lsl M267.length r278.length 0 r278.length, .lsl (M267.length + 1) r279.length 0 r279.length]]⟩) := set_same hM552 o545
   refine kx (mvO rfl) (Rn (hA h550 (hV (.int .i64 0) rfl hZ)) fun e557 h559 h560 => sN (xx ?_))
   clear h549 h550
   obtain rfl := si h
   exact eR (resC (ag := true) (sz := 3) ⟨by kernel_rfl, by kernel_rfl, by kernel_rfl⟩ (ldOA h559 o556 rfl rfl (ble rfl) rfl) (resT h560 res0)) (rr_tup (mp1 (rr_agg (mp1 rfl (mp1 (rr_row o554 rfl (cI_fl _)) (mp1 (rr_row o555 (by simp) Tally.fl) mp0)))) (mp1 rfl mp0)))
  refine cF h538 hb539 (xx (bN (sN (sq (Rg (kx (ldOA h535 o522 rfl rfl (ble rfl) rfl) (kw (stO h536 rfl o525 rfl rfl ⟨rfl, ble rfl⟩ (all1 rfl (all1 (okL o523 (by simp)) (all1 (okL o524 (by simp)) all0))) rfl) fun M561 hM562 => ?_)))))))
  have o563 := set_ne hM562 ne9 o522
  have o564 := set_ne hM562 (Ne.symm ne287) o523
  have o565 := set_ne hM562 (Ne.symm ne290) o524
  have o566 : M561[M2.length]? = some (.live ⟨.box, 50, 3, [[.int .i64 a2.Day, .lsl M267.length r278.length 0 r278.length, .lsl (M267.length + 1) r279.length 0 r279.length]]⟩) := set_same hM562 o525
  refine kx (mvO rfl) (Rn (hA h536 (hV (.int .i64 0) rfl hZ)) fun e567 h569 h570 => sN (xx ?_))
  clear h535 h536 h537 h538
  obtain rfl := si h
  exact eR (resC (ag := true) (sz := 3) ⟨by kernel_rfl, by kernel_rfl, by kernel_rfl⟩ (ldOA h569 o566 rfl rfl (ble rfl) rfl) (resT h570 res0)) (rr_tup (mp1 (rr_agg (mp1 rfl (mp1 (rr_row o564 rfl (cI_fl _)) (mp1 (rr_row o565 (by simp) Tally.fl) mp0)))) (mp1 rfl mp0)))
 refine cF h518 hb519 (sq (Rg (kx (bEql h517 rfl) (kx (mvO rfl) (Rn (hA h513 (hA h514 (hA h515 (hA h516 (hA h517 (hN rfl hZ)))))) fun e571 h573 h574 h575 h576 h577 h578 => sN ?_)))))
 clear h513 h514 h515 h516 h517 h518
 rcases ite_some h with ⟨hb579, h⟩ | ⟨hb579, h⟩
 ·obtain ⟨x580, hx581, h⟩ := bind_some h
  refine cT h578 hb579 (sq (sq (Rd (kf (faO h573 o500 rfl) (kf (ldO rfl o500 rfl rfl rfl) (kf (mvO h576) (kf (ncO rfl o502 (by simp)) (kf (faO rfl o502 (by simp)) (kf (ldO rfl o502 (by simp) (rz hx371) rfl) (kf (ixO rfl o501 rfl rfl (rd_get hx581).1 (rd_lt hx581).2) (kf (ldO rfl o501 (by simp) (rz hx581) rfl) (kf (faP h574 ⟨ble rfl, blt rfl⟩ rfl) (kf (ldP rfl rfl) (kf (bLss rfl rfl) (fZ (Rn (hA h573 (hA h574 (hA h575 (hA h576 (hN rfl hZ))))) fun e582 h584 h585 h586 h587 h588 => sN ?_))))))))))))))))
  clear h573 h574 h575 h576 h577 h578
  rcases ite_some h with ⟨hb589, h⟩ | ⟨hb589, h⟩
  ·refine cT h588 hb589 (sq (Rg (kx (bldT zero50 rfl (fill0 rfl)) (kw (stO h586 rfl o503 rfl rfl ⟨rfl, ble rfl⟩ rfl rfl) fun M590 hM591 => ?_))))
   have o592 := set_ne hM591 ne9 o500
   have o593 := set_ne hM591 (Ne.symm ne287) o501
   have o594 := set_ne hM591 (Ne.symm ne290) o502
   have o595 : M590[M2.length]? = some (.live ⟨.box, 50, 3, [[.int .i64 0, .nils, .nils]]⟩) := set_same hM591 o503
   refine kx (mvO rfl) (Rn (hA h586 (hV (.int .i64 8) rfl hZ)) fun e596 h598 h599 => sN (xx (sR (bR (sR ?_)))))
   clear h584 h585 h586 h587 h588
   obtain rfl := si h
   exact eR (resC (ag := true) (sz := 3) ⟨by kernel_rfl, by kernel_rfl, by kernel_rfl⟩ (ldOA h598 o595 rfl rfl (ble rfl) rfl) (resT h599 res0)) rfl
  obtain ⟨x600, hx601, h⟩ := bind_some h
  obtain ⟨x602, hx603, h⟩ := bind_some h
  refine cF h588 hb589 (xx (sN (sq (Rd (kf (faO h584 o500 rfl) (kf (ldO rfl o500 rfl rfl rfl) (kf (mvO h587) (kf (ncO rfl o502 (by simp)) (kf (faO rfl o502 (by simp)) (kf (ldO rfl o502 (by simp) (rz hx371) rfl) (kf (ixO rfl o501 rfl rfl (rd_get hx601).1 (rd_lt hx601).2) (kf (ldO rfl o501 (by simp) (rz hx601) rfl) (kf (faP h585 ⟨ble rfl, blt rfl⟩ rfl) (kf (ldP rfl rfl) (kf (bSub rfl rfl) (kf (ixO rfl o501 rfl rfl (rd_get hx603).1 (rd_lt hx603).2) (fZ (kw (stR (u := x602) (u' := (IntKind.i64.wrap (x600 - a2.Amount))) rfl rfl o501 rfl (rz2 hx603) ⟨rfl, ble rfl⟩ rfl rfl) fun M604 hM605 => ?_))))))))))))))))))
  rw [Nat.zero_add] at hM605
  have o606 := set_ne hM605 ne286 o500
  have o607 : M604[M267.length]? = some (.live ⟨.grow, 2, 1, (r278.set x370.Debtor.toNat (IntKind.i64.wrap (x600 - a2.Amount))).map (cI .i64)⟩) := set_same hM605 o501
  have o608 := set_ne hM605 (Ne.symm ne291) o502
  have o609 := set_ne hM605 ne287 o503
  have hx610 := rd_set (u' := (IntKind.i64.wrap (x600 - a2.Amount))) hx603
  obtain ⟨x617, hx618, h⟩ := bind_some h
  obtain ⟨x619, hx620, h⟩ := bind_some h
  refine Rn (hA h584 (hA h585 (hA h586 (hA h587 hZ)))) fun e611 h613 h614 h615 h616 => sN (sq (Rd (kf (faO h613 o606 rfl) (kf (ldO rfl o606 rfl rfl rfl) (kf (mvO h616) (kf (ncO rfl o608 (by simp)) (kf (faO rfl o608 (by simp)) (kf (ldO rfl o608 (by simp) (rz hx371) rfl) (kf (ixO (lslL (L' := (r278.set x370.Debtor.toNat (IntKind.i64.wrap (x600 - a2.Amount))).length) rfl (by simp)) o607 rfl rfl (rd_get hx618).1 (rd_lt hx618).2) (kf (ldO rfl o607 (by simp) (rz hx618) rfl) (kf (faP h614 ⟨ble rfl, blt rfl⟩ rfl) (kf (ldP rfl rfl) (kf (bAdd rfl rfl) (kf (ixO (lslL (L' := (r278.set x370.Debtor.toNat (IntKind.i64.wrap (x600 - a2.Amount))).length) rfl (by simp)) o607 rfl rfl (rd_get hx620).1 (rd_lt hx620).2) (fZ (kw (stR (u := x619) (u' := (IntKind.i64.wrap (x617 + a2.Amount))) rfl rfl o607 rfl (rz2 hx620) ⟨rfl, ble rfl⟩ rfl rfl) fun M621 hM622 => ?_))))))))))))))))
  clear h584 h585 h586 h587 h588
  rw [Nat.zero_add] at hM622
  have o623 := set_ne hM622 ne286 o606
  have o624 : M621[M267.length]? = some (.live ⟨.grow, 2, 1, ((r278.set x370.Debtor.toNat (IntKind.i64.wrap (x600 - a2.Amount))).set x370.Holder.toNat (IntKind.i64.wrap (x617 + a2.Amount))).map (cI .i64)⟩) := set_same hM622 o607
  have o625 := set_ne hM622 (Ne.symm ne291) o608
  have o626 := set_ne hM622 ne287 o609
  have hx627 := rd_set (u' := (IntKind.i64.wrap (x617 + a2.Amount))) hx620
  refine Rn (hA h613 (hA h614 (hA h615 (hA h616 hZ)))) fun e628 h630 h631 h632 h633 => sN (sq (Rd (kf (mvO h633) (kf (ncO rfl o625 (by simp)) (kf (faO rfl o625 (by simp)) (kf (ldO rfl o625 (by simp) (rz hx371) rfl) (kf (faP h631 ⟨ble rfl, blt rfl⟩ rfl) (kf (ldP rfl rfl) (kf (bSub rfl rfl) (kf (ncO rfl o625 (by simp)) (kf (faO rfl o625 (by simp)) (fZ (kw (stR (u := x370) (u' := (Tally.mk x370.Debtor x370.Holder x370.Cut x370.Amount (IntKind.i64.wrap (x370.Left - a2.Amount)))) rfl rfl o625 rfl (rz2 hx371) ⟨rfl, ble rfl⟩ rfl rfl) fun M634 hM635 => ?_)))))))))))))
  clear h613 h614 h615 h616
  rw [Nat.zero_add] at hM635
  have o636 := set_ne hM635 ne289 o623
  have o637 := set_ne hM635 ne291 o624
  have o638 : M634[(M267.length + 1)]? = some (.live ⟨.grow, 110, 5, (r279.set a2.Tally.toNat (Tally.mk x370.Debtor x370.Holder x370.Cut x370.Amount (IntKind.i64.wrap (x370.Left - a2.Amount)))).map Tally.c⟩) := set_same hM635 o625
  have o639 := set_ne hM635 ne290 o626
  have hx640 := rd_set (u' := (Tally.mk x370.Debtor x370.Holder x370.Cut x370.Amount (IntKind.i64.wrap (x370.Left - a2.Amount)))) hx371
  obtain ⟨x646, hx647, h⟩ := bind_some h
  refine Rn (hA h630 (hA h632 (hA h633 hZ))) fun e641 h643 h644 h645 => sN (sq (Rd (kf (faO h643 o636 rfl) (kf (ldO rfl o636 rfl rfl rfl) (kf (mvO h645) (kf (ncO rfl o638 (by simp)) (kf (faO rfl o638 (by simp)) (kf (ldO rfl o638 (by simp) (rz hx640) rfl) (kf (ixO (lslL (L' := ((r278.set x370.Debtor.toNat (IntKind.i64.wrap (x600 - a2.Amount))).set x370.Holder.toNat (IntKind.i64.wrap (x617 + a2.Amount))).length) rfl (by simp)) o637 rfl rfl (rd_get hx647).1 (rd_lt hx647).2) (kf (ldO rfl o637 (by simp) (rz hx647) rfl) (kf (bGtr rfl rfl) (fZ (Rn (hA h643 (hA h644 (hN rfl hZ))) fun e648 h650 h651 h652 => sN ?_)))))))))))))
  clear h630 h631 h632 h633 h643 h644 h645
  rcases ite_some h with ⟨hb653, h⟩ | ⟨hb653, h⟩
  ·refine cT h652 hb653 (sq (Rg (kx (bldT zero50 rfl (fill0 rfl)) (kw (stO h651 rfl o639 rfl rfl ⟨rfl, ble rfl⟩ rfl rfl) fun M654 hM655 => ?_))))
   have o656 := set_ne hM655 ne9 o636
   have o657 := set_ne hM655 (Ne.symm ne287) o637
   have o658 := set_ne hM655 (Ne.symm ne290) o638
   have o659 : M654[M2.length]? = some (.live ⟨.box, 50, 3, [[.int .i64 0, .nils, .nils]]⟩) := set_same hM655 o639
   refine kx (mvO rfl) (Rn (hA h651 (hV (.int .i64 3) rfl hZ)) fun e660 h662 h663 => sN (xx (bR (sR ?_))))
   clear h650 h651 h652
   obtain rfl := si h
   exact eR (resC (ag := true) (sz := 3) ⟨by kernel_rfl, by kernel_rfl, by kernel_rfl⟩ (ldOA h662 o659 rfl rfl (ble rfl) rfl) (resT h663 res0)) rfl
  refine cF h652 hb653 (xx (bN (sN (sq (Rg (kx (ldOA h650 o636 rfl rfl (ble rfl) rfl) (kw (stO h651 rfl o639 rfl rfl ⟨rfl, ble rfl⟩ (all1 rfl (all1 (okL o637 (by simp)) (all1 (okL o638 (by simp)) all0))) rfl) fun M664 hM665 => ?_)))))))
  have o666 := set_ne hM665 ne9 o636
  have o667 := set_ne hM665 (Ne.symm ne287) o637
  have o668 := set_ne hM665 (Ne.symm ne290) o638
  have o669 : M664[M2.length]? = some (.live ⟨.box, 50, 3, [[.int .i64 a2.Day, .lsl M267.length r278.length 0 r278.length, .lsl (M267.length + 1) r279.length 0 r279.length]]⟩) := set_same hM665 o639
  refine kx (mvO rfl) (Rn (hA h651 (hV (.int .i64 0) rfl hZ)) fun e670 h672 h673 => sN (xx ?_))
  clear h650 h651 h652
  obtain rfl := si h
  exact eR (resC (ag := true) (sz := 3) ⟨by kernel_rfl, by kernel_rfl, by kernel_rfl⟩ (ldOA h672 o669 rfl rfl (ble rfl) rfl) (resT h673 res0)) (rr_tup (mp1 (rr_agg (mp1 rfl (mp1 (rr_row o667 (by simp) (cI_fl _)) (mp1 (rr_row o668 (by simp) Tally.fl) mp0)))) (mp1 rfl mp0)))
 refine cF h578 hb579 (sq (Rg (kx (bEql h577 rfl) (kx (mvO rfl) (Rn (hA h573 (hA h575 (hA h576 (hN rfl hZ)))) fun e674 h676 h677 h678 h679 => sN ?_)))))
 clear h573 h574 h575 h576 h577 h578
 rcases ite_some h with ⟨hb680, h⟩ | ⟨hb680, h⟩
 ·refine cT h679 hb680 (Rg (kx (mvO h678) (kx (ncO rfl o502 (by simp)) (kx (faO rfl o502 (by simp)) (kw (stR (u := x370) (u' := (Tally.mk x370.Debtor x370.Holder x370.Cut x370.Amount 0)) rfl rfl o502 rfl (rz2 hx371) ⟨rfl, ble rfl⟩ rfl rfl) fun M681 hM682 => ?_)))))
  rw [Nat.zero_add] at hM682
  have o683 := set_ne hM682 ne289 o500
  have o684 := set_ne hM682 ne291 o501
  have o685 : M681[(M267.length + 1)]? = some (.live ⟨.grow, 110, 5, (r279.set a2.Tally.toNat (Tally.mk x370.Debtor x370.Holder x370.Cut x370.Amount 0)).map Tally.c⟩) := set_same hM682 o502
  have o686 := set_ne hM682 ne290 o503
  have hx687 := rd_set (u' := (Tally.mk x370.Debtor x370.Holder x370.Cut x370.Amount 0)) hx371
  refine Rn (hA h676 (hA h677 hZ)) fun e688 h690 h691 => bN (sN (sq (Rg (kx (ldOA h690 o683 rfl rfl (ble rfl) rfl) (kw (stO h691 rfl o686 rfl rfl ⟨rfl, ble rfl⟩ (all1 rfl (all1 (okL o684 (by simp)) (all1 (okL o685 (by simp)) all0))) rfl) fun M692 hM693 => ?_)))))
  clear h676 h677 h678 h679
  have o694 := set_ne hM693 ne9 o683
  have o695 := set_ne hM693 (Ne.symm ne287) o684
  have o696 := set_ne hM693 (Ne.symm ne290) o685
  have o697 : M692[M2.length]? = some (.live ⟨.box, 50, 3, [[.int .i64 a2.Day, .lsl M267.length r278.length 0 r278.length, .lsl (M267.length + 1) r279.length 0 r279.length]]⟩) := set_same hM693 o686
  refine kx (mvO rfl) (Rn (hA h691 (hV (.int .i64 0) rfl hZ)) fun e698 h700 h701 => sN (xx ?_))
  clear h690 h691
  obtain rfl := si h
  exact eR (resC (ag := true) (sz := 3) ⟨by kernel_rfl, by kernel_rfl, by kernel_rfl⟩ (ldOA h700 o697 rfl rfl (ble rfl) rfl) (resT h701 res0)) (rr_tup (mp1 (rr_agg (mp1 rfl (mp1 (rr_row o695 rfl (cI_fl _)) (mp1 (rr_row o696 (by simp) Tally.fl) mp0)))) (mp1 rfl mp0)))
 refine cF h679 hb680 (xx (bN (sN (sq (Rg (kx (ldOA h676 o500 rfl rfl (ble rfl) rfl) (kw (stO h677 rfl o503 rfl rfl ⟨rfl, ble rfl⟩ (all1 rfl (all1 (okL o501 (by simp)) (all1 (okL o502 (by simp)) all0))) rfl) fun M702 hM703 => ?_)))))))
 have o704 := set_ne hM703 ne9 o500
 have o705 := set_ne hM703 (Ne.symm ne287) o501
 have o706 := set_ne hM703 (Ne.symm ne290) o502
 have o707 : M702[M2.length]? = some (.live ⟨.box, 50, 3, [[.int .i64 a2.Day, .lsl M267.length r278.length 0 r278.length, .lsl (M267.length + 1) r279.length 0 r279.length]]⟩) := set_same hM703 o503
 refine kx (mvO rfl) (Rn (hA h677 (hV (.int .i64 0) rfl hZ)) fun e708 h710 h711 => sN (xx ?_))
 clear h676 h677 h678 h679
 obtain rfl := si h
 exact eR (resC (ag := true) (sz := 3) ⟨by kernel_rfl, by kernel_rfl, by kernel_rfl⟩ (ldOA h710 o707 rfl rfl (ble rfl) rfl) (resT h711 res0)) (rr_tup (mp1 (rr_agg (mp1 rfl (mp1 (rr_row o705 rfl (cI_fl _)) (mp1 (rr_row o706 rfl Tally.fl) mp0)))) (mp1 rfl mp0)))
/-! ### loop.example/g01263/impl.isBookDay (f148) -/
noncomputable def impl_isBookDay (a1 : Int) : Option Bool :=
 if (decide (a1 ≥ 0)) = true then
  some (decide (a1 ≤ 100000))
 else
  some false
def impl_isBookDay_enc (r : Bool) : AV := .bool r
theorem impl_isBookDay_ok (a1 : Int) (r : Bool) (h : impl_isBookDay a1 = some r) : Ev (fun k => CN k 148 [.int .i64 a1] []) (fun p => rRes p.2 p.1 = impl_isBookDay_enc r) := by
 unfold impl_isBookDay at h
 refine Ev.enter (F := fun k => f148 (CN k) k) (fun k => callN_eq rfl Try.func148 rfl rfl rfl (by decide +kernel) (f148_eq _ _)) (sq (Rg (kx (mvO rfl) (Rn (hN rfl hZ) fun e1 h3 => sN (sq (Rg (kx (mvO h3) (kx (bGeq rfl rfl) (kx (mvO rfl) ?_)))))))))
 rcases ite_some h with ⟨hb4, h⟩ | ⟨hb4, h⟩
 ·refine kx (guT rfl hb4 (mvO h3)) (kx (guT rfl hb4 (bLeq rfl rfl)) (kx (pkT rfl hb4 rfl) (kx (mvO rfl) (Rn (hN rfl hZ) fun e5 h7 => sN (xx ?_)))))
  clear h3
  obtain rfl := si h
  exact eR (resT h7 res0) rfl
 refine kx (gsT rfl hb4) (kx (gsT rfl hb4) (kx (pkF rfl hb4 rfl) (kx (mvO rfl) (Rn (hV (.bool false) rfl hZ) fun e8 h10 => sN (xx ?_)))))
 clear h3
 obtain rfl := si h
 exact eR (resT h10 res0) rfl
/-! ### loop.example/g01263/impl.ValidDeal (f150) -/
def impl_ValidDeal_c1_Q (a1 : Deal) (g : Bool) (q : Out) : Prop := q.1 = .nrm ∧ eget q.2.1 1 = .pt none [.int .i64 a1.Day, .int .i8 a1.Kind, .int .i64 a1.Tally, .int .i64 a1.From, .int .i64 a1.To, .int .i64 a1.Amount] ∧ eget q.2.1 21 = .bool g
noncomputable def impl_ValidDeal (a1 : Deal) : Option Bool :=
 (if (decide (a1.Kind < 1)) = true then
  some true
 else
  if (decide (a1.Kind > 4)) = true then
   some true
  else
   (impl_isBookDay a1.Day).bind fun r15 =>
   some (!r15)).bind fun y22 =>
 if y22 = true then
  some false
 else
  (impl_uses a1.Kind).bind fun (r34, r35, r36, r37) =>
  (impl_ValidDeal_1 r34 a1.Tally 0 39).bind fun r47 =>
  if r47 = true then
   (impl_ValidDeal_1 r35 a1.From 0 15).bind fun r50 =>
   if r50 = true then
    (impl_ValidDeal_1 r36 a1.To 0 15).bind fun r53 =>
    if r53 = true then
     (impl_ValidDeal_1 r37 a1.Amount 1 100000000).bind fun r56 =>
     some r56
    else
     some false
   else
    some false
  else
   some false
def impl_ValidDeal_enc (r : Bool) : AV := .bool r
theorem impl_ValidDeal_ok (a1 : Deal) (r : Bool) (h : impl_ValidDeal a1 = some r) : Ev (fun k => CN k 150 [.agg [.int .i64 a1.Day, .int .i8 a1.Kind, .int .i64 a1.Tally, .int .i64 a1.From, .int .i64 a1.To, .int .i64 a1.Amount]] []) (fun p => rRes p.2 p.1 = impl_ValidDeal_enc r) := by
 unfold impl_ValidDeal at h
 obtain ⟨r70, hr71, h⟩ := bind_some h
 refine Ev.enter (F := fun k => f150 (CN k) k) (fun k => callN_eq rfl Try.func150 rfl rfl rfl (by decide +kernel) (f150_eq _ _)) (sq (Rg (kx (bxI rfl rfl ⟨rfl, rfl, by decide⟩) (kx (mvO rfl) (Rn (hN rfl hZ) fun e1 h3 => sN (sq (sq ?_)))))))
 refine Ev.cut (Q1 := impl_ValidDeal_c1_Q a1 r70) (by
     have h := hr71
     refine Rg (kx (faP h3 ⟨ble rfl, blt rfl⟩ rfl) (kx (ldP rfl rfl) (kx (bLss rfl rfl) (kx (mvO rfl) ?_))))
     rcases ite_some h with ⟨hb4, h⟩ | ⟨hb4, h⟩
     ·refine kx (gsF rfl hb4) (kx (gsF rfl hb4) (kx (gsF rfl hb4) (kx (pkT rfl hb4 rfl) (kx (mvO rfl) (kx (gsF rfl rfl) (kx (gsF rfl rfl) (kc (Ev.gsF rfl rfl) (kx (gsF rfl rfl) (kx (pkT rfl rfl rfl) (Rn (hA h3 (hV (.bool true) rfl hZ)) fun e5 h7 h8 => ?_))))))))))
      clear h3
      obtain rfl := si h
      exact kd (show impl_ValidDeal_c1_Q a1 _ _ from ⟨rfl, h7, h8⟩)
     refine kx (guF rfl hb4 (faP h3 ⟨ble rfl, blt rfl⟩ rfl)) (kx (guF rfl hb4 (ldP rfl rfl)) (kx (guF rfl hb4 (bGtr rfl rfl)) (kx (pkF rfl hb4 rfl) (kx (mvO rfl) ?_))))
     rcases ite_some h with ⟨hb9, h⟩ | ⟨hb9, h⟩
     ·refine kx (gsF rfl hb9) (kx (gsF rfl hb9) (kc (Ev.gsF rfl hb9) (kx (gsF rfl hb9) (kx (pkT rfl hb9 rfl) (Rn (hA h3 (hV (.bool true) rfl hZ)) fun e10 h12 h13 => ?_)))))
      clear h3
      obtain rfl := si h
      exact kd (show impl_ValidDeal_c1_Q a1 _ _ from ⟨rfl, h12, h13⟩)
     obtain ⟨r15, hx14, h⟩ := bind_some h
     refine kx (guF rfl hb9 (faP h3 ⟨ble rfl, blt rfl⟩ rfl)) (kx (guF rfl hb9 (ldP rfl rfl)) (kc (Ev.guF rfl hb9 (cl (v := .bool r15) rfl (cns rfl rfl) rfl (impl_isBookDay_ok a1.Day _ hx14) nm)) (kx (guF rfl hb9 (uNot rfl)) (kx (pkF rfl hb9 rfl) (Rn (hA h3 (hN rfl hZ)) fun e16 h18 h19 => ?_)))))
     clear h3
     obtain rfl := si h
     exact kd (show impl_ValidDeal_c1_Q a1 _ _ from ⟨rfl, h18, h19⟩)) ?_
 revert h hr71
 revert r70
 intro y22 hr71 h
 intro x e20 M21 hq69
 obtain ⟨rfl, h23, h24⟩ := hq69
 refine sN ?_
 rcases ite_some h with ⟨hb25, h⟩ | ⟨hb25, h⟩
 ·refine cT h24 hb25 (sq (Rg (kx (mvO rfl) (Rn (hV (.bool false) rfl hZ) fun e26 h28 => sN (xx (sR ?_))))))
  clear h23 h24
  obtain rfl := si h
  exact eR (resT h28 res0) rfl
 obtain ⟨⟨r34, r35, r36, r37⟩, hx33, h⟩ := bind_some h
 obtain ⟨r47, hx46, h⟩ := bind_some h
 refine cF h24 hb25 (xx (sN (sq (Rg (kx (mvO rfl) (Rn (hV (.pt none [.int .i64 a1.Day, .int .i8 a1.Kind, .int .i64 a1.Tally, .int .i64 a1.From, .int .i64 a1.To, .int .i64 a1.Amount]) h23 (hV (.fn 163 []) rfl hZ)) fun e29 h31 h32 => sN (sq (Rg (kx (faP h31 ⟨ble rfl, blt rfl⟩ rfl) (kx (ldP rfl rfl) (kc (cl (v := .tup [.bool r34, .bool r35, .bool r36, .bool r37]) rfl (cns rfl rfl) rfl (impl_uses_ok a1.Kind _ hx33) nm) (kx (mvO rfl) (kx (exT rfl rfl) (kx (exT rfl rfl) (kx (exT rfl rfl) (kx (exT rfl rfl) (kx (mvO rfl) (kx (mvO rfl) (kx (mvO rfl) (kx (mvO rfl) (Rn (hA h31 (hA h32 (hN rfl (hN rfl (hN rfl (hN rfl hZ)))))) fun e38 h40 h41 h42 h43 h44 h45 => sN (sq (Rg (kx (mvO h41) (kx (mvO h42) (kx (faP h40 ⟨ble rfl, blt rfl⟩ rfl) (kx (ldP rfl rfl) (kc (cl (v := .bool r47) rfl (cns rfl (cns rfl (cns rfl (cns rfl rfl)))) rfl (impl_ValidDeal_1_ok r34 a1.Tally 0 39 _ hx46) nm) (kx (mvO rfl) ?_)))))))))))))))))))))))))))))
 clear h23 h24 h31 h32
 rcases ite_some h with ⟨hb48, h⟩ | ⟨hb48, h⟩
 ·obtain ⟨r50, hx49, h⟩ := bind_some h
  refine kx (guT rfl hb48 (mvO h41)) (kx (guT rfl hb48 (mvO h43)) (kx (guT rfl hb48 (faP h40 ⟨ble rfl, blt rfl⟩ rfl)) (kx (guT rfl hb48 (ldP rfl rfl)) (kc (Ev.guT rfl hb48 (cl (v := .bool r50) rfl (cns rfl (cns rfl (cns rfl (cns rfl rfl)))) rfl (impl_ValidDeal_1_ok r35 a1.From 0 15 _ hx49) nm)) (kx (pkT rfl hb48 rfl) (kx (mvO rfl) ?_))))))
  rcases ite_some h with ⟨hb51, h⟩ | ⟨hb51, h⟩
  ·obtain ⟨r53, hx52, h⟩ := bind_some h
   refine kx (guT rfl hb51 (mvO h41)) (kx (guT rfl hb51 (mvO h44)) (kx (guT rfl hb51 (faP h40 ⟨ble rfl, blt rfl⟩ rfl)) (kx (guT rfl hb51 (ldP rfl rfl)) (kc (Ev.guT rfl hb51 (cl (v := .bool r53) rfl (cns rfl (cns rfl (cns rfl (cns rfl rfl)))) rfl (impl_ValidDeal_1_ok r36 a1.To 0 15 _ hx52) nm)) (kx (pkT rfl hb51 rfl) (kx (mvO rfl) ?_))))))
   rcases ite_some h with ⟨hb54, h⟩ | ⟨hb54, h⟩
   ·obtain ⟨r56, hx55, h⟩ := bind_some h
    refine kx (guT rfl hb54 (mvO h41)) (kx (guT rfl hb54 (mvO h45)) (kx (guT rfl hb54 (faP h40 ⟨ble rfl, blt rfl⟩ rfl)) (kx (guT rfl hb54 (ldP rfl rfl)) (kc (Ev.guT rfl hb54 (cl (v := .bool r56) rfl (cns rfl (cns rfl (cns rfl (cns rfl rfl)))) rfl (impl_ValidDeal_1_ok r37 a1.Amount 1 100000000 _ hx55) nm)) (kx (pkT rfl hb54 rfl) (kx (mvO rfl) (Rn (hN rfl hZ) fun e57 h59 => sN (xx ?_))))))))
    clear h40 h41 h42 h43 h44 h45
    obtain rfl := si h
    exact eR (resT h59 res0) rfl
   refine kx (gsT rfl hb54) (kx (gsT rfl hb54) (kx (gsT rfl hb54) (kx (gsT rfl hb54) (kc (Ev.gsT rfl hb54) (kx (pkF rfl hb54 rfl) (kx (mvO rfl) (Rn (hV (.bool false) rfl hZ) fun e60 h62 => sN (xx ?_))))))))
   clear h40 h41 h42 h43 h44 h45
   obtain rfl := si h
   exact eR (resT h62 res0) rfl
  refine kx (gsT rfl hb51) (kx (gsT rfl hb51) (kx (gsT rfl hb51) (kx (gsT rfl hb51) (kc (Ev.gsT rfl hb51) (kx (pkF rfl hb51 rfl) (kx (mvO rfl) (kx (gsT rfl rfl) (kx (gsT rfl rfl) (kx (gsT rfl rfl) (kx (gsT rfl rfl) (kc (Ev.gsT rfl rfl) (kx (pkF rfl rfl rfl) (kx (mvO rfl) (Rn (hV (.bool false) rfl hZ) fun e63 h65 => sN (xx ?_)))))))))))))))
  clear h40 h41 h42 h43 h44 h45
  obtain rfl := si h
  exact eR (resT h65 res0) rfl
 refine kx (gsT rfl hb48) (kx (gsT rfl hb48) (kx (gsT rfl hb48) (kx (gsT rfl hb48) (kc (Ev.gsT rfl hb48) (kx (pkF rfl hb48 rfl) (kx (mvO rfl) (kx (gsT rfl rfl) (kx (gsT rfl rfl) (kx (gsT rfl rfl) (kx (gsT rfl rfl) (kc (Ev.gsT rfl rfl) (kx (pkF rfl rfl rfl) (kx (mvO rfl) (kx (gsT rfl rfl) (kx (gsT rfl rfl) (kx (gsT rfl rfl) (kx (gsT rfl rfl) (kc (Ev.gsT rfl rfl) (kx (pkF rfl rfl rfl) (kx (mvO rfl) (Rn (hV (.bool false) rfl hZ) fun e66 h68 => sN (xx ?_))))))))))))))))))))))
 clear h40 h41 h42 h43 h44 h45
 obtain rfl := si h
 exact eR (resT h68 res0) rfl
/-! ### loop.example/g01263/impl.arePeople (f149) -/
abbrev impl_arePeople_b1_S := Int
abbrev impl_arePeople_b1_R := Unit ⊕ Unit
def impl_arePeople_b1_RS (a1 : Int) (a2 : List Int) (s : impl_arePeople_b1_S) (e : Env) (M : Mem) : Prop := eget e 0 = .int .i64 a1 ∧ eget e 7 = .sl none (a2.map (cI .i64)) ∧ eget e 8 = .int .i64 (a2.length : Int) ∧ eget e 9 = .int .i64 s
def impl_arePeople_b1_RR (a1 : Int) (a2 : List Int) (r : impl_arePeople_b1_R) (x : Ex) (e : Env) (M : Mem) : Prop :=
  match r with
  | (.inl g) => x = .ret ∧ eget e 4 = .bool false
  | (.inr g) => x = .ext 0 ∧ True
noncomputable def impl_arePeople_b1 (a1 : Int) (a2 : List Int) : impl_arePeople_b1_S → Option (impl_arePeople_b1_S ⊕ impl_arePeople_b1_R) := fun s1_1 =>
 if (decide (s1_1 < (a2.length : Int))) = true then
  (rd a2 s1_1).bind fun x39 =>
  if (decide (x39 < 0)) = true then
   some (.inr (.inl ()))
  else
   if (decide (x39 ≥ a1)) = true then
    some (.inr (.inl ()))
   else
    some (.inl (IntKind.i64.wrap (s1_1 + 1)))
 else
  some (.inr (.inr ()))
theorem impl_arePeople_b1_ok (a1 : Int) (a2 : List Int) (s : impl_arePeople_b1_S) (r : impl_arePeople_b1_S ⊕ impl_arePeople_b1_R) (h : impl_arePeople_b1 a1 a2 s = some r) (e : Env) (M : Mem) (hs : impl_arePeople_b1_RS a1 a2 s e M) : Ev (fun k => (f149_l2 (CN k) k (prune [0, 7, 8, 9] e) M).bind fun q => some q) (bQ (impl_arePeople_b1_RS a1 a2) (impl_arePeople_b1_RR a1 a2) r) := by
 revert h hs
 revert s
 intro s1_1 h hs
 unfold impl_arePeople_b1 at h
 obtain ⟨h23, h25, h27, h29⟩ := hs
 generalize he22 : prune [0, 7, 8, 9] e = e21
 have h24 := envp he22.symm rfl h23
 have h26 := envp he22.symm rfl h25
 have h28 := envp he22.symm rfl h27
 have h30 := envp he22.symm rfl h29
 refine sq (Rg (kx (bLss h30 h28) (Rn (hV (.int .i64 a1) h24 (hV (.sl none (a2.map (cI .i64))) h26 (hV (.int .i64 (a2.length : Int)) h28 (hV (.int .i64 s1_1) h30 (hN rfl hZ))))) fun e31 h33 h34 h35 h36 h37 => sN (sq ?_))))
 clear h24 h26 h28 h30
 rcases ite_some h with ⟨hb38, h⟩ | ⟨hb38, h⟩
 ·obtain ⟨x39, hx40, h⟩ := bind_some h
  refine cT h37 hb38 (xx (sN (sq (bl (sq (Rg (kx (ixS h34 h36 hx40 (cI_fl _)) (kx (ldP rfl rfl) (kx (mvO rfl) (Rn (hA h33 (hN rfl (hA h34 (hA h35 (hA h36 hZ))))) fun e41 h43 h44 h45 h46 h47 => sN (sq (Rg (kx (mvO h44) (kx (bLss rfl rfl) (kx (mvO rfl) ?_)))))))))))))))
  clear h33 h34 h35 h36 h37
  rcases ite_some h with ⟨hb48, h⟩ | ⟨hb48, h⟩
  ·refine kx (gsF rfl hb48) (kx (gsF rfl hb48) (kx (gsF rfl hb48) (kx (pkT rfl hb48 rfl) (Rn (hA h43 (hA h45 (hA h46 (hA h47 (hV (.bool true) rfl hZ))))) fun e49 h51 h52 h53 h54 h55 => sN (cT h55 rfl (sq (Rg (kx (mvO rfl) (Rn (hV (.bool false) rfl hZ) fun e56 h58 => sN (xx (bR (sR ?_))))))))))))
   clear h43 h44 h45 h46 h47 h51 h52 h53 h54 h55
   obtain rfl := si h
   exact qR ⟨rfl, h58⟩
  refine kx (guF rfl hb48 (mvO h44)) (kx (guF rfl hb48 (mvO h43)) (kx (guF rfl hb48 (bGeq rfl rfl)) (kx (pkF rfl hb48 rfl) (Rn (hA h43 (hA h45 (hA h46 (hA h47 (hN rfl hZ))))) fun e59 h61 h62 h63 h64 h65 => sN ?_))))
  clear h43 h44 h45 h46 h47
  rcases ite_some h with ⟨hb66, h⟩ | ⟨hb66, h⟩
  ·refine cT h65 hb66 (sq (Rg (kx (mvO rfl) (Rn (hV (.bool false) rfl hZ) fun e67 h69 => sN (xx (bR (sR ?_)))))))
   clear h61 h62 h63 h64 h65
   obtain rfl := si h
   exact qR ⟨rfl, h69⟩
  refine cF h65 hb66 (xx (bN (sN (Rg (kx (bAdd h64 rfl) (kx (mvO rfl) (Rn (hA h61 (hA h62 (hA h63 (hN rfl hZ)))) fun e70 h72 h73 h74 h75 => ?_)))))))
  clear h61 h62 h63 h65
  obtain rfl := si h
  exact qN ⟨h72, h73, h74, h75⟩
 refine cF h37 hb38 (xx (sE ?_))
 obtain rfl := si h
 exact qE ⟨rfl, trivial⟩
noncomputable def impl_arePeople (a1 : Int) (a2 : List Int) : Option Bool :=
 (Lw (impl_arePeople_b1 a1 a2) 0).bind fun r => match r with
 | (.inl _) =>
  some false
 | (.inr _) =>
  some true
def impl_arePeople_enc (r : Bool) : AV := .bool r
theorem impl_arePeople_ok (a1 : Int) (a2 : List Int) (r : Bool) (h : impl_arePeople a1 a2 = some r) : Ev (fun k => CN k 149 [.int .i64 a1, .sl none (a2.map (cI .i64))] []) (fun p => rRes p.2 p.1 = impl_arePeople_enc r) := by
 unfold impl_arePeople at h
 obtain ⟨r76, hr77, h⟩ := bind_some h
 refine Ev.enter (F := fun k => f149 (CN k) k) (fun k => callN_eq rfl Try.func149 rfl rfl rfl (by decide +kernel) (f149_eq _ _)) (sq (Rg (kx (mvO rfl) (Rn (hN rfl (hN rfl hZ)) fun e1 h3 h4 => sN (sq (sq (Rg (kx (mvO h4) (kx (lnS Try.underlying24 rfl) (kx (mvO rfl) (Rn (hA h3 (hN rfl (hN rfl (hV (.int .i64 0) rfl hZ)))) fun e5 h7 h8 h9 h10 => sN (bl ?_))))))))))))
 clear h3 h4
 rcases r76 with _ | _
 ·refine Ev.loop (RS := impl_arePeople_b1_RS a1 a2) (RR := impl_arePeople_b1_RR a1 a2) (fun s r h e M hs => impl_arePeople_b1_ok a1 a2 s r h e M hs) hr77 ⟨h7, h8, h9, h10⟩ fun x e79 M80 hq78 => ?_
  obtain ⟨rfl, h81⟩ := hq78
  refine bR (sR ?_)
  obtain rfl := si h
  exact eR (resT h81 res0) rfl
 refine Ev.loop (RS := impl_arePeople_b1_RS a1 a2) (RR := impl_arePeople_b1_RR a1 a2) (fun s r h e M hs => impl_arePeople_b1_ok a1 a2 s r h e M hs) hr77 ⟨h7, h8, h9, h10⟩ fun x e82 M83 hq78 => ?_
 obtain ⟨rfl, _⟩ := hq78
 refine bE (sN (sq (Rg (kx (mvO rfl) (Rn (hV (.bool true) rfl hZ) fun e84 h86 => sN (xx ?_))))))
 obtain rfl := si h
 exact eR (resT h86 res0) rfl
/-! ### loop.example/g01263/spec.l00In (f69) -/
noncomputable def spec_l00In (a1 : Int) (a2 : Int) (a3 : Int) : Option Bool :=
 if (decide (a1 ≥ a2)) = true then
  some (decide (a1 ≤ a3))
 else
  some false
def spec_l00In_enc (r : Bool) : AV := .bool r
theorem spec_l00In_ok (a1 : Int) (a2 : Int) (a3 : Int) (r : Bool) (h : spec_l00In a1 a2 a3 = some r) : Ev (fun k => CN k 69 [.int .i64 a1, .int .i64 a2, .int .i64 a3] []) (fun p => rRes p.2 p.1 = spec_l00In_enc r) := by
 unfold spec_l00In at h
 refine Ev.enter (F := fun k => f69 (CN k) k) (fun k => callN_eq rfl Try.func69 rfl rfl rfl (by decide +kernel) (f69_eq _ _)) (sq (Rg (kx (mvO rfl) (Rn (hN rfl (hN rfl (hN rfl hZ))) fun e1 h3 h4 h5 => sN (sq (Rg (kx (mvO h3) (kx (mvO h4) (kx (bGeq rfl rfl) (kx (mvO rfl) ?_))))))))))
 rcases ite_some h with ⟨hb6, h⟩ | ⟨hb6, h⟩
 ·refine kx (guT rfl hb6 (mvO h3)) (kx (guT rfl hb6 (mvO h5)) (kx (guT rfl hb6 (bLeq rfl rfl)) (kx (pkT rfl hb6 rfl) (kx (mvO rfl) (Rn (hN rfl hZ) fun e7 h9 => sN (xx ?_))))))
  clear h3 h4 h5
  obtain rfl := si h
  exact eR (resT h9 res0) rfl
 refine kx (gsT rfl hb6) (kx (gsT rfl hb6) (kx (gsT rfl hb6) (kx (pkF rfl hb6 rfl) (kx (mvO rfl) (Rn (hV (.bool false) rfl hZ) fun e10 h12 => sN (xx ?_))))))
 clear h3 h4 h5
 obtain rfl := si h
 exact eR (resT h12 res0) rfl
/-! ### loop.example/g01263/spec.l02Person (f145) -/
noncomputable def spec_l02Person (a1 : Int) (a2 : Int) : Option Bool :=
 (spec_l00In a2 0 (IntKind.i64.wrap (a1 - 1))).bind fun r6 =>
 some r6
def spec_l02Person_enc (r : Bool) : AV := .bool r
theorem spec_l02Person_ok (a1 : Int) (a2 : Int) (r : Bool) (h : spec_l02Person a1 a2 = some r) : Ev (fun k => CN k 145 [.int .i64 a1, .int .i64 a2] []) (fun p => rRes p.2 p.1 = spec_l02Person_enc r) := by
 unfold spec_l02Person at h
 obtain ⟨r6, hx5, h⟩ := bind_some h
 refine Ev.enter (F := fun k => f145 (CN k) k) (fun k => callN_eq rfl Try.func145 rfl rfl rfl (by decide +kernel) (f145_eq _ _)) (sq (Rg (kx (mvO rfl) (Rn (hN rfl (hN rfl hZ)) fun e1 h3 h4 => sN (sq (Rg (kx (mvO h4) (kx (mvO h3) (kx (bSub rfl rfl) (kc (cl (v := .bool r6) rfl (cns rfl (cns rfl (cns rfl rfl))) rfl (spec_l00In_ok a2 0 (IntKind.i64.wrap (a1 - 1)) _ hx5) nm) (kx (mvO rfl) (Rn (hN rfl hZ) fun e7 h9 => sN (xx ?_)))))))))))))
 clear h3 h4
 obtain rfl := si h
 exact eR (resT h9 res0) rfl
/-! ### loop.example/g01263/spec.l07Refused (f147) -/
def spec_l07Refused_c1_Q (a1 : Book) (a2 : Deal) (r : Unit ⊕ Bool) (q : Out) : Prop :=
  match r with
  | (.inl g) => q.1 = .ret ∧ eget q.2.1 4 = .int .i64 2
  | (.inr g) => q.1 = .nrm ∧ eget q.2.1 0 = .pt none [.int .i64 a1.Day, .sl none (a1.Cash.map (cI .i64)), .sl none (a1.Tallies.map Tally.c)] ∧ eget q.2.1 1 = .pt none [.int .i64 a2.Day, .int .i8 a2.Kind, .int .i64 a2.Tally, .int .i64 a2.From, .int .i64 a2.To, .int .i64 a2.Amount] ∧ eget q.2.1 55 = .bool g
def spec_l07Refused_c2_Q (a1 : Book) (a2 : Deal) (x91 : Tally) (r : Unit ⊕ Unit) (q : Out) : Prop :=
  match r with
  | (.inl g) => q.1 = .ret ∧ eget q.2.1 4 = .int .i64 4
  | (.inr g) => q.1 = .nrm ∧ eget q.2.1 0 = .pt none [.int .i64 a1.Day, .sl none (a1.Cash.map (cI .i64)), .sl none (a1.Tallies.map Tally.c)] ∧ eget q.2.1 1 = .pt none [.int .i64 a2.Day, .int .i8 a2.Kind, .int .i64 a2.Tally, .int .i64 a2.From, .int .i64 a2.To, .int .i64 a2.Amount] ∧ eget q.2.1 6 = .pt none [.int .i64 x91.Debtor, .int .i64 x91.Holder, .int .i64 x91.Cut, .int .i64 x91.Amount, .int .i64 x91.Left] ∧ eget q.2.1 136 = .bool (decide (a2.Amount > x91.Left))
def spec_l07Refused_c3_Q (a1 : Book) (a2 : Deal) (x91 : Tally) (g : Bool) (q : Out) : Prop := q.1 = .nrm ∧ eget q.2.1 0 = .pt none [.int .i64 a1.Day, .sl none (a1.Cash.map (cI .i64)), .sl none (a1.Tallies.map Tally.c)] ∧ eget q.2.1 1 = .pt none [.int .i64 a2.Day, .int .i8 a2.Kind, .int .i64 a2.Tally, .int .i64 a2.From, .int .i64 a2.To, .int .i64 a2.Amount] ∧ eget q.2.1 6 = .pt none [.int .i64 x91.Debtor, .int .i64 x91.Holder, .int .i64 x91.Cut, .int .i64 x91.Amount, .int .i64 x91.Left] ∧ eget q.2.1 158 = .bool g
noncomputable def spec_l07Refused (a1 : Book) (a2 : Deal) : Option Int :=
 if (decide (a2.Day < a1.Day)) = true then
  some 4
 else
  (((spec_l02Person (a1.Cash.length : Int) a2.From).bind fun r21 =>
  if r21 = true then
   (spec_l02Person (a1.Cash.length : Int) a2.To).bind fun r24 =>
   if r24 = true then
    if (a2.Kind != 1) = true then
     if (decide (a2.Tally ≥ (a1.Tallies.length : Int))) = true then
      some (.inl ())
     else
      some (.inr (decide (a2.Tally ≥ (a1.Tallies.length : Int))))
    else
     some (.inr false)
   else
    some (.inl ())
  else
   some (.inl ()) : Option (Unit ⊕ Bool))).bind fun r => match r with
  | (.inl _) =>
   some 2
  | (.inr y63) =>
   if (a2.Kind == 1) = true then
    if (a2.From == a2.To) = true then
     some 4
    else
     if ((a1.Tallies.length : Int) == 40) = true then
      some 3
     else
      some 0
   else
    (rd a1.Tallies a2.Tally).bind fun x91 =>
    ((if (a2.Kind == 2) = true then
     if (a2.From == a2.To) = true then
      some (.inl ())
     else
      if (a2.Kind != 3) = true then
       if (a2.From != x91.Holder) = true then
        some (.inl ())
       else
        if (x91.Left == 0) = true then
         some (.inl ())
        else
         if (decide (a2.Amount > x91.Left)) = true then
          some (.inl ())
         else
          some (.inr ())
      else
       if (x91.Left == 0) = true then
        some (.inl ())
       else
        if (decide (a2.Amount > x91.Left)) = true then
         some (.inl ())
        else
         some (.inr ())
    else
     if (a2.Kind != 3) = true then
      if (a2.From != x91.Holder) = true then
       some (.inl ())
      else
       if (x91.Left == 0) = true then
        some (.inl ())
       else
        if (decide (a2.Amount > x91.Left)) = true then
         some (.inl ())
        else
         some (.inr ())
     else
      if (x91.Left == 0) = true then
       some (.inl ())
      else
       if (decide (a2.Amount > x91.Left)) = true then
        some (.inl ())
       else
        some (.inr ()) : Option (Unit ⊕ Unit))).bind fun r => match r with
    | (.inl _) =>
     some 4
    | (.inr _) =>
     (if (a2.Kind == 3) = true then
      (rd a1.Cash x91.Debtor).bind fun x222 =>
      some (decide (x222 < a2.Amount))
     else
      some false).bind fun y238 =>
     if y238 = true then
      some 8
     else
      if (a2.Kind == 3) = true then
       (rd a1.Cash x91.Holder).bind fun x248 =>
       if (decide ((IntKind.i64.wrap (x248 + a2.Amount)) > 100000000)) = true then
        some 3
       else
        some 0
      else
       some 0
def spec_l07Refused_enc (r : Int) : AV := .int .i64 r
theorem spec_l07Refused_ok (a1 : Book) (a2 : Deal) (r : Int) (h : spec_l07Refused a1 a2 = some r) : Ev (fun k => CN k 147 [.pt none [.int .i64 a1.Day, .sl none (a1.Cash.map (cI .i64)), .sl none (a1.Tallies.map Tally.c)], .pt none [.int .i64 a2.Day, .int .i8 a2.Kind, .int .i64 a2.Tally, .int .i64 a2.From, .int .i64 a2.To, .int .i64 a2.Amount]] []) (fun p => rRes p.2 p.1 = spec_l07Refused_enc r) := by
 unfold spec_l07Refused at h
 refine Ev.enter (F := fun k => f147 (CN k) k) (fun k => callN_eq rfl Try.func147 rfl rfl rfl (by decide +kernel) (f147_eq _ _)) (sq (Rg (kx (mvO rfl) (Rn (hN rfl (hN rfl hZ)) fun e1 h3 h4 => sN (sq (Rg (kx (mvO h3) (kx (ncP rfl) (kx (faP rfl ⟨ble rfl, blt rfl⟩ rfl) (kx (ldP rfl rfl) (kx (lnS Try.underlying24 rfl) (kx (mvO rfl) (Rn (hA h3 (hA h4 (hN rfl hZ))) fun e5 h7 h8 h9 => sN (sq (sq (Rd (kf (mvO h8) (kf (ncP rfl) (kf (faP rfl ⟨ble rfl, blt rfl⟩ rfl) (kf (ldP rfl rfl) (kf (mvO h7) (kf (ncP rfl) (kf (faP rfl ⟨ble rfl, blt rfl⟩ rfl) (kf (ldP rfl rfl) (kf (bLss rfl rfl) (fZ (Rn (hA h7 (hA h8 (hA h9 (hN rfl hZ)))) fun e10 h12 h13 h14 h15 => sN ?_)))))))))))))))))))))))))))
 clear h3 h4 h7 h8 h9
 rcases ite_some h with ⟨hb16, h⟩ | ⟨hb16, h⟩
 ·refine cT h15 hb16 (sq (Rg (kx (mvO rfl) (Rn (hV (.int .i64 4) rfl hZ) fun e17 h19 => sN (xx (sR ?_))))))
  clear h12 h13 h14 h15
  obtain rfl := si h
  exact eR (resT h19 res0) rfl
 obtain ⟨r273, hr274, h⟩ := bind_some h
 refine cF h15 hb16 (xx (sN (sq ?_)))
 refine Ev.cut (Q1 := spec_l07Refused_c1_Q a1 a2 r273) (by
     have h := hr274
     obtain ⟨r21, hx20, h⟩ := bind_some h
     refine sq (Rd (kf (mvO h14) (kf (mvO h13) (kf (ncP rfl) (kf (faP rfl ⟨ble rfl, blt rfl⟩ rfl) (kf (ldP rfl rfl) (fc (cl (v := .bool r21) rfl (cns rfl (cns rfl rfl)) rfl (spec_l02Person_ok (a1.Cash.length : Int) a2.From _ hx20) nm) (kf (uNot rfl) (kf (mvO rfl) ?_)))))))))
     rcases ite_some h with ⟨hb22, h⟩ | ⟨hb22, h⟩
     ·obtain ⟨r24, hx23, h⟩ := bind_some h
      refine kf (guF rfl (congrArg Bool.not hb22) (mvO h14)) (kf (guF rfl (congrArg Bool.not hb22) (mvO h13)) (kf (guF rfl (congrArg Bool.not hb22) (ncP rfl)) (kf (guF rfl (congrArg Bool.not hb22) (faP rfl ⟨ble rfl, blt rfl⟩ rfl)) (kf (guF rfl (congrArg Bool.not hb22) (ldP rfl rfl)) (fc (Ev.guF rfl (congrArg Bool.not hb22) (cl (v := .bool r24) rfl (cns rfl (cns rfl rfl)) rfl (spec_l02Person_ok (a1.Cash.length : Int) a2.To _ hx23) nm)) (kf (guF rfl (congrArg Bool.not hb22) (uNot rfl)) (kf (pkF rfl (congrArg Bool.not hb22) rfl) (kf (mvO rfl) ?_))))))))
      rcases ite_some h with ⟨hb25, h⟩ | ⟨hb25, h⟩
      ·refine kf (guF rfl (congrArg Bool.not hb25) (mvO h13)) (kf (guF rfl (congrArg Bool.not hb25) (ncP rfl)) (kf (guF rfl (congrArg Bool.not hb25) (faP rfl ⟨ble rfl, blt rfl⟩ rfl)) (kf (guF rfl (congrArg Bool.not hb25) (ldP rfl rfl)) (kf (guF rfl (congrArg Bool.not hb25) (bNeq rfl rfl)) (kf (guF rfl (congrArg Bool.not hb25) (mvO rfl)) ?_)))))
       rcases ite_some h with ⟨hb26, h⟩ | ⟨hb26, h⟩
       ·refine kf (guT rfl hb26 (mvO h13)) (kf (guT rfl hb26 (ncP rfl)) (kf (guT rfl hb26 (faP rfl ⟨ble rfl, blt rfl⟩ rfl)) (kf (guT rfl hb26 (ldP rfl rfl)) (kf (guT rfl hb26 (mvO h12)) (kf (guT rfl hb26 (ncP rfl)) (kf (guT rfl hb26 (faP rfl ⟨ble rfl, blt rfl⟩ rfl)) (kf (guT rfl hb26 (ldP rfl rfl)) (kf (guT rfl hb26 (lnS Try.underlying48 rfl)) (kf (guT rfl hb26 (bGeq rfl rfl)) (kf (guF rfl (congrArg Bool.not hb25) (pkT rfl hb26 rfl)) (kf (pkF rfl (congrArg Bool.not hb25) rfl) (fZ (Rn (hA h12 (hA h13 (hN rfl hZ))) fun e27 h29 h30 h31 => sN ?_)))))))))))))
        clear h12 h13 h14 h15
        rcases ite_some h with ⟨hb32, h⟩ | ⟨hb32, h⟩
        ·refine cT h31 hb32 (sq (Rg (kx (mvO rfl) (Rn (hV (.int .i64 2) rfl hZ) fun e33 h35 => sN (xx ?_)))))
         clear h29 h30 h31
         obtain rfl := si h
         exact kd (show spec_l07Refused_c1_Q a1 a2 _ _ from ⟨rfl, h35⟩)
        refine cF h31 hb32 (xx ?_)
        obtain rfl := si h
        exact kd (show spec_l07Refused_c1_Q a1 a2 _ _ from ⟨rfl, h29, h30, h31⟩)
       refine kf (gsT rfl hb26) (kf (gsT rfl hb26) (kf (gsT rfl hb26) (kf (gsT rfl hb26) (kf (gsT rfl hb26) (kf (gsT rfl hb26) (kf (gsT rfl hb26) (kf (gsT rfl hb26) (kf (gsT rfl hb26) (kf (gsT rfl hb26) (kf (guF rfl (congrArg Bool.not hb25) (pkF rfl hb26 rfl)) (kf (pkF rfl (congrArg Bool.not hb25) rfl) (fZ (Rn (hA h12 (hA h13 (hV (.bool false) rfl hZ))) fun e36 h38 h39 h40 => sN (cF h40 rfl (xx ?_)))))))))))))))
       clear h12 h13 h14 h15
       obtain rfl := si h
       exact kd (show spec_l07Refused_c1_Q a1 a2 _ _ from ⟨rfl, h38, h39, h40⟩)
      refine kf (gsF rfl (congrArg Bool.not hb25)) (kf (gsF rfl (congrArg Bool.not hb25)) (kf (gsF rfl (congrArg Bool.not hb25)) (kf (gsF rfl (congrArg Bool.not hb25)) (kf (gsF rfl (congrArg Bool.not hb25)) (kf (gsF rfl (congrArg Bool.not hb25)) (kf (gsU rfl) (kf (gsU rfl) (kf (gsU rfl) (kf (gsU rfl) (kf (gsU rfl) (kf (gsU rfl) (kf (gsU rfl) (kf (gsU rfl) (kf (gsU rfl) (kf (gsU rfl) (kf (gsF rfl (congrArg Bool.not hb25)) (kf (pkT rfl (congrArg Bool.not hb25) rfl) (fZ (Rn (hA h12 (hA h13 (hV (.bool true) rfl hZ))) fun e41 h43 h44 h45 => sN (cT h45 rfl (sq (Rg (kx (mvO rfl) (Rn (hV (.int .i64 2) rfl hZ) fun e46 h48 => sN (xx ?_)))))))))))))))))))))))))
      clear h12 h13 h14 h15 h43 h44 h45
      obtain rfl := si h
      exact kd (show spec_l07Refused_c1_Q a1 a2 _ _ from ⟨rfl, h48⟩)
     refine kf (gsF rfl (congrArg Bool.not hb22)) (kf (gsF rfl (congrArg Bool.not hb22)) (kf (gsF rfl (congrArg Bool.not hb22)) (kf (gsF rfl (congrArg Bool.not hb22)) (kf (gsF rfl (congrArg Bool.not hb22)) (fc (Ev.gsF rfl (congrArg Bool.not hb22)) (kf (gsF rfl (congrArg Bool.not hb22)) (kf (pkT rfl (congrArg Bool.not hb22) rfl) (kf (mvO rfl) (kf (gsF rfl rfl) (kf (gsF rfl rfl) (kf (gsF rfl rfl) (kf (gsF rfl rfl) (kf (gsF rfl rfl) (kf (gsF rfl rfl) (kf (gsU rfl) (kf (gsU rfl) (kf (gsU rfl) (kf (gsU rfl) (kf (gsU rfl) (kf (gsU rfl) (kf (gsU rfl) (kf (gsU rfl) (kf (gsU rfl) (kf (gsU rfl) (kf (gsF rfl rfl) (kf (pkT rfl rfl rfl) (fZ (Rn (hA h12 (hA h13 (hV (.bool true) rfl hZ))) fun e49 h51 h52 h53 => sN (cT h53 rfl (sq (Rg (kx (mvO rfl) (Rn (hV (.int .i64 2) rfl hZ) fun e54 h56 => sN (xx ?_))))))))))))))))))))))))))))))))))
     clear h12 h13 h14 h15 h51 h52 h53
     obtain rfl := si h
     exact kd (show spec_l07Refused_c1_Q a1 a2 _ _ from ⟨rfl, h56⟩)) ?_
 rcases r273 with _ | y63
 ·intro x e57 M58 hq60
  obtain ⟨rfl, h59⟩ := hq60
  refine sR ?_
  obtain rfl := si h
  exact eR (resT h59 res0) rfl
 intro x e61 M62 hq272
 obtain ⟨rfl, h64, h65, h66⟩ := hq272
 refine sN (sq (sq (Rg (kx (mvO h65) (kx (ncP rfl) (kx (faP rfl ⟨ble rfl, blt rfl⟩ rfl) (kx (ldP rfl rfl) (kx (bEql rfl rfl) (Rn (hV (.pt none [.int .i64 a1.Day, .sl none (a1.Cash.map (cI .i64)), .sl none (a1.Tallies.map Tally.c)]) h64 (hV (.pt none [.int .i64 a2.Day, .int .i8 a2.Kind, .int .i64 a2.Tally, .int .i64 a2.From, .int .i64 a2.To, .int .i64 a2.Amount]) h65 (hN rfl hZ))) fun e67 h69 h70 h71 => sN ?_)))))))))
 clear h64 h65 h66
 rcases ite_some h with ⟨hb72, h⟩ | ⟨hb72, h⟩
 ·refine cT h71 hb72 (sq (sq (Rd (kf (mvO h70) (kf (ncP rfl) (kf (faP rfl ⟨ble rfl, blt rfl⟩ rfl) (kf (ldP rfl rfl) (kf (mvO h70) (kf (ncP rfl) (kf (faP rfl ⟨ble rfl, blt rfl⟩ rfl) (kf (ldP rfl rfl) (kf (bEql rfl rfl) (fZ (Rn (hA h69 (hN rfl hZ)) fun e73 h75 h76 => sN ?_))))))))))))))
  clear h69 h70 h71
  rcases ite_some h with ⟨hb77, h⟩ | ⟨hb77, h⟩
  ·refine cT h76 hb77 (sq (Rg (kx (mvO rfl) (Rn (hV (.int .i64 4) rfl hZ) fun e78 h80 => sN (xx (sR (sR ?_)))))))
   clear h75 h76
   obtain rfl := si h
   exact eR (resT h80 res0) rfl
  refine cF h76 hb77 (xx (sN (sq (sq (Rg (kx (mvO h75) (kx (ncP rfl) (kx (faP rfl ⟨ble rfl, blt rfl⟩ rfl) (kx (ldP rfl rfl) (kx (lnS Try.underlying48 rfl) (kx (bEql rfl rfl) (Rn (hN rfl hZ) fun e81 h83 => sN ?_))))))))))))
  clear h75 h76
  rcases ite_some h with ⟨hb84, h⟩ | ⟨hb84, h⟩
  ·refine cT h83 hb84 (sq (Rg (kx (mvO rfl) (Rn (hV (.int .i64 3) rfl hZ) fun e85 h87 => sN (xx (sR (sR ?_)))))))
   clear h83
   obtain rfl := si h
   exact eR (resT h87 res0) rfl
  refine cF h83 hb84 (xx (sN (sq (Rg (kx (mvO rfl) (Rn (hV (.int .i64 0) rfl hZ) fun e88 h90 => sN (xx (sR ?_))))))))
  clear h83
  obtain rfl := si h
  exact eR (resT h90 res0) rfl
 obtain ⟨x91, hx92, h⟩ := bind_some h
 obtain ⟨r270, hr271, h⟩ := bind_some h
 refine cF h71 hb72 (xx (sN (sq (Rd (kf (mvO h69) (kf (ncP rfl) (kf (faP rfl ⟨ble rfl, blt rfl⟩ rfl) (kf (ldP rfl rfl) (kf (mvO h70) (kf (ncP rfl) (kf (faP rfl ⟨ble rfl, blt rfl⟩ rfl) (kf (ldP rfl rfl) (kf (ixS rfl rfl hx92 Tally.fl) (kf (mvO rfl) (fZ (Rn (hA h69 (hA h70 (hN rfl hZ))) fun e93 h95 h96 h97 => sN (sq ?_)))))))))))))))))
 clear h69 h70 h71
 refine Ev.cut (Q1 := spec_l07Refused_c2_Q a1 a2 x91 r270) (by
     have h := hr271
     refine sq (Rd (kf (mvO h96) (kf (ncP rfl) (kf (faP rfl ⟨ble rfl, blt rfl⟩ rfl) (kf (ldP rfl rfl) (kf (bEql rfl rfl) (kf (mvO rfl) ?_)))))))
     rcases ite_some h with ⟨hb98, h⟩ | ⟨hb98, h⟩
     ·refine kf (guT rfl hb98 (mvO h96)) (kf (guT rfl hb98 (ncP rfl)) (kf (guT rfl hb98 (faP rfl ⟨ble rfl, blt rfl⟩ rfl)) (kf (guT rfl hb98 (ldP rfl rfl)) (kf (guT rfl hb98 (mvO h96)) (kf (guT rfl hb98 (ncP rfl)) (kf (guT rfl hb98 (faP rfl ⟨ble rfl, blt rfl⟩ rfl)) (kf (guT rfl hb98 (ldP rfl rfl)) (kf (guT rfl hb98 (bEql rfl rfl)) (kf (pkT rfl hb98 rfl) (kf (mvO rfl) ?_))))))))))
      rcases ite_some h with ⟨hb99, h⟩ | ⟨hb99, h⟩
      ·refine kf (gsF rfl hb99) (kf (gsF rfl hb99) (kf (gsF rfl hb99) (kf (gsF rfl hb99) (kf (gsF rfl hb99) (kf (gsF rfl hb99) (kf (gsU rfl) (kf (gsU rfl) (kf (gsU rfl) (kf (gsU rfl) (kf (gsU rfl) (kf (gsU rfl) (kf (gsU rfl) (kf (gsU rfl) (kf (gsU rfl) (kf (gsF rfl hb99) (kf (pkT rfl hb99 rfl) (kf (mvO rfl) (kf (gsF rfl rfl) (kf (gsF rfl rfl) (kf (gsF rfl rfl) (kf (gsF rfl rfl) (kf (gsF rfl rfl) (kf (pkT rfl rfl rfl) (kf (mvO rfl) (kf (gsF rfl rfl) (kf (gsF rfl rfl) (kf (gsF rfl rfl) (kf (gsF rfl rfl) (kf (gsF rfl rfl) (kf (gsF rfl rfl) (kf (gsF rfl rfl) (kf (gsF rfl rfl) (kf (gsF rfl rfl) (kf (pkT rfl rfl rfl) (fZ (Rn (hA h95 (hA h96 (hA h97 (hV (.bool true) rfl hZ)))) fun e100 h102 h103 h104 h105 => sN (cT h105 rfl (sq (Rg (kx (mvO rfl) (Rn (hV (.int .i64 4) rfl hZ) fun e106 h108 => sN (xx ?_))))))))))))))))))))))))))))))))))))))))))
       clear h95 h96 h97 h102 h103 h104 h105
       obtain rfl := si h
       exact kd (show spec_l07Refused_c2_Q a1 a2 x91 _ _ from ⟨rfl, h108⟩)
      refine kf (guF rfl hb99 (mvO h96)) (kf (guF rfl hb99 (ncP rfl)) (kf (guF rfl hb99 (faP rfl ⟨ble rfl, blt rfl⟩ rfl)) (kf (guF rfl hb99 (ldP rfl rfl)) (kf (guF rfl hb99 (bNeq rfl rfl)) (kf (guF rfl hb99 (mvO rfl)) ?_)))))
      rcases ite_some h with ⟨hb109, h⟩ | ⟨hb109, h⟩
      ·refine kf (guT rfl hb109 (mvO h96)) (kf (guT rfl hb109 (ncP rfl)) (kf (guT rfl hb109 (faP rfl ⟨ble rfl, blt rfl⟩ rfl)) (kf (guT rfl hb109 (ldP rfl rfl)) (kf (guT rfl hb109 (mvO h97)) (kf (guT rfl hb109 (ncP rfl)) (kf (guT rfl hb109 (faP rfl ⟨ble rfl, blt rfl⟩ rfl)) (kf (guT rfl hb109 (ldP rfl rfl)) (kf (guT rfl hb109 (bNeq rfl rfl)) (kf (guF rfl hb99 (pkT rfl hb109 rfl)) (kf (pkF rfl hb99 rfl) (kf (mvO rfl) ?_)))))))))))
       rcases ite_some h with ⟨hb110, h⟩ | ⟨hb110, h⟩
       ·refine kf (gsF rfl hb110) (kf (gsF rfl hb110) (kf (gsF rfl hb110) (kf (gsF rfl hb110) (kf (gsF rfl hb110) (kf (pkT rfl hb110 rfl) (kf (mvO rfl) (kf (gsF rfl rfl) (kf (gsF rfl rfl) (kf (gsF rfl rfl) (kf (gsF rfl rfl) (kf (gsF rfl rfl) (kf (gsF rfl rfl) (kf (gsF rfl rfl) (kf (gsF rfl rfl) (kf (gsF rfl rfl) (kf (pkT rfl rfl rfl) (fZ (Rn (hA h95 (hA h96 (hA h97 (hV (.bool true) rfl hZ)))) fun e111 h113 h114 h115 h116 => sN (cT h116 rfl (sq (Rg (kx (mvO rfl) (Rn (hV (.int .i64 4) rfl hZ) fun e117 h119 => sN (xx ?_))))))))))))))))))))))))
        clear h95 h96 h97 h113 h114 h115 h116
        obtain rfl := si h
        exact kd (show spec_l07Refused_c2_Q a1 a2 x91 _ _ from ⟨rfl, h119⟩)
       refine kf (guF rfl hb110 (mvO h97)) (kf (guF rfl hb110 (ncP rfl)) (kf (guF rfl hb110 (faP rfl ⟨ble rfl, blt rfl⟩ rfl)) (kf (guF rfl hb110 (ldP rfl rfl)) (kf (guF rfl hb110 (bEql rfl rfl)) (kf (pkF rfl hb110 rfl) (kf (mvO rfl) ?_))))))
       rcases ite_some h with ⟨hb120, h⟩ | ⟨hb120, h⟩
       ·refine kf (gsF rfl hb120) (kf (gsF rfl hb120) (kf (gsF rfl hb120) (kf (gsF rfl hb120) (kf (gsF rfl hb120) (kf (gsF rfl hb120) (kf (gsF rfl hb120) (kf (gsF rfl hb120) (kf (gsF rfl hb120) (kf (pkT rfl hb120 rfl) (fZ (Rn (hA h95 (hA h96 (hA h97 (hV (.bool true) rfl hZ)))) fun e121 h123 h124 h125 h126 => sN (cT h126 rfl (sq (Rg (kx (mvO rfl) (Rn (hV (.int .i64 4) rfl hZ) fun e127 h129 => sN (xx ?_)))))))))))))))))
        clear h95 h96 h97 h123 h124 h125 h126
        obtain rfl := si h
        exact kd (show spec_l07Refused_c2_Q a1 a2 x91 _ _ from ⟨rfl, h129⟩)
       refine kf (guF rfl hb120 (mvO h96)) (kf (guF rfl hb120 (ncP rfl)) (kf (guF rfl hb120 (faP rfl ⟨ble rfl, blt rfl⟩ rfl)) (kf (guF rfl hb120 (ldP rfl rfl)) (kf (guF rfl hb120 (mvO h97)) (kf (guF rfl hb120 (ncP rfl)) (kf (guF rfl hb120 (faP rfl ⟨ble rfl, blt rfl⟩ rfl)) (kf (guF rfl hb120 (ldP rfl rfl)) (kf (guF rfl hb120 (bGtr rfl rfl)) (kf (pkF rfl hb120 rfl) (fZ (Rn (hA h95 (hA h96 (hA h97 (hN rfl hZ)))) fun e130 h132 h133 h134 h135 => sN ?_)))))))))))
       clear h95 h96 h97
       rcases ite_some h with ⟨hb136, h⟩ | ⟨hb136, h⟩
       ·refine cT h135 hb136 (sq (Rg (kx (mvO rfl) (Rn (hV (.int .i64 4) rfl hZ) fun e137 h139 => sN (xx ?_)))))
        clear h132 h133 h134 h135
        obtain rfl := si h
        exact kd (show spec_l07Refused_c2_Q a1 a2 x91 _ _ from ⟨rfl, h139⟩)
       refine cF h135 hb136 (xx ?_)
       obtain rfl := si h
       exact kd (show spec_l07Refused_c2_Q a1 a2 x91 _ _ from ⟨rfl, h132, h133, h134, h135⟩)
      refine kf (gsT rfl hb109) (kf (gsT rfl hb109) (kf (gsT rfl hb109) (kf (gsT rfl hb109) (kf (gsT rfl hb109) (kf (gsT rfl hb109) (kf (gsT rfl hb109) (kf (gsT rfl hb109) (kf (gsT rfl hb109) (kf (guF rfl hb99 (pkF rfl hb109 rfl)) (kf (pkF rfl hb99 rfl) (kf (mvO rfl) (kf (guF rfl rfl (mvO h97)) (kf (guF rfl rfl (ncP rfl)) (kf (guF rfl rfl (faP rfl ⟨ble rfl, blt rfl⟩ rfl)) (kf (guF rfl rfl (ldP rfl rfl)) (kf (guF rfl rfl (bEql rfl rfl)) (kf (pkF rfl rfl rfl) (kf (mvO rfl) ?_))))))))))))))))))
      rcases ite_some h with ⟨hb140, h⟩ | ⟨hb140, h⟩
      ·refine kf (gsF rfl hb140) (kf (gsF rfl hb140) (kf (gsF rfl hb140) (kf (gsF rfl hb140) (kf (gsF rfl hb140) (kf (gsF rfl hb140) (kf (gsF rfl hb140) (kf (gsF rfl hb140) (kf (gsF rfl hb140) (kf (pkT rfl hb140 rfl) (fZ (Rn (hA h95 (hA h96 (hA h97 (hV (.bool true) rfl hZ)))) fun e141 h143 h144 h145 h146 => sN (cT h146 rfl (sq (Rg (kx (mvO rfl) (Rn (hV (.int .i64 4) rfl hZ) fun e147 h149 => sN (xx ?_)))))))))))))))))
       clear h95 h96 h97 h143 h144 h145 h146
       obtain rfl := si h
       exact kd (show spec_l07Refused_c2_Q a1 a2 x91 _ _ from ⟨rfl, h149⟩)
      refine kf (guF rfl hb140 (mvO h96)) (kf (guF rfl hb140 (ncP rfl)) (kf (guF rfl hb140 (faP rfl ⟨ble rfl, blt rfl⟩ rfl)) (kf (guF rfl hb140 (ldP rfl rfl)) (kf (guF rfl hb140 (mvO h97)) (kf (guF rfl hb140 (ncP rfl)) (kf (guF rfl hb140 (faP rfl ⟨ble rfl, blt rfl⟩ rfl)) (kf (guF rfl hb140 (ldP rfl rfl)) (kf (guF rfl hb140 (bGtr rfl rfl)) (kf (pkF rfl hb140 rfl) (fZ (Rn (hA h95 (hA h96 (hA h97 (hN rfl hZ)))) fun e150 h152 h153 h154 h155 => sN ?_)))))))))))
      clear h95 h96 h97
      rcases ite_some h with ⟨hb156, h⟩ | ⟨hb156, h⟩
      ·refine cT h155 hb156 (sq (Rg (kx (mvO rfl) (Rn (hV (.int .i64 4) rfl hZ) fun e157 h159 => sN (xx ?_)))))
       clear h152 h153 h154 h155
       obtain rfl := si h
       exact kd (show spec_l07Refused_c2_Q a1 a2 x91 _ _ from ⟨rfl, h159⟩)
      refine cF h155 hb156 (xx ?_)
      obtain rfl := si h
      exact kd (show spec_l07Refused_c2_Q a1 a2 x91 _ _ from ⟨rfl, h152, h153, h154, h155⟩)
     refine kf (gsT rfl hb98) (kf (gsT rfl hb98) (kf (gsT rfl hb98) (kf (gsT rfl hb98) (kf (gsT rfl hb98) (kf (gsT rfl hb98) (kf (gsT rfl hb98) (kf (gsT rfl hb98) (kf (gsT rfl hb98) (kf (pkF rfl hb98 rfl) (kf (mvO rfl) (kf (guF rfl rfl (mvO h96)) (kf (guF rfl rfl (ncP rfl)) (kf (guF rfl rfl (faP rfl ⟨ble rfl, blt rfl⟩ rfl)) (kf (guF rfl rfl (ldP rfl rfl)) (kf (guF rfl rfl (bNeq rfl rfl)) (kf (guF rfl rfl (mvO rfl)) ?_))))))))))))))))
     rcases ite_some h with ⟨hb160, h⟩ | ⟨hb160, h⟩
     ·refine kf (guT rfl hb160 (mvO h96)) (kf (guT rfl hb160 (ncP rfl)) (kf (guT rfl hb160 (faP rfl ⟨ble rfl, blt rfl⟩ rfl)) (kf (guT rfl hb160 (ldP rfl rfl)) (kf (guT rfl hb160 (mvO h97)) (kf (guT rfl hb160 (ncP rfl)) (kf (guT rfl hb160 (faP rfl ⟨ble rfl, blt rfl⟩ rfl)) (kf (guT rfl hb160 (ldP rfl rfl)) (kf (guT rfl hb160 (bNeq rfl rfl)) (kf (guF rfl rfl (pkT rfl hb160 rfl)) (kf (pkF rfl rfl rfl) (kf (mvO rfl) ?_)))))))))))
      rcases ite_some h with ⟨hb161, h⟩ | ⟨hb161, h⟩
      ·refine kf (gsF rfl hb161) (kf (gsF rfl hb161) (kf (gsF rfl hb161) (kf (gsF rfl hb161) (kf (gsF rfl hb161) (kf (pkT rfl hb161 rfl) (kf (mvO rfl) (kf (gsF rfl rfl) (kf (gsF rfl rfl) (kf (gsF rfl rfl) (kf (gsF rfl rfl) (kf (gsF rfl rfl) (kf (gsF rfl rfl) (kf (gsF rfl rfl) (kf (gsF rfl rfl) (kf (gsF rfl rfl) (kf (pkT rfl rfl rfl) (fZ (Rn (hA h95 (hA h96 (hA h97 (hV (.bool true) rfl hZ)))) fun e162 h164 h165 h166 h167 => sN (cT h167 rfl (sq (Rg (kx (mvO rfl) (Rn (hV (.int .i64 4) rfl hZ) fun e168 h170 => sN (xx ?_))))))))))))))))))))))))
       clear h95 h96 h97 h164 h165 h166 h167
       obtain rfl := si h
       exact kd (show spec_l07Refused_c2_Q a1 a2 x91 _ _ from ⟨rfl, h170⟩)
      refine kf (guF rfl hb161 (mvO h97)) (kf (guF rfl hb161 (ncP rfl)) (kf (guF rfl hb161 (faP rfl ⟨ble rfl, blt rfl⟩ rfl)) (kf (guF rfl hb161 (ldP rfl rfl)) (kf (guF rfl hb161 (bEql rfl rfl)) (kf (pkF rfl hb161 rfl) (kf (mvO rfl) ?_))))))
      rcases ite_some h with ⟨hb171, h⟩ | ⟨hb171, h⟩
      ·refine kf (gsF rfl hb171) (kf (gsF rfl hb171) (kf (gsF rfl hb171) (kf (gsF rfl hb171) (kf (gsF rfl hb171) (kf (gsF rfl hb171) (kf (gsF rfl hb171) (kf (gsF rfl hb171) (kf (gsF rfl hb171) (kf (pkT rfl hb171 rfl) (fZ (Rn (hA h95 (hA h96 (hA h97 (hV (.bool true) rfl hZ)))) fun e172 h174 h175 h176 h177 => sN (cT h177 rfl (sq (Rg (kx (mvO rfl) (Rn (hV (.int .i64 4) rfl hZ) fun e178 h180 => sN (xx ?_)))))))))))))))))
       clear h95 h96 h97 h174 h175 h176 h177
       obtain rfl := si h
       exact kd (show spec_l07Refused_c2_Q a1 a2 x91 _ _ from ⟨rfl, h180⟩)
      refine kf (guF rfl hb171 (mvO h96)) (kf (guF rfl hb171 (ncP rfl)) (kf (guF rfl hb171 (faP rfl ⟨ble rfl, blt rfl⟩ rfl)) (kf (guF rfl hb171 (ldP rfl rfl)) (kf (guF rfl hb171 (mvO h97)) (kf (guF rfl hb171 (ncP rfl)) (kf (guF rfl hb171 (faP rfl ⟨ble rfl, blt rfl⟩ rfl)) (kf (guF rfl hb171 (ldP rfl rfl)) (kf (guF rfl hb171 (bGtr rfl rfl)) (kf (pkF rfl hb171 rfl) (fZ (Rn (hA h95 (hA h96 (hA h97 (hN rfl hZ)))) fun e181 h183 h184 h185 h186 => sN ?_)))))))))))
      clear h95 h96 h97
      rcases ite_some h with ⟨hb187, h⟩ | ⟨hb187, h⟩
      ·refine cT h186 hb187 (sq (Rg (kx (mvO rfl) (Rn (hV (.int .i64 4) rfl hZ) fun e188 h190 => sN (xx ?_)))))
       clear h183 h184 h185 h186
       obtain rfl := si h
       exact kd (show spec_l07Refused_c2_Q a1 a2 x91 _ _ from ⟨rfl, h190⟩)
      refine cF h186 hb187 (xx ?_)
      obtain rfl := si h
      exact kd (show spec_l07Refused_c2_Q a1 a2 x91 _ _ from ⟨rfl, h183, h184, h185, h186⟩)
     refine kf (gsT rfl hb160) (kf (gsT rfl hb160) (kf (gsT rfl hb160) (kf (gsT rfl hb160) (kf (gsT rfl hb160) (kf (gsT rfl hb160) (kf (gsT rfl hb160) (kf (gsT rfl hb160) (kf (gsT rfl hb160) (kf (guF rfl rfl (pkF rfl hb160 rfl)) (kf (pkF rfl rfl rfl) (kf (mvO rfl) (kf (guF rfl rfl (mvO h97)) (kf (guF rfl rfl (ncP rfl)) (kf (guF rfl rfl (faP rfl ⟨ble rfl, blt rfl⟩ rfl)) (kf (guF rfl rfl (ldP rfl rfl)) (kf (guF rfl rfl (bEql rfl rfl)) (kf (pkF rfl rfl rfl) (kf (mvO rfl) ?_))))))))))))))))))
     rcases ite_some h with ⟨hb191, h⟩ | ⟨hb191, h⟩
     ·refine kf (gsF rfl hb191) (kf (gsF rfl hb191) (kf (gsF rfl hb191) (kf (gsF rfl hb191) (kf (gsF rfl hb191) (kf (gsF rfl hb191) (kf (gsF rfl hb191) (kf (gsF rfl hb191) (kf (gsF rfl hb191) (kf (pkT rfl hb191 rfl) (fZ (Rn (hA h95 (hA h96 (hA h97 (hV (.bool true) rfl hZ)))) fun e192 h194 h195 h196 h197 => sN (cT h197 rfl (sq (Rg (kx (mvO rfl) (Rn (hV (.int .i64 4) rfl hZ) fun e198 h200 => sN (xx ?_)))))))))))))))))
      clear h95 h96 h97 h194 h195 h196 h197
      obtain rfl := si h
      exact kd (show spec_l07Refused_c2_Q a1 a2 x91 _ _ from ⟨rfl, h200⟩)
     refine kf (guF rfl hb191 (mvO h96)) (kf (guF rfl hb191 (ncP rfl)) (kf (guF rfl hb191 (faP rfl ⟨ble rfl, blt rfl⟩ rfl)) (kf (guF rfl hb191 (ldP rfl rfl)) (kf (guF rfl hb191 (mvO h97)) (kf (guF rfl hb191 (ncP rfl)) (kf (guF rfl hb191 (faP rfl ⟨ble rfl, blt rfl⟩ rfl)) (kf (guF rfl hb191 (ldP rfl rfl)) (kf (guF rfl hb191 (bGtr rfl rfl)) (kf (pkF rfl hb191 rfl) (fZ (Rn (hA h95 (hA h96 (hA h97 (hN rfl hZ)))) fun e201 h203 h204 h205 h206 => sN ?_)))))))))))
     clear h95 h96 h97
     rcases ite_some h with ⟨hb207, h⟩ | ⟨hb207, h⟩
     ·refine cT h206 hb207 (sq (Rg (kx (mvO rfl) (Rn (hV (.int .i64 4) rfl hZ) fun e208 h210 => sN (xx ?_)))))
      clear h203 h204 h205 h206
      obtain rfl := si h
      exact kd (show spec_l07Refused_c2_Q a1 a2 x91 _ _ from ⟨rfl, h210⟩)
     refine cF h206 hb207 (xx ?_)
     obtain rfl := si h
     exact kd (show spec_l07Refused_c2_Q a1 a2 x91 _ _ from ⟨rfl, h203, h204, h205, h206⟩)) ?_
 rcases r270 with _ | _
 ·intro x e211 M212 hq214
  obtain ⟨rfl, h213⟩ := hq214
  refine sR ?_
  obtain rfl := si h
  exact eR (resT h213 res0) rfl
 intro x e215 M216 hq269
 obtain ⟨rfl, h217, h218, h219, h220⟩ := hq269
 obtain ⟨r267, hr268, h⟩ := bind_some h
 refine sN (sq (sq ?_))
 refine Ev.cut (Q1 := spec_l07Refused_c3_Q a1 a2 x91 r267) (by
     have h := hr268
     refine Rd (kf (mvO h218) (kf (ncP rfl) (kf (faP rfl ⟨ble rfl, blt rfl⟩ rfl) (kf (ldP rfl rfl) (kf (bEql rfl rfl) (kf (mvO rfl) ?_))))))
     rcases ite_some h with ⟨hb221, h⟩ | ⟨hb221, h⟩
     ·obtain ⟨x222, hx223, h⟩ := bind_some h
      refine kf (guT rfl hb221 (mvO h217)) (kf (guT rfl hb221 (ncP rfl)) (kf (guT rfl hb221 (faP rfl ⟨ble rfl, blt rfl⟩ rfl)) (kf (guT rfl hb221 (ldP rfl rfl)) (kf (guT rfl hb221 (mvO h219)) (kf (guT rfl hb221 (ncP rfl)) (kf (guT rfl hb221 (faP rfl ⟨ble rfl, blt rfl⟩ rfl)) (kf (guT rfl hb221 (ldP rfl rfl)) (kf (guT rfl hb221 (ixS rfl rfl hx223 (cI_fl _))) (kf (guT rfl hb221 (ldP rfl rfl)) (kf (guT rfl hb221 (mvO h218)) (kf (guT rfl hb221 (ncP rfl)) (kf (guT rfl hb221 (faP rfl ⟨ble rfl, blt rfl⟩ rfl)) (kf (guT rfl hb221 (ldP rfl rfl)) (kf (guT rfl hb221 (bLss rfl rfl)) (kf (pkT rfl hb221 rfl) (fZ (Rn (hV (.pt none [.int .i64 a1.Day, .sl none (a1.Cash.map (cI .i64)), .sl none (a1.Tallies.map Tally.c)]) h217 (hV (.pt none [.int .i64 a2.Day, .int .i8 a2.Kind, .int .i64 a2.Tally, .int .i64 a2.From, .int .i64 a2.To, .int .i64 a2.Amount]) h218 (hV (.pt none [.int .i64 x91.Debtor, .int .i64 x91.Holder, .int .i64 x91.Cut, .int .i64 x91.Amount, .int .i64 x91.Left]) h219 (hN rfl hZ)))) fun e224 h226 h227 h228 h229 => ?_)))))))))))))))))
      clear h217 h218 h219 h220
      obtain rfl := si h
      exact kd (show spec_l07Refused_c3_Q a1 a2 x91 _ _ from ⟨rfl, h226, h227, h228, h229⟩)
     refine kf (gsT rfl hb221) (kf (gsT rfl hb221) (kf (gsT rfl hb221) (kf (gsT rfl hb221) (kf (gsT rfl hb221) (kf (gsT rfl hb221) (kf (gsT rfl hb221) (kf (gsT rfl hb221) (kf (gsT rfl hb221) (kf (gsT rfl hb221) (kf (gsT rfl hb221) (kf (gsT rfl hb221) (kf (gsT rfl hb221) (kf (gsT rfl hb221) (kf (gsT rfl hb221) (kf (pkF rfl hb221 rfl) (fZ (Rn (hV (.pt none [.int .i64 a1.Day, .sl none (a1.Cash.map (cI .i64)), .sl none (a1.Tallies.map Tally.c)]) h217 (hV (.pt none [.int .i64 a2.Day, .int .i8 a2.Kind, .int .i64 a2.Tally, .int .i64 a2.From, .int .i64 a2.To, .int .i64 a2.Amount]) h218 (hV (.pt none [.int .i64 x91.Debtor, .int .i64 x91.Holder, .int .i64 x91.Cut, .int .i64 x91.Amount, .int .i64 x91.Left]) h219 (hV (.bool false) rfl hZ)))) fun e230 h232 h233 h234 h235 => ?_)))))))))))))))))
     clear h217 h218 h219 h220
     obtain rfl := si h
     exact kd (show spec_l07Refused_c3_Q a1 a2 x91 _ _ from ⟨rfl, h232, h233, h234, h235⟩)) ?_
 revert h hr268
 revert r267
 intro y238 hr268 h
 intro x e236 M237 hq266
 obtain ⟨rfl, h239, h240, h241, h242⟩ := hq266
 refine sN ?_
 rcases ite_some h with ⟨hb243, h⟩ | ⟨hb243, h⟩
 ·refine cT h242 hb243 (sq (Rg (kx (mvO rfl) (Rn (hV (.int .i64 8) rfl hZ) fun e244 h246 => sN (xx (sR ?_))))))
  clear h239 h240 h241 h242
  obtain rfl := si h
  exact eR (resT h246 res0) rfl
 refine cF h242 hb243 (xx (sN (sq (sq (Rd (kf (mvO h240) (kf (ncP rfl) (kf (faP rfl ⟨ble rfl, blt rfl⟩ rfl) (kf (ldP rfl rfl) (kf (bEql rfl rfl) (kf (mvO rfl) ?_)))))))))))
 rcases ite_some h with ⟨hb247, h⟩ | ⟨hb247, h⟩
 ·obtain ⟨x248, hx249, h⟩ := bind_some h
  refine kf (guT rfl hb247 (mvO h239)) (kf (guT rfl hb247 (ncP rfl)) (kf (guT rfl hb247 (faP rfl ⟨ble rfl, blt rfl⟩ rfl)) (kf (guT rfl hb247 (ldP rfl rfl)) (kf (guT rfl hb247 (mvO h241)) (kf (guT rfl hb247 (ncP rfl)) (kf (guT rfl hb247 (faP rfl ⟨ble rfl, blt rfl⟩ rfl)) (kf (guT rfl hb247 (ldP rfl rfl)) (kf (guT rfl hb247 (ixS rfl rfl hx249 (cI_fl _))) (kf (guT rfl hb247 (ldP rfl rfl)) (kf (guT rfl hb247 (mvO h240)) (kf (guT rfl hb247 (ncP rfl)) (kf (guT rfl hb247 (faP rfl ⟨ble rfl, blt rfl⟩ rfl)) (kf (guT rfl hb247 (ldP rfl rfl)) (kf (guT rfl hb247 (bAdd rfl rfl)) (kf (guT rfl hb247 (bGtr rfl rfl)) (kf (pkT rfl hb247 rfl) (fZ (Rn (hN rfl hZ) fun e250 h252 => sN ?_))))))))))))))))))
  clear h239 h240 h241 h242
  rcases ite_some h with ⟨hb253, h⟩ | ⟨hb253, h⟩
  ·refine cT h252 hb253 (sq (Rg (kx (mvO rfl) (Rn (hV (.int .i64 3) rfl hZ) fun e254 h256 => sN (xx (sR ?_))))))
   clear h252
   obtain rfl := si h
   exact eR (resT h256 res0) rfl
  refine cF h252 hb253 (xx (sN (sq (Rg (kx (mvO rfl) (Rn (hV (.int .i64 0) rfl hZ) fun e257 h259 => sN (xx ?_)))))))
  clear h252
  obtain rfl := si h
  exact eR (resT h259 res0) rfl
 refine kf (gsT rfl hb247) (kf (gsT rfl hb247) (kf (gsT rfl hb247) (kf (gsT rfl hb247) (kf (gsT rfl hb247) (kf (gsT rfl hb247) (kf (gsT rfl hb247) (kf (gsT rfl hb247) (kf (gsT rfl hb247) (kf (gsT rfl hb247) (kf (gsT rfl hb247) (kf (gsT rfl hb247) (kf (gsT rfl hb247) (kf (gsT rfl hb247) (kf (gsT rfl hb247) (kf (gsT rfl hb247) (kf (pkF rfl hb247 rfl) (fZ (Rn (hV (.bool false) rfl hZ) fun e260 h262 => sN (cF h262 rfl (xx (sN (sq (Rg (kx (mvO rfl) (Rn (hV (.int .i64 0) rfl hZ) fun e263 h265 => sN (xx ?_))))))))))))))))))))))))))
 clear h239 h240 h241 h242 h262
 obtain rfl := si h
 exact eR (resT h265 res0) rfl
/-! ### loop.example/g01263/spec.l07Day (f143) -/
noncomputable def spec_l07Day (a1 : Int) : Option Bool :=
 (spec_l00In a1 0 100000).bind fun r5 =>
 some r5
def spec_l07Day_enc (r : Bool) : AV := .bool r
theorem spec_l07Day_ok (a1 : Int) (r : Bool) (h : spec_l07Day a1 = some r) : Ev (fun k => CN k 143 [.int .i64 a1] []) (fun p => rRes p.2 p.1 = spec_l07Day_enc r) := by
 unfold spec_l07Day at h
 obtain ⟨r5, hx4, h⟩ := bind_some h
 refine Ev.enter (F := fun k => f143 (CN k) k) (fun k => callN_eq rfl Try.func143 rfl rfl rfl (by decide +kernel) (f143_eq _ _)) (sq (Rg (kx (mvO rfl) (Rn (hN rfl hZ) fun e1 h3 => sN (sq (Rg (kx (mvO h3) (kc (cl (v := .bool r5) rfl (cns rfl (cns rfl (cns rfl rfl))) rfl (spec_l00In_ok a1 0 100000 _ hx4) nm) (kx (mvO rfl) (Rn (hN rfl hZ) fun e6 h8 => sN (xx ?_)))))))))))
 clear h3
 obtain rfl := si h
 exact eR (resT h8 res0) rfl
/-! ### loop.example/g01263/spec.l07Deal (f146) -/
noncomputable def spec_l07Deal (a1 : Deal) : Option Bool :=
 (spec_l00In a1.Tally 0 39).bind fun r5 =>
 (spec_l00In a1.From 0 15).bind fun r11 =>
 (spec_l00In a1.To 0 15).bind fun r18 =>
 (spec_l00In a1.Amount 1 100000000).bind fun r26 =>
 (spec_l07Day a1.Day).bind fun r35 =>
 if r35 = true then
  if (a1.Kind == 1) = true then
   if (a1.Tally == 0) = true then
    if r11 = true then
     if r18 = true then
      some r26
     else
      some false
    else
     some false
   else
    some false
  else
   if (a1.Kind == 2) = true then
    if r5 = true then
     if r11 = true then
      if r18 = true then
       some (a1.Amount == 0)
      else
       some false
     else
      some false
    else
     some false
   else
    if (a1.Kind == 3) = true then
     if r5 = true then
      if (a1.From == 0) = true then
       if (a1.To == 0) = true then
        some r26
       else
        some false
      else
       some false
     else
      some false
    else
     if (a1.Kind == 4) = true then
      if r5 = true then
       if r11 = true then
        if (a1.To == 0) = true then
         some (a1.Amount == 0)
        else
         some false
       else
        some false
      else
       some false
     else
      some false
 else
  some false
def spec_l07Deal_enc (r : Bool) : AV := .bool r
theorem spec_l07Deal_ok (a1 : Deal) (r : Bool) (h : spec_l07Deal a1 = some r) : Ev (fun k => CN k 146 [.pt none [.int .i64 a1.Day, .int .i8 a1.Kind, .int .i64 a1.Tally, .int .i64 a1.From, .int .i64 a1.To, .int .i64 a1.Amount]] []) (fun p => rRes p.2 p.1 = spec_l07Deal_enc r) := by
 unfold spec_l07Deal at h
 obtain ⟨r5, hx4, h⟩ := bind_some h
 obtain ⟨r11, hx10, h⟩ := bind_some h
 obtain ⟨r18, hx17, h⟩ := bind_some h
 obtain ⟨r26, hx25, h⟩ := bind_some h
 obtain ⟨r35, hx34, h⟩ := bind_some h
 refine Ev.enter (F := fun k => f146 (CN k) k) (fun k => callN_eq rfl Try.func146 rfl rfl rfl (by decide +kernel) (f146_eq _ _)) (sq (Rg (kx (mvO rfl) (Rn (hN rfl hZ) fun e1 h3 => sN (sq (Rg (kx (mvO h3) (kx (ncP rfl) (kx (faP rfl ⟨ble rfl, blt rfl⟩ rfl) (kx (ldP rfl rfl) (kc (cl (v := .bool r5) rfl (cns rfl (cns rfl (cns rfl rfl))) rfl (spec_l00In_ok a1.Tally 0 39 _ hx4) nm) (kx (mvO rfl) (Rn (hA h3 (hN rfl hZ)) fun e6 h8 h9 => sN (sq (Rg (kx (mvO h8) (kx (ncP rfl) (kx (faP rfl ⟨ble rfl, blt rfl⟩ rfl) (kx (ldP rfl rfl) (kc (cl (v := .bool r11) rfl (cns rfl (cns rfl (cns rfl rfl))) rfl (spec_l00In_ok a1.From 0 15 _ hx10) nm) (kx (mvO rfl) (Rn (hA h8 (hA h9 (hN rfl hZ))) fun e12 h14 h15 h16 => sN (sq (Rg (kx (mvO h14) (kx (ncP rfl) (kx (faP rfl ⟨ble rfl, blt rfl⟩ rfl) (kx (ldP rfl rfl) (kc (cl (v := .bool r18) rfl (cns rfl (cns rfl (cns rfl rfl))) rfl (spec_l00In_ok a1.To 0 15 _ hx17) nm) (kx (mvO rfl) (Rn (hA h14 (hA h15 (hA h16 (hN rfl hZ)))) fun e19 h21 h22 h23 h24 => sN (sq (Rg (kx (mvO h21) (kx (ncP rfl) (kx (faP rfl ⟨ble rfl, blt rfl⟩ rfl) (kx (ldP rfl rfl) (kc (cl (v := .bool r26) rfl (cns rfl (cns rfl (cns rfl rfl))) rfl (spec_l00In_ok a1.Amount 1 100000000 _ hx25) nm) (kx (mvO rfl) (Rn (hA h21 (hA h22 (hA h23 (hA h24 (hN rfl hZ))))) fun e27 h29 h30 h31 h32 h33 => sN (sq (sq (Rg (kx (mvO h29) (kx (ncP rfl) (kx (faP rfl ⟨ble rfl, blt rfl⟩ rfl) (kx (ldP rfl rfl) (kc (cl (v := .bool r35) rfl (cns rfl rfl) rfl (spec_l07Day_ok a1.Day _ hx34) nm) (kx (uNot rfl) (Rn (hA h29 (hA h30 (hA h31 (hA h32 (hA h33 (hN rfl hZ)))))) fun e36 h38 h39 h40 h41 h42 h43 => sN ?_))))))))))))))))))))))))))))))))))))))))))))))))))
 clear h3 h8 h9 h14 h15 h16 h21 h22 h23 h24 h29 h30 h31 h32 h33
 rcases ite_some h with ⟨hb44, h⟩ | ⟨hb44, h⟩
 ·refine cF h43 (congrArg Bool.not hb44) (xx (sN (sq (sq (Rg (kx (mvO h38) (kx (ncP rfl) (kx (faP rfl ⟨ble rfl, blt rfl⟩ rfl) (kx (ldP rfl rfl) (Rn (hA h38 (hA h39 (hA h40 (hA h41 (hA h42 (hN rfl hZ)))))) fun e45 h47 h48 h49 h50 h51 h52 => sN (bl (sq (Rg (kx (bEql h52 rfl) (kx (mvO rfl) (Rn (hA h47 (hA h48 (hA h49 (hA h50 (hA h51 (hA h52 (hN rfl hZ))))))) fun e53 h55 h56 h57 h58 h59 h60 h61 => sN ?_))))))))))))))))
  clear h38 h39 h40 h41 h42 h43 h47 h48 h49 h50 h51 h52
  rcases ite_some h with ⟨hb62, h⟩ | ⟨hb62, h⟩
  ·refine cT h61 hb62 (sq (Rg (kx (mvO h55) (kx (ncP rfl) (kx (faP rfl ⟨ble rfl, blt rfl⟩ rfl) (kx (ldP rfl rfl) (kx (bEql rfl rfl) (kx (mvO rfl) ?_))))))))
   rcases ite_some h with ⟨hb63, h⟩ | ⟨hb63, h⟩
   ·refine kx (guT rfl hb63 (mvO h57)) (kx (pkT rfl hb63 rfl) (kx (mvO rfl) ?_))
    rcases ite_some h with ⟨hb64, h⟩ | ⟨hb64, h⟩
    ·refine kx (guT rfl hb64 (mvO h58)) (kx (pkT rfl hb64 rfl) (kx (mvO rfl) ?_))
     rcases ite_some h with ⟨hb65, h⟩ | ⟨hb65, h⟩
     ·refine kx (guT rfl hb65 (mvO h59)) (kx (pkT rfl hb65 rfl) (kx (mvO rfl) (Rn (hN rfl hZ) fun e66 h68 => sN (xx (bR (sR ?_))))))
      clear h55 h56 h57 h58 h59 h60 h61
      obtain rfl := si h
      exact eR (resT h68 res0) rfl
     refine kx (gsT rfl hb65) (kx (pkF rfl hb65 rfl) (kx (mvO rfl) (Rn (hV (.bool false) rfl hZ) fun e69 h71 => sN (xx (bR (sR ?_))))))
     clear h55 h56 h57 h58 h59 h60 h61
     obtain rfl := si h
     exact eR (resT h71 res0) rfl
    refine kx (gsT rfl hb64) (kx (pkF rfl hb64 rfl) (kx (mvO rfl) (kx (gsT rfl rfl) (kx (pkF rfl rfl rfl) (kx (mvO rfl) (Rn (hV (.bool false) rfl hZ) fun e72 h74 => sN (xx (bR (sR ?_)))))))))
    clear h55 h56 h57 h58 h59 h60 h61
    obtain rfl := si h
    exact eR (resT h74 res0) rfl
   refine kx (gsT rfl hb63) (kx (pkF rfl hb63 rfl) (kx (mvO rfl) (kx (gsT rfl rfl) (kx (pkF rfl rfl rfl) (kx (mvO rfl) (kx (gsT rfl rfl) (kx (pkF rfl rfl rfl) (kx (mvO rfl) (Rn (hV (.bool false) rfl hZ) fun e75 h77 => sN (xx (bR (sR ?_))))))))))))
   clear h55 h56 h57 h58 h59 h60 h61
   obtain rfl := si h
   exact eR (resT h77 res0) rfl
  refine cF h61 hb62 (sq (Rg (kx (bEql h60 rfl) (kx (mvO rfl) (Rn (hA h55 (hA h56 (hA h57 (hA h58 (hA h59 (hA h60 (hN rfl hZ))))))) fun e78 h80 h81 h82 h83 h84 h85 h86 => sN ?_)))))
  clear h55 h56 h57 h58 h59 h60 h61
  rcases ite_some h with ⟨hb87, h⟩ | ⟨hb87, h⟩
  ·refine cT h86 hb87 (sq (Rg (kx (mvO h81) (kx (mvO rfl) ?_))))
   rcases ite_some h with ⟨hb88, h⟩ | ⟨hb88, h⟩
   ·refine kx (guT rfl hb88 (mvO h82)) (kx (pkT rfl hb88 rfl) (kx (mvO rfl) ?_))
    rcases ite_some h with ⟨hb89, h⟩ | ⟨hb89, h⟩
    ·refine kx (guT rfl hb89 (mvO h83)) (kx (pkT rfl hb89 rfl) (kx (mvO rfl) ?_))
     rcases ite_some h with ⟨hb90, h⟩ | ⟨hb90, h⟩
     ·refine kx (guT rfl hb90 (mvO h80)) (kx (guT rfl hb90 (ncP rfl)) (kx (guT rfl hb90 (faP rfl ⟨ble rfl, blt rfl⟩ rfl)) (kx (guT rfl hb90 (ldP rfl rfl)) (kx (guT rfl hb90 (bEql rfl rfl)) (kx (pkT rfl hb90 rfl) (kx (mvO rfl) (Rn (hN rfl hZ) fun e91 h93 => sN (xx (bR (sR ?_))))))))))
      clear h80 h81 h82 h83 h84 h85 h86
      obtain rfl := si h
      exact eR (resT h93 res0) rfl
     refine kx (gsT rfl hb90) (kx (gsT rfl hb90) (kx (gsT rfl hb90) (kx (gsT rfl hb90) (kx (gsT rfl hb90) (kx (pkF rfl hb90 rfl) (kx (mvO rfl) (Rn (hV (.bool false) rfl hZ) fun e94 h96 => sN (xx (bR (sR ?_))))))))))
     clear h80 h81 h82 h83 h84 h85 h86
     obtain rfl := si h
     exact eR (resT h96 res0) rfl
    refine kx (gsT rfl hb89) (kx (pkF rfl hb89 rfl) (kx (mvO rfl) (kx (gsT rfl rfl) (kx (gsT rfl rfl) (kx (gsT rfl rfl) (kx (gsT rfl rfl) (kx (gsT rfl rfl) (kx (pkF rfl rfl rfl) (kx (mvO rfl) (Rn (hV (.bool false) rfl hZ) fun e97 h99 => sN (xx (bR (sR ?_)))))))))))))
    clear h80 h81 h82 h83 h84 h85 h86
    obtain rfl := si h
    exact eR (resT h99 res0) rfl
   refine kx (gsT rfl hb88) (kx (pkF rfl hb88 rfl) (kx (mvO rfl) (kx (gsT rfl rfl) (kx (pkF rfl rfl rfl) (kx (mvO rfl) (kx (gsT rfl rfl) (kx (gsT rfl rfl) (kx (gsT rfl rfl) (kx (gsT rfl rfl) (kx (gsT rfl rfl) (kx (pkF rfl rfl rfl) (kx (mvO rfl) (Rn (hV (.bool false) rfl hZ) fun e100 h102 => sN (xx (bR (sR ?_))))))))))))))))
   clear h80 h81 h82 h83 h84 h85 h86
   obtain rfl := si h
   exact eR (resT h102 res0) rfl
  refine cF h86 hb87 (sq (Rg (kx (bEql h85 rfl) (kx (mvO rfl) (Rn (hA h80 (hA h81 (hA h82 (hA h84 (hA h85 (hN rfl hZ)))))) fun e103 h105 h106 h107 h108 h109 h110 => sN ?_)))))
  clear h80 h81 h82 h83 h84 h85 h86
  rcases ite_some h with ⟨hb111, h⟩ | ⟨hb111, h⟩
  ·refine cT h110 hb111 (sq (Rg (kx (mvO h106) (kx (mvO rfl) ?_))))
   rcases ite_some h with ⟨hb112, h⟩ | ⟨hb112, h⟩
   ·refine kx (guT rfl hb112 (mvO h105)) (kx (guT rfl hb112 (ncP rfl)) (kx (guT rfl hb112 (faP rfl ⟨ble rfl, blt rfl⟩ rfl)) (kx (guT rfl hb112 (ldP rfl rfl)) (kx (guT rfl hb112 (bEql rfl rfl)) (kx (pkT rfl hb112 rfl) (kx (mvO rfl) ?_))))))
    rcases ite_some h with ⟨hb113, h⟩ | ⟨hb113, h⟩
    ·refine kx (guT rfl hb113 (mvO h105)) (kx (guT rfl hb113 (ncP rfl)) (kx (guT rfl hb113 (faP rfl ⟨ble rfl, blt rfl⟩ rfl)) (kx (guT rfl hb113 (ldP rfl rfl)) (kx (guT rfl hb113 (bEql rfl rfl)) (kx (pkT rfl hb113 rfl) (kx (mvO rfl) ?_))))))
     rcases ite_some h with ⟨hb114, h⟩ | ⟨hb114, h⟩
     ·refine kx (guT rfl hb114 (mvO h108)) (kx (pkT rfl hb114 rfl) (kx (mvO rfl) (Rn (hN rfl hZ) fun e115 h117 => sN (xx (bR (sR ?_))))))
      clear h105 h106 h107 h108 h109 h110
      obtain rfl := si h
      exact eR (resT h117 res0) rfl
     refine kx (gsT rfl hb114) (kx (pkF rfl hb114 rfl) (kx (mvO rfl) (Rn (hV (.bool false) rfl hZ) fun e118 h120 => sN (xx (bR (sR ?_))))))
     clear h105 h106 h107 h108 h109 h110
     obtain rfl := si h
     exact eR (resT h120 res0) rfl
    refine kx (gsT rfl hb113) (kx (gsT rfl hb113) (kx (gsT rfl hb113) (kx (gsT rfl hb113) (kx (gsT rfl hb113) (kx (pkF rfl hb113 rfl) (kx (mvO rfl) (kx (gsT rfl rfl) (kx (pkF rfl rfl rfl) (kx (mvO rfl) (Rn (hV (.bool false) rfl hZ) fun e121 h123 => sN (xx (bR (sR ?_)))))))))))))
    clear h105 h106 h107 h108 h109 h110
    obtain rfl := si h
    exact eR (resT h123 res0) rfl
   refine kx (gsT rfl hb112) (kx (gsT rfl hb112) (kx (gsT rfl hb112) (kx (gsT rfl hb112) (kx (gsT rfl hb112) (kx (pkF rfl hb112 rfl) (kx (mvO rfl) (kx (gsT rfl rfl) (kx (gsT rfl rfl) (kx (gsT rfl rfl) (kx (gsT rfl rfl) (kx (gsT rfl rfl) (kx (pkF rfl rfl rfl) (kx (mvO rfl) (kx (gsT rfl rfl) (kx (pkF rfl rfl rfl) (kx (mvO rfl) (Rn (hV (.bool false) rfl hZ) fun e124 h126 => sN (xx (bR (sR ?_))))))))))))))))))))
   clear h105 h106 h107 h108 h109 h110
   obtain rfl := si h
   exact eR (resT h126 res0) rfl
  refine cF h110 hb111 (sq (Rg (kx (bEql h109 rfl) (kx (mvO rfl) (Rn (hA h105 (hA h106 (hA h107 (hN rfl hZ)))) fun e127 h129 h130 h131 h132 => sN ?_)))))
  clear h105 h106 h107 h108 h109 h110
  rcases ite_some h with ⟨hb133, h⟩ | ⟨hb133, h⟩
  ·refine cT h132 hb133 (sq (Rg (kx (mvO h130) (kx (mvO rfl) ?_))))
   rcases ite_some h with ⟨hb134, h⟩ | ⟨hb134, h⟩
   ·refine kx (guT rfl hb134 (mvO h131)) (kx (pkT rfl hb134 rfl) (kx (mvO rfl) ?_))
    rcases ite_some h with ⟨hb135, h⟩ | ⟨hb135, h⟩
    ·refine kx (guT rfl hb135 (mvO h129)) (kx (guT rfl hb135 (ncP rfl)) (kx (guT rfl hb135 (faP rfl ⟨ble rfl, blt rfl⟩ rfl)) (kx (guT rfl hb135 (ldP rfl rfl)) (kx (guT rfl hb135 (bEql rfl rfl)) (kx (pkT rfl hb135 rfl) (kx (mvO rfl) ?_))))))
     rcases ite_some h with ⟨hb136, h⟩ | ⟨hb136, h⟩
     ·refine kx (guT rfl hb136 (mvO h129)) (kx (guT rfl hb136 (ncP rfl)) (kx (guT rfl hb136 (faP rfl ⟨ble rfl, blt rfl⟩ rfl)) (kx (guT rfl hb136 (ldP rfl rfl)) (kx (guT rfl hb136 (bEql rfl rfl)) (kx (pkT rfl hb136 rfl) (kx (mvO rfl) (Rn (hN rfl hZ) fun e137 h139 => sN (xx (bR (sR ?_))))))))))
      clear h129 h130 h131 h132
      obtain rfl := si h
      exact eR (resT h139 res0) rfl
     refine kx (gsT rfl hb136) (kx (gsT rfl hb136) (kx (gsT rfl hb136) (kx (gsT rfl hb136) (kx (gsT rfl hb136) (kx (pkF rfl hb136 rfl) (kx (mvO rfl) (Rn (hV (.bool false) rfl hZ) fun e140 h142 => sN (xx (bR (sR ?_))))))))))
     clear h129 h130 h131 h132
     obtain rfl := si h
     exact eR (resT h142 res0) rfl
    refine kx (gsT rfl hb135) (kx (gsT rfl hb135) (kx (gsT rfl hb135) (kx (gsT rfl hb135) (kx (gsT rfl hb135) (kx (pkF rfl hb135 rfl) (kx (mvO rfl) (kx (gsT rfl rfl) (kx (gsT rfl rfl) (kx (gsT rfl rfl) (kx (gsT rfl rfl) (kx (gsT rfl rfl) (kx (pkF rfl rfl rfl) (kx (mvO rfl) (Rn (hV (.bool false) rfl hZ) fun e143 h145 => sN (xx (bR (sR ?_)))))))))))))))))
    clear h129 h130 h131 h132
    obtain rfl := si h
    exact eR (resT h145 res0) rfl
   refine kx (gsT rfl hb134) (kx (pkF rfl hb134 rfl) (kx (mvO rfl) (kx (gsT rfl rfl) (kx (gsT rfl rfl) (kx (gsT rfl rfl) (kx (gsT rfl rfl) (kx (gsT rfl rfl) (kx (pkF rfl rfl rfl) (kx (mvO rfl) (kx (gsT rfl rfl) (kx (gsT rfl rfl) (kx (gsT rfl rfl) (kx (gsT rfl rfl) (kx (gsT rfl rfl) (kx (pkF rfl rfl rfl) (kx (mvO rfl) (Rn (hV (.bool false) rfl hZ) fun e146 h148 => sN (xx (bR (sR ?_))))))))))))))))))))
   clear h129 h130 h131 h132
   obtain rfl := si h
   exact eR (resT h148 res0) rfl
  refine cF h132 hb133 (xx (bN (sN (sq (Rg (kx (mvO rfl) (Rn (hV (.bool false) rfl hZ) fun e149 h151 => sN (xx ?_))))))))
  clear h129 h130 h131 h132
  obtain rfl := si h
  exact eR (resT h151 res0) rfl
 refine cT h43 (congrArg Bool.not hb44) (sq (Rg (kx (mvO rfl) (Rn (hV (.bool false) rfl hZ) fun e152 h154 => sN (xx (sR ?_))))))
 clear h38 h39 h40 h41 h42 h43
 obtain rfl := si h
 exact eR (resT h154 res0) rfl
/-! ### loop.example/g01263/spec.l01Amount (f70) -/
noncomputable def spec_l01Amount (a1 : Int) : Option Bool :=
 (spec_l00In a1 0 100000000).bind fun r5 =>
 some r5
def spec_l01Amount_enc (r : Bool) : AV := .bool r
theorem spec_l01Amount_ok (a1 : Int) (r : Bool) (h : spec_l01Amount a1 = some r) : Ev (fun k => CN k 70 [.int .i64 a1] []) (fun p => rRes p.2 p.1 = spec_l01Amount_enc r) := by
 unfold spec_l01Amount at h
 obtain ⟨r5, hx4, h⟩ := bind_some h
 refine Ev.enter (F := fun k => f70 (CN k) k) (fun k => callN_eq rfl Try.func70 rfl rfl rfl (by decide +kernel) (f70_eq _ _)) (sq (Rg (kx (mvO rfl) (Rn (hN rfl hZ) fun e1 h3 => sN (sq (Rg (kx (mvO h3) (kc (cl (v := .bool r5) rfl (cns rfl (cns rfl (cns rfl rfl))) rfl (spec_l00In_ok a1 0 100000000 _ hx4) nm) (kx (mvO rfl) (Rn (hN rfl hZ) fun e6 h8 => sN (xx ?_)))))))))))
 clear h3
 obtain rfl := si h
 exact eR (resT h8 res0) rfl
/-! ### loop.example/g01263/spec.l07Cash (f144) -/
abbrev spec_l07Cash_b1_S := Int
abbrev spec_l07Cash_b1_R := Unit ⊕ Unit
def spec_l07Cash_b1_RS (a1 : List Int) (s : spec_l07Cash_b1_S) (e : Env) (M : Mem) : Prop := eget e 0 = .sl none (a1.map (cI .i64)) ∧ eget e 3 = .int .i64 s
def spec_l07Cash_b1_RR (a1 : List Int) (r : spec_l07Cash_b1_R) (x : Ex) (e : Env) (M : Mem) : Prop :=
  match r with
  | (.inl g) => x = .ret ∧ eget e 2 = .bool false
  | (.inr g) => x = .ext 0 ∧ eget e 0 = .sl none (a1.map (cI .i64))
noncomputable def spec_l07Cash_b1 (a1 : List Int) : spec_l07Cash_b1_S → Option (spec_l07Cash_b1_S ⊕ spec_l07Cash_b1_R) := fun s1_1 =>
 if (decide (s1_1 < (a1.length : Int))) = true then
  (rd a1 s1_1).bind fun x26 =>
  (spec_l01Amount x26).bind fun r29 =>
  if r29 = true then
   some (.inl (IntKind.i64.wrap (s1_1 + 1)))
  else
   some (.inr (.inl ()))
 else
  some (.inr (.inr ()))
theorem spec_l07Cash_b1_ok (a1 : List Int) (s : spec_l07Cash_b1_S) (r : spec_l07Cash_b1_S ⊕ spec_l07Cash_b1_R) (h : spec_l07Cash_b1 a1 s = some r) (e : Env) (M : Mem) (hs : spec_l07Cash_b1_RS a1 s e M) : Ev (fun k => (f144_l2 (CN k) k (prune [0, 3] e) M).bind fun q => some q) (bQ (spec_l07Cash_b1_RS a1) (spec_l07Cash_b1_RR a1) r) := by
 revert h hs
 revert s
 intro s1_1 h hs
 unfold spec_l07Cash_b1 at h
 obtain ⟨h16, h18⟩ := hs
 generalize he15 : prune [0, 3] e = e14
 have h17 := envp he15.symm rfl h16
 have h19 := envp he15.symm rfl h18
 refine sq (sq (Rg (kx (mvO h19) (kx (mvO h17) (kx (lnS Try.underlying24 rfl) (kx (bLss rfl rfl) (Rn (hV (.sl none (a1.map (cI .i64))) h17 (hV (.int .i64 s1_1) h19 (hN rfl hZ))) fun e20 h22 h23 h24 => sN ?_)))))))
 clear h17 h19
 rcases ite_some h with ⟨hb25, h⟩ | ⟨hb25, h⟩
 ·obtain ⟨x26, hx27, h⟩ := bind_some h
  obtain ⟨r29, hx28, h⟩ := bind_some h
  refine cT h24 hb25 (xx (sN (sq (bl (sq (Rg (kx (mvO h22) (kx (mvO h23) (kx (ixS rfl rfl hx27 (cI_fl _)) (kx (ldP rfl rfl) (kc (cl (v := .bool r29) rfl (cns rfl rfl) rfl (spec_l01Amount_ok x26 _ hx28) nm) (kx (uNot rfl) (Rn (hA h22 (hA h23 (hN rfl hZ))) fun e30 h32 h33 h34 => sN ?_)))))))))))))
  clear h22 h23 h24
  rcases ite_some h with ⟨hb35, h⟩ | ⟨hb35, h⟩
  ·refine cF h34 (congrArg Bool.not hb35) (xx (bN (sN (Rg (kx (mvO h33) (kx (bAdd rfl rfl) (kx (mvO rfl) (Rn (hA h32 (hN rfl hZ)) fun e36 h38 h39 => ?_))))))))
   clear h32 h34
   obtain rfl := si h
   exact qN ⟨h38, h39⟩
  refine cT h34 (congrArg Bool.not hb35) (sq (Rg (kx (mvO rfl) (Rn (hV (.bool false) rfl hZ) fun e40 h42 => sN (xx (bR (sR ?_)))))))
  clear h32 h33 h34
  obtain rfl := si h
  exact qR ⟨rfl, h42⟩
 refine cF h24 hb25 (xx (sE ?_))
 obtain rfl := si h
 exact qE ⟨rfl, h22⟩
noncomputable def spec_l07Cash (a1 : List Int) : Option Bool :=
 (Lw (spec_l07Cash_b1 a1) 0).bind fun r => match r with
 | (.inl _) =>
  some false
 | (.inr _) =>
  (spec_l00In (a1.length : Int) 1 16).bind fun r53 =>
  some r53
def spec_l07Cash_enc (r : Bool) : AV := .bool r
theorem spec_l07Cash_ok (a1 : List Int) (r : Bool) (h : spec_l07Cash a1 = some r) : Ev (fun k => CN k 144 [.sl none (a1.map (cI .i64))] []) (fun p => rRes p.2 p.1 = spec_l07Cash_enc r) := by
 unfold spec_l07Cash at h
 obtain ⟨r43, hr44, h⟩ := bind_some h
 refine Ev.enter (F := fun k => f144 (CN k) k) (fun k => callN_eq rfl Try.func144 rfl rfl rfl (by decide +kernel) (f144_eq _ _)) (sq (Rg (kx (mvO rfl) (Rn (hN rfl hZ) fun e1 h3 => sN (sq (sq (Rg (kx (mvO rfl) (Rn (hA h3 (hV (.int .i64 0) rfl hZ)) fun e4 h6 h7 => sN (bl ?_))))))))))
 clear h3
 rcases r43 with _ | _
 ·refine Ev.loop (RS := spec_l07Cash_b1_RS a1) (RR := spec_l07Cash_b1_RR a1) (fun s r h e M hs => spec_l07Cash_b1_ok a1 s r h e M hs) hr44 ⟨h6, h7⟩ fun x e46 M47 hq45 => ?_
  obtain ⟨rfl, h48⟩ := hq45
  refine bR (sR ?_)
  obtain rfl := si h
  exact eR (resT h48 res0) rfl
 refine Ev.loop (RS := spec_l07Cash_b1_RS a1) (RR := spec_l07Cash_b1_RR a1) (fun s r h e M hs => spec_l07Cash_b1_ok a1 s r h e M hs) hr44 ⟨h6, h7⟩ fun x e49 M50 hq45 => ?_
 obtain ⟨rfl, h51⟩ := hq45
 obtain ⟨r53, hx52, h⟩ := bind_some h
 refine bE (sN (sq (Rg (kx (mvO h51) (kx (lnS Try.underlying24 rfl) (kc (cl (v := .bool r53) rfl (cns rfl (cns rfl (cns rfl rfl))) rfl (spec_l00In_ok (a1.length : Int) 1 16 _ hx52) nm) (kx (mvO rfl) (Rn (hN rfl hZ) fun e54 h56 => sN (xx ?_)))))))))
 clear h51
 obtain rfl := si h
 exact eR (resT h56 res0) rfl
/-! ### loop.example/g01263/impl.books (f122) -/
abbrev impl_books_b1_S := Int × Int × (List Int) × (List Tally) × (List Book)
abbrev impl_books_b1_R := (Int × (List Book)) ⊕ (Int × (List Int) × (List Tally) × (List Book))
def impl_books_b1_RS (a2 : List Deal) (i1_1 : Nat) (i1_2 : Nat) (s : impl_books_b1_S) (e : Env) (M : Mem) : Prop := eget e 2 = .loc i1_1 1 0 0 ∧ eget e 6 = .lsl i1_2 s.2.2.2.2.length 0 s.2.2.2.2.length ∧ eget e 12 = .sl none (a2.map Deal.c) ∧ eget e 13 = .int .i64 (a2.length : Int) ∧ eget e 14 = .int .i64 s.1 ∧ (∃ qo1_B1_1 qo1_B1_2 : Option Nat, M[i1_1]? = some (.live ⟨.box, 50, 3, [[.int .i64 s.2.1, .sl qo1_B1_1 (s.2.2.1.map (cI .i64)), .sl qo1_B1_2 (s.2.2.2.1.map Tally.c)]]⟩)) ∧ M[i1_2]? = some (.live ⟨.grow, 50, 3, s.2.2.2.2.map Book.o⟩)
def impl_books_b1_RR (a2 : List Deal) (i1_1 : Nat) (i1_2 : Nat) (r : impl_books_b1_R) (x : Ex) (e : Env) (M : Mem) : Prop :=
  match r with
  | (.inl g) => x = .ret ∧ eget e 4 = .lsl i1_2 g.2.length 0 g.2.length ∧ eget e 5 = .int .i64 g.1 ∧ M[i1_2]? = some (.live ⟨.grow, 50, 3, g.2.map Book.o⟩)
  | (.inr g) => x = .ext 0 ∧ eget e 6 = .lsl i1_2 g.2.2.2.length 0 g.2.2.2.length ∧ (∃ qo1_B1_1 qo1_B1_2 : Option Nat, M[i1_1]? = some (.live ⟨.box, 50, 3, [[.int .i64 g.1, .sl qo1_B1_1 (g.2.1.map (cI .i64)), .sl qo1_B1_2 (g.2.2.1.map Tally.c)]]⟩)) ∧ M[i1_2]? = some (.live ⟨.grow, 50, 3, g.2.2.2.map Book.o⟩)
noncomputable def impl_books_b1 (a2 : List Deal) : impl_books_b1_S → Option (impl_books_b1_S ⊕ impl_books_b1_R) := fun (s1_1, s1_2, s1_3, s1_4, s1_5) =>
 if (decide (s1_1 < (a2.length : Int))) = true then
  (rd a2 s1_1).bind fun x64 =>
  (impl_do (Book.mk s1_2 s1_3 s1_4) x64).bind fun r => match r with
  | (.inl r88) =>
   if (r88 != 0) = true then
    some (.inr (.inl (r88, s1_5)))
   else
    none
  | (.inr (r141, r142, r143)) =>
   (app 56 s1_5 [(Book.mk r141 r142 r143)]).bind fun x199 =>
   some (.inl ((IntKind.i64.wrap (s1_1 + 1)), r141, r142, r143, x199))
 else
  some (.inr (.inr (s1_2, s1_3, s1_4, s1_5)))
theorem impl_books_b1_ok (a2 : List Deal) (i1_1 : Nat) (i1_2 : Nat) (ne13 : i1_1 ≠ i1_2) (s : impl_books_b1_S) (r : impl_books_b1_S ⊕ impl_books_b1_R) (h : impl_books_b1 a2 s = some r) (e : Env) (M : Mem) (hs : impl_books_b1_RS a2 i1_1 i1_2 s e M) : Ev (fun k => (f122_l3 (CN k) k (prune [2, 6, 12, 13, 14] e) M).bind fun q => some q) (bQ (impl_books_b1_RS a2 i1_1 i1_2) (impl_books_b1_RR a2 i1_1 i1_2) r) := by
 obtain ⟨s1_1, s1_2, s1_3, s1_4, s1_5⟩ := s
 unfold impl_books_b1 at h
 obtain ⟨h43, h45, h47, h49, h51, ⟨qo1_B1_1, qo1_B1_2, o53⟩, o54⟩ := hs
 generalize he42 : prune [2, 6, 12, 13, 14] e = e41
 have h44 := envp he42.symm rfl h43
 have h46 := envp he42.symm rfl h45
 have h48 := envp he42.symm rfl h47
 have h50 := envp he42.symm rfl h49
 have h52 := envp he42.symm rfl h51
 refine sq (Rg (kx (bLss h52 h50) (Rn (hV (.loc i1_1 1 0 0) h44 (hV (.lsl i1_2 s1_5.length 0 s1_5.length) h46 (hV (.sl none (a2.map Deal.c)) h48 (hV (.int .i64 (a2.length : Int)) h50 (hV (.int .i64 s1_1) h52 (hN rfl hZ)))))) fun e55 h57 h58 h59 h60 h61 h62 => sN (sq ?_))))
 clear h44 h46 h48 h50 h52
 rcases ite_some h with ⟨hb63, h⟩ | ⟨hb63, h⟩
 ·obtain ⟨x64, hx65, h⟩ := bind_some h
  refine cT h62 hb63 (xx (sN (sq (bl (sq (Rg (kx (ixS h59 h61 hx65 Deal.fl) (kx (ldPA rfl rfl rfl) (ku (alO zero114) fun M67 hM68 => ?_)))))))))
  have o69 := push_old hM68 o53
  have ne70 := ne_new o53
  have o71 := push_old hM68 o54
  have ne72 := ne_new o54
  have o73 : M67[M.length]? = some (.live ⟨.box, 114, 6, [[.int .i64 0, .int .i8 0, .int .i64 0, .int .i64 0, .int .i64 0, .int .i64 0]]⟩) := push_new hM68
  refine kw (stO rfl rfl o73 rfl rfl ⟨rfl, ble rfl⟩ rfl rfl) fun M74 hM75 => ?_
  have o76 := set_ne hM75 ne70 o69
  have o77 := set_ne hM75 ne72 o71
  have o78 : M74[M.length]? = some (.live ⟨.box, 114, 6, [[.int .i64 x64.Day, .int .i8 x64.Kind, .int .i64 x64.Tally, .int .i64 x64.From, .int .i64 x64.To, .int .i64 x64.Amount]]⟩) := set_same hM75 o73
  obtain ⟨q220, hx87, h⟩ := bind_some h
  refine Rn (hA h57 (hA h58 (hV (.loc M.length 1 0 0) rfl (hA h59 (hA h60 (hA h61 hZ)))))) fun e79 h81 h82 h83 h84 h85 h86 => sN (sq (Rg (kx (ldOA h81 o76 rfl rfl (ble rfl) rfl) (kx (ldOA h83 o78 rfl rfl (ble rfl) rfl) ?_))))
  clear h57 h58 h59 h60 h61 h62
  rcases q220 with r88 | ⟨r141, r142, r143⟩
  ·refine kc (cl (v := .tup [.agg [.int .i64 0, .nils, .nils], .int .i64 r88]) rfl (cns rfl (cns rfl rfl)) rfl (impl_do_ok (Book.mk s1_2 s1_3 s1_4) x64 _ hx87) nm) (kx (mvO rfl) (kx (exT rfl rfl) (kx (exT rfl rfl) (ku (alO zero50) fun M90 hM91 => ?_))))
   have o92 := push_old hM91 o76
   have ne93 := ne_new o76
   have o94 := push_old hM91 o77
   have ne95 := ne_new o77
   have o96 := push_old hM91 o78
   have ne97 := ne_new o78
   have o98 : M90[M74.length]? = some (.live ⟨.box, 50, 3, [[.int .i64 0, .nils, .nils]]⟩) := push_new hM91
   refine kw (stOK rfl rfl o98 rfl rfl ⟨rfl, ble rfl⟩ rfl rfl) fun M99 hM100 => ?_
   have o101 := set_ne hM100 ne93 o92
   have o102 := set_ne hM100 ne95 o94
   have o103 := set_ne hM100 ne97 o96
   have o104 : M99[M74.length]? = some (.live ⟨.box, 50, 3, [[.int .i64 0, .nils, .nils]]⟩) := set_same hM100 o98
   refine kx (mvO rfl) (Rn (hA h81 (hA h82 (hV (.loc M74.length 1 0 0) rfl (hN rfl (hA h84 (hA h85 (hA h86 hZ))))))) fun e105 h107 h108 h109 h110 h111 h112 h113 => sN (sq (sq (Rg (kx (mvO h110) (kx (bNeq rfl rfl) (Rn (hA h107 (hA h108 (hA h109 (hA h110 (hA h111 (hA h112 (hA h113 (hN rfl hZ)))))))) fun e114 h116 h117 h118 h119 h120 h121 h122 h123 => sN ?_)))))))
   clear h81 h82 h83 h84 h85 h86 h107 h108 h109 h110 h111 h112 h113
   rcases ite_some h with ⟨hb124, h⟩ | ⟨hb124, h⟩
   ·refine cT h123 hb124 (sq (Rg (kx (mvO h117) (kx (mvO h119) (kx (mvO rfl) (kx (mvO rfl) (Rn (hV (.lsl i1_2 s1_5.length 0 s1_5.length) rfl (hN rfl hZ)) fun e125 h127 h128 => sN (xx (sR (bR (sR ?_)))))))))))
    clear h116 h117 h118 h119 h120 h121 h122 h123
    obtain rfl := si h
    exact qR ⟨rfl, h127, h128, o102⟩
   refine cF h123 hb124 (xx (sN (sq (Rg (kx (ldOA h118 o104 rfl rfl (ble rfl) rfl) (kw (stOK h116 rfl o101 rfl rfl ⟨rfl, ble rfl⟩ rfl rfl) fun M129 hM130 => ?_))))))
   have o131 : M129[i1_1]? = some (.live ⟨.box, 50, 3, [[.int .i64 0, .nils, .nils]]⟩) := set_same hM130 o101
   have o132 := set_ne hM130 (Ne.symm ne13) o102
   have o133 := set_ne hM130 (Ne.symm ne93) o104
   refine Rn (hA h116 (hA h117 (hA h120 (hA h121 (hA h122 hZ))))) fun e134 h136 h137 h138 h139 h140 => sN (Rg (kx (mvO h137) (kx (ldOA h136 o131 rfl rfl (ble rfl) rfl) ?_)))
   clear h116 h117 h118 h119 h120 h121 h122 h123
   cases h
  refine kc (cl (v := .tup [.agg [.int .i64 r141, .sl (some 2) (r142.map (cI .i64)), .sl (some 110) (r143.map Tally.c)], .int .i64 0]) rfl (cns rfl (cns rfl rfl)) rfl (impl_do_ok (Book.mk s1_2 s1_3 s1_4) x64 _ hx87) nm) (kx (mvO rfl) (kx (exT rfl rfl) (kx (exT rfl rfl) (ku (alO zero50) fun M145 hM146 => ?_))))
  have o147 := push_old hM146 o76
  have ne148 := ne_new o76
  have o149 := push_old hM146 o77
  have ne150 := ne_new o77
  have o151 := push_old hM146 o78
  have ne152 := ne_new o78
  have o153 : M145[M74.length]? = some (.live ⟨.box, 50, 3, [[.int .i64 0, .nils, .nils]]⟩) := push_new hM146
  refine kw (stOK rfl rfl o153 rfl rfl ⟨rfl, ble rfl⟩ rfl rfl) fun M154 hM155 => ?_
  have o156 := set_ne hM155 ne148 o147
  have o157 := set_ne hM155 ne150 o149
  have o158 := set_ne hM155 ne152 o151
  have o159 : M154[M74.length]? = some (.live ⟨.box, 50, 3, [[.int .i64 r141, .sl (some 2) (r142.map (cI .i64)), .sl (some 110) (r143.map Tally.c)]]⟩) := set_same hM155 o153
  refine kx (mvO rfl) (Rn (hA h81 (hA h82 (hV (.loc M74.length 1 0 0) rfl (hV (.int .i64 0) rfl (hA h84 (hA h85 (hA h86 hZ))))))) fun e160 h162 h163 h164 h165 h166 h167 h168 => sN (sq (sq (Rg (kx (mvO h165) (kx (bNeq rfl rfl) (Rn (hA h162 (hA h163 (hA h164 (hA h165 (hA h166 (hA h167 (hA h168 (hV (.bool false) rfl hZ)))))))) fun e169 h171 h172 h173 h174 h175 h176 h177 h178 => sN (cF h178 rfl (xx (sN (sq (Rg (kx (ldOA h173 o159 rfl rfl (ble rfl) rfl) (kw (stOK h171 rfl o156 rfl rfl ⟨rfl, ble rfl⟩ rfl rfl) fun M179 hM180 => ?_))))))))))))))
  clear h81 h82 h83 h84 h85 h86 h162 h163 h164 h165 h166 h167 h168
  have o181 : M179[i1_1]? = some (.live ⟨.box, 50, 3, [[.int .i64 r141, .sl (some 2) (r142.map (cI .i64)), .sl (some 110) (r143.map Tally.c)]]⟩) := set_same hM180 o156
  have o182 := set_ne hM180 (Ne.symm ne13) o157
  have o183 := set_ne hM180 (Ne.symm ne148) o159
  refine Rn (hA h171 (hA h172 (hA h175 (hA h176 (hA h177 hZ))))) fun e184 h186 h187 h188 h189 h190 => sN (Rg (kx (mvO h187) (kx (ldOA h186 o181 rfl rfl (ble rfl) rfl) (ku (litO (kp := true) (xs := [(Book.mk r141 r142 r143)]) (c := Book.o) (cns rfl rfl) rfl (by decide)) fun M192 hM193 => ?_))))
  clear h171 h172 h173 h174 h175 h176 h177 h178
  have o194 := push_old hM193 o181
  have ne195 := ne_new o181
  have o196 := push_old hM193 o182
  have ne197 := ne_new o182
  have o198 : M192[M179.length]? = some (.live ⟨.grow, 50, 3, [(Book.mk r141 r142 r143)].map Book.o⟩) := push_new hM193
  obtain ⟨x199, hx200, h⟩ := bind_some h
  refine kw (apOc rfl o196 rfl (elL rfl o198 rfl) hx200 Book.oc (by decide)) fun M201 hM202 => ?_
  have o203 := set_ne hM202 ne13 o194
  have o204 : M201[i1_2]? = some (.live ⟨.grow, 50, 3, x199.map Book.o⟩) := set_same hM202 o196
  have o205 := set_ne hM202 (Ne.symm ne197) o198
  refine kx (mvO rfl) (Rn (hA h186 (hV (.lsl i1_2 x199.length 0 x199.length) rfl (hA h188 (hA h189 (hA h190 hZ))))) fun e206 h208 h209 h210 h211 h212 => bN (sN (Rg (kx (bAdd h212 rfl) (kx (mvO rfl) (Rn (hA h208 (hA h209 (hA h210 (hA h211 (hN rfl hZ))))) fun e213 h215 h216 h217 h218 h219 => ?_))))))
  clear h186 h188 h189 h190 h208 h209 h210 h211
  obtain rfl := si h
  exact qN ⟨h215, h216, h217, h218, h219, ⟨_, _, o203⟩, o204⟩
 refine cF h62 hb63 (xx (sE ?_))
 obtain rfl := si h
 exact qE ⟨rfl, h58, ⟨_, _, o53⟩, o54⟩
noncomputable def impl_books (a1 : Book) (a2 : List Deal) : Option ((List Book) × Int) :=
 (Lw (impl_books_b1 a2) (0, a1.Day, a1.Cash, a1.Tallies, ([] : List Book))).bind fun r => match r with
 | (.inl (y226, y227)) =>
  some (y227, y226)
 | (.inr (y233, y234, y235, y236)) =>
  some (y236, 0)
def impl_books_enc (r : (List Book) × Int) : AV := .tup [(nslV 50 Book.o r.1), .int .i64 r.2]
theorem impl_books_ok (a1 : Book) (a2 : List Deal) (r : (List Book) × Int) (h : impl_books a1 a2 = some r) : Ev (fun k => CN k 122 [.agg [.int .i64 a1.Day, .sl none (a1.Cash.map (cI .i64)), .sl none (a1.Tallies.map Tally.c)], .sl none (a2.map Deal.c)] []) (fun p => rRes p.2 p.1 = impl_books_enc r) := by
 unfold impl_books at h
 refine Ev.enter (F := fun k => f122 (CN k) k) (fun k => callN_eq rfl Try.func122 rfl rfl rfl (by decide +kernel) (f122_eq _ _)) (sq (Rg (ku (bxO rfl rfl ⟨rfl, rfl, by decide⟩) fun M2 hM3 => ?_)))
 have o4 : M2[([] : Mem).length]? = some (.live ⟨.box, 50, 3, [[.int .i64 a1.Day, .sl none (a1.Cash.map (cI .i64)), .sl none (a1.Tallies.map Tally.c)]]⟩) := push_new hM3
 refine kx (mvO rfl) (kx (mvO rfl) (Rn (hN rfl (hV (.loc ([] : Mem).length 1 0 0) rfl hZ)) fun e5 h7 h8 => sN (sq (Rg (ku (litO (kp := true) (xs := ([] : List Book)) (c := Book.o) rfl rfl (by decide)) fun M10 hM11 => ?_)))))
 have o12 := push_old hM11 o4
 have ne13 := ne_new o4
 have o14 : M10[M2.length]? = some (.live ⟨.grow, 50, 3, ([] : List Book).map Book.o⟩) := push_new hM11
 obtain ⟨r221, hr222, h⟩ := bind_some h
 refine kx (mvO rfl) (Rn (hA h7 (hA h8 (hV (.lsl M2.length ([] : List Book).length 0 ([] : List Book).length) rfl hZ))) fun e15 h17 h18 h19 => sN (sq (sq (Rg (kx (mvO h17) (kx (lnS Try.underlying52 rfl) (kx (mvO rfl) (Rn (hA h18 (hA h19 (hN rfl (hN rfl (hV (.int .i64 0) rfl hZ))))) fun e20 h22 h23 h24 h25 h26 => sN (bl ?_)))))))))
 clear h7 h8 h17 h18 h19
 rcases r221 with ⟨y226, y227⟩ | ⟨y233, y234, y235, y236⟩
 ·refine Ev.loop (RS := impl_books_b1_RS a2 (([] : Mem).length) M2.length) (RR := impl_books_b1_RR a2 (([] : Mem).length) M2.length) (fun s r h e M hs => impl_books_b1_ok a2 (([] : Mem).length) M2.length ne13 s r h e M hs) hr222 ⟨h22, h23, h24, h25, h26, ⟨_, _, o12⟩, o14⟩ fun x e224 M225 hq223 => ?_
  obtain ⟨rfl, h228, h229, o230⟩ := hq223
  refine bR (sR ?_)
  obtain rfl := si h
  exact eR (resT h228 (resT h229 res0)) (rr_tup (mp1 (rr_nsv o230 rfl Book.oc) (mp1 rfl mp0)))
 refine Ev.loop (RS := impl_books_b1_RS a2 (([] : Mem).length) M2.length) (RR := impl_books_b1_RR a2 (([] : Mem).length) M2.length) (fun s r h e M hs => impl_books_b1_ok a2 (([] : Mem).length) M2.length ne13 s r h e M hs) hr222 ⟨h22, h23, h24, h25, h26, ⟨_, _, o12⟩, o14⟩ fun x e231 M232 hq223 => ?_
 obtain ⟨rfl, h237, ⟨qo1_B1_1, qo1_B1_2, o238⟩, o239⟩ := hq223
 refine bE (sN (sq (Rg (kx (mvO h237) (kx (mvO rfl) (kx (mvO rfl) (Rn (hV (.lsl M2.length y236.length 0 y236.length) rfl (hV (.int .i64 0) rfl hZ)) fun e240 h242 h243 => sN (xx ?_))))))))
 clear h237
 obtain rfl := si h
 exact eR (resT h242 (resT h243 res0)) (rr_tup (mp1 (rr_nsv o239 rfl Book.oc) (mp1 rfl mp0)))
/-! ### loop.example/g01263/impl.areDeals (f121) -/
abbrev impl_areDeals_b1_S := Int
abbrev impl_areDeals_b1_R := Unit ⊕ Unit
def impl_areDeals_b1_RS (a1 : List Deal) (s : impl_areDeals_b1_S) (e : Env) (M : Mem) : Prop := eget e 5 = .sl none (a1.map Deal.c) ∧ eget e 6 = .int .i64 (a1.length : Int) ∧ eget e 7 = .int .i64 s
def impl_areDeals_b1_RR (a1 : List Deal) (r : impl_areDeals_b1_R) (x : Ex) (e : Env) (M : Mem) : Prop :=
  match r with
  | (.inl g) => x = .ret ∧ eget e 2 = .bool false
  | (.inr g) => x = .ext 0 ∧ True
noncomputable def impl_areDeals_b1 (a1 : List Deal) : impl_areDeals_b1_S → Option (impl_areDeals_b1_S ⊕ impl_areDeals_b1_R) := fun s1_1 =>
 if (decide (s1_1 < (a1.length : Int))) = true then
  (rd a1 s1_1).bind fun x32 =>
  (impl_ValidDeal x32).bind fun r48 =>
  if r48 = true then
   some (.inl (IntKind.i64.wrap (s1_1 + 1)))
  else
   some (.inr (.inl ()))
 else
  some (.inr (.inr ()))
theorem impl_areDeals_b1_ok (a1 : List Deal) (s : impl_areDeals_b1_S) (r : impl_areDeals_b1_S ⊕ impl_areDeals_b1_R) (h : impl_areDeals_b1 a1 s = some r) (e : Env) (M : Mem) (hs : impl_areDeals_b1_RS a1 s e M) : Ev (fun k => (f121_l2 (CN k) k (prune [5, 6, 7] e) M).bind fun q => some q) (bQ (impl_areDeals_b1_RS a1) (impl_areDeals_b1_RR a1) r) := by
 revert h hs
 revert s
 intro s1_1 h hs
 unfold impl_areDeals_b1 at h
 obtain ⟨h19, h21, h23⟩ := hs
 generalize he18 : prune [5, 6, 7] e = e17
 have h20 := envp he18.symm rfl h19
 have h22 := envp he18.symm rfl h21
 have h24 := envp he18.symm rfl h23
 refine sq (Rg (kx (bLss h24 h22) (Rn (hV (.sl none (a1.map Deal.c)) h20 (hV (.int .i64 (a1.length : Int)) h22 (hV (.int .i64 s1_1) h24 (hN rfl hZ)))) fun e25 h27 h28 h29 h30 => sN (sq ?_))))
 clear h20 h22 h24
 rcases ite_some h with ⟨hb31, h⟩ | ⟨hb31, h⟩
 ·obtain ⟨x32, hx33, h⟩ := bind_some h
  refine cT h30 hb31 (xx (sN (sq (bl (sq (Rg (kx (ixS h27 h29 hx33 Deal.fl) (kx (ldPA rfl rfl rfl) (ku (alO zero114) fun M35 hM36 => ?_)))))))))
  have o37 : M35[M.length]? = some (.live ⟨.box, 114, 6, [[.int .i64 0, .int .i8 0, .int .i64 0, .int .i64 0, .int .i64 0, .int .i64 0]]⟩) := push_new hM36
  refine kw (stO rfl rfl o37 rfl rfl ⟨rfl, ble rfl⟩ rfl rfl) fun M38 hM39 => ?_
  have o40 : M38[M.length]? = some (.live ⟨.box, 114, 6, [[.int .i64 x32.Day, .int .i8 x32.Kind, .int .i64 x32.Tally, .int .i64 x32.From, .int .i64 x32.To, .int .i64 x32.Amount]]⟩) := set_same hM39 o37
  obtain ⟨r48, hx47, h⟩ := bind_some h
  refine Rn (hV (.loc M.length 1 0 0) rfl (hA h27 (hA h28 (hA h29 hZ)))) fun e41 h43 h44 h45 h46 => sN (sq (Rg (kx (ldOA h43 o40 rfl rfl (ble rfl) rfl) (kc (cl (v := .bool r48) rfl (cns rfl rfl) rfl (impl_ValidDeal_ok x32 _ hx47) nm) (kx (uNot rfl) (Rn (hA h44 (hA h45 (hA h46 (hN rfl hZ)))) fun e49 h51 h52 h53 h54 => sN ?_))))))
  clear h27 h28 h29 h30 h43 h44 h45 h46
  rcases ite_some h with ⟨hb55, h⟩ | ⟨hb55, h⟩
  ·refine cF h54 (congrArg Bool.not hb55) (xx (bN (sN (Rg (kx (bAdd h53 rfl) (kx (mvO rfl) (Rn (hA h51 (hA h52 (hN rfl hZ))) fun e56 h58 h59 h60 => ?_)))))))
   clear h51 h52 h54
   obtain rfl := si h
   exact qN ⟨h58, h59, h60⟩
  refine cT h54 (congrArg Bool.not hb55) (sq (Rg (kx (mvO rfl) (Rn (hV (.bool false) rfl hZ) fun e61 h63 => sN (xx (bR (sR ?_)))))))
  clear h51 h52 h53 h54
  obtain rfl := si h
  exact qR ⟨rfl, h63⟩
 refine cF h30 hb31 (xx (sE ?_))
 obtain rfl := si h
 exact qE ⟨rfl, trivial⟩
noncomputable def impl_areDeals (a1 : List Deal) : Option Bool :=
 (Lw (impl_areDeals_b1 a1) 0).bind fun r => match r with
 | (.inl _) =>
  some false
 | (.inr _) =>
  some true
def impl_areDeals_enc (r : Bool) : AV := .bool r
theorem impl_areDeals_ok (a1 : List Deal) (r : Bool) (h : impl_areDeals a1 = some r) : Ev (fun k => CN k 121 [.sl none (a1.map Deal.c)] []) (fun p => rRes p.2 p.1 = impl_areDeals_enc r) := by
 unfold impl_areDeals at h
 obtain ⟨r64, hr65, h⟩ := bind_some h
 refine Ev.enter (F := fun k => f121 (CN k) k) (fun k => callN_eq rfl Try.func121 rfl rfl rfl (by decide +kernel) (f121_eq _ _)) (sq (Rg (kx (mvO rfl) (Rn (hN rfl hZ) fun e1 h3 => sN (sq (sq (Rg (kx (mvO h3) (kx (lnS Try.underlying52 rfl) (kx (mvO rfl) (Rn (hN rfl (hN rfl (hV (.int .i64 0) rfl hZ))) fun e4 h6 h7 h8 => sN (bl ?_))))))))))))
 clear h3
 rcases r64 with _ | _
 ·refine Ev.loop (RS := impl_areDeals_b1_RS a1) (RR := impl_areDeals_b1_RR a1) (fun s r h e M hs => impl_areDeals_b1_ok a1 s r h e M hs) hr65 ⟨h6, h7, h8⟩ fun x e67 M68 hq66 => ?_
  obtain ⟨rfl, h69⟩ := hq66
  refine bR (sR ?_)
  obtain rfl := si h
  exact eR (resT h69 res0) rfl
 refine Ev.loop (RS := impl_areDeals_b1_RS a1) (RR := impl_areDeals_b1_RR a1) (fun s r h e M hs => impl_areDeals_b1_ok a1 s r h e M hs) hr65 ⟨h6, h7, h8⟩ fun x e70 M71 hq66 => ?_
 obtain ⟨rfl, _⟩ := hq66
 refine bE (sN (sq (Rg (kx (mvO rfl) (Rn (hV (.bool true) rfl hZ) fun e72 h74 => sN (xx ?_))))))
 obtain rfl := si h
 exact eR (resT h74 res0) rfl
/-! ### loop.example/g01263/impl.isAmount (f76) -/
noncomputable def impl_isAmount (a1 : Int) : Option Bool :=
 if (decide (a1 ≥ 0)) = true then
  some (decide (a1 ≤ 100000000))
 else
  some false
def impl_isAmount_enc (r : Bool) : AV := .bool r
theorem impl_isAmount_ok (a1 : Int) (r : Bool) (h : impl_isAmount a1 = some r) : Ev (fun k => CN k 76 [.int .i64 a1] []) (fun p => rRes p.2 p.1 = impl_isAmount_enc r) := by
 unfold impl_isAmount at h
 refine Ev.enter (F := fun k => f76 (CN k) k) (fun k => callN_eq rfl Try.func76 rfl rfl rfl (by decide +kernel) (f76_eq _ _)) (sq (Rg (kx (mvO rfl) (Rn (hN rfl hZ) fun e1 h3 => sN (sq (Rg (kx (mvO h3) (kx (bGeq rfl rfl) (kx (mvO rfl) ?_)))))))))
 rcases ite_some h with ⟨hb4, h⟩ | ⟨hb4, h⟩
 ·refine kx (guT rfl hb4 (mvO h3)) (kx (guT rfl hb4 (bLeq rfl rfl)) (kx (pkT rfl hb4 rfl) (kx (mvO rfl) (Rn (hN rfl hZ) fun e5 h7 => sN (xx ?_)))))
  clear h3
  obtain rfl := si h
  exact eR (resT h7 res0) rfl
 refine kx (gsT rfl hb4) (kx (gsT rfl hb4) (kx (pkF rfl hb4 rfl) (kx (mvO rfl) (Rn (hV (.bool false) rfl hZ) fun e8 h10 => sN (xx ?_)))))
 clear h3
 obtain rfl := si h
 exact eR (resT h10 res0) rfl
/-! ### loop.example/g01263/impl.ValidBook (f120) -/
def impl_ValidBook_c1_Q (a1 : Book) (g : Bool) (q : Out) : Prop := q.1 = .nrm ∧ eget q.2.1 1 = .pt none [.int .i64 a1.Day, .sl none (a1.Cash.map (cI .i64)), .sl none (a1.Tallies.map Tally.c)] ∧ eget q.2.1 3 = .int .i64 (a1.Cash.length : Int) ∧ eget q.2.1 29 = .bool g
abbrev impl_ValidBook_b1_S := Int
abbrev impl_ValidBook_b1_R := Unit ⊕ Unit
def impl_ValidBook_b1_RS (a1 : Book) (s : impl_ValidBook_b1_S) (e : Env) (M : Mem) : Prop := eget e 1 = .pt none [.int .i64 a1.Day, .sl none (a1.Cash.map (cI .i64)), .sl none (a1.Tallies.map Tally.c)] ∧ eget e 3 = .int .i64 (a1.Cash.length : Int) ∧ eget e 31 = .sl none (a1.Cash.map (cI .i64)) ∧ eget e 32 = .int .i64 (a1.Cash.length : Int) ∧ eget e 33 = .int .i64 s
def impl_ValidBook_b1_RR (a1 : Book) (r : impl_ValidBook_b1_R) (x : Ex) (e : Env) (M : Mem) : Prop :=
  match r with
  | (.inl g) => x = .ret ∧ eget e 2 = .bool false
  | (.inr g) => x = .ext 0 ∧ eget e 1 = .pt none [.int .i64 a1.Day, .sl none (a1.Cash.map (cI .i64)), .sl none (a1.Tallies.map Tally.c)] ∧ eget e 3 = .int .i64 (a1.Cash.length : Int)
noncomputable def impl_ValidBook_b1 (a1 : Book) : impl_ValidBook_b1_S → Option (impl_ValidBook_b1_S ⊕ impl_ValidBook_b1_R) := fun s1_1 =>
 if (decide (s1_1 < (a1.Cash.length : Int))) = true then
  (rd a1.Cash s1_1).bind fun x83 =>
  (impl_isAmount x83).bind fun r94 =>
  if r94 = true then
   some (.inl (IntKind.i64.wrap (s1_1 + 1)))
  else
   some (.inr (.inl ()))
 else
  some (.inr (.inr ()))
theorem impl_ValidBook_b1_ok (a1 : Book) (s : impl_ValidBook_b1_S) (r : impl_ValidBook_b1_S ⊕ impl_ValidBook_b1_R) (h : impl_ValidBook_b1 a1 s = some r) (e : Env) (M : Mem) (hs : impl_ValidBook_b1_RS a1 s e M) : Ev (fun k => (f120_l5 (CN k) k (prune [1, 3, 31, 32, 33] e) M).bind fun q => some q) (bQ (impl_ValidBook_b1_RS a1) (impl_ValidBook_b1_RR a1) r) := by
 revert h hs
 revert s
 intro s1_1 h hs
 unfold impl_ValidBook_b1 at h
 obtain ⟨h64, h66, h68, h70, h72⟩ := hs
 generalize he63 : prune [1, 3, 31, 32, 33] e = e62
 have h65 := envp he63.symm rfl h64
 have h67 := envp he63.symm rfl h66
 have h69 := envp he63.symm rfl h68
 have h71 := envp he63.symm rfl h70
 have h73 := envp he63.symm rfl h72
 refine sq (Rg (kx (bLss h73 h71) (Rn (hV (.pt none [.int .i64 a1.Day, .sl none (a1.Cash.map (cI .i64)), .sl none (a1.Tallies.map Tally.c)]) h65 (hV (.int .i64 (a1.Cash.length : Int)) h67 (hV (.sl none (a1.Cash.map (cI .i64))) h69 (hV (.int .i64 (a1.Cash.length : Int)) h71 (hV (.int .i64 s1_1) h73 (hN rfl hZ)))))) fun e74 h76 h77 h78 h79 h80 h81 => sN (sq ?_))))
 clear h65 h67 h69 h71 h73
 rcases ite_some h with ⟨hb82, h⟩ | ⟨hb82, h⟩
 ·obtain ⟨x83, hx84, h⟩ := bind_some h
  obtain ⟨r94, hx93, h⟩ := bind_some h
  refine cT h81 hb82 (xx (sN (sq (bl (sq (Rg (kx (ixS h78 h80 hx84 (cI_fl _)) (kx (ldP rfl rfl) (kx (mvO rfl) (Rn (hA h76 (hA h77 (hN rfl (hA h78 (hA h79 (hA h80 hZ)))))) fun e85 h87 h88 h89 h90 h91 h92 => sN (sq (Rg (kx (mvO h89) (kc (cl (v := .bool r94) rfl (cns rfl rfl) rfl (impl_isAmount_ok x83 _ hx93) nm) (kx (uNot rfl) (Rn (hA h87 (hA h88 (hA h90 (hA h91 (hA h92 (hN rfl hZ)))))) fun e95 h97 h98 h99 h100 h101 h102 => sN ?_))))))))))))))))
  clear h76 h77 h78 h79 h80 h81 h87 h88 h89 h90 h91 h92
  rcases ite_some h with ⟨hb103, h⟩ | ⟨hb103, h⟩
  ·refine cF h102 (congrArg Bool.not hb103) (xx (bN (sN (Rg (kx (bAdd h101 rfl) (kx (mvO rfl) (Rn (hA h97 (hA h98 (hA h99 (hA h100 (hN rfl hZ))))) fun e104 h106 h107 h108 h109 h110 => ?_)))))))
   clear h100 h102 h97 h98 h99
   obtain rfl := si h
   exact qN ⟨h106, h107, h108, h109, h110⟩
  refine cT h102 (congrArg Bool.not hb103) (sq (Rg (kx (mvO rfl) (Rn (hV (.bool false) rfl hZ) fun e111 h113 => sN (xx (bR (sR ?_)))))))
  clear h100 h101 h102 h97 h98 h99
  obtain rfl := si h
  exact qR ⟨rfl, h113⟩
 refine cF h81 hb82 (xx (sE ?_))
 obtain rfl := si h
 exact qE ⟨rfl, h76, h77⟩
abbrev impl_ValidBook_b2_S := Int × Int
abbrev impl_ValidBook_b2_R := Unit ⊕ Unit
def impl_ValidBook_b2_RS (a1 : Book) (s : impl_ValidBook_b2_S) (e : Env) (M : Mem) : Prop := eget e 1 = .pt none [.int .i64 a1.Day, .sl none (a1.Cash.map (cI .i64)), .sl none (a1.Tallies.map Tally.c)] ∧ eget e 3 = .int .i64 (a1.Cash.length : Int) ∧ eget e 6 = .int .i64 s.1 ∧ eget e 42 = .sl none (a1.Tallies.map Tally.c) ∧ eget e 43 = .int .i64 (a1.Tallies.length : Int) ∧ eget e 44 = .int .i64 s.2
def impl_ValidBook_b2_RR (a1 : Book) (r : impl_ValidBook_b2_R) (x : Ex) (e : Env) (M : Mem) : Prop :=
  match r with
  | (.inl g) => x = .ret ∧ eget e 2 = .bool false
  | (.inr g) => x = .ext 2 ∧ True
noncomputable def impl_ValidBook_b2 (a1 : Book) : impl_ValidBook_b2_S → Option (impl_ValidBook_b2_S ⊕ impl_ValidBook_b2_R) := fun (s2_1, s2_2) =>
 if (decide (s2_2 < (a1.Tallies.length : Int))) = true then
  (rd a1.Tallies s2_2).bind fun x175 =>
  (impl_arePeople (a1.Cash.length : Int) [x175.Debtor, x175.Holder]).bind fun r194 =>
  if r194 = true then
   if (decide (x175.Cut < s2_1)) = true then
    some (.inr (.inl ()))
   else
    if (decide (x175.Cut > a1.Day)) = true then
     some (.inr (.inl ()))
    else
     if (decide (x175.Amount < 1)) = true then
      some (.inr (.inl ()))
     else
      if (decide (x175.Amount > 100000000)) = true then
       some (.inr (.inl ()))
      else
       if (decide (x175.Left < 0)) = true then
        some (.inr (.inl ()))
       else
        if (decide (x175.Left > x175.Amount)) = true then
         some (.inr (.inl ()))
        else
         if (x175.Debtor == x175.Holder) = true then
          if (x175.Left != 0) = true then
           some (.inr (.inl ()))
          else
           some (.inl (x175.Cut, (IntKind.i64.wrap (s2_2 + 1))))
         else
          some (.inl (x175.Cut, (IntKind.i64.wrap (s2_2 + 1))))
  else
   some (.inr (.inl ()))
 else
  some (.inr (.inr ()))
theorem impl_ValidBook_b2_ok (a1 : Book) (s : impl_ValidBook_b2_S) (r : impl_ValidBook_b2_S ⊕ impl_ValidBook_b2_R) (h : impl_ValidBook_b2 a1 s = some r) (e : Env) (M : Mem) (hs : impl_ValidBook_b2_RS a1 s e M) : Ev (fun k => (f120_l12 (CN k) k (prune [1, 3, 6, 42, 43, 44] e) M).bind fun q => some q) (bQ (impl_ValidBook_b2_RS a1) (impl_ValidBook_b2_RR a1) r) := by
 obtain ⟨s2_1, s2_2⟩ := s
 unfold impl_ValidBook_b2 at h
 obtain ⟨h153, h155, h157, h159, h161, h163⟩ := hs
 generalize he152 : prune [1, 3, 6, 42, 43, 44] e = e151
 have h154 := envp he152.symm rfl h153
 have h156 := envp he152.symm rfl h155
 have h158 := envp he152.symm rfl h157
 have h160 := envp he152.symm rfl h159
 have h162 := envp he152.symm rfl h161
 have h164 := envp he152.symm rfl h163
 refine sq (Rg (kx (bLss h164 h162) (Rn (hV (.pt none [.int .i64 a1.Day, .sl none (a1.Cash.map (cI .i64)), .sl none (a1.Tallies.map Tally.c)]) h154 (hV (.int .i64 (a1.Cash.length : Int)) h156 (hV (.int .i64 s2_1) h158 (hV (.sl none (a1.Tallies.map Tally.c)) h160 (hV (.int .i64 (a1.Tallies.length : Int)) h162 (hV (.int .i64 s2_2) h164 (hN rfl hZ))))))) fun e165 h167 h168 h169 h170 h171 h172 h173 => sN (sq ?_))))
 clear h154 h156 h158 h160 h162 h164
 rcases ite_some h with ⟨hb174, h⟩ | ⟨hb174, h⟩
 ·obtain ⟨x175, hx176, h⟩ := bind_some h
  refine cT h173 hb174 (xx (sN (sq (bl (sq (Rg (kx (ixS h170 h172 hx176 Tally.fl) (kx (ldPA rfl rfl rfl) (ku (alO zero110) fun M178 hM179 => ?_)))))))))
  have o180 : M178[M.length]? = some (.live ⟨.box, 110, 5, [[.int .i64 0, .int .i64 0, .int .i64 0, .int .i64 0, .int .i64 0]]⟩) := push_new hM179
  refine kw (stO rfl rfl o180 rfl rfl ⟨rfl, ble rfl⟩ rfl rfl) fun M181 hM182 => ?_
  have o183 : M181[M.length]? = some (.live ⟨.box, 110, 5, [[.int .i64 x175.Debtor, .int .i64 x175.Holder, .int .i64 x175.Cut, .int .i64 x175.Amount, .int .i64 x175.Left]]⟩) := set_same hM182 o180
  obtain ⟨r194, hx193, h⟩ := bind_some h
  refine Rn (hA h167 (hA h168 (hA h169 (hV (.loc M.length 1 0 0) rfl (hA h170 (hA h171 (hA h172 hZ))))))) fun e184 h186 h187 h188 h189 h190 h191 h192 => sN (sq (sq (Rg (kx (mvO h187) (kx (faO h189 o183 rfl) (kx (ldO rfl o183 rfl rfl rfl) (kx (faO h189 o183 rfl) (kx (ldO rfl o183 rfl rfl rfl) (kx (litI (cns rfl (cns rfl rfl)) rfl ⟨rfl, by decide⟩) (kc (cl (v := .bool r194) rfl (cns rfl (cns rfl rfl)) rfl (impl_arePeople_ok (a1.Cash.length : Int) [x175.Debtor, x175.Holder] _ hx193) nm) (kx (uNot rfl) (kx (mvO rfl) ?_))))))))))))
  clear h167 h168 h169 h170 h171 h172 h173
  rcases ite_some h with ⟨hb195, h⟩ | ⟨hb195, h⟩
  ·refine kx (guF rfl (congrArg Bool.not hb195) (faO h189 o183 rfl)) (kx (guF rfl (congrArg Bool.not hb195) (ldO rfl o183 rfl rfl rfl)) (kx (guF rfl (congrArg Bool.not hb195) (mvO h188)) (kx (guF rfl (congrArg Bool.not hb195) (bLss rfl rfl)) (kx (pkF rfl (congrArg Bool.not hb195) rfl) (kx (mvO rfl) ?_)))))
   rcases ite_some h with ⟨hb196, h⟩ | ⟨hb196, h⟩
   ·refine kx (gsF rfl hb196) (kx (gsF rfl hb196) (kx (gsF rfl hb196) (kx (gsF rfl hb196) (kx (gsF rfl hb196) (kx (pkT rfl hb196 rfl) (kx (mvO rfl) (kx (gsF rfl rfl) (kx (gsF rfl rfl) (kx (gsF rfl rfl) (kx (pkT rfl rfl rfl) (kx (mvO rfl) (kx (gsF rfl rfl) (kx (gsF rfl rfl) (kx (gsF rfl rfl) (kx (pkT rfl rfl rfl) (kx (mvO rfl) (kx (gsF rfl rfl) (kx (gsF rfl rfl) (kx (gsF rfl rfl) (kx (pkT rfl rfl rfl) (kx (mvO rfl) (kx (gsF rfl rfl) (kx (gsF rfl rfl) (kx (gsF rfl rfl) (kx (gsF rfl rfl) (kx (gsF rfl rfl) (kx (pkT rfl rfl rfl) (kx (mvO rfl) (kx (gsF rfl rfl) (kx (gsF rfl rfl) (kx (gsF rfl rfl) (kx (gsF rfl rfl) (kx (gsF rfl rfl) (kx (gsF rfl rfl) (kx (gsU rfl) (kx (gsU rfl) (kx (gsU rfl) (kx (gsF rfl rfl) (kx (pkT rfl rfl rfl) (Rn (hA h186 (hA h187 (hA h189 (hA h190 (hA h191 (hA h192 (hV (.bool true) rfl hZ))))))) fun e197 h199 h200 h201 h202 h203 h204 h205 => sN (cT h205 rfl (sq (Rg (kx (mvO rfl) (Rn (hV (.bool false) rfl hZ) fun e206 h208 => sN (xx (sR (bR (sR ?_)))))))))))))))))))))))))))))))))))))))))))))))))
    clear h186 h187 h188 h189 h190 h191 h192 h199 h200 h201 h202 h203 h204 h205
    obtain rfl := si h
    exact qR ⟨rfl, h208⟩
   refine kx (guF rfl hb196 (faO h189 o183 rfl)) (kx (guF rfl hb196 (ldO rfl o183 rfl rfl rfl)) (kx (guF rfl hb196 (faP h186 ⟨ble rfl, blt rfl⟩ rfl)) (kx (guF rfl hb196 (ldP rfl rfl)) (kx (guF rfl hb196 (bGtr rfl rfl)) (kx (pkF rfl hb196 rfl) (kx (mvO rfl) ?_))))))
   rcases ite_some h with ⟨hb209, h⟩ | ⟨hb209, h⟩
   ·refine kx (gsF rfl hb209) (kx (gsF rfl hb209) (kx (gsF rfl hb209) (kx (pkT rfl hb209 rfl) (kx (mvO rfl) (kx (gsF rfl rfl) (kx (gsF rfl rfl) (kx (gsF rfl rfl) (kx (pkT rfl rfl rfl) (kx (mvO rfl) (kx (gsF rfl rfl) (kx (gsF rfl rfl) (kx (gsF rfl rfl) (kx (pkT rfl rfl rfl) (kx (mvO rfl) (kx (gsF rfl rfl) (kx (gsF rfl rfl) (kx (gsF rfl rfl) (kx (gsF rfl rfl) (kx (gsF rfl rfl) (kx (pkT rfl rfl rfl) (kx (mvO rfl) (kx (gsF rfl rfl) (kx (gsF rfl rfl) (kx (gsF rfl rfl) (kx (gsF rfl rfl) (kx (gsF rfl rfl) (kx (gsF rfl rfl) (kx (gsU rfl) (kx (gsU rfl) (kx (gsU rfl) (kx (gsF rfl rfl) (kx (pkT rfl rfl rfl) (Rn (hA h186 (hA h187 (hA h189 (hA h190 (hA h191 (hA h192 (hV (.bool true) rfl hZ))))))) fun e210 h212 h213 h214 h215 h216 h217 h218 => sN (cT h218 rfl (sq (Rg (kx (mvO rfl) (Rn (hV (.bool false) rfl hZ) fun e219 h221 => sN (xx (sR (bR (sR ?_))))))))))))))))))))))))))))))))))))))))))
    clear h186 h187 h188 h189 h190 h191 h192 h212 h213 h214 h215 h216 h217 h218
    obtain rfl := si h
    exact qR ⟨rfl, h221⟩
   refine kx (guF rfl hb209 (faO h189 o183 rfl)) (kx (guF rfl hb209 (ldO rfl o183 rfl rfl rfl)) (kx (guF rfl hb209 (bLss rfl rfl)) (kx (pkF rfl hb209 rfl) (kx (mvO rfl) ?_))))
   rcases ite_some h with ⟨hb222, h⟩ | ⟨hb222, h⟩
   ·refine kx (gsF rfl hb222) (kx (gsF rfl hb222) (kx (gsF rfl hb222) (kx (pkT rfl hb222 rfl) (kx (mvO rfl) (kx (gsF rfl rfl) (kx (gsF rfl rfl) (kx (gsF rfl rfl) (kx (pkT rfl rfl rfl) (kx (mvO rfl) (kx (gsF rfl rfl) (kx (gsF rfl rfl) (kx (gsF rfl rfl) (kx (gsF rfl rfl) (kx (gsF rfl rfl) (kx (pkT rfl rfl rfl) (kx (mvO rfl) (kx (gsF rfl rfl) (kx (gsF rfl rfl) (kx (gsF rfl rfl) (kx (gsF rfl rfl) (kx (gsF rfl rfl) (kx (gsF rfl rfl) (kx (gsU rfl) (kx (gsU rfl) (kx (gsU rfl) (kx (gsF rfl rfl) (kx (pkT rfl rfl rfl) (Rn (hA h186 (hA h187 (hA h189 (hA h190 (hA h191 (hA h192 (hV (.bool true) rfl hZ))))))) fun e223 h225 h226 h227 h228 h229 h230 h231 => sN (cT h231 rfl (sq (Rg (kx (mvO rfl) (Rn (hV (.bool false) rfl hZ) fun e232 h234 => sN (xx (sR (bR (sR ?_)))))))))))))))))))))))))))))))))))))
    clear h186 h187 h188 h189 h190 h191 h192 h225 h226 h227 h228 h229 h230 h231
    obtain rfl := si h
    exact qR ⟨rfl, h234⟩
   refine kx (guF rfl hb222 (faO h189 o183 rfl)) (kx (guF rfl hb222 (ldO rfl o183 rfl rfl rfl)) (kx (guF rfl hb222 (bGtr rfl rfl)) (kx (pkF rfl hb222 rfl) (kx (mvO rfl) ?_))))
   rcases ite_some h with ⟨hb235, h⟩ | ⟨hb235, h⟩
   ·refine kx (gsF rfl hb235) (kx (gsF rfl hb235) (kx (gsF rfl hb235) (kx (pkT rfl hb235 rfl) (kx (mvO rfl) (kx (gsF rfl rfl) (kx (gsF rfl rfl) (kx (gsF rfl rfl) (kx (gsF rfl rfl) (kx (gsF rfl rfl) (kx (pkT rfl rfl rfl) (kx (mvO rfl) (kx (gsF rfl rfl) (kx (gsF rfl rfl) (kx (gsF rfl rfl) (kx (gsF rfl rfl) (kx (gsF rfl rfl) (kx (gsF rfl rfl) (kx (gsU rfl) (kx (gsU rfl) (kx (gsU rfl) (kx (gsF rfl rfl) (kx (pkT rfl rfl rfl) (Rn (hA h186 (hA h187 (hA h189 (hA h190 (hA h191 (hA h192 (hV (.bool true) rfl hZ))))))) fun e236 h238 h239 h240 h241 h242 h243 h244 => sN (cT h244 rfl (sq (Rg (kx (mvO rfl) (Rn (hV (.bool false) rfl hZ) fun e245 h247 => sN (xx (sR (bR (sR ?_))))))))))))))))))))))))))))))))
    clear h186 h187 h188 h189 h190 h191 h192 h238 h239 h240 h241 h242 h243 h244
    obtain rfl := si h
    exact qR ⟨rfl, h247⟩
   refine kx (guF rfl hb235 (faO h189 o183 rfl)) (kx (guF rfl hb235 (ldO rfl o183 rfl rfl rfl)) (kx (guF rfl hb235 (bLss rfl rfl)) (kx (pkF rfl hb235 rfl) (kx (mvO rfl) ?_))))
   rcases ite_some h with ⟨hb248, h⟩ | ⟨hb248, h⟩
   ·refine kx (gsF rfl hb248) (kx (gsF rfl hb248) (kx (gsF rfl hb248) (kx (gsF rfl hb248) (kx (gsF rfl hb248) (kx (pkT rfl hb248 rfl) (kx (mvO rfl) (kx (gsF rfl rfl) (kx (gsF rfl rfl) (kx (gsF rfl rfl) (kx (gsF rfl rfl) (kx (gsF rfl rfl) (kx (gsF rfl rfl) (kx (gsU rfl) (kx (gsU rfl) (kx (gsU rfl) (kx (gsF rfl rfl) (kx (pkT rfl rfl rfl) (Rn (hA h186 (hA h187 (hA h189 (hA h190 (hA h191 (hA h192 (hV (.bool true) rfl hZ))))))) fun e249 h251 h252 h253 h254 h255 h256 h257 => sN (cT h257 rfl (sq (Rg (kx (mvO rfl) (Rn (hV (.bool false) rfl hZ) fun e258 h260 => sN (xx (sR (bR (sR ?_)))))))))))))))))))))))))))
    clear h186 h187 h188 h189 h190 h191 h192 h251 h252 h253 h254 h255 h256 h257
    obtain rfl := si h
    exact qR ⟨rfl, h260⟩
   refine kx (guF rfl hb248 (faO h189 o183 rfl)) (kx (guF rfl hb248 (ldO rfl o183 rfl rfl rfl)) (kx (guF rfl hb248 (faO h189 o183 rfl)) (kx (guF rfl hb248 (ldO rfl o183 rfl rfl rfl)) (kx (guF rfl hb248 (bGtr rfl rfl)) (kx (pkF rfl hb248 rfl) (kx (mvO rfl) ?_))))))
   rcases ite_some h with ⟨hb261, h⟩ | ⟨hb261, h⟩
   ·refine kx (gsF rfl hb261) (kx (gsF rfl hb261) (kx (gsF rfl hb261) (kx (gsF rfl hb261) (kx (gsF rfl hb261) (kx (gsF rfl hb261) (kx (gsU rfl) (kx (gsU rfl) (kx (gsU rfl) (kx (gsF rfl hb261) (kx (pkT rfl hb261 rfl) (Rn (hA h186 (hA h187 (hA h189 (hA h190 (hA h191 (hA h192 (hV (.bool true) rfl hZ))))))) fun e262 h264 h265 h266 h267 h268 h269 h270 => sN (cT h270 rfl (sq (Rg (kx (mvO rfl) (Rn (hV (.bool false) rfl hZ) fun e271 h273 => sN (xx (sR (bR (sR ?_))))))))))))))))))))
    clear h186 h187 h188 h189 h190 h191 h192 h264 h265 h266 h267 h268 h269 h270
    obtain rfl := si h
    exact qR ⟨rfl, h273⟩
   refine kx (guF rfl hb261 (faO h189 o183 rfl)) (kx (guF rfl hb261 (ldO rfl o183 rfl rfl rfl)) (kx (guF rfl hb261 (faO h189 o183 rfl)) (kx (guF rfl hb261 (ldO rfl o183 rfl rfl rfl)) (kx (guF rfl hb261 (bEql rfl rfl)) (kx (guF rfl hb261 (mvO rfl)) ?_)))))
   rcases ite_some h with ⟨hb274, h⟩ | ⟨hb274, h⟩
   ·refine kx (guT rfl hb274 (faO h189 o183 rfl)) (kx (guT rfl hb274 (ldO rfl o183 rfl rfl rfl)) (kx (guT rfl hb274 (bNeq rfl rfl)) (kx (guF rfl hb261 (pkT rfl hb274 rfl)) (kx (pkF rfl hb261 rfl) (Rn (hA h186 (hA h187 (hA h189 (hA h190 (hA h191 (hA h192 (hN rfl hZ))))))) fun e275 h277 h278 h279 h280 h281 h282 h283 => sN ?_)))))
    clear h186 h187 h188 h189 h190 h191 h192
    rcases ite_some h with ⟨hb284, h⟩ | ⟨hb284, h⟩
    ·refine cT h283 hb284 (sq (Rg (kx (mvO rfl) (Rn (hV (.bool false) rfl hZ) fun e285 h287 => sN (xx (sR (bR (sR ?_))))))))
     clear h277 h278 h279 h280 h281 h282 h283
     obtain rfl := si h
     exact qR ⟨rfl, h287⟩
    refine cF h283 hb284 (xx (sN (Rg (kx (faO h279 o183 rfl) (kx (ldO rfl o183 rfl rfl rfl) (kx (mvO rfl) (Rn (hA h277 (hA h278 (hN rfl (hA h280 (hA h281 (hA h282 hZ)))))) fun e288 h290 h291 h292 h293 h294 h295 => bN (sN (Rg (kx (bAdd h295 rfl) (kx (mvO rfl) (Rn (hA h290 (hA h291 (hA h292 (hA h293 (hA h294 (hN rfl hZ)))))) fun e296 h298 h299 h300 h301 h302 h303 => ?_))))))))))))
    clear h277 h278 h279 h280 h281 h282 h283 h290 h291 h292 h293 h294
    obtain rfl := si h
    exact qN ⟨h298, h299, h300, h301, h302, h303⟩
   refine kx (gsT rfl hb274) (kx (gsT rfl hb274) (kx (gsT rfl hb274) (kx (guF rfl hb261 (pkF rfl hb274 rfl)) (kx (pkF rfl hb261 rfl) (Rn (hA h186 (hA h187 (hA h189 (hA h190 (hA h191 (hA h192 (hV (.bool false) rfl hZ))))))) fun e304 h306 h307 h308 h309 h310 h311 h312 => sN (cF h312 rfl (xx (sN (Rg (kx (faO h308 o183 rfl) (kx (ldO rfl o183 rfl rfl rfl) (kx (mvO rfl) (Rn (hA h306 (hA h307 (hN rfl (hA h309 (hA h310 (hA h311 hZ)))))) fun e313 h315 h316 h317 h318 h319 h320 => bN (sN (Rg (kx (bAdd h320 rfl) (kx (mvO rfl) (Rn (hA h315 (hA h316 (hA h317 (hA h318 (hA h319 (hN rfl hZ)))))) fun e321 h323 h324 h325 h326 h327 h328 => ?_))))))))))))))))))
   clear h186 h187 h188 h189 h190 h191 h192 h306 h307 h308 h309 h310 h311 h312 h315 h316 h317 h318 h319
   obtain rfl := si h
   exact qN ⟨h323, h324, h325, h326, h327, h328⟩
  refine kx (gsF rfl (congrArg Bool.not hb195)) (kx (gsF rfl (congrArg Bool.not hb195)) (kx (gsF rfl (congrArg Bool.not hb195)) (kx (gsF rfl (congrArg Bool.not hb195)) (kx (pkT rfl (congrArg Bool.not hb195) rfl) (kx (mvO rfl) (kx (gsF rfl rfl) (kx (gsF rfl rfl) (kx (gsF rfl rfl) (kx (gsF rfl rfl) (kx (gsF rfl rfl) (kx (pkT rfl rfl rfl) (kx (mvO rfl) (kx (gsF rfl rfl) (kx (gsF rfl rfl) (kx (gsF rfl rfl) (kx (pkT rfl rfl rfl) (kx (mvO rfl) (kx (gsF rfl rfl) (kx (gsF rfl rfl) (kx (gsF rfl rfl) (kx (pkT rfl rfl rfl) (kx (mvO rfl) (kx (gsF rfl rfl) (kx (gsF rfl rfl) (kx (gsF rfl rfl) (kx (pkT rfl rfl rfl) (kx (mvO rfl) (kx (gsF rfl rfl) (kx (gsF rfl rfl) (kx (gsF rfl rfl) (kx (gsF rfl rfl) (kx (gsF rfl rfl) (kx (pkT rfl rfl rfl) (kx (mvO rfl) (kx (gsF rfl rfl) (kx (gsF rfl rfl) (kx (gsF rfl rfl) (kx (gsF rfl rfl) (kx (gsF rfl rfl) (kx (gsF rfl rfl) (kx (gsU rfl) (kx (gsU rfl) (kx (gsU rfl) (kx (gsF rfl rfl) (kx (pkT rfl rfl rfl) (Rn (hA h186 (hA h187 (hA h189 (hA h190 (hA h191 (hA h192 (hV (.bool true) rfl hZ))))))) fun e329 h331 h332 h333 h334 h335 h336 h337 => sN (cT h337 rfl (sq (Rg (kx (mvO rfl) (Rn (hV (.bool false) rfl hZ) fun e338 h340 => sN (xx (sR (bR (sR ?_)))))))))))))))))))))))))))))))))))))))))))))))))))))))
  clear h186 h187 h188 h189 h190 h191 h192 h331 h332 h333 h334 h335 h336 h337
  obtain rfl := si h
  exact qR ⟨rfl, h340⟩
 refine cF h173 hb174 (xx (sE ?_))
 obtain rfl := si h
 exact qE ⟨rfl, trivial⟩
noncomputable def impl_ValidBook (a1 : Book) : Option Bool :=
 ((impl_isBookDay a1.Day).bind fun r9 =>
 if r9 = true then
  if (decide ((a1.Cash.length : Int) < 1)) = true then
   some true
  else
   if (decide ((a1.Cash.length : Int) > 16)) = true then
    some true
   else
    some (decide ((a1.Tallies.length : Int) > 40))
 else
  some true).bind fun y35 =>
 if y35 = true then
  some false
 else
  (Lw (impl_ValidBook_b1 a1) 0).bind fun r => match r with
  | (.inl _) =>
   some false
  | (.inr _) =>
   (Lw (impl_ValidBook_b2 a1) (0, 0)).bind fun r => match r with
   | (.inl _) =>
    some false
   | (.inr _) =>
    some true
def impl_ValidBook_enc (r : Bool) : AV := .bool r
theorem impl_ValidBook_ok (a1 : Book) (r : Bool) (h : impl_ValidBook a1 = some r) : Ev (fun k => CN k 120 [.agg [.int .i64 a1.Day, .sl none (a1.Cash.map (cI .i64)), .sl none (a1.Tallies.map Tally.c)]] []) (fun p => rRes p.2 p.1 = impl_ValidBook_enc r) := by
 unfold impl_ValidBook at h
 obtain ⟨r353, hr354, h⟩ := bind_some h
 refine Ev.enter (F := fun k => f120 (CN k) k) (fun k => callN_eq rfl Try.func120 rfl rfl rfl (by decide +kernel) (f120_eq _ _)) (sq (Rg (kx (bxI rfl rfl ⟨rfl, rfl, by decide⟩) (kx (mvO rfl) (Rn (hN rfl hZ) fun e1 h3 => sN (sq (Rg (kx (faP h3 ⟨ble rfl, blt rfl⟩ rfl) (kx (ldP rfl rfl) (kx (lnS Try.underlying24 rfl) (kx (mvO rfl) (Rn (hA h3 (hN rfl hZ)) fun e4 h6 h7 => sN (sq (sq ?_))))))))))))))
 clear h3
 refine Ev.cut (Q1 := impl_ValidBook_c1_Q a1 r353) (by
     have h := hr354
     obtain ⟨r9, hx8, h⟩ := bind_some h
     refine Rg (kx (faP h6 ⟨ble rfl, blt rfl⟩ rfl) (kx (ldP rfl rfl) (kc (cl (v := .bool r9) rfl (cns rfl rfl) rfl (impl_isBookDay_ok a1.Day _ hx8) nm) (kx (uNot rfl) (kx (mvO rfl) ?_)))))
     rcases ite_some h with ⟨hb10, h⟩ | ⟨hb10, h⟩
     ·refine kx (guF rfl (congrArg Bool.not hb10) (mvO h7)) (kx (guF rfl (congrArg Bool.not hb10) (bLss rfl rfl)) (kx (pkF rfl (congrArg Bool.not hb10) rfl) (kx (mvO rfl) ?_)))
      rcases ite_some h with ⟨hb11, h⟩ | ⟨hb11, h⟩
      ·refine kx (gsF rfl hb11) (kx (gsF rfl hb11) (kx (pkT rfl hb11 rfl) (kx (mvO rfl) (kx (gsF rfl rfl) (kx (gsF rfl rfl) (kx (gsF rfl rfl) (kx (gsF rfl rfl) (kx (pkT rfl rfl rfl) (Rn (hA h6 (hA h7 (hV (.bool true) rfl hZ))) fun e12 h14 h15 h16 => ?_)))))))))
       clear h6 h7
       obtain rfl := si h
       exact kd (show impl_ValidBook_c1_Q a1 _ _ from ⟨rfl, h14, h15, h16⟩)
      refine kx (guF rfl hb11 (mvO h7)) (kx (guF rfl hb11 (bGtr rfl rfl)) (kx (pkF rfl hb11 rfl) (kx (mvO rfl) ?_)))
      rcases ite_some h with ⟨hb17, h⟩ | ⟨hb17, h⟩
      ·refine kx (gsF rfl hb17) (kx (gsF rfl hb17) (kx (gsF rfl hb17) (kx (gsF rfl hb17) (kx (pkT rfl hb17 rfl) (Rn (hA h6 (hA h7 (hV (.bool true) rfl hZ))) fun e18 h20 h21 h22 => ?_)))))
       clear h6 h7
       obtain rfl := si h
       exact kd (show impl_ValidBook_c1_Q a1 _ _ from ⟨rfl, h20, h21, h22⟩)
      refine kx (guF rfl hb17 (faP h6 ⟨ble rfl, blt rfl⟩ rfl)) (kx (guF rfl hb17 (ldP rfl rfl)) (kx (guF rfl hb17 (lnS Try.underlying48 rfl)) (kx (guF rfl hb17 (bGtr rfl rfl)) (kx (pkF rfl hb17 rfl) (Rn (hA h6 (hA h7 (hN rfl hZ))) fun e23 h25 h26 h27 => ?_)))))
      clear h6 h7
      obtain rfl := si h
      exact kd (show impl_ValidBook_c1_Q a1 _ _ from ⟨rfl, h25, h26, h27⟩)
     refine kx (gsF rfl (congrArg Bool.not hb10)) (kx (gsF rfl (congrArg Bool.not hb10)) (kx (pkT rfl (congrArg Bool.not hb10) rfl) (kx (mvO rfl) (kx (gsF rfl rfl) (kx (gsF rfl rfl) (kx (pkT rfl rfl rfl) (kx (mvO rfl) (kx (gsF rfl rfl) (kx (gsF rfl rfl) (kx (gsF rfl rfl) (kx (gsF rfl rfl) (kx (pkT rfl rfl rfl) (Rn (hA h6 (hA h7 (hV (.bool true) rfl hZ))) fun e28 h30 h31 h32 => ?_)))))))))))))
     clear h6 h7
     obtain rfl := si h
     exact kd (show impl_ValidBook_c1_Q a1 _ _ from ⟨rfl, h30, h31, h32⟩)) ?_
 revert h hr354
 revert r353
 intro y35 hr354 h
 intro x e33 M34 hq352
 obtain ⟨rfl, h36, h37, h38⟩ := hq352
 refine sN ?_
 rcases ite_some h with ⟨hb39, h⟩ | ⟨hb39, h⟩
 ·refine cT h38 hb39 (sq (Rg (kx (mvO rfl) (Rn (hV (.bool false) rfl hZ) fun e40 h42 => sN (xx (sR ?_))))))
  clear h36 h37 h38
  obtain rfl := si h
  exact eR (resT h42 res0) rfl
 obtain ⟨r114, hr115, h⟩ := bind_some h
 refine cF h38 hb39 (xx (sN (sq (sq (Rg (kx (faP h36 ⟨ble rfl, blt rfl⟩ rfl) (kx (ldP rfl rfl) (kx (lnS Try.underlying24 rfl) (kx (mvO rfl) (Rn (hV (.pt none [.int .i64 a1.Day, .sl none (a1.Cash.map (cI .i64)), .sl none (a1.Tallies.map Tally.c)]) h36 (hV (.int .i64 (a1.Cash.length : Int)) h37 (hN rfl (hN rfl (hV (.int .i64 0) rfl hZ))))) fun e43 h45 h46 h47 h48 h49 => sN (bl ?_)))))))))))
 clear h36 h37 h38
 rcases r114 with _ | _
 ·refine Ev.loop (RS := impl_ValidBook_b1_RS a1) (RR := impl_ValidBook_b1_RR a1) (fun s r h e M hs => impl_ValidBook_b1_ok a1 s r h e M hs) hr115 ⟨h45, h46, h47, h48, h49⟩ fun x e117 M118 hq116 => ?_
  obtain ⟨rfl, h119⟩ := hq116
  refine bR (sR ?_)
  obtain rfl := si h
  exact eR (resT h119 res0) rfl
 refine Ev.loop (RS := impl_ValidBook_b1_RS a1) (RR := impl_ValidBook_b1_RR a1) (fun s r h e M hs => impl_ValidBook_b1_ok a1 s r h e M hs) hr115 ⟨h45, h46, h47, h48, h49⟩ fun x e120 M121 hq116 => ?_
 obtain ⟨rfl, h122, h123⟩ := hq116
 obtain ⟨r341, hr342, h⟩ := bind_some h
 refine bE (sN (sq (Rg (kx (mvO rfl) (Rn (hV (.pt none [.int .i64 a1.Day, .sl none (a1.Cash.map (cI .i64)), .sl none (a1.Tallies.map Tally.c)]) h122 (hV (.int .i64 (a1.Cash.length : Int)) h123 (hV (.int .i64 0) rfl hZ))) fun e124 h126 h127 h128 => sN (sq (sq (Rg (kx (faP h126 ⟨ble rfl, blt rfl⟩ rfl) (kx (ldP rfl rfl) (kx (lnS Try.underlying48 rfl) (kx (mvO rfl) (Rn (hA h126 (hA h127 (hA h128 (hN rfl (hN rfl (hV (.int .i64 0) rfl hZ)))))) fun e129 h131 h132 h133 h134 h135 h136 => sN (bl ?_))))))))))))))
 clear h122 h123 h126 h127 h128
 rcases r341 with _ | _
 ·refine Ev.loop (RS := impl_ValidBook_b2_RS a1) (RR := impl_ValidBook_b2_RR a1) (fun s r h e M hs => impl_ValidBook_b2_ok a1 s r h e M hs) hr342 ⟨h131, h132, h133, h134, h135, h136⟩ fun x e344 M345 hq343 => ?_
  obtain ⟨rfl, h346⟩ := hq343
  refine bR (sR ?_)
  obtain rfl := si h
  exact eR (resT h346 res0) rfl
 refine Ev.loop (RS := impl_ValidBook_b2_RS a1) (RR := impl_ValidBook_b2_RR a1) (fun s r h e M hs => impl_ValidBook_b2_ok a1 s r h e M hs) hr342 ⟨h131, h132, h133, h134, h135, h136⟩ fun x e347 M348 hq343 => ?_
 obtain ⟨rfl, _⟩ := hq343
 refine bE (sN (sq (Rg (kx (mvO rfl) (Rn (hV (.bool true) rfl hZ) fun e349 h351 => sN (xx ?_))))))
 obtain rfl := si h
 exact eR (resT h351 res0) rfl
/-! ### loop.example/g01263/spec.l07Copy (f89) -/
noncomputable def spec_l07Copy (a1 : Book) : Option (Int × (List Int) × (List Tally)) :=
 (app 8 ([] : List Int) a1.Cash).bind fun x9 =>
 (app 40 ([] : List Tally) a1.Tallies).bind fun x11 =>
 some (a1.Day, x9, x11)
def spec_l07Copy_enc (r : Int × (List Int) × (List Tally)) : AV := .agg [.int .i64 r.1, .sl (some 2) (r.2.1.map (cI .i64)), .sl (some 110) (r.2.2.map Tally.c)]
theorem spec_l07Copy_ok (a1 : Book) (r : Int × (List Int) × (List Tally)) (h : spec_l07Copy a1 = some r) : Ev (fun k => CN k 89 [.pt none [.int .i64 a1.Day, .sl none (a1.Cash.map (cI .i64)), .sl none (a1.Tallies.map Tally.c)]] []) (fun p => rRes p.2 p.1 = spec_l07Copy_enc r) := by
 unfold spec_l07Copy at h
 refine Ev.enter (F := fun k => f89 (CN k) k) (fun k => callN_eq rfl Try.func89 rfl rfl rfl (by decide +kernel) (f89_eq _ _)) (sq (Rg (ku (alO zero50) fun M2 hM3 => ?_)))
 have o4 : M2[([] : Mem).length]? = some (.live ⟨.box, 50, 3, [[.int .i64 0, .nils, .nils]]⟩) := push_new hM3
 obtain ⟨x9, hx10, h⟩ := bind_some h
 obtain ⟨x11, hx12, h⟩ := bind_some h
 refine Rn (hN rfl (hV (.loc ([] : Mem).length 1 0 0) rfl hZ)) fun e5 h7 h8 => sN (sq (Rd (kf (mvO h7) (kf (ncP rfl) (kf (faP rfl ⟨ble rfl, blt rfl⟩ rfl) (kf (ldP rfl rfl) (kf (litI rfl rfl ⟨rfl, by decide⟩) (kf (mvO h7) (kf (ncP rfl) (kf (faP rfl ⟨ble rfl, blt rfl⟩ rfl) (kf (ldP rfl rfl) (kf (aiT (c := (cI .i64)) (xs := ([] : List Int)) rfl (elS rfl) hx10 (cI_fl _) (by decide)) (kf (litI rfl rfl ⟨rfl, by decide⟩) (kf (mvO h7) (kf (ncP rfl) (kf (faP rfl ⟨ble rfl, blt rfl⟩ rfl) (kf (ldP rfl rfl) (kf (aiT (c := Tally.c) (xs := ([] : List Tally)) rfl (elS rfl) hx12 Tally.fl (by decide)) (kf (bldT zero50 (cns (pr3 rfl) (cns (pr3 rfl) (cns (pr3 rfl) rfl))) (fill1 ⟨rfl, ble rfl⟩ rfl rfl (fill1 ⟨rfl, ble rfl⟩ rfl rfl (fill1 ⟨rfl, ble rfl⟩ rfl rfl (fill0 rfl))))) (fZ (kw (stOK h8 rfl o4 rfl rfl ⟨rfl, ble rfl⟩ rfl rfl) fun M13 hM14 => ?_)))))))))))))))))))))
 have o15 : M13[([] : Mem).length]? = some (.live ⟨.box, 50, 3, [[.int .i64 a1.Day, .sl (some 2) (x9.map (cI .i64)), .sl (some 110) (x11.map Tally.c)]]⟩) := set_same hM14 o4
 refine Rn (hA h8 hZ) fun e16 h18 => sN (xx ?_)
 clear h7 h8
 obtain rfl := si h
 exact eR (resC (ag := true) (sz := 3) ⟨by kernel_rfl, by kernel_rfl, by kernel_rfl⟩ (ldOA h18 o15 rfl rfl (ble rfl) rfl) res0) rfl
/-! ### loop.example/g01263/spec.l07Do (f119) -/
noncomputable def spec_l07Do (a1 : Book) (a2 : Deal) : Option (Int ⊕ (Int × (List Int) × (List Tally))) :=
 (spec_l07Refused a1 a2).bind fun r11 =>
 if (r11 != 0) = true then
  some (.inl r11)
 else
  (spec_l07Copy a1).bind fun (r34, r35, r36) =>
  if (a2.Kind == 1) = true then
   (app 40 r36 [(Tally.mk a2.From a2.To a2.Day a2.Amount a2.Amount)]).bind fun x86 =>
   some (.inr (a2.Day, r35, x86))
  else
   (rd r36 a2.Tally).bind fun x114 =>
   if (a2.Kind == 2) = true then
    if (((Tally.mk x114.Debtor a2.To x114.Cut x114.Amount x114.Left)).Holder == ((Tally.mk x114.Debtor a2.To x114.Cut x114.Amount x114.Left)).Debtor) = true then
     some (.inr (a2.Day, r35, ((r36.set a2.Tally.toNat (Tally.mk x114.Debtor a2.To x114.Cut x114.Amount x114.Left)).set a2.Tally.toNat (Tally.mk ((Tally.mk x114.Debtor a2.To x114.Cut x114.Amount x114.Left)).Debtor ((Tally.mk x114.Debtor a2.To x114.Cut x114.Amount x114.Left)).Holder ((Tally.mk x114.Debtor a2.To x114.Cut x114.Amount x114.Left)).Cut ((Tally.mk x114.Debtor a2.To x114.Cut x114.Amount x114.Left)).Amount 0))))
    else
     some (.inr (a2.Day, r35, (r36.set a2.Tally.toNat (Tally.mk x114.Debtor a2.To x114.Cut x114.Amount x114.Left))))
   else
    if (a2.Kind == 3) = true then
     (rd r35 x114.Debtor).bind fun x197 =>
     (rd r35 x114.Debtor).bind fun x199 =>
     (rd (r35.set x114.Debtor.toNat (IntKind.i64.wrap (x197 - a2.Amount))) x114.Holder).bind fun x214 =>
     (rd (r35.set x114.Debtor.toNat (IntKind.i64.wrap (x197 - a2.Amount))) x114.Holder).bind fun x216 =>
     some (.inr (a2.Day, ((r35.set x114.Debtor.toNat (IntKind.i64.wrap (x197 - a2.Amount))).set x114.Holder.toNat (IntKind.i64.wrap (x214 + a2.Amount))), (r36.set a2.Tally.toNat (Tally.mk x114.Debtor x114.Holder x114.Cut x114.Amount (IntKind.i64.wrap (x114.Left - a2.Amount))))))
    else
     if (a2.Kind == 4) = true then
      some (.inr (a2.Day, r35, (r36.set a2.Tally.toNat (Tally.mk x114.Debtor x114.Holder x114.Cut x114.Amount 0))))
     else
      some (.inr (a2.Day, r35, r36))
def spec_l07Do_enc (r : Int ⊕ (Int × (List Int) × (List Tally))) : AV :=
  match r with
  | (.inl g) => .tup [.agg [.int .i64 0, .nils, .nils], .int .i64 g]
  | (.inr g) => .tup [.agg [.int .i64 g.1, .sl (some 2) (g.2.1.map (cI .i64)), .sl (some 110) (g.2.2.map Tally.c)], .int .i64 0]
theorem spec_l07Do_ok (a1 : Book) (a2 : Deal) (r : Int ⊕ (Int × (List Int) × (List Tally))) (h : spec_l07Do a1 a2 = some r) : Ev (fun k => CN k 119 [.pt none [.int .i64 a1.Day, .sl none (a1.Cash.map (cI .i64)), .sl none (a1.Tallies.map Tally.c)], .pt none [.int .i64 a2.Day, .int .i8 a2.Kind, .int .i64 a2.Tally, .int .i64 a2.From, .int .i64 a2.To, .int .i64 a2.Amount]] []) (fun p => rRes p.2 p.1 = spec_l07Do_enc r) := by
 unfold spec_l07Do at h
 refine Ev.enter (F := fun k => f119 (CN k) k) (fun k => callN_eq rfl Try.func119 rfl rfl rfl (by decide +kernel) (f119_eq _ _)) (sq (Rg (ku (alO zero50) fun M2 hM3 => ?_)))
 have o4 : M2[([] : Mem).length]? = some (.live ⟨.box, 50, 3, [[.int .i64 0, .nils, .nils]]⟩) := push_new hM3
 obtain ⟨r11, hx10, h⟩ := bind_some h
 refine kx (mvO rfl) (Rn (hN rfl (hN rfl (hV (.loc ([] : Mem).length 1 0 0) rfl hZ))) fun e5 h7 h8 h9 => sN (sq (sq (Rg (kx (mvO h7) (kx (mvO h8) (kc (cl (v := .int .i64 r11) rfl (cns rfl (cns rfl rfl)) rfl (spec_l07Refused_ok a1 a2 _ hx10) nm) (kx (mvO rfl) (Rn (hA h7 (hA h8 (hA h9 (hN rfl hZ)))) fun e12 h14 h15 h16 h17 => sN (sq (Rg (kx (mvO h17) (kx (bNeq rfl rfl) (Rn (hA h14 (hA h15 (hA h16 (hA h17 (hN rfl hZ))))) fun e18 h20 h21 h22 h23 h24 => sN ?_))))))))))))))
 clear h7 h8 h9 h14 h15 h16 h17
 rcases ite_some h with ⟨hb25, h⟩ | ⟨hb25, h⟩
 ·refine cT h24 hb25 (sq (Rg (kx (bldT zero50 rfl (fill0 rfl)) (kx (mvO h23) (kw (stO h22 rfl o4 rfl rfl ⟨rfl, ble rfl⟩ rfl rfl) fun M26 hM27 => ?_)))))
  have o28 : M26[([] : Mem).length]? = some (.live ⟨.box, 50, 3, [[.int .i64 0, .nils, .nils]]⟩) := set_same hM27 o4
  refine kx (mvO rfl) (Rn (hA h22 (hN rfl hZ)) fun e29 h31 h32 => sN (xx (sR ?_)))
  clear h20 h21 h22 h23 h24
  obtain rfl := si h
  exact eR (resC (ag := true) (sz := 3) ⟨by kernel_rfl, by kernel_rfl, by kernel_rfl⟩ (ldOA h31 o28 rfl rfl (ble rfl) rfl) (resT h32 res0)) rfl
 obtain ⟨⟨r34, r35, r36⟩, hx33, h⟩ := bind_some h
 refine cF h24 hb25 (xx (sN (sq (Rg (kx (mvO h20) (Ev.nxcp (Ev.callT (v := .agg [.int .i64 r34, .sl (some 2) (r35.map (cI .i64)), .sl (some 110) (r36.map Tally.c)]) rfl (cns rfl rfl) rfl (spec_l07Copy_ok a1 _ hx33) (th_gen (v' := .agg [.int .i64 r34, .lsl M2.length r35.length 0 r35.length, .lsl (M2.length + 1) r36.length 0 r36.length]) (l := [⟨.grow, 2, 1, r35.map (cI .i64)⟩, ⟨.grow, 110, 5, r36.map Tally.c⟩]) (own_agg (oa1 rfl (oa1 (own1_row' (c := (cI .i64)) (fun _ => rfl)) (oa1 (own1_row' (c := Tally.c) Tally.flF) oa0)))) (by simp [thaw, thaw2, thaw1, thawL, co2, co110]) rfl rfl)) fun M39 hM40 => ?_))))))
 have o41 := push_old hM40 o4
 have ne42 : ([] : Mem).length ≠ M2.length := by have := lt_of_get (M := M2) o4; omega
 have o43 : M39[M2.length]? = some (.live ⟨.grow, 2, 1, r35.map (cI .i64)⟩) := push_at hM40 0 rfl
 have ne44 : ([] : Mem).length ≠ (M2.length + 1) := by have := lt_of_get (M := M2) o4; omega
 have ne45 : M2.length ≠ (M2.length + 1) := by omega
 have o46 : M39[(M2.length + 1)]? = some (.live ⟨.grow, 110, 5, r36.map Tally.c⟩) := push_at hM40 1 rfl
 refine ku (alO zero50) fun M48 hM49 => ?_
 have o50 := push_old hM49 o41
 have ne51 := ne_new o41
 have o52 := push_old hM49 o43
 have ne53 := ne_new o43
 have o54 := push_old hM49 o46
 have ne55 := ne_new o46
 have o56 : M48[M39.length]? = some (.live ⟨.box, 50, 3, [[.int .i64 0, .nils, .nils]]⟩) := push_new hM49
 refine kw (stO rfl rfl o56 rfl rfl ⟨rfl, ble rfl⟩ (all1 rfl (all1 (okL o52 (by simp)) (all1 (okL o54 (by simp)) all0))) rfl) fun M57 hM58 => ?_
 have o59 := set_ne hM58 ne51 o50
 have o60 := set_ne hM58 ne53 o52
 have o61 := set_ne hM58 ne55 o54
 have o62 : M57[M39.length]? = some (.live ⟨.box, 50, 3, [[.int .i64 r34, .lsl M2.length r35.length 0 r35.length, .lsl (M2.length + 1) r36.length 0 r36.length]]⟩) := set_same hM58 o56
 refine Rn (hA h21 (hA h22 (hV (.loc M39.length 1 0 0) rfl hZ))) fun e63 h65 h66 h67 => sN (sq (Rg (kx (mvO h65) (kx (ncP rfl) (kx (faP rfl ⟨ble rfl, blt rfl⟩ rfl) (kx (ldP rfl rfl) (kx (faO h67 o62 rfl) (kw (stO rfl rfl o62 rfl rfl ⟨rfl, ble rfl⟩ rfl rfl) fun M68 hM69 => ?_))))))))
 clear h20 h21 h22 h23 h24
 have o70 := set_ne hM69 ne51 o59
 have o71 := set_ne hM69 ne53 o60
 have o72 := set_ne hM69 ne55 o61
 have o73 : M68[M39.length]? = some (.live ⟨.box, 50, 3, [[.int .i64 a2.Day, .lsl M2.length r35.length 0 r35.length, .lsl (M2.length + 1) r36.length 0 r36.length]]⟩) := set_same hM69 o62
 refine Rn (hA h65 (hA h66 (hA h67 hZ))) fun e74 h76 h77 h78 => sN (sq (sq (Rg (kx (mvO h76) (kx (ncP rfl) (kx (faP rfl ⟨ble rfl, blt rfl⟩ rfl) (kx (ldP rfl rfl) (kx (bEql rfl rfl) (Rn (hA h76 (hA h77 (hA h78 (hN rfl hZ)))) fun e79 h81 h82 h83 h84 => sN ?_)))))))))
 clear h65 h66 h67 h76 h77 h78
 rcases ite_some h with ⟨hb85, h⟩ | ⟨hb85, h⟩
 ·obtain ⟨x86, hx87, h⟩ := bind_some h
  refine cT h84 hb85 (sq (Rd (kf (faO h83 o73 rfl) (kf (ldO rfl o73 rfl rfl rfl) (kf (mvO h81) (kf (ncP rfl) (kf (faP rfl ⟨ble rfl, blt rfl⟩ rfl) (kf (ldP rfl rfl) (kf (mvO h81) (kf (ncP rfl) (kf (faP rfl ⟨ble rfl, blt rfl⟩ rfl) (kf (ldP rfl rfl) (kf (mvO h81) (kf (ncP rfl) (kf (faP rfl ⟨ble rfl, blt rfl⟩ rfl) (kf (ldP rfl rfl) (kf (mvO h81) (kf (ncP rfl) (kf (faP rfl ⟨ble rfl, blt rfl⟩ rfl) (kf (ldP rfl rfl) (kf (mvO h81) (kf (ncP rfl) (kf (faP rfl ⟨ble rfl, blt rfl⟩ rfl) (kf (ldP rfl rfl) (kf (bldT zero110 (cns (pr3 rfl) (cns (pr3 rfl) (cns (pr3 rfl) (cns (pr3 rfl) (cns (pr3 rfl) rfl))))) (fill1 ⟨rfl, ble rfl⟩ rfl rfl (fill1 ⟨rfl, ble rfl⟩ rfl rfl (fill1 ⟨rfl, ble rfl⟩ rfl rfl (fill1 ⟨rfl, ble rfl⟩ rfl rfl (fill1 ⟨rfl, ble rfl⟩ rfl rfl (fill0 rfl))))))) (kf (litI (cns rfl rfl) rfl ⟨rfl, by decide⟩) (fZ (kw (apO rfl o72 rfl (elT (c := Tally.c) (xs := [(Tally.mk a2.From a2.To a2.Day a2.Amount a2.Amount)]) rfl) hx87 Tally.fl (by decide)) fun M88 hM89 => ?_))))))))))))))))))))))))))))
  have o90 := set_ne hM89 ne44 o70
  have o91 := set_ne hM89 ne45 o71
  have o92 : M88[(M2.length + 1)]? = some (.live ⟨.grow, 110, 5, x86.map Tally.c⟩) := set_same hM89 o72
  have o93 := set_ne hM89 (Ne.symm ne55) o73
  refine kx (faO h83 o93 rfl) (kw (stO rfl rfl o93 rfl rfl ⟨rfl, ble rfl⟩ (all1 (okL o92 (by simp)) all0) rfl) fun M94 hM95 => ?_)
  have o96 := set_ne hM95 ne51 o90
  have o97 := set_ne hM95 ne53 o91
  have o98 := set_ne hM95 ne55 o92
  have o99 : M94[M39.length]? = some (.live ⟨.box, 50, 3, [[.int .i64 a2.Day, .lsl M2.length r35.length 0 r35.length, .lsl (M2.length + 1) x86.length 0 x86.length]]⟩) := set_same hM95 o93
  refine Rn (hA h82 (hA h83 hZ)) fun e100 h102 h103 => sN (sq (Rg (kx (ldOA h103 o99 rfl rfl (ble rfl) rfl) (kw (stO h102 rfl o96 rfl rfl ⟨rfl, ble rfl⟩ (all1 rfl (all1 (okL o97 (by simp)) (all1 (okL o98 (by simp)) all0))) rfl) fun M104 hM105 => ?_))))
  clear h81 h82 h83 h84
  have o106 : M104[([] : Mem).length]? = some (.live ⟨.box, 50, 3, [[.int .i64 a2.Day, .lsl M2.length r35.length 0 r35.length, .lsl (M2.length + 1) x86.length 0 x86.length]]⟩) := set_same hM105 o96
  have o107 := set_ne hM105 (Ne.symm ne42) o97
  have o108 := set_ne hM105 (Ne.symm ne44) o98
  have o109 := set_ne hM105 (Ne.symm ne51) o99
  refine kx (mvO rfl) (Rn (hA h102 (hV (.int .i64 0) rfl hZ)) fun e110 h112 h113 => sN (xx (sR ?_)))
  clear h102 h103
  obtain rfl := si h
  exact eR (resC (ag := true) (sz := 3) ⟨by kernel_rfl, by kernel_rfl, by kernel_rfl⟩ (ldOA h112 o106 rfl rfl (ble rfl) rfl) (resT h113 res0)) (rr_tup (mp1 (rr_agg (mp1 rfl (mp1 (rr_row o107 rfl (cI_fl _)) (mp1 (rr_row o108 rfl Tally.fl) mp0)))) (mp1 rfl mp0)))
 obtain ⟨x114, hx115, h⟩ := bind_some h
 refine cF h84 hb85 (xx (sN (sq (Rd (kf (faO h83 o73 rfl) (kf (ldO rfl o73 rfl rfl rfl) (kf (mvO h81) (kf (ncP rfl) (kf (faP rfl ⟨ble rfl, blt rfl⟩ rfl) (kf (ldP rfl rfl) (kf (ixO rfl o72 rfl rfl (rd_get hx115).1 (rd_lt hx115).2) (kf (mvO rfl) (fZ (Rn (hA h81 (hA h82 (hA h83 (hV (.loc (M2.length + 1) r36.length (0 + a2.Tally.toNat) 0) rfl hZ)))) fun e116 h118 h119 h120 h121 => sN (sq (sq (Rg (kx (mvO h118) (kx (ncP rfl) (kx (faP rfl ⟨ble rfl, blt rfl⟩ rfl) (kx (ldP rfl rfl) (Rn (hA h118 (hA h119 (hA h120 (hA h121 (hN rfl hZ))))) fun e122 h124 h125 h126 h127 h128 => sN (bl (sq (Rg (kx (bEql h128 rfl) (kx (mvO rfl) (Rn (hA h124 (hA h125 (hA h126 (hA h127 (hA h128 (hN rfl hZ)))))) fun e129 h131 h132 h133 h134 h135 h136 => sN ?_))))))))))))))))))))))))))))
 clear h81 h82 h83 h84 h118 h119 h120 h121 h124 h125 h126 h127 h128
 rcases ite_some h with ⟨hb137, h⟩ | ⟨hb137, h⟩
 ·refine cT h136 hb137 (sq (Rg (kx (mvO h134) (kx (mvO h131) (kx (ncP rfl) (kx (faP rfl ⟨ble rfl, blt rfl⟩ rfl) (kx (ldP rfl rfl) (kx (ncO rfl o72 (by simp)) (kx (faO rfl o72 (by simp)) (kw (stR (u := x114) (u' := (Tally.mk x114.Debtor a2.To x114.Cut x114.Amount x114.Left)) rfl rfl o72 rfl (rz2 hx115) ⟨rfl, ble rfl⟩ rfl rfl) fun M138 hM139 => ?_))))))))))
  rw [Nat.zero_add] at hM139
  have o140 := set_ne hM139 ne44 o70
  have o141 := set_ne hM139 ne45 o71
  have o142 : M138[(M2.length + 1)]? = some (.live ⟨.grow, 110, 5, (r36.set a2.Tally.toNat (Tally.mk x114.Debtor a2.To x114.Cut x114.Amount x114.Left)).map Tally.c⟩) := set_same hM139 o72
  have o143 := set_ne hM139 (Ne.symm ne55) o73
  have hx144 := rd_set (u' := (Tally.mk x114.Debtor a2.To x114.Cut x114.Amount x114.Left)) hx115
  refine Rn (hA h132 (hA h133 (hA h134 hZ))) fun e145 h147 h148 h149 => sN (sq (Rd (kf (mvO h149) (kf (ncO rfl o142 (by simp)) (kf (faO rfl o142 (by simp)) (kf (ldO rfl o142 (by simp) (rz hx144) rfl) (kf (mvO h149) (kf (ncO rfl o142 (by simp)) (kf (faO rfl o142 (by simp)) (kf (ldO rfl o142 (by simp) (rz hx144) rfl) (kf (bEql rfl rfl) (fZ (Rn (hA h147 (hA h148 (hA h149 (hN rfl hZ)))) fun e150 h152 h153 h154 h155 => sN ?_)))))))))))))
  clear h131 h132 h133 h134 h135 h136 h147 h148 h149
  rcases ite_some h with ⟨hb156, h⟩ | ⟨hb156, h⟩
  ·refine cT h155 hb156 (Rg (kx (mvO h154) (kx (ncO rfl o142 (by simp)) (kx (faO rfl o142 (by simp)) (kw (stR (u := (Tally.mk x114.Debtor a2.To x114.Cut x114.Amount x114.Left)) (u' := (Tally.mk ((Tally.mk x114.Debtor a2.To x114.Cut x114.Amount x114.Left)).Debtor ((Tally.mk x114.Debtor a2.To x114.Cut x114.Amount x114.Left)).Holder ((Tally.mk x114.Debtor a2.To x114.Cut x114.Amount x114.Left)).Cut ((Tally.mk x114.Debtor a2.To x114.Cut x114.Amount x114.Left)).Amount 0)) rfl rfl o142 (by simp) (rz2 hx144) ⟨rfl, ble rfl⟩ rfl rfl) fun M157 hM158 => ?_)))))
   rw [Nat.zero_add] at hM158
   have o159 := set_ne hM158 ne44 o140
   have o160 := set_ne hM158 ne45 o141
   have o161 : M157[(M2.length + 1)]? = some (.live ⟨.grow, 110, 5, ((r36.set a2.Tally.toNat (Tally.mk x114.Debtor a2.To x114.Cut x114.Amount x114.Left)).set a2.Tally.toNat (Tally.mk ((Tally.mk x114.Debtor a2.To x114.Cut x114.Amount x114.Left)).Debtor ((Tally.mk x114.Debtor a2.To x114.Cut x114.Amount x114.Left)).Holder ((Tally.mk x114.Debtor a2.To x114.Cut x114.Amount x114.Left)).Cut ((Tally.mk x114.Debtor a2.To x114.Cut x114.Amount x114.Left)).Amount 0)).map Tally.c⟩) := set_same hM158 o142
   have o162 := set_ne hM158 (Ne.symm ne55) o143
   have hx163 := rd_set (u' := (Tally.mk ((Tally.mk x114.Debtor a2.To x114.Cut x114.Amount x114.Left)).Debtor ((Tally.mk x114.Debtor a2.To x114.Cut x114.Amount x114.Left)).Holder ((Tally.mk x114.Debtor a2.To x114.Cut x114.Amount x114.Left)).Cut ((Tally.mk x114.Debtor a2.To x114.Cut x114.Amount x114.Left)).Amount 0)) hx144
   refine Rn (hA h152 (hA h153 hZ)) fun e164 h166 h167 => bN (sN (sq (Rg (kx (ldOA h167 o162 rfl rfl (ble rfl) rfl) (kw (stO h166 rfl o159 rfl rfl ⟨rfl, ble rfl⟩ (all1 rfl (all1 (okL o160 (by simp)) (all1 (okL o161 (by simp)) all0))) rfl) fun M168 hM169 => ?_)))))
   clear h152 h153 h154 h155
   have o170 : M168[([] : Mem).length]? = some (.live ⟨.box, 50, 3, [[.int .i64 a2.Day, .lsl M2.length r35.length 0 r35.length, .lsl (M2.length + 1) r36.length 0 r36.length]]⟩) := set_same hM169 o159
   have o171 := set_ne hM169 (Ne.symm ne42) o160
   have o172 := set_ne hM169 (Ne.symm ne44) o161
   have o173 := set_ne hM169 (Ne.symm ne51) o162
   refine kx (mvO rfl) (Rn (hA h166 (hV (.int .i64 0) rfl hZ)) fun e174 h176 h177 => sN (xx ?_))
   clear h166 h167
   obtain rfl := si h
   exact eR (resC (ag := true) (sz := 3) ⟨by kernel_rfl, by kernel_rfl, by kernel_rfl⟩ (ldOA h176 o170 rfl rfl (ble rfl) rfl) (resT h177 res0)) (rr_tup (mp1 (rr_agg (mp1 rfl (mp1 (rr_row o171 rfl (cI_fl _)) (mp1 (rr_row o172 (by simp) Tally.fl) mp0)))) (mp1 rfl mp0)))
  refine cF h155 hb156 (xx (bN (sN (sq (Rg (kx (ldOA h153 o143 rfl rfl (ble rfl) rfl) (kw (stO h152 rfl o140 rfl rfl ⟨rfl, ble rfl⟩ (all1 rfl (all1 (okL o141 (by simp)) (all1 (okL o142 (by simp)) all0))) rfl) fun M178 hM179 => ?_)))))))
  have o180 : M178[([] : Mem).length]? = some (.live ⟨.box, 50, 3, [[.int .i64 a2.Day, .lsl M2.length r35.length 0 r35.length, .lsl (M2.length + 1) r36.length 0 r36.length]]⟩) := set_same hM179 o140
  have o181 := set_ne hM179 (Ne.symm ne42) o141
  have o182 := set_ne hM179 (Ne.symm ne44) o142
  have o183 := set_ne hM179 (Ne.symm ne51) o143
  refine kx (mvO rfl) (Rn (hA h152 (hV (.int .i64 0) rfl hZ)) fun e184 h186 h187 => sN (xx ?_))
  clear h152 h153 h154 h155
  obtain rfl := si h
  exact eR (resC (ag := true) (sz := 3) ⟨by kernel_rfl, by kernel_rfl, by kernel_rfl⟩ (ldOA h186 o180 rfl rfl (ble rfl) rfl) (resT h187 res0)) (rr_tup (mp1 (rr_agg (mp1 rfl (mp1 (rr_row o181 rfl (cI_fl _)) (mp1 (rr_row o182 (by simp) Tally.fl) mp0)))) (mp1 rfl mp0)))
 refine cF h136 hb137 (sq (Rg (kx (bEql h135 rfl) (kx (mvO rfl) (Rn (hA h131 (hA h132 (hA h133 (hA h134 (hA h135 (hN rfl hZ)))))) fun e188 h190 h191 h192 h193 h194 h195 => sN ?_)))))
 clear h131 h132 h133 h134 h135 h136
 rcases ite_some h with ⟨hb196, h⟩ | ⟨hb196, h⟩
 ·obtain ⟨x197, hx198, h⟩ := bind_some h
  obtain ⟨x199, hx200, h⟩ := bind_some h
  refine cT h195 hb196 (sq (Rd (kf (faO h192 o73 rfl) (kf (ldO rfl o73 rfl rfl rfl) (kf (mvO h193) (kf (ncO rfl o72 (by simp)) (kf (faO rfl o72 (by simp)) (kf (ldO rfl o72 (by simp) (rz hx115) rfl) (kf (ixO rfl o71 rfl rfl (rd_get hx198).1 (rd_lt hx198).2) (kf (ldO rfl o71 (by simp) (rz hx198) rfl) (kf (mvO h190) (kf (ncP rfl) (kf (faP rfl ⟨ble rfl, blt rfl⟩ rfl) (kf (ldP rfl rfl) (kf (bSub rfl rfl) (kf (ixO rfl o71 rfl rfl (rd_get hx200).1 (rd_lt hx200).2) (fZ (kw (stR (u := x199) (u' := (IntKind.i64.wrap (x197 - a2.Amount))) rfl rfl o71 rfl (rz2 hx200) ⟨rfl, ble rfl⟩ rfl rfl) fun M201 hM202 => ?_))))))))))))))))))
  rw [Nat.zero_add] at hM202
  have o203 := set_ne hM202 ne42 o70
  have o204 : M201[M2.length]? = some (.live ⟨.grow, 2, 1, (r35.set x114.Debtor.toNat (IntKind.i64.wrap (x197 - a2.Amount))).map (cI .i64)⟩) := set_same hM202 o71
  have o205 := set_ne hM202 (Ne.symm ne45) o72
  have o206 := set_ne hM202 (Ne.symm ne53) o73
  have hx207 := rd_set (u' := (IntKind.i64.wrap (x197 - a2.Amount))) hx200
  obtain ⟨x214, hx215, h⟩ := bind_some h
  obtain ⟨x216, hx217, h⟩ := bind_some h
  refine Rn (hA h190 (hA h191 (hA h192 (hA h193 hZ)))) fun e208 h210 h211 h212 h213 => sN (sq (Rd (kf (faO h212 o206 rfl) (kf (ldO rfl o206 rfl rfl rfl) (kf (mvO h213) (kf (ncO rfl o205 (by simp)) (kf (faO rfl o205 (by simp)) (kf (ldO rfl o205 (by simp) (rz hx115) rfl) (kf (ixO (lslL (L' := (r35.set x114.Debtor.toNat (IntKind.i64.wrap (x197 - a2.Amount))).length) rfl (by simp)) o204 rfl rfl (rd_get hx215).1 (rd_lt hx215).2) (kf (ldO rfl o204 (by simp) (rz hx215) rfl) (kf (mvO h210) (kf (ncP rfl) (kf (faP rfl ⟨ble rfl, blt rfl⟩ rfl) (kf (ldP rfl rfl) (kf (bAdd rfl rfl) (kf (ixO (lslL (L' := (r35.set x114.Debtor.toNat (IntKind.i64.wrap (x197 - a2.Amount))).length) rfl (by simp)) o204 rfl rfl (rd_get hx217).1 (rd_lt hx217).2) (fZ (kw (stR (u := x216) (u' := (IntKind.i64.wrap (x214 + a2.Amount))) rfl rfl o204 rfl (rz2 hx217) ⟨rfl, ble rfl⟩ rfl rfl) fun M218 hM219 => ?_))))))))))))))))))
  clear h190 h191 h192 h193 h194 h195
  rw [Nat.zero_add] at hM219
  have o220 := set_ne hM219 ne42 o203
  have o221 : M218[M2.length]? = some (.live ⟨.grow, 2, 1, ((r35.set x114.Debtor.toNat (IntKind.i64.wrap (x197 - a2.Amount))).set x114.Holder.toNat (IntKind.i64.wrap (x214 + a2.Amount))).map (cI .i64)⟩) := set_same hM219 o204
  have o222 := set_ne hM219 (Ne.symm ne45) o205
  have o223 := set_ne hM219 (Ne.symm ne53) o206
  have hx224 := rd_set (u' := (IntKind.i64.wrap (x214 + a2.Amount))) hx217
  refine Rn (hA h210 (hA h211 (hA h212 (hA h213 hZ)))) fun e225 h227 h228 h229 h230 => sN (Rd (kf (mvO h230) (kf (ncO rfl o222 (by simp)) (kf (faO rfl o222 (by simp)) (kf (ldO rfl o222 (by simp) (rz hx115) rfl) (kf (mvO h227) (kf (ncP rfl) (kf (faP rfl ⟨ble rfl, blt rfl⟩ rfl) (kf (ldP rfl rfl) (kf (bSub rfl rfl) (kf (ncO rfl o222 (by simp)) (kf (faO rfl o222 (by simp)) (fZ (kw (stR (u := x114) (u' := (Tally.mk x114.Debtor x114.Holder x114.Cut x114.Amount (IntKind.i64.wrap (x114.Left - a2.Amount)))) rfl rfl o222 rfl (rz2 hx115) ⟨rfl, ble rfl⟩ rfl rfl) fun M231 hM232 => ?_))))))))))))))
  clear h210 h211 h212 h213
  rw [Nat.zero_add] at hM232
  have o233 := set_ne hM232 ne44 o220
  have o234 := set_ne hM232 ne45 o221
  have o235 : M231[(M2.length + 1)]? = some (.live ⟨.grow, 110, 5, (r36.set a2.Tally.toNat (Tally.mk x114.Debtor x114.Holder x114.Cut x114.Amount (IntKind.i64.wrap (x114.Left - a2.Amount)))).map Tally.c⟩) := set_same hM232 o222
  have o236 := set_ne hM232 (Ne.symm ne55) o223
  have hx237 := rd_set (u' := (Tally.mk x114.Debtor x114.Holder x114.Cut x114.Amount (IntKind.i64.wrap (x114.Left - a2.Amount)))) hx115
  refine Rn (hA h228 (hA h229 hZ)) fun e238 h240 h241 => bN (sN (sq (Rg (kx (ldOA h241 o236 rfl rfl (ble rfl) rfl) (kw (stO h240 rfl o233 rfl rfl ⟨rfl, ble rfl⟩ (all1 rfl (all1 (okL o234 (by simp)) (all1 (okL o235 (by simp)) all0))) rfl) fun M242 hM243 => ?_)))))
  clear h227 h228 h229 h230
  have o244 : M242[([] : Mem).length]? = some (.live ⟨.box, 50, 3, [[.int .i64 a2.Day, .lsl M2.length r35.length 0 r35.length, .lsl (M2.length + 1) r36.length 0 r36.length]]⟩) := set_same hM243 o233
  have o245 := set_ne hM243 (Ne.symm ne42) o234
  have o246 := set_ne hM243 (Ne.symm ne44) o235
  have o247 := set_ne hM243 (Ne.symm ne51) o236
  refine kx (mvO rfl) (Rn (hA h240 (hV (.int .i64 0) rfl hZ)) fun e248 h250 h251 => sN (xx ?_))
  clear h240 h241
  obtain rfl := si h
  exact eR (resC (ag := true) (sz := 3) ⟨by kernel_rfl, by kernel_rfl, by kernel_rfl⟩ (ldOA h250 o244 rfl rfl (ble rfl) rfl) (resT h251 res0)) (rr_tup (mp1 (rr_agg (mp1 rfl (mp1 (rr_row o245 (by simp) (cI_fl _)) (mp1 (rr_row o246 (by simp) Tally.fl) mp0)))) (mp1 rfl mp0)))
 refine cF h195 hb196 (sq (Rg (kx (bEql h194 rfl) (kx (mvO rfl) (Rn (hA h191 (hA h192 (hA h193 (hN rfl hZ)))) fun e252 h254 h255 h256 h257 => sN ?_)))))
 clear h190 h191 h192 h193 h194 h195
 rcases ite_some h with ⟨hb258, h⟩ | ⟨hb258, h⟩
 ·refine cT h257 hb258 (Rg (kx (mvO h256) (kx (ncO rfl o72 (by simp)) (kx (faO rfl o72 (by simp)) (kw (stR (u := x114) (u' := (Tally.mk x114.Debtor x114.Holder x114.Cut x114.Amount 0)) rfl rfl o72 rfl (rz2 hx115) ⟨rfl, ble rfl⟩ rfl rfl) fun M259 hM260 => ?_)))))
  rw [Nat.zero_add] at hM260
  have o261 := set_ne hM260 ne44 o70
  have o262 := set_ne hM260 ne45 o71
  have o263 : M259[(M2.length + 1)]? = some (.live ⟨.grow, 110, 5, (r36.set a2.Tally.toNat (Tally.mk x114.Debtor x114.Holder x114.Cut x114.Amount 0)).map Tally.c⟩) := set_same hM260 o72
  have o264 := set_ne hM260 (Ne.symm ne55) o73
  have hx265 := rd_set (u' := (Tally.mk x114.Debtor x114.Holder x114.Cut x114.Amount 0)) hx115
  refine Rn (hA h254 (hA h255 hZ)) fun e266 h268 h269 => bN (sN (sq (Rg (kx (ldOA h269 o264 rfl rfl (ble rfl) rfl) (kw (stO h268 rfl o261 rfl rfl ⟨rfl, ble rfl⟩ (all1 rfl (all1 (okL o262 (by simp)) (all1 (okL o263 (by simp)) all0))) rfl) fun M270 hM271 => ?_)))))
  clear h254 h255 h256 h257
  have o272 : M270[([] : Mem).length]? = some (.live ⟨.box, 50, 3, [[.int .i64 a2.Day, .lsl M2.length r35.length 0 r35.length, .lsl (M2.length + 1) r36.length 0 r36.length]]⟩) := set_same hM271 o261
  have o273 := set_ne hM271 (Ne.symm ne42) o262
  have o274 := set_ne hM271 (Ne.symm ne44) o263
  have o275 := set_ne hM271 (Ne.symm ne51) o264
  refine kx (mvO rfl) (Rn (hA h268 (hV (.int .i64 0) rfl hZ)) fun e276 h278 h279 => sN (xx ?_))
  clear h268 h269
  obtain rfl := si h
  exact eR (resC (ag := true) (sz := 3) ⟨by kernel_rfl, by kernel_rfl, by kernel_rfl⟩ (ldOA h278 o272 rfl rfl (ble rfl) rfl) (resT h279 res0)) (rr_tup (mp1 (rr_agg (mp1 rfl (mp1 (rr_row o273 rfl (cI_fl _)) (mp1 (rr_row o274 (by simp) Tally.fl) mp0)))) (mp1 rfl mp0)))
 refine cF h257 hb258 (xx (bN (sN (sq (Rg (kx (ldOA h255 o73 rfl rfl (ble rfl) rfl) (kw (stO h254 rfl o70 rfl rfl ⟨rfl, ble rfl⟩ (all1 rfl (all1 (okL o71 (by simp)) (all1 (okL o72 (by simp)) all0))) rfl) fun M280 hM281 => ?_)))))))
 have o282 : M280[([] : Mem).length]? = some (.live ⟨.box, 50, 3, [[.int .i64 a2.Day, .lsl M2.length r35.length 0 r35.length, .lsl (M2.length + 1) r36.length 0 r36.length]]⟩) := set_same hM281 o70
 have o283 := set_ne hM281 (Ne.symm ne42) o71
 have o284 := set_ne hM281 (Ne.symm ne44) o72
 have o285 := set_ne hM281 (Ne.symm ne51) o73
 refine kx (mvO rfl) (Rn (hA h254 (hV (.int .i64 0) rfl hZ)) fun e286 h288 h289 => sN (xx ?_))
 clear h254 h255 h256 h257
 obtain rfl := si h
 exact eR (resC (ag := true) (sz := 3) ⟨by kernel_rfl, by kernel_rfl, by kernel_rfl⟩ (ldOA h288 o282 rfl rfl (ble rfl) rfl) (resT h289 res0)) (rr_tup (mp1 (rr_agg (mp1 rfl (mp1 (rr_row o283 rfl (cI_fl _)) (mp1 (rr_row o284 rfl Tally.fl) mp0)))) (mp1 rfl mp0)))
/-! ### loop.example/g01263/spec.l07Deals (f118) -/
abbrev spec_l07Deals_b1_S := Int
abbrev spec_l07Deals_b1_R := Unit ⊕ Unit
def spec_l07Deals_b1_RS (a1 : List Deal) (s : spec_l07Deals_b1_S) (e : Env) (M : Mem) : Prop := eget e 0 = .sl none (a1.map Deal.c) ∧ eget e 3 = .int .i64 s
def spec_l07Deals_b1_RR (a1 : List Deal) (r : spec_l07Deals_b1_R) (x : Ex) (e : Env) (M : Mem) : Prop :=
  match r with
  | (.inl g) => x = .ret ∧ eget e 2 = .bool false
  | (.inr g) => x = .ext 0 ∧ True
noncomputable def spec_l07Deals_b1 (a1 : List Deal) : spec_l07Deals_b1_S → Option (spec_l07Deals_b1_S ⊕ spec_l07Deals_b1_R) := fun s1_1 =>
 if (decide (s1_1 < (a1.length : Int))) = true then
  (rd a1 s1_1).bind fun x26 =>
  (spec_l07Deal x26).bind fun r29 =>
  if r29 = true then
   some (.inl (IntKind.i64.wrap (s1_1 + 1)))
  else
   some (.inr (.inl ()))
 else
  some (.inr (.inr ()))
theorem spec_l07Deals_b1_ok (a1 : List Deal) (s : spec_l07Deals_b1_S) (r : spec_l07Deals_b1_S ⊕ spec_l07Deals_b1_R) (h : spec_l07Deals_b1 a1 s = some r) (e : Env) (M : Mem) (hs : spec_l07Deals_b1_RS a1 s e M) : Ev (fun k => (f118_l2 (CN k) k (prune [0, 3] e) M).bind fun q => some q) (bQ (spec_l07Deals_b1_RS a1) (spec_l07Deals_b1_RR a1) r) := by
 revert h hs
 revert s
 intro s1_1 h hs
 unfold spec_l07Deals_b1 at h
 obtain ⟨h16, h18⟩ := hs
 generalize he15 : prune [0, 3] e = e14
 have h17 := envp he15.symm rfl h16
 have h19 := envp he15.symm rfl h18
 refine sq (sq (Rg (kx (mvO h19) (kx (mvO h17) (kx (lnS Try.underlying52 rfl) (kx (bLss rfl rfl) (Rn (hV (.sl none (a1.map Deal.c)) h17 (hV (.int .i64 s1_1) h19 (hN rfl hZ))) fun e20 h22 h23 h24 => sN ?_)))))))
 clear h17 h19
 rcases ite_some h with ⟨hb25, h⟩ | ⟨hb25, h⟩
 ·obtain ⟨x26, hx27, h⟩ := bind_some h
  obtain ⟨r29, hx28, h⟩ := bind_some h
  refine cT h24 hb25 (xx (sN (sq (bl (sq (Rg (kx (mvO h22) (kx (mvO h23) (kx (ixS rfl rfl hx27 Deal.fl) (kc (cl (v := .bool r29) rfl (cns rfl rfl) rfl (spec_l07Deal_ok x26 _ hx28) nm) (kx (uNot rfl) (Rn (hA h22 (hA h23 (hN rfl hZ))) fun e30 h32 h33 h34 => sN ?_))))))))))))
  clear h22 h23 h24
  rcases ite_some h with ⟨hb35, h⟩ | ⟨hb35, h⟩
  ·refine cF h34 (congrArg Bool.not hb35) (xx (bN (sN (Rg (kx (mvO h33) (kx (bAdd rfl rfl) (kx (mvO rfl) (Rn (hA h32 (hN rfl hZ)) fun e36 h38 h39 => ?_))))))))
   clear h32 h34
   obtain rfl := si h
   exact qN ⟨h38, h39⟩
  refine cT h34 (congrArg Bool.not hb35) (sq (Rg (kx (mvO rfl) (Rn (hV (.bool false) rfl hZ) fun e40 h42 => sN (xx (bR (sR ?_)))))))
  clear h32 h33 h34
  obtain rfl := si h
  exact qR ⟨rfl, h42⟩
 refine cF h24 hb25 (xx (sE ?_))
 obtain rfl := si h
 exact qE ⟨rfl, trivial⟩
noncomputable def spec_l07Deals (a1 : List Deal) : Option Bool :=
 (Lw (spec_l07Deals_b1 a1) 0).bind fun r => match r with
 | (.inl _) =>
  some false
 | (.inr _) =>
  some true
def spec_l07Deals_enc (r : Bool) : AV := .bool r
theorem spec_l07Deals_ok (a1 : List Deal) (r : Bool) (h : spec_l07Deals a1 = some r) : Ev (fun k => CN k 118 [.sl none (a1.map Deal.c)] []) (fun p => rRes p.2 p.1 = spec_l07Deals_enc r) := by
 unfold spec_l07Deals at h
 obtain ⟨r43, hr44, h⟩ := bind_some h
 refine Ev.enter (F := fun k => f118 (CN k) k) (fun k => callN_eq rfl Try.func118 rfl rfl rfl (by decide +kernel) (f118_eq _ _)) (sq (Rg (kx (mvO rfl) (Rn (hN rfl hZ) fun e1 h3 => sN (sq (sq (Rg (kx (mvO rfl) (Rn (hA h3 (hV (.int .i64 0) rfl hZ)) fun e4 h6 h7 => sN (bl ?_))))))))))
 clear h3
 rcases r43 with _ | _
 ·refine Ev.loop (RS := spec_l07Deals_b1_RS a1) (RR := spec_l07Deals_b1_RR a1) (fun s r h e M hs => spec_l07Deals_b1_ok a1 s r h e M hs) hr44 ⟨h6, h7⟩ fun x e46 M47 hq45 => ?_
  obtain ⟨rfl, h48⟩ := hq45
  refine bR (sR ?_)
  obtain rfl := si h
  exact eR (resT h48 res0) rfl
 refine Ev.loop (RS := spec_l07Deals_b1_RS a1) (RR := spec_l07Deals_b1_RR a1) (fun s r h e M hs => spec_l07Deals_b1_ok a1 s r h e M hs) hr44 ⟨h6, h7⟩ fun x e49 M50 hq45 => ?_
 obtain ⟨rfl, _⟩ := hq45
 refine bE (sN (sq (Rg (kx (mvO rfl) (Rn (hV (.bool true) rfl hZ) fun e51 h53 => sN (xx ?_))))))
 obtain rfl := si h
 exact eR (resT h53 res0) rfl
end Go.Proofs.Ytfoiojafilgolaa

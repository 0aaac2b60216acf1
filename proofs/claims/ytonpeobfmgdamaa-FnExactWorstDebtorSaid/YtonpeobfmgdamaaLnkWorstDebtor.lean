/- Printed by a program of ours (ext.py). -/
import Derived.Test.YtonpeobfmgdamaaFnsWorstDebtor
set_option linter.unusedVariables false
set_option linter.unusedSimpArgs false
set_option maxRecDepth 100000
set_option maxHeartbeats 2000000
namespace Go.Proofs.Ytonpeobfmgdamaa
open Go Go.Ab
structure Item where
  Kind : Int
  Amount : Int
  deriving DecidableEq
def Item.c (x : Item) : List AV := [.int .i8 x.Kind, .int .i64 x.Amount]
theorem Item.fl : Fl Item.c 2 := fun _ => ⟨rfl, rfl⟩
theorem Item.flF : FlF Item.c := fun _ => rfl
structure Account where
  Title : List UInt8
  Items : List Item
  Balance : Int
  deriving DecidableEq
def Account.c (x : Account) : List AV := [.str x.Title, .sl none (x.Items.map Item.c), .int .i64 x.Balance]
theorem Account.fl : Fl Account.c 3 := fun _ => ⟨rfl, rfl⟩
structure Roll where
  Accounts : List Account
  Owed : Int
  deriving DecidableEq
def Roll.c (x : Roll) : List AV := [.sl none (x.Accounts.map Account.c), .int .i64 x.Owed]
theorem Roll.fl : Fl Roll.c 2 := fun _ => ⟨rfl, rfl⟩
structure AccountN where
  Title : List UInt8
  Items : Option (List Item)
  Balance : Int
  deriving DecidableEq
def AccountN.c (x : AccountN) : List AV := [.str x.Title, (oslC Item.c x.Items), .int .i64 x.Balance]
theorem AccountN.fl : Fl AccountN.c 3 := fun x => ⟨rfl, by rcases x with ⟨q0, q1, q2⟩; cases q1 <;> rfl⟩
def AccountN.un (x : AccountN) : Option Account := x.Items.bind fun q1 => some (Account.mk x.Title q1 x.Balance)
theorem AccountN.unc (x : AccountN) (y : Account) (h : AccountN.un x = some y) : AccountN.c x = Account.c y := by
 rcases x with ⟨q0, q1, q2⟩
 cases q1 <;> simp [AccountN.un] at h
 subst h
 rfl
theorem zero140 : zeroOf cx.P 140 = [.int .i8 0, .int .i64 0] := by kernel_rfl
theorem zero30 : zeroOf cx.P 30 = [.nils, .int .i64 0] := by kernel_rfl
theorem zero75 : zeroOf cx.P 75 = [.str ([] : List UInt8), .nils, .int .i64 0] := by kernel_rfl
/-! ### loop.example/g01263/spec.l00In (f108) -/
noncomputable def spec_l00In (a1 : Int) (a2 : Int) (a3 : Int) : Option Bool :=
 if (decide (a1 ≥ a2)) = true then
  some (decide (a1 ≤ a3))
 else
  some false
def spec_l00In_enc (r : Bool) : AV := .bool r
theorem spec_l00In_ok (a1 : Int) (a2 : Int) (a3 : Int) (r : Bool) (h : spec_l00In a1 a2 a3 = some r) : Ev (fun k => CN k 108 [.int .i64 a1, .int .i64 a2, .int .i64 a3] []) (fun p => rRes p.2 p.1 = spec_l00In_enc r) := by
 unfold spec_l00In at h
 refine Ev.enter (F := fun k => f108 (CN k) k) (fun k => callN_eq rfl Try.func108 rfl rfl rfl (by decide +kernel) (f108_eq _ _)) (sq (Rg (kx (mvO rfl) (Rn (hN rfl (hN rfl (hN rfl hZ))) fun e1 h3 h4 h5 => sN (sq (Rg (kx (mvO h3) (kx (mvO h4) (kx (bGeq rfl rfl) (kx (mvO rfl) ?_))))))))))
 rcases ite_some h with ⟨hb6, h⟩ | ⟨hb6, h⟩
 ·refine kx (guT rfl hb6 (mvO h3)) (kx (guT rfl hb6 (mvO h5)) (kx (guT rfl hb6 (bLeq rfl rfl)) (kx (pkT rfl hb6 rfl) (kx (mvO rfl) (Rn (hN rfl hZ) fun e7 h9 => sN (xx ?_))))))
  clear h3 h4 h5
  obtain rfl := si h
  exact eR (resT h9 res0) rfl
 refine kx (gsT rfl hb6) (kx (gsT rfl hb6) (kx (gsT rfl hb6) (kx (pkF rfl hb6 rfl) (kx (mvO rfl) (Rn (hV (.bool false) rfl hZ) fun e10 h12 => sN (xx ?_))))))
 clear h3 h4 h5
 obtain rfl := si h
 exact eR (resT h12 res0) rfl
/-! ### loop.example/g01263/spec.l01Amount (f123) -/
noncomputable def spec_l01Amount (a1 : Int) : Option Bool :=
 (spec_l00In a1 0 100000000).bind fun r5 =>
 some r5
def spec_l01Amount_enc (r : Bool) : AV := .bool r
theorem spec_l01Amount_ok (a1 : Int) (r : Bool) (h : spec_l01Amount a1 = some r) : Ev (fun k => CN k 123 [.int .i64 a1] []) (fun p => rRes p.2 p.1 = spec_l01Amount_enc r) := by
 unfold spec_l01Amount at h
 obtain ⟨r5, hx4, h⟩ := bind_some h
 refine Ev.enter (F := fun k => f123 (CN k) k) (fun k => callN_eq rfl Try.func123 rfl rfl rfl (by decide +kernel) (f123_eq _ _)) (sq (Rg (kx (mvO rfl) (Rn (hN rfl hZ) fun e1 h3 => sN (sq (Rg (kx (mvO h3) (kc (cl (v := .bool r5) rfl (cns rfl (cns rfl (cns rfl rfl))) rfl (spec_l00In_ok a1 0 100000000 _ hx4) nm) (kx (mvO rfl) (Rn (hN rfl hZ) fun e6 h8 => sN (xx ?_)))))))))))
 clear h3
 obtain rfl := si h
 exact eR (resT h8 res0) rfl
/-! ### loop.example/g01263/laws.eqItem (f117) -/
noncomputable def laws_eqItem (a1 : Item) (a2 : Item) : Option Bool :=
 if (a1.Kind != a2.Kind) = true then
  some false
 else
  if (a1.Amount != a2.Amount) = true then
   some false
  else
   some true
def laws_eqItem_enc (r : Bool) : AV := .bool r
theorem laws_eqItem_ok (a1 : Item) (a2 : Item) (r : Bool) (h : laws_eqItem a1 a2 = some r) : Ev (fun k => CN k 117 [.agg [.int .i8 a1.Kind, .int .i64 a1.Amount], .agg [.int .i8 a2.Kind, .int .i64 a2.Amount]] []) (fun p => rRes p.2 p.1 = laws_eqItem_enc r) := by
 unfold laws_eqItem at h
 refine Ev.enter (F := fun k => f117 (CN k) k) (fun k => callN_eq rfl Try.func117 rfl rfl rfl (by decide +kernel) (f117_eq _ _)) (sq (Rg (kx (bxI rfl rfl ⟨rfl, rfl, by decide⟩) (kx (bxI rfl rfl ⟨rfl, rfl, by decide⟩) (kx (mvO rfl) (Rn (hN rfl (hN rfl hZ)) fun e1 h3 h4 => sN (sq (sq (Rg (kx (faP h3 ⟨ble rfl, blt rfl⟩ rfl) (kx (ldP rfl rfl) (kx (faP h4 ⟨ble rfl, blt rfl⟩ rfl) (kx (ldP rfl rfl) (kx (bNeq rfl rfl) (Rn (hA h3 (hA h4 (hN rfl hZ))) fun e5 h7 h8 h9 => sN ?_)))))))))))))))
 clear h3 h4
 rcases ite_some h with ⟨hb10, h⟩ | ⟨hb10, h⟩
 ·refine cT h9 hb10 (sq (Rg (kx (mvO rfl) (Rn (hV (.bool false) rfl hZ) fun e11 h13 => sN (xx (sR ?_))))))
  clear h7 h8 h9
  obtain rfl := si h
  exact eR (resT h13 res0) rfl
 refine cF h9 hb10 (xx (sN (sq (sq (Rg (kx (faP h7 ⟨ble rfl, blt rfl⟩ rfl) (kx (ldP rfl rfl) (kx (faP h8 ⟨ble rfl, blt rfl⟩ rfl) (kx (ldP rfl rfl) (kx (bNeq rfl rfl) (Rn (hN rfl hZ) fun e14 h16 => sN ?_)))))))))))
 clear h7 h8 h9
 rcases ite_some h with ⟨hb17, h⟩ | ⟨hb17, h⟩
 ·refine cT h16 hb17 (sq (Rg (kx (mvO rfl) (Rn (hV (.bool false) rfl hZ) fun e18 h20 => sN (xx (sR ?_))))))
  clear h16
  obtain rfl := si h
  exact eR (resT h20 res0) rfl
 refine cF h16 hb17 (xx (sN (sq (Rg (kx (mvO rfl) (Rn (hV (.bool true) rfl hZ) fun e21 h23 => sN (xx ?_)))))))
 clear h16
 obtain rfl := si h
 exact eR (resT h23 res0) rfl
/-! ### loop.example/g01263/impl.isAmount (f66) -/
noncomputable def impl_isAmount (a1 : Int) : Option Bool :=
 if (decide (a1 ≥ 0)) = true then
  some (decide (a1 ≤ 100000000))
 else
  some false
def impl_isAmount_enc (r : Bool) : AV := .bool r
theorem impl_isAmount_ok (a1 : Int) (r : Bool) (h : impl_isAmount a1 = some r) : Ev (fun k => CN k 66 [.int .i64 a1] []) (fun p => rRes p.2 p.1 = impl_isAmount_enc r) := by
 unfold impl_isAmount at h
 refine Ev.enter (F := fun k => f66 (CN k) k) (fun k => callN_eq rfl Try.func66 rfl rfl rfl (by decide +kernel) (f66_eq _ _)) (sq (Rg (kx (mvO rfl) (Rn (hN rfl hZ) fun e1 h3 => sN (sq (Rg (kx (mvO h3) (kx (bGeq rfl rfl) (kx (mvO rfl) ?_)))))))))
 rcases ite_some h with ⟨hb4, h⟩ | ⟨hb4, h⟩
 ·refine kx (guT rfl hb4 (mvO h3)) (kx (guT rfl hb4 (bLeq rfl rfl)) (kx (pkT rfl hb4 rfl) (kx (mvO rfl) (Rn (hN rfl hZ) fun e5 h7 => sN (xx ?_)))))
  clear h3
  obtain rfl := si h
  exact eR (resT h7 res0) rfl
 refine kx (gsT rfl hb4) (kx (gsT rfl hb4) (kx (pkF rfl hb4 rfl) (kx (mvO rfl) (Rn (hV (.bool false) rfl hZ) fun e8 h10 => sN (xx ?_)))))
 clear h3
 obtain rfl := si h
 exact eR (resT h10 res0) rfl
/-! ### loop.example/g01263/impl.validItem (f115) -/
noncomputable def impl_validItem (a1 : Item) : Option Bool :=
 if (decide (a1.Kind ≥ 0)) = true then
  if (decide (a1.Kind ≤ 3)) = true then
   (impl_isAmount a1.Amount).bind fun r7 =>
   some r7
  else
   some false
 else
  some false
def impl_validItem_enc (r : Bool) : AV := .bool r
theorem impl_validItem_ok (a1 : Item) (r : Bool) (h : impl_validItem a1 = some r) : Ev (fun k => CN k 115 [.agg [.int .i8 a1.Kind, .int .i64 a1.Amount]] []) (fun p => rRes p.2 p.1 = impl_validItem_enc r) := by
 unfold impl_validItem at h
 refine Ev.enter (F := fun k => f115 (CN k) k) (fun k => callN_eq rfl Try.func115 rfl rfl rfl (by decide +kernel) (f115_eq _ _)) (sq (Rg (kx (bxI rfl rfl ⟨rfl, rfl, by decide⟩) (kx (mvO rfl) (Rn (hN rfl hZ) fun e1 h3 => sN (sq (Rg (kx (faP h3 ⟨ble rfl, blt rfl⟩ rfl) (kx (ldP rfl rfl) (kx (bGeq rfl rfl) (kx (mvO rfl) ?_)))))))))))
 rcases ite_some h with ⟨hb4, h⟩ | ⟨hb4, h⟩
 ·refine kx (guT rfl hb4 (faP h3 ⟨ble rfl, blt rfl⟩ rfl)) (kx (guT rfl hb4 (ldP rfl rfl)) (kx (guT rfl hb4 (bLeq rfl rfl)) (kx (pkT rfl hb4 rfl) (kx (mvO rfl) ?_))))
  rcases ite_some h with ⟨hb5, h⟩ | ⟨hb5, h⟩
  ·obtain ⟨r7, hx6, h⟩ := bind_some h
   refine kx (guT rfl hb5 (faP h3 ⟨ble rfl, blt rfl⟩ rfl)) (kx (guT rfl hb5 (ldP rfl rfl)) (kc (Ev.guT rfl hb5 (cl (v := .bool r7) rfl (cns rfl rfl) rfl (impl_isAmount_ok a1.Amount _ hx6) nm)) (kx (pkT rfl hb5 rfl) (kx (mvO rfl) (Rn (hN rfl hZ) fun e8 h10 => sN (xx ?_))))))
   clear h3
   obtain rfl := si h
   exact eR (resT h10 res0) rfl
  refine kx (gsT rfl hb5) (kx (gsT rfl hb5) (kc (Ev.gsT rfl hb5) (kx (pkF rfl hb5 rfl) (kx (mvO rfl) (Rn (hV (.bool false) rfl hZ) fun e11 h13 => sN (xx ?_))))))
  clear h3
  obtain rfl := si h
  exact eR (resT h13 res0) rfl
 refine kx (gsT rfl hb4) (kx (gsT rfl hb4) (kx (gsT rfl hb4) (kx (pkF rfl hb4 rfl) (kx (mvO rfl) (kx (gsT rfl rfl) (kx (gsT rfl rfl) (kc (Ev.gsT rfl rfl) (kx (pkF rfl rfl rfl) (kx (mvO rfl) (Rn (hV (.bool false) rfl hZ) fun e14 h16 => sN (xx ?_)))))))))))
 clear h3
 obtain rfl := si h
 exact eR (resT h16 res0) rfl
/-! ### loop.example/g01263/laws.toItem (f114) -/
noncomputable def laws_toItem (a1 : Item) : Option (Int × Int) :=
 some (a1.Kind, a1.Amount)
def laws_toItem_enc (r : Int × Int) : AV := .agg [.int .i8 r.1, .int .i64 r.2]
theorem laws_toItem_ok (a1 : Item) (r : Int × Int) (h : laws_toItem a1 = some r) : Ev (fun k => CN k 114 [.agg [.int .i8 a1.Kind, .int .i64 a1.Amount]] []) (fun p => rRes p.2 p.1 = laws_toItem_enc r) := by
 unfold laws_toItem at h
 refine Ev.enter (F := fun k => f114 (CN k) k) (fun k => callN_eq rfl Try.func114 rfl rfl rfl (by decide +kernel) (f114_eq _ _)) (sq (Rg (kx (bxI rfl rfl ⟨rfl, rfl, by decide⟩) (ku (alO zero140) fun M2 hM3 => ?_))))
 have o4 : M2[([] : Mem).length]? = some (.live ⟨.box, 140, 2, [[.int .i8 0, .int .i64 0]]⟩) := push_new hM3
 refine Rn (hN rfl (hV (.loc ([] : Mem).length 1 0 0) rfl hZ)) fun e5 h7 h8 => sN (sq (Rg (ku (alO zero140) fun M10 hM11 => ?_)))
 have o12 := push_old hM11 o4
 have ne13 := ne_new o4
 have o14 : M10[M2.length]? = some (.live ⟨.box, 140, 2, [[.int .i8 0, .int .i64 0]]⟩) := push_new hM11
 refine Rn (hA h7 (hA h8 (hV (.loc M2.length 1 0 0) rfl hZ))) fun e15 h17 h18 h19 => sN (sq (Rg (kx (faP h17 ⟨ble rfl, blt rfl⟩ rfl) (kx (ldP rfl rfl) (kx (faO h19 o14 rfl) (kw (stO rfl rfl o14 rfl rfl ⟨rfl, ble rfl⟩ rfl rfl) fun M20 hM21 => ?_))))))
 clear h7 h8
 have o22 := set_ne hM21 ne13 o12
 have o23 : M20[M2.length]? = some (.live ⟨.box, 140, 2, [[.int .i8 a1.Kind, .int .i64 0]]⟩) := set_same hM21 o14
 refine Rn (hA h17 (hA h18 (hA h19 hZ))) fun e24 h26 h27 h28 => sN (sq (Rg (kx (faP h26 ⟨ble rfl, blt rfl⟩ rfl) (kx (ldP rfl rfl) (kx (faO h28 o23 rfl) (kw (stO rfl rfl o23 rfl rfl ⟨rfl, ble rfl⟩ rfl rfl) fun M29 hM30 => ?_))))))
 clear h17 h18 h19
 have o31 := set_ne hM30 ne13 o22
 have o32 : M29[M2.length]? = some (.live ⟨.box, 140, 2, [[.int .i8 a1.Kind, .int .i64 a1.Amount]]⟩) := set_same hM30 o23
 refine Rn (hA h27 (hA h28 hZ)) fun e33 h35 h36 => sN (sq (Rg (kx (ldOA h36 o32 rfl rfl (ble rfl) rfl) (kw (stO h35 rfl o31 rfl rfl ⟨rfl, ble rfl⟩ rfl rfl) fun M37 hM38 => ?_))))
 clear h26 h27 h28
 have o39 : M37[([] : Mem).length]? = some (.live ⟨.box, 140, 2, [[.int .i8 a1.Kind, .int .i64 a1.Amount]]⟩) := set_same hM38 o31
 have o40 := set_ne hM38 (Ne.symm ne13) o32
 refine Rn (hA h35 hZ) fun e41 h43 => sN (xx ?_)
 clear h35 h36
 obtain rfl := si h
 exact eR (resC (ag := true) (sz := 2) ⟨by kernel_rfl, by kernel_rfl, by kernel_rfl⟩ (ldOA h43 o39 rfl rfl (ble rfl) rfl) res0) rfl
/-! ### loop.example/g01263/spec.l05Item (f113) -/
noncomputable def spec_l05Item (a1 : Item) : Option Bool :=
 (spec_l00In (IntKind.i64.wrap a1.Kind) 0 3).bind fun r5 =>
 if r5 = true then
  (spec_l01Amount a1.Amount).bind fun r8 =>
  some r8
 else
  some false
def spec_l05Item_enc (r : Bool) : AV := .bool r
theorem spec_l05Item_ok (a1 : Item) (r : Bool) (h : spec_l05Item a1 = some r) : Ev (fun k => CN k 113 [.pt none [.int .i8 a1.Kind, .int .i64 a1.Amount]] []) (fun p => rRes p.2 p.1 = spec_l05Item_enc r) := by
 unfold spec_l05Item at h
 obtain ⟨r5, hx4, h⟩ := bind_some h
 refine Ev.enter (F := fun k => f113 (CN k) k) (fun k => callN_eq rfl Try.func113 rfl rfl rfl (by decide +kernel) (f113_eq _ _)) (sq (Rg (kx (mvO rfl) (Rn (hN rfl hZ) fun e1 h3 => sN (sq (Rg (kx (mvO h3) (kx (ncP rfl) (kx (faP rfl ⟨ble rfl, blt rfl⟩ rfl) (kx (ldP rfl rfl) (kx (cvI rfl) (kc (cl (v := .bool r5) rfl (cns rfl (cns rfl (cns rfl rfl))) rfl (spec_l00In_ok (IntKind.i64.wrap a1.Kind) 0 3 _ hx4) nm) (kx (mvO rfl) ?_)))))))))))))
 rcases ite_some h with ⟨hb6, h⟩ | ⟨hb6, h⟩
 ·obtain ⟨r8, hx7, h⟩ := bind_some h
  refine kx (guT rfl hb6 (mvO h3)) (kx (guT rfl hb6 (ncP rfl)) (kx (guT rfl hb6 (faP rfl ⟨ble rfl, blt rfl⟩ rfl)) (kx (guT rfl hb6 (ldP rfl rfl)) (kc (Ev.guT rfl hb6 (cl (v := .bool r8) rfl (cns rfl rfl) rfl (spec_l01Amount_ok a1.Amount _ hx7) nm)) (kx (pkT rfl hb6 rfl) (kx (mvO rfl) (Rn (hN rfl hZ) fun e9 h11 => sN (xx ?_))))))))
  clear h3
  obtain rfl := si h
  exact eR (resT h11 res0) rfl
 refine kx (gsT rfl hb6) (kx (gsT rfl hb6) (kx (gsT rfl hb6) (kx (gsT rfl hb6) (kc (Ev.gsT rfl hb6) (kx (pkF rfl hb6 rfl) (kx (mvO rfl) (Rn (hV (.bool false) rfl hZ) fun e12 h14 => sN (xx ?_))))))))
 clear h3
 obtain rfl := si h
 exact eR (resT h14 res0) rfl
/-! ### loop.example/g01263/laws.eqItemS (f97) -/
abbrev laws_eqItemS_b1_S := Int
abbrev laws_eqItemS_b1_R := Unit ⊕ Unit
def laws_eqItemS_b1_RS (a1 : List Item) (a2 : List Item) (s : laws_eqItemS_b1_S) (e : Env) (M : Mem) : Prop := eget e 0 = .sl none (a1.map Item.c) ∧ eget e 1 = .sl none (a2.map Item.c) ∧ eget e 5 = .int .i64 s
def laws_eqItemS_b1_RR (a1 : List Item) (a2 : List Item) (r : laws_eqItemS_b1_R) (x : Ex) (e : Env) (M : Mem) : Prop :=
  match r with
  | (.inl g) => x = .ret ∧ eget e 4 = .bool false
  | (.inr g) => x = .ext 0 ∧ True
noncomputable def laws_eqItemS_b1 (a1 : List Item) (a2 : List Item) : laws_eqItemS_b1_S → Option (laws_eqItemS_b1_S ⊕ laws_eqItemS_b1_R) := fun s1_1 =>
 if (decide (s1_1 < (a1.length : Int))) = true then
  (rd a1 s1_1).bind fun x42 =>
  (rd a2 s1_1).bind fun x44 =>
  (laws_eqItem x42 x44).bind fun r47 =>
  if r47 = true then
   some (.inl (IntKind.i64.wrap (s1_1 + 1)))
  else
   some (.inr (.inl ()))
 else
  some (.inr (.inr ()))
theorem laws_eqItemS_b1_ok (a1 : List Item) (a2 : List Item) (s : laws_eqItemS_b1_S) (r : laws_eqItemS_b1_S ⊕ laws_eqItemS_b1_R) (h : laws_eqItemS_b1 a1 a2 s = some r) (e : Env) (M : Mem) (hs : laws_eqItemS_b1_RS a1 a2 s e M) : Ev (fun k => (f97_l4 (CN k) k (prune [0, 1, 5] e) M).bind fun q => some q) (bQ (laws_eqItemS_b1_RS a1 a2) (laws_eqItemS_b1_RR a1 a2) r) := by
 revert h hs
 revert s
 intro s1_1 h hs
 unfold laws_eqItemS_b1 at h
 obtain ⟨h29, h31, h33⟩ := hs
 generalize he28 : prune [0, 1, 5] e = e27
 have h30 := envp he28.symm rfl h29
 have h32 := envp he28.symm rfl h31
 have h34 := envp he28.symm rfl h33
 refine sq (sq (Rg (kx (mvO h34) (kx (mvO h30) (kx (lnS Try.underlying73 rfl) (kx (bLss rfl rfl) (Rn (hV (.sl none (a1.map Item.c)) h30 (hV (.sl none (a2.map Item.c)) h32 (hV (.int .i64 s1_1) h34 (hN rfl hZ)))) fun e35 h37 h38 h39 h40 => sN ?_)))))))
 clear h30 h32 h34
 rcases ite_some h with ⟨hb41, h⟩ | ⟨hb41, h⟩
 ·obtain ⟨x42, hx43, h⟩ := bind_some h
  obtain ⟨x44, hx45, h⟩ := bind_some h
  obtain ⟨r47, hx46, h⟩ := bind_some h
  refine cT h40 hb41 (xx (sN (sq (bl (sq (Rd (kf (mvO h37) (kf (mvO h39) (kf (ixS rfl rfl hx43 Item.fl) (kf (ldPA rfl rfl rfl) (kf (mvO h38) (kf (mvO h39) (kf (ixS rfl rfl hx45 Item.fl) (kf (ldPA rfl rfl rfl) (fc (cl (v := .bool r47) rfl (cns rfl (cns rfl rfl)) rfl (laws_eqItem_ok x42 x44 _ hx46) nm) (kf (uNot rfl) (fZ (Rn (hA h37 (hA h38 (hA h39 (hN rfl hZ)))) fun e48 h50 h51 h52 h53 => sN ?_))))))))))))))))))
  clear h37 h38 h39 h40
  rcases ite_some h with ⟨hb54, h⟩ | ⟨hb54, h⟩
  ·refine cF h53 (congrArg Bool.not hb54) (xx (bN (sN (Rg (kx (mvO h52) (kx (bAdd rfl rfl) (kx (mvO rfl) (Rn (hA h50 (hA h51 (hN rfl hZ))) fun e55 h57 h58 h59 => ?_))))))))
   clear h50 h51 h53
   obtain rfl := si h
   exact qN ⟨h57, h58, h59⟩
  refine cT h53 (congrArg Bool.not hb54) (sq (Rg (kx (mvO rfl) (Rn (hV (.bool false) rfl hZ) fun e60 h62 => sN (xx (bR (sR ?_)))))))
  clear h50 h51 h52 h53
  obtain rfl := si h
  exact qR ⟨rfl, h62⟩
 refine cF h40 hb41 (xx (sE ?_))
 obtain rfl := si h
 exact qE ⟨rfl, trivial⟩
noncomputable def laws_eqItemS (a1 : List Item) (a2 : List Item) : Option Bool :=
 if ((a1.length : Int) != (a2.length : Int)) = true then
  some false
 else
  (Lw (laws_eqItemS_b1 a1 a2) 0).bind fun r => match r with
  | (.inl _) =>
   some false
  | (.inr _) =>
   some true
def laws_eqItemS_enc (r : Bool) : AV := .bool r
theorem laws_eqItemS_ok (a1 : List Item) (a2 : List Item) (r : Bool) (h : laws_eqItemS a1 a2 = some r) : Ev (fun k => CN k 97 [.sl none (a1.map Item.c), .sl none (a2.map Item.c)] []) (fun p => rRes p.2 p.1 = laws_eqItemS_enc r) := by
 unfold laws_eqItemS at h
 refine Ev.enter (F := fun k => f97 (CN k) k) (fun k => callN_eq rfl Try.func97 rfl rfl rfl (by decide +kernel) (f97_eq _ _)) (sq (Rg (kx (mvO rfl) (Rn (hN rfl (hN rfl hZ)) fun e1 h3 h4 => sN (sq (sq (Rg (kx (mvO h3) (kx (lnS Try.underlying73 rfl) (kx (mvO h4) (kx (lnS Try.underlying73 rfl) (kx (bNeq rfl rfl) (Rn (hA h3 (hA h4 (hN rfl hZ))) fun e5 h7 h8 h9 => sN ?_)))))))))))))
 clear h3 h4
 rcases ite_some h with ⟨hb10, h⟩ | ⟨hb10, h⟩
 ·refine cT h9 hb10 (sq (Rg (kx (mvO rfl) (Rn (hV (.bool false) rfl hZ) fun e11 h13 => sN (xx (sR ?_))))))
  clear h7 h8 h9
  obtain rfl := si h
  exact eR (resT h13 res0) rfl
 obtain ⟨r63, hr64, h⟩ := bind_some h
 refine cF h9 hb10 (xx (sN (sq (sq (Rg (kx (mvO rfl) (Rn (hA h7 (hA h8 (hV (.int .i64 0) rfl hZ))) fun e14 h16 h17 h18 => sN (bl ?_))))))))
 clear h7 h8 h9
 rcases r63 with _ | _
 ·refine Ev.loop (RS := laws_eqItemS_b1_RS a1 a2) (RR := laws_eqItemS_b1_RR a1 a2) (fun s r h e M hs => laws_eqItemS_b1_ok a1 a2 s r h e M hs) hr64 ⟨h16, h17, h18⟩ fun x e66 M67 hq65 => ?_
  obtain ⟨rfl, h68⟩ := hq65
  refine bR (sR ?_)
  obtain rfl := si h
  exact eR (resT h68 res0) rfl
 refine Ev.loop (RS := laws_eqItemS_b1_RS a1 a2) (RR := laws_eqItemS_b1_RR a1 a2) (fun s r h e M hs => laws_eqItemS_b1_ok a1 a2 s r h e M hs) hr64 ⟨h16, h17, h18⟩ fun x e69 M70 hq65 => ?_
 obtain ⟨rfl, _⟩ := hq65
 refine bE (sN (sq (Rg (kx (mvO rfl) (Rn (hV (.bool true) rfl hZ) fun e71 h73 => sN (xx ?_))))))
 obtain rfl := si h
 exact eR (resT h73 res0) rfl
/-! ### loop.example/g01263/impl.balance (f93) -/
abbrev impl_balance_b1_S := Int × Int
abbrev impl_balance_b1_R := Int
def impl_balance_b1_RS (a1 : List Item) (s : impl_balance_b1_S) (e : Env) (M : Mem) : Prop := eget e 3 = .int .i64 s.1 ∧ eget e 6 = .sl none (a1.map Item.c) ∧ eget e 7 = .int .i64 (a1.length : Int) ∧ eget e 8 = .int .i64 s.2
def impl_balance_b1_RR (a1 : List Item) (g : impl_balance_b1_R) (x : Ex) (e : Env) (M : Mem) : Prop := x = .ext 0 ∧ eget e 3 = .int .i64 g
noncomputable def impl_balance_b1 (a1 : List Item) : impl_balance_b1_S → Option (impl_balance_b1_S ⊕ impl_balance_b1_R) := fun (s1_1, s1_2) =>
 if (decide (s1_2 < (a1.length : Int))) = true then
  (rd a1 s1_2).bind fun x42 =>
  if (x42.Kind == 0) = true then
   some (.inl ((IntKind.i64.wrap (s1_1 + x42.Amount)), (IntKind.i64.wrap (s1_2 + 1))))
  else
   if (x42.Kind == 1) = true then
    some (.inl ((IntKind.i64.wrap (s1_1 + x42.Amount)), (IntKind.i64.wrap (s1_2 + 1))))
   else
    some (.inl ((IntKind.i64.wrap (s1_1 - x42.Amount)), (IntKind.i64.wrap (s1_2 + 1))))
 else
  some (.inr s1_1)
theorem impl_balance_b1_ok (a1 : List Item) (s : impl_balance_b1_S) (r : impl_balance_b1_S ⊕ impl_balance_b1_R) (h : impl_balance_b1 a1 s = some r) (e : Env) (M : Mem) (hs : impl_balance_b1_RS a1 s e M) : Ev (fun k => (f93_l3 (CN k) k (prune [3, 6, 7, 8] e) M).bind fun q => some q) (bQ (impl_balance_b1_RS a1) (impl_balance_b1_RR a1) r) := by
 obtain ⟨s1_1, s1_2⟩ := s
 unfold impl_balance_b1 at h
 obtain ⟨h26, h28, h30, h32⟩ := hs
 generalize he25 : prune [3, 6, 7, 8] e = e24
 have h27 := envp he25.symm rfl h26
 have h29 := envp he25.symm rfl h28
 have h31 := envp he25.symm rfl h30
 have h33 := envp he25.symm rfl h32
 refine sq (Rg (kx (bLss h33 h31) (Rn (hV (.int .i64 s1_1) h27 (hV (.sl none (a1.map Item.c)) h29 (hV (.int .i64 (a1.length : Int)) h31 (hV (.int .i64 s1_2) h33 (hN rfl hZ))))) fun e34 h36 h37 h38 h39 h40 => sN (sq ?_))))
 clear h27 h29 h31 h33
 rcases ite_some h with ⟨hb41, h⟩ | ⟨hb41, h⟩
 ·obtain ⟨x42, hx43, h⟩ := bind_some h
  refine cT h40 hb41 (xx (sN (sq (bl (sq (Rg (kx (ixS h37 h39 hx43 Item.fl) (kx (ldPA rfl rfl rfl) (ku (alO zero140) fun M45 hM46 => ?_)))))))))
  have o47 : M45[M.length]? = some (.live ⟨.box, 140, 2, [[.int .i8 0, .int .i64 0]]⟩) := push_new hM46
  refine kw (stO rfl rfl o47 rfl rfl ⟨rfl, ble rfl⟩ rfl rfl) fun M48 hM49 => ?_
  have o50 : M48[M.length]? = some (.live ⟨.box, 140, 2, [[.int .i8 x42.Kind, .int .i64 x42.Amount]]⟩) := set_same hM49 o47
  refine Rn (hA h36 (hV (.loc M.length 1 0 0) rfl (hA h37 (hA h38 (hA h39 hZ))))) fun e51 h53 h54 h55 h56 h57 => sN (sq (Rg (kx (faO h54 o50 rfl) (kx (ldO rfl o50 rfl rfl rfl) (kx (bEql rfl rfl) (kx (mvO rfl) ?_))))))
  clear h36 h37 h38 h39 h40
  rcases ite_some h with ⟨hb58, h⟩ | ⟨hb58, h⟩
  ·refine kx (gsF rfl hb58) (kx (gsF rfl hb58) (kx (gsF rfl hb58) (kx (pkT rfl hb58 rfl) (Rn (hA h53 (hA h54 (hA h55 (hA h56 (hA h57 (hV (.bool true) rfl hZ)))))) fun e59 h61 h62 h63 h64 h65 h66 => sN (cT h66 rfl (Rg (kx (mvO h61) (kx (faO h62 o50 rfl) (kx (ldO rfl o50 rfl rfl rfl) (kx (bAdd rfl rfl) (kx (mvO rfl) (Rn (hN rfl (hA h63 (hA h64 (hA h65 hZ)))) fun e67 h69 h70 h71 h72 => bN (sN (Rg (kx (bAdd h72 rfl) (kx (mvO rfl) (Rn (hA h69 (hA h70 (hA h71 (hN rfl hZ)))) fun e73 h75 h76 h77 h78 => ?_)))))))))))))))))
   clear h53 h54 h55 h56 h57 h62 h63 h64 h65 h66 h69 h70 h71
   obtain rfl := si h
   exact qN ⟨h75, h76, h77, h78⟩
  refine kx (guF rfl hb58 (faO h54 o50 rfl)) (kx (guF rfl hb58 (ldO rfl o50 rfl rfl rfl)) (kx (guF rfl hb58 (bEql rfl rfl)) (kx (pkF rfl hb58 rfl) (Rn (hA h53 (hA h54 (hA h55 (hA h56 (hA h57 (hN rfl hZ)))))) fun e79 h81 h82 h83 h84 h85 h86 => sN ?_))))
  clear h53 h54 h55 h56 h57
  rcases ite_some h with ⟨hb87, h⟩ | ⟨hb87, h⟩
  ·refine cT h86 hb87 (Rg (kx (mvO h81) (kx (faO h82 o50 rfl) (kx (ldO rfl o50 rfl rfl rfl) (kx (bAdd rfl rfl) (kx (mvO rfl) (Rn (hN rfl (hA h83 (hA h84 (hA h85 hZ)))) fun e88 h90 h91 h92 h93 => bN (sN (Rg (kx (bAdd h93 rfl) (kx (mvO rfl) (Rn (hA h90 (hA h91 (hA h92 (hN rfl hZ)))) fun e94 h96 h97 h98 h99 => ?_))))))))))))
   clear h82 h83 h84 h85 h86 h90 h91 h92
   obtain rfl := si h
   exact qN ⟨h96, h97, h98, h99⟩
  refine cF h86 hb87 (Rg (kx (mvO h81) (kx (faO h82 o50 rfl) (kx (ldO rfl o50 rfl rfl rfl) (kx (bSub rfl rfl) (kx (mvO rfl) (Rn (hN rfl (hA h83 (hA h84 (hA h85 hZ)))) fun e100 h102 h103 h104 h105 => bN (sN (Rg (kx (bAdd h105 rfl) (kx (mvO rfl) (Rn (hA h102 (hA h103 (hA h104 (hN rfl hZ)))) fun e106 h108 h109 h110 h111 => ?_))))))))))))
  clear h82 h83 h84 h85 h86 h102 h103 h104
  obtain rfl := si h
  exact qN ⟨h108, h109, h110, h111⟩
 refine cF h40 hb41 (xx (sE ?_))
 obtain rfl := si h
 exact qE ⟨rfl, h36⟩
noncomputable def impl_balance (a1 : List Item) : Option Int :=
 (Lw (impl_balance_b1 a1) (0, 0)).bind fun y117 =>
 some y117
def impl_balance_enc (r : Int) : AV := .int .i64 r
theorem impl_balance_ok (a1 : List Item) (r : Int) (h : impl_balance a1 = some r) : Ev (fun k => CN k 93 [.sl none (a1.map Item.c)] []) (fun p => rRes p.2 p.1 = impl_balance_enc r) := by
 unfold impl_balance at h
 obtain ⟨y117, hr113, h⟩ := bind_some h
 refine Ev.enter (F := fun k => f93 (CN k) k) (fun k => callN_eq rfl Try.func93 rfl rfl rfl (by decide +kernel) (f93_eq _ _)) (sq (Rg (kx (mvO rfl) (Rn (hN rfl hZ) fun e1 h3 => sN (sq (Rg (kx (mvO rfl) (Rn (hA h3 (hV (.int .i64 0) rfl hZ)) fun e4 h6 h7 => sN (sq (sq (Rg (kx (mvO h6) (kx (lnS Try.underlying73 rfl) (kx (mvO rfl) (Rn (hA h7 (hN rfl (hN rfl (hV (.int .i64 0) rfl hZ)))) fun e8 h10 h11 h12 h13 => sN (bl (Ev.loop (RS := impl_balance_b1_RS a1) (RR := impl_balance_b1_RR a1) (fun s r h e M hs => impl_balance_b1_ok a1 s r h e M hs) hr113 ⟨h10, h11, h12, h13⟩ fun x e115 M116 hq114 => ?_)))))))))))))))))
 clear h3 h6 h7
 obtain ⟨rfl, h118⟩ := hq114
 refine bE (sN (sq (Rg (kx (mvO h118) (kx (mvO rfl) (Rn (hN rfl hZ) fun e119 h121 => sN (xx ?_)))))))
 clear h118
 obtain rfl := si h
 exact eR (resT h121 res0) rfl
/-! ### loop.example/g01263/impl.ValidItems (f92) -/
abbrev impl_ValidItems_b1_S := Int
abbrev impl_ValidItems_b1_R := Unit ⊕ Unit
def impl_ValidItems_b1_RS (a1 : List Item) (s : impl_ValidItems_b1_S) (e : Env) (M : Mem) : Prop := eget e 0 = .sl none (a1.map Item.c) ∧ eget e 5 = .sl none (a1.map Item.c) ∧ eget e 6 = .int .i64 (a1.length : Int) ∧ eget e 7 = .int .i64 s
def impl_ValidItems_b1_RR (a1 : List Item) (r : impl_ValidItems_b1_R) (x : Ex) (e : Env) (M : Mem) : Prop :=
  match r with
  | (.inl g) => x = .ret ∧ eget e 2 = .bool false
  | (.inr g) => x = .ext 0 ∧ eget e 0 = .sl none (a1.map Item.c)
noncomputable def impl_ValidItems_b1 (a1 : List Item) : impl_ValidItems_b1_S → Option (impl_ValidItems_b1_S ⊕ impl_ValidItems_b1_R) := fun s1_1 =>
 if (decide (s1_1 < (a1.length : Int))) = true then
  (rd a1 s1_1).bind fun x38 =>
  (impl_validItem x38).bind fun r55 =>
  if r55 = true then
   some (.inl (IntKind.i64.wrap (s1_1 + 1)))
  else
   some (.inr (.inl ()))
 else
  some (.inr (.inr ()))
theorem impl_ValidItems_b1_ok (a1 : List Item) (s : impl_ValidItems_b1_S) (r : impl_ValidItems_b1_S ⊕ impl_ValidItems_b1_R) (h : impl_ValidItems_b1 a1 s = some r) (e : Env) (M : Mem) (hs : impl_ValidItems_b1_RS a1 s e M) : Ev (fun k => (f92_l2 (CN k) k (prune [0, 5, 6, 7] e) M).bind fun q => some q) (bQ (impl_ValidItems_b1_RS a1) (impl_ValidItems_b1_RR a1) r) := by
 revert h hs
 revert s
 intro s1_1 h hs
 unfold impl_ValidItems_b1 at h
 obtain ⟨h22, h24, h26, h28⟩ := hs
 generalize he21 : prune [0, 5, 6, 7] e = e20
 have h23 := envp he21.symm rfl h22
 have h25 := envp he21.symm rfl h24
 have h27 := envp he21.symm rfl h26
 have h29 := envp he21.symm rfl h28
 refine sq (Rg (kx (bLss h29 h27) (Rn (hV (.sl none (a1.map Item.c)) h23 (hV (.sl none (a1.map Item.c)) h25 (hV (.int .i64 (a1.length : Int)) h27 (hV (.int .i64 s1_1) h29 (hN rfl hZ))))) fun e30 h32 h33 h34 h35 h36 => sN (sq ?_))))
 clear h23 h25 h27 h29
 rcases ite_some h with ⟨hb37, h⟩ | ⟨hb37, h⟩
 ·obtain ⟨x38, hx39, h⟩ := bind_some h
  refine cT h36 hb37 (xx (sN (sq (bl (sq (Rg (kx (ixS h33 h35 hx39 Item.fl) (kx (ldPA rfl rfl rfl) (ku (alO zero140) fun M41 hM42 => ?_)))))))))
  have o43 : M41[M.length]? = some (.live ⟨.box, 140, 2, [[.int .i8 0, .int .i64 0]]⟩) := push_new hM42
  refine kw (stO rfl rfl o43 rfl rfl ⟨rfl, ble rfl⟩ rfl rfl) fun M44 hM45 => ?_
  have o46 : M44[M.length]? = some (.live ⟨.box, 140, 2, [[.int .i8 x38.Kind, .int .i64 x38.Amount]]⟩) := set_same hM45 o43
  obtain ⟨r55, hx54, h⟩ := bind_some h
  refine Rn (hA h32 (hV (.loc M.length 1 0 0) rfl (hA h33 (hA h34 (hA h35 hZ))))) fun e47 h49 h50 h51 h52 h53 => sN (sq (Rg (kx (ldOA h50 o46 rfl rfl (ble rfl) rfl) (kc (cl (v := .bool r55) rfl (cns rfl rfl) rfl (impl_validItem_ok x38 _ hx54) nm) (kx (uNot rfl) (Rn (hA h49 (hA h51 (hA h52 (hA h53 (hN rfl hZ))))) fun e56 h58 h59 h60 h61 h62 => sN ?_))))))
  clear h32 h33 h34 h35 h36 h49 h50 h51 h52 h53
  rcases ite_some h with ⟨hb63, h⟩ | ⟨hb63, h⟩
  ·refine cF h62 (congrArg Bool.not hb63) (xx (bN (sN (Rg (kx (bAdd h61 rfl) (kx (mvO rfl) (Rn (hA h58 (hA h59 (hA h60 (hN rfl hZ)))) fun e64 h66 h67 h68 h69 => ?_)))))))
   clear h58 h59 h60 h62
   obtain rfl := si h
   exact qN ⟨h66, h67, h68, h69⟩
  refine cT h62 (congrArg Bool.not hb63) (sq (Rg (kx (mvO rfl) (Rn (hV (.bool false) rfl hZ) fun e70 h72 => sN (xx (bR (sR ?_)))))))
  clear h58 h59 h60 h61 h62
  obtain rfl := si h
  exact qR ⟨rfl, h72⟩
 refine cF h36 hb37 (xx (sE ?_))
 obtain rfl := si h
 exact qE ⟨rfl, h32⟩
noncomputable def impl_ValidItems (a1 : List Item) : Option Bool :=
 (Lw (impl_ValidItems_b1 a1) 0).bind fun r => match r with
 | (.inl _) =>
  some false
 | (.inr _) =>
  some (decide ((a1.length : Int) ≤ 40))
def impl_ValidItems_enc (r : Bool) : AV := .bool r
theorem impl_ValidItems_ok (a1 : List Item) (r : Bool) (h : impl_ValidItems a1 = some r) : Ev (fun k => CN k 92 [.sl none (a1.map Item.c)] []) (fun p => rRes p.2 p.1 = impl_ValidItems_enc r) := by
 unfold impl_ValidItems at h
 obtain ⟨r73, hr74, h⟩ := bind_some h
 refine Ev.enter (F := fun k => f92 (CN k) k) (fun k => callN_eq rfl Try.func92 rfl rfl rfl (by decide +kernel) (f92_eq _ _)) (sq (Rg (kx (mvO rfl) (Rn (hN rfl hZ) fun e1 h3 => sN (sq (sq (Rg (kx (mvO h3) (kx (lnS Try.underlying73 rfl) (kx (mvO rfl) (Rn (hA h3 (hN rfl (hN rfl (hV (.int .i64 0) rfl hZ)))) fun e4 h6 h7 h8 h9 => sN (bl ?_))))))))))))
 clear h3
 rcases r73 with _ | _
 ·refine Ev.loop (RS := impl_ValidItems_b1_RS a1) (RR := impl_ValidItems_b1_RR a1) (fun s r h e M hs => impl_ValidItems_b1_ok a1 s r h e M hs) hr74 ⟨h6, h7, h8, h9⟩ fun x e76 M77 hq75 => ?_
  obtain ⟨rfl, h78⟩ := hq75
  refine bR (sR ?_)
  obtain rfl := si h
  exact eR (resT h78 res0) rfl
 refine Ev.loop (RS := impl_ValidItems_b1_RS a1) (RR := impl_ValidItems_b1_RR a1) (fun s r h e M hs => impl_ValidItems_b1_ok a1 s r h e M hs) hr74 ⟨h6, h7, h8, h9⟩ fun x e79 M80 hq75 => ?_
 obtain ⟨rfl, h81⟩ := hq75
 refine bE (sN (sq (Rg (kx (mvO h81) (kx (lnS Try.underlying73 rfl) (kx (bLeq rfl rfl) (kx (mvO rfl) (Rn (hN rfl hZ) fun e82 h84 => sN (xx ?_)))))))))
 clear h81
 obtain rfl := si h
 exact eR (resT h84 res0) rfl
/-! ### loop.example/g01263/impl.isLetters (f91) -/
abbrev impl_isLetters_b1_S := Int
abbrev impl_isLetters_b1_R := Unit ⊕ Unit
def impl_isLetters_b1_RS (a1 : List UInt8) (a2 : Int) (s : impl_isLetters_b1_S) (e : Env) (M : Mem) : Prop := eget e 0 = .str a1 ∧ eget e 1 = .int .i64 a2 ∧ eget e 7 = .int .i64 (a1.length : Int) ∧ eget e 8 = .int .i64 s
def impl_isLetters_b1_RR (a1 : List UInt8) (a2 : Int) (r : impl_isLetters_b1_R) (x : Ex) (e : Env) (M : Mem) : Prop :=
  match r with
  | (.inl g) => x = .ret ∧ eget e 4 = .bool false
  | (.inr g) => x = .ext 0 ∧ eget e 0 = .str a1 ∧ eget e 1 = .int .i64 a2
noncomputable def impl_isLetters_b1 (a1 : List UInt8) : impl_isLetters_b1_S → Option (impl_isLetters_b1_S ⊕ impl_isLetters_b1_R) := fun s1_1 =>
 if (decide (s1_1 < (a1.length : Int))) = true then
  (rd a1 s1_1).bind fun x46 =>
  if (decide ((x46.toNat : Int) < 97)) = true then
   some (.inr (.inl ()))
  else
   (rd a1 s1_1).bind fun x59 =>
   if (decide ((x59.toNat : Int) > 122)) = true then
    some (.inr (.inl ()))
   else
    some (.inl (IntKind.i64.wrap (s1_1 + 1)))
 else
  some (.inr (.inr ()))
theorem impl_isLetters_b1_ok (a1 : List UInt8) (a2 : Int) (s : impl_isLetters_b1_S) (r : impl_isLetters_b1_S ⊕ impl_isLetters_b1_R) (h : impl_isLetters_b1 a1 s = some r) (e : Env) (M : Mem) (hs : impl_isLetters_b1_RS a1 a2 s e M) : Ev (fun k => (f91_l2 (CN k) k (prune [0, 1, 7, 8] e) M).bind fun q => some q) (bQ (impl_isLetters_b1_RS a1 a2) (impl_isLetters_b1_RR a1 a2) r) := by
 revert h hs
 revert s
 intro s1_1 h hs
 unfold impl_isLetters_b1 at h
 obtain ⟨h23, h25, h27, h29⟩ := hs
 generalize he22 : prune [0, 1, 7, 8] e = e21
 have h24 := envp he22.symm rfl h23
 have h26 := envp he22.symm rfl h25
 have h28 := envp he22.symm rfl h27
 have h30 := envp he22.symm rfl h29
 refine sq (Rg (kx (bLss h30 h28) (Rn (hV (.str a1) h24 (hV (.int .i64 a2) h26 (hA h28 (hV (.int .i64 s1_1) h30 (hN rfl hZ))))) fun e31 h33 h34 h35 h36 h37 => sN (sq ?_))))
 clear h24 h26 h28 h30
 rcases ite_some h with ⟨hb38, h⟩ | ⟨hb38, h⟩
 ·obtain ⟨x46, hx47, h⟩ := bind_some h
  refine cT h37 hb38 (xx (sN (sq (bl (sq (Rg (kx (mvO h36) (kx (mvO rfl) (Rn (hA h33 (hA h34 (hN rfl (hA h35 (hA h36 hZ))))) fun e39 h41 h42 h43 h44 h45 => sN (sq (Rg (kx (mvO h41) (kx (mvO h43) (kx (ixB rfl rfl hx47) (kx (bLss rfl rfl) (kx (mvO rfl) ?_))))))))))))))))
  clear h33 h34 h35 h36 h37
  rcases ite_some h with ⟨hb48, h⟩ | ⟨hb48, h⟩
  ·refine kx (gsF rfl hb48) (kx (gsF rfl hb48) (kx (gsF rfl hb48) (kx (gsF rfl hb48) (kx (pkT rfl hb48 rfl) (Rn (hA h41 (hA h42 (hA h44 (hA h45 (hV (.bool true) rfl hZ))))) fun e49 h51 h52 h53 h54 h55 => sN (cT h55 rfl (sq (Rg (kx (mvO rfl) (Rn (hV (.bool false) rfl hZ) fun e56 h58 => sN (xx (bR (sR ?_)))))))))))))
   clear h41 h42 h43 h44 h45 h51 h52 h53 h54 h55
   obtain rfl := si h
   exact qR ⟨rfl, h58⟩
  obtain ⟨x59, hx60, h⟩ := bind_some h
  refine kx (guF rfl hb48 (mvO h41)) (kx (guF rfl hb48 (mvO h43)) (kx (guF rfl hb48 (ixB rfl rfl hx60)) (kx (guF rfl hb48 (bGtr rfl rfl)) (kx (pkF rfl hb48 rfl) (Rn (hA h41 (hA h42 (hA h44 (hA h45 (hN rfl hZ))))) fun e61 h63 h64 h65 h66 h67 => sN ?_)))))
  clear h41 h42 h43 h44 h45
  rcases ite_some h with ⟨hb68, h⟩ | ⟨hb68, h⟩
  ·refine cT h67 hb68 (sq (Rg (kx (mvO rfl) (Rn (hV (.bool false) rfl hZ) fun e69 h71 => sN (xx (bR (sR ?_)))))))
   clear h63 h64 h65 h66 h67
   obtain rfl := si h
   exact qR ⟨rfl, h71⟩
  refine cF h67 hb68 (xx (bN (sN (Rg (kx (bAdd h66 rfl) (kx (mvO rfl) (Rn (hA h63 (hA h64 (hA h65 (hN rfl hZ)))) fun e72 h74 h75 h76 h77 => ?_)))))))
  clear h63 h64 h65 h67
  obtain rfl := si h
  exact qN ⟨h74, h75, h76, h77⟩
 refine cF h37 hb38 (xx (sE ?_))
 obtain rfl := si h
 exact qE ⟨rfl, h33, h34⟩
noncomputable def impl_isLetters (a1 : List UInt8) (a2 : Int) : Option Bool :=
 (Lw (impl_isLetters_b1 a1) 0).bind fun r => match r with
 | (.inl _) =>
  some false
 | (.inr _) =>
  if (decide ((a1.length : Int) ≥ 1)) = true then
   some (decide ((a1.length : Int) ≤ a2))
  else
   some false
def impl_isLetters_enc (r : Bool) : AV := .bool r
theorem impl_isLetters_ok (a1 : List UInt8) (a2 : Int) (r : Bool) (h : impl_isLetters a1 a2 = some r) : Ev (fun k => CN k 91 [.str a1, .int .i64 a2] []) (fun p => rRes p.2 p.1 = impl_isLetters_enc r) := by
 unfold impl_isLetters at h
 obtain ⟨r78, hr79, h⟩ := bind_some h
 refine Ev.enter (F := fun k => f91 (CN k) k) (fun k => callN_eq rfl Try.func91 rfl rfl rfl (by decide +kernel) (f91_eq _ _)) (sq (Rg (kx (mvO rfl) (Rn (hN rfl (hN rfl hZ)) fun e1 h3 h4 => sN (sq (sq (Rg (kx (mvO h3) (kx (lnB Try.underlying9 rfl) (kx (mvO rfl) (Rn (hA h3 (hA h4 (hN rfl (hV (.int .i64 0) rfl hZ)))) fun e5 h7 h8 h9 h10 => sN (bl ?_))))))))))))
 clear h3 h4
 rcases r78 with _ | _
 ·refine Ev.loop (RS := impl_isLetters_b1_RS a1 a2) (RR := impl_isLetters_b1_RR a1 a2) (fun s r h e M hs => impl_isLetters_b1_ok a1 a2 s r h e M hs) hr79 ⟨h7, h8, h9, h10⟩ fun x e81 M82 hq80 => ?_
  obtain ⟨rfl, h83⟩ := hq80
  refine bR (sR ?_)
  obtain rfl := si h
  exact eR (resT h83 res0) rfl
 refine Ev.loop (RS := impl_isLetters_b1_RS a1 a2) (RR := impl_isLetters_b1_RR a1 a2) (fun s r h e M hs => impl_isLetters_b1_ok a1 a2 s r h e M hs) hr79 ⟨h7, h8, h9, h10⟩ fun x e84 M85 hq80 => ?_
 obtain ⟨rfl, h86, h87⟩ := hq80
 refine bE (sN (sq (Rg (kx (mvO h86) (kx (lnB Try.underlying9 rfl) (kx (bGeq rfl rfl) (kx (mvO rfl) ?_)))))))
 rcases ite_some h with ⟨hb88, h⟩ | ⟨hb88, h⟩
 ·refine kx (guT rfl hb88 (mvO h86)) (kx (guT rfl hb88 (lnB Try.underlying9 rfl)) (kx (guT rfl hb88 (mvO h87)) (kx (guT rfl hb88 (bLeq rfl rfl)) (kx (pkT rfl hb88 rfl) (kx (mvO rfl) (Rn (hN rfl hZ) fun e89 h91 => sN (xx ?_)))))))
  clear h86 h87
  obtain rfl := si h
  exact eR (resT h91 res0) rfl
 refine kx (gsT rfl hb88) (kx (gsT rfl hb88) (kx (gsT rfl hb88) (kx (gsT rfl hb88) (kx (pkF rfl hb88 rfl) (kx (mvO rfl) (Rn (hV (.bool false) rfl hZ) fun e92 h94 => sN (xx ?_)))))))
 clear h86 h87
 obtain rfl := si h
 exact eR (resT h94 res0) rfl
/-! ### loop.example/g01263/laws.toItemS (f90) -/
abbrev laws_toItemS_b1_S := Int × (List Item)
abbrev laws_toItemS_b1_R := (List Item)
def laws_toItemS_b1_RS (a1 : List Item) (x4 : List Item) (i1_1 : Nat) (s : laws_toItemS_b1_S) (e : Env) (M : Mem) : Prop := eget e 0 = .sl none (a1.map Item.c) ∧ eget e 3 = .lsl i1_1 s.2.length 0 s.2.length ∧ eget e 4 = .int .i64 s.1 ∧ M[i1_1]? = some (.live ⟨.grow, 140, 2, s.2.map Item.c⟩) ∧ s.2.length = x4.length
def laws_toItemS_b1_RR (a1 : List Item) (x4 : List Item) (i1_1 : Nat) (g : laws_toItemS_b1_R) (x : Ex) (e : Env) (M : Mem) : Prop := x = .ext 0 ∧ eget e 3 = .lsl i1_1 g.length 0 g.length ∧ M[i1_1]? = some (.live ⟨.grow, 140, 2, g.map Item.c⟩) ∧ g.length = x4.length
noncomputable def laws_toItemS_b1 (a1 : List Item) : laws_toItemS_b1_S → Option (laws_toItemS_b1_S ⊕ laws_toItemS_b1_R) := fun (s1_1, s1_2) =>
 if (decide (s1_1 < (a1.length : Int))) = true then
  (rd a1 s1_1).bind fun x45 =>
  (laws_toItem x45).bind fun (r48, r49) =>
  (rd s1_2 s1_1).bind fun x50 =>
  some (.inl ((IntKind.i64.wrap (s1_1 + 1)), (s1_2.set s1_1.toNat (Item.mk r48 r49))))
 else
  some (.inr s1_2)
theorem laws_toItemS_b1_ok (a1 : List Item) (x4 : List Item) (i1_1 : Nat) (s : laws_toItemS_b1_S) (r : laws_toItemS_b1_S ⊕ laws_toItemS_b1_R) (h : laws_toItemS_b1 a1 s = some r) (e : Env) (M : Mem) (hs : laws_toItemS_b1_RS a1 x4 i1_1 s e M) : Ev (fun k => (f90_l3 (CN k) k (prune [0, 3, 4] e) M).bind fun q => some q) (bQ (laws_toItemS_b1_RS a1 x4 i1_1) (laws_toItemS_b1_RR a1 x4 i1_1) r) := by
 obtain ⟨s1_1, s1_2⟩ := s
 unfold laws_toItemS_b1 at h
 obtain ⟨h30, h32, h34, o36, hl37⟩ := hs
 generalize he29 : prune [0, 3, 4] e = e28
 have h31 := envp he29.symm rfl h30
 have h33 := envp he29.symm rfl h32
 have h35 := envp he29.symm rfl h34
 refine sq (sq (Rg (kx (mvO h35) (kx (mvO h31) (kx (lnS Try.underlying78 rfl) (kx (bLss rfl rfl) (Rn (hV (.sl none (a1.map Item.c)) h31 (hV (.lsl i1_1 s1_2.length 0 s1_2.length) h33 (hV (.int .i64 s1_1) h35 (hN rfl hZ)))) fun e38 h40 h41 h42 h43 => sN ?_)))))))
 clear h31 h33 h35
 rcases ite_some h with ⟨hb44, h⟩ | ⟨hb44, h⟩
 ·obtain ⟨x45, hx46, h⟩ := bind_some h
  obtain ⟨⟨r48, r49⟩, hx47, h⟩ := bind_some h
  obtain ⟨x50, hx51, h⟩ := bind_some h
  refine cT h43 hb44 (xx (sN (sq (bl (Rg (kx (mvO h41) (kx (mvO h42) (kx (mvO h40) (kx (mvO h42) (kx (ixS rfl rfl hx46 Item.fl) (kx (ldPA rfl rfl rfl) (kc (cl (v := .agg [.int .i8 r48, .int .i64 r49]) rfl (cns rfl rfl) rfl (laws_toItem_ok x45 _ hx47) nm) (kx (ixO rfl o36 rfl rfl (rd_get hx51).1 (rd_lt hx51).2) (kw (stR (u := x50) (u' := (Item.mk r48 r49)) rfl rfl o36 rfl (rz2 hx51) ⟨rfl, ble rfl⟩ rfl rfl) fun M52 hM53 => ?_))))))))))))))
  rw [Nat.zero_add] at hM53
  have o54 : M52[i1_1]? = some (.live ⟨.grow, 140, 2, (s1_2.set s1_1.toNat (Item.mk r48 r49)).map Item.c⟩) := set_same hM53 o36
  have hx55 := rd_set (u' := (Item.mk r48 r49)) hx51
  refine Rn (hA h40 (hA h41 (hA h42 hZ))) fun e56 h58 h59 h60 => bN (sN (Rg (kx (mvO h60) (kx (bAdd rfl rfl) (kx (mvO rfl) (Rn (hA h58 (hA h59 (hN rfl hZ))) fun e61 h63 h64 h65 => ?_))))))
  clear h40 h41 h42 h43 h58 h59
  obtain rfl := si h
  exact qN ⟨h63, (lslL (L' := (s1_2.set s1_1.toNat (Item.mk r48 r49)).length) h64 (by simp [hl37])), h65, o54, (by first | rfl | simp [hl37])⟩
 refine cF h43 hb44 (xx (sE ?_))
 obtain rfl := si h
 exact qE ⟨rfl, h41, o36, (by first | rfl | simp [hl37])⟩
noncomputable def laws_toItemS (a1 : List Item) : Option ((List Item)) :=
 (mkS 16 (Item.mk 0 0) (a1.length : Int)).bind fun x4 =>
 (Lw (laws_toItemS_b1 a1) (0, x4)).bind fun y71 =>
 some y71
def laws_toItemS_enc (r : (List Item)) : AV := .sl (some 140) (r.map Item.c)
theorem laws_toItemS_ok (a1 : List Item) (r : (List Item)) (h : laws_toItemS a1 = some r) : Ev (fun k => CN k 90 [.sl none (a1.map Item.c)] []) (fun p => rRes p.2 p.1 = laws_toItemS_enc r) := by
 unfold laws_toItemS at h
 obtain ⟨x4, hx5, h⟩ := bind_some h
 refine Ev.enter (F := fun k => f90 (CN k) k) (fun k => callN_eq rfl Try.func90 rfl rfl rfl (by decide +kernel) (f90_eq _ _)) (sq (Rg (kx (mvO rfl) (Rn (hN rfl hZ) fun e1 h3 => sN (sq (Rg (kx (mvO h3) (kx (lnS Try.underlying78 rfl) (ku (mkO rfl rfl hx5 (c := Item.c) zero140 Item.fl (by decide)) fun M7 hM8 => ?_)))))))))
 have o9 : M7[([] : Mem).length]? = some (.live ⟨.grow, 140, 2, x4.map Item.c⟩) := push_new hM8
 obtain ⟨y71, hr67, h⟩ := bind_some h
 refine kx (mvO rfl) (Rn (hA h3 (hV (.lsl ([] : Mem).length x4.length 0 x4.length) rfl hZ)) fun e10 h12 h13 => sN (sq (sq (Rg (kx (mvO rfl) (Rn (hA h12 (hA h13 (hV (.int .i64 0) rfl hZ))) fun e14 h16 h17 h18 => sN (bl (Ev.loop (RS := laws_toItemS_b1_RS a1 x4 (([] : Mem).length)) (RR := laws_toItemS_b1_RR a1 x4 (([] : Mem).length)) (fun s r h e M hs => laws_toItemS_b1_ok a1 x4 (([] : Mem).length) s r h e M hs) hr67 ⟨h16, h17, h18, o9, rfl⟩ fun x e69 M70 hq68 => ?_))))))))
 clear h3 h12 h13
 obtain ⟨rfl, h72, o73, hl74⟩ := hq68
 refine bE (sN (sq (Rg (kx (mvO h72) (kx (mvO rfl) (Rn (hV (.lsl ([] : Mem).length y71.length 0 y71.length) rfl hZ) fun e75 h77 => sN (xx ?_)))))))
 clear h72
 obtain rfl := si h
 exact eR (resT h77 res0) (rr_row o73 rfl Item.fl)
/-! ### loop.example/g01263/spec.l00Max (f89) -/
noncomputable def spec_l00Max (a1 : Int) (a2 : Int) : Option Int :=
 if (decide (a1 > a2)) = true then
  some a1
 else
  some a2
def spec_l00Max_enc (r : Int) : AV := .int .i64 r
theorem spec_l00Max_ok (a1 : Int) (a2 : Int) (r : Int) (h : spec_l00Max a1 a2 = some r) : Ev (fun k => CN k 89 [.int .i64 a1, .int .i64 a2] []) (fun p => rRes p.2 p.1 = spec_l00Max_enc r) := by
 unfold spec_l00Max at h
 refine Ev.enter (F := fun k => f89 (CN k) k) (fun k => callN_eq rfl Try.func89 rfl rfl rfl (by decide +kernel) (f89_eq _ _)) (sq (Rg (kx (mvO rfl) (Rn (hN rfl (hN rfl hZ)) fun e1 h3 h4 => sN (sq (sq (Rg (kx (mvO h3) (kx (mvO h4) (kx (bGtr rfl rfl) (Rn (hA h3 (hA h4 (hN rfl hZ))) fun e5 h7 h8 h9 => sN ?_)))))))))))
 clear h3 h4
 rcases ite_some h with ⟨hb10, h⟩ | ⟨hb10, h⟩
 ·refine cT h9 hb10 (sq (Rg (kx (mvO h7) (kx (mvO rfl) (Rn (hN rfl hZ) fun e11 h13 => sN (xx (sR ?_)))))))
  clear h7 h8 h9
  obtain rfl := si h
  exact eR (resT h13 res0) rfl
 refine cF h9 hb10 (xx (sN (sq (Rg (kx (mvO h8) (kx (mvO rfl) (Rn (hN rfl hZ) fun e14 h16 => sN (xx ?_))))))))
 clear h7 h8 h9
 obtain rfl := si h
 exact eR (resT h16 res0) rfl
/-! ### loop.example/g01263/spec.l05Balance (f88) -/
abbrev spec_l05Balance_b1_S := Int × Int
abbrev spec_l05Balance_b1_R := Int
def spec_l05Balance_b1_RS (a1 : List Item) (s : spec_l05Balance_b1_S) (e : Env) (M : Mem) : Prop := eget e 0 = .sl none (a1.map Item.c) ∧ eget e 3 = .int .i64 s.1 ∧ eget e 4 = .int .i64 s.2
def spec_l05Balance_b1_RR (a1 : List Item) (g : spec_l05Balance_b1_R) (x : Ex) (e : Env) (M : Mem) : Prop := x = .ext 0 ∧ eget e 3 = .int .i64 g
noncomputable def spec_l05Balance_b1 (a1 : List Item) : spec_l05Balance_b1_S → Option (spec_l05Balance_b1_S ⊕ spec_l05Balance_b1_R) := fun (s1_1, s1_2) =>
 if (decide (s1_2 < (a1.length : Int))) = true then
  (rd a1 s1_2).bind fun x36 =>
  if (x36.Kind == 0) = true then
   (rd a1 s1_2).bind fun x45 =>
   some (.inl ((IntKind.i64.wrap (s1_1 + x45.Amount)), (IntKind.i64.wrap (s1_2 + 1))))
  else
   (rd a1 s1_2).bind fun x57 =>
   if (x57.Kind == 1) = true then
    (rd a1 s1_2).bind fun x66 =>
    some (.inl ((IntKind.i64.wrap (s1_1 + x66.Amount)), (IntKind.i64.wrap (s1_2 + 1))))
   else
    (rd a1 s1_2).bind fun x78 =>
    some (.inl ((IntKind.i64.wrap (s1_1 - x78.Amount)), (IntKind.i64.wrap (s1_2 + 1))))
 else
  some (.inr s1_1)
theorem spec_l05Balance_b1_ok (a1 : List Item) (s : spec_l05Balance_b1_S) (r : spec_l05Balance_b1_S ⊕ spec_l05Balance_b1_R) (h : spec_l05Balance_b1 a1 s = some r) (e : Env) (M : Mem) (hs : spec_l05Balance_b1_RS a1 s e M) : Ev (fun k => (f88_l3 (CN k) k (prune [0, 3, 4] e) M).bind fun q => some q) (bQ (spec_l05Balance_b1_RS a1) (spec_l05Balance_b1_RR a1) r) := by
 obtain ⟨s1_1, s1_2⟩ := s
 unfold spec_l05Balance_b1 at h
 obtain ⟨h23, h25, h27⟩ := hs
 generalize he22 : prune [0, 3, 4] e = e21
 have h24 := envp he22.symm rfl h23
 have h26 := envp he22.symm rfl h25
 have h28 := envp he22.symm rfl h27
 refine sq (sq (Rg (kx (mvO h28) (kx (mvO h24) (kx (lnS Try.underlying73 rfl) (kx (bLss rfl rfl) (Rn (hV (.sl none (a1.map Item.c)) h24 (hV (.int .i64 s1_1) h26 (hV (.int .i64 s1_2) h28 (hN rfl hZ)))) fun e29 h31 h32 h33 h34 => sN ?_)))))))
 clear h24 h26 h28
 rcases ite_some h with ⟨hb35, h⟩ | ⟨hb35, h⟩
 ·obtain ⟨x36, hx37, h⟩ := bind_some h
  refine cT h34 hb35 (xx (sN (sq (bl (sq (Rg (kx (mvO h31) (kx (mvO h33) (kx (ixS rfl rfl hx37 Item.fl) (kx (faP rfl ⟨ble rfl, blt rfl⟩ rfl) (kx (ldP rfl rfl) (kx (bEql rfl rfl) (kx (mvO rfl) ?_)))))))))))))
  rcases ite_some h with ⟨hb38, h⟩ | ⟨hb38, h⟩
  ·obtain ⟨x45, hx46, h⟩ := bind_some h
   refine kx (gsF rfl hb38) (kx (gsF rfl hb38) (kx (gsF rfl hb38) (kx (gsF rfl hb38) (kx (gsF rfl hb38) (kx (gsF rfl hb38) (kx (pkT rfl hb38 rfl) (Rn (hA h31 (hA h32 (hA h33 (hV (.bool true) rfl hZ)))) fun e39 h41 h42 h43 h44 => sN (cT h44 rfl (Rg (kx (mvO h42) (kx (mvO h41) (kx (mvO h43) (kx (ixS rfl rfl hx46 Item.fl) (kx (faP rfl ⟨ble rfl, blt rfl⟩ rfl) (kx (ldP rfl rfl) (kx (bAdd rfl rfl) (kx (mvO rfl) (Rn (hA h41 (hN rfl (hA h43 hZ))) fun e47 h49 h50 h51 => bN (sN (Rg (kx (mvO h51) (kx (bAdd rfl rfl) (kx (mvO rfl) (Rn (hA h49 (hA h50 (hN rfl hZ))) fun e52 h54 h55 h56 => ?_))))))))))))))))))))))))
   clear h31 h32 h33 h34 h41 h43 h44 h49 h50
   obtain rfl := si h
   exact qN ⟨h54, h55, h56⟩
  obtain ⟨x57, hx58, h⟩ := bind_some h
  refine kx (guF rfl hb38 (mvO h31)) (kx (guF rfl hb38 (mvO h33)) (kx (guF rfl hb38 (ixS rfl rfl hx58 Item.fl)) (kx (guF rfl hb38 (faP rfl ⟨ble rfl, blt rfl⟩ rfl)) (kx (guF rfl hb38 (ldP rfl rfl)) (kx (guF rfl hb38 (bEql rfl rfl)) (kx (pkF rfl hb38 rfl) (Rn (hA h31 (hA h32 (hA h33 (hN rfl hZ)))) fun e59 h61 h62 h63 h64 => sN ?_)))))))
  clear h31 h32 h33 h34
  rcases ite_some h with ⟨hb65, h⟩ | ⟨hb65, h⟩
  ·obtain ⟨x66, hx67, h⟩ := bind_some h
   refine cT h64 hb65 (Rg (kx (mvO h62) (kx (mvO h61) (kx (mvO h63) (kx (ixS rfl rfl hx67 Item.fl) (kx (faP rfl ⟨ble rfl, blt rfl⟩ rfl) (kx (ldP rfl rfl) (kx (bAdd rfl rfl) (kx (mvO rfl) (Rn (hA h61 (hN rfl (hA h63 hZ))) fun e68 h70 h71 h72 => bN (sN (Rg (kx (mvO h72) (kx (bAdd rfl rfl) (kx (mvO rfl) (Rn (hA h70 (hA h71 (hN rfl hZ))) fun e73 h75 h76 h77 => ?_))))))))))))))))
   clear h61 h63 h64 h70 h71
   obtain rfl := si h
   exact qN ⟨h75, h76, h77⟩
  obtain ⟨x78, hx79, h⟩ := bind_some h
  refine cF h64 hb65 (Rg (kx (mvO h62) (kx (mvO h61) (kx (mvO h63) (kx (ixS rfl rfl hx79 Item.fl) (kx (faP rfl ⟨ble rfl, blt rfl⟩ rfl) (kx (ldP rfl rfl) (kx (bSub rfl rfl) (kx (mvO rfl) (Rn (hA h61 (hN rfl (hA h63 hZ))) fun e80 h82 h83 h84 => bN (sN (Rg (kx (mvO h84) (kx (bAdd rfl rfl) (kx (mvO rfl) (Rn (hA h82 (hA h83 (hN rfl hZ))) fun e85 h87 h88 h89 => ?_))))))))))))))))
  clear h61 h63 h64 h82 h83
  obtain rfl := si h
  exact qN ⟨h87, h88, h89⟩
 refine cF h34 hb35 (xx (sE ?_))
 obtain rfl := si h
 exact qE ⟨rfl, h32⟩
noncomputable def spec_l05Balance (a1 : List Item) : Option Int :=
 (Lw (spec_l05Balance_b1 a1) (0, 0)).bind fun y95 =>
 some y95
def spec_l05Balance_enc (r : Int) : AV := .int .i64 r
theorem spec_l05Balance_ok (a1 : List Item) (r : Int) (h : spec_l05Balance a1 = some r) : Ev (fun k => CN k 88 [.sl none (a1.map Item.c)] []) (fun p => rRes p.2 p.1 = spec_l05Balance_enc r) := by
 unfold spec_l05Balance at h
 obtain ⟨y95, hr91, h⟩ := bind_some h
 refine Ev.enter (F := fun k => f88 (CN k) k) (fun k => callN_eq rfl Try.func88 rfl rfl rfl (by decide +kernel) (f88_eq _ _)) (sq (Rg (kx (mvO rfl) (Rn (hN rfl hZ) fun e1 h3 => sN (sq (Rg (kx (mvO rfl) (Rn (hA h3 (hV (.int .i64 0) rfl hZ)) fun e4 h6 h7 => sN (sq (sq (Rg (kx (mvO rfl) (Rn (hA h6 (hA h7 (hV (.int .i64 0) rfl hZ))) fun e8 h10 h11 h12 => sN (bl (Ev.loop (RS := spec_l05Balance_b1_RS a1) (RR := spec_l05Balance_b1_RR a1) (fun s r h e M hs => spec_l05Balance_b1_ok a1 s r h e M hs) hr91 ⟨h10, h11, h12⟩ fun x e93 M94 hq92 => ?_)))))))))))))))
 clear h3 h6 h7
 obtain ⟨rfl, h96⟩ := hq92
 refine bE (sN (sq (Rg (kx (mvO h96) (kx (mvO rfl) (Rn (hN rfl hZ) fun e97 h99 => sN (xx ?_)))))))
 clear h96
 obtain rfl := si h
 exact eR (resT h99 res0) rfl
/-! ### loop.example/g01263/spec.l05Items (f87) -/
abbrev spec_l05Items_b1_S := Int
abbrev spec_l05Items_b1_R := Unit ⊕ Unit
def spec_l05Items_b1_RS (a1 : List Item) (s : spec_l05Items_b1_S) (e : Env) (M : Mem) : Prop := eget e 0 = .sl none (a1.map Item.c) ∧ eget e 3 = .int .i64 s
def spec_l05Items_b1_RR (a1 : List Item) (r : spec_l05Items_b1_R) (x : Ex) (e : Env) (M : Mem) : Prop :=
  match r with
  | (.inl g) => x = .ret ∧ eget e 2 = .bool false
  | (.inr g) => x = .ext 0 ∧ True
noncomputable def spec_l05Items_b1 (a1 : List Item) : spec_l05Items_b1_S → Option (spec_l05Items_b1_S ⊕ spec_l05Items_b1_R) := fun s1_1 =>
 if (decide (s1_1 < (a1.length : Int))) = true then
  (rd a1 s1_1).bind fun x34 =>
  (spec_l05Item x34).bind fun r37 =>
  if r37 = true then
   some (.inl (IntKind.i64.wrap (s1_1 + 1)))
  else
   some (.inr (.inl ()))
 else
  some (.inr (.inr ()))
theorem spec_l05Items_b1_ok (a1 : List Item) (s : spec_l05Items_b1_S) (r : spec_l05Items_b1_S ⊕ spec_l05Items_b1_R) (h : spec_l05Items_b1 a1 s = some r) (e : Env) (M : Mem) (hs : spec_l05Items_b1_RS a1 s e M) : Ev (fun k => (f87_l4 (CN k) k (prune [0, 3] e) M).bind fun q => some q) (bQ (spec_l05Items_b1_RS a1) (spec_l05Items_b1_RR a1) r) := by
 revert h hs
 revert s
 intro s1_1 h hs
 unfold spec_l05Items_b1 at h
 obtain ⟨h24, h26⟩ := hs
 generalize he23 : prune [0, 3] e = e22
 have h25 := envp he23.symm rfl h24
 have h27 := envp he23.symm rfl h26
 refine sq (sq (Rg (kx (mvO h27) (kx (mvO h25) (kx (lnS Try.underlying73 rfl) (kx (bLss rfl rfl) (Rn (hV (.sl none (a1.map Item.c)) h25 (hV (.int .i64 s1_1) h27 (hN rfl hZ))) fun e28 h30 h31 h32 => sN ?_)))))))
 clear h25 h27
 rcases ite_some h with ⟨hb33, h⟩ | ⟨hb33, h⟩
 ·obtain ⟨x34, hx35, h⟩ := bind_some h
  obtain ⟨r37, hx36, h⟩ := bind_some h
  refine cT h32 hb33 (xx (sN (sq (bl (sq (Rg (kx (mvO h30) (kx (mvO h31) (kx (ixS rfl rfl hx35 Item.fl) (kc (cl (v := .bool r37) rfl (cns rfl rfl) rfl (spec_l05Item_ok x34 _ hx36) nm) (kx (uNot rfl) (Rn (hA h30 (hA h31 (hN rfl hZ))) fun e38 h40 h41 h42 => sN ?_))))))))))))
  clear h30 h31 h32
  rcases ite_some h with ⟨hb43, h⟩ | ⟨hb43, h⟩
  ·refine cF h42 (congrArg Bool.not hb43) (xx (bN (sN (Rg (kx (mvO h41) (kx (bAdd rfl rfl) (kx (mvO rfl) (Rn (hA h40 (hN rfl hZ)) fun e44 h46 h47 => ?_))))))))
   clear h40 h42
   obtain rfl := si h
   exact qN ⟨h46, h47⟩
  refine cT h42 (congrArg Bool.not hb43) (sq (Rg (kx (mvO rfl) (Rn (hV (.bool false) rfl hZ) fun e48 h50 => sN (xx (bR (sR ?_)))))))
  clear h40 h41 h42
  obtain rfl := si h
  exact qR ⟨rfl, h50⟩
 refine cF h32 hb33 (xx (sE ?_))
 obtain rfl := si h
 exact qE ⟨rfl, trivial⟩
noncomputable def spec_l05Items (a1 : List Item) : Option Bool :=
 if (decide ((a1.length : Int) > 40)) = true then
  some false
 else
  (Lw (spec_l05Items_b1 a1) 0).bind fun r => match r with
  | (.inl _) =>
   some false
  | (.inr _) =>
   some true
def spec_l05Items_enc (r : Bool) : AV := .bool r
theorem spec_l05Items_ok (a1 : List Item) (r : Bool) (h : spec_l05Items a1 = some r) : Ev (fun k => CN k 87 [.sl none (a1.map Item.c)] []) (fun p => rRes p.2 p.1 = spec_l05Items_enc r) := by
 unfold spec_l05Items at h
 refine Ev.enter (F := fun k => f87 (CN k) k) (fun k => callN_eq rfl Try.func87 rfl rfl rfl (by decide +kernel) (f87_eq _ _)) (sq (Rg (kx (mvO rfl) (Rn (hN rfl hZ) fun e1 h3 => sN (sq (sq (Rg (kx (mvO h3) (kx (lnS Try.underlying73 rfl) (kx (bGtr rfl rfl) (Rn (hA h3 (hN rfl hZ)) fun e4 h6 h7 => sN ?_)))))))))))
 clear h3
 rcases ite_some h with ⟨hb8, h⟩ | ⟨hb8, h⟩
 ·refine cT h7 hb8 (sq (Rg (kx (mvO rfl) (Rn (hV (.bool false) rfl hZ) fun e9 h11 => sN (xx (sR ?_))))))
  clear h6 h7
  obtain rfl := si h
  exact eR (resT h11 res0) rfl
 obtain ⟨r51, hr52, h⟩ := bind_some h
 refine cF h7 hb8 (xx (sN (sq (sq (Rg (kx (mvO rfl) (Rn (hA h6 (hV (.int .i64 0) rfl hZ)) fun e12 h14 h15 => sN (bl ?_))))))))
 clear h6 h7
 rcases r51 with _ | _
 ·refine Ev.loop (RS := spec_l05Items_b1_RS a1) (RR := spec_l05Items_b1_RR a1) (fun s r h e M hs => spec_l05Items_b1_ok a1 s r h e M hs) hr52 ⟨h14, h15⟩ fun x e54 M55 hq53 => ?_
  obtain ⟨rfl, h56⟩ := hq53
  refine bR (sR ?_)
  obtain rfl := si h
  exact eR (resT h56 res0) rfl
 refine Ev.loop (RS := spec_l05Items_b1_RS a1) (RR := spec_l05Items_b1_RR a1) (fun s r h e M hs => spec_l05Items_b1_ok a1 s r h e M hs) hr52 ⟨h14, h15⟩ fun x e57 M58 hq53 => ?_
 obtain ⟨rfl, _⟩ := hq53
 refine bE (sN (sq (Rg (kx (mvO rfl) (Rn (hV (.bool true) rfl hZ) fun e59 h61 => sN (xx ?_))))))
 obtain rfl := si h
 exact eR (resT h61 res0) rfl
/-! ### loop.example/g01263/spec.l05Title (f86) -/
abbrev spec_l05Title_b1_S := Int
abbrev spec_l05Title_b1_R := Unit ⊕ Unit
def spec_l05Title_b1_RS (a1 : List UInt8) (s : spec_l05Title_b1_S) (e : Env) (M : Mem) : Prop := eget e 0 = .str a1 ∧ eget e 3 = .int .i64 s
def spec_l05Title_b1_RR (a1 : List UInt8) (r : spec_l05Title_b1_R) (x : Ex) (e : Env) (M : Mem) : Prop :=
  match r with
  | (.inl g) => x = .ret ∧ eget e 2 = .bool false
  | (.inr g) => x = .ext 0 ∧ eget e 0 = .str a1
noncomputable def spec_l05Title_b1 (a1 : List UInt8) : spec_l05Title_b1_S → Option (spec_l05Title_b1_S ⊕ spec_l05Title_b1_R) := fun s1_1 =>
 if (decide (s1_1 < (a1.length : Int))) = true then
  (rd a1 s1_1).bind fun x26 =>
  if (decide ((x26.toNat : Int) < 97)) = true then
   some (.inr (.inl ()))
  else
   (rd a1 s1_1).bind fun x37 =>
   if (decide ((x37.toNat : Int) > 122)) = true then
    some (.inr (.inl ()))
   else
    some (.inl (IntKind.i64.wrap (s1_1 + 1)))
 else
  some (.inr (.inr ()))
theorem spec_l05Title_b1_ok (a1 : List UInt8) (s : spec_l05Title_b1_S) (r : spec_l05Title_b1_S ⊕ spec_l05Title_b1_R) (h : spec_l05Title_b1 a1 s = some r) (e : Env) (M : Mem) (hs : spec_l05Title_b1_RS a1 s e M) : Ev (fun k => (f86_l2 (CN k) k (prune [0, 3] e) M).bind fun q => some q) (bQ (spec_l05Title_b1_RS a1) (spec_l05Title_b1_RR a1) r) := by
 revert h hs
 revert s
 intro s1_1 h hs
 unfold spec_l05Title_b1 at h
 obtain ⟨h16, h18⟩ := hs
 generalize he15 : prune [0, 3] e = e14
 have h17 := envp he15.symm rfl h16
 have h19 := envp he15.symm rfl h18
 refine sq (sq (Rg (kx (mvO h19) (kx (mvO h17) (kx (lnB Try.underlying9 rfl) (kx (bLss rfl rfl) (Rn (hV (.str a1) h17 (hV (.int .i64 s1_1) h19 (hN rfl hZ))) fun e20 h22 h23 h24 => sN ?_)))))))
 clear h17 h19
 rcases ite_some h with ⟨hb25, h⟩ | ⟨hb25, h⟩
 ·obtain ⟨x26, hx27, h⟩ := bind_some h
  refine cT h24 hb25 (xx (sN (sq (bl (sq (Rg (kx (mvO h22) (kx (mvO h23) (kx (ixB rfl rfl hx27) (kx (bLss rfl rfl) (kx (mvO rfl) ?_)))))))))))
  rcases ite_some h with ⟨hb28, h⟩ | ⟨hb28, h⟩
  ·refine kx (gsF rfl hb28) (kx (gsF rfl hb28) (kx (gsF rfl hb28) (kx (gsF rfl hb28) (kx (pkT rfl hb28 rfl) (Rn (hA h22 (hA h23 (hV (.bool true) rfl hZ))) fun e29 h31 h32 h33 => sN (cT h33 rfl (sq (Rg (kx (mvO rfl) (Rn (hV (.bool false) rfl hZ) fun e34 h36 => sN (xx (bR (sR ?_)))))))))))))
   clear h22 h23 h24 h31 h32 h33
   obtain rfl := si h
   exact qR ⟨rfl, h36⟩
  obtain ⟨x37, hx38, h⟩ := bind_some h
  refine kx (guF rfl hb28 (mvO h22)) (kx (guF rfl hb28 (mvO h23)) (kx (guF rfl hb28 (ixB rfl rfl hx38)) (kx (guF rfl hb28 (bGtr rfl rfl)) (kx (pkF rfl hb28 rfl) (Rn (hA h22 (hA h23 (hN rfl hZ))) fun e39 h41 h42 h43 => sN ?_)))))
  clear h22 h23 h24
  rcases ite_some h with ⟨hb44, h⟩ | ⟨hb44, h⟩
  ·refine cT h43 hb44 (sq (Rg (kx (mvO rfl) (Rn (hV (.bool false) rfl hZ) fun e45 h47 => sN (xx (bR (sR ?_)))))))
   clear h41 h42 h43
   obtain rfl := si h
   exact qR ⟨rfl, h47⟩
  refine cF h43 hb44 (xx (bN (sN (Rg (kx (mvO h42) (kx (bAdd rfl rfl) (kx (mvO rfl) (Rn (hA h41 (hN rfl hZ)) fun e48 h50 h51 => ?_))))))))
  clear h41 h43
  obtain rfl := si h
  exact qN ⟨h50, h51⟩
 refine cF h24 hb25 (xx (sE ?_))
 obtain rfl := si h
 exact qE ⟨rfl, h22⟩
noncomputable def spec_l05Title (a1 : List UInt8) : Option Bool :=
 (Lw (spec_l05Title_b1 a1) 0).bind fun r => match r with
 | (.inl _) =>
  some false
 | (.inr _) =>
  (spec_l00In (a1.length : Int) 1 16).bind fun r62 =>
  some r62
def spec_l05Title_enc (r : Bool) : AV := .bool r
theorem spec_l05Title_ok (a1 : List UInt8) (r : Bool) (h : spec_l05Title a1 = some r) : Ev (fun k => CN k 86 [.str a1] []) (fun p => rRes p.2 p.1 = spec_l05Title_enc r) := by
 unfold spec_l05Title at h
 obtain ⟨r52, hr53, h⟩ := bind_some h
 refine Ev.enter (F := fun k => f86 (CN k) k) (fun k => callN_eq rfl Try.func86 rfl rfl rfl (by decide +kernel) (f86_eq _ _)) (sq (Rg (kx (mvO rfl) (Rn (hN rfl hZ) fun e1 h3 => sN (sq (sq (Rg (kx (mvO rfl) (Rn (hA h3 (hV (.int .i64 0) rfl hZ)) fun e4 h6 h7 => sN (bl ?_))))))))))
 clear h3
 rcases r52 with _ | _
 ·refine Ev.loop (RS := spec_l05Title_b1_RS a1) (RR := spec_l05Title_b1_RR a1) (fun s r h e M hs => spec_l05Title_b1_ok a1 s r h e M hs) hr53 ⟨h6, h7⟩ fun x e55 M56 hq54 => ?_
  obtain ⟨rfl, h57⟩ := hq54
  refine bR (sR ?_)
  obtain rfl := si h
  exact eR (resT h57 res0) rfl
 refine Ev.loop (RS := spec_l05Title_b1_RS a1) (RR := spec_l05Title_b1_RR a1) (fun s r h e M hs => spec_l05Title_b1_ok a1 s r h e M hs) hr53 ⟨h6, h7⟩ fun x e58 M59 hq54 => ?_
 obtain ⟨rfl, h60⟩ := hq54
 obtain ⟨r62, hx61, h⟩ := bind_some h
 refine bE (sN (sq (Rg (kx (mvO h60) (kx (lnB Try.underlying9 rfl) (kc (cl (v := .bool r62) rfl (cns rfl (cns rfl (cns rfl rfl))) rfl (spec_l00In_ok (a1.length : Int) 1 16 _ hx61) nm) (kx (mvO rfl) (Rn (hN rfl hZ) fun e63 h65 => sN (xx ?_)))))))))
 clear h60
 obtain rfl := si h
 exact eR (resT h65 res0) rfl
/-! ### loop.example/g01263/laws.szItemS (f85) -/
noncomputable def laws_szItemS (a1 : List Item) (a2 : Int) : Option Int :=
 if (decide ((IntKind.i64.wrap (a2 - (a1.length : Int))) < 0)) = true then
  some (-1)
 else
  some (IntKind.i64.wrap (a2 - (a1.length : Int)))
def laws_szItemS_enc (r : Int) : AV := .int .i64 r
theorem laws_szItemS_ok (a1 : List Item) (a2 : Int) (r : Int) (h : laws_szItemS a1 a2 = some r) : Ev (fun k => CN k 85 [.sl none (a1.map Item.c), .int .i64 a2] []) (fun p => rRes p.2 p.1 = laws_szItemS_enc r) := by
 unfold laws_szItemS at h
 refine Ev.enter (F := fun k => f85 (CN k) k) (fun k => callN_eq rfl Try.func85 rfl rfl rfl (by decide +kernel) (f85_eq _ _)) (sq (Rg (kx (mvO rfl) (Rn (hN rfl (hN rfl hZ)) fun e1 h3 h4 => sN (sq (Rg (kx (mvO h4) (kx (mvO h3) (kx (lnS Try.underlying78 rfl) (kx (bSub rfl rfl) (kx (mvO rfl) (Rn (hN rfl hZ) fun e5 h7 => sN (sq (sq (Rg (kx (mvO h7) (kx (bLss rfl rfl) (Rn (hA h7 (hN rfl hZ)) fun e8 h10 h11 => sN ?_))))))))))))))))))
 clear h3 h7
 rcases ite_some h with ⟨hb12, h⟩ | ⟨hb12, h⟩
 ·refine cT h11 hb12 (sq (Rg (kx (mvO rfl) (Rn (hV (.int .i64 (-1)) rfl hZ) fun e13 h15 => sN (xx (sR ?_))))))
  clear h10 h11
  obtain rfl := si h
  exact eR (resT h15 res0) rfl
 refine cF h11 hb12 (xx (sN (sq (Rg (kx (mvO h10) (kx (mvO rfl) (Rn (hN rfl hZ) fun e16 h18 => sN (xx ?_))))))))
 clear h10 h11
 obtain rfl := si h
 exact eR (resT h18 res0) rfl
/-! ### loop.example/g01263/impl.CheckAccount (f46) -/
noncomputable def impl_CheckAccount (a1 : Account) : Option Bool :=
 (impl_isLetters a1.Title 16).bind fun r5 =>
 if r5 = true then
  (impl_ValidItems a1.Items).bind fun r8 =>
  if r8 = true then
   (impl_balance a1.Items).bind fun r11 =>
   some (a1.Balance == r11)
  else
   some false
 else
  some false
def impl_CheckAccount_enc (r : Bool) : AV := .bool r
theorem impl_CheckAccount_ok (a1 : Account) (r : Bool) (h : impl_CheckAccount a1 = some r) : Ev (fun k => CN k 46 [.agg [.str a1.Title, .sl none (a1.Items.map Item.c), .int .i64 a1.Balance]] []) (fun p => rRes p.2 p.1 = impl_CheckAccount_enc r) := by
 unfold impl_CheckAccount at h
 obtain ⟨r5, hx4, h⟩ := bind_some h
 refine Ev.enter (F := fun k => f46 (CN k) k) (fun k => callN_eq rfl Try.func46 rfl rfl rfl (by decide +kernel) (f46_eq _ _)) (sq (Rg (kx (bxI rfl rfl ⟨rfl, rfl, by decide⟩) (kx (mvO rfl) (Rn (hN rfl hZ) fun e1 h3 => sN (sq (Rd (kf (faP h3 ⟨ble rfl, blt rfl⟩ rfl) (kf (ldP rfl rfl) (fc (cl (v := .bool r5) rfl (cns rfl (cns rfl rfl)) rfl (impl_isLetters_ok a1.Title 16 _ hx4) nm) (kf (mvO rfl) ?_)))))))))))
 rcases ite_some h with ⟨hb6, h⟩ | ⟨hb6, h⟩
 ·obtain ⟨r8, hx7, h⟩ := bind_some h
  refine kf (guT rfl hb6 (faP h3 ⟨ble rfl, blt rfl⟩ rfl)) (kf (guT rfl hb6 (ldP rfl rfl)) (fc (Ev.guT rfl hb6 (cl (v := .bool r8) rfl (cns rfl rfl) rfl (impl_ValidItems_ok a1.Items _ hx7) nm)) (kf (pkT rfl hb6 rfl) (kf (mvO rfl) ?_))))
  rcases ite_some h with ⟨hb9, h⟩ | ⟨hb9, h⟩
  ·obtain ⟨r11, hx10, h⟩ := bind_some h
   refine kf (guT rfl hb9 (faP h3 ⟨ble rfl, blt rfl⟩ rfl)) (kf (guT rfl hb9 (ldP rfl rfl)) (kf (guT rfl hb9 (faP h3 ⟨ble rfl, blt rfl⟩ rfl)) (kf (guT rfl hb9 (ldP rfl rfl)) (fc (Ev.guT rfl hb9 (cl (v := .int .i64 r11) rfl (cns rfl rfl) rfl (impl_balance_ok a1.Items _ hx10) nm)) (kf (guT rfl hb9 (bEql rfl rfl)) (kf (pkT rfl hb9 rfl) (kf (mvO rfl) (fZ (Rn (hN rfl hZ) fun e12 h14 => sN (xx ?_))))))))))
   clear h3
   obtain rfl := si h
   exact eR (resT h14 res0) rfl
  refine kf (gsT rfl hb9) (kf (gsT rfl hb9) (kf (gsT rfl hb9) (kf (gsT rfl hb9) (fc (Ev.gsT rfl hb9) (kf (gsT rfl hb9) (kf (pkF rfl hb9 rfl) (kf (mvO rfl) (fZ (Rn (hV (.bool false) rfl hZ) fun e15 h17 => sN (xx ?_))))))))))
  clear h3
  obtain rfl := si h
  exact eR (resT h17 res0) rfl
 refine kf (gsT rfl hb6) (kf (gsT rfl hb6) (fc (Ev.gsT rfl hb6) (kf (pkF rfl hb6 rfl) (kf (mvO rfl) (kf (gsT rfl rfl) (kf (gsT rfl rfl) (kf (gsT rfl rfl) (kf (gsT rfl rfl) (fc (Ev.gsT rfl rfl) (kf (gsT rfl rfl) (kf (pkF rfl rfl rfl) (kf (mvO rfl) (fZ (Rn (hV (.bool false) rfl hZ) fun e18 h20 => sN (xx ?_)))))))))))))))
 clear h3
 obtain rfl := si h
 exact eR (resT h20 res0) rfl
/-! ### loop.example/g01263/impl.hasTitle$1 (f95) -/
noncomputable def impl_hasTitle_1 (a1 : Account) (a2 : List UInt8) : Option Bool :=
 some (a1.Title == a2)
def impl_hasTitle_1_enc (r : Bool) : AV := .bool r
theorem impl_hasTitle_1_ok (a1 : Account) (a2 : List UInt8) (r : Bool) (h : impl_hasTitle_1 a1 a2 = some r) : Ev (fun k => CN k 95 [.agg [.str a1.Title, .sl none (a1.Items.map Item.c), .int .i64 a1.Balance], .pt none [.str a2]] []) (fun p => rRes p.2 p.1 = impl_hasTitle_1_enc r) := by
 unfold impl_hasTitle_1 at h
 refine Ev.enter (F := fun k => f95 (CN k) k) (fun k => callN_eq rfl Try.func95 rfl rfl rfl (by decide +kernel) (f95_eq _ _)) (sq (Rg (kx (bxI rfl rfl ⟨rfl, rfl, by decide⟩) (kx (mvO rfl) (Rn (hN rfl (hN rfl hZ)) fun e1 h3 h4 => sN (sq (Rg (kx (faP h4 ⟨ble rfl, blt rfl⟩ rfl) (kx (ldP rfl rfl) (kx (ldP h3 rfl) (kx (sEql rfl rfl) (kx (mvO rfl) (Rn (hN rfl hZ) fun e5 h7 => sN (xx ?_))))))))))))))
 clear h3 h4
 obtain rfl := si h
 exact eR (resT h7 res0) rfl
/-! ### slices.IndexFunc[[]loop.example/g01263/impl.Account,loop.example/g01263/impl.Account] (f116) -/
abbrev slices_IndexFunc_Account__impl_hasTitle_1_b1_S := Int
abbrev slices_IndexFunc_Account__impl_hasTitle_1_b1_R := Int ⊕ Unit
def slices_IndexFunc_Account__impl_hasTitle_1_b1_RS (a1 : List Account) (a2 : List UInt8) (s : slices_IndexFunc_Account__impl_hasTitle_1_b1_S) (e : Env) (M : Mem) : Prop := eget e 0 = .sl none (a1.map Account.c) ∧ eget e 1 = .fn 95 [.pt none [.str a2]] ∧ eget e 7 = .int .i64 (a1.length : Int) ∧ eget e 8 = .int .i64 s
def slices_IndexFunc_Account__impl_hasTitle_1_b1_RR (a1 : List Account) (a2 : List UInt8) (r : slices_IndexFunc_Account__impl_hasTitle_1_b1_R) (x : Ex) (e : Env) (M : Mem) : Prop :=
  match r with
  | (.inl g) => x = .ret ∧ eget e 4 = .int .i64 g
  | (.inr g) => x = .ext 0 ∧ True
noncomputable def slices_IndexFunc_Account__impl_hasTitle_1_b1 (a1 : List Account) (a2 : List UInt8) : slices_IndexFunc_Account__impl_hasTitle_1_b1_S → Option (slices_IndexFunc_Account__impl_hasTitle_1_b1_S ⊕ slices_IndexFunc_Account__impl_hasTitle_1_b1_R) := fun s1_1 =>
 if (decide (s1_1 < (a1.length : Int))) = true then
  (rd a1 s1_1).bind fun x46 =>
  (impl_hasTitle_1 x46 a2).bind fun r49 =>
  if r49 = true then
   some (.inr (.inl s1_1))
  else
   some (.inl (IntKind.i64.wrap (s1_1 + 1)))
 else
  some (.inr (.inr ()))
theorem slices_IndexFunc_Account__impl_hasTitle_1_b1_ok (a1 : List Account) (a2 : List UInt8) (s : slices_IndexFunc_Account__impl_hasTitle_1_b1_S) (r : slices_IndexFunc_Account__impl_hasTitle_1_b1_S ⊕ slices_IndexFunc_Account__impl_hasTitle_1_b1_R) (h : slices_IndexFunc_Account__impl_hasTitle_1_b1 a1 a2 s = some r) (e : Env) (M : Mem) (hs : slices_IndexFunc_Account__impl_hasTitle_1_b1_RS a1 a2 s e M) : Ev (fun k => (f116_l2 (CN k) k (prune [0, 1, 7, 8] e) M).bind fun q => some q) (bQ (slices_IndexFunc_Account__impl_hasTitle_1_b1_RS a1 a2) (slices_IndexFunc_Account__impl_hasTitle_1_b1_RR a1 a2) r) := by
 revert h hs
 revert s
 intro s1_1 h hs
 unfold slices_IndexFunc_Account__impl_hasTitle_1_b1 at h
 obtain ⟨h23, h25, h27, h29⟩ := hs
 generalize he22 : prune [0, 1, 7, 8] e = e21
 have h24 := envp he22.symm rfl h23
 have h26 := envp he22.symm rfl h25
 have h28 := envp he22.symm rfl h27
 have h30 := envp he22.symm rfl h29
 refine sq (Rg (kx (bLss h30 h28) (Rn (hV (.sl none (a1.map Account.c)) h24 (hV (.fn 95 [.pt none [.str a2]]) h26 (hA h28 (hV (.int .i64 s1_1) h30 (hN rfl hZ))))) fun e31 h33 h34 h35 h36 h37 => sN (sq ?_))))
 clear h24 h26 h28 h30
 rcases ite_some h with ⟨hb38, h⟩ | ⟨hb38, h⟩
 ·obtain ⟨x46, hx47, h⟩ := bind_some h
  obtain ⟨r49, hx48, h⟩ := bind_some h
  refine cT h37 hb38 (xx (sN (sq (bl (sq (Rg (kx (mvO h36) (kx (mvO rfl) (Rn (hA h33 (hA h34 (hN rfl (hA h35 (hA h36 hZ))))) fun e39 h41 h42 h43 h44 h45 => sN (sq (Rg (kx (mvO h42) (kx (mvO h41) (kx (mvO h43) (kx (ixS rfl rfl hx47 Account.fl) (kx (ldPA rfl rfl rfl) (kc (cl (v := .bool r49) rfl (cns rfl (cns rfl rfl)) rfl (impl_hasTitle_1_ok x46 a2 _ hx48) nm) (Rn (hA h41 (hA h42 (hA h43 (hA h44 (hA h45 (hN rfl hZ)))))) fun e50 h52 h53 h54 h55 h56 h57 => sN ?_))))))))))))))))))
  clear h33 h34 h35 h36 h37 h41 h42 h43 h44 h45
  rcases ite_some h with ⟨hb58, h⟩ | ⟨hb58, h⟩
  ·refine cT h57 hb58 (sq (Rg (kx (mvO h54) (kx (mvO rfl) (Rn (hN rfl hZ) fun e59 h61 => sN (xx (bR (sR ?_))))))))
   clear h52 h53 h54 h55 h56 h57
   obtain rfl := si h
   exact qR ⟨rfl, h61⟩
  refine cF h57 hb58 (xx (bN (sN (Rg (kx (bAdd h56 rfl) (kx (mvO rfl) (Rn (hA h52 (hA h53 (hA h55 (hN rfl hZ)))) fun e62 h64 h65 h66 h67 => ?_)))))))
  clear h52 h53 h54 h55 h57
  obtain rfl := si h
  exact qN ⟨h64, h65, h66, h67⟩
 refine cF h37 hb38 (xx (sE ?_))
 obtain rfl := si h
 exact qE ⟨rfl, trivial⟩
noncomputable def slices_IndexFunc_Account__impl_hasTitle_1 (a1 : List Account) (a2 : List UInt8) : Option Int :=
 (Lw (slices_IndexFunc_Account__impl_hasTitle_1_b1 a1 a2) 0).bind fun r => match r with
 | (.inl y73) =>
  some y73
 | (.inr _) =>
  some (-1)
def slices_IndexFunc_Account__impl_hasTitle_1_enc (r : Int) : AV := .int .i64 r
theorem slices_IndexFunc_Account__impl_hasTitle_1_ok (a1 : List Account) (a2 : List UInt8) (r : Int) (h : slices_IndexFunc_Account__impl_hasTitle_1 a1 a2 = some r) : Ev (fun k => CN k 116 [.sl none (a1.map Account.c), .fn 95 [.pt none [.str a2]]] []) (fun p => rRes p.2 p.1 = slices_IndexFunc_Account__impl_hasTitle_1_enc r) := by
 unfold slices_IndexFunc_Account__impl_hasTitle_1 at h
 obtain ⟨r68, hr69, h⟩ := bind_some h
 refine Ev.enter (F := fun k => f116 (CN k) k) (fun k => callN_eq rfl Try.func116 rfl rfl rfl (by decide +kernel) (f116_eq _ _)) (sq (Rg (kx (mvO rfl) (Rn (hN rfl (hV (.fn 95 [.pt none [.str a2]]) rfl hZ)) fun e1 h3 h4 => sN (sq (sq (Rg (kx (mvO h3) (kx (lnS Try.underlying28 rfl) (kx (mvO rfl) (Rn (hA h3 (hA h4 (hN rfl (hV (.int .i64 0) rfl hZ)))) fun e5 h7 h8 h9 h10 => sN (bl ?_))))))))))))
 clear h3 h4
 rcases r68 with y73 | _
 ·refine Ev.loop (RS := slices_IndexFunc_Account__impl_hasTitle_1_b1_RS a1 a2) (RR := slices_IndexFunc_Account__impl_hasTitle_1_b1_RR a1 a2) (fun s r h e M hs => slices_IndexFunc_Account__impl_hasTitle_1_b1_ok a1 a2 s r h e M hs) hr69 ⟨h7, h8, h9, h10⟩ fun x e71 M72 hq70 => ?_
  obtain ⟨rfl, h74⟩ := hq70
  refine bR (sR ?_)
  obtain rfl := si h
  exact eR (resT h74 res0) rfl
 refine Ev.loop (RS := slices_IndexFunc_Account__impl_hasTitle_1_b1_RS a1 a2) (RR := slices_IndexFunc_Account__impl_hasTitle_1_b1_RR a1 a2) (fun s r h e M hs => slices_IndexFunc_Account__impl_hasTitle_1_b1_ok a1 a2 s r h e M hs) hr69 ⟨h7, h8, h9, h10⟩ fun x e75 M76 hq70 => ?_
 obtain ⟨rfl, _⟩ := hq70
 refine bE (sN (sq (Rg (kx (mvO rfl) (Rn (hV (.int .i64 (-1)) rfl hZ) fun e77 h79 => sN (xx ?_))))))
 obtain rfl := si h
 exact eR (resT h79 res0) rfl
/-! ### slices.ContainsFunc[[]loop.example/g01263/impl.Account,loop.example/g01263/impl.Account] (f94) -/
noncomputable def slices_ContainsFunc_Account__impl_hasTitle_1 (a1 : List Account) (a2 : List UInt8) : Option Bool :=
 (slices_IndexFunc_Account__impl_hasTitle_1 a1 a2).bind fun r6 =>
 some (decide (r6 ≥ 0))
def slices_ContainsFunc_Account__impl_hasTitle_1_enc (r : Bool) : AV := .bool r
theorem slices_ContainsFunc_Account__impl_hasTitle_1_ok (a1 : List Account) (a2 : List UInt8) (r : Bool) (h : slices_ContainsFunc_Account__impl_hasTitle_1 a1 a2 = some r) : Ev (fun k => CN k 94 [.sl none (a1.map Account.c), .fn 95 [.pt none [.str a2]]] []) (fun p => rRes p.2 p.1 = slices_ContainsFunc_Account__impl_hasTitle_1_enc r) := by
 unfold slices_ContainsFunc_Account__impl_hasTitle_1 at h
 obtain ⟨r6, hx5, h⟩ := bind_some h
 refine Ev.enter (F := fun k => f94 (CN k) k) (fun k => callN_eq rfl Try.func94 rfl rfl rfl (by decide +kernel) (f94_eq _ _)) (sq (Rg (kx (mvO rfl) (Rn (hN rfl (hV (.fn 95 [.pt none [.str a2]]) rfl hZ)) fun e1 h3 h4 => sN (sq (Rg (kx (mvO h3) (kx (mvO h4) (kc (cl (v := .int .i64 r6) rfl (cns rfl (cns rfl rfl)) rfl (slices_IndexFunc_Account__impl_hasTitle_1_ok a1 a2 _ hx5) nm) (kx (bGeq rfl rfl) (kx (mvO rfl) (Rn (hN rfl hZ) fun e7 h9 => sN (xx ?_)))))))))))))
 clear h3 h4
 obtain rfl := si h
 exact eR (resT h9 res0) rfl
/-! ### loop.example/g01263/impl.hasTitle (f48) -/
noncomputable def impl_hasTitle (a1 : List Account) (a2 : List UInt8) : Option Bool :=
 (slices_ContainsFunc_Account__impl_hasTitle_1 a1 a2).bind fun r6 =>
 some r6
def impl_hasTitle_enc (r : Bool) : AV := .bool r
theorem impl_hasTitle_ok (a1 : List Account) (a2 : List UInt8) (r : Bool) (h : impl_hasTitle a1 a2 = some r) : Ev (fun k => CN k 48 [.sl none (a1.map Account.c), .str a2] []) (fun p => rRes p.2 p.1 = impl_hasTitle_enc r) := by
 unfold impl_hasTitle at h
 obtain ⟨r6, hx5, h⟩ := bind_some h
 refine Ev.enter (F := fun k => f48 (CN k) k) (fun k => callN_eq rfl Try.func48 rfl rfl rfl (by decide +kernel) (f48_eq _ _)) (sq (Rg (kx (bxI rfl rfl ⟨rfl, rfl, by decide⟩) (kx (mvO rfl) (Rn (hN rfl (hN rfl hZ)) fun e1 h3 h4 => sN (sq (Rg (kx (mvO h3) (kx (mvO (congrArg (AV.fn 95) (cns h4 rfl))) (kc (cl (v := .bool r6) rfl (cns rfl (cns rfl rfl)) rfl (slices_ContainsFunc_Account__impl_hasTitle_1_ok a1 a2 _ hx5) nm) (kx (mvO rfl) (Rn (hN rfl hZ) fun e7 h9 => sN (xx ?_)))))))))))))
 clear h3 h4
 obtain rfl := si h
 exact eR (resT h9 res0) rfl
/-! ### loop.example/g01263/impl.owed (f47) -/
abbrev impl_owed_b1_S := Int × Int
abbrev impl_owed_b1_R := Int
def impl_owed_b1_RS (a1 : List Account) (s : impl_owed_b1_S) (e : Env) (M : Mem) : Prop := eget e 3 = .int .i64 s.1 ∧ eget e 6 = .sl none (a1.map Account.c) ∧ eget e 7 = .int .i64 (a1.length : Int) ∧ eget e 8 = .int .i64 s.2
def impl_owed_b1_RR (a1 : List Account) (g : impl_owed_b1_R) (x : Ex) (e : Env) (M : Mem) : Prop := x = .ext 0 ∧ eget e 3 = .int .i64 g
noncomputable def impl_owed_b1 (a1 : List Account) : impl_owed_b1_S → Option (impl_owed_b1_S ⊕ impl_owed_b1_R) := fun (s1_1, s1_2) =>
 if (decide (s1_2 < (a1.length : Int))) = true then
  (rd a1 s1_2).bind fun x42 =>
  some (.inl ((IntKind.i64.wrap (s1_1 + (max x42.Balance 0))), (IntKind.i64.wrap (s1_2 + 1))))
 else
  some (.inr s1_1)
theorem impl_owed_b1_ok (a1 : List Account) (s : impl_owed_b1_S) (r : impl_owed_b1_S ⊕ impl_owed_b1_R) (h : impl_owed_b1 a1 s = some r) (e : Env) (M : Mem) (hs : impl_owed_b1_RS a1 s e M) : Ev (fun k => (f47_l3 (CN k) k (prune [3, 6, 7, 8] e) M).bind fun q => some q) (bQ (impl_owed_b1_RS a1) (impl_owed_b1_RR a1) r) := by
 obtain ⟨s1_1, s1_2⟩ := s
 unfold impl_owed_b1 at h
 obtain ⟨h26, h28, h30, h32⟩ := hs
 generalize he25 : prune [3, 6, 7, 8] e = e24
 have h27 := envp he25.symm rfl h26
 have h29 := envp he25.symm rfl h28
 have h31 := envp he25.symm rfl h30
 have h33 := envp he25.symm rfl h32
 refine sq (Rg (kx (bLss h33 h31) (Rn (hV (.int .i64 s1_1) h27 (hV (.sl none (a1.map Account.c)) h29 (hV (.int .i64 (a1.length : Int)) h31 (hV (.int .i64 s1_2) h33 (hN rfl hZ))))) fun e34 h36 h37 h38 h39 h40 => sN (sq ?_))))
 clear h27 h29 h31 h33
 rcases ite_some h with ⟨hb41, h⟩ | ⟨hb41, h⟩
 ·obtain ⟨x42, hx43, h⟩ := bind_some h
  refine cT h40 hb41 (xx (sN (sq (bl (sq (Rg (kx (ixS h37 h39 hx43 Account.fl) (kx (ldPA rfl rfl rfl) (ku (alO zero75) fun M45 hM46 => ?_)))))))))
  have o47 : M45[M.length]? = some (.live ⟨.box, 75, 3, [[.str ([] : List UInt8), .nils, .int .i64 0]]⟩) := push_new hM46
  refine kw (stO rfl rfl o47 rfl rfl ⟨rfl, ble rfl⟩ rfl rfl) fun M48 hM49 => ?_
  have o50 : M48[M.length]? = some (.live ⟨.box, 75, 3, [[.str x42.Title, .sl none (x42.Items.map Item.c), .int .i64 x42.Balance]]⟩) := set_same hM49 o47
  refine Rn (hA h36 (hV (.loc M.length 1 0 0) rfl (hA h37 (hA h38 (hA h39 hZ))))) fun e51 h53 h54 h55 h56 h57 => sN (Rg (kx (mvO h53) (kx (faO h54 o50 rfl) (kx (ldO rfl o50 rfl rfl rfl) (kx (bMax rfl rfl) (kx (bAdd rfl rfl) (kx (mvO rfl) (Rn (hN rfl (hA h55 (hA h56 (hA h57 hZ)))) fun e58 h60 h61 h62 h63 => bN (sN (Rg (kx (bAdd h63 rfl) (kx (mvO rfl) (Rn (hA h60 (hA h61 (hA h62 (hN rfl hZ)))) fun e64 h66 h67 h68 h69 => ?_)))))))))))))
  clear h36 h37 h38 h39 h40 h54 h55 h56 h57 h60 h61 h62
  obtain rfl := si h
  exact qN ⟨h66, h67, h68, h69⟩
 refine cF h40 hb41 (xx (sE ?_))
 obtain rfl := si h
 exact qE ⟨rfl, h36⟩
noncomputable def impl_owed (a1 : List Account) : Option Int :=
 (Lw (impl_owed_b1 a1) (0, 0)).bind fun y75 =>
 some y75
def impl_owed_enc (r : Int) : AV := .int .i64 r
theorem impl_owed_ok (a1 : List Account) (r : Int) (h : impl_owed a1 = some r) : Ev (fun k => CN k 47 [.sl none (a1.map Account.c)] []) (fun p => rRes p.2 p.1 = impl_owed_enc r) := by
 unfold impl_owed at h
 obtain ⟨y75, hr71, h⟩ := bind_some h
 refine Ev.enter (F := fun k => f47 (CN k) k) (fun k => callN_eq rfl Try.func47 rfl rfl rfl (by decide +kernel) (f47_eq _ _)) (sq (Rg (kx (mvO rfl) (Rn (hN rfl hZ) fun e1 h3 => sN (sq (Rg (kx (mvO rfl) (Rn (hA h3 (hV (.int .i64 0) rfl hZ)) fun e4 h6 h7 => sN (sq (sq (Rg (kx (mvO h6) (kx (lnS Try.underlying28 rfl) (kx (mvO rfl) (Rn (hA h7 (hN rfl (hN rfl (hV (.int .i64 0) rfl hZ)))) fun e8 h10 h11 h12 h13 => sN (bl (Ev.loop (RS := impl_owed_b1_RS a1) (RR := impl_owed_b1_RR a1) (fun s r h e M hs => impl_owed_b1_ok a1 s r h e M hs) hr71 ⟨h10, h11, h12, h13⟩ fun x e73 M74 hq72 => ?_)))))))))))))))))
 clear h3 h6 h7
 obtain ⟨rfl, h76⟩ := hq72
 refine bE (sN (sq (Rg (kx (mvO h76) (kx (mvO rfl) (Rn (hN rfl hZ) fun e77 h79 => sN (xx ?_)))))))
 clear h76
 obtain rfl := si h
 exact eR (resT h79 res0) rfl
/-! ### loop.example/g01263/impl.FirstFault (f84) -/
abbrev impl_FirstFault_b1_S := Int
abbrev impl_FirstFault_b1_R := Int ⊕ Unit
def impl_FirstFault_b1_RS (a1 : Roll) (s : impl_FirstFault_b1_S) (e : Env) (M : Mem) : Prop := eget e 1 = .pt none [.sl none (a1.Accounts.map Account.c), .int .i64 a1.Owed] ∧ eget e 11 = .sl none (a1.Accounts.map Account.c) ∧ eget e 12 = .int .i64 (a1.Accounts.length : Int) ∧ eget e 13 = .int .i64 s
def impl_FirstFault_b1_RR (a1 : Roll) (r : impl_FirstFault_b1_R) (x : Ex) (e : Env) (M : Mem) : Prop :=
  match r with
  | (.inl g) => x = .ret ∧ eget e 2 = .int .i64 g ∧ eget e 3 = .int .i64 0
  | (.inr g) => x = .ext 0 ∧ eget e 1 = .pt none [.sl none (a1.Accounts.map Account.c), .int .i64 a1.Owed]
noncomputable def impl_FirstFault_b1 (a1 : Roll) : impl_FirstFault_b1_S → Option (impl_FirstFault_b1_S ⊕ impl_FirstFault_b1_R) := fun s1_1 =>
 if (decide (s1_1 < (a1.Accounts.length : Int))) = true then
  (rd a1.Accounts s1_1).bind fun x47 =>
  (impl_CheckAccount x47).bind fun r65 =>
  if r65 = true then
   (slc a1.Accounts 0 s1_1).bind fun x67 =>
   (impl_hasTitle x67 x47.Title).bind fun r70 =>
   if r70 = true then
    some (.inr (.inl s1_1))
   else
    some (.inl (IntKind.i64.wrap (s1_1 + 1)))
  else
   some (.inr (.inl s1_1))
 else
  some (.inr (.inr ()))
theorem impl_FirstFault_b1_ok (a1 : Roll) (s : impl_FirstFault_b1_S) (r : impl_FirstFault_b1_S ⊕ impl_FirstFault_b1_R) (h : impl_FirstFault_b1 a1 s = some r) (e : Env) (M : Mem) (hs : impl_FirstFault_b1_RS a1 s e M) : Ev (fun k => (f84_l4 (CN k) k (prune [1, 11, 12, 13] e) M).bind fun q => some q) (bQ (impl_FirstFault_b1_RS a1) (impl_FirstFault_b1_RR a1) r) := by
 revert h hs
 revert s
 intro s1_1 h hs
 unfold impl_FirstFault_b1 at h
 obtain ⟨h31, h33, h35, h37⟩ := hs
 generalize he30 : prune [1, 11, 12, 13] e = e29
 have h32 := envp he30.symm rfl h31
 have h34 := envp he30.symm rfl h33
 have h36 := envp he30.symm rfl h35
 have h38 := envp he30.symm rfl h37
 refine sq (Rg (kx (bLss h38 h36) (Rn (hV (.pt none [.sl none (a1.Accounts.map Account.c), .int .i64 a1.Owed]) h32 (hV (.sl none (a1.Accounts.map Account.c)) h34 (hV (.int .i64 (a1.Accounts.length : Int)) h36 (hV (.int .i64 s1_1) h38 (hN rfl hZ))))) fun e39 h41 h42 h43 h44 h45 => sN (sq ?_))))
 clear h32 h34 h36 h38
 rcases ite_some h with ⟨hb46, h⟩ | ⟨hb46, h⟩
 ·obtain ⟨x47, hx48, h⟩ := bind_some h
  refine cT h45 hb46 (xx (sN (sq (bl (sq (Rg (kx (mvO h44) (kx (ixS h42 h44 hx48 Account.fl) (kx (ldPA rfl rfl rfl) (ku (alO zero75) fun M50 hM51 => ?_))))))))))
  have o52 : M50[M.length]? = some (.live ⟨.box, 75, 3, [[.str ([] : List UInt8), .nils, .int .i64 0]]⟩) := push_new hM51
  refine kx (mvO rfl) (kw (stO rfl rfl o52 rfl rfl ⟨rfl, ble rfl⟩ rfl rfl) fun M53 hM54 => ?_)
  have o55 : M53[M.length]? = some (.live ⟨.box, 75, 3, [[.str x47.Title, .sl none (x47.Items.map Item.c), .int .i64 x47.Balance]]⟩) := set_same hM54 o52
  obtain ⟨r65, hx64, h⟩ := bind_some h
  refine Rn (hA h41 (hN rfl (hV (.loc M.length 1 0 0) rfl (hA h42 (hA h43 (hA h44 hZ)))))) fun e56 h58 h59 h60 h61 h62 h63 => sN (sq (Rd (kf (ldOA h60 o55 rfl rfl (ble rfl) rfl) (fc (cl (v := .bool r65) rfl (cns rfl rfl) rfl (impl_CheckAccount_ok x47 _ hx64) nm) (kf (uNot rfl) (kf (mvO rfl) ?_))))))
  clear h41 h42 h43 h44 h45
  rcases ite_some h with ⟨hb66, h⟩ | ⟨hb66, h⟩
  ·obtain ⟨x67, hx68, h⟩ := bind_some h
   obtain ⟨r70, hx69, h⟩ := bind_some h
   refine kf (guF rfl (congrArg Bool.not hb66) (faP h58 ⟨ble rfl, blt rfl⟩ rfl)) (kf (guF rfl (congrArg Bool.not hb66) (ldP rfl rfl)) (kf (guF rfl (congrArg Bool.not hb66) (mvO h59)) (kf (guF rfl (congrArg Bool.not hb66) (slS rfl rfl (bnd1 rfl) hx68 Account.fl)) (kf (guF rfl (congrArg Bool.not hb66) (faO h60 o55 rfl)) (kf (guF rfl (congrArg Bool.not hb66) (ldO rfl o55 rfl rfl rfl)) (fc (Ev.guF rfl (congrArg Bool.not hb66) (cl (v := .bool r70) rfl (cns rfl (cns rfl rfl)) rfl (impl_hasTitle_ok x67 x47.Title _ hx69) nm)) (kf (pkF rfl (congrArg Bool.not hb66) rfl) (fZ (Rn (hA h58 (hA h59 (hA h61 (hA h62 (hA h63 (hN rfl hZ)))))) fun e71 h73 h74 h75 h76 h77 h78 => sN ?_)))))))))
   clear h58 h59 h60 h61 h62 h63
   rcases ite_some h with ⟨hb79, h⟩ | ⟨hb79, h⟩
   ·refine cT h78 hb79 (sq (Rg (kx (mvO h74) (kx (mvO rfl) (kx (mvO rfl) (Rn (hN rfl (hV (.int .i64 0) rfl hZ)) fun e80 h82 h83 => sN (xx (bR (sR ?_)))))))))
    clear h73 h74 h75 h76 h77 h78
    obtain rfl := si h
    exact qR ⟨rfl, h82, h83⟩
   refine cF h78 hb79 (xx (bN (sN (Rg (kx (bAdd h77 rfl) (kx (mvO rfl) (Rn (hA h73 (hA h75 (hA h76 (hN rfl hZ)))) fun e84 h86 h87 h88 h89 => ?_)))))))
   clear h73 h74 h75 h76 h78
   obtain rfl := si h
   exact qN ⟨h86, h87, h88, h89⟩
  refine kf (gsF rfl (congrArg Bool.not hb66)) (kf (gsF rfl (congrArg Bool.not hb66)) (kf (gsF rfl (congrArg Bool.not hb66)) (kf (gsF rfl (congrArg Bool.not hb66)) (kf (gsF rfl (congrArg Bool.not hb66)) (kf (gsF rfl (congrArg Bool.not hb66)) (fc (Ev.gsF rfl (congrArg Bool.not hb66)) (kf (pkT rfl (congrArg Bool.not hb66) rfl) (fZ (Rn (hA h58 (hA h59 (hA h61 (hA h62 (hA h63 (hV (.bool true) rfl hZ)))))) fun e90 h92 h93 h94 h95 h96 h97 => sN (cT h97 rfl (sq (Rg (kx (mvO h93) (kx (mvO rfl) (kx (mvO rfl) (Rn (hN rfl (hV (.int .i64 0) rfl hZ)) fun e98 h100 h101 => sN (xx (bR (sR ?_)))))))))))))))))))
  clear h58 h59 h60 h61 h62 h63 h92 h93 h94 h95 h96 h97
  obtain rfl := si h
  exact qR ⟨rfl, h100, h101⟩
 refine cF h45 hb46 (xx (sE ?_))
 obtain rfl := si h
 exact qE ⟨rfl, h41⟩
noncomputable def impl_FirstFault (a1 : Roll) : Option (Int × Int) :=
 if (decide ((a1.Accounts.length : Int) > 20)) = true then
  some (0, 3)
 else
  (Lw (impl_FirstFault_b1 a1) 0).bind fun r => match r with
  | (.inl y107) =>
   some (y107, 0)
  | (.inr _) =>
   (impl_owed a1.Accounts).bind fun r114 =>
   if (a1.Owed != r114) = true then
    some ((a1.Accounts.length : Int), 0)
   else
    some (0, 6)
def impl_FirstFault_enc (r : Int × Int) : AV := .tup [.int .i64 r.1, .int .i64 r.2]
theorem impl_FirstFault_ok (a1 : Roll) (r : Int × Int) (h : impl_FirstFault a1 = some r) : Ev (fun k => CN k 84 [.agg [.sl none (a1.Accounts.map Account.c), .int .i64 a1.Owed]] []) (fun p => rRes p.2 p.1 = impl_FirstFault_enc r) := by
 unfold impl_FirstFault at h
 refine Ev.enter (F := fun k => f84 (CN k) k) (fun k => callN_eq rfl Try.func84 rfl rfl rfl (by decide +kernel) (f84_eq _ _)) (sq (Rg (kx (bxI rfl rfl ⟨rfl, rfl, by decide⟩) (kx (mvO rfl) (kx (mvO rfl) (Rn (hN rfl hZ) fun e1 h3 => sN (sq (sq (Rg (kx (faP h3 ⟨ble rfl, blt rfl⟩ rfl) (kx (ldP rfl rfl) (kx (lnS Try.underlying28 rfl) (kx (bGtr rfl rfl) (Rn (hA h3 (hN rfl hZ)) fun e4 h6 h7 => sN ?_))))))))))))))
 clear h3
 rcases ite_some h with ⟨hb8, h⟩ | ⟨hb8, h⟩
 ·refine cT h7 hb8 (sq (Rg (kx (mvO rfl) (kx (mvO rfl) (Rn (hV (.int .i64 0) rfl (hV (.int .i64 3) rfl hZ)) fun e9 h11 h12 => sN (xx (sR ?_)))))))
  clear h6 h7
  obtain rfl := si h
  exact eR (resT h11 (resT h12 res0)) rfl
 obtain ⟨r102, hr103, h⟩ := bind_some h
 refine cF h7 hb8 (xx (sN (sq (sq (Rg (kx (faP h6 ⟨ble rfl, blt rfl⟩ rfl) (kx (ldP rfl rfl) (kx (lnS Try.underlying28 rfl) (kx (mvO rfl) (Rn (hA h6 (hN rfl (hN rfl (hV (.int .i64 0) rfl hZ)))) fun e13 h15 h16 h17 h18 => sN (bl ?_)))))))))))
 clear h6 h7
 rcases r102 with y107 | _
 ·refine Ev.loop (RS := impl_FirstFault_b1_RS a1) (RR := impl_FirstFault_b1_RR a1) (fun s r h e M hs => impl_FirstFault_b1_ok a1 s r h e M hs) hr103 ⟨h15, h16, h17, h18⟩ fun x e105 M106 hq104 => ?_
  obtain ⟨rfl, h108, h109⟩ := hq104
  refine bR (sR ?_)
  obtain rfl := si h
  exact eR (resT h108 (resT h109 res0)) rfl
 refine Ev.loop (RS := impl_FirstFault_b1_RS a1) (RR := impl_FirstFault_b1_RR a1) (fun s r h e M hs => impl_FirstFault_b1_ok a1 s r h e M hs) hr103 ⟨h15, h16, h17, h18⟩ fun x e110 M111 hq104 => ?_
 obtain ⟨rfl, h112⟩ := hq104
 obtain ⟨r114, hx113, h⟩ := bind_some h
 refine bE (sN (sq (sq (Rd (kf (faP h112 ⟨ble rfl, blt rfl⟩ rfl) (kf (ldP rfl rfl) (kf (faP h112 ⟨ble rfl, blt rfl⟩ rfl) (kf (ldP rfl rfl) (fc (cl (v := .int .i64 r114) rfl (cns rfl rfl) rfl (impl_owed_ok a1.Accounts _ hx113) nm) (kf (bNeq rfl rfl) (fZ (Rn (hV (.pt none [.sl none (a1.Accounts.map Account.c), .int .i64 a1.Owed]) h112 (hN rfl hZ)) fun e115 h117 h118 => sN ?_))))))))))))
 clear h112
 rcases ite_some h with ⟨hb119, h⟩ | ⟨hb119, h⟩
 ·refine cT h118 hb119 (sq (Rg (kx (faP h117 ⟨ble rfl, blt rfl⟩ rfl) (kx (ldP rfl rfl) (kx (lnS Try.underlying28 rfl) (kx (mvO rfl) (kx (mvO rfl) (Rn (hN rfl (hV (.int .i64 0) rfl hZ)) fun e120 h122 h123 => sN (xx (sR ?_))))))))))
  clear h117 h118
  obtain rfl := si h
  exact eR (resT h122 (resT h123 res0)) rfl
 refine cF h118 hb119 (xx (sN (sq (Rg (kx (mvO rfl) (kx (mvO rfl) (Rn (hV (.int .i64 0) rfl (hV (.int .i64 6) rfl hZ)) fun e124 h126 h127 => sN (xx ?_))))))))
 clear h117 h118
 obtain rfl := si h
 exact eR (resT h126 (resT h127 res0)) rfl
/-! ### loop.example/g01263/spec.l05Right (f41) -/
noncomputable def spec_l05Right (a1 : Account) : Option Bool :=
 (spec_l05Title a1.Title).bind fun r5 =>
 if r5 = true then
  (spec_l05Items a1.Items).bind fun r8 =>
  if r8 = true then
   (spec_l05Balance a1.Items).bind fun r11 =>
   some (a1.Balance == r11)
  else
   some false
 else
  some false
def spec_l05Right_enc (r : Bool) : AV := .bool r
theorem spec_l05Right_ok (a1 : Account) (r : Bool) (h : spec_l05Right a1 = some r) : Ev (fun k => CN k 41 [.pt none [.str a1.Title, .sl none (a1.Items.map Item.c), .int .i64 a1.Balance]] []) (fun p => rRes p.2 p.1 = spec_l05Right_enc r) := by
 unfold spec_l05Right at h
 obtain ⟨r5, hx4, h⟩ := bind_some h
 refine Ev.enter (F := fun k => f41 (CN k) k) (fun k => callN_eq rfl Try.func41 rfl rfl rfl (by decide +kernel) (f41_eq _ _)) (sq (Rg (kx (mvO rfl) (Rn (hN rfl hZ) fun e1 h3 => sN (sq (Rd (kf (mvO h3) (kf (ncP rfl) (kf (faP rfl ⟨ble rfl, blt rfl⟩ rfl) (kf (ldP rfl rfl) (fc (cl (v := .bool r5) rfl (cns rfl rfl) rfl (spec_l05Title_ok a1.Title _ hx4) nm) (kf (mvO rfl) ?_))))))))))))
 rcases ite_some h with ⟨hb6, h⟩ | ⟨hb6, h⟩
 ·obtain ⟨r8, hx7, h⟩ := bind_some h
  refine kf (guT rfl hb6 (mvO h3)) (kf (guT rfl hb6 (ncP rfl)) (kf (guT rfl hb6 (faP rfl ⟨ble rfl, blt rfl⟩ rfl)) (kf (guT rfl hb6 (ldP rfl rfl)) (fc (Ev.guT rfl hb6 (cl (v := .bool r8) rfl (cns rfl rfl) rfl (spec_l05Items_ok a1.Items _ hx7) nm)) (kf (pkT rfl hb6 rfl) (kf (mvO rfl) ?_))))))
  rcases ite_some h with ⟨hb9, h⟩ | ⟨hb9, h⟩
  ·obtain ⟨r11, hx10, h⟩ := bind_some h
   refine kf (guT rfl hb9 (mvO h3)) (kf (guT rfl hb9 (ncP rfl)) (kf (guT rfl hb9 (faP rfl ⟨ble rfl, blt rfl⟩ rfl)) (kf (guT rfl hb9 (ldP rfl rfl)) (kf (guT rfl hb9 (mvO h3)) (kf (guT rfl hb9 (ncP rfl)) (kf (guT rfl hb9 (faP rfl ⟨ble rfl, blt rfl⟩ rfl)) (kf (guT rfl hb9 (ldP rfl rfl)) (fc (Ev.guT rfl hb9 (cl (v := .int .i64 r11) rfl (cns rfl rfl) rfl (spec_l05Balance_ok a1.Items _ hx10) nm)) (kf (guT rfl hb9 (bEql rfl rfl)) (kf (pkT rfl hb9 rfl) (kf (mvO rfl) (fZ (Rn (hN rfl hZ) fun e12 h14 => sN (xx ?_))))))))))))))
   clear h3
   obtain rfl := si h
   exact eR (resT h14 res0) rfl
  refine kf (gsT rfl hb9) (kf (gsT rfl hb9) (kf (gsT rfl hb9) (kf (gsT rfl hb9) (kf (gsT rfl hb9) (kf (gsT rfl hb9) (kf (gsT rfl hb9) (kf (gsT rfl hb9) (fc (Ev.gsT rfl hb9) (kf (gsT rfl hb9) (kf (pkF rfl hb9 rfl) (kf (mvO rfl) (fZ (Rn (hV (.bool false) rfl hZ) fun e15 h17 => sN (xx ?_))))))))))))))
  clear h3
  obtain rfl := si h
  exact eR (resT h17 res0) rfl
 refine kf (gsT rfl hb6) (kf (gsT rfl hb6) (kf (gsT rfl hb6) (kf (gsT rfl hb6) (fc (Ev.gsT rfl hb6) (kf (pkF rfl hb6 rfl) (kf (mvO rfl) (kf (gsT rfl rfl) (kf (gsT rfl rfl) (kf (gsT rfl rfl) (kf (gsT rfl rfl) (kf (gsT rfl rfl) (kf (gsT rfl rfl) (kf (gsT rfl rfl) (kf (gsT rfl rfl) (fc (Ev.gsT rfl rfl) (kf (gsT rfl rfl) (kf (pkF rfl rfl rfl) (kf (mvO rfl) (fZ (Rn (hV (.bool false) rfl hZ) fun e18 h20 => sN (xx ?_)))))))))))))))))))))
 clear h3
 obtain rfl := si h
 exact eR (resT h20 res0) rfl
/-! ### loop.example/g01263/spec.l05Twin (f43) -/
abbrev spec_l05Twin_b1_S := Int
abbrev spec_l05Twin_b1_R := Unit ⊕ Unit
def spec_l05Twin_b1_RS (a1 : List Account) (a2 : Int) (s : spec_l05Twin_b1_S) (e : Env) (M : Mem) : Prop := eget e 0 = .sl none (a1.map Account.c) ∧ eget e 1 = .int .i64 a2 ∧ eget e 5 = .int .i64 s
def spec_l05Twin_b1_RR (a1 : List Account) (a2 : Int) (r : spec_l05Twin_b1_R) (x : Ex) (e : Env) (M : Mem) : Prop :=
  match r with
  | (.inl g) => x = .ret ∧ eget e 4 = .bool true
  | (.inr g) => x = .ext 0 ∧ True
noncomputable def spec_l05Twin_b1 (a1 : List Account) (a2 : Int) : spec_l05Twin_b1_S → Option (spec_l05Twin_b1_S ⊕ spec_l05Twin_b1_R) := fun s1_1 =>
 if (decide (s1_1 < a2)) = true then
  (rd a1 s1_1).bind fun x33 =>
  (rd a1 a2).bind fun x35 =>
  if (x33.Title == x35.Title) = true then
   some (.inr (.inl ()))
  else
   some (.inl (IntKind.i64.wrap (s1_1 + 1)))
 else
  some (.inr (.inr ()))
theorem spec_l05Twin_b1_ok (a1 : List Account) (a2 : Int) (s : spec_l05Twin_b1_S) (r : spec_l05Twin_b1_S ⊕ spec_l05Twin_b1_R) (h : spec_l05Twin_b1 a1 a2 s = some r) (e : Env) (M : Mem) (hs : spec_l05Twin_b1_RS a1 a2 s e M) : Ev (fun k => (f43_l2 (CN k) k (prune [0, 1, 5] e) M).bind fun q => some q) (bQ (spec_l05Twin_b1_RS a1 a2) (spec_l05Twin_b1_RR a1 a2) r) := by
 revert h hs
 revert s
 intro s1_1 h hs
 unfold spec_l05Twin_b1 at h
 obtain ⟨h20, h22, h24⟩ := hs
 generalize he19 : prune [0, 1, 5] e = e18
 have h21 := envp he19.symm rfl h20
 have h23 := envp he19.symm rfl h22
 have h25 := envp he19.symm rfl h24
 refine sq (sq (Rg (kx (mvO h25) (kx (mvO h23) (kx (bLss rfl rfl) (Rn (hV (.sl none (a1.map Account.c)) h21 (hV (.int .i64 a2) h23 (hV (.int .i64 s1_1) h25 (hN rfl hZ)))) fun e26 h28 h29 h30 h31 => sN ?_))))))
 clear h21 h23 h25
 rcases ite_some h with ⟨hb32, h⟩ | ⟨hb32, h⟩
 ·obtain ⟨x33, hx34, h⟩ := bind_some h
  obtain ⟨x35, hx36, h⟩ := bind_some h
  refine cT h31 hb32 (xx (sN (sq (bl (sq (Rd (kf (mvO h28) (kf (mvO h30) (kf (ixS rfl rfl hx34 Account.fl) (kf (faP rfl ⟨ble rfl, blt rfl⟩ rfl) (kf (ldP rfl rfl) (kf (mvO h28) (kf (mvO h29) (kf (ixS rfl rfl hx36 Account.fl) (kf (faP rfl ⟨ble rfl, blt rfl⟩ rfl) (kf (ldP rfl rfl) (kf (sEql rfl rfl) (fZ (Rn (hA h28 (hA h29 (hA h30 (hN rfl hZ)))) fun e37 h39 h40 h41 h42 => sN ?_)))))))))))))))))))
  clear h28 h29 h30 h31
  rcases ite_some h with ⟨hb43, h⟩ | ⟨hb43, h⟩
  ·refine cT h42 hb43 (sq (Rg (kx (mvO rfl) (Rn (hV (.bool true) rfl hZ) fun e44 h46 => sN (xx (bR (sR ?_)))))))
   clear h39 h40 h41 h42
   obtain rfl := si h
   exact qR ⟨rfl, h46⟩
  refine cF h42 hb43 (xx (bN (sN (Rg (kx (mvO h41) (kx (bAdd rfl rfl) (kx (mvO rfl) (Rn (hA h39 (hA h40 (hN rfl hZ))) fun e47 h49 h50 h51 => ?_))))))))
  clear h39 h40 h42
  obtain rfl := si h
  exact qN ⟨h49, h50, h51⟩
 refine cF h31 hb32 (xx (sE ?_))
 obtain rfl := si h
 exact qE ⟨rfl, trivial⟩
noncomputable def spec_l05Twin (a1 : List Account) (a2 : Int) : Option Bool :=
 (Lw (spec_l05Twin_b1 a1 a2) 0).bind fun r => match r with
 | (.inl _) =>
  some true
 | (.inr _) =>
  some false
def spec_l05Twin_enc (r : Bool) : AV := .bool r
theorem spec_l05Twin_ok (a1 : List Account) (a2 : Int) (r : Bool) (h : spec_l05Twin a1 a2 = some r) : Ev (fun k => CN k 43 [.sl none (a1.map Account.c), .int .i64 a2] []) (fun p => rRes p.2 p.1 = spec_l05Twin_enc r) := by
 unfold spec_l05Twin at h
 obtain ⟨r52, hr53, h⟩ := bind_some h
 refine Ev.enter (F := fun k => f43 (CN k) k) (fun k => callN_eq rfl Try.func43 rfl rfl rfl (by decide +kernel) (f43_eq _ _)) (sq (Rg (kx (mvO rfl) (Rn (hN rfl (hN rfl hZ)) fun e1 h3 h4 => sN (sq (sq (Rg (kx (mvO rfl) (Rn (hA h3 (hA h4 (hV (.int .i64 0) rfl hZ))) fun e5 h7 h8 h9 => sN (bl ?_))))))))))
 clear h3 h4
 rcases r52 with _ | _
 ·refine Ev.loop (RS := spec_l05Twin_b1_RS a1 a2) (RR := spec_l05Twin_b1_RR a1 a2) (fun s r h e M hs => spec_l05Twin_b1_ok a1 a2 s r h e M hs) hr53 ⟨h7, h8, h9⟩ fun x e55 M56 hq54 => ?_
  obtain ⟨rfl, h57⟩ := hq54
  refine bR (sR ?_)
  obtain rfl := si h
  exact eR (resT h57 res0) rfl
 refine Ev.loop (RS := spec_l05Twin_b1_RS a1 a2) (RR := spec_l05Twin_b1_RR a1 a2) (fun s r h e M hs => spec_l05Twin_b1_ok a1 a2 s r h e M hs) hr53 ⟨h7, h8, h9⟩ fun x e58 M59 hq54 => ?_
 obtain ⟨rfl, _⟩ := hq54
 refine bE (sN (sq (Rg (kx (mvO rfl) (Rn (hV (.bool false) rfl hZ) fun e60 h62 => sN (xx ?_))))))
 obtain rfl := si h
 exact eR (resT h62 res0) rfl
/-! ### loop.example/g01263/spec.l05Owed (f42) -/
abbrev spec_l05Owed_b1_S := Int × Int
abbrev spec_l05Owed_b1_R := Int
def spec_l05Owed_b1_RS (a1 : List Account) (s : spec_l05Owed_b1_S) (e : Env) (M : Mem) : Prop := eget e 0 = .sl none (a1.map Account.c) ∧ eget e 3 = .int .i64 s.1 ∧ eget e 4 = .int .i64 s.2
def spec_l05Owed_b1_RR (a1 : List Account) (g : spec_l05Owed_b1_R) (x : Ex) (e : Env) (M : Mem) : Prop := x = .ext 0 ∧ eget e 3 = .int .i64 g
noncomputable def spec_l05Owed_b1 (a1 : List Account) : spec_l05Owed_b1_S → Option (spec_l05Owed_b1_S ⊕ spec_l05Owed_b1_R) := fun (s1_1, s1_2) =>
 if (decide (s1_2 < (a1.length : Int))) = true then
  (rd a1 s1_2).bind fun x36 =>
  (spec_l00Max x36.Balance 0).bind fun r39 =>
  some (.inl ((IntKind.i64.wrap (s1_1 + r39)), (IntKind.i64.wrap (s1_2 + 1))))
 else
  some (.inr s1_1)
theorem spec_l05Owed_b1_ok (a1 : List Account) (s : spec_l05Owed_b1_S) (r : spec_l05Owed_b1_S ⊕ spec_l05Owed_b1_R) (h : spec_l05Owed_b1 a1 s = some r) (e : Env) (M : Mem) (hs : spec_l05Owed_b1_RS a1 s e M) : Ev (fun k => (f42_l3 (CN k) k (prune [0, 3, 4] e) M).bind fun q => some q) (bQ (spec_l05Owed_b1_RS a1) (spec_l05Owed_b1_RR a1) r) := by
 obtain ⟨s1_1, s1_2⟩ := s
 unfold spec_l05Owed_b1 at h
 obtain ⟨h23, h25, h27⟩ := hs
 generalize he22 : prune [0, 3, 4] e = e21
 have h24 := envp he22.symm rfl h23
 have h26 := envp he22.symm rfl h25
 have h28 := envp he22.symm rfl h27
 refine sq (sq (Rg (kx (mvO h28) (kx (mvO h24) (kx (lnS Try.underlying28 rfl) (kx (bLss rfl rfl) (Rn (hV (.sl none (a1.map Account.c)) h24 (hV (.int .i64 s1_1) h26 (hV (.int .i64 s1_2) h28 (hN rfl hZ)))) fun e29 h31 h32 h33 h34 => sN ?_)))))))
 clear h24 h26 h28
 rcases ite_some h with ⟨hb35, h⟩ | ⟨hb35, h⟩
 ·obtain ⟨x36, hx37, h⟩ := bind_some h
  obtain ⟨r39, hx38, h⟩ := bind_some h
  refine cT h34 hb35 (xx (sN (sq (bl (Rg (kx (mvO h32) (kx (mvO h31) (kx (mvO h33) (kx (ixS rfl rfl hx37 Account.fl) (kx (faP rfl ⟨ble rfl, blt rfl⟩ rfl) (kx (ldP rfl rfl) (kc (cl (v := .int .i64 r39) rfl (cns rfl (cns rfl rfl)) rfl (spec_l00Max_ok x36.Balance 0 _ hx38) nm) (kx (bAdd rfl rfl) (kx (mvO rfl) (Rn (hA h31 (hN rfl (hA h33 hZ))) fun e40 h42 h43 h44 => bN (sN (Rg (kx (mvO h44) (kx (bAdd rfl rfl) (kx (mvO rfl) (Rn (hA h42 (hA h43 (hN rfl hZ))) fun e45 h47 h48 h49 => ?_)))))))))))))))))))))
  clear h31 h33 h34 h42 h43
  obtain rfl := si h
  exact qN ⟨h47, h48, h49⟩
 refine cF h34 hb35 (xx (sE ?_))
 obtain rfl := si h
 exact qE ⟨rfl, h32⟩
noncomputable def spec_l05Owed (a1 : List Account) : Option Int :=
 (Lw (spec_l05Owed_b1 a1) (0, 0)).bind fun y55 =>
 some y55
def spec_l05Owed_enc (r : Int) : AV := .int .i64 r
theorem spec_l05Owed_ok (a1 : List Account) (r : Int) (h : spec_l05Owed a1 = some r) : Ev (fun k => CN k 42 [.sl none (a1.map Account.c)] []) (fun p => rRes p.2 p.1 = spec_l05Owed_enc r) := by
 unfold spec_l05Owed at h
 obtain ⟨y55, hr51, h⟩ := bind_some h
 refine Ev.enter (F := fun k => f42 (CN k) k) (fun k => callN_eq rfl Try.func42 rfl rfl rfl (by decide +kernel) (f42_eq _ _)) (sq (Rg (kx (mvO rfl) (Rn (hN rfl hZ) fun e1 h3 => sN (sq (Rg (kx (mvO rfl) (Rn (hA h3 (hV (.int .i64 0) rfl hZ)) fun e4 h6 h7 => sN (sq (sq (Rg (kx (mvO rfl) (Rn (hA h6 (hA h7 (hV (.int .i64 0) rfl hZ))) fun e8 h10 h11 h12 => sN (bl (Ev.loop (RS := spec_l05Owed_b1_RS a1) (RR := spec_l05Owed_b1_RR a1) (fun s r h e M hs => spec_l05Owed_b1_ok a1 s r h e M hs) hr51 ⟨h10, h11, h12⟩ fun x e53 M54 hq52 => ?_)))))))))))))))
 clear h3 h6 h7
 obtain ⟨rfl, h56⟩ := hq52
 refine bE (sN (sq (Rg (kx (mvO h56) (kx (mvO rfl) (Rn (hN rfl hZ) fun e57 h59 => sN (xx ?_)))))))
 clear h56
 obtain rfl := si h
 exact eR (resT h59 res0) rfl
/-! ### loop.example/g01263/spec.l05Fault (f83) -/
abbrev spec_l05Fault_b1_S := Int
abbrev spec_l05Fault_b1_R := Int ⊕ Unit
def spec_l05Fault_b1_RS (a1 : Roll) (s : spec_l05Fault_b1_S) (e : Env) (M : Mem) : Prop := eget e 0 = .pt none [.sl none (a1.Accounts.map Account.c), .int .i64 a1.Owed] ∧ eget e 3 = .int .i64 s
def spec_l05Fault_b1_RR (a1 : Roll) (r : spec_l05Fault_b1_R) (x : Ex) (e : Env) (M : Mem) : Prop :=
  match r with
  | (.inl g) => x = .ret ∧ eget e 2 = .int .i64 g
  | (.inr g) => x = .ext 0 ∧ eget e 0 = .pt none [.sl none (a1.Accounts.map Account.c), .int .i64 a1.Owed]
noncomputable def spec_l05Fault_b1 (a1 : Roll) : spec_l05Fault_b1_S → Option (spec_l05Fault_b1_S ⊕ spec_l05Fault_b1_R) := fun s1_1 =>
 if (decide (s1_1 < (a1.Accounts.length : Int))) = true then
  (rd a1.Accounts s1_1).bind fun x26 =>
  (spec_l05Right x26).bind fun r29 =>
  if r29 = true then
   (spec_l05Twin a1.Accounts s1_1).bind fun r32 =>
   if r32 = true then
    some (.inr (.inl s1_1))
   else
    some (.inl (IntKind.i64.wrap (s1_1 + 1)))
  else
   some (.inr (.inl s1_1))
 else
  some (.inr (.inr ()))
theorem spec_l05Fault_b1_ok (a1 : Roll) (s : spec_l05Fault_b1_S) (r : spec_l05Fault_b1_S ⊕ spec_l05Fault_b1_R) (h : spec_l05Fault_b1 a1 s = some r) (e : Env) (M : Mem) (hs : spec_l05Fault_b1_RS a1 s e M) : Ev (fun k => (f83_l2 (CN k) k (prune [0, 3] e) M).bind fun q => some q) (bQ (spec_l05Fault_b1_RS a1) (spec_l05Fault_b1_RR a1) r) := by
 revert h hs
 revert s
 intro s1_1 h hs
 unfold spec_l05Fault_b1 at h
 obtain ⟨h16, h18⟩ := hs
 generalize he15 : prune [0, 3] e = e14
 have h17 := envp he15.symm rfl h16
 have h19 := envp he15.symm rfl h18
 refine sq (sq (Rg (kx (mvO h19) (kx (mvO h17) (kx (ncP rfl) (kx (faP rfl ⟨ble rfl, blt rfl⟩ rfl) (kx (ldP rfl rfl) (kx (lnS Try.underlying28 rfl) (kx (bLss rfl rfl) (Rn (hV (.pt none [.sl none (a1.Accounts.map Account.c), .int .i64 a1.Owed]) h17 (hV (.int .i64 s1_1) h19 (hN rfl hZ))) fun e20 h22 h23 h24 => sN ?_))))))))))
 clear h17 h19
 rcases ite_some h with ⟨hb25, h⟩ | ⟨hb25, h⟩
 ·obtain ⟨x26, hx27, h⟩ := bind_some h
  obtain ⟨r29, hx28, h⟩ := bind_some h
  refine cT h24 hb25 (xx (sN (sq (bl (sq (Rg (kx (mvO h22) (kx (ncP rfl) (kx (faP rfl ⟨ble rfl, blt rfl⟩ rfl) (kx (ldP rfl rfl) (kx (mvO h23) (kx (ixS rfl rfl hx27 Account.fl) (kc (cl (v := .bool r29) rfl (cns rfl rfl) rfl (spec_l05Right_ok x26 _ hx28) nm) (kx (uNot rfl) (kx (mvO rfl) ?_)))))))))))))))
  rcases ite_some h with ⟨hb30, h⟩ | ⟨hb30, h⟩
  ·obtain ⟨r32, hx31, h⟩ := bind_some h
   refine kx (guF rfl (congrArg Bool.not hb30) (mvO h22)) (kx (guF rfl (congrArg Bool.not hb30) (ncP rfl)) (kx (guF rfl (congrArg Bool.not hb30) (faP rfl ⟨ble rfl, blt rfl⟩ rfl)) (kx (guF rfl (congrArg Bool.not hb30) (ldP rfl rfl)) (kx (guF rfl (congrArg Bool.not hb30) (mvO h23)) (kc (Ev.guF rfl (congrArg Bool.not hb30) (cl (v := .bool r32) rfl (cns rfl (cns rfl rfl)) rfl (spec_l05Twin_ok a1.Accounts s1_1 _ hx31) nm)) (kx (pkF rfl (congrArg Bool.not hb30) rfl) (Rn (hA h22 (hA h23 (hN rfl hZ))) fun e33 h35 h36 h37 => sN ?_)))))))
   clear h22 h23 h24
   rcases ite_some h with ⟨hb38, h⟩ | ⟨hb38, h⟩
   ·refine cT h37 hb38 (sq (Rg (kx (mvO h36) (kx (mvO rfl) (Rn (hN rfl hZ) fun e39 h41 => sN (xx (bR (sR ?_))))))))
    clear h35 h36 h37
    obtain rfl := si h
    exact qR ⟨rfl, h41⟩
   refine cF h37 hb38 (xx (bN (sN (Rg (kx (mvO h36) (kx (bAdd rfl rfl) (kx (mvO rfl) (Rn (hA h35 (hN rfl hZ)) fun e42 h44 h45 => ?_))))))))
   clear h35 h37
   obtain rfl := si h
   exact qN ⟨h44, h45⟩
  refine kx (gsF rfl (congrArg Bool.not hb30)) (kx (gsF rfl (congrArg Bool.not hb30)) (kx (gsF rfl (congrArg Bool.not hb30)) (kx (gsF rfl (congrArg Bool.not hb30)) (kx (gsF rfl (congrArg Bool.not hb30)) (kc (Ev.gsF rfl (congrArg Bool.not hb30)) (kx (pkT rfl (congrArg Bool.not hb30) rfl) (Rn (hA h22 (hA h23 (hV (.bool true) rfl hZ))) fun e46 h48 h49 h50 => sN (cT h50 rfl (sq (Rg (kx (mvO h49) (kx (mvO rfl) (Rn (hN rfl hZ) fun e51 h53 => sN (xx (bR (sR ?_))))))))))))))))
  clear h22 h23 h24 h48 h49 h50
  obtain rfl := si h
  exact qR ⟨rfl, h53⟩
 refine cF h24 hb25 (xx (sE ?_))
 obtain rfl := si h
 exact qE ⟨rfl, h22⟩
noncomputable def spec_l05Fault (a1 : Roll) : Option Int :=
 (Lw (spec_l05Fault_b1 a1) 0).bind fun r => match r with
 | (.inl y59) =>
  some y59
 | (.inr _) =>
  (spec_l05Owed a1.Accounts).bind fun r65 =>
  if (a1.Owed != r65) = true then
   some (a1.Accounts.length : Int)
  else
   some (-1)
def spec_l05Fault_enc (r : Int) : AV := .int .i64 r
theorem spec_l05Fault_ok (a1 : Roll) (r : Int) (h : spec_l05Fault a1 = some r) : Ev (fun k => CN k 83 [.pt none [.sl none (a1.Accounts.map Account.c), .int .i64 a1.Owed]] []) (fun p => rRes p.2 p.1 = spec_l05Fault_enc r) := by
 unfold spec_l05Fault at h
 obtain ⟨r54, hr55, h⟩ := bind_some h
 refine Ev.enter (F := fun k => f83 (CN k) k) (fun k => callN_eq rfl Try.func83 rfl rfl rfl (by decide +kernel) (f83_eq _ _)) (sq (Rg (kx (mvO rfl) (Rn (hN rfl hZ) fun e1 h3 => sN (sq (sq (Rg (kx (mvO rfl) (Rn (hA h3 (hV (.int .i64 0) rfl hZ)) fun e4 h6 h7 => sN (bl ?_))))))))))
 clear h3
 rcases r54 with y59 | _
 ·refine Ev.loop (RS := spec_l05Fault_b1_RS a1) (RR := spec_l05Fault_b1_RR a1) (fun s r h e M hs => spec_l05Fault_b1_ok a1 s r h e M hs) hr55 ⟨h6, h7⟩ fun x e57 M58 hq56 => ?_
  obtain ⟨rfl, h60⟩ := hq56
  refine bR (sR ?_)
  obtain rfl := si h
  exact eR (resT h60 res0) rfl
 refine Ev.loop (RS := spec_l05Fault_b1_RS a1) (RR := spec_l05Fault_b1_RR a1) (fun s r h e M hs => spec_l05Fault_b1_ok a1 s r h e M hs) hr55 ⟨h6, h7⟩ fun x e61 M62 hq56 => ?_
 obtain ⟨rfl, h63⟩ := hq56
 obtain ⟨r65, hx64, h⟩ := bind_some h
 refine bE (sN (sq (sq (Rd (kf (mvO h63) (kf (ncP rfl) (kf (faP rfl ⟨ble rfl, blt rfl⟩ rfl) (kf (ldP rfl rfl) (kf (mvO h63) (kf (ncP rfl) (kf (faP rfl ⟨ble rfl, blt rfl⟩ rfl) (kf (ldP rfl rfl) (fc (cl (v := .int .i64 r65) rfl (cns rfl rfl) rfl (spec_l05Owed_ok a1.Accounts _ hx64) nm) (kf (bNeq rfl rfl) (fZ (Rn (hV (.pt none [.sl none (a1.Accounts.map Account.c), .int .i64 a1.Owed]) h63 (hN rfl hZ)) fun e66 h68 h69 => sN ?_))))))))))))))))
 clear h63
 rcases ite_some h with ⟨hb70, h⟩ | ⟨hb70, h⟩
 ·refine cT h69 hb70 (sq (Rg (kx (mvO h68) (kx (ncP rfl) (kx (faP rfl ⟨ble rfl, blt rfl⟩ rfl) (kx (ldP rfl rfl) (kx (lnS Try.underlying28 rfl) (kx (mvO rfl) (Rn (hN rfl hZ) fun e71 h73 => sN (xx (sR ?_)))))))))))
  clear h68 h69
  obtain rfl := si h
  exact eR (resT h73 res0) rfl
 refine cF h69 hb70 (xx (sN (sq (Rg (kx (mvO rfl) (Rn (hV (.int .i64 (-1)) rfl hZ) fun e74 h76 => sN (xx ?_)))))))
 clear h68 h69
 obtain rfl := si h
 exact eR (resT h76 res0) rfl
/-! ### loop.example/g01263/laws.eqAccount (f50) -/
noncomputable def laws_eqAccount (a1 : Account) (a2 : Account) : Option Bool :=
 if (a1.Title == a2.Title) = true then
  (laws_eqItemS a1.Items a2.Items).bind fun r12 =>
  if r12 = true then
   if (a1.Balance != a2.Balance) = true then
    some false
   else
    some true
  else
   some false
 else
  some false
def laws_eqAccount_enc (r : Bool) : AV := .bool r
theorem laws_eqAccount_ok (a1 : Account) (a2 : Account) (r : Bool) (h : laws_eqAccount a1 a2 = some r) : Ev (fun k => CN k 50 [.agg [.str a1.Title, .sl none (a1.Items.map Item.c), .int .i64 a1.Balance], .agg [.str a2.Title, .sl none (a2.Items.map Item.c), .int .i64 a2.Balance]] []) (fun p => rRes p.2 p.1 = laws_eqAccount_enc r) := by
 unfold laws_eqAccount at h
 refine Ev.enter (F := fun k => f50 (CN k) k) (fun k => callN_eq rfl Try.func50 rfl rfl rfl (by decide +kernel) (f50_eq _ _)) (sq (Rg (kx (bxI rfl rfl ⟨rfl, rfl, by decide⟩) (kx (bxI rfl rfl ⟨rfl, rfl, by decide⟩) (kx (mvO rfl) (Rn (hN rfl (hN rfl hZ)) fun e1 h3 h4 => sN (sq (sq (Rg (kx (faP h3 ⟨ble rfl, blt rfl⟩ rfl) (kx (ldP rfl rfl) (kx (faP h4 ⟨ble rfl, blt rfl⟩ rfl) (kx (ldP rfl rfl) (kx (sNeq rfl rfl) (Rn (hA h3 (hA h4 (hN rfl hZ))) fun e5 h7 h8 h9 => sN ?_)))))))))))))))
 clear h3 h4
 rcases ite_some h with ⟨hb10, h⟩ | ⟨hb10, h⟩
 ·obtain ⟨r12, hx11, h⟩ := bind_some h
  refine cF h9 (congrArg Bool.not hb10) (xx (sN (sq (sq (Rg (kx (faP h7 ⟨ble rfl, blt rfl⟩ rfl) (kx (ldP rfl rfl) (kx (faP h8 ⟨ble rfl, blt rfl⟩ rfl) (kx (ldP rfl rfl) (kc (cl (v := .bool r12) rfl (cns rfl (cns rfl rfl)) rfl (laws_eqItemS_ok a1.Items a2.Items _ hx11) nm) (kx (uNot rfl) (Rn (hA h7 (hA h8 (hN rfl hZ))) fun e13 h15 h16 h17 => sN ?_))))))))))))
  clear h7 h8 h9
  rcases ite_some h with ⟨hb18, h⟩ | ⟨hb18, h⟩
  ·refine cF h17 (congrArg Bool.not hb18) (xx (sN (sq (sq (Rg (kx (faP h15 ⟨ble rfl, blt rfl⟩ rfl) (kx (ldP rfl rfl) (kx (faP h16 ⟨ble rfl, blt rfl⟩ rfl) (kx (ldP rfl rfl) (kx (bNeq rfl rfl) (Rn (hN rfl hZ) fun e19 h21 => sN ?_)))))))))))
   clear h15 h16 h17
   rcases ite_some h with ⟨hb22, h⟩ | ⟨hb22, h⟩
   ·refine cT h21 hb22 (sq (Rg (kx (mvO rfl) (Rn (hV (.bool false) rfl hZ) fun e23 h25 => sN (xx (sR ?_))))))
    clear h21
    obtain rfl := si h
    exact eR (resT h25 res0) rfl
   refine cF h21 hb22 (xx (sN (sq (Rg (kx (mvO rfl) (Rn (hV (.bool true) rfl hZ) fun e26 h28 => sN (xx ?_)))))))
   clear h21
   obtain rfl := si h
   exact eR (resT h28 res0) rfl
  refine cT h17 (congrArg Bool.not hb18) (sq (Rg (kx (mvO rfl) (Rn (hV (.bool false) rfl hZ) fun e29 h31 => sN (xx (sR ?_))))))
  clear h15 h16 h17
  obtain rfl := si h
  exact eR (resT h31 res0) rfl
 refine cT h9 (congrArg Bool.not hb10) (sq (Rg (kx (mvO rfl) (Rn (hV (.bool false) rfl hZ) fun e32 h34 => sN (xx (sR ?_))))))
 clear h7 h8 h9
 obtain rfl := si h
 exact eR (resT h34 res0) rfl
/-! ### loop.example/g01263/laws.toAccount (f45) -/
noncomputable def laws_toAccount (a1 : Account) : Option ((List UInt8) × (List Item) × Int) :=
 (laws_toItemS a1.Items).bind fun r30 =>
 some (a1.Title, r30, a1.Balance)
def laws_toAccount_enc (r : (List UInt8) × (List Item) × Int) : AV := .agg [.str r.1, .sl none (r.2.1.map Item.c), .int .i64 r.2.2]
theorem laws_toAccount_ok (a1 : Account) (r : (List UInt8) × (List Item) × Int) (h : laws_toAccount a1 = some r) : Ev (fun k => CN k 45 [.agg [.str a1.Title, .sl none (a1.Items.map Item.c), .int .i64 a1.Balance]] []) (fun p => rRes p.2 p.1 = laws_toAccount_enc r) := by
 unfold laws_toAccount at h
 refine Ev.enter (F := fun k => f45 (CN k) k) (fun k => callN_eq rfl Try.func45 rfl rfl rfl (by decide +kernel) (f45_eq _ _)) (sq (Rg (kx (bxI rfl rfl ⟨rfl, rfl, by decide⟩) (ku (alO zero75) fun M2 hM3 => ?_))))
 have o4 : M2[([] : Mem).length]? = some (.live ⟨.box, 75, 3, [[.str ([] : List UInt8), .nils, .int .i64 0]]⟩) := push_new hM3
 refine Rn (hN rfl (hV (.loc ([] : Mem).length 1 0 0) rfl hZ)) fun e5 h7 h8 => sN (sq (Rg (ku (alO zero75) fun M10 hM11 => ?_)))
 have o12 := push_old hM11 o4
 have ne13 := ne_new o4
 have o14 : M10[M2.length]? = some (.live ⟨.box, 75, 3, [[.str ([] : List UInt8), .nils, .int .i64 0]]⟩) := push_new hM11
 refine Rn (hA h7 (hA h8 (hV (.loc M2.length 1 0 0) rfl hZ))) fun e15 h17 h18 h19 => sN (sq (Rg (kx (faP h17 ⟨ble rfl, blt rfl⟩ rfl) (kx (ldP rfl rfl) (kx (faO h19 o14 rfl) (kw (stO rfl rfl o14 rfl rfl ⟨rfl, ble rfl⟩ rfl rfl) fun M20 hM21 => ?_))))))
 clear h7 h8
 have o22 := set_ne hM21 ne13 o12
 have o23 : M20[M2.length]? = some (.live ⟨.box, 75, 3, [[.str a1.Title, .nils, .int .i64 0]]⟩) := set_same hM21 o14
 obtain ⟨r30, hx29, h⟩ := bind_some h
 refine Rn (hA h17 (hA h18 (hA h19 hZ))) fun e24 h26 h27 h28 => sN (sq (Rg (kx (faP h26 ⟨ble rfl, blt rfl⟩ rfl) (kx (ldP rfl rfl) (kc (cl (v := .sl (some 140) (r30.map Item.c)) rfl (cns rfl rfl) rfl (laws_toItemS_ok a1.Items _ hx29) nm) (kx (faO h28 o23 rfl) (kw (stO rfl rfl o23 rfl rfl ⟨rfl, ble rfl⟩ rfl rfl) fun M31 hM32 => ?_)))))))
 clear h17 h18 h19
 have o33 := set_ne hM32 ne13 o22
 have o34 : M31[M2.length]? = some (.live ⟨.box, 75, 3, [[.str a1.Title, .sl none (r30.map Item.c), .int .i64 0]]⟩) := set_same hM32 o23
 refine Rn (hA h26 (hA h27 (hA h28 hZ))) fun e35 h37 h38 h39 => sN (sq (Rg (kx (faP h37 ⟨ble rfl, blt rfl⟩ rfl) (kx (ldP rfl rfl) (kx (faO h39 o34 rfl) (kw (stO rfl rfl o34 rfl rfl ⟨rfl, ble rfl⟩ rfl rfl) fun M40 hM41 => ?_))))))
 clear h26 h27 h28
 have o42 := set_ne hM41 ne13 o33
 have o43 : M40[M2.length]? = some (.live ⟨.box, 75, 3, [[.str a1.Title, .sl none (r30.map Item.c), .int .i64 a1.Balance]]⟩) := set_same hM41 o34
 refine Rn (hA h38 (hA h39 hZ)) fun e44 h46 h47 => sN (sq (Rg (kx (ldOA h47 o43 rfl rfl (ble rfl) rfl) (kw (stO h46 rfl o42 rfl rfl ⟨rfl, ble rfl⟩ rfl rfl) fun M48 hM49 => ?_))))
 clear h37 h38 h39
 have o50 : M48[([] : Mem).length]? = some (.live ⟨.box, 75, 3, [[.str a1.Title, .sl none (r30.map Item.c), .int .i64 a1.Balance]]⟩) := set_same hM49 o42
 have o51 := set_ne hM49 (Ne.symm ne13) o43
 refine Rn (hA h46 hZ) fun e52 h54 => sN (xx ?_)
 clear h46 h47
 obtain rfl := si h
 exact eR (resC (ag := true) (sz := 3) ⟨by kernel_rfl, by kernel_rfl, by kernel_rfl⟩ (ldOA h54 o50 rfl rfl (ble rfl) rfl) res0) rfl
/-! ### loop.example/g01263/laws.szAccount (f40) -/
noncomputable def laws_szAccount (a1 : Account) (a2 : Int) : Option Int :=
 if (decide ((IntKind.i64.wrap (a2 - (a1.Title.length : Int))) < 0)) = true then
  some (-1)
 else
  (laws_szItemS a1.Items (IntKind.i64.wrap (a2 - (a1.Title.length : Int)))).bind fun r19 =>
  if (decide (r19 < 0)) = true then
   some (-1)
  else
   some r19
def laws_szAccount_enc (r : Int) : AV := .int .i64 r
theorem laws_szAccount_ok (a1 : Account) (a2 : Int) (r : Int) (h : laws_szAccount a1 a2 = some r) : Ev (fun k => CN k 40 [.agg [.str a1.Title, .sl none (a1.Items.map Item.c), .int .i64 a1.Balance], .int .i64 a2] []) (fun p => rRes p.2 p.1 = laws_szAccount_enc r) := by
 unfold laws_szAccount at h
 refine Ev.enter (F := fun k => f40 (CN k) k) (fun k => callN_eq rfl Try.func40 rfl rfl rfl (by decide +kernel) (f40_eq _ _)) (sq (Rg (kx (bxI rfl rfl ⟨rfl, rfl, by decide⟩) (kx (mvO rfl) (Rn (hN rfl (hN rfl hZ)) fun e1 h3 h4 => sN (sq (Rg (kx (mvO h3) (kx (faP h4 ⟨ble rfl, blt rfl⟩ rfl) (kx (ldP rfl rfl) (kx (lnB Try.underlying9 rfl) (kx (bSub rfl rfl) (kx (mvO rfl) (Rn (hN rfl (hA h4 hZ)) fun e5 h7 h8 => sN (sq (sq (Rg (kx (mvO h7) (kx (bLss rfl rfl) (Rn (hA h7 (hA h8 (hN rfl hZ))) fun e9 h11 h12 h13 => sN ?_))))))))))))))))))))
 clear h4 h7 h8
 rcases ite_some h with ⟨hb14, h⟩ | ⟨hb14, h⟩
 ·refine cT h13 hb14 (sq (Rg (kx (mvO rfl) (Rn (hV (.int .i64 (-1)) rfl hZ) fun e15 h17 => sN (xx (sR ?_))))))
  clear h11 h12 h13
  obtain rfl := si h
  exact eR (resT h17 res0) rfl
 obtain ⟨r19, hx18, h⟩ := bind_some h
 refine cF h13 hb14 (xx (sN (sq (Rg (kx (faP h12 ⟨ble rfl, blt rfl⟩ rfl) (kx (ldP rfl rfl) (kx (mvO h11) (kc (cl (v := .int .i64 r19) rfl (cns rfl (cns rfl rfl)) rfl (laws_szItemS_ok a1.Items (IntKind.i64.wrap (a2 - (a1.Title.length : Int))) _ hx18) nm) (kx (mvO rfl) (Rn (hN rfl hZ) fun e20 h22 => sN (sq (sq (Rg (kx (mvO h22) (kx (bLss rfl rfl) (Rn (hA h22 (hN rfl hZ)) fun e23 h25 h26 => sN ?_))))))))))))))))
 clear h12 h13 h22
 rcases ite_some h with ⟨hb27, h⟩ | ⟨hb27, h⟩
 ·refine cT h26 hb27 (sq (Rg (kx (mvO rfl) (Rn (hV (.int .i64 (-1)) rfl hZ) fun e28 h30 => sN (xx (sR ?_))))))
  clear h25 h26
  obtain rfl := si h
  exact eR (resT h30 res0) rfl
 refine cF h26 hb27 (xx (sN (sq (Rg (kx (mvO h25) (kx (mvO rfl) (Rn (hN rfl hZ) fun e31 h33 => sN (xx ?_))))))))
 clear h25 h26
 obtain rfl := si h
 exact eR (resT h33 res0) rfl
/-! ### loop.example/g01263/impl.validRoll (f39) -/
noncomputable def impl_validRoll (a1 : Roll) : Option Bool :=
 (impl_FirstFault a1).bind fun (r5, r6) =>
 some (r6 == 6)
def impl_validRoll_enc (r : Bool) : AV := .bool r
theorem impl_validRoll_ok (a1 : Roll) (r : Bool) (h : impl_validRoll a1 = some r) : Ev (fun k => CN k 39 [.agg [.sl none (a1.Accounts.map Account.c), .int .i64 a1.Owed]] []) (fun p => rRes p.2 p.1 = impl_validRoll_enc r) := by
 unfold impl_validRoll at h
 obtain ⟨⟨r5, r6⟩, hx4, h⟩ := bind_some h
 refine Ev.enter (F := fun k => f39 (CN k) k) (fun k => callN_eq rfl Try.func39 rfl rfl rfl (by decide +kernel) (f39_eq _ _)) (sq (Rg (kx (bxI rfl rfl ⟨rfl, rfl, by decide⟩) (kx (mvO rfl) (Rn (hN rfl hZ) fun e1 h3 => sN (sq (Rg (kx (ldPA h3 rfl rfl) (kc (cl (v := .tup [.int .i64 r5, .int .i64 r6]) rfl (cns rfl rfl) rfl (impl_FirstFault_ok a1 _ hx4) nm) (kx (mvO rfl) (kx (exT rfl rfl) (kx (exT rfl rfl) (kx (mvO rfl) (kx (mvO rfl) (Rn (hN rfl hZ) fun e7 h9 => sN (sq (Rg (kx (mvO h9) (kx (bEql rfl rfl) (kx (mvO rfl) (Rn (hN rfl hZ) fun e10 h12 => sN (xx ?_))))))))))))))))))))))
 clear h3 h9
 obtain rfl := si h
 exact eR (resT h12 res0) rfl
/-! ### loop.example/g01263/spec.l05Roll (f38) -/
noncomputable def spec_l05Roll (a1 : Roll) : Option Bool :=
 if (decide ((a1.Accounts.length : Int) ≤ 20)) = true then
  (spec_l05Fault a1).bind fun r6 =>
  some (decide (r6 < 0))
 else
  some false
def spec_l05Roll_enc (r : Bool) : AV := .bool r
theorem spec_l05Roll_ok (a1 : Roll) (r : Bool) (h : spec_l05Roll a1 = some r) : Ev (fun k => CN k 38 [.pt none [.sl none (a1.Accounts.map Account.c), .int .i64 a1.Owed]] []) (fun p => rRes p.2 p.1 = spec_l05Roll_enc r) := by
 unfold spec_l05Roll at h
 refine Ev.enter (F := fun k => f38 (CN k) k) (fun k => callN_eq rfl Try.func38 rfl rfl rfl (by decide +kernel) (f38_eq _ _)) (sq (Rg (kx (mvO rfl) (Rn (hN rfl hZ) fun e1 h3 => sN (sq (Rg (kx (mvO h3) (kx (ncP rfl) (kx (faP rfl ⟨ble rfl, blt rfl⟩ rfl) (kx (ldP rfl rfl) (kx (lnS Try.underlying28 rfl) (kx (bLeq rfl rfl) (kx (mvO rfl) ?_)))))))))))))
 rcases ite_some h with ⟨hb4, h⟩ | ⟨hb4, h⟩
 ·obtain ⟨r6, hx5, h⟩ := bind_some h
  refine kx (guT rfl hb4 (mvO h3)) (kc (Ev.guT rfl hb4 (cl (v := .int .i64 r6) rfl (cns rfl rfl) rfl (spec_l05Fault_ok a1 _ hx5) nm)) (kx (guT rfl hb4 (bLss rfl rfl)) (kx (pkT rfl hb4 rfl) (kx (mvO rfl) (Rn (hN rfl hZ) fun e7 h9 => sN (xx ?_))))))
  clear h3
  obtain rfl := si h
  exact eR (resT h9 res0) rfl
 refine kx (gsT rfl hb4) (kc (Ev.gsT rfl hb4) (kx (gsT rfl hb4) (kx (pkF rfl hb4 rfl) (kx (mvO rfl) (Rn (hV (.bool false) rfl hZ) fun e10 h12 => sN (xx ?_))))))
 clear h3
 obtain rfl := si h
 exact eR (resT h12 res0) rfl
/-! ### loop.example/g01263/laws.eqAccountS (f15) -/
abbrev laws_eqAccountS_b1_S := Int
abbrev laws_eqAccountS_b1_R := Unit ⊕ Unit
def laws_eqAccountS_b1_RS (a1 : List Account) (a2 : List Account) (s : laws_eqAccountS_b1_S) (e : Env) (M : Mem) : Prop := eget e 0 = .sl none (a1.map Account.c) ∧ eget e 1 = .sl none (a2.map Account.c) ∧ eget e 5 = .int .i64 s
def laws_eqAccountS_b1_RR (a1 : List Account) (a2 : List Account) (r : laws_eqAccountS_b1_R) (x : Ex) (e : Env) (M : Mem) : Prop :=
  match r with
  | (.inl g) => x = .ret ∧ eget e 4 = .bool false
  | (.inr g) => x = .ext 0 ∧ True
noncomputable def laws_eqAccountS_b1 (a1 : List Account) (a2 : List Account) : laws_eqAccountS_b1_S → Option (laws_eqAccountS_b1_S ⊕ laws_eqAccountS_b1_R) := fun s1_1 =>
 if (decide (s1_1 < (a1.length : Int))) = true then
  (rd a1 s1_1).bind fun x42 =>
  (rd a2 s1_1).bind fun x44 =>
  (laws_eqAccount x42 x44).bind fun r47 =>
  if r47 = true then
   some (.inl (IntKind.i64.wrap (s1_1 + 1)))
  else
   some (.inr (.inl ()))
 else
  some (.inr (.inr ()))
theorem laws_eqAccountS_b1_ok (a1 : List Account) (a2 : List Account) (s : laws_eqAccountS_b1_S) (r : laws_eqAccountS_b1_S ⊕ laws_eqAccountS_b1_R) (h : laws_eqAccountS_b1 a1 a2 s = some r) (e : Env) (M : Mem) (hs : laws_eqAccountS_b1_RS a1 a2 s e M) : Ev (fun k => (f15_l4 (CN k) k (prune [0, 1, 5] e) M).bind fun q => some q) (bQ (laws_eqAccountS_b1_RS a1 a2) (laws_eqAccountS_b1_RR a1 a2) r) := by
 revert h hs
 revert s
 intro s1_1 h hs
 unfold laws_eqAccountS_b1 at h
 obtain ⟨h29, h31, h33⟩ := hs
 generalize he28 : prune [0, 1, 5] e = e27
 have h30 := envp he28.symm rfl h29
 have h32 := envp he28.symm rfl h31
 have h34 := envp he28.symm rfl h33
 refine sq (sq (Rg (kx (mvO h34) (kx (mvO h30) (kx (lnS Try.underlying28 rfl) (kx (bLss rfl rfl) (Rn (hV (.sl none (a1.map Account.c)) h30 (hV (.sl none (a2.map Account.c)) h32 (hV (.int .i64 s1_1) h34 (hN rfl hZ)))) fun e35 h37 h38 h39 h40 => sN ?_)))))))
 clear h30 h32 h34
 rcases ite_some h with ⟨hb41, h⟩ | ⟨hb41, h⟩
 ·obtain ⟨x42, hx43, h⟩ := bind_some h
  obtain ⟨x44, hx45, h⟩ := bind_some h
  obtain ⟨r47, hx46, h⟩ := bind_some h
  refine cT h40 hb41 (xx (sN (sq (bl (sq (Rd (kf (mvO h37) (kf (mvO h39) (kf (ixS rfl rfl hx43 Account.fl) (kf (ldPA rfl rfl rfl) (kf (mvO h38) (kf (mvO h39) (kf (ixS rfl rfl hx45 Account.fl) (kf (ldPA rfl rfl rfl) (fc (cl (v := .bool r47) rfl (cns rfl (cns rfl rfl)) rfl (laws_eqAccount_ok x42 x44 _ hx46) nm) (kf (uNot rfl) (fZ (Rn (hA h37 (hA h38 (hA h39 (hN rfl hZ)))) fun e48 h50 h51 h52 h53 => sN ?_))))))))))))))))))
  clear h37 h38 h39 h40
  rcases ite_some h with ⟨hb54, h⟩ | ⟨hb54, h⟩
  ·refine cF h53 (congrArg Bool.not hb54) (xx (bN (sN (Rg (kx (mvO h52) (kx (bAdd rfl rfl) (kx (mvO rfl) (Rn (hA h50 (hA h51 (hN rfl hZ))) fun e55 h57 h58 h59 => ?_))))))))
   clear h50 h51 h53
   obtain rfl := si h
   exact qN ⟨h57, h58, h59⟩
  refine cT h53 (congrArg Bool.not hb54) (sq (Rg (kx (mvO rfl) (Rn (hV (.bool false) rfl hZ) fun e60 h62 => sN (xx (bR (sR ?_)))))))
  clear h50 h51 h52 h53
  obtain rfl := si h
  exact qR ⟨rfl, h62⟩
 refine cF h40 hb41 (xx (sE ?_))
 obtain rfl := si h
 exact qE ⟨rfl, trivial⟩
noncomputable def laws_eqAccountS (a1 : List Account) (a2 : List Account) : Option Bool :=
 if ((a1.length : Int) != (a2.length : Int)) = true then
  some false
 else
  (Lw (laws_eqAccountS_b1 a1 a2) 0).bind fun r => match r with
  | (.inl _) =>
   some false
  | (.inr _) =>
   some true
def laws_eqAccountS_enc (r : Bool) : AV := .bool r
theorem laws_eqAccountS_ok (a1 : List Account) (a2 : List Account) (r : Bool) (h : laws_eqAccountS a1 a2 = some r) : Ev (fun k => CN k 15 [.sl none (a1.map Account.c), .sl none (a2.map Account.c)] []) (fun p => rRes p.2 p.1 = laws_eqAccountS_enc r) := by
 unfold laws_eqAccountS at h
 refine Ev.enter (F := fun k => f15 (CN k) k) (fun k => callN_eq rfl Try.func15 rfl rfl rfl (by decide +kernel) (f15_eq _ _)) (sq (Rg (kx (mvO rfl) (Rn (hN rfl (hN rfl hZ)) fun e1 h3 h4 => sN (sq (sq (Rg (kx (mvO h3) (kx (lnS Try.underlying28 rfl) (kx (mvO h4) (kx (lnS Try.underlying28 rfl) (kx (bNeq rfl rfl) (Rn (hA h3 (hA h4 (hN rfl hZ))) fun e5 h7 h8 h9 => sN ?_)))))))))))))
 clear h3 h4
 rcases ite_some h with ⟨hb10, h⟩ | ⟨hb10, h⟩
 ·refine cT h9 hb10 (sq (Rg (kx (mvO rfl) (Rn (hV (.bool false) rfl hZ) fun e11 h13 => sN (xx (sR ?_))))))
  clear h7 h8 h9
  obtain rfl := si h
  exact eR (resT h13 res0) rfl
 obtain ⟨r63, hr64, h⟩ := bind_some h
 refine cF h9 hb10 (xx (sN (sq (sq (Rg (kx (mvO rfl) (Rn (hA h7 (hA h8 (hV (.int .i64 0) rfl hZ))) fun e14 h16 h17 h18 => sN (bl ?_))))))))
 clear h7 h8 h9
 rcases r63 with _ | _
 ·refine Ev.loop (RS := laws_eqAccountS_b1_RS a1 a2) (RR := laws_eqAccountS_b1_RR a1 a2) (fun s r h e M hs => laws_eqAccountS_b1_ok a1 a2 s r h e M hs) hr64 ⟨h16, h17, h18⟩ fun x e66 M67 hq65 => ?_
  obtain ⟨rfl, h68⟩ := hq65
  refine bR (sR ?_)
  obtain rfl := si h
  exact eR (resT h68 res0) rfl
 refine Ev.loop (RS := laws_eqAccountS_b1_RS a1 a2) (RR := laws_eqAccountS_b1_RR a1 a2) (fun s r h e M hs => laws_eqAccountS_b1_ok a1 a2 s r h e M hs) hr64 ⟨h16, h17, h18⟩ fun x e69 M70 hq65 => ?_
 obtain ⟨rfl, _⟩ := hq65
 refine bE (sN (sq (Rg (kx (mvO rfl) (Rn (hV (.bool true) rfl hZ) fun e71 h73 => sN (xx ?_))))))
 obtain rfl := si h
 exact eR (resT h73 res0) rfl
/-! ### loop.example/g01263/laws.toAccountS (f13) -/
abbrev laws_toAccountS_b1_S := Int × (List AccountN)
abbrev laws_toAccountS_b1_R := (List AccountN)
def laws_toAccountS_b1_RS (a1 : List Account) (x4 : List AccountN) (i1_1 : Nat) (s : laws_toAccountS_b1_S) (e : Env) (M : Mem) : Prop := eget e 0 = .sl none (a1.map Account.c) ∧ eget e 3 = .lsl i1_1 s.2.length 0 s.2.length ∧ eget e 4 = .int .i64 s.1 ∧ M[i1_1]? = some (.live ⟨.grow, 75, 3, s.2.map AccountN.c⟩) ∧ s.2.length = x4.length
def laws_toAccountS_b1_RR (a1 : List Account) (x4 : List AccountN) (i1_1 : Nat) (g : laws_toAccountS_b1_R) (x : Ex) (e : Env) (M : Mem) : Prop := x = .ext 0 ∧ eget e 3 = .lsl i1_1 g.length 0 g.length ∧ M[i1_1]? = some (.live ⟨.grow, 75, 3, g.map AccountN.c⟩) ∧ g.length = x4.length
noncomputable def laws_toAccountS_b1 (a1 : List Account) : laws_toAccountS_b1_S → Option (laws_toAccountS_b1_S ⊕ laws_toAccountS_b1_R) := fun (s1_1, s1_2) =>
 if (decide (s1_1 < (a1.length : Int))) = true then
  (rd a1 s1_1).bind fun x45 =>
  (laws_toAccount x45).bind fun (r48, r49, r50) =>
  (rd s1_2 s1_1).bind fun x51 =>
  some (.inl ((IntKind.i64.wrap (s1_1 + 1)), (s1_2.set s1_1.toNat (AccountN.mk r48 (some r49) r50))))
 else
  some (.inr s1_2)
theorem laws_toAccountS_b1_ok (a1 : List Account) (x4 : List AccountN) (i1_1 : Nat) (s : laws_toAccountS_b1_S) (r : laws_toAccountS_b1_S ⊕ laws_toAccountS_b1_R) (h : laws_toAccountS_b1 a1 s = some r) (e : Env) (M : Mem) (hs : laws_toAccountS_b1_RS a1 x4 i1_1 s e M) : Ev (fun k => (f13_l3 (CN k) k (prune [0, 3, 4] e) M).bind fun q => some q) (bQ (laws_toAccountS_b1_RS a1 x4 i1_1) (laws_toAccountS_b1_RR a1 x4 i1_1) r) := by
 obtain ⟨s1_1, s1_2⟩ := s
 unfold laws_toAccountS_b1 at h
 obtain ⟨h30, h32, h34, o36, hl37⟩ := hs
 generalize he29 : prune [0, 3, 4] e = e28
 have h31 := envp he29.symm rfl h30
 have h33 := envp he29.symm rfl h32
 have h35 := envp he29.symm rfl h34
 refine sq (sq (Rg (kx (mvO h35) (kx (mvO h31) (kx (lnS Try.underlying22 rfl) (kx (bLss rfl rfl) (Rn (hV (.sl none (a1.map Account.c)) h31 (hV (.lsl i1_1 s1_2.length 0 s1_2.length) h33 (hV (.int .i64 s1_1) h35 (hN rfl hZ)))) fun e38 h40 h41 h42 h43 => sN ?_)))))))
 clear h31 h33 h35
 rcases ite_some h with ⟨hb44, h⟩ | ⟨hb44, h⟩
 ·obtain ⟨x45, hx46, h⟩ := bind_some h
  obtain ⟨⟨r48, r49, r50⟩, hx47, h⟩ := bind_some h
  obtain ⟨x51, hx52, h⟩ := bind_some h
  refine cT h43 hb44 (xx (sN (sq (bl (Rg (kx (mvO h41) (kx (mvO h42) (kx (mvO h40) (kx (mvO h42) (kx (ixS rfl rfl hx46 Account.fl) (kx (ldPA rfl rfl rfl) (kc (cl (v := .agg [.str r48, .sl none (r49.map Item.c), .int .i64 r50]) rfl (cns rfl rfl) rfl (laws_toAccount_ok x45 _ hx47) nm) (kx (ixO rfl o36 rfl rfl (rd_get hx52).1 (rd_lt hx52).2) (kw (stR (u := x51) (u' := (AccountN.mk r48 (some r49) r50)) rfl rfl o36 rfl (rz2 hx52) ⟨rfl, ble rfl⟩ rfl rfl) fun M53 hM54 => ?_))))))))))))))
  rw [Nat.zero_add] at hM54
  have o55 : M53[i1_1]? = some (.live ⟨.grow, 75, 3, (s1_2.set s1_1.toNat (AccountN.mk r48 (some r49) r50)).map AccountN.c⟩) := set_same hM54 o36
  have hx56 := rd_set (u' := (AccountN.mk r48 (some r49) r50)) hx52
  refine Rn (hA h40 (hA h41 (hA h42 hZ))) fun e57 h59 h60 h61 => bN (sN (Rg (kx (mvO h61) (kx (bAdd rfl rfl) (kx (mvO rfl) (Rn (hA h59 (hA h60 (hN rfl hZ))) fun e62 h64 h65 h66 => ?_))))))
  clear h40 h41 h42 h43 h59 h60
  obtain rfl := si h
  exact qN ⟨h64, (lslL (L' := (s1_2.set s1_1.toNat (AccountN.mk r48 (some r49) r50)).length) h65 (by simp [hl37])), h66, o55, (by first | rfl | simp [hl37])⟩
 refine cF h43 hb44 (xx (sE ?_))
 obtain rfl := si h
 exact qE ⟨rfl, h41, o36, (by first | rfl | simp [hl37])⟩
noncomputable def laws_toAccountS (a1 : List Account) : Option ((List Account)) :=
 (mkS 48 (AccountN.mk ([] : List UInt8) none 0) (a1.length : Int)).bind fun x4 =>
 (Lw (laws_toAccountS_b1 a1) (0, x4)).bind fun y72 =>
 (unL AccountN.un y72).bind fun x79 =>
 some x79
def laws_toAccountS_enc (r : (List Account)) : AV := .sl (some 75) (r.map Account.c)
theorem laws_toAccountS_ok (a1 : List Account) (r : (List Account)) (h : laws_toAccountS a1 = some r) : Ev (fun k => CN k 13 [.sl none (a1.map Account.c)] []) (fun p => rRes p.2 p.1 = laws_toAccountS_enc r) := by
 unfold laws_toAccountS at h
 obtain ⟨x4, hx5, h⟩ := bind_some h
 refine Ev.enter (F := fun k => f13 (CN k) k) (fun k => callN_eq rfl Try.func13 rfl rfl rfl (by decide +kernel) (f13_eq _ _)) (sq (Rg (kx (mvO rfl) (Rn (hN rfl hZ) fun e1 h3 => sN (sq (Rg (kx (mvO h3) (kx (lnS Try.underlying22 rfl) (ku (mkO rfl rfl hx5 (c := AccountN.c) zero75 AccountN.fl (by decide)) fun M7 hM8 => ?_)))))))))
 have o9 : M7[([] : Mem).length]? = some (.live ⟨.grow, 75, 3, x4.map AccountN.c⟩) := push_new hM8
 obtain ⟨y72, hr68, h⟩ := bind_some h
 refine kx (mvO rfl) (Rn (hA h3 (hV (.lsl ([] : Mem).length x4.length 0 x4.length) rfl hZ)) fun e10 h12 h13 => sN (sq (sq (Rg (kx (mvO rfl) (Rn (hA h12 (hA h13 (hV (.int .i64 0) rfl hZ))) fun e14 h16 h17 h18 => sN (bl (Ev.loop (RS := laws_toAccountS_b1_RS a1 x4 (([] : Mem).length)) (RR := laws_toAccountS_b1_RR a1 x4 (([] : Mem).length)) (fun s r h e M hs => laws_toAccountS_b1_ok a1 x4 (([] : Mem).length) s r h e M hs) hr68 ⟨h16, h17, h18, o9, rfl⟩ fun x e70 M71 hq69 => ?_))))))))
 clear h3 h12 h13
 obtain ⟨rfl, h73, o74, hl75⟩ := hq69
 obtain ⟨x79, hx80, h⟩ := bind_some h
 refine bE (sN (sq (Rg (kx (mvO h73) (kx (mvO rfl) (Rn (hV (.lsl ([] : Mem).length y72.length 0 y72.length) rfl hZ) fun e76 h78 => sN (xx ?_)))))))
 clear h73
 have o81 := un_obj AccountN.unc hx80 o74
 have hl82 := unL_len hx80
 have h83 := lslL (L' := x79.length) h78 hl82.symm
 obtain rfl := si h
 exact eR (resT h83 res0) (rr_row o81 rfl Account.fl)
/-! ### loop.example/g01263/laws.szAccountS (f11) -/
abbrev laws_szAccountS_b1_S := Int × Int
abbrev laws_szAccountS_b1_R := Unit ⊕ Int
def laws_szAccountS_b1_RS (a1 : List Account) (s : laws_szAccountS_b1_S) (e : Env) (M : Mem) : Prop := eget e 0 = .sl none (a1.map Account.c) ∧ eget e 1 = .int .i64 s.1 ∧ eget e 5 = .int .i64 s.2
def laws_szAccountS_b1_RR (a1 : List Account) (r : laws_szAccountS_b1_R) (x : Ex) (e : Env) (M : Mem) : Prop :=
  match r with
  | (.inl g) => x = .ret ∧ eget e 4 = .int .i64 (-1)
  | (.inr g) => x = .ext 0 ∧ eget e 1 = .int .i64 g
noncomputable def laws_szAccountS_b1 (a1 : List Account) : laws_szAccountS_b1_S → Option (laws_szAccountS_b1_S ⊕ laws_szAccountS_b1_R) := fun (s1_1, s1_2) =>
 if (decide (s1_2 < (a1.length : Int))) = true then
  (rd a1 s1_2).bind fun x46 =>
  (laws_szAccount x46 s1_1).bind fun r49 =>
  if (decide (r49 < 0)) = true then
   some (.inr (.inl ()))
  else
   some (.inl (r49, (IntKind.i64.wrap (s1_2 + 1))))
 else
  some (.inr (.inr s1_1))
theorem laws_szAccountS_b1_ok (a1 : List Account) (s : laws_szAccountS_b1_S) (r : laws_szAccountS_b1_S ⊕ laws_szAccountS_b1_R) (h : laws_szAccountS_b1 a1 s = some r) (e : Env) (M : Mem) (hs : laws_szAccountS_b1_RS a1 s e M) : Ev (fun k => (f11_l5 (CN k) k (prune [0, 1, 5] e) M).bind fun q => some q) (bQ (laws_szAccountS_b1_RS a1) (laws_szAccountS_b1_RR a1) r) := by
 obtain ⟨s1_1, s1_2⟩ := s
 unfold laws_szAccountS_b1 at h
 obtain ⟨h33, h35, h37⟩ := hs
 generalize he32 : prune [0, 1, 5] e = e31
 have h34 := envp he32.symm rfl h33
 have h36 := envp he32.symm rfl h35
 have h38 := envp he32.symm rfl h37
 refine sq (sq (Rg (kx (mvO h38) (kx (mvO h34) (kx (lnS Try.underlying22 rfl) (kx (bLss rfl rfl) (Rn (hV (.sl none (a1.map Account.c)) h34 (hV (.int .i64 s1_1) h36 (hV (.int .i64 s1_2) h38 (hN rfl hZ)))) fun e39 h41 h42 h43 h44 => sN ?_)))))))
 clear h34 h36 h38
 rcases ite_some h with ⟨hb45, h⟩ | ⟨hb45, h⟩
 ·obtain ⟨x46, hx47, h⟩ := bind_some h
  obtain ⟨r49, hx48, h⟩ := bind_some h
  refine cT h44 hb45 (xx (sN (sq (bl (sq (Rg (kx (mvO h41) (kx (mvO h43) (kx (ixS rfl rfl hx47 Account.fl) (kx (ldPA rfl rfl rfl) (kx (mvO h42) (kc (cl (v := .int .i64 r49) rfl (cns rfl (cns rfl rfl)) rfl (laws_szAccount_ok x46 s1_1 _ hx48) nm) (kx (mvO rfl) (Rn (hA h41 (hN rfl (hA h43 hZ))) fun e50 h52 h53 h54 => sN (sq (Rg (kx (mvO h53) (kx (bLss rfl rfl) (Rn (hA h52 (hA h53 (hA h54 (hN rfl hZ)))) fun e55 h57 h58 h59 h60 => sN ?_)))))))))))))))))))
  clear h41 h43 h44 h52 h53 h54
  rcases ite_some h with ⟨hb61, h⟩ | ⟨hb61, h⟩
  ·refine cT h60 hb61 (sq (Rg (kx (mvO rfl) (Rn (hV (.int .i64 (-1)) rfl hZ) fun e62 h64 => sN (xx (bR (sR ?_)))))))
   clear h57 h58 h59 h60
   obtain rfl := si h
   exact qR ⟨rfl, h64⟩
  refine cF h60 hb61 (xx (bN (sN (Rg (kx (mvO h59) (kx (bAdd rfl rfl) (kx (mvO rfl) (Rn (hA h57 (hA h58 (hN rfl hZ))) fun e65 h67 h68 h69 => ?_))))))))
  clear h57 h58 h60
  obtain rfl := si h
  exact qN ⟨h67, h68, h69⟩
 refine cF h44 hb45 (xx (sE ?_))
 obtain rfl := si h
 exact qE ⟨rfl, h42⟩
noncomputable def laws_szAccountS (a1 : List Account) (a2 : Int) : Option Int :=
 if (decide ((IntKind.i64.wrap (a2 - (a1.length : Int))) < 0)) = true then
  some (-1)
 else
  (Lw (laws_szAccountS_b1 a1) ((IntKind.i64.wrap (a2 - (a1.length : Int))), 0)).bind fun r => match r with
  | (.inl _) =>
   some (-1)
  | (.inr y78) =>
   some y78
def laws_szAccountS_enc (r : Int) : AV := .int .i64 r
theorem laws_szAccountS_ok (a1 : List Account) (a2 : Int) (r : Int) (h : laws_szAccountS a1 a2 = some r) : Ev (fun k => CN k 11 [.sl none (a1.map Account.c), .int .i64 a2] []) (fun p => rRes p.2 p.1 = laws_szAccountS_enc r) := by
 unfold laws_szAccountS at h
 refine Ev.enter (F := fun k => f11 (CN k) k) (fun k => callN_eq rfl Try.func11 rfl rfl rfl (by decide +kernel) (f11_eq _ _)) (sq (Rg (kx (mvO rfl) (Rn (hN rfl (hN rfl hZ)) fun e1 h3 h4 => sN (sq (Rg (kx (mvO h4) (kx (mvO h3) (kx (lnS Try.underlying22 rfl) (kx (bSub rfl rfl) (kx (mvO rfl) (Rn (hA h3 (hN rfl hZ)) fun e5 h7 h8 => sN (sq (sq (Rg (kx (mvO h8) (kx (bLss rfl rfl) (Rn (hA h7 (hA h8 (hN rfl hZ))) fun e9 h11 h12 h13 => sN ?_))))))))))))))))))
 clear h3 h7 h8
 rcases ite_some h with ⟨hb14, h⟩ | ⟨hb14, h⟩
 ·refine cT h13 hb14 (sq (Rg (kx (mvO rfl) (Rn (hV (.int .i64 (-1)) rfl hZ) fun e15 h17 => sN (xx (sR ?_))))))
  clear h11 h12 h13
  obtain rfl := si h
  exact eR (resT h17 res0) rfl
 obtain ⟨r70, hr71, h⟩ := bind_some h
 refine cF h13 hb14 (xx (sN (sq (sq (Rg (kx (mvO rfl) (Rn (hA h11 (hA h12 (hV (.int .i64 0) rfl hZ))) fun e18 h20 h21 h22 => sN (bl ?_))))))))
 clear h11 h12 h13
 rcases r70 with _ | y78
 ·refine Ev.loop (RS := laws_szAccountS_b1_RS a1) (RR := laws_szAccountS_b1_RR a1) (fun s r h e M hs => laws_szAccountS_b1_ok a1 s r h e M hs) hr71 ⟨h20, h21, h22⟩ fun x e73 M74 hq72 => ?_
  obtain ⟨rfl, h75⟩ := hq72
  refine bR (sR ?_)
  obtain rfl := si h
  exact eR (resT h75 res0) rfl
 refine Ev.loop (RS := laws_szAccountS_b1_RS a1) (RR := laws_szAccountS_b1_RR a1) (fun s r h e M hs => laws_szAccountS_b1_ok a1 s r h e M hs) hr71 ⟨h20, h21, h22⟩ fun x e76 M77 hq72 => ?_
 obtain ⟨rfl, h79⟩ := hq72
 refine bE (sN (sq (Rg (kx (mvO h79) (kx (mvO rfl) (Rn (hN rfl hZ) fun e80 h82 => sN (xx ?_)))))))
 clear h79
 obtain rfl := si h
 exact eR (resT h82 res0) rfl
/-! ### loop.example/g01263/laws.eqRoll (f10) -/
noncomputable def laws_eqRoll (a1 : Roll) (a2 : Roll) : Option Bool :=
 (laws_eqAccountS a1.Accounts a2.Accounts).bind fun r6 =>
 if r6 = true then
  if (a1.Owed != a2.Owed) = true then
   some false
  else
   some true
 else
  some false
def laws_eqRoll_enc (r : Bool) : AV := .bool r
theorem laws_eqRoll_ok (a1 : Roll) (a2 : Roll) (r : Bool) (h : laws_eqRoll a1 a2 = some r) : Ev (fun k => CN k 10 [.agg [.sl none (a1.Accounts.map Account.c), .int .i64 a1.Owed], .agg [.sl none (a2.Accounts.map Account.c), .int .i64 a2.Owed]] []) (fun p => rRes p.2 p.1 = laws_eqRoll_enc r) := by
 unfold laws_eqRoll at h
 obtain ⟨r6, hx5, h⟩ := bind_some h
 refine Ev.enter (F := fun k => f10 (CN k) k) (fun k => callN_eq rfl Try.func10 rfl rfl rfl (by decide +kernel) (f10_eq _ _)) (sq (Rg (kx (bxI rfl rfl ⟨rfl, rfl, by decide⟩) (kx (bxI rfl rfl ⟨rfl, rfl, by decide⟩) (kx (mvO rfl) (Rn (hN rfl (hN rfl hZ)) fun e1 h3 h4 => sN (sq (sq (Rg (kx (faP h3 ⟨ble rfl, blt rfl⟩ rfl) (kx (ldP rfl rfl) (kx (faP h4 ⟨ble rfl, blt rfl⟩ rfl) (kx (ldP rfl rfl) (kc (cl (v := .bool r6) rfl (cns rfl (cns rfl rfl)) rfl (laws_eqAccountS_ok a1.Accounts a2.Accounts _ hx5) nm) (kx (uNot rfl) (Rn (hA h3 (hA h4 (hN rfl hZ))) fun e7 h9 h10 h11 => sN ?_))))))))))))))))
 clear h3 h4
 rcases ite_some h with ⟨hb12, h⟩ | ⟨hb12, h⟩
 ·refine cF h11 (congrArg Bool.not hb12) (xx (sN (sq (sq (Rg (kx (faP h9 ⟨ble rfl, blt rfl⟩ rfl) (kx (ldP rfl rfl) (kx (faP h10 ⟨ble rfl, blt rfl⟩ rfl) (kx (ldP rfl rfl) (kx (bNeq rfl rfl) (Rn (hN rfl hZ) fun e13 h15 => sN ?_)))))))))))
  clear h10 h11 h9
  rcases ite_some h with ⟨hb16, h⟩ | ⟨hb16, h⟩
  ·refine cT h15 hb16 (sq (Rg (kx (mvO rfl) (Rn (hV (.bool false) rfl hZ) fun e17 h19 => sN (xx (sR ?_))))))
   clear h15
   obtain rfl := si h
   exact eR (resT h19 res0) rfl
  refine cF h15 hb16 (xx (sN (sq (Rg (kx (mvO rfl) (Rn (hV (.bool true) rfl hZ) fun e20 h22 => sN (xx ?_)))))))
  clear h15
  obtain rfl := si h
  exact eR (resT h22 res0) rfl
 refine cT h11 (congrArg Bool.not hb12) (sq (Rg (kx (mvO rfl) (Rn (hV (.bool false) rfl hZ) fun e23 h25 => sN (xx (sR ?_))))))
 clear h10 h11 h9
 obtain rfl := si h
 exact eR (resT h25 res0) rfl
/-! ### loop.example/g01263/impl.WorstDebtor (f9) -/
abbrev impl_WorstDebtor_b1_S := Int × Int × Int
abbrev impl_WorstDebtor_b1_R := Int
def impl_WorstDebtor_b1_RS (a1 : Roll) (s : impl_WorstDebtor_b1_S) (e : Env) (M : Mem) : Prop := eget e 4 = .int .i64 s.1 ∧ eget e 5 = .int .i64 s.2.1 ∧ eget e 12 = .sl none (a1.Accounts.map Account.c) ∧ eget e 13 = .int .i64 (a1.Accounts.length : Int) ∧ eget e 14 = .int .i64 s.2.2
def impl_WorstDebtor_b1_RR (a1 : Roll) (g : impl_WorstDebtor_b1_R) (x : Ex) (e : Env) (M : Mem) : Prop := x = .ext 0 ∧ eget e 4 = .int .i64 g
noncomputable def impl_WorstDebtor_b1 (a1 : Roll) : impl_WorstDebtor_b1_S → Option (impl_WorstDebtor_b1_S ⊕ impl_WorstDebtor_b1_R) := fun (s1_1, s1_2, s1_3) =>
 if (decide (s1_3 < (a1.Accounts.length : Int))) = true then
  (rd a1.Accounts s1_3).bind fun x56 =>
  if (decide (x56.Balance > s1_2)) = true then
   some (.inl (s1_3, x56.Balance, (IntKind.i64.wrap (s1_3 + 1))))
  else
   some (.inl (s1_1, s1_2, (IntKind.i64.wrap (s1_3 + 1))))
 else
  some (.inr s1_1)
theorem impl_WorstDebtor_b1_ok (a1 : Roll) (s : impl_WorstDebtor_b1_S) (r : impl_WorstDebtor_b1_S ⊕ impl_WorstDebtor_b1_R) (h : impl_WorstDebtor_b1 a1 s = some r) (e : Env) (M : Mem) (hs : impl_WorstDebtor_b1_RS a1 s e M) : Ev (fun k => (f9_l5 (CN k) k (prune [4, 5, 12, 13, 14] e) M).bind fun q => some q) (bQ (impl_WorstDebtor_b1_RS a1) (impl_WorstDebtor_b1_RR a1) r) := by
 obtain ⟨s1_1, s1_2, s1_3⟩ := s
 unfold impl_WorstDebtor_b1 at h
 obtain ⟨h37, h39, h41, h43, h45⟩ := hs
 generalize he36 : prune [4, 5, 12, 13, 14] e = e35
 have h38 := envp he36.symm rfl h37
 have h40 := envp he36.symm rfl h39
 have h42 := envp he36.symm rfl h41
 have h44 := envp he36.symm rfl h43
 have h46 := envp he36.symm rfl h45
 refine sq (Rg (kx (bLss h46 h44) (Rn (hV (.int .i64 s1_1) h38 (hV (.int .i64 s1_2) h40 (hV (.sl none (a1.Accounts.map Account.c)) h42 (hV (.int .i64 (a1.Accounts.length : Int)) h44 (hV (.int .i64 s1_3) h46 (hN rfl hZ)))))) fun e47 h49 h50 h51 h52 h53 h54 => sN (sq ?_))))
 clear h38 h40 h42 h44 h46
 rcases ite_some h with ⟨hb55, h⟩ | ⟨hb55, h⟩
 ·obtain ⟨x56, hx57, h⟩ := bind_some h
  refine cT h54 hb55 (xx (sN (sq (bl (sq (Rg (kx (mvO h53) (kx (ixS h51 h53 hx57 Account.fl) (kx (ldPA rfl rfl rfl) (ku (alO zero75) fun M59 hM60 => ?_))))))))))
  have o61 : M59[M.length]? = some (.live ⟨.box, 75, 3, [[.str ([] : List UInt8), .nils, .int .i64 0]]⟩) := push_new hM60
  refine kx (mvO rfl) (kw (stO rfl rfl o61 rfl rfl ⟨rfl, ble rfl⟩ rfl rfl) fun M62 hM63 => ?_)
  have o64 : M62[M.length]? = some (.live ⟨.box, 75, 3, [[.str x56.Title, .sl none (x56.Items.map Item.c), .int .i64 x56.Balance]]⟩) := set_same hM63 o61
  refine Rn (hA h49 (hA h50 (hN rfl (hV (.loc M.length 1 0 0) rfl (hA h51 (hA h52 (hA h53 hZ))))))) fun e65 h67 h68 h69 h70 h71 h72 h73 => sN (sq (Rg (kx (faO h70 o64 rfl) (kx (ldO rfl o64 rfl rfl rfl) (kx (mvO h68) (kx (bGtr rfl rfl) (Rn (hA h67 (hA h68 (hA h69 (hA h70 (hA h71 (hA h72 (hA h73 (hN rfl hZ)))))))) fun e74 h76 h77 h78 h79 h80 h81 h82 h83 => sN ?_)))))))
  clear h49 h50 h51 h52 h53 h54 h67 h68 h69 h70 h71 h72 h73
  rcases ite_some h with ⟨hb84, h⟩ | ⟨hb84, h⟩
  ·refine cT h83 hb84 (sq (Rg (kx (mvO h78) (kx (mvO rfl) (Rn (hN rfl (hA h79 (hA h80 (hA h81 (hA h82 hZ))))) fun e85 h87 h88 h89 h90 h91 => sN (Rg (kx (faO h88 o64 rfl) (kx (ldO rfl o64 rfl rfl rfl) (kx (mvO rfl) (Rn (hA h87 (hN rfl (hA h89 (hA h90 (hA h91 hZ))))) fun e92 h94 h95 h96 h97 h98 => bN (sN (Rg (kx (bAdd h98 rfl) (kx (mvO rfl) (Rn (hA h94 (hA h95 (hA h96 (hA h97 (hN rfl hZ))))) fun e99 h101 h102 h103 h104 h105 => ?_)))))))))))))))
   clear h77 h78 h79 h80 h81 h82 h83 h87 h88 h89 h90 h91 h94 h95 h96 h97
   obtain rfl := si h
   exact qN ⟨h101, h102, h103, h104, h105⟩
  refine cF h83 hb84 (xx (bN (sN (Rg (kx (bAdd h82 rfl) (kx (mvO rfl) (Rn (hA h76 (hA h77 (hA h80 (hA h81 (hN rfl hZ))))) fun e106 h108 h109 h110 h111 h112 => ?_)))))))
  clear h76 h77 h78 h79 h80 h81 h83
  obtain rfl := si h
  exact qN ⟨h108, h109, h110, h111, h112⟩
 refine cF h54 hb55 (xx (sE ?_))
 obtain rfl := si h
 exact qE ⟨rfl, h49⟩
noncomputable def impl_WorstDebtor (a1 : Roll) : Option (Int × Int) :=
 (impl_validRoll a1).bind fun r5 =>
 if r5 = true then
  (Lw (impl_WorstDebtor_b1 a1) ((-1), 0, 0)).bind fun y118 =>
  if (decide (y118 < 0)) = true then
   some (0, 6)
  else
   some (y118, 0)
 else
  some (0, 1)
def impl_WorstDebtor_enc (r : Int × Int) : AV := .tup [.int .i64 r.1, .int .i64 r.2]
theorem impl_WorstDebtor_ok (a1 : Roll) (r : Int × Int) (h : impl_WorstDebtor a1 = some r) : Ev (fun k => CN k 9 [.agg [.sl none (a1.Accounts.map Account.c), .int .i64 a1.Owed]] []) (fun p => rRes p.2 p.1 = impl_WorstDebtor_enc r) := by
 unfold impl_WorstDebtor at h
 obtain ⟨r5, hx4, h⟩ := bind_some h
 refine Ev.enter (F := fun k => f9 (CN k) k) (fun k => callN_eq rfl Try.func9 rfl rfl rfl (by decide +kernel) (f9_eq _ _)) (sq (Rg (kx (bxI rfl rfl ⟨rfl, rfl, by decide⟩) (kx (mvO rfl) (kx (mvO rfl) (Rn (hN rfl hZ) fun e1 h3 => sN (sq (sq (Rg (kx (ldPA h3 rfl rfl) (kc (cl (v := .bool r5) rfl (cns rfl rfl) rfl (impl_validRoll_ok a1 _ hx4) nm) (kx (uNot rfl) (Rn (hA h3 (hN rfl hZ)) fun e6 h8 h9 => sN ?_)))))))))))))
 clear h3
 rcases ite_some h with ⟨hb10, h⟩ | ⟨hb10, h⟩
 ·obtain ⟨y118, hr114, h⟩ := bind_some h
  refine cF h9 (congrArg Bool.not hb10) (xx (sN (sq (Rg (kx (mvO rfl) (kx (mvO rfl) (Rn (hA h8 (hV (.int .i64 (-1)) rfl (hV (.int .i64 0) rfl hZ))) fun e11 h13 h14 h15 => sN (sq (sq (Rg (kx (faP h13 ⟨ble rfl, blt rfl⟩ rfl) (kx (ldP rfl rfl) (kx (lnS Try.underlying28 rfl) (kx (mvO rfl) (Rn (hA h14 (hA h15 (hN rfl (hN rfl (hV (.int .i64 0) rfl hZ))))) fun e16 h18 h19 h20 h21 h22 => sN (bl (Ev.loop (RS := impl_WorstDebtor_b1_RS a1) (RR := impl_WorstDebtor_b1_RR a1) (fun s r h e M hs => impl_WorstDebtor_b1_ok a1 s r h e M hs) hr114 ⟨h18, h19, h20, h21, h22⟩ fun x e116 M117 hq115 => ?_)))))))))))))))))
  clear h8 h9 h13 h14 h15
  obtain ⟨rfl, h119⟩ := hq115
  refine bE (sN (sq (sq (Rg (kx (mvO h119) (kx (bLss rfl rfl) (Rn (hV (.int .i64 y118) h119 (hN rfl hZ)) fun e120 h122 h123 => sN ?_)))))))
  clear h119
  rcases ite_some h with ⟨hb124, h⟩ | ⟨hb124, h⟩
  ·refine cT h123 hb124 (sq (Rg (kx (mvO rfl) (kx (mvO rfl) (Rn (hV (.int .i64 0) rfl (hV (.int .i64 6) rfl hZ)) fun e125 h127 h128 => sN (xx (sR ?_)))))))
   clear h122 h123
   obtain rfl := si h
   exact eR (resT h127 (resT h128 res0)) rfl
  refine cF h123 hb124 (xx (sN (sq (Rg (kx (mvO h122) (kx (mvO rfl) (kx (mvO rfl) (Rn (hN rfl (hV (.int .i64 0) rfl hZ)) fun e129 h131 h132 => sN (xx ?_)))))))))
  clear h122 h123
  obtain rfl := si h
  exact eR (resT h131 (resT h132 res0)) rfl
 refine cT h9 (congrArg Bool.not hb10) (sq (Rg (kx (mvO rfl) (kx (mvO rfl) (Rn (hV (.int .i64 0) rfl (hV (.int .i64 1) rfl hZ)) fun e133 h135 h136 => sN (xx (sR ?_)))))))
 clear h8 h9
 obtain rfl := si h
 exact eR (resT h135 (resT h136 res0)) rfl
/-! ### loop.example/g01263/laws.toRoll (f8) -/
noncomputable def laws_toRoll (a1 : Roll) : Option ((List Account) × Int) :=
 (laws_toAccountS a1.Accounts).bind fun r21 =>
 some (r21, a1.Owed)
def laws_toRoll_enc (r : (List Account) × Int) : AV := .agg [.sl none (r.1.map Account.c), .int .i64 r.2]
theorem laws_toRoll_ok (a1 : Roll) (r : (List Account) × Int) (h : laws_toRoll a1 = some r) : Ev (fun k => CN k 8 [.agg [.sl none (a1.Accounts.map Account.c), .int .i64 a1.Owed]] []) (fun p => rRes p.2 p.1 = laws_toRoll_enc r) := by
 unfold laws_toRoll at h
 refine Ev.enter (F := fun k => f8 (CN k) k) (fun k => callN_eq rfl Try.func8 rfl rfl rfl (by decide +kernel) (f8_eq _ _)) (sq (Rg (kx (bxI rfl rfl ⟨rfl, rfl, by decide⟩) (ku (alO zero30) fun M2 hM3 => ?_))))
 have o4 : M2[([] : Mem).length]? = some (.live ⟨.box, 30, 2, [[.nils, .int .i64 0]]⟩) := push_new hM3
 refine Rn (hN rfl (hV (.loc ([] : Mem).length 1 0 0) rfl hZ)) fun e5 h7 h8 => sN (sq (Rg (ku (alO zero30) fun M10 hM11 => ?_)))
 have o12 := push_old hM11 o4
 have ne13 := ne_new o4
 have o14 : M10[M2.length]? = some (.live ⟨.box, 30, 2, [[.nils, .int .i64 0]]⟩) := push_new hM11
 obtain ⟨r21, hx20, h⟩ := bind_some h
 refine Rn (hA h7 (hA h8 (hV (.loc M2.length 1 0 0) rfl hZ))) fun e15 h17 h18 h19 => sN (sq (Rg (kx (faP h17 ⟨ble rfl, blt rfl⟩ rfl) (kx (ldP rfl rfl) (kc (cl (v := .sl (some 75) (r21.map Account.c)) rfl (cns rfl rfl) rfl (laws_toAccountS_ok a1.Accounts _ hx20) nm) (kx (faO h19 o14 rfl) (kw (stO rfl rfl o14 rfl rfl ⟨rfl, ble rfl⟩ rfl rfl) fun M22 hM23 => ?_)))))))
 clear h7 h8
 have o24 := set_ne hM23 ne13 o12
 have o25 : M22[M2.length]? = some (.live ⟨.box, 30, 2, [[.sl none (r21.map Account.c), .int .i64 0]]⟩) := set_same hM23 o14
 refine Rn (hA h17 (hA h18 (hA h19 hZ))) fun e26 h28 h29 h30 => sN (sq (Rg (kx (faP h28 ⟨ble rfl, blt rfl⟩ rfl) (kx (ldP rfl rfl) (kx (faO h30 o25 rfl) (kw (stO rfl rfl o25 rfl rfl ⟨rfl, ble rfl⟩ rfl rfl) fun M31 hM32 => ?_))))))
 clear h17 h18 h19
 have o33 := set_ne hM32 ne13 o24
 have o34 : M31[M2.length]? = some (.live ⟨.box, 30, 2, [[.sl none (r21.map Account.c), .int .i64 a1.Owed]]⟩) := set_same hM32 o25
 refine Rn (hA h29 (hA h30 hZ)) fun e35 h37 h38 => sN (sq (Rg (kx (ldOA h38 o34 rfl rfl (ble rfl) rfl) (kw (stO h37 rfl o33 rfl rfl ⟨rfl, ble rfl⟩ rfl rfl) fun M39 hM40 => ?_))))
 clear h28 h29 h30
 have o41 : M39[([] : Mem).length]? = some (.live ⟨.box, 30, 2, [[.sl none (r21.map Account.c), .int .i64 a1.Owed]]⟩) := set_same hM40 o33
 have o42 := set_ne hM40 (Ne.symm ne13) o34
 refine Rn (hA h37 hZ) fun e43 h45 => sN (xx ?_)
 clear h37 h38
 obtain rfl := si h
 exact eR (resC (ag := true) (sz := 2) ⟨by kernel_rfl, by kernel_rfl, by kernel_rfl⟩ (ldOA h45 o41 rfl rfl (ble rfl) rfl) res0) rfl
/-! ### loop.example/g01263/spec.WorstDebtor (f7) -/
abbrev spec_WorstDebtor_b1_S := Int × Int × Int
abbrev spec_WorstDebtor_b1_R := Int
def spec_WorstDebtor_b1_RS (a1 : Roll) (s : spec_WorstDebtor_b1_S) (e : Env) (M : Mem) : Prop := eget e 1 = .pt none [.sl none (a1.Accounts.map Account.c), .int .i64 a1.Owed] ∧ eget e 4 = .int .i64 s.1 ∧ eget e 5 = .int .i64 s.2.1 ∧ eget e 6 = .int .i64 s.2.2
def spec_WorstDebtor_b1_RR (a1 : Roll) (g : spec_WorstDebtor_b1_R) (x : Ex) (e : Env) (M : Mem) : Prop := x = .ext 0 ∧ eget e 4 = .int .i64 g
noncomputable def spec_WorstDebtor_b1 (a1 : Roll) : spec_WorstDebtor_b1_S → Option (spec_WorstDebtor_b1_S ⊕ spec_WorstDebtor_b1_R) := fun (s1_1, s1_2, s1_3) =>
 if (decide (s1_3 < (a1.Accounts.length : Int))) = true then
  (rd a1.Accounts s1_3).bind fun x54 =>
  if (decide (x54.Balance > s1_2)) = true then
   (rd a1.Accounts s1_3).bind fun x69 =>
   some (.inl (s1_3, x69.Balance, (IntKind.i64.wrap (s1_3 + 1))))
  else
   some (.inl (s1_1, s1_2, (IntKind.i64.wrap (s1_3 + 1))))
 else
  some (.inr s1_1)
theorem spec_WorstDebtor_b1_ok (a1 : Roll) (s : spec_WorstDebtor_b1_S) (r : spec_WorstDebtor_b1_S ⊕ spec_WorstDebtor_b1_R) (h : spec_WorstDebtor_b1 a1 s = some r) (e : Env) (M : Mem) (hs : spec_WorstDebtor_b1_RS a1 s e M) : Ev (fun k => (f7_l6 (CN k) k (prune [1, 4, 5, 6] e) M).bind fun q => some q) (bQ (spec_WorstDebtor_b1_RS a1) (spec_WorstDebtor_b1_RR a1) r) := by
 obtain ⟨s1_1, s1_2, s1_3⟩ := s
 unfold spec_WorstDebtor_b1 at h
 obtain ⟨h38, h40, h42, h44⟩ := hs
 generalize he37 : prune [1, 4, 5, 6] e = e36
 have h39 := envp he37.symm rfl h38
 have h41 := envp he37.symm rfl h40
 have h43 := envp he37.symm rfl h42
 have h45 := envp he37.symm rfl h44
 refine sq (sq (Rg (kx (mvO h45) (kx (faP h39 ⟨ble rfl, blt rfl⟩ rfl) (kx (ldP rfl rfl) (kx (lnS Try.underlying28 rfl) (kx (bLss rfl rfl) (Rn (hV (.pt none [.sl none (a1.Accounts.map Account.c), .int .i64 a1.Owed]) h39 (hV (.int .i64 s1_1) h41 (hA h43 (hV (.int .i64 s1_3) h45 (hN rfl hZ))))) fun e46 h48 h49 h50 h51 h52 => sN ?_))))))))
 clear h39 h41 h43 h45
 rcases ite_some h with ⟨hb53, h⟩ | ⟨hb53, h⟩
 ·obtain ⟨x54, hx55, h⟩ := bind_some h
  refine cT h52 hb53 (xx (sN (sq (bl (sq (Rg (kx (faP h48 ⟨ble rfl, blt rfl⟩ rfl) (kx (ldP rfl rfl) (kx (mvO h51) (kx (ixS rfl rfl hx55 Account.fl) (kx (faP rfl ⟨ble rfl, blt rfl⟩ rfl) (kx (ldP rfl rfl) (kx (mvO h50) (kx (bGtr rfl rfl) (Rn (hA h48 (hA h49 (hA h50 (hA h51 (hN rfl hZ))))) fun e56 h58 h59 h60 h61 h62 => sN ?_)))))))))))))))
  clear h48 h49 h50 h51 h52
  rcases ite_some h with ⟨hb63, h⟩ | ⟨hb63, h⟩
  ·obtain ⟨x69, hx70, h⟩ := bind_some h
   refine cT h62 hb63 (sq (Rg (kx (mvO h61) (kx (mvO rfl) (Rn (hA h58 (hN rfl (hA h61 hZ))) fun e64 h66 h67 h68 => sN (Rg (kx (faP h66 ⟨ble rfl, blt rfl⟩ rfl) (kx (ldP rfl rfl) (kx (mvO h68) (kx (ixS rfl rfl hx70 Account.fl) (kx (faP rfl ⟨ble rfl, blt rfl⟩ rfl) (kx (ldP rfl rfl) (kx (mvO rfl) (Rn (hA h66 (hA h67 (hN rfl (hA h68 hZ)))) fun e71 h73 h74 h75 h76 => bN (sN (Rg (kx (mvO h76) (kx (bAdd rfl rfl) (kx (mvO rfl) (Rn (hA h73 (hA h74 (hA h75 (hN rfl hZ)))) fun e77 h79 h80 h81 h82 => ?_))))))))))))))))))))
   clear h58 h60 h61 h62 h66 h67 h68 h73 h74 h75
   obtain rfl := si h
   exact qN ⟨h79, h80, h81, h82⟩
  refine cF h62 hb63 (xx (bN (sN (Rg (kx (mvO h61) (kx (bAdd rfl rfl) (kx (mvO rfl) (Rn (hA h58 (hA h59 (hA h60 (hN rfl hZ)))) fun e83 h85 h86 h87 h88 => ?_))))))))
  clear h58 h59 h60 h62
  obtain rfl := si h
  exact qN ⟨h85, h86, h87, h88⟩
 refine cF h52 hb53 (xx (sE ?_))
 obtain rfl := si h
 exact qE ⟨rfl, h49⟩
noncomputable def spec_WorstDebtor (a1 : Roll) : Option (Int × Int) :=
 (spec_l05Roll a1).bind fun r5 =>
 if r5 = true then
  (Lw (spec_WorstDebtor_b1 a1) ((-1), 0, 0)).bind fun y94 =>
  if (decide (y94 < 0)) = true then
   some (0, 6)
  else
   some (y94, 0)
 else
  some (0, 1)
def spec_WorstDebtor_enc (r : Int × Int) : AV := .tup [.int .i64 r.1, .int .i64 r.2]
theorem spec_WorstDebtor_ok (a1 : Roll) (r : Int × Int) (h : spec_WorstDebtor a1 = some r) : Ev (fun k => CN k 7 [.agg [.sl none (a1.Accounts.map Account.c), .int .i64 a1.Owed]] []) (fun p => rRes p.2 p.1 = spec_WorstDebtor_enc r) := by
 unfold spec_WorstDebtor at h
 obtain ⟨r5, hx4, h⟩ := bind_some h
 refine Ev.enter (F := fun k => f7 (CN k) k) (fun k => callN_eq rfl Try.func7 rfl rfl rfl (by decide +kernel) (f7_eq _ _)) (sq (Rg (kx (bxI rfl rfl ⟨rfl, rfl, by decide⟩) (kx (mvO rfl) (kx (mvO rfl) (Rn (hN rfl hZ) fun e1 h3 => sN (sq (sq (Rg (kc (cl (v := .bool r5) rfl (cns h3 rfl) rfl (spec_l05Roll_ok a1 _ hx4) nm) (kx (uNot rfl) (Rn (hA h3 (hN rfl hZ)) fun e6 h8 h9 => sN ?_))))))))))))
 clear h3
 rcases ite_some h with ⟨hb10, h⟩ | ⟨hb10, h⟩
 ·obtain ⟨y94, hr90, h⟩ := bind_some h
  refine cF h9 (congrArg Bool.not hb10) (xx (sN (sq (Rg (kx (mvO rfl) (Rn (hA h8 (hV (.int .i64 (-1)) rfl hZ)) fun e11 h13 h14 => sN (sq (Rg (kx (mvO rfl) (Rn (hA h13 (hA h14 (hV (.int .i64 0) rfl hZ))) fun e15 h17 h18 h19 => sN (sq (sq (Rg (kx (mvO rfl) (Rn (hA h17 (hA h18 (hA h19 (hV (.int .i64 0) rfl hZ)))) fun e20 h22 h23 h24 h25 => sN (bl (Ev.loop (RS := spec_WorstDebtor_b1_RS a1) (RR := spec_WorstDebtor_b1_RR a1) (fun s r h e M hs => spec_WorstDebtor_b1_ok a1 s r h e M hs) hr90 ⟨h22, h23, h24, h25⟩ fun x e92 M93 hq91 => ?_)))))))))))))))))
  clear h8 h9 h13 h14 h17 h18 h19
  obtain ⟨rfl, h95⟩ := hq91
  refine bE (sN (sq (sq (Rg (kx (mvO h95) (kx (bLss rfl rfl) (Rn (hV (.int .i64 y94) h95 (hN rfl hZ)) fun e96 h98 h99 => sN ?_)))))))
  clear h95
  rcases ite_some h with ⟨hb100, h⟩ | ⟨hb100, h⟩
  ·refine cT h99 hb100 (sq (Rg (kx (mvO rfl) (kx (mvO rfl) (Rn (hV (.int .i64 0) rfl (hV (.int .i64 6) rfl hZ)) fun e101 h103 h104 => sN (xx (sR ?_)))))))
   clear h98 h99
   obtain rfl := si h
   exact eR (resT h103 (resT h104 res0)) rfl
  refine cF h99 hb100 (xx (sN (sq (Rg (kx (mvO h98) (kx (mvO rfl) (kx (mvO rfl) (Rn (hN rfl (hV (.int .i64 0) rfl hZ)) fun e105 h107 h108 => sN (xx ?_)))))))))
  clear h98 h99
  obtain rfl := si h
  exact eR (resT h107 (resT h108 res0)) rfl
 refine cT h9 (congrArg Bool.not hb10) (sq (Rg (kx (mvO rfl) (kx (mvO rfl) (Rn (hV (.int .i64 0) rfl (hV (.int .i64 1) rfl hZ)) fun e109 h111 h112 => sN (xx (sR ?_)))))))
 clear h8 h9
 obtain rfl := si h
 exact eR (resT h111 (resT h112 res0)) rfl
/-! ### loop.example/g01263/laws.szRoll (f6) -/
noncomputable def laws_szRoll (a1 : Roll) (a2 : Int) : Option Int :=
 (laws_szAccountS a1.Accounts a2).bind fun r6 =>
 if (decide (r6 < 0)) = true then
  some (-1)
 else
  some r6
def laws_szRoll_enc (r : Int) : AV := .int .i64 r
theorem laws_szRoll_ok (a1 : Roll) (a2 : Int) (r : Int) (h : laws_szRoll a1 a2 = some r) : Ev (fun k => CN k 6 [.agg [.sl none (a1.Accounts.map Account.c), .int .i64 a1.Owed], .int .i64 a2] []) (fun p => rRes p.2 p.1 = laws_szRoll_enc r) := by
 unfold laws_szRoll at h
 obtain ⟨r6, hx5, h⟩ := bind_some h
 refine Ev.enter (F := fun k => f6 (CN k) k) (fun k => callN_eq rfl Try.func6 rfl rfl rfl (by decide +kernel) (f6_eq _ _)) (sq (Rg (kx (bxI rfl rfl ⟨rfl, rfl, by decide⟩) (kx (mvO rfl) (Rn (hN rfl (hN rfl hZ)) fun e1 h3 h4 => sN (sq (Rg (kx (faP h4 ⟨ble rfl, blt rfl⟩ rfl) (kx (ldP rfl rfl) (kx (mvO h3) (kc (cl (v := .int .i64 r6) rfl (cns rfl (cns rfl rfl)) rfl (laws_szAccountS_ok a1.Accounts a2 _ hx5) nm) (kx (mvO rfl) (Rn (hN rfl hZ) fun e7 h9 => sN (sq (sq (Rg (kx (mvO h9) (kx (bLss rfl rfl) (Rn (hA h9 (hN rfl hZ)) fun e10 h12 h13 => sN ?_)))))))))))))))))))
 clear h4 h9
 rcases ite_some h with ⟨hb14, h⟩ | ⟨hb14, h⟩
 ·refine cT h13 hb14 (sq (Rg (kx (mvO rfl) (Rn (hV (.int .i64 (-1)) rfl hZ) fun e15 h17 => sN (xx (sR ?_))))))
  clear h12 h13
  obtain rfl := si h
  exact eR (resT h17 res0) rfl
 refine cF h13 hb14 (xx (sN (sq (Rg (kx (mvO h12) (kx (mvO rfl) (Rn (hN rfl hZ) fun e18 h20 => sN (xx ?_))))))))
 clear h12 h13
 obtain rfl := si h
 exact eR (resT h20 res0) rfl
/-! ### loop.example/g01263/laws.FnExactWorstDebtor (f3) -/
def laws_FnExactWorstDebtor_c1_Q (a1 : Roll) (r34 : List Account) (r35 : Int) (i901_1 : Nat) (g : Bool) (q : Out) : Prop := q.1 = .nrm ∧ eget q.2.1 1 = .pt none [.sl none (a1.Accounts.map Account.c), .int .i64 a1.Owed] ∧ eget q.2.1 6 = .loc i901_1 1 0 0 ∧ eget q.2.1 34 = .bool g ∧ q.2.2[i901_1]? = some (.live ⟨.box, 30, 2, [[.sl none (r34.map Account.c), .int .i64 r35]]⟩)
noncomputable def laws_FnExactWorstDebtor (a1 : Roll) : Option Bool :=
 (laws_szRoll a1 1048576).bind fun r9 =>
 if (decide (r9 < 0)) = true then
  some true
 else
  (laws_toRoll a1).bind fun (r23, r24) =>
  (spec_WorstDebtor (Roll.mk r23 r24)).bind fun (r26, r27) =>
  (laws_toRoll a1).bind fun (r34, r35) =>
  (impl_WorstDebtor (Roll.mk r34 r35)).bind fun (r50, r51) =>
  (if (r50 != r26) = true then
   some true
  else
   some (r51 != r27)).bind fun y73 =>
  if y73 = true then
   some false
  else
   (laws_toRoll a1).bind fun (r83, r84) =>
   (laws_eqRoll (Roll.mk r34 r35) (Roll.mk r83 r84)).bind fun r86 =>
   if r86 = true then
    some true
   else
    some false
def laws_FnExactWorstDebtor_enc (r : Bool) : AV := .bool r
theorem laws_FnExactWorstDebtor_ok (a1 : Roll) (r : Bool) (h : laws_FnExactWorstDebtor a1 = some r) : Ev (fun k => CN k 3 [.agg [.sl none (a1.Accounts.map Account.c), .int .i64 a1.Owed]] []) (fun p => rRes p.2 p.1 = laws_FnExactWorstDebtor_enc r) := by
 unfold laws_FnExactWorstDebtor at h
 obtain ⟨r9, hx8, h⟩ := bind_some h
 refine Ev.enter (F := fun k => f3 (CN k) k) (fun k => callN_eq rfl Try.func3 rfl rfl rfl (by decide +kernel) (f3_eq _ _)) (sq (Rg (kx (bxI rfl rfl ⟨rfl, rfl, by decide⟩) (kx (mvO rfl) (Rn (hN rfl hZ) fun e1 h3 => sN (sq (Rg (kx (mvO rfl) (Rn (hA h3 (hV (.int .i64 1048576) rfl hZ)) fun e4 h6 h7 => sN (sq (Rg (kx (ldPA h6 rfl rfl) (kx (mvO h7) (kc (cl (v := .int .i64 r9) rfl (cns rfl (cns rfl rfl)) rfl (laws_szRoll_ok a1 1048576 _ hx8) nm) (kx (mvO rfl) (Rn (hA h6 (hN rfl hZ)) fun e10 h12 h13 => sN (sq (sq (Rg (kx (mvO h13) (kx (bLss rfl rfl) (Rn (hA h12 (hN rfl hZ)) fun e14 h16 h17 => sN ?_))))))))))))))))))))))
 clear h3 h6 h12 h13
 rcases ite_some h with ⟨hb18, h⟩ | ⟨hb18, h⟩
 ·refine cT h17 hb18 (sq (Rg (kx (mvO rfl) (Rn (hV (.bool true) rfl hZ) fun e19 h21 => sN (xx (sR ?_))))))
  clear h16 h17
  obtain rfl := si h
  exact eR (resT h21 res0) rfl
 obtain ⟨⟨r23, r24⟩, hx22, h⟩ := bind_some h
 obtain ⟨⟨r26, r27⟩, hx25, h⟩ := bind_some h
 obtain ⟨⟨r34, r35⟩, hx33, h⟩ := bind_some h
 refine cF h17 hb18 (xx (sN (sq (Rg (kx (ldPA h16 rfl rfl) (kc (cl (v := .agg [.sl none (r23.map Account.c), .int .i64 r24]) rfl (cns rfl rfl) rfl (laws_toRoll_ok a1 _ hx22) nm) (kc (cl (v := .tup [.int .i64 r26, .int .i64 r27]) rfl (cns rfl rfl) rfl (spec_WorstDebtor_ok (Roll.mk r23 r24) _ hx25) nm) (kx (mvO rfl) (kx (exT rfl rfl) (kx (exT rfl rfl) (kx (mvO rfl) (kx (mvO rfl) (Rn (hA h16 (hN rfl (hN rfl hZ))) fun e28 h30 h31 h32 => sN (sq (Rg (kx (ldPA h30 rfl rfl) (kc (cl (v := .agg [.sl none (r34.map Account.c), .int .i64 r35]) rfl (cns rfl rfl) rfl (laws_toRoll_ok a1 _ hx33) nm) (ku (alO zero30) fun M37 hM38 => ?_))))))))))))))))))
 clear h16 h17
 have o39 : M37[([] : Mem).length]? = some (.live ⟨.box, 30, 2, [[.nils, .int .i64 0]]⟩) := push_new hM38
 refine kw (stO rfl rfl o39 rfl rfl ⟨rfl, ble rfl⟩ rfl rfl) fun M40 hM41 => ?_
 have o42 : M40[([] : Mem).length]? = some (.live ⟨.box, 30, 2, [[.sl none (r34.map Account.c), .int .i64 r35]]⟩) := set_same hM41 o39
 obtain ⟨⟨r50, r51⟩, hx49, h⟩ := bind_some h
 obtain ⟨r98, hr99, h⟩ := bind_some h
 refine Rn (hA h30 (hA h31 (hA h32 (hV (.loc ([] : Mem).length 1 0 0) rfl hZ)))) fun e43 h45 h46 h47 h48 => sN (sq (Rg (kx (ldOA h48 o42 rfl rfl (ble rfl) rfl) (kc (cl (v := .tup [.int .i64 r50, .int .i64 r51]) rfl (cns rfl rfl) rfl (impl_WorstDebtor_ok (Roll.mk r34 r35) _ hx49) nm) (kx (mvO rfl) (kx (exT rfl rfl) (kx (exT rfl rfl) (kx (mvO rfl) (kx (mvO rfl) (Rn (hA h45 (hA h46 (hA h47 (hA h48 (hN rfl (hN rfl hZ)))))) fun e52 h54 h55 h56 h57 h58 h59 => sN (sq (sq ?_))))))))))))
 clear h30 h31 h32 h45 h46 h47 h48
 refine Ev.cut (Q1 := laws_FnExactWorstDebtor_c1_Q a1 r34 r35 (([] : Mem).length) r98) (by
     have h := hr99
     refine Rg (kx (mvO h58) (kx (mvO h55) (kx (bNeq rfl rfl) (kx (mvO rfl) ?_))))
     rcases ite_some h with ⟨hb60, h⟩ | ⟨hb60, h⟩
     ·refine kx (gsF rfl hb60) (kx (gsF rfl hb60) (kx (gsF rfl hb60) (kx (pkT rfl hb60 rfl) (Rn (hA h54 (hA h57 (hV (.bool true) rfl hZ))) fun e61 h63 h64 h65 => ?_))))
      clear h54 h55 h56 h57 h58 h59
      obtain rfl := si h
      exact kd (show laws_FnExactWorstDebtor_c1_Q a1 r34 r35 (([] : Mem).length) _ _ from ⟨rfl, h63, h64, h65, o42⟩)
     refine kx (guF rfl hb60 (mvO h59)) (kx (guF rfl hb60 (mvO h56)) (kx (guF rfl hb60 (bNeq rfl rfl)) (kx (pkF rfl hb60 rfl) (Rn (hA h54 (hA h57 (hN rfl hZ))) fun e66 h68 h69 h70 => ?_))))
     clear h54 h55 h56 h57 h58 h59
     obtain rfl := si h
     exact kd (show laws_FnExactWorstDebtor_c1_Q a1 r34 r35 (([] : Mem).length) _ _ from ⟨rfl, h68, h69, h70, o42⟩)) ?_
 revert h hr99
 revert r98
 intro y73 hr99 h
 intro x e71 M72 hq97
 obtain ⟨rfl, h74, h75, h76, o77⟩ := hq97
 refine sN ?_
 rcases ite_some h with ⟨hb78, h⟩ | ⟨hb78, h⟩
 ·refine cT h76 hb78 (sq (Rg (kx (mvO rfl) (Rn (hV (.bool false) rfl hZ) fun e79 h81 => sN (xx (sR ?_))))))
  clear h74 h75 h76
  obtain rfl := si h
  exact eR (resT h81 res0) rfl
 obtain ⟨⟨r83, r84⟩, hx82, h⟩ := bind_some h
 obtain ⟨r86, hx85, h⟩ := bind_some h
 refine cF h76 hb78 (xx (sN (sq (sq (Rd (kf (ldOA h75 o77 rfl rfl (ble rfl) rfl) (kf (ldPA h74 rfl rfl) (fc (cl (v := .agg [.sl none (r83.map Account.c), .int .i64 r84]) rfl (cns rfl rfl) rfl (laws_toRoll_ok a1 _ hx82) nm) (fc (cl (v := .bool r86) rfl (cns rfl (cns rfl rfl)) rfl (laws_eqRoll_ok (Roll.mk r34 r35) (Roll.mk r83 r84) _ hx85) nm) (kf (uNot rfl) (fZ (Rn (hN rfl hZ) fun e87 h89 => sN ?_))))))))))))
 clear h74 h75 h76
 rcases ite_some h with ⟨hb90, h⟩ | ⟨hb90, h⟩
 ·refine cF h89 (congrArg Bool.not hb90) (xx (sN (sq (Rg (kx (mvO rfl) (Rn (hV (.bool true) rfl hZ) fun e91 h93 => sN (xx ?_)))))))
  clear h89
  obtain rfl := si h
  exact eR (resT h93 res0) rfl
 refine cT h89 (congrArg Bool.not hb90) (sq (Rg (kx (mvO rfl) (Rn (hV (.bool false) rfl hZ) fun e94 h96 => sN (xx (sR ?_))))))
 clear h89
 obtain rfl := si h
 exact eR (resT h96 res0) rfl
end Go.Proofs.Ytonpeobfmgdamaa

/- Printed by a program of ours (ext.py). -/
import Derived.Test.YtbhbmgmnnkcmcaaDoorFnsRollText
set_option linter.unusedVariables false
set_option linter.unusedSimpArgs false
set_option maxRecDepth 100000
set_option maxHeartbeats 2000000
namespace Go.Proofs.YtbhbmgmnnkcmcaaDoor
open Go Go.Ab
structure Item where
  Kind : Int
  Amount : Int
  deriving DecidableEq
def Item.c (x : Item) : List AV := [.int .i8 x.Kind, .int .i64 x.Amount]
theorem Item.fl : Fl Item.c 2 := fun _ => ⟨rfl, rfl⟩
theorem Item.flF : FlF Item.c := fun _ => rfl
structure Account where
  Title : List UInt8
  Items : List Item
  Balance : Int
  deriving DecidableEq
def Account.c (x : Account) : List AV := [.str x.Title, .sl none (x.Items.map Item.c), .int .i64 x.Balance]
theorem Account.fl : Fl Account.c 3 := fun _ => ⟨rfl, rfl⟩
structure Roll where
  Accounts : List Account
  Owed : Int
  deriving DecidableEq
def Roll.c (x : Roll) : List AV := [.sl none (x.Accounts.map Account.c), .int .i64 x.Owed]
theorem Roll.fl : Fl Roll.c 2 := fun _ => ⟨rfl, rfl⟩
structure AccountN where
  Title : List UInt8
  Items : Option (List Item)
  Balance : Int
  deriving DecidableEq
def AccountN.c (x : AccountN) : List AV := [.str x.Title, (oslC Item.c x.Items), .int .i64 x.Balance]
theorem AccountN.fl : Fl AccountN.c 3 := fun x => ⟨rfl, by rcases x with ⟨q0, q1, q2⟩; cases q1 <;> rfl⟩
def AccountN.un (x : AccountN) : Option Account := x.Items.bind fun q1 => some (Account.mk x.Title q1 x.Balance)
theorem AccountN.unc (x : AccountN) (y : Account) (h : AccountN.un x = some y) : AccountN.c x = Account.c y := by
 rcases x with ⟨q0, q1, q2⟩
 cases q1 <;> simp [AccountN.un] at h
 subst h
 rfl
theorem zero29 : zeroOf cx.P 29 = [.str ([] : List UInt8), .nils, .int .i64 0] := by kernel_rfl
theorem zero40 : zeroOf cx.P 40 = [.nils, .int .i64 0] := by kernel_rfl
theorem zero85 : zeroOf cx.P 85 = [.int .i8 0, .int .i64 0] := by kernel_rfl
/-! ### loop.example/g01263/spec.l00Max (f165) -/
noncomputable def spec_l00Max (a1 : Int) (a2 : Int) : Option Int :=
 if (decide (a1 > a2)) = true then
  some a1
 else
  some a2
def spec_l00Max_enc (r : Int) : AV := .int .i64 r
theorem spec_l00Max_ok (a1 : Int) (a2 : Int) (r : Int) (h : spec_l00Max a1 a2 = some r) : Ev (fun k => CN k 165 [.int .i64 a1, .int .i64 a2] []) (fun p => rRes p.2 p.1 = spec_l00Max_enc r) := by
 unfold spec_l00Max at h
 refine Ev.enter (F := fun k => f165 (CN k) k) (fun k => callN_eq rfl Tryd.func165 rfl rfl rfl (by decide +kernel) (f165_eq _ _)) (sq (Rg (kx (mvO rfl) (Rn (hN rfl (hN rfl hZ)) fun e1 h3 h4 => sN (sq (sq (Rg (kx (mvO h3) (kx (mvO h4) (kx (bGtr rfl rfl) (Rn (hA h3 (hA h4 (hN rfl hZ))) fun e5 h7 h8 h9 => sN ?_)))))))))))
 clear h3 h4
 rcases ite_some h with ⟨hb10, h⟩ | ⟨hb10, h⟩
 ·refine cT h9 hb10 (sq (Rg (kx (mvO h7) (kx (mvO rfl) (Rn (hN rfl hZ) fun e11 h13 => sN (xx (sR ?_)))))))
  clear h7 h8 h9
  obtain rfl := si h
  exact eR (resT h13 res0) rfl
 refine cF h9 hb10 (xx (sN (sq (Rg (kx (mvO h8) (kx (mvO rfl) (Rn (hN rfl hZ) fun e14 h16 => sN (xx ?_))))))))
 clear h7 h8 h9
 obtain rfl := si h
 exact eR (resT h16 res0) rfl
/-! ### loop.example/g01263/spec.l00In (f84) -/
noncomputable def spec_l00In (a1 : Int) (a2 : Int) (a3 : Int) : Option Bool :=
 if (decide (a1 ≥ a2)) = true then
  some (decide (a1 ≤ a3))
 else
  some false
def spec_l00In_enc (r : Bool) : AV := .bool r
theorem spec_l00In_ok (a1 : Int) (a2 : Int) (a3 : Int) (r : Bool) (h : spec_l00In a1 a2 a3 = some r) : Ev (fun k => CN k 84 [.int .i64 a1, .int .i64 a2, .int .i64 a3] []) (fun p => rRes p.2 p.1 = spec_l00In_enc r) := by
 unfold spec_l00In at h
 refine Ev.enter (F := fun k => f84 (CN k) k) (fun k => callN_eq rfl Tryd.func84 rfl rfl rfl (by decide +kernel) (f84_eq _ _)) (sq (Rg (kx (mvO rfl) (Rn (hN rfl (hN rfl (hN rfl hZ))) fun e1 h3 h4 h5 => sN (sq (Rg (kx (mvO h3) (kx (mvO h4) (kx (bGeq rfl rfl) (kx (mvO rfl) ?_))))))))))
 rcases ite_some h with ⟨hb6, h⟩ | ⟨hb6, h⟩
 ·refine kx (guT rfl hb6 (mvO h3)) (kx (guT rfl hb6 (mvO h5)) (kx (guT rfl hb6 (bLeq rfl rfl)) (kx (pkT rfl hb6 rfl) (kx (mvO rfl) (Rn (hN rfl hZ) fun e7 h9 => sN (xx ?_))))))
  clear h3 h4 h5
  obtain rfl := si h
  exact eR (resT h9 res0) rfl
 refine kx (gsT rfl hb6) (kx (gsT rfl hb6) (kx (gsT rfl hb6) (kx (pkF rfl hb6 rfl) (kx (mvO rfl) (Rn (hV (.bool false) rfl hZ) fun e10 h12 => sN (xx ?_))))))
 clear h3 h4 h5
 obtain rfl := si h
 exact eR (resT h12 res0) rfl
/-! ### loop.example/g01263/spec.l01Amount (f49) -/
noncomputable def spec_l01Amount (a1 : Int) : Option Bool :=
 (spec_l00In a1 0 100000000).bind fun r5 =>
 some r5
def spec_l01Amount_enc (r : Bool) : AV := .bool r
theorem spec_l01Amount_ok (a1 : Int) (r : Bool) (h : spec_l01Amount a1 = some r) : Ev (fun k => CN k 49 [.int .i64 a1] []) (fun p => rRes p.2 p.1 = spec_l01Amount_enc r) := by
 unfold spec_l01Amount at h
 obtain ⟨r5, hx4, h⟩ := bind_some h
 refine Ev.enter (F := fun k => f49 (CN k) k) (fun k => callN_eq rfl Tryd.func49 rfl rfl rfl (by decide +kernel) (f49_eq _ _)) (sq (Rg (kx (mvO rfl) (Rn (hN rfl hZ) fun e1 h3 => sN (sq (Rg (kx (mvO h3) (kc (cl (v := .bool r5) rfl (cns rfl (cns rfl (cns rfl rfl))) rfl (spec_l00In_ok a1 0 100000000 _ hx4) nm) (kx (mvO rfl) (Rn (hN rfl hZ) fun e6 h8 => sN (xx ?_)))))))))))
 clear h3
 obtain rfl := si h
 exact eR (resT h8 res0) rfl
/-! ### loop.example/g01263/spec.l05Item (f151) -/
noncomputable def spec_l05Item (a1 : Item) : Option Bool :=
 (spec_l00In (IntKind.i64.wrap a1.Kind) 0 3).bind fun r5 =>
 if r5 = true then
  (spec_l01Amount a1.Amount).bind fun r8 =>
  some r8
 else
  some false
def spec_l05Item_enc (r : Bool) : AV := .bool r
theorem spec_l05Item_ok (a1 : Item) (r : Bool) (h : spec_l05Item a1 = some r) : Ev (fun k => CN k 151 [.pt none [.int .i8 a1.Kind, .int .i64 a1.Amount]] []) (fun p => rRes p.2 p.1 = spec_l05Item_enc r) := by
 unfold spec_l05Item at h
 obtain ⟨r5, hx4, h⟩ := bind_some h
 refine Ev.enter (F := fun k => f151 (CN k) k) (fun k => callN_eq rfl Tryd.func151 rfl rfl rfl (by decide +kernel) (f151_eq _ _)) (sq (Rg (kx (mvO rfl) (Rn (hN rfl hZ) fun e1 h3 => sN (sq (Rg (kx (mvO h3) (kx (ncP rfl) (kx (faP rfl ⟨ble rfl, blt rfl⟩ rfl) (kx (ldP rfl rfl) (kx (cvI rfl) (kc (cl (v := .bool r5) rfl (cns rfl (cns rfl (cns rfl rfl))) rfl (spec_l00In_ok (IntKind.i64.wrap a1.Kind) 0 3 _ hx4) nm) (kx (mvO rfl) ?_)))))))))))))
 rcases ite_some h with ⟨hb6, h⟩ | ⟨hb6, h⟩
 ·obtain ⟨r8, hx7, h⟩ := bind_some h
  refine kx (guT rfl hb6 (mvO h3)) (kx (guT rfl hb6 (ncP rfl)) (kx (guT rfl hb6 (faP rfl ⟨ble rfl, blt rfl⟩ rfl)) (kx (guT rfl hb6 (ldP rfl rfl)) (kc (Ev.guT rfl hb6 (cl (v := .bool r8) rfl (cns rfl rfl) rfl (spec_l01Amount_ok a1.Amount _ hx7) nm)) (kx (pkT rfl hb6 rfl) (kx (mvO rfl) (Rn (hN rfl hZ) fun e9 h11 => sN (xx ?_))))))))
  clear h3
  obtain rfl := si h
  exact eR (resT h11 res0) rfl
 refine kx (gsT rfl hb6) (kx (gsT rfl hb6) (kx (gsT rfl hb6) (kx (gsT rfl hb6) (kc (Ev.gsT rfl hb6) (kx (pkF rfl hb6 rfl) (kx (mvO rfl) (Rn (hV (.bool false) rfl hZ) fun e12 h14 => sN (xx ?_))))))))
 clear h3
 obtain rfl := si h
 exact eR (resT h14 res0) rfl
/-! ### loop.example/g01263/impl.owed (f141) -/
abbrev impl_owed_b1_S := Int × Int
abbrev impl_owed_b1_R := Int
def impl_owed_b1_RS (a1 : List Account) (s : impl_owed_b1_S) (e : Env) (M : Mem) : Prop := eget e 3 = .int .i64 s.1 ∧ eget e 6 = .sl none (a1.map Account.c) ∧ eget e 7 = .int .i64 (a1.length : Int) ∧ eget e 8 = .int .i64 s.2
def impl_owed_b1_RR (a1 : List Account) (g : impl_owed_b1_R) (x : Ex) (e : Env) (M : Mem) : Prop := x = .ext 0 ∧ eget e 3 = .int .i64 g
noncomputable def impl_owed_b1 (a1 : List Account) : impl_owed_b1_S → Option (impl_owed_b1_S ⊕ impl_owed_b1_R) := fun (s1_1, s1_2) =>
 if (decide (s1_2 < (a1.length : Int))) = true then
  (rd a1 s1_2).bind fun x42 =>
  some (.inl ((IntKind.i64.wrap (s1_1 + (max x42.Balance 0))), (IntKind.i64.wrap (s1_2 + 1))))
 else
  some (.inr s1_1)
theorem impl_owed_b1_ok (a1 : List Account) (s : impl_owed_b1_S) (r : impl_owed_b1_S ⊕ impl_owed_b1_R) (h : impl_owed_b1 a1 s = some r) (e : Env) (M : Mem) (hs : impl_owed_b1_RS a1 s e M) : Ev (fun k => (f141_l3 (CN k) k (prune [3, 6, 7, 8] e) M).bind fun q => some q) (bQ (impl_owed_b1_RS a1) (impl_owed_b1_RR a1) r) := by
 obtain ⟨s1_1, s1_2⟩ := s
 unfold impl_owed_b1 at h
 obtain ⟨h26, h28, h30, h32⟩ := hs
 generalize he25 : prune [3, 6, 7, 8] e = e24
 have h27 := envp he25.symm rfl h26
 have h29 := envp he25.symm rfl h28
 have h31 := envp he25.symm rfl h30
 have h33 := envp he25.symm rfl h32
 refine sq (Rg (kx (bLss h33 h31) (Rn (hV (.int .i64 s1_1) h27 (hV (.sl none (a1.map Account.c)) h29 (hV (.int .i64 (a1.length : Int)) h31 (hV (.int .i64 s1_2) h33 (hN rfl hZ))))) fun e34 h36 h37 h38 h39 h40 => sN (sq ?_))))
 clear h27 h29 h31 h33
 rcases ite_some h with ⟨hb41, h⟩ | ⟨hb41, h⟩
 ·obtain ⟨x42, hx43, h⟩ := bind_some h
  refine cT h40 hb41 (xx (sN (sq (bl (sq (Rg (kx (ixS h37 h39 hx43 Account.fl) (kx (ldPA rfl rfl rfl) (ku (alO zero29) fun M45 hM46 => ?_)))))))))
  have o47 : M45[M.length]? = some (.live ⟨.box, 29, 3, [[.str ([] : List UInt8), .nils, .int .i64 0]]⟩) := push_new hM46
  refine kw (stO rfl rfl o47 rfl rfl ⟨rfl, ble rfl⟩ rfl rfl) fun M48 hM49 => ?_
  have o50 : M48[M.length]? = some (.live ⟨.box, 29, 3, [[.str x42.Title, .sl none (x42.Items.map Item.c), .int .i64 x42.Balance]]⟩) := set_same hM49 o47
  refine Rn (hA h36 (hV (.loc M.length 1 0 0) rfl (hA h37 (hA h38 (hA h39 hZ))))) fun e51 h53 h54 h55 h56 h57 => sN (Rg (kx (mvO h53) (kx (faO h54 o50 rfl) (kx (ldO rfl o50 rfl rfl rfl) (kx (bMax rfl rfl) (kx (bAdd rfl rfl) (kx (mvO rfl) (Rn (hN rfl (hA h55 (hA h56 (hA h57 hZ)))) fun e58 h60 h61 h62 h63 => bN (sN (Rg (kx (bAdd h63 rfl) (kx (mvO rfl) (Rn (hA h60 (hA h61 (hA h62 (hN rfl hZ)))) fun e64 h66 h67 h68 h69 => ?_)))))))))))))
  clear h36 h37 h38 h39 h40 h54 h55 h56 h57 h60 h61 h62
  obtain rfl := si h
  exact qN ⟨h66, h67, h68, h69⟩
 refine cF h40 hb41 (xx (sE ?_))
 obtain rfl := si h
 exact qE ⟨rfl, h36⟩
noncomputable def impl_owed (a1 : List Account) : Option Int :=
 (Lw (impl_owed_b1 a1) (0, 0)).bind fun y75 =>
 some y75
def impl_owed_enc (r : Int) : AV := .int .i64 r
theorem impl_owed_ok (a1 : List Account) (r : Int) (h : impl_owed a1 = some r) : Ev (fun k => CN k 141 [.sl none (a1.map Account.c)] []) (fun p => rRes p.2 p.1 = impl_owed_enc r) := by
 unfold impl_owed at h
 obtain ⟨y75, hr71, h⟩ := bind_some h
 refine Ev.enter (F := fun k => f141 (CN k) k) (fun k => callN_eq rfl Tryd.func141 rfl rfl rfl (by decide +kernel) (f141_eq _ _)) (sq (Rg (kx (mvO rfl) (Rn (hN rfl hZ) fun e1 h3 => sN (sq (Rg (kx (mvO rfl) (Rn (hA h3 (hV (.int .i64 0) rfl hZ)) fun e4 h6 h7 => sN (sq (sq (Rg (kx (mvO h6) (kx (lnS Tryd.underlying38 rfl) (kx (mvO rfl) (Rn (hA h7 (hN rfl (hN rfl (hV (.int .i64 0) rfl hZ)))) fun e8 h10 h11 h12 h13 => sN (bl (Ev.loop (RS := impl_owed_b1_RS a1) (RR := impl_owed_b1_RR a1) (fun s r h e M hs => impl_owed_b1_ok a1 s r h e M hs) hr71 ⟨h10, h11, h12, h13⟩ fun x e73 M74 hq72 => ?_)))))))))))))))))
 clear h3 h6 h7
 obtain ⟨rfl, h76⟩ := hq72
 refine bE (sN (sq (Rg (kx (mvO h76) (kx (mvO rfl) (Rn (hN rfl hZ) fun e77 h79 => sN (xx ?_)))))))
 clear h76
 obtain rfl := si h
 exact eR (resT h79 res0) rfl
/-! ### loop.example/g01263/impl.hasTitle$1 (f167) -/
noncomputable def impl_hasTitle_1 (a1 : Account) (a2 : List UInt8) : Option Bool :=
 some (a1.Title == a2)
def impl_hasTitle_1_enc (r : Bool) : AV := .bool r
theorem impl_hasTitle_1_ok (a1 : Account) (a2 : List UInt8) (r : Bool) (h : impl_hasTitle_1 a1 a2 = some r) : Ev (fun k => CN k 167 [.agg [.str a1.Title, .sl none (a1.Items.map Item.c), .int .i64 a1.Balance], .pt none [.str a2]] []) (fun p => rRes p.2 p.1 = impl_hasTitle_1_enc r) := by
 unfold impl_hasTitle_1 at h
 refine Ev.enter (F := fun k => f167 (CN k) k) (fun k => callN_eq rfl Tryd.func167 rfl rfl rfl (by decide +kernel) (f167_eq _ _)) (sq (Rg (kx (bxI rfl rfl ⟨rfl, rfl, by decide⟩) (kx (mvO rfl) (Rn (hN rfl (hN rfl hZ)) fun e1 h3 h4 => sN (sq (Rg (kx (faP h4 ⟨ble rfl, blt rfl⟩ rfl) (kx (ldP rfl rfl) (kx (ldP h3 rfl) (kx (sEql rfl rfl) (kx (mvO rfl) (Rn (hN rfl hZ) fun e5 h7 => sN (xx ?_))))))))))))))
 clear h3 h4
 obtain rfl := si h
 exact eR (resT h7 res0) rfl
/-! ### slices.IndexFunc[[]loop.example/g01263/impl.Account,loop.example/g01263/impl.Account] (f185) -/
abbrev slices_IndexFunc_Account__impl_hasTitle_1_b1_S := Int
abbrev slices_IndexFunc_Account__impl_hasTitle_1_b1_R := Int ⊕ Unit
def slices_IndexFunc_Account__impl_hasTitle_1_b1_RS (a1 : List Account) (a2 : List UInt8) (s : slices_IndexFunc_Account__impl_hasTitle_1_b1_S) (e : Env) (M : Mem) : Prop := eget e 0 = .sl none (a1.map Account.c) ∧ eget e 1 = .fn 167 [.pt none [.str a2]] ∧ eget e 7 = .int .i64 (a1.length : Int) ∧ eget e 8 = .int .i64 s
def slices_IndexFunc_Account__impl_hasTitle_1_b1_RR (a1 : List Account) (a2 : List UInt8) (r : slices_IndexFunc_Account__impl_hasTitle_1_b1_R) (x : Ex) (e : Env) (M : Mem) : Prop :=
  match r with
  | (.inl g) => x = .ret ∧ eget e 4 = .int .i64 g
  | (.inr g) => x = .ext 0 ∧ True
noncomputable def slices_IndexFunc_Account__impl_hasTitle_1_b1 (a1 : List Account) (a2 : List UInt8) : slices_IndexFunc_Account__impl_hasTitle_1_b1_S → Option (slices_IndexFunc_Account__impl_hasTitle_1_b1_S ⊕ slices_IndexFunc_Account__impl_hasTitle_1_b1_R) := fun s1_1 =>
 if (decide (s1_1 < (a1.length : Int))) = true then
  (rd a1 s1_1).bind fun x46 =>
  (impl_hasTitle_1 x46 a2).bind fun r49 =>
  if r49 = true then
   some (.inr (.inl s1_1))
  else
   some (.inl (IntKind.i64.wrap (s1_1 + 1)))
 else
  some (.inr (.inr ()))
theorem slices_IndexFunc_Account__impl_hasTitle_1_b1_ok (a1 : List Account) (a2 : List UInt8) (s : slices_IndexFunc_Account__impl_hasTitle_1_b1_S) (r : slices_IndexFunc_Account__impl_hasTitle_1_b1_S ⊕ slices_IndexFunc_Account__impl_hasTitle_1_b1_R) (h : slices_IndexFunc_Account__impl_hasTitle_1_b1 a1 a2 s = some r) (e : Env) (M : Mem) (hs : slices_IndexFunc_Account__impl_hasTitle_1_b1_RS a1 a2 s e M) : Ev (fun k => (f185_l2 (CN k) k (prune [0, 1, 7, 8] e) M).bind fun q => some q) (bQ (slices_IndexFunc_Account__impl_hasTitle_1_b1_RS a1 a2) (slices_IndexFunc_Account__impl_hasTitle_1_b1_RR a1 a2) r) := by
 revert h hs
 revert s
 intro s1_1 h hs
 unfold slices_IndexFunc_Account__impl_hasTitle_1_b1 at h
 obtain ⟨h23, h25, h27, h29⟩ := hs
 generalize he22 : prune [0, 1, 7, 8] e = e21
 have h24 := envp he22.symm rfl h23
 have h26 := envp he22.symm rfl h25
 have h28 := envp he22.symm rfl h27
 have h30 := envp he22.symm rfl h29
 refine sq (Rg (kx (bLss h30 h28) (Rn (hV (.sl none (a1.map Account.c)) h24 (hV (.fn 167 [.pt none [.str a2]]) h26 (hA h28 (hV (.int .i64 s1_1) h30 (hN rfl hZ))))) fun e31 h33 h34 h35 h36 h37 => sN (sq ?_))))
 clear h24 h26 h28 h30
 rcases ite_some h with ⟨hb38, h⟩ | ⟨hb38, h⟩
 ·obtain ⟨x46, hx47, h⟩ := bind_some h
  obtain ⟨r49, hx48, h⟩ := bind_some h
  refine cT h37 hb38 (xx (sN (sq (bl (sq (Rg (kx (mvO h36) (kx (mvO rfl) (Rn (hA h33 (hA h34 (hN rfl (hA h35 (hA h36 hZ))))) fun e39 h41 h42 h43 h44 h45 => sN (sq (Rg (kx (mvO h42) (kx (mvO h41) (kx (mvO h43) (kx (ixS rfl rfl hx47 Account.fl) (kx (ldPA rfl rfl rfl) (kc (cl (v := .bool r49) rfl (cns rfl (cns rfl rfl)) rfl (impl_hasTitle_1_ok x46 a2 _ hx48) nm) (Rn (hA h41 (hA h42 (hA h43 (hA h44 (hA h45 (hN rfl hZ)))))) fun e50 h52 h53 h54 h55 h56 h57 => sN ?_))))))))))))))))))
  clear h33 h34 h35 h36 h37 h41 h42 h43 h44 h45
  rcases ite_some h with ⟨hb58, h⟩ | ⟨hb58, h⟩
  ·refine cT h57 hb58 (sq (Rg (kx (mvO h54) (kx (mvO rfl) (Rn (hN rfl hZ) fun e59 h61 => sN (xx (bR (sR ?_))))))))
   clear h52 h53 h54 h55 h56 h57
   obtain rfl := si h
   exact qR ⟨rfl, h61⟩
  refine cF h57 hb58 (xx (bN (sN (Rg (kx (bAdd h56 rfl) (kx (mvO rfl) (Rn (hA h52 (hA h53 (hA h55 (hN rfl hZ)))) fun e62 h64 h65 h66 h67 => ?_)))))))
  clear h52 h53 h54 h55 h57
  obtain rfl := si h
  exact qN ⟨h64, h65, h66, h67⟩
 refine cF h37 hb38 (xx (sE ?_))
 obtain rfl := si h
 exact qE ⟨rfl, trivial⟩
noncomputable def slices_IndexFunc_Account__impl_hasTitle_1 (a1 : List Account) (a2 : List UInt8) : Option Int :=
 (Lw (slices_IndexFunc_Account__impl_hasTitle_1_b1 a1 a2) 0).bind fun r => match r with
 | (.inl y73) =>
  some y73
 | (.inr _) =>
  some (-1)
def slices_IndexFunc_Account__impl_hasTitle_1_enc (r : Int) : AV := .int .i64 r
theorem slices_IndexFunc_Account__impl_hasTitle_1_ok (a1 : List Account) (a2 : List UInt8) (r : Int) (h : slices_IndexFunc_Account__impl_hasTitle_1 a1 a2 = some r) : Ev (fun k => CN k 185 [.sl none (a1.map Account.c), .fn 167 [.pt none [.str a2]]] []) (fun p => rRes p.2 p.1 = slices_IndexFunc_Account__impl_hasTitle_1_enc r) := by
 unfold slices_IndexFunc_Account__impl_hasTitle_1 at h
 obtain ⟨r68, hr69, h⟩ := bind_some h
 refine Ev.enter (F := fun k => f185 (CN k) k) (fun k => callN_eq rfl Tryd.func185 rfl rfl rfl (by decide +kernel) (f185_eq _ _)) (sq (Rg (kx (mvO rfl) (Rn (hN rfl (hV (.fn 167 [.pt none [.str a2]]) rfl hZ)) fun e1 h3 h4 => sN (sq (sq (Rg (kx (mvO h3) (kx (lnS Tryd.underlying38 rfl) (kx (mvO rfl) (Rn (hA h3 (hA h4 (hN rfl (hV (.int .i64 0) rfl hZ)))) fun e5 h7 h8 h9 h10 => sN (bl ?_))))))))))))
 clear h3 h4
 rcases r68 with y73 | _
 ·refine Ev.loop (RS := slices_IndexFunc_Account__impl_hasTitle_1_b1_RS a1 a2) (RR := slices_IndexFunc_Account__impl_hasTitle_1_b1_RR a1 a2) (fun s r h e M hs => slices_IndexFunc_Account__impl_hasTitle_1_b1_ok a1 a2 s r h e M hs) hr69 ⟨h7, h8, h9, h10⟩ fun x e71 M72 hq70 => ?_
  obtain ⟨rfl, h74⟩ := hq70
  refine bR (sR ?_)
  obtain rfl := si h
  exact eR (resT h74 res0) rfl
 refine Ev.loop (RS := slices_IndexFunc_Account__impl_hasTitle_1_b1_RS a1 a2) (RR := slices_IndexFunc_Account__impl_hasTitle_1_b1_RR a1 a2) (fun s r h e M hs => slices_IndexFunc_Account__impl_hasTitle_1_b1_ok a1 a2 s r h e M hs) hr69 ⟨h7, h8, h9, h10⟩ fun x e75 M76 hq70 => ?_
 obtain ⟨rfl, _⟩ := hq70
 refine bE (sN (sq (Rg (kx (mvO rfl) (Rn (hV (.int .i64 (-1)) rfl hZ) fun e77 h79 => sN (xx ?_))))))
 obtain rfl := si h
 exact eR (resT h79 res0) rfl
/-! ### slices.ContainsFunc[[]loop.example/g01263/impl.Account,loop.example/g01263/impl.Account] (f166) -/
noncomputable def slices_ContainsFunc_Account__impl_hasTitle_1 (a1 : List Account) (a2 : List UInt8) : Option Bool :=
 (slices_IndexFunc_Account__impl_hasTitle_1 a1 a2).bind fun r6 =>
 some (decide (r6 ≥ 0))
def slices_ContainsFunc_Account__impl_hasTitle_1_enc (r : Bool) : AV := .bool r
theorem slices_ContainsFunc_Account__impl_hasTitle_1_ok (a1 : List Account) (a2 : List UInt8) (r : Bool) (h : slices_ContainsFunc_Account__impl_hasTitle_1 a1 a2 = some r) : Ev (fun k => CN k 166 [.sl none (a1.map Account.c), .fn 167 [.pt none [.str a2]]] []) (fun p => rRes p.2 p.1 = slices_ContainsFunc_Account__impl_hasTitle_1_enc r) := by
 unfold slices_ContainsFunc_Account__impl_hasTitle_1 at h
 obtain ⟨r6, hx5, h⟩ := bind_some h
 refine Ev.enter (F := fun k => f166 (CN k) k) (fun k => callN_eq rfl Tryd.func166 rfl rfl rfl (by decide +kernel) (f166_eq _ _)) (sq (Rg (kx (mvO rfl) (Rn (hN rfl (hV (.fn 167 [.pt none [.str a2]]) rfl hZ)) fun e1 h3 h4 => sN (sq (Rg (kx (mvO h3) (kx (mvO h4) (kc (cl (v := .int .i64 r6) rfl (cns rfl (cns rfl rfl)) rfl (slices_IndexFunc_Account__impl_hasTitle_1_ok a1 a2 _ hx5) nm) (kx (bGeq rfl rfl) (kx (mvO rfl) (Rn (hN rfl hZ) fun e7 h9 => sN (xx ?_)))))))))))))
 clear h3 h4
 obtain rfl := si h
 exact eR (resT h9 res0) rfl
/-! ### loop.example/g01263/impl.hasTitle (f140) -/
noncomputable def impl_hasTitle (a1 : List Account) (a2 : List UInt8) : Option Bool :=
 (slices_ContainsFunc_Account__impl_hasTitle_1 a1 a2).bind fun r6 =>
 some r6
def impl_hasTitle_enc (r : Bool) : AV := .bool r
theorem impl_hasTitle_ok (a1 : List Account) (a2 : List UInt8) (r : Bool) (h : impl_hasTitle a1 a2 = some r) : Ev (fun k => CN k 140 [.sl none (a1.map Account.c), .str a2] []) (fun p => rRes p.2 p.1 = impl_hasTitle_enc r) := by
 unfold impl_hasTitle at h
 obtain ⟨r6, hx5, h⟩ := bind_some h
 refine Ev.enter (F := fun k => f140 (CN k) k) (fun k => callN_eq rfl Tryd.func140 rfl rfl rfl (by decide +kernel) (f140_eq _ _)) (sq (Rg (kx (bxI rfl rfl ⟨rfl, rfl, by decide⟩) (kx (mvO rfl) (Rn (hN rfl (hN rfl hZ)) fun e1 h3 h4 => sN (sq (Rg (kx (mvO h3) (kx (mvO (congrArg (AV.fn 167) (cns h4 rfl))) (kc (cl (v := .bool r6) rfl (cns rfl (cns rfl rfl)) rfl (slices_ContainsFunc_Account__impl_hasTitle_1_ok a1 a2 _ hx5) nm) (kx (mvO rfl) (Rn (hN rfl hZ) fun e7 h9 => sN (xx ?_)))))))))))))
 clear h3 h4
 obtain rfl := si h
 exact eR (resT h9 res0) rfl
/-! ### loop.example/g01263/spec.Decimal (f139) -/
noncomputable def spec_Decimal_F : Nat → Int → Option ((List UInt8))
  | 0, _ => none
  | k0 + 1, a1 =>
   if (decide (a1 < 10)) = true then
    (rem .i64 a1 10).bind fun n9 =>
    some (toB [(IntKind.u8.wrap (IntKind.i64.wrap (48 + n9)))])
   else
    (quo .i64 a1 10).bind fun n14 =>
    (spec_Decimal_F k0 n14).bind fun r17 =>
    (rem .i64 a1 10).bind fun n18 =>
    (sadd r17 (toB [(IntKind.u8.wrap (IntKind.i64.wrap (48 + n18)))])).bind fun w20 =>
    some w20
def spec_Decimal_enc (r : (List UInt8)) : AV := .str r
theorem spec_Decimal_F_ok : ∀ (k0 : Nat) (a1 : Int) (r : (List UInt8)) (h : spec_Decimal_F k0 a1 = some r), Ev (fun k => CN k 139 [.int .i64 a1] []) (fun p => rRes p.2 p.1 = spec_Decimal_enc r)
  | 0, a1, r, h => by cases h
  | k0 + 1, a1, r, h => by
   rw [spec_Decimal_F] at h
   refine Ev.enter (F := fun k => f139 (CN k) k) (fun k => callN_eq rfl Tryd.func139 rfl rfl rfl (by decide +kernel) (f139_eq _ _)) (sq (Rg (kx (mvO rfl) (Rn (hN rfl hZ) fun e1 h3 => sN (sq (sq (Rg (kx (mvO h3) (kx (bLss rfl rfl) (Rn (hA h3 (hN rfl hZ)) fun e4 h6 h7 => sN ?_))))))))))
   clear h3
   rcases ite_some h with ⟨hb8, h⟩ | ⟨hb8, h⟩
   ·obtain ⟨n9, hx10, h⟩ := bind_some h
    refine cT h7 hb8 (sq (Rg (kx (mvO h6) (kx (bRem rfl rfl hx10) (kx (bAdd rfl rfl) (kx (cvI rfl) (kx (litI (cns rfl rfl) rfl ⟨rfl, by decide⟩) (kx (cvB (elT (c := (cI .u8)) (xs := [(IntKind.u8.wrap (IntKind.i64.wrap (48 + n9)))]) rfl)) (kx (mvO rfl) (Rn (hN rfl hZ) fun e11 h13 => sN (xx (sR ?_))))))))))))
    clear h6 h7
    obtain rfl := si h
    exact eR (resT h13 res0) rfl
   obtain ⟨n14, hx15, h⟩ := bind_some h
   obtain ⟨r17, hx16, h⟩ := bind_some h
   obtain ⟨n18, hx19, h⟩ := bind_some h
   obtain ⟨w20, hx21, h⟩ := bind_some h
   refine cF h7 hb8 (xx (sN (sq (Rd (kf (mvO h6) (kf (bQuo rfl rfl hx15) (fc (cl (v := .str r17) rfl (cns rfl rfl) rfl (spec_Decimal_F_ok k0 n14 _ hx16) nm) (kf (mvO h6) (kf (bRem rfl rfl hx19) (kf (bAdd rfl rfl) (kf (cvI rfl) (kf (litI (cns rfl rfl) rfl ⟨rfl, by decide⟩) (kf (cvB (elT (c := (cI .u8)) (xs := [(IntKind.u8.wrap (IntKind.i64.wrap (48 + n18)))]) rfl)) (kf (sAdd rfl rfl hx21) (kf (mvO rfl) (fZ (Rn (hN rfl hZ) fun e22 h24 => sN (xx ?_))))))))))))))))))
   clear h6 h7
   obtain rfl := si h
   exact eR (resT h24 res0) rfl
noncomputable def spec_Decimal (a1 : Int) : Option ((List UInt8)) := spec_Decimal_F 64 a1
theorem spec_Decimal_ok (a1 : Int) (r : (List UInt8)) (h : spec_Decimal a1 = some r) : Ev (fun k => CN k 139 [.int .i64 a1] []) (fun p => rRes p.2 p.1 = spec_Decimal_enc r) := spec_Decimal_F_ok 64 a1 r h
/-! ### loop.example/g01263/spec.l05Owed (f138) -/
abbrev spec_l05Owed_b1_S := Int × Int
abbrev spec_l05Owed_b1_R := Int
def spec_l05Owed_b1_RS (a1 : List Account) (s : spec_l05Owed_b1_S) (e : Env) (M : Mem) : Prop := eget e 0 = .sl none (a1.map Account.c) ∧ eget e 3 = .int .i64 s.1 ∧ eget e 4 = .int .i64 s.2
def spec_l05Owed_b1_RR (a1 : List Account) (g : spec_l05Owed_b1_R) (x : Ex) (e : Env) (M : Mem) : Prop := x = .ext 0 ∧ eget e 3 = .int .i64 g
noncomputable def spec_l05Owed_b1 (a1 : List Account) : spec_l05Owed_b1_S → Option (spec_l05Owed_b1_S ⊕ spec_l05Owed_b1_R) := fun (s1_1, s1_2) =>
 if (decide (s1_2 < (a1.length : Int))) = true then
  (rd a1 s1_2).bind fun x36 =>
  (spec_l00Max x36.Balance 0).bind fun r39 =>
  some (.inl ((IntKind.i64.wrap (s1_1 + r39)), (IntKind.i64.wrap (s1_2 + 1))))
 else
  some (.inr s1_1)
theorem spec_l05Owed_b1_ok (a1 : List Account) (s : spec_l05Owed_b1_S) (r : spec_l05Owed_b1_S ⊕ spec_l05Owed_b1_R) (h : spec_l05Owed_b1 a1 s = some r) (e : Env) (M : Mem) (hs : spec_l05Owed_b1_RS a1 s e M) : Ev (fun k => (f138_l3 (CN k) k (prune [0, 3, 4] e) M).bind fun q => some q) (bQ (spec_l05Owed_b1_RS a1) (spec_l05Owed_b1_RR a1) r) := by
 obtain ⟨s1_1, s1_2⟩ := s
 unfold spec_l05Owed_b1 at h
 obtain ⟨h23, h25, h27⟩ := hs
 generalize he22 : prune [0, 3, 4] e = e21
 have h24 := envp he22.symm rfl h23
 have h26 := envp he22.symm rfl h25
 have h28 := envp he22.symm rfl h27
 refine sq (sq (Rg (kx (mvO h28) (kx (mvO h24) (kx (lnS Tryd.underlying38 rfl) (kx (bLss rfl rfl) (Rn (hV (.sl none (a1.map Account.c)) h24 (hV (.int .i64 s1_1) h26 (hV (.int .i64 s1_2) h28 (hN rfl hZ)))) fun e29 h31 h32 h33 h34 => sN ?_)))))))
 clear h24 h26 h28
 rcases ite_some h with ⟨hb35, h⟩ | ⟨hb35, h⟩
 ·obtain ⟨x36, hx37, h⟩ := bind_some h
  obtain ⟨r39, hx38, h⟩ := bind_some h
  refine cT h34 hb35 (xx (sN (sq (bl (Rg (kx (mvO h32) (kx (mvO h31) (kx (mvO h33) (kx (ixS rfl rfl hx37 Account.fl) (kx (faP rfl ⟨ble rfl, blt rfl⟩ rfl) (kx (ldP rfl rfl) (kc (cl (v := .int .i64 r39) rfl (cns rfl (cns rfl rfl)) rfl (spec_l00Max_ok x36.Balance 0 _ hx38) nm) (kx (bAdd rfl rfl) (kx (mvO rfl) (Rn (hA h31 (hN rfl (hA h33 hZ))) fun e40 h42 h43 h44 => bN (sN (Rg (kx (mvO h44) (kx (bAdd rfl rfl) (kx (mvO rfl) (Rn (hA h42 (hA h43 (hN rfl hZ))) fun e45 h47 h48 h49 => ?_)))))))))))))))))))))
  clear h31 h33 h34 h42 h43
  obtain rfl := si h
  exact qN ⟨h47, h48, h49⟩
 refine cF h34 hb35 (xx (sE ?_))
 obtain rfl := si h
 exact qE ⟨rfl, h32⟩
noncomputable def spec_l05Owed (a1 : List Account) : Option Int :=
 (Lw (spec_l05Owed_b1 a1) (0, 0)).bind fun y55 =>
 some y55
def spec_l05Owed_enc (r : Int) : AV := .int .i64 r
theorem spec_l05Owed_ok (a1 : List Account) (r : Int) (h : spec_l05Owed a1 = some r) : Ev (fun k => CN k 138 [.sl none (a1.map Account.c)] []) (fun p => rRes p.2 p.1 = spec_l05Owed_enc r) := by
 unfold spec_l05Owed at h
 obtain ⟨y55, hr51, h⟩ := bind_some h
 refine Ev.enter (F := fun k => f138 (CN k) k) (fun k => callN_eq rfl Tryd.func138 rfl rfl rfl (by decide +kernel) (f138_eq _ _)) (sq (Rg (kx (mvO rfl) (Rn (hN rfl hZ) fun e1 h3 => sN (sq (Rg (kx (mvO rfl) (Rn (hA h3 (hV (.int .i64 0) rfl hZ)) fun e4 h6 h7 => sN (sq (sq (Rg (kx (mvO rfl) (Rn (hA h6 (hA h7 (hV (.int .i64 0) rfl hZ))) fun e8 h10 h11 h12 => sN (bl (Ev.loop (RS := spec_l05Owed_b1_RS a1) (RR := spec_l05Owed_b1_RR a1) (fun s r h e M hs => spec_l05Owed_b1_ok a1 s r h e M hs) hr51 ⟨h10, h11, h12⟩ fun x e53 M54 hq52 => ?_)))))))))))))))
 clear h3 h6 h7
 obtain ⟨rfl, h56⟩ := hq52
 refine bE (sN (sq (Rg (kx (mvO h56) (kx (mvO rfl) (Rn (hN rfl hZ) fun e57 h59 => sN (xx ?_)))))))
 clear h56
 obtain rfl := si h
 exact eR (resT h59 res0) rfl
/-! ### loop.example/g01263/spec.l05Twin (f137) -/
abbrev spec_l05Twin_b1_S := Int
abbrev spec_l05Twin_b1_R := Unit ⊕ Unit
def spec_l05Twin_b1_RS (a1 : List Account) (a2 : Int) (s : spec_l05Twin_b1_S) (e : Env) (M : Mem) : Prop := eget e 0 = .sl none (a1.map Account.c) ∧ eget e 1 = .int .i64 a2 ∧ eget e 5 = .int .i64 s
def spec_l05Twin_b1_RR (a1 : List Account) (a2 : Int) (r : spec_l05Twin_b1_R) (x : Ex) (e : Env) (M : Mem) : Prop :=
  match r with
  | (.inl g) => x = .ret ∧ eget e 4 = .bool true
  | (.inr g) => x = .ext 0 ∧ True
noncomputable def spec_l05Twin_b1 (a1 : List Account) (a2 : Int) : spec_l05Twin_b1_S → Option (spec_l05Twin_b1_S ⊕ spec_l05Twin_b1_R) := fun s1_1 =>
 if (decide (s1_1 < a2)) = true then
  (rd a1 s1_1).bind fun x33 =>
  (rd a1 a2).bind fun x35 =>
  if (x33.Title == x35.Title) = true then
   some (.inr (.inl ()))
  else
   some (.inl (IntKind.i64.wrap (s1_1 + 1)))
 else
  some (.inr (.inr ()))
theorem spec_l05Twin_b1_ok (a1 : List Account) (a2 : Int) (s : spec_l05Twin_b1_S) (r : spec_l05Twin_b1_S ⊕ spec_l05Twin_b1_R) (h : spec_l05Twin_b1 a1 a2 s = some r) (e : Env) (M : Mem) (hs : spec_l05Twin_b1_RS a1 a2 s e M) : Ev (fun k => (f137_l2 (CN k) k (prune [0, 1, 5] e) M).bind fun q => some q) (bQ (spec_l05Twin_b1_RS a1 a2) (spec_l05Twin_b1_RR a1 a2) r) := by
 revert h hs
 revert s
 intro s1_1 h hs
 unfold spec_l05Twin_b1 at h
 obtain ⟨h20, h22, h24⟩ := hs
 generalize he19 : prune [0, 1, 5] e = e18
 have h21 := envp he19.symm rfl h20
 have h23 := envp he19.symm rfl h22
 have h25 := envp he19.symm rfl h24
 refine sq (sq (Rg (kx (mvO h25) (kx (mvO h23) (kx (bLss rfl rfl) (Rn (hV (.sl none (a1.map Account.c)) h21 (hV (.int .i64 a2) h23 (hV (.int .i64 s1_1) h25 (hN rfl hZ)))) fun e26 h28 h29 h30 h31 => sN ?_))))))
 clear h21 h23 h25
 rcases ite_some h with ⟨hb32, h⟩ | ⟨hb32, h⟩
 ·obtain ⟨x33, hx34, h⟩ := bind_some h
  obtain ⟨x35, hx36, h⟩ := bind_some h
  refine cT h31 hb32 (xx (sN (sq (bl (sq (Rd (kf (mvO h28) (kf (mvO h30) (kf (ixS rfl rfl hx34 Account.fl) (kf (faP rfl ⟨ble rfl, blt rfl⟩ rfl) (kf (ldP rfl rfl) (kf (mvO h28) (kf (mvO h29) (kf (ixS rfl rfl hx36 Account.fl) (kf (faP rfl ⟨ble rfl, blt rfl⟩ rfl) (kf (ldP rfl rfl) (kf (sEql rfl rfl) (fZ (Rn (hA h28 (hA h29 (hA h30 (hN rfl hZ)))) fun e37 h39 h40 h41 h42 => sN ?_)))))))))))))))))))
  clear h28 h29 h30 h31
  rcases ite_some h with ⟨hb43, h⟩ | ⟨hb43, h⟩
  ·refine cT h42 hb43 (sq (Rg (kx (mvO rfl) (Rn (hV (.bool true) rfl hZ) fun e44 h46 => sN (xx (bR (sR ?_)))))))
   clear h39 h40 h41 h42
   obtain rfl := si h
   exact qR ⟨rfl, h46⟩
  refine cF h42 hb43 (xx (bN (sN (Rg (kx (mvO h41) (kx (bAdd rfl rfl) (kx (mvO rfl) (Rn (hA h39 (hA h40 (hN rfl hZ))) fun e47 h49 h50 h51 => ?_))))))))
  clear h39 h40 h42
  obtain rfl := si h
  exact qN ⟨h49, h50, h51⟩
 refine cF h31 hb32 (xx (sE ?_))
 obtain rfl := si h
 exact qE ⟨rfl, trivial⟩
noncomputable def spec_l05Twin (a1 : List Account) (a2 : Int) : Option Bool :=
 (Lw (spec_l05Twin_b1 a1 a2) 0).bind fun r => match r with
 | (.inl _) =>
  some true
 | (.inr _) =>
  some false
def spec_l05Twin_enc (r : Bool) : AV := .bool r
theorem spec_l05Twin_ok (a1 : List Account) (a2 : Int) (r : Bool) (h : spec_l05Twin a1 a2 = some r) : Ev (fun k => CN k 137 [.sl none (a1.map Account.c), .int .i64 a2] []) (fun p => rRes p.2 p.1 = spec_l05Twin_enc r) := by
 unfold spec_l05Twin at h
 obtain ⟨r52, hr53, h⟩ := bind_some h
 refine Ev.enter (F := fun k => f137 (CN k) k) (fun k => callN_eq rfl Tryd.func137 rfl rfl rfl (by decide +kernel) (f137_eq _ _)) (sq (Rg (kx (mvO rfl) (Rn (hN rfl (hN rfl hZ)) fun e1 h3 h4 => sN (sq (sq (Rg (kx (mvO rfl) (Rn (hA h3 (hA h4 (hV (.int .i64 0) rfl hZ))) fun e5 h7 h8 h9 => sN (bl ?_))))))))))
 clear h3 h4
 rcases r52 with _ | _
 ·refine Ev.loop (RS := spec_l05Twin_b1_RS a1 a2) (RR := spec_l05Twin_b1_RR a1 a2) (fun s r h e M hs => spec_l05Twin_b1_ok a1 a2 s r h e M hs) hr53 ⟨h7, h8, h9⟩ fun x e55 M56 hq54 => ?_
  obtain ⟨rfl, h57⟩ := hq54
  refine bR (sR ?_)
  obtain rfl := si h
  exact eR (resT h57 res0) rfl
 refine Ev.loop (RS := spec_l05Twin_b1_RS a1 a2) (RR := spec_l05Twin_b1_RR a1 a2) (fun s r h e M hs => spec_l05Twin_b1_ok a1 a2 s r h e M hs) hr53 ⟨h7, h8, h9⟩ fun x e58 M59 hq54 => ?_
 obtain ⟨rfl, _⟩ := hq54
 refine bE (sN (sq (Rg (kx (mvO rfl) (Rn (hV (.bool false) rfl hZ) fun e60 h62 => sN (xx ?_))))))
 obtain rfl := si h
 exact eR (resT h62 res0) rfl
/-! ### loop.example/g01263/impl.isAmount (f42) -/
noncomputable def impl_isAmount (a1 : Int) : Option Bool :=
 if (decide (a1 ≥ 0)) = true then
  some (decide (a1 ≤ 100000000))
 else
  some false
def impl_isAmount_enc (r : Bool) : AV := .bool r
theorem impl_isAmount_ok (a1 : Int) (r : Bool) (h : impl_isAmount a1 = some r) : Ev (fun k => CN k 42 [.int .i64 a1] []) (fun p => rRes p.2 p.1 = impl_isAmount_enc r) := by
 unfold impl_isAmount at h
 refine Ev.enter (F := fun k => f42 (CN k) k) (fun k => callN_eq rfl Tryd.func42 rfl rfl rfl (by decide +kernel) (f42_eq _ _)) (sq (Rg (kx (mvO rfl) (Rn (hN rfl hZ) fun e1 h3 => sN (sq (Rg (kx (mvO h3) (kx (bGeq rfl rfl) (kx (mvO rfl) ?_)))))))))
 rcases ite_some h with ⟨hb4, h⟩ | ⟨hb4, h⟩
 ·refine kx (guT rfl hb4 (mvO h3)) (kx (guT rfl hb4 (bLeq rfl rfl)) (kx (pkT rfl hb4 rfl) (kx (mvO rfl) (Rn (hN rfl hZ) fun e5 h7 => sN (xx ?_)))))
  clear h3
  obtain rfl := si h
  exact eR (resT h7 res0) rfl
 refine kx (gsT rfl hb4) (kx (gsT rfl hb4) (kx (pkF rfl hb4 rfl) (kx (mvO rfl) (Rn (hV (.bool false) rfl hZ) fun e8 h10 => sN (xx ?_)))))
 clear h3
 obtain rfl := si h
 exact eR (resT h10 res0) rfl
/-! ### loop.example/g01263/impl.validItem (f132) -/
noncomputable def impl_validItem (a1 : Item) : Option Bool :=
 if (decide (a1.Kind ≥ 0)) = true then
  if (decide (a1.Kind ≤ 3)) = true then
   (impl_isAmount a1.Amount).bind fun r7 =>
   some r7
  else
   some false
 else
  some false
def impl_validItem_enc (r : Bool) : AV := .bool r
theorem impl_validItem_ok (a1 : Item) (r : Bool) (h : impl_validItem a1 = some r) : Ev (fun k => CN k 132 [.agg [.int .i8 a1.Kind, .int .i64 a1.Amount]] []) (fun p => rRes p.2 p.1 = impl_validItem_enc r) := by
 unfold impl_validItem at h
 refine Ev.enter (F := fun k => f132 (CN k) k) (fun k => callN_eq rfl Tryd.func132 rfl rfl rfl (by decide +kernel) (f132_eq _ _)) (sq (Rg (kx (bxI rfl rfl ⟨rfl, rfl, by decide⟩) (kx (mvO rfl) (Rn (hN rfl hZ) fun e1 h3 => sN (sq (Rg (kx (faP h3 ⟨ble rfl, blt rfl⟩ rfl) (kx (ldP rfl rfl) (kx (bGeq rfl rfl) (kx (mvO rfl) ?_)))))))))))
 rcases ite_some h with ⟨hb4, h⟩ | ⟨hb4, h⟩
 ·refine kx (guT rfl hb4 (faP h3 ⟨ble rfl, blt rfl⟩ rfl)) (kx (guT rfl hb4 (ldP rfl rfl)) (kx (guT rfl hb4 (bLeq rfl rfl)) (kx (pkT rfl hb4 rfl) (kx (mvO rfl) ?_))))
  rcases ite_some h with ⟨hb5, h⟩ | ⟨hb5, h⟩
  ·obtain ⟨r7, hx6, h⟩ := bind_some h
   refine kx (guT rfl hb5 (faP h3 ⟨ble rfl, blt rfl⟩ rfl)) (kx (guT rfl hb5 (ldP rfl rfl)) (kc (Ev.guT rfl hb5 (cl (v := .bool r7) rfl (cns rfl rfl) rfl (impl_isAmount_ok a1.Amount _ hx6) nm)) (kx (pkT rfl hb5 rfl) (kx (mvO rfl) (Rn (hN rfl hZ) fun e8 h10 => sN (xx ?_))))))
   clear h3
   obtain rfl := si h
   exact eR (resT h10 res0) rfl
  refine kx (gsT rfl hb5) (kx (gsT rfl hb5) (kc (Ev.gsT rfl hb5) (kx (pkF rfl hb5 rfl) (kx (mvO rfl) (Rn (hV (.bool false) rfl hZ) fun e11 h13 => sN (xx ?_))))))
  clear h3
  obtain rfl := si h
  exact eR (resT h13 res0) rfl
 refine kx (gsT rfl hb4) (kx (gsT rfl hb4) (kx (gsT rfl hb4) (kx (pkF rfl hb4 rfl) (kx (mvO rfl) (kx (gsT rfl rfl) (kx (gsT rfl rfl) (kc (Ev.gsT rfl rfl) (kx (pkF rfl rfl rfl) (kx (mvO rfl) (Rn (hV (.bool false) rfl hZ) fun e14 h16 => sN (xx ?_)))))))))))
 clear h3
 obtain rfl := si h
 exact eR (resT h16 res0) rfl
/-! ### loop.example/g01263/spec.l05Balance (f131) -/
abbrev spec_l05Balance_b1_S := Int × Int
abbrev spec_l05Balance_b1_R := Int
def spec_l05Balance_b1_RS (a1 : List Item) (s : spec_l05Balance_b1_S) (e : Env) (M : Mem) : Prop := eget e 0 = .sl none (a1.map Item.c) ∧ eget e 3 = .int .i64 s.1 ∧ eget e 4 = .int .i64 s.2
def spec_l05Balance_b1_RR (a1 : List Item) (g : spec_l05Balance_b1_R) (x : Ex) (e : Env) (M : Mem) : Prop := x = .ext 0 ∧ eget e 3 = .int .i64 g
noncomputable def spec_l05Balance_b1 (a1 : List Item) : spec_l05Balance_b1_S → Option (spec_l05Balance_b1_S ⊕ spec_l05Balance_b1_R) := fun (s1_1, s1_2) =>
 if (decide (s1_2 < (a1.length : Int))) = true then
  (rd a1 s1_2).bind fun x36 =>
  if (x36.Kind == 0) = true then
   (rd a1 s1_2).bind fun x45 =>
   some (.inl ((IntKind.i64.wrap (s1_1 + x45.Amount)), (IntKind.i64.wrap (s1_2 + 1))))
  else
   (rd a1 s1_2).bind fun x57 =>
   if (x57.Kind == 1) = true then
    (rd a1 s1_2).bind fun x66 =>
    some (.inl ((IntKind.i64.wrap (s1_1 + x66.Amount)), (IntKind.i64.wrap (s1_2 + 1))))
   else
    (rd a1 s1_2).bind fun x78 =>
    some (.inl ((IntKind.i64.wrap (s1_1 - x78.Amount)), (IntKind.i64.wrap (s1_2 + 1))))
 else
  some (.inr s1_1)
theorem spec_l05Balance_b1_ok (a1 : List Item) (s : spec_l05Balance_b1_S) (r : spec_l05Balance_b1_S ⊕ spec_l05Balance_b1_R) (h : spec_l05Balance_b1 a1 s = some r) (e : Env) (M : Mem) (hs : spec_l05Balance_b1_RS a1 s e M) : Ev (fun k => (f131_l3 (CN k) k (prune [0, 3, 4] e) M).bind fun q => some q) (bQ (spec_l05Balance_b1_RS a1) (spec_l05Balance_b1_RR a1) r) := by
 obtain ⟨s1_1, s1_2⟩ := s
 unfold spec_l05Balance_b1 at h
 obtain ⟨h23, h25, h27⟩ := hs
 generalize he22 : prune [0, 3, 4] e = e21
 have h24 := envp he22.symm rfl h23
 have h26 := envp he22.symm rfl h25
 have h28 := envp he22.symm rfl h27
 refine sq (sq (Rg (kx (mvO h28) (kx (mvO h24) (kx (lnS Tryd.underlying27 rfl) (kx (bLss rfl rfl) (Rn (hV (.sl none (a1.map Item.c)) h24 (hV (.int .i64 s1_1) h26 (hV (.int .i64 s1_2) h28 (hN rfl hZ)))) fun e29 h31 h32 h33 h34 => sN ?_)))))))
 clear h24 h26 h28
 rcases ite_some h with ⟨hb35, h⟩ | ⟨hb35, h⟩
 ·obtain ⟨x36, hx37, h⟩ := bind_some h
  refine cT h34 hb35 (xx (sN (sq (bl (sq (Rg (kx (mvO h31) (kx (mvO h33) (kx (ixS rfl rfl hx37 Item.fl) (kx (faP rfl ⟨ble rfl, blt rfl⟩ rfl) (kx (ldP rfl rfl) (kx (bEql rfl rfl) (kx (mvO rfl) ?_)))))))))))))
  rcases ite_some h with ⟨hb38, h⟩ | ⟨hb38, h⟩
  ·obtain ⟨x45, hx46, h⟩ := bind_some h
   refine kx (gsF rfl hb38) (kx (gsF rfl hb38) (kx (gsF rfl hb38) (kx (gsF rfl hb38) (kx (gsF rfl hb38) (kx (gsF rfl hb38) (kx (pkT rfl hb38 rfl) (Rn (hA h31 (hA h32 (hA h33 (hV (.bool true) rfl hZ)))) fun e39 h41 h42 h43 h44 => sN (cT h44 rfl (Rg (kx (mvO h42) (kx (mvO h41) (kx (mvO h43) (kx (ixS rfl rfl hx46 Item.fl) (kx (faP rfl ⟨ble rfl, blt rfl⟩ rfl) (kx (ldP rfl rfl) (kx (bAdd rfl rfl) (kx (mvO rfl) (Rn (hA h41 (hN rfl (hA h43 hZ))) fun e47 h49 h50 h51 => bN (sN (Rg (kx (mvO h51) (kx (bAdd rfl rfl) (kx (mvO rfl) (Rn (hA h49 (hA h50 (hN rfl hZ))) fun e52 h54 h55 h56 => ?_))))))))))))))))))))))))
   clear h31 h32 h33 h34 h41 h43 h44 h49 h50
   obtain rfl := si h
   exact qN ⟨h54, h55, h56⟩
  obtain ⟨x57, hx58, h⟩ := bind_some h
  refine kx (guF rfl hb38 (mvO h31)) (kx (guF rfl hb38 (mvO h33)) (kx (guF rfl hb38 (ixS rfl rfl hx58 Item.fl)) (kx (guF rfl hb38 (faP rfl ⟨ble rfl, blt rfl⟩ rfl)) (kx (guF rfl hb38 (ldP rfl rfl)) (kx (guF rfl hb38 (bEql rfl rfl)) (kx (pkF rfl hb38 rfl) (Rn (hA h31 (hA h32 (hA h33 (hN rfl hZ)))) fun e59 h61 h62 h63 h64 => sN ?_)))))))
  clear h31 h32 h33 h34
  rcases ite_some h with ⟨hb65, h⟩ | ⟨hb65, h⟩
  ·obtain ⟨x66, hx67, h⟩ := bind_some h
   refine cT h64 hb65 (Rg (kx (mvO h62) (kx (mvO h61) (kx (mvO h63) (kx (ixS rfl rfl hx67 Item.fl) (kx (faP rfl ⟨ble rfl, blt rfl⟩ rfl) (kx (ldP rfl rfl) (kx (bAdd rfl rfl) (kx (mvO rfl) (Rn (hA h61 (hN rfl (hA h63 hZ))) fun e68 h70 h71 h72 => bN (sN (Rg (kx (mvO h72) (kx (bAdd rfl rfl) (kx (mvO rfl) (Rn (hA h70 (hA h71 (hN rfl hZ))) fun e73 h75 h76 h77 => ?_))))))))))))))))
   clear h61 h63 h64 h70 h71
   obtain rfl := si h
   exact qN ⟨h75, h76, h77⟩
  obtain ⟨x78, hx79, h⟩ := bind_some h
  refine cF h64 hb65 (Rg (kx (mvO h62) (kx (mvO h61) (kx (mvO h63) (kx (ixS rfl rfl hx79 Item.fl) (kx (faP rfl ⟨ble rfl, blt rfl⟩ rfl) (kx (ldP rfl rfl) (kx (bSub rfl rfl) (kx (mvO rfl) (Rn (hA h61 (hN rfl (hA h63 hZ))) fun e80 h82 h83 h84 => bN (sN (Rg (kx (mvO h84) (kx (bAdd rfl rfl) (kx (mvO rfl) (Rn (hA h82 (hA h83 (hN rfl hZ))) fun e85 h87 h88 h89 => ?_))))))))))))))))
  clear h61 h63 h64 h82 h83
  obtain rfl := si h
  exact qN ⟨h87, h88, h89⟩
 refine cF h34 hb35 (xx (sE ?_))
 obtain rfl := si h
 exact qE ⟨rfl, h32⟩
noncomputable def spec_l05Balance (a1 : List Item) : Option Int :=
 (Lw (spec_l05Balance_b1 a1) (0, 0)).bind fun y95 =>
 some y95
def spec_l05Balance_enc (r : Int) : AV := .int .i64 r
theorem spec_l05Balance_ok (a1 : List Item) (r : Int) (h : spec_l05Balance a1 = some r) : Ev (fun k => CN k 131 [.sl none (a1.map Item.c)] []) (fun p => rRes p.2 p.1 = spec_l05Balance_enc r) := by
 unfold spec_l05Balance at h
 obtain ⟨y95, hr91, h⟩ := bind_some h
 refine Ev.enter (F := fun k => f131 (CN k) k) (fun k => callN_eq rfl Tryd.func131 rfl rfl rfl (by decide +kernel) (f131_eq _ _)) (sq (Rg (kx (mvO rfl) (Rn (hN rfl hZ) fun e1 h3 => sN (sq (Rg (kx (mvO rfl) (Rn (hA h3 (hV (.int .i64 0) rfl hZ)) fun e4 h6 h7 => sN (sq (sq (Rg (kx (mvO rfl) (Rn (hA h6 (hA h7 (hV (.int .i64 0) rfl hZ))) fun e8 h10 h11 h12 => sN (bl (Ev.loop (RS := spec_l05Balance_b1_RS a1) (RR := spec_l05Balance_b1_RR a1) (fun s r h e M hs => spec_l05Balance_b1_ok a1 s r h e M hs) hr91 ⟨h10, h11, h12⟩ fun x e93 M94 hq92 => ?_)))))))))))))))
 clear h3 h6 h7
 obtain ⟨rfl, h96⟩ := hq92
 refine bE (sN (sq (Rg (kx (mvO h96) (kx (mvO rfl) (Rn (hN rfl hZ) fun e97 h99 => sN (xx ?_)))))))
 clear h96
 obtain rfl := si h
 exact eR (resT h99 res0) rfl
/-! ### loop.example/g01263/spec.l05Items (f112) -/
abbrev spec_l05Items_b1_S := Int
abbrev spec_l05Items_b1_R := Unit ⊕ Unit
def spec_l05Items_b1_RS (a1 : List Item) (s : spec_l05Items_b1_S) (e : Env) (M : Mem) : Prop := eget e 0 = .sl none (a1.map Item.c) ∧ eget e 3 = .int .i64 s
def spec_l05Items_b1_RR (a1 : List Item) (r : spec_l05Items_b1_R) (x : Ex) (e : Env) (M : Mem) : Prop :=
  match r with
  | (.inl g) => x = .ret ∧ eget e 2 = .bool false
  | (.inr g) => x = .ext 0 ∧ True
noncomputable def spec_l05Items_b1 (a1 : List Item) : spec_l05Items_b1_S → Option (spec_l05Items_b1_S ⊕ spec_l05Items_b1_R) := fun s1_1 =>
 if (decide (s1_1 < (a1.length : Int))) = true then
  (rd a1 s1_1).bind fun x34 =>
  (spec_l05Item x34).bind fun r37 =>
  if r37 = true then
   some (.inl (IntKind.i64.wrap (s1_1 + 1)))
  else
   some (.inr (.inl ()))
 else
  some (.inr (.inr ()))
theorem spec_l05Items_b1_ok (a1 : List Item) (s : spec_l05Items_b1_S) (r : spec_l05Items_b1_S ⊕ spec_l05Items_b1_R) (h : spec_l05Items_b1 a1 s = some r) (e : Env) (M : Mem) (hs : spec_l05Items_b1_RS a1 s e M) : Ev (fun k => (f112_l4 (CN k) k (prune [0, 3] e) M).bind fun q => some q) (bQ (spec_l05Items_b1_RS a1) (spec_l05Items_b1_RR a1) r) := by
 revert h hs
 revert s
 intro s1_1 h hs
 unfold spec_l05Items_b1 at h
 obtain ⟨h24, h26⟩ := hs
 generalize he23 : prune [0, 3] e = e22
 have h25 := envp he23.symm rfl h24
 have h27 := envp he23.symm rfl h26
 refine sq (sq (Rg (kx (mvO h27) (kx (mvO h25) (kx (lnS Tryd.underlying27 rfl) (kx (bLss rfl rfl) (Rn (hV (.sl none (a1.map Item.c)) h25 (hV (.int .i64 s1_1) h27 (hN rfl hZ))) fun e28 h30 h31 h32 => sN ?_)))))))
 clear h25 h27
 rcases ite_some h with ⟨hb33, h⟩ | ⟨hb33, h⟩
 ·obtain ⟨x34, hx35, h⟩ := bind_some h
  obtain ⟨r37, hx36, h⟩ := bind_some h
  refine cT h32 hb33 (xx (sN (sq (bl (sq (Rg (kx (mvO h30) (kx (mvO h31) (kx (ixS rfl rfl hx35 Item.fl) (kc (cl (v := .bool r37) rfl (cns rfl rfl) rfl (spec_l05Item_ok x34 _ hx36) nm) (kx (uNot rfl) (Rn (hA h30 (hA h31 (hN rfl hZ))) fun e38 h40 h41 h42 => sN ?_))))))))))))
  clear h30 h31 h32
  rcases ite_some h with ⟨hb43, h⟩ | ⟨hb43, h⟩
  ·refine cF h42 (congrArg Bool.not hb43) (xx (bN (sN (Rg (kx (mvO h41) (kx (bAdd rfl rfl) (kx (mvO rfl) (Rn (hA h40 (hN rfl hZ)) fun e44 h46 h47 => ?_))))))))
   clear h40 h42
   obtain rfl := si h
   exact qN ⟨h46, h47⟩
  refine cT h42 (congrArg Bool.not hb43) (sq (Rg (kx (mvO rfl) (Rn (hV (.bool false) rfl hZ) fun e48 h50 => sN (xx (bR (sR ?_)))))))
  clear h40 h41 h42
  obtain rfl := si h
  exact qR ⟨rfl, h50⟩
 refine cF h32 hb33 (xx (sE ?_))
 obtain rfl := si h
 exact qE ⟨rfl, trivial⟩
noncomputable def spec_l05Items (a1 : List Item) : Option Bool :=
 if (decide ((a1.length : Int) > 40)) = true then
  some false
 else
  (Lw (spec_l05Items_b1 a1) 0).bind fun r => match r with
  | (.inl _) =>
   some false
  | (.inr _) =>
   some true
def spec_l05Items_enc (r : Bool) : AV := .bool r
theorem spec_l05Items_ok (a1 : List Item) (r : Bool) (h : spec_l05Items a1 = some r) : Ev (fun k => CN k 112 [.sl none (a1.map Item.c)] []) (fun p => rRes p.2 p.1 = spec_l05Items_enc r) := by
 unfold spec_l05Items at h
 refine Ev.enter (F := fun k => f112 (CN k) k) (fun k => callN_eq rfl Tryd.func112 rfl rfl rfl (by decide +kernel) (f112_eq _ _)) (sq (Rg (kx (mvO rfl) (Rn (hN rfl hZ) fun e1 h3 => sN (sq (sq (Rg (kx (mvO h3) (kx (lnS Tryd.underlying27 rfl) (kx (bGtr rfl rfl) (Rn (hA h3 (hN rfl hZ)) fun e4 h6 h7 => sN ?_)))))))))))
 clear h3
 rcases ite_some h with ⟨hb8, h⟩ | ⟨hb8, h⟩
 ·refine cT h7 hb8 (sq (Rg (kx (mvO rfl) (Rn (hV (.bool false) rfl hZ) fun e9 h11 => sN (xx (sR ?_))))))
  clear h6 h7
  obtain rfl := si h
  exact eR (resT h11 res0) rfl
 obtain ⟨r51, hr52, h⟩ := bind_some h
 refine cF h7 hb8 (xx (sN (sq (sq (Rg (kx (mvO rfl) (Rn (hA h6 (hV (.int .i64 0) rfl hZ)) fun e12 h14 h15 => sN (bl ?_))))))))
 clear h6 h7
 rcases r51 with _ | _
 ·refine Ev.loop (RS := spec_l05Items_b1_RS a1) (RR := spec_l05Items_b1_RR a1) (fun s r h e M hs => spec_l05Items_b1_ok a1 s r h e M hs) hr52 ⟨h14, h15⟩ fun x e54 M55 hq53 => ?_
  obtain ⟨rfl, h56⟩ := hq53
  refine bR (sR ?_)
  obtain rfl := si h
  exact eR (resT h56 res0) rfl
 refine Ev.loop (RS := spec_l05Items_b1_RS a1) (RR := spec_l05Items_b1_RR a1) (fun s r h e M hs => spec_l05Items_b1_ok a1 s r h e M hs) hr52 ⟨h14, h15⟩ fun x e57 M58 hq53 => ?_
 obtain ⟨rfl, _⟩ := hq53
 refine bE (sN (sq (Rg (kx (mvO rfl) (Rn (hV (.bool true) rfl hZ) fun e59 h61 => sN (xx ?_))))))
 obtain rfl := si h
 exact eR (resT h61 res0) rfl
/-! ### loop.example/g01263/spec.l05Title (f110) -/
abbrev spec_l05Title_b1_S := Int
abbrev spec_l05Title_b1_R := Unit ⊕ Unit
def spec_l05Title_b1_RS (a1 : List UInt8) (s : spec_l05Title_b1_S) (e : Env) (M : Mem) : Prop := eget e 0 = .str a1 ∧ eget e 3 = .int .i64 s
def spec_l05Title_b1_RR (a1 : List UInt8) (r : spec_l05Title_b1_R) (x : Ex) (e : Env) (M : Mem) : Prop :=
  match r with
  | (.inl g) => x = .ret ∧ eget e 2 = .bool false
  | (.inr g) => x = .ext 0 ∧ eget e 0 = .str a1
noncomputable def spec_l05Title_b1 (a1 : List UInt8) : spec_l05Title_b1_S → Option (spec_l05Title_b1_S ⊕ spec_l05Title_b1_R) := fun s1_1 =>
 if (decide (s1_1 < (a1.length : Int))) = true then
  (rd a1 s1_1).bind fun x26 =>
  if (decide ((x26.toNat : Int) < 97)) = true then
   some (.inr (.inl ()))
  else
   (rd a1 s1_1).bind fun x37 =>
   if (decide ((x37.toNat : Int) > 122)) = true then
    some (.inr (.inl ()))
   else
    some (.inl (IntKind.i64.wrap (s1_1 + 1)))
 else
  some (.inr (.inr ()))
theorem spec_l05Title_b1_ok (a1 : List UInt8) (s : spec_l05Title_b1_S) (r : spec_l05Title_b1_S ⊕ spec_l05Title_b1_R) (h : spec_l05Title_b1 a1 s = some r) (e : Env) (M : Mem) (hs : spec_l05Title_b1_RS a1 s e M) : Ev (fun k => (f110_l2 (CN k) k (prune [0, 3] e) M).bind fun q => some q) (bQ (spec_l05Title_b1_RS a1) (spec_l05Title_b1_RR a1) r) := by
 revert h hs
 revert s
 intro s1_1 h hs
 unfold spec_l05Title_b1 at h
 obtain ⟨h16, h18⟩ := hs
 generalize he15 : prune [0, 3] e = e14
 have h17 := envp he15.symm rfl h16
 have h19 := envp he15.symm rfl h18
 refine sq (sq (Rg (kx (mvO h19) (kx (mvO h17) (kx (lnB Tryd.underlying9 rfl) (kx (bLss rfl rfl) (Rn (hV (.str a1) h17 (hV (.int .i64 s1_1) h19 (hN rfl hZ))) fun e20 h22 h23 h24 => sN ?_)))))))
 clear h17 h19
 rcases ite_some h with ⟨hb25, h⟩ | ⟨hb25, h⟩
 ·obtain ⟨x26, hx27, h⟩ := bind_some h
  refine cT h24 hb25 (xx (sN (sq (bl (sq (Rg (kx (mvO h22) (kx (mvO h23) (kx (ixB rfl rfl hx27) (kx (bLss rfl rfl) (kx (mvO rfl) ?_)))))))))))
  rcases ite_some h with ⟨hb28, h⟩ | ⟨hb28, h⟩
  ·refine kx (gsF rfl hb28) (kx (gsF rfl hb28) (kx (gsF rfl hb28) (kx (gsF rfl hb28) (kx (pkT rfl hb28 rfl) (Rn (hA h22 (hA h23 (hV (.bool true) rfl hZ))) fun e29 h31 h32 h33 => sN (cT h33 rfl (sq (Rg (kx (mvO rfl) (Rn (hV (.bool false) rfl hZ) fun e34 h36 => sN (xx (bR (sR ?_)))))))))))))
   clear h22 h23 h24 h31 h32 h33
   obtain rfl := si h
   exact qR ⟨rfl, h36⟩
  obtain ⟨x37, hx38, h⟩ := bind_some h
  refine kx (guF rfl hb28 (mvO h22)) (kx (guF rfl hb28 (mvO h23)) (kx (guF rfl hb28 (ixB rfl rfl hx38)) (kx (guF rfl hb28 (bGtr rfl rfl)) (kx (pkF rfl hb28 rfl) (Rn (hA h22 (hA h23 (hN rfl hZ))) fun e39 h41 h42 h43 => sN ?_)))))
  clear h22 h23 h24
  rcases ite_some h with ⟨hb44, h⟩ | ⟨hb44, h⟩
  ·refine cT h43 hb44 (sq (Rg (kx (mvO rfl) (Rn (hV (.bool false) rfl hZ) fun e45 h47 => sN (xx (bR (sR ?_)))))))
   clear h41 h42 h43
   obtain rfl := si h
   exact qR ⟨rfl, h47⟩
  refine cF h43 hb44 (xx (bN (sN (Rg (kx (mvO h42) (kx (bAdd rfl rfl) (kx (mvO rfl) (Rn (hA h41 (hN rfl hZ)) fun e48 h50 h51 => ?_))))))))
  clear h41 h43
  obtain rfl := si h
  exact qN ⟨h50, h51⟩
 refine cF h24 hb25 (xx (sE ?_))
 obtain rfl := si h
 exact qE ⟨rfl, h22⟩
noncomputable def spec_l05Title (a1 : List UInt8) : Option Bool :=
 (Lw (spec_l05Title_b1 a1) 0).bind fun r => match r with
 | (.inl _) =>
  some false
 | (.inr _) =>
  (spec_l00In (a1.length : Int) 1 16).bind fun r62 =>
  some r62
def spec_l05Title_enc (r : Bool) : AV := .bool r
theorem spec_l05Title_ok (a1 : List UInt8) (r : Bool) (h : spec_l05Title a1 = some r) : Ev (fun k => CN k 110 [.str a1] []) (fun p => rRes p.2 p.1 = spec_l05Title_enc r) := by
 unfold spec_l05Title at h
 obtain ⟨r52, hr53, h⟩ := bind_some h
 refine Ev.enter (F := fun k => f110 (CN k) k) (fun k => callN_eq rfl Tryd.func110 rfl rfl rfl (by decide +kernel) (f110_eq _ _)) (sq (Rg (kx (mvO rfl) (Rn (hN rfl hZ) fun e1 h3 => sN (sq (sq (Rg (kx (mvO rfl) (Rn (hA h3 (hV (.int .i64 0) rfl hZ)) fun e4 h6 h7 => sN (bl ?_))))))))))
 clear h3
 rcases r52 with _ | _
 ·refine Ev.loop (RS := spec_l05Title_b1_RS a1) (RR := spec_l05Title_b1_RR a1) (fun s r h e M hs => spec_l05Title_b1_ok a1 s r h e M hs) hr53 ⟨h6, h7⟩ fun x e55 M56 hq54 => ?_
  obtain ⟨rfl, h57⟩ := hq54
  refine bR (sR ?_)
  obtain rfl := si h
  exact eR (resT h57 res0) rfl
 refine Ev.loop (RS := spec_l05Title_b1_RS a1) (RR := spec_l05Title_b1_RR a1) (fun s r h e M hs => spec_l05Title_b1_ok a1 s r h e M hs) hr53 ⟨h6, h7⟩ fun x e58 M59 hq54 => ?_
 obtain ⟨rfl, h60⟩ := hq54
 obtain ⟨r62, hx61, h⟩ := bind_some h
 refine bE (sN (sq (Rg (kx (mvO h60) (kx (lnB Tryd.underlying9 rfl) (kc (cl (v := .bool r62) rfl (cns rfl (cns rfl (cns rfl rfl))) rfl (spec_l00In_ok (a1.length : Int) 1 16 _ hx61) nm) (kx (mvO rfl) (Rn (hN rfl hZ) fun e63 h65 => sN (xx ?_)))))))))
 clear h60
 obtain rfl := si h
 exact eR (resT h65 res0) rfl
/-! ### loop.example/g01263/impl.isLetters (f87) -/
abbrev impl_isLetters_b1_S := Int
abbrev impl_isLetters_b1_R := Unit ⊕ Unit
def impl_isLetters_b1_RS (a1 : List UInt8) (a2 : Int) (s : impl_isLetters_b1_S) (e : Env) (M : Mem) : Prop := eget e 0 = .str a1 ∧ eget e 1 = .int .i64 a2 ∧ eget e 7 = .int .i64 (a1.length : Int) ∧ eget e 8 = .int .i64 s
def impl_isLetters_b1_RR (a1 : List UInt8) (a2 : Int) (r : impl_isLetters_b1_R) (x : Ex) (e : Env) (M : Mem) : Prop :=
  match r with
  | (.inl g) => x = .ret ∧ eget e 4 = .bool false
  | (.inr g) => x = .ext 0 ∧ eget e 0 = .str a1 ∧ eget e 1 = .int .i64 a2
noncomputable def impl_isLetters_b1 (a1 : List UInt8) : impl_isLetters_b1_S → Option (impl_isLetters_b1_S ⊕ impl_isLetters_b1_R) := fun s1_1 =>
 if (decide (s1_1 < (a1.length : Int))) = true then
  (rd a1 s1_1).bind fun x46 =>
  if (decide ((x46.toNat : Int) < 97)) = true then
   some (.inr (.inl ()))
  else
   (rd a1 s1_1).bind fun x59 =>
   if (decide ((x59.toNat : Int) > 122)) = true then
    some (.inr (.inl ()))
   else
    some (.inl (IntKind.i64.wrap (s1_1 + 1)))
 else
  some (.inr (.inr ()))
theorem impl_isLetters_b1_ok (a1 : List UInt8) (a2 : Int) (s : impl_isLetters_b1_S) (r : impl_isLetters_b1_S ⊕ impl_isLetters_b1_R) (h : impl_isLetters_b1 a1 s = some r) (e : Env) (M : Mem) (hs : impl_isLetters_b1_RS a1 a2 s e M) : Ev (fun k => (f87_l2 (CN k) k (prune [0, 1, 7, 8] e) M).bind fun q => some q) (bQ (impl_isLetters_b1_RS a1 a2) (impl_isLetters_b1_RR a1 a2) r) := by
 revert h hs
 revert s
 intro s1_1 h hs
 unfold impl_isLetters_b1 at h
 obtain ⟨h23, h25, h27, h29⟩ := hs
 generalize he22 : prune [0, 1, 7, 8] e = e21
 have h24 := envp he22.symm rfl h23
 have h26 := envp he22.symm rfl h25
 have h28 := envp he22.symm rfl h27
 have h30 := envp he22.symm rfl h29
 refine sq (Rg (kx (bLss h30 h28) (Rn (hV (.str a1) h24 (hV (.int .i64 a2) h26 (hV (.int .i64 (a1.length : Int)) h28 (hV (.int .i64 s1_1) h30 (hN rfl hZ))))) fun e31 h33 h34 h35 h36 h37 => sN (sq ?_))))
 clear h24 h26 h28 h30
 rcases ite_some h with ⟨hb38, h⟩ | ⟨hb38, h⟩
 ·obtain ⟨x46, hx47, h⟩ := bind_some h
  refine cT h37 hb38 (xx (sN (sq (bl (sq (Rg (kx (mvO h36) (kx (mvO rfl) (Rn (hA h33 (hA h34 (hN rfl (hA h35 (hA h36 hZ))))) fun e39 h41 h42 h43 h44 h45 => sN (sq (Rg (kx (mvO h41) (kx (mvO h43) (kx (ixB rfl rfl hx47) (kx (bLss rfl rfl) (kx (mvO rfl) ?_))))))))))))))))
  clear h33 h34 h35 h36 h37
  rcases ite_some h with ⟨hb48, h⟩ | ⟨hb48, h⟩
  ·refine kx (gsF rfl hb48) (kx (gsF rfl hb48) (kx (gsF rfl hb48) (kx (gsF rfl hb48) (kx (pkT rfl hb48 rfl) (Rn (hA h41 (hA h42 (hA h44 (hA h45 (hV (.bool true) rfl hZ))))) fun e49 h51 h52 h53 h54 h55 => sN (cT h55 rfl (sq (Rg (kx (mvO rfl) (Rn (hV (.bool false) rfl hZ) fun e56 h58 => sN (xx (bR (sR ?_)))))))))))))
   clear h41 h42 h43 h44 h45 h51 h52 h53 h54 h55
   obtain rfl := si h
   exact qR ⟨rfl, h58⟩
  obtain ⟨x59, hx60, h⟩ := bind_some h
  refine kx (guF rfl hb48 (mvO h41)) (kx (guF rfl hb48 (mvO h43)) (kx (guF rfl hb48 (ixB rfl rfl hx60)) (kx (guF rfl hb48 (bGtr rfl rfl)) (kx (pkF rfl hb48 rfl) (Rn (hA h41 (hA h42 (hA h44 (hA h45 (hN rfl hZ))))) fun e61 h63 h64 h65 h66 h67 => sN ?_)))))
  clear h41 h42 h43 h44 h45
  rcases ite_some h with ⟨hb68, h⟩ | ⟨hb68, h⟩
  ·refine cT h67 hb68 (sq (Rg (kx (mvO rfl) (Rn (hV (.bool false) rfl hZ) fun e69 h71 => sN (xx (bR (sR ?_)))))))
   clear h63 h64 h65 h66 h67
   obtain rfl := si h
   exact qR ⟨rfl, h71⟩
  refine cF h67 hb68 (xx (bN (sN (Rg (kx (bAdd h66 rfl) (kx (mvO rfl) (Rn (hA h63 (hA h64 (hA h65 (hN rfl hZ)))) fun e72 h74 h75 h76 h77 => ?_)))))))
  clear h63 h64 h65 h67
  obtain rfl := si h
  exact qN ⟨h74, h75, h76, h77⟩
 refine cF h37 hb38 (xx (sE ?_))
 obtain rfl := si h
 exact qE ⟨rfl, h33, h34⟩
noncomputable def impl_isLetters (a1 : List UInt8) (a2 : Int) : Option Bool :=
 (Lw (impl_isLetters_b1 a1) 0).bind fun r => match r with
 | (.inl _) =>
  some false
 | (.inr _) =>
  if (decide ((a1.length : Int) ≥ 1)) = true then
   some (decide ((a1.length : Int) ≤ a2))
  else
   some false
def impl_isLetters_enc (r : Bool) : AV := .bool r
theorem impl_isLetters_ok (a1 : List UInt8) (a2 : Int) (r : Bool) (h : impl_isLetters a1 a2 = some r) : Ev (fun k => CN k 87 [.str a1, .int .i64 a2] []) (fun p => rRes p.2 p.1 = impl_isLetters_enc r) := by
 unfold impl_isLetters at h
 obtain ⟨r78, hr79, h⟩ := bind_some h
 refine Ev.enter (F := fun k => f87 (CN k) k) (fun k => callN_eq rfl Tryd.func87 rfl rfl rfl (by decide +kernel) (f87_eq _ _)) (sq (Rg (kx (mvO rfl) (Rn (hN rfl (hN rfl hZ)) fun e1 h3 h4 => sN (sq (sq (Rg (kx (mvO h3) (kx (lnB Tryd.underlying9 rfl) (kx (mvO rfl) (Rn (hA h3 (hA h4 (hN rfl (hV (.int .i64 0) rfl hZ)))) fun e5 h7 h8 h9 h10 => sN (bl ?_))))))))))))
 clear h3 h4
 rcases r78 with _ | _
 ·refine Ev.loop (RS := impl_isLetters_b1_RS a1 a2) (RR := impl_isLetters_b1_RR a1 a2) (fun s r h e M hs => impl_isLetters_b1_ok a1 a2 s r h e M hs) hr79 ⟨h7, h8, h9, h10⟩ fun x e81 M82 hq80 => ?_
  obtain ⟨rfl, h83⟩ := hq80
  refine bR (sR ?_)
  obtain rfl := si h
  exact eR (resT h83 res0) rfl
 refine Ev.loop (RS := impl_isLetters_b1_RS a1 a2) (RR := impl_isLetters_b1_RR a1 a2) (fun s r h e M hs => impl_isLetters_b1_ok a1 a2 s r h e M hs) hr79 ⟨h7, h8, h9, h10⟩ fun x e84 M85 hq80 => ?_
 obtain ⟨rfl, h86, h87⟩ := hq80
 refine bE (sN (sq (Rg (kx (mvO h86) (kx (lnB Tryd.underlying9 rfl) (kx (bGeq rfl rfl) (kx (mvO rfl) ?_)))))))
 rcases ite_some h with ⟨hb88, h⟩ | ⟨hb88, h⟩
 ·refine kx (guT rfl hb88 (mvO h86)) (kx (guT rfl hb88 (lnB Tryd.underlying9 rfl)) (kx (guT rfl hb88 (mvO h87)) (kx (guT rfl hb88 (bLeq rfl rfl)) (kx (pkT rfl hb88 rfl) (kx (mvO rfl) (Rn (hN rfl hZ) fun e89 h91 => sN (xx ?_)))))))
  clear h86 h87
  obtain rfl := si h
  exact eR (resT h91 res0) rfl
 refine kx (gsT rfl hb88) (kx (gsT rfl hb88) (kx (gsT rfl hb88) (kx (gsT rfl hb88) (kx (pkF rfl hb88 rfl) (kx (mvO rfl) (Rn (hV (.bool false) rfl hZ) fun e92 h94 => sN (xx ?_)))))))
 clear h86 h87
 obtain rfl := si h
 exact eR (resT h94 res0) rfl
/-! ### loop.example/g01263/impl.ValidItems (f88) -/
abbrev impl_ValidItems_b1_S := Int
abbrev impl_ValidItems_b1_R := Unit ⊕ Unit
def impl_ValidItems_b1_RS (a1 : List Item) (s : impl_ValidItems_b1_S) (e : Env) (M : Mem) : Prop := eget e 0 = .sl none (a1.map Item.c) ∧ eget e 5 = .sl none (a1.map Item.c) ∧ eget e 6 = .int .i64 (a1.length : Int) ∧ eget e 7 = .int .i64 s
def impl_ValidItems_b1_RR (a1 : List Item) (r : impl_ValidItems_b1_R) (x : Ex) (e : Env) (M : Mem) : Prop :=
  match r with
  | (.inl g) => x = .ret ∧ eget e 2 = .bool false
  | (.inr g) => x = .ext 0 ∧ eget e 0 = .sl none (a1.map Item.c)
noncomputable def impl_ValidItems_b1 (a1 : List Item) : impl_ValidItems_b1_S → Option (impl_ValidItems_b1_S ⊕ impl_ValidItems_b1_R) := fun s1_1 =>
 if (decide (s1_1 < (a1.length : Int))) = true then
  (rd a1 s1_1).bind fun x38 =>
  (impl_validItem x38).bind fun r55 =>
  if r55 = true then
   some (.inl (IntKind.i64.wrap (s1_1 + 1)))
  else
   some (.inr (.inl ()))
 else
  some (.inr (.inr ()))
theorem impl_ValidItems_b1_ok (a1 : List Item) (s : impl_ValidItems_b1_S) (r : impl_ValidItems_b1_S ⊕ impl_ValidItems_b1_R) (h : impl_ValidItems_b1 a1 s = some r) (e : Env) (M : Mem) (hs : impl_ValidItems_b1_RS a1 s e M) : Ev (fun k => (f88_l2 (CN k) k (prune [0, 5, 6, 7] e) M).bind fun q => some q) (bQ (impl_ValidItems_b1_RS a1) (impl_ValidItems_b1_RR a1) r) := by
 revert h hs
 revert s
 intro s1_1 h hs
 unfold impl_ValidItems_b1 at h
 obtain ⟨h22, h24, h26, h28⟩ := hs
 generalize he21 : prune [0, 5, 6, 7] e = e20
 have h23 := envp he21.symm rfl h22
 have h25 := envp he21.symm rfl h24
 have h27 := envp he21.symm rfl h26
 have h29 := envp he21.symm rfl h28
 refine sq (Rg (kx (bLss h29 h27) (Rn (hV (.sl none (a1.map Item.c)) h23 (hV (.sl none (a1.map Item.c)) h25 (hV (.int .i64 (a1.length : Int)) h27 (hV (.int .i64 s1_1) h29 (hN rfl hZ))))) fun e30 h32 h33 h34 h35 h36 => sN (sq ?_))))
 clear h23 h25 h27 h29
 rcases ite_some h with ⟨hb37, h⟩ | ⟨hb37, h⟩
 ·obtain ⟨x38, hx39, h⟩ := bind_some h
  refine cT h36 hb37 (xx (sN (sq (bl (sq (Rg (kx (ixS h33 h35 hx39 Item.fl) (kx (ldPA rfl rfl rfl) (ku (alO zero85) fun M41 hM42 => ?_)))))))))
  have o43 : M41[M.length]? = some (.live ⟨.box, 85, 2, [[.int .i8 0, .int .i64 0]]⟩) := push_new hM42
  refine kw (stO rfl rfl o43 rfl rfl ⟨rfl, ble rfl⟩ rfl rfl) fun M44 hM45 => ?_
  have o46 : M44[M.length]? = some (.live ⟨.box, 85, 2, [[.int .i8 x38.Kind, .int .i64 x38.Amount]]⟩) := set_same hM45 o43
  obtain ⟨r55, hx54, h⟩ := bind_some h
  refine Rn (hA h32 (hV (.loc M.length 1 0 0) rfl (hA h33 (hA h34 (hA h35 hZ))))) fun e47 h49 h50 h51 h52 h53 => sN (sq (Rg (kx (ldOA h50 o46 rfl rfl (ble rfl) rfl) (kc (cl (v := .bool r55) rfl (cns rfl rfl) rfl (impl_validItem_ok x38 _ hx54) nm) (kx (uNot rfl) (Rn (hA h49 (hA h51 (hA h52 (hA h53 (hN rfl hZ))))) fun e56 h58 h59 h60 h61 h62 => sN ?_))))))
  clear h32 h33 h34 h35 h36 h49 h50 h51 h52 h53
  rcases ite_some h with ⟨hb63, h⟩ | ⟨hb63, h⟩
  ·refine cF h62 (congrArg Bool.not hb63) (xx (bN (sN (Rg (kx (bAdd h61 rfl) (kx (mvO rfl) (Rn (hA h58 (hA h59 (hA h60 (hN rfl hZ)))) fun e64 h66 h67 h68 h69 => ?_)))))))
   clear h58 h59 h60 h62
   obtain rfl := si h
   exact qN ⟨h66, h67, h68, h69⟩
  refine cT h62 (congrArg Bool.not hb63) (sq (Rg (kx (mvO rfl) (Rn (hV (.bool false) rfl hZ) fun e70 h72 => sN (xx (bR (sR ?_)))))))
  clear h58 h59 h60 h61 h62
  obtain rfl := si h
  exact qR ⟨rfl, h72⟩
 refine cF h36 hb37 (xx (sE ?_))
 obtain rfl := si h
 exact qE ⟨rfl, h32⟩
noncomputable def impl_ValidItems (a1 : List Item) : Option Bool :=
 (Lw (impl_ValidItems_b1 a1) 0).bind fun r => match r with
 | (.inl _) =>
  some false
 | (.inr _) =>
  some (decide ((a1.length : Int) ≤ 40))
def impl_ValidItems_enc (r : Bool) : AV := .bool r
theorem impl_ValidItems_ok (a1 : List Item) (r : Bool) (h : impl_ValidItems a1 = some r) : Ev (fun k => CN k 88 [.sl none (a1.map Item.c)] []) (fun p => rRes p.2 p.1 = impl_ValidItems_enc r) := by
 unfold impl_ValidItems at h
 obtain ⟨r73, hr74, h⟩ := bind_some h
 refine Ev.enter (F := fun k => f88 (CN k) k) (fun k => callN_eq rfl Tryd.func88 rfl rfl rfl (by decide +kernel) (f88_eq _ _)) (sq (Rg (kx (mvO rfl) (Rn (hN rfl hZ) fun e1 h3 => sN (sq (sq (Rg (kx (mvO h3) (kx (lnS Tryd.underlying27 rfl) (kx (mvO rfl) (Rn (hA h3 (hN rfl (hN rfl (hV (.int .i64 0) rfl hZ)))) fun e4 h6 h7 h8 h9 => sN (bl ?_))))))))))))
 clear h3
 rcases r73 with _ | _
 ·refine Ev.loop (RS := impl_ValidItems_b1_RS a1) (RR := impl_ValidItems_b1_RR a1) (fun s r h e M hs => impl_ValidItems_b1_ok a1 s r h e M hs) hr74 ⟨h6, h7, h8, h9⟩ fun x e76 M77 hq75 => ?_
  obtain ⟨rfl, h78⟩ := hq75
  refine bR (sR ?_)
  obtain rfl := si h
  exact eR (resT h78 res0) rfl
 refine Ev.loop (RS := impl_ValidItems_b1_RS a1) (RR := impl_ValidItems_b1_RR a1) (fun s r h e M hs => impl_ValidItems_b1_ok a1 s r h e M hs) hr74 ⟨h6, h7, h8, h9⟩ fun x e79 M80 hq75 => ?_
 obtain ⟨rfl, h81⟩ := hq75
 refine bE (sN (sq (Rg (kx (mvO h81) (kx (lnS Tryd.underlying27 rfl) (kx (bLeq rfl rfl) (kx (mvO rfl) (Rn (hN rfl hZ) fun e82 h84 => sN (xx ?_)))))))))
 clear h81
 obtain rfl := si h
 exact eR (resT h84 res0) rfl
/-! ### loop.example/g01263/impl.balance (f89) -/
abbrev impl_balance_b1_S := Int × Int
abbrev impl_balance_b1_R := Int
def impl_balance_b1_RS (a1 : List Item) (s : impl_balance_b1_S) (e : Env) (M : Mem) : Prop := eget e 3 = .int .i64 s.1 ∧ eget e 6 = .sl none (a1.map Item.c) ∧ eget e 7 = .int .i64 (a1.length : Int) ∧ eget e 8 = .int .i64 s.2
def impl_balance_b1_RR (a1 : List Item) (g : impl_balance_b1_R) (x : Ex) (e : Env) (M : Mem) : Prop := x = .ext 0 ∧ eget e 3 = .int .i64 g
noncomputable def impl_balance_b1 (a1 : List Item) : impl_balance_b1_S → Option (impl_balance_b1_S ⊕ impl_balance_b1_R) := fun (s1_1, s1_2) =>
 if (decide (s1_2 < (a1.length : Int))) = true then
  (rd a1 s1_2).bind fun x42 =>
  if (x42.Kind == 0) = true then
   some (.inl ((IntKind.i64.wrap (s1_1 + x42.Amount)), (IntKind.i64.wrap (s1_2 + 1))))
  else
   if (x42.Kind == 1) = true then
    some (.inl ((IntKind.i64.wrap (s1_1 + x42.Amount)), (IntKind.i64.wrap (s1_2 + 1))))
   else
    some (.inl ((IntKind.i64.wrap (s1_1 - x42.Amount)), (IntKind.i64.wrap (s1_2 + 1))))
 else
  some (.inr s1_1)
theorem impl_balance_b1_ok (a1 : List Item) (s : impl_balance_b1_S) (r : impl_balance_b1_S ⊕ impl_balance_b1_R) (h : impl_balance_b1 a1 s = some r) (e : Env) (M : Mem) (hs : impl_balance_b1_RS a1 s e M) : Ev (fun k => (f89_l3 (CN k) k (prune [3, 6, 7, 8] e) M).bind fun q => some q) (bQ (impl_balance_b1_RS a1) (impl_balance_b1_RR a1) r) := by
 obtain ⟨s1_1, s1_2⟩ := s
 unfold impl_balance_b1 at h
 obtain ⟨h26, h28, h30, h32⟩ := hs
 generalize he25 : prune [3, 6, 7, 8] e = e24
 have h27 := envp he25.symm rfl h26
 have h29 := envp he25.symm rfl h28
 have h31 := envp he25.symm rfl h30
 have h33 := envp he25.symm rfl h32
 refine sq (Rg (kx (bLss h33 h31) (Rn (hV (.int .i64 s1_1) h27 (hV (.sl none (a1.map Item.c)) h29 (hV (.int .i64 (a1.length : Int)) h31 (hV (.int .i64 s1_2) h33 (hN rfl hZ))))) fun e34 h36 h37 h38 h39 h40 => sN (sq ?_))))
 clear h27 h29 h31 h33
 rcases ite_some h with ⟨hb41, h⟩ | ⟨hb41, h⟩
 ·obtain ⟨x42, hx43, h⟩ := bind_some h
  refine cT h40 hb41 (xx (sN (sq (bl (sq (Rg (kx (ixS h37 h39 hx43 Item.fl) (kx (ldPA rfl rfl rfl) (ku (alO zero85) fun M45 hM46 => ?_)))))))))
  have o47 : M45[M.length]? = some (.live ⟨.box, 85, 2, [[.int .i8 0, .int .i64 0]]⟩) := push_new hM46
  refine kw (stO rfl rfl o47 rfl rfl ⟨rfl, ble rfl⟩ rfl rfl) fun M48 hM49 => ?_
  have o50 : M48[M.length]? = some (.live ⟨.box, 85, 2, [[.int .i8 x42.Kind, .int .i64 x42.Amount]]⟩) := set_same hM49 o47
  refine Rn (hA h36 (hV (.loc M.length 1 0 0) rfl (hA h37 (hA h38 (hA h39 hZ))))) fun e51 h53 h54 h55 h56 h57 => sN (sq (Rg (kx (faO h54 o50 rfl) (kx (ldO rfl o50 rfl rfl rfl) (kx (bEql rfl rfl) (kx (mvO rfl) ?_))))))
  clear h36 h37 h38 h39 h40
  rcases ite_some h with ⟨hb58, h⟩ | ⟨hb58, h⟩
  ·refine kx (gsF rfl hb58) (kx (gsF rfl hb58) (kx (gsF rfl hb58) (kx (pkT rfl hb58 rfl) (Rn (hA h53 (hA h54 (hA h55 (hA h56 (hA h57 (hV (.bool true) rfl hZ)))))) fun e59 h61 h62 h63 h64 h65 h66 => sN (cT h66 rfl (Rg (kx (mvO h61) (kx (faO h62 o50 rfl) (kx (ldO rfl o50 rfl rfl rfl) (kx (bAdd rfl rfl) (kx (mvO rfl) (Rn (hN rfl (hA h63 (hA h64 (hA h65 hZ)))) fun e67 h69 h70 h71 h72 => bN (sN (Rg (kx (bAdd h72 rfl) (kx (mvO rfl) (Rn (hA h69 (hA h70 (hA h71 (hN rfl hZ)))) fun e73 h75 h76 h77 h78 => ?_)))))))))))))))))
   clear h53 h54 h55 h56 h57 h62 h63 h64 h65 h66 h69 h70 h71
   obtain rfl := si h
   exact qN ⟨h75, h76, h77, h78⟩
  refine kx (guF rfl hb58 (faO h54 o50 rfl)) (kx (guF rfl hb58 (ldO rfl o50 rfl rfl rfl)) (kx (guF rfl hb58 (bEql rfl rfl)) (kx (pkF rfl hb58 rfl) (Rn (hA h53 (hA h54 (hA h55 (hA h56 (hA h57 (hN rfl hZ)))))) fun e79 h81 h82 h83 h84 h85 h86 => sN ?_))))
  clear h53 h54 h55 h56 h57
  rcases ite_some h with ⟨hb87, h⟩ | ⟨hb87, h⟩
  ·refine cT h86 hb87 (Rg (kx (mvO h81) (kx (faO h82 o50 rfl) (kx (ldO rfl o50 rfl rfl rfl) (kx (bAdd rfl rfl) (kx (mvO rfl) (Rn (hN rfl (hA h83 (hA h84 (hA h85 hZ)))) fun e88 h90 h91 h92 h93 => bN (sN (Rg (kx (bAdd h93 rfl) (kx (mvO rfl) (Rn (hA h90 (hA h91 (hA h92 (hN rfl hZ)))) fun e94 h96 h97 h98 h99 => ?_))))))))))))
   clear h82 h83 h84 h85 h86 h90 h91 h92
   obtain rfl := si h
   exact qN ⟨h96, h97, h98, h99⟩
  refine cF h86 hb87 (Rg (kx (mvO h81) (kx (faO h82 o50 rfl) (kx (ldO rfl o50 rfl rfl rfl) (kx (bSub rfl rfl) (kx (mvO rfl) (Rn (hN rfl (hA h83 (hA h84 (hA h85 hZ)))) fun e100 h102 h103 h104 h105 => bN (sN (Rg (kx (bAdd h105 rfl) (kx (mvO rfl) (Rn (hA h102 (hA h103 (hA h104 (hN rfl hZ)))) fun e106 h108 h109 h110 h111 => ?_))))))))))))
  clear h82 h83 h84 h85 h86 h102 h103 h104
  obtain rfl := si h
  exact qN ⟨h108, h109, h110, h111⟩
 refine cF h40 hb41 (xx (sE ?_))
 obtain rfl := si h
 exact qE ⟨rfl, h36⟩
noncomputable def impl_balance (a1 : List Item) : Option Int :=
 (Lw (impl_balance_b1 a1) (0, 0)).bind fun y117 =>
 some y117
def impl_balance_enc (r : Int) : AV := .int .i64 r
theorem impl_balance_ok (a1 : List Item) (r : Int) (h : impl_balance a1 = some r) : Ev (fun k => CN k 89 [.sl none (a1.map Item.c)] []) (fun p => rRes p.2 p.1 = impl_balance_enc r) := by
 unfold impl_balance at h
 obtain ⟨y117, hr113, h⟩ := bind_some h
 refine Ev.enter (F := fun k => f89 (CN k) k) (fun k => callN_eq rfl Tryd.func89 rfl rfl rfl (by decide +kernel) (f89_eq _ _)) (sq (Rg (kx (mvO rfl) (Rn (hN rfl hZ) fun e1 h3 => sN (sq (Rg (kx (mvO rfl) (Rn (hA h3 (hV (.int .i64 0) rfl hZ)) fun e4 h6 h7 => sN (sq (sq (Rg (kx (mvO h6) (kx (lnS Tryd.underlying27 rfl) (kx (mvO rfl) (Rn (hA h7 (hN rfl (hN rfl (hV (.int .i64 0) rfl hZ)))) fun e8 h10 h11 h12 h13 => sN (bl (Ev.loop (RS := impl_balance_b1_RS a1) (RR := impl_balance_b1_RR a1) (fun s r h e M hs => impl_balance_b1_ok a1 s r h e M hs) hr113 ⟨h10, h11, h12, h13⟩ fun x e115 M116 hq114 => ?_)))))))))))))))))
 clear h3 h6 h7
 obtain ⟨rfl, h118⟩ := hq114
 refine bE (sN (sq (Rg (kx (mvO h118) (kx (mvO rfl) (Rn (hN rfl hZ) fun e119 h121 => sN (xx ?_)))))))
 clear h118
 obtain rfl := si h
 exact eR (resT h121 res0) rfl
/-! ### loop.example/g01263/impl.CheckAccount (f41) -/
noncomputable def impl_CheckAccount (a1 : Account) : Option Bool :=
 (impl_isLetters a1.Title 16).bind fun r5 =>
 if r5 = true then
  (impl_ValidItems a1.Items).bind fun r8 =>
  if r8 = true then
   (impl_balance a1.Items).bind fun r11 =>
   some (a1.Balance == r11)
  else
   some false
 else
  some false
def impl_CheckAccount_enc (r : Bool) : AV := .bool r
theorem impl_CheckAccount_ok (a1 : Account) (r : Bool) (h : impl_CheckAccount a1 = some r) : Ev (fun k => CN k 41 [.agg [.str a1.Title, .sl none (a1.Items.map Item.c), .int .i64 a1.Balance]] []) (fun p => rRes p.2 p.1 = impl_CheckAccount_enc r) := by
 unfold impl_CheckAccount at h
 obtain ⟨r5, hx4, h⟩ := bind_some h
 refine Ev.enter (F := fun k => f41 (CN k) k) (fun k => callN_eq rfl Tryd.func41 rfl rfl rfl (by decide +kernel) (f41_eq _ _)) (sq (Rg (kx (bxI rfl rfl ⟨rfl, rfl, by decide⟩) (kx (mvO rfl) (Rn (hN rfl hZ) fun e1 h3 => sN (sq (Rd (kf (faP h3 ⟨ble rfl, blt rfl⟩ rfl) (kf (ldP rfl rfl) (fc (cl (v := .bool r5) rfl (cns rfl (cns rfl rfl)) rfl (impl_isLetters_ok a1.Title 16 _ hx4) nm) (kf (mvO rfl) ?_)))))))))))
 rcases ite_some h with ⟨hb6, h⟩ | ⟨hb6, h⟩
 ·obtain ⟨r8, hx7, h⟩ := bind_some h
  refine kf (guT rfl hb6 (faP h3 ⟨ble rfl, blt rfl⟩ rfl)) (kf (guT rfl hb6 (ldP rfl rfl)) (fc (Ev.guT rfl hb6 (cl (v := .bool r8) rfl (cns rfl rfl) rfl (impl_ValidItems_ok a1.Items _ hx7) nm)) (kf (pkT rfl hb6 rfl) (kf (mvO rfl) ?_))))
  rcases ite_some h with ⟨hb9, h⟩ | ⟨hb9, h⟩
  ·obtain ⟨r11, hx10, h⟩ := bind_some h
   refine kf (guT rfl hb9 (faP h3 ⟨ble rfl, blt rfl⟩ rfl)) (kf (guT rfl hb9 (ldP rfl rfl)) (kf (guT rfl hb9 (faP h3 ⟨ble rfl, blt rfl⟩ rfl)) (kf (guT rfl hb9 (ldP rfl rfl)) (fc (Ev.guT rfl hb9 (cl (v := .int .i64 r11) rfl (cns rfl rfl) rfl (impl_balance_ok a1.Items _ hx10) nm)) (kf (guT rfl hb9 (bEql rfl rfl)) (kf (pkT rfl hb9 rfl) (kf (mvO rfl) (fZ (Rn (hN rfl hZ) fun e12 h14 => sN (xx ?_))))))))))
   clear h3
   obtain rfl := si h
   exact eR (resT h14 res0) rfl
  refine kf (gsT rfl hb9) (kf (gsT rfl hb9) (kf (gsT rfl hb9) (kf (gsT rfl hb9) (fc (Ev.gsT rfl hb9) (kf (gsT rfl hb9) (kf (pkF rfl hb9 rfl) (kf (mvO rfl) (fZ (Rn (hV (.bool false) rfl hZ) fun e15 h17 => sN (xx ?_))))))))))
  clear h3
  obtain rfl := si h
  exact eR (resT h17 res0) rfl
 refine kf (gsT rfl hb6) (kf (gsT rfl hb6) (fc (Ev.gsT rfl hb6) (kf (pkF rfl hb6 rfl) (kf (mvO rfl) (kf (gsT rfl rfl) (kf (gsT rfl rfl) (kf (gsT rfl rfl) (kf (gsT rfl rfl) (fc (Ev.gsT rfl rfl) (kf (gsT rfl rfl) (kf (pkF rfl rfl rfl) (kf (mvO rfl) (fZ (Rn (hV (.bool false) rfl hZ) fun e18 h20 => sN (xx ?_)))))))))))))))
 clear h3
 obtain rfl := si h
 exact eR (resT h20 res0) rfl
/-! ### loop.example/g01263/impl.FirstFault (f95) -/
abbrev impl_FirstFault_b1_S := Int
abbrev impl_FirstFault_b1_R := Int ⊕ Unit
def impl_FirstFault_b1_RS (a1 : Roll) (s : impl_FirstFault_b1_S) (e : Env) (M : Mem) : Prop := eget e 1 = .pt none [.sl none (a1.Accounts.map Account.c), .int .i64 a1.Owed] ∧ eget e 11 = .sl none (a1.Accounts.map Account.c) ∧ eget e 12 = .int .i64 (a1.Accounts.length : Int) ∧ eget e 13 = .int .i64 s
def impl_FirstFault_b1_RR (a1 : Roll) (r : impl_FirstFault_b1_R) (x : Ex) (e : Env) (M : Mem) : Prop :=
  match r with
  | (.inl g) => x = .ret ∧ eget e 2 = .int .i64 g ∧ eget e 3 = .int .i64 0
  | (.inr g) => x = .ext 0 ∧ eget e 1 = .pt none [.sl none (a1.Accounts.map Account.c), .int .i64 a1.Owed]
noncomputable def impl_FirstFault_b1 (a1 : Roll) : impl_FirstFault_b1_S → Option (impl_FirstFault_b1_S ⊕ impl_FirstFault_b1_R) := fun s1_1 =>
 if (decide (s1_1 < (a1.Accounts.length : Int))) = true then
  (rd a1.Accounts s1_1).bind fun x47 =>
  (impl_CheckAccount x47).bind fun r65 =>
  if r65 = true then
   (slc a1.Accounts 0 s1_1).bind fun x67 =>
   (impl_hasTitle x67 x47.Title).bind fun r70 =>
   if r70 = true then
    some (.inr (.inl s1_1))
   else
    some (.inl (IntKind.i64.wrap (s1_1 + 1)))
  else
   some (.inr (.inl s1_1))
 else
  some (.inr (.inr ()))
theorem impl_FirstFault_b1_ok (a1 : Roll) (s : impl_FirstFault_b1_S) (r : impl_FirstFault_b1_S ⊕ impl_FirstFault_b1_R) (h : impl_FirstFault_b1 a1 s = some r) (e : Env) (M : Mem) (hs : impl_FirstFault_b1_RS a1 s e M) : Ev (fun k => (f95_l4 (CN k) k (prune [1, 11, 12, 13] e) M).bind fun q => some q) (bQ (impl_FirstFault_b1_RS a1) (impl_FirstFault_b1_RR a1) r) := by
 revert h hs
 revert s
 intro s1_1 h hs
 unfold impl_FirstFault_b1 at h
 obtain ⟨h31, h33, h35, h37⟩ := hs
 generalize he30 : prune [1, 11, 12, 13] e = e29
 have h32 := envp he30.symm rfl h31
 have h34 := envp he30.symm rfl h33
 have h36 := envp he30.symm rfl h35
 have h38 := envp he30.symm rfl h37
 refine sq (Rg (kx (bLss h38 h36) (Rn (hV (.pt none [.sl none (a1.Accounts.map Account.c), .int .i64 a1.Owed]) h32 (hV (.sl none (a1.Accounts.map Account.c)) h34 (hV (.int .i64 (a1.Accounts.length : Int)) h36 (hV (.int .i64 s1_1) h38 (hN rfl hZ))))) fun e39 h41 h42 h43 h44 h45 => sN (sq ?_))))
 clear h32 h34 h36 h38
 rcases ite_some h with ⟨hb46, h⟩ | ⟨hb46, h⟩
 ·obtain ⟨x47, hx48, h⟩ := bind_some h
  refine cT h45 hb46 (xx (sN (sq (bl (sq (Rg (kx (mvO h44) (kx (ixS h42 h44 hx48 Account.fl) (kx (ldPA rfl rfl rfl) (ku (alO zero29) fun M50 hM51 => ?_))))))))))
  have o52 : M50[M.length]? = some (.live ⟨.box, 29, 3, [[.str ([] : List UInt8), .nils, .int .i64 0]]⟩) := push_new hM51
  refine kx (mvO rfl) (kw (stO rfl rfl o52 rfl rfl ⟨rfl, ble rfl⟩ rfl rfl) fun M53 hM54 => ?_)
  have o55 : M53[M.length]? = some (.live ⟨.box, 29, 3, [[.str x47.Title, .sl none (x47.Items.map Item.c), .int .i64 x47.Balance]]⟩) := set_same hM54 o52
  obtain ⟨r65, hx64, h⟩ := bind_some h
  refine Rn (hA h41 (hN rfl (hV (.loc M.length 1 0 0) rfl (hA h42 (hA h43 (hA h44 hZ)))))) fun e56 h58 h59 h60 h61 h62 h63 => sN (sq (Rd (kf (ldOA h60 o55 rfl rfl (ble rfl) rfl) (fc (cl (v := .bool r65) rfl (cns rfl rfl) rfl (impl_CheckAccount_ok x47 _ hx64) nm) (kf (uNot rfl) (kf (mvO rfl) ?_))))))
  clear h41 h42 h43 h44 h45
  rcases ite_some h with ⟨hb66, h⟩ | ⟨hb66, h⟩
  ·obtain ⟨x67, hx68, h⟩ := bind_some h
   obtain ⟨r70, hx69, h⟩ := bind_some h
   refine kf (guF rfl (congrArg Bool.not hb66) (faP h58 ⟨ble rfl, blt rfl⟩ rfl)) (kf (guF rfl (congrArg Bool.not hb66) (ldP rfl rfl)) (kf (guF rfl (congrArg Bool.not hb66) (mvO h59)) (kf (guF rfl (congrArg Bool.not hb66) (slS rfl rfl (bnd1 rfl) hx68 Account.fl)) (kf (guF rfl (congrArg Bool.not hb66) (faO h60 o55 rfl)) (kf (guF rfl (congrArg Bool.not hb66) (ldO rfl o55 rfl rfl rfl)) (fc (Ev.guF rfl (congrArg Bool.not hb66) (cl (v := .bool r70) rfl (cns rfl (cns rfl rfl)) rfl (impl_hasTitle_ok x67 x47.Title _ hx69) nm)) (kf (pkF rfl (congrArg Bool.not hb66) rfl) (fZ (Rn (hA h58 (hA h59 (hA h61 (hA h62 (hA h63 (hN rfl hZ)))))) fun e71 h73 h74 h75 h76 h77 h78 => sN ?_)))))))))
   clear h58 h59 h60 h61 h62 h63
   rcases ite_some h with ⟨hb79, h⟩ | ⟨hb79, h⟩
   ·refine cT h78 hb79 (sq (Rg (kx (mvO h74) (kx (mvO rfl) (kx (mvO rfl) (Rn (hN rfl (hV (.int .i64 0) rfl hZ)) fun e80 h82 h83 => sN (xx (bR (sR ?_)))))))))
    clear h73 h74 h75 h76 h77 h78
    obtain rfl := si h
    exact qR ⟨rfl, h82, h83⟩
   refine cF h78 hb79 (xx (bN (sN (Rg (kx (bAdd h77 rfl) (kx (mvO rfl) (Rn (hA h73 (hA h75 (hA h76 (hN rfl hZ)))) fun e84 h86 h87 h88 h89 => ?_)))))))
   clear h73 h74 h75 h76 h78
   obtain rfl := si h
   exact qN ⟨h86, h87, h88, h89⟩
  refine kf (gsF rfl (congrArg Bool.not hb66)) (kf (gsF rfl (congrArg Bool.not hb66)) (kf (gsF rfl (congrArg Bool.not hb66)) (kf (gsF rfl (congrArg Bool.not hb66)) (kf (gsF rfl (congrArg Bool.not hb66)) (kf (gsF rfl (congrArg Bool.not hb66)) (fc (Ev.gsF rfl (congrArg Bool.not hb66)) (kf (pkT rfl (congrArg Bool.not hb66) rfl) (fZ (Rn (hA h58 (hA h59 (hA h61 (hA h62 (hA h63 (hV (.bool true) rfl hZ)))))) fun e90 h92 h93 h94 h95 h96 h97 => sN (cT h97 rfl (sq (Rg (kx (mvO h93) (kx (mvO rfl) (kx (mvO rfl) (Rn (hN rfl (hV (.int .i64 0) rfl hZ)) fun e98 h100 h101 => sN (xx (bR (sR ?_)))))))))))))))))))
  clear h58 h59 h60 h61 h62 h63 h92 h93 h94 h95 h96 h97
  obtain rfl := si h
  exact qR ⟨rfl, h100, h101⟩
 refine cF h45 hb46 (xx (sE ?_))
 obtain rfl := si h
 exact qE ⟨rfl, h41⟩
noncomputable def impl_FirstFault (a1 : Roll) : Option (Int × Int) :=
 if (decide ((a1.Accounts.length : Int) > 20)) = true then
  some (0, 3)
 else
  (Lw (impl_FirstFault_b1 a1) 0).bind fun r => match r with
  | (.inl y107) =>
   some (y107, 0)
  | (.inr _) =>
   (impl_owed a1.Accounts).bind fun r114 =>
   if (a1.Owed != r114) = true then
    some ((a1.Accounts.length : Int), 0)
   else
    some (0, 6)
def impl_FirstFault_enc (r : Int × Int) : AV := .tup [.int .i64 r.1, .int .i64 r.2]
theorem impl_FirstFault_ok (a1 : Roll) (r : Int × Int) (h : impl_FirstFault a1 = some r) : Ev (fun k => CN k 95 [.agg [.sl none (a1.Accounts.map Account.c), .int .i64 a1.Owed]] []) (fun p => rRes p.2 p.1 = impl_FirstFault_enc r) := by
 unfold impl_FirstFault at h
 refine Ev.enter (F := fun k => f95 (CN k) k) (fun k => callN_eq rfl Tryd.func95 rfl rfl rfl (by decide +kernel) (f95_eq _ _)) (sq (Rg (kx (bxI rfl rfl ⟨rfl, rfl, by decide⟩) (kx (mvO rfl) (kx (mvO rfl) (Rn (hN rfl hZ) fun e1 h3 => sN (sq (sq (Rg (kx (faP h3 ⟨ble rfl, blt rfl⟩ rfl) (kx (ldP rfl rfl) (kx (lnS Tryd.underlying38 rfl) (kx (bGtr rfl rfl) (Rn (hA h3 (hN rfl hZ)) fun e4 h6 h7 => sN ?_))))))))))))))
 clear h3
 rcases ite_some h with ⟨hb8, h⟩ | ⟨hb8, h⟩
 ·refine cT h7 hb8 (sq (Rg (kx (mvO rfl) (kx (mvO rfl) (Rn (hV (.int .i64 0) rfl (hV (.int .i64 3) rfl hZ)) fun e9 h11 h12 => sN (xx (sR ?_)))))))
  clear h6 h7
  obtain rfl := si h
  exact eR (resT h11 (resT h12 res0)) rfl
 obtain ⟨r102, hr103, h⟩ := bind_some h
 refine cF h7 hb8 (xx (sN (sq (sq (Rg (kx (faP h6 ⟨ble rfl, blt rfl⟩ rfl) (kx (ldP rfl rfl) (kx (lnS Tryd.underlying38 rfl) (kx (mvO rfl) (Rn (hA h6 (hN rfl (hN rfl (hV (.int .i64 0) rfl hZ)))) fun e13 h15 h16 h17 h18 => sN (bl ?_)))))))))))
 clear h6 h7
 rcases r102 with y107 | _
 ·refine Ev.loop (RS := impl_FirstFault_b1_RS a1) (RR := impl_FirstFault_b1_RR a1) (fun s r h e M hs => impl_FirstFault_b1_ok a1 s r h e M hs) hr103 ⟨h15, h16, h17, h18⟩ fun x e105 M106 hq104 => ?_
  obtain ⟨rfl, h108, h109⟩ := hq104
  refine bR (sR ?_)
  obtain rfl := si h
  exact eR (resT h108 (resT h109 res0)) rfl
 refine Ev.loop (RS := impl_FirstFault_b1_RS a1) (RR := impl_FirstFault_b1_RR a1) (fun s r h e M hs => impl_FirstFault_b1_ok a1 s r h e M hs) hr103 ⟨h15, h16, h17, h18⟩ fun x e110 M111 hq104 => ?_
 obtain ⟨rfl, h112⟩ := hq104
 obtain ⟨r114, hx113, h⟩ := bind_some h
 refine bE (sN (sq (sq (Rd (kf (faP h112 ⟨ble rfl, blt rfl⟩ rfl) (kf (ldP rfl rfl) (kf (faP h112 ⟨ble rfl, blt rfl⟩ rfl) (kf (ldP rfl rfl) (fc (cl (v := .int .i64 r114) rfl (cns rfl rfl) rfl (impl_owed_ok a1.Accounts _ hx113) nm) (kf (bNeq rfl rfl) (fZ (Rn (hV (.pt none [.sl none (a1.Accounts.map Account.c), .int .i64 a1.Owed]) h112 (hN rfl hZ)) fun e115 h117 h118 => sN ?_))))))))))))
 clear h112
 rcases ite_some h with ⟨hb119, h⟩ | ⟨hb119, h⟩
 ·refine cT h118 hb119 (sq (Rg (kx (faP h117 ⟨ble rfl, blt rfl⟩ rfl) (kx (ldP rfl rfl) (kx (lnS Tryd.underlying38 rfl) (kx (mvO rfl) (kx (mvO rfl) (Rn (hN rfl (hV (.int .i64 0) rfl hZ)) fun e120 h122 h123 => sN (xx (sR ?_))))))))))
  clear h117 h118
  obtain rfl := si h
  exact eR (resT h122 (resT h123 res0)) rfl
 refine cF h118 hb119 (xx (sN (sq (Rg (kx (mvO rfl) (kx (mvO rfl) (Rn (hV (.int .i64 0) rfl (hV (.int .i64 6) rfl hZ)) fun e124 h126 h127 => sN (xx ?_))))))))
 clear h117 h118
 obtain rfl := si h
 exact eR (resT h126 (resT h127 res0)) rfl
/-! ### loop.example/g01263/spec.l01Part (f94) -/
noncomputable def spec_l01Part (a1 : List UInt8) (a2 : Int) (a3 : List UInt8) : Option ((List UInt8)) :=
 if (a2 == 0) = true then
  some a1
 else
  if (a1 == ([] : List UInt8)) = true then
   (spec_Decimal a2).bind fun r24 =>
   (sadd a1 r24).bind fun w25 =>
   (sadd w25 a3).bind fun w27 =>
   some w27
  else
   (sadd a1 ([32] : List UInt8)).bind fun w32 =>
   (spec_Decimal a2).bind fun r40 =>
   (sadd w32 r40).bind fun w41 =>
   (sadd w41 a3).bind fun w43 =>
   some w43
def spec_l01Part_enc (r : (List UInt8)) : AV := .str r
theorem spec_l01Part_ok (a1 : List UInt8) (a2 : Int) (a3 : List UInt8) (r : (List UInt8)) (h : spec_l01Part a1 a2 a3 = some r) : Ev (fun k => CN k 94 [.str a1, .int .i64 a2, .str a3] []) (fun p => rRes p.2 p.1 = spec_l01Part_enc r) := by
 unfold spec_l01Part at h
 refine Ev.enter (F := fun k => f94 (CN k) k) (fun k => callN_eq rfl Tryd.func94 rfl rfl rfl (by decide +kernel) (f94_eq _ _)) (sq (Rg (kx (mvO rfl) (Rn (hN rfl (hN rfl (hN rfl hZ))) fun e1 h3 h4 h5 => sN (sq (sq (Rg (kx (mvO h4) (kx (bEql rfl rfl) (Rn (hA h3 (hA h4 (hA h5 (hN rfl hZ)))) fun e6 h8 h9 h10 h11 => sN ?_))))))))))
 clear h3 h4 h5
 rcases ite_some h with ⟨hb12, h⟩ | ⟨hb12, h⟩
 ·refine cT h11 hb12 (sq (Rg (kx (mvO h8) (kx (mvO rfl) (Rn (hN rfl hZ) fun e13 h15 => sN (xx (sR ?_)))))))
  clear h10 h11 h8 h9
  obtain rfl := si h
  exact eR (resT h15 res0) rfl
 refine cF h11 hb12 (xx (sN (sq (sq (Rg (kx (mvO h8) (kx (sNeq rfl rfl) (Rn (hA h8 (hA h9 (hA h10 (hN rfl hZ)))) fun e16 h18 h19 h20 h21 => sN ?_))))))))
 clear h10 h11 h8 h9
 rcases ite_some h with ⟨hb22, h⟩ | ⟨hb22, h⟩
 ·obtain ⟨r24, hx23, h⟩ := bind_some h
  obtain ⟨w25, hx26, h⟩ := bind_some h
  obtain ⟨w27, hx28, h⟩ := bind_some h
  refine cF h21 (congrArg Bool.not hb22) (xx (sN (sq (Rg (kx (mvO h18) (kx (mvO h19) (kc (cl (v := .str r24) rfl (cns rfl rfl) rfl (spec_Decimal_ok a2 _ hx23) nm) (kx (sAdd rfl rfl hx26) (kx (mvO h20) (kx (sAdd rfl rfl hx28) (kx (mvO rfl) (Rn (hN rfl hZ) fun e29 h31 => sN (xx ?_)))))))))))))
  clear h18 h19 h20 h21
  obtain rfl := si h
  exact eR (resT h31 res0) rfl
 obtain ⟨w32, hx33, h⟩ := bind_some h
 obtain ⟨r40, hx39, h⟩ := bind_some h
 obtain ⟨w41, hx42, h⟩ := bind_some h
 obtain ⟨w43, hx44, h⟩ := bind_some h
 refine cT h21 (congrArg Bool.not hb22) (Rg (kx (mvO h18) (kx (sAdd rfl rfl hx33) (kx (mvO rfl) (Rn (hN rfl (hA h19 (hA h20 hZ))) fun e34 h36 h37 h38 => sN (sq (Rg (kx (mvO h36) (kx (mvO h37) (kc (cl (v := .str r40) rfl (cns rfl rfl) rfl (spec_Decimal_ok a2 _ hx39) nm) (kx (sAdd rfl rfl hx42) (kx (mvO h38) (kx (sAdd rfl rfl hx44) (kx (mvO rfl) (Rn (hN rfl hZ) fun e45 h47 => sN (xx ?_))))))))))))))))
 clear h19 h20 h21 h36 h37 h38
 obtain rfl := si h
 exact eR (resT h47 res0) rfl
/-! ### loop.example/g01263/spec.l05Right (f83) -/
noncomputable def spec_l05Right (a1 : Account) : Option Bool :=
 (spec_l05Title a1.Title).bind fun r5 =>
 if r5 = true then
  (spec_l05Items a1.Items).bind fun r8 =>
  if r8 = true then
   (spec_l05Balance a1.Items).bind fun r11 =>
   some (a1.Balance == r11)
  else
   some false
 else
  some false
def spec_l05Right_enc (r : Bool) : AV := .bool r
theorem spec_l05Right_ok (a1 : Account) (r : Bool) (h : spec_l05Right a1 = some r) : Ev (fun k => CN k 83 [.pt none [.str a1.Title, .sl none (a1.Items.map Item.c), .int .i64 a1.Balance]] []) (fun p => rRes p.2 p.1 = spec_l05Right_enc r) := by
 unfold spec_l05Right at h
 obtain ⟨r5, hx4, h⟩ := bind_some h
 refine Ev.enter (F := fun k => f83 (CN k) k) (fun k => callN_eq rfl Tryd.func83 rfl rfl rfl (by decide +kernel) (f83_eq _ _)) (sq (Rg (kx (mvO rfl) (Rn (hN rfl hZ) fun e1 h3 => sN (sq (Rd (kf (mvO h3) (kf (ncP rfl) (kf (faP rfl ⟨ble rfl, blt rfl⟩ rfl) (kf (ldP rfl rfl) (fc (cl (v := .bool r5) rfl (cns rfl rfl) rfl (spec_l05Title_ok a1.Title _ hx4) nm) (kf (mvO rfl) ?_))))))))))))
 rcases ite_some h with ⟨hb6, h⟩ | ⟨hb6, h⟩
 ·obtain ⟨r8, hx7, h⟩ := bind_some h
  refine kf (guT rfl hb6 (mvO h3)) (kf (guT rfl hb6 (ncP rfl)) (kf (guT rfl hb6 (faP rfl ⟨ble rfl, blt rfl⟩ rfl)) (kf (guT rfl hb6 (ldP rfl rfl)) (fc (Ev.guT rfl hb6 (cl (v := .bool r8) rfl (cns rfl rfl) rfl (spec_l05Items_ok a1.Items _ hx7) nm)) (kf (pkT rfl hb6 rfl) (kf (mvO rfl) ?_))))))
  rcases ite_some h with ⟨hb9, h⟩ | ⟨hb9, h⟩
  ·obtain ⟨r11, hx10, h⟩ := bind_some h
   refine kf (guT rfl hb9 (mvO h3)) (kf (guT rfl hb9 (ncP rfl)) (kf (guT rfl hb9 (faP rfl ⟨ble rfl, blt rfl⟩ rfl)) (kf (guT rfl hb9 (ldP rfl rfl)) (kf (guT rfl hb9 (mvO h3)) (kf (guT rfl hb9 (ncP rfl)) (kf (guT rfl hb9 (faP rfl ⟨ble rfl, blt rfl⟩ rfl)) (kf (guT rfl hb9 (ldP rfl rfl)) (fc (Ev.guT rfl hb9 (cl (v := .int .i64 r11) rfl (cns rfl rfl) rfl (spec_l05Balance_ok a1.Items _ hx10) nm)) (kf (guT rfl hb9 (bEql rfl rfl)) (kf (pkT rfl hb9 rfl) (kf (mvO rfl) (fZ (Rn (hN rfl hZ) fun e12 h14 => sN (xx ?_))))))))))))))
   clear h3
   obtain rfl := si h
   exact eR (resT h14 res0) rfl
  refine kf (gsT rfl hb9) (kf (gsT rfl hb9) (kf (gsT rfl hb9) (kf (gsT rfl hb9) (kf (gsT rfl hb9) (kf (gsT rfl hb9) (kf (gsT rfl hb9) (kf (gsT rfl hb9) (fc (Ev.gsT rfl hb9) (kf (gsT rfl hb9) (kf (pkF rfl hb9 rfl) (kf (mvO rfl) (fZ (Rn (hV (.bool false) rfl hZ) fun e15 h17 => sN (xx ?_))))))))))))))
  clear h3
  obtain rfl := si h
  exact eR (resT h17 res0) rfl
 refine kf (gsT rfl hb6) (kf (gsT rfl hb6) (kf (gsT rfl hb6) (kf (gsT rfl hb6) (fc (Ev.gsT rfl hb6) (kf (pkF rfl hb6 rfl) (kf (mvO rfl) (kf (gsT rfl rfl) (kf (gsT rfl rfl) (kf (gsT rfl rfl) (kf (gsT rfl rfl) (kf (gsT rfl rfl) (kf (gsT rfl rfl) (kf (gsT rfl rfl) (kf (gsT rfl rfl) (fc (Ev.gsT rfl rfl) (kf (gsT rfl rfl) (kf (pkF rfl rfl rfl) (kf (mvO rfl) (fZ (Rn (hV (.bool false) rfl hZ) fun e18 h20 => sN (xx ?_)))))))))))))))))))))
 clear h3
 obtain rfl := si h
 exact eR (resT h20 res0) rfl
/-! ### loop.example/g01263/spec.l05Fault (f93) -/
abbrev spec_l05Fault_b1_S := Int
abbrev spec_l05Fault_b1_R := Int ⊕ Unit
def spec_l05Fault_b1_RS (a1 : Roll) (s : spec_l05Fault_b1_S) (e : Env) (M : Mem) : Prop := eget e 0 = .pt none [.sl none (a1.Accounts.map Account.c), .int .i64 a1.Owed] ∧ eget e 3 = .int .i64 s
def spec_l05Fault_b1_RR (a1 : Roll) (r : spec_l05Fault_b1_R) (x : Ex) (e : Env) (M : Mem) : Prop :=
  match r with
  | (.inl g) => x = .ret ∧ eget e 2 = .int .i64 g
  | (.inr g) => x = .ext 0 ∧ eget e 0 = .pt none [.sl none (a1.Accounts.map Account.c), .int .i64 a1.Owed]
noncomputable def spec_l05Fault_b1 (a1 : Roll) : spec_l05Fault_b1_S → Option (spec_l05Fault_b1_S ⊕ spec_l05Fault_b1_R) := fun s1_1 =>
 if (decide (s1_1 < (a1.Accounts.length : Int))) = true then
  (rd a1.Accounts s1_1).bind fun x26 =>
  (spec_l05Right x26).bind fun r29 =>
  if r29 = true then
   (spec_l05Twin a1.Accounts s1_1).bind fun r32 =>
   if r32 = true then
    some (.inr (.inl s1_1))
   else
    some (.inl (IntKind.i64.wrap (s1_1 + 1)))
  else
   some (.inr (.inl s1_1))
 else
  some (.inr (.inr ()))
theorem spec_l05Fault_b1_ok (a1 : Roll) (s : spec_l05Fault_b1_S) (r : spec_l05Fault_b1_S ⊕ spec_l05Fault_b1_R) (h : spec_l05Fault_b1 a1 s = some r) (e : Env) (M : Mem) (hs : spec_l05Fault_b1_RS a1 s e M) : Ev (fun k => (f93_l2 (CN k) k (prune [0, 3] e) M).bind fun q => some q) (bQ (spec_l05Fault_b1_RS a1) (spec_l05Fault_b1_RR a1) r) := by
 revert h hs
 revert s
 intro s1_1 h hs
 unfold spec_l05Fault_b1 at h
 obtain ⟨h16, h18⟩ := hs
 generalize he15 : prune [0, 3] e = e14
 have h17 := envp he15.symm rfl h16
 have h19 := envp he15.symm rfl h18
 refine sq (sq (Rg (kx (mvO h19) (kx (mvO h17) (kx (ncP rfl) (kx (faP rfl ⟨ble rfl, blt rfl⟩ rfl) (kx (ldP rfl rfl) (kx (lnS Tryd.underlying38 rfl) (kx (bLss rfl rfl) (Rn (hV (.pt none [.sl none (a1.Accounts.map Account.c), .int .i64 a1.Owed]) h17 (hV (.int .i64 s1_1) h19 (hN rfl hZ))) fun e20 h22 h23 h24 => sN ?_))))))))))
 clear h17 h19
 rcases ite_some h with ⟨hb25, h⟩ | ⟨hb25, h⟩
 ·obtain ⟨x26, hx27, h⟩ := bind_some h
  obtain ⟨r29, hx28, h⟩ := bind_some h
  refine cT h24 hb25 (xx (sN (sq (bl (sq (Rg (kx (mvO h22) (kx (ncP rfl) (kx (faP rfl ⟨ble rfl, blt rfl⟩ rfl) (kx (ldP rfl rfl) (kx (mvO h23) (kx (ixS rfl rfl hx27 Account.fl) (kc (cl (v := .bool r29) rfl (cns rfl rfl) rfl (spec_l05Right_ok x26 _ hx28) nm) (kx (uNot rfl) (kx (mvO rfl) ?_)))))))))))))))
  rcases ite_some h with ⟨hb30, h⟩ | ⟨hb30, h⟩
  ·obtain ⟨r32, hx31, h⟩ := bind_some h
   refine kx (guF rfl (congrArg Bool.not hb30) (mvO h22)) (kx (guF rfl (congrArg Bool.not hb30) (ncP rfl)) (kx (guF rfl (congrArg Bool.not hb30) (faP rfl ⟨ble rfl, blt rfl⟩ rfl)) (kx (guF rfl (congrArg Bool.not hb30) (ldP rfl rfl)) (kx (guF rfl (congrArg Bool.not hb30) (mvO h23)) (kc (Ev.guF rfl (congrArg Bool.not hb30) (cl (v := .bool r32) rfl (cns rfl (cns rfl rfl)) rfl (spec_l05Twin_ok a1.Accounts s1_1 _ hx31) nm)) (kx (pkF rfl (congrArg Bool.not hb30) rfl) (Rn (hA h22 (hA h23 (hN rfl hZ))) fun e33 h35 h36 h37 => sN ?_)))))))
   clear h22 h23 h24
   rcases ite_some h with ⟨hb38, h⟩ | ⟨hb38, h⟩
   ·refine cT h37 hb38 (sq (Rg (kx (mvO h36) (kx (mvO rfl) (Rn (hN rfl hZ) fun e39 h41 => sN (xx (bR (sR ?_))))))))
    clear h35 h36 h37
    obtain rfl := si h
    exact qR ⟨rfl, h41⟩
   refine cF h37 hb38 (xx (bN (sN (Rg (kx (mvO h36) (kx (bAdd rfl rfl) (kx (mvO rfl) (Rn (hA h35 (hN rfl hZ)) fun e42 h44 h45 => ?_))))))))
   clear h35 h37
   obtain rfl := si h
   exact qN ⟨h44, h45⟩
  refine kx (gsF rfl (congrArg Bool.not hb30)) (kx (gsF rfl (congrArg Bool.not hb30)) (kx (gsF rfl (congrArg Bool.not hb30)) (kx (gsF rfl (congrArg Bool.not hb30)) (kx (gsF rfl (congrArg Bool.not hb30)) (kc (Ev.gsF rfl (congrArg Bool.not hb30)) (kx (pkT rfl (congrArg Bool.not hb30) rfl) (Rn (hA h22 (hA h23 (hV (.bool true) rfl hZ))) fun e46 h48 h49 h50 => sN (cT h50 rfl (sq (Rg (kx (mvO h49) (kx (mvO rfl) (Rn (hN rfl hZ) fun e51 h53 => sN (xx (bR (sR ?_))))))))))))))))
  clear h22 h23 h24 h48 h49 h50
  obtain rfl := si h
  exact qR ⟨rfl, h53⟩
 refine cF h24 hb25 (xx (sE ?_))
 obtain rfl := si h
 exact qE ⟨rfl, h22⟩
noncomputable def spec_l05Fault (a1 : Roll) : Option Int :=
 (Lw (spec_l05Fault_b1 a1) 0).bind fun r => match r with
 | (.inl y59) =>
  some y59
 | (.inr _) =>
  (spec_l05Owed a1.Accounts).bind fun r65 =>
  if (a1.Owed != r65) = true then
   some (a1.Accounts.length : Int)
  else
   some (-1)
def spec_l05Fault_enc (r : Int) : AV := .int .i64 r
theorem spec_l05Fault_ok (a1 : Roll) (r : Int) (h : spec_l05Fault a1 = some r) : Ev (fun k => CN k 93 [.pt none [.sl none (a1.Accounts.map Account.c), .int .i64 a1.Owed]] []) (fun p => rRes p.2 p.1 = spec_l05Fault_enc r) := by
 unfold spec_l05Fault at h
 obtain ⟨r54, hr55, h⟩ := bind_some h
 refine Ev.enter (F := fun k => f93 (CN k) k) (fun k => callN_eq rfl Tryd.func93 rfl rfl rfl (by decide +kernel) (f93_eq _ _)) (sq (Rg (kx (mvO rfl) (Rn (hN rfl hZ) fun e1 h3 => sN (sq (sq (Rg (kx (mvO rfl) (Rn (hA h3 (hV (.int .i64 0) rfl hZ)) fun e4 h6 h7 => sN (bl ?_))))))))))
 clear h3
 rcases r54 with y59 | _
 ·refine Ev.loop (RS := spec_l05Fault_b1_RS a1) (RR := spec_l05Fault_b1_RR a1) (fun s r h e M hs => spec_l05Fault_b1_ok a1 s r h e M hs) hr55 ⟨h6, h7⟩ fun x e57 M58 hq56 => ?_
  obtain ⟨rfl, h60⟩ := hq56
  refine bR (sR ?_)
  obtain rfl := si h
  exact eR (resT h60 res0) rfl
 refine Ev.loop (RS := spec_l05Fault_b1_RS a1) (RR := spec_l05Fault_b1_RR a1) (fun s r h e M hs => spec_l05Fault_b1_ok a1 s r h e M hs) hr55 ⟨h6, h7⟩ fun x e61 M62 hq56 => ?_
 obtain ⟨rfl, h63⟩ := hq56
 obtain ⟨r65, hx64, h⟩ := bind_some h
 refine bE (sN (sq (sq (Rd (kf (mvO h63) (kf (ncP rfl) (kf (faP rfl ⟨ble rfl, blt rfl⟩ rfl) (kf (ldP rfl rfl) (kf (mvO h63) (kf (ncP rfl) (kf (faP rfl ⟨ble rfl, blt rfl⟩ rfl) (kf (ldP rfl rfl) (fc (cl (v := .int .i64 r65) rfl (cns rfl rfl) rfl (spec_l05Owed_ok a1.Accounts _ hx64) nm) (kf (bNeq rfl rfl) (fZ (Rn (hV (.pt none [.sl none (a1.Accounts.map Account.c), .int .i64 a1.Owed]) h63 (hN rfl hZ)) fun e66 h68 h69 => sN ?_))))))))))))))))
 clear h63
 rcases ite_some h with ⟨hb70, h⟩ | ⟨hb70, h⟩
 ·refine cT h69 hb70 (sq (Rg (kx (mvO h68) (kx (ncP rfl) (kx (faP rfl ⟨ble rfl, blt rfl⟩ rfl) (kx (ldP rfl rfl) (kx (lnS Tryd.underlying38 rfl) (kx (mvO rfl) (Rn (hN rfl hZ) fun e71 h73 => sN (xx (sR ?_)))))))))))
  clear h68 h69
  obtain rfl := si h
  exact eR (resT h73 res0) rfl
 refine cF h69 hb70 (xx (sN (sq (Rg (kx (mvO rfl) (Rn (hV (.int .i64 (-1)) rfl hZ) fun e74 h76 => sN (xx ?_)))))))
 clear h68 h69
 obtain rfl := si h
 exact eR (resT h76 res0) rfl
/-! ### loop.example/g01263/laws.eqItem (f92) -/
noncomputable def laws_eqItem (a1 : Item) (a2 : Item) : Option Bool :=
 if (a1.Kind != a2.Kind) = true then
  some false
 else
  if (a1.Amount != a2.Amount) = true then
   some false
  else
   some true
def laws_eqItem_enc (r : Bool) : AV := .bool r
theorem laws_eqItem_ok (a1 : Item) (a2 : Item) (r : Bool) (h : laws_eqItem a1 a2 = some r) : Ev (fun k => CN k 92 [.agg [.int .i8 a1.Kind, .int .i64 a1.Amount], .agg [.int .i8 a2.Kind, .int .i64 a2.Amount]] []) (fun p => rRes p.2 p.1 = laws_eqItem_enc r) := by
 unfold laws_eqItem at h
 refine Ev.enter (F := fun k => f92 (CN k) k) (fun k => callN_eq rfl Tryd.func92 rfl rfl rfl (by decide +kernel) (f92_eq _ _)) (sq (Rg (kx (bxI rfl rfl ⟨rfl, rfl, by decide⟩) (kx (bxI rfl rfl ⟨rfl, rfl, by decide⟩) (kx (mvO rfl) (Rn (hN rfl (hN rfl hZ)) fun e1 h3 h4 => sN (sq (sq (Rg (kx (faP h3 ⟨ble rfl, blt rfl⟩ rfl) (kx (ldP rfl rfl) (kx (faP h4 ⟨ble rfl, blt rfl⟩ rfl) (kx (ldP rfl rfl) (kx (bNeq rfl rfl) (Rn (hA h3 (hA h4 (hN rfl hZ))) fun e5 h7 h8 h9 => sN ?_)))))))))))))))
 clear h3 h4
 rcases ite_some h with ⟨hb10, h⟩ | ⟨hb10, h⟩
 ·refine cT h9 hb10 (sq (Rg (kx (mvO rfl) (Rn (hV (.bool false) rfl hZ) fun e11 h13 => sN (xx (sR ?_))))))
  clear h7 h8 h9
  obtain rfl := si h
  exact eR (resT h13 res0) rfl
 refine cF h9 hb10 (xx (sN (sq (sq (Rg (kx (faP h7 ⟨ble rfl, blt rfl⟩ rfl) (kx (ldP rfl rfl) (kx (faP h8 ⟨ble rfl, blt rfl⟩ rfl) (kx (ldP rfl rfl) (kx (bNeq rfl rfl) (Rn (hN rfl hZ) fun e14 h16 => sN ?_)))))))))))
 clear h7 h8 h9
 rcases ite_some h with ⟨hb17, h⟩ | ⟨hb17, h⟩
 ·refine cT h16 hb17 (sq (Rg (kx (mvO rfl) (Rn (hV (.bool false) rfl hZ) fun e18 h20 => sN (xx (sR ?_))))))
  clear h16
  obtain rfl := si h
  exact eR (resT h20 res0) rfl
 refine cF h16 hb17 (xx (sN (sq (Rg (kx (mvO rfl) (Rn (hV (.bool true) rfl hZ) fun e21 h23 => sN (xx ?_)))))))
 clear h16
 obtain rfl := si h
 exact eR (resT h23 res0) rfl
/-! ### strconv.FormatInt (f133), by its contract -/
noncomputable def strconv_FormatInt (a1 : Int) (a2 : Int) : Option ((List UInt8)) := fmtI a1 a2
def strconv_FormatInt_enc (r : (List UInt8)) : AV := .str r
theorem strconv_FormatInt_ok (a1 : Int) (a2 : Int) (r : (List UInt8)) (h : strconv_FormatInt a1 a2 = some r) : Ev (fun k => CN k 133 [.int .i64 a1, .int .i64 a2] []) (fun p => rRes p.2 p.1 = strconv_FormatInt_enc r) := Ev.lib rfl rfl (lib_fmt h) rfl
/-! ### loop.example/g01263/impl.decimal (f90) -/
noncomputable def impl_decimal (a1 : Int) : Option ((List UInt8)) :=
 (strconv_FormatInt a1 10).bind fun r5 =>
 some r5
def impl_decimal_enc (r : (List UInt8)) : AV := .str r
theorem impl_decimal_ok (a1 : Int) (r : (List UInt8)) (h : impl_decimal a1 = some r) : Ev (fun k => CN k 90 [.int .i64 a1] []) (fun p => rRes p.2 p.1 = impl_decimal_enc r) := by
 unfold impl_decimal at h
 obtain ⟨r5, hx4, h⟩ := bind_some h
 refine Ev.enter (F := fun k => f90 (CN k) k) (fun k => callN_eq rfl Tryd.func90 rfl rfl rfl (by decide +kernel) (f90_eq _ _)) (sq (Rg (kx (mvO rfl) (Rn (hN rfl hZ) fun e1 h3 => sN (sq (Rg (kx (mvO h3) (kc (cl (v := .str r5) rfl (cns rfl (cns rfl rfl)) rfl (strconv_FormatInt_ok a1 10 _ hx4) nm) (kx (mvO rfl) (Rn (hN rfl hZ) fun e6 h8 => sN (xx ?_)))))))))))
 clear h3
 obtain rfl := si h
 exact eR (resT h8 res0) rfl
/-! ### loop.example/g01263/laws.toItem (f86) -/
noncomputable def laws_toItem (a1 : Item) : Option (Int × Int) :=
 some (a1.Kind, a1.Amount)
def laws_toItem_enc (r : Int × Int) : AV := .agg [.int .i8 r.1, .int .i64 r.2]
theorem laws_toItem_ok (a1 : Item) (r : Int × Int) (h : laws_toItem a1 = some r) : Ev (fun k => CN k 86 [.agg [.int .i8 a1.Kind, .int .i64 a1.Amount]] []) (fun p => rRes p.2 p.1 = laws_toItem_enc r) := by
 unfold laws_toItem at h
 refine Ev.enter (F := fun k => f86 (CN k) k) (fun k => callN_eq rfl Tryd.func86 rfl rfl rfl (by decide +kernel) (f86_eq _ _)) (sq (Rg (kx (bxI rfl rfl ⟨rfl, rfl, by decide⟩) (ku (alO zero85) fun M2 hM3 => ?_))))
 have o4 : M2[([] : Mem).length]? = some (.live ⟨.box, 85, 2, [[.int .i8 0, .int .i64 0]]⟩) := push_new hM3
 refine Rn (hN rfl (hV (.loc ([] : Mem).length 1 0 0) rfl hZ)) fun e5 h7 h8 => sN (sq (Rg (ku (alO zero85) fun M10 hM11 => ?_)))
 have o12 := push_old hM11 o4
 have ne13 := ne_new o4
 have o14 : M10[M2.length]? = some (.live ⟨.box, 85, 2, [[.int .i8 0, .int .i64 0]]⟩) := push_new hM11
 refine Rn (hA h7 (hA h8 (hV (.loc M2.length 1 0 0) rfl hZ))) fun e15 h17 h18 h19 => sN (sq (Rg (kx (faP h17 ⟨ble rfl, blt rfl⟩ rfl) (kx (ldP rfl rfl) (kx (faO h19 o14 rfl) (kw (stO rfl rfl o14 rfl rfl ⟨rfl, ble rfl⟩ rfl rfl) fun M20 hM21 => ?_))))))
 clear h7 h8
 have o22 := set_ne hM21 ne13 o12
 have o23 : M20[M2.length]? = some (.live ⟨.box, 85, 2, [[.int .i8 a1.Kind, .int .i64 0]]⟩) := set_same hM21 o14
 refine Rn (hA h17 (hA h18 (hA h19 hZ))) fun e24 h26 h27 h28 => sN (sq (Rg (kx (faP h26 ⟨ble rfl, blt rfl⟩ rfl) (kx (ldP rfl rfl) (kx (faO h28 o23 rfl) (kw (stO rfl rfl o23 rfl rfl ⟨rfl, ble rfl⟩ rfl rfl) fun M29 hM30 => ?_))))))
 clear h17 h18 h19
 have o31 := set_ne hM30 ne13 o22
 have o32 : M29[M2.length]? = some (.live ⟨.box, 85, 2, [[.int .i8 a1.Kind, .int .i64 a1.Amount]]⟩) := set_same hM30 o23
 refine Rn (hA h27 (hA h28 hZ)) fun e33 h35 h36 => sN (sq (Rg (kx (ldOA h36 o32 rfl rfl (ble rfl) rfl) (kw (stO h35 rfl o31 rfl rfl ⟨rfl, ble rfl⟩ rfl rfl) fun M37 hM38 => ?_))))
 clear h26 h27 h28
 have o39 : M37[([] : Mem).length]? = some (.live ⟨.box, 85, 2, [[.int .i8 a1.Kind, .int .i64 a1.Amount]]⟩) := set_same hM38 o31
 have o40 := set_ne hM38 (Ne.symm ne13) o32
 refine Rn (hA h35 hZ) fun e41 h43 => sN (xx ?_)
 clear h35 h36
 obtain rfl := si h
 exact eR (resC (ag := true) (sz := 2) ⟨by kernel_rfl, by kernel_rfl, by kernel_rfl⟩ (ldOA h43 o39 rfl rfl (ble rfl) rfl) res0) rfl
/-! ### loop.example/g01263/spec.l05Words (f85) -/
noncomputable def spec_l05Words : Option ((List (List UInt8))) :=
 some [([102, 97, 114, 109] : List UInt8), ([100, 101, 98, 116] : List UInt8), ([112, 97, 105, 100] : List UInt8), ([97, 108, 108, 111, 119, 101, 100] : List UInt8)]
def spec_l05Words_enc (r : (List (List UInt8))) : AV := .sl (some 9) (r.map cS)
theorem spec_l05Words_ok (r : (List (List UInt8))) (h : spec_l05Words = some r) : Ev (fun k => CN k 85 [] []) (fun p => rRes p.2 p.1 = spec_l05Words_enc r) := by
 unfold spec_l05Words at h
 refine Ev.enter (F := fun k => f85 (CN k) k) (fun k => callN_eq rfl Tryd.func85 rfl rfl rfl (by decide +kernel) (f85_eq _ _)) (sq (Rg (kx (mvO rfl) (Rn hZ fun e1 => sN (sq (Rg (kx (litI (cns rfl (cns rfl (cns rfl (cns rfl rfl)))) rfl ⟨rfl, by decide⟩) (kx (mvO rfl) (Rn (hN rfl hZ) fun e3 h5 => sN (xx ?_))))))))))
 obtain rfl := si h
 exact eR (resT h5 res0) rfl
/-! ### loop.example/g01263/laws.eqItemS (f46) -/
abbrev laws_eqItemS_b1_S := Int
abbrev laws_eqItemS_b1_R := Unit ⊕ Unit
def laws_eqItemS_b1_RS (a1 : List Item) (a2 : List Item) (s : laws_eqItemS_b1_S) (e : Env) (M : Mem) : Prop := eget e 0 = .sl none (a1.map Item.c) ∧ eget e 1 = .sl none (a2.map Item.c) ∧ eget e 5 = .int .i64 s
def laws_eqItemS_b1_RR (a1 : List Item) (a2 : List Item) (r : laws_eqItemS_b1_R) (x : Ex) (e : Env) (M : Mem) : Prop :=
  match r with
  | (.inl g) => x = .ret ∧ eget e 4 = .bool false
  | (.inr g) => x = .ext 0 ∧ True
noncomputable def laws_eqItemS_b1 (a1 : List Item) (a2 : List Item) : laws_eqItemS_b1_S → Option (laws_eqItemS_b1_S ⊕ laws_eqItemS_b1_R) := fun s1_1 =>
 if (decide (s1_1 < (a1.length : Int))) = true then
  (rd a1 s1_1).bind fun x42 =>
  (rd a2 s1_1).bind fun x44 =>
  (laws_eqItem x42 x44).bind fun r47 =>
  if r47 = true then
   some (.inl (IntKind.i64.wrap (s1_1 + 1)))
  else
   some (.inr (.inl ()))
 else
  some (.inr (.inr ()))
theorem laws_eqItemS_b1_ok (a1 : List Item) (a2 : List Item) (s : laws_eqItemS_b1_S) (r : laws_eqItemS_b1_S ⊕ laws_eqItemS_b1_R) (h : laws_eqItemS_b1 a1 a2 s = some r) (e : Env) (M : Mem) (hs : laws_eqItemS_b1_RS a1 a2 s e M) : Ev (fun k => (f46_l4 (CN k) k (prune [0, 1, 5] e) M).bind fun q => some q) (bQ (laws_eqItemS_b1_RS a1 a2) (laws_eqItemS_b1_RR a1 a2) r) := by
 revert h hs
 revert s
 intro s1_1 h hs
 unfold laws_eqItemS_b1 at h
 obtain ⟨h29, h31, h33⟩ := hs
 generalize he28 : prune [0, 1, 5] e = e27
 have h30 := envp he28.symm rfl h29
 have h32 := envp he28.symm rfl h31
 have h34 := envp he28.symm rfl h33
 refine sq (sq (Rg (kx (mvO h34) (kx (mvO h30) (kx (lnS Tryd.underlying27 rfl) (kx (bLss rfl rfl) (Rn (hV (.sl none (a1.map Item.c)) h30 (hV (.sl none (a2.map Item.c)) h32 (hV (.int .i64 s1_1) h34 (hN rfl hZ)))) fun e35 h37 h38 h39 h40 => sN ?_)))))))
 clear h30 h32 h34
 rcases ite_some h with ⟨hb41, h⟩ | ⟨hb41, h⟩
 ·obtain ⟨x42, hx43, h⟩ := bind_some h
  obtain ⟨x44, hx45, h⟩ := bind_some h
  obtain ⟨r47, hx46, h⟩ := bind_some h
  refine cT h40 hb41 (xx (sN (sq (bl (sq (Rd (kf (mvO h37) (kf (mvO h39) (kf (ixS rfl rfl hx43 Item.fl) (kf (ldPA rfl rfl rfl) (kf (mvO h38) (kf (mvO h39) (kf (ixS rfl rfl hx45 Item.fl) (kf (ldPA rfl rfl rfl) (fc (cl (v := .bool r47) rfl (cns rfl (cns rfl rfl)) rfl (laws_eqItem_ok x42 x44 _ hx46) nm) (kf (uNot rfl) (fZ (Rn (hA h37 (hA h38 (hA h39 (hN rfl hZ)))) fun e48 h50 h51 h52 h53 => sN ?_))))))))))))))))))
  clear h37 h38 h39 h40
  rcases ite_some h with ⟨hb54, h⟩ | ⟨hb54, h⟩
  ·refine cF h53 (congrArg Bool.not hb54) (xx (bN (sN (Rg (kx (mvO h52) (kx (bAdd rfl rfl) (kx (mvO rfl) (Rn (hA h50 (hA h51 (hN rfl hZ))) fun e55 h57 h58 h59 => ?_))))))))
   clear h50 h51 h53
   obtain rfl := si h
   exact qN ⟨h57, h58, h59⟩
  refine cT h53 (congrArg Bool.not hb54) (sq (Rg (kx (mvO rfl) (Rn (hV (.bool false) rfl hZ) fun e60 h62 => sN (xx (bR (sR ?_)))))))
  clear h50 h51 h52 h53
  obtain rfl := si h
  exact qR ⟨rfl, h62⟩
 refine cF h40 hb41 (xx (sE ?_))
 obtain rfl := si h
 exact qE ⟨rfl, trivial⟩
noncomputable def laws_eqItemS (a1 : List Item) (a2 : List Item) : Option Bool :=
 if ((a1.length : Int) != (a2.length : Int)) = true then
  some false
 else
  (Lw (laws_eqItemS_b1 a1 a2) 0).bind fun r => match r with
  | (.inl _) =>
   some false
  | (.inr _) =>
   some true
def laws_eqItemS_enc (r : Bool) : AV := .bool r
theorem laws_eqItemS_ok (a1 : List Item) (a2 : List Item) (r : Bool) (h : laws_eqItemS a1 a2 = some r) : Ev (fun k => CN k 46 [.sl none (a1.map Item.c), .sl none (a2.map Item.c)] []) (fun p => rRes p.2 p.1 = laws_eqItemS_enc r) := by
 unfold laws_eqItemS at h
 refine Ev.enter (F := fun k => f46 (CN k) k) (fun k => callN_eq rfl Tryd.func46 rfl rfl rfl (by decide +kernel) (f46_eq _ _)) (sq (Rg (kx (mvO rfl) (Rn (hN rfl (hN rfl hZ)) fun e1 h3 h4 => sN (sq (sq (Rg (kx (mvO h3) (kx (lnS Tryd.underlying27 rfl) (kx (mvO h4) (kx (lnS Tryd.underlying27 rfl) (kx (bNeq rfl rfl) (Rn (hA h3 (hA h4 (hN rfl hZ))) fun e5 h7 h8 h9 => sN ?_)))))))))))))
 clear h3 h4
 rcases ite_some h with ⟨hb10, h⟩ | ⟨hb10, h⟩
 ·refine cT h9 hb10 (sq (Rg (kx (mvO rfl) (Rn (hV (.bool false) rfl hZ) fun e11 h13 => sN (xx (sR ?_))))))
  clear h7 h8 h9
  obtain rfl := si h
  exact eR (resT h13 res0) rfl
 obtain ⟨r63, hr64, h⟩ := bind_some h
 refine cF h9 hb10 (xx (sN (sq (sq (Rg (kx (mvO rfl) (Rn (hA h7 (hA h8 (hV (.int .i64 0) rfl hZ))) fun e14 h16 h17 h18 => sN (bl ?_))))))))
 clear h7 h8 h9
 rcases r63 with _ | _
 ·refine Ev.loop (RS := laws_eqItemS_b1_RS a1 a2) (RR := laws_eqItemS_b1_RR a1 a2) (fun s r h e M hs => laws_eqItemS_b1_ok a1 a2 s r h e M hs) hr64 ⟨h16, h17, h18⟩ fun x e66 M67 hq65 => ?_
  obtain ⟨rfl, h68⟩ := hq65
  refine bR (sR ?_)
  obtain rfl := si h
  exact eR (resT h68 res0) rfl
 refine Ev.loop (RS := laws_eqItemS_b1_RS a1 a2) (RR := laws_eqItemS_b1_RR a1 a2) (fun s r h e M hs => laws_eqItemS_b1_ok a1 a2 s r h e M hs) hr64 ⟨h16, h17, h18⟩ fun x e69 M70 hq65 => ?_
 obtain ⟨rfl, _⟩ := hq65
 refine bE (sN (sq (Rg (kx (mvO rfl) (Rn (hV (.bool true) rfl hZ) fun e71 h73 => sN (xx ?_))))))
 obtain rfl := si h
 exact eR (resT h73 res0) rfl
/-! ### loop.example/g01263/laws.eqAccount (f13) -/
noncomputable def laws_eqAccount (a1 : Account) (a2 : Account) : Option Bool :=
 if (a1.Title == a2.Title) = true then
  (laws_eqItemS a1.Items a2.Items).bind fun r12 =>
  if r12 = true then
   if (a1.Balance != a2.Balance) = true then
    some false
   else
    some true
  else
   some false
 else
  some false
def laws_eqAccount_enc (r : Bool) : AV := .bool r
theorem laws_eqAccount_ok (a1 : Account) (a2 : Account) (r : Bool) (h : laws_eqAccount a1 a2 = some r) : Ev (fun k => CN k 13 [.agg [.str a1.Title, .sl none (a1.Items.map Item.c), .int .i64 a1.Balance], .agg [.str a2.Title, .sl none (a2.Items.map Item.c), .int .i64 a2.Balance]] []) (fun p => rRes p.2 p.1 = laws_eqAccount_enc r) := by
 unfold laws_eqAccount at h
 refine Ev.enter (F := fun k => f13 (CN k) k) (fun k => callN_eq rfl Tryd.func13 rfl rfl rfl (by decide +kernel) (f13_eq _ _)) (sq (Rg (kx (bxI rfl rfl ⟨rfl, rfl, by decide⟩) (kx (bxI rfl rfl ⟨rfl, rfl, by decide⟩) (kx (mvO rfl) (Rn (hN rfl (hN rfl hZ)) fun e1 h3 h4 => sN (sq (sq (Rg (kx (faP h3 ⟨ble rfl, blt rfl⟩ rfl) (kx (ldP rfl rfl) (kx (faP h4 ⟨ble rfl, blt rfl⟩ rfl) (kx (ldP rfl rfl) (kx (sNeq rfl rfl) (Rn (hA h3 (hA h4 (hN rfl hZ))) fun e5 h7 h8 h9 => sN ?_)))))))))))))))
 clear h3 h4
 rcases ite_some h with ⟨hb10, h⟩ | ⟨hb10, h⟩
 ·obtain ⟨r12, hx11, h⟩ := bind_some h
  refine cF h9 (congrArg Bool.not hb10) (xx (sN (sq (sq (Rg (kx (faP h7 ⟨ble rfl, blt rfl⟩ rfl) (kx (ldP rfl rfl) (kx (faP h8 ⟨ble rfl, blt rfl⟩ rfl) (kx (ldP rfl rfl) (kc (cl (v := .bool r12) rfl (cns rfl (cns rfl rfl)) rfl (laws_eqItemS_ok a1.Items a2.Items _ hx11) nm) (kx (uNot rfl) (Rn (hA h7 (hA h8 (hN rfl hZ))) fun e13 h15 h16 h17 => sN ?_))))))))))))
  clear h7 h8 h9
  rcases ite_some h with ⟨hb18, h⟩ | ⟨hb18, h⟩
  ·refine cF h17 (congrArg Bool.not hb18) (xx (sN (sq (sq (Rg (kx (faP h15 ⟨ble rfl, blt rfl⟩ rfl) (kx (ldP rfl rfl) (kx (faP h16 ⟨ble rfl, blt rfl⟩ rfl) (kx (ldP rfl rfl) (kx (bNeq rfl rfl) (Rn (hN rfl hZ) fun e19 h21 => sN ?_)))))))))))
   clear h15 h16 h17
   rcases ite_some h with ⟨hb22, h⟩ | ⟨hb22, h⟩
   ·refine cT h21 hb22 (sq (Rg (kx (mvO rfl) (Rn (hV (.bool false) rfl hZ) fun e23 h25 => sN (xx (sR ?_))))))
    clear h21
    obtain rfl := si h
    exact eR (resT h25 res0) rfl
   refine cF h21 hb22 (xx (sN (sq (Rg (kx (mvO rfl) (Rn (hV (.bool true) rfl hZ) fun e26 h28 => sN (xx ?_)))))))
   clear h21
   obtain rfl := si h
   exact eR (resT h28 res0) rfl
  refine cT h17 (congrArg Bool.not hb18) (sq (Rg (kx (mvO rfl) (Rn (hV (.bool false) rfl hZ) fun e29 h31 => sN (xx (sR ?_))))))
  clear h15 h16 h17
  obtain rfl := si h
  exact eR (resT h31 res0) rfl
 refine cT h9 (congrArg Bool.not hb10) (sq (Rg (kx (mvO rfl) (Rn (hV (.bool false) rfl hZ) fun e32 h34 => sN (xx (sR ?_))))))
 clear h7 h8 h9
 obtain rfl := si h
 exact eR (resT h34 res0) rfl
/-! ### loop.example/g01263/laws.eqAccountS (f53) -/
abbrev laws_eqAccountS_b1_S := Int
abbrev laws_eqAccountS_b1_R := Unit ⊕ Unit
def laws_eqAccountS_b1_RS (a1 : List Account) (a2 : List Account) (s : laws_eqAccountS_b1_S) (e : Env) (M : Mem) : Prop := eget e 0 = .sl none (a1.map Account.c) ∧ eget e 1 = .sl none (a2.map Account.c) ∧ eget e 5 = .int .i64 s
def laws_eqAccountS_b1_RR (a1 : List Account) (a2 : List Account) (r : laws_eqAccountS_b1_R) (x : Ex) (e : Env) (M : Mem) : Prop :=
  match r with
  | (.inl g) => x = .ret ∧ eget e 4 = .bool false
  | (.inr g) => x = .ext 0 ∧ True
noncomputable def laws_eqAccountS_b1 (a1 : List Account) (a2 : List Account) : laws_eqAccountS_b1_S → Option (laws_eqAccountS_b1_S ⊕ laws_eqAccountS_b1_R) := fun s1_1 =>
 if (decide (s1_1 < (a1.length : Int))) = true then
  (rd a1 s1_1).bind fun x42 =>
  (rd a2 s1_1).bind fun x44 =>
  (laws_eqAccount x42 x44).bind fun r47 =>
  if r47 = true then
   some (.inl (IntKind.i64.wrap (s1_1 + 1)))
  else
   some (.inr (.inl ()))
 else
  some (.inr (.inr ()))
theorem laws_eqAccountS_b1_ok (a1 : List Account) (a2 : List Account) (s : laws_eqAccountS_b1_S) (r : laws_eqAccountS_b1_S ⊕ laws_eqAccountS_b1_R) (h : laws_eqAccountS_b1 a1 a2 s = some r) (e : Env) (M : Mem) (hs : laws_eqAccountS_b1_RS a1 a2 s e M) : Ev (fun k => (f53_l4 (CN k) k (prune [0, 1, 5] e) M).bind fun q => some q) (bQ (laws_eqAccountS_b1_RS a1 a2) (laws_eqAccountS_b1_RR a1 a2) r) := by
 revert h hs
 revert s
 intro s1_1 h hs
 unfold laws_eqAccountS_b1 at h
 obtain ⟨h29, h31, h33⟩ := hs
 generalize he28 : prune [0, 1, 5] e = e27
 have h30 := envp he28.symm rfl h29
 have h32 := envp he28.symm rfl h31
 have h34 := envp he28.symm rfl h33
 refine sq (sq (Rg (kx (mvO h34) (kx (mvO h30) (kx (lnS Tryd.underlying38 rfl) (kx (bLss rfl rfl) (Rn (hV (.sl none (a1.map Account.c)) h30 (hV (.sl none (a2.map Account.c)) h32 (hV (.int .i64 s1_1) h34 (hN rfl hZ)))) fun e35 h37 h38 h39 h40 => sN ?_)))))))
 clear h30 h32 h34
 rcases ite_some h with ⟨hb41, h⟩ | ⟨hb41, h⟩
 ·obtain ⟨x42, hx43, h⟩ := bind_some h
  obtain ⟨x44, hx45, h⟩ := bind_some h
  obtain ⟨r47, hx46, h⟩ := bind_some h
  refine cT h40 hb41 (xx (sN (sq (bl (sq (Rd (kf (mvO h37) (kf (mvO h39) (kf (ixS rfl rfl hx43 Account.fl) (kf (ldPA rfl rfl rfl) (kf (mvO h38) (kf (mvO h39) (kf (ixS rfl rfl hx45 Account.fl) (kf (ldPA rfl rfl rfl) (fc (cl (v := .bool r47) rfl (cns rfl (cns rfl rfl)) rfl (laws_eqAccount_ok x42 x44 _ hx46) nm) (kf (uNot rfl) (fZ (Rn (hA h37 (hA h38 (hA h39 (hN rfl hZ)))) fun e48 h50 h51 h52 h53 => sN ?_))))))))))))))))))
  clear h37 h38 h39 h40
  rcases ite_some h with ⟨hb54, h⟩ | ⟨hb54, h⟩
  ·refine cF h53 (congrArg Bool.not hb54) (xx (bN (sN (Rg (kx (mvO h52) (kx (bAdd rfl rfl) (kx (mvO rfl) (Rn (hA h50 (hA h51 (hN rfl hZ))) fun e55 h57 h58 h59 => ?_))))))))
   clear h50 h51 h53
   obtain rfl := si h
   exact qN ⟨h57, h58, h59⟩
  refine cT h53 (congrArg Bool.not hb54) (sq (Rg (kx (mvO rfl) (Rn (hV (.bool false) rfl hZ) fun e60 h62 => sN (xx (bR (sR ?_)))))))
  clear h50 h51 h52 h53
  obtain rfl := si h
  exact qR ⟨rfl, h62⟩
 refine cF h40 hb41 (xx (sE ?_))
 obtain rfl := si h
 exact qE ⟨rfl, trivial⟩
noncomputable def laws_eqAccountS (a1 : List Account) (a2 : List Account) : Option Bool :=
 if ((a1.length : Int) != (a2.length : Int)) = true then
  some false
 else
  (Lw (laws_eqAccountS_b1 a1 a2) 0).bind fun r => match r with
  | (.inl _) =>
   some false
  | (.inr _) =>
   some true
def laws_eqAccountS_enc (r : Bool) : AV := .bool r
theorem laws_eqAccountS_ok (a1 : List Account) (a2 : List Account) (r : Bool) (h : laws_eqAccountS a1 a2 = some r) : Ev (fun k => CN k 53 [.sl none (a1.map Account.c), .sl none (a2.map Account.c)] []) (fun p => rRes p.2 p.1 = laws_eqAccountS_enc r) := by
 unfold laws_eqAccountS at h
 refine Ev.enter (F := fun k => f53 (CN k) k) (fun k => callN_eq rfl Tryd.func53 rfl rfl rfl (by decide +kernel) (f53_eq _ _)) (sq (Rg (kx (mvO rfl) (Rn (hN rfl (hN rfl hZ)) fun e1 h3 h4 => sN (sq (sq (Rg (kx (mvO h3) (kx (lnS Tryd.underlying38 rfl) (kx (mvO h4) (kx (lnS Tryd.underlying38 rfl) (kx (bNeq rfl rfl) (Rn (hA h3 (hA h4 (hN rfl hZ))) fun e5 h7 h8 h9 => sN ?_)))))))))))))
 clear h3 h4
 rcases ite_some h with ⟨hb10, h⟩ | ⟨hb10, h⟩
 ·refine cT h9 hb10 (sq (Rg (kx (mvO rfl) (Rn (hV (.bool false) rfl hZ) fun e11 h13 => sN (xx (sR ?_))))))
  clear h7 h8 h9
  obtain rfl := si h
  exact eR (resT h13 res0) rfl
 obtain ⟨r63, hr64, h⟩ := bind_some h
 refine cF h9 hb10 (xx (sN (sq (sq (Rg (kx (mvO rfl) (Rn (hA h7 (hA h8 (hV (.int .i64 0) rfl hZ))) fun e14 h16 h17 h18 => sN (bl ?_))))))))
 clear h7 h8 h9
 rcases r63 with _ | _
 ·refine Ev.loop (RS := laws_eqAccountS_b1_RS a1 a2) (RR := laws_eqAccountS_b1_RR a1 a2) (fun s r h e M hs => laws_eqAccountS_b1_ok a1 a2 s r h e M hs) hr64 ⟨h16, h17, h18⟩ fun x e66 M67 hq65 => ?_
  obtain ⟨rfl, h68⟩ := hq65
  refine bR (sR ?_)
  obtain rfl := si h
  exact eR (resT h68 res0) rfl
 refine Ev.loop (RS := laws_eqAccountS_b1_RS a1 a2) (RR := laws_eqAccountS_b1_RR a1 a2) (fun s r h e M hs => laws_eqAccountS_b1_ok a1 a2 s r h e M hs) hr64 ⟨h16, h17, h18⟩ fun x e69 M70 hq65 => ?_
 obtain ⟨rfl, _⟩ := hq65
 refine bE (sN (sq (Rg (kx (mvO rfl) (Rn (hV (.bool true) rfl hZ) fun e71 h73 => sN (xx ?_))))))
 obtain rfl := si h
 exact eR (resT h73 res0) rfl
/-! ### loop.example/g01263/impl.validRoll (f52) -/
noncomputable def impl_validRoll (a1 : Roll) : Option Bool :=
 (impl_FirstFault a1).bind fun (r5, r6) =>
 some (r6 == 6)
def impl_validRoll_enc (r : Bool) : AV := .bool r
theorem impl_validRoll_ok (a1 : Roll) (r : Bool) (h : impl_validRoll a1 = some r) : Ev (fun k => CN k 52 [.agg [.sl none (a1.Accounts.map Account.c), .int .i64 a1.Owed]] []) (fun p => rRes p.2 p.1 = impl_validRoll_enc r) := by
 unfold impl_validRoll at h
 obtain ⟨⟨r5, r6⟩, hx4, h⟩ := bind_some h
 refine Ev.enter (F := fun k => f52 (CN k) k) (fun k => callN_eq rfl Tryd.func52 rfl rfl rfl (by decide +kernel) (f52_eq _ _)) (sq (Rg (kx (bxI rfl rfl ⟨rfl, rfl, by decide⟩) (kx (mvO rfl) (Rn (hN rfl hZ) fun e1 h3 => sN (sq (Rg (kx (ldPA h3 rfl rfl) (kc (cl (v := .tup [.int .i64 r5, .int .i64 r6]) rfl (cns rfl rfl) rfl (impl_FirstFault_ok a1 _ hx4) nm) (kx (mvO rfl) (kx (exT rfl rfl) (kx (exT rfl rfl) (kx (mvO rfl) (kx (mvO rfl) (Rn (hN rfl hZ) fun e7 h9 => sN (sq (Rg (kx (mvO h9) (kx (bEql rfl rfl) (kx (mvO rfl) (Rn (hN rfl hZ) fun e10 h12 => sN (xx ?_))))))))))))))))))))))
 clear h3 h9
 obtain rfl := si h
 exact eR (resT h12 res0) rfl
/-! ### loop.example/g01263/laws.toItemS (f40) -/
abbrev laws_toItemS_b1_S := Int × (List Item)
abbrev laws_toItemS_b1_R := (List Item)
def laws_toItemS_b1_RS (a1 : List Item) (x4 : List Item) (i1_1 : Nat) (s : laws_toItemS_b1_S) (e : Env) (M : Mem) : Prop := eget e 0 = .sl none (a1.map Item.c) ∧ eget e 3 = .lsl i1_1 s.2.length 0 s.2.length ∧ eget e 4 = .int .i64 s.1 ∧ M[i1_1]? = some (.live ⟨.grow, 85, 2, s.2.map Item.c⟩) ∧ s.2.length = x4.length
def laws_toItemS_b1_RR (a1 : List Item) (x4 : List Item) (i1_1 : Nat) (g : laws_toItemS_b1_R) (x : Ex) (e : Env) (M : Mem) : Prop := x = .ext 0 ∧ eget e 3 = .lsl i1_1 g.length 0 g.length ∧ M[i1_1]? = some (.live ⟨.grow, 85, 2, g.map Item.c⟩) ∧ g.length = x4.length
noncomputable def laws_toItemS_b1 (a1 : List Item) : laws_toItemS_b1_S → Option (laws_toItemS_b1_S ⊕ laws_toItemS_b1_R) := fun (s1_1, s1_2) =>
 if (decide (s1_1 < (a1.length : Int))) = true then
  (rd a1 s1_1).bind fun x45 =>
  (laws_toItem x45).bind fun (r48, r49) =>
  (rd s1_2 s1_1).bind fun x50 =>
  some (.inl ((IntKind.i64.wrap (s1_1 + 1)), (s1_2.set s1_1.toNat (Item.mk r48 r49))))
 else
  some (.inr s1_2)
theorem laws_toItemS_b1_ok (a1 : List Item) (x4 : List Item) (i1_1 : Nat) (s : laws_toItemS_b1_S) (r : laws_toItemS_b1_S ⊕ laws_toItemS_b1_R) (h : laws_toItemS_b1 a1 s = some r) (e : Env) (M : Mem) (hs : laws_toItemS_b1_RS a1 x4 i1_1 s e M) : Ev (fun k => (f40_l3 (CN k) k (prune [0, 3, 4] e) M).bind fun q => some q) (bQ (laws_toItemS_b1_RS a1 x4 i1_1) (laws_toItemS_b1_RR a1 x4 i1_1) r) := by
 obtain ⟨s1_1, s1_2⟩ := s
 unfold laws_toItemS_b1 at h
 obtain ⟨h30, h32, h34, o36, hl37⟩ := hs
 generalize he29 : prune [0, 3, 4] e = e28
 have h31 := envp he29.symm rfl h30
 have h33 := envp he29.symm rfl h32
 have h35 := envp he29.symm rfl h34
 refine sq (sq (Rg (kx (mvO h35) (kx (mvO h31) (kx (lnS Tryd.underlying22 rfl) (kx (bLss rfl rfl) (Rn (hV (.sl none (a1.map Item.c)) h31 (hV (.lsl i1_1 s1_2.length 0 s1_2.length) h33 (hV (.int .i64 s1_1) h35 (hN rfl hZ)))) fun e38 h40 h41 h42 h43 => sN ?_)))))))
 clear h31 h33 h35
 rcases ite_some h with ⟨hb44, h⟩ | ⟨hb44, h⟩
 ·obtain ⟨x45, hx46, h⟩ := bind_some h
  obtain ⟨⟨r48, r49⟩, hx47, h⟩ := bind_some h
  obtain ⟨x50, hx51, h⟩ := bind_some h
  refine cT h43 hb44 (xx (sN (sq (bl (Rg (kx (mvO h41) (kx (mvO h42) (kx (mvO h40) (kx (mvO h42) (kx (ixS rfl rfl hx46 Item.fl) (kx (ldPA rfl rfl rfl) (kc (cl (v := .agg [.int .i8 r48, .int .i64 r49]) rfl (cns rfl rfl) rfl (laws_toItem_ok x45 _ hx47) nm) (kx (ixO rfl o36 rfl rfl (rd_get hx51).1 (rd_lt hx51).2) (kw (stR (u := x50) (u' := (Item.mk r48 r49)) rfl rfl o36 rfl (rz2 hx51) ⟨rfl, ble rfl⟩ rfl rfl) fun M52 hM53 => ?_))))))))))))))
  rw [Nat.zero_add] at hM53
  have o54 : M52[i1_1]? = some (.live ⟨.grow, 85, 2, (s1_2.set s1_1.toNat (Item.mk r48 r49)).map Item.c⟩) := set_same hM53 o36
  have hx55 := rd_set (u' := (Item.mk r48 r49)) hx51
  refine Rn (hA h40 (hA h41 (hA h42 hZ))) fun e56 h58 h59 h60 => bN (sN (Rg (kx (mvO h60) (kx (bAdd rfl rfl) (kx (mvO rfl) (Rn (hA h58 (hA h59 (hN rfl hZ))) fun e61 h63 h64 h65 => ?_))))))
  clear h40 h41 h42 h43 h58 h59
  obtain rfl := si h
  exact qN ⟨h63, (lslL (L' := (s1_2.set s1_1.toNat (Item.mk r48 r49)).length) h64 (by simp [hl37])), h65, o54, (by first | rfl | simp [hl37])⟩
 refine cF h43 hb44 (xx (sE ?_))
 obtain rfl := si h
 exact qE ⟨rfl, h41, o36, (by first | rfl | simp [hl37])⟩
noncomputable def laws_toItemS (a1 : List Item) : Option ((List Item)) :=
 (mkS 16 (Item.mk 0 0) (a1.length : Int)).bind fun x4 =>
 (Lw (laws_toItemS_b1 a1) (0, x4)).bind fun y71 =>
 some y71
def laws_toItemS_enc (r : (List Item)) : AV := .sl (some 85) (r.map Item.c)
theorem laws_toItemS_ok (a1 : List Item) (r : (List Item)) (h : laws_toItemS a1 = some r) : Ev (fun k => CN k 40 [.sl none (a1.map Item.c)] []) (fun p => rRes p.2 p.1 = laws_toItemS_enc r) := by
 unfold laws_toItemS at h
 obtain ⟨x4, hx5, h⟩ := bind_some h
 refine Ev.enter (F := fun k => f40 (CN k) k) (fun k => callN_eq rfl Tryd.func40 rfl rfl rfl (by decide +kernel) (f40_eq _ _)) (sq (Rg (kx (mvO rfl) (Rn (hN rfl hZ) fun e1 h3 => sN (sq (Rg (kx (mvO h3) (kx (lnS Tryd.underlying22 rfl) (ku (mkO rfl rfl hx5 (c := Item.c) zero85 Item.fl (by decide)) fun M7 hM8 => ?_)))))))))
 have o9 : M7[([] : Mem).length]? = some (.live ⟨.grow, 85, 2, x4.map Item.c⟩) := push_new hM8
 obtain ⟨y71, hr67, h⟩ := bind_some h
 refine kx (mvO rfl) (Rn (hA h3 (hV (.lsl ([] : Mem).length x4.length 0 x4.length) rfl hZ)) fun e10 h12 h13 => sN (sq (sq (Rg (kx (mvO rfl) (Rn (hA h12 (hA h13 (hV (.int .i64 0) rfl hZ))) fun e14 h16 h17 h18 => sN (bl (Ev.loop (RS := laws_toItemS_b1_RS a1 x4 (([] : Mem).length)) (RR := laws_toItemS_b1_RR a1 x4 (([] : Mem).length)) (fun s r h e M hs => laws_toItemS_b1_ok a1 x4 (([] : Mem).length) s r h e M hs) hr67 ⟨h16, h17, h18, o9, rfl⟩ fun x e69 M70 hq68 => ?_))))))))
 clear h3 h12 h13
 obtain ⟨rfl, h72, o73, hl74⟩ := hq68
 refine bE (sN (sq (Rg (kx (mvO h72) (kx (mvO rfl) (Rn (hV (.lsl ([] : Mem).length y71.length 0 y71.length) rfl hZ) fun e75 h77 => sN (xx ?_)))))))
 clear h72
 obtain rfl := si h
 exact eR (resT h77 res0) (rr_row o73 rfl Item.fl)
/-! ### loop.example/g01263/laws.toAccount (f11) -/
noncomputable def laws_toAccount (a1 : Account) : Option ((List UInt8) × (List Item) × Int) :=
 (laws_toItemS a1.Items).bind fun r30 =>
 some (a1.Title, r30, a1.Balance)
def laws_toAccount_enc (r : (List UInt8) × (List Item) × Int) : AV := .agg [.str r.1, .sl none (r.2.1.map Item.c), .int .i64 r.2.2]
theorem laws_toAccount_ok (a1 : Account) (r : (List UInt8) × (List Item) × Int) (h : laws_toAccount a1 = some r) : Ev (fun k => CN k 11 [.agg [.str a1.Title, .sl none (a1.Items.map Item.c), .int .i64 a1.Balance]] []) (fun p => rRes p.2 p.1 = laws_toAccount_enc r) := by
 unfold laws_toAccount at h
 refine Ev.enter (F := fun k => f11 (CN k) k) (fun k => callN_eq rfl Tryd.func11 rfl rfl rfl (by decide +kernel) (f11_eq _ _)) (sq (Rg (kx (bxI rfl rfl ⟨rfl, rfl, by decide⟩) (ku (alO zero29) fun M2 hM3 => ?_))))
 have o4 : M2[([] : Mem).length]? = some (.live ⟨.box, 29, 3, [[.str ([] : List UInt8), .nils, .int .i64 0]]⟩) := push_new hM3
 refine Rn (hN rfl (hV (.loc ([] : Mem).length 1 0 0) rfl hZ)) fun e5 h7 h8 => sN (sq (Rg (ku (alO zero29) fun M10 hM11 => ?_)))
 have o12 := push_old hM11 o4
 have ne13 := ne_new o4
 have o14 : M10[M2.length]? = some (.live ⟨.box, 29, 3, [[.str ([] : List UInt8), .nils, .int .i64 0]]⟩) := push_new hM11
 refine Rn (hA h7 (hA h8 (hV (.loc M2.length 1 0 0) rfl hZ))) fun e15 h17 h18 h19 => sN (sq (Rg (kx (faP h17 ⟨ble rfl, blt rfl⟩ rfl) (kx (ldP rfl rfl) (kx (faO h19 o14 rfl) (kw (stO rfl rfl o14 rfl rfl ⟨rfl, ble rfl⟩ rfl rfl) fun M20 hM21 => ?_))))))
 clear h7 h8
 have o22 := set_ne hM21 ne13 o12
 have o23 : M20[M2.length]? = some (.live ⟨.box, 29, 3, [[.str a1.Title, .nils, .int .i64 0]]⟩) := set_same hM21 o14
 obtain ⟨r30, hx29, h⟩ := bind_some h
 refine Rn (hA h17 (hA h18 (hA h19 hZ))) fun e24 h26 h27 h28 => sN (sq (Rg (kx (faP h26 ⟨ble rfl, blt rfl⟩ rfl) (kx (ldP rfl rfl) (kc (cl (v := .sl (some 85) (r30.map Item.c)) rfl (cns rfl rfl) rfl (laws_toItemS_ok a1.Items _ hx29) nm) (kx (faO h28 o23 rfl) (kw (stO rfl rfl o23 rfl rfl ⟨rfl, ble rfl⟩ rfl rfl) fun M31 hM32 => ?_)))))))
 clear h17 h18 h19
 have o33 := set_ne hM32 ne13 o22
 have o34 : M31[M2.length]? = some (.live ⟨.box, 29, 3, [[.str a1.Title, .sl none (r30.map Item.c), .int .i64 0]]⟩) := set_same hM32 o23
 refine Rn (hA h26 (hA h27 (hA h28 hZ))) fun e35 h37 h38 h39 => sN (sq (Rg (kx (faP h37 ⟨ble rfl, blt rfl⟩ rfl) (kx (ldP rfl rfl) (kx (faO h39 o34 rfl) (kw (stO rfl rfl o34 rfl rfl ⟨rfl, ble rfl⟩ rfl rfl) fun M40 hM41 => ?_))))))
 clear h26 h27 h28
 have o42 := set_ne hM41 ne13 o33
 have o43 : M40[M2.length]? = some (.live ⟨.box, 29, 3, [[.str a1.Title, .sl none (r30.map Item.c), .int .i64 a1.Balance]]⟩) := set_same hM41 o34
 refine Rn (hA h38 (hA h39 hZ)) fun e44 h46 h47 => sN (sq (Rg (kx (ldOA h47 o43 rfl rfl (ble rfl) rfl) (kw (stO h46 rfl o42 rfl rfl ⟨rfl, ble rfl⟩ rfl rfl) fun M48 hM49 => ?_))))
 clear h37 h38 h39
 have o50 : M48[([] : Mem).length]? = some (.live ⟨.box, 29, 3, [[.str a1.Title, .sl none (r30.map Item.c), .int .i64 a1.Balance]]⟩) := set_same hM49 o42
 have o51 := set_ne hM49 (Ne.symm ne13) o43
 refine Rn (hA h46 hZ) fun e52 h54 => sN (xx ?_)
 clear h46 h47
 obtain rfl := si h
 exact eR (resC (ag := true) (sz := 3) ⟨by kernel_rfl, by kernel_rfl, by kernel_rfl⟩ (ldOA h54 o50 rfl rfl (ble rfl) rfl) res0) rfl
/-! ### loop.example/g01263/laws.toAccountS (f51) -/
abbrev laws_toAccountS_b1_S := Int × (List AccountN)
abbrev laws_toAccountS_b1_R := (List AccountN)
def laws_toAccountS_b1_RS (a1 : List Account) (x4 : List AccountN) (i1_1 : Nat) (s : laws_toAccountS_b1_S) (e : Env) (M : Mem) : Prop := eget e 0 = .sl none (a1.map Account.c) ∧ eget e 3 = .lsl i1_1 s.2.length 0 s.2.length ∧ eget e 4 = .int .i64 s.1 ∧ M[i1_1]? = some (.live ⟨.grow, 29, 3, s.2.map AccountN.c⟩) ∧ s.2.length = x4.length
def laws_toAccountS_b1_RR (a1 : List Account) (x4 : List AccountN) (i1_1 : Nat) (g : laws_toAccountS_b1_R) (x : Ex) (e : Env) (M : Mem) : Prop := x = .ext 0 ∧ eget e 3 = .lsl i1_1 g.length 0 g.length ∧ M[i1_1]? = some (.live ⟨.grow, 29, 3, g.map AccountN.c⟩) ∧ g.length = x4.length
noncomputable def laws_toAccountS_b1 (a1 : List Account) : laws_toAccountS_b1_S → Option (laws_toAccountS_b1_S ⊕ laws_toAccountS_b1_R) := fun (s1_1, s1_2) =>
 if (decide (s1_1 < (a1.length : Int))) = true then
  (rd a1 s1_1).bind fun x45 =>
  (laws_toAccount x45).bind fun (r48, r49, r50) =>
  (rd s1_2 s1_1).bind fun x51 =>
  some (.inl ((IntKind.i64.wrap (s1_1 + 1)), (s1_2.set s1_1.toNat (AccountN.mk r48 (some r49) r50))))
 else
  some (.inr s1_2)
theorem laws_toAccountS_b1_ok (a1 : List Account) (x4 : List AccountN) (i1_1 : Nat) (s : laws_toAccountS_b1_S) (r : laws_toAccountS_b1_S ⊕ laws_toAccountS_b1_R) (h : laws_toAccountS_b1 a1 s = some r) (e : Env) (M : Mem) (hs : laws_toAccountS_b1_RS a1 x4 i1_1 s e M) : Ev (fun k => (f51_l3 (CN k) k (prune [0, 3, 4] e) M).bind fun q => some q) (bQ (laws_toAccountS_b1_RS a1 x4 i1_1) (laws_toAccountS_b1_RR a1 x4 i1_1) r) := by
 obtain ⟨s1_1, s1_2⟩ := s
 unfold laws_toAccountS_b1 at h
 obtain ⟨h30, h32, h34, o36, hl37⟩ := hs
 generalize he29 : prune [0, 3, 4] e = e28
 have h31 := envp he29.symm rfl h30
 have h33 := envp he29.symm rfl h32
 have h35 := envp he29.symm rfl h34
 refine sq (sq (Rg (kx (mvO h35) (kx (mvO h31) (kx (lnS Tryd.underlying33 rfl) (kx (bLss rfl rfl) (Rn (hV (.sl none (a1.map Account.c)) h31 (hV (.lsl i1_1 s1_2.length 0 s1_2.length) h33 (hV (.int .i64 s1_1) h35 (hN rfl hZ)))) fun e38 h40 h41 h42 h43 => sN ?_)))))))
 clear h31 h33 h35
 rcases ite_some h with ⟨hb44, h⟩ | ⟨hb44, h⟩
 ·obtain ⟨x45, hx46, h⟩ := bind_some h
  obtain ⟨⟨r48, r49, r50⟩, hx47, h⟩ := bind_some h
  obtain ⟨x51, hx52, h⟩ := bind_some h
  refine cT h43 hb44 (xx (sN (sq (bl (Rg (kx (mvO h41) (kx (mvO h42) (kx (mvO h40) (kx (mvO h42) (kx (ixS rfl rfl hx46 Account.fl) (kx (ldPA rfl rfl rfl) (kc (cl (v := .agg [.str r48, .sl none (r49.map Item.c), .int .i64 r50]) rfl (cns rfl rfl) rfl (laws_toAccount_ok x45 _ hx47) nm) (kx (ixO rfl o36 rfl rfl (rd_get hx52).1 (rd_lt hx52).2) (kw (stR (u := x51) (u' := (AccountN.mk r48 (some r49) r50)) rfl rfl o36 rfl (rz2 hx52) ⟨rfl, ble rfl⟩ rfl rfl) fun M53 hM54 => ?_))))))))))))))
  rw [Nat.zero_add] at hM54
  have o55 : M53[i1_1]? = some (.live ⟨.grow, 29, 3, (s1_2.set s1_1.toNat (AccountN.mk r48 (some r49) r50)).map AccountN.c⟩) := set_same hM54 o36
  have hx56 := rd_set (u' := (AccountN.mk r48 (some r49) r50)) hx52
  refine Rn (hA h40 (hA h41 (hA h42 hZ))) fun e57 h59 h60 h61 => bN (sN (Rg (kx (mvO h61) (kx (bAdd rfl rfl) (kx (mvO rfl) (Rn (hA h59 (hA h60 (hN rfl hZ))) fun e62 h64 h65 h66 => ?_))))))
  clear h40 h41 h42 h43 h59 h60
  obtain rfl := si h
  exact qN ⟨h64, (lslL (L' := (s1_2.set s1_1.toNat (AccountN.mk r48 (some r49) r50)).length) h65 (by simp [hl37])), h66, o55, (by first | rfl | simp [hl37])⟩
 refine cF h43 hb44 (xx (sE ?_))
 obtain rfl := si h
 exact qE ⟨rfl, h41, o36, (by first | rfl | simp [hl37])⟩
noncomputable def laws_toAccountS (a1 : List Account) : Option ((List Account)) :=
 (mkS 48 (AccountN.mk ([] : List UInt8) none 0) (a1.length : Int)).bind fun x4 =>
 (Lw (laws_toAccountS_b1 a1) (0, x4)).bind fun y72 =>
 (unL AccountN.un y72).bind fun x79 =>
 some x79
def laws_toAccountS_enc (r : (List Account)) : AV := .sl (some 29) (r.map Account.c)
theorem laws_toAccountS_ok (a1 : List Account) (r : (List Account)) (h : laws_toAccountS a1 = some r) : Ev (fun k => CN k 51 [.sl none (a1.map Account.c)] []) (fun p => rRes p.2 p.1 = laws_toAccountS_enc r) := by
 unfold laws_toAccountS at h
 obtain ⟨x4, hx5, h⟩ := bind_some h
 refine Ev.enter (F := fun k => f51 (CN k) k) (fun k => callN_eq rfl Tryd.func51 rfl rfl rfl (by decide +kernel) (f51_eq _ _)) (sq (Rg (kx (mvO rfl) (Rn (hN rfl hZ) fun e1 h3 => sN (sq (Rg (kx (mvO h3) (kx (lnS Tryd.underlying33 rfl) (ku (mkO rfl rfl hx5 (c := AccountN.c) zero29 AccountN.fl (by decide)) fun M7 hM8 => ?_)))))))))
 have o9 : M7[([] : Mem).length]? = some (.live ⟨.grow, 29, 3, x4.map AccountN.c⟩) := push_new hM8
 obtain ⟨y72, hr68, h⟩ := bind_some h
 refine kx (mvO rfl) (Rn (hA h3 (hV (.lsl ([] : Mem).length x4.length 0 x4.length) rfl hZ)) fun e10 h12 h13 => sN (sq (sq (Rg (kx (mvO rfl) (Rn (hA h12 (hA h13 (hV (.int .i64 0) rfl hZ))) fun e14 h16 h17 h18 => sN (bl (Ev.loop (RS := laws_toAccountS_b1_RS a1 x4 (([] : Mem).length)) (RR := laws_toAccountS_b1_RR a1 x4 (([] : Mem).length)) (fun s r h e M hs => laws_toAccountS_b1_ok a1 x4 (([] : Mem).length) s r h e M hs) hr68 ⟨h16, h17, h18, o9, rfl⟩ fun x e70 M71 hq69 => ?_))))))))
 clear h3 h12 h13
 obtain ⟨rfl, h73, o74, hl75⟩ := hq69
 obtain ⟨x79, hx80, h⟩ := bind_some h
 refine bE (sN (sq (Rg (kx (mvO h73) (kx (mvO rfl) (Rn (hV (.lsl ([] : Mem).length y72.length 0 y72.length) rfl hZ) fun e76 h78 => sN (xx ?_)))))))
 clear h73
 have o81 := un_obj AccountN.unc hx80 o74
 have hl82 := unL_len hx80
 have h83 := lslL (L' := x79.length) h78 hl82.symm
 obtain rfl := si h
 exact eR (resT h83 res0) (rr_row o81 rfl Account.fl)
/-! ### loop.example/g01263/spec.l01AmountText (f50) -/
noncomputable def spec_l01AmountText (a1 : Int) : Option ((List UInt8)) :=
 if (a1 == 0) = true then
  some ([48, 100] : List UInt8)
 else
  (quo .i64 a1 240).bind fun n12 =>
  (spec_l01Part ([] : List UInt8) n12 ([108] : List UInt8)).bind fun r15 =>
  (quo .i64 a1 12).bind fun n20 =>
  (rem .i64 n20 20).bind fun n22 =>
  (spec_l01Part r15 n22 ([115] : List UInt8)).bind fun r25 =>
  (rem .i64 a1 12).bind fun n30 =>
  (spec_l01Part r25 n30 ([100] : List UInt8)).bind fun r33 =>
  some r33
def spec_l01AmountText_enc (r : (List UInt8)) : AV := .str r
theorem spec_l01AmountText_ok (a1 : Int) (r : (List UInt8)) (h : spec_l01AmountText a1 = some r) : Ev (fun k => CN k 50 [.int .i64 a1] []) (fun p => rRes p.2 p.1 = spec_l01AmountText_enc r) := by
 unfold spec_l01AmountText at h
 refine Ev.enter (F := fun k => f50 (CN k) k) (fun k => callN_eq rfl Tryd.func50 rfl rfl rfl (by decide +kernel) (f50_eq _ _)) (sq (Rg (kx (mvO rfl) (Rn (hN rfl hZ) fun e1 h3 => sN (sq (sq (Rg (kx (mvO h3) (kx (bEql rfl rfl) (Rn (hA h3 (hN rfl hZ)) fun e4 h6 h7 => sN ?_))))))))))
 clear h3
 rcases ite_some h with ⟨hb8, h⟩ | ⟨hb8, h⟩
 ·refine cT h7 hb8 (sq (Rg (kx (mvO rfl) (Rn (hN rfl hZ) fun e9 h11 => sN (xx (sR ?_))))))
  clear h6 h7
  obtain rfl := si h
  exact eR (resT h11 res0) rfl
 obtain ⟨n12, hx13, h⟩ := bind_some h
 obtain ⟨r15, hx14, h⟩ := bind_some h
 obtain ⟨n20, hx21, h⟩ := bind_some h
 obtain ⟨n22, hx23, h⟩ := bind_some h
 obtain ⟨r25, hx24, h⟩ := bind_some h
 obtain ⟨n30, hx31, h⟩ := bind_some h
 obtain ⟨r33, hx32, h⟩ := bind_some h
 refine cF h7 hb8 (xx (sN (sq (Rg (kx (mvO h6) (kx (bQuo rfl rfl hx13) (kc (cl (v := .str r15) rfl (cns rfl (cns rfl (cns rfl rfl))) rfl (spec_l01Part_ok ([] : List UInt8) n12 ([108] : List UInt8) _ hx14) nm) (kx (mvO rfl) (Rn (hA h6 (hN rfl hZ)) fun e16 h18 h19 => sN (sq (Rg (kx (mvO h19) (kx (mvO h18) (kx (bQuo rfl rfl hx21) (kx (bRem rfl rfl hx23) (kc (cl (v := .str r25) rfl (cns rfl (cns rfl (cns rfl rfl))) rfl (spec_l01Part_ok r15 n22 ([115] : List UInt8) _ hx24) nm) (kx (mvO rfl) (Rn (hA h18 (hN rfl hZ)) fun e26 h28 h29 => sN (sq (Rg (kx (mvO h29) (kx (mvO h28) (kx (bRem rfl rfl hx31) (kc (cl (v := .str r33) rfl (cns rfl (cns rfl (cns rfl rfl))) rfl (spec_l01Part_ok r25 n30 ([100] : List UInt8) _ hx32) nm) (kx (mvO rfl) (Rn (hN rfl hZ) fun e34 h36 => sN (xx ?_)))))))))))))))))))))))))))
 clear h6 h7 h18 h28 h29
 obtain rfl := si h
 exact eR (resT h36 res0) rfl
/-! ### loop.example/g01263/spec.l05Roll (f48) -/
noncomputable def spec_l05Roll (a1 : Roll) : Option Bool :=
 if (decide ((a1.Accounts.length : Int) ≤ 20)) = true then
  (spec_l05Fault a1).bind fun r6 =>
  some (decide (r6 < 0))
 else
  some false
def spec_l05Roll_enc (r : Bool) : AV := .bool r
theorem spec_l05Roll_ok (a1 : Roll) (r : Bool) (h : spec_l05Roll a1 = some r) : Ev (fun k => CN k 48 [.pt none [.sl none (a1.Accounts.map Account.c), .int .i64 a1.Owed]] []) (fun p => rRes p.2 p.1 = spec_l05Roll_enc r) := by
 unfold spec_l05Roll at h
 refine Ev.enter (F := fun k => f48 (CN k) k) (fun k => callN_eq rfl Tryd.func48 rfl rfl rfl (by decide +kernel) (f48_eq _ _)) (sq (Rg (kx (mvO rfl) (Rn (hN rfl hZ) fun e1 h3 => sN (sq (Rg (kx (mvO h3) (kx (ncP rfl) (kx (faP rfl ⟨ble rfl, blt rfl⟩ rfl) (kx (ldP rfl rfl) (kx (lnS Tryd.underlying38 rfl) (kx (bLeq rfl rfl) (kx (mvO rfl) ?_)))))))))))))
 rcases ite_some h with ⟨hb4, h⟩ | ⟨hb4, h⟩
 ·obtain ⟨r6, hx5, h⟩ := bind_some h
  refine kx (guT rfl hb4 (mvO h3)) (kc (Ev.guT rfl hb4 (cl (v := .int .i64 r6) rfl (cns rfl rfl) rfl (spec_l05Fault_ok a1 _ hx5) nm)) (kx (guT rfl hb4 (bLss rfl rfl)) (kx (pkT rfl hb4 rfl) (kx (mvO rfl) (Rn (hN rfl hZ) fun e7 h9 => sN (xx ?_))))))
  clear h3
  obtain rfl := si h
  exact eR (resT h9 res0) rfl
 refine kx (gsT rfl hb4) (kc (Ev.gsT rfl hb4) (kx (gsT rfl hb4) (kx (pkF rfl hb4 rfl) (kx (mvO rfl) (Rn (hV (.bool false) rfl hZ) fun e10 h12 => sN (xx ?_))))))
 clear h3
 obtain rfl := si h
 exact eR (resT h12 res0) rfl
/-! ### loop.example/g01263/laws.szItemS (f37) -/
noncomputable def laws_szItemS (a1 : List Item) (a2 : Int) : Option Int :=
 if (decide ((IntKind.i64.wrap (a2 - (a1.length : Int))) < 0)) = true then
  some (-1)
 else
  some (IntKind.i64.wrap (a2 - (a1.length : Int)))
def laws_szItemS_enc (r : Int) : AV := .int .i64 r
theorem laws_szItemS_ok (a1 : List Item) (a2 : Int) (r : Int) (h : laws_szItemS a1 a2 = some r) : Ev (fun k => CN k 37 [.sl none (a1.map Item.c), .int .i64 a2] []) (fun p => rRes p.2 p.1 = laws_szItemS_enc r) := by
 unfold laws_szItemS at h
 refine Ev.enter (F := fun k => f37 (CN k) k) (fun k => callN_eq rfl Tryd.func37 rfl rfl rfl (by decide +kernel) (f37_eq _ _)) (sq (Rg (kx (mvO rfl) (Rn (hN rfl (hN rfl hZ)) fun e1 h3 h4 => sN (sq (Rg (kx (mvO h4) (kx (mvO h3) (kx (lnS Tryd.underlying22 rfl) (kx (bSub rfl rfl) (kx (mvO rfl) (Rn (hN rfl hZ) fun e5 h7 => sN (sq (sq (Rg (kx (mvO h7) (kx (bLss rfl rfl) (Rn (hA h7 (hN rfl hZ)) fun e8 h10 h11 => sN ?_))))))))))))))))))
 clear h3 h7
 rcases ite_some h with ⟨hb12, h⟩ | ⟨hb12, h⟩
 ·refine cT h11 hb12 (sq (Rg (kx (mvO rfl) (Rn (hV (.int .i64 (-1)) rfl hZ) fun e13 h15 => sN (xx (sR ?_))))))
  clear h10 h11
  obtain rfl := si h
  exact eR (resT h15 res0) rfl
 refine cF h11 hb12 (xx (sN (sq (Rg (kx (mvO h10) (kx (mvO rfl) (Rn (hN rfl hZ) fun e16 h18 => sN (xx ?_))))))))
 clear h10 h11
 obtain rfl := si h
 exact eR (resT h18 res0) rfl
/-! ### loop.example/g01263/laws.szAccount (f9) -/
noncomputable def laws_szAccount (a1 : Account) (a2 : Int) : Option Int :=
 if (decide ((IntKind.i64.wrap (a2 - (a1.Title.length : Int))) < 0)) = true then
  some (-1)
 else
  (laws_szItemS a1.Items (IntKind.i64.wrap (a2 - (a1.Title.length : Int)))).bind fun r19 =>
  if (decide (r19 < 0)) = true then
   some (-1)
  else
   some r19
def laws_szAccount_enc (r : Int) : AV := .int .i64 r
theorem laws_szAccount_ok (a1 : Account) (a2 : Int) (r : Int) (h : laws_szAccount a1 a2 = some r) : Ev (fun k => CN k 9 [.agg [.str a1.Title, .sl none (a1.Items.map Item.c), .int .i64 a1.Balance], .int .i64 a2] []) (fun p => rRes p.2 p.1 = laws_szAccount_enc r) := by
 unfold laws_szAccount at h
 refine Ev.enter (F := fun k => f9 (CN k) k) (fun k => callN_eq rfl Tryd.func9 rfl rfl rfl (by decide +kernel) (f9_eq _ _)) (sq (Rg (kx (bxI rfl rfl ⟨rfl, rfl, by decide⟩) (kx (mvO rfl) (Rn (hN rfl (hN rfl hZ)) fun e1 h3 h4 => sN (sq (Rg (kx (mvO h3) (kx (faP h4 ⟨ble rfl, blt rfl⟩ rfl) (kx (ldP rfl rfl) (kx (lnB Tryd.underlying9 rfl) (kx (bSub rfl rfl) (kx (mvO rfl) (Rn (hN rfl (hA h4 hZ)) fun e5 h7 h8 => sN (sq (sq (Rg (kx (mvO h7) (kx (bLss rfl rfl) (Rn (hA h7 (hA h8 (hN rfl hZ))) fun e9 h11 h12 h13 => sN ?_))))))))))))))))))))
 clear h4 h7 h8
 rcases ite_some h with ⟨hb14, h⟩ | ⟨hb14, h⟩
 ·refine cT h13 hb14 (sq (Rg (kx (mvO rfl) (Rn (hV (.int .i64 (-1)) rfl hZ) fun e15 h17 => sN (xx (sR ?_))))))
  clear h11 h12 h13
  obtain rfl := si h
  exact eR (resT h17 res0) rfl
 obtain ⟨r19, hx18, h⟩ := bind_some h
 refine cF h13 hb14 (xx (sN (sq (Rg (kx (faP h12 ⟨ble rfl, blt rfl⟩ rfl) (kx (ldP rfl rfl) (kx (mvO h11) (kc (cl (v := .int .i64 r19) rfl (cns rfl (cns rfl rfl)) rfl (laws_szItemS_ok a1.Items (IntKind.i64.wrap (a2 - (a1.Title.length : Int))) _ hx18) nm) (kx (mvO rfl) (Rn (hN rfl hZ) fun e20 h22 => sN (sq (sq (Rg (kx (mvO h22) (kx (bLss rfl rfl) (Rn (hA h22 (hN rfl hZ)) fun e23 h25 h26 => sN ?_))))))))))))))))
 clear h12 h13 h22
 rcases ite_some h with ⟨hb27, h⟩ | ⟨hb27, h⟩
 ·refine cT h26 hb27 (sq (Rg (kx (mvO rfl) (Rn (hV (.int .i64 (-1)) rfl hZ) fun e28 h30 => sN (xx (sR ?_))))))
  clear h25 h26
  obtain rfl := si h
  exact eR (resT h30 res0) rfl
 refine cF h26 hb27 (xx (sN (sq (Rg (kx (mvO h25) (kx (mvO rfl) (Rn (hN rfl hZ) fun e31 h33 => sN (xx ?_))))))))
 clear h25 h26
 obtain rfl := si h
 exact eR (resT h33 res0) rfl
/-! ### loop.example/g01263/laws.szAccountS (f47) -/
abbrev laws_szAccountS_b1_S := Int × Int
abbrev laws_szAccountS_b1_R := Unit ⊕ Int
def laws_szAccountS_b1_RS (a1 : List Account) (s : laws_szAccountS_b1_S) (e : Env) (M : Mem) : Prop := eget e 0 = .sl none (a1.map Account.c) ∧ eget e 1 = .int .i64 s.1 ∧ eget e 5 = .int .i64 s.2
def laws_szAccountS_b1_RR (a1 : List Account) (r : laws_szAccountS_b1_R) (x : Ex) (e : Env) (M : Mem) : Prop :=
  match r with
  | (.inl g) => x = .ret ∧ eget e 4 = .int .i64 (-1)
  | (.inr g) => x = .ext 0 ∧ eget e 1 = .int .i64 g
noncomputable def laws_szAccountS_b1 (a1 : List Account) : laws_szAccountS_b1_S → Option (laws_szAccountS_b1_S ⊕ laws_szAccountS_b1_R) := fun (s1_1, s1_2) =>
 if (decide (s1_2 < (a1.length : Int))) = true then
  (rd a1 s1_2).bind fun x46 =>
  (laws_szAccount x46 s1_1).bind fun r49 =>
  if (decide (r49 < 0)) = true then
   some (.inr (.inl ()))
  else
   some (.inl (r49, (IntKind.i64.wrap (s1_2 + 1))))
 else
  some (.inr (.inr s1_1))
theorem laws_szAccountS_b1_ok (a1 : List Account) (s : laws_szAccountS_b1_S) (r : laws_szAccountS_b1_S ⊕ laws_szAccountS_b1_R) (h : laws_szAccountS_b1 a1 s = some r) (e : Env) (M : Mem) (hs : laws_szAccountS_b1_RS a1 s e M) : Ev (fun k => (f47_l5 (CN k) k (prune [0, 1, 5] e) M).bind fun q => some q) (bQ (laws_szAccountS_b1_RS a1) (laws_szAccountS_b1_RR a1) r) := by
 obtain ⟨s1_1, s1_2⟩ := s
 unfold laws_szAccountS_b1 at h
 obtain ⟨h33, h35, h37⟩ := hs
 generalize he32 : prune [0, 1, 5] e = e31
 have h34 := envp he32.symm rfl h33
 have h36 := envp he32.symm rfl h35
 have h38 := envp he32.symm rfl h37
 refine sq (sq (Rg (kx (mvO h38) (kx (mvO h34) (kx (lnS Tryd.underlying33 rfl) (kx (bLss rfl rfl) (Rn (hV (.sl none (a1.map Account.c)) h34 (hV (.int .i64 s1_1) h36 (hV (.int .i64 s1_2) h38 (hN rfl hZ)))) fun e39 h41 h42 h43 h44 => sN ?_)))))))
 clear h34 h36 h38
 rcases ite_some h with ⟨hb45, h⟩ | ⟨hb45, h⟩
 ·obtain ⟨x46, hx47, h⟩ := bind_some h
  obtain ⟨r49, hx48, h⟩ := bind_some h
  refine cT h44 hb45 (xx (sN (sq (bl (sq (Rg (kx (mvO h41) (kx (mvO h43) (kx (ixS rfl rfl hx47 Account.fl) (kx (ldPA rfl rfl rfl) (kx (mvO h42) (kc (cl (v := .int .i64 r49) rfl (cns rfl (cns rfl rfl)) rfl (laws_szAccount_ok x46 s1_1 _ hx48) nm) (kx (mvO rfl) (Rn (hA h41 (hN rfl (hA h43 hZ))) fun e50 h52 h53 h54 => sN (sq (Rg (kx (mvO h53) (kx (bLss rfl rfl) (Rn (hA h52 (hA h53 (hA h54 (hN rfl hZ)))) fun e55 h57 h58 h59 h60 => sN ?_)))))))))))))))))))
  clear h41 h43 h44 h52 h53 h54
  rcases ite_some h with ⟨hb61, h⟩ | ⟨hb61, h⟩
  ·refine cT h60 hb61 (sq (Rg (kx (mvO rfl) (Rn (hV (.int .i64 (-1)) rfl hZ) fun e62 h64 => sN (xx (bR (sR ?_)))))))
   clear h57 h58 h59 h60
   obtain rfl := si h
   exact qR ⟨rfl, h64⟩
  refine cF h60 hb61 (xx (bN (sN (Rg (kx (mvO h59) (kx (bAdd rfl rfl) (kx (mvO rfl) (Rn (hA h57 (hA h58 (hN rfl hZ))) fun e65 h67 h68 h69 => ?_))))))))
  clear h57 h58 h60
  obtain rfl := si h
  exact qN ⟨h67, h68, h69⟩
 refine cF h44 hb45 (xx (sE ?_))
 obtain rfl := si h
 exact qE ⟨rfl, h42⟩
noncomputable def laws_szAccountS (a1 : List Account) (a2 : Int) : Option Int :=
 if (decide ((IntKind.i64.wrap (a2 - (a1.length : Int))) < 0)) = true then
  some (-1)
 else
  (Lw (laws_szAccountS_b1 a1) ((IntKind.i64.wrap (a2 - (a1.length : Int))), 0)).bind fun r => match r with
  | (.inl _) =>
   some (-1)
  | (.inr y78) =>
   some y78
def laws_szAccountS_enc (r : Int) : AV := .int .i64 r
theorem laws_szAccountS_ok (a1 : List Account) (a2 : Int) (r : Int) (h : laws_szAccountS a1 a2 = some r) : Ev (fun k => CN k 47 [.sl none (a1.map Account.c), .int .i64 a2] []) (fun p => rRes p.2 p.1 = laws_szAccountS_enc r) := by
 unfold laws_szAccountS at h
 refine Ev.enter (F := fun k => f47 (CN k) k) (fun k => callN_eq rfl Tryd.func47 rfl rfl rfl (by decide +kernel) (f47_eq _ _)) (sq (Rg (kx (mvO rfl) (Rn (hN rfl (hN rfl hZ)) fun e1 h3 h4 => sN (sq (Rg (kx (mvO h4) (kx (mvO h3) (kx (lnS Tryd.underlying33 rfl) (kx (bSub rfl rfl) (kx (mvO rfl) (Rn (hA h3 (hN rfl hZ)) fun e5 h7 h8 => sN (sq (sq (Rg (kx (mvO h8) (kx (bLss rfl rfl) (Rn (hA h7 (hA h8 (hN rfl hZ))) fun e9 h11 h12 h13 => sN ?_))))))))))))))))))
 clear h3 h7 h8
 rcases ite_some h with ⟨hb14, h⟩ | ⟨hb14, h⟩
 ·refine cT h13 hb14 (sq (Rg (kx (mvO rfl) (Rn (hV (.int .i64 (-1)) rfl hZ) fun e15 h17 => sN (xx (sR ?_))))))
  clear h11 h12 h13
  obtain rfl := si h
  exact eR (resT h17 res0) rfl
 obtain ⟨r70, hr71, h⟩ := bind_some h
 refine cF h13 hb14 (xx (sN (sq (sq (Rg (kx (mvO rfl) (Rn (hA h11 (hA h12 (hV (.int .i64 0) rfl hZ))) fun e18 h20 h21 h22 => sN (bl ?_))))))))
 clear h11 h12 h13
 rcases r70 with _ | y78
 ·refine Ev.loop (RS := laws_szAccountS_b1_RS a1) (RR := laws_szAccountS_b1_RR a1) (fun s r h e M hs => laws_szAccountS_b1_ok a1 s r h e M hs) hr71 ⟨h20, h21, h22⟩ fun x e73 M74 hq72 => ?_
  obtain ⟨rfl, h75⟩ := hq72
  refine bR (sR ?_)
  obtain rfl := si h
  exact eR (resT h75 res0) rfl
 refine Ev.loop (RS := laws_szAccountS_b1_RS a1) (RR := laws_szAccountS_b1_RR a1) (fun s r h e M hs => laws_szAccountS_b1_ok a1 s r h e M hs) hr71 ⟨h20, h21, h22⟩ fun x e76 M77 hq72 => ?_
 obtain ⟨rfl, h79⟩ := hq72
 refine bE (sN (sq (Rg (kx (mvO h79) (kx (mvO rfl) (Rn (hN rfl hZ) fun e80 h82 => sN (xx ?_)))))))
 clear h79
 obtain rfl := si h
 exact eR (resT h82 res0) rfl
/-! ### strings.Join (f91), by its contract -/
noncomputable def strings_Join (a1 : List (List UInt8)) (a2 : List UInt8) : Option ((List UInt8)) := joinI a1 a2
def strings_Join_enc (r : (List UInt8)) : AV := .str r
theorem strings_Join_ok (a1 : List (List UInt8)) (a2 : List UInt8) (r : (List UInt8)) (h : strings_Join a1 a2 = some r) : Ev (fun k => CN k 91 [.sl none (a1.map cS), .str a2] []) (fun p => rRes p.2 p.1 = strings_Join_enc r) := Ev.lib rfl rfl (lib_join h) rfl
/-! ### loop.example/g01263/impl.AmountText (f45) -/
abbrev impl_AmountText_b1_S := Int × (List (List UInt8))
abbrev impl_AmountText_b1_R := (List (List UInt8))
def impl_AmountText_b1_RS (n27 : Int) (n31 : Int) (n33 : Int) (i1_1 : Nat) (s : impl_AmountText_b1_S) (e : Env) (M : Mem) : Prop := eget e 3 = .lsl i1_1 s.2.length 0 s.2.length ∧ eget e 19 = .lit 2 ([n27, n31, n33].map (cI .i64)) ∧ eget e 20 = .int .i64 ([n27, n31, n33].length : Int) ∧ eget e 21 = .int .i64 s.1 ∧ M[i1_1]? = some (.live ⟨.grow, 9, 1, s.2.map cS⟩)
def impl_AmountText_b1_RR (n27 : Int) (n31 : Int) (n33 : Int) (i1_1 : Nat) (g : impl_AmountText_b1_R) (x : Ex) (e : Env) (M : Mem) : Prop := x = .ext 0 ∧ eget e 3 = .lsl i1_1 g.length 0 g.length ∧ M[i1_1]? = some (.live ⟨.grow, 9, 1, g.map cS⟩)
noncomputable def impl_AmountText_b1 (n27 : Int) (n31 : Int) (n33 : Int) : impl_AmountText_b1_S → Option (impl_AmountText_b1_S ⊕ impl_AmountText_b1_R) := fun (s1_1, s1_2) =>
 if (decide (s1_1 < ([n27, n31, n33].length : Int))) = true then
  (rd [n27, n31, n33] s1_1).bind fun x71 =>
  if (decide (x71 > 0)) = true then
   (impl_decimal x71).bind fun r92 =>
   (slc ([108, 115, 100] : List UInt8) s1_1 (IntKind.i64.wrap (s1_1 + 1))).bind fun x93 =>
   (sadd r92 x93).bind fun w95 =>
   (app 16 s1_2 [w95]).bind fun x97 =>
   some (.inl ((IntKind.i64.wrap (s1_1 + 1)), x97))
  else
   some (.inl ((IntKind.i64.wrap (s1_1 + 1)), s1_2))
 else
  some (.inr s1_2)
theorem impl_AmountText_b1_ok (n27 : Int) (n31 : Int) (n33 : Int) (i1_1 : Nat) (s : impl_AmountText_b1_S) (r : impl_AmountText_b1_S ⊕ impl_AmountText_b1_R) (h : impl_AmountText_b1 n27 n31 n33 s = some r) (e : Env) (M : Mem) (hs : impl_AmountText_b1_RS n27 n31 n33 i1_1 s e M) : Ev (fun k => (f45_l7 (CN k) k (prune [3, 19, 20, 21] e) M).bind fun q => some q) (bQ (impl_AmountText_b1_RS n27 n31 n33 i1_1) (impl_AmountText_b1_RR n27 n31 n33 i1_1) r) := by
 obtain ⟨s1_1, s1_2⟩ := s
 unfold impl_AmountText_b1 at h
 obtain ⟨h54, h56, h58, h60, o62⟩ := hs
 generalize he53 : prune [3, 19, 20, 21] e = e52
 have h55 := envp he53.symm rfl h54
 have h57 := envp he53.symm rfl h56
 have h59 := envp he53.symm rfl h58
 have h61 := envp he53.symm rfl h60
 refine sq (Rg (kx (bLss h61 h59) (Rn (hV (.lsl i1_1 s1_2.length 0 s1_2.length) h55 (hV (.lit 2 ([n27, n31, n33].map (cI .i64))) h57 (hV (.int .i64 ([n27, n31, n33].length : Int)) h59 (hV (.int .i64 s1_1) h61 (hN rfl hZ))))) fun e63 h65 h66 h67 h68 h69 => sN (sq ?_))))
 clear h55 h57 h59 h61
 rcases ite_some h with ⟨hb70, h⟩ | ⟨hb70, h⟩
 ·obtain ⟨x71, hx72, h⟩ := bind_some h
  refine cT h69 hb70 (xx (sN (sq (bl (sq (Rg (kx (mvO h68) (kx (ixLt h66 h68 hx72 (cI_fl _)) (kx (ldP rfl rfl) (kx (mvO rfl) (kx (mvO rfl) (Rn (hA h65 (hN rfl (hN rfl (hA h66 (hA h67 (hA h68 hZ)))))) fun e73 h75 h76 h77 h78 h79 h80 => sN (sq (Rg (kx (mvO h77) (kx (bGtr rfl rfl) (Rn (hA h75 (hA h76 (hA h77 (hA h78 (hA h79 (hA h80 (hN rfl hZ))))))) fun e81 h83 h84 h85 h86 h87 h88 h89 => sN ?_)))))))))))))))))
  clear h65 h66 h67 h68 h69 h75 h76 h77 h78 h79 h80
  rcases ite_some h with ⟨hb90, h⟩ | ⟨hb90, h⟩
  ·obtain ⟨r92, hx91, h⟩ := bind_some h
   obtain ⟨x93, hx94, h⟩ := bind_some h
   obtain ⟨w95, hx96, h⟩ := bind_some h
   obtain ⟨x97, hx98, h⟩ := bind_some h
   refine cT h89 hb90 (Rd (kf (mvO h83) (kf (mvO h85) (fc (cl (v := .str r92) rfl (cns rfl rfl) rfl (impl_decimal_ok x71 _ hx91) nm) (kf (mvO h84) (kf (mvO h84) (kf (bAdd rfl rfl) (kf (ssl2 rfl (bnd1 rfl) (bnd1 rfl) hx94) (kf (sAdd rfl rfl hx96) (kf (litI (cns rfl rfl) rfl ⟨rfl, by decide⟩) (fZ (kw (apO rfl o62 rfl (elT (c := cS) (xs := [w95]) rfl) hx98 cS_fl (by decide)) fun M99 hM100 => ?_))))))))))))
   have o101 : M99[i1_1]? = some (.live ⟨.grow, 9, 1, x97.map cS⟩) := set_same hM100 o62
   refine kx (mvO rfl) (Rn (hV (.lsl i1_1 x97.length 0 x97.length) rfl (hA h86 (hA h87 (hA h88 hZ)))) fun e102 h104 h105 h106 h107 => bN (sN (Rg (kx (bAdd h107 rfl) (kx (mvO rfl) (Rn (hA h104 (hA h105 (hA h106 (hN rfl hZ)))) fun e108 h110 h111 h112 h113 => ?_))))))
   clear h84 h85 h86 h87 h88 h89 h104 h105 h106
   obtain rfl := si h
   exact qN ⟨h110, h111, h112, h113, o101⟩
  refine cF h89 hb90 (xx (bN (sN (Rg (kx (bAdd h88 rfl) (kx (mvO rfl) (Rn (hA h83 (hA h86 (hA h87 (hN rfl hZ)))) fun e114 h116 h117 h118 h119 => ?_)))))))
  clear h83 h84 h85 h86 h87 h89
  obtain rfl := si h
  exact qN ⟨h116, h117, h118, h119, o62⟩
 refine cF h69 hb70 (xx (sE ?_))
 obtain rfl := si h
 exact qE ⟨rfl, h65, o62⟩
noncomputable def impl_AmountText (a1 : Int) : Option ((List UInt8)) :=
 (impl_isAmount a1).bind fun r5 =>
 if r5 = true then
  if (a1 == 0) = true then
   some ([48, 100] : List UInt8)
  else
   (quo .i64 a1 240).bind fun n27 =>
   (quo .i64 a1 12).bind fun n29 =>
   (rem .i64 n29 20).bind fun n31 =>
   (rem .i64 a1 12).bind fun n33 =>
   (Lw (impl_AmountText_b1 n27 n31 n33) (0, ([] : List (List UInt8)))).bind fun y125 =>
   (strings_Join y125 ([32] : List UInt8)).bind fun r129 =>
   some r129
 else
  some ([] : List UInt8)
def impl_AmountText_enc (r : (List UInt8)) : AV := .str r
theorem impl_AmountText_ok (a1 : Int) (r : (List UInt8)) (h : impl_AmountText a1 = some r) : Ev (fun k => CN k 45 [.int .i64 a1] []) (fun p => rRes p.2 p.1 = impl_AmountText_enc r) := by
 unfold impl_AmountText at h
 obtain ⟨r5, hx4, h⟩ := bind_some h
 refine Ev.enter (F := fun k => f45 (CN k) k) (fun k => callN_eq rfl Tryd.func45 rfl rfl rfl (by decide +kernel) (f45_eq _ _)) (sq (Rg (kx (mvO rfl) (Rn (hN rfl hZ) fun e1 h3 => sN (sq (sq (Rg (kx (mvO h3) (kc (cl (v := .bool r5) rfl (cns rfl rfl) rfl (impl_isAmount_ok a1 _ hx4) nm) (kx (uNot rfl) (Rn (hA h3 (hN rfl hZ)) fun e6 h8 h9 => sN ?_)))))))))))
 clear h3
 rcases ite_some h with ⟨hb10, h⟩ | ⟨hb10, h⟩
 ·refine cF h9 (congrArg Bool.not hb10) (xx (sN (sq (sq (Rg (kx (mvO h8) (kx (bEql rfl rfl) (Rn (hA h8 (hN rfl hZ)) fun e11 h13 h14 => sN ?_))))))))
  clear h8 h9
  rcases ite_some h with ⟨hb15, h⟩ | ⟨hb15, h⟩
  ·refine cT h14 hb15 (sq (Rg (kx (mvO rfl) (Rn (hN rfl hZ) fun e16 h18 => sN (xx (sR ?_))))))
   clear h13 h14
   obtain rfl := si h
   exact eR (resT h18 res0) rfl
  refine cF h14 hb15 (xx (sN (sq (Rg (ku (litO (xs := ([] : List (List UInt8))) (c := cS) rfl rfl (by decide)) fun M20 hM21 => ?_)))))
  have o22 : M20[([] : Mem).length]? = some (.live ⟨.grow, 9, 1, ([] : List (List UInt8)).map cS⟩) := push_new hM21
  obtain ⟨n27, hx28, h⟩ := bind_some h
  obtain ⟨n29, hx30, h⟩ := bind_some h
  obtain ⟨n31, hx32, h⟩ := bind_some h
  obtain ⟨n33, hx34, h⟩ := bind_some h
  obtain ⟨y125, hr121, h⟩ := bind_some h
  refine kx (mvO rfl) (Rn (hA h13 (hV (.lsl ([] : Mem).length ([] : List (List UInt8)).length 0 ([] : List (List UInt8)).length) rfl hZ)) fun e23 h25 h26 => sN (sq (sq (Rg (kx (mvO h25) (kx (bQuo rfl rfl hx28) (kx (mvO h25) (kx (bQuo rfl rfl hx30) (kx (bRem rfl rfl hx32) (kx (mvO h25) (kx (bRem rfl rfl hx34) (kx (litI (cns rfl (cns rfl (cns rfl rfl))) rfl ⟨rfl, by decide⟩) (kx (lnT (c := (cI .i64)) (xs := [n27, n31, n33]) Tryd.underlying136 rfl) (kx (mvO rfl) (Rn (hA h26 (hN rfl (hN rfl (hV (.int .i64 0) rfl hZ)))) fun e35 h37 h38 h39 h40 => sN (bl (Ev.loop (RS := impl_AmountText_b1_RS n27 n31 n33 (([] : Mem).length)) (RR := impl_AmountText_b1_RR n27 n31 n33 (([] : Mem).length)) (fun s r h e M hs => impl_AmountText_b1_ok n27 n31 n33 (([] : Mem).length) s r h e M hs) hr121 ⟨h37, h38, h39, h40, o22⟩ fun x e123 M124 hq122 => ?_)))))))))))))))))
  clear h13 h14 h25 h26
  obtain ⟨rfl, h126, o127⟩ := hq122
  obtain ⟨r129, hx128, h⟩ := bind_some h
  refine bE (sN (sq (Rg (kx (mvO h126) (kc (cl (v := .str r129) rfl (cns rfl (cns rfl rfl)) (ra1 (ra1_row o127 rfl cS_fl) (ra1 rfl ra0)) (strings_Join_ok y125 ([32] : List UInt8) _ hx128) (fun _ => rfl)) (kx (mvO rfl) (Rn (hN rfl hZ) fun e130 h132 => sN (xx ?_))))))))
  clear h126
  obtain rfl := si h
  exact eR (resT h132 res0) rfl
 refine cT h9 (congrArg Bool.not hb10) (sq (Rg (kx (mvO rfl) (Rn (hN rfl hZ) fun e133 h135 => sN (xx (sR ?_))))))
 clear h8 h9
 obtain rfl := si h
 exact eR (resT h135 res0) rfl
/-! ### loop.example/g01263/impl.itemWords (f44) -/
noncomputable def impl_itemWords : Option ((List (List UInt8))) :=
 some [([102, 97, 114, 109] : List UInt8), ([100, 101, 98, 116] : List UInt8), ([112, 97, 105, 100] : List UInt8), ([97, 108, 108, 111, 119, 101, 100] : List UInt8)]
def impl_itemWords_enc (r : (List (List UInt8))) : AV := .sl (some 9) (r.map cS)
theorem impl_itemWords_ok (r : (List (List UInt8))) (h : impl_itemWords = some r) : Ev (fun k => CN k 44 [] []) (fun p => rRes p.2 p.1 = impl_itemWords_enc r) := by
 unfold impl_itemWords at h
 refine Ev.enter (F := fun k => f44 (CN k) k) (fun k => callN_eq rfl Tryd.func44 rfl rfl rfl (by decide +kernel) (f44_eq _ _)) (sq (Rg (kx (mvO rfl) (Rn hZ fun e1 => sN (sq (Rg (kx (litI (cns rfl (cns rfl (cns rfl (cns rfl rfl)))) rfl ⟨rfl, by decide⟩) (kx (mvO rfl) (Rn (hN rfl hZ) fun e3 h5 => sN (xx ?_))))))))))
 obtain rfl := si h
 exact eR (resT h5 res0) rfl
/-! ### loop.example/g01263/impl.size (f43) -/
noncomputable def impl_size (a1 : Int) : Option Int :=
 some (max a1 (IntKind.i64.wrap (0 - a1)))
def impl_size_enc (r : Int) : AV := .int .i64 r
theorem impl_size_ok (a1 : Int) (r : Int) (h : impl_size a1 = some r) : Ev (fun k => CN k 43 [.int .i64 a1] []) (fun p => rRes p.2 p.1 = impl_size_enc r) := by
 unfold impl_size at h
 refine Ev.enter (F := fun k => f43 (CN k) k) (fun k => callN_eq rfl Tryd.func43 rfl rfl rfl (by decide +kernel) (f43_eq _ _)) (sq (Rg (kx (mvO rfl) (Rn (hN rfl hZ) fun e1 h3 => sN (sq (Rg (kx (mvO h3) (kx (mvO h3) (kx (uNeg rfl) (kx (bMax rfl rfl) (kx (mvO rfl) (Rn (hN rfl hZ) fun e4 h6 => sN (xx ?_)))))))))))))
 clear h3
 obtain rfl := si h
 exact eR (resT h6 res0) rfl
/-! ### loop.example/g01263/spec.l05Text (f39) -/
abbrev spec_l05Text_b1_S := (List UInt8) × Int
abbrev spec_l05Text_b1_R := (List UInt8)
def spec_l05Text_b1_RS (a1 : Account) (s : spec_l05Text_b1_S) (e : Env) (M : Mem) : Prop := eget e 0 = .pt none [.str a1.Title, .sl none (a1.Items.map Item.c), .int .i64 a1.Balance] ∧ eget e 3 = .str s.1 ∧ eget e 4 = .int .i64 s.2
def spec_l05Text_b1_RR (a1 : Account) (g : spec_l05Text_b1_R) (x : Ex) (e : Env) (M : Mem) : Prop := x = .ext 0 ∧ eget e 0 = .pt none [.str a1.Title, .sl none (a1.Items.map Item.c), .int .i64 a1.Balance] ∧ eget e 3 = .str g
noncomputable def spec_l05Text_b1 (a1 : Account) : spec_l05Text_b1_S → Option (spec_l05Text_b1_S ⊕ spec_l05Text_b1_R) := fun (s1_1, s1_2) =>
 if (decide (s1_2 < (a1.Items.length : Int))) = true then
  (spec_l05Words).bind fun r39 =>
  (rd a1.Items s1_2).bind fun x40 =>
  (rd r39 x40.Kind).bind fun x42 =>
  (sadd x42 ([32] : List UInt8)).bind fun w44 =>
  (rd a1.Items s1_2).bind fun x46 =>
  (spec_l01AmountText x46.Amount).bind fun r49 =>
  (sadd w44 r49).bind fun w50 =>
  (sadd w50 ([10] : List UInt8)).bind fun w52 =>
  (sadd s1_1 w52).bind fun w54 =>
  some (.inl (w54, (IntKind.i64.wrap (s1_2 + 1))))
 else
  some (.inr s1_1)
theorem spec_l05Text_b1_ok (a1 : Account) (s : spec_l05Text_b1_S) (r : spec_l05Text_b1_S ⊕ spec_l05Text_b1_R) (h : spec_l05Text_b1 a1 s = some r) (e : Env) (M : Mem) (hs : spec_l05Text_b1_RS a1 s e M) : Ev (fun k => (f39_l3 (CN k) k (prune [0, 3, 4] e) M).bind fun q => some q) (bQ (spec_l05Text_b1_RS a1) (spec_l05Text_b1_RR a1) r) := by
 obtain ⟨s1_1, s1_2⟩ := s
 unfold spec_l05Text_b1 at h
 obtain ⟨h25, h27, h29⟩ := hs
 generalize he24 : prune [0, 3, 4] e = e23
 have h26 := envp he24.symm rfl h25
 have h28 := envp he24.symm rfl h27
 have h30 := envp he24.symm rfl h29
 refine sq (sq (Rg (kx (mvO h30) (kx (mvO h26) (kx (ncP rfl) (kx (faP rfl ⟨ble rfl, blt rfl⟩ rfl) (kx (ldP rfl rfl) (kx (lnS Tryd.underlying27 rfl) (kx (bLss rfl rfl) (Rn (hV (.pt none [.str a1.Title, .sl none (a1.Items.map Item.c), .int .i64 a1.Balance]) h26 (hV (.str s1_1) h28 (hV (.int .i64 s1_2) h30 (hN rfl hZ)))) fun e31 h33 h34 h35 h36 => sN ?_))))))))))
 clear h26 h28 h30
 rcases ite_some h with ⟨hb37, h⟩ | ⟨hb37, h⟩
 ·obtain ⟨r39, hx38, h⟩ := bind_some h
  obtain ⟨x40, hx41, h⟩ := bind_some h
  obtain ⟨x42, hx43, h⟩ := bind_some h
  obtain ⟨w44, hx45, h⟩ := bind_some h
  obtain ⟨x46, hx47, h⟩ := bind_some h
  obtain ⟨r49, hx48, h⟩ := bind_some h
  obtain ⟨w50, hx51, h⟩ := bind_some h
  obtain ⟨w52, hx53, h⟩ := bind_some h
  obtain ⟨w54, hx55, h⟩ := bind_some h
  refine cT h36 hb37 (xx (sN (sq (bl (Rd (kf (mvO h34) (fc (cl (v := .sl (some 9) (r39.map cS)) rfl rfl rfl (spec_l05Words_ok  _ hx38) nm) (kf (mvO h33) (kf (ncP rfl) (kf (faP rfl ⟨ble rfl, blt rfl⟩ rfl) (kf (ldP rfl rfl) (kf (mvO h35) (kf (ixS rfl rfl hx41 Item.fl) (kf (faP rfl ⟨ble rfl, blt rfl⟩ rfl) (kf (ldP rfl rfl) (kf (ixS rfl rfl hx43 cS_fl) (kf (ldP rfl rfl) (kf (sAdd rfl rfl hx45) (kf (mvO h33) (kf (ncP rfl) (kf (faP rfl ⟨ble rfl, blt rfl⟩ rfl) (kf (ldP rfl rfl) (kf (mvO h35) (kf (ixS rfl rfl hx47 Item.fl) (kf (faP rfl ⟨ble rfl, blt rfl⟩ rfl) (kf (ldP rfl rfl) (fc (cl (v := .str r49) rfl (cns rfl rfl) rfl (spec_l01AmountText_ok x46.Amount _ hx48) nm) (kf (sAdd rfl rfl hx51) (kf (sAdd rfl rfl hx53) (kf (sAdd rfl rfl hx55) (kf (mvO rfl) (fZ (Rn (hA h33 (hN rfl (hA h35 hZ))) fun e56 h58 h59 h60 => bN (sN (Rg (kx (mvO h60) (kx (bAdd rfl rfl) (kx (mvO rfl) (Rn (hA h58 (hA h59 (hN rfl hZ))) fun e61 h63 h64 h65 => ?_)))))))))))))))))))))))))))))))))))))))
  clear h33 h35 h36 h58 h59
  obtain rfl := si h
  exact qN ⟨h63, h64, h65⟩
 refine cF h36 hb37 (xx (sE ?_))
 obtain rfl := si h
 exact qE ⟨rfl, h33, h34⟩
noncomputable def spec_l05Text (a1 : Account) : Option ((List UInt8)) :=
 (sadd a1.Title ([10] : List UInt8)).bind fun w4 =>
 (Lw (spec_l05Text_b1 a1) (w4, 0)).bind fun y71 =>
 if (decide (a1.Balance > 0)) = true then
  (sadd y71 ([111, 119, 101, 115, 32] : List UInt8)).bind fun w80 =>
  (spec_l01AmountText a1.Balance).bind fun r83 =>
  (sadd w80 r83).bind fun w84 =>
  (sadd w84 ([10] : List UInt8)).bind fun w86 =>
  some w86
 else
  if (decide (a1.Balance < 0)) = true then
   (sadd y71 ([111, 118, 101, 114, 32] : List UInt8)).bind fun w97 =>
   (spec_l01AmountText (IntKind.i64.wrap (0 - a1.Balance))).bind fun r100 =>
   (sadd w97 r100).bind fun w101 =>
   (sadd w101 ([10] : List UInt8)).bind fun w103 =>
   some w103
  else
   (sadd y71 ([113, 117, 105, 116, 10] : List UInt8)).bind fun w108 =>
   some w108
def spec_l05Text_enc (r : (List UInt8)) : AV := .str r
theorem spec_l05Text_ok (a1 : Account) (r : (List UInt8)) (h : spec_l05Text a1 = some r) : Ev (fun k => CN k 39 [.pt none [.str a1.Title, .sl none (a1.Items.map Item.c), .int .i64 a1.Balance]] []) (fun p => rRes p.2 p.1 = spec_l05Text_enc r) := by
 unfold spec_l05Text at h
 obtain ⟨w4, hx5, h⟩ := bind_some h
 obtain ⟨y71, hr67, h⟩ := bind_some h
 refine Ev.enter (F := fun k => f39 (CN k) k) (fun k => callN_eq rfl Tryd.func39 rfl rfl rfl (by decide +kernel) (f39_eq _ _)) (sq (Rg (kx (mvO rfl) (Rn (hN rfl hZ) fun e1 h3 => sN (sq (Rg (kx (mvO h3) (kx (ncP rfl) (kx (faP rfl ⟨ble rfl, blt rfl⟩ rfl) (kx (ldP rfl rfl) (kx (sAdd rfl rfl hx5) (kx (mvO rfl) (Rn (hA h3 (hN rfl hZ)) fun e6 h8 h9 => sN (sq (sq (Rg (kx (mvO rfl) (Rn (hA h8 (hA h9 (hV (.int .i64 0) rfl hZ))) fun e10 h12 h13 h14 => sN (bl (Ev.loop (RS := spec_l05Text_b1_RS a1) (RR := spec_l05Text_b1_RR a1) (fun s r h e M hs => spec_l05Text_b1_ok a1 s r h e M hs) hr67 ⟨h12, h13, h14⟩ fun x e69 M70 hq68 => ?_))))))))))))))))))))
 clear h3 h8 h9
 obtain ⟨rfl, h72, h73⟩ := hq68
 refine bE (sN (sq (sq (Rg (kx (mvO h72) (kx (ncP rfl) (kx (faP rfl ⟨ble rfl, blt rfl⟩ rfl) (kx (ldP rfl rfl) (kx (bGtr rfl rfl) (Rn (hV (.pt none [.str a1.Title, .sl none (a1.Items.map Item.c), .int .i64 a1.Balance]) h72 (hV (.str y71) h73 (hN rfl hZ))) fun e74 h76 h77 h78 => sN ?_))))))))))
 clear h72 h73
 rcases ite_some h with ⟨hb79, h⟩ | ⟨hb79, h⟩
 ·obtain ⟨w80, hx81, h⟩ := bind_some h
  obtain ⟨r83, hx82, h⟩ := bind_some h
  obtain ⟨w84, hx85, h⟩ := bind_some h
  obtain ⟨w86, hx87, h⟩ := bind_some h
  refine cT h78 hb79 (sq (Rg (kx (mvO h77) (kx (sAdd rfl rfl hx81) (kx (mvO h76) (kx (ncP rfl) (kx (faP rfl ⟨ble rfl, blt rfl⟩ rfl) (kx (ldP rfl rfl) (kc (cl (v := .str r83) rfl (cns rfl rfl) rfl (spec_l01AmountText_ok a1.Balance _ hx82) nm) (kx (sAdd rfl rfl hx85) (kx (sAdd rfl rfl hx87) (kx (mvO rfl) (Rn (hN rfl hZ) fun e88 h90 => sN (xx (sR ?_)))))))))))))))
  clear h76 h77 h78
  obtain rfl := si h
  exact eR (resT h90 res0) rfl
 refine cF h78 hb79 (xx (sN (sq (sq (Rg (kx (mvO h76) (kx (ncP rfl) (kx (faP rfl ⟨ble rfl, blt rfl⟩ rfl) (kx (ldP rfl rfl) (kx (bLss rfl rfl) (Rn (hA h76 (hA h77 (hN rfl hZ))) fun e91 h93 h94 h95 => sN ?_)))))))))))
 clear h76 h77 h78
 rcases ite_some h with ⟨hb96, h⟩ | ⟨hb96, h⟩
 ·obtain ⟨w97, hx98, h⟩ := bind_some h
  obtain ⟨r100, hx99, h⟩ := bind_some h
  obtain ⟨w101, hx102, h⟩ := bind_some h
  obtain ⟨w103, hx104, h⟩ := bind_some h
  refine cT h95 hb96 (sq (Rg (kx (mvO h94) (kx (sAdd rfl rfl hx98) (kx (mvO h93) (kx (ncP rfl) (kx (faP rfl ⟨ble rfl, blt rfl⟩ rfl) (kx (ldP rfl rfl) (kx (uNeg rfl) (kc (cl (v := .str r100) rfl (cns rfl rfl) rfl (spec_l01AmountText_ok (IntKind.i64.wrap (0 - a1.Balance)) _ hx99) nm) (kx (sAdd rfl rfl hx102) (kx (sAdd rfl rfl hx104) (kx (mvO rfl) (Rn (hN rfl hZ) fun e105 h107 => sN (xx (sR ?_))))))))))))))))
  clear h93 h94 h95
  obtain rfl := si h
  exact eR (resT h107 res0) rfl
 obtain ⟨w108, hx109, h⟩ := bind_some h
 refine cF h95 hb96 (xx (sN (sq (Rg (kx (mvO h94) (kx (sAdd rfl rfl hx109) (kx (mvO rfl) (Rn (hN rfl hZ) fun e110 h112 => sN (xx ?_)))))))))
 clear h93 h94 h95
 obtain rfl := si h
 exact eR (resT h112 res0) rfl
/-! ### loop.example/g01263/spec.l05Plain (f38) -/
noncomputable def spec_l05Plain (a1 : Account) : Option Bool :=
 (spec_l05Right a1).bind fun r5 =>
 if r5 = true then
  (spec_l00In a1.Balance (-100000000) 100000000).bind fun r8 =>
  some r8
 else
  some false
def spec_l05Plain_enc (r : Bool) : AV := .bool r
theorem spec_l05Plain_ok (a1 : Account) (r : Bool) (h : spec_l05Plain a1 = some r) : Ev (fun k => CN k 38 [.pt none [.str a1.Title, .sl none (a1.Items.map Item.c), .int .i64 a1.Balance]] []) (fun p => rRes p.2 p.1 = spec_l05Plain_enc r) := by
 unfold spec_l05Plain at h
 obtain ⟨r5, hx4, h⟩ := bind_some h
 refine Ev.enter (F := fun k => f38 (CN k) k) (fun k => callN_eq rfl Tryd.func38 rfl rfl rfl (by decide +kernel) (f38_eq _ _)) (sq (Rg (kx (mvO rfl) (Rn (hN rfl hZ) fun e1 h3 => sN (sq (Rg (kx (mvO h3) (kc (cl (v := .bool r5) rfl (cns rfl rfl) rfl (spec_l05Right_ok a1 _ hx4) nm) (kx (mvO rfl) ?_)))))))))
 rcases ite_some h with ⟨hb6, h⟩ | ⟨hb6, h⟩
 ·obtain ⟨r8, hx7, h⟩ := bind_some h
  refine kx (guT rfl hb6 (mvO h3)) (kx (guT rfl hb6 (ncP rfl)) (kx (guT rfl hb6 (faP rfl ⟨ble rfl, blt rfl⟩ rfl)) (kx (guT rfl hb6 (ldP rfl rfl)) (kc (Ev.guT rfl hb6 (cl (v := .bool r8) rfl (cns rfl (cns rfl (cns rfl rfl))) rfl (spec_l00In_ok a1.Balance (-100000000) 100000000 _ hx7) nm)) (kx (pkT rfl hb6 rfl) (kx (mvO rfl) (Rn (hN rfl hZ) fun e9 h11 => sN (xx ?_))))))))
  clear h3
  obtain rfl := si h
  exact eR (resT h11 res0) rfl
 refine kx (gsT rfl hb6) (kx (gsT rfl hb6) (kx (gsT rfl hb6) (kx (gsT rfl hb6) (kc (Ev.gsT rfl hb6) (kx (pkF rfl hb6 rfl) (kx (mvO rfl) (Rn (hV (.bool false) rfl hZ) fun e12 h14 => sN (xx ?_))))))))
 clear h3
 obtain rfl := si h
 exact eR (resT h14 res0) rfl
/-! ### loop.example/g01263/laws.eqRoll (f18) -/
noncomputable def laws_eqRoll (a1 : Roll) (a2 : Roll) : Option Bool :=
 (laws_eqAccountS a1.Accounts a2.Accounts).bind fun r6 =>
 if r6 = true then
  if (a1.Owed != a2.Owed) = true then
   some false
  else
   some true
 else
  some false
def laws_eqRoll_enc (r : Bool) : AV := .bool r
theorem laws_eqRoll_ok (a1 : Roll) (a2 : Roll) (r : Bool) (h : laws_eqRoll a1 a2 = some r) : Ev (fun k => CN k 18 [.agg [.sl none (a1.Accounts.map Account.c), .int .i64 a1.Owed], .agg [.sl none (a2.Accounts.map Account.c), .int .i64 a2.Owed]] []) (fun p => rRes p.2 p.1 = laws_eqRoll_enc r) := by
 unfold laws_eqRoll at h
 obtain ⟨r6, hx5, h⟩ := bind_some h
 refine Ev.enter (F := fun k => f18 (CN k) k) (fun k => callN_eq rfl Tryd.func18 rfl rfl rfl (by decide +kernel) (f18_eq _ _)) (sq (Rg (kx (bxI rfl rfl ⟨rfl, rfl, by decide⟩) (kx (bxI rfl rfl ⟨rfl, rfl, by decide⟩) (kx (mvO rfl) (Rn (hN rfl (hN rfl hZ)) fun e1 h3 h4 => sN (sq (sq (Rg (kx (faP h3 ⟨ble rfl, blt rfl⟩ rfl) (kx (ldP rfl rfl) (kx (faP h4 ⟨ble rfl, blt rfl⟩ rfl) (kx (ldP rfl rfl) (kc (cl (v := .bool r6) rfl (cns rfl (cns rfl rfl)) rfl (laws_eqAccountS_ok a1.Accounts a2.Accounts _ hx5) nm) (kx (uNot rfl) (Rn (hA h3 (hA h4 (hN rfl hZ))) fun e7 h9 h10 h11 => sN ?_))))))))))))))))
 clear h3 h4
 rcases ite_some h with ⟨hb12, h⟩ | ⟨hb12, h⟩
 ·refine cF h11 (congrArg Bool.not hb12) (xx (sN (sq (sq (Rg (kx (faP h9 ⟨ble rfl, blt rfl⟩ rfl) (kx (ldP rfl rfl) (kx (faP h10 ⟨ble rfl, blt rfl⟩ rfl) (kx (ldP rfl rfl) (kx (bNeq rfl rfl) (Rn (hN rfl hZ) fun e13 h15 => sN ?_)))))))))))
  clear h10 h11 h9
  rcases ite_some h with ⟨hb16, h⟩ | ⟨hb16, h⟩
  ·refine cT h15 hb16 (sq (Rg (kx (mvO rfl) (Rn (hV (.bool false) rfl hZ) fun e17 h19 => sN (xx (sR ?_))))))
   clear h15
   obtain rfl := si h
   exact eR (resT h19 res0) rfl
  refine cF h15 hb16 (xx (sN (sq (Rg (kx (mvO rfl) (Rn (hV (.bool true) rfl hZ) fun e20 h22 => sN (xx ?_)))))))
  clear h15
  obtain rfl := si h
  exact eR (resT h22 res0) rfl
 refine cT h11 (congrArg Bool.not hb12) (sq (Rg (kx (mvO rfl) (Rn (hV (.bool false) rfl hZ) fun e23 h25 => sN (xx (sR ?_))))))
 clear h10 h11 h9
 obtain rfl := si h
 exact eR (resT h25 res0) rfl
/-! ### loop.example/g01263/impl.AccountText (f12) -/
def impl_AccountText_c1_Q (a1 : Account) (g : Bool) (q : Out) : Prop := q.1 = .nrm ∧ eget q.2.1 1 = .pt none [.str a1.Title, .sl none (a1.Items.map Item.c), .int .i64 a1.Balance] ∧ eget q.2.1 15 = .bool g
abbrev impl_AccountText_b1_S := (List UInt8) × Int
abbrev impl_AccountText_b1_R := (List UInt8)
def impl_AccountText_b1_RS (a1 : Account) (s : impl_AccountText_b1_S) (e : Env) (M : Mem) : Prop := eget e 1 = .pt none [.str a1.Title, .sl none (a1.Items.map Item.c), .int .i64 a1.Balance] ∧ eget e 3 = .str s.1 ∧ eget e 20 = .sl none (a1.Items.map Item.c) ∧ eget e 21 = .int .i64 (a1.Items.length : Int) ∧ eget e 22 = .int .i64 s.2
def impl_AccountText_b1_RR (a1 : Account) (g : impl_AccountText_b1_R) (x : Ex) (e : Env) (M : Mem) : Prop := x = .ext 0 ∧ eget e 1 = .pt none [.str a1.Title, .sl none (a1.Items.map Item.c), .int .i64 a1.Balance] ∧ eget e 3 = .str g
noncomputable def impl_AccountText_b1 (a1 : Account) : impl_AccountText_b1_S → Option (impl_AccountText_b1_S ⊕ impl_AccountText_b1_R) := fun (s1_1, s1_2) =>
 if (decide (s1_2 < (a1.Items.length : Int))) = true then
  (rd a1.Items s1_2).bind fun x74 =>
  (impl_itemWords).bind fun r92 =>
  (rd r92 x74.Kind).bind fun x93 =>
  (sadd x93 ([32] : List UInt8)).bind fun w95 =>
  (impl_AmountText x74.Amount).bind fun r98 =>
  (sadd w95 r98).bind fun w99 =>
  (sadd w99 ([10] : List UInt8)).bind fun w101 =>
  (sadd s1_1 w101).bind fun w103 =>
  some (.inl (w103, (IntKind.i64.wrap (s1_2 + 1))))
 else
  some (.inr s1_1)
theorem impl_AccountText_b1_ok (a1 : Account) (s : impl_AccountText_b1_S) (r : impl_AccountText_b1_S ⊕ impl_AccountText_b1_R) (h : impl_AccountText_b1 a1 s = some r) (e : Env) (M : Mem) (hs : impl_AccountText_b1_RS a1 s e M) : Ev (fun k => (f12_l5 (CN k) k (prune [1, 3, 20, 21, 22] e) M).bind fun q => some q) (bQ (impl_AccountText_b1_RS a1) (impl_AccountText_b1_RR a1) r) := by
 obtain ⟨s1_1, s1_2⟩ := s
 unfold impl_AccountText_b1 at h
 obtain ⟨h55, h57, h59, h61, h63⟩ := hs
 generalize he54 : prune [1, 3, 20, 21, 22] e = e53
 have h56 := envp he54.symm rfl h55
 have h58 := envp he54.symm rfl h57
 have h60 := envp he54.symm rfl h59
 have h62 := envp he54.symm rfl h61
 have h64 := envp he54.symm rfl h63
 refine sq (Rg (kx (bLss h64 h62) (Rn (hV (.pt none [.str a1.Title, .sl none (a1.Items.map Item.c), .int .i64 a1.Balance]) h56 (hV (.str s1_1) h58 (hV (.sl none (a1.Items.map Item.c)) h60 (hV (.int .i64 (a1.Items.length : Int)) h62 (hV (.int .i64 s1_2) h64 (hN rfl hZ)))))) fun e65 h67 h68 h69 h70 h71 h72 => sN (sq ?_))))
 clear h56 h58 h60 h62 h64
 rcases ite_some h with ⟨hb73, h⟩ | ⟨hb73, h⟩
 ·obtain ⟨x74, hx75, h⟩ := bind_some h
  refine cT h72 hb73 (xx (sN (sq (bl (sq (Rg (kx (ixS h69 h71 hx75 Item.fl) (kx (ldPA rfl rfl rfl) (ku (alO zero85) fun M77 hM78 => ?_)))))))))
  have o79 : M77[M.length]? = some (.live ⟨.box, 85, 2, [[.int .i8 0, .int .i64 0]]⟩) := push_new hM78
  refine kw (stO rfl rfl o79 rfl rfl ⟨rfl, ble rfl⟩ rfl rfl) fun M80 hM81 => ?_
  have o82 : M80[M.length]? = some (.live ⟨.box, 85, 2, [[.int .i8 x74.Kind, .int .i64 x74.Amount]]⟩) := set_same hM81 o79
  obtain ⟨r92, hx91, h⟩ := bind_some h
  obtain ⟨x93, hx94, h⟩ := bind_some h
  obtain ⟨w95, hx96, h⟩ := bind_some h
  obtain ⟨r98, hx97, h⟩ := bind_some h
  obtain ⟨w99, hx100, h⟩ := bind_some h
  obtain ⟨w101, hx102, h⟩ := bind_some h
  obtain ⟨w103, hx104, h⟩ := bind_some h
  refine Rn (hA h67 (hA h68 (hV (.loc M.length 1 0 0) rfl (hA h69 (hA h70 (hA h71 hZ)))))) fun e83 h85 h86 h87 h88 h89 h90 => sN (Rd (kf (mvO h86) (fc (cl (v := .sl (some 9) (r92.map cS)) rfl rfl rfl (impl_itemWords_ok  _ hx91) nm) (kf (faO h87 o82 rfl) (kf (ldO rfl o82 rfl rfl rfl) (kf (ixS rfl rfl hx94 cS_fl) (kf (ldP rfl rfl) (kf (sAdd rfl rfl hx96) (kf (faO h87 o82 rfl) (kf (ldO rfl o82 rfl rfl rfl) (fc (cl (v := .str r98) rfl (cns rfl rfl) rfl (impl_AmountText_ok x74.Amount _ hx97) nm) (kf (sAdd rfl rfl hx100) (kf (sAdd rfl rfl hx102) (kf (sAdd rfl rfl hx104) (kf (mvO rfl) (fZ (Rn (hA h85 (hN rfl (hA h88 (hA h89 (hA h90 hZ))))) fun e105 h107 h108 h109 h110 h111 => bN (sN (Rg (kx (bAdd h111 rfl) (kx (mvO rfl) (Rn (hA h107 (hA h108 (hA h109 (hA h110 (hN rfl hZ))))) fun e112 h114 h115 h116 h117 h118 => ?_))))))))))))))))))))))
  clear h67 h68 h69 h70 h71 h72 h85 h87 h88 h89 h90 h107 h108 h109 h110
  obtain rfl := si h
  exact qN ⟨h114, h115, h116, h117, h118⟩
 refine cF h72 hb73 (xx (sE ?_))
 obtain rfl := si h
 exact qE ⟨rfl, h67, h68⟩
noncomputable def impl_AccountText (a1 : Account) : Option ((List UInt8)) :=
 ((impl_CheckAccount a1).bind fun r5 =>
 if r5 = true then
  (impl_size a1.Balance).bind fun r8 =>
  (impl_isAmount r8).bind fun r10 =>
  some (!r10)
 else
  some true).bind fun y21 =>
 if y21 = true then
  some ([] : List UInt8)
 else
  (sadd a1.Title ([10] : List UInt8)).bind fun w28 =>
  (Lw (impl_AccountText_b1 a1) (w28, 0)).bind fun y124 =>
  if (decide (a1.Balance > 0)) = true then
   (sadd y124 ([111, 119, 101, 115, 32] : List UInt8)).bind fun w133 =>
   (impl_AmountText a1.Balance).bind fun r136 =>
   (sadd w133 r136).bind fun w137 =>
   (sadd w137 ([10] : List UInt8)).bind fun w139 =>
   some w139
  else
   if (decide (a1.Balance < 0)) = true then
    (sadd y124 ([111, 118, 101, 114, 32] : List UInt8)).bind fun w150 =>
    (impl_AmountText (IntKind.i64.wrap (0 - a1.Balance))).bind fun r153 =>
    (sadd w150 r153).bind fun w154 =>
    (sadd w154 ([10] : List UInt8)).bind fun w156 =>
    some w156
   else
    (sadd y124 ([113, 117, 105, 116, 10] : List UInt8)).bind fun w161 =>
    some w161
def impl_AccountText_enc (r : (List UInt8)) : AV := .str r
theorem impl_AccountText_ok (a1 : Account) (r : (List UInt8)) (h : impl_AccountText a1 = some r) : Ev (fun k => CN k 12 [.agg [.str a1.Title, .sl none (a1.Items.map Item.c), .int .i64 a1.Balance]] []) (fun p => rRes p.2 p.1 = impl_AccountText_enc r) := by
 unfold impl_AccountText at h
 obtain ⟨r167, hr168, h⟩ := bind_some h
 refine Ev.enter (F := fun k => f12 (CN k) k) (fun k => callN_eq rfl Tryd.func12 rfl rfl rfl (by decide +kernel) (f12_eq _ _)) (sq (Rg (kx (bxI rfl rfl ⟨rfl, rfl, by decide⟩) (kx (mvO rfl) (Rn (hN rfl hZ) fun e1 h3 => sN (sq (sq ?_)))))))
 refine Ev.cut (Q1 := impl_AccountText_c1_Q a1 r167) (by
     have h := hr168
     obtain ⟨r5, hx4, h⟩ := bind_some h
     refine Rg (kx (ldPA h3 rfl rfl) (kc (cl (v := .bool r5) rfl (cns rfl rfl) rfl (impl_CheckAccount_ok a1 _ hx4) nm) (kx (uNot rfl) (kx (mvO rfl) ?_))))
     rcases ite_some h with ⟨hb6, h⟩ | ⟨hb6, h⟩
     ·obtain ⟨r8, hx7, h⟩ := bind_some h
      obtain ⟨r10, hx9, h⟩ := bind_some h
      refine kx (guF rfl (congrArg Bool.not hb6) (faP h3 ⟨ble rfl, blt rfl⟩ rfl)) (kx (guF rfl (congrArg Bool.not hb6) (ldP rfl rfl)) (kc (Ev.guF rfl (congrArg Bool.not hb6) (cl (v := .int .i64 r8) rfl (cns rfl rfl) rfl (impl_size_ok a1.Balance _ hx7) nm)) (kc (Ev.guF rfl (congrArg Bool.not hb6) (cl (v := .bool r10) rfl (cns rfl rfl) rfl (impl_isAmount_ok r8 _ hx9) nm)) (kx (guF rfl (congrArg Bool.not hb6) (uNot rfl)) (kx (pkF rfl (congrArg Bool.not hb6) rfl) (Rn (hA h3 (hN rfl hZ)) fun e11 h13 h14 => ?_))))))
      clear h3
      obtain rfl := si h
      exact kd (show impl_AccountText_c1_Q a1 _ _ from ⟨rfl, h13, h14⟩)
     refine kx (gsF rfl (congrArg Bool.not hb6)) (kx (gsF rfl (congrArg Bool.not hb6)) (kc (Ev.gsF rfl (congrArg Bool.not hb6)) (kc (Ev.gsF rfl (congrArg Bool.not hb6)) (kx (gsF rfl (congrArg Bool.not hb6)) (kx (pkT rfl (congrArg Bool.not hb6) rfl) (Rn (hA h3 (hV (.bool true) rfl hZ)) fun e15 h17 h18 => ?_))))))
     clear h3
     obtain rfl := si h
     exact kd (show impl_AccountText_c1_Q a1 _ _ from ⟨rfl, h17, h18⟩)) ?_
 revert h hr168
 revert r167
 intro y21 hr168 h
 intro x e19 M20 hq166
 obtain ⟨rfl, h22, h23⟩ := hq166
 refine sN ?_
 rcases ite_some h with ⟨hb24, h⟩ | ⟨hb24, h⟩
 ·refine cT h23 hb24 (sq (Rg (kx (mvO rfl) (Rn (hN rfl hZ) fun e25 h27 => sN (xx (sR ?_))))))
  clear h22 h23
  obtain rfl := si h
  exact eR (resT h27 res0) rfl
 obtain ⟨w28, hx29, h⟩ := bind_some h
 obtain ⟨y124, hr120, h⟩ := bind_some h
 refine cF h23 hb24 (xx (sN (sq (Rg (kx (faP h22 ⟨ble rfl, blt rfl⟩ rfl) (kx (ldP rfl rfl) (kx (sAdd rfl rfl hx29) (kx (mvO rfl) (Rn (hV (.pt none [.str a1.Title, .sl none (a1.Items.map Item.c), .int .i64 a1.Balance]) h22 (hN rfl hZ)) fun e30 h32 h33 => sN (sq (sq (Rg (kx (faP h32 ⟨ble rfl, blt rfl⟩ rfl) (kx (ldP rfl rfl) (kx (lnS Tryd.underlying27 rfl) (kx (mvO rfl) (Rn (hA h32 (hA h33 (hN rfl (hN rfl (hV (.int .i64 0) rfl hZ))))) fun e34 h36 h37 h38 h39 h40 => sN (bl (Ev.loop (RS := impl_AccountText_b1_RS a1) (RR := impl_AccountText_b1_RR a1) (fun s r h e M hs => impl_AccountText_b1_ok a1 s r h e M hs) hr120 ⟨h36, h37, h38, h39, h40⟩ fun x e122 M123 hq121 => ?_)))))))))))))))))))
 clear h22 h23 h32 h33
 obtain ⟨rfl, h125, h126⟩ := hq121
 refine bE (sN (sq (bl (sq (Rg (kx (faP h125 ⟨ble rfl, blt rfl⟩ rfl) (kx (ldP rfl rfl) (kx (bGtr rfl rfl) (kx (mvO rfl) (Rn (hV (.pt none [.str a1.Title, .sl none (a1.Items.map Item.c), .int .i64 a1.Balance]) h125 (hV (.str y124) h126 (hN rfl hZ))) fun e127 h129 h130 h131 => sN ?_))))))))))
 clear h125 h126
 rcases ite_some h with ⟨hb132, h⟩ | ⟨hb132, h⟩
 ·obtain ⟨w133, hx134, h⟩ := bind_some h
  obtain ⟨r136, hx135, h⟩ := bind_some h
  obtain ⟨w137, hx138, h⟩ := bind_some h
  obtain ⟨w139, hx140, h⟩ := bind_some h
  refine cT h131 hb132 (sq (Rg (kx (mvO h130) (kx (sAdd rfl rfl hx134) (kx (faP h129 ⟨ble rfl, blt rfl⟩ rfl) (kx (ldP rfl rfl) (kc (cl (v := .str r136) rfl (cns rfl rfl) rfl (impl_AmountText_ok a1.Balance _ hx135) nm) (kx (sAdd rfl rfl hx138) (kx (sAdd rfl rfl hx140) (kx (mvO rfl) (Rn (hN rfl hZ) fun e141 h143 => sN (xx (bR (sR ?_))))))))))))))
  clear h129 h130 h131
  obtain rfl := si h
  exact eR (resT h143 res0) rfl
 refine cF h131 hb132 (sq (Rg (kx (faP h129 ⟨ble rfl, blt rfl⟩ rfl) (kx (ldP rfl rfl) (kx (bLss rfl rfl) (kx (mvO rfl) (Rn (hA h129 (hA h130 (hN rfl hZ))) fun e144 h146 h147 h148 => sN ?_)))))))
 clear h129 h130 h131
 rcases ite_some h with ⟨hb149, h⟩ | ⟨hb149, h⟩
 ·obtain ⟨w150, hx151, h⟩ := bind_some h
  obtain ⟨r153, hx152, h⟩ := bind_some h
  obtain ⟨w154, hx155, h⟩ := bind_some h
  obtain ⟨w156, hx157, h⟩ := bind_some h
  refine cT h148 hb149 (sq (Rg (kx (mvO h147) (kx (sAdd rfl rfl hx151) (kx (faP h146 ⟨ble rfl, blt rfl⟩ rfl) (kx (ldP rfl rfl) (kx (uNeg rfl) (kc (cl (v := .str r153) rfl (cns rfl rfl) rfl (impl_AmountText_ok (IntKind.i64.wrap (0 - a1.Balance)) _ hx152) nm) (kx (sAdd rfl rfl hx155) (kx (sAdd rfl rfl hx157) (kx (mvO rfl) (Rn (hN rfl hZ) fun e158 h160 => sN (xx (bR (sR ?_)))))))))))))))
  clear h146 h147 h148
  obtain rfl := si h
  exact eR (resT h160 res0) rfl
 obtain ⟨w161, hx162, h⟩ := bind_some h
 refine cF h148 hb149 (xx (bN (sN (sq (Rg (kx (mvO h147) (kx (sAdd rfl rfl hx162) (kx (mvO rfl) (Rn (hN rfl hZ) fun e163 h165 => sN (xx ?_))))))))))
 clear h146 h147 h148
 obtain rfl := si h
 exact eR (resT h165 res0) rfl
/-! ### loop.example/g01263/impl.RollText (f17) -/
def impl_RollText_c1_Q (a1 : Roll) (g : Bool) (q : Out) : Prop := q.1 = .nrm ∧ eget q.2.1 1 = .pt none [.sl none (a1.Accounts.map Account.c), .int .i64 a1.Owed] ∧ eget q.2.1 15 = .bool g
abbrev impl_RollText_b1_S := (List UInt8) × Int
abbrev impl_RollText_b1_R := Unit ⊕ ((List UInt8))
def impl_RollText_b1_RS (a1 : Roll) (s : impl_RollText_b1_S) (e : Env) (M : Mem) : Prop := eget e 1 = .pt none [.sl none (a1.Accounts.map Account.c), .int .i64 a1.Owed] ∧ eget e 3 = .str s.1 ∧ eget e 17 = .sl none (a1.Accounts.map Account.c) ∧ eget e 18 = .int .i64 (a1.Accounts.length : Int) ∧ eget e 19 = .int .i64 s.2
def impl_RollText_b1_RR (a1 : Roll) (r : impl_RollText_b1_R) (x : Ex) (e : Env) (M : Mem) : Prop :=
  match r with
  | (.inl g) => x = .ret ∧ eget e 2 = .str ([] : List UInt8)
  | (.inr g) => x = .ext 0 ∧ eget e 1 = .pt none [.sl none (a1.Accounts.map Account.c), .int .i64 a1.Owed] ∧ eget e 3 = .str g
noncomputable def impl_RollText_b1 (a1 : Roll) : impl_RollText_b1_S → Option (impl_RollText_b1_S ⊕ impl_RollText_b1_R) := fun (s1_1, s1_2) =>
 if (decide (s1_2 < (a1.Accounts.length : Int))) = true then
  (rd a1.Accounts s1_2).bind fun x70 =>
  (impl_AccountText x70).bind fun r88 =>
  if (r88 == ([] : List UInt8)) = true then
   some (.inr (.inl ()))
  else
   (sadd s1_1 r88).bind fun w110 =>
   some (.inl (w110, (IntKind.i64.wrap (s1_2 + 1))))
 else
  some (.inr (.inr s1_1))
theorem impl_RollText_b1_ok (a1 : Roll) (s : impl_RollText_b1_S) (r : impl_RollText_b1_S ⊕ impl_RollText_b1_R) (h : impl_RollText_b1 a1 s = some r) (e : Env) (M : Mem) (hs : impl_RollText_b1_RS a1 s e M) : Ev (fun k => (f17_l5 (CN k) k (prune [1, 3, 17, 18, 19] e) M).bind fun q => some q) (bQ (impl_RollText_b1_RS a1) (impl_RollText_b1_RR a1) r) := by
 obtain ⟨s1_1, s1_2⟩ := s
 unfold impl_RollText_b1 at h
 obtain ⟨h51, h53, h55, h57, h59⟩ := hs
 generalize he50 : prune [1, 3, 17, 18, 19] e = e49
 have h52 := envp he50.symm rfl h51
 have h54 := envp he50.symm rfl h53
 have h56 := envp he50.symm rfl h55
 have h58 := envp he50.symm rfl h57
 have h60 := envp he50.symm rfl h59
 refine sq (Rg (kx (bLss h60 h58) (Rn (hV (.pt none [.sl none (a1.Accounts.map Account.c), .int .i64 a1.Owed]) h52 (hV (.str s1_1) h54 (hV (.sl none (a1.Accounts.map Account.c)) h56 (hV (.int .i64 (a1.Accounts.length : Int)) h58 (hV (.int .i64 s1_2) h60 (hN rfl hZ)))))) fun e61 h63 h64 h65 h66 h67 h68 => sN (sq ?_))))
 clear h52 h54 h56 h58 h60
 rcases ite_some h with ⟨hb69, h⟩ | ⟨hb69, h⟩
 ·obtain ⟨x70, hx71, h⟩ := bind_some h
  refine cT h68 hb69 (xx (sN (sq (bl (sq (Rg (kx (ixS h65 h67 hx71 Account.fl) (kx (ldPA rfl rfl rfl) (ku (alO zero29) fun M73 hM74 => ?_)))))))))
  have o75 : M73[M.length]? = some (.live ⟨.box, 29, 3, [[.str ([] : List UInt8), .nils, .int .i64 0]]⟩) := push_new hM74
  refine kw (stO rfl rfl o75 rfl rfl ⟨rfl, ble rfl⟩ rfl rfl) fun M76 hM77 => ?_
  have o78 : M76[M.length]? = some (.live ⟨.box, 29, 3, [[.str x70.Title, .sl none (x70.Items.map Item.c), .int .i64 x70.Balance]]⟩) := set_same hM77 o75
  obtain ⟨r88, hx87, h⟩ := bind_some h
  refine Rn (hA h63 (hA h64 (hV (.loc M.length 1 0 0) rfl (hA h65 (hA h66 (hA h67 hZ)))))) fun e79 h81 h82 h83 h84 h85 h86 => sN (sq (Rg (kx (ldOA h83 o78 rfl rfl (ble rfl) rfl) (kc (cl (v := .str r88) rfl (cns rfl rfl) rfl (impl_AccountText_ok x70 _ hx87) nm) (kx (mvO rfl) (Rn (hA h81 (hA h82 (hN rfl (hA h84 (hA h85 (hA h86 hZ)))))) fun e89 h91 h92 h93 h94 h95 h96 => sN (sq (sq (Rg (kx (mvO h93) (kx (sEql rfl rfl) (Rn (hA h91 (hA h92 (hA h93 (hA h94 (hA h95 (hA h96 (hN rfl hZ))))))) fun e97 h99 h100 h101 h102 h103 h104 h105 => sN ?_))))))))))))
  clear h63 h64 h65 h66 h67 h68 h81 h82 h83 h84 h85 h86 h91 h92 h93 h94 h95 h96
  rcases ite_some h with ⟨hb106, h⟩ | ⟨hb106, h⟩
  ·refine cT h105 hb106 (sq (Rg (kx (mvO rfl) (Rn (hN rfl hZ) fun e107 h109 => sN (xx (sR (bR (sR ?_))))))))
   clear h100 h101 h102 h103 h104 h105 h99
   obtain rfl := si h
   exact qR ⟨rfl, h109⟩
  obtain ⟨w110, hx111, h⟩ := bind_some h
  refine cF h105 hb106 (xx (sN (Rg (kx (mvO h100) (kx (mvO h101) (kx (sAdd rfl rfl hx111) (kx (mvO rfl) (Rn (hA h99 (hN rfl (hA h102 (hA h103 (hA h104 hZ))))) fun e112 h114 h115 h116 h117 h118 => bN (sN (Rg (kx (bAdd h118 rfl) (kx (mvO rfl) (Rn (hA h114 (hA h115 (hA h116 (hA h117 (hN rfl hZ))))) fun e119 h121 h122 h123 h124 h125 => ?_)))))))))))))
  clear h101 h102 h103 h104 h105 h99 h114 h115 h116 h117
  obtain rfl := si h
  exact qN ⟨h121, h122, h123, h124, h125⟩
 refine cF h68 hb69 (xx (sE ?_))
 obtain rfl := si h
 exact qE ⟨rfl, h63, h64⟩
noncomputable def impl_RollText (a1 : Roll) : Option ((List UInt8)) :=
 ((impl_validRoll a1).bind fun r5 =>
 if r5 = true then
  (impl_isAmount a1.Owed).bind fun r8 =>
  some (!r8)
 else
  some true).bind fun y19 =>
 if y19 = true then
  some ([] : List UInt8)
 else
  (Lw (impl_RollText_b1 a1) (([] : List UInt8), 0)).bind fun r => match r with
  | (.inl _) =>
   some ([] : List UInt8)
  | (.inr y134) =>
   (sadd y134 ([111, 119, 101, 100, 32] : List UInt8)).bind fun w137 =>
   (impl_AmountText a1.Owed).bind fun r140 =>
   (sadd w137 r140).bind fun w141 =>
   (sadd w141 ([10] : List UInt8)).bind fun w143 =>
   some w143
def impl_RollText_enc (r : (List UInt8)) : AV := .str r
theorem impl_RollText_ok (a1 : Roll) (r : (List UInt8)) (h : impl_RollText a1 = some r) : Ev (fun k => CN k 17 [.agg [.sl none (a1.Accounts.map Account.c), .int .i64 a1.Owed]] []) (fun p => rRes p.2 p.1 = impl_RollText_enc r) := by
 unfold impl_RollText at h
 obtain ⟨r149, hr150, h⟩ := bind_some h
 refine Ev.enter (F := fun k => f17 (CN k) k) (fun k => callN_eq rfl Tryd.func17 rfl rfl rfl (by decide +kernel) (f17_eq _ _)) (sq (Rg (kx (bxI rfl rfl ⟨rfl, rfl, by decide⟩) (kx (mvO rfl) (Rn (hN rfl hZ) fun e1 h3 => sN (sq (sq ?_)))))))
 refine Ev.cut (Q1 := impl_RollText_c1_Q a1 r149) (by
     have h := hr150
     obtain ⟨r5, hx4, h⟩ := bind_some h
     refine Rg (kx (ldPA h3 rfl rfl) (kc (cl (v := .bool r5) rfl (cns rfl rfl) rfl (impl_validRoll_ok a1 _ hx4) nm) (kx (uNot rfl) (kx (mvO rfl) ?_))))
     rcases ite_some h with ⟨hb6, h⟩ | ⟨hb6, h⟩
     ·obtain ⟨r8, hx7, h⟩ := bind_some h
      refine kx (guF rfl (congrArg Bool.not hb6) (faP h3 ⟨ble rfl, blt rfl⟩ rfl)) (kx (guF rfl (congrArg Bool.not hb6) (ldP rfl rfl)) (kc (Ev.guF rfl (congrArg Bool.not hb6) (cl (v := .bool r8) rfl (cns rfl rfl) rfl (impl_isAmount_ok a1.Owed _ hx7) nm)) (kx (guF rfl (congrArg Bool.not hb6) (uNot rfl)) (kx (pkF rfl (congrArg Bool.not hb6) rfl) (Rn (hA h3 (hN rfl hZ)) fun e9 h11 h12 => ?_)))))
      clear h3
      obtain rfl := si h
      exact kd (show impl_RollText_c1_Q a1 _ _ from ⟨rfl, h11, h12⟩)
     refine kx (gsF rfl (congrArg Bool.not hb6)) (kx (gsF rfl (congrArg Bool.not hb6)) (kc (Ev.gsF rfl (congrArg Bool.not hb6)) (kx (gsF rfl (congrArg Bool.not hb6)) (kx (pkT rfl (congrArg Bool.not hb6) rfl) (Rn (hA h3 (hV (.bool true) rfl hZ)) fun e13 h15 h16 => ?_)))))
     clear h3
     obtain rfl := si h
     exact kd (show impl_RollText_c1_Q a1 _ _ from ⟨rfl, h15, h16⟩)) ?_
 revert h hr150
 revert r149
 intro y19 hr150 h
 intro x e17 M18 hq148
 obtain ⟨rfl, h20, h21⟩ := hq148
 refine sN ?_
 rcases ite_some h with ⟨hb22, h⟩ | ⟨hb22, h⟩
 ·refine cT h21 hb22 (sq (Rg (kx (mvO rfl) (Rn (hN rfl hZ) fun e23 h25 => sN (xx (sR ?_))))))
  clear h20 h21
  obtain rfl := si h
  exact eR (resT h25 res0) rfl
 obtain ⟨r126, hr127, h⟩ := bind_some h
 refine cF h21 hb22 (xx (sN (sq (Rg (kx (mvO rfl) (Rn (hV (.pt none [.sl none (a1.Accounts.map Account.c), .int .i64 a1.Owed]) h20 (hN rfl hZ)) fun e26 h28 h29 => sN (sq (sq (Rg (kx (faP h28 ⟨ble rfl, blt rfl⟩ rfl) (kx (ldP rfl rfl) (kx (lnS Tryd.underlying38 rfl) (kx (mvO rfl) (Rn (hA h28 (hA h29 (hN rfl (hN rfl (hV (.int .i64 0) rfl hZ))))) fun e30 h32 h33 h34 h35 h36 => sN (bl ?_)))))))))))))))
 clear h20 h21 h28 h29
 rcases r126 with _ | y134
 ·refine Ev.loop (RS := impl_RollText_b1_RS a1) (RR := impl_RollText_b1_RR a1) (fun s r h e M hs => impl_RollText_b1_ok a1 s r h e M hs) hr127 ⟨h32, h33, h34, h35, h36⟩ fun x e129 M130 hq128 => ?_
  obtain ⟨rfl, h131⟩ := hq128
  refine bR (sR ?_)
  obtain rfl := si h
  exact eR (resT h131 res0) rfl
 refine Ev.loop (RS := impl_RollText_b1_RS a1) (RR := impl_RollText_b1_RR a1) (fun s r h e M hs => impl_RollText_b1_ok a1 s r h e M hs) hr127 ⟨h32, h33, h34, h35, h36⟩ fun x e132 M133 hq128 => ?_
 obtain ⟨rfl, h135, h136⟩ := hq128
 obtain ⟨w137, hx138, h⟩ := bind_some h
 obtain ⟨r140, hx139, h⟩ := bind_some h
 obtain ⟨w141, hx142, h⟩ := bind_some h
 obtain ⟨w143, hx144, h⟩ := bind_some h
 refine bE (sN (sq (Rg (kx (mvO h136) (kx (sAdd rfl rfl hx138) (kx (faP h135 ⟨ble rfl, blt rfl⟩ rfl) (kx (ldP rfl rfl) (kc (cl (v := .str r140) rfl (cns rfl rfl) rfl (impl_AmountText_ok a1.Owed _ hx139) nm) (kx (sAdd rfl rfl hx142) (kx (sAdd rfl rfl hx144) (kx (mvO rfl) (Rn (hN rfl hZ) fun e145 h147 => sN (xx ?_)))))))))))))
 clear h135 h136
 obtain rfl := si h
 exact eR (resT h147 res0) rfl
/-! ### loop.example/g01263/laws.toRoll (f16) -/
noncomputable def laws_toRoll (a1 : Roll) : Option ((List Account) × Int) :=
 (laws_toAccountS a1.Accounts).bind fun r21 =>
 some (r21, a1.Owed)
def laws_toRoll_enc (r : (List Account) × Int) : AV := .agg [.sl none (r.1.map Account.c), .int .i64 r.2]
theorem laws_toRoll_ok (a1 : Roll) (r : (List Account) × Int) (h : laws_toRoll a1 = some r) : Ev (fun k => CN k 16 [.agg [.sl none (a1.Accounts.map Account.c), .int .i64 a1.Owed]] []) (fun p => rRes p.2 p.1 = laws_toRoll_enc r) := by
 unfold laws_toRoll at h
 refine Ev.enter (F := fun k => f16 (CN k) k) (fun k => callN_eq rfl Tryd.func16 rfl rfl rfl (by decide +kernel) (f16_eq _ _)) (sq (Rg (kx (bxI rfl rfl ⟨rfl, rfl, by decide⟩) (ku (alO zero40) fun M2 hM3 => ?_))))
 have o4 : M2[([] : Mem).length]? = some (.live ⟨.box, 40, 2, [[.nils, .int .i64 0]]⟩) := push_new hM3
 refine Rn (hN rfl (hV (.loc ([] : Mem).length 1 0 0) rfl hZ)) fun e5 h7 h8 => sN (sq (Rg (ku (alO zero40) fun M10 hM11 => ?_)))
 have o12 := push_old hM11 o4
 have ne13 := ne_new o4
 have o14 : M10[M2.length]? = some (.live ⟨.box, 40, 2, [[.nils, .int .i64 0]]⟩) := push_new hM11
 obtain ⟨r21, hx20, h⟩ := bind_some h
 refine Rn (hA h7 (hA h8 (hV (.loc M2.length 1 0 0) rfl hZ))) fun e15 h17 h18 h19 => sN (sq (Rg (kx (faP h17 ⟨ble rfl, blt rfl⟩ rfl) (kx (ldP rfl rfl) (kc (cl (v := .sl (some 29) (r21.map Account.c)) rfl (cns rfl rfl) rfl (laws_toAccountS_ok a1.Accounts _ hx20) nm) (kx (faO h19 o14 rfl) (kw (stO rfl rfl o14 rfl rfl ⟨rfl, ble rfl⟩ rfl rfl) fun M22 hM23 => ?_)))))))
 clear h7 h8
 have o24 := set_ne hM23 ne13 o12
 have o25 : M22[M2.length]? = some (.live ⟨.box, 40, 2, [[.sl none (r21.map Account.c), .int .i64 0]]⟩) := set_same hM23 o14
 refine Rn (hA h17 (hA h18 (hA h19 hZ))) fun e26 h28 h29 h30 => sN (sq (Rg (kx (faP h28 ⟨ble rfl, blt rfl⟩ rfl) (kx (ldP rfl rfl) (kx (faO h30 o25 rfl) (kw (stO rfl rfl o25 rfl rfl ⟨rfl, ble rfl⟩ rfl rfl) fun M31 hM32 => ?_))))))
 clear h17 h18 h19
 have o33 := set_ne hM32 ne13 o24
 have o34 : M31[M2.length]? = some (.live ⟨.box, 40, 2, [[.sl none (r21.map Account.c), .int .i64 a1.Owed]]⟩) := set_same hM32 o25
 refine Rn (hA h29 (hA h30 hZ)) fun e35 h37 h38 => sN (sq (Rg (kx (ldOA h38 o34 rfl rfl (ble rfl) rfl) (kw (stO h37 rfl o33 rfl rfl ⟨rfl, ble rfl⟩ rfl rfl) fun M39 hM40 => ?_))))
 clear h28 h29 h30
 have o41 : M39[([] : Mem).length]? = some (.live ⟨.box, 40, 2, [[.sl none (r21.map Account.c), .int .i64 a1.Owed]]⟩) := set_same hM40 o33
 have o42 := set_ne hM40 (Ne.symm ne13) o34
 refine Rn (hA h37 hZ) fun e43 h45 => sN (xx ?_)
 clear h37 h38
 obtain rfl := si h
 exact eR (resC (ag := true) (sz := 2) ⟨by kernel_rfl, by kernel_rfl, by kernel_rfl⟩ (ldOA h45 o41 rfl rfl (ble rfl) rfl) res0) rfl
/-! ### loop.example/g01263/spec.RollText (f15) -/
def spec_RollText_c1_Q (a1 : Roll) (g : Bool) (q : Out) : Prop := q.1 = .nrm ∧ eget q.2.1 1 = .pt none [.sl none (a1.Accounts.map Account.c), .int .i64 a1.Owed] ∧ eget q.2.1 12 = .bool g
abbrev spec_RollText_b1_S := (List UInt8) × Int
abbrev spec_RollText_b1_R := Unit ⊕ ((List UInt8))
def spec_RollText_b1_RS (a1 : Roll) (s : spec_RollText_b1_S) (e : Env) (M : Mem) : Prop := eget e 1 = .pt none [.sl none (a1.Accounts.map Account.c), .int .i64 a1.Owed] ∧ eget e 3 = .str s.1 ∧ eget e 4 = .int .i64 s.2
def spec_RollText_b1_RR (a1 : Roll) (r : spec_RollText_b1_R) (x : Ex) (e : Env) (M : Mem) : Prop :=
  match r with
  | (.inl g) => x = .ret ∧ eget e 2 = .str ([] : List UInt8)
  | (.inr g) => x = .ext 0 ∧ eget e 1 = .pt none [.sl none (a1.Accounts.map Account.c), .int .i64 a1.Owed] ∧ eget e 3 = .str g
noncomputable def spec_RollText_b1 (a1 : Roll) : spec_RollText_b1_S → Option (spec_RollText_b1_S ⊕ spec_RollText_b1_R) := fun (s1_1, s1_2) =>
 if (decide (s1_2 < (a1.Accounts.length : Int))) = true then
  (rd a1.Accounts s1_2).bind fun x58 =>
  (spec_l05Plain x58).bind fun r61 =>
  if r61 = true then
   (rd a1.Accounts s1_2).bind fun x69 =>
   (spec_l05Text x69).bind fun r72 =>
   (sadd s1_1 r72).bind fun w73 =>
   some (.inl (w73, (IntKind.i64.wrap (s1_2 + 1))))
  else
   some (.inr (.inl ()))
 else
  some (.inr (.inr s1_1))
theorem spec_RollText_b1_ok (a1 : Roll) (s : spec_RollText_b1_S) (r : spec_RollText_b1_S ⊕ spec_RollText_b1_R) (h : spec_RollText_b1 a1 s = some r) (e : Env) (M : Mem) (hs : spec_RollText_b1_RS a1 s e M) : Ev (fun k => (f15_l5 (CN k) k (prune [1, 3, 4] e) M).bind fun q => some q) (bQ (spec_RollText_b1_RS a1) (spec_RollText_b1_RR a1) r) := by
 obtain ⟨s1_1, s1_2⟩ := s
 unfold spec_RollText_b1 at h
 obtain ⟨h45, h47, h49⟩ := hs
 generalize he44 : prune [1, 3, 4] e = e43
 have h46 := envp he44.symm rfl h45
 have h48 := envp he44.symm rfl h47
 have h50 := envp he44.symm rfl h49
 refine sq (sq (Rg (kx (mvO h50) (kx (faP h46 ⟨ble rfl, blt rfl⟩ rfl) (kx (ldP rfl rfl) (kx (lnS Tryd.underlying38 rfl) (kx (bLss rfl rfl) (Rn (hV (.pt none [.sl none (a1.Accounts.map Account.c), .int .i64 a1.Owed]) h46 (hV (.str s1_1) h48 (hV (.int .i64 s1_2) h50 (hN rfl hZ)))) fun e51 h53 h54 h55 h56 => sN ?_))))))))
 clear h46 h48 h50
 rcases ite_some h with ⟨hb57, h⟩ | ⟨hb57, h⟩
 ·obtain ⟨x58, hx59, h⟩ := bind_some h
  obtain ⟨r61, hx60, h⟩ := bind_some h
  refine cT h56 hb57 (xx (sN (sq (bl (sq (sq (Rg (kx (faP h53 ⟨ble rfl, blt rfl⟩ rfl) (kx (ldP rfl rfl) (kx (mvO h55) (kx (ixS rfl rfl hx59 Account.fl) (kc (cl (v := .bool r61) rfl (cns rfl rfl) rfl (spec_l05Plain_ok x58 _ hx60) nm) (kx (uNot rfl) (Rn (hA h53 (hA h54 (hA h55 (hN rfl hZ)))) fun e62 h64 h65 h66 h67 => sN ?_))))))))))))))
  clear h53 h54 h55 h56
  rcases ite_some h with ⟨hb68, h⟩ | ⟨hb68, h⟩
  ·obtain ⟨x69, hx70, h⟩ := bind_some h
   obtain ⟨r72, hx71, h⟩ := bind_some h
   obtain ⟨w73, hx74, h⟩ := bind_some h
   refine cF h67 (congrArg Bool.not hb68) (xx (sN (Rg (kx (mvO h65) (kx (faP h64 ⟨ble rfl, blt rfl⟩ rfl) (kx (ldP rfl rfl) (kx (mvO h66) (kx (ixS rfl rfl hx70 Account.fl) (kc (cl (v := .str r72) rfl (cns rfl rfl) rfl (spec_l05Text_ok x69 _ hx71) nm) (kx (sAdd rfl rfl hx74) (kx (mvO rfl) (Rn (hA h64 (hN rfl (hA h66 hZ))) fun e75 h77 h78 h79 => bN (sN (Rg (kx (mvO h79) (kx (bAdd rfl rfl) (kx (mvO rfl) (Rn (hA h77 (hA h78 (hN rfl hZ))) fun e80 h82 h83 h84 => ?_))))))))))))))))))
   clear h64 h66 h67 h77 h78
   obtain rfl := si h
   exact qN ⟨h82, h83, h84⟩
  refine cT h67 (congrArg Bool.not hb68) (sq (Rg (kx (mvO rfl) (Rn (hN rfl hZ) fun e85 h87 => sN (xx (sR (bR (sR ?_))))))))
  clear h64 h65 h66 h67
  obtain rfl := si h
  exact qR ⟨rfl, h87⟩
 refine cF h56 hb57 (xx (sE ?_))
 obtain rfl := si h
 exact qE ⟨rfl, h53, h54⟩
noncomputable def spec_RollText (a1 : Roll) : Option ((List UInt8)) :=
 ((spec_l05Roll a1).bind fun r5 =>
 if r5 = true then
  (spec_l01Amount a1.Owed).bind fun r8 =>
  some (!r8)
 else
  some true).bind fun y19 =>
 if y19 = true then
  some ([] : List UInt8)
 else
  (Lw (spec_RollText_b1 a1) (([] : List UInt8), 0)).bind fun r => match r with
  | (.inl _) =>
   some ([] : List UInt8)
  | (.inr y96) =>
   (sadd y96 ([111, 119, 101, 100, 32] : List UInt8)).bind fun w99 =>
   (spec_l01AmountText a1.Owed).bind fun r102 =>
   (sadd w99 r102).bind fun w103 =>
   (sadd w103 ([10] : List UInt8)).bind fun w105 =>
   some w105
def spec_RollText_enc (r : (List UInt8)) : AV := .str r
theorem spec_RollText_ok (a1 : Roll) (r : (List UInt8)) (h : spec_RollText a1 = some r) : Ev (fun k => CN k 15 [.agg [.sl none (a1.Accounts.map Account.c), .int .i64 a1.Owed]] []) (fun p => rRes p.2 p.1 = spec_RollText_enc r) := by
 unfold spec_RollText at h
 obtain ⟨r111, hr112, h⟩ := bind_some h
 refine Ev.enter (F := fun k => f15 (CN k) k) (fun k => callN_eq rfl Tryd.func15 rfl rfl rfl (by decide +kernel) (f15_eq _ _)) (sq (Rg (kx (bxI rfl rfl ⟨rfl, rfl, by decide⟩) (kx (mvO rfl) (Rn (hN rfl hZ) fun e1 h3 => sN (sq (sq ?_)))))))
 refine Ev.cut (Q1 := spec_RollText_c1_Q a1 r111) (by
     have h := hr112
     obtain ⟨r5, hx4, h⟩ := bind_some h
     refine Rg (kc (cl (v := .bool r5) rfl (cns h3 rfl) rfl (spec_l05Roll_ok a1 _ hx4) nm) (kx (uNot rfl) (kx (mvO rfl) ?_)))
     rcases ite_some h with ⟨hb6, h⟩ | ⟨hb6, h⟩
     ·obtain ⟨r8, hx7, h⟩ := bind_some h
      refine kx (guF rfl (congrArg Bool.not hb6) (faP h3 ⟨ble rfl, blt rfl⟩ rfl)) (kx (guF rfl (congrArg Bool.not hb6) (ldP rfl rfl)) (kc (Ev.guF rfl (congrArg Bool.not hb6) (cl (v := .bool r8) rfl (cns rfl rfl) rfl (spec_l01Amount_ok a1.Owed _ hx7) nm)) (kx (guF rfl (congrArg Bool.not hb6) (uNot rfl)) (kx (pkF rfl (congrArg Bool.not hb6) rfl) (Rn (hA h3 (hN rfl hZ)) fun e9 h11 h12 => ?_)))))
      clear h3
      obtain rfl := si h
      exact kd (show spec_RollText_c1_Q a1 _ _ from ⟨rfl, h11, h12⟩)
     refine kx (gsF rfl (congrArg Bool.not hb6)) (kx (gsF rfl (congrArg Bool.not hb6)) (kc (Ev.gsF rfl (congrArg Bool.not hb6)) (kx (gsF rfl (congrArg Bool.not hb6)) (kx (pkT rfl (congrArg Bool.not hb6) rfl) (Rn (hA h3 (hV (.bool true) rfl hZ)) fun e13 h15 h16 => ?_)))))
     clear h3
     obtain rfl := si h
     exact kd (show spec_RollText_c1_Q a1 _ _ from ⟨rfl, h15, h16⟩)) ?_
 revert h hr112
 revert r111
 intro y19 hr112 h
 intro x e17 M18 hq110
 obtain ⟨rfl, h20, h21⟩ := hq110
 refine sN ?_
 rcases ite_some h with ⟨hb22, h⟩ | ⟨hb22, h⟩
 ·refine cT h21 hb22 (sq (Rg (kx (mvO rfl) (Rn (hN rfl hZ) fun e23 h25 => sN (xx (sR ?_))))))
  clear h20 h21
  obtain rfl := si h
  exact eR (resT h25 res0) rfl
 obtain ⟨r88, hr89, h⟩ := bind_some h
 refine cF h21 hb22 (xx (sN (sq (Rg (kx (mvO rfl) (Rn (hV (.pt none [.sl none (a1.Accounts.map Account.c), .int .i64 a1.Owed]) h20 (hN rfl hZ)) fun e26 h28 h29 => sN (sq (sq (Rg (kx (mvO rfl) (Rn (hA h28 (hA h29 (hV (.int .i64 0) rfl hZ))) fun e30 h32 h33 h34 => sN (bl ?_))))))))))))
 clear h20 h21 h28 h29
 rcases r88 with _ | y96
 ·refine Ev.loop (RS := spec_RollText_b1_RS a1) (RR := spec_RollText_b1_RR a1) (fun s r h e M hs => spec_RollText_b1_ok a1 s r h e M hs) hr89 ⟨h32, h33, h34⟩ fun x e91 M92 hq90 => ?_
  obtain ⟨rfl, h93⟩ := hq90
  refine bR (sR ?_)
  obtain rfl := si h
  exact eR (resT h93 res0) rfl
 refine Ev.loop (RS := spec_RollText_b1_RS a1) (RR := spec_RollText_b1_RR a1) (fun s r h e M hs => spec_RollText_b1_ok a1 s r h e M hs) hr89 ⟨h32, h33, h34⟩ fun x e94 M95 hq90 => ?_
 obtain ⟨rfl, h97, h98⟩ := hq90
 obtain ⟨w99, hx100, h⟩ := bind_some h
 obtain ⟨r102, hx101, h⟩ := bind_some h
 obtain ⟨w103, hx104, h⟩ := bind_some h
 obtain ⟨w105, hx106, h⟩ := bind_some h
 refine bE (sN (sq (Rg (kx (mvO h98) (kx (sAdd rfl rfl hx100) (kx (faP h97 ⟨ble rfl, blt rfl⟩ rfl) (kx (ldP rfl rfl) (kc (cl (v := .str r102) rfl (cns rfl rfl) rfl (spec_l01AmountText_ok a1.Owed _ hx101) nm) (kx (sAdd rfl rfl hx104) (kx (sAdd rfl rfl hx106) (kx (mvO rfl) (Rn (hN rfl hZ) fun e107 h109 => sN (xx ?_)))))))))))))
 clear h97 h98
 obtain rfl := si h
 exact eR (resT h109 res0) rfl
/-! ### loop.example/g01263/laws.szRoll (f14) -/
noncomputable def laws_szRoll (a1 : Roll) (a2 : Int) : Option Int :=
 (laws_szAccountS a1.Accounts a2).bind fun r6 =>
 if (decide (r6 < 0)) = true then
  some (-1)
 else
  some r6
def laws_szRoll_enc (r : Int) : AV := .int .i64 r
theorem laws_szRoll_ok (a1 : Roll) (a2 : Int) (r : Int) (h : laws_szRoll a1 a2 = some r) : Ev (fun k => CN k 14 [.agg [.sl none (a1.Accounts.map Account.c), .int .i64 a1.Owed], .int .i64 a2] []) (fun p => rRes p.2 p.1 = laws_szRoll_enc r) := by
 unfold laws_szRoll at h
 obtain ⟨r6, hx5, h⟩ := bind_some h
 refine Ev.enter (F := fun k => f14 (CN k) k) (fun k => callN_eq rfl Tryd.func14 rfl rfl rfl (by decide +kernel) (f14_eq _ _)) (sq (Rg (kx (bxI rfl rfl ⟨rfl, rfl, by decide⟩) (kx (mvO rfl) (Rn (hN rfl (hN rfl hZ)) fun e1 h3 h4 => sN (sq (Rg (kx (faP h4 ⟨ble rfl, blt rfl⟩ rfl) (kx (ldP rfl rfl) (kx (mvO h3) (kc (cl (v := .int .i64 r6) rfl (cns rfl (cns rfl rfl)) rfl (laws_szAccountS_ok a1.Accounts a2 _ hx5) nm) (kx (mvO rfl) (Rn (hN rfl hZ) fun e7 h9 => sN (sq (sq (Rg (kx (mvO h9) (kx (bLss rfl rfl) (Rn (hA h9 (hN rfl hZ)) fun e10 h12 h13 => sN ?_)))))))))))))))))))
 clear h4 h9
 rcases ite_some h with ⟨hb14, h⟩ | ⟨hb14, h⟩
 ·refine cT h13 hb14 (sq (Rg (kx (mvO rfl) (Rn (hV (.int .i64 (-1)) rfl hZ) fun e15 h17 => sN (xx (sR ?_))))))
  clear h12 h13
  obtain rfl := si h
  exact eR (resT h17 res0) rfl
 refine cF h13 hb14 (xx (sN (sq (Rg (kx (mvO h12) (kx (mvO rfl) (Rn (hN rfl hZ) fun e18 h20 => sN (xx ?_))))))))
 clear h12 h13
 obtain rfl := si h
 exact eR (resT h20 res0) rfl
/-! ### loop.example/g01263/laws.FnExactRollText (f4) -/
noncomputable def laws_FnExactRollText (a1 : Roll) : Option Bool :=
 (laws_szRoll a1 1048576).bind fun r9 =>
 if (decide (r9 < 0)) = true then
  some true
 else
  (laws_toRoll a1).bind fun (r23, r24) =>
  (spec_RollText (Roll.mk r23 r24)).bind fun r26 =>
  (laws_toRoll a1).bind fun (r32, r33) =>
  (impl_RollText (Roll.mk r32 r33)).bind fun r47 =>
  if (r47 == r26) = true then
   (laws_toRoll a1).bind fun (r61, r62) =>
   (laws_eqRoll (Roll.mk r32 r33) (Roll.mk r61 r62)).bind fun r64 =>
   if r64 = true then
    some true
   else
    some false
  else
   some false
def laws_FnExactRollText_enc (r : Bool) : AV := .bool r
theorem laws_FnExactRollText_ok (a1 : Roll) (r : Bool) (h : laws_FnExactRollText a1 = some r) : Ev (fun k => CN k 4 [.agg [.sl none (a1.Accounts.map Account.c), .int .i64 a1.Owed]] []) (fun p => rRes p.2 p.1 = laws_FnExactRollText_enc r) := by
 unfold laws_FnExactRollText at h
 obtain ⟨r9, hx8, h⟩ := bind_some h
 refine Ev.enter (F := fun k => f4 (CN k) k) (fun k => callN_eq rfl Tryd.func4 rfl rfl rfl (by decide +kernel) (f4_eq _ _)) (sq (Rg (kx (bxI rfl rfl ⟨rfl, rfl, by decide⟩) (kx (mvO rfl) (Rn (hN rfl hZ) fun e1 h3 => sN (sq (Rg (kx (mvO rfl) (Rn (hA h3 (hV (.int .i64 1048576) rfl hZ)) fun e4 h6 h7 => sN (sq (Rg (kx (ldPA h6 rfl rfl) (kx (mvO h7) (kc (cl (v := .int .i64 r9) rfl (cns rfl (cns rfl rfl)) rfl (laws_szRoll_ok a1 1048576 _ hx8) nm) (kx (mvO rfl) (Rn (hA h6 (hN rfl hZ)) fun e10 h12 h13 => sN (sq (sq (Rg (kx (mvO h13) (kx (bLss rfl rfl) (Rn (hA h12 (hN rfl hZ)) fun e14 h16 h17 => sN ?_))))))))))))))))))))))
 clear h3 h6 h12 h13
 rcases ite_some h with ⟨hb18, h⟩ | ⟨hb18, h⟩
 ·refine cT h17 hb18 (sq (Rg (kx (mvO rfl) (Rn (hV (.bool true) rfl hZ) fun e19 h21 => sN (xx (sR ?_))))))
  clear h16 h17
  obtain rfl := si h
  exact eR (resT h21 res0) rfl
 obtain ⟨⟨r23, r24⟩, hx22, h⟩ := bind_some h
 obtain ⟨r26, hx25, h⟩ := bind_some h
 obtain ⟨⟨r32, r33⟩, hx31, h⟩ := bind_some h
 refine cF h17 hb18 (xx (sN (sq (Rg (kx (ldPA h16 rfl rfl) (kc (cl (v := .agg [.sl none (r23.map Account.c), .int .i64 r24]) rfl (cns rfl rfl) rfl (laws_toRoll_ok a1 _ hx22) nm) (kc (cl (v := .str r26) rfl (cns rfl rfl) rfl (spec_RollText_ok (Roll.mk r23 r24) _ hx25) nm) (kx (mvO rfl) (Rn (hA h16 (hN rfl hZ)) fun e27 h29 h30 => sN (sq (Rg (kx (ldPA h29 rfl rfl) (kc (cl (v := .agg [.sl none (r32.map Account.c), .int .i64 r33]) rfl (cns rfl rfl) rfl (laws_toRoll_ok a1 _ hx31) nm) (ku (alO zero40) fun M35 hM36 => ?_))))))))))))))
 clear h16 h17
 have o37 : M35[([] : Mem).length]? = some (.live ⟨.box, 40, 2, [[.nils, .int .i64 0]]⟩) := push_new hM36
 refine kw (stO rfl rfl o37 rfl rfl ⟨rfl, ble rfl⟩ rfl rfl) fun M38 hM39 => ?_
 have o40 : M38[([] : Mem).length]? = some (.live ⟨.box, 40, 2, [[.sl none (r32.map Account.c), .int .i64 r33]]⟩) := set_same hM39 o37
 obtain ⟨r47, hx46, h⟩ := bind_some h
 refine Rn (hA h29 (hA h30 (hV (.loc ([] : Mem).length 1 0 0) rfl hZ))) fun e41 h43 h44 h45 => sN (sq (Rg (kx (ldOA h45 o40 rfl rfl (ble rfl) rfl) (kc (cl (v := .str r47) rfl (cns rfl rfl) rfl (impl_RollText_ok (Roll.mk r32 r33) _ hx46) nm) (kx (mvO rfl) (Rn (hA h43 (hA h44 (hA h45 (hN rfl hZ)))) fun e48 h50 h51 h52 h53 => sN (sq (sq (Rg (kx (mvO h53) (kx (mvO h51) (kx (sNeq rfl rfl) (Rn (hA h50 (hA h52 (hN rfl hZ))) fun e54 h56 h57 h58 => sN ?_)))))))))))))
 clear h29 h30 h43 h44 h45 h50 h51 h52 h53
 rcases ite_some h with ⟨hb59, h⟩ | ⟨hb59, h⟩
 ·obtain ⟨⟨r61, r62⟩, hx60, h⟩ := bind_some h
  obtain ⟨r64, hx63, h⟩ := bind_some h
  refine cF h58 (congrArg Bool.not hb59) (xx (sN (sq (sq (Rd (kf (ldOA h57 o40 rfl rfl (ble rfl) rfl) (kf (ldPA h56 rfl rfl) (fc (cl (v := .agg [.sl none (r61.map Account.c), .int .i64 r62]) rfl (cns rfl rfl) rfl (laws_toRoll_ok a1 _ hx60) nm) (fc (cl (v := .bool r64) rfl (cns rfl (cns rfl rfl)) rfl (laws_eqRoll_ok (Roll.mk r32 r33) (Roll.mk r61 r62) _ hx63) nm) (kf (uNot rfl) (fZ (Rn (hN rfl hZ) fun e65 h67 => sN ?_))))))))))))
  clear h56 h57 h58
  rcases ite_some h with ⟨hb68, h⟩ | ⟨hb68, h⟩
  ·refine cF h67 (congrArg Bool.not hb68) (xx (sN (sq (Rg (kx (mvO rfl) (Rn (hV (.bool true) rfl hZ) fun e69 h71 => sN (xx ?_)))))))
   clear h67
   obtain rfl := si h
   exact eR (resT h71 res0) rfl
  refine cT h67 (congrArg Bool.not hb68) (sq (Rg (kx (mvO rfl) (Rn (hV (.bool false) rfl hZ) fun e72 h74 => sN (xx (sR ?_))))))
  clear h67
  obtain rfl := si h
  exact eR (resT h74 res0) rfl
 refine cT h58 (congrArg Bool.not hb59) (sq (Rg (kx (mvO rfl) (Rn (hV (.bool false) rfl hZ) fun e75 h77 => sN (xx (sR ?_))))))
 clear h56 h57 h58
 obtain rfl := si h
 exact eR (resT h77 res0) rfl
end Go.Proofs.YtbhbmgmnnkcmcaaDoor

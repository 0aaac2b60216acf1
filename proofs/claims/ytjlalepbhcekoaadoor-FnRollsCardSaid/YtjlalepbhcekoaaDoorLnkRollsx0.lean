/- Printed by a program of ours (ext.py). -/
import Derived.Test.YtjlalepbhcekoaaDoorFnsRolls
set_option linter.unusedVariables false
set_option linter.unusedSimpArgs false
set_option maxRecDepth 100000
set_option maxHeartbeats 2000000
namespace Go.Proofs.YtjlalepbhcekoaaDoor
open Go Go.Ab
structure Item where
  Kind : Int
  Amount : Int
  deriving DecidableEq
def Item.c (x : Item) : List AV := [.int .i8 x.Kind, .int .i64 x.Amount]
theorem Item.fl : Fl Item.c 2 := fun _ => ⟨rfl, rfl⟩
theorem Item.flF : FlF Item.c := fun _ => rfl
structure Account where
  Title : List UInt8
  Items : List Item
  Balance : Int
  deriving DecidableEq
def Account.c (x : Account) : List AV := [.str x.Title, .sl none (x.Items.map Item.c), .int .i64 x.Balance]
theorem Account.fl : Fl Account.c 3 := fun _ => ⟨rfl, rfl⟩
structure Roll where
  Accounts : List Account
  Owed : Int
  deriving DecidableEq
def Roll.c (x : Roll) : List AV := [.sl none (x.Accounts.map Account.c), .int .i64 x.Owed]
theorem Roll.fl : Fl Roll.c 2 := fun _ => ⟨rfl, rfl⟩
structure L00Src where
  Code : List Int
  At : Int
  Seed : Int
  deriving DecidableEq
def L00Src.c (x : L00Src) : List AV := [.sl none (x.Code.map (cI .u8)), .int .i64 x.At, .int .u64 x.Seed]
theorem L00Src.fl : Fl L00Src.c 3 := fun _ => ⟨rfl, rfl⟩
theorem co27 : cx.P.cellsOf 27 = 3 := by kernel_rfl
theorem co42 : cx.P.cellsOf 42 = 2 := by kernel_rfl
theorem nty27 : nilTys cx.P 6 27 = [0, 43, 0] := by kernel_rfl
theorem nty74 : nilTys cx.P 6 74 = [28, 0] := by kernel_rfl
theorem zero125 : zeroOf cx.P 125 = [.nils, .int .i64 0, .int .u64 0] := by kernel_rfl
theorem zero27 : zeroOf cx.P 27 = [.str ([] : List UInt8), .nils, .int .i64 0] := by kernel_rfl
theorem zero42 : zeroOf cx.P 42 = [.int .i8 0, .int .i64 0] := by kernel_rfl
theorem zero74 : zeroOf cx.P 74 = [.nils, .int .i64 0] := by kernel_rfl
/-! ### loop.example/g01263/impl.worth (f117) -/
noncomputable def impl_worth (a1 : Int) : Option Int :=
 (rd [1, 12, 240, 4800, 24000, 240000] a1).bind fun x4 =>
 some x4
def impl_worth_enc (r : Int) : AV := .int .i64 r
theorem impl_worth_ok (a1 : Int) (r : Int) (h : impl_worth a1 = some r) : Ev (fun k => CN k 117 [.int .i64 a1] []) (fun p => rRes p.2 p.1 = impl_worth_enc r) := by
 unfold impl_worth at h
 obtain ⟨x4, hx5, h⟩ := bind_some h
 refine Ev.enter (F := fun k => f117 (CN k) k) (fun k => callN_eq rfl Tryd.func117 rfl rfl rfl (by decide +kernel) (f117_eq _ _)) (sq (Rg (kx (mvO rfl) (Rn (hN rfl hZ) fun e1 h3 => sN (sq (Rg (kx (litI (cns rfl (cns rfl (cns rfl (cns rfl (cns rfl (cns rfl rfl)))))) rfl ⟨rfl, by decide⟩) (kx (mvO h3) (kx (ixLt rfl rfl hx5 (cI_fl _)) (kx (ldP rfl rfl) (kx (mvO rfl) (Rn (hN rfl hZ) fun e6 h8 => sN (xx ?_)))))))))))))
 clear h3
 obtain rfl := si h
 exact eR (resT h8 res0) rfl
/-! ### loop.example/g01263/impl.number (f115) -/
def impl_number_c1_Q (a1 : List UInt8) (r : Unit ⊕ Bool) (q : Out) : Prop :=
  match r with
  | (.inl g) => q.1 = .ret ∧ eget q.2.1 2 = .int .i64 0 ∧ eget q.2.1 3 = .bool false
  | (.inr g) => q.1 = .nrm ∧ eget q.2.1 0 = .str a1 ∧ eget q.2.1 22 = .bool g
abbrev impl_number_b1_S := Int × Int
abbrev impl_number_b1_R := Unit ⊕ Int
def impl_number_b1_RS (a1 : List UInt8) (s : impl_number_b1_S) (e : Env) (M : Mem) : Prop := eget e 0 = .str a1 ∧ eget e 4 = .int .i64 s.1 ∧ eget e 24 = .int .i64 (a1.length : Int) ∧ eget e 25 = .int .i64 s.2
def impl_number_b1_RR (a1 : List UInt8) (r : impl_number_b1_R) (x : Ex) (e : Env) (M : Mem) : Prop :=
  match r with
  | (.inl g) => x = .ret ∧ eget e 2 = .int .i64 0 ∧ eget e 3 = .bool false
  | (.inr g) => x = .ext 0 ∧ eget e 4 = .int .i64 g
noncomputable def impl_number_b1 (a1 : List UInt8) : impl_number_b1_S → Option (impl_number_b1_S ⊕ impl_number_b1_R) := fun (s1_1, s1_2) =>
 if (decide (s1_2 < (a1.length : Int))) = true then
  (rd a1 s1_2).bind fun x93 =>
  if (decide ((x93.toNat : Int) < 48)) = true then
   some (.inr (.inl ()))
  else
   (rd a1 s1_2).bind fun x108 =>
   if (decide ((x108.toNat : Int) > 57)) = true then
    some (.inr (.inl ()))
   else
    (rd a1 s1_2).bind fun x123 =>
    some (.inl ((IntKind.i64.wrap ((IntKind.i64.wrap (s1_1 * 10)) + (IntKind.i64.wrap (IntKind.u8.wrap ((x123.toNat : Int) - 48))))), (IntKind.i64.wrap (s1_2 + 1))))
 else
  some (.inr (.inr s1_1))
theorem impl_number_b1_ok (a1 : List UInt8) (s : impl_number_b1_S) (r : impl_number_b1_S ⊕ impl_number_b1_R) (h : impl_number_b1 a1 s = some r) (e : Env) (M : Mem) (hs : impl_number_b1_RS a1 s e M) : Ev (fun k => (f115_l5 (CN k) k (prune [0, 4, 24, 25] e) M).bind fun q => some q) (bQ (impl_number_b1_RS a1) (impl_number_b1_RR a1) r) := by
 obtain ⟨s1_1, s1_2⟩ := s
 unfold impl_number_b1 at h
 obtain ⟨h70, h72, h74, h76⟩ := hs
 generalize he69 : prune [0, 4, 24, 25] e = e68
 have h71 := envp he69.symm rfl h70
 have h73 := envp he69.symm rfl h72
 have h75 := envp he69.symm rfl h74
 have h77 := envp he69.symm rfl h76
 refine sq (Rg (kx (bLss h77 h75) (Rn (hV (.str a1) h71 (hV (.int .i64 s1_1) h73 (hV (.int .i64 (a1.length : Int)) h75 (hV (.int .i64 s1_2) h77 (hN rfl hZ))))) fun e78 h80 h81 h82 h83 h84 => sN (sq ?_))))
 clear h71 h73 h75 h77
 rcases ite_some h with ⟨hb85, h⟩ | ⟨hb85, h⟩
 ·obtain ⟨x93, hx94, h⟩ := bind_some h
  refine cT h84 hb85 (xx (sN (sq (bl (sq (Rg (kx (mvO h83) (kx (mvO rfl) (Rn (hA h80 (hA h81 (hN rfl (hA h82 (hA h83 hZ))))) fun e86 h88 h89 h90 h91 h92 => sN (sq (sq (Rg (kx (mvO h88) (kx (mvO h90) (kx (ixB rfl rfl hx94) (kx (bLss rfl rfl) (kx (mvO rfl) ?_)))))))))))))))))
  clear h80 h81 h82 h83 h84
  rcases ite_some h with ⟨hb95, h⟩ | ⟨hb95, h⟩
  ·refine kx (gsF rfl hb95) (kx (gsF rfl hb95) (kx (gsF rfl hb95) (kx (gsF rfl hb95) (kx (pkT rfl hb95 rfl) (Rn (hA h88 (hA h89 (hA h90 (hA h91 (hA h92 (hV (.bool true) rfl hZ)))))) fun e96 h98 h99 h100 h101 h102 h103 => sN (cT h103 rfl (sq (Rg (kx (mvO rfl) (kx (mvO rfl) (Rn (hV (.int .i64 0) rfl (hV (.bool false) rfl hZ)) fun e104 h106 h107 => sN (xx (sR (bR (sR ?_)))))))))))))))
   clear h88 h89 h90 h91 h92 h100 h101 h102 h103 h98 h99
   obtain rfl := si h
   exact qR ⟨rfl, h106, h107⟩
  obtain ⟨x108, hx109, h⟩ := bind_some h
  refine kx (guF rfl hb95 (mvO h88)) (kx (guF rfl hb95 (mvO h90)) (kx (guF rfl hb95 (ixB rfl rfl hx109)) (kx (guF rfl hb95 (bGtr rfl rfl)) (kx (pkF rfl hb95 rfl) (Rn (hA h88 (hA h89 (hA h90 (hA h91 (hA h92 (hN rfl hZ)))))) fun e110 h112 h113 h114 h115 h116 h117 => sN ?_)))))
  clear h88 h89 h90 h91 h92
  rcases ite_some h with ⟨hb118, h⟩ | ⟨hb118, h⟩
  ·refine cT h117 hb118 (sq (Rg (kx (mvO rfl) (kx (mvO rfl) (Rn (hV (.int .i64 0) rfl (hV (.bool false) rfl hZ)) fun e119 h121 h122 => sN (xx (sR (bR (sR ?_)))))))))
   clear h112 h113 h114 h115 h116 h117
   obtain rfl := si h
   exact qR ⟨rfl, h121, h122⟩
  obtain ⟨x123, hx124, h⟩ := bind_some h
  refine cF h117 hb118 (xx (sN (Rg (kx (mvO h113) (kx (bMul rfl rfl) (kx (mvO h112) (kx (mvO h114) (kx (ixB rfl rfl hx124) (kx (bSub rfl rfl) (kx (cvI rfl) (kx (bAdd rfl rfl) (kx (mvO rfl) (Rn (hA h112 (hN rfl (hA h115 (hA h116 hZ)))) fun e125 h127 h128 h129 h130 => bN (sN (Rg (kx (bAdd h130 rfl) (kx (mvO rfl) (Rn (hA h127 (hA h128 (hA h129 (hN rfl hZ)))) fun e131 h133 h134 h135 h136 => ?_))))))))))))))))))
  clear h112 h114 h115 h116 h117 h127 h128 h129
  obtain rfl := si h
  exact qN ⟨h133, h134, h135, h136⟩
 refine cF h84 hb85 (xx (sE ?_))
 obtain rfl := si h
 exact qE ⟨rfl, h81⟩
noncomputable def impl_number (a1 : List UInt8) : Option (Int × Bool) :=
 ((if (a1 == ([] : List UInt8)) = true then
  some (.inl ())
 else
  if (decide ((a1.length : Int) > 9)) = true then
   some (.inl ())
  else
   (rd a1 0).bind fun x22 =>
   if ((x22.toNat : Int) == 48) = true then
    if (decide ((a1.length : Int) > 1)) = true then
     some (.inl ())
    else
     some (.inr (decide ((a1.length : Int) > 1)))
   else
    some (.inr false) : Option (Unit ⊕ Bool))).bind fun r => match r with
 | (.inl _) =>
  some (0, false)
 | (.inr y45) =>
  (Lw (impl_number_b1 a1) (0, 0)).bind fun r => match r with
  | (.inl _) =>
   some (0, false)
  | (.inr y146) =>
   some (y146, true)
def impl_number_enc (r : Int × Bool) : AV := .tup [.int .i64 r.1, .bool r.2]
theorem impl_number_ok (a1 : List UInt8) (r : Int × Bool) (h : impl_number a1 = some r) : Ev (fun k => CN k 115 [.str a1] []) (fun p => rRes p.2 p.1 = impl_number_enc r) := by
 unfold impl_number at h
 obtain ⟨r153, hr154, h⟩ := bind_some h
 refine Ev.enter (F := fun k => f115 (CN k) k) (fun k => callN_eq rfl Tryd.func115 rfl rfl rfl (by decide +kernel) (f115_eq _ _)) (sq (Rg (kx (mvO rfl) (kx (mvO rfl) (Rn (hN rfl hZ) fun e1 h3 => sN (sq ?_))))))
 refine Ev.cut (Q1 := impl_number_c1_Q a1 r153) (by
     have h := hr154
     refine sq (Rg (kx (mvO h3) (kx (sEql rfl rfl) (kx (mvO rfl) ?_))))
     rcases ite_some h with ⟨hb4, h⟩ | ⟨hb4, h⟩
     ·refine kx (gsF rfl hb4) (kx (gsF rfl hb4) (kx (gsF rfl hb4) (kx (pkT rfl hb4 rfl) (kx (mvO rfl) (kx (gsF rfl rfl) (kx (gsF rfl rfl) (kx (gsF rfl rfl) (kx (gsF rfl rfl) (kx (gsU rfl) (kx (gsU rfl) (kx (gsU rfl) (kx (gsF rfl rfl) (kx (pkT rfl rfl rfl) (Rn (hA h3 (hV (.bool true) rfl hZ)) fun e5 h7 h8 => sN (cT h8 rfl (sq (Rg (kx (mvO rfl) (kx (mvO rfl) (Rn (hV (.int .i64 0) rfl (hV (.bool false) rfl hZ)) fun e9 h11 h12 => sN (xx ?_)))))))))))))))))))))
      clear h3 h7 h8
      obtain rfl := si h
      exact kd (show impl_number_c1_Q a1 _ _ from ⟨rfl, h11, h12⟩)
     refine kx (guF rfl hb4 (mvO h3)) (kx (guF rfl hb4 (lnB Tryd.underlying9 rfl)) (kx (guF rfl hb4 (bGtr rfl rfl)) (kx (pkF rfl hb4 rfl) (kx (mvO rfl) ?_))))
     rcases ite_some h with ⟨hb13, h⟩ | ⟨hb13, h⟩
     ·refine kx (gsF rfl hb13) (kx (gsF rfl hb13) (kx (gsF rfl hb13) (kx (gsF rfl hb13) (kx (gsU rfl) (kx (gsU rfl) (kx (gsU rfl) (kx (gsF rfl hb13) (kx (pkT rfl hb13 rfl) (Rn (hA h3 (hV (.bool true) rfl hZ)) fun e14 h16 h17 => sN (cT h17 rfl (sq (Rg (kx (mvO rfl) (kx (mvO rfl) (Rn (hV (.int .i64 0) rfl (hV (.bool false) rfl hZ)) fun e18 h20 h21 => sN (xx ?_))))))))))))))))
      clear h3 h16 h17
      obtain rfl := si h
      exact kd (show impl_number_c1_Q a1 _ _ from ⟨rfl, h20, h21⟩)
     obtain ⟨x22, hx23, h⟩ := bind_some h
     refine kx (guF rfl hb13 (mvO h3)) (kx (guF rfl hb13 (ixB rfl rfl hx23)) (kx (guF rfl hb13 (bEql rfl rfl)) (kx (guF rfl hb13 (mvO rfl)) ?_)))
     rcases ite_some h with ⟨hb24, h⟩ | ⟨hb24, h⟩
     ·refine kx (guT rfl hb24 (mvO h3)) (kx (guT rfl hb24 (lnB Tryd.underlying9 rfl)) (kx (guT rfl hb24 (bGtr rfl rfl)) (kx (guF rfl hb13 (pkT rfl hb24 rfl)) (kx (pkF rfl hb13 rfl) (Rn (hA h3 (hN rfl hZ)) fun e25 h27 h28 => sN ?_)))))
      clear h3
      rcases ite_some h with ⟨hb29, h⟩ | ⟨hb29, h⟩
      ·refine cT h28 hb29 (sq (Rg (kx (mvO rfl) (kx (mvO rfl) (Rn (hV (.int .i64 0) rfl (hV (.bool false) rfl hZ)) fun e30 h32 h33 => sN (xx ?_))))))
       clear h27 h28
       obtain rfl := si h
       exact kd (show impl_number_c1_Q a1 _ _ from ⟨rfl, h32, h33⟩)
      refine cF h28 hb29 (xx ?_)
      obtain rfl := si h
      exact kd (show impl_number_c1_Q a1 _ _ from ⟨rfl, h27, h28⟩)
     refine kx (gsT rfl hb24) (kx (gsT rfl hb24) (kx (gsT rfl hb24) (kx (guF rfl hb13 (pkF rfl hb24 rfl)) (kx (pkF rfl hb13 rfl) (Rn (hA h3 (hV (.bool false) rfl hZ)) fun e34 h36 h37 => sN (cF h37 rfl (xx ?_)))))))
     clear h3
     obtain rfl := si h
     exact kd (show impl_number_c1_Q a1 _ _ from ⟨rfl, h36, h37⟩)) ?_
 rcases r153 with _ | y45
 ·intro x e38 M39 hq42
  obtain ⟨rfl, h40, h41⟩ := hq42
  refine sR ?_
  obtain rfl := si h
  exact eR (resT h40 (resT h41 res0)) rfl
 intro x e43 M44 hq152
 obtain ⟨rfl, h46, h47⟩ := hq152
 obtain ⟨r137, hr138, h⟩ := bind_some h
 refine sN (sq (Rg (kx (mvO rfl) (Rn (hV (.str a1) h46 (hV (.int .i64 0) rfl hZ)) fun e48 h50 h51 => sN (sq (sq (Rg (kx (mvO h50) (kx (lnB Tryd.underlying9 rfl) (kx (mvO rfl) (Rn (hA h50 (hA h51 (hN rfl (hV (.int .i64 0) rfl hZ)))) fun e52 h54 h55 h56 h57 => sN (bl ?_))))))))))))
 clear h46 h47 h50 h51
 rcases r137 with _ | y146
 ·refine Ev.loop (RS := impl_number_b1_RS a1) (RR := impl_number_b1_RR a1) (fun s r h e M hs => impl_number_b1_ok a1 s r h e M hs) hr138 ⟨h54, h55, h56, h57⟩ fun x e140 M141 hq139 => ?_
  obtain ⟨rfl, h142, h143⟩ := hq139
  refine bR (sR ?_)
  obtain rfl := si h
  exact eR (resT h142 (resT h143 res0)) rfl
 refine Ev.loop (RS := impl_number_b1_RS a1) (RR := impl_number_b1_RR a1) (fun s r h e M hs => impl_number_b1_ok a1 s r h e M hs) hr138 ⟨h54, h55, h56, h57⟩ fun x e144 M145 hq139 => ?_
 obtain ⟨rfl, h147⟩ := hq139
 refine bE (sN (sq (Rg (kx (mvO h147) (kx (mvO rfl) (kx (mvO rfl) (Rn (hN rfl (hV (.bool true) rfl hZ)) fun e148 h150 h151 => sN (xx ?_))))))))
 clear h147
 obtain rfl := si h
 exact eR (resT h150 (resT h151 res0)) rfl
/-! ### loop.example/g01263/spec.l00In (f84) -/
noncomputable def spec_l00In (a1 : Int) (a2 : Int) (a3 : Int) : Option Bool :=
 if (decide (a1 ≥ a2)) = true then
  some (decide (a1 ≤ a3))
 else
  some false
def spec_l00In_enc (r : Bool) : AV := .bool r
theorem spec_l00In_ok (a1 : Int) (a2 : Int) (a3 : Int) (r : Bool) (h : spec_l00In a1 a2 a3 = some r) : Ev (fun k => CN k 84 [.int .i64 a1, .int .i64 a2, .int .i64 a3] []) (fun p => rRes p.2 p.1 = spec_l00In_enc r) := by
 unfold spec_l00In at h
 refine Ev.enter (F := fun k => f84 (CN k) k) (fun k => callN_eq rfl Tryd.func84 rfl rfl rfl (by decide +kernel) (f84_eq _ _)) (sq (Rg (kx (mvO rfl) (Rn (hN rfl (hN rfl (hN rfl hZ))) fun e1 h3 h4 h5 => sN (sq (Rg (kx (mvO h3) (kx (mvO h4) (kx (bGeq rfl rfl) (kx (mvO rfl) ?_))))))))))
 rcases ite_some h with ⟨hb6, h⟩ | ⟨hb6, h⟩
 ·refine kx (guT rfl hb6 (mvO h3)) (kx (guT rfl hb6 (mvO h5)) (kx (guT rfl hb6 (bLeq rfl rfl)) (kx (pkT rfl hb6 rfl) (kx (mvO rfl) (Rn (hN rfl hZ) fun e7 h9 => sN (xx ?_))))))
  clear h3 h4 h5
  obtain rfl := si h
  exact eR (resT h9 res0) rfl
 refine kx (gsT rfl hb6) (kx (gsT rfl hb6) (kx (gsT rfl hb6) (kx (pkF rfl hb6 rfl) (kx (mvO rfl) (Rn (hV (.bool false) rfl hZ) fun e10 h12 => sN (xx ?_))))))
 clear h3 h4 h5
 obtain rfl := si h
 exact eR (resT h12 res0) rfl
/-! ### loop.example/g01263/spec.l05Title (f46) -/
abbrev spec_l05Title_b1_S := Int
abbrev spec_l05Title_b1_R := Unit ⊕ Unit
def spec_l05Title_b1_RS (a1 : List UInt8) (s : spec_l05Title_b1_S) (e : Env) (M : Mem) : Prop := eget e 0 = .str a1 ∧ eget e 3 = .int .i64 s
def spec_l05Title_b1_RR (a1 : List UInt8) (r : spec_l05Title_b1_R) (x : Ex) (e : Env) (M : Mem) : Prop :=
  match r with
  | (.inl g) => x = .ret ∧ eget e 2 = .bool false
  | (.inr g) => x = .ext 0 ∧ eget e 0 = .str a1
noncomputable def spec_l05Title_b1 (a1 : List UInt8) : spec_l05Title_b1_S → Option (spec_l05Title_b1_S ⊕ spec_l05Title_b1_R) := fun s1_1 =>
 if (decide (s1_1 < (a1.length : Int))) = true then
  (rd a1 s1_1).bind fun x26 =>
  if (decide ((x26.toNat : Int) < 97)) = true then
   some (.inr (.inl ()))
  else
   (rd a1 s1_1).bind fun x37 =>
   if (decide ((x37.toNat : Int) > 122)) = true then
    some (.inr (.inl ()))
   else
    some (.inl (IntKind.i64.wrap (s1_1 + 1)))
 else
  some (.inr (.inr ()))
theorem spec_l05Title_b1_ok (a1 : List UInt8) (s : spec_l05Title_b1_S) (r : spec_l05Title_b1_S ⊕ spec_l05Title_b1_R) (h : spec_l05Title_b1 a1 s = some r) (e : Env) (M : Mem) (hs : spec_l05Title_b1_RS a1 s e M) : Ev (fun k => (f46_l2 (CN k) k (prune [0, 3] e) M).bind fun q => some q) (bQ (spec_l05Title_b1_RS a1) (spec_l05Title_b1_RR a1) r) := by
 revert h hs
 revert s
 intro s1_1 h hs
 unfold spec_l05Title_b1 at h
 obtain ⟨h16, h18⟩ := hs
 generalize he15 : prune [0, 3] e = e14
 have h17 := envp he15.symm rfl h16
 have h19 := envp he15.symm rfl h18
 refine sq (sq (Rg (kx (mvO h19) (kx (mvO h17) (kx (lnB Tryd.underlying9 rfl) (kx (bLss rfl rfl) (Rn (hV (.str a1) h17 (hV (.int .i64 s1_1) h19 (hN rfl hZ))) fun e20 h22 h23 h24 => sN ?_)))))))
 clear h17 h19
 rcases ite_some h with ⟨hb25, h⟩ | ⟨hb25, h⟩
 ·obtain ⟨x26, hx27, h⟩ := bind_some h
  refine cT h24 hb25 (xx (sN (sq (bl (sq (Rg (kx (mvO h22) (kx (mvO h23) (kx (ixB rfl rfl hx27) (kx (bLss rfl rfl) (kx (mvO rfl) ?_)))))))))))
  rcases ite_some h with ⟨hb28, h⟩ | ⟨hb28, h⟩
  ·refine kx (gsF rfl hb28) (kx (gsF rfl hb28) (kx (gsF rfl hb28) (kx (gsF rfl hb28) (kx (pkT rfl hb28 rfl) (Rn (hA h22 (hA h23 (hV (.bool true) rfl hZ))) fun e29 h31 h32 h33 => sN (cT h33 rfl (sq (Rg (kx (mvO rfl) (Rn (hV (.bool false) rfl hZ) fun e34 h36 => sN (xx (bR (sR ?_)))))))))))))
   clear h22 h23 h24 h31 h32 h33
   obtain rfl := si h
   exact qR ⟨rfl, h36⟩
  obtain ⟨x37, hx38, h⟩ := bind_some h
  refine kx (guF rfl hb28 (mvO h22)) (kx (guF rfl hb28 (mvO h23)) (kx (guF rfl hb28 (ixB rfl rfl hx38)) (kx (guF rfl hb28 (bGtr rfl rfl)) (kx (pkF rfl hb28 rfl) (Rn (hA h22 (hA h23 (hN rfl hZ))) fun e39 h41 h42 h43 => sN ?_)))))
  clear h22 h23 h24
  rcases ite_some h with ⟨hb44, h⟩ | ⟨hb44, h⟩
  ·refine cT h43 hb44 (sq (Rg (kx (mvO rfl) (Rn (hV (.bool false) rfl hZ) fun e45 h47 => sN (xx (bR (sR ?_)))))))
   clear h41 h42 h43
   obtain rfl := si h
   exact qR ⟨rfl, h47⟩
  refine cF h43 hb44 (xx (bN (sN (Rg (kx (mvO h42) (kx (bAdd rfl rfl) (kx (mvO rfl) (Rn (hA h41 (hN rfl hZ)) fun e48 h50 h51 => ?_))))))))
  clear h41 h43
  obtain rfl := si h
  exact qN ⟨h50, h51⟩
 refine cF h24 hb25 (xx (sE ?_))
 obtain rfl := si h
 exact qE ⟨rfl, h22⟩
noncomputable def spec_l05Title (a1 : List UInt8) : Option Bool :=
 (Lw (spec_l05Title_b1 a1) 0).bind fun r => match r with
 | (.inl _) =>
  some false
 | (.inr _) =>
  (spec_l00In (a1.length : Int) 1 16).bind fun r62 =>
  some r62
def spec_l05Title_enc (r : Bool) : AV := .bool r
theorem spec_l05Title_ok (a1 : List UInt8) (r : Bool) (h : spec_l05Title a1 = some r) : Ev (fun k => CN k 46 [.str a1] []) (fun p => rRes p.2 p.1 = spec_l05Title_enc r) := by
 unfold spec_l05Title at h
 obtain ⟨r52, hr53, h⟩ := bind_some h
 refine Ev.enter (F := fun k => f46 (CN k) k) (fun k => callN_eq rfl Tryd.func46 rfl rfl rfl (by decide +kernel) (f46_eq _ _)) (sq (Rg (kx (mvO rfl) (Rn (hN rfl hZ) fun e1 h3 => sN (sq (sq (Rg (kx (mvO rfl) (Rn (hA h3 (hV (.int .i64 0) rfl hZ)) fun e4 h6 h7 => sN (bl ?_))))))))))
 clear h3
 rcases r52 with _ | _
 ·refine Ev.loop (RS := spec_l05Title_b1_RS a1) (RR := spec_l05Title_b1_RR a1) (fun s r h e M hs => spec_l05Title_b1_ok a1 s r h e M hs) hr53 ⟨h6, h7⟩ fun x e55 M56 hq54 => ?_
  obtain ⟨rfl, h57⟩ := hq54
  refine bR (sR ?_)
  obtain rfl := si h
  exact eR (resT h57 res0) rfl
 refine Ev.loop (RS := spec_l05Title_b1_RS a1) (RR := spec_l05Title_b1_RR a1) (fun s r h e M hs => spec_l05Title_b1_ok a1 s r h e M hs) hr53 ⟨h6, h7⟩ fun x e58 M59 hq54 => ?_
 obtain ⟨rfl, h60⟩ := hq54
 obtain ⟨r62, hx61, h⟩ := bind_some h
 refine bE (sN (sq (Rg (kx (mvO h60) (kx (lnB Tryd.underlying9 rfl) (kc (cl (v := .bool r62) rfl rfl (cns rfl (cns rfl (cns rfl rfl))) rfl (spec_l00In_ok (a1.length : Int) 1 16 _ hx61) nm) (kx (mvO rfl) (Rn (hN rfl hZ) fun e63 h65 => sN (xx ?_)))))))))
 clear h60
 obtain rfl := si h
 exact eR (resT h65 res0) rfl
/-! ### loop.example/g01263/spec.l01Amount (f56) -/
noncomputable def spec_l01Amount (a1 : Int) : Option Bool :=
 (spec_l00In a1 0 100000000).bind fun r5 =>
 some r5
def spec_l01Amount_enc (r : Bool) : AV := .bool r
theorem spec_l01Amount_ok (a1 : Int) (r : Bool) (h : spec_l01Amount a1 = some r) : Ev (fun k => CN k 56 [.int .i64 a1] []) (fun p => rRes p.2 p.1 = spec_l01Amount_enc r) := by
 unfold spec_l01Amount at h
 obtain ⟨r5, hx4, h⟩ := bind_some h
 refine Ev.enter (F := fun k => f56 (CN k) k) (fun k => callN_eq rfl Tryd.func56 rfl rfl rfl (by decide +kernel) (f56_eq _ _)) (sq (Rg (kx (mvO rfl) (Rn (hN rfl hZ) fun e1 h3 => sN (sq (Rg (kx (mvO h3) (kc (cl (v := .bool r5) rfl rfl (cns rfl (cns rfl (cns rfl rfl))) rfl (spec_l00In_ok a1 0 100000000 _ hx4) nm) (kx (mvO rfl) (Rn (hN rfl hZ) fun e6 h8 => sN (xx ?_)))))))))))
 clear h3
 obtain rfl := si h
 exact eR (resT h8 res0) rfl
/-! ### loop.example/g01263/spec.l05Item (f83) -/
noncomputable def spec_l05Item (a1 : Item) : Option Bool :=
 (spec_l00In (IntKind.i64.wrap a1.Kind) 0 3).bind fun r5 =>
 if r5 = true then
  (spec_l01Amount a1.Amount).bind fun r8 =>
  some r8
 else
  some false
def spec_l05Item_enc (r : Bool) : AV := .bool r
theorem spec_l05Item_ok (a1 : Item) (r : Bool) (h : spec_l05Item a1 = some r) : Ev (fun k => CN k 83 [.pt none [.int .i8 a1.Kind, .int .i64 a1.Amount]] []) (fun p => rRes p.2 p.1 = spec_l05Item_enc r) := by
 unfold spec_l05Item at h
 obtain ⟨r5, hx4, h⟩ := bind_some h
 refine Ev.enter (F := fun k => f83 (CN k) k) (fun k => callN_eq rfl Tryd.func83 rfl rfl rfl (by decide +kernel) (f83_eq _ _)) (sq (Rg (kx (mvO rfl) (Rn (hN rfl hZ) fun e1 h3 => sN (sq (Rg (kx (mvO h3) (kx (ncP rfl) (kx (faP rfl ⟨ble rfl, blt rfl⟩ rfl) (kx (ldP rfl rfl) (kx (cvI rfl) (kc (cl (v := .bool r5) rfl rfl (cns rfl (cns rfl (cns rfl rfl))) rfl (spec_l00In_ok (IntKind.i64.wrap a1.Kind) 0 3 _ hx4) nm) (kx (mvO rfl) ?_)))))))))))))
 rcases ite_some h with ⟨hb6, h⟩ | ⟨hb6, h⟩
 ·obtain ⟨r8, hx7, h⟩ := bind_some h
  refine kx (guT rfl hb6 (mvO h3)) (kx (guT rfl hb6 (ncP rfl)) (kx (guT rfl hb6 (faP rfl ⟨ble rfl, blt rfl⟩ rfl)) (kx (guT rfl hb6 (ldP rfl rfl)) (kc (Ev.guT rfl hb6 (cl (v := .bool r8) rfl rfl (cns rfl rfl) rfl (spec_l01Amount_ok a1.Amount _ hx7) nm)) (kx (pkT rfl hb6 rfl) (kx (mvO rfl) (Rn (hN rfl hZ) fun e9 h11 => sN (xx ?_))))))))
  clear h3
  obtain rfl := si h
  exact eR (resT h11 res0) rfl
 refine kx (gsT rfl hb6) (kx (gsT rfl hb6) (kx (gsT rfl hb6) (kx (gsT rfl hb6) (kc (Ev.gsT rfl hb6) (kx (pkF rfl hb6 rfl) (kx (mvO rfl) (Rn (hV (.bool false) rfl hZ) fun e12 h14 => sN (xx ?_))))))))
 clear h3
 obtain rfl := si h
 exact eR (resT h14 res0) rfl
/-! ### loop.example/g01263/spec.l05Items (f45) -/
abbrev spec_l05Items_b1_S := Int
abbrev spec_l05Items_b1_R := Unit ⊕ Unit
def spec_l05Items_b1_RS (a1 : List Item) (s : spec_l05Items_b1_S) (e : Env) (M : Mem) : Prop := eget e 0 = .sl none (a1.map Item.c) ∧ eget e 3 = .int .i64 s
def spec_l05Items_b1_RR (a1 : List Item) (r : spec_l05Items_b1_R) (x : Ex) (e : Env) (M : Mem) : Prop :=
  match r with
  | (.inl g) => x = .ret ∧ eget e 2 = .bool false
  | (.inr g) => x = .ext 0 ∧ True
noncomputable def spec_l05Items_b1 (a1 : List Item) : spec_l05Items_b1_S → Option (spec_l05Items_b1_S ⊕ spec_l05Items_b1_R) := fun s1_1 =>
 if (decide (s1_1 < (a1.length : Int))) = true then
  (rd a1 s1_1).bind fun x34 =>
  (spec_l05Item x34).bind fun r37 =>
  if r37 = true then
   some (.inl (IntKind.i64.wrap (s1_1 + 1)))
  else
   some (.inr (.inl ()))
 else
  some (.inr (.inr ()))
theorem spec_l05Items_b1_ok (a1 : List Item) (s : spec_l05Items_b1_S) (r : spec_l05Items_b1_S ⊕ spec_l05Items_b1_R) (h : spec_l05Items_b1 a1 s = some r) (e : Env) (M : Mem) (hs : spec_l05Items_b1_RS a1 s e M) : Ev (fun k => (f45_l4 (CN k) k (prune [0, 3] e) M).bind fun q => some q) (bQ (spec_l05Items_b1_RS a1) (spec_l05Items_b1_RR a1) r) := by
 revert h hs
 revert s
 intro s1_1 h hs
 unfold spec_l05Items_b1 at h
 obtain ⟨h24, h26⟩ := hs
 generalize he23 : prune [0, 3] e = e22
 have h25 := envp he23.symm rfl h24
 have h27 := envp he23.symm rfl h26
 refine sq (sq (Rg (kx (mvO h27) (kx (mvO h25) (kx (lnS Tryd.underlying24 rfl) (kx (bLss rfl rfl) (Rn (hV (.sl none (a1.map Item.c)) h25 (hV (.int .i64 s1_1) h27 (hN rfl hZ))) fun e28 h30 h31 h32 => sN ?_)))))))
 clear h25 h27
 rcases ite_some h with ⟨hb33, h⟩ | ⟨hb33, h⟩
 ·obtain ⟨x34, hx35, h⟩ := bind_some h
  obtain ⟨r37, hx36, h⟩ := bind_some h
  refine cT h32 hb33 (xx (sN (sq (bl (sq (Rg (kx (mvO h30) (kx (mvO h31) (kx (ixS rfl rfl hx35 Item.fl) (kc (cl (v := .bool r37) rfl rfl (cns rfl rfl) rfl (spec_l05Item_ok x34 _ hx36) nm) (kx (uNot rfl) (Rn (hA h30 (hA h31 (hN rfl hZ))) fun e38 h40 h41 h42 => sN ?_))))))))))))
  clear h30 h31 h32
  rcases ite_some h with ⟨hb43, h⟩ | ⟨hb43, h⟩
  ·refine cF h42 (congrArg Bool.not hb43) (xx (bN (sN (Rg (kx (mvO h41) (kx (bAdd rfl rfl) (kx (mvO rfl) (Rn (hA h40 (hN rfl hZ)) fun e44 h46 h47 => ?_))))))))
   clear h40 h42
   obtain rfl := si h
   exact qN ⟨h46, h47⟩
  refine cT h42 (congrArg Bool.not hb43) (sq (Rg (kx (mvO rfl) (Rn (hV (.bool false) rfl hZ) fun e48 h50 => sN (xx (bR (sR ?_)))))))
  clear h40 h41 h42
  obtain rfl := si h
  exact qR ⟨rfl, h50⟩
 refine cF h32 hb33 (xx (sE ?_))
 obtain rfl := si h
 exact qE ⟨rfl, trivial⟩
noncomputable def spec_l05Items (a1 : List Item) : Option Bool :=
 if (decide ((a1.length : Int) > 40)) = true then
  some false
 else
  (Lw (spec_l05Items_b1 a1) 0).bind fun r => match r with
  | (.inl _) =>
   some false
  | (.inr _) =>
   some true
def spec_l05Items_enc (r : Bool) : AV := .bool r
theorem spec_l05Items_ok (a1 : List Item) (r : Bool) (h : spec_l05Items a1 = some r) : Ev (fun k => CN k 45 [.sl none (a1.map Item.c)] []) (fun p => rRes p.2 p.1 = spec_l05Items_enc r) := by
 unfold spec_l05Items at h
 refine Ev.enter (F := fun k => f45 (CN k) k) (fun k => callN_eq rfl Tryd.func45 rfl rfl rfl (by decide +kernel) (f45_eq _ _)) (sq (Rg (kx (mvO rfl) (Rn (hN rfl hZ) fun e1 h3 => sN (sq (sq (Rg (kx (mvO h3) (kx (lnS Tryd.underlying24 rfl) (kx (bGtr rfl rfl) (Rn (hA h3 (hN rfl hZ)) fun e4 h6 h7 => sN ?_)))))))))))
 clear h3
 rcases ite_some h with ⟨hb8, h⟩ | ⟨hb8, h⟩
 ·refine cT h7 hb8 (sq (Rg (kx (mvO rfl) (Rn (hV (.bool false) rfl hZ) fun e9 h11 => sN (xx (sR ?_))))))
  clear h6 h7
  obtain rfl := si h
  exact eR (resT h11 res0) rfl
 obtain ⟨r51, hr52, h⟩ := bind_some h
 refine cF h7 hb8 (xx (sN (sq (sq (Rg (kx (mvO rfl) (Rn (hA h6 (hV (.int .i64 0) rfl hZ)) fun e12 h14 h15 => sN (bl ?_))))))))
 clear h6 h7
 rcases r51 with _ | _
 ·refine Ev.loop (RS := spec_l05Items_b1_RS a1) (RR := spec_l05Items_b1_RR a1) (fun s r h e M hs => spec_l05Items_b1_ok a1 s r h e M hs) hr52 ⟨h14, h15⟩ fun x e54 M55 hq53 => ?_
  obtain ⟨rfl, h56⟩ := hq53
  refine bR (sR ?_)
  obtain rfl := si h
  exact eR (resT h56 res0) rfl
 refine Ev.loop (RS := spec_l05Items_b1_RS a1) (RR := spec_l05Items_b1_RR a1) (fun s r h e M hs => spec_l05Items_b1_ok a1 s r h e M hs) hr52 ⟨h14, h15⟩ fun x e57 M58 hq53 => ?_
 obtain ⟨rfl, _⟩ := hq53
 refine bE (sN (sq (Rg (kx (mvO rfl) (Rn (hV (.bool true) rfl hZ) fun e59 h61 => sN (xx ?_))))))
 obtain rfl := si h
 exact eR (resT h61 res0) rfl
/-! ### loop.example/g01263/spec.l05Balance (f85) -/
abbrev spec_l05Balance_b1_S := Int × Int
abbrev spec_l05Balance_b1_R := Int
def spec_l05Balance_b1_RS (a1 : List Item) (s : spec_l05Balance_b1_S) (e : Env) (M : Mem) : Prop := eget e 0 = .sl none (a1.map Item.c) ∧ eget e 3 = .int .i64 s.1 ∧ eget e 4 = .int .i64 s.2
def spec_l05Balance_b1_RR (a1 : List Item) (g : spec_l05Balance_b1_R) (x : Ex) (e : Env) (M : Mem) : Prop := x = .ext 0 ∧ eget e 3 = .int .i64 g
noncomputable def spec_l05Balance_b1 (a1 : List Item) : spec_l05Balance_b1_S → Option (spec_l05Balance_b1_S ⊕ spec_l05Balance_b1_R) := fun (s1_1, s1_2) =>
 if (decide (s1_2 < (a1.length : Int))) = true then
  (rd a1 s1_2).bind fun x36 =>
  if (x36.Kind == 0) = true then
   (rd a1 s1_2).bind fun x45 =>
   some (.inl ((IntKind.i64.wrap (s1_1 + x45.Amount)), (IntKind.i64.wrap (s1_2 + 1))))
  else
   (rd a1 s1_2).bind fun x57 =>
   if (x57.Kind == 1) = true then
    (rd a1 s1_2).bind fun x66 =>
    some (.inl ((IntKind.i64.wrap (s1_1 + x66.Amount)), (IntKind.i64.wrap (s1_2 + 1))))
   else
    (rd a1 s1_2).bind fun x78 =>
    some (.inl ((IntKind.i64.wrap (s1_1 - x78.Amount)), (IntKind.i64.wrap (s1_2 + 1))))
 else
  some (.inr s1_1)
theorem spec_l05Balance_b1_ok (a1 : List Item) (s : spec_l05Balance_b1_S) (r : spec_l05Balance_b1_S ⊕ spec_l05Balance_b1_R) (h : spec_l05Balance_b1 a1 s = some r) (e : Env) (M : Mem) (hs : spec_l05Balance_b1_RS a1 s e M) : Ev (fun k => (f85_l3 (CN k) k (prune [0, 3, 4] e) M).bind fun q => some q) (bQ (spec_l05Balance_b1_RS a1) (spec_l05Balance_b1_RR a1) r) := by
 obtain ⟨s1_1, s1_2⟩ := s
 unfold spec_l05Balance_b1 at h
 obtain ⟨h23, h25, h27⟩ := hs
 generalize he22 : prune [0, 3, 4] e = e21
 have h24 := envp he22.symm rfl h23
 have h26 := envp he22.symm rfl h25
 have h28 := envp he22.symm rfl h27
 refine sq (sq (Rg (kx (mvO h28) (kx (mvO h24) (kx (lnS Tryd.underlying24 rfl) (kx (bLss rfl rfl) (Rn (hV (.sl none (a1.map Item.c)) h24 (hV (.int .i64 s1_1) h26 (hV (.int .i64 s1_2) h28 (hN rfl hZ)))) fun e29 h31 h32 h33 h34 => sN ?_)))))))
 clear h24 h26 h28
 rcases ite_some h with ⟨hb35, h⟩ | ⟨hb35, h⟩
 ·obtain ⟨x36, hx37, h⟩ := bind_some h
  refine cT h34 hb35 (xx (sN (sq (bl (sq (Rg (kx (mvO h31) (kx (mvO h33) (kx (ixS rfl rfl hx37 Item.fl) (kx (faP rfl ⟨ble rfl, blt rfl⟩ rfl) (kx (ldP rfl rfl) (kx (bEql rfl rfl) (kx (mvO rfl) ?_)))))))))))))
  rcases ite_some h with ⟨hb38, h⟩ | ⟨hb38, h⟩
  ·obtain ⟨x45, hx46, h⟩ := bind_some h
   refine kx (gsF rfl hb38) (kx (gsF rfl hb38) (kx (gsF rfl hb38) (kx (gsF rfl hb38) (kx (gsF rfl hb38) (kx (gsF rfl hb38) (kx (pkT rfl hb38 rfl) (Rn (hA h31 (hA h32 (hA h33 (hV (.bool true) rfl hZ)))) fun e39 h41 h42 h43 h44 => sN (cT h44 rfl (Rg (kx (mvO h42) (kx (mvO h41) (kx (mvO h43) (kx (ixS rfl rfl hx46 Item.fl) (kx (faP rfl ⟨ble rfl, blt rfl⟩ rfl) (kx (ldP rfl rfl) (kx (bAdd rfl rfl) (kx (mvO rfl) (Rn (hA h41 (hN rfl (hA h43 hZ))) fun e47 h49 h50 h51 => bN (sN (Rg (kx (mvO h51) (kx (bAdd rfl rfl) (kx (mvO rfl) (Rn (hA h49 (hA h50 (hN rfl hZ))) fun e52 h54 h55 h56 => ?_))))))))))))))))))))))))
   clear h31 h32 h33 h34 h41 h43 h44 h49 h50
   obtain rfl := si h
   exact qN ⟨h54, h55, h56⟩
  obtain ⟨x57, hx58, h⟩ := bind_some h
  refine kx (guF rfl hb38 (mvO h31)) (kx (guF rfl hb38 (mvO h33)) (kx (guF rfl hb38 (ixS rfl rfl hx58 Item.fl)) (kx (guF rfl hb38 (faP rfl ⟨ble rfl, blt rfl⟩ rfl)) (kx (guF rfl hb38 (ldP rfl rfl)) (kx (guF rfl hb38 (bEql rfl rfl)) (kx (pkF rfl hb38 rfl) (Rn (hA h31 (hA h32 (hA h33 (hN rfl hZ)))) fun e59 h61 h62 h63 h64 => sN ?_)))))))
  clear h31 h32 h33 h34
  rcases ite_some h with ⟨hb65, h⟩ | ⟨hb65, h⟩
  ·obtain ⟨x66, hx67, h⟩ := bind_some h
   refine cT h64 hb65 (Rg (kx (mvO h62) (kx (mvO h61) (kx (mvO h63) (kx (ixS rfl rfl hx67 Item.fl) (kx (faP rfl ⟨ble rfl, blt rfl⟩ rfl) (kx (ldP rfl rfl) (kx (bAdd rfl rfl) (kx (mvO rfl) (Rn (hA h61 (hN rfl (hA h63 hZ))) fun e68 h70 h71 h72 => bN (sN (Rg (kx (mvO h72) (kx (bAdd rfl rfl) (kx (mvO rfl) (Rn (hA h70 (hA h71 (hN rfl hZ))) fun e73 h75 h76 h77 => ?_))))))))))))))))
   clear h61 h63 h64 h70 h71
   obtain rfl := si h
   exact qN ⟨h75, h76, h77⟩
  obtain ⟨x78, hx79, h⟩ := bind_some h
  refine cF h64 hb65 (Rg (kx (mvO h62) (kx (mvO h61) (kx (mvO h63) (kx (ixS rfl rfl hx79 Item.fl) (kx (faP rfl ⟨ble rfl, blt rfl⟩ rfl) (kx (ldP rfl rfl) (kx (bSub rfl rfl) (kx (mvO rfl) (Rn (hA h61 (hN rfl (hA h63 hZ))) fun e80 h82 h83 h84 => bN (sN (Rg (kx (mvO h84) (kx (bAdd rfl rfl) (kx (mvO rfl) (Rn (hA h82 (hA h83 (hN rfl hZ))) fun e85 h87 h88 h89 => ?_))))))))))))))))
  clear h61 h63 h64 h82 h83
  obtain rfl := si h
  exact qN ⟨h87, h88, h89⟩
 refine cF h34 hb35 (xx (sE ?_))
 obtain rfl := si h
 exact qE ⟨rfl, h32⟩
noncomputable def spec_l05Balance (a1 : List Item) : Option Int :=
 (Lw (spec_l05Balance_b1 a1) (0, 0)).bind fun y95 =>
 some y95
def spec_l05Balance_enc (r : Int) : AV := .int .i64 r
theorem spec_l05Balance_ok (a1 : List Item) (r : Int) (h : spec_l05Balance a1 = some r) : Ev (fun k => CN k 85 [.sl none (a1.map Item.c)] []) (fun p => rRes p.2 p.1 = spec_l05Balance_enc r) := by
 unfold spec_l05Balance at h
 obtain ⟨y95, hr91, h⟩ := bind_some h
 refine Ev.enter (F := fun k => f85 (CN k) k) (fun k => callN_eq rfl Tryd.func85 rfl rfl rfl (by decide +kernel) (f85_eq _ _)) (sq (Rg (kx (mvO rfl) (Rn (hN rfl hZ) fun e1 h3 => sN (sq (Rg (kx (mvO rfl) (Rn (hA h3 (hV (.int .i64 0) rfl hZ)) fun e4 h6 h7 => sN (sq (sq (Rg (kx (mvO rfl) (Rn (hA h6 (hA h7 (hV (.int .i64 0) rfl hZ))) fun e8 h10 h11 h12 => sN (bl (Ev.loop (RS := spec_l05Balance_b1_RS a1) (RR := spec_l05Balance_b1_RR a1) (fun s r h e M hs => spec_l05Balance_b1_ok a1 s r h e M hs) hr91 ⟨h10, h11, h12⟩ fun x e93 M94 hq92 => ?_)))))))))))))))
 clear h3 h6 h7
 obtain ⟨rfl, h96⟩ := hq92
 refine bE (sN (sq (Rg (kx (mvO h96) (kx (mvO rfl) (Rn (hN rfl hZ) fun e97 h99 => sN (xx ?_)))))))
 clear h96
 obtain rfl := si h
 exact eR (resT h99 res0) rfl
/-! ### loop.example/g01263/spec.l05Right (f55) -/
noncomputable def spec_l05Right (a1 : Account) : Option Bool :=
 (spec_l05Title a1.Title).bind fun r5 =>
 if r5 = true then
  (spec_l05Items a1.Items).bind fun r8 =>
  if r8 = true then
   (spec_l05Balance a1.Items).bind fun r11 =>
   some (a1.Balance == r11)
  else
   some false
 else
  some false
def spec_l05Right_enc (r : Bool) : AV := .bool r
theorem spec_l05Right_ok (a1 : Account) (r : Bool) (h : spec_l05Right a1 = some r) : Ev (fun k => CN k 55 [.pt none [.str a1.Title, .sl none (a1.Items.map Item.c), .int .i64 a1.Balance]] []) (fun p => rRes p.2 p.1 = spec_l05Right_enc r) := by
 unfold spec_l05Right at h
 obtain ⟨r5, hx4, h⟩ := bind_some h
 refine Ev.enter (F := fun k => f55 (CN k) k) (fun k => callN_eq rfl Tryd.func55 rfl rfl rfl (by decide +kernel) (f55_eq _ _)) (sq (Rg (kx (mvO rfl) (Rn (hN rfl hZ) fun e1 h3 => sN (sq (Rd (kf (mvO h3) (kf (ncP rfl) (kf (faP rfl ⟨ble rfl, blt rfl⟩ rfl) (kf (ldP rfl rfl) (fc (cl (v := .bool r5) rfl rfl (cns rfl rfl) rfl (spec_l05Title_ok a1.Title _ hx4) nm) (kf (mvO rfl) ?_))))))))))))
 rcases ite_some h with ⟨hb6, h⟩ | ⟨hb6, h⟩
 ·obtain ⟨r8, hx7, h⟩ := bind_some h
  refine kf (guT rfl hb6 (mvO h3)) (kf (guT rfl hb6 (ncP rfl)) (kf (guT rfl hb6 (faP rfl ⟨ble rfl, blt rfl⟩ rfl)) (kf (guT rfl hb6 (ldP rfl rfl)) (fc (Ev.guT rfl hb6 (cl (v := .bool r8) rfl rfl (cns rfl rfl) rfl (spec_l05Items_ok a1.Items _ hx7) nm)) (kf (pkT rfl hb6 rfl) (kf (mvO rfl) ?_))))))
  rcases ite_some h with ⟨hb9, h⟩ | ⟨hb9, h⟩
  ·obtain ⟨r11, hx10, h⟩ := bind_some h
   refine kf (guT rfl hb9 (mvO h3)) (kf (guT rfl hb9 (ncP rfl)) (kf (guT rfl hb9 (faP rfl ⟨ble rfl, blt rfl⟩ rfl)) (kf (guT rfl hb9 (ldP rfl rfl)) (kf (guT rfl hb9 (mvO h3)) (kf (guT rfl hb9 (ncP rfl)) (kf (guT rfl hb9 (faP rfl ⟨ble rfl, blt rfl⟩ rfl)) (kf (guT rfl hb9 (ldP rfl rfl)) (fc (Ev.guT rfl hb9 (cl (v := .int .i64 r11) rfl rfl (cns rfl rfl) rfl (spec_l05Balance_ok a1.Items _ hx10) nm)) (kf (guT rfl hb9 (bEql rfl rfl)) (kf (pkT rfl hb9 rfl) (kf (mvO rfl) (fZ (Rn (hN rfl hZ) fun e12 h14 => sN (xx ?_))))))))))))))
   clear h3
   obtain rfl := si h
   exact eR (resT h14 res0) rfl
  refine kf (gsT rfl hb9) (kf (gsT rfl hb9) (kf (gsT rfl hb9) (kf (gsT rfl hb9) (kf (gsT rfl hb9) (kf (gsT rfl hb9) (kf (gsT rfl hb9) (kf (gsT rfl hb9) (fc (Ev.gsT rfl hb9) (kf (gsT rfl hb9) (kf (pkF rfl hb9 rfl) (kf (mvO rfl) (fZ (Rn (hV (.bool false) rfl hZ) fun e15 h17 => sN (xx ?_))))))))))))))
  clear h3
  obtain rfl := si h
  exact eR (resT h17 res0) rfl
 refine kf (gsT rfl hb6) (kf (gsT rfl hb6) (kf (gsT rfl hb6) (kf (gsT rfl hb6) (fc (Ev.gsT rfl hb6) (kf (pkF rfl hb6 rfl) (kf (mvO rfl) (kf (gsT rfl rfl) (kf (gsT rfl rfl) (kf (gsT rfl rfl) (kf (gsT rfl rfl) (kf (gsT rfl rfl) (kf (gsT rfl rfl) (kf (gsT rfl rfl) (kf (gsT rfl rfl) (fc (Ev.gsT rfl rfl) (kf (gsT rfl rfl) (kf (pkF rfl rfl rfl) (kf (mvO rfl) (fZ (Rn (hV (.bool false) rfl hZ) fun e18 h20 => sN (xx ?_)))))))))))))))))))))
 clear h3
 obtain rfl := si h
 exact eR (resT h20 res0) rfl
/-! ### loop.example/g01263/spec.l05Twin (f78) -/
abbrev spec_l05Twin_b1_S := Int
abbrev spec_l05Twin_b1_R := Unit ⊕ Unit
def spec_l05Twin_b1_RS (a1 : List Account) (a2 : Int) (s : spec_l05Twin_b1_S) (e : Env) (M : Mem) : Prop := eget e 0 = .sl none (a1.map Account.c) ∧ eget e 1 = .int .i64 a2 ∧ eget e 5 = .int .i64 s
def spec_l05Twin_b1_RR (a1 : List Account) (a2 : Int) (r : spec_l05Twin_b1_R) (x : Ex) (e : Env) (M : Mem) : Prop :=
  match r with
  | (.inl g) => x = .ret ∧ eget e 4 = .bool true
  | (.inr g) => x = .ext 0 ∧ True
noncomputable def spec_l05Twin_b1 (a1 : List Account) (a2 : Int) : spec_l05Twin_b1_S → Option (spec_l05Twin_b1_S ⊕ spec_l05Twin_b1_R) := fun s1_1 =>
 if (decide (s1_1 < a2)) = true then
  (rd a1 s1_1).bind fun x33 =>
  (rd a1 a2).bind fun x35 =>
  if (x33.Title == x35.Title) = true then
   some (.inr (.inl ()))
  else
   some (.inl (IntKind.i64.wrap (s1_1 + 1)))
 else
  some (.inr (.inr ()))
theorem spec_l05Twin_b1_ok (a1 : List Account) (a2 : Int) (s : spec_l05Twin_b1_S) (r : spec_l05Twin_b1_S ⊕ spec_l05Twin_b1_R) (h : spec_l05Twin_b1 a1 a2 s = some r) (e : Env) (M : Mem) (hs : spec_l05Twin_b1_RS a1 a2 s e M) : Ev (fun k => (f78_l2 (CN k) k (prune [0, 1, 5] e) M).bind fun q => some q) (bQ (spec_l05Twin_b1_RS a1 a2) (spec_l05Twin_b1_RR a1 a2) r) := by
 revert h hs
 revert s
 intro s1_1 h hs
 unfold spec_l05Twin_b1 at h
 obtain ⟨h20, h22, h24⟩ := hs
 generalize he19 : prune [0, 1, 5] e = e18
 have h21 := envp he19.symm rfl h20
 have h23 := envp he19.symm rfl h22
 have h25 := envp he19.symm rfl h24
 refine sq (sq (Rg (kx (mvO h25) (kx (mvO h23) (kx (bLss rfl rfl) (Rn (hV (.sl none (a1.map Account.c)) h21 (hV (.int .i64 a2) h23 (hV (.int .i64 s1_1) h25 (hN rfl hZ)))) fun e26 h28 h29 h30 h31 => sN ?_))))))
 clear h21 h23 h25
 rcases ite_some h with ⟨hb32, h⟩ | ⟨hb32, h⟩
 ·obtain ⟨x33, hx34, h⟩ := bind_some h
  obtain ⟨x35, hx36, h⟩ := bind_some h
  refine cT h31 hb32 (xx (sN (sq (bl (sq (Rd (kf (mvO h28) (kf (mvO h30) (kf (ixS rfl rfl hx34 Account.fl) (kf (faP rfl ⟨ble rfl, blt rfl⟩ rfl) (kf (ldP rfl rfl) (kf (mvO h28) (kf (mvO h29) (kf (ixS rfl rfl hx36 Account.fl) (kf (faP rfl ⟨ble rfl, blt rfl⟩ rfl) (kf (ldP rfl rfl) (kf (sEql rfl rfl) (fZ (Rn (hA h28 (hA h29 (hA h30 (hN rfl hZ)))) fun e37 h39 h40 h41 h42 => sN ?_)))))))))))))))))))
  clear h28 h29 h30 h31
  rcases ite_some h with ⟨hb43, h⟩ | ⟨hb43, h⟩
  ·refine cT h42 hb43 (sq (Rg (kx (mvO rfl) (Rn (hV (.bool true) rfl hZ) fun e44 h46 => sN (xx (bR (sR ?_)))))))
   clear h39 h40 h41 h42
   obtain rfl := si h
   exact qR ⟨rfl, h46⟩
  refine cF h42 hb43 (xx (bN (sN (Rg (kx (mvO h41) (kx (bAdd rfl rfl) (kx (mvO rfl) (Rn (hA h39 (hA h40 (hN rfl hZ))) fun e47 h49 h50 h51 => ?_))))))))
  clear h39 h40 h42
  obtain rfl := si h
  exact qN ⟨h49, h50, h51⟩
 refine cF h31 hb32 (xx (sE ?_))
 obtain rfl := si h
 exact qE ⟨rfl, trivial⟩
noncomputable def spec_l05Twin (a1 : List Account) (a2 : Int) : Option Bool :=
 (Lw (spec_l05Twin_b1 a1 a2) 0).bind fun r => match r with
 | (.inl _) =>
  some true
 | (.inr _) =>
  some false
def spec_l05Twin_enc (r : Bool) : AV := .bool r
theorem spec_l05Twin_ok (a1 : List Account) (a2 : Int) (r : Bool) (h : spec_l05Twin a1 a2 = some r) : Ev (fun k => CN k 78 [.sl none (a1.map Account.c), .int .i64 a2] []) (fun p => rRes p.2 p.1 = spec_l05Twin_enc r) := by
 unfold spec_l05Twin at h
 obtain ⟨r52, hr53, h⟩ := bind_some h
 refine Ev.enter (F := fun k => f78 (CN k) k) (fun k => callN_eq rfl Tryd.func78 rfl rfl rfl (by decide +kernel) (f78_eq _ _)) (sq (Rg (kx (mvO rfl) (Rn (hN rfl (hN rfl hZ)) fun e1 h3 h4 => sN (sq (sq (Rg (kx (mvO rfl) (Rn (hA h3 (hA h4 (hV (.int .i64 0) rfl hZ))) fun e5 h7 h8 h9 => sN (bl ?_))))))))))
 clear h3 h4
 rcases r52 with _ | _
 ·refine Ev.loop (RS := spec_l05Twin_b1_RS a1 a2) (RR := spec_l05Twin_b1_RR a1 a2) (fun s r h e M hs => spec_l05Twin_b1_ok a1 a2 s r h e M hs) hr53 ⟨h7, h8, h9⟩ fun x e55 M56 hq54 => ?_
  obtain ⟨rfl, h57⟩ := hq54
  refine bR (sR ?_)
  obtain rfl := si h
  exact eR (resT h57 res0) rfl
 refine Ev.loop (RS := spec_l05Twin_b1_RS a1 a2) (RR := spec_l05Twin_b1_RR a1 a2) (fun s r h e M hs => spec_l05Twin_b1_ok a1 a2 s r h e M hs) hr53 ⟨h7, h8, h9⟩ fun x e58 M59 hq54 => ?_
 obtain ⟨rfl, _⟩ := hq54
 refine bE (sN (sq (Rg (kx (mvO rfl) (Rn (hV (.bool false) rfl hZ) fun e60 h62 => sN (xx ?_))))))
 obtain rfl := si h
 exact eR (resT h62 res0) rfl
/-! ### loop.example/g01263/spec.l00Max (f111) -/
noncomputable def spec_l00Max (a1 : Int) (a2 : Int) : Option Int :=
 if (decide (a1 > a2)) = true then
  some a1
 else
  some a2
def spec_l00Max_enc (r : Int) : AV := .int .i64 r
theorem spec_l00Max_ok (a1 : Int) (a2 : Int) (r : Int) (h : spec_l00Max a1 a2 = some r) : Ev (fun k => CN k 111 [.int .i64 a1, .int .i64 a2] []) (fun p => rRes p.2 p.1 = spec_l00Max_enc r) := by
 unfold spec_l00Max at h
 refine Ev.enter (F := fun k => f111 (CN k) k) (fun k => callN_eq rfl Tryd.func111 rfl rfl rfl (by decide +kernel) (f111_eq _ _)) (sq (Rg (kx (mvO rfl) (Rn (hN rfl (hN rfl hZ)) fun e1 h3 h4 => sN (sq (sq (Rg (kx (mvO h3) (kx (mvO h4) (kx (bGtr rfl rfl) (Rn (hA h3 (hA h4 (hN rfl hZ))) fun e5 h7 h8 h9 => sN ?_)))))))))))
 clear h3 h4
 rcases ite_some h with ⟨hb10, h⟩ | ⟨hb10, h⟩
 ·refine cT h9 hb10 (sq (Rg (kx (mvO h7) (kx (mvO rfl) (Rn (hN rfl hZ) fun e11 h13 => sN (xx (sR ?_)))))))
  clear h7 h8 h9
  obtain rfl := si h
  exact eR (resT h13 res0) rfl
 refine cF h9 hb10 (xx (sN (sq (Rg (kx (mvO h8) (kx (mvO rfl) (Rn (hN rfl hZ) fun e14 h16 => sN (xx ?_))))))))
 clear h7 h8 h9
 obtain rfl := si h
 exact eR (resT h16 res0) rfl
/-! ### loop.example/g01263/spec.l05Owed (f77) -/
abbrev spec_l05Owed_b1_S := Int × Int
abbrev spec_l05Owed_b1_R := Int
def spec_l05Owed_b1_RS (a1 : List Account) (s : spec_l05Owed_b1_S) (e : Env) (M : Mem) : Prop := eget e 0 = .sl none (a1.map Account.c) ∧ eget e 3 = .int .i64 s.1 ∧ eget e 4 = .int .i64 s.2
def spec_l05Owed_b1_RR (a1 : List Account) (g : spec_l05Owed_b1_R) (x : Ex) (e : Env) (M : Mem) : Prop := x = .ext 0 ∧ eget e 3 = .int .i64 g
noncomputable def spec_l05Owed_b1 (a1 : List Account) : spec_l05Owed_b1_S → Option (spec_l05Owed_b1_S ⊕ spec_l05Owed_b1_R) := fun (s1_1, s1_2) =>
 if (decide (s1_2 < (a1.length : Int))) = true then
  (rd a1 s1_2).bind fun x36 =>
  (spec_l00Max x36.Balance 0).bind fun r39 =>
  some (.inl ((IntKind.i64.wrap (s1_1 + r39)), (IntKind.i64.wrap (s1_2 + 1))))
 else
  some (.inr s1_1)
theorem spec_l05Owed_b1_ok (a1 : List Account) (s : spec_l05Owed_b1_S) (r : spec_l05Owed_b1_S ⊕ spec_l05Owed_b1_R) (h : spec_l05Owed_b1 a1 s = some r) (e : Env) (M : Mem) (hs : spec_l05Owed_b1_RS a1 s e M) : Ev (fun k => (f77_l3 (CN k) k (prune [0, 3, 4] e) M).bind fun q => some q) (bQ (spec_l05Owed_b1_RS a1) (spec_l05Owed_b1_RR a1) r) := by
 obtain ⟨s1_1, s1_2⟩ := s
 unfold spec_l05Owed_b1 at h
 obtain ⟨h23, h25, h27⟩ := hs
 generalize he22 : prune [0, 3, 4] e = e21
 have h24 := envp he22.symm rfl h23
 have h26 := envp he22.symm rfl h25
 have h28 := envp he22.symm rfl h27
 refine sq (sq (Rg (kx (mvO h28) (kx (mvO h24) (kx (lnS Tryd.underlying72 rfl) (kx (bLss rfl rfl) (Rn (hV (.sl none (a1.map Account.c)) h24 (hV (.int .i64 s1_1) h26 (hV (.int .i64 s1_2) h28 (hN rfl hZ)))) fun e29 h31 h32 h33 h34 => sN ?_)))))))
 clear h24 h26 h28
 rcases ite_some h with ⟨hb35, h⟩ | ⟨hb35, h⟩
 ·obtain ⟨x36, hx37, h⟩ := bind_some h
  obtain ⟨r39, hx38, h⟩ := bind_some h
  refine cT h34 hb35 (xx (sN (sq (bl (Rg (kx (mvO h32) (kx (mvO h31) (kx (mvO h33) (kx (ixS rfl rfl hx37 Account.fl) (kx (faP rfl ⟨ble rfl, blt rfl⟩ rfl) (kx (ldP rfl rfl) (kc (cl (v := .int .i64 r39) rfl rfl (cns rfl (cns rfl rfl)) rfl (spec_l00Max_ok x36.Balance 0 _ hx38) nm) (kx (bAdd rfl rfl) (kx (mvO rfl) (Rn (hA h31 (hN rfl (hA h33 hZ))) fun e40 h42 h43 h44 => bN (sN (Rg (kx (mvO h44) (kx (bAdd rfl rfl) (kx (mvO rfl) (Rn (hA h42 (hA h43 (hN rfl hZ))) fun e45 h47 h48 h49 => ?_)))))))))))))))))))))
  clear h31 h33 h34 h42 h43
  obtain rfl := si h
  exact qN ⟨h47, h48, h49⟩
 refine cF h34 hb35 (xx (sE ?_))
 obtain rfl := si h
 exact qE ⟨rfl, h32⟩
noncomputable def spec_l05Owed (a1 : List Account) : Option Int :=
 (Lw (spec_l05Owed_b1 a1) (0, 0)).bind fun y55 =>
 some y55
def spec_l05Owed_enc (r : Int) : AV := .int .i64 r
theorem spec_l05Owed_ok (a1 : List Account) (r : Int) (h : spec_l05Owed a1 = some r) : Ev (fun k => CN k 77 [.sl none (a1.map Account.c)] []) (fun p => rRes p.2 p.1 = spec_l05Owed_enc r) := by
 unfold spec_l05Owed at h
 obtain ⟨y55, hr51, h⟩ := bind_some h
 refine Ev.enter (F := fun k => f77 (CN k) k) (fun k => callN_eq rfl Tryd.func77 rfl rfl rfl (by decide +kernel) (f77_eq _ _)) (sq (Rg (kx (mvO rfl) (Rn (hN rfl hZ) fun e1 h3 => sN (sq (Rg (kx (mvO rfl) (Rn (hA h3 (hV (.int .i64 0) rfl hZ)) fun e4 h6 h7 => sN (sq (sq (Rg (kx (mvO rfl) (Rn (hA h6 (hA h7 (hV (.int .i64 0) rfl hZ))) fun e8 h10 h11 h12 => sN (bl (Ev.loop (RS := spec_l05Owed_b1_RS a1) (RR := spec_l05Owed_b1_RR a1) (fun s r h e M hs => spec_l05Owed_b1_ok a1 s r h e M hs) hr51 ⟨h10, h11, h12⟩ fun x e53 M54 hq52 => ?_)))))))))))))))
 clear h3 h6 h7
 obtain ⟨rfl, h56⟩ := hq52
 refine bE (sN (sq (Rg (kx (mvO h56) (kx (mvO rfl) (Rn (hN rfl hZ) fun e57 h59 => sN (xx ?_)))))))
 clear h56
 obtain rfl := si h
 exact eR (resT h59 res0) rfl
/-! ### loop.example/g01263/spec.l05Fault (f112) -/
abbrev spec_l05Fault_b1_S := Int
abbrev spec_l05Fault_b1_R := Int ⊕ Unit
def spec_l05Fault_b1_RS (a1 : Roll) (s : spec_l05Fault_b1_S) (e : Env) (M : Mem) : Prop := eget e 0 = .pt none [.sl none (a1.Accounts.map Account.c), .int .i64 a1.Owed] ∧ eget e 3 = .int .i64 s
def spec_l05Fault_b1_RR (a1 : Roll) (r : spec_l05Fault_b1_R) (x : Ex) (e : Env) (M : Mem) : Prop :=
  match r with
  | (.inl g) => x = .ret ∧ eget e 2 = .int .i64 g
  | (.inr g) => x = .ext 0 ∧ eget e 0 = .pt none [.sl none (a1.Accounts.map Account.c), .int .i64 a1.Owed]
noncomputable def spec_l05Fault_b1 (a1 : Roll) : spec_l05Fault_b1_S → Option (spec_l05Fault_b1_S ⊕ spec_l05Fault_b1_R) := fun s1_1 =>
 if (decide (s1_1 < (a1.Accounts.length : Int))) = true then
  (rd a1.Accounts s1_1).bind fun x26 =>
  (spec_l05Right x26).bind fun r29 =>
  if r29 = true then
   (spec_l05Twin a1.Accounts s1_1).bind fun r32 =>
   if r32 = true then
    some (.inr (.inl s1_1))
   else
    some (.inl (IntKind.i64.wrap (s1_1 + 1)))
  else
   some (.inr (.inl s1_1))
 else
  some (.inr (.inr ()))
theorem spec_l05Fault_b1_ok (a1 : Roll) (s : spec_l05Fault_b1_S) (r : spec_l05Fault_b1_S ⊕ spec_l05Fault_b1_R) (h : spec_l05Fault_b1 a1 s = some r) (e : Env) (M : Mem) (hs : spec_l05Fault_b1_RS a1 s e M) : Ev (fun k => (f112_l2 (CN k) k (prune [0, 3] e) M).bind fun q => some q) (bQ (spec_l05Fault_b1_RS a1) (spec_l05Fault_b1_RR a1) r) := by
 revert h hs
 revert s
 intro s1_1 h hs
 unfold spec_l05Fault_b1 at h
 obtain ⟨h16, h18⟩ := hs
 generalize he15 : prune [0, 3] e = e14
 have h17 := envp he15.symm rfl h16
 have h19 := envp he15.symm rfl h18
 refine sq (sq (Rg (kx (mvO h19) (kx (mvO h17) (kx (ncP rfl) (kx (faP rfl ⟨ble rfl, blt rfl⟩ rfl) (kx (ldP rfl rfl) (kx (lnS Tryd.underlying72 rfl) (kx (bLss rfl rfl) (Rn (hV (.pt none [.sl none (a1.Accounts.map Account.c), .int .i64 a1.Owed]) h17 (hV (.int .i64 s1_1) h19 (hN rfl hZ))) fun e20 h22 h23 h24 => sN ?_))))))))))
 clear h17 h19
 rcases ite_some h with ⟨hb25, h⟩ | ⟨hb25, h⟩
 ·obtain ⟨x26, hx27, h⟩ := bind_some h
  obtain ⟨r29, hx28, h⟩ := bind_some h
  refine cT h24 hb25 (xx (sN (sq (bl (sq (Rg (kx (mvO h22) (kx (ncP rfl) (kx (faP rfl ⟨ble rfl, blt rfl⟩ rfl) (kx (ldP rfl rfl) (kx (mvO h23) (kx (ixS rfl rfl hx27 Account.fl) (kc (cl (v := .bool r29) rfl rfl (cns rfl rfl) rfl (spec_l05Right_ok x26 _ hx28) nm) (kx (uNot rfl) (kx (mvO rfl) ?_)))))))))))))))
  rcases ite_some h with ⟨hb30, h⟩ | ⟨hb30, h⟩
  ·obtain ⟨r32, hx31, h⟩ := bind_some h
   refine kx (guF rfl (congrArg Bool.not hb30) (mvO h22)) (kx (guF rfl (congrArg Bool.not hb30) (ncP rfl)) (kx (guF rfl (congrArg Bool.not hb30) (faP rfl ⟨ble rfl, blt rfl⟩ rfl)) (kx (guF rfl (congrArg Bool.not hb30) (ldP rfl rfl)) (kx (guF rfl (congrArg Bool.not hb30) (mvO h23)) (kc (Ev.guF rfl (congrArg Bool.not hb30) (cl (v := .bool r32) rfl rfl (cns rfl (cns rfl rfl)) rfl (spec_l05Twin_ok a1.Accounts s1_1 _ hx31) nm)) (kx (pkF rfl (congrArg Bool.not hb30) rfl) (Rn (hA h22 (hA h23 (hN rfl hZ))) fun e33 h35 h36 h37 => sN ?_)))))))
   clear h22 h23 h24
   rcases ite_some h with ⟨hb38, h⟩ | ⟨hb38, h⟩
   ·refine cT h37 hb38 (sq (Rg (kx (mvO h36) (kx (mvO rfl) (Rn (hN rfl hZ) fun e39 h41 => sN (xx (bR (sR ?_))))))))
    clear h35 h36 h37
    obtain rfl := si h
    exact qR ⟨rfl, h41⟩
   refine cF h37 hb38 (xx (bN (sN (Rg (kx (mvO h36) (kx (bAdd rfl rfl) (kx (mvO rfl) (Rn (hA h35 (hN rfl hZ)) fun e42 h44 h45 => ?_))))))))
   clear h35 h37
   obtain rfl := si h
   exact qN ⟨h44, h45⟩
  refine kx (gsF rfl (congrArg Bool.not hb30)) (kx (gsF rfl (congrArg Bool.not hb30)) (kx (gsF rfl (congrArg Bool.not hb30)) (kx (gsF rfl (congrArg Bool.not hb30)) (kx (gsF rfl (congrArg Bool.not hb30)) (kc (Ev.gsF rfl (congrArg Bool.not hb30)) (kx (pkT rfl (congrArg Bool.not hb30) rfl) (Rn (hA h22 (hA h23 (hV (.bool true) rfl hZ))) fun e46 h48 h49 h50 => sN (cT h50 rfl (sq (Rg (kx (mvO h49) (kx (mvO rfl) (Rn (hN rfl hZ) fun e51 h53 => sN (xx (bR (sR ?_))))))))))))))))
  clear h22 h23 h24 h48 h49 h50
  obtain rfl := si h
  exact qR ⟨rfl, h53⟩
 refine cF h24 hb25 (xx (sE ?_))
 obtain rfl := si h
 exact qE ⟨rfl, h22⟩
noncomputable def spec_l05Fault (a1 : Roll) : Option Int :=
 (Lw (spec_l05Fault_b1 a1) 0).bind fun r => match r with
 | (.inl y59) =>
  some y59
 | (.inr _) =>
  (spec_l05Owed a1.Accounts).bind fun r65 =>
  if (a1.Owed != r65) = true then
   some (a1.Accounts.length : Int)
  else
   some (-1)
def spec_l05Fault_enc (r : Int) : AV := .int .i64 r
theorem spec_l05Fault_ok (a1 : Roll) (r : Int) (h : spec_l05Fault a1 = some r) : Ev (fun k => CN k 112 [.pt none [.sl none (a1.Accounts.map Account.c), .int .i64 a1.Owed]] []) (fun p => rRes p.2 p.1 = spec_l05Fault_enc r) := by
 unfold spec_l05Fault at h
 obtain ⟨r54, hr55, h⟩ := bind_some h
 refine Ev.enter (F := fun k => f112 (CN k) k) (fun k => callN_eq rfl Tryd.func112 rfl rfl rfl (by decide +kernel) (f112_eq _ _)) (sq (Rg (kx (mvO rfl) (Rn (hN rfl hZ) fun e1 h3 => sN (sq (sq (Rg (kx (mvO rfl) (Rn (hA h3 (hV (.int .i64 0) rfl hZ)) fun e4 h6 h7 => sN (bl ?_))))))))))
 clear h3
 rcases r54 with y59 | _
 ·refine Ev.loop (RS := spec_l05Fault_b1_RS a1) (RR := spec_l05Fault_b1_RR a1) (fun s r h e M hs => spec_l05Fault_b1_ok a1 s r h e M hs) hr55 ⟨h6, h7⟩ fun x e57 M58 hq56 => ?_
  obtain ⟨rfl, h60⟩ := hq56
  refine bR (sR ?_)
  obtain rfl := si h
  exact eR (resT h60 res0) rfl
 refine Ev.loop (RS := spec_l05Fault_b1_RS a1) (RR := spec_l05Fault_b1_RR a1) (fun s r h e M hs => spec_l05Fault_b1_ok a1 s r h e M hs) hr55 ⟨h6, h7⟩ fun x e61 M62 hq56 => ?_
 obtain ⟨rfl, h63⟩ := hq56
 obtain ⟨r65, hx64, h⟩ := bind_some h
 refine bE (sN (sq (sq (Rd (kf (mvO h63) (kf (ncP rfl) (kf (faP rfl ⟨ble rfl, blt rfl⟩ rfl) (kf (ldP rfl rfl) (kf (mvO h63) (kf (ncP rfl) (kf (faP rfl ⟨ble rfl, blt rfl⟩ rfl) (kf (ldP rfl rfl) (fc (cl (v := .int .i64 r65) rfl rfl (cns rfl rfl) rfl (spec_l05Owed_ok a1.Accounts _ hx64) nm) (kf (bNeq rfl rfl) (fZ (Rn (hV (.pt none [.sl none (a1.Accounts.map Account.c), .int .i64 a1.Owed]) h63 (hN rfl hZ)) fun e66 h68 h69 => sN ?_))))))))))))))))
 clear h63
 rcases ite_some h with ⟨hb70, h⟩ | ⟨hb70, h⟩
 ·refine cT h69 hb70 (sq (Rg (kx (mvO h68) (kx (ncP rfl) (kx (faP rfl ⟨ble rfl, blt rfl⟩ rfl) (kx (ldP rfl rfl) (kx (lnS Tryd.underlying72 rfl) (kx (mvO rfl) (Rn (hN rfl hZ) fun e71 h73 => sN (xx (sR ?_)))))))))))
  clear h68 h69
  obtain rfl := si h
  exact eR (resT h73 res0) rfl
 refine cF h69 hb70 (xx (sN (sq (Rg (kx (mvO rfl) (Rn (hV (.int .i64 (-1)) rfl hZ) fun e74 h76 => sN (xx ?_)))))))
 clear h68 h69
 obtain rfl := si h
 exact eR (resT h76 res0) rfl
/-! ### strconv.FormatInt (f121), by its contract -/
noncomputable def strconv_FormatInt (a1 : Int) (a2 : Int) : Option ((List UInt8)) := fmtI a1 a2
def strconv_FormatInt_enc (r : (List UInt8)) : AV := .str r
theorem strconv_FormatInt_ok (a1 : Int) (a2 : Int) (r : (List UInt8)) (h : strconv_FormatInt a1 a2 = some r) : Ev (fun k => CN k 121 [.int .i64 a1, .int .i64 a2] []) (fun p => rRes p.2 p.1 = strconv_FormatInt_enc r) := Ev.lib rfl rfl (lib_fmt h) rfl
/-! ### loop.example/g01263/impl.decimal (f91) -/
noncomputable def impl_decimal (a1 : Int) : Option ((List UInt8)) :=
 (strconv_FormatInt a1 10).bind fun r5 =>
 some r5
def impl_decimal_enc (r : (List UInt8)) : AV := .str r
theorem impl_decimal_ok (a1 : Int) (r : (List UInt8)) (h : impl_decimal a1 = some r) : Ev (fun k => CN k 91 [.int .i64 a1] []) (fun p => rRes p.2 p.1 = impl_decimal_enc r) := by
 unfold impl_decimal at h
 obtain ⟨r5, hx4, h⟩ := bind_some h
 refine Ev.enter (F := fun k => f91 (CN k) k) (fun k => callN_eq rfl Tryd.func91 rfl rfl rfl (by decide +kernel) (f91_eq _ _)) (sq (Rg (kx (mvO rfl) (Rn (hN rfl hZ) fun e1 h3 => sN (sq (Rg (kx (mvO h3) (kc (cl (v := .str r5) rfl rfl (cns rfl (cns rfl rfl)) rfl (strconv_FormatInt_ok a1 10 _ hx4) nm) (kx (mvO rfl) (Rn (hN rfl hZ) fun e6 h8 => sN (xx ?_)))))))))))
 clear h3
 obtain rfl := si h
 exact eR (resT h8 res0) rfl
/-! ### strings.Split (f86), by its contract -/
noncomputable def strings_Split (a1 : List UInt8) (a2 : List UInt8) : Option ((List (List UInt8))) := splitI a1 a2
def strings_Split_enc (r : (List (List UInt8))) : AV := .sl (some 9) (r.map cS)
theorem strings_Split_ok (a1 : List UInt8) (a2 : List UInt8) (r : (List (List UInt8))) (h : strings_Split a1 a2 = some r) : Ev (fun k => CN k 86 [.str a1, .str a2] []) (fun p => rRes p.2 p.1 = strings_Split_enc r) := Ev.lib rfl rfl (lib_split rfl h) rfl
/-! ### strings.IndexByte (f116), by its contract -/
noncomputable def strings_IndexByte (a1 : List UInt8) (a2 : Int) : Option (Int) := idxI a1 a2
def strings_IndexByte_enc (r : Int) : AV := .int .i64 r
theorem strings_IndexByte_ok (a1 : List UInt8) (a2 : Int) (r : Int) (h : strings_IndexByte a1 a2 = some r) : Ev (fun k => CN k 116 [.str a1, .int .u8 a2] []) (fun p => rRes p.2 p.1 = strings_IndexByte_enc r) := Ev.lib rfl rfl (lib_idx h) rfl
/-! ### loop.example/g01263/impl.isAmount (f50) -/
noncomputable def impl_isAmount (a1 : Int) : Option Bool :=
 if (decide (a1 ≥ 0)) = true then
  some (decide (a1 ≤ 100000000))
 else
  some false
def impl_isAmount_enc (r : Bool) : AV := .bool r
theorem impl_isAmount_ok (a1 : Int) (r : Bool) (h : impl_isAmount a1 = some r) : Ev (fun k => CN k 50 [.int .i64 a1] []) (fun p => rRes p.2 p.1 = impl_isAmount_enc r) := by
 unfold impl_isAmount at h
 refine Ev.enter (F := fun k => f50 (CN k) k) (fun k => callN_eq rfl Tryd.func50 rfl rfl rfl (by decide +kernel) (f50_eq _ _)) (sq (Rg (kx (mvO rfl) (Rn (hN rfl hZ) fun e1 h3 => sN (sq (Rg (kx (mvO h3) (kx (bGeq rfl rfl) (kx (mvO rfl) ?_)))))))))
 rcases ite_some h with ⟨hb4, h⟩ | ⟨hb4, h⟩
 ·refine kx (guT rfl hb4 (mvO h3)) (kx (guT rfl hb4 (bLeq rfl rfl)) (kx (pkT rfl hb4 rfl) (kx (mvO rfl) (Rn (hN rfl hZ) fun e5 h7 => sN (xx ?_)))))
  clear h3
  obtain rfl := si h
  exact eR (resT h7 res0) rfl
 refine kx (gsT rfl hb4) (kx (gsT rfl hb4) (kx (pkF rfl hb4 rfl) (kx (mvO rfl) (Rn (hV (.bool false) rfl hZ) fun e8 h10 => sN (xx ?_)))))
 clear h3
 obtain rfl := si h
 exact eR (resT h10 res0) rfl
/-! ### strings.Join (f90), by its contract -/
noncomputable def strings_Join (a1 : List (List UInt8)) (a2 : List UInt8) : Option ((List UInt8)) := joinI a1 a2
def strings_Join_enc (r : (List UInt8)) : AV := .str r
theorem strings_Join_ok (a1 : List (List UInt8)) (a2 : List UInt8) (r : (List UInt8)) (h : strings_Join a1 a2 = some r) : Ev (fun k => CN k 90 [.sl none (a1.map cS), .str a2] []) (fun p => rRes p.2 p.1 = strings_Join_enc r) := Ev.lib rfl rfl (lib_join h) rfl
/-! ### loop.example/g01263/impl.AmountText (f53) -/
abbrev impl_AmountText_b1_S := Int × (List (List UInt8))
abbrev impl_AmountText_b1_R := (List (List UInt8))
def impl_AmountText_b1_RS (n27 : Int) (n31 : Int) (n33 : Int) (i1_1 : Nat) (s : impl_AmountText_b1_S) (e : Env) (M : Mem) : Prop := eget e 3 = .lsl i1_1 s.2.length 0 s.2.length ∧ eget e 19 = .lit 2 ([n27, n31, n33].map (cI .i64)) ∧ eget e 20 = .int .i64 ([n27, n31, n33].length : Int) ∧ eget e 21 = .int .i64 s.1 ∧ M[i1_1]? = some (.live ⟨.grow, 9, 1, s.2.map cS⟩)
def impl_AmountText_b1_RR (n27 : Int) (n31 : Int) (n33 : Int) (i1_1 : Nat) (g : impl_AmountText_b1_R) (x : Ex) (e : Env) (M : Mem) : Prop := x = .ext 0 ∧ eget e 3 = .lsl i1_1 g.length 0 g.length ∧ M[i1_1]? = some (.live ⟨.grow, 9, 1, g.map cS⟩)
noncomputable def impl_AmountText_b1 (n27 : Int) (n31 : Int) (n33 : Int) : impl_AmountText_b1_S → Option (impl_AmountText_b1_S ⊕ impl_AmountText_b1_R) := fun (s1_1, s1_2) =>
 if (decide (s1_1 < ([n27, n31, n33].length : Int))) = true then
  (rd [n27, n31, n33] s1_1).bind fun x71 =>
  if (decide (x71 > 0)) = true then
   (impl_decimal x71).bind fun r92 =>
   (slc ([108, 115, 100] : List UInt8) s1_1 (IntKind.i64.wrap (s1_1 + 1))).bind fun x93 =>
   (sadd r92 x93).bind fun w95 =>
   (app 16 s1_2 [w95]).bind fun x97 =>
   some (.inl ((IntKind.i64.wrap (s1_1 + 1)), x97))
  else
   some (.inl ((IntKind.i64.wrap (s1_1 + 1)), s1_2))
 else
  some (.inr s1_2)
theorem impl_AmountText_b1_ok (n27 : Int) (n31 : Int) (n33 : Int) (i1_1 : Nat) (s : impl_AmountText_b1_S) (r : impl_AmountText_b1_S ⊕ impl_AmountText_b1_R) (h : impl_AmountText_b1 n27 n31 n33 s = some r) (e : Env) (M : Mem) (hs : impl_AmountText_b1_RS n27 n31 n33 i1_1 s e M) : Ev (fun k => (f53_l7 (CN k) k (prune [3, 19, 20, 21] e) M).bind fun q => some q) (bQ (impl_AmountText_b1_RS n27 n31 n33 i1_1) (impl_AmountText_b1_RR n27 n31 n33 i1_1) r) := by
 obtain ⟨s1_1, s1_2⟩ := s
 unfold impl_AmountText_b1 at h
 obtain ⟨h54, h56, h58, h60, o62⟩ := hs
 generalize he53 : prune [3, 19, 20, 21] e = e52
 have h55 := envp he53.symm rfl h54
 have h57 := envp he53.symm rfl h56
 have h59 := envp he53.symm rfl h58
 have h61 := envp he53.symm rfl h60
 refine sq (Rg (kx (bLss h61 h59) (Rn (hV (.lsl i1_1 s1_2.length 0 s1_2.length) h55 (hV (.lit 2 ([n27, n31, n33].map (cI .i64))) h57 (hV (.int .i64 ([n27, n31, n33].length : Int)) h59 (hV (.int .i64 s1_1) h61 (hN rfl hZ))))) fun e63 h65 h66 h67 h68 h69 => sN (sq ?_))))
 clear h55 h57 h59 h61
 rcases ite_some h with ⟨hb70, h⟩ | ⟨hb70, h⟩
 ·obtain ⟨x71, hx72, h⟩ := bind_some h
  refine cT h69 hb70 (xx (sN (sq (bl (sq (Rg (kx (mvO h68) (kx (ixLt h66 h68 hx72 (cI_fl _)) (kx (ldP rfl rfl) (kx (mvO rfl) (kx (mvO rfl) (Rn (hA h65 (hN rfl (hN rfl (hA h66 (hA h67 (hA h68 hZ)))))) fun e73 h75 h76 h77 h78 h79 h80 => sN (sq (Rg (kx (mvO h77) (kx (bGtr rfl rfl) (Rn (hA h75 (hA h76 (hA h77 (hA h78 (hA h79 (hA h80 (hN rfl hZ))))))) fun e81 h83 h84 h85 h86 h87 h88 h89 => sN ?_)))))))))))))))))
  clear h65 h66 h67 h68 h69 h75 h76 h77 h78 h79 h80
  rcases ite_some h with ⟨hb90, h⟩ | ⟨hb90, h⟩
  ·obtain ⟨r92, hx91, h⟩ := bind_some h
   obtain ⟨x93, hx94, h⟩ := bind_some h
   obtain ⟨w95, hx96, h⟩ := bind_some h
   obtain ⟨x97, hx98, h⟩ := bind_some h
   refine cT h89 hb90 (Rd (kf (mvO h83) (kf (mvO h85) (fc (cl (v := .str r92) rfl rfl (cns rfl rfl) rfl (impl_decimal_ok x71 _ hx91) nm) (kf (mvO h84) (kf (mvO h84) (kf (bAdd rfl rfl) (kf (ssl2 rfl (bnd1 rfl) (bnd1 rfl) hx94) (kf (sAdd rfl rfl hx96) (kf (litI (cns rfl rfl) rfl ⟨rfl, by decide⟩) (fZ (kw (apO rfl o62 rfl (elT (c := cS) (xs := [w95]) rfl) hx98 cS_fl (by decide)) fun M99 hM100 => ?_))))))))))))
   have o101 : M99[i1_1]? = some (.live ⟨.grow, 9, 1, x97.map cS⟩) := set_same hM100 o62
   refine kx (mvO rfl) (Rn (hV (.lsl i1_1 x97.length 0 x97.length) rfl (hA h86 (hA h87 (hA h88 hZ)))) fun e102 h104 h105 h106 h107 => bN (sN (Rg (kx (bAdd h107 rfl) (kx (mvO rfl) (Rn (hA h104 (hA h105 (hA h106 (hN rfl hZ)))) fun e108 h110 h111 h112 h113 => ?_))))))
   clear h84 h85 h86 h87 h88 h89 h104 h105 h106
   obtain rfl := si h
   exact qN ⟨h110, h111, h112, h113, o101⟩
  refine cF h89 hb90 (xx (bN (sN (Rg (kx (bAdd h88 rfl) (kx (mvO rfl) (Rn (hA h83 (hA h86 (hA h87 (hN rfl hZ)))) fun e114 h116 h117 h118 h119 => ?_)))))))
  clear h83 h84 h85 h86 h87 h89
  obtain rfl := si h
  exact qN ⟨h116, h117, h118, h119, o62⟩
 refine cF h69 hb70 (xx (sE ?_))
 obtain rfl := si h
 exact qE ⟨rfl, h65, o62⟩
noncomputable def impl_AmountText (a1 : Int) : Option ((List UInt8)) :=
 (impl_isAmount a1).bind fun r5 =>
 if r5 = true then
  if (a1 == 0) = true then
   some ([48, 100] : List UInt8)
  else
   (quo .i64 a1 240).bind fun n27 =>
   (quo .i64 a1 12).bind fun n29 =>
   (rem .i64 n29 20).bind fun n31 =>
   (rem .i64 a1 12).bind fun n33 =>
   (Lw (impl_AmountText_b1 n27 n31 n33) (0, ([] : List (List UInt8)))).bind fun y125 =>
   (strings_Join y125 ([32] : List UInt8)).bind fun r129 =>
   some r129
 else
  some ([] : List UInt8)
def impl_AmountText_enc (r : (List UInt8)) : AV := .str r
theorem impl_AmountText_ok (a1 : Int) (r : (List UInt8)) (h : impl_AmountText a1 = some r) : Ev (fun k => CN k 53 [.int .i64 a1] []) (fun p => rRes p.2 p.1 = impl_AmountText_enc r) := by
 unfold impl_AmountText at h
 obtain ⟨r5, hx4, h⟩ := bind_some h
 refine Ev.enter (F := fun k => f53 (CN k) k) (fun k => callN_eq rfl Tryd.func53 rfl rfl rfl (by decide +kernel) (f53_eq _ _)) (sq (Rg (kx (mvO rfl) (Rn (hN rfl hZ) fun e1 h3 => sN (sq (sq (Rg (kx (mvO h3) (kc (cl (v := .bool r5) rfl rfl (cns rfl rfl) rfl (impl_isAmount_ok a1 _ hx4) nm) (kx (uNot rfl) (Rn (hA h3 (hN rfl hZ)) fun e6 h8 h9 => sN ?_)))))))))))
 clear h3
 rcases ite_some h with ⟨hb10, h⟩ | ⟨hb10, h⟩
 ·refine cF h9 (congrArg Bool.not hb10) (xx (sN (sq (sq (Rg (kx (mvO h8) (kx (bEql rfl rfl) (Rn (hA h8 (hN rfl hZ)) fun e11 h13 h14 => sN ?_))))))))
  clear h8 h9
  rcases ite_some h with ⟨hb15, h⟩ | ⟨hb15, h⟩
  ·refine cT h14 hb15 (sq (Rg (kx (mvO rfl) (Rn (hN rfl hZ) fun e16 h18 => sN (xx (sR ?_))))))
   clear h13 h14
   obtain rfl := si h
   exact eR (resT h18 res0) rfl
  refine cF h14 hb15 (xx (sN (sq (Rg (ku (litO (xs := ([] : List (List UInt8))) (c := cS) rfl rfl (by decide)) fun M20 hM21 => ?_)))))
  have o22 : M20[([] : Mem).length]? = some (.live ⟨.grow, 9, 1, ([] : List (List UInt8)).map cS⟩) := push_new hM21
  obtain ⟨n27, hx28, h⟩ := bind_some h
  obtain ⟨n29, hx30, h⟩ := bind_some h
  obtain ⟨n31, hx32, h⟩ := bind_some h
  obtain ⟨n33, hx34, h⟩ := bind_some h
  obtain ⟨y125, hr121, h⟩ := bind_some h
  refine kx (mvO rfl) (Rn (hA h13 (hV (.lsl ([] : Mem).length ([] : List (List UInt8)).length 0 ([] : List (List UInt8)).length) rfl hZ)) fun e23 h25 h26 => sN (sq (sq (Rg (kx (mvO h25) (kx (bQuo rfl rfl hx28) (kx (mvO h25) (kx (bQuo rfl rfl hx30) (kx (bRem rfl rfl hx32) (kx (mvO h25) (kx (bRem rfl rfl hx34) (kx (litI (cns rfl (cns rfl (cns rfl rfl))) rfl ⟨rfl, by decide⟩) (kx (lnT (c := (cI .i64)) (xs := [n27, n31, n33]) Tryd.underlying135 rfl) (kx (mvO rfl) (Rn (hA h26 (hN rfl (hN rfl (hV (.int .i64 0) rfl hZ)))) fun e35 h37 h38 h39 h40 => sN (bl (Ev.loop (RS := impl_AmountText_b1_RS n27 n31 n33 (([] : Mem).length)) (RR := impl_AmountText_b1_RR n27 n31 n33 (([] : Mem).length)) (fun s r h e M hs => impl_AmountText_b1_ok n27 n31 n33 (([] : Mem).length) s r h e M hs) hr121 ⟨h37, h38, h39, h40, o22⟩ fun x e123 M124 hq122 => ?_)))))))))))))))))
  clear h13 h14 h25 h26
  obtain ⟨rfl, h126, o127⟩ := hq122
  obtain ⟨r129, hx128, h⟩ := bind_some h
  refine bE (sN (sq (Rg (kx (mvO h126) (kc (cl (v := .str r129) rfl rfl (cns rfl (cns rfl rfl)) (ra1 (ra1_row o127 rfl cS_fl) (ra1 rfl ra0)) (strings_Join_ok y125 ([32] : List UInt8) _ hx128) (fun _ => rfl)) (kx (mvO rfl) (Rn (hN rfl hZ) fun e130 h132 => sN (xx ?_))))))))
  clear h126
  obtain rfl := si h
  exact eR (resT h132 res0) rfl
 refine cT h9 (congrArg Bool.not hb10) (sq (Rg (kx (mvO rfl) (Rn (hN rfl hZ) fun e133 h135 => sN (xx (sR ?_))))))
 clear h8 h9
 obtain rfl := si h
 exact eR (resT h135 res0) rfl
/-! ### loop.example/g01263/impl.ReadAmount (f89) -/
abbrev impl_ReadAmount_b1_S := Int × Int
abbrev impl_ReadAmount_b1_R := Unit ⊕ Int
def impl_ReadAmount_b1_RS (a1 : List UInt8) (r18 : List (List UInt8)) (s : impl_ReadAmount_b1_S) (e : Env) (M : Mem) : Prop := eget e 0 = .str a1 ∧ eget e 4 = .int .i64 s.1 ∧ eget e 14 = .sl (some 9) (r18.map cS) ∧ eget e 15 = .int .i64 (r18.length : Int) ∧ eget e 16 = .int .i64 s.2
def impl_ReadAmount_b1_RR (a1 : List UInt8) (r18 : List (List UInt8)) (r : impl_ReadAmount_b1_R) (x : Ex) (e : Env) (M : Mem) : Prop :=
  match r with
  | (.inl g) => x = .ret ∧ eget e 2 = .int .i64 0 ∧ eget e 3 = .int .i64 5
  | (.inr g) => x = .ext 0 ∧ eget e 0 = .str a1 ∧ eget e 4 = .int .i64 g
noncomputable def impl_ReadAmount_b1 (r18 : List (List UInt8)) : impl_ReadAmount_b1_S → Option (impl_ReadAmount_b1_S ⊕ impl_ReadAmount_b1_R) := fun (s1_1, s1_2) =>
 if (decide (s1_2 < (r18.length : Int))) = true then
  (rd r18 s1_2).bind fun x59 =>
  if (x59 == ([] : List UInt8)) = true then
   some (.inr (.inl ()))
  else
   (slc x59 0 (IntKind.i64.wrap ((x59.length : Int) - 1))).bind fun x83 =>
   (impl_number x83).bind fun (r86, r87) =>
   (rd x59 (IntKind.i64.wrap ((x59.length : Int) - 1))).bind fun x98 =>
   (strings_IndexByte ([100, 115, 108] : List UInt8) (x98.toNat : Int)).bind fun r101 =>
   if r87 = true then
    if (decide (r101 < 0)) = true then
     some (.inr (.inl ()))
    else
     (impl_worth r101).bind fun r129 =>
     some (.inl ((IntKind.i64.wrap (s1_1 + (IntKind.i64.wrap (r86 * r129)))), (IntKind.i64.wrap (s1_2 + 1))))
   else
    some (.inr (.inl ()))
 else
  some (.inr (.inr s1_1))
theorem impl_ReadAmount_b1_ok (a1 : List UInt8) (r18 : List (List UInt8)) (s : impl_ReadAmount_b1_S) (r : impl_ReadAmount_b1_S ⊕ impl_ReadAmount_b1_R) (h : impl_ReadAmount_b1 r18 s = some r) (e : Env) (M : Mem) (hs : impl_ReadAmount_b1_RS a1 r18 s e M) : Ev (fun k => (f89_l5 (CN k) k (prune [0, 4, 14, 15, 16] e) M).bind fun q => some q) (bQ (impl_ReadAmount_b1_RS a1 r18) (impl_ReadAmount_b1_RR a1 r18) r) := by
 obtain ⟨s1_1, s1_2⟩ := s
 unfold impl_ReadAmount_b1 at h
 obtain ⟨h40, h42, h44, h46, h48⟩ := hs
 generalize he39 : prune [0, 4, 14, 15, 16] e = e38
 have h41 := envp he39.symm rfl h40
 have h43 := envp he39.symm rfl h42
 have h45 := envp he39.symm rfl h44
 have h47 := envp he39.symm rfl h46
 have h49 := envp he39.symm rfl h48
 refine sq (Rg (kx (bLss h49 h47) (Rn (hV (.str a1) h41 (hV (.int .i64 s1_1) h43 (hV (.sl (some 9) (r18.map cS)) h45 (hV (.int .i64 (r18.length : Int)) h47 (hV (.int .i64 s1_2) h49 (hN rfl hZ)))))) fun e50 h52 h53 h54 h55 h56 h57 => sN (sq ?_))))
 clear h41 h43 h45 h47 h49
 rcases ite_some h with ⟨hb58, h⟩ | ⟨hb58, h⟩
 ·obtain ⟨x59, hx60, h⟩ := bind_some h
  refine cT h57 hb58 (xx (sN (sq (bl (sq (Rg (kx (ixS h54 h56 hx60 cS_fl) (kx (ldP rfl rfl) (kx (mvO rfl) (Rn (hA h52 (hA h53 (hN rfl (hA h54 (hA h55 (hA h56 hZ)))))) fun e61 h63 h64 h65 h66 h67 h68 => sN (sq (sq (Rg (kx (mvO h65) (kx (sEql rfl rfl) (Rn (hA h63 (hA h64 (hA h65 (hA h66 (hA h67 (hA h68 (hN rfl hZ))))))) fun e69 h71 h72 h73 h74 h75 h76 h77 => sN ?_))))))))))))))))
  clear h52 h53 h54 h55 h56 h57 h63 h64 h65 h66 h67 h68
  rcases ite_some h with ⟨hb78, h⟩ | ⟨hb78, h⟩
  ·refine cT h77 hb78 (sq (Rg (kx (mvO rfl) (kx (mvO rfl) (Rn (hV (.int .i64 0) rfl (hV (.int .i64 5) rfl hZ)) fun e79 h81 h82 => sN (xx (sR (bR (sR ?_)))))))))
   clear h71 h72 h73 h74 h75 h76 h77
   obtain rfl := si h
   exact qR ⟨rfl, h81, h82⟩
  obtain ⟨x83, hx84, h⟩ := bind_some h
  obtain ⟨⟨r86, r87⟩, hx85, h⟩ := bind_some h
  obtain ⟨x98, hx99, h⟩ := bind_some h
  obtain ⟨r101, hx100, h⟩ := bind_some h
  refine cF h77 hb78 (xx (sN (sq (Rg (kx (mvO h73) (kx (mvO h73) (kx (lnB Tryd.underlying9 rfl) (kx (bSub rfl rfl) (kx (ssl2 rfl rfl (bnd1 rfl) hx84) (kc (cl (v := .tup [.int .i64 r86, .bool r87]) rfl rfl (cns rfl rfl) rfl (impl_number_ok x83 _ hx85) nm) (kx (mvO rfl) (kx (exT rfl rfl) (kx (exT rfl rfl) (kx (mvO rfl) (kx (mvO rfl) (Rn (hA h71 (hA h72 (hA h73 (hN rfl (hN rfl (hA h74 (hA h75 (hA h76 hZ)))))))) fun e88 h90 h91 h92 h93 h94 h95 h96 h97 => sN (sq (Rg (kx (mvO h92) (kx (mvO h92) (kx (lnB Tryd.underlying9 rfl) (kx (bSub rfl rfl) (kx (ixB rfl rfl hx99) (kc (cl (v := .int .i64 r101) rfl rfl (cns rfl (cns rfl rfl)) rfl (strings_IndexByte_ok ([100, 115, 108] : List UInt8) (x98.toNat : Int) _ hx100) nm) (kx (mvO rfl) (Rn (hA h90 (hA h91 (hA h93 (hA h94 (hN rfl (hA h95 (hA h96 (hA h97 hZ)))))))) fun e102 h104 h105 h106 h107 h108 h109 h110 h111 => sN (sq (sq (Rg (kx (mvO h107) (kx (uNot rfl) (kx (mvO rfl) ?_))))))))))))))))))))))))))))))))
  clear h71 h72 h73 h74 h75 h76 h77 h90 h91 h92 h93 h94 h95 h96 h97
  rcases ite_some h with ⟨hb112, h⟩ | ⟨hb112, h⟩
  ·refine kx (guF rfl (congrArg Bool.not hb112) (mvO h108)) (kx (guF rfl (congrArg Bool.not hb112) (bLss rfl rfl)) (kx (pkF rfl (congrArg Bool.not hb112) rfl) (Rn (hA h104 (hA h105 (hA h106 (hA h108 (hA h109 (hA h110 (hA h111 (hN rfl hZ)))))))) fun e113 h115 h116 h117 h118 h119 h120 h121 h122 => sN ?_)))
   clear h104 h105 h106 h107 h108 h109 h110 h111
   rcases ite_some h with ⟨hb123, h⟩ | ⟨hb123, h⟩
   ·refine cT h122 hb123 (sq (Rg (kx (mvO rfl) (kx (mvO rfl) (Rn (hV (.int .i64 0) rfl (hV (.int .i64 5) rfl hZ)) fun e124 h126 h127 => sN (xx (sR (bR (sR ?_)))))))))
    clear h115 h116 h117 h118 h119 h120 h121 h122
    obtain rfl := si h
    exact qR ⟨rfl, h126, h127⟩
   obtain ⟨r129, hx128, h⟩ := bind_some h
   refine cF h122 hb123 (xx (sN (Rg (kx (mvO h116) (kx (mvO h117) (kx (mvO h118) (kc (cl (v := .int .i64 r129) rfl rfl (cns rfl rfl) rfl (impl_worth_ok r101 _ hx128) nm) (kx (bMul rfl rfl) (kx (bAdd rfl rfl) (kx (mvO rfl) (Rn (hA h115 (hN rfl (hA h119 (hA h120 (hA h121 hZ))))) fun e130 h132 h133 h134 h135 h136 => bN (sN (Rg (kx (bAdd h136 rfl) (kx (mvO rfl) (Rn (hA h132 (hA h133 (hA h134 (hA h135 (hN rfl hZ))))) fun e137 h139 h140 h141 h142 h143 => ?_))))))))))))))))
   clear h115 h117 h118 h119 h120 h121 h122 h132 h133 h134 h135
   obtain rfl := si h
   exact qN ⟨h139, h140, h141, h142, h143⟩
  refine kx (gsF rfl (congrArg Bool.not hb112)) (kx (gsF rfl (congrArg Bool.not hb112)) (kx (pkT rfl (congrArg Bool.not hb112) rfl) (Rn (hA h104 (hA h105 (hA h106 (hA h108 (hA h109 (hA h110 (hA h111 (hV (.bool true) rfl hZ)))))))) fun e144 h146 h147 h148 h149 h150 h151 h152 h153 => sN (cT h153 rfl (sq (Rg (kx (mvO rfl) (kx (mvO rfl) (Rn (hV (.int .i64 0) rfl (hV (.int .i64 5) rfl hZ)) fun e154 h156 h157 => sN (xx (sR (bR (sR ?_)))))))))))))
  clear h104 h105 h106 h107 h108 h109 h110 h111 h146 h147 h148 h149 h150 h151 h152 h153
  obtain rfl := si h
  exact qR ⟨rfl, h156, h157⟩
 refine cF h57 hb58 (xx (sE ?_))
 obtain rfl := si h
 exact qE ⟨rfl, h52, h53⟩
noncomputable def impl_ReadAmount (a1 : List UInt8) : Option (Int × Int) :=
 if (decide ((a1.length : Int) > 30)) = true then
  some (0, 5)
 else
  (strings_Split a1 ([32] : List UInt8)).bind fun r18 =>
  (Lw (impl_ReadAmount_b1 r18) (0, 0)).bind fun r => match r with
  | (.inl _) =>
   some (0, 5)
  | (.inr y167) =>
   (impl_AmountText y167).bind fun r171 =>
   if (r171 == a1) = true then
    some (y167, 0)
   else
    some (0, 5)
def impl_ReadAmount_enc (r : Int × Int) : AV := .tup [.int .i64 r.1, .int .i64 r.2]
theorem impl_ReadAmount_ok (a1 : List UInt8) (r : Int × Int) (h : impl_ReadAmount a1 = some r) : Ev (fun k => CN k 89 [.str a1] []) (fun p => rRes p.2 p.1 = impl_ReadAmount_enc r) := by
 unfold impl_ReadAmount at h
 refine Ev.enter (F := fun k => f89 (CN k) k) (fun k => callN_eq rfl Tryd.func89 rfl rfl rfl (by decide +kernel) (f89_eq _ _)) (sq (Rg (kx (mvO rfl) (kx (mvO rfl) (Rn (hN rfl hZ) fun e1 h3 => sN (sq (sq (Rg (kx (mvO h3) (kx (lnB Tryd.underlying9 rfl) (kx (bGtr rfl rfl) (Rn (hA h3 (hN rfl hZ)) fun e4 h6 h7 => sN ?_))))))))))))
 clear h3
 rcases ite_some h with ⟨hb8, h⟩ | ⟨hb8, h⟩
 ·refine cT h7 hb8 (sq (Rg (kx (mvO rfl) (kx (mvO rfl) (Rn (hV (.int .i64 0) rfl (hV (.int .i64 5) rfl hZ)) fun e9 h11 h12 => sN (xx (sR ?_)))))))
  clear h6 h7
  obtain rfl := si h
  exact eR (resT h11 (resT h12 res0)) rfl
 obtain ⟨r18, hx17, h⟩ := bind_some h
 obtain ⟨r158, hr159, h⟩ := bind_some h
 refine cF h7 hb8 (xx (sN (sq (Rg (kx (mvO rfl) (Rn (hA h6 (hV (.int .i64 0) rfl hZ)) fun e13 h15 h16 => sN (sq (sq (Rg (kx (mvO h15) (kc (cl (v := .sl (some 9) (r18.map cS)) rfl rfl (cns rfl (cns rfl rfl)) rfl (strings_Split_ok a1 ([32] : List UInt8) _ hx17) nm) (kx (lnS Tryd.underlying71 rfl) (kx (mvO rfl) (Rn (hA h15 (hA h16 (hN rfl (hN rfl (hV (.int .i64 0) rfl hZ))))) fun e19 h21 h22 h23 h24 h25 => sN (bl ?_)))))))))))))))
 clear h6 h7 h15 h16
 rcases r158 with _ | y167
 ·refine Ev.loop (RS := impl_ReadAmount_b1_RS a1 r18) (RR := impl_ReadAmount_b1_RR a1 r18) (fun s r h e M hs => impl_ReadAmount_b1_ok a1 r18 s r h e M hs) hr159 ⟨h21, h22, h23, h24, h25⟩ fun x e161 M162 hq160 => ?_
  obtain ⟨rfl, h163, h164⟩ := hq160
  refine bR (sR ?_)
  obtain rfl := si h
  exact eR (resT h163 (resT h164 res0)) rfl
 refine Ev.loop (RS := impl_ReadAmount_b1_RS a1 r18) (RR := impl_ReadAmount_b1_RR a1 r18) (fun s r h e M hs => impl_ReadAmount_b1_ok a1 r18 s r h e M hs) hr159 ⟨h21, h22, h23, h24, h25⟩ fun x e165 M166 hq160 => ?_
 obtain ⟨rfl, h168, h169⟩ := hq160
 obtain ⟨r171, hx170, h⟩ := bind_some h
 refine bE (sN (sq (sq (Rg (kx (mvO h169) (kc (cl (v := .str r171) rfl rfl (cns rfl rfl) rfl (impl_AmountText_ok y167 _ hx170) nm) (kx (mvO h168) (kx (sNeq rfl rfl) (Rn (hV (.int .i64 y167) h169 (hN rfl hZ)) fun e172 h174 h175 => sN ?_)))))))))
 clear h168 h169
 rcases ite_some h with ⟨hb176, h⟩ | ⟨hb176, h⟩
 ·refine cF h175 (congrArg Bool.not hb176) (xx (sN (sq (Rg (kx (mvO h174) (kx (mvO rfl) (kx (mvO rfl) (Rn (hN rfl (hV (.int .i64 0) rfl hZ)) fun e177 h179 h180 => sN (xx ?_)))))))))
  clear h174 h175
  obtain rfl := si h
  exact eR (resT h179 (resT h180 res0)) rfl
 refine cT h175 (congrArg Bool.not hb176) (sq (Rg (kx (mvO rfl) (kx (mvO rfl) (Rn (hV (.int .i64 0) rfl (hV (.int .i64 5) rfl hZ)) fun e181 h183 h184 => sN (xx (sR ?_)))))))
 clear h174 h175
 obtain rfl := si h
 exact eR (resT h183 (resT h184 res0)) rfl
/-! ### slices.Index[[]string,string] (f88) -/
abbrev slices_Index_string_b1_S := Int
abbrev slices_Index_string_b1_R := Int ⊕ Unit
def slices_Index_string_b1_RS (a1 : List (List UInt8)) (a2 : List UInt8) (s : slices_Index_string_b1_S) (e : Env) (M : Mem) : Prop := eget e 0 = .sl none (a1.map cS) ∧ eget e 1 = .str a2 ∧ eget e 7 = .int .i64 (a1.length : Int) ∧ eget e 8 = .int .i64 s
def slices_Index_string_b1_RR (a1 : List (List UInt8)) (a2 : List UInt8) (r : slices_Index_string_b1_R) (x : Ex) (e : Env) (M : Mem) : Prop :=
  match r with
  | (.inl g) => x = .ret ∧ eget e 4 = .int .i64 g
  | (.inr g) => x = .ext 0 ∧ True
noncomputable def slices_Index_string_b1 (a1 : List (List UInt8)) (a2 : List UInt8) : slices_Index_string_b1_S → Option (slices_Index_string_b1_S ⊕ slices_Index_string_b1_R) := fun s1_1 =>
 if (decide (s1_1 < (a1.length : Int))) = true then
  (rd a1 s1_1).bind fun x46 =>
  if (a2 == x46) = true then
   some (.inr (.inl s1_1))
  else
   some (.inl (IntKind.i64.wrap (s1_1 + 1)))
 else
  some (.inr (.inr ()))
theorem slices_Index_string_b1_ok (a1 : List (List UInt8)) (a2 : List UInt8) (s : slices_Index_string_b1_S) (r : slices_Index_string_b1_S ⊕ slices_Index_string_b1_R) (h : slices_Index_string_b1 a1 a2 s = some r) (e : Env) (M : Mem) (hs : slices_Index_string_b1_RS a1 a2 s e M) : Ev (fun k => (f88_l2 (CN k) k (prune [0, 1, 7, 8] e) M).bind fun q => some q) (bQ (slices_Index_string_b1_RS a1 a2) (slices_Index_string_b1_RR a1 a2) r) := by
 revert h hs
 revert s
 intro s1_1 h hs
 unfold slices_Index_string_b1 at h
 obtain ⟨h23, h25, h27, h29⟩ := hs
 generalize he22 : prune [0, 1, 7, 8] e = e21
 have h24 := envp he22.symm rfl h23
 have h26 := envp he22.symm rfl h25
 have h28 := envp he22.symm rfl h27
 have h30 := envp he22.symm rfl h29
 refine sq (Rg (kx (bLss h30 h28) (Rn (hV (.sl none (a1.map cS)) h24 (hV (.str a2) h26 (hV (.int .i64 (a1.length : Int)) h28 (hV (.int .i64 s1_1) h30 (hN rfl hZ))))) fun e31 h33 h34 h35 h36 h37 => sN (sq ?_))))
 clear h24 h26 h28 h30
 rcases ite_some h with ⟨hb38, h⟩ | ⟨hb38, h⟩
 ·obtain ⟨x46, hx47, h⟩ := bind_some h
  refine cT h37 hb38 (xx (sN (sq (bl (sq (Rg (kx (mvO h36) (kx (mvO rfl) (Rn (hA h33 (hA h34 (hN rfl (hA h35 (hA h36 hZ))))) fun e39 h41 h42 h43 h44 h45 => sN (sq (Rg (kx (mvO h42) (kx (mvO h41) (kx (mvO h43) (kx (ixS rfl rfl hx47 cS_fl) (kx (ldP rfl rfl) (kx (sEql rfl rfl) (Rn (hA h41 (hA h42 (hA h43 (hA h44 (hA h45 (hN rfl hZ)))))) fun e48 h50 h51 h52 h53 h54 h55 => sN ?_))))))))))))))))))
  clear h33 h34 h35 h36 h37 h41 h42 h43 h44 h45
  rcases ite_some h with ⟨hb56, h⟩ | ⟨hb56, h⟩
  ·refine cT h55 hb56 (sq (Rg (kx (mvO h52) (kx (mvO rfl) (Rn (hN rfl hZ) fun e57 h59 => sN (xx (bR (sR ?_))))))))
   clear h50 h51 h52 h53 h54 h55
   obtain rfl := si h
   exact qR ⟨rfl, h59⟩
  refine cF h55 hb56 (xx (bN (sN (Rg (kx (bAdd h54 rfl) (kx (mvO rfl) (Rn (hA h50 (hA h51 (hA h53 (hN rfl hZ)))) fun e60 h62 h63 h64 h65 => ?_)))))))
  clear h50 h51 h52 h53 h55
  obtain rfl := si h
  exact qN ⟨h62, h63, h64, h65⟩
 refine cF h37 hb38 (xx (sE ?_))
 obtain rfl := si h
 exact qE ⟨rfl, trivial⟩
noncomputable def slices_Index_string (a1 : List (List UInt8)) (a2 : List UInt8) : Option Int :=
 (Lw (slices_Index_string_b1 a1 a2) 0).bind fun r => match r with
 | (.inl y71) =>
  some y71
 | (.inr _) =>
  some (-1)
def slices_Index_string_enc (r : Int) : AV := .int .i64 r
theorem slices_Index_string_ok (a1 : List (List UInt8)) (a2 : List UInt8) (r : Int) (h : slices_Index_string a1 a2 = some r) : Ev (fun k => CN k 88 [.sl none (a1.map cS), .str a2] []) (fun p => rRes p.2 p.1 = slices_Index_string_enc r) := by
 unfold slices_Index_string at h
 obtain ⟨r66, hr67, h⟩ := bind_some h
 refine Ev.enter (F := fun k => f88 (CN k) k) (fun k => callN_eq rfl Tryd.func88 rfl rfl rfl (by decide +kernel) (f88_eq _ _)) (sq (Rg (kx (mvO rfl) (Rn (hN rfl (hN rfl hZ)) fun e1 h3 h4 => sN (sq (sq (Rg (kx (mvO h3) (kx (lnS Tryd.underlying71 rfl) (kx (mvO rfl) (Rn (hA h3 (hA h4 (hN rfl (hV (.int .i64 0) rfl hZ)))) fun e5 h7 h8 h9 h10 => sN (bl ?_))))))))))))
 clear h3 h4
 rcases r66 with y71 | _
 ·refine Ev.loop (RS := slices_Index_string_b1_RS a1 a2) (RR := slices_Index_string_b1_RR a1 a2) (fun s r h e M hs => slices_Index_string_b1_ok a1 a2 s r h e M hs) hr67 ⟨h7, h8, h9, h10⟩ fun x e69 M70 hq68 => ?_
  obtain ⟨rfl, h72⟩ := hq68
  refine bR (sR ?_)
  obtain rfl := si h
  exact eR (resT h72 res0) rfl
 refine Ev.loop (RS := slices_Index_string_b1_RS a1 a2) (RR := slices_Index_string_b1_RR a1 a2) (fun s r h e M hs => slices_Index_string_b1_ok a1 a2 s r h e M hs) hr67 ⟨h7, h8, h9, h10⟩ fun x e73 M74 hq68 => ?_
 obtain ⟨rfl, _⟩ := hq68
 refine bE (sN (sq (Rg (kx (mvO rfl) (Rn (hV (.int .i64 (-1)) rfl hZ) fun e75 h77 => sN (xx ?_))))))
 obtain rfl := si h
 exact eR (resT h77 res0) rfl
/-! ### loop.example/g01263/spec.l05Roll (f82) -/
noncomputable def spec_l05Roll (a1 : Roll) : Option Bool :=
 if (decide ((a1.Accounts.length : Int) ≤ 20)) = true then
  (spec_l05Fault a1).bind fun r6 =>
  some (decide (r6 < 0))
 else
  some false
def spec_l05Roll_enc (r : Bool) : AV := .bool r
theorem spec_l05Roll_ok (a1 : Roll) (r : Bool) (h : spec_l05Roll a1 = some r) : Ev (fun k => CN k 82 [.pt none [.sl none (a1.Accounts.map Account.c), .int .i64 a1.Owed]] []) (fun p => rRes p.2 p.1 = spec_l05Roll_enc r) := by
 unfold spec_l05Roll at h
 refine Ev.enter (F := fun k => f82 (CN k) k) (fun k => callN_eq rfl Tryd.func82 rfl rfl rfl (by decide +kernel) (f82_eq _ _)) (sq (Rg (kx (mvO rfl) (Rn (hN rfl hZ) fun e1 h3 => sN (sq (Rg (kx (mvO h3) (kx (ncP rfl) (kx (faP rfl ⟨ble rfl, blt rfl⟩ rfl) (kx (ldP rfl rfl) (kx (lnS Tryd.underlying72 rfl) (kx (bLeq rfl rfl) (kx (mvO rfl) ?_)))))))))))))
 rcases ite_some h with ⟨hb4, h⟩ | ⟨hb4, h⟩
 ·obtain ⟨r6, hx5, h⟩ := bind_some h
  refine kx (guT rfl hb4 (mvO h3)) (kc (Ev.guT rfl hb4 (cl (v := .int .i64 r6) rfl rfl (cns rfl rfl) rfl (spec_l05Fault_ok a1 _ hx5) nm)) (kx (guT rfl hb4 (bLss rfl rfl)) (kx (pkT rfl hb4 rfl) (kx (mvO rfl) (Rn (hN rfl hZ) fun e7 h9 => sN (xx ?_))))))
  clear h3
  obtain rfl := si h
  exact eR (resT h9 res0) rfl
 refine kx (gsT rfl hb4) (kc (Ev.gsT rfl hb4) (kx (gsT rfl hb4) (kx (pkF rfl hb4 rfl) (kx (mvO rfl) (Rn (hV (.bool false) rfl hZ) fun e10 h12 => sN (xx ?_))))))
 clear h3
 obtain rfl := si h
 exact eR (resT h12 res0) rfl
/-! ### loop.example/g01263/impl.isLetters (f42) -/
abbrev impl_isLetters_b1_S := Int
abbrev impl_isLetters_b1_R := Unit ⊕ Unit
def impl_isLetters_b1_RS (a1 : List UInt8) (a2 : Int) (s : impl_isLetters_b1_S) (e : Env) (M : Mem) : Prop := eget e 0 = .str a1 ∧ eget e 1 = .int .i64 a2 ∧ eget e 7 = .int .i64 (a1.length : Int) ∧ eget e 8 = .int .i64 s
def impl_isLetters_b1_RR (a1 : List UInt8) (a2 : Int) (r : impl_isLetters_b1_R) (x : Ex) (e : Env) (M : Mem) : Prop :=
  match r with
  | (.inl g) => x = .ret ∧ eget e 4 = .bool false
  | (.inr g) => x = .ext 0 ∧ eget e 0 = .str a1 ∧ eget e 1 = .int .i64 a2
noncomputable def impl_isLetters_b1 (a1 : List UInt8) : impl_isLetters_b1_S → Option (impl_isLetters_b1_S ⊕ impl_isLetters_b1_R) := fun s1_1 =>
 if (decide (s1_1 < (a1.length : Int))) = true then
  (rd a1 s1_1).bind fun x46 =>
  if (decide ((x46.toNat : Int) < 97)) = true then
   some (.inr (.inl ()))
  else
   (rd a1 s1_1).bind fun x59 =>
   if (decide ((x59.toNat : Int) > 122)) = true then
    some (.inr (.inl ()))
   else
    some (.inl (IntKind.i64.wrap (s1_1 + 1)))
 else
  some (.inr (.inr ()))
theorem impl_isLetters_b1_ok (a1 : List UInt8) (a2 : Int) (s : impl_isLetters_b1_S) (r : impl_isLetters_b1_S ⊕ impl_isLetters_b1_R) (h : impl_isLetters_b1 a1 s = some r) (e : Env) (M : Mem) (hs : impl_isLetters_b1_RS a1 a2 s e M) : Ev (fun k => (f42_l2 (CN k) k (prune [0, 1, 7, 8] e) M).bind fun q => some q) (bQ (impl_isLetters_b1_RS a1 a2) (impl_isLetters_b1_RR a1 a2) r) := by
 revert h hs
 revert s
 intro s1_1 h hs
 unfold impl_isLetters_b1 at h
 obtain ⟨h23, h25, h27, h29⟩ := hs
 generalize he22 : prune [0, 1, 7, 8] e = e21
 have h24 := envp he22.symm rfl h23
 have h26 := envp he22.symm rfl h25
 have h28 := envp he22.symm rfl h27
 have h30 := envp he22.symm rfl h29
 refine sq (Rg (kx (bLss h30 h28) (Rn (hV (.str a1) h24 (hV (.int .i64 a2) h26 (hV (.int .i64 (a1.length : Int)) h28 (hV (.int .i64 s1_1) h30 (hN rfl hZ))))) fun e31 h33 h34 h35 h36 h37 => sN (sq ?_))))
 clear h24 h26 h28 h30
 rcases ite_some h with ⟨hb38, h⟩ | ⟨hb38, h⟩
 ·obtain ⟨x46, hx47, h⟩ := bind_some h
  refine cT h37 hb38 (xx (sN (sq (bl (sq (Rg (kx (mvO h36) (kx (mvO rfl) (Rn (hA h33 (hA h34 (hN rfl (hA h35 (hA h36 hZ))))) fun e39 h41 h42 h43 h44 h45 => sN (sq (Rg (kx (mvO h41) (kx (mvO h43) (kx (ixB rfl rfl hx47) (kx (bLss rfl rfl) (kx (mvO rfl) ?_))))))))))))))))
  clear h33 h34 h35 h36 h37
  rcases ite_some h with ⟨hb48, h⟩ | ⟨hb48, h⟩
  ·refine kx (gsF rfl hb48) (kx (gsF rfl hb48) (kx (gsF rfl hb48) (kx (gsF rfl hb48) (kx (pkT rfl hb48 rfl) (Rn (hA h41 (hA h42 (hA h44 (hA h45 (hV (.bool true) rfl hZ))))) fun e49 h51 h52 h53 h54 h55 => sN (cT h55 rfl (sq (Rg (kx (mvO rfl) (Rn (hV (.bool false) rfl hZ) fun e56 h58 => sN (xx (bR (sR ?_)))))))))))))
   clear h41 h42 h43 h44 h45 h51 h52 h53 h54 h55
   obtain rfl := si h
   exact qR ⟨rfl, h58⟩
  obtain ⟨x59, hx60, h⟩ := bind_some h
  refine kx (guF rfl hb48 (mvO h41)) (kx (guF rfl hb48 (mvO h43)) (kx (guF rfl hb48 (ixB rfl rfl hx60)) (kx (guF rfl hb48 (bGtr rfl rfl)) (kx (pkF rfl hb48 rfl) (Rn (hA h41 (hA h42 (hA h44 (hA h45 (hN rfl hZ))))) fun e61 h63 h64 h65 h66 h67 => sN ?_)))))
  clear h41 h42 h43 h44 h45
  rcases ite_some h with ⟨hb68, h⟩ | ⟨hb68, h⟩
  ·refine cT h67 hb68 (sq (Rg (kx (mvO rfl) (Rn (hV (.bool false) rfl hZ) fun e69 h71 => sN (xx (bR (sR ?_)))))))
   clear h63 h64 h65 h66 h67
   obtain rfl := si h
   exact qR ⟨rfl, h71⟩
  refine cF h67 hb68 (xx (bN (sN (Rg (kx (bAdd h66 rfl) (kx (mvO rfl) (Rn (hA h63 (hA h64 (hA h65 (hN rfl hZ)))) fun e72 h74 h75 h76 h77 => ?_)))))))
  clear h63 h64 h65 h67
  obtain rfl := si h
  exact qN ⟨h74, h75, h76, h77⟩
 refine cF h37 hb38 (xx (sE ?_))
 obtain rfl := si h
 exact qE ⟨rfl, h33, h34⟩
noncomputable def impl_isLetters (a1 : List UInt8) (a2 : Int) : Option Bool :=
 (Lw (impl_isLetters_b1 a1) 0).bind fun r => match r with
 | (.inl _) =>
  some false
 | (.inr _) =>
  if (decide ((a1.length : Int) ≥ 1)) = true then
   some (decide ((a1.length : Int) ≤ a2))
  else
   some false
def impl_isLetters_enc (r : Bool) : AV := .bool r
theorem impl_isLetters_ok (a1 : List UInt8) (a2 : Int) (r : Bool) (h : impl_isLetters a1 a2 = some r) : Ev (fun k => CN k 42 [.str a1, .int .i64 a2] []) (fun p => rRes p.2 p.1 = impl_isLetters_enc r) := by
 unfold impl_isLetters at h
 obtain ⟨r78, hr79, h⟩ := bind_some h
 refine Ev.enter (F := fun k => f42 (CN k) k) (fun k => callN_eq rfl Tryd.func42 rfl rfl rfl (by decide +kernel) (f42_eq _ _)) (sq (Rg (kx (mvO rfl) (Rn (hN rfl (hN rfl hZ)) fun e1 h3 h4 => sN (sq (sq (Rg (kx (mvO h3) (kx (lnB Tryd.underlying9 rfl) (kx (mvO rfl) (Rn (hA h3 (hA h4 (hN rfl (hV (.int .i64 0) rfl hZ)))) fun e5 h7 h8 h9 h10 => sN (bl ?_))))))))))))
 clear h3 h4
 rcases r78 with _ | _
 ·refine Ev.loop (RS := impl_isLetters_b1_RS a1 a2) (RR := impl_isLetters_b1_RR a1 a2) (fun s r h e M hs => impl_isLetters_b1_ok a1 a2 s r h e M hs) hr79 ⟨h7, h8, h9, h10⟩ fun x e81 M82 hq80 => ?_
  obtain ⟨rfl, h83⟩ := hq80
  refine bR (sR ?_)
  obtain rfl := si h
  exact eR (resT h83 res0) rfl
 refine Ev.loop (RS := impl_isLetters_b1_RS a1 a2) (RR := impl_isLetters_b1_RR a1 a2) (fun s r h e M hs => impl_isLetters_b1_ok a1 a2 s r h e M hs) hr79 ⟨h7, h8, h9, h10⟩ fun x e84 M85 hq80 => ?_
 obtain ⟨rfl, h86, h87⟩ := hq80
 refine bE (sN (sq (Rg (kx (mvO h86) (kx (lnB Tryd.underlying9 rfl) (kx (bGeq rfl rfl) (kx (mvO rfl) ?_)))))))
 rcases ite_some h with ⟨hb88, h⟩ | ⟨hb88, h⟩
 ·refine kx (guT rfl hb88 (mvO h86)) (kx (guT rfl hb88 (lnB Tryd.underlying9 rfl)) (kx (guT rfl hb88 (mvO h87)) (kx (guT rfl hb88 (bLeq rfl rfl)) (kx (pkT rfl hb88 rfl) (kx (mvO rfl) (Rn (hN rfl hZ) fun e89 h91 => sN (xx ?_)))))))
  clear h86 h87
  obtain rfl := si h
  exact eR (resT h91 res0) rfl
 refine kx (gsT rfl hb88) (kx (gsT rfl hb88) (kx (gsT rfl hb88) (kx (gsT rfl hb88) (kx (pkF rfl hb88 rfl) (kx (mvO rfl) (Rn (hV (.bool false) rfl hZ) fun e92 h94 => sN (xx ?_)))))))
 clear h86 h87
 obtain rfl := si h
 exact eR (resT h94 res0) rfl
/-! ### loop.example/g01263/impl.validItem (f54) -/
noncomputable def impl_validItem (a1 : Item) : Option Bool :=
 if (decide (a1.Kind ≥ 0)) = true then
  if (decide (a1.Kind ≤ 3)) = true then
   (impl_isAmount a1.Amount).bind fun r7 =>
   some r7
  else
   some false
 else
  some false
def impl_validItem_enc (r : Bool) : AV := .bool r
theorem impl_validItem_ok (a1 : Item) (r : Bool) (h : impl_validItem a1 = some r) : Ev (fun k => CN k 54 [.agg [.int .i8 a1.Kind, .int .i64 a1.Amount]] []) (fun p => rRes p.2 p.1 = impl_validItem_enc r) := by
 unfold impl_validItem at h
 refine Ev.enter (F := fun k => f54 (CN k) k) (fun k => callN_eq rfl Tryd.func54 rfl rfl rfl (by decide +kernel) (f54_eq _ _)) (sq (Rg (kx (bxI rfl rfl ⟨rfl, rfl, by decide⟩) (kx (mvO rfl) (Rn (hN rfl hZ) fun e1 h3 => sN (sq (Rg (kx (faP h3 ⟨ble rfl, blt rfl⟩ rfl) (kx (ldP rfl rfl) (kx (bGeq rfl rfl) (kx (mvO rfl) ?_)))))))))))
 rcases ite_some h with ⟨hb4, h⟩ | ⟨hb4, h⟩
 ·refine kx (guT rfl hb4 (faP h3 ⟨ble rfl, blt rfl⟩ rfl)) (kx (guT rfl hb4 (ldP rfl rfl)) (kx (guT rfl hb4 (bLeq rfl rfl)) (kx (pkT rfl hb4 rfl) (kx (mvO rfl) ?_))))
  rcases ite_some h with ⟨hb5, h⟩ | ⟨hb5, h⟩
  ·obtain ⟨r7, hx6, h⟩ := bind_some h
   refine kx (guT rfl hb5 (faP h3 ⟨ble rfl, blt rfl⟩ rfl)) (kx (guT rfl hb5 (ldP rfl rfl)) (kc (Ev.guT rfl hb5 (cl (v := .bool r7) rfl rfl (cns rfl rfl) rfl (impl_isAmount_ok a1.Amount _ hx6) nm)) (kx (pkT rfl hb5 rfl) (kx (mvO rfl) (Rn (hN rfl hZ) fun e8 h10 => sN (xx ?_))))))
   clear h3
   obtain rfl := si h
   exact eR (resT h10 res0) rfl
  refine kx (gsT rfl hb5) (kx (gsT rfl hb5) (kc (Ev.gsT rfl hb5) (kx (pkF rfl hb5 rfl) (kx (mvO rfl) (Rn (hV (.bool false) rfl hZ) fun e11 h13 => sN (xx ?_))))))
  clear h3
  obtain rfl := si h
  exact eR (resT h13 res0) rfl
 refine kx (gsT rfl hb4) (kx (gsT rfl hb4) (kx (gsT rfl hb4) (kx (pkF rfl hb4 rfl) (kx (mvO rfl) (kx (gsT rfl rfl) (kx (gsT rfl rfl) (kc (Ev.gsT rfl rfl) (kx (pkF rfl rfl rfl) (kx (mvO rfl) (Rn (hV (.bool false) rfl hZ) fun e14 h16 => sN (xx ?_)))))))))))
 clear h3
 obtain rfl := si h
 exact eR (resT h16 res0) rfl
/-! ### loop.example/g01263/impl.ValidItems (f15) -/
abbrev impl_ValidItems_b1_S := Int
abbrev impl_ValidItems_b1_R := Unit ⊕ Unit
def impl_ValidItems_b1_RS (a1 : List Item) (s : impl_ValidItems_b1_S) (e : Env) (M : Mem) : Prop := eget e 0 = .sl none (a1.map Item.c) ∧ eget e 5 = .sl none (a1.map Item.c) ∧ eget e 6 = .int .i64 (a1.length : Int) ∧ eget e 7 = .int .i64 s
def impl_ValidItems_b1_RR (a1 : List Item) (r : impl_ValidItems_b1_R) (x : Ex) (e : Env) (M : Mem) : Prop :=
  match r with
  | (.inl g) => x = .ret ∧ eget e 2 = .bool false
  | (.inr g) => x = .ext 0 ∧ eget e 0 = .sl none (a1.map Item.c)
noncomputable def impl_ValidItems_b1 (a1 : List Item) : impl_ValidItems_b1_S → Option (impl_ValidItems_b1_S ⊕ impl_ValidItems_b1_R) := fun s1_1 =>
 if (decide (s1_1 < (a1.length : Int))) = true then
  (rd a1 s1_1).bind fun x38 =>
  (impl_validItem x38).bind fun r55 =>
  if r55 = true then
   some (.inl (IntKind.i64.wrap (s1_1 + 1)))
  else
   some (.inr (.inl ()))
 else
  some (.inr (.inr ()))
theorem impl_ValidItems_b1_ok (a1 : List Item) (s : impl_ValidItems_b1_S) (r : impl_ValidItems_b1_S ⊕ impl_ValidItems_b1_R) (h : impl_ValidItems_b1 a1 s = some r) (e : Env) (M : Mem) (hs : impl_ValidItems_b1_RS a1 s e M) : Ev (fun k => (f15_l2 (CN k) k (prune [0, 5, 6, 7] e) M).bind fun q => some q) (bQ (impl_ValidItems_b1_RS a1) (impl_ValidItems_b1_RR a1) r) := by
 revert h hs
 revert s
 intro s1_1 h hs
 unfold impl_ValidItems_b1 at h
 obtain ⟨h22, h24, h26, h28⟩ := hs
 generalize he21 : prune [0, 5, 6, 7] e = e20
 have h23 := envp he21.symm rfl h22
 have h25 := envp he21.symm rfl h24
 have h27 := envp he21.symm rfl h26
 have h29 := envp he21.symm rfl h28
 refine sq (Rg (kx (bLss h29 h27) (Rn (hV (.sl none (a1.map Item.c)) h23 (hV (.sl none (a1.map Item.c)) h25 (hV (.int .i64 (a1.length : Int)) h27 (hV (.int .i64 s1_1) h29 (hN rfl hZ))))) fun e30 h32 h33 h34 h35 h36 => sN (sq ?_))))
 clear h23 h25 h27 h29
 rcases ite_some h with ⟨hb37, h⟩ | ⟨hb37, h⟩
 ·obtain ⟨x38, hx39, h⟩ := bind_some h
  refine cT h36 hb37 (xx (sN (sq (bl (sq (Rg (kx (ixS h33 h35 hx39 Item.fl) (kx (ldPA rfl rfl rfl) (ku (alO zero42) fun M41 hM42 => ?_)))))))))
  have o43 : M41[M.length]? = some (.live ⟨.box, 42, 2, [[.int .i8 0, .int .i64 0]]⟩) := push_new hM42
  refine kw (stO rfl rfl o43 rfl rfl ⟨rfl, ble rfl⟩ rfl rfl) fun M44 hM45 => ?_
  have o46 : M44[M.length]? = some (.live ⟨.box, 42, 2, [[.int .i8 x38.Kind, .int .i64 x38.Amount]]⟩) := set_same hM45 o43
  obtain ⟨r55, hx54, h⟩ := bind_some h
  refine Rn (hA h32 (hV (.loc M.length 1 0 0) rfl (hA h33 (hA h34 (hA h35 hZ))))) fun e47 h49 h50 h51 h52 h53 => sN (sq (Rg (kx (ldOA h50 o46 rfl rfl (ble rfl) rfl) (kc (cl (v := .bool r55) rfl rfl (cns rfl rfl) rfl (impl_validItem_ok x38 _ hx54) nm) (kx (uNot rfl) (Rn (hA h49 (hA h51 (hA h52 (hA h53 (hN rfl hZ))))) fun e56 h58 h59 h60 h61 h62 => sN ?_))))))
  clear h32 h33 h34 h35 h36 h49 h50 h51 h52 h53
  rcases ite_some h with ⟨hb63, h⟩ | ⟨hb63, h⟩
  ·refine cF h62 (congrArg Bool.not hb63) (xx (bN (sN (Rg (kx (bAdd h61 rfl) (kx (mvO rfl) (Rn (hA h58 (hA h59 (hA h60 (hN rfl hZ)))) fun e64 h66 h67 h68 h69 => ?_)))))))
   clear h58 h59 h60 h62
   obtain rfl := si h
   exact qN ⟨h66, h67, h68, h69⟩
  refine cT h62 (congrArg Bool.not hb63) (sq (Rg (kx (mvO rfl) (Rn (hV (.bool false) rfl hZ) fun e70 h72 => sN (xx (bR (sR ?_)))))))
  clear h58 h59 h60 h61 h62
  obtain rfl := si h
  exact qR ⟨rfl, h72⟩
 refine cF h36 hb37 (xx (sE ?_))
 obtain rfl := si h
 exact qE ⟨rfl, h32⟩
noncomputable def impl_ValidItems (a1 : List Item) : Option Bool :=
 (Lw (impl_ValidItems_b1 a1) 0).bind fun r => match r with
 | (.inl _) =>
  some false
 | (.inr _) =>
  some (decide ((a1.length : Int) ≤ 40))
def impl_ValidItems_enc (r : Bool) : AV := .bool r
theorem impl_ValidItems_ok (a1 : List Item) (r : Bool) (h : impl_ValidItems a1 = some r) : Ev (fun k => CN k 15 [.sl none (a1.map Item.c)] []) (fun p => rRes p.2 p.1 = impl_ValidItems_enc r) := by
 unfold impl_ValidItems at h
 obtain ⟨r73, hr74, h⟩ := bind_some h
 refine Ev.enter (F := fun k => f15 (CN k) k) (fun k => callN_eq rfl Tryd.func15 rfl rfl rfl (by decide +kernel) (f15_eq _ _)) (sq (Rg (kx (mvO rfl) (Rn (hN rfl hZ) fun e1 h3 => sN (sq (sq (Rg (kx (mvO h3) (kx (lnS Tryd.underlying24 rfl) (kx (mvO rfl) (Rn (hA h3 (hN rfl (hN rfl (hV (.int .i64 0) rfl hZ)))) fun e4 h6 h7 h8 h9 => sN (bl ?_))))))))))))
 clear h3
 rcases r73 with _ | _
 ·refine Ev.loop (RS := impl_ValidItems_b1_RS a1) (RR := impl_ValidItems_b1_RR a1) (fun s r h e M hs => impl_ValidItems_b1_ok a1 s r h e M hs) hr74 ⟨h6, h7, h8, h9⟩ fun x e76 M77 hq75 => ?_
  obtain ⟨rfl, h78⟩ := hq75
  refine bR (sR ?_)
  obtain rfl := si h
  exact eR (resT h78 res0) rfl
 refine Ev.loop (RS := impl_ValidItems_b1_RS a1) (RR := impl_ValidItems_b1_RR a1) (fun s r h e M hs => impl_ValidItems_b1_ok a1 s r h e M hs) hr74 ⟨h6, h7, h8, h9⟩ fun x e79 M80 hq75 => ?_
 obtain ⟨rfl, h81⟩ := hq75
 refine bE (sN (sq (Rg (kx (mvO h81) (kx (lnS Tryd.underlying24 rfl) (kx (bLeq rfl rfl) (kx (mvO rfl) (Rn (hN rfl hZ) fun e82 h84 => sN (xx ?_)))))))))
 clear h81
 obtain rfl := si h
 exact eR (resT h84 res0) rfl
/-! ### loop.example/g01263/impl.balance (f44) -/
abbrev impl_balance_b1_S := Int × Int
abbrev impl_balance_b1_R := Int
def impl_balance_b1_RS (a1 : List Item) (s : impl_balance_b1_S) (e : Env) (M : Mem) : Prop := eget e 3 = .int .i64 s.1 ∧ eget e 6 = .sl none (a1.map Item.c) ∧ eget e 7 = .int .i64 (a1.length : Int) ∧ eget e 8 = .int .i64 s.2
def impl_balance_b1_RR (a1 : List Item) (g : impl_balance_b1_R) (x : Ex) (e : Env) (M : Mem) : Prop := x = .ext 0 ∧ eget e 3 = .int .i64 g
noncomputable def impl_balance_b1 (a1 : List Item) : impl_balance_b1_S → Option (impl_balance_b1_S ⊕ impl_balance_b1_R) := fun (s1_1, s1_2) =>
 if (decide (s1_2 < (a1.length : Int))) = true then
  (rd a1 s1_2).bind fun x42 =>
  if (x42.Kind == 0) = true then
   some (.inl ((IntKind.i64.wrap (s1_1 + x42.Amount)), (IntKind.i64.wrap (s1_2 + 1))))
  else
   if (x42.Kind == 1) = true then
    some (.inl ((IntKind.i64.wrap (s1_1 + x42.Amount)), (IntKind.i64.wrap (s1_2 + 1))))
   else
    some (.inl ((IntKind.i64.wrap (s1_1 - x42.Amount)), (IntKind.i64.wrap (s1_2 + 1))))
 else
  some (.inr s1_1)
theorem impl_balance_b1_ok (a1 : List Item) (s : impl_balance_b1_S) (r : impl_balance_b1_S ⊕ impl_balance_b1_R) (h : impl_balance_b1 a1 s = some r) (e : Env) (M : Mem) (hs : impl_balance_b1_RS a1 s e M) : Ev (fun k => (f44_l3 (CN k) k (prune [3, 6, 7, 8] e) M).bind fun q => some q) (bQ (impl_balance_b1_RS a1) (impl_balance_b1_RR a1) r) := by
 obtain ⟨s1_1, s1_2⟩ := s
 unfold impl_balance_b1 at h
 obtain ⟨h26, h28, h30, h32⟩ := hs
 generalize he25 : prune [3, 6, 7, 8] e = e24
 have h27 := envp he25.symm rfl h26
 have h29 := envp he25.symm rfl h28
 have h31 := envp he25.symm rfl h30
 have h33 := envp he25.symm rfl h32
 refine sq (Rg (kx (bLss h33 h31) (Rn (hV (.int .i64 s1_1) h27 (hV (.sl none (a1.map Item.c)) h29 (hV (.int .i64 (a1.length : Int)) h31 (hV (.int .i64 s1_2) h33 (hN rfl hZ))))) fun e34 h36 h37 h38 h39 h40 => sN (sq ?_))))
 clear h27 h29 h31 h33
 rcases ite_some h with ⟨hb41, h⟩ | ⟨hb41, h⟩
 ·obtain ⟨x42, hx43, h⟩ := bind_some h
  refine cT h40 hb41 (xx (sN (sq (bl (sq (Rg (kx (ixS h37 h39 hx43 Item.fl) (kx (ldPA rfl rfl rfl) (ku (alO zero42) fun M45 hM46 => ?_)))))))))
  have o47 : M45[M.length]? = some (.live ⟨.box, 42, 2, [[.int .i8 0, .int .i64 0]]⟩) := push_new hM46
  refine kw (stO rfl rfl o47 rfl rfl ⟨rfl, ble rfl⟩ rfl rfl) fun M48 hM49 => ?_
  have o50 : M48[M.length]? = some (.live ⟨.box, 42, 2, [[.int .i8 x42.Kind, .int .i64 x42.Amount]]⟩) := set_same hM49 o47
  refine Rn (hA h36 (hV (.loc M.length 1 0 0) rfl (hA h37 (hA h38 (hA h39 hZ))))) fun e51 h53 h54 h55 h56 h57 => sN (sq (Rg (kx (faO h54 o50 rfl) (kx (ldO rfl o50 rfl rfl rfl) (kx (bEql rfl rfl) (kx (mvO rfl) ?_))))))
  clear h36 h37 h38 h39 h40
  rcases ite_some h with ⟨hb58, h⟩ | ⟨hb58, h⟩
  ·refine kx (gsF rfl hb58) (kx (gsF rfl hb58) (kx (gsF rfl hb58) (kx (pkT rfl hb58 rfl) (Rn (hA h53 (hA h54 (hA h55 (hA h56 (hA h57 (hV (.bool true) rfl hZ)))))) fun e59 h61 h62 h63 h64 h65 h66 => sN (cT h66 rfl (Rg (kx (mvO h61) (kx (faO h62 o50 rfl) (kx (ldO rfl o50 rfl rfl rfl) (kx (bAdd rfl rfl) (kx (mvO rfl) (Rn (hN rfl (hA h63 (hA h64 (hA h65 hZ)))) fun e67 h69 h70 h71 h72 => bN (sN (Rg (kx (bAdd h72 rfl) (kx (mvO rfl) (Rn (hA h69 (hA h70 (hA h71 (hN rfl hZ)))) fun e73 h75 h76 h77 h78 => ?_)))))))))))))))))
   clear h53 h54 h55 h56 h57 h62 h63 h64 h65 h66 h69 h70 h71
   obtain rfl := si h
   exact qN ⟨h75, h76, h77, h78⟩
  refine kx (guF rfl hb58 (faO h54 o50 rfl)) (kx (guF rfl hb58 (ldO rfl o50 rfl rfl rfl)) (kx (guF rfl hb58 (bEql rfl rfl)) (kx (pkF rfl hb58 rfl) (Rn (hA h53 (hA h54 (hA h55 (hA h56 (hA h57 (hN rfl hZ)))))) fun e79 h81 h82 h83 h84 h85 h86 => sN ?_))))
  clear h53 h54 h55 h56 h57
  rcases ite_some h with ⟨hb87, h⟩ | ⟨hb87, h⟩
  ·refine cT h86 hb87 (Rg (kx (mvO h81) (kx (faO h82 o50 rfl) (kx (ldO rfl o50 rfl rfl rfl) (kx (bAdd rfl rfl) (kx (mvO rfl) (Rn (hN rfl (hA h83 (hA h84 (hA h85 hZ)))) fun e88 h90 h91 h92 h93 => bN (sN (Rg (kx (bAdd h93 rfl) (kx (mvO rfl) (Rn (hA h90 (hA h91 (hA h92 (hN rfl hZ)))) fun e94 h96 h97 h98 h99 => ?_))))))))))))
   clear h82 h83 h84 h85 h86 h90 h91 h92
   obtain rfl := si h
   exact qN ⟨h96, h97, h98, h99⟩
  refine cF h86 hb87 (Rg (kx (mvO h81) (kx (faO h82 o50 rfl) (kx (ldO rfl o50 rfl rfl rfl) (kx (bSub rfl rfl) (kx (mvO rfl) (Rn (hN rfl (hA h83 (hA h84 (hA h85 hZ)))) fun e100 h102 h103 h104 h105 => bN (sN (Rg (kx (bAdd h105 rfl) (kx (mvO rfl) (Rn (hA h102 (hA h103 (hA h104 (hN rfl hZ)))) fun e106 h108 h109 h110 h111 => ?_))))))))))))
  clear h82 h83 h84 h85 h86 h102 h103 h104
  obtain rfl := si h
  exact qN ⟨h108, h109, h110, h111⟩
 refine cF h40 hb41 (xx (sE ?_))
 obtain rfl := si h
 exact qE ⟨rfl, h36⟩
noncomputable def impl_balance (a1 : List Item) : Option Int :=
 (Lw (impl_balance_b1 a1) (0, 0)).bind fun y117 =>
 some y117
def impl_balance_enc (r : Int) : AV := .int .i64 r
theorem impl_balance_ok (a1 : List Item) (r : Int) (h : impl_balance a1 = some r) : Ev (fun k => CN k 44 [.sl none (a1.map Item.c)] []) (fun p => rRes p.2 p.1 = impl_balance_enc r) := by
 unfold impl_balance at h
 obtain ⟨y117, hr113, h⟩ := bind_some h
 refine Ev.enter (F := fun k => f44 (CN k) k) (fun k => callN_eq rfl Tryd.func44 rfl rfl rfl (by decide +kernel) (f44_eq _ _)) (sq (Rg (kx (mvO rfl) (Rn (hN rfl hZ) fun e1 h3 => sN (sq (Rg (kx (mvO rfl) (Rn (hA h3 (hV (.int .i64 0) rfl hZ)) fun e4 h6 h7 => sN (sq (sq (Rg (kx (mvO h6) (kx (lnS Tryd.underlying24 rfl) (kx (mvO rfl) (Rn (hA h7 (hN rfl (hN rfl (hV (.int .i64 0) rfl hZ)))) fun e8 h10 h11 h12 h13 => sN (bl (Ev.loop (RS := impl_balance_b1_RS a1) (RR := impl_balance_b1_RR a1) (fun s r h e M hs => impl_balance_b1_ok a1 s r h e M hs) hr113 ⟨h10, h11, h12, h13⟩ fun x e115 M116 hq114 => ?_)))))))))))))))))
 clear h3 h6 h7
 obtain ⟨rfl, h118⟩ := hq114
 refine bE (sN (sq (Rg (kx (mvO h118) (kx (mvO rfl) (Rn (hN rfl hZ) fun e119 h121 => sN (xx ?_)))))))
 clear h118
 obtain rfl := si h
 exact eR (resT h121 res0) rfl
/-! ### loop.example/g01263/impl.CheckAccount (f14) -/
noncomputable def impl_CheckAccount (a1 : Account) : Option Bool :=
 (impl_isLetters a1.Title 16).bind fun r5 =>
 if r5 = true then
  (impl_ValidItems a1.Items).bind fun r8 =>
  if r8 = true then
   (impl_balance a1.Items).bind fun r11 =>
   some (a1.Balance == r11)
  else
   some false
 else
  some false
def impl_CheckAccount_enc (r : Bool) : AV := .bool r
theorem impl_CheckAccount_ok (a1 : Account) (r : Bool) (h : impl_CheckAccount a1 = some r) : Ev (fun k => CN k 14 [.agg [.str a1.Title, .sl none (a1.Items.map Item.c), .int .i64 a1.Balance]] []) (fun p => rRes p.2 p.1 = impl_CheckAccount_enc r) := by
 unfold impl_CheckAccount at h
 obtain ⟨r5, hx4, h⟩ := bind_some h
 refine Ev.enter (F := fun k => f14 (CN k) k) (fun k => callN_eq rfl Tryd.func14 rfl rfl rfl (by decide +kernel) (f14_eq _ _)) (sq (Rg (kx (bxI rfl rfl ⟨rfl, rfl, by decide⟩) (kx (mvO rfl) (Rn (hN rfl hZ) fun e1 h3 => sN (sq (Rd (kf (faP h3 ⟨ble rfl, blt rfl⟩ rfl) (kf (ldP rfl rfl) (fc (cl (v := .bool r5) rfl rfl (cns rfl (cns rfl rfl)) rfl (impl_isLetters_ok a1.Title 16 _ hx4) nm) (kf (mvO rfl) ?_)))))))))))
 rcases ite_some h with ⟨hb6, h⟩ | ⟨hb6, h⟩
 ·obtain ⟨r8, hx7, h⟩ := bind_some h
  refine kf (guT rfl hb6 (faP h3 ⟨ble rfl, blt rfl⟩ rfl)) (kf (guT rfl hb6 (ldP rfl rfl)) (fc (Ev.guT rfl hb6 (cl (v := .bool r8) rfl rfl (cns rfl rfl) rfl (impl_ValidItems_ok a1.Items _ hx7) nm)) (kf (pkT rfl hb6 rfl) (kf (mvO rfl) ?_))))
  rcases ite_some h with ⟨hb9, h⟩ | ⟨hb9, h⟩
  ·obtain ⟨r11, hx10, h⟩ := bind_some h
   refine kf (guT rfl hb9 (faP h3 ⟨ble rfl, blt rfl⟩ rfl)) (kf (guT rfl hb9 (ldP rfl rfl)) (kf (guT rfl hb9 (faP h3 ⟨ble rfl, blt rfl⟩ rfl)) (kf (guT rfl hb9 (ldP rfl rfl)) (fc (Ev.guT rfl hb9 (cl (v := .int .i64 r11) rfl rfl (cns rfl rfl) rfl (impl_balance_ok a1.Items _ hx10) nm)) (kf (guT rfl hb9 (bEql rfl rfl)) (kf (pkT rfl hb9 rfl) (kf (mvO rfl) (fZ (Rn (hN rfl hZ) fun e12 h14 => sN (xx ?_))))))))))
   clear h3
   obtain rfl := si h
   exact eR (resT h14 res0) rfl
  refine kf (gsT rfl hb9) (kf (gsT rfl hb9) (kf (gsT rfl hb9) (kf (gsT rfl hb9) (fc (Ev.gsT rfl hb9) (kf (gsT rfl hb9) (kf (pkF rfl hb9 rfl) (kf (mvO rfl) (fZ (Rn (hV (.bool false) rfl hZ) fun e15 h17 => sN (xx ?_))))))))))
  clear h3
  obtain rfl := si h
  exact eR (resT h17 res0) rfl
 refine kf (gsT rfl hb6) (kf (gsT rfl hb6) (fc (Ev.gsT rfl hb6) (kf (pkF rfl hb6 rfl) (kf (mvO rfl) (kf (gsT rfl rfl) (kf (gsT rfl rfl) (kf (gsT rfl rfl) (kf (gsT rfl rfl) (fc (Ev.gsT rfl rfl) (kf (gsT rfl rfl) (kf (pkF rfl rfl rfl) (kf (mvO rfl) (fZ (Rn (hV (.bool false) rfl hZ) fun e18 h20 => sN (xx ?_)))))))))))))))
 clear h3
 obtain rfl := si h
 exact eR (resT h20 res0) rfl
/-! ### loop.example/g01263/impl.hasTitle$1 (f110) -/
noncomputable def impl_hasTitle_1 (a1 : Account) (a2 : List UInt8) : Option Bool :=
 some (a1.Title == a2)
def impl_hasTitle_1_enc (r : Bool) : AV := .bool r
theorem impl_hasTitle_1_ok (a1 : Account) (a2 : List UInt8) (r : Bool) (h : impl_hasTitle_1 a1 a2 = some r) : Ev (fun k => CN k 110 [.agg [.str a1.Title, .sl none (a1.Items.map Item.c), .int .i64 a1.Balance], .pt none [.str a2]] []) (fun p => rRes p.2 p.1 = impl_hasTitle_1_enc r) := by
 unfold impl_hasTitle_1 at h
 refine Ev.enter (F := fun k => f110 (CN k) k) (fun k => callN_eq rfl Tryd.func110 rfl rfl rfl (by decide +kernel) (f110_eq _ _)) (sq (Rg (kx (bxI rfl rfl ⟨rfl, rfl, by decide⟩) (kx (mvO rfl) (Rn (hN rfl (hN rfl hZ)) fun e1 h3 h4 => sN (sq (Rg (kx (faP h4 ⟨ble rfl, blt rfl⟩ rfl) (kx (ldP rfl rfl) (kx (ldP h3 rfl) (kx (sEql rfl rfl) (kx (mvO rfl) (Rn (hN rfl hZ) fun e5 h7 => sN (xx ?_))))))))))))))
 clear h3 h4
 obtain rfl := si h
 exact eR (resT h7 res0) rfl
/-! ### slices.IndexFunc[[]loop.example/g01263/impl.Account,loop.example/g01263/impl.Account] (f80) -/
abbrev slices_IndexFunc_Account__impl_hasTitle_1_b1_S := Int
abbrev slices_IndexFunc_Account__impl_hasTitle_1_b1_R := Int ⊕ Unit
def slices_IndexFunc_Account__impl_hasTitle_1_b1_RS (a1 : List Account) (a2 : List UInt8) (s : slices_IndexFunc_Account__impl_hasTitle_1_b1_S) (e : Env) (M : Mem) : Prop := eget e 0 = .sl none (a1.map Account.c) ∧ eget e 1 = .fn 110 [.pt none [.str a2]] ∧ eget e 7 = .int .i64 (a1.length : Int) ∧ eget e 8 = .int .i64 s
def slices_IndexFunc_Account__impl_hasTitle_1_b1_RR (a1 : List Account) (a2 : List UInt8) (r : slices_IndexFunc_Account__impl_hasTitle_1_b1_R) (x : Ex) (e : Env) (M : Mem) : Prop :=
  match r with
  | (.inl g) => x = .ret ∧ eget e 4 = .int .i64 g
  | (.inr g) => x = .ext 0 ∧ True
noncomputable def slices_IndexFunc_Account__impl_hasTitle_1_b1 (a1 : List Account) (a2 : List UInt8) : slices_IndexFunc_Account__impl_hasTitle_1_b1_S → Option (slices_IndexFunc_Account__impl_hasTitle_1_b1_S ⊕ slices_IndexFunc_Account__impl_hasTitle_1_b1_R) := fun s1_1 =>
 if (decide (s1_1 < (a1.length : Int))) = true then
  (rd a1 s1_1).bind fun x46 =>
  (impl_hasTitle_1 x46 a2).bind fun r49 =>
  if r49 = true then
   some (.inr (.inl s1_1))
  else
   some (.inl (IntKind.i64.wrap (s1_1 + 1)))
 else
  some (.inr (.inr ()))
theorem slices_IndexFunc_Account__impl_hasTitle_1_b1_ok (a1 : List Account) (a2 : List UInt8) (s : slices_IndexFunc_Account__impl_hasTitle_1_b1_S) (r : slices_IndexFunc_Account__impl_hasTitle_1_b1_S ⊕ slices_IndexFunc_Account__impl_hasTitle_1_b1_R) (h : slices_IndexFunc_Account__impl_hasTitle_1_b1 a1 a2 s = some r) (e : Env) (M : Mem) (hs : slices_IndexFunc_Account__impl_hasTitle_1_b1_RS a1 a2 s e M) : Ev (fun k => (f80_l2 (CN k) k (prune [0, 1, 7, 8] e) M).bind fun q => some q) (bQ (slices_IndexFunc_Account__impl_hasTitle_1_b1_RS a1 a2) (slices_IndexFunc_Account__impl_hasTitle_1_b1_RR a1 a2) r) := by
 revert h hs
 revert s
 intro s1_1 h hs
 unfold slices_IndexFunc_Account__impl_hasTitle_1_b1 at h
 obtain ⟨h23, h25, h27, h29⟩ := hs
 generalize he22 : prune [0, 1, 7, 8] e = e21
 have h24 := envp he22.symm rfl h23
 have h26 := envp he22.symm rfl h25
 have h28 := envp he22.symm rfl h27
 have h30 := envp he22.symm rfl h29
 refine sq (Rg (kx (bLss h30 h28) (Rn (hV (.sl none (a1.map Account.c)) h24 (hV (.fn 110 [.pt none [.str a2]]) h26 (hA h28 (hV (.int .i64 s1_1) h30 (hN rfl hZ))))) fun e31 h33 h34 h35 h36 h37 => sN (sq ?_))))
 clear h24 h26 h28 h30
 rcases ite_some h with ⟨hb38, h⟩ | ⟨hb38, h⟩
 ·obtain ⟨x46, hx47, h⟩ := bind_some h
  obtain ⟨r49, hx48, h⟩ := bind_some h
  refine cT h37 hb38 (xx (sN (sq (bl (sq (Rg (kx (mvO h36) (kx (mvO rfl) (Rn (hA h33 (hA h34 (hN rfl (hA h35 (hA h36 hZ))))) fun e39 h41 h42 h43 h44 h45 => sN (sq (Rg (kx (mvO h42) (kx (mvO h41) (kx (mvO h43) (kx (ixS rfl rfl hx47 Account.fl) (kx (ldPA rfl rfl rfl) (kc (cl (v := .bool r49) rfl rfl (cns rfl (cns rfl rfl)) rfl (impl_hasTitle_1_ok x46 a2 _ hx48) nm) (Rn (hA h41 (hA h42 (hA h43 (hA h44 (hA h45 (hN rfl hZ)))))) fun e50 h52 h53 h54 h55 h56 h57 => sN ?_))))))))))))))))))
  clear h33 h34 h35 h36 h37 h41 h42 h43 h44 h45
  rcases ite_some h with ⟨hb58, h⟩ | ⟨hb58, h⟩
  ·refine cT h57 hb58 (sq (Rg (kx (mvO h54) (kx (mvO rfl) (Rn (hN rfl hZ) fun e59 h61 => sN (xx (bR (sR ?_))))))))
   clear h52 h53 h54 h55 h56 h57
   obtain rfl := si h
   exact qR ⟨rfl, h61⟩
  refine cF h57 hb58 (xx (bN (sN (Rg (kx (bAdd h56 rfl) (kx (mvO rfl) (Rn (hA h52 (hA h53 (hA h55 (hN rfl hZ)))) fun e62 h64 h65 h66 h67 => ?_)))))))
  clear h52 h53 h54 h55 h57
  obtain rfl := si h
  exact qN ⟨h64, h65, h66, h67⟩
 refine cF h37 hb38 (xx (sE ?_))
 obtain rfl := si h
 exact qE ⟨rfl, trivial⟩
noncomputable def slices_IndexFunc_Account__impl_hasTitle_1 (a1 : List Account) (a2 : List UInt8) : Option Int :=
 (Lw (slices_IndexFunc_Account__impl_hasTitle_1_b1 a1 a2) 0).bind fun r => match r with
 | (.inl y73) =>
  some y73
 | (.inr _) =>
  some (-1)
def slices_IndexFunc_Account__impl_hasTitle_1_enc (r : Int) : AV := .int .i64 r
theorem slices_IndexFunc_Account__impl_hasTitle_1_ok (a1 : List Account) (a2 : List UInt8) (r : Int) (h : slices_IndexFunc_Account__impl_hasTitle_1 a1 a2 = some r) : Ev (fun k => CN k 80 [.sl none (a1.map Account.c), .fn 110 [.pt none [.str a2]]] []) (fun p => rRes p.2 p.1 = slices_IndexFunc_Account__impl_hasTitle_1_enc r) := by
 unfold slices_IndexFunc_Account__impl_hasTitle_1 at h
 obtain ⟨r68, hr69, h⟩ := bind_some h
 refine Ev.enter (F := fun k => f80 (CN k) k) (fun k => callN_eq rfl Tryd.func80 rfl rfl rfl (by decide +kernel) (f80_eq _ _)) (sq (Rg (kx (mvO rfl) (Rn (hN rfl (hV (.fn 110 [.pt none [.str a2]]) rfl hZ)) fun e1 h3 h4 => sN (sq (sq (Rg (kx (mvO h3) (kx (lnS Tryd.underlying72 rfl) (kx (mvO rfl) (Rn (hA h3 (hA h4 (hN rfl (hV (.int .i64 0) rfl hZ)))) fun e5 h7 h8 h9 h10 => sN (bl ?_))))))))))))
 clear h3 h4
 rcases r68 with y73 | _
 ·refine Ev.loop (RS := slices_IndexFunc_Account__impl_hasTitle_1_b1_RS a1 a2) (RR := slices_IndexFunc_Account__impl_hasTitle_1_b1_RR a1 a2) (fun s r h e M hs => slices_IndexFunc_Account__impl_hasTitle_1_b1_ok a1 a2 s r h e M hs) hr69 ⟨h7, h8, h9, h10⟩ fun x e71 M72 hq70 => ?_
  obtain ⟨rfl, h74⟩ := hq70
  refine bR (sR ?_)
  obtain rfl := si h
  exact eR (resT h74 res0) rfl
 refine Ev.loop (RS := slices_IndexFunc_Account__impl_hasTitle_1_b1_RS a1 a2) (RR := slices_IndexFunc_Account__impl_hasTitle_1_b1_RR a1 a2) (fun s r h e M hs => slices_IndexFunc_Account__impl_hasTitle_1_b1_ok a1 a2 s r h e M hs) hr69 ⟨h7, h8, h9, h10⟩ fun x e75 M76 hq70 => ?_
 obtain ⟨rfl, _⟩ := hq70
 refine bE (sN (sq (Rg (kx (mvO rfl) (Rn (hV (.int .i64 (-1)) rfl hZ) fun e77 h79 => sN (xx ?_))))))
 obtain rfl := si h
 exact eR (resT h79 res0) rfl
/-! ### slices.ContainsFunc[[]loop.example/g01263/impl.Account,loop.example/g01263/impl.Account] (f109) -/
noncomputable def slices_ContainsFunc_Account__impl_hasTitle_1 (a1 : List Account) (a2 : List UInt8) : Option Bool :=
 (slices_IndexFunc_Account__impl_hasTitle_1 a1 a2).bind fun r6 =>
 some (decide (r6 ≥ 0))
def slices_ContainsFunc_Account__impl_hasTitle_1_enc (r : Bool) : AV := .bool r
theorem slices_ContainsFunc_Account__impl_hasTitle_1_ok (a1 : List Account) (a2 : List UInt8) (r : Bool) (h : slices_ContainsFunc_Account__impl_hasTitle_1 a1 a2 = some r) : Ev (fun k => CN k 109 [.sl none (a1.map Account.c), .fn 110 [.pt none [.str a2]]] []) (fun p => rRes p.2 p.1 = slices_ContainsFunc_Account__impl_hasTitle_1_enc r) := by
 unfold slices_ContainsFunc_Account__impl_hasTitle_1 at h
 obtain ⟨r6, hx5, h⟩ := bind_some h
 refine Ev.enter (F := fun k => f109 (CN k) k) (fun k => callN_eq rfl Tryd.func109 rfl rfl rfl (by decide +kernel) (f109_eq _ _)) (sq (Rg (kx (mvO rfl) (Rn (hN rfl (hV (.fn 110 [.pt none [.str a2]]) rfl hZ)) fun e1 h3 h4 => sN (sq (Rg (kx (mvO h3) (kx (mvO h4) (kc (cl (v := .int .i64 r6) rfl rfl (cns rfl (cns rfl rfl)) rfl (slices_IndexFunc_Account__impl_hasTitle_1_ok a1 a2 _ hx5) nm) (kx (bGeq rfl rfl) (kx (mvO rfl) (Rn (hN rfl hZ) fun e7 h9 => sN (xx ?_)))))))))))))
 clear h3 h4
 obtain rfl := si h
 exact eR (resT h9 res0) rfl
/-! ### loop.example/g01263/impl.hasTitle (f75) -/
noncomputable def impl_hasTitle (a1 : List Account) (a2 : List UInt8) : Option Bool :=
 (slices_ContainsFunc_Account__impl_hasTitle_1 a1 a2).bind fun r6 =>
 some r6
def impl_hasTitle_enc (r : Bool) : AV := .bool r
theorem impl_hasTitle_ok (a1 : List Account) (a2 : List UInt8) (r : Bool) (h : impl_hasTitle a1 a2 = some r) : Ev (fun k => CN k 75 [.sl none (a1.map Account.c), .str a2] []) (fun p => rRes p.2 p.1 = impl_hasTitle_enc r) := by
 unfold impl_hasTitle at h
 obtain ⟨r6, hx5, h⟩ := bind_some h
 refine Ev.enter (F := fun k => f75 (CN k) k) (fun k => callN_eq rfl Tryd.func75 rfl rfl rfl (by decide +kernel) (f75_eq _ _)) (sq (Rg (kx (bxI rfl rfl ⟨rfl, rfl, by decide⟩) (kx (mvO rfl) (Rn (hN rfl (hN rfl hZ)) fun e1 h3 h4 => sN (sq (Rg (kx (mvO h3) (kx (mvO (congrArg (AV.fn 110) (cns h4 rfl))) (kc (cl (v := .bool r6) rfl rfl (cns rfl (cns rfl rfl)) rfl (slices_ContainsFunc_Account__impl_hasTitle_1_ok a1 a2 _ hx5) nm) (kx (mvO rfl) (Rn (hN rfl hZ) fun e7 h9 => sN (xx ?_)))))))))))))
 clear h3 h4
 obtain rfl := si h
 exact eR (resT h9 res0) rfl
/-! ### loop.example/g01263/impl.owed (f74) -/
abbrev impl_owed_b1_S := Int × Int
abbrev impl_owed_b1_R := Int
def impl_owed_b1_RS (a1 : List Account) (s : impl_owed_b1_S) (e : Env) (M : Mem) : Prop := eget e 3 = .int .i64 s.1 ∧ eget e 6 = .sl none (a1.map Account.c) ∧ eget e 7 = .int .i64 (a1.length : Int) ∧ eget e 8 = .int .i64 s.2
def impl_owed_b1_RR (a1 : List Account) (g : impl_owed_b1_R) (x : Ex) (e : Env) (M : Mem) : Prop := x = .ext 0 ∧ eget e 3 = .int .i64 g
noncomputable def impl_owed_b1 (a1 : List Account) : impl_owed_b1_S → Option (impl_owed_b1_S ⊕ impl_owed_b1_R) := fun (s1_1, s1_2) =>
 if (decide (s1_2 < (a1.length : Int))) = true then
  (rd a1 s1_2).bind fun x42 =>
  some (.inl ((IntKind.i64.wrap (s1_1 + (max x42.Balance 0))), (IntKind.i64.wrap (s1_2 + 1))))
 else
  some (.inr s1_1)
theorem impl_owed_b1_ok (a1 : List Account) (s : impl_owed_b1_S) (r : impl_owed_b1_S ⊕ impl_owed_b1_R) (h : impl_owed_b1 a1 s = some r) (e : Env) (M : Mem) (hs : impl_owed_b1_RS a1 s e M) : Ev (fun k => (f74_l3 (CN k) k (prune [3, 6, 7, 8] e) M).bind fun q => some q) (bQ (impl_owed_b1_RS a1) (impl_owed_b1_RR a1) r) := by
 obtain ⟨s1_1, s1_2⟩ := s
 unfold impl_owed_b1 at h
 obtain ⟨h26, h28, h30, h32⟩ := hs
 generalize he25 : prune [3, 6, 7, 8] e = e24
 have h27 := envp he25.symm rfl h26
 have h29 := envp he25.symm rfl h28
 have h31 := envp he25.symm rfl h30
 have h33 := envp he25.symm rfl h32
 refine sq (Rg (kx (bLss h33 h31) (Rn (hV (.int .i64 s1_1) h27 (hV (.sl none (a1.map Account.c)) h29 (hV (.int .i64 (a1.length : Int)) h31 (hV (.int .i64 s1_2) h33 (hN rfl hZ))))) fun e34 h36 h37 h38 h39 h40 => sN (sq ?_))))
 clear h27 h29 h31 h33
 rcases ite_some h with ⟨hb41, h⟩ | ⟨hb41, h⟩
 ·obtain ⟨x42, hx43, h⟩ := bind_some h
  refine cT h40 hb41 (xx (sN (sq (bl (sq (Rg (kx (ixS h37 h39 hx43 Account.fl) (kx (ldPA rfl rfl rfl) (ku (alO zero27) fun M45 hM46 => ?_)))))))))
  have o47 : M45[M.length]? = some (.live ⟨.box, 27, 3, [[.str ([] : List UInt8), .nils, .int .i64 0]]⟩) := push_new hM46
  refine kw (stO rfl rfl o47 rfl rfl ⟨rfl, ble rfl⟩ rfl rfl) fun M48 hM49 => ?_
  have o50 : M48[M.length]? = some (.live ⟨.box, 27, 3, [[.str x42.Title, .sl none (x42.Items.map Item.c), .int .i64 x42.Balance]]⟩) := set_same hM49 o47
  refine Rn (hA h36 (hV (.loc M.length 1 0 0) rfl (hA h37 (hA h38 (hA h39 hZ))))) fun e51 h53 h54 h55 h56 h57 => sN (Rg (kx (mvO h53) (kx (faO h54 o50 rfl) (kx (ldO rfl o50 rfl rfl rfl) (kx (bMax rfl rfl) (kx (bAdd rfl rfl) (kx (mvO rfl) (Rn (hN rfl (hA h55 (hA h56 (hA h57 hZ)))) fun e58 h60 h61 h62 h63 => bN (sN (Rg (kx (bAdd h63 rfl) (kx (mvO rfl) (Rn (hA h60 (hA h61 (hA h62 (hN rfl hZ)))) fun e64 h66 h67 h68 h69 => ?_)))))))))))))
  clear h36 h37 h38 h39 h40 h54 h55 h56 h57 h60 h61 h62
  obtain rfl := si h
  exact qN ⟨h66, h67, h68, h69⟩
 refine cF h40 hb41 (xx (sE ?_))
 obtain rfl := si h
 exact qE ⟨rfl, h36⟩
noncomputable def impl_owed (a1 : List Account) : Option Int :=
 (Lw (impl_owed_b1 a1) (0, 0)).bind fun y75 =>
 some y75
def impl_owed_enc (r : Int) : AV := .int .i64 r
theorem impl_owed_ok (a1 : List Account) (r : Int) (h : impl_owed a1 = some r) : Ev (fun k => CN k 74 [.sl none (a1.map Account.c)] []) (fun p => rRes p.2 p.1 = impl_owed_enc r) := by
 unfold impl_owed at h
 obtain ⟨y75, hr71, h⟩ := bind_some h
 refine Ev.enter (F := fun k => f74 (CN k) k) (fun k => callN_eq rfl Tryd.func74 rfl rfl rfl (by decide +kernel) (f74_eq _ _)) (sq (Rg (kx (mvO rfl) (Rn (hN rfl hZ) fun e1 h3 => sN (sq (Rg (kx (mvO rfl) (Rn (hA h3 (hV (.int .i64 0) rfl hZ)) fun e4 h6 h7 => sN (sq (sq (Rg (kx (mvO h6) (kx (lnS Tryd.underlying72 rfl) (kx (mvO rfl) (Rn (hA h7 (hN rfl (hN rfl (hV (.int .i64 0) rfl hZ)))) fun e8 h10 h11 h12 h13 => sN (bl (Ev.loop (RS := impl_owed_b1_RS a1) (RR := impl_owed_b1_RR a1) (fun s r h e M hs => impl_owed_b1_ok a1 s r h e M hs) hr71 ⟨h10, h11, h12, h13⟩ fun x e73 M74 hq72 => ?_)))))))))))))))))
 clear h3 h6 h7
 obtain ⟨rfl, h76⟩ := hq72
 refine bE (sN (sq (Rg (kx (mvO h76) (kx (mvO rfl) (Rn (hN rfl hZ) fun e77 h79 => sN (xx ?_)))))))
 clear h76
 obtain rfl := si h
 exact eR (resT h79 res0) rfl
/-! ### loop.example/g01263/impl.FirstFault (f34) -/
abbrev impl_FirstFault_b1_S := Int
abbrev impl_FirstFault_b1_R := Int ⊕ Unit
def impl_FirstFault_b1_RS (a1 : Roll) (s : impl_FirstFault_b1_S) (e : Env) (M : Mem) : Prop := eget e 1 = .pt none [.sl none (a1.Accounts.map Account.c), .int .i64 a1.Owed] ∧ eget e 11 = .sl none (a1.Accounts.map Account.c) ∧ eget e 12 = .int .i64 (a1.Accounts.length : Int) ∧ eget e 13 = .int .i64 s
def impl_FirstFault_b1_RR (a1 : Roll) (r : impl_FirstFault_b1_R) (x : Ex) (e : Env) (M : Mem) : Prop :=
  match r with
  | (.inl g) => x = .ret ∧ eget e 2 = .int .i64 g ∧ eget e 3 = .int .i64 0
  | (.inr g) => x = .ext 0 ∧ eget e 1 = .pt none [.sl none (a1.Accounts.map Account.c), .int .i64 a1.Owed]
noncomputable def impl_FirstFault_b1 (a1 : Roll) : impl_FirstFault_b1_S → Option (impl_FirstFault_b1_S ⊕ impl_FirstFault_b1_R) := fun s1_1 =>
 if (decide (s1_1 < (a1.Accounts.length : Int))) = true then
  (rd a1.Accounts s1_1).bind fun x47 =>
  (impl_CheckAccount x47).bind fun r65 =>
  if r65 = true then
   (slc a1.Accounts 0 s1_1).bind fun x67 =>
   (impl_hasTitle x67 x47.Title).bind fun r70 =>
   if r70 = true then
    some (.inr (.inl s1_1))
   else
    some (.inl (IntKind.i64.wrap (s1_1 + 1)))
  else
   some (.inr (.inl s1_1))
 else
  some (.inr (.inr ()))
theorem impl_FirstFault_b1_ok (a1 : Roll) (s : impl_FirstFault_b1_S) (r : impl_FirstFault_b1_S ⊕ impl_FirstFault_b1_R) (h : impl_FirstFault_b1 a1 s = some r) (e : Env) (M : Mem) (hs : impl_FirstFault_b1_RS a1 s e M) : Ev (fun k => (f34_l4 (CN k) k (prune [1, 11, 12, 13] e) M).bind fun q => some q) (bQ (impl_FirstFault_b1_RS a1) (impl_FirstFault_b1_RR a1) r) := by
 revert h hs
 revert s
 intro s1_1 h hs
 unfold impl_FirstFault_b1 at h
 obtain ⟨h31, h33, h35, h37⟩ := hs
 generalize he30 : prune [1, 11, 12, 13] e = e29
 have h32 := envp he30.symm rfl h31
 have h34 := envp he30.symm rfl h33
 have h36 := envp he30.symm rfl h35
 have h38 := envp he30.symm rfl h37
 refine sq (Rg (kx (bLss h38 h36) (Rn (hV (.pt none [.sl none (a1.Accounts.map Account.c), .int .i64 a1.Owed]) h32 (hV (.sl none (a1.Accounts.map Account.c)) h34 (hV (.int .i64 (a1.Accounts.length : Int)) h36 (hV (.int .i64 s1_1) h38 (hN rfl hZ))))) fun e39 h41 h42 h43 h44 h45 => sN (sq ?_))))
 clear h32 h34 h36 h38
 rcases ite_some h with ⟨hb46, h⟩ | ⟨hb46, h⟩
 ·obtain ⟨x47, hx48, h⟩ := bind_some h
  refine cT h45 hb46 (xx (sN (sq (bl (sq (Rg (kx (mvO h44) (kx (ixS h42 h44 hx48 Account.fl) (kx (ldPA rfl rfl rfl) (ku (alO zero27) fun M50 hM51 => ?_))))))))))
  have o52 : M50[M.length]? = some (.live ⟨.box, 27, 3, [[.str ([] : List UInt8), .nils, .int .i64 0]]⟩) := push_new hM51
  refine kx (mvO rfl) (kw (stO rfl rfl o52 rfl rfl ⟨rfl, ble rfl⟩ rfl rfl) fun M53 hM54 => ?_)
  have o55 : M53[M.length]? = some (.live ⟨.box, 27, 3, [[.str x47.Title, .sl none (x47.Items.map Item.c), .int .i64 x47.Balance]]⟩) := set_same hM54 o52
  obtain ⟨r65, hx64, h⟩ := bind_some h
  refine Rn (hA h41 (hN rfl (hV (.loc M.length 1 0 0) rfl (hA h42 (hA h43 (hA h44 hZ)))))) fun e56 h58 h59 h60 h61 h62 h63 => sN (sq (Rd (kf (ldOA h60 o55 rfl rfl (ble rfl) rfl) (fc (cl (v := .bool r65) rfl rfl (cns rfl rfl) rfl (impl_CheckAccount_ok x47 _ hx64) nm) (kf (uNot rfl) (kf (mvO rfl) ?_))))))
  clear h41 h42 h43 h44 h45
  rcases ite_some h with ⟨hb66, h⟩ | ⟨hb66, h⟩
  ·obtain ⟨x67, hx68, h⟩ := bind_some h
   obtain ⟨r70, hx69, h⟩ := bind_some h
   refine kf (guF rfl (congrArg Bool.not hb66) (faP h58 ⟨ble rfl, blt rfl⟩ rfl)) (kf (guF rfl (congrArg Bool.not hb66) (ldP rfl rfl)) (kf (guF rfl (congrArg Bool.not hb66) (mvO h59)) (kf (guF rfl (congrArg Bool.not hb66) (slS rfl rfl (bnd1 rfl) hx68 Account.fl)) (kf (guF rfl (congrArg Bool.not hb66) (faO h60 o55 rfl)) (kf (guF rfl (congrArg Bool.not hb66) (ldO rfl o55 rfl rfl rfl)) (fc (Ev.guF rfl (congrArg Bool.not hb66) (cl (v := .bool r70) rfl rfl (cns rfl (cns rfl rfl)) rfl (impl_hasTitle_ok x67 x47.Title _ hx69) nm)) (kf (pkF rfl (congrArg Bool.not hb66) rfl) (fZ (Rn (hA h58 (hA h59 (hA h61 (hA h62 (hA h63 (hN rfl hZ)))))) fun e71 h73 h74 h75 h76 h77 h78 => sN ?_)))))))))
   clear h58 h59 h60 h61 h62 h63
   rcases ite_some h with ⟨hb79, h⟩ | ⟨hb79, h⟩
   ·refine cT h78 hb79 (sq (Rg (kx (mvO h74) (kx (mvO rfl) (kx (mvO rfl) (Rn (hN rfl (hV (.int .i64 0) rfl hZ)) fun e80 h82 h83 => sN (xx (bR (sR ?_)))))))))
    clear h73 h74 h75 h76 h77 h78
    obtain rfl := si h
    exact qR ⟨rfl, h82, h83⟩
   refine cF h78 hb79 (xx (bN (sN (Rg (kx (bAdd h77 rfl) (kx (mvO rfl) (Rn (hA h73 (hA h75 (hA h76 (hN rfl hZ)))) fun e84 h86 h87 h88 h89 => ?_)))))))
   clear h73 h74 h75 h76 h78
   obtain rfl := si h
   exact qN ⟨h86, h87, h88, h89⟩
  refine kf (gsF rfl (congrArg Bool.not hb66)) (kf (gsF rfl (congrArg Bool.not hb66)) (kf (gsF rfl (congrArg Bool.not hb66)) (kf (gsF rfl (congrArg Bool.not hb66)) (kf (gsF rfl (congrArg Bool.not hb66)) (kf (gsF rfl (congrArg Bool.not hb66)) (fc (Ev.gsF rfl (congrArg Bool.not hb66)) (kf (pkT rfl (congrArg Bool.not hb66) rfl) (fZ (Rn (hA h58 (hA h59 (hA h61 (hA h62 (hA h63 (hV (.bool true) rfl hZ)))))) fun e90 h92 h93 h94 h95 h96 h97 => sN (cT h97 rfl (sq (Rg (kx (mvO h93) (kx (mvO rfl) (kx (mvO rfl) (Rn (hN rfl (hV (.int .i64 0) rfl hZ)) fun e98 h100 h101 => sN (xx (bR (sR ?_)))))))))))))))))))
  clear h58 h59 h60 h61 h62 h63 h92 h93 h94 h95 h96 h97
  obtain rfl := si h
  exact qR ⟨rfl, h100, h101⟩
 refine cF h45 hb46 (xx (sE ?_))
 obtain rfl := si h
 exact qE ⟨rfl, h41⟩
noncomputable def impl_FirstFault (a1 : Roll) : Option (Int × Int) :=
 if (decide ((a1.Accounts.length : Int) > 20)) = true then
  some (0, 3)
 else
  (Lw (impl_FirstFault_b1 a1) 0).bind fun r => match r with
  | (.inl y107) =>
   some (y107, 0)
  | (.inr _) =>
   (impl_owed a1.Accounts).bind fun r114 =>
   if (a1.Owed != r114) = true then
    some ((a1.Accounts.length : Int), 0)
   else
    some (0, 6)
def impl_FirstFault_enc (r : Int × Int) : AV := .tup [.int .i64 r.1, .int .i64 r.2]
theorem impl_FirstFault_ok (a1 : Roll) (r : Int × Int) (h : impl_FirstFault a1 = some r) : Ev (fun k => CN k 34 [.agg [.sl none (a1.Accounts.map Account.c), .int .i64 a1.Owed]] []) (fun p => rRes p.2 p.1 = impl_FirstFault_enc r) := by
 unfold impl_FirstFault at h
 refine Ev.enter (F := fun k => f34 (CN k) k) (fun k => callN_eq rfl Tryd.func34 rfl rfl rfl (by decide +kernel) (f34_eq _ _)) (sq (Rg (kx (bxI rfl rfl ⟨rfl, rfl, by decide⟩) (kx (mvO rfl) (kx (mvO rfl) (Rn (hN rfl hZ) fun e1 h3 => sN (sq (sq (Rg (kx (faP h3 ⟨ble rfl, blt rfl⟩ rfl) (kx (ldP rfl rfl) (kx (lnS Tryd.underlying72 rfl) (kx (bGtr rfl rfl) (Rn (hA h3 (hN rfl hZ)) fun e4 h6 h7 => sN ?_))))))))))))))
 clear h3
 rcases ite_some h with ⟨hb8, h⟩ | ⟨hb8, h⟩
 ·refine cT h7 hb8 (sq (Rg (kx (mvO rfl) (kx (mvO rfl) (Rn (hV (.int .i64 0) rfl (hV (.int .i64 3) rfl hZ)) fun e9 h11 h12 => sN (xx (sR ?_)))))))
  clear h6 h7
  obtain rfl := si h
  exact eR (resT h11 (resT h12 res0)) rfl
 obtain ⟨r102, hr103, h⟩ := bind_some h
 refine cF h7 hb8 (xx (sN (sq (sq (Rg (kx (faP h6 ⟨ble rfl, blt rfl⟩ rfl) (kx (ldP rfl rfl) (kx (lnS Tryd.underlying72 rfl) (kx (mvO rfl) (Rn (hA h6 (hN rfl (hN rfl (hV (.int .i64 0) rfl hZ)))) fun e13 h15 h16 h17 h18 => sN (bl ?_)))))))))))
 clear h6 h7
 rcases r102 with y107 | _
 ·refine Ev.loop (RS := impl_FirstFault_b1_RS a1) (RR := impl_FirstFault_b1_RR a1) (fun s r h e M hs => impl_FirstFault_b1_ok a1 s r h e M hs) hr103 ⟨h15, h16, h17, h18⟩ fun x e105 M106 hq104 => ?_
  obtain ⟨rfl, h108, h109⟩ := hq104
  refine bR (sR ?_)
  obtain rfl := si h
  exact eR (resT h108 (resT h109 res0)) rfl
 refine Ev.loop (RS := impl_FirstFault_b1_RS a1) (RR := impl_FirstFault_b1_RR a1) (fun s r h e M hs => impl_FirstFault_b1_ok a1 s r h e M hs) hr103 ⟨h15, h16, h17, h18⟩ fun x e110 M111 hq104 => ?_
 obtain ⟨rfl, h112⟩ := hq104
 obtain ⟨r114, hx113, h⟩ := bind_some h
 refine bE (sN (sq (sq (Rd (kf (faP h112 ⟨ble rfl, blt rfl⟩ rfl) (kf (ldP rfl rfl) (kf (faP h112 ⟨ble rfl, blt rfl⟩ rfl) (kf (ldP rfl rfl) (fc (cl (v := .int .i64 r114) rfl rfl (cns rfl rfl) rfl (impl_owed_ok a1.Accounts _ hx113) nm) (kf (bNeq rfl rfl) (fZ (Rn (hV (.pt none [.sl none (a1.Accounts.map Account.c), .int .i64 a1.Owed]) h112 (hN rfl hZ)) fun e115 h117 h118 => sN ?_))))))))))))
 clear h112
 rcases ite_some h with ⟨hb119, h⟩ | ⟨hb119, h⟩
 ·refine cT h118 hb119 (sq (Rg (kx (faP h117 ⟨ble rfl, blt rfl⟩ rfl) (kx (ldP rfl rfl) (kx (lnS Tryd.underlying72 rfl) (kx (mvO rfl) (kx (mvO rfl) (Rn (hN rfl (hV (.int .i64 0) rfl hZ)) fun e120 h122 h123 => sN (xx (sR ?_))))))))))
  clear h117 h118
  obtain rfl := si h
  exact eR (resT h122 (resT h123 res0)) rfl
 refine cF h118 hb119 (xx (sN (sq (Rg (kx (mvO rfl) (kx (mvO rfl) (Rn (hV (.int .i64 0) rfl (hV (.int .i64 6) rfl hZ)) fun e124 h126 h127 => sN (xx ?_))))))))
 clear h117 h118
 obtain rfl := si h
 exact eR (resT h126 (resT h127 res0)) rfl
/-! ### loop.example/g01263/impl.validRoll (f79) -/
noncomputable def impl_validRoll (a1 : Roll) : Option Bool :=
 (impl_FirstFault a1).bind fun (r5, r6) =>
 some (r6 == 6)
def impl_validRoll_enc (r : Bool) : AV := .bool r
theorem impl_validRoll_ok (a1 : Roll) (r : Bool) (h : impl_validRoll a1 = some r) : Ev (fun k => CN k 79 [.agg [.sl none (a1.Accounts.map Account.c), .int .i64 a1.Owed]] []) (fun p => rRes p.2 p.1 = impl_validRoll_enc r) := by
 unfold impl_validRoll at h
 obtain ⟨⟨r5, r6⟩, hx4, h⟩ := bind_some h
 refine Ev.enter (F := fun k => f79 (CN k) k) (fun k => callN_eq rfl Tryd.func79 rfl rfl rfl (by decide +kernel) (f79_eq _ _)) (sq (Rg (kx (bxI rfl rfl ⟨rfl, rfl, by decide⟩) (kx (mvO rfl) (Rn (hN rfl hZ) fun e1 h3 => sN (sq (Rg (kx (ldPA h3 rfl rfl) (kc (cl (v := .tup [.int .i64 r5, .int .i64 r6]) rfl rfl (cns rfl rfl) rfl (impl_FirstFault_ok a1 _ hx4) nm) (kx (mvO rfl) (kx (exT rfl rfl) (kx (exT rfl rfl) (kx (mvO rfl) (kx (mvO rfl) (Rn (hN rfl hZ) fun e7 h9 => sN (sq (Rg (kx (mvO h9) (kx (bEql rfl rfl) (kx (mvO rfl) (Rn (hN rfl hZ) fun e10 h12 => sN (xx ?_))))))))))))))))))))))
 clear h3 h9
 obtain rfl := si h
 exact eR (resT h12 res0) rfl
/-! ### slices.Clone[[]loop.example/g01263/impl.Item,loop.example/g01263/impl.Item] (f43) -/
noncomputable def slices_Clone_Item (a1 : List Item) : Option ((List Item)) :=
 (app 16 ([] : List Item) a1).bind fun x8 =>
 some x8
def slices_Clone_Item_enc (r : (List Item)) : AV := .sl (some 42) (r.map Item.c)
theorem slices_Clone_Item_ok (a1 : List Item) (r : (List Item)) (h : slices_Clone_Item a1 = some r) : Ev (fun k => CN k 43 [.sl none (a1.map Item.c)] []) (fun p => rRes p.2 p.1 = slices_Clone_Item_enc r) := by
  refine Ev.prim rfl (Ev.notLib rfl ?_)
  by_cases hn : a1 = []
  · subst hn
    have e : r = [] := by simpa [slices_Clone_Item, app] using h.symm
    subst e
    exact Ev.nilBoth (by kernel_rfl) (by kernel_rfl)
  · have hp : 0 < a1.length := List.length_pos_iff.2 hn
    refine Ev.nilNot (by simpa using hn) ?_
    unfold slices_Clone_Item at h
    obtain ⟨x8, hx9, h⟩ := bind_some h
    refine Ev.enter0 (F := fun _ => f43 (CN0 2) 2) (fun k => callN_eq rfl Tryd.func43 rfl rfl rfl (by decide +kernel) (f43_eq _ _)) (sq (Rg (kx (mvO rfl) (Rn (hN rfl hZ) fun e1 h3 => sN (sq (sq (Rg (kx (mvO h3) (kx (bNilF Tryd.underlying24 hp rfl rfl) (Rn (hA h3 (hV (.bool false) rfl hZ)) fun e4 h6 h7 => sN (cF h7 rfl (xx (sN (sq (Rg (kx (litI rfl rfl ⟨rfl, by decide⟩) (kx (mvO h6) (kx (aiT (c := Item.c) (xs := ([] : List Item)) rfl (elS rfl) hx9 Item.fl (by decide)) (kx (mvO rfl) (Rn (hN rfl hZ) fun e10 h12 => sN (xx ?_)))))))))))))))))))))
    clear h3 h6 h7
    obtain rfl := si h
    exact eR (resT h12 res0) rfl
/-! ### loop.example/g01263/impl.ownAccount (f76) -/
noncomputable def impl_ownAccount (a1 : Account) : Option ((List UInt8) × (List Item) × Int) :=
 (slices_Clone_Item a1.Items).bind fun r16 =>
 some (a1.Title, r16, a1.Balance)
def impl_ownAccount_enc (r : (List UInt8) × (List Item) × Int) : AV := .agg [.str r.1, .sl none (r.2.1.map Item.c), .int .i64 r.2.2]
theorem impl_ownAccount_ok (a1 : Account) (r : (List UInt8) × (List Item) × Int) (h : impl_ownAccount a1 = some r) : Ev (fun k => CN k 76 [.agg [.str a1.Title, .sl none (a1.Items.map Item.c), .int .i64 a1.Balance]] []) (fun p => rRes p.2 p.1 = impl_ownAccount_enc r) := by
 unfold impl_ownAccount at h
 refine Ev.enter (F := fun k => f76 (CN k) k) (fun k => callN_eq rfl Tryd.func76 rfl rfl rfl (by decide +kernel) (f76_eq _ _)) (sq (Rg (ku (bxO rfl rfl ⟨rfl, rfl, by decide⟩) fun M2 hM3 => ?_)))
 have o4 : M2[([] : Mem).length]? = some (.live ⟨.box, 27, 3, [[.str a1.Title, .sl none (a1.Items.map Item.c), .int .i64 a1.Balance]]⟩) := push_new hM3
 refine ku (alO zero27) fun M6 hM7 => ?_
 have o8 := push_old hM7 o4
 have ne9 := ne_new o4
 have o10 : M6[M2.length]? = some (.live ⟨.box, 27, 3, [[.str ([] : List UInt8), .nils, .int .i64 0]]⟩) := push_new hM7
 obtain ⟨r16, hx15, h⟩ := bind_some h
 refine Rn (hV (.loc ([] : Mem).length 1 0 0) rfl (hV (.loc M2.length 1 0 0) rfl hZ)) fun e11 h13 h14 => sN (sq (Rg (kx (faO h13 o8 rfl) (kx (ldO rfl o8 rfl rfl rfl) (kc (cl (v := .sl (some 42) (r16.map Item.c)) rfl rfl (cns rfl rfl) rfl (slices_Clone_Item_ok a1.Items _ hx15) nm) (kx (faO h13 o8 rfl) (kw (stO rfl rfl o8 rfl rfl ⟨rfl, ble rfl⟩ rfl rfl) fun M17 hM18 => ?_)))))))
 have o19 : M17[([] : Mem).length]? = some (.live ⟨.box, 27, 3, [[.str a1.Title, .sl none (r16.map Item.c), .int .i64 a1.Balance]]⟩) := set_same hM18 o8
 have o20 := set_ne hM18 (Ne.symm ne9) o10
 refine Rn (hA h13 (hA h14 hZ)) fun e21 h23 h24 => sN (sq (Rg (kx (ldOA h23 o19 rfl rfl (ble rfl) rfl) (kw (stO h24 rfl o20 rfl rfl ⟨rfl, ble rfl⟩ rfl rfl) fun M25 hM26 => ?_))))
 clear h13 h14
 have o27 := set_ne hM26 ne9 o19
 have o28 : M25[M2.length]? = some (.live ⟨.box, 27, 3, [[.str a1.Title, .sl none (r16.map Item.c), .int .i64 a1.Balance]]⟩) := set_same hM26 o20
 refine Rn (hA h24 hZ) fun e29 h31 => sN (xx ?_)
 clear h23 h24
 obtain rfl := si h
 exact eR (resC (ag := true) (sz := 3) ⟨by kernel_rfl, by kernel_rfl, by kernel_rfl⟩ (ldOA h31 o28 rfl rfl (ble rfl) rfl) res0) rfl
/-! ### loop.example/g01263/impl.itemWords (f52) -/
noncomputable def impl_itemWords : Option ((List (List UInt8))) :=
 some [([102, 97, 114, 109] : List UInt8), ([100, 101, 98, 116] : List UInt8), ([112, 97, 105, 100] : List UInt8), ([97, 108, 108, 111, 119, 101, 100] : List UInt8)]
def impl_itemWords_enc (r : (List (List UInt8))) : AV := .sl (some 9) (r.map cS)
theorem impl_itemWords_ok (r : (List (List UInt8))) (h : impl_itemWords = some r) : Ev (fun k => CN k 52 [] []) (fun p => rRes p.2 p.1 = impl_itemWords_enc r) := by
 unfold impl_itemWords at h
 refine Ev.enter (F := fun k => f52 (CN k) k) (fun k => callN_eq rfl Tryd.func52 rfl rfl rfl (by decide +kernel) (f52_eq _ _)) (sq (Rg (kx (mvO rfl) (Rn hZ fun e1 => sN (sq (Rg (kx (litI (cns rfl (cns rfl (cns rfl (cns rfl rfl)))) rfl ⟨rfl, by decide⟩) (kx (mvO rfl) (Rn (hN rfl hZ) fun e3 h5 => sN (xx ?_))))))))))
 obtain rfl := si h
 exact eR (resT h5 res0) rfl
/-! ### loop.example/g01263/impl.size (f51) -/
noncomputable def impl_size (a1 : Int) : Option Int :=
 some (max a1 (IntKind.i64.wrap (0 - a1)))
def impl_size_enc (r : Int) : AV := .int .i64 r
theorem impl_size_ok (a1 : Int) (r : Int) (h : impl_size a1 = some r) : Ev (fun k => CN k 51 [.int .i64 a1] []) (fun p => rRes p.2 p.1 = impl_size_enc r) := by
 unfold impl_size at h
 refine Ev.enter (F := fun k => f51 (CN k) k) (fun k => callN_eq rfl Tryd.func51 rfl rfl rfl (by decide +kernel) (f51_eq _ _)) (sq (Rg (kx (mvO rfl) (Rn (hN rfl hZ) fun e1 h3 => sN (sq (Rg (kx (mvO h3) (kx (mvO h3) (kx (uNeg rfl) (kx (bMax rfl rfl) (kx (mvO rfl) (Rn (hN rfl hZ) fun e4 h6 => sN (xx ?_)))))))))))))
 clear h3
 obtain rfl := si h
 exact eR (resT h6 res0) rfl
/-! ### strings.Cut (f87), by its contract -/
noncomputable def strings_Cut (a1 : List UInt8) (a2 : List UInt8) : Option ((List UInt8) × (List UInt8) × Bool) := cutI a1 a2
def strings_Cut_enc (r : (List UInt8) × (List UInt8) × Bool) : AV := .tup [.str r.1, .str r.2.1, .bool r.2.2]
theorem strings_Cut_ok (a1 : List UInt8) (a2 : List UInt8) (r : (List UInt8) × (List UInt8) × Bool) (h : strings_Cut a1 a2 = some r) : Ev (fun k => CN k 87 [.str a1, .str a2] []) (fun p => rRes p.2 p.1 = strings_Cut_enc r) := Ev.lib rfl rfl (lib_cut h) rfl
/-! ### loop.example/g01263/impl.MakeAccount (f8) -/
noncomputable def impl_MakeAccount (a1 : List UInt8) (a2 : List Item) : Option (((List UInt8) × (List Item) × Int) ⊕ Int) :=
 (impl_ValidItems a2).bind fun r11 =>
 if r11 = true then
  (impl_isLetters a1 16).bind fun r20 =>
  if r20 = true then
   (slices_Clone_Item a2).bind fun r29 =>
   (impl_balance a2).bind fun r31 =>
   some (.inl (a1, r29, r31))
  else
   some (.inr 2)
 else
  some (.inr 1)
def impl_MakeAccount_enc (r : ((List UInt8) × (List Item) × Int) ⊕ Int) : AV :=
  match r with
  | (.inl g) => .tup [.agg [.str g.1, .sl (some 42) (g.2.1.map Item.c), .int .i64 g.2.2], .int .i64 0]
  | (.inr g) => .tup [.agg [.str ([] : List UInt8), .nils, .int .i64 0], .int .i64 g]
theorem impl_MakeAccount_ok (a1 : List UInt8) (a2 : List Item) (r : ((List UInt8) × (List Item) × Int) ⊕ Int) (h : impl_MakeAccount a1 a2 = some r) : Ev (fun k => CN k 8 [.str a1, .sl none (a2.map Item.c)] []) (fun p => rRes p.2 p.1 = impl_MakeAccount_enc r) := by
 unfold impl_MakeAccount at h
 refine Ev.enter (F := fun k => f8 (CN k) k) (fun k => callN_eq rfl Tryd.func8 rfl rfl rfl (by decide +kernel) (f8_eq _ _)) (sq (Rg (ku (alO zero27) fun M2 hM3 => ?_)))
 have o4 : M2[([] : Mem).length]? = some (.live ⟨.box, 27, 3, [[.str ([] : List UInt8), .nils, .int .i64 0]]⟩) := push_new hM3
 obtain ⟨r11, hx10, h⟩ := bind_some h
 refine kx (mvO rfl) (Rn (hN rfl (hN rfl (hV (.loc ([] : Mem).length 1 0 0) rfl hZ))) fun e5 h7 h8 h9 => sN (sq (bl (sq (Rg (kx (mvO h8) (kc (cl (v := .bool r11) rfl rfl (cns rfl rfl) rfl (impl_ValidItems_ok a2 _ hx10) nm) (kx (uNot rfl) (kx (mvO rfl) (Rn (hA h7 (hA h8 (hA h9 (hN rfl hZ)))) fun e12 h14 h15 h16 h17 => sN ?_))))))))))
 clear h7 h8 h9
 rcases ite_some h with ⟨hb18, h⟩ | ⟨hb18, h⟩
 ·obtain ⟨r20, hx19, h⟩ := bind_some h
  refine cF h17 (congrArg Bool.not hb18) (sq (Rg (kx (mvO h14) (kc (cl (v := .bool r20) rfl rfl (cns rfl (cns rfl rfl)) rfl (impl_isLetters_ok a1 16 _ hx19) nm) (kx (uNot rfl) (kx (mvO rfl) (Rn (hA h14 (hA h15 (hA h16 (hN rfl hZ)))) fun e21 h23 h24 h25 h26 => sN ?_)))))))
  clear h14 h15 h16 h17
  rcases ite_some h with ⟨hb27, h⟩ | ⟨hb27, h⟩
  ·obtain ⟨r29, hx28, h⟩ := bind_some h
   obtain ⟨r31, hx30, h⟩ := bind_some h
   refine cF h26 (congrArg Bool.not hb27) (xx (bN (sN (sq (Rg (kx (mvO h23) (kx (mvO h24) (kc (cl (v := .sl (some 42) (r29.map Item.c)) rfl rfl (cns rfl rfl) rfl (slices_Clone_Item_ok a2 _ hx28) nm) (kx (mvO h24) (kc (cl (v := .int .i64 r31) rfl rfl (cns rfl rfl) rfl (impl_balance_ok a2 _ hx30) nm) (kx (bldT zero27 (cns (pr3 rfl) (cns (pr3 rfl) (cns (pr3 rfl) rfl))) (fill1 ⟨rfl, ble rfl⟩ rfl rfl (fill1 ⟨rfl, ble rfl⟩ rfl rfl (fill1 ⟨rfl, ble rfl⟩ rfl rfl (fill0 rfl))))) (kw (stOK h25 rfl o4 rfl rfl ⟨rfl, ble rfl⟩ rfl rfl) fun M32 hM33 => ?_))))))))))))
   have o34 : M32[([] : Mem).length]? = some (.live ⟨.box, 27, 3, [[.str a1, .sl (some 42) (r29.map Item.c), .int .i64 r31]]⟩) := set_same hM33 o4
   refine kx (mvO rfl) (Rn (hA h25 (hV (.int .i64 0) rfl hZ)) fun e35 h37 h38 => sN (xx ?_))
   clear h23 h24 h25 h26
   obtain rfl := si h
   exact eR (resC (ag := true) (sz := 3) ⟨by kernel_rfl, by kernel_rfl, by kernel_rfl⟩ (ldOA h37 o34 rfl rfl (ble rfl) rfl) (resT h38 res0)) rfl
  refine cT h26 (congrArg Bool.not hb27) (sq (Rg (kx (bldT zero27 rfl (fill0 rfl)) (kw (stOK h25 rfl o4 rfl rfl ⟨rfl, ble rfl⟩ rfl rfl) fun M39 hM40 => ?_))))
  have o41 : M39[([] : Mem).length]? = some (.live ⟨.box, 27, 3, [[.str ([] : List UInt8), .nils, .int .i64 0]]⟩) := set_same hM40 o4
  refine kx (mvO rfl) (Rn (hA h25 (hV (.int .i64 2) rfl hZ)) fun e42 h44 h45 => sN (xx (bR (sR ?_))))
  clear h23 h24 h25 h26
  obtain rfl := si h
  exact eR (resC (ag := true) (sz := 3) ⟨by kernel_rfl, by kernel_rfl, by kernel_rfl⟩ (ldOA h44 o41 rfl rfl (ble rfl) rfl) (resT h45 res0)) rfl
 refine cT h17 (congrArg Bool.not hb18) (sq (Rg (kx (bldT zero27 rfl (fill0 rfl)) (kw (stOK h16 rfl o4 rfl rfl ⟨rfl, ble rfl⟩ rfl rfl) fun M46 hM47 => ?_))))
 have o48 : M46[([] : Mem).length]? = some (.live ⟨.box, 27, 3, [[.str ([] : List UInt8), .nils, .int .i64 0]]⟩) := set_same hM47 o4
 refine kx (mvO rfl) (Rn (hA h16 (hV (.int .i64 1) rfl hZ)) fun e49 h51 h52 => sN (xx (bR (sR ?_))))
 clear h14 h15 h16 h17
 obtain rfl := si h
 exact eR (resC (ag := true) (sz := 3) ⟨by kernel_rfl, by kernel_rfl, by kernel_rfl⟩ (ldOA h51 o48 rfl rfl (ble rfl) rfl) (resT h52 res0)) rfl
/-! ### loop.example/g01263/impl.AccountText (f12) -/
def impl_AccountText_c1_Q (a1 : Account) (g : Bool) (q : Out) : Prop := q.1 = .nrm ∧ eget q.2.1 1 = .pt none [.str a1.Title, .sl none (a1.Items.map Item.c), .int .i64 a1.Balance] ∧ eget q.2.1 15 = .bool g
abbrev impl_AccountText_b1_S := (List UInt8) × Int
abbrev impl_AccountText_b1_R := (List UInt8)
def impl_AccountText_b1_RS (a1 : Account) (s : impl_AccountText_b1_S) (e : Env) (M : Mem) : Prop := eget e 1 = .pt none [.str a1.Title, .sl none (a1.Items.map Item.c), .int .i64 a1.Balance] ∧ eget e 3 = .str s.1 ∧ eget e 20 = .sl none (a1.Items.map Item.c) ∧ eget e 21 = .int .i64 (a1.Items.length : Int) ∧ eget e 22 = .int .i64 s.2
def impl_AccountText_b1_RR (a1 : Account) (g : impl_AccountText_b1_R) (x : Ex) (e : Env) (M : Mem) : Prop := x = .ext 0 ∧ eget e 1 = .pt none [.str a1.Title, .sl none (a1.Items.map Item.c), .int .i64 a1.Balance] ∧ eget e 3 = .str g
noncomputable def impl_AccountText_b1 (a1 : Account) : impl_AccountText_b1_S → Option (impl_AccountText_b1_S ⊕ impl_AccountText_b1_R) := fun (s1_1, s1_2) =>
 if (decide (s1_2 < (a1.Items.length : Int))) = true then
  (rd a1.Items s1_2).bind fun x74 =>
  (impl_itemWords).bind fun r92 =>
  (rd r92 x74.Kind).bind fun x93 =>
  (sadd x93 ([32] : List UInt8)).bind fun w95 =>
  (impl_AmountText x74.Amount).bind fun r98 =>
  (sadd w95 r98).bind fun w99 =>
  (sadd w99 ([10] : List UInt8)).bind fun w101 =>
  (sadd s1_1 w101).bind fun w103 =>
  some (.inl (w103, (IntKind.i64.wrap (s1_2 + 1))))
 else
  some (.inr s1_1)
theorem impl_AccountText_b1_ok (a1 : Account) (s : impl_AccountText_b1_S) (r : impl_AccountText_b1_S ⊕ impl_AccountText_b1_R) (h : impl_AccountText_b1 a1 s = some r) (e : Env) (M : Mem) (hs : impl_AccountText_b1_RS a1 s e M) : Ev (fun k => (f12_l5 (CN k) k (prune [1, 3, 20, 21, 22] e) M).bind fun q => some q) (bQ (impl_AccountText_b1_RS a1) (impl_AccountText_b1_RR a1) r) := by
 obtain ⟨s1_1, s1_2⟩ := s
 unfold impl_AccountText_b1 at h
 obtain ⟨h55, h57, h59, h61, h63⟩ := hs
 generalize he54 : prune [1, 3, 20, 21, 22] e = e53
 have h56 := envp he54.symm rfl h55
 have h58 := envp he54.symm rfl h57
 have h60 := envp he54.symm rfl h59
 have h62 := envp he54.symm rfl h61
 have h64 := envp he54.symm rfl h63
 refine sq (Rg (kx (bLss h64 h62) (Rn (hV (.pt none [.str a1.Title, .sl none (a1.Items.map Item.c), .int .i64 a1.Balance]) h56 (hV (.str s1_1) h58 (hV (.sl none (a1.Items.map Item.c)) h60 (hV (.int .i64 (a1.Items.length : Int)) h62 (hV (.int .i64 s1_2) h64 (hN rfl hZ)))))) fun e65 h67 h68 h69 h70 h71 h72 => sN (sq ?_))))
 clear h56 h58 h60 h62 h64
 rcases ite_some h with ⟨hb73, h⟩ | ⟨hb73, h⟩
 ·obtain ⟨x74, hx75, h⟩ := bind_some h
  refine cT h72 hb73 (xx (sN (sq (bl (sq (Rg (kx (ixS h69 h71 hx75 Item.fl) (kx (ldPA rfl rfl rfl) (ku (alO zero42) fun M77 hM78 => ?_)))))))))
  have o79 : M77[M.length]? = some (.live ⟨.box, 42, 2, [[.int .i8 0, .int .i64 0]]⟩) := push_new hM78
  refine kw (stO rfl rfl o79 rfl rfl ⟨rfl, ble rfl⟩ rfl rfl) fun M80 hM81 => ?_
  have o82 : M80[M.length]? = some (.live ⟨.box, 42, 2, [[.int .i8 x74.Kind, .int .i64 x74.Amount]]⟩) := set_same hM81 o79
  obtain ⟨r92, hx91, h⟩ := bind_some h
  obtain ⟨x93, hx94, h⟩ := bind_some h
  obtain ⟨w95, hx96, h⟩ := bind_some h
  obtain ⟨r98, hx97, h⟩ := bind_some h
  obtain ⟨w99, hx100, h⟩ := bind_some h
  obtain ⟨w101, hx102, h⟩ := bind_some h
  obtain ⟨w103, hx104, h⟩ := bind_some h
  refine Rn (hA h67 (hA h68 (hV (.loc M.length 1 0 0) rfl (hA h69 (hA h70 (hA h71 hZ)))))) fun e83 h85 h86 h87 h88 h89 h90 => sN (Rd (kf (mvO h86) (fc (cl (v := .sl (some 9) (r92.map cS)) rfl rfl rfl rfl (impl_itemWords_ok  _ hx91) nm) (kf (faO h87 o82 rfl) (kf (ldO rfl o82 rfl rfl rfl) (kf (ixS rfl rfl hx94 cS_fl) (kf (ldP rfl rfl) (kf (sAdd rfl rfl hx96) (kf (faO h87 o82 rfl) (kf (ldO rfl o82 rfl rfl rfl) (fc (cl (v := .str r98) rfl rfl (cns rfl rfl) rfl (impl_AmountText_ok x74.Amount _ hx97) nm) (kf (sAdd rfl rfl hx100) (kf (sAdd rfl rfl hx102) (kf (sAdd rfl rfl hx104) (kf (mvO rfl) (fZ (Rn (hA h85 (hN rfl (hA h88 (hA h89 (hA h90 hZ))))) fun e105 h107 h108 h109 h110 h111 => bN (sN (Rg (kx (bAdd h111 rfl) (kx (mvO rfl) (Rn (hA h107 (hA h108 (hA h109 (hA h110 (hN rfl hZ))))) fun e112 h114 h115 h116 h117 h118 => ?_))))))))))))))))))))))
  clear h67 h68 h69 h70 h71 h72 h85 h87 h88 h89 h90 h107 h108 h109 h110
  obtain rfl := si h
  exact qN ⟨h114, h115, h116, h117, h118⟩
 refine cF h72 hb73 (xx (sE ?_))
 obtain rfl := si h
 exact qE ⟨rfl, h67, h68⟩
noncomputable def impl_AccountText (a1 : Account) : Option ((List UInt8)) :=
 ((impl_CheckAccount a1).bind fun r5 =>
 if r5 = true then
  (impl_size a1.Balance).bind fun r8 =>
  (impl_isAmount r8).bind fun r10 =>
  some (!r10)
 else
  some true).bind fun y21 =>
 if y21 = true then
  some ([] : List UInt8)
 else
  (sadd a1.Title ([10] : List UInt8)).bind fun w28 =>
  (Lw (impl_AccountText_b1 a1) (w28, 0)).bind fun y124 =>
  if (decide (a1.Balance > 0)) = true then
   (sadd y124 ([111, 119, 101, 115, 32] : List UInt8)).bind fun w133 =>
   (impl_AmountText a1.Balance).bind fun r136 =>
   (sadd w133 r136).bind fun w137 =>
   (sadd w137 ([10] : List UInt8)).bind fun w139 =>
   some w139
  else
   if (decide (a1.Balance < 0)) = true then
    (sadd y124 ([111, 118, 101, 114, 32] : List UInt8)).bind fun w150 =>
    (impl_AmountText (IntKind.i64.wrap (0 - a1.Balance))).bind fun r153 =>
    (sadd w150 r153).bind fun w154 =>
    (sadd w154 ([10] : List UInt8)).bind fun w156 =>
    some w156
   else
    (sadd y124 ([113, 117, 105, 116, 10] : List UInt8)).bind fun w161 =>
    some w161
def impl_AccountText_enc (r : (List UInt8)) : AV := .str r
theorem impl_AccountText_ok (a1 : Account) (r : (List UInt8)) (h : impl_AccountText a1 = some r) : Ev (fun k => CN k 12 [.agg [.str a1.Title, .sl none (a1.Items.map Item.c), .int .i64 a1.Balance]] []) (fun p => rRes p.2 p.1 = impl_AccountText_enc r) := by
 unfold impl_AccountText at h
 obtain ⟨r167, hr168, h⟩ := bind_some h
 refine Ev.enter (F := fun k => f12 (CN k) k) (fun k => callN_eq rfl Tryd.func12 rfl rfl rfl (by decide +kernel) (f12_eq _ _)) (sq (Rg (kx (bxI rfl rfl ⟨rfl, rfl, by decide⟩) (kx (mvO rfl) (Rn (hN rfl hZ) fun e1 h3 => sN (sq (sq ?_)))))))
 refine Ev.cut (Q1 := impl_AccountText_c1_Q a1 r167) (by
     have h := hr168
     obtain ⟨r5, hx4, h⟩ := bind_some h
     refine Rg (kx (ldPA h3 rfl rfl) (kc (cl (v := .bool r5) rfl rfl (cns rfl rfl) rfl (impl_CheckAccount_ok a1 _ hx4) nm) (kx (uNot rfl) (kx (mvO rfl) ?_))))
     rcases ite_some h with ⟨hb6, h⟩ | ⟨hb6, h⟩
     ·obtain ⟨r8, hx7, h⟩ := bind_some h
      obtain ⟨r10, hx9, h⟩ := bind_some h
      refine kx (guF rfl (congrArg Bool.not hb6) (faP h3 ⟨ble rfl, blt rfl⟩ rfl)) (kx (guF rfl (congrArg Bool.not hb6) (ldP rfl rfl)) (kc (Ev.guF rfl (congrArg Bool.not hb6) (cl (v := .int .i64 r8) rfl rfl (cns rfl rfl) rfl (impl_size_ok a1.Balance _ hx7) nm)) (kc (Ev.guF rfl (congrArg Bool.not hb6) (cl (v := .bool r10) rfl rfl (cns rfl rfl) rfl (impl_isAmount_ok r8 _ hx9) nm)) (kx (guF rfl (congrArg Bool.not hb6) (uNot rfl)) (kx (pkF rfl (congrArg Bool.not hb6) rfl) (Rn (hA h3 (hN rfl hZ)) fun e11 h13 h14 => ?_))))))
      clear h3
      obtain rfl := si h
      exact kd (show impl_AccountText_c1_Q a1 _ _ from ⟨rfl, h13, h14⟩)
     refine kx (gsF rfl (congrArg Bool.not hb6)) (kx (gsF rfl (congrArg Bool.not hb6)) (kc (Ev.gsF rfl (congrArg Bool.not hb6)) (kc (Ev.gsF rfl (congrArg Bool.not hb6)) (kx (gsF rfl (congrArg Bool.not hb6)) (kx (pkT rfl (congrArg Bool.not hb6) rfl) (Rn (hA h3 (hV (.bool true) rfl hZ)) fun e15 h17 h18 => ?_))))))
     clear h3
     obtain rfl := si h
     exact kd (show impl_AccountText_c1_Q a1 _ _ from ⟨rfl, h17, h18⟩)) ?_
 revert h hr168
 revert r167
 intro y21 hr168 h
 intro x e19 M20 hq166
 obtain ⟨rfl, h22, h23⟩ := hq166
 refine sN ?_
 rcases ite_some h with ⟨hb24, h⟩ | ⟨hb24, h⟩
 ·refine cT h23 hb24 (sq (Rg (kx (mvO rfl) (Rn (hN rfl hZ) fun e25 h27 => sN (xx (sR ?_))))))
  clear h22 h23
  obtain rfl := si h
  exact eR (resT h27 res0) rfl
 obtain ⟨w28, hx29, h⟩ := bind_some h
 obtain ⟨y124, hr120, h⟩ := bind_some h
 refine cF h23 hb24 (xx (sN (sq (Rg (kx (faP h22 ⟨ble rfl, blt rfl⟩ rfl) (kx (ldP rfl rfl) (kx (sAdd rfl rfl hx29) (kx (mvO rfl) (Rn (hV (.pt none [.str a1.Title, .sl none (a1.Items.map Item.c), .int .i64 a1.Balance]) h22 (hN rfl hZ)) fun e30 h32 h33 => sN (sq (sq (Rg (kx (faP h32 ⟨ble rfl, blt rfl⟩ rfl) (kx (ldP rfl rfl) (kx (lnS Tryd.underlying24 rfl) (kx (mvO rfl) (Rn (hA h32 (hA h33 (hN rfl (hN rfl (hV (.int .i64 0) rfl hZ))))) fun e34 h36 h37 h38 h39 h40 => sN (bl (Ev.loop (RS := impl_AccountText_b1_RS a1) (RR := impl_AccountText_b1_RR a1) (fun s r h e M hs => impl_AccountText_b1_ok a1 s r h e M hs) hr120 ⟨h36, h37, h38, h39, h40⟩ fun x e122 M123 hq121 => ?_)))))))))))))))))))
 clear h22 h23 h32 h33
 obtain ⟨rfl, h125, h126⟩ := hq121
 refine bE (sN (sq (bl (sq (Rg (kx (faP h125 ⟨ble rfl, blt rfl⟩ rfl) (kx (ldP rfl rfl) (kx (bGtr rfl rfl) (kx (mvO rfl) (Rn (hV (.pt none [.str a1.Title, .sl none (a1.Items.map Item.c), .int .i64 a1.Balance]) h125 (hV (.str y124) h126 (hN rfl hZ))) fun e127 h129 h130 h131 => sN ?_))))))))))
 clear h125 h126
 rcases ite_some h with ⟨hb132, h⟩ | ⟨hb132, h⟩
 ·obtain ⟨w133, hx134, h⟩ := bind_some h
  obtain ⟨r136, hx135, h⟩ := bind_some h
  obtain ⟨w137, hx138, h⟩ := bind_some h
  obtain ⟨w139, hx140, h⟩ := bind_some h
  refine cT h131 hb132 (sq (Rg (kx (mvO h130) (kx (sAdd rfl rfl hx134) (kx (faP h129 ⟨ble rfl, blt rfl⟩ rfl) (kx (ldP rfl rfl) (kc (cl (v := .str r136) rfl rfl (cns rfl rfl) rfl (impl_AmountText_ok a1.Balance _ hx135) nm) (kx (sAdd rfl rfl hx138) (kx (sAdd rfl rfl hx140) (kx (mvO rfl) (Rn (hN rfl hZ) fun e141 h143 => sN (xx (bR (sR ?_))))))))))))))
  clear h129 h130 h131
  obtain rfl := si h
  exact eR (resT h143 res0) rfl
 refine cF h131 hb132 (sq (Rg (kx (faP h129 ⟨ble rfl, blt rfl⟩ rfl) (kx (ldP rfl rfl) (kx (bLss rfl rfl) (kx (mvO rfl) (Rn (hA h129 (hA h130 (hN rfl hZ))) fun e144 h146 h147 h148 => sN ?_)))))))
 clear h129 h130 h131
 rcases ite_some h with ⟨hb149, h⟩ | ⟨hb149, h⟩
 ·obtain ⟨w150, hx151, h⟩ := bind_some h
  obtain ⟨r153, hx152, h⟩ := bind_some h
  obtain ⟨w154, hx155, h⟩ := bind_some h
  obtain ⟨w156, hx157, h⟩ := bind_some h
  refine cT h148 hb149 (sq (Rg (kx (mvO h147) (kx (sAdd rfl rfl hx151) (kx (faP h146 ⟨ble rfl, blt rfl⟩ rfl) (kx (ldP rfl rfl) (kx (uNeg rfl) (kc (cl (v := .str r153) rfl rfl (cns rfl rfl) rfl (impl_AmountText_ok (IntKind.i64.wrap (0 - a1.Balance)) _ hx152) nm) (kx (sAdd rfl rfl hx155) (kx (sAdd rfl rfl hx157) (kx (mvO rfl) (Rn (hN rfl hZ) fun e158 h160 => sN (xx (bR (sR ?_)))))))))))))))
  clear h146 h147 h148
  obtain rfl := si h
  exact eR (resT h160 res0) rfl
 obtain ⟨w161, hx162, h⟩ := bind_some h
 refine cF h148 hb149 (xx (bN (sN (sq (Rg (kx (mvO h147) (kx (sAdd rfl rfl hx162) (kx (mvO rfl) (Rn (hN rfl hZ) fun e163 h165 => sN (xx ?_))))))))))
 clear h146 h147 h148
 obtain rfl := si h
 exact eR (resT h165 res0) rfl
/-! ### loop.example/g01263/impl.readAccount (f49) -/
def impl_readAccount_c3_Q (a1 : List (List UInt8)) (x34 : List (List UInt8)) (s1_1 : Int) (s1_2 : List UInt8) (s1_3 : Int) (s1_4 : List Item) (r116 : Int) (r142 : Int) (i1_1 : Nat) (i1_2 : Nat) (g : Bool) (q : Out) : Prop := q.1 = .nrm ∧ eget q.2.1 0 = .sl none (a1.map cS) ∧ eget q.2.1 2 = .loc i1_1 1 0 0 ∧ eget q.2.1 5 = .lsl i1_2 s1_4.length 0 s1_4.length ∧ eget q.2.1 11 = .int .i64 r116 ∧ eget q.2.1 12 = .int .i64 r142 ∧ eget q.2.1 23 = .sl none (x34.map cS) ∧ eget q.2.1 24 = .int .i64 (x34.length : Int) ∧ eget q.2.1 25 = .int .i64 s1_1 ∧ eget q.2.1 52 = .bool g ∧ q.2.2[i1_1]? = some (.live ⟨.box, 27, 3, [[.str s1_2, .nils, .int .i64 s1_3]]⟩) ∧ q.2.2[i1_2]? = some (.live ⟨.grow, 42, 2, s1_4.map Item.c⟩)
abbrev impl_readAccount_b1_S := Int × (List UInt8) × Int × (List Item)
abbrev impl_readAccount_b1_R := (Int × Bool × (List UInt8) × Int) ⊕ ((Int × Bool × (List UInt8) × (List Item) × Int) ⊕ ((List UInt8) × Int × (List Item)))
def impl_readAccount_b1_RS (a1 : List (List UInt8)) (x34 : List (List UInt8)) (i1_1 : Nat) (i1_2 : Nat) (s : impl_readAccount_b1_S) (e : Env) (M : Mem) : Prop := eget e 0 = .sl none (a1.map cS) ∧ eget e 2 = .loc i1_1 1 0 0 ∧ eget e 5 = .lsl i1_2 s.2.2.2.length 0 s.2.2.2.length ∧ eget e 23 = .sl none (x34.map cS) ∧ eget e 24 = .int .i64 (x34.length : Int) ∧ eget e 25 = .int .i64 s.1 ∧ M[i1_1]? = some (.live ⟨.box, 27, 3, [[.str s.2.1, .nils, .int .i64 s.2.2.1]]⟩) ∧ M[i1_2]? = some (.live ⟨.grow, 42, 2, s.2.2.2.map Item.c⟩)
def impl_readAccount_b1_RR (a1 : List (List UInt8)) (x34 : List (List UInt8)) (i1_1 : Nat) (i1_2 : Nat) (r : impl_readAccount_b1_R) (x : Ex) (e : Env) (M : Mem) : Prop :=
  match r with
  | (.inl g) => x = .ret ∧ eget e 2 = .loc i1_1 1 0 0 ∧ eget e 3 = .int .i64 g.1 ∧ eget e 4 = .bool g.2.1 ∧ M[i1_1]? = some (.live ⟨.box, 27, 3, [[.str g.2.2.1, .nils, .int .i64 g.2.2.2]]⟩)
  | (.inr (.inl g)) => x = .ret ∧ eget e 2 = .loc i1_1 1 0 0 ∧ eget e 3 = .int .i64 g.1 ∧ eget e 4 = .bool g.2.1 ∧ M[i1_1]? = some (.live ⟨.box, 27, 3, [[.str g.2.2.1, .sl none (g.2.2.2.1.map Item.c), .int .i64 g.2.2.2.2]]⟩)
  | (.inr (.inr g)) => x = .ext 0 ∧ eget e 2 = .loc i1_1 1 0 0 ∧ M[i1_1]? = some (.live ⟨.box, 27, 3, [[.str g.1, .nils, .int .i64 g.2.1]]⟩) ∧ M[i1_2]? = some (.live ⟨.grow, 42, 2, g.2.2.map Item.c⟩)
noncomputable def impl_readAccount_b1 (a1 : List (List UInt8)) (x34 : List (List UInt8)) : impl_readAccount_b1_S → Option (impl_readAccount_b1_S ⊕ impl_readAccount_b1_R) := fun (s1_1, s1_2, s1_3, s1_4) =>
 if (decide (s1_1 < (x34.length : Int))) = true then
  (rd x34 s1_1).bind fun x86 =>
  (strings_Cut x86 ([32] : List UInt8)).bind fun (r99, r100, r101) =>
  (impl_itemWords).bind fun r114 =>
  (slices_Index_string r114 r99).bind fun r116 =>
  if (decide (r116 ≥ 0)) = true then
   (impl_ReadAmount r100).bind fun (r142, r143) =>
   (if (r143 != 0) = true then
    some true
   else
    some ((s1_4.length : Int) == 40)).bind fun y180 =>
   if y180 = true then
    some (.inr (.inl (0, false, ([] : List UInt8), 0)))
   else
    (app 16 s1_4 [(Item.mk (IntKind.i8.wrap r116) r142)]).bind fun x202 =>
    some (.inl ((IntKind.i64.wrap (s1_1 + 1)), s1_2, s1_3, x202))
  else
   (rd a1 0).bind fun x227 =>
   (impl_MakeAccount x227 s1_4).bind fun r => match r with
   | (.inl (r230, r231, r232)) =>
    (slc a1 0 (IntKind.i64.wrap (s1_1 + 2))).bind fun x253 =>
    (strings_Join x253 ([10] : List UInt8)).bind fun r256 =>
    (sadd r256 ([10] : List UInt8)).bind fun w257 =>
    (impl_AccountText (Account.mk r230 r231 r232)).bind fun r267 =>
    some (.inr (.inr (.inl ((IntKind.i64.wrap (s1_1 + 2)), (r267 == w257), r230, r231, r232))))
   | (.inr r277) =>
    (slc a1 0 (IntKind.i64.wrap (s1_1 + 2))).bind fun x298 =>
    (strings_Join x298 ([10] : List UInt8)).bind fun r301 =>
    (sadd r301 ([10] : List UInt8)).bind fun w302 =>
    if (r277 == 0) = true then
     (impl_AccountText (Account.mk ([] : List UInt8) ([] : List Item) 0)).bind fun r313 =>
     some (.inr (.inl ((IntKind.i64.wrap (s1_1 + 2)), (r313 == w302), ([] : List UInt8), 0)))
    else
     some (.inr (.inl ((IntKind.i64.wrap (s1_1 + 2)), false, ([] : List UInt8), 0)))
 else
  some (.inr (.inr (.inr (s1_2, s1_3, s1_4))))
theorem impl_readAccount_b1_ok (a1 : List (List UInt8)) (x34 : List (List UInt8)) (i1_1 : Nat) (i1_2 : Nat) (ne27 : i1_1 ≠ i1_2) (s : impl_readAccount_b1_S) (r : impl_readAccount_b1_S ⊕ impl_readAccount_b1_R) (h : impl_readAccount_b1 a1 x34 s = some r) (e : Env) (M : Mem) (hs : impl_readAccount_b1_RS a1 x34 i1_1 i1_2 s e M) : Ev (fun k => (f49_l5 (CN k) k (prune [0, 2, 5, 23, 24, 25] e) M).bind fun q => some q) (bQ (impl_readAccount_b1_RS a1 x34 i1_1 i1_2) (impl_readAccount_b1_RR a1 x34 i1_1 i1_2) r) := by
 obtain ⟨s1_1, s1_2, s1_3, s1_4⟩ := s
 unfold impl_readAccount_b1 at h
 obtain ⟨h62, h64, h66, h68, h70, h72, o74, o75⟩ := hs
 generalize he61 : prune [0, 2, 5, 23, 24, 25] e = e60
 have h63 := envp he61.symm rfl h62
 have h65 := envp he61.symm rfl h64
 have h67 := envp he61.symm rfl h66
 have h69 := envp he61.symm rfl h68
 have h71 := envp he61.symm rfl h70
 have h73 := envp he61.symm rfl h72
 refine sq (Rg (kx (bLss h73 h71) (Rn (hV (.sl none (a1.map cS)) h63 (hV (.loc i1_1 1 0 0) h65 (hV (.lsl i1_2 s1_4.length 0 s1_4.length) h67 (hV (.sl none (x34.map cS)) h69 (hV (.int .i64 (x34.length : Int)) h71 (hV (.int .i64 s1_1) h73 (hN rfl hZ))))))) fun e76 h78 h79 h80 h81 h82 h83 h84 => sN (sq ?_))))
 clear h63 h65 h67 h69 h71 h73
 rcases ite_some h with ⟨hb85, h⟩ | ⟨hb85, h⟩
 ·obtain ⟨x86, hx87, h⟩ := bind_some h
  obtain ⟨⟨r99, r100, r101⟩, hx98, h⟩ := bind_some h
  obtain ⟨r114, hx113, h⟩ := bind_some h
  obtain ⟨r116, hx115, h⟩ := bind_some h
  refine cT h84 hb85 (xx (sN (sq (bl (sq (Rg (kx (mvO h83) (kx (ixS h81 h83 hx87 cS_fl) (kx (ldP rfl rfl) (kx (mvO rfl) (kx (mvO rfl) (Rn (hA h78 (hA h79 (hA h80 (hN rfl (hN rfl (hA h81 (hA h82 (hA h83 hZ)))))))) fun e88 h90 h91 h92 h93 h94 h95 h96 h97 => sN (sq (Rg (kx (mvO h94) (kc (cl (v := .tup [.str r99, .str r100, .bool r101]) rfl rfl (cns rfl (cns rfl rfl)) rfl (strings_Cut_ok x86 ([32] : List UInt8) _ hx98) nm) (kx (mvO rfl) (kx (exT rfl rfl) (kx (exT rfl rfl) (kx (exT rfl rfl) (kx (mvO rfl) (kx (mvO rfl) (kx (mvO rfl) (Rn (hA h90 (hA h91 (hA h92 (hA h93 (hN rfl (hN rfl (hA h95 (hA h96 (hA h97 hZ))))))))) fun e102 h104 h105 h106 h107 h108 h109 h110 h111 h112 => sN (sq (Rg (kc (cl (v := .sl (some 9) (r114.map cS)) rfl rfl rfl rfl (impl_itemWords_ok  _ hx113) nm) (kx (mvO h108) (kc (cl (v := .int .i64 r116) rfl rfl (cns rfl (cns rfl rfl)) rfl (slices_Index_string_ok r114 r99 _ hx115) nm) (kx (mvO rfl) (Rn (hA h104 (hA h105 (hA h106 (hA h107 (hA h109 (hN rfl (hA h110 (hA h111 (hA h112 hZ))))))))) fun e117 h119 h120 h121 h122 h123 h124 h125 h126 h127 => sN (sq (sq (Rg (kx (mvO h124) (kx (bGeq rfl rfl) (Rn (hA h119 (hA h120 (hA h121 (hA h122 (hA h123 (hA h124 (hA h125 (hA h126 (hA h127 (hN rfl hZ)))))))))) fun e128 h130 h131 h132 h133 h134 h135 h136 h137 h138 h139 => sN ?_)))))))))))))))))))))))))))))))))))))
  clear h78 h79 h80 h81 h82 h83 h84 h90 h91 h92 h93 h94 h95 h96 h97 h104 h105 h106 h107 h108 h109 h110 h111 h112 h119 h120 h121 h122 h123 h124 h125 h126 h127
  rcases ite_some h with ⟨hb140, h⟩ | ⟨hb140, h⟩
  ·obtain ⟨⟨r142, r143⟩, hx141, h⟩ := bind_some h
   obtain ⟨r225, hr226, h⟩ := bind_some h
   refine cT h139 hb140 (sq (Rg (kx (mvO h134) (kc (cl (v := .tup [.int .i64 r142, .int .i64 r143]) rfl rfl (cns rfl rfl) rfl (impl_ReadAmount_ok r100 _ hx141) nm) (kx (mvO rfl) (kx (exT rfl rfl) (kx (exT rfl rfl) (kx (mvO rfl) (kx (mvO rfl) (Rn (hA h130 (hA h131 (hA h132 (hA h135 (hN rfl (hN rfl (hA h136 (hA h137 (hA h138 hZ))))))))) fun e144 h146 h147 h148 h149 h150 h151 h152 h153 h154 => sN (sq (sq ?_))))))))))))
   clear h130 h131 h132 h133 h134 h135 h136 h137 h138 h139
   refine Ev.cut (Q1 := impl_readAccount_c3_Q a1 x34 s1_1 s1_2 s1_3 s1_4 r116 r142 i1_1 i1_2 r225) (by
       have h := hr226
       refine Rg (kx (mvO h151) (kx (bNeq rfl rfl) (kx (mvO rfl) ?_)))
       rcases ite_some h with ⟨hb155, h⟩ | ⟨hb155, h⟩
       ·refine kx (gsF rfl hb155) (kx (gsF rfl hb155) (kx (gsF rfl hb155) (kx (pkT rfl hb155 rfl) (Rn (hA h146 (hA h147 (hA h148 (hA h149 (hA h150 (hA h152 (hA h153 (hA h154 (hV (.bool true) rfl hZ))))))))) fun e156 h158 h159 h160 h161 h162 h163 h164 h165 h166 => ?_))))
        clear h146 h147 h148 h149 h150 h151 h152 h153 h154
        obtain rfl := si h
        exact kd (show impl_readAccount_c3_Q a1 x34 s1_1 s1_2 s1_3 s1_4 r116 r142 i1_1 i1_2 _ _ from ⟨rfl, h158, h159, h160, h161, h162, h163, h164, h165, h166, o74, o75⟩)
       refine kx (guF rfl hb155 (mvO h148)) (kx (guF rfl hb155 (lnL Tryd.underlying24 rfl o75 (by simp))) (kx (guF rfl hb155 (bEql rfl rfl)) (kx (pkF rfl hb155 rfl) (Rn (hA h146 (hA h147 (hA h148 (hA h149 (hA h150 (hA h152 (hA h153 (hA h154 (hN rfl hZ))))))))) fun e167 h169 h170 h171 h172 h173 h174 h175 h176 h177 => ?_))))
       clear h146 h147 h148 h149 h150 h151 h152 h153 h154
       obtain rfl := si h
       exact kd (show impl_readAccount_c3_Q a1 x34 s1_1 s1_2 s1_3 s1_4 r116 r142 i1_1 i1_2 _ _ from ⟨rfl, h169, h170, h171, h172, h173, h174, h175, h176, h177, o74, o75⟩)) ?_
   revert h hr226
   revert r225
   intro y180 hr226 h
   intro x e178 M179 hq224
   obtain ⟨rfl, h181, h182, h183, h184, h185, h186, h187, h188, h189, o190, o191⟩ := hq224
   refine sN ?_
   rcases ite_some h with ⟨hb192, h⟩ | ⟨hb192, h⟩
   ·refine cT h189 hb192 (sq (Rg (kx (bldT zero27 rfl (fill0 rfl)) (kw (stO h182 rfl o190 rfl rfl ⟨rfl, ble rfl⟩ rfl rfl) fun M193 hM194 => ?_))))
    have o195 : M193[i1_1]? = some (.live ⟨.box, 27, 3, [[.str ([] : List UInt8), .nils, .int .i64 0]]⟩) := set_same hM194 o190
    have o196 := set_ne hM194 (Ne.symm ne27) o191
    refine kx (mvO rfl) (kx (mvO rfl) (Rn (hV (.loc i1_1 1 0 0) h182 (hV (.int .i64 0) rfl (hV (.bool false) rfl hZ))) fun e197 h199 h200 h201 => sN (xx (sR (sR (bR (sR ?_)))))))
    clear h181 h182 h183 h184 h185 h186 h187 h188 h189
    obtain rfl := si h
    exact qR ⟨rfl, h199, h200, h201, o195⟩
   obtain ⟨x202, hx203, h⟩ := bind_some h
   refine cF h189 hb192 (xx (sN (sq (Rg (kx (mvO h183) (kx (mvO h184) (kx (cvI rfl) (kx (mvO h185) (kx (bldT zero42 (cns (pr3 rfl) (cns (pr3 rfl) rfl)) (fill1 ⟨rfl, ble rfl⟩ rfl rfl (fill1 ⟨rfl, ble rfl⟩ rfl rfl (fill0 rfl)))) (kx (litI (cns rfl rfl) rfl ⟨rfl, by decide⟩) (kw (apO rfl o191 rfl (elT (c := Item.c) (xs := [(Item.mk (IntKind.i8.wrap r116) r142)]) rfl) hx203 Item.fl (by decide)) fun M204 hM205 => ?_)))))))))))
   have o206 := set_ne hM205 ne27 o190
   have o207 : M204[i1_2]? = some (.live ⟨.grow, 42, 2, x202.map Item.c⟩) := set_same hM205 o191
   refine kx (mvO rfl) (Rn (hV (.sl none (a1.map cS)) h181 (hV (.loc i1_1 1 0 0) h182 (hV (.lsl i1_2 x202.length 0 x202.length) rfl (hV (.sl none (x34.map cS)) h186 (hV (.int .i64 (x34.length : Int)) h187 (hV (.int .i64 s1_1) h188 hZ)))))) fun e208 h210 h211 h212 h213 h214 h215 => sN (xx (sE (bE (sN (Rg (kx (bAdd h215 rfl) (kx (mvO rfl) (Rn (hA h210 (hA h211 (hA h212 (hA h213 (hA h214 (hN rfl hZ)))))) fun e216 h218 h219 h220 h221 h222 h223 => ?_)))))))))
   clear h181 h182 h184 h185 h186 h187 h188 h189 h210 h211 h212 h213 h214
   obtain rfl := si h
   exact qN ⟨h218, h219, h220, h221, h222, h223, o206, o207⟩
  obtain ⟨x227, hx228, h⟩ := bind_some h
  obtain ⟨q332, hx229, h⟩ := bind_some h
  refine cF h139 hb140 (xx (sN (sq (Rg (kx (mvO h130) (kx (ixS rfl rfl hx228 cS_fl) (kx (ldP rfl rfl) (kx (mvO h132) ?_))))))))
  rcases q332 with ⟨r230, r231, r232⟩ | r277
  ·refine kc (cl (v := .tup [.agg [.str r230, .sl (some 42) (r231.map Item.c), .int .i64 r232], .int .i64 0]) rfl rfl (cns rfl (cns rfl rfl)) (ra1 rfl (ra1 (ra1_row o75 rfl Item.fl) ra0)) (impl_MakeAccount_ok x227 s1_4 _ hx229) (fun _ => (own_tup (oa1 (own2_agg (oa1 rfl (oa1 (own1_row' (c := Item.c) Item.flF) (oa1 rfl oa0)))) (oa1 rfl oa0))))) (kx (mvO rfl) (kx (exT rfl rfl) (kx (exT rfl rfl) (ku (alO zero27) fun M234 hM235 => ?_))))
   have o236 := push_old hM235 o74
   have ne237 := ne_new o74
   have o238 := push_old hM235 o75
   have ne239 := ne_new o75
   have o240 : M234[M.length]? = some (.live ⟨.box, 27, 3, [[.str ([] : List UInt8), .nils, .int .i64 0]]⟩) := push_new hM235
   refine kw (stO rfl rfl o240 rfl rfl ⟨rfl, ble rfl⟩ rfl rfl) fun M241 hM242 => ?_
   have o243 := set_ne hM242 ne237 o236
   have o244 := set_ne hM242 ne239 o238
   have o245 : M241[M.length]? = some (.live ⟨.box, 27, 3, [[.str r230, .sl none (r231.map Item.c), .int .i64 r232]]⟩) := set_same hM242 o240
   obtain ⟨x253, hx254, h⟩ := bind_some h
   obtain ⟨r256, hx255, h⟩ := bind_some h
   obtain ⟨w257, hx258, h⟩ := bind_some h
   obtain ⟨r267, hx266, h⟩ := bind_some h
   refine kx (mvO rfl) (Rn (hA h130 (hA h131 (hA h133 (hV (.loc M.length 1 0 0) rfl (hV (.int .i64 0) rfl hZ))))) fun e246 h248 h249 h250 h251 h252 => sN (sq (Rg (kx (mvO h248) (kx (mvO h250) (kx (bAdd rfl rfl) (kx (slS rfl rfl (bnd1 rfl) hx254 cS_fl) (kc (cl (v := .str r256) rfl rfl (cns rfl (cns rfl rfl)) rfl (strings_Join_ok x253 ([10] : List UInt8) _ hx255) nm) (kx (sAdd rfl rfl hx258) (kx (mvO rfl) (Rn (hA h249 (hA h250 (hA h251 (hA h252 (hN rfl hZ))))) fun e259 h261 h262 h263 h264 h265 => sN (sq (Rd (kf (ldOA h263 o245 rfl rfl (ble rfl) rfl) (kf (mvO h262) (kf (bAdd rfl rfl) (kf (mvO h264) (kf (bEql rfl rfl) (kf (mvO rfl) (kf (guT rfl rfl (ldOA h263 o245 rfl rfl (ble rfl) rfl)) (fc (Ev.guT rfl rfl (cl (v := .str r267) rfl rfl (cns rfl rfl) rfl (impl_AccountText_ok (Account.mk r230 r231 r232) _ hx266) nm)) (kf (guT rfl rfl (mvO h265)) (kf (guT rfl rfl (sEql rfl rfl)) (kf (pkT rfl rfl rfl) (fZ (kw (stO h261 rfl o243 rfl rfl ⟨rfl, ble rfl⟩ rfl rfl) fun M268 hM269 => ?_))))))))))))))))))))))))))
   clear h130 h131 h132 h133 h134 h135 h136 h137 h138 h139 h248 h249 h250 h251 h252
   have o270 : M268[i1_1]? = some (.live ⟨.box, 27, 3, [[.str r230, .sl none (r231.map Item.c), .int .i64 r232]]⟩) := set_same hM269 o243
   have o271 := set_ne hM269 (Ne.symm ne237) o245
   refine kx (mvO rfl) (kx (mvO rfl) (Rn (hA h261 (hN rfl (hN rfl hZ))) fun e272 h274 h275 h276 => sN (xx (bR (sR ?_)))))
   clear h261 h262 h263 h264 h265
   obtain rfl := si h
   exact qR ⟨rfl, h274, h275, h276, o270⟩
  refine kc (cl (v := .tup [.agg [.str ([] : List UInt8), .nils, .int .i64 0], .int .i64 r277]) rfl rfl (cns rfl (cns rfl rfl)) (ra1 rfl (ra1 (ra1_row o75 rfl Item.fl) ra0)) (impl_MakeAccount_ok x227 s1_4 _ hx229) (fun _ => (own_tup (oa1 (own2_agg (oa1 rfl (oa1 rfl (oa1 rfl oa0)))) (oa1 rfl oa0))))) (kx (mvO rfl) (kx (exT rfl rfl) (kx (exT rfl rfl) (ku (alO zero27) fun M279 hM280 => ?_))))
  have o281 := push_old hM280 o74
  have ne282 := ne_new o74
  have o283 := push_old hM280 o75
  have ne284 := ne_new o75
  have o285 : M279[M.length]? = some (.live ⟨.box, 27, 3, [[.str ([] : List UInt8), .nils, .int .i64 0]]⟩) := push_new hM280
  refine kw (stO rfl rfl o285 rfl rfl ⟨rfl, ble rfl⟩ rfl rfl) fun M286 hM287 => ?_
  have o288 := set_ne hM287 ne282 o281
  have o289 := set_ne hM287 ne284 o283
  have o290 : M286[M.length]? = some (.live ⟨.box, 27, 3, [[.str ([] : List UInt8), .nils, .int .i64 0]]⟩) := set_same hM287 o285
  obtain ⟨x298, hx299, h⟩ := bind_some h
  obtain ⟨r301, hx300, h⟩ := bind_some h
  obtain ⟨w302, hx303, h⟩ := bind_some h
  refine kx (mvO rfl) (Rn (hA h130 (hA h131 (hA h133 (hV (.loc M.length 1 0 0) rfl (hN rfl hZ))))) fun e291 h293 h294 h295 h296 h297 => sN (sq (Rg (kx (mvO h293) (kx (mvO h295) (kx (bAdd rfl rfl) (kx (slS rfl rfl (bnd1 rfl) hx299 cS_fl) (kc (cl (v := .str r301) rfl rfl (cns rfl (cns rfl rfl)) rfl (strings_Join_ok x298 ([10] : List UInt8) _ hx300) nm) (kx (sAdd rfl rfl hx303) (kx (mvO rfl) (Rn (hA h294 (hA h295 (hA h296 (hA h297 (hN rfl hZ))))) fun e304 h306 h307 h308 h309 h310 => sN (sq (Rd (kf (ldOA h308 o290 rfl rfl (ble rfl) rfl) (kf (mvO h307) (kf (bAdd rfl rfl) (kf (mvO h309) (kf (bEql rfl rfl) (kf (mvO rfl) ?_)))))))))))))))))))
  clear h130 h131 h132 h133 h134 h135 h136 h137 h138 h139 h293 h294 h295 h296 h297
  rcases ite_some h with ⟨hb311, h⟩ | ⟨hb311, h⟩
  ·obtain ⟨r313, hx312, h⟩ := bind_some h
   refine kf (guT rfl hb311 (ldOA h308 o290 rfl rfl (ble rfl) rfl)) (fc (Ev.guT rfl hb311 (cl (v := .str r313) rfl rfl (cns rfl rfl) rfl (impl_AccountText_ok (Account.mk ([] : List UInt8) ([] : List Item) 0) _ hx312) nm)) (kf (guT rfl hb311 (mvO h310)) (kf (guT rfl hb311 (sEql rfl rfl)) (kf (pkT rfl hb311 rfl) (fZ (kw (stO h306 rfl o288 rfl rfl ⟨rfl, ble rfl⟩ rfl rfl) fun M314 hM315 => ?_))))))
   have o316 : M314[i1_1]? = some (.live ⟨.box, 27, 3, [[.str ([] : List UInt8), .nils, .int .i64 0]]⟩) := set_same hM315 o288
   have o317 := set_ne hM315 (Ne.symm ne282) o290
   refine kx (mvO rfl) (kx (mvO rfl) (Rn (hA h306 (hN rfl (hN rfl hZ))) fun e318 h320 h321 h322 => sN (xx (bR (sR ?_)))))
   clear h306 h307 h308 h309 h310
   obtain rfl := si h
   exact qR ⟨rfl, h320, h321, h322, o316⟩
  refine kf (gsT rfl hb311) (fc (Ev.gsT rfl hb311) (kf (gsT rfl hb311) (kf (gsT rfl hb311) (kf (pkF rfl hb311 rfl) (fZ (kw (stO h306 rfl o288 rfl rfl ⟨rfl, ble rfl⟩ rfl rfl) fun M323 hM324 => ?_))))))
  have o325 : M323[i1_1]? = some (.live ⟨.box, 27, 3, [[.str ([] : List UInt8), .nils, .int .i64 0]]⟩) := set_same hM324 o288
  have o326 := set_ne hM324 (Ne.symm ne282) o290
  refine kx (mvO rfl) (kx (mvO rfl) (Rn (hA h306 (hN rfl (hV (.bool false) rfl hZ))) fun e327 h329 h330 h331 => sN (xx (bR (sR ?_)))))
  clear h306 h307 h308 h309 h310
  obtain rfl := si h
  exact qR ⟨rfl, h329, h330, h331, o325⟩
 refine cF h84 hb85 (xx (sE ?_))
 obtain rfl := si h
 exact qE ⟨rfl, h79, o74, o75⟩
noncomputable def impl_readAccount (a1 : List (List UInt8)) : Option ((List UInt8) × (List Item) × Int × Int × Bool) :=
 if (decide ((a1.length : Int) < 2)) = true then
  some (([] : List UInt8), ([] : List Item), 0, 0, false)
 else
  (slc a1 1 (a1.length : Int)).bind fun x34 =>
  (Lw (impl_readAccount_b1 a1 x34) (0, ([] : List UInt8), 0, ([] : List Item))).bind fun r => match r with
  | (.inl (y338, y339, y340, y341)) =>
   some (y340, ([] : List Item), y341, y338, y339)
  | (.inr (.inl (y348, y349, y350, y351, y352))) =>
   some (y350, y351, y352, y348, y349)
  | (.inr (.inr (y359, y360, y361))) =>
   some (([] : List UInt8), ([] : List Item), 0, 0, false)
def impl_readAccount_enc (r : (List UInt8) × (List Item) × Int × Int × Bool) : AV := .tup [.agg [.str r.1, .sl none (r.2.1.map Item.c), .int .i64 r.2.2.1], .int .i64 r.2.2.2.1, .bool r.2.2.2.2]
theorem impl_readAccount_ok (a1 : List (List UInt8)) (r : (List UInt8) × (List Item) × Int × Int × Bool) (h : impl_readAccount a1 = some r) : Ev (fun k => CN k 49 [.sl none (a1.map cS)] []) (fun p => wkR (rRes p.2 p.1) = impl_readAccount_enc r) := by
 unfold impl_readAccount at h
 refine Ev.enter (F := fun k => f49 (CN k) k) (fun k => callN_eq rfl Tryd.func49 rfl rfl rfl (by decide +kernel) (f49_eq _ _)) (sq (Rg (ku (alO zero27) fun M2 hM3 => ?_)))
 have o4 : M2[([] : Mem).length]? = some (.live ⟨.box, 27, 3, [[.str ([] : List UInt8), .nils, .int .i64 0]]⟩) := push_new hM3
 refine kx (mvO rfl) (kx (mvO rfl) (Rn (hN rfl (hV (.loc ([] : Mem).length 1 0 0) rfl hZ)) fun e5 h7 h8 => sN (sq (sq (Rg (kx (mvO h7) (kx (lnS Tryd.underlying71 rfl) (kx (bLss rfl rfl) (Rn (hA h7 (hA h8 (hN rfl hZ))) fun e9 h11 h12 h13 => sN ?_)))))))))
 clear h7 h8
 rcases ite_some h with ⟨hb14, h⟩ | ⟨hb14, h⟩
 ·refine cT h13 hb14 (sq (Rg (kx (bldT zero27 rfl (fill0 rfl)) (kw (stO h12 rfl o4 rfl rfl ⟨rfl, ble rfl⟩ rfl rfl) fun M15 hM16 => ?_))))
  have o17 : M15[([] : Mem).length]? = some (.live ⟨.box, 27, 3, [[.str ([] : List UInt8), .nils, .int .i64 0]]⟩) := set_same hM16 o4
  refine kx (mvO rfl) (kx (mvO rfl) (Rn (hA h12 (hV (.int .i64 0) rfl (hV (.bool false) rfl hZ))) fun e18 h20 h21 h22 => sN (xx (sR ?_))))
  clear h11 h12 h13
  obtain rfl := si h
  exact eR (resC (ag := true) (sz := 3) ⟨by kernel_rfl, by kernel_rfl, by kernel_rfl⟩ (ldOA h20 o17 rfl rfl (ble rfl) rfl) (resT h21 (resT h22 res0))) (wkH (y := .tup [.agg [.str ([] : List UInt8), .nils, .int .i64 0], .int .i64 0, .bool false]) rfl rfl)
 refine cF h13 hb14 (xx (sN (sq (Rg (ku (litO (xs := ([] : List Item)) (c := Item.c) rfl rfl (by decide)) fun M24 hM25 => ?_)))))
 have o26 := push_old hM25 o4
 have ne27 := ne_new o4
 have o28 : M24[M2.length]? = some (.live ⟨.grow, 42, 2, ([] : List Item).map Item.c⟩) := push_new hM25
 obtain ⟨x34, hx35, h⟩ := bind_some h
 obtain ⟨r333, hr334, h⟩ := bind_some h
 refine kx (mvO rfl) (Rn (hA h11 (hA h12 (hV (.lsl M2.length ([] : List Item).length 0 ([] : List Item).length) rfl hZ))) fun e29 h31 h32 h33 => sN (sq (sq (Rg (kx (mvO h31) (kx (slS rfl (bnd1 rfl) rfl hx35 cS_fl) (kx (lnS Tryd.underlying71 rfl) (kx (mvO rfl) (Rn (hA h31 (hA h32 (hA h33 (hN rfl (hN rfl (hV (.int .i64 0) rfl hZ)))))) fun e36 h38 h39 h40 h41 h42 h43 => sN (bl ?_))))))))))
 clear h11 h12 h13 h31 h32 h33
 rcases r333 with ⟨y338, y339, y340, y341⟩ | ⟨⟨y348, y349, y350, y351, y352⟩ | ⟨y359, y360, y361⟩⟩
 ·refine Ev.loop (RS := impl_readAccount_b1_RS a1 x34 (([] : Mem).length) M2.length) (RR := impl_readAccount_b1_RR a1 x34 (([] : Mem).length) M2.length) (fun s r h e M hs => impl_readAccount_b1_ok a1 x34 (([] : Mem).length) M2.length ne27 s r h e M hs) hr334 ⟨h38, h39, h40, h41, h42, h43, o26, o28⟩ fun x e336 M337 hq335 => ?_
  obtain ⟨rfl, h342, h343, h344, o345⟩ := hq335
  refine bR (sR ?_)
  obtain rfl := si h
  exact eR (resC (ag := true) (sz := 3) ⟨by kernel_rfl, by kernel_rfl, by kernel_rfl⟩ (ldOA h342 o345 rfl rfl (ble rfl) rfl) (resT h343 (resT h344 res0))) (wkH (y := .tup [.agg [.str y340, .nils, .int .i64 y341], .int .i64 y338, .bool y339]) rfl rfl)
 ·refine Ev.loop (RS := impl_readAccount_b1_RS a1 x34 (([] : Mem).length) M2.length) (RR := impl_readAccount_b1_RR a1 x34 (([] : Mem).length) M2.length) (fun s r h e M hs => impl_readAccount_b1_ok a1 x34 (([] : Mem).length) M2.length ne27 s r h e M hs) hr334 ⟨h38, h39, h40, h41, h42, h43, o26, o28⟩ fun x e346 M347 hq335 => ?_
  obtain ⟨rfl, h353, h354, h355, o356⟩ := hq335
  refine bR (sR ?_)
  obtain rfl := si h
  exact eR (resC (ag := true) (sz := 3) ⟨by kernel_rfl, by kernel_rfl, by kernel_rfl⟩ (ldOA h353 o356 rfl rfl (ble rfl) rfl) (resT h354 (resT h355 res0))) (wkH (y := .tup [.agg [.str y350, .sl none (y351.map Item.c), .int .i64 y352], .int .i64 y348, .bool y349]) rfl rfl)
 refine Ev.loop (RS := impl_readAccount_b1_RS a1 x34 (([] : Mem).length) M2.length) (RR := impl_readAccount_b1_RR a1 x34 (([] : Mem).length) M2.length) (fun s r h e M hs => impl_readAccount_b1_ok a1 x34 (([] : Mem).length) M2.length ne27 s r h e M hs) hr334 ⟨h38, h39, h40, h41, h42, h43, o26, o28⟩ fun x e357 M358 hq335 => ?_
 obtain ⟨rfl, h362, o363, o364⟩ := hq335
 refine bE (sN (sq (Rg (kx (bldT zero27 rfl (fill0 rfl)) (kw (stO h362 rfl o363 rfl rfl ⟨rfl, ble rfl⟩ rfl rfl) fun M365 hM366 => ?_)))))
 have o367 : M365[([] : Mem).length]? = some (.live ⟨.box, 27, 3, [[.str ([] : List UInt8), .nils, .int .i64 0]]⟩) := set_same hM366 o363
 have o368 := set_ne hM366 (Ne.symm ne27) o364
 refine kx (mvO rfl) (kx (mvO rfl) (Rn (hV (.loc ([] : Mem).length 1 0 0) h362 (hV (.int .i64 0) rfl (hV (.bool false) rfl hZ))) fun e369 h371 h372 h373 => sN (xx ?_)))
 clear h362
 obtain rfl := si h
 exact eR (resC (ag := true) (sz := 3) ⟨by kernel_rfl, by kernel_rfl, by kernel_rfl⟩ (ldOA h371 o367 rfl rfl (ble rfl) rfl) (resT h372 (resT h373 res0))) (wkH (y := .tup [.agg [.str ([] : List UInt8), .nils, .int .i64 0], .int .i64 0, .bool false]) rfl rfl)
/-! ### loop.example/g01263/impl.linesOf (f48) -/
noncomputable def impl_linesOf (a1 : List UInt8) : Option (Unit ⊕ ((List (List UInt8)) × Bool)) :=
 if (a1 == ([] : List UInt8)) = true then
  some (.inl ())
 else
  (strings_Split a1 ([10] : List UInt8)).bind fun r14 =>
  (slc r14 0 (IntKind.i64.wrap ((r14.length : Int) - 1))).bind fun x22 =>
  (rd r14 (IntKind.i64.wrap ((r14.length : Int) - 1))).bind fun x24 =>
  some (.inr (x22, (x24 == ([] : List UInt8))))
def impl_linesOf_enc (r : Unit ⊕ ((List (List UInt8)) × Bool)) : AV :=
  match r with
  | (.inl g) => .tup [.nils, .bool true]
  | (.inr g) => .tup [.sl none (g.1.map cS), .bool g.2]
theorem impl_linesOf_ok (a1 : List UInt8) (r : Unit ⊕ ((List (List UInt8)) × Bool)) (h : impl_linesOf a1 = some r) : Ev (fun k => CN k 48 [.str a1] []) (fun p => rRes p.2 p.1 = impl_linesOf_enc r) := by
 unfold impl_linesOf at h
 refine Ev.enter (F := fun k => f48 (CN k) k) (fun k => callN_eq rfl Tryd.func48 rfl rfl rfl (by decide +kernel) (f48_eq _ _)) (sq (Rg (kx (mvO rfl) (kx (mvO rfl) (Rn (hN rfl hZ) fun e1 h3 => sN (sq (sq (Rg (kx (mvO h3) (kx (sEql rfl rfl) (Rn (hA h3 (hN rfl hZ)) fun e4 h6 h7 => sN ?_)))))))))))
 clear h3
 rcases ite_some h with ⟨hb8, h⟩ | ⟨hb8, h⟩
 ·refine cT h7 hb8 (sq (Rg (kx (mvO rfl) (kx (mvO rfl) (Rn (hV .nils rfl (hV (.bool true) rfl hZ)) fun e9 h11 h12 => sN (xx (sR ?_)))))))
  clear h6 h7
  obtain rfl := si h
  exact eR (resT h11 (resT h12 res0)) rfl
 obtain ⟨r14, hx13, h⟩ := bind_some h
 obtain ⟨x22, hx23, h⟩ := bind_some h
 obtain ⟨x24, hx25, h⟩ := bind_some h
 refine cF h7 hb8 (xx (sN (sq (Rg (kx (mvO h6) (kc (cl (v := .sl (some 9) (r14.map cS)) rfl rfl (cns rfl (cns rfl rfl)) rfl (strings_Split_ok a1 ([10] : List UInt8) _ hx13) nm) (kx (mvO rfl) (Rn (hN rfl hZ) fun e15 h17 => sN (sq (Rg (kx (mvO h17) (kx (lnS Tryd.underlying71 rfl) (kx (bSub rfl rfl) (kx (mvO rfl) (Rn (hA h17 (hN rfl hZ)) fun e18 h20 h21 => sN (sq (Rd (kf (mvO h20) (kf (mvO h21) (kf (slS rfl rfl (bnd1 rfl) hx23 cS_fl) (kf (mvO h20) (kf (mvO h21) (kf (ixS rfl rfl hx25 cS_fl) (kf (ldP rfl rfl) (kf (sEql rfl rfl) (kf (mvO rfl) (kf (mvO rfl) (fZ (Rn (hN rfl (hN rfl hZ)) fun e26 h28 h29 => sN (xx ?_))))))))))))))))))))))))))))))
 clear h6 h7 h17 h20 h21
 obtain rfl := si h
 exact eR (resT h28 (resT h29 res0)) rfl
/-! ### loop.example/g01263/spec.l05Account (f47) -/
noncomputable def spec_l05Account (a1 : List UInt8) (a2 : List Item) : Option ((List UInt8) × (List Item) × Int) :=
 (app 16 ([] : List Item) a2).bind fun x10 =>
 (spec_l05Balance a2).bind fun r13 =>
 some (a1, x10, r13)
def spec_l05Account_enc (r : (List UInt8) × (List Item) × Int) : AV := .agg [.str r.1, .sl (some 42) (r.2.1.map Item.c), .int .i64 r.2.2]
theorem spec_l05Account_ok (a1 : List UInt8) (a2 : List Item) (r : (List UInt8) × (List Item) × Int) (h : spec_l05Account a1 a2 = some r) : Ev (fun k => CN k 47 [.str a1, .sl none (a2.map Item.c)] []) (fun p => rRes p.2 p.1 = spec_l05Account_enc r) := by
 unfold spec_l05Account at h
 refine Ev.enter (F := fun k => f47 (CN k) k) (fun k => callN_eq rfl Tryd.func47 rfl rfl rfl (by decide +kernel) (f47_eq _ _)) (sq (Rg (ku (alO zero27) fun M2 hM3 => ?_)))
 have o4 : M2[([] : Mem).length]? = some (.live ⟨.box, 27, 3, [[.str ([] : List UInt8), .nils, .int .i64 0]]⟩) := push_new hM3
 obtain ⟨x10, hx11, h⟩ := bind_some h
 obtain ⟨r13, hx12, h⟩ := bind_some h
 refine Rn (hN rfl (hN rfl (hV (.loc ([] : Mem).length 1 0 0) rfl hZ))) fun e5 h7 h8 h9 => sN (sq (Rg (kx (mvO h7) (kx (litI rfl rfl ⟨rfl, by decide⟩) (kx (mvO h8) (kx (aiT (c := Item.c) (xs := ([] : List Item)) rfl (elS rfl) hx11 Item.fl (by decide)) (kx (mvO h8) (kc (cl (v := .int .i64 r13) rfl rfl (cns rfl rfl) rfl (spec_l05Balance_ok a2 _ hx12) nm) (kx (bldT zero27 (cns (pr3 rfl) (cns (pr3 rfl) (cns (pr3 rfl) rfl))) (fill1 ⟨rfl, ble rfl⟩ rfl rfl (fill1 ⟨rfl, ble rfl⟩ rfl rfl (fill1 ⟨rfl, ble rfl⟩ rfl rfl (fill0 rfl))))) (kw (stOK h9 rfl o4 rfl rfl ⟨rfl, ble rfl⟩ rfl rfl) fun M14 hM15 => ?_))))))))))
 have o16 : M14[([] : Mem).length]? = some (.live ⟨.box, 27, 3, [[.str a1, .sl (some 42) (x10.map Item.c), .int .i64 r13]]⟩) := set_same hM15 o4
 refine Rn (hA h9 hZ) fun e17 h19 => sN (xx ?_)
 clear h7 h8 h9
 obtain rfl := si h
 exact eR (resC (ag := true) (sz := 3) ⟨by kernel_rfl, by kernel_rfl, by kernel_rfl⟩ (ldOA h19 o16 rfl rfl (ble rfl) rfl) res0) rfl
/-! ### loop.example/g01263/spec.WorstDebtor (f39) -/
abbrev spec_WorstDebtor_b1_S := Int × Int × Int
abbrev spec_WorstDebtor_b1_R := Int
def spec_WorstDebtor_b1_RS (a1 : Roll) (s : spec_WorstDebtor_b1_S) (e : Env) (M : Mem) : Prop := eget e 1 = .pt none [.sl none (a1.Accounts.map Account.c), .int .i64 a1.Owed] ∧ eget e 4 = .int .i64 s.1 ∧ eget e 5 = .int .i64 s.2.1 ∧ eget e 6 = .int .i64 s.2.2
def spec_WorstDebtor_b1_RR (a1 : Roll) (g : spec_WorstDebtor_b1_R) (x : Ex) (e : Env) (M : Mem) : Prop := x = .ext 0 ∧ eget e 4 = .int .i64 g
noncomputable def spec_WorstDebtor_b1 (a1 : Roll) : spec_WorstDebtor_b1_S → Option (spec_WorstDebtor_b1_S ⊕ spec_WorstDebtor_b1_R) := fun (s1_1, s1_2, s1_3) =>
 if (decide (s1_3 < (a1.Accounts.length : Int))) = true then
  (rd a1.Accounts s1_3).bind fun x54 =>
  if (decide (x54.Balance > s1_2)) = true then
   (rd a1.Accounts s1_3).bind fun x69 =>
   some (.inl (s1_3, x69.Balance, (IntKind.i64.wrap (s1_3 + 1))))
  else
   some (.inl (s1_1, s1_2, (IntKind.i64.wrap (s1_3 + 1))))
 else
  some (.inr s1_1)
theorem spec_WorstDebtor_b1_ok (a1 : Roll) (s : spec_WorstDebtor_b1_S) (r : spec_WorstDebtor_b1_S ⊕ spec_WorstDebtor_b1_R) (h : spec_WorstDebtor_b1 a1 s = some r) (e : Env) (M : Mem) (hs : spec_WorstDebtor_b1_RS a1 s e M) : Ev (fun k => (f39_l6 (CN k) k (prune [1, 4, 5, 6] e) M).bind fun q => some q) (bQ (spec_WorstDebtor_b1_RS a1) (spec_WorstDebtor_b1_RR a1) r) := by
 obtain ⟨s1_1, s1_2, s1_3⟩ := s
 unfold spec_WorstDebtor_b1 at h
 obtain ⟨h38, h40, h42, h44⟩ := hs
 generalize he37 : prune [1, 4, 5, 6] e = e36
 have h39 := envp he37.symm rfl h38
 have h41 := envp he37.symm rfl h40
 have h43 := envp he37.symm rfl h42
 have h45 := envp he37.symm rfl h44
 refine sq (sq (Rg (kx (mvO h45) (kx (faP h39 ⟨ble rfl, blt rfl⟩ rfl) (kx (ldP rfl rfl) (kx (lnS Tryd.underlying72 rfl) (kx (bLss rfl rfl) (Rn (hV (.pt none [.sl none (a1.Accounts.map Account.c), .int .i64 a1.Owed]) h39 (hV (.int .i64 s1_1) h41 (hV (.int .i64 s1_2) h43 (hV (.int .i64 s1_3) h45 (hN rfl hZ))))) fun e46 h48 h49 h50 h51 h52 => sN ?_))))))))
 clear h39 h41 h43 h45
 rcases ite_some h with ⟨hb53, h⟩ | ⟨hb53, h⟩
 ·obtain ⟨x54, hx55, h⟩ := bind_some h
  refine cT h52 hb53 (xx (sN (sq (bl (sq (Rg (kx (faP h48 ⟨ble rfl, blt rfl⟩ rfl) (kx (ldP rfl rfl) (kx (mvO h51) (kx (ixS rfl rfl hx55 Account.fl) (kx (faP rfl ⟨ble rfl, blt rfl⟩ rfl) (kx (ldP rfl rfl) (kx (mvO h50) (kx (bGtr rfl rfl) (Rn (hA h48 (hA h49 (hA h50 (hA h51 (hN rfl hZ))))) fun e56 h58 h59 h60 h61 h62 => sN ?_)))))))))))))))
  clear h48 h49 h50 h51 h52
  rcases ite_some h with ⟨hb63, h⟩ | ⟨hb63, h⟩
  ·obtain ⟨x69, hx70, h⟩ := bind_some h
   refine cT h62 hb63 (sq (Rg (kx (mvO h61) (kx (mvO rfl) (Rn (hA h58 (hN rfl (hA h61 hZ))) fun e64 h66 h67 h68 => sN (Rg (kx (faP h66 ⟨ble rfl, blt rfl⟩ rfl) (kx (ldP rfl rfl) (kx (mvO h68) (kx (ixS rfl rfl hx70 Account.fl) (kx (faP rfl ⟨ble rfl, blt rfl⟩ rfl) (kx (ldP rfl rfl) (kx (mvO rfl) (Rn (hA h66 (hA h67 (hN rfl (hA h68 hZ)))) fun e71 h73 h74 h75 h76 => bN (sN (Rg (kx (mvO h76) (kx (bAdd rfl rfl) (kx (mvO rfl) (Rn (hA h73 (hA h74 (hA h75 (hN rfl hZ)))) fun e77 h79 h80 h81 h82 => ?_))))))))))))))))))))
   clear h58 h60 h61 h62 h66 h67 h68 h73 h74 h75
   obtain rfl := si h
   exact qN ⟨h79, h80, h81, h82⟩
  refine cF h62 hb63 (xx (bN (sN (Rg (kx (mvO h61) (kx (bAdd rfl rfl) (kx (mvO rfl) (Rn (hA h58 (hA h59 (hA h60 (hN rfl hZ)))) fun e83 h85 h86 h87 h88 => ?_))))))))
  clear h58 h59 h60 h62
  obtain rfl := si h
  exact qN ⟨h85, h86, h87, h88⟩
 refine cF h52 hb53 (xx (sE ?_))
 obtain rfl := si h
 exact qE ⟨rfl, h49⟩
noncomputable def spec_WorstDebtor (a1 : Roll) : Option (Int × Int) :=
 (spec_l05Roll a1).bind fun r5 =>
 if r5 = true then
  (Lw (spec_WorstDebtor_b1 a1) ((-1), 0, 0)).bind fun y94 =>
  if (decide (y94 < 0)) = true then
   some (0, 6)
  else
   some (y94, 0)
 else
  some (0, 1)
def spec_WorstDebtor_enc (r : Int × Int) : AV := .tup [.int .i64 r.1, .int .i64 r.2]
theorem spec_WorstDebtor_ok (a1 : Roll) (r : Int × Int) (h : spec_WorstDebtor a1 = some r) : Ev (fun k => CN k 39 [.agg [.sl none (a1.Accounts.map Account.c), .int .i64 a1.Owed]] []) (fun p => rRes p.2 p.1 = spec_WorstDebtor_enc r) := by
 unfold spec_WorstDebtor at h
 obtain ⟨r5, hx4, h⟩ := bind_some h
 refine Ev.enter (F := fun k => f39 (CN k) k) (fun k => callN_eq rfl Tryd.func39 rfl rfl rfl (by decide +kernel) (f39_eq _ _)) (sq (Rg (kx (bxI rfl rfl ⟨rfl, rfl, by decide⟩) (kx (mvO rfl) (kx (mvO rfl) (Rn (hN rfl hZ) fun e1 h3 => sN (sq (sq (Rg (kc (cl (v := .bool r5) rfl rfl (cns h3 rfl) rfl (spec_l05Roll_ok a1 _ hx4) nm) (kx (uNot rfl) (Rn (hA h3 (hN rfl hZ)) fun e6 h8 h9 => sN ?_))))))))))))
 clear h3
 rcases ite_some h with ⟨hb10, h⟩ | ⟨hb10, h⟩
 ·obtain ⟨y94, hr90, h⟩ := bind_some h
  refine cF h9 (congrArg Bool.not hb10) (xx (sN (sq (Rg (kx (mvO rfl) (Rn (hA h8 (hV (.int .i64 (-1)) rfl hZ)) fun e11 h13 h14 => sN (sq (Rg (kx (mvO rfl) (Rn (hA h13 (hA h14 (hV (.int .i64 0) rfl hZ))) fun e15 h17 h18 h19 => sN (sq (sq (Rg (kx (mvO rfl) (Rn (hA h17 (hA h18 (hA h19 (hV (.int .i64 0) rfl hZ)))) fun e20 h22 h23 h24 h25 => sN (bl (Ev.loop (RS := spec_WorstDebtor_b1_RS a1) (RR := spec_WorstDebtor_b1_RR a1) (fun s r h e M hs => spec_WorstDebtor_b1_ok a1 s r h e M hs) hr90 ⟨h22, h23, h24, h25⟩ fun x e92 M93 hq91 => ?_)))))))))))))))))
  clear h8 h9 h13 h14 h17 h18 h19
  obtain ⟨rfl, h95⟩ := hq91
  refine bE (sN (sq (sq (Rg (kx (mvO h95) (kx (bLss rfl rfl) (Rn (hV (.int .i64 y94) h95 (hN rfl hZ)) fun e96 h98 h99 => sN ?_)))))))
  clear h95
  rcases ite_some h with ⟨hb100, h⟩ | ⟨hb100, h⟩
  ·refine cT h99 hb100 (sq (Rg (kx (mvO rfl) (kx (mvO rfl) (Rn (hV (.int .i64 0) rfl (hV (.int .i64 6) rfl hZ)) fun e101 h103 h104 => sN (xx (sR ?_)))))))
   clear h98 h99
   obtain rfl := si h
   exact eR (resT h103 (resT h104 res0)) rfl
  refine cF h99 hb100 (xx (sN (sq (Rg (kx (mvO h98) (kx (mvO rfl) (kx (mvO rfl) (Rn (hN rfl (hV (.int .i64 0) rfl hZ)) fun e105 h107 h108 => sN (xx ?_)))))))))
  clear h98 h99
  obtain rfl := si h
  exact eR (resT h107 (resT h108 res0)) rfl
 refine cT h9 (congrArg Bool.not hb10) (sq (Rg (kx (mvO rfl) (kx (mvO rfl) (Rn (hV (.int .i64 0) rfl (hV (.int .i64 1) rfl hZ)) fun e109 h111 h112 => sN (xx (sR ?_)))))))
 clear h8 h9
 obtain rfl := si h
 exact eR (resT h111 (resT h112 res0)) rfl
/-! ### loop.example/g01263/impl.WorstDebtor (f38) -/
abbrev impl_WorstDebtor_b1_S := Int × Int × Int
abbrev impl_WorstDebtor_b1_R := Int
def impl_WorstDebtor_b1_RS (a1 : Roll) (s : impl_WorstDebtor_b1_S) (e : Env) (M : Mem) : Prop := eget e 4 = .int .i64 s.1 ∧ eget e 5 = .int .i64 s.2.1 ∧ eget e 12 = .sl none (a1.Accounts.map Account.c) ∧ eget e 13 = .int .i64 (a1.Accounts.length : Int) ∧ eget e 14 = .int .i64 s.2.2
def impl_WorstDebtor_b1_RR (a1 : Roll) (g : impl_WorstDebtor_b1_R) (x : Ex) (e : Env) (M : Mem) : Prop := x = .ext 0 ∧ eget e 4 = .int .i64 g
noncomputable def impl_WorstDebtor_b1 (a1 : Roll) : impl_WorstDebtor_b1_S → Option (impl_WorstDebtor_b1_S ⊕ impl_WorstDebtor_b1_R) := fun (s1_1, s1_2, s1_3) =>
 if (decide (s1_3 < (a1.Accounts.length : Int))) = true then
  (rd a1.Accounts s1_3).bind fun x56 =>
  if (decide (x56.Balance > s1_2)) = true then
   some (.inl (s1_3, x56.Balance, (IntKind.i64.wrap (s1_3 + 1))))
  else
   some (.inl (s1_1, s1_2, (IntKind.i64.wrap (s1_3 + 1))))
 else
  some (.inr s1_1)
theorem impl_WorstDebtor_b1_ok (a1 : Roll) (s : impl_WorstDebtor_b1_S) (r : impl_WorstDebtor_b1_S ⊕ impl_WorstDebtor_b1_R) (h : impl_WorstDebtor_b1 a1 s = some r) (e : Env) (M : Mem) (hs : impl_WorstDebtor_b1_RS a1 s e M) : Ev (fun k => (f38_l5 (CN k) k (prune [4, 5, 12, 13, 14] e) M).bind fun q => some q) (bQ (impl_WorstDebtor_b1_RS a1) (impl_WorstDebtor_b1_RR a1) r) := by
 obtain ⟨s1_1, s1_2, s1_3⟩ := s
 unfold impl_WorstDebtor_b1 at h
 obtain ⟨h37, h39, h41, h43, h45⟩ := hs
 generalize he36 : prune [4, 5, 12, 13, 14] e = e35
 have h38 := envp he36.symm rfl h37
 have h40 := envp he36.symm rfl h39
 have h42 := envp he36.symm rfl h41
 have h44 := envp he36.symm rfl h43
 have h46 := envp he36.symm rfl h45
 refine sq (Rg (kx (bLss h46 h44) (Rn (hV (.int .i64 s1_1) h38 (hV (.int .i64 s1_2) h40 (hV (.sl none (a1.Accounts.map Account.c)) h42 (hV (.int .i64 (a1.Accounts.length : Int)) h44 (hV (.int .i64 s1_3) h46 (hN rfl hZ)))))) fun e47 h49 h50 h51 h52 h53 h54 => sN (sq ?_))))
 clear h38 h40 h42 h44 h46
 rcases ite_some h with ⟨hb55, h⟩ | ⟨hb55, h⟩
 ·obtain ⟨x56, hx57, h⟩ := bind_some h
  refine cT h54 hb55 (xx (sN (sq (bl (sq (Rg (kx (mvO h53) (kx (ixS h51 h53 hx57 Account.fl) (kx (ldPA rfl rfl rfl) (ku (alO zero27) fun M59 hM60 => ?_))))))))))
  have o61 : M59[M.length]? = some (.live ⟨.box, 27, 3, [[.str ([] : List UInt8), .nils, .int .i64 0]]⟩) := push_new hM60
  refine kx (mvO rfl) (kw (stO rfl rfl o61 rfl rfl ⟨rfl, ble rfl⟩ rfl rfl) fun M62 hM63 => ?_)
  have o64 : M62[M.length]? = some (.live ⟨.box, 27, 3, [[.str x56.Title, .sl none (x56.Items.map Item.c), .int .i64 x56.Balance]]⟩) := set_same hM63 o61
  refine Rn (hA h49 (hA h50 (hN rfl (hV (.loc M.length 1 0 0) rfl (hA h51 (hA h52 (hA h53 hZ))))))) fun e65 h67 h68 h69 h70 h71 h72 h73 => sN (sq (Rg (kx (faO h70 o64 rfl) (kx (ldO rfl o64 rfl rfl rfl) (kx (mvO h68) (kx (bGtr rfl rfl) (Rn (hA h67 (hA h68 (hA h69 (hA h70 (hA h71 (hA h72 (hA h73 (hN rfl hZ)))))))) fun e74 h76 h77 h78 h79 h80 h81 h82 h83 => sN ?_)))))))
  clear h49 h50 h51 h52 h53 h54 h67 h68 h69 h70 h71 h72 h73
  rcases ite_some h with ⟨hb84, h⟩ | ⟨hb84, h⟩
  ·refine cT h83 hb84 (sq (Rg (kx (mvO h78) (kx (mvO rfl) (Rn (hN rfl (hA h79 (hA h80 (hA h81 (hA h82 hZ))))) fun e85 h87 h88 h89 h90 h91 => sN (Rg (kx (faO h88 o64 rfl) (kx (ldO rfl o64 rfl rfl rfl) (kx (mvO rfl) (Rn (hA h87 (hN rfl (hA h89 (hA h90 (hA h91 hZ))))) fun e92 h94 h95 h96 h97 h98 => bN (sN (Rg (kx (bAdd h98 rfl) (kx (mvO rfl) (Rn (hA h94 (hA h95 (hA h96 (hA h97 (hN rfl hZ))))) fun e99 h101 h102 h103 h104 h105 => ?_)))))))))))))))
   clear h77 h78 h79 h80 h81 h82 h83 h87 h88 h89 h90 h91 h94 h95 h96 h97
   obtain rfl := si h
   exact qN ⟨h101, h102, h103, h104, h105⟩
  refine cF h83 hb84 (xx (bN (sN (Rg (kx (bAdd h82 rfl) (kx (mvO rfl) (Rn (hA h76 (hA h77 (hA h80 (hA h81 (hN rfl hZ))))) fun e106 h108 h109 h110 h111 h112 => ?_)))))))
  clear h76 h77 h78 h79 h80 h81 h83
  obtain rfl := si h
  exact qN ⟨h108, h109, h110, h111, h112⟩
 refine cF h54 hb55 (xx (sE ?_))
 obtain rfl := si h
 exact qE ⟨rfl, h49⟩
noncomputable def impl_WorstDebtor (a1 : Roll) : Option (Int × Int) :=
 (impl_validRoll a1).bind fun r5 =>
 if r5 = true then
  (Lw (impl_WorstDebtor_b1 a1) ((-1), 0, 0)).bind fun y118 =>
  if (decide (y118 < 0)) = true then
   some (0, 6)
  else
   some (y118, 0)
 else
  some (0, 1)
def impl_WorstDebtor_enc (r : Int × Int) : AV := .tup [.int .i64 r.1, .int .i64 r.2]
theorem impl_WorstDebtor_ok (a1 : Roll) (r : Int × Int) (h : impl_WorstDebtor a1 = some r) : Ev (fun k => CN k 38 [.agg [.sl none (a1.Accounts.map Account.c), .int .i64 a1.Owed]] []) (fun p => rRes p.2 p.1 = impl_WorstDebtor_enc r) := by
 unfold impl_WorstDebtor at h
 obtain ⟨r5, hx4, h⟩ := bind_some h
 refine Ev.enter (F := fun k => f38 (CN k) k) (fun k => callN_eq rfl Tryd.func38 rfl rfl rfl (by decide +kernel) (f38_eq _ _)) (sq (Rg (kx (bxI rfl rfl ⟨rfl, rfl, by decide⟩) (kx (mvO rfl) (kx (mvO rfl) (Rn (hN rfl hZ) fun e1 h3 => sN (sq (sq (Rg (kx (ldPA h3 rfl rfl) (kc (cl (v := .bool r5) rfl rfl (cns rfl rfl) rfl (impl_validRoll_ok a1 _ hx4) nm) (kx (uNot rfl) (Rn (hA h3 (hN rfl hZ)) fun e6 h8 h9 => sN ?_)))))))))))))
 clear h3
 rcases ite_some h with ⟨hb10, h⟩ | ⟨hb10, h⟩
 ·obtain ⟨y118, hr114, h⟩ := bind_some h
  refine cF h9 (congrArg Bool.not hb10) (xx (sN (sq (Rg (kx (mvO rfl) (kx (mvO rfl) (Rn (hA h8 (hV (.int .i64 (-1)) rfl (hV (.int .i64 0) rfl hZ))) fun e11 h13 h14 h15 => sN (sq (sq (Rg (kx (faP h13 ⟨ble rfl, blt rfl⟩ rfl) (kx (ldP rfl rfl) (kx (lnS Tryd.underlying72 rfl) (kx (mvO rfl) (Rn (hA h14 (hA h15 (hN rfl (hN rfl (hV (.int .i64 0) rfl hZ))))) fun e16 h18 h19 h20 h21 h22 => sN (bl (Ev.loop (RS := impl_WorstDebtor_b1_RS a1) (RR := impl_WorstDebtor_b1_RR a1) (fun s r h e M hs => impl_WorstDebtor_b1_ok a1 s r h e M hs) hr114 ⟨h18, h19, h20, h21, h22⟩ fun x e116 M117 hq115 => ?_)))))))))))))))))
  clear h8 h9 h13 h14 h15
  obtain ⟨rfl, h119⟩ := hq115
  refine bE (sN (sq (sq (Rg (kx (mvO h119) (kx (bLss rfl rfl) (Rn (hV (.int .i64 y118) h119 (hN rfl hZ)) fun e120 h122 h123 => sN ?_)))))))
  clear h119
  rcases ite_some h with ⟨hb124, h⟩ | ⟨hb124, h⟩
  ·refine cT h123 hb124 (sq (Rg (kx (mvO rfl) (kx (mvO rfl) (Rn (hV (.int .i64 0) rfl (hV (.int .i64 6) rfl hZ)) fun e125 h127 h128 => sN (xx (sR ?_)))))))
   clear h122 h123
   obtain rfl := si h
   exact eR (resT h127 (resT h128 res0)) rfl
  refine cF h123 hb124 (xx (sN (sq (Rg (kx (mvO h122) (kx (mvO rfl) (kx (mvO rfl) (Rn (hN rfl (hV (.int .i64 0) rfl hZ)) fun e129 h131 h132 => sN (xx ?_)))))))))
  clear h122 h123
  obtain rfl := si h
  exact eR (resT h131 (resT h132 res0)) rfl
 refine cT h9 (congrArg Bool.not hb10) (sq (Rg (kx (mvO rfl) (kx (mvO rfl) (Rn (hV (.int .i64 0) rfl (hV (.int .i64 1) rfl hZ)) fun e133 h135 h136 => sN (xx (sR ?_)))))))
 clear h8 h9
 obtain rfl := si h
 exact eR (resT h135 (resT h136 res0)) rfl
/-! ### loop.example/g01263/impl.FindAccount$1 (f81) -/
noncomputable def impl_FindAccount_1 (a1 : Account) (a2 : List UInt8) : Option Bool :=
 some (a1.Title == a2)
def impl_FindAccount_1_enc (r : Bool) : AV := .bool r
theorem impl_FindAccount_1_ok (a1 : Account) (a2 : List UInt8) (r : Bool) (h : impl_FindAccount_1 a1 a2 = some r) : Ev (fun k => CN k 81 [.agg [.str a1.Title, .sl none (a1.Items.map Item.c), .int .i64 a1.Balance], .pt none [.str a2]] []) (fun p => rRes p.2 p.1 = impl_FindAccount_1_enc r) := by
 unfold impl_FindAccount_1 at h
 refine Ev.enter (F := fun k => f81 (CN k) k) (fun k => callN_eq rfl Tryd.func81 rfl rfl rfl (by decide +kernel) (f81_eq _ _)) (sq (Rg (kx (bxI rfl rfl ⟨rfl, rfl, by decide⟩) (kx (mvO rfl) (Rn (hN rfl (hN rfl hZ)) fun e1 h3 h4 => sN (sq (Rg (kx (faP h4 ⟨ble rfl, blt rfl⟩ rfl) (kx (ldP rfl rfl) (kx (ldP h3 rfl) (kx (sEql rfl rfl) (kx (mvO rfl) (Rn (hN rfl hZ) fun e5 h7 => sN (xx ?_))))))))))))))
 clear h3 h4
 obtain rfl := si h
 exact eR (resT h7 res0) rfl
/-! ### slices.IndexFunc[[]loop.example/g01263/impl.Account,loop.example/g01263/impl.Account] (f80) -/
abbrev slices_IndexFunc_Account__impl_FindAccount_1_b1_S := Int
abbrev slices_IndexFunc_Account__impl_FindAccount_1_b1_R := Int ⊕ Unit
def slices_IndexFunc_Account__impl_FindAccount_1_b1_RS (a1 : List Account) (a2 : List UInt8) (s : slices_IndexFunc_Account__impl_FindAccount_1_b1_S) (e : Env) (M : Mem) : Prop := eget e 0 = .sl none (a1.map Account.c) ∧ eget e 1 = .fn 81 [.pt none [.str a2]] ∧ eget e 7 = .int .i64 (a1.length : Int) ∧ eget e 8 = .int .i64 s
def slices_IndexFunc_Account__impl_FindAccount_1_b1_RR (a1 : List Account) (a2 : List UInt8) (r : slices_IndexFunc_Account__impl_FindAccount_1_b1_R) (x : Ex) (e : Env) (M : Mem) : Prop :=
  match r with
  | (.inl g) => x = .ret ∧ eget e 4 = .int .i64 g
  | (.inr g) => x = .ext 0 ∧ True
noncomputable def slices_IndexFunc_Account__impl_FindAccount_1_b1 (a1 : List Account) (a2 : List UInt8) : slices_IndexFunc_Account__impl_FindAccount_1_b1_S → Option (slices_IndexFunc_Account__impl_FindAccount_1_b1_S ⊕ slices_IndexFunc_Account__impl_FindAccount_1_b1_R) := fun s1_1 =>
 if (decide (s1_1 < (a1.length : Int))) = true then
  (rd a1 s1_1).bind fun x46 =>
  (impl_FindAccount_1 x46 a2).bind fun r49 =>
  if r49 = true then
   some (.inr (.inl s1_1))
  else
   some (.inl (IntKind.i64.wrap (s1_1 + 1)))
 else
  some (.inr (.inr ()))
theorem slices_IndexFunc_Account__impl_FindAccount_1_b1_ok (a1 : List Account) (a2 : List UInt8) (s : slices_IndexFunc_Account__impl_FindAccount_1_b1_S) (r : slices_IndexFunc_Account__impl_FindAccount_1_b1_S ⊕ slices_IndexFunc_Account__impl_FindAccount_1_b1_R) (h : slices_IndexFunc_Account__impl_FindAccount_1_b1 a1 a2 s = some r) (e : Env) (M : Mem) (hs : slices_IndexFunc_Account__impl_FindAccount_1_b1_RS a1 a2 s e M) : Ev (fun k => (f80_l2 (CN k) k (prune [0, 1, 7, 8] e) M).bind fun q => some q) (bQ (slices_IndexFunc_Account__impl_FindAccount_1_b1_RS a1 a2) (slices_IndexFunc_Account__impl_FindAccount_1_b1_RR a1 a2) r) := by
 revert h hs
 revert s
 intro s1_1 h hs
 unfold slices_IndexFunc_Account__impl_FindAccount_1_b1 at h
 obtain ⟨h23, h25, h27, h29⟩ := hs
 generalize he22 : prune [0, 1, 7, 8] e = e21
 have h24 := envp he22.symm rfl h23
 have h26 := envp he22.symm rfl h25
 have h28 := envp he22.symm rfl h27
 have h30 := envp he22.symm rfl h29
 refine sq (Rg (kx (bLss h30 h28) (Rn (hV (.sl none (a1.map Account.c)) h24 (hV (.fn 81 [.pt none [.str a2]]) h26 (hV (.int .i64 (a1.length : Int)) h28 (hV (.int .i64 s1_1) h30 (hN rfl hZ))))) fun e31 h33 h34 h35 h36 h37 => sN (sq ?_))))
 clear h24 h26 h28 h30
 rcases ite_some h with ⟨hb38, h⟩ | ⟨hb38, h⟩
 ·obtain ⟨x46, hx47, h⟩ := bind_some h
  obtain ⟨r49, hx48, h⟩ := bind_some h
  refine cT h37 hb38 (xx (sN (sq (bl (sq (Rg (kx (mvO h36) (kx (mvO rfl) (Rn (hA h33 (hA h34 (hN rfl (hA h35 (hA h36 hZ))))) fun e39 h41 h42 h43 h44 h45 => sN (sq (Rg (kx (mvO h42) (kx (mvO h41) (kx (mvO h43) (kx (ixS rfl rfl hx47 Account.fl) (kx (ldPA rfl rfl rfl) (kc (cl (v := .bool r49) rfl rfl (cns rfl (cns rfl rfl)) rfl (impl_FindAccount_1_ok x46 a2 _ hx48) nm) (Rn (hA h41 (hA h42 (hA h43 (hA h44 (hA h45 (hN rfl hZ)))))) fun e50 h52 h53 h54 h55 h56 h57 => sN ?_))))))))))))))))))
  clear h33 h34 h35 h36 h37 h41 h42 h43 h44 h45
  rcases ite_some h with ⟨hb58, h⟩ | ⟨hb58, h⟩
  ·refine cT h57 hb58 (sq (Rg (kx (mvO h54) (kx (mvO rfl) (Rn (hN rfl hZ) fun e59 h61 => sN (xx (bR (sR ?_))))))))
   clear h52 h53 h54 h55 h56 h57
   obtain rfl := si h
   exact qR ⟨rfl, h61⟩
  refine cF h57 hb58 (xx (bN (sN (Rg (kx (bAdd h56 rfl) (kx (mvO rfl) (Rn (hA h52 (hA h53 (hA h55 (hN rfl hZ)))) fun e62 h64 h65 h66 h67 => ?_)))))))
  clear h52 h53 h54 h55 h57
  obtain rfl := si h
  exact qN ⟨h64, h65, h66, h67⟩
 refine cF h37 hb38 (xx (sE ?_))
 obtain rfl := si h
 exact qE ⟨rfl, trivial⟩
noncomputable def slices_IndexFunc_Account__impl_FindAccount_1 (a1 : List Account) (a2 : List UInt8) : Option Int :=
 (Lw (slices_IndexFunc_Account__impl_FindAccount_1_b1 a1 a2) 0).bind fun r => match r with
 | (.inl y73) =>
  some y73
 | (.inr _) =>
  some (-1)
def slices_IndexFunc_Account__impl_FindAccount_1_enc (r : Int) : AV := .int .i64 r
theorem slices_IndexFunc_Account__impl_FindAccount_1_ok (a1 : List Account) (a2 : List UInt8) (r : Int) (h : slices_IndexFunc_Account__impl_FindAccount_1 a1 a2 = some r) : Ev (fun k => CN k 80 [.sl none (a1.map Account.c), .fn 81 [.pt none [.str a2]]] []) (fun p => rRes p.2 p.1 = slices_IndexFunc_Account__impl_FindAccount_1_enc r) := by
 unfold slices_IndexFunc_Account__impl_FindAccount_1 at h
 obtain ⟨r68, hr69, h⟩ := bind_some h
 refine Ev.enter (F := fun k => f80 (CN k) k) (fun k => callN_eq rfl Tryd.func80 rfl rfl rfl (by decide +kernel) (f80_eq _ _)) (sq (Rg (kx (mvO rfl) (Rn (hN rfl (hV (.fn 81 [.pt none [.str a2]]) rfl hZ)) fun e1 h3 h4 => sN (sq (sq (Rg (kx (mvO h3) (kx (lnS Tryd.underlying72 rfl) (kx (mvO rfl) (Rn (hA h3 (hA h4 (hN rfl (hV (.int .i64 0) rfl hZ)))) fun e5 h7 h8 h9 h10 => sN (bl ?_))))))))))))
 clear h3 h4
 rcases r68 with y73 | _
 ·refine Ev.loop (RS := slices_IndexFunc_Account__impl_FindAccount_1_b1_RS a1 a2) (RR := slices_IndexFunc_Account__impl_FindAccount_1_b1_RR a1 a2) (fun s r h e M hs => slices_IndexFunc_Account__impl_FindAccount_1_b1_ok a1 a2 s r h e M hs) hr69 ⟨h7, h8, h9, h10⟩ fun x e71 M72 hq70 => ?_
  obtain ⟨rfl, h74⟩ := hq70
  refine bR (sR ?_)
  obtain rfl := si h
  exact eR (resT h74 res0) rfl
 refine Ev.loop (RS := slices_IndexFunc_Account__impl_FindAccount_1_b1_RS a1 a2) (RR := slices_IndexFunc_Account__impl_FindAccount_1_b1_RR a1 a2) (fun s r h e M hs => slices_IndexFunc_Account__impl_FindAccount_1_b1_ok a1 a2 s r h e M hs) hr69 ⟨h7, h8, h9, h10⟩ fun x e75 M76 hq70 => ?_
 obtain ⟨rfl, _⟩ := hq70
 refine bE (sN (sq (Rg (kx (mvO rfl) (Rn (hV (.int .i64 (-1)) rfl hZ) fun e77 h79 => sN (xx ?_))))))
 obtain rfl := si h
 exact eR (resT h79 res0) rfl
/-! ### loop.example/g01263/impl.FindAccount (f37) -/
noncomputable def impl_FindAccount (a1 : Roll) (a2 : List UInt8) : Option (Int × Int) :=
 (impl_validRoll a1).bind fun r6 =>
 if r6 = true then
  (slices_IndexFunc_Account__impl_FindAccount_1 a1.Accounts a2).bind fun r14 =>
  if (decide (r14 < 0)) = true then
   some (0, 6)
  else
   some (r14, 0)
 else
  some (0, 1)
def impl_FindAccount_enc (r : Int × Int) : AV := .tup [.int .i64 r.1, .int .i64 r.2]
theorem impl_FindAccount_ok (a1 : Roll) (a2 : List UInt8) (r : Int × Int) (h : impl_FindAccount a1 a2 = some r) : Ev (fun k => CN k 37 [.agg [.sl none (a1.Accounts.map Account.c), .int .i64 a1.Owed], .str a2] []) (fun p => rRes p.2 p.1 = impl_FindAccount_enc r) := by
 unfold impl_FindAccount at h
 obtain ⟨r6, hx5, h⟩ := bind_some h
 refine Ev.enter (F := fun k => f37 (CN k) k) (fun k => callN_eq rfl Tryd.func37 rfl rfl rfl (by decide +kernel) (f37_eq _ _)) (sq (Rg (kx (bxI rfl rfl ⟨rfl, rfl, by decide⟩) (kx (bxI rfl rfl ⟨rfl, rfl, by decide⟩) (kx (mvO rfl) (kx (mvO rfl) (Rn (hN rfl (hN rfl hZ)) fun e1 h3 h4 => sN (sq (sq (Rg (kx (ldPA h3 rfl rfl) (kc (cl (v := .bool r6) rfl rfl (cns rfl rfl) rfl (impl_validRoll_ok a1 _ hx5) nm) (kx (uNot rfl) (Rn (hA h3 (hA h4 (hN rfl hZ))) fun e7 h9 h10 h11 => sN ?_))))))))))))))
 clear h3 h4
 rcases ite_some h with ⟨hb12, h⟩ | ⟨hb12, h⟩
 ·obtain ⟨r14, hx13, h⟩ := bind_some h
  refine cF h11 (congrArg Bool.not hb12) (xx (sN (sq (Rg (kx (faP h9 ⟨ble rfl, blt rfl⟩ rfl) (kx (ldP rfl rfl) (kx (mvO (congrArg (AV.fn 81) (cns h10 rfl))) (kc (cl (v := .int .i64 r14) rfl rfl (cns rfl (cns rfl rfl)) rfl (slices_IndexFunc_Account__impl_FindAccount_1_ok a1.Accounts a2 _ hx13) nm) (kx (mvO rfl) (Rn (hN rfl hZ) fun e15 h17 => sN (sq (sq (Rg (kx (mvO h17) (kx (bLss rfl rfl) (Rn (hA h17 (hN rfl hZ)) fun e18 h20 h21 => sN ?_))))))))))))))))
  clear h10 h11 h9 h17
  rcases ite_some h with ⟨hb22, h⟩ | ⟨hb22, h⟩
  ·refine cT h21 hb22 (sq (Rg (kx (mvO rfl) (kx (mvO rfl) (Rn (hV (.int .i64 0) rfl (hV (.int .i64 6) rfl hZ)) fun e23 h25 h26 => sN (xx (sR ?_)))))))
   clear h20 h21
   obtain rfl := si h
   exact eR (resT h25 (resT h26 res0)) rfl
  refine cF h21 hb22 (xx (sN (sq (Rg (kx (mvO h20) (kx (mvO rfl) (kx (mvO rfl) (Rn (hN rfl (hV (.int .i64 0) rfl hZ)) fun e27 h29 h30 => sN (xx ?_)))))))))
  clear h20 h21
  obtain rfl := si h
  exact eR (resT h29 (resT h30 res0)) rfl
 refine cT h11 (congrArg Bool.not hb12) (sq (Rg (kx (mvO rfl) (kx (mvO rfl) (Rn (hV (.int .i64 0) rfl (hV (.int .i64 1) rfl hZ)) fun e31 h33 h34 => sN (xx (sR ?_)))))))
 clear h10 h11 h9
 obtain rfl := si h
 exact eR (resT h33 (resT h34 res0)) rfl
/-! ### loop.example/g01263/impl.RollText (f36) -/
def impl_RollText_c1_Q (a1 : Roll) (g : Bool) (q : Out) : Prop := q.1 = .nrm ∧ eget q.2.1 1 = .pt none [.sl none (a1.Accounts.map Account.c), .int .i64 a1.Owed] ∧ eget q.2.1 15 = .bool g
abbrev impl_RollText_b1_S := (List UInt8) × Int
abbrev impl_RollText_b1_R := Unit ⊕ ((List UInt8))
def impl_RollText_b1_RS (a1 : Roll) (s : impl_RollText_b1_S) (e : Env) (M : Mem) : Prop := eget e 1 = .pt none [.sl none (a1.Accounts.map Account.c), .int .i64 a1.Owed] ∧ eget e 3 = .str s.1 ∧ eget e 17 = .sl none (a1.Accounts.map Account.c) ∧ eget e 18 = .int .i64 (a1.Accounts.length : Int) ∧ eget e 19 = .int .i64 s.2
def impl_RollText_b1_RR (a1 : Roll) (r : impl_RollText_b1_R) (x : Ex) (e : Env) (M : Mem) : Prop :=
  match r with
  | (.inl g) => x = .ret ∧ eget e 2 = .str ([] : List UInt8)
  | (.inr g) => x = .ext 0 ∧ eget e 1 = .pt none [.sl none (a1.Accounts.map Account.c), .int .i64 a1.Owed] ∧ eget e 3 = .str g
noncomputable def impl_RollText_b1 (a1 : Roll) : impl_RollText_b1_S → Option (impl_RollText_b1_S ⊕ impl_RollText_b1_R) := fun (s1_1, s1_2) =>
 if (decide (s1_2 < (a1.Accounts.length : Int))) = true then
  (rd a1.Accounts s1_2).bind fun x70 =>
  (impl_AccountText x70).bind fun r88 =>
  if (r88 == ([] : List UInt8)) = true then
   some (.inr (.inl ()))
  else
   (sadd s1_1 r88).bind fun w110 =>
   some (.inl (w110, (IntKind.i64.wrap (s1_2 + 1))))
 else
  some (.inr (.inr s1_1))
theorem impl_RollText_b1_ok (a1 : Roll) (s : impl_RollText_b1_S) (r : impl_RollText_b1_S ⊕ impl_RollText_b1_R) (h : impl_RollText_b1 a1 s = some r) (e : Env) (M : Mem) (hs : impl_RollText_b1_RS a1 s e M) : Ev (fun k => (f36_l5 (CN k) k (prune [1, 3, 17, 18, 19] e) M).bind fun q => some q) (bQ (impl_RollText_b1_RS a1) (impl_RollText_b1_RR a1) r) := by
 obtain ⟨s1_1, s1_2⟩ := s
 unfold impl_RollText_b1 at h
 obtain ⟨h51, h53, h55, h57, h59⟩ := hs
 generalize he50 : prune [1, 3, 17, 18, 19] e = e49
 have h52 := envp he50.symm rfl h51
 have h54 := envp he50.symm rfl h53
 have h56 := envp he50.symm rfl h55
 have h58 := envp he50.symm rfl h57
 have h60 := envp he50.symm rfl h59
 refine sq (Rg (kx (bLss h60 h58) (Rn (hV (.pt none [.sl none (a1.Accounts.map Account.c), .int .i64 a1.Owed]) h52 (hV (.str s1_1) h54 (hV (.sl none (a1.Accounts.map Account.c)) h56 (hV (.int .i64 (a1.Accounts.length : Int)) h58 (hV (.int .i64 s1_2) h60 (hN rfl hZ)))))) fun e61 h63 h64 h65 h66 h67 h68 => sN (sq ?_))))
 clear h52 h54 h56 h58 h60
 rcases ite_some h with ⟨hb69, h⟩ | ⟨hb69, h⟩
 ·obtain ⟨x70, hx71, h⟩ := bind_some h
  refine cT h68 hb69 (xx (sN (sq (bl (sq (Rg (kx (ixS h65 h67 hx71 Account.fl) (kx (ldPA rfl rfl rfl) (ku (alO zero27) fun M73 hM74 => ?_)))))))))
  have o75 : M73[M.length]? = some (.live ⟨.box, 27, 3, [[.str ([] : List UInt8), .nils, .int .i64 0]]⟩) := push_new hM74
  refine kw (stO rfl rfl o75 rfl rfl ⟨rfl, ble rfl⟩ rfl rfl) fun M76 hM77 => ?_
  have o78 : M76[M.length]? = some (.live ⟨.box, 27, 3, [[.str x70.Title, .sl none (x70.Items.map Item.c), .int .i64 x70.Balance]]⟩) := set_same hM77 o75
  obtain ⟨r88, hx87, h⟩ := bind_some h
  refine Rn (hA h63 (hA h64 (hV (.loc M.length 1 0 0) rfl (hA h65 (hA h66 (hA h67 hZ)))))) fun e79 h81 h82 h83 h84 h85 h86 => sN (sq (Rg (kx (ldOA h83 o78 rfl rfl (ble rfl) rfl) (kc (cl (v := .str r88) rfl rfl (cns rfl rfl) rfl (impl_AccountText_ok x70 _ hx87) nm) (kx (mvO rfl) (Rn (hA h81 (hA h82 (hN rfl (hA h84 (hA h85 (hA h86 hZ)))))) fun e89 h91 h92 h93 h94 h95 h96 => sN (sq (sq (Rg (kx (mvO h93) (kx (sEql rfl rfl) (Rn (hA h91 (hA h92 (hA h93 (hA h94 (hA h95 (hA h96 (hN rfl hZ))))))) fun e97 h99 h100 h101 h102 h103 h104 h105 => sN ?_))))))))))))
  clear h63 h64 h65 h66 h67 h68 h81 h82 h83 h84 h85 h86 h91 h92 h93 h94 h95 h96
  rcases ite_some h with ⟨hb106, h⟩ | ⟨hb106, h⟩
  ·refine cT h105 hb106 (sq (Rg (kx (mvO rfl) (Rn (hN rfl hZ) fun e107 h109 => sN (xx (sR (bR (sR ?_))))))))
   clear h100 h101 h102 h103 h104 h105 h99
   obtain rfl := si h
   exact qR ⟨rfl, h109⟩
  obtain ⟨w110, hx111, h⟩ := bind_some h
  refine cF h105 hb106 (xx (sN (Rg (kx (mvO h100) (kx (mvO h101) (kx (sAdd rfl rfl hx111) (kx (mvO rfl) (Rn (hA h99 (hN rfl (hA h102 (hA h103 (hA h104 hZ))))) fun e112 h114 h115 h116 h117 h118 => bN (sN (Rg (kx (bAdd h118 rfl) (kx (mvO rfl) (Rn (hA h114 (hA h115 (hA h116 (hA h117 (hN rfl hZ))))) fun e119 h121 h122 h123 h124 h125 => ?_)))))))))))))
  clear h101 h102 h103 h104 h105 h99 h114 h115 h116 h117
  obtain rfl := si h
  exact qN ⟨h121, h122, h123, h124, h125⟩
 refine cF h68 hb69 (xx (sE ?_))
 obtain rfl := si h
 exact qE ⟨rfl, h63, h64⟩
noncomputable def impl_RollText (a1 : Roll) : Option ((List UInt8)) :=
 ((impl_validRoll a1).bind fun r5 =>
 if r5 = true then
  (impl_isAmount a1.Owed).bind fun r8 =>
  some (!r8)
 else
  some true).bind fun y19 =>
 if y19 = true then
  some ([] : List UInt8)
 else
  (Lw (impl_RollText_b1 a1) (([] : List UInt8), 0)).bind fun r => match r with
  | (.inl _) =>
   some ([] : List UInt8)
  | (.inr y134) =>
   (sadd y134 ([111, 119, 101, 100, 32] : List UInt8)).bind fun w137 =>
   (impl_AmountText a1.Owed).bind fun r140 =>
   (sadd w137 r140).bind fun w141 =>
   (sadd w141 ([10] : List UInt8)).bind fun w143 =>
   some w143
def impl_RollText_enc (r : (List UInt8)) : AV := .str r
theorem impl_RollText_ok (a1 : Roll) (r : (List UInt8)) (h : impl_RollText a1 = some r) : Ev (fun k => CN k 36 [.agg [.sl none (a1.Accounts.map Account.c), .int .i64 a1.Owed]] []) (fun p => rRes p.2 p.1 = impl_RollText_enc r) := by
 unfold impl_RollText at h
 obtain ⟨r149, hr150, h⟩ := bind_some h
 refine Ev.enter (F := fun k => f36 (CN k) k) (fun k => callN_eq rfl Tryd.func36 rfl rfl rfl (by decide +kernel) (f36_eq _ _)) (sq (Rg (kx (bxI rfl rfl ⟨rfl, rfl, by decide⟩) (kx (mvO rfl) (Rn (hN rfl hZ) fun e1 h3 => sN (sq (sq ?_)))))))
 refine Ev.cut (Q1 := impl_RollText_c1_Q a1 r149) (by
     have h := hr150
     obtain ⟨r5, hx4, h⟩ := bind_some h
     refine Rg (kx (ldPA h3 rfl rfl) (kc (cl (v := .bool r5) rfl rfl (cns rfl rfl) rfl (impl_validRoll_ok a1 _ hx4) nm) (kx (uNot rfl) (kx (mvO rfl) ?_))))
     rcases ite_some h with ⟨hb6, h⟩ | ⟨hb6, h⟩
     ·obtain ⟨r8, hx7, h⟩ := bind_some h
      refine kx (guF rfl (congrArg Bool.not hb6) (faP h3 ⟨ble rfl, blt rfl⟩ rfl)) (kx (guF rfl (congrArg Bool.not hb6) (ldP rfl rfl)) (kc (Ev.guF rfl (congrArg Bool.not hb6) (cl (v := .bool r8) rfl rfl (cns rfl rfl) rfl (impl_isAmount_ok a1.Owed _ hx7) nm)) (kx (guF rfl (congrArg Bool.not hb6) (uNot rfl)) (kx (pkF rfl (congrArg Bool.not hb6) rfl) (Rn (hA h3 (hN rfl hZ)) fun e9 h11 h12 => ?_)))))
      clear h3
      obtain rfl := si h
      exact kd (show impl_RollText_c1_Q a1 _ _ from ⟨rfl, h11, h12⟩)
     refine kx (gsF rfl (congrArg Bool.not hb6)) (kx (gsF rfl (congrArg Bool.not hb6)) (kc (Ev.gsF rfl (congrArg Bool.not hb6)) (kx (gsF rfl (congrArg Bool.not hb6)) (kx (pkT rfl (congrArg Bool.not hb6) rfl) (Rn (hA h3 (hV (.bool true) rfl hZ)) fun e13 h15 h16 => ?_)))))
     clear h3
     obtain rfl := si h
     exact kd (show impl_RollText_c1_Q a1 _ _ from ⟨rfl, h15, h16⟩)) ?_
 revert h hr150
 revert r149
 intro y19 hr150 h
 intro x e17 M18 hq148
 obtain ⟨rfl, h20, h21⟩ := hq148
 refine sN ?_
 rcases ite_some h with ⟨hb22, h⟩ | ⟨hb22, h⟩
 ·refine cT h21 hb22 (sq (Rg (kx (mvO rfl) (Rn (hN rfl hZ) fun e23 h25 => sN (xx (sR ?_))))))
  clear h20 h21
  obtain rfl := si h
  exact eR (resT h25 res0) rfl
 obtain ⟨r126, hr127, h⟩ := bind_some h
 refine cF h21 hb22 (xx (sN (sq (Rg (kx (mvO rfl) (Rn (hV (.pt none [.sl none (a1.Accounts.map Account.c), .int .i64 a1.Owed]) h20 (hN rfl hZ)) fun e26 h28 h29 => sN (sq (sq (Rg (kx (faP h28 ⟨ble rfl, blt rfl⟩ rfl) (kx (ldP rfl rfl) (kx (lnS Tryd.underlying72 rfl) (kx (mvO rfl) (Rn (hA h28 (hA h29 (hN rfl (hN rfl (hV (.int .i64 0) rfl hZ))))) fun e30 h32 h33 h34 h35 h36 => sN (bl ?_)))))))))))))))
 clear h20 h21 h28 h29
 rcases r126 with _ | y134
 ·refine Ev.loop (RS := impl_RollText_b1_RS a1) (RR := impl_RollText_b1_RR a1) (fun s r h e M hs => impl_RollText_b1_ok a1 s r h e M hs) hr127 ⟨h32, h33, h34, h35, h36⟩ fun x e129 M130 hq128 => ?_
  obtain ⟨rfl, h131⟩ := hq128
  refine bR (sR ?_)
  obtain rfl := si h
  exact eR (resT h131 res0) rfl
 refine Ev.loop (RS := impl_RollText_b1_RS a1) (RR := impl_RollText_b1_RR a1) (fun s r h e M hs => impl_RollText_b1_ok a1 s r h e M hs) hr127 ⟨h32, h33, h34, h35, h36⟩ fun x e132 M133 hq128 => ?_
 obtain ⟨rfl, h135, h136⟩ := hq128
 obtain ⟨w137, hx138, h⟩ := bind_some h
 obtain ⟨r140, hx139, h⟩ := bind_some h
 obtain ⟨w141, hx142, h⟩ := bind_some h
 obtain ⟨w143, hx144, h⟩ := bind_some h
 refine bE (sN (sq (Rg (kx (mvO h136) (kx (sAdd rfl rfl hx138) (kx (faP h135 ⟨ble rfl, blt rfl⟩ rfl) (kx (ldP rfl rfl) (kc (cl (v := .str r140) rfl rfl (cns rfl rfl) rfl (impl_AmountText_ok a1.Owed _ hx139) nm) (kx (sAdd rfl rfl hx142) (kx (sAdd rfl rfl hx144) (kx (mvO rfl) (Rn (hN rfl hZ) fun e145 h147 => sN (xx ?_)))))))))))))
 clear h135 h136
 obtain rfl := si h
 exact eR (resT h147 res0) rfl
end Go.Proofs.YtjlalepbhcekoaaDoor

/- Printed by a program of ours (ext.py). -/
import Derived.Test.YtjlalepbhcekoaaDoorLnkTwicex0
set_option linter.unusedVariables false
set_option linter.unusedSimpArgs false
set_option maxRecDepth 100000
set_option maxHeartbeats 20000000
namespace Go.Proofs.YtjlalepbhcekoaaDoor
open Go Go.Ab
/-! ### loop.example/g01263/impl.common (f62) -/
abbrev impl_common_b1_S := Int
abbrev impl_common_b1_R := Int
def impl_common_b1_RS (a1 : Chain) (a2 : Chain) (s : impl_common_b1_S) (e : Env) (M : Mem) : Prop := eget e 2 = .pt none (.str a1.Debtor :: (.bool a1.Stock.Stock :: (.sl none (a1.Stock.Notches.map Notch.c) :: ((arC (cI .i8) 0 a1.Stock.Grain) ++ ((.sl none (a1.Marks.map Mark.c) :: []) : List AV))))) ∧ eget e 3 = .pt none (.str a2.Debtor :: (.bool a2.Stock.Stock :: (.sl none (a2.Stock.Notches.map Notch.c) :: ((arC (cI .i8) 0 a2.Stock.Grain) ++ ((.sl none (a2.Marks.map Mark.c) :: []) : List AV))))) ∧ eget e 5 = .int .i64 s
def impl_common_b1_RR (a1 : Chain) (a2 : Chain) (g : impl_common_b1_R) (x : Ex) (e : Env) (M : Mem) : Prop := x = .ext 0 ∧ eget e 5 = .int .i64 g
noncomputable def impl_common_b1 (a1 : Chain) (a2 : Chain) : impl_common_b1_S → Option (impl_common_b1_S ⊕ impl_common_b1_R) := fun s1_1 =>
 if (decide (s1_1 < (a1.Marks.length : Int))) = true then
  if (decide (s1_1 < (a2.Marks.length : Int))) = true then
   (rd a1.Marks s1_1).bind fun x28 =>
   (rd a2.Marks s1_1).bind fun x30 =>
   if ((x28.Holder == x30.Holder) && ((x28.Seal == x30.Seal) && true)) = true then
    some (.inl (IntKind.i64.wrap (s1_1 + 1)))
   else
    some (.inr s1_1)
  else
   some (.inr s1_1)
 else
  some (.inr s1_1)
theorem impl_common_b1_ok (a1 : Chain) (a2 : Chain) (s : impl_common_b1_S) (r : impl_common_b1_S ⊕ impl_common_b1_R) (h : impl_common_b1 a1 a2 s = some r) (e : Env) (M : Mem) (hs : impl_common_b1_RS a1 a2 s e M) : Ev (fun k => (f62_l2 (CN k) k (prune [2, 3, 5] e) M).bind fun q => some q) (bQ (impl_common_b1_RS a1 a2) (impl_common_b1_RR a1 a2) r) := by
 revert h hs
 revert s
 intro s1_1 h hs
 unfold impl_common_b1 at h
 obtain ⟨h20, h22, h24⟩ := hs
 generalize he19 : prune [2, 3, 5] e = e18
 have h21 := envp he19.symm rfl h20
 have h23 := envp he19.symm rfl h22
 have h25 := envp he19.symm rfl h24
 refine sq (sq (Rd (kf (mvO h25) (kf (faP h21 ⟨ble rfl, blt rfl⟩ rfl) (kf (ldP rfl rfl) (kf (lnS Tryd.underlying53 rfl) (kf (bLss rfl rfl) (kf (mvO rfl) ?_))))))))
 rcases ite_some h with ⟨hb26, h⟩ | ⟨hb26, h⟩
 ·refine kf (guT rfl hb26 (mvO h25)) (kf (guT rfl hb26 (faP h23 ⟨ble rfl, blt rfl⟩ rfl)) (kf (guT rfl hb26 (ldP rfl rfl)) (kf (guT rfl hb26 (lnS Tryd.underlying53 rfl)) (kf (guT rfl hb26 (bLss rfl rfl)) (kf (pkT rfl hb26 rfl) (kf (mvO rfl) ?_))))))
  rcases ite_some h with ⟨hb27, h⟩ | ⟨hb27, h⟩
  ·obtain ⟨x28, hx29, h⟩ := bind_some h
   obtain ⟨x30, hx31, h⟩ := bind_some h
   refine kf (guT rfl hb27 (faP h21 ⟨ble rfl, blt rfl⟩ rfl)) (kf (guT rfl hb27 (ldP rfl rfl)) (kf (guT rfl hb27 (mvO h25)) (kf (guT rfl hb27 (ixS rfl rfl hx29 Mark.fl)) (kf (guT rfl hb27 (ldPA rfl rfl rfl)) (kf (guT rfl hb27 (faP h23 ⟨ble rfl, blt rfl⟩ rfl)) (kf (guT rfl hb27 (ldP rfl rfl)) (kf (guT rfl hb27 (mvO h25)) (kf (guT rfl hb27 (ixS rfl rfl hx31 Mark.fl)) (kf (guT rfl hb27 (ldPA rfl rfl rfl)) (kf (guT rfl hb27 (gEql rfl rfl (by kernel_rfl) rfl)) (kf (pkT rfl hb27 rfl) (fZ (Rn (hV (.pt none (.str a1.Debtor :: (.bool a1.Stock.Stock :: (.sl none (a1.Stock.Notches.map Notch.c) :: ((arC (cI .i8) 0 a1.Stock.Grain) ++ ((.sl none (a1.Marks.map Mark.c) :: []) : List AV)))))) h21 (hV (.pt none (.str a2.Debtor :: (.bool a2.Stock.Stock :: (.sl none (a2.Stock.Notches.map Notch.c) :: ((arC (cI .i8) 0 a2.Stock.Grain) ++ ((.sl none (a2.Marks.map Mark.c) :: []) : List AV)))))) h23 (hV (.int .i64 s1_1) h25 (hN rfl hZ)))) fun e32 h34 h35 h36 h37 => sN ?_)))))))))))))
   clear h21 h23 h25
   rcases ite_some h with ⟨hb38, h⟩ | ⟨hb38, h⟩
   ·refine cT h37 hb38 (xx (sN (bl (Rg (kx (mvO h36) (kx (bAdd rfl rfl) (kx (mvO rfl) (Rn (hA h34 (hA h35 (hN rfl hZ))) fun e39 h41 h42 h43 => bN ?_))))))))
    clear h34 h35 h37
    obtain rfl := si h
    exact qN ⟨h41, h42, h43⟩
   refine cF h37 hb38 (xx (sE ?_))
   obtain rfl := si h
   exact qE ⟨rfl, h36⟩
  refine kf (gsT rfl hb27) (kf (gsT rfl hb27) (kf (gsT rfl hb27) (kf (gsT rfl hb27) (kf (gsT rfl hb27) (kf (gsT rfl hb27) (kf (gsT rfl hb27) (kf (gsT rfl hb27) (kf (gsT rfl hb27) (kf (gsT rfl hb27) (kf (gsT rfl hb27) (kf (pkF rfl hb27 rfl) (fZ (Rn (hV (.pt none (.str a1.Debtor :: (.bool a1.Stock.Stock :: (.sl none (a1.Stock.Notches.map Notch.c) :: ((arC (cI .i8) 0 a1.Stock.Grain) ++ ((.sl none (a1.Marks.map Mark.c) :: []) : List AV)))))) h21 (hV (.pt none (.str a2.Debtor :: (.bool a2.Stock.Stock :: (.sl none (a2.Stock.Notches.map Notch.c) :: ((arC (cI .i8) 0 a2.Stock.Grain) ++ ((.sl none (a2.Marks.map Mark.c) :: []) : List AV)))))) h23 (hV (.int .i64 s1_1) h25 (hV (.bool false) rfl hZ)))) fun e44 h46 h47 h48 h49 => sN (cF h49 rfl (xx (sE ?_))))))))))))))))
  clear h21 h23 h25
  obtain rfl := si h
  exact qE ⟨rfl, h48⟩
 refine kf (gsT rfl hb26) (kf (gsT rfl hb26) (kf (gsT rfl hb26) (kf (gsT rfl hb26) (kf (gsT rfl hb26) (kf (pkF rfl hb26 rfl) (kf (mvO rfl) (kf (gsT rfl rfl) (kf (gsT rfl rfl) (kf (gsT rfl rfl) (kf (gsT rfl rfl) (kf (gsT rfl rfl) (kf (gsT rfl rfl) (kf (gsT rfl rfl) (kf (gsT rfl rfl) (kf (gsT rfl rfl) (kf (gsT rfl rfl) (kf (gsT rfl rfl) (kf (pkF rfl rfl rfl) (fZ (Rn (hV (.pt none (.str a1.Debtor :: (.bool a1.Stock.Stock :: (.sl none (a1.Stock.Notches.map Notch.c) :: ((arC (cI .i8) 0 a1.Stock.Grain) ++ ((.sl none (a1.Marks.map Mark.c) :: []) : List AV)))))) h21 (hV (.pt none (.str a2.Debtor :: (.bool a2.Stock.Stock :: (.sl none (a2.Stock.Notches.map Notch.c) :: ((arC (cI .i8) 0 a2.Stock.Grain) ++ ((.sl none (a2.Marks.map Mark.c) :: []) : List AV)))))) h23 (hV (.int .i64 s1_1) h25 (hV (.bool false) rfl hZ)))) fun e50 h52 h53 h54 h55 => sN (cF h55 rfl (xx (sE ?_)))))))))))))))))))))))
 clear h21 h23 h25
 obtain rfl := si h
 exact qE ⟨rfl, h54⟩
noncomputable def impl_common (a1 : Chain) (a2 : Chain) : Option Int :=
 (Lw (impl_common_b1 a1 a2) 0).bind fun y61 =>
 some y61
def impl_common_enc (r : Int) : AV := .int .i64 r
theorem impl_common_ok (a1 : Chain) (a2 : Chain) (r : Int) (h : impl_common a1 a2 = some r) : Ev (fun k => CN k 62 [.agg (.str a1.Debtor :: (.bool a1.Stock.Stock :: (.sl none (a1.Stock.Notches.map Notch.c) :: ((arC (cI .i8) 0 a1.Stock.Grain) ++ ((.sl none (a1.Marks.map Mark.c) :: []) : List AV))))), .agg (.str a2.Debtor :: (.bool a2.Stock.Stock :: (.sl none (a2.Stock.Notches.map Notch.c) :: ((arC (cI .i8) 0 a2.Stock.Grain) ++ ((.sl none (a2.Marks.map Mark.c) :: []) : List AV)))))] []) (fun p => rRes p.2 p.1 = impl_common_enc r) := by
 unfold impl_common at h
 obtain ⟨y61, hr57, h⟩ := bind_some h
 refine Ev.enter (F := fun k => f62 (CN k) k) (fun k => callN_eq rfl Tryd.func62 rfl rfl rfl (by decide +kernel) (f62_eq _ _)) (sq (Rg (kx (bxI rfl rfl ⟨rfl, rfl, by decide⟩) (kx (bxI rfl rfl ⟨rfl, rfl, by decide⟩) (kx (mvO rfl) (Rn (hN rfl (hN rfl hZ)) fun e1 h3 h4 => sN (sq (Rg (kx (mvO rfl) (Rn (hA h3 (hA h4 (hV (.int .i64 0) rfl hZ))) fun e5 h7 h8 h9 => sN (sq (bl (Ev.loop (RS := impl_common_b1_RS a1 a2) (RR := impl_common_b1_RR a1 a2) (fun s r h e M hs => impl_common_b1_ok a1 a2 s r h e M hs) hr57 ⟨h7, h8, h9⟩ fun x e59 M60 hq58 => ?_)))))))))))))
 clear h3 h4
 obtain ⟨rfl, h62⟩ := hq58
 refine bE (sN (sq (Rg (kx (mvO h62) (kx (mvO rfl) (Rn (hN rfl hZ) fun e63 h65 => sN (xx ?_)))))))
 clear h62
 obtain rfl := si h
 exact eR (resT h65 res0) rfl
/-! ### loop.example/g01263/impl.SameHalf (f61) -/
noncomputable def impl_SameHalf (a1 : Half) (a2 : Half) : Option Bool :=
 if (a1.Stock == a2.Stock) = true then
  if (arB 16 (fun j => a1.Grain.get 0 j == a2.Grain.get 0 j) true) = true then
   (slices_Equal_Notch a1.Notches a2.Notches).bind fun r8 =>
   some r8
  else
   some false
 else
  some false
def impl_SameHalf_enc (r : Bool) : AV := .bool r
theorem impl_SameHalf_ok (a1 : Half) (a2 : Half) (r : Bool) (h : impl_SameHalf a1 a2 = some r) : Ev (fun k => CN k 61 [.agg (.bool a1.Stock :: (.sl none (a1.Notches.map Notch.c) :: ((arC (cI .i8) 0 a1.Grain) ++ ([] : List AV)))), .agg (.bool a2.Stock :: (.sl none (a2.Notches.map Notch.c) :: ((arC (cI .i8) 0 a2.Grain) ++ ([] : List AV))))] []) (fun p => rRes p.2 p.1 = impl_SameHalf_enc r) := by
 unfold impl_SameHalf at h
 refine Ev.enter (F := fun k => f61 (CN k) k) (fun k => callN_eq rfl Tryd.func61 rfl rfl rfl (by decide +kernel) (f61_eq _ _)) (sq (Rg (kx (bxI rfl rfl ⟨rfl, rfl, by decide⟩) (kx (bxI rfl rfl ⟨rfl, rfl, by decide⟩) (kx (mvO rfl) (Rn (hN rfl (hN rfl hZ)) fun e1 h3 h4 => sN (sq (Rg (kx (faP h3 ⟨ble rfl, blt rfl⟩ rfl) (kx (ldP rfl rfl) (kx (faP h4 ⟨ble rfl, blt rfl⟩ rfl) (kx (ldP rfl rfl) (kx (oEql (by kernel_rfl) rfl rfl) (kx (mvO rfl) ?_))))))))))))))
 rcases ite_some h with ⟨hb5, h⟩ | ⟨hb5, h⟩
 ·refine kx (guT rfl hb5 (faP h3 ⟨ble rfl, blt rfl⟩ rfl)) (kx (guT rfl hb5 (ldPA rfl rfl rfl)) (kx (guT rfl hb5 (faP h4 ⟨ble rfl, blt rfl⟩ rfl)) (kx (guT rfl hb5 (ldPA rfl rfl rfl)) (kx (guT rfl hb5 (gEql rfl rfl (by kernel_rfl) rfl)) (kx (pkT rfl hb5 rfl) (kx (mvO rfl) ?_))))))
  rcases ite_some h with ⟨hb6, h⟩ | ⟨hb6, h⟩
  ·obtain ⟨r8, hx7, h⟩ := bind_some h
   refine kx (guT rfl hb6 (faP h3 ⟨ble rfl, blt rfl⟩ rfl)) (kx (guT rfl hb6 (ldP rfl rfl)) (kx (guT rfl hb6 (faP h4 ⟨ble rfl, blt rfl⟩ rfl)) (kx (guT rfl hb6 (ldP rfl rfl)) (kc (Ev.guT rfl hb6 (cl (v := .bool r8) rfl rfl (cns rfl (cns rfl rfl)) rfl (slices_Equal_Notch_ok a1.Notches a2.Notches _ hx7) nm)) (kx (pkT rfl hb6 rfl) (kx (mvO rfl) (Rn (hN rfl hZ) fun e9 h11 => sN (xx ?_))))))))
   clear h3 h4
   obtain rfl := si h
   exact eR (resT h11 res0) rfl
  refine kx (gsT rfl hb6) (kx (gsT rfl hb6) (kx (gsT rfl hb6) (kx (gsT rfl hb6) (kc (Ev.gsT rfl hb6) (kx (pkF rfl hb6 rfl) (kx (mvO rfl) (Rn (hV (.bool false) rfl hZ) fun e12 h14 => sN (xx ?_))))))))
  clear h3 h4
  obtain rfl := si h
  exact eR (resT h14 res0) rfl
 refine kx (gsT rfl hb5) (kx (gsT rfl hb5) (kx (gsT rfl hb5) (kx (gsT rfl hb5) (kx (gsT rfl hb5) (kx (pkF rfl hb5 rfl) (kx (mvO rfl) (kx (gsT rfl rfl) (kx (gsT rfl rfl) (kx (gsT rfl rfl) (kx (gsT rfl rfl) (kc (Ev.gsT rfl rfl) (kx (pkF rfl rfl rfl) (kx (mvO rfl) (Rn (hV (.bool false) rfl hZ) fun e15 h17 => sN (xx ?_)))))))))))))))
 clear h3 h4
 obtain rfl := si h
 exact eR (resT h17 res0) rfl
/-! ### loop.example/g01263/impl.ValidChain (f60) -/
def impl_ValidChain_c1_Q (a1 : Chain) (g : Bool) (q : Out) : Prop := q.1 = .nrm ∧ eget q.2.1 1 = .pt none (.str a1.Debtor :: (.bool a1.Stock.Stock :: (.sl none (a1.Stock.Notches.map Notch.c) :: ((arC (cI .i8) 0 a1.Stock.Grain) ++ ((.sl none (a1.Marks.map Mark.c) :: []) : List AV))))) ∧ eget q.2.1 33 = .bool g
abbrev impl_ValidChain_b1_S := (List UInt8) × Int
abbrev impl_ValidChain_b1_R := Unit ⊕ Unit
def impl_ValidChain_b1_RS (a1 : Chain) (s : impl_ValidChain_b1_S) (e : Env) (M : Mem) : Prop := eget e 3 = .str s.1 ∧ eget e 37 = .sl none (a1.Marks.map Mark.c) ∧ eget e 38 = .int .i64 (a1.Marks.length : Int) ∧ eget e 39 = .int .i64 s.2
def impl_ValidChain_b1_RR (a1 : Chain) (r : impl_ValidChain_b1_R) (x : Ex) (e : Env) (M : Mem) : Prop :=
  match r with
  | (.inl g) => x = .ret ∧ eget e 2 = .bool false
  | (.inr g) => x = .ext 0 ∧ True
noncomputable def impl_ValidChain_b1 (a1 : Chain) : impl_ValidChain_b1_S → Option (impl_ValidChain_b1_S ⊕ impl_ValidChain_b1_R) := fun (s1_1, s1_2) =>
 if (decide (s1_2 < (a1.Marks.length : Int))) = true then
  (rd a1.Marks s1_2).bind fun x79 =>
  (impl_isName x79.Holder).bind fun r96 =>
  if r96 = true then
   if (x79.Holder == s1_1) = true then
    some (.inr (.inl ()))
   else
    some (.inl (x79.Holder, (IntKind.i64.wrap (s1_2 + 1))))
  else
   some (.inr (.inl ()))
 else
  some (.inr (.inr ()))
theorem impl_ValidChain_b1_ok (a1 : Chain) (s : impl_ValidChain_b1_S) (r : impl_ValidChain_b1_S ⊕ impl_ValidChain_b1_R) (h : impl_ValidChain_b1 a1 s = some r) (e : Env) (M : Mem) (hs : impl_ValidChain_b1_RS a1 s e M) : Ev (fun k => (f60_l5 (CN k) k (prune [3, 37, 38, 39] e) M).bind fun q => some q) (bQ (impl_ValidChain_b1_RS a1) (impl_ValidChain_b1_RR a1) r) := by
 obtain ⟨s1_1, s1_2⟩ := s
 unfold impl_ValidChain_b1 at h
 obtain ⟨h63, h65, h67, h69⟩ := hs
 generalize he62 : prune [3, 37, 38, 39] e = e61
 have h64 := envp he62.symm rfl h63
 have h66 := envp he62.symm rfl h65
 have h68 := envp he62.symm rfl h67
 have h70 := envp he62.symm rfl h69
 refine sq (Rg (kx (bLss h70 h68) (Rn (hV (.str s1_1) h64 (hV (.sl none (a1.Marks.map Mark.c)) h66 (hV (.int .i64 (a1.Marks.length : Int)) h68 (hV (.int .i64 s1_2) h70 (hN rfl hZ))))) fun e71 h73 h74 h75 h76 h77 => sN (sq ?_))))
 clear h64 h66 h68 h70
 rcases ite_some h with ⟨hb78, h⟩ | ⟨hb78, h⟩
 ·obtain ⟨x79, hx80, h⟩ := bind_some h
  refine cT h77 hb78 (xx (sN (sq (bl (sq (Rg (kx (ixS h74 h76 hx80 Mark.fl) (kx (ldPA rfl rfl rfl) (ku (alO zero60) fun M82 hM83 => ?_)))))))))
  have o84 : M82[M.length]? = some (.live ⟨.box, 60, 2, [[.str ([] : List UInt8), .int .u32 0]]⟩) := push_new hM83
  refine kw (stO rfl rfl o84 rfl rfl ⟨rfl, ble rfl⟩ rfl rfl) fun M85 hM86 => ?_
  have o87 : M85[M.length]? = some (.live ⟨.box, 60, 2, [[.str x79.Holder, .int .u32 x79.Seal]]⟩) := set_same hM86 o84
  obtain ⟨r96, hx95, h⟩ := bind_some h
  refine Rn (hA h73 (hV (.loc M.length 1 0 0) rfl (hA h74 (hA h75 (hA h76 hZ))))) fun e88 h90 h91 h92 h93 h94 => sN (sq (sq (Rg (kx (faO h91 o87 rfl) (kx (ldO rfl o87 rfl rfl rfl) (kc (cl (v := .bool r96) rfl rfl (cns rfl rfl) rfl (impl_isName_ok x79.Holder _ hx95) nm) (kx (uNot rfl) (kx (mvO rfl) ?_))))))))
  clear h73 h74 h75 h76 h77
  rcases ite_some h with ⟨hb97, h⟩ | ⟨hb97, h⟩
  ·refine kx (guF rfl (congrArg Bool.not hb97) (faO h91 o87 rfl)) (kx (guF rfl (congrArg Bool.not hb97) (ldO rfl o87 rfl rfl rfl)) (kx (guF rfl (congrArg Bool.not hb97) (mvO h90)) (kx (guF rfl (congrArg Bool.not hb97) (sEql rfl rfl)) (kx (pkF rfl (congrArg Bool.not hb97) rfl) (Rn (hA h91 (hA h92 (hA h93 (hA h94 (hN rfl hZ))))) fun e98 h100 h101 h102 h103 h104 => sN ?_)))))
   clear h90 h91 h92 h93 h94
   rcases ite_some h with ⟨hb105, h⟩ | ⟨hb105, h⟩
   ·refine cT h104 hb105 (sq (Rg (kx (mvO rfl) (Rn (hV (.bool false) rfl hZ) fun e106 h108 => sN (xx (sR (bR (sR ?_))))))))
    clear h100 h101 h102 h103 h104
    obtain rfl := si h
    exact qR ⟨rfl, h108⟩
   refine cF h104 hb105 (xx (sN (Rg (kx (faO h100 o87 rfl) (kx (ldO rfl o87 rfl rfl rfl) (kx (mvO rfl) (Rn (hN rfl (hA h101 (hA h102 (hA h103 hZ)))) fun e109 h111 h112 h113 h114 => bN (sN (Rg (kx (bAdd h114 rfl) (kx (mvO rfl) (Rn (hA h111 (hA h112 (hA h113 (hN rfl hZ)))) fun e115 h117 h118 h119 h120 => ?_))))))))))))
   clear h100 h101 h102 h103 h104 h111 h112 h113
   obtain rfl := si h
   exact qN ⟨h117, h118, h119, h120⟩
  refine kx (gsF rfl (congrArg Bool.not hb97)) (kx (gsF rfl (congrArg Bool.not hb97)) (kx (gsF rfl (congrArg Bool.not hb97)) (kx (gsF rfl (congrArg Bool.not hb97)) (kx (pkT rfl (congrArg Bool.not hb97) rfl) (Rn (hA h91 (hA h92 (hA h93 (hA h94 (hV (.bool true) rfl hZ))))) fun e121 h123 h124 h125 h126 h127 => sN (cT h127 rfl (sq (Rg (kx (mvO rfl) (Rn (hV (.bool false) rfl hZ) fun e128 h130 => sN (xx (sR (bR (sR ?_))))))))))))))
  clear h90 h91 h92 h93 h94 h123 h124 h125 h126 h127
  obtain rfl := si h
  exact qR ⟨rfl, h130⟩
 refine cF h77 hb78 (xx (sE ?_))
 obtain rfl := si h
 exact qE ⟨rfl, trivial⟩
noncomputable def impl_ValidChain (a1 : Chain) : Option Bool :=
 ((impl_isName a1.Debtor).bind fun r5 =>
 if r5 = true then
  (impl_ValidHalf a1.Stock).bind fun r8 =>
  if r8 = true then
   if a1.Stock.Stock = true then
    if (decide ((a1.Marks.length : Int) < 1)) = true then
     some true
    else
     some (decide ((a1.Marks.length : Int) > 30))
   else
    some true
  else
   some true
 else
  some true).bind fun y34 =>
 if y34 = true then
  some false
 else
  (Lw (impl_ValidChain_b1 a1) (a1.Debtor, 0)).bind fun r => match r with
  | (.inl _) =>
   some false
  | (.inr _) =>
   some true
def impl_ValidChain_enc (r : Bool) : AV := .bool r
theorem impl_ValidChain_ok (a1 : Chain) (r : Bool) (h : impl_ValidChain a1 = some r) : Ev (fun k => CN k 60 [.agg (.str a1.Debtor :: (.bool a1.Stock.Stock :: (.sl none (a1.Stock.Notches.map Notch.c) :: ((arC (cI .i8) 0 a1.Stock.Grain) ++ ((.sl none (a1.Marks.map Mark.c) :: []) : List AV)))))] []) (fun p => rRes p.2 p.1 = impl_ValidChain_enc r) := by
 unfold impl_ValidChain at h
 obtain ⟨r143, hr144, h⟩ := bind_some h
 refine Ev.enter (F := fun k => f60 (CN k) k) (fun k => callN_eq rfl Tryd.func60 rfl rfl rfl (by decide +kernel) (f60_eq _ _)) (sq (Rg (kx (bxI rfl rfl ⟨rfl, rfl, by decide⟩) (kx (mvO rfl) (Rn (hN rfl hZ) fun e1 h3 => sN (sq (sq ?_)))))))
 refine Ev.cut (Q1 := impl_ValidChain_c1_Q a1 r143) (by
     have h := hr144
     obtain ⟨r5, hx4, h⟩ := bind_some h
     refine Rg (kx (faP h3 ⟨ble rfl, blt rfl⟩ rfl) (kx (ldP rfl rfl) (kc (cl (v := .bool r5) rfl rfl (cns rfl rfl) rfl (impl_isName_ok a1.Debtor _ hx4) nm) (kx (uNot rfl) (kx (mvO rfl) ?_)))))
     rcases ite_some h with ⟨hb6, h⟩ | ⟨hb6, h⟩
     ·obtain ⟨r8, hx7, h⟩ := bind_some h
      refine kx (guF rfl (congrArg Bool.not hb6) (faP h3 ⟨ble rfl, blt rfl⟩ rfl)) (kx (guF rfl (congrArg Bool.not hb6) (ldPA rfl rfl rfl)) (kc (Ev.guF rfl (congrArg Bool.not hb6) (cl (v := .bool r8) rfl rfl (cns rfl rfl) rfl (impl_ValidHalf_ok a1.Stock _ hx7) nm)) (kx (guF rfl (congrArg Bool.not hb6) (uNot rfl)) (kx (pkF rfl (congrArg Bool.not hb6) rfl) (kx (mvO rfl) ?_)))))
      rcases ite_some h with ⟨hb9, h⟩ | ⟨hb9, h⟩
      ·refine kx (guF rfl (congrArg Bool.not hb9) (faP h3 ⟨ble rfl, blt rfl⟩ rfl)) (kx (guF rfl (congrArg Bool.not hb9) (faP rfl ⟨ble rfl, blt rfl⟩ rfl)) (kx (guF rfl (congrArg Bool.not hb9) (ldP rfl rfl)) (kx (guF rfl (congrArg Bool.not hb9) (uNot rfl)) (kx (pkF rfl (congrArg Bool.not hb9) rfl) (kx (mvO rfl) ?_)))))
       rcases ite_some h with ⟨hb10, h⟩ | ⟨hb10, h⟩
       ·refine kx (guF rfl (congrArg Bool.not hb10) (faP h3 ⟨ble rfl, blt rfl⟩ rfl)) (kx (guF rfl (congrArg Bool.not hb10) (ldP rfl rfl)) (kx (guF rfl (congrArg Bool.not hb10) (lnS Tryd.underlying53 rfl)) (kx (guF rfl (congrArg Bool.not hb10) (bLss rfl rfl)) (kx (pkF rfl (congrArg Bool.not hb10) rfl) (kx (mvO rfl) ?_)))))
        rcases ite_some h with ⟨hb11, h⟩ | ⟨hb11, h⟩
        ·refine kx (gsF rfl hb11) (kx (gsF rfl hb11) (kx (gsF rfl hb11) (kx (gsF rfl hb11) (kx (pkT rfl hb11 rfl) (Rn (hA h3 (hV (.bool true) rfl hZ)) fun e12 h14 h15 => ?_)))))
         clear h3
         obtain rfl := si h
         exact kd (show impl_ValidChain_c1_Q a1 _ _ from ⟨rfl, h14, h15⟩)
        refine kx (guF rfl hb11 (faP h3 ⟨ble rfl, blt rfl⟩ rfl)) (kx (guF rfl hb11 (ldP rfl rfl)) (kx (guF rfl hb11 (lnS Tryd.underlying53 rfl)) (kx (guF rfl hb11 (bGtr rfl rfl)) (kx (pkF rfl hb11 rfl) (Rn (hA h3 (hN rfl hZ)) fun e16 h18 h19 => ?_)))))
        clear h3
        obtain rfl := si h
        exact kd (show impl_ValidChain_c1_Q a1 _ _ from ⟨rfl, h18, h19⟩)
       refine kx (gsF rfl (congrArg Bool.not hb10)) (kx (gsF rfl (congrArg Bool.not hb10)) (kx (gsF rfl (congrArg Bool.not hb10)) (kx (gsF rfl (congrArg Bool.not hb10)) (kx (pkT rfl (congrArg Bool.not hb10) rfl) (kx (mvO rfl) (kx (gsF rfl rfl) (kx (gsF rfl rfl) (kx (gsF rfl rfl) (kx (gsF rfl rfl) (kx (pkT rfl rfl rfl) (Rn (hA h3 (hV (.bool true) rfl hZ)) fun e20 h22 h23 => ?_)))))))))))
       clear h3
       obtain rfl := si h
       exact kd (show impl_ValidChain_c1_Q a1 _ _ from ⟨rfl, h22, h23⟩)
      refine kx (gsF rfl (congrArg Bool.not hb9)) (kx (gsF rfl (congrArg Bool.not hb9)) (kx (gsF rfl (congrArg Bool.not hb9)) (kx (gsF rfl (congrArg Bool.not hb9)) (kx (pkT rfl (congrArg Bool.not hb9) rfl) (kx (mvO rfl) (kx (gsF rfl rfl) (kx (gsF rfl rfl) (kx (gsF rfl rfl) (kx (gsF rfl rfl) (kx (pkT rfl rfl rfl) (kx (mvO rfl) (kx (gsF rfl rfl) (kx (gsF rfl rfl) (kx (gsF rfl rfl) (kx (gsF rfl rfl) (kx (pkT rfl rfl rfl) (Rn (hA h3 (hV (.bool true) rfl hZ)) fun e24 h26 h27 => ?_)))))))))))))))))
      clear h3
      obtain rfl := si h
      exact kd (show impl_ValidChain_c1_Q a1 _ _ from ⟨rfl, h26, h27⟩)
     refine kx (gsF rfl (congrArg Bool.not hb6)) (kx (gsF rfl (congrArg Bool.not hb6)) (kc (Ev.gsF rfl (congrArg Bool.not hb6)) (kx (gsF rfl (congrArg Bool.not hb6)) (kx (pkT rfl (congrArg Bool.not hb6) rfl) (kx (mvO rfl) (kx (gsF rfl rfl) (kx (gsF rfl rfl) (kx (gsF rfl rfl) (kx (gsF rfl rfl) (kx (pkT rfl rfl rfl) (kx (mvO rfl) (kx (gsF rfl rfl) (kx (gsF rfl rfl) (kx (gsF rfl rfl) (kx (gsF rfl rfl) (kx (pkT rfl rfl rfl) (kx (mvO rfl) (kx (gsF rfl rfl) (kx (gsF rfl rfl) (kx (gsF rfl rfl) (kx (gsF rfl rfl) (kx (pkT rfl rfl rfl) (Rn (hA h3 (hV (.bool true) rfl hZ)) fun e28 h30 h31 => ?_)))))))))))))))))))))))
     clear h3
     obtain rfl := si h
     exact kd (show impl_ValidChain_c1_Q a1 _ _ from ⟨rfl, h30, h31⟩)) ?_
 revert h hr144
 revert r143
 intro y34 hr144 h
 intro x e32 M33 hq142
 obtain ⟨rfl, h35, h36⟩ := hq142
 refine sN ?_
 rcases ite_some h with ⟨hb37, h⟩ | ⟨hb37, h⟩
 ·refine cT h36 hb37 (sq (Rg (kx (mvO rfl) (Rn (hV (.bool false) rfl hZ) fun e38 h40 => sN (xx (sR ?_))))))
  clear h35 h36
  obtain rfl := si h
  exact eR (resT h40 res0) rfl
 obtain ⟨r131, hr132, h⟩ := bind_some h
 refine cF h36 hb37 (xx (sN (sq (Rg (kx (faP h35 ⟨ble rfl, blt rfl⟩ rfl) (kx (ldP rfl rfl) (kx (mvO rfl) (Rn (hV (.pt none (.str a1.Debtor :: (.bool a1.Stock.Stock :: (.sl none (a1.Stock.Notches.map Notch.c) :: ((arC (cI .i8) 0 a1.Stock.Grain) ++ ((.sl none (a1.Marks.map Mark.c) :: []) : List AV)))))) h35 (hN rfl hZ)) fun e41 h43 h44 => sN (sq (sq (Rg (kx (faP h43 ⟨ble rfl, blt rfl⟩ rfl) (kx (ldP rfl rfl) (kx (lnS Tryd.underlying53 rfl) (kx (mvO rfl) (Rn (hA h44 (hN rfl (hN rfl (hV (.int .i64 0) rfl hZ)))) fun e45 h47 h48 h49 h50 => sN (bl ?_)))))))))))))))))
 clear h35 h36 h43 h44
 rcases r131 with _ | _
 ·refine Ev.loop (RS := impl_ValidChain_b1_RS a1) (RR := impl_ValidChain_b1_RR a1) (fun s r h e M hs => impl_ValidChain_b1_ok a1 s r h e M hs) hr132 ⟨h47, h48, h49, h50⟩ fun x e134 M135 hq133 => ?_
  obtain ⟨rfl, h136⟩ := hq133
  refine bR (sR ?_)
  obtain rfl := si h
  exact eR (resT h136 res0) rfl
 refine Ev.loop (RS := impl_ValidChain_b1_RS a1) (RR := impl_ValidChain_b1_RR a1) (fun s r h e M hs => impl_ValidChain_b1_ok a1 s r h e M hs) hr132 ⟨h47, h48, h49, h50⟩ fun x e137 M138 hq133 => ?_
 obtain ⟨rfl, _⟩ := hq133
 refine bE (sN (sq (Rg (kx (mvO rfl) (Rn (hV (.bool true) rfl hZ) fun e139 h141 => sN (xx ?_))))))
 obtain rfl := si h
 exact eR (resT h141 res0) rfl
/-! ### loop.example/g01263/spec.l06People (f57) -/
abbrev spec_l06People_b1_S := Int × (List Party)
abbrev spec_l06People_b1_R := (List Party)
def spec_l06People_b1_RS (r4 : List (List UInt8)) (i1_1 : Nat) (s : spec_l06People_b1_S) (e : Env) (M : Mem) : Prop := eget e 1 = .sl none (r4.map cS) ∧ eget e 2 = .lsl i1_1 s.2.length 0 s.2.length ∧ eget e 3 = .int .i64 s.1 ∧ M[i1_1]? = some (.live ⟨.grow, 66, 2, s.2.map Party.c⟩)
def spec_l06People_b1_RR (r4 : List (List UInt8)) (i1_1 : Nat) (g : spec_l06People_b1_R) (x : Ex) (e : Env) (M : Mem) : Prop := x = .ext 0 ∧ eget e 2 = .lsl i1_1 g.length 0 g.length ∧ M[i1_1]? = some (.live ⟨.grow, 66, 2, g.map Party.c⟩)
noncomputable def spec_l06People_b1 (r4 : List (List UInt8)) : spec_l06People_b1_S → Option (spec_l06People_b1_S ⊕ spec_l06People_b1_R) := fun (s1_1, s1_2) =>
 if (decide (s1_1 < (r4.length : Int))) = true then
  (rd r4 s1_1).bind fun x46 =>
  (app 24 s1_2 [(Party.mk x46 (IntKind.u32.wrap (IntKind.i64.wrap ((IntKind.i64.wrap (1000003 * s1_1)) + 77))))]).bind fun x48 =>
  some (.inl ((IntKind.i64.wrap (s1_1 + 1)), x48))
 else
  some (.inr s1_2)
theorem spec_l06People_b1_ok (r4 : List (List UInt8)) (i1_1 : Nat) (s : spec_l06People_b1_S) (r : spec_l06People_b1_S ⊕ spec_l06People_b1_R) (h : spec_l06People_b1 r4 s = some r) (e : Env) (M : Mem) (hs : spec_l06People_b1_RS r4 i1_1 s e M) : Ev (fun k => (f57_l4 (CN k) k (prune [1, 2, 3] e) M).bind fun q => some q) (bQ (spec_l06People_b1_RS r4 i1_1) (spec_l06People_b1_RR r4 i1_1) r) := by
 obtain ⟨s1_1, s1_2⟩ := s
 unfold spec_l06People_b1 at h
 obtain ⟨h32, h34, h36, o38⟩ := hs
 generalize he31 : prune [1, 2, 3] e = e30
 have h33 := envp he31.symm rfl h32
 have h35 := envp he31.symm rfl h34
 have h37 := envp he31.symm rfl h36
 refine sq (sq (Rg (kx (mvO h37) (kx (mvO h33) (kx (lnS Tryd.underlying71 rfl) (kx (bLss rfl rfl) (Rn (hV (.sl none (r4.map cS)) h33 (hV (.lsl i1_1 s1_2.length 0 s1_2.length) h35 (hV (.int .i64 s1_1) h37 (hN rfl hZ)))) fun e39 h41 h42 h43 h44 => sN ?_)))))))
 clear h33 h35 h37
 rcases ite_some h with ⟨hb45, h⟩ | ⟨hb45, h⟩
 ·obtain ⟨x46, hx47, h⟩ := bind_some h
  obtain ⟨x48, hx49, h⟩ := bind_some h
  refine cT h44 hb45 (xx (sN (sq (bl (Rg (kx (mvO h42) (kx (mvO h41) (kx (mvO h43) (kx (ixS rfl rfl hx47 cS_fl) (kx (ldP rfl rfl) (kx (mvO h43) (kx (bMul rfl rfl) (kx (bAdd rfl rfl) (kx (cvI rfl) (kx (bldT zero66 (cns (pr3 rfl) (cns (pr3 rfl) rfl)) (fill1 ⟨rfl, ble rfl⟩ rfl rfl (fill1 ⟨rfl, ble rfl⟩ rfl rfl (fill0 rfl)))) (kx (litI (cns rfl rfl) rfl ⟨rfl, by decide⟩) (kw (apO rfl o38 rfl (elT (c := Party.c) (xs := [(Party.mk x46 (IntKind.u32.wrap (IntKind.i64.wrap ((IntKind.i64.wrap (1000003 * s1_1)) + 77))))]) rfl) hx49 Party.fl (by decide)) fun M50 hM51 => ?_)))))))))))))))))
  have o52 : M50[i1_1]? = some (.live ⟨.grow, 66, 2, x48.map Party.c⟩) := set_same hM51 o38
  refine kx (mvO rfl) (Rn (hA h41 (hV (.lsl i1_1 x48.length 0 x48.length) rfl (hA h43 hZ))) fun e53 h55 h56 h57 => bN (sN (Rg (kx (mvO h57) (kx (bAdd rfl rfl) (kx (mvO rfl) (Rn (hA h55 (hA h56 (hN rfl hZ))) fun e58 h60 h61 h62 => ?_)))))))
  clear h41 h43 h44 h55 h56
  obtain rfl := si h
  exact qN ⟨h60, h61, h62, o52⟩
 refine cF h44 hb45 (xx (sE ?_))
 obtain rfl := si h
 exact qE ⟨rfl, h42, o38⟩
noncomputable def spec_l06People : Option ((List Party)) :=
 (spec_l06Who).bind fun r4 =>
 (Lw (spec_l06People_b1 r4) (0, ([] : List Party))).bind fun y68 =>
 some y68
def spec_l06People_enc (r : (List Party)) : AV := .sl none (r.map Party.c)
theorem spec_l06People_ok (r : (List Party)) (h : spec_l06People = some r) : Ev (fun k => CN k 57 [] []) (fun p => wkR (rRes p.2 p.1) = spec_l06People_enc r ∧ ownAll (rRes p.2 p.1) = true) := by
 unfold spec_l06People at h
 obtain ⟨r4, hx3, h⟩ := bind_some h
 refine Ev.enter (F := fun k => f57 (CN k) k) (fun k => callN_eq rfl Tryd.func57 rfl rfl rfl (by decide +kernel) (f57_eq _ _)) (sq (Rg (kx (mvO rfl) (Rn hZ fun e1 => sN (sq (Rg (kc (clO (v := .sl none (r4.map cS)) rfl rfl rfl rfl (spec_l06Who_ok  _ hx3)) (kx (mvO rfl) (Rn (hN rfl hZ) fun e5 h7 => sN (sq (Rg (ku (litO (xs := ([] : List Party)) (c := Party.c) rfl rfl (by decide)) fun M9 hM10 => ?_))))))))))))
 have o11 : M9[([] : Mem).length]? = some (.live ⟨.grow, 66, 2, ([] : List Party).map Party.c⟩) := push_new hM10
 obtain ⟨y68, hr64, h⟩ := bind_some h
 refine kx (mvO rfl) (Rn (hA h7 (hV (.lsl ([] : Mem).length ([] : List Party).length 0 ([] : List Party).length) rfl hZ)) fun e12 h14 h15 => sN (sq (sq (Rg (kx (mvO rfl) (Rn (hA h14 (hA h15 (hV (.int .i64 0) rfl hZ))) fun e16 h18 h19 h20 => sN (bl (Ev.loop (RS := spec_l06People_b1_RS r4 (([] : Mem).length)) (RR := spec_l06People_b1_RR r4 (([] : Mem).length)) (fun s r h e M hs => spec_l06People_b1_ok r4 (([] : Mem).length) s r h e M hs) hr64 ⟨h18, h19, h20, o11⟩ fun x e66 M67 hq65 => ?_))))))))
 clear h7 h14 h15
 obtain ⟨rfl, h69, o70⟩ := hq65
 refine bE (sN (sq (Rg (kx (mvO h69) (kx (mvO rfl) (Rn (hV (.lsl ([] : Mem).length y68.length 0 y68.length) rfl hZ) fun e71 h73 => sN (xx ?_)))))))
 clear h69
 obtain rfl := si h
 exact eR (resT h73 res0) (wkO (y := .sl (some 66) (y68.map Party.c)) (rr_row o70 rfl Party.fl) rfl (ownA_row (c := Party.c) Party.flF))
/-! ### loop.example/g01263/impl.CheckChain (f31) -/
def impl_CheckChain_c1_Q (a1 : List Party) (a2 : Chain) (g : Bool) (q : Out) : Prop := q.1 = .nrm ∧ eget q.2.1 0 = .sl none (a1.map Party.c) ∧ eget q.2.1 3 = .pt none (.str a2.Debtor :: (.bool a2.Stock.Stock :: (.sl none (a2.Stock.Notches.map Notch.c) :: ((arC (cI .i8) 0 a2.Stock.Grain) ++ ((.sl none (a2.Marks.map Mark.c) :: []) : List AV))))) ∧ eget q.2.1 18 = .bool g
abbrev impl_CheckChain_b1_S := (List UInt8) × Int × Int
abbrev impl_CheckChain_b1_R := (Int × Int) ⊕ Unit
def impl_CheckChain_b1_RS (a1 : List Party) (a2 : Chain) (s : impl_CheckChain_b1_S) (e : Env) (M : Mem) : Prop := eget e 0 = .sl none (a1.map Party.c) ∧ eget e 3 = .pt none (.str a2.Debtor :: (.bool a2.Stock.Stock :: (.sl none (a2.Stock.Notches.map Notch.c) :: ((arC (cI .i8) 0 a2.Stock.Grain) ++ ((.sl none (a2.Marks.map Mark.c) :: []) : List AV))))) ∧ eget e 6 = .str s.1 ∧ eget e 7 = .int .u32 s.2.1 ∧ eget e 22 = .sl none (a2.Marks.map Mark.c) ∧ eget e 23 = .int .i64 (a2.Marks.length : Int) ∧ eget e 24 = .int .i64 s.2.2
def impl_CheckChain_b1_RR (a1 : List Party) (a2 : Chain) (r : impl_CheckChain_b1_R) (x : Ex) (e : Env) (M : Mem) : Prop :=
  match r with
  | (.inl g) => x = .ret ∧ eget e 4 = .int .i64 g.1 ∧ eget e 5 = .int .i64 g.2
  | (.inr g) => x = .ext 0 ∧ True
noncomputable def impl_CheckChain_b1 (a1 : List Party) (a2 : Chain) : impl_CheckChain_b1_S → Option (impl_CheckChain_b1_S ⊕ impl_CheckChain_b1_R) := fun (s1_1, s1_2, s1_3) =>
 if (decide (s1_3 < (a2.Marks.length : Int))) = true then
  (rd a2.Marks s1_3).bind fun x89 =>
  (impl_find a1 s1_1).bind fun r110 =>
  if (decide (r110 < 0)) = true then
   some (.inr (.inl (s1_3, 8)))
  else
   (rd a1 r110).bind fun x139 =>
   (impl_seal a2.Stock s1_2 x89.Holder x139.Secret).bind fun r142 =>
   if (x89.Seal != r142) = true then
    some (.inr (.inl (s1_3, 0)))
   else
    some (.inl (x89.Holder, x89.Seal, (IntKind.i64.wrap (s1_3 + 1))))
 else
  some (.inr (.inr ()))
theorem impl_CheckChain_b1_ok (a1 : List Party) (a2 : Chain) (s : impl_CheckChain_b1_S) (r : impl_CheckChain_b1_S ⊕ impl_CheckChain_b1_R) (h : impl_CheckChain_b1 a1 a2 s = some r) (e : Env) (M : Mem) (hs : impl_CheckChain_b1_RS a1 a2 s e M) : Ev (fun k => (f31_l5 (CN k) k (prune [0, 3, 6, 7, 22, 23, 24] e) M).bind fun q => some q) (bQ (impl_CheckChain_b1_RS a1 a2) (impl_CheckChain_b1_RR a1 a2) r) := by
 obtain ⟨s1_1, s1_2, s1_3⟩ := s
 unfold impl_CheckChain_b1 at h
 obtain ⟨h64, h66, h68, h70, h72, h74, h76⟩ := hs
 generalize he63 : prune [0, 3, 6, 7, 22, 23, 24] e = e62
 have h65 := envp he63.symm rfl h64
 have h67 := envp he63.symm rfl h66
 have h69 := envp he63.symm rfl h68
 have h71 := envp he63.symm rfl h70
 have h73 := envp he63.symm rfl h72
 have h75 := envp he63.symm rfl h74
 have h77 := envp he63.symm rfl h76
 refine sq (Rg (kx (bLss h77 h75) (Rn (hV (.sl none (a1.map Party.c)) h65 (hV (.pt none (.str a2.Debtor :: (.bool a2.Stock.Stock :: (.sl none (a2.Stock.Notches.map Notch.c) :: ((arC (cI .i8) 0 a2.Stock.Grain) ++ ((.sl none (a2.Marks.map Mark.c) :: []) : List AV)))))) h67 (hV (.str s1_1) h69 (hV (.int .u32 s1_2) h71 (hV (.sl none (a2.Marks.map Mark.c)) h73 (hV (.int .i64 (a2.Marks.length : Int)) h75 (hV (.int .i64 s1_3) h77 (hN rfl hZ)))))))) fun e78 h80 h81 h82 h83 h84 h85 h86 h87 => sN (sq ?_))))
 clear h65 h67 h69 h71 h73 h75 h77
 rcases ite_some h with ⟨hb88, h⟩ | ⟨hb88, h⟩
 ·obtain ⟨x89, hx90, h⟩ := bind_some h
  refine cT h87 hb88 (xx (sN (sq (bl (sq (Rg (kx (mvO h86) (kx (ixS h84 h86 hx90 Mark.fl) (kx (ldPA rfl rfl rfl) (ku (alO zero60) fun M92 hM93 => ?_))))))))))
  have o94 : M92[M.length]? = some (.live ⟨.box, 60, 2, [[.str ([] : List UInt8), .int .u32 0]]⟩) := push_new hM93
  refine kx (mvO rfl) (kw (stO rfl rfl o94 rfl rfl ⟨rfl, ble rfl⟩ rfl rfl) fun M95 hM96 => ?_)
  have o97 : M95[M.length]? = some (.live ⟨.box, 60, 2, [[.str x89.Holder, .int .u32 x89.Seal]]⟩) := set_same hM96 o94
  obtain ⟨r110, hx109, h⟩ := bind_some h
  refine Rn (hA h80 (hA h81 (hA h82 (hA h83 (hN rfl (hV (.loc M.length 1 0 0) rfl (hA h84 (hA h85 (hA h86 hZ))))))))) fun e98 h100 h101 h102 h103 h104 h105 h106 h107 h108 => sN (sq (Rg (kx (mvO h100) (kx (mvO h102) (kc (cl (v := .int .i64 r110) rfl rfl (cns rfl (cns rfl rfl)) rfl (impl_find_ok a1 s1_1 _ hx109) nm) (kx (mvO rfl) (Rn (hA h100 (hA h101 (hA h103 (hA h104 (hA h105 (hN rfl (hA h106 (hA h107 (hA h108 hZ))))))))) fun e111 h113 h114 h115 h116 h117 h118 h119 h120 h121 => sN (sq (sq (Rg (kx (mvO h118) (kx (bLss rfl rfl) (Rn (hA h113 (hA h114 (hA h115 (hA h116 (hA h117 (hA h118 (hA h119 (hA h120 (hA h121 (hN rfl hZ)))))))))) fun e122 h124 h125 h126 h127 h128 h129 h130 h131 h132 h133 => sN ?_)))))))))))))
  clear h80 h81 h82 h83 h84 h85 h86 h87 h100 h101 h102 h103 h104 h105 h106 h107 h108 h113 h114 h115 h116 h117 h118 h119 h120 h121
  rcases ite_some h with ⟨hb134, h⟩ | ⟨hb134, h⟩
  ·refine cT h133 hb134 (sq (Rg (kx (mvO h127) (kx (mvO rfl) (kx (mvO rfl) (Rn (hN rfl (hV (.int .i64 8) rfl hZ)) fun e135 h137 h138 => sN (xx (sR (bR (sR ?_))))))))))
   clear h124 h125 h126 h127 h128 h129 h130 h131 h132 h133
   obtain rfl := si h
   exact qR ⟨rfl, h137, h138⟩
  obtain ⟨x139, hx140, h⟩ := bind_some h
  obtain ⟨r142, hx141, h⟩ := bind_some h
  refine cF h133 hb134 (xx (sN (sq (sq (Rd (kf (faO h128 o97 rfl) (kf (ldO rfl o97 rfl rfl rfl) (kf (faP h125 ⟨ble rfl, blt rfl⟩ rfl) (kf (ldPA rfl rfl rfl) (kf (mvO h126) (kf (faO h128 o97 rfl) (kf (ldO rfl o97 rfl rfl rfl) (kf (mvO h124) (kf (mvO h129) (kf (ixS rfl rfl hx140 Party.fl) (kf (faP rfl ⟨ble rfl, blt rfl⟩ rfl) (kf (ldP rfl rfl) (fc (cl (v := .int .u32 r142) rfl rfl (cns rfl (cns rfl (cns rfl (cns rfl rfl)))) rfl (impl_seal_ok a2.Stock s1_2 x89.Holder x139.Secret _ hx141) nm) (kf (bNeq rfl rfl) (fZ (Rn (hA h124 (hA h125 (hA h127 (hA h128 (hA h130 (hA h131 (hA h132 (hN rfl hZ)))))))) fun e143 h145 h146 h147 h148 h149 h150 h151 h152 => sN ?_)))))))))))))))))))))
  clear h124 h125 h126 h127 h128 h129 h130 h131 h132 h133
  rcases ite_some h with ⟨hb153, h⟩ | ⟨hb153, h⟩
  ·refine cT h152 hb153 (sq (Rg (kx (mvO h147) (kx (mvO rfl) (kx (mvO rfl) (Rn (hN rfl (hV (.int .i64 0) rfl hZ)) fun e154 h156 h157 => sN (xx (sR (bR (sR ?_))))))))))
   clear h145 h146 h147 h148 h149 h150 h151 h152
   obtain rfl := si h
   exact qR ⟨rfl, h156, h157⟩
  refine cF h152 hb153 (xx (sN (sq (Rg (kx (faO h148 o97 rfl) (kx (ldO rfl o97 rfl rfl rfl) (kx (mvO rfl) (Rn (hA h145 (hA h146 (hN rfl (hA h148 (hA h149 (hA h150 (hA h151 hZ))))))) fun e158 h160 h161 h162 h163 h164 h165 h166 => sN (Rg (kx (faO h163 o97 rfl) (kx (ldO rfl o97 rfl rfl rfl) (kx (mvO rfl) (Rn (hA h160 (hA h161 (hA h162 (hN rfl (hA h164 (hA h165 (hA h166 hZ))))))) fun e167 h169 h170 h171 h172 h173 h174 h175 => bN (sN (Rg (kx (bAdd h175 rfl) (kx (mvO rfl) (Rn (hA h169 (hA h170 (hA h171 (hA h172 (hA h173 (hA h174 (hN rfl hZ))))))) fun e176 h178 h179 h180 h181 h182 h183 h184 => ?_))))))))))))))))))
  clear h145 h146 h147 h148 h149 h150 h151 h152 h160 h161 h162 h163 h164 h165 h166 h169 h170 h171 h172 h173 h174
  obtain rfl := si h
  exact qN ⟨h178, h179, h180, h181, h182, h183, h184⟩
 refine cF h87 hb88 (xx (sE ?_))
 obtain rfl := si h
 exact qE ⟨rfl, trivial⟩
noncomputable def impl_CheckChain (a1 : List Party) (a2 : Chain) : Option (Int × Int) :=
 ((impl_ValidParties a1).bind fun r6 =>
 if r6 = true then
  (impl_ValidChain a2).bind fun r9 =>
  some (!r9)
 else
  some true).bind fun y22 =>
 if y22 = true then
  some (0, 1)
 else
  (Lw (impl_CheckChain_b1 a1 a2) (a2.Debtor, 0, 0)).bind fun r => match r with
  | (.inl (y190, y191)) =>
   some (y190, y191)
  | (.inr _) =>
   some (0, 6)
def impl_CheckChain_enc (r : Int × Int) : AV := .tup [.int .i64 r.1, .int .i64 r.2]
theorem impl_CheckChain_ok (a1 : List Party) (a2 : Chain) (r : Int × Int) (h : impl_CheckChain a1 a2 = some r) : Ev (fun k => CN k 31 [.sl none (a1.map Party.c), .agg (.str a2.Debtor :: (.bool a2.Stock.Stock :: (.sl none (a2.Stock.Notches.map Notch.c) :: ((arC (cI .i8) 0 a2.Stock.Grain) ++ ((.sl none (a2.Marks.map Mark.c) :: []) : List AV)))))] []) (fun p => rRes p.2 p.1 = impl_CheckChain_enc r) := by
 unfold impl_CheckChain at h
 obtain ⟨r201, hr202, h⟩ := bind_some h
 refine Ev.enter (F := fun k => f31 (CN k) k) (fun k => callN_eq rfl Tryd.func31 rfl rfl rfl (by decide +kernel) (f31_eq _ _)) (sq (Rg (kx (bxI rfl rfl ⟨rfl, rfl, by decide⟩) (kx (mvO rfl) (kx (mvO rfl) (Rn (hN rfl (hN rfl hZ)) fun e1 h3 h4 => sN (sq (sq ?_))))))))
 refine Ev.cut (Q1 := impl_CheckChain_c1_Q a1 a2 r201) (by
     have h := hr202
     obtain ⟨r6, hx5, h⟩ := bind_some h
     refine Rg (kx (mvO h3) (kc (cl (v := .bool r6) rfl rfl (cns rfl rfl) rfl (impl_ValidParties_ok a1 _ hx5) nm) (kx (uNot rfl) (kx (mvO rfl) ?_))))
     rcases ite_some h with ⟨hb7, h⟩ | ⟨hb7, h⟩
     ·obtain ⟨r9, hx8, h⟩ := bind_some h
      refine kx (guF rfl (congrArg Bool.not hb7) (ldPA h4 rfl rfl)) (kc (Ev.guF rfl (congrArg Bool.not hb7) (cl (v := .bool r9) rfl rfl (cns rfl rfl) rfl (impl_ValidChain_ok a2 _ hx8) nm)) (kx (guF rfl (congrArg Bool.not hb7) (uNot rfl)) (kx (pkF rfl (congrArg Bool.not hb7) rfl) (Rn (hA h3 (hA h4 (hN rfl hZ))) fun e10 h12 h13 h14 => ?_))))
      clear h3 h4
      obtain rfl := si h
      exact kd (show impl_CheckChain_c1_Q a1 a2 _ _ from ⟨rfl, h12, h13, h14⟩)
     refine kx (gsF rfl (congrArg Bool.not hb7)) (kc (Ev.gsF rfl (congrArg Bool.not hb7)) (kx (gsF rfl (congrArg Bool.not hb7)) (kx (pkT rfl (congrArg Bool.not hb7) rfl) (Rn (hA h3 (hA h4 (hV (.bool true) rfl hZ))) fun e15 h17 h18 h19 => ?_))))
     clear h3 h4
     obtain rfl := si h
     exact kd (show impl_CheckChain_c1_Q a1 a2 _ _ from ⟨rfl, h17, h18, h19⟩)) ?_
 revert h hr202
 revert r201
 intro y22 hr202 h
 intro x e20 M21 hq200
 obtain ⟨rfl, h23, h24, h25⟩ := hq200
 refine sN ?_
 rcases ite_some h with ⟨hb26, h⟩ | ⟨hb26, h⟩
 ·refine cT h25 hb26 (sq (Rg (kx (mvO rfl) (kx (mvO rfl) (Rn (hV (.int .i64 0) rfl (hV (.int .i64 1) rfl hZ)) fun e27 h29 h30 => sN (xx (sR ?_)))))))
  clear h23 h24 h25
  obtain rfl := si h
  exact eR (resT h29 (resT h30 res0)) rfl
 obtain ⟨r185, hr186, h⟩ := bind_some h
 refine cF h25 hb26 (xx (sN (sq (Rg (kx (faP h24 ⟨ble rfl, blt rfl⟩ rfl) (kx (ldP rfl rfl) (kx (mvO rfl) (kx (mvO rfl) (Rn (hV (.sl none (a1.map Party.c)) h23 (hV (.pt none (.str a2.Debtor :: (.bool a2.Stock.Stock :: (.sl none (a2.Stock.Notches.map Notch.c) :: ((arC (cI .i8) 0 a2.Stock.Grain) ++ ((.sl none (a2.Marks.map Mark.c) :: []) : List AV)))))) h24 (hN rfl (hV (.int .u32 0) rfl hZ)))) fun e31 h33 h34 h35 h36 => sN (sq (sq (Rg (kx (faP h34 ⟨ble rfl, blt rfl⟩ rfl) (kx (ldP rfl rfl) (kx (lnS Tryd.underlying53 rfl) (kx (mvO rfl) (Rn (hA h33 (hA h34 (hA h35 (hA h36 (hN rfl (hN rfl (hV (.int .i64 0) rfl hZ))))))) fun e37 h39 h40 h41 h42 h43 h44 h45 => sN (bl ?_))))))))))))))))))
 clear h23 h24 h25 h33 h34 h35 h36
 rcases r185 with ⟨y190, y191⟩ | _
 ·refine Ev.loop (RS := impl_CheckChain_b1_RS a1 a2) (RR := impl_CheckChain_b1_RR a1 a2) (fun s r h e M hs => impl_CheckChain_b1_ok a1 a2 s r h e M hs) hr186 ⟨h39, h40, h41, h42, h43, h44, h45⟩ fun x e188 M189 hq187 => ?_
  obtain ⟨rfl, h192, h193⟩ := hq187
  refine bR (sR ?_)
  obtain rfl := si h
  exact eR (resT h192 (resT h193 res0)) rfl
 refine Ev.loop (RS := impl_CheckChain_b1_RS a1 a2) (RR := impl_CheckChain_b1_RR a1 a2) (fun s r h e M hs => impl_CheckChain_b1_ok a1 a2 s r h e M hs) hr186 ⟨h39, h40, h41, h42, h43, h44, h45⟩ fun x e194 M195 hq187 => ?_
 obtain ⟨rfl, _⟩ := hq187
 refine bE (sN (sq (Rg (kx (mvO rfl) (kx (mvO rfl) (Rn (hV (.int .i64 0) rfl (hV (.int .i64 6) rfl hZ)) fun e196 h198 h199 => sN (xx ?_)))))))
 obtain rfl := si h
 exact eR (resT h198 (resT h199 res0)) rfl
/-! ### loop.example/g01263/spec.WhoPassedTwice (f30) -/
def spec_WhoPassedTwice_c1_Q (a1 : Chain) (r6 : Int) (g : Bool) (q : Out) : Prop := q.1 = .nrm ∧ eget q.2.1 2 = .pt none (.str a1.Debtor :: (.bool a1.Stock.Stock :: (.sl none (a1.Stock.Notches.map Notch.c) :: ((arC (cI .i8) 0 a1.Stock.Grain) ++ ((.sl none (a1.Marks.map Mark.c) :: []) : List AV))))) ∧ eget q.2.1 6 = .int .i64 r6 ∧ eget q.2.1 26 = .bool g
noncomputable def spec_WhoPassedTwice (a1 : Chain) (a2 : Chain) : Option ((List UInt8) × Int) :=
 (spec_l06Common a1 a2).bind fun (r6, r7) =>
 if (r7 != 0) = true then
  some (([] : List UInt8), r7)
 else
  (if (r6 == (a1.Marks.length : Int)) = true then
   some true
  else
   some (r6 == (a2.Marks.length : Int))).bind fun y39 =>
  if y39 = true then
   some (([] : List UInt8), 6)
  else
   if (r6 == 0) = true then
    some (a1.Debtor, 0)
   else
    (rd a1.Marks (IntKind.i64.wrap (r6 - 1))).bind fun x58 =>
    some (x58.Holder, 0)
def spec_WhoPassedTwice_enc (r : (List UInt8) × Int) : AV := .tup [.str r.1, .int .i64 r.2]
theorem spec_WhoPassedTwice_ok (a1 : Chain) (a2 : Chain) (r : (List UInt8) × Int) (h : spec_WhoPassedTwice a1 a2 = some r) : Ev (fun k => CN k 30 [.agg (.str a1.Debtor :: (.bool a1.Stock.Stock :: (.sl none (a1.Stock.Notches.map Notch.c) :: ((arC (cI .i8) 0 a1.Stock.Grain) ++ ((.sl none (a1.Marks.map Mark.c) :: []) : List AV))))), .agg (.str a2.Debtor :: (.bool a2.Stock.Stock :: (.sl none (a2.Stock.Notches.map Notch.c) :: ((arC (cI .i8) 0 a2.Stock.Grain) ++ ((.sl none (a2.Marks.map Mark.c) :: []) : List AV)))))] []) (fun p => rRes p.2 p.1 = spec_WhoPassedTwice_enc r) := by
 unfold spec_WhoPassedTwice at h
 obtain ⟨⟨r6, r7⟩, hx5, h⟩ := bind_some h
 refine Ev.enter (F := fun k => f30 (CN k) k) (fun k => callN_eq rfl Tryd.func30 rfl rfl rfl (by decide +kernel) (f30_eq _ _)) (sq (Rg (kx (bxI rfl rfl ⟨rfl, rfl, by decide⟩) (kx (bxI rfl rfl ⟨rfl, rfl, by decide⟩) (kx (mvO rfl) (kx (mvO rfl) (Rn (hN rfl (hN rfl hZ)) fun e1 h3 h4 => sN (sq (Rg (kc (cl (v := .tup [.int .i64 r6, .int .i64 r7]) rfl rfl (cns h3 (cns h4 rfl)) rfl (spec_l06Common_ok a1 a2 _ hx5) nm) (kx (mvO rfl) (kx (exT rfl rfl) (kx (exT rfl rfl) (kx (mvO rfl) (kx (mvO rfl) (Rn (hA h3 (hA h4 (hN rfl (hN rfl hZ)))) fun e8 h10 h11 h12 h13 => sN (sq (sq (Rg (kx (mvO h13) (kx (bNeq rfl rfl) (Rn (hA h10 (hA h11 (hA h12 (hA h13 (hN rfl hZ))))) fun e14 h16 h17 h18 h19 h20 => sN ?_))))))))))))))))))))))
 clear h3 h4 h10 h11 h12 h13
 rcases ite_some h with ⟨hb21, h⟩ | ⟨hb21, h⟩
 ·refine cT h20 hb21 (sq (Rg (kx (mvO h19) (kx (mvO rfl) (kx (mvO rfl) (Rn (hN rfl (hN rfl hZ)) fun e22 h24 h25 => sN (xx (sR ?_))))))))
  clear h16 h17 h18 h19 h20
  obtain rfl := si h
  exact eR (resT h24 (resT h25 res0)) rfl
 obtain ⟨r65, hr66, h⟩ := bind_some h
 refine cF h20 hb21 (xx (sN (sq (sq ?_))))
 refine Ev.cut (Q1 := spec_WhoPassedTwice_c1_Q a1 r6 r65) (by
     have h := hr66
     refine Rg (kx (mvO h18) (kx (faP h16 ⟨ble rfl, blt rfl⟩ rfl) (kx (ldP rfl rfl) (kx (lnS Tryd.underlying53 rfl) (kx (bEql rfl rfl) (kx (mvO rfl) ?_))))))
     rcases ite_some h with ⟨hb26, h⟩ | ⟨hb26, h⟩
     ·refine kx (gsF rfl hb26) (kx (gsF rfl hb26) (kx (gsF rfl hb26) (kx (gsF rfl hb26) (kx (gsF rfl hb26) (kx (pkT rfl hb26 rfl) (Rn (hA h16 (hA h18 (hV (.bool true) rfl hZ))) fun e27 h29 h30 h31 => ?_))))))
      clear h16 h17 h18 h19 h20
      obtain rfl := si h
      exact kd (show spec_WhoPassedTwice_c1_Q a1 r6 _ _ from ⟨rfl, h29, h30, h31⟩)
     refine kx (guF rfl hb26 (mvO h18)) (kx (guF rfl hb26 (faP h17 ⟨ble rfl, blt rfl⟩ rfl)) (kx (guF rfl hb26 (ldP rfl rfl)) (kx (guF rfl hb26 (lnS Tryd.underlying53 rfl)) (kx (guF rfl hb26 (bEql rfl rfl)) (kx (pkF rfl hb26 rfl) (Rn (hA h16 (hA h18 (hN rfl hZ))) fun e32 h34 h35 h36 => ?_))))))
     clear h16 h17 h18 h19 h20
     obtain rfl := si h
     exact kd (show spec_WhoPassedTwice_c1_Q a1 r6 _ _ from ⟨rfl, h34, h35, h36⟩)) ?_
 revert h hr66
 revert r65
 intro y39 hr66 h
 intro x e37 M38 hq64
 obtain ⟨rfl, h40, h41, h42⟩ := hq64
 refine sN ?_
 rcases ite_some h with ⟨hb43, h⟩ | ⟨hb43, h⟩
 ·refine cT h42 hb43 (sq (Rg (kx (mvO rfl) (kx (mvO rfl) (Rn (hN rfl (hV (.int .i64 6) rfl hZ)) fun e44 h46 h47 => sN (xx (sR ?_)))))))
  clear h40 h41 h42
  obtain rfl := si h
  exact eR (resT h46 (resT h47 res0)) rfl
 refine cF h42 hb43 (xx (sN (sq (sq (Rg (kx (mvO h41) (kx (bEql rfl rfl) (Rn (hV (.pt none (.str a1.Debtor :: (.bool a1.Stock.Stock :: (.sl none (a1.Stock.Notches.map Notch.c) :: ((arC (cI .i8) 0 a1.Stock.Grain) ++ ((.sl none (a1.Marks.map Mark.c) :: []) : List AV)))))) h40 (hV (.int .i64 r6) h41 (hN rfl hZ))) fun e48 h50 h51 h52 => sN ?_))))))))
 clear h40 h41 h42
 rcases ite_some h with ⟨hb53, h⟩ | ⟨hb53, h⟩
 ·refine cT h52 hb53 (sq (Rg (kx (faP h50 ⟨ble rfl, blt rfl⟩ rfl) (kx (ldP rfl rfl) (kx (mvO rfl) (kx (mvO rfl) (Rn (hN rfl (hV (.int .i64 0) rfl hZ)) fun e54 h56 h57 => sN (xx (sR ?_)))))))))
  clear h50 h51 h52
  obtain rfl := si h
  exact eR (resT h56 (resT h57 res0)) rfl
 obtain ⟨x58, hx59, h⟩ := bind_some h
 refine cF h52 hb53 (xx (sN (sq (Rg (kx (faP h50 ⟨ble rfl, blt rfl⟩ rfl) (kx (ldP rfl rfl) (kx (mvO h51) (kx (bSub rfl rfl) (kx (ixS rfl rfl hx59 Mark.fl) (kx (faP rfl ⟨ble rfl, blt rfl⟩ rfl) (kx (ldP rfl rfl) (kx (mvO rfl) (kx (mvO rfl) (Rn (hN rfl (hV (.int .i64 0) rfl hZ)) fun e60 h62 h63 => sN (xx ?_)))))))))))))))
 clear h50 h51 h52
 obtain rfl := si h
 exact eR (resT h62 (resT h63 res0)) rfl
/-! ### loop.example/g01263/impl.PassOn (f29) -/
def impl_PassOn_c1_Q (a1 : Chain) (a2 : Party) (a3 : List UInt8) (i901_1 : Nat) (g : Bool) (q : Out) : Prop := q.1 = .nrm ∧ eget q.2.1 2 = .str a3 ∧ eget q.2.1 3 = .pt none (.str a1.Debtor :: (.bool a1.Stock.Stock :: (.sl none (a1.Stock.Notches.map Notch.c) :: ((arC (cI .i8) 0 a1.Stock.Grain) ++ ((.sl none (a1.Marks.map Mark.c) :: []) : List AV))))) ∧ eget q.2.1 4 = .pt none [.str a2.Name, .int .u32 a2.Secret] ∧ eget q.2.1 6 = .loc i901_1 1 0 0 ∧ eget q.2.1 22 = .bool g ∧ q.2.2[i901_1]? = some (.live ⟨.box, 55, 20, [(.str ([] : List UInt8) :: (.bool false :: (.nils :: ((arC (cI .i8) 0 (Ar.rep 16 0)) ++ ((.nils :: []) : List AV)))))]⟩)
noncomputable def impl_PassOn (a1 : Chain) (a2 : Party) (a3 : List UInt8) : Option ((List UInt8) × Bool × (List Notch) × (Ar 16 Int) × (List Mark) × Int) :=
 (impl_ValidChain a1).bind fun r12 =>
 if r12 = true then
  (impl_last a1).bind fun (r22, r23) =>
  if (a2.Name == r22) = true then
   ((impl_isName a3).bind fun r33 =>
   if r33 = true then
    some (a3 == a2.Name)
   else
    some true).bind fun y51 =>
   if y51 = true then
    some (([] : List UInt8), false, ([] : List Notch), (Ar.rep 16 0), ([] : List Mark), 2)
   else
    if ((a1.Marks.length : Int) == 30) = true then
     some (([] : List UInt8), false, ([] : List Notch), (Ar.rep 16 0), ([] : List Mark), 3)
    else
     (impl_last a1).bind fun (r82, r83) =>
     (impl_seal a1.Stock r83 a3 a2.Secret).bind fun r85 =>
     (impl_ownHalf a1.Stock).bind fun (r102, r103, r104) =>
     (slices_Clone_Mark a1.Marks).bind fun r107 =>
     (app 24 r107 [(Mark.mk a3 r85)]).bind fun x120 =>
     some (a1.Debtor, r102, r103, r104, x120, 0)
  else
   some (([] : List UInt8), false, ([] : List Notch), (Ar.rep 16 0), ([] : List Mark), 4)
 else
  some (([] : List UInt8), false, ([] : List Notch), (Ar.rep 16 0), ([] : List Mark), 1)
def impl_PassOn_enc (r : (List UInt8) × Bool × (List Notch) × (Ar 16 Int) × (List Mark) × Int) : AV := .tup [.agg (.str r.1 :: (.bool r.2.1 :: (.sl none (r.2.2.1.map Notch.c) :: ((arC (cI .i8) 0 r.2.2.2.1) ++ ((.sl none (r.2.2.2.2.1.map Mark.c) :: []) : List AV))))), .int .i64 r.2.2.2.2.2]
theorem impl_PassOn_ok (a1 : Chain) (a2 : Party) (a3 : List UInt8) (r : (List UInt8) × Bool × (List Notch) × (Ar 16 Int) × (List Mark) × Int) (h : impl_PassOn a1 a2 a3 = some r) : Ev (fun k => CN k 29 [.agg (.str a1.Debtor :: (.bool a1.Stock.Stock :: (.sl none (a1.Stock.Notches.map Notch.c) :: ((arC (cI .i8) 0 a1.Stock.Grain) ++ ((.sl none (a1.Marks.map Mark.c) :: []) : List AV))))), .agg [.str a2.Name, .int .u32 a2.Secret], .str a3] []) (fun p => wkR (rRes p.2 p.1) = impl_PassOn_enc r ∧ ownAll (rRes p.2 p.1) = true) := by
 unfold impl_PassOn at h
 refine Ev.enter (F := fun k => f29 (CN k) k) (fun k => callN_eq rfl Tryd.func29 rfl rfl rfl (by decide +kernel) (f29_eq _ _)) (sq (Rg (kx (bxI rfl rfl ⟨rfl, rfl, by decide⟩) (kx (bxI rfl rfl ⟨rfl, rfl, by decide⟩) (ku (alO zero55) fun M2 hM3 => ?_)))))
 have o4 : M2[([] : Mem).length]? = some (.live ⟨.box, 55, 20, [(.str ([] : List UInt8) :: (.bool false :: (.nils :: ((arC (cI .i8) 0 (Ar.rep 16 0)) ++ ((.nils :: []) : List AV)))))]⟩) := push_new hM3
 obtain ⟨r12, hx11, h⟩ := bind_some h
 refine kx (mvO rfl) (Rn (hN rfl (hN rfl (hN rfl (hV (.loc ([] : Mem).length 1 0 0) rfl hZ)))) fun e5 h7 h8 h9 h10 => sN (sq (bl (sq (Rg (kx (ldPA h8 rfl rfl) (kc (cl (v := .bool r12) rfl rfl (cns rfl rfl) rfl (impl_ValidChain_ok a1 _ hx11) nm) (kx (uNot rfl) (kx (mvO rfl) (Rn (hA h7 (hA h8 (hA h9 (hA h10 (hN rfl hZ))))) fun e13 h15 h16 h17 h18 h19 => sN ?_))))))))))
 clear h10 h7 h8 h9
 rcases ite_some h with ⟨hb20, h⟩ | ⟨hb20, h⟩
 ·obtain ⟨⟨r22, r23⟩, hx21, h⟩ := bind_some h
  refine cF h19 (congrArg Bool.not hb20) (sq (Rd (kf (faP h17 ⟨ble rfl, blt rfl⟩ rfl) (kf (ldP rfl rfl) (kf (ldPA h16 rfl rfl) (fc (cl (v := .agg [.str r22, .int .u32 r23]) rfl rfl (cns rfl rfl) rfl (impl_last_ok a1 _ hx21) nm) (kf (fdC rfl rfl) (kf (sNeq rfl rfl) (kf (mvO rfl) (fZ (Rn (hA h15 (hA h16 (hA h17 (hA h18 (hN rfl hZ))))) fun e24 h26 h27 h28 h29 h30 => sN ?_)))))))))))
  clear h15 h16 h17 h18 h19
  rcases ite_some h with ⟨hb31, h⟩ | ⟨hb31, h⟩
  ·obtain ⟨r139, hr140, h⟩ := bind_some h
   refine cF h30 (congrArg Bool.not hb31) (sq ?_)
   refine Ev.cut (Q1 := impl_PassOn_c1_Q a1 a2 a3 (([] : Mem).length) r139) (by
       have h := hr140
       obtain ⟨r33, hx32, h⟩ := bind_some h
       refine Rg (kx (mvO h26) (kc (cl (v := .bool r33) rfl rfl (cns rfl rfl) rfl (impl_isName_ok a3 _ hx32) nm) (kx (uNot rfl) (kx (mvO rfl) ?_))))
       rcases ite_some h with ⟨hb34, h⟩ | ⟨hb34, h⟩
       ·refine kx (guF rfl (congrArg Bool.not hb34) (mvO h26)) (kx (guF rfl (congrArg Bool.not hb34) (faP h28 ⟨ble rfl, blt rfl⟩ rfl)) (kx (guF rfl (congrArg Bool.not hb34) (ldP rfl rfl)) (kx (guF rfl (congrArg Bool.not hb34) (sEql rfl rfl)) (kx (pkF rfl (congrArg Bool.not hb34) rfl) (kx (mvO rfl) (Rn (hA h26 (hA h27 (hA h28 (hA h29 (hN rfl hZ))))) fun e35 h37 h38 h39 h40 h41 => ?_))))))
        clear h26 h27 h28 h29 h30
        obtain rfl := si h
        exact kd (show impl_PassOn_c1_Q a1 a2 a3 (([] : Mem).length) _ _ from ⟨rfl, h37, h38, h39, h40, h41, o4⟩)
       refine kx (gsF rfl (congrArg Bool.not hb34)) (kx (gsF rfl (congrArg Bool.not hb34)) (kx (gsF rfl (congrArg Bool.not hb34)) (kx (gsF rfl (congrArg Bool.not hb34)) (kx (pkT rfl (congrArg Bool.not hb34) rfl) (kx (mvO rfl) (Rn (hA h26 (hA h27 (hA h28 (hA h29 (hV (.bool true) rfl hZ))))) fun e42 h44 h45 h46 h47 h48 => ?_))))))
       clear h26 h27 h28 h29 h30
       obtain rfl := si h
       exact kd (show impl_PassOn_c1_Q a1 a2 a3 (([] : Mem).length) _ _ from ⟨rfl, h44, h45, h46, h47, h48, o4⟩)) ?_
   revert h hr140
   revert r139
   intro y51 hr140 h
   intro x e49 M50 hq138
   obtain ⟨rfl, h52, h53, h54, h55, h56, o57⟩ := hq138
   refine sN ?_
   rcases ite_some h with ⟨hb58, h⟩ | ⟨hb58, h⟩
   ·refine cT h56 hb58 (sq (Rg (kx (bldT zero55 rfl (fill0 rfl)) (kw (stO h55 rfl o57 rfl rfl ⟨rfl, ble rfl⟩ rfl rfl) fun M59 hM60 => ?_))))
    have o61 : M59[([] : Mem).length]? = some (.live ⟨.box, 55, 20, [(.str ([] : List UInt8) :: (.bool false :: (.nils :: ((arC (cI .i8) 0 (Ar.rep 16 0)) ++ ((.nils :: []) : List AV)))))]⟩) := set_same hM60 o57
    refine kx (mvO rfl) (Rn (hV (.loc ([] : Mem).length 1 0 0) h55 (hV (.int .i64 2) rfl hZ)) fun e62 h64 h65 => sN (xx (bR (sR ?_))))
    clear h52 h53 h54 h55 h56
    obtain rfl := si h
    exact eR (resC (ag := true) (sz := 20) ⟨by kernel_rfl, by kernel_rfl, by kernel_rfl⟩ (ldOA (cs' := (.str ([] : List UInt8) :: (.bool false :: (.nils :: ((arC (cI .i8) 0 (Ar.rep 16 0)) ++ ((.nils :: []) : List AV)))))) h64 o61 rfl rfl (ble rfl) rfl) (resT h65 res0)) (wkO (y := .tup [.agg (.str ([] : List UInt8) :: (.bool false :: (.nils :: ((arC (cI .i8) 0 (Ar.rep 16 0)) ++ ((.nils :: []) : List AV))))), .int .i64 2]) rfl (wk_tup (mp1 (wk_agg (mp1 rfl (mp1 rfl (mp1 rfl (mpA (fun _ => wk1_flat) (fun _ => rfl) (mp1 rfl mp0)))))) (mp1 rfl mp0))) (own_tup (oa1 (own2_agg (oa1 rfl (oa1 rfl (oa1 rfl (oaA (fun _ => own1_flat) (fun _ => rfl) (oa1 rfl oa0)))))) (oa1 rfl oa0))))
   refine cF h56 hb58 (sq (Rg (kx (faP h53 ⟨ble rfl, blt rfl⟩ rfl) (kx (ldP rfl rfl) (kx (lnS Tryd.underlying53 rfl) (kx (bEql rfl rfl) (kx (mvO rfl) (Rn (hV (.str a3) h52 (hV (.pt none (.str a1.Debtor :: (.bool a1.Stock.Stock :: (.sl none (a1.Stock.Notches.map Notch.c) :: ((arC (cI .i8) 0 a1.Stock.Grain) ++ ((.sl none (a1.Marks.map Mark.c) :: []) : List AV)))))) h53 (hV (.pt none [.str a2.Name, .int .u32 a2.Secret]) h54 (hV (.loc ([] : Mem).length 1 0 0) h55 (hN rfl hZ))))) fun e66 h68 h69 h70 h71 h72 => sN ?_))))))))
   clear h52 h53 h54 h55 h56
   rcases ite_some h with ⟨hb73, h⟩ | ⟨hb73, h⟩
   ·refine cT h72 hb73 (sq (Rg (kx (bldT zero55 rfl (fill0 rfl)) (kw (stO h71 rfl o57 rfl rfl ⟨rfl, ble rfl⟩ rfl rfl) fun M74 hM75 => ?_))))
    have o76 : M74[([] : Mem).length]? = some (.live ⟨.box, 55, 20, [(.str ([] : List UInt8) :: (.bool false :: (.nils :: ((arC (cI .i8) 0 (Ar.rep 16 0)) ++ ((.nils :: []) : List AV)))))]⟩) := set_same hM75 o57
    refine kx (mvO rfl) (Rn (hA h71 (hV (.int .i64 3) rfl hZ)) fun e77 h79 h80 => sN (xx (bR (sR ?_))))
    clear h68 h69 h70 h71 h72
    obtain rfl := si h
    exact eR (resC (ag := true) (sz := 20) ⟨by kernel_rfl, by kernel_rfl, by kernel_rfl⟩ (ldOA (cs' := (.str ([] : List UInt8) :: (.bool false :: (.nils :: ((arC (cI .i8) 0 (Ar.rep 16 0)) ++ ((.nils :: []) : List AV)))))) h79 o76 rfl rfl (ble rfl) rfl) (resT h80 res0)) (wkO (y := .tup [.agg (.str ([] : List UInt8) :: (.bool false :: (.nils :: ((arC (cI .i8) 0 (Ar.rep 16 0)) ++ ((.nils :: []) : List AV))))), .int .i64 3]) rfl (wk_tup (mp1 (wk_agg (mp1 rfl (mp1 rfl (mp1 rfl (mpA (fun _ => wk1_flat) (fun _ => rfl) (mp1 rfl mp0)))))) (mp1 rfl mp0))) (own_tup (oa1 (own2_agg (oa1 rfl (oa1 rfl (oa1 rfl (oaA (fun _ => own1_flat) (fun _ => rfl) (oa1 rfl oa0)))))) (oa1 rfl oa0))))
   obtain ⟨⟨r82, r83⟩, hx81, h⟩ := bind_some h
   obtain ⟨r85, hx84, h⟩ := bind_some h
   refine cF h72 hb73 (xx (bN (sN (sq (Rd (kf (mvO h68) (kf (faP h69 ⟨ble rfl, blt rfl⟩ rfl) (kf (ldPA rfl rfl rfl) (kf (ldPA h69 rfl rfl) (fc (cl (v := .agg [.str r82, .int .u32 r83]) rfl rfl (cns rfl rfl) rfl (impl_last_ok a1 _ hx81) nm) (kf (fdC rfl rfl) (kf (mvO h68) (kf (faP h70 ⟨ble rfl, blt rfl⟩ rfl) (kf (ldP rfl rfl) (fc (cl (v := .int .u32 r85) rfl rfl (cns rfl (cns rfl (cns rfl (cns rfl rfl)))) rfl (impl_seal_ok a1.Stock r83 a3 a2.Secret _ hx84) nm) (kf (bldT zero60 (cns (pr3 rfl) (cns (pr3 rfl) rfl)) (fill1 ⟨rfl, ble rfl⟩ rfl rfl (fill1 ⟨rfl, ble rfl⟩ rfl rfl (fill0 rfl)))) (Ev.nfpushE (alO zero60) (Ev.fend1 fun M87 hM88 => ?_))))))))))))))))))
   have hM88 := fendM hM88 [⟨.box, 60, 2, [[.str ([] : List UInt8), .int .u32 0]]⟩] rfl
   have o89 := push_old hM88 o57
   have ne90 : ([] : Mem).length ≠ M50.length := by have := lt_of_get (M := M50) o57; omega
   have o91 : M87[M50.length]? = some (.live ⟨.box, 60, 2, [[.str ([] : List UInt8), .int .u32 0]]⟩) := push_at hM88 0 rfl
   refine kw (stO rfl rfl o91 rfl rfl ⟨rfl, ble rfl⟩ rfl rfl) fun M92 hM93 => ?_
   have o94 := set_ne hM93 ne90 o89
   have o95 : M92[M50.length]? = some (.live ⟨.box, 60, 2, [[.str a3, .int .u32 r85]]⟩) := set_same hM93 o91
   obtain ⟨⟨r102, r103, r104⟩, hx101, h⟩ := bind_some h
   obtain ⟨r107, hx106, h⟩ := bind_some h
   refine Rn (hA h69 (hA h71 (hV (.loc M50.length 1 0 0) rfl hZ))) fun e96 h98 h99 h100 => sN (sq (Rd (kf (faP h98 ⟨ble rfl, blt rfl⟩ rfl) (kf (ldP rfl rfl) (kf (faP h98 ⟨ble rfl, blt rfl⟩ rfl) (kf (ldPA rfl rfl rfl) (Ev.nfcpE (Ev.callT (v := .agg (.bool r102 :: (.sl (some 141) (r103.map Notch.c) :: ((arC (cI .i8) 0 r104) ++ ([] : List AV))))) rfl (cns rfl rfl) rfl (impl_ownHalf_ok a1.Stock _ hx101) (th_gen (v' := .agg (.bool r102 :: (.lsl M92.length r103.length 0 r103.length :: ((arC (cI .i8) 0 r104) ++ ([] : List AV))))) (l := [⟨.grow, 141, 2, r103.map Notch.c⟩]) (own_agg (oa1 rfl (oa1 (own1_row' (c := Notch.c) Notch.flF) (oaA (fun _ => own1_flat) (fun _ => rfl) oa0)))) (by simp [thaw, thaw2, thaw1, thawL, co141, thA (c := (cI .i8)) (fun _ => rfl), thA0 (c := (cI .i8)) (fun _ => rfl)]) rfl rfl)) (kf (faP h98 ⟨ble rfl, blt rfl⟩ rfl) (kf (ldP rfl rfl) (Ev.nfcpE (Ev.callT (v := .sl (some 60) (r107.map Mark.c)) rfl (cns rfl rfl) rfl (slices_Clone_Mark_ok a1.Marks _ hx106) (th_gen (v' := .lsl (M92.length + 1) r107.length 0 r107.length) (l := [⟨.grow, 60, 2, r107.map Mark.c⟩]) (ownA_row (c := Mark.c) Mark.flF) (by simp [thaw, thaw2, thaw1, thawL, co60]) rfl rfl)) (kf (ldOA h100 o95 rfl rfl (ble rfl) rfl) (kf (litI (cns rfl rfl) rfl ⟨rfl, by decide⟩) (Ev.fend1 fun M109 hM110 => ?_)))))))))))))
   clear h68 h69 h70 h71 h72
   have hM110 := fendM hM110 [⟨.grow, 141, 2, r103.map Notch.c⟩, ⟨.grow, 60, 2, r107.map Mark.c⟩] rfl
   have o111 := push_old hM110 o94
   have o112 := push_old hM110 o95
   have ne113 : ([] : Mem).length ≠ M92.length := by have := lt_of_get (M := M92) o94; omega
   have ne114 : M50.length ≠ M92.length := by have := lt_of_get (M := M92) o95; omega
   have o115 : M109[M92.length]? = some (.live ⟨.grow, 141, 2, r103.map Notch.c⟩) := push_at hM110 0 rfl
   have ne116 : ([] : Mem).length ≠ (M92.length + 1) := by have := lt_of_get (M := M92) o94; omega
   have ne117 : M50.length ≠ (M92.length + 1) := by have := lt_of_get (M := M92) o95; omega
   have ne118 : M92.length ≠ (M92.length + 1) := by omega
   have o119 : M109[(M92.length + 1)]? = some (.live ⟨.grow, 60, 2, r107.map Mark.c⟩) := push_at hM110 1 rfl
   obtain ⟨x120, hx121, h⟩ := bind_some h
   refine kw (apO rfl o119 rfl (elT (c := Mark.c) (xs := [(Mark.mk a3 r85)]) rfl) hx121 Mark.fl (by decide)) fun M122 hM123 => ?_
   have o124 := set_ne hM123 ne116 o111
   have o125 := set_ne hM123 ne117 o112
   have o126 := set_ne hM123 ne118 o115
   have o127 : M122[(M92.length + 1)]? = some (.live ⟨.grow, 60, 2, x120.map Mark.c⟩) := set_same hM123 o119
   refine kx (bldT zero55 (cns (pr3 rfl) (cns (pr3 rfl) (cns (pr3 rfl) rfl))) (fill1 (cs' := (.str a1.Debtor :: (.bool false :: (.nils :: ((arC (cI .i8) 0 (Ar.rep 16 0)) ++ ((.nils :: []) : List AV)))))) ⟨rfl, ble rfl⟩ rfl rfl (fill1 (cs' := (.str a1.Debtor :: (.bool r102 :: (.lsl M92.length r103.length 0 r103.length :: ((arC (cI .i8) 0 r104) ++ ((.nils :: []) : List AV)))))) ⟨rfl, ble rfl⟩ (all1 rfl (all1 (okL o126 (by simp)) (oaP (fun _ => rfl) all0))) rfl (fill1 (cs' := (.str a1.Debtor :: (.bool r102 :: (.lsl M92.length r103.length 0 r103.length :: ((arC (cI .i8) 0 r104) ++ ((.lsl (M92.length + 1) x120.length 0 x120.length :: []) : List AV)))))) ⟨rfl, ble rfl⟩ (all1 (okL o127 (by simp)) all0) rfl (fill0 rfl))))) (kw (stO h99 rfl o124 rfl rfl ⟨rfl, ble rfl⟩ (all1 rfl (all1 rfl (all1 (okL o126 (by simp)) (oaS (rest := [.lsl (M92.length + 1) x120.length 0 x120.length]) (fun _ => rfl) (all1 (okL o127 (by simp)) all0))))) rfl) fun M128 hM129 => ?_)
   have o130 : M128[([] : Mem).length]? = some (.live ⟨.box, 55, 20, [(.str a1.Debtor :: (.bool r102 :: (.lsl M92.length r103.length 0 r103.length :: ((arC (cI .i8) 0 r104) ++ ((.lsl (M92.length + 1) x120.length 0 x120.length :: []) : List AV)))))]⟩) := set_same hM129 o124
   have o131 := set_ne hM129 (Ne.symm ne90) o125
   have o132 := set_ne hM129 (Ne.symm ne113) o126
   have o133 := set_ne hM129 (Ne.symm ne116) o127
   refine kx (mvO rfl) (Rn (hA h99 (hV (.int .i64 0) rfl hZ)) fun e134 h136 h137 => sN (xx ?_))
   clear h100 h98 h99
   obtain rfl := si h
   exact eR (resC (ag := true) (sz := 20) ⟨by kernel_rfl, by kernel_rfl, by kernel_rfl⟩ (ldOA (cs' := (.str a1.Debtor :: (.bool r102 :: (.lsl M92.length r103.length 0 r103.length :: ((arC (cI .i8) 0 r104) ++ ((.lsl (M92.length + 1) x120.length 0 x120.length :: []) : List AV)))))) h136 o130 rfl rfl (ble rfl) rfl) (resT h137 res0)) (wkO (y := .tup [.agg (.str a1.Debtor :: (.bool r102 :: (.sl (some 141) (r103.map Notch.c) :: ((arC (cI .i8) 0 r104) ++ ((.sl (some 60) (x120.map Mark.c) :: []) : List AV))))), .int .i64 0]) (rr_tup (mp1 (rr_agg (mp1 rfl (mp1 rfl (mp1 (rr_row o132 rfl Notch.fl) (mpA (fun _ => rRes1_flat) (fun _ => rfl) (mp1 (rr_row o133 rfl Mark.fl) mp0)))))) (mp1 rfl mp0))) (wk_tup (mp1 (wk_agg (mp1 rfl (mp1 rfl (mp1 rfl (mpA (fun _ => wk1_flat) (fun _ => rfl) (mp1 rfl mp0)))))) (mp1 rfl mp0))) (own_tup (oa1 (own2_agg (oa1 rfl (oa1 rfl (oa1 (own1_row' (c := Notch.c) Notch.flF) (oaA (fun _ => own1_flat) (fun _ => rfl) (oa1 (own1_row' (c := Mark.c) Mark.flF) oa0)))))) (oa1 rfl oa0))))
  refine cT h30 (congrArg Bool.not hb31) (sq (Rg (kx (bldT zero55 rfl (fill0 rfl)) (kw (stO h29 rfl o4 rfl rfl ⟨rfl, ble rfl⟩ rfl rfl) fun M141 hM142 => ?_))))
  have o143 : M141[([] : Mem).length]? = some (.live ⟨.box, 55, 20, [(.str ([] : List UInt8) :: (.bool false :: (.nils :: ((arC (cI .i8) 0 (Ar.rep 16 0)) ++ ((.nils :: []) : List AV)))))]⟩) := set_same hM142 o4
  refine kx (mvO rfl) (Rn (hA h29 (hV (.int .i64 4) rfl hZ)) fun e144 h146 h147 => sN (xx (bR (sR ?_))))
  clear h26 h27 h28 h29 h30
  obtain rfl := si h
  exact eR (resC (ag := true) (sz := 20) ⟨by kernel_rfl, by kernel_rfl, by kernel_rfl⟩ (ldOA (cs' := (.str ([] : List UInt8) :: (.bool false :: (.nils :: ((arC (cI .i8) 0 (Ar.rep 16 0)) ++ ((.nils :: []) : List AV)))))) h146 o143 rfl rfl (ble rfl) rfl) (resT h147 res0)) (wkO (y := .tup [.agg (.str ([] : List UInt8) :: (.bool false :: (.nils :: ((arC (cI .i8) 0 (Ar.rep 16 0)) ++ ((.nils :: []) : List AV))))), .int .i64 4]) rfl (wk_tup (mp1 (wk_agg (mp1 rfl (mp1 rfl (mp1 rfl (mpA (fun _ => wk1_flat) (fun _ => rfl) (mp1 rfl mp0)))))) (mp1 rfl mp0))) (own_tup (oa1 (own2_agg (oa1 rfl (oa1 rfl (oa1 rfl (oaA (fun _ => own1_flat) (fun _ => rfl) (oa1 rfl oa0)))))) (oa1 rfl oa0))))
 refine cT h19 (congrArg Bool.not hb20) (sq (Rg (kx (bldT zero55 rfl (fill0 rfl)) (kw (stO h18 rfl o4 rfl rfl ⟨rfl, ble rfl⟩ rfl rfl) fun M148 hM149 => ?_))))
 have o150 : M148[([] : Mem).length]? = some (.live ⟨.box, 55, 20, [(.str ([] : List UInt8) :: (.bool false :: (.nils :: ((arC (cI .i8) 0 (Ar.rep 16 0)) ++ ((.nils :: []) : List AV)))))]⟩) := set_same hM149 o4
 refine kx (mvO rfl) (Rn (hA h18 (hV (.int .i64 1) rfl hZ)) fun e151 h153 h154 => sN (xx (bR (sR ?_))))
 clear h15 h16 h17 h18 h19
 obtain rfl := si h
 exact eR (resC (ag := true) (sz := 20) ⟨by kernel_rfl, by kernel_rfl, by kernel_rfl⟩ (ldOA (cs' := (.str ([] : List UInt8) :: (.bool false :: (.nils :: ((arC (cI .i8) 0 (Ar.rep 16 0)) ++ ((.nils :: []) : List AV)))))) h153 o150 rfl rfl (ble rfl) rfl) (resT h154 res0)) (wkO (y := .tup [.agg (.str ([] : List UInt8) :: (.bool false :: (.nils :: ((arC (cI .i8) 0 (Ar.rep 16 0)) ++ ((.nils :: []) : List AV))))), .int .i64 1]) rfl (wk_tup (mp1 (wk_agg (mp1 rfl (mp1 rfl (mp1 rfl (mpA (fun _ => wk1_flat) (fun _ => rfl) (mp1 rfl mp0)))))) (mp1 rfl mp0))) (own_tup (oa1 (own2_agg (oa1 rfl (oa1 rfl (oa1 rfl (oaA (fun _ => own1_flat) (fun _ => rfl) (oa1 rfl oa0)))))) (oa1 rfl oa0))))
/-! ### loop.example/g01263/impl.StartChain (f28) -/
noncomputable def impl_StartChain (a1 : Half) (a2 : Party) (a3 : List UInt8) : Option ((List UInt8) × Bool × (List Notch) × (Ar 16 Int) × (List Mark) × Int) :=
 (impl_ValidHalf a1).bind fun r12 =>
 if r12 = true then
  if a1.Stock = true then
   (impl_isName a2.Name).bind fun r30 =>
   if r30 = true then
    (impl_isName a3).bind fun r33 =>
    if r33 = true then
     if (a2.Name == a3) = true then
      some (([] : List UInt8), false, ([] : List Notch), (Ar.rep 16 0), ([] : List Mark), 2)
     else
      (impl_ownHalf a1).bind fun (r51, r52, r53) =>
      (impl_seal a1 0 a3 a2.Secret).bind fun r55 =>
      some (a2.Name, r51, r52, r53, [(Mark.mk a3 r55)], 0)
    else
     some (([] : List UInt8), false, ([] : List Notch), (Ar.rep 16 0), ([] : List Mark), 2)
   else
    some (([] : List UInt8), false, ([] : List Notch), (Ar.rep 16 0), ([] : List Mark), 2)
  else
   some (([] : List UInt8), false, ([] : List Notch), (Ar.rep 16 0), ([] : List Mark), 4)
 else
  some (([] : List UInt8), false, ([] : List Notch), (Ar.rep 16 0), ([] : List Mark), 1)
def impl_StartChain_enc (r : (List UInt8) × Bool × (List Notch) × (Ar 16 Int) × (List Mark) × Int) : AV := .tup [.agg (.str r.1 :: (.bool r.2.1 :: (.sl none (r.2.2.1.map Notch.c) :: ((arC (cI .i8) 0 r.2.2.2.1) ++ ((.sl none (r.2.2.2.2.1.map Mark.c) :: []) : List AV))))), .int .i64 r.2.2.2.2.2]
theorem impl_StartChain_ok (a1 : Half) (a2 : Party) (a3 : List UInt8) (r : (List UInt8) × Bool × (List Notch) × (Ar 16 Int) × (List Mark) × Int) (h : impl_StartChain a1 a2 a3 = some r) : Ev (fun k => CN k 28 [.agg (.bool a1.Stock :: (.sl none (a1.Notches.map Notch.c) :: ((arC (cI .i8) 0 a1.Grain) ++ ([] : List AV)))), .agg [.str a2.Name, .int .u32 a2.Secret], .str a3] []) (fun p => wkR (rRes p.2 p.1) = impl_StartChain_enc r) := by
 unfold impl_StartChain at h
 refine Ev.enter (F := fun k => f28 (CN k) k) (fun k => callN_eq rfl Tryd.func28 rfl rfl rfl (by decide +kernel) (f28_eq _ _)) (sq (Rg (kx (bxI rfl rfl ⟨rfl, rfl, by decide⟩) (kx (bxI rfl rfl ⟨rfl, rfl, by decide⟩) (ku (alO zero55) fun M2 hM3 => ?_)))))
 have o4 : M2[([] : Mem).length]? = some (.live ⟨.box, 55, 20, [(.str ([] : List UInt8) :: (.bool false :: (.nils :: ((arC (cI .i8) 0 (Ar.rep 16 0)) ++ ((.nils :: []) : List AV)))))]⟩) := push_new hM3
 obtain ⟨r12, hx11, h⟩ := bind_some h
 refine kx (mvO rfl) (Rn (hN rfl (hN rfl (hN rfl (hV (.loc ([] : Mem).length 1 0 0) rfl hZ)))) fun e5 h7 h8 h9 h10 => sN (sq (bl (sq (Rg (kx (ldPA h8 rfl rfl) (kc (cl (v := .bool r12) rfl rfl (cns rfl rfl) rfl (impl_ValidHalf_ok a1 _ hx11) nm) (kx (uNot rfl) (kx (mvO rfl) (Rn (hA h7 (hA h8 (hA h9 (hA h10 (hN rfl hZ))))) fun e13 h15 h16 h17 h18 h19 => sN ?_))))))))))
 clear h10 h7 h8 h9
 rcases ite_some h with ⟨hb20, h⟩ | ⟨hb20, h⟩
 ·refine cF h19 (congrArg Bool.not hb20) (sq (Rg (kx (faP h16 ⟨ble rfl, blt rfl⟩ rfl) (kx (ldP rfl rfl) (kx (uNot rfl) (kx (mvO rfl) (Rn (hA h15 (hA h16 (hA h17 (hA h18 (hN rfl hZ))))) fun e21 h23 h24 h25 h26 h27 => sN ?_)))))))
  clear h15 h16 h17 h18 h19
  rcases ite_some h with ⟨hb28, h⟩ | ⟨hb28, h⟩
  ·obtain ⟨r30, hx29, h⟩ := bind_some h
   refine cF h27 (congrArg Bool.not hb28) (sq (Rg (kx (faP h25 ⟨ble rfl, blt rfl⟩ rfl) (kx (ldP rfl rfl) (kc (cl (v := .bool r30) rfl rfl (cns rfl rfl) rfl (impl_isName_ok a2.Name _ hx29) nm) (kx (uNot rfl) (kx (mvO rfl) ?_)))))))
   rcases ite_some h with ⟨hb31, h⟩ | ⟨hb31, h⟩
   ·obtain ⟨r33, hx32, h⟩ := bind_some h
    refine kx (guF rfl (congrArg Bool.not hb31) (mvO h23)) (kc (Ev.guF rfl (congrArg Bool.not hb31) (cl (v := .bool r33) rfl rfl (cns rfl rfl) rfl (impl_isName_ok a3 _ hx32) nm)) (kx (guF rfl (congrArg Bool.not hb31) (uNot rfl)) (kx (pkF rfl (congrArg Bool.not hb31) rfl) (kx (mvO rfl) ?_))))
    rcases ite_some h with ⟨hb34, h⟩ | ⟨hb34, h⟩
    ·refine kx (guF rfl (congrArg Bool.not hb34) (faP h25 ⟨ble rfl, blt rfl⟩ rfl)) (kx (guF rfl (congrArg Bool.not hb34) (ldP rfl rfl)) (kx (guF rfl (congrArg Bool.not hb34) (mvO h23)) (kx (guF rfl (congrArg Bool.not hb34) (sEql rfl rfl)) (kx (pkF rfl (congrArg Bool.not hb34) rfl) (kx (mvO rfl) (Rn (hA h23 (hA h24 (hA h25 (hA h26 (hN rfl hZ))))) fun e35 h37 h38 h39 h40 h41 => sN ?_))))))
     clear h23 h24 h25 h26 h27
     rcases ite_some h with ⟨hb42, h⟩ | ⟨hb42, h⟩
     ·refine cT h41 hb42 (sq (Rg (kx (bldT zero55 rfl (fill0 rfl)) (kw (stO h40 rfl o4 rfl rfl ⟨rfl, ble rfl⟩ rfl rfl) fun M43 hM44 => ?_))))
      have o45 : M43[([] : Mem).length]? = some (.live ⟨.box, 55, 20, [(.str ([] : List UInt8) :: (.bool false :: (.nils :: ((arC (cI .i8) 0 (Ar.rep 16 0)) ++ ((.nils :: []) : List AV)))))]⟩) := set_same hM44 o4
      refine kx (mvO rfl) (Rn (hA h40 (hV (.int .i64 2) rfl hZ)) fun e46 h48 h49 => sN (xx (bR (sR ?_))))
      clear h37 h38 h39 h40 h41
      obtain rfl := si h
      exact eR (resC (ag := true) (sz := 20) ⟨by kernel_rfl, by kernel_rfl, by kernel_rfl⟩ (ldOA (cs' := (.str ([] : List UInt8) :: (.bool false :: (.nils :: ((arC (cI .i8) 0 (Ar.rep 16 0)) ++ ((.nils :: []) : List AV)))))) h48 o45 rfl rfl (ble rfl) rfl) (resT h49 res0)) (wkH (y := .tup [.agg (.str ([] : List UInt8) :: (.bool false :: (.nils :: ((arC (cI .i8) 0 (Ar.rep 16 0)) ++ ((.nils :: []) : List AV))))), .int .i64 2]) rfl (wk_tup (mp1 (wk_agg (mp1 rfl (mp1 rfl (mp1 rfl (mpA (fun _ => wk1_flat) (fun _ => rfl) (mp1 rfl mp0)))))) (mp1 rfl mp0))))
     obtain ⟨⟨r51, r52, r53⟩, hx50, h⟩ := bind_some h
     obtain ⟨r55, hx54, h⟩ := bind_some h
     refine cF h41 hb42 (xx (bN (sN (sq (Rd (kf (faP h39 ⟨ble rfl, blt rfl⟩ rfl) (kf (ldP rfl rfl) (kf (ldPA h38 rfl rfl) (fc (cl (v := .agg (.bool r51 :: (.sl (some 141) (r52.map Notch.c) :: ((arC (cI .i8) 0 r53) ++ ([] : List AV))))) rfl rfl (cns rfl rfl) rfl (impl_ownHalf_ok a1 _ hx50) nm) (kf (mvO h37) (kf (ldPA h38 rfl rfl) (kf (mvO h37) (kf (faP h39 ⟨ble rfl, blt rfl⟩ rfl) (kf (ldP rfl rfl) (fc (cl (v := .int .u32 r55) rfl rfl (cns rfl (cns rfl (cns rfl (cns rfl rfl)))) rfl (impl_seal_ok a1 0 a3 a2.Secret _ hx54) nm) (kf (bldT zero60 (cns (pr3 rfl) (cns (pr3 rfl) rfl)) (fill1 ⟨rfl, ble rfl⟩ rfl rfl (fill1 ⟨rfl, ble rfl⟩ rfl rfl (fill0 rfl)))) (kf (litI (cns rfl rfl) rfl ⟨rfl, by decide⟩) (kf (bldT zero55 (cns (pr3 rfl) (cns (pr3 rfl) (cns (pr3 rfl) rfl))) (fill1 (cs' := (.str a2.Name :: (.bool false :: (.nils :: ((arC (cI .i8) 0 (Ar.rep 16 0)) ++ ((.nils :: []) : List AV)))))) ⟨rfl, ble rfl⟩ rfl rfl (fill1 (cs' := (.str a2.Name :: (.bool r51 :: (.sl (some 141) (r52.map Notch.c) :: ((arC (cI .i8) 0 r53) ++ ((.nils :: []) : List AV)))))) ⟨rfl, ble rfl⟩ rfl rfl (fill1 (cs' := (.str a2.Name :: (.bool r51 :: (.sl (some 141) (r52.map Notch.c) :: ((arC (cI .i8) 0 r53) ++ ((.lit 60 ([(Mark.mk a3 r55)].map Mark.c) :: []) : List AV)))))) ⟨rfl, ble rfl⟩ rfl rfl (fill0 rfl))))) (fZ (kw (stO h40 rfl o4 rfl rfl ⟨rfl, ble rfl⟩ rfl rfl) fun M56 hM57 => ?_))))))))))))))))))))
     have o58 : M56[([] : Mem).length]? = some (.live ⟨.box, 55, 20, [(.str a2.Name :: (.bool r51 :: (.sl none (r52.map Notch.c) :: ((arC (cI .i8) 0 r53) ++ ((.sl none ([(Mark.mk a3 r55)].map Mark.c) :: []) : List AV)))))]⟩) := set_same hM57 o4
     refine kx (mvO rfl) (Rn (hA h40 (hV (.int .i64 0) rfl hZ)) fun e59 h61 h62 => sN (xx ?_))
     clear h37 h38 h39 h40 h41
     obtain rfl := si h
     exact eR (resC (ag := true) (sz := 20) ⟨by kernel_rfl, by kernel_rfl, by kernel_rfl⟩ (ldOA (cs' := (.str a2.Name :: (.bool r51 :: (.sl none (r52.map Notch.c) :: ((arC (cI .i8) 0 r53) ++ ((.sl none ([(Mark.mk a3 r55)].map Mark.c) :: []) : List AV)))))) h61 o58 rfl rfl (ble rfl) rfl) (resT h62 res0)) (wkH (y := .tup [.agg (.str a2.Name :: (.bool r51 :: (.sl none (r52.map Notch.c) :: ((arC (cI .i8) 0 r53) ++ ((.sl none ([(Mark.mk a3 r55)].map Mark.c) :: []) : List AV))))), .int .i64 0]) rfl (wk_tup (mp1 (wk_agg (mp1 rfl (mp1 rfl (mp1 rfl (mpA (fun _ => wk1_flat) (fun _ => rfl) (mp1 rfl mp0)))))) (mp1 rfl mp0))))
    refine kx (gsF rfl (congrArg Bool.not hb34)) (kx (gsF rfl (congrArg Bool.not hb34)) (kx (gsF rfl (congrArg Bool.not hb34)) (kx (gsF rfl (congrArg Bool.not hb34)) (kx (pkT rfl (congrArg Bool.not hb34) rfl) (kx (mvO rfl) (Rn (hA h23 (hA h24 (hA h25 (hA h26 (hV (.bool true) rfl hZ))))) fun e63 h65 h66 h67 h68 h69 => sN (cT h69 rfl (sq (Rg (kx (bldT zero55 rfl (fill0 rfl)) (kw (stO h68 rfl o4 rfl rfl ⟨rfl, ble rfl⟩ rfl rfl) fun M70 hM71 => ?_)))))))))))
    clear h23 h24 h25 h26 h27
    have o72 : M70[([] : Mem).length]? = some (.live ⟨.box, 55, 20, [(.str ([] : List UInt8) :: (.bool false :: (.nils :: ((arC (cI .i8) 0 (Ar.rep 16 0)) ++ ((.nils :: []) : List AV)))))]⟩) := set_same hM71 o4
    refine kx (mvO rfl) (Rn (hA h68 (hV (.int .i64 2) rfl hZ)) fun e73 h75 h76 => sN (xx (bR (sR ?_))))
    clear h65 h66 h67 h68 h69
    obtain rfl := si h
    exact eR (resC (ag := true) (sz := 20) ⟨by kernel_rfl, by kernel_rfl, by kernel_rfl⟩ (ldOA (cs' := (.str ([] : List UInt8) :: (.bool false :: (.nils :: ((arC (cI .i8) 0 (Ar.rep 16 0)) ++ ((.nils :: []) : List AV)))))) h75 o72 rfl rfl (ble rfl) rfl) (resT h76 res0)) (wkH (y := .tup [.agg (.str ([] : List UInt8) :: (.bool false :: (.nils :: ((arC (cI .i8) 0 (Ar.rep 16 0)) ++ ((.nils :: []) : List AV))))), .int .i64 2]) rfl (wk_tup (mp1 (wk_agg (mp1 rfl (mp1 rfl (mp1 rfl (mpA (fun _ => wk1_flat) (fun _ => rfl) (mp1 rfl mp0)))))) (mp1 rfl mp0))))
   refine kx (gsF rfl (congrArg Bool.not hb31)) (kc (Ev.gsF rfl (congrArg Bool.not hb31)) (kx (gsF rfl (congrArg Bool.not hb31)) (kx (pkT rfl (congrArg Bool.not hb31) rfl) (kx (mvO rfl) (kx (gsF rfl rfl) (kx (gsF rfl rfl) (kx (gsF rfl rfl) (kx (gsF rfl rfl) (kx (pkT rfl rfl rfl) (kx (mvO rfl) (Rn (hA h23 (hA h24 (hA h25 (hA h26 (hV (.bool true) rfl hZ))))) fun e77 h79 h80 h81 h82 h83 => sN (cT h83 rfl (sq (Rg (kx (bldT zero55 rfl (fill0 rfl)) (kw (stO h82 rfl o4 rfl rfl ⟨rfl, ble rfl⟩ rfl rfl) fun M84 hM85 => ?_))))))))))))))))
   clear h23 h24 h25 h26 h27
   have o86 : M84[([] : Mem).length]? = some (.live ⟨.box, 55, 20, [(.str ([] : List UInt8) :: (.bool false :: (.nils :: ((arC (cI .i8) 0 (Ar.rep 16 0)) ++ ((.nils :: []) : List AV)))))]⟩) := set_same hM85 o4
   refine kx (mvO rfl) (Rn (hA h82 (hV (.int .i64 2) rfl hZ)) fun e87 h89 h90 => sN (xx (bR (sR ?_))))
   clear h79 h80 h81 h82 h83
   obtain rfl := si h
   exact eR (resC (ag := true) (sz := 20) ⟨by kernel_rfl, by kernel_rfl, by kernel_rfl⟩ (ldOA (cs' := (.str ([] : List UInt8) :: (.bool false :: (.nils :: ((arC (cI .i8) 0 (Ar.rep 16 0)) ++ ((.nils :: []) : List AV)))))) h89 o86 rfl rfl (ble rfl) rfl) (resT h90 res0)) (wkH (y := .tup [.agg (.str ([] : List UInt8) :: (.bool false :: (.nils :: ((arC (cI .i8) 0 (Ar.rep 16 0)) ++ ((.nils :: []) : List AV))))), .int .i64 2]) rfl (wk_tup (mp1 (wk_agg (mp1 rfl (mp1 rfl (mp1 rfl (mpA (fun _ => wk1_flat) (fun _ => rfl) (mp1 rfl mp0)))))) (mp1 rfl mp0))))
  refine cT h27 (congrArg Bool.not hb28) (sq (Rg (kx (bldT zero55 rfl (fill0 rfl)) (kw (stO h26 rfl o4 rfl rfl ⟨rfl, ble rfl⟩ rfl rfl) fun M91 hM92 => ?_))))
  have o93 : M91[([] : Mem).length]? = some (.live ⟨.box, 55, 20, [(.str ([] : List UInt8) :: (.bool false :: (.nils :: ((arC (cI .i8) 0 (Ar.rep 16 0)) ++ ((.nils :: []) : List AV)))))]⟩) := set_same hM92 o4
  refine kx (mvO rfl) (Rn (hA h26 (hV (.int .i64 4) rfl hZ)) fun e94 h96 h97 => sN (xx (bR (sR ?_))))
  clear h23 h24 h25 h26 h27
  obtain rfl := si h
  exact eR (resC (ag := true) (sz := 20) ⟨by kernel_rfl, by kernel_rfl, by kernel_rfl⟩ (ldOA (cs' := (.str ([] : List UInt8) :: (.bool false :: (.nils :: ((arC (cI .i8) 0 (Ar.rep 16 0)) ++ ((.nils :: []) : List AV)))))) h96 o93 rfl rfl (ble rfl) rfl) (resT h97 res0)) (wkH (y := .tup [.agg (.str ([] : List UInt8) :: (.bool false :: (.nils :: ((arC (cI .i8) 0 (Ar.rep 16 0)) ++ ((.nils :: []) : List AV))))), .int .i64 4]) rfl (wk_tup (mp1 (wk_agg (mp1 rfl (mp1 rfl (mp1 rfl (mpA (fun _ => wk1_flat) (fun _ => rfl) (mp1 rfl mp0)))))) (mp1 rfl mp0))))
 refine cT h19 (congrArg Bool.not hb20) (sq (Rg (kx (bldT zero55 rfl (fill0 rfl)) (kw (stO h18 rfl o4 rfl rfl ⟨rfl, ble rfl⟩ rfl rfl) fun M98 hM99 => ?_))))
 have o100 : M98[([] : Mem).length]? = some (.live ⟨.box, 55, 20, [(.str ([] : List UInt8) :: (.bool false :: (.nils :: ((arC (cI .i8) 0 (Ar.rep 16 0)) ++ ((.nils :: []) : List AV)))))]⟩) := set_same hM99 o4
 refine kx (mvO rfl) (Rn (hA h18 (hV (.int .i64 1) rfl hZ)) fun e101 h103 h104 => sN (xx (bR (sR ?_))))
 clear h15 h16 h17 h18 h19
 obtain rfl := si h
 exact eR (resC (ag := true) (sz := 20) ⟨by kernel_rfl, by kernel_rfl, by kernel_rfl⟩ (ldOA (cs' := (.str ([] : List UInt8) :: (.bool false :: (.nils :: ((arC (cI .i8) 0 (Ar.rep 16 0)) ++ ((.nils :: []) : List AV)))))) h103 o100 rfl rfl (ble rfl) rfl) (resT h104 res0)) (wkH (y := .tup [.agg (.str ([] : List UInt8) :: (.bool false :: (.nils :: ((arC (cI .i8) 0 (Ar.rep 16 0)) ++ ((.nils :: []) : List AV))))), .int .i64 1]) rfl (wk_tup (mp1 (wk_agg (mp1 rfl (mp1 rfl (mp1 rfl (mpA (fun _ => wk1_flat) (fun _ => rfl) (mp1 rfl mp0)))))) (mp1 rfl mp0))))
/-! ### loop.example/g01263/spec.FindParty (f27) -/
noncomputable def spec_FindParty (a1 : List Party) (a2 : List UInt8) : Option (Int × Int) :=
 (spec_l06Parties a1).bind fun r6 =>
 if r6 = true then
  (spec_l06Find a1 a2).bind fun r14 =>
  if (decide (r14 < 0)) = true then
   some (0, 6)
  else
   some (r14, 0)
 else
  some (0, 1)
def spec_FindParty_enc (r : Int × Int) : AV := .tup [.int .i64 r.1, .int .i64 r.2]
theorem spec_FindParty_ok (a1 : List Party) (a2 : List UInt8) (r : Int × Int) (h : spec_FindParty a1 a2 = some r) : Ev (fun k => CN k 27 [.sl none (a1.map Party.c), .str a2] []) (fun p => rRes p.2 p.1 = spec_FindParty_enc r) := by
 unfold spec_FindParty at h
 obtain ⟨r6, hx5, h⟩ := bind_some h
 refine Ev.enter (F := fun k => f27 (CN k) k) (fun k => callN_eq rfl Tryd.func27 rfl rfl rfl (by decide +kernel) (f27_eq _ _)) (sq (Rg (kx (mvO rfl) (kx (mvO rfl) (Rn (hN rfl (hN rfl hZ)) fun e1 h3 h4 => sN (sq (sq (Rg (kx (mvO h3) (kc (cl (v := .bool r6) rfl rfl (cns rfl rfl) rfl (spec_l06Parties_ok a1 _ hx5) nm) (kx (uNot rfl) (Rn (hA h3 (hA h4 (hN rfl hZ))) fun e7 h9 h10 h11 => sN ?_))))))))))))
 clear h3 h4
 rcases ite_some h with ⟨hb12, h⟩ | ⟨hb12, h⟩
 ·obtain ⟨r14, hx13, h⟩ := bind_some h
  refine cF h11 (congrArg Bool.not hb12) (xx (sN (sq (Rg (kx (mvO h9) (kx (mvO h10) (kc (cl (v := .int .i64 r14) rfl rfl (cns rfl (cns rfl rfl)) rfl (spec_l06Find_ok a1 a2 _ hx13) nm) (kx (mvO rfl) (Rn (hN rfl hZ) fun e15 h17 => sN (sq (sq (Rg (kx (mvO h17) (kx (bLss rfl rfl) (Rn (hA h17 (hN rfl hZ)) fun e18 h20 h21 => sN ?_)))))))))))))))
  clear h10 h11 h9 h17
  rcases ite_some h with ⟨hb22, h⟩ | ⟨hb22, h⟩
  ·refine cT h21 hb22 (sq (Rg (kx (mvO rfl) (kx (mvO rfl) (Rn (hV (.int .i64 0) rfl (hV (.int .i64 6) rfl hZ)) fun e23 h25 h26 => sN (xx (sR ?_)))))))
   clear h20 h21
   obtain rfl := si h
   exact eR (resT h25 (resT h26 res0)) rfl
  refine cF h21 hb22 (xx (sN (sq (Rg (kx (mvO h20) (kx (mvO rfl) (kx (mvO rfl) (Rn (hN rfl (hV (.int .i64 0) rfl hZ)) fun e27 h29 h30 => sN (xx ?_)))))))))
  clear h20 h21
  obtain rfl := si h
  exact eR (resT h29 (resT h30 res0)) rfl
 refine cT h11 (congrArg Bool.not hb12) (sq (Rg (kx (mvO rfl) (kx (mvO rfl) (Rn (hV (.int .i64 0) rfl (hV (.int .i64 1) rfl hZ)) fun e31 h33 h34 => sN (xx (sR ?_)))))))
 clear h10 h11 h9
 obtain rfl := si h
 exact eR (resT h33 (resT h34 res0)) rfl
/-! ### loop.example/g01263/impl.CommonMarks (f25) -/
def impl_CommonMarks_c1_Q (a1 : Chain) (a2 : Chain) (g : Bool) (q : Out) : Prop := q.1 = .nrm ∧ eget q.2.1 2 = .pt none (.str a1.Debtor :: (.bool a1.Stock.Stock :: (.sl none (a1.Stock.Notches.map Notch.c) :: ((arC (cI .i8) 0 a1.Stock.Grain) ++ ((.sl none (a1.Marks.map Mark.c) :: []) : List AV))))) ∧ eget q.2.1 3 = .pt none (.str a2.Debtor :: (.bool a2.Stock.Stock :: (.sl none (a2.Stock.Notches.map Notch.c) :: ((arC (cI .i8) 0 a2.Stock.Grain) ++ ((.sl none (a2.Marks.map Mark.c) :: []) : List AV))))) ∧ eget q.2.1 6 = .bool g
noncomputable def impl_CommonMarks (a1 : Chain) (a2 : Chain) : Option (Int × Int) :=
 ((impl_ValidChain a1).bind fun r6 =>
 if r6 = true then
  (impl_ValidChain a2).bind fun r9 =>
  some (!r9)
 else
  some true).bind fun y22 =>
 if y22 = true then
  some (0, 1)
 else
  if (a1.Debtor == a2.Debtor) = true then
   (impl_SameHalf a1.Stock a2.Stock).bind fun r33 =>
   if r33 = true then
    (impl_common a1 a2).bind fun r41 =>
    some (r41, 0)
   else
    some (0, 4)
  else
   some (0, 4)
def impl_CommonMarks_enc (r : Int × Int) : AV := .tup [.int .i64 r.1, .int .i64 r.2]
theorem impl_CommonMarks_ok (a1 : Chain) (a2 : Chain) (r : Int × Int) (h : impl_CommonMarks a1 a2 = some r) : Ev (fun k => CN k 25 [.agg (.str a1.Debtor :: (.bool a1.Stock.Stock :: (.sl none (a1.Stock.Notches.map Notch.c) :: ((arC (cI .i8) 0 a1.Stock.Grain) ++ ((.sl none (a1.Marks.map Mark.c) :: []) : List AV))))), .agg (.str a2.Debtor :: (.bool a2.Stock.Stock :: (.sl none (a2.Stock.Notches.map Notch.c) :: ((arC (cI .i8) 0 a2.Stock.Grain) ++ ((.sl none (a2.Marks.map Mark.c) :: []) : List AV)))))] []) (fun p => rRes p.2 p.1 = impl_CommonMarks_enc r) := by
 unfold impl_CommonMarks at h
 obtain ⟨r60, hr61, h⟩ := bind_some h
 refine Ev.enter (F := fun k => f25 (CN k) k) (fun k => callN_eq rfl Tryd.func25 rfl rfl rfl (by decide +kernel) (f25_eq _ _)) (sq (Rg (kx (bxI rfl rfl ⟨rfl, rfl, by decide⟩) (kx (bxI rfl rfl ⟨rfl, rfl, by decide⟩) (kx (mvO rfl) (kx (mvO rfl) (Rn (hN rfl (hN rfl hZ)) fun e1 h3 h4 => sN (sq (bl (sq ?_))))))))))
 refine Ev.cut (Q1 := impl_CommonMarks_c1_Q a1 a2 r60) (by
     have h := hr61
     obtain ⟨r6, hx5, h⟩ := bind_some h
     refine Rg (kx (ldPA h3 rfl rfl) (kc (cl (v := .bool r6) rfl rfl (cns rfl rfl) rfl (impl_ValidChain_ok a1 _ hx5) nm) (kx (uNot rfl) (kx (mvO rfl) ?_))))
     rcases ite_some h with ⟨hb7, h⟩ | ⟨hb7, h⟩
     ·obtain ⟨r9, hx8, h⟩ := bind_some h
      refine kx (guF rfl (congrArg Bool.not hb7) (ldPA h4 rfl rfl)) (kc (Ev.guF rfl (congrArg Bool.not hb7) (cl (v := .bool r9) rfl rfl (cns rfl rfl) rfl (impl_ValidChain_ok a2 _ hx8) nm)) (kx (guF rfl (congrArg Bool.not hb7) (uNot rfl)) (kx (pkF rfl (congrArg Bool.not hb7) rfl) (kx (mvO rfl) (Rn (hA h3 (hA h4 (hN rfl hZ))) fun e10 h12 h13 h14 => ?_)))))
      clear h3 h4
      obtain rfl := si h
      exact kd (show impl_CommonMarks_c1_Q a1 a2 _ _ from ⟨rfl, h12, h13, h14⟩)
     refine kx (gsF rfl (congrArg Bool.not hb7)) (kc (Ev.gsF rfl (congrArg Bool.not hb7)) (kx (gsF rfl (congrArg Bool.not hb7)) (kx (pkT rfl (congrArg Bool.not hb7) rfl) (kx (mvO rfl) (Rn (hA h3 (hA h4 (hV (.bool true) rfl hZ))) fun e15 h17 h18 h19 => ?_)))))
     clear h3 h4
     obtain rfl := si h
     exact kd (show impl_CommonMarks_c1_Q a1 a2 _ _ from ⟨rfl, h17, h18, h19⟩)) ?_
 revert h hr61
 revert r60
 intro y22 hr61 h
 intro x e20 M21 hq59
 obtain ⟨rfl, h23, h24, h25⟩ := hq59
 refine sN ?_
 rcases ite_some h with ⟨hb26, h⟩ | ⟨hb26, h⟩
 ·refine cT h25 hb26 (sq (Rg (kx (mvO rfl) (kx (mvO rfl) (Rn (hV (.int .i64 0) rfl (hV (.int .i64 1) rfl hZ)) fun e27 h29 h30 => sN (xx (bR (sR ?_))))))))
  clear h23 h24 h25
  obtain rfl := si h
  exact eR (resT h29 (resT h30 res0)) rfl
 refine cF h25 hb26 (sq (Rg (kx (faP h23 ⟨ble rfl, blt rfl⟩ rfl) (kx (ldP rfl rfl) (kx (faP h24 ⟨ble rfl, blt rfl⟩ rfl) (kx (ldP rfl rfl) (kx (sNeq rfl rfl) (kx (mvO rfl) ?_))))))))
 rcases ite_some h with ⟨hb31, h⟩ | ⟨hb31, h⟩
 ·obtain ⟨r33, hx32, h⟩ := bind_some h
  refine kx (guF rfl (congrArg Bool.not hb31) (faP h23 ⟨ble rfl, blt rfl⟩ rfl)) (kx (guF rfl (congrArg Bool.not hb31) (ldPA rfl rfl rfl)) (kx (guF rfl (congrArg Bool.not hb31) (faP h24 ⟨ble rfl, blt rfl⟩ rfl)) (kx (guF rfl (congrArg Bool.not hb31) (ldPA rfl rfl rfl)) (kc (Ev.guF rfl (congrArg Bool.not hb31) (cl (v := .bool r33) rfl rfl (cns rfl (cns rfl rfl)) rfl (impl_SameHalf_ok a1.Stock a2.Stock _ hx32) nm)) (kx (guF rfl (congrArg Bool.not hb31) (uNot rfl)) (kx (pkF rfl (congrArg Bool.not hb31) rfl) (kx (mvO rfl) (Rn (hV (.pt none (.str a1.Debtor :: (.bool a1.Stock.Stock :: (.sl none (a1.Stock.Notches.map Notch.c) :: ((arC (cI .i8) 0 a1.Stock.Grain) ++ ((.sl none (a1.Marks.map Mark.c) :: []) : List AV)))))) h23 (hV (.pt none (.str a2.Debtor :: (.bool a2.Stock.Stock :: (.sl none (a2.Stock.Notches.map Notch.c) :: ((arC (cI .i8) 0 a2.Stock.Grain) ++ ((.sl none (a2.Marks.map Mark.c) :: []) : List AV)))))) h24 (hN rfl hZ))) fun e34 h36 h37 h38 => sN ?_))))))))
  clear h23 h24 h25
  rcases ite_some h with ⟨hb39, h⟩ | ⟨hb39, h⟩
  ·obtain ⟨r41, hx40, h⟩ := bind_some h
   refine cF h38 (congrArg Bool.not hb39) (xx (bN (sN (sq (Rg (kx (ldPA h36 rfl rfl) (kx (ldPA h37 rfl rfl) (kc (cl (v := .int .i64 r41) rfl rfl (cns rfl (cns rfl rfl)) rfl (impl_common_ok a1 a2 _ hx40) nm) (kx (mvO rfl) (kx (mvO rfl) (Rn (hN rfl (hV (.int .i64 0) rfl hZ)) fun e42 h44 h45 => sN (xx ?_))))))))))))
   clear h36 h37 h38
   obtain rfl := si h
   exact eR (resT h44 (resT h45 res0)) rfl
  refine cT h38 (congrArg Bool.not hb39) (sq (Rg (kx (mvO rfl) (kx (mvO rfl) (Rn (hV (.int .i64 0) rfl (hV (.int .i64 4) rfl hZ)) fun e46 h48 h49 => sN (xx (bR (sR ?_))))))))
  clear h36 h37 h38
  obtain rfl := si h
  exact eR (resT h48 (resT h49 res0)) rfl
 refine kx (gsF rfl (congrArg Bool.not hb31)) (kx (gsF rfl (congrArg Bool.not hb31)) (kx (gsF rfl (congrArg Bool.not hb31)) (kx (gsF rfl (congrArg Bool.not hb31)) (kc (Ev.gsF rfl (congrArg Bool.not hb31)) (kx (gsF rfl (congrArg Bool.not hb31)) (kx (pkT rfl (congrArg Bool.not hb31) rfl) (kx (mvO rfl) (Rn (hV (.pt none (.str a1.Debtor :: (.bool a1.Stock.Stock :: (.sl none (a1.Stock.Notches.map Notch.c) :: ((arC (cI .i8) 0 a1.Stock.Grain) ++ ((.sl none (a1.Marks.map Mark.c) :: []) : List AV)))))) h23 (hV (.pt none (.str a2.Debtor :: (.bool a2.Stock.Stock :: (.sl none (a2.Stock.Notches.map Notch.c) :: ((arC (cI .i8) 0 a2.Stock.Grain) ++ ((.sl none (a2.Marks.map Mark.c) :: []) : List AV)))))) h24 (hV (.bool true) rfl hZ))) fun e50 h52 h53 h54 => sN (cT h54 rfl (sq (Rg (kx (mvO rfl) (kx (mvO rfl) (Rn (hV (.int .i64 0) rfl (hV (.int .i64 4) rfl hZ)) fun e55 h57 h58 => sN (xx (bR (sR ?_)))))))))))))))))
 clear h23 h24 h25 h52 h53 h54
 obtain rfl := si h
 exact eR (resT h57 (resT h58 res0)) rfl
/-! ### loop.example/g01263/impl.WhoPassedTwice (f26) -/
def impl_WhoPassedTwice_c1_Q (a1 : Chain) (r6 : Int) (g : Bool) (q : Out) : Prop := q.1 = .nrm ∧ eget q.2.1 2 = .pt none (.str a1.Debtor :: (.bool a1.Stock.Stock :: (.sl none (a1.Stock.Notches.map Notch.c) :: ((arC (cI .i8) 0 a1.Stock.Grain) ++ ((.sl none (a1.Marks.map Mark.c) :: []) : List AV))))) ∧ eget q.2.1 6 = .int .i64 r6 ∧ eget q.2.1 18 = .bool g
noncomputable def impl_WhoPassedTwice (a1 : Chain) (a2 : Chain) : Option ((List UInt8) × Int) :=
 (impl_CommonMarks a1 a2).bind fun (r6, r7) =>
 if (r7 != 0) = true then
  some (([] : List UInt8), r7)
 else
  (if (r6 == (a1.Marks.length : Int)) = true then
   some true
  else
   some (r6 == (a2.Marks.length : Int))).bind fun y39 =>
  if y39 = true then
   some (([] : List UInt8), 6)
  else
   if (r6 == 0) = true then
    some (a1.Debtor, 0)
   else
    (rd a1.Marks (IntKind.i64.wrap (r6 - 1))).bind fun x58 =>
    some (x58.Holder, 0)
def impl_WhoPassedTwice_enc (r : (List UInt8) × Int) : AV := .tup [.str r.1, .int .i64 r.2]
theorem impl_WhoPassedTwice_ok (a1 : Chain) (a2 : Chain) (r : (List UInt8) × Int) (h : impl_WhoPassedTwice a1 a2 = some r) : Ev (fun k => CN k 26 [.agg (.str a1.Debtor :: (.bool a1.Stock.Stock :: (.sl none (a1.Stock.Notches.map Notch.c) :: ((arC (cI .i8) 0 a1.Stock.Grain) ++ ((.sl none (a1.Marks.map Mark.c) :: []) : List AV))))), .agg (.str a2.Debtor :: (.bool a2.Stock.Stock :: (.sl none (a2.Stock.Notches.map Notch.c) :: ((arC (cI .i8) 0 a2.Stock.Grain) ++ ((.sl none (a2.Marks.map Mark.c) :: []) : List AV)))))] []) (fun p => rRes p.2 p.1 = impl_WhoPassedTwice_enc r) := by
 unfold impl_WhoPassedTwice at h
 obtain ⟨⟨r6, r7⟩, hx5, h⟩ := bind_some h
 refine Ev.enter (F := fun k => f26 (CN k) k) (fun k => callN_eq rfl Tryd.func26 rfl rfl rfl (by decide +kernel) (f26_eq _ _)) (sq (Rg (kx (bxI rfl rfl ⟨rfl, rfl, by decide⟩) (kx (bxI rfl rfl ⟨rfl, rfl, by decide⟩) (kx (mvO rfl) (kx (mvO rfl) (Rn (hN rfl (hN rfl hZ)) fun e1 h3 h4 => sN (sq (Rg (kx (ldPA h3 rfl rfl) (kx (ldPA h4 rfl rfl) (kc (cl (v := .tup [.int .i64 r6, .int .i64 r7]) rfl rfl (cns rfl (cns rfl rfl)) rfl (impl_CommonMarks_ok a1 a2 _ hx5) nm) (kx (mvO rfl) (kx (exT rfl rfl) (kx (exT rfl rfl) (kx (mvO rfl) (kx (mvO rfl) (Rn (hA h3 (hA h4 (hN rfl (hN rfl hZ)))) fun e8 h10 h11 h12 h13 => sN (sq (bl (sq (Rg (kx (mvO h13) (kx (bNeq rfl rfl) (kx (mvO rfl) (Rn (hA h10 (hA h11 (hA h12 (hA h13 (hN rfl hZ))))) fun e14 h16 h17 h18 h19 h20 => sN ?_))))))))))))))))))))))))))
 clear h3 h4 h10 h11 h12 h13
 rcases ite_some h with ⟨hb21, h⟩ | ⟨hb21, h⟩
 ·refine cT h20 hb21 (sq (Rg (kx (mvO h19) (kx (mvO rfl) (kx (mvO rfl) (Rn (hN rfl (hN rfl hZ)) fun e22 h24 h25 => sN (xx (bR (sR ?_)))))))))
  clear h16 h17 h18 h19 h20
  obtain rfl := si h
  exact eR (resT h24 (resT h25 res0)) rfl
 obtain ⟨r65, hr66, h⟩ := bind_some h
 refine cF h20 hb21 (sq ?_)
 refine Ev.cut (Q1 := impl_WhoPassedTwice_c1_Q a1 r6 r65) (by
     have h := hr66
     refine Rg (kx (mvO h18) (kx (faP h16 ⟨ble rfl, blt rfl⟩ rfl) (kx (ldP rfl rfl) (kx (lnS Tryd.underlying53 rfl) (kx (bEql rfl rfl) (kx (mvO rfl) ?_))))))
     rcases ite_some h with ⟨hb26, h⟩ | ⟨hb26, h⟩
     ·refine kx (gsF rfl hb26) (kx (gsF rfl hb26) (kx (gsF rfl hb26) (kx (gsF rfl hb26) (kx (gsF rfl hb26) (kx (pkT rfl hb26 rfl) (kx (mvO rfl) (Rn (hA h16 (hA h18 (hV (.bool true) rfl hZ))) fun e27 h29 h30 h31 => ?_)))))))
      clear h16 h17 h18 h19 h20
      obtain rfl := si h
      exact kd (show impl_WhoPassedTwice_c1_Q a1 r6 _ _ from ⟨rfl, h29, h30, h31⟩)
     refine kx (guF rfl hb26 (mvO h18)) (kx (guF rfl hb26 (faP h17 ⟨ble rfl, blt rfl⟩ rfl)) (kx (guF rfl hb26 (ldP rfl rfl)) (kx (guF rfl hb26 (lnS Tryd.underlying53 rfl)) (kx (guF rfl hb26 (bEql rfl rfl)) (kx (pkF rfl hb26 rfl) (kx (mvO rfl) (Rn (hA h16 (hA h18 (hN rfl hZ))) fun e32 h34 h35 h36 => ?_)))))))
     clear h16 h17 h18 h19 h20
     obtain rfl := si h
     exact kd (show impl_WhoPassedTwice_c1_Q a1 r6 _ _ from ⟨rfl, h34, h35, h36⟩)) ?_
 revert h hr66
 revert r65
 intro y39 hr66 h
 intro x e37 M38 hq64
 obtain ⟨rfl, h40, h41, h42⟩ := hq64
 refine sN ?_
 rcases ite_some h with ⟨hb43, h⟩ | ⟨hb43, h⟩
 ·refine cT h42 hb43 (sq (Rg (kx (mvO rfl) (kx (mvO rfl) (Rn (hN rfl (hV (.int .i64 6) rfl hZ)) fun e44 h46 h47 => sN (xx (bR (sR ?_))))))))
  clear h40 h41 h42
  obtain rfl := si h
  exact eR (resT h46 (resT h47 res0)) rfl
 refine cF h42 hb43 (sq (Rg (kx (mvO h41) (kx (bEql rfl rfl) (kx (mvO rfl) (Rn (hV (.pt none (.str a1.Debtor :: (.bool a1.Stock.Stock :: (.sl none (a1.Stock.Notches.map Notch.c) :: ((arC (cI .i8) 0 a1.Stock.Grain) ++ ((.sl none (a1.Marks.map Mark.c) :: []) : List AV)))))) h40 (hV (.int .i64 r6) h41 (hN rfl hZ))) fun e48 h50 h51 h52 => sN ?_))))))
 clear h40 h41 h42
 rcases ite_some h with ⟨hb53, h⟩ | ⟨hb53, h⟩
 ·refine cT h52 hb53 (sq (Rg (kx (faP h50 ⟨ble rfl, blt rfl⟩ rfl) (kx (ldP rfl rfl) (kx (mvO rfl) (kx (mvO rfl) (Rn (hN rfl (hV (.int .i64 0) rfl hZ)) fun e54 h56 h57 => sN (xx (bR (sR ?_))))))))))
  clear h50 h51 h52
  obtain rfl := si h
  exact eR (resT h56 (resT h57 res0)) rfl
 obtain ⟨x58, hx59, h⟩ := bind_some h
 refine cF h52 hb53 (xx (bN (sN (sq (Rg (kx (faP h50 ⟨ble rfl, blt rfl⟩ rfl) (kx (ldP rfl rfl) (kx (mvO h51) (kx (bSub rfl rfl) (kx (ixS rfl rfl hx59 Mark.fl) (kx (faP rfl ⟨ble rfl, blt rfl⟩ rfl) (kx (ldP rfl rfl) (kx (mvO rfl) (kx (mvO rfl) (Rn (hN rfl (hV (.int .i64 0) rfl hZ)) fun e60 h62 h63 => sN (xx ?_))))))))))))))))
 clear h50 h51 h52
 obtain rfl := si h
 exact eR (resT h62 (resT h63 res0)) rfl
/-! ### loop.example/g01263/spec.l00From (f41) -/
noncomputable def spec_l00From (a1 : List Int) : Option L00Src :=
 some (L00Src.mk a1 0 0)
def spec_l00From_Q (a1 : List Int) (M0 : Mem) (r : L00Src) (p : AV × Mem) : Prop := p.1 = .loc M0.length 1 0 0 ∧ p.2[M0.length]? = some (.live ⟨.box, 125, 3, [[.sl none (r.Code.map (cI .u8)), .int .i64 r.At, .int .u64 r.Seed]]⟩) ∧ Fr [] M0 p.2
theorem spec_l00From_ok (a1 : List Int) (M0 : Mem) (r : L00Src) (h : spec_l00From a1 = some r) : Ev (fun k => CN k 41 [.sl none (a1.map (cI .u8))] M0) (spec_l00From_Q a1 M0 r) := by
 unfold spec_l00From at h
 have fr0 : Fr [] M0 M0 := Fr.refl
 refine Ev.enter (F := fun k => f41 (CN k) k) (fun k => callN_eq rfl Tryd.func41 rfl rfl rfl (by decide +kernel) (f41_eq _ _)) (sq (Rg (kx (mvO rfl) (Rn (hN rfl hZ) fun e1 h3 => sN (sq (Rg (kx (mvO h3) (kx (bldT zero125 (cns (pr3 rfl) rfl) (fill1 ⟨rfl, ble rfl⟩ rfl rfl (fill0 rfl))) (ku (bxO rfl rfl ⟨rfl, rfl, by decide⟩) fun M5 hM6 => ?_)))))))))
 have nf7 := Nf.mk fr0
 have fr8 := Fr.push fr0 hM6
 have o9 : M5[M0.length]? = some (.live ⟨.box, 125, 3, [[.sl none (a1.map (cI .u8)), .int .i64 0, .int .u64 0]]⟩) := push_new hM6
 refine kx (mvO rfl) (Rn (hV (.loc M0.length 1 0 0) rfl hZ) fun e10 h12 => sN (xx ?_))
 clear h3
 obtain rfl := si h
 exact eR (resT h12 res0) ⟨rfl, o9, fr8⟩
/-! ### (*loop.example/g01263/spec.l00Src).next (f96) -/
noncomputable def spec_l00Src_next_p (a1 : List Int) (a2 : Int) (a3 : Int) : Option (Int × (List Int) × Int × Int) :=
 if (decide (a2 < (a1.length : Int))) = true then
  (rd a1 a2).bind fun x14 =>
  if (decide ((IntKind.i64.wrap (a2 + 1)) ≤ (a1.length : Int))) = true then
   some ((IntKind.i64.wrap x14), a1, (IntKind.i64.wrap (a2 + 1)), (IntKind.u64.wrap ((IntKind.u64.wrap ((IntKind.u64.wrap (a3 * 6364136223846793005)) + (IntKind.u64.wrap (IntKind.i64.wrap x14)))) + 1442695040888963407)))
  else
   (shr .u64 (IntKind.u64.wrap ((IntKind.u64.wrap ((IntKind.u64.wrap (a3 * 6364136223846793005)) + (IntKind.u64.wrap (IntKind.i64.wrap x14)))) + 1442695040888963407)) 40).bind fun n45 =>
   some ((IntKind.i64.wrap (iand .u64 n45 255)), a1, (IntKind.i64.wrap (a2 + 1)), (IntKind.u64.wrap ((IntKind.u64.wrap ((IntKind.u64.wrap (a3 * 6364136223846793005)) + (IntKind.u64.wrap (IntKind.i64.wrap x14)))) + 1442695040888963407)))
 else
  if (decide ((IntKind.i64.wrap (a2 + 1)) ≤ (a1.length : Int))) = true then
   some (0, a1, (IntKind.i64.wrap (a2 + 1)), (IntKind.u64.wrap ((IntKind.u64.wrap ((IntKind.u64.wrap (a3 * 6364136223846793005)) + 0)) + 1442695040888963407)))
  else
   (shr .u64 (IntKind.u64.wrap ((IntKind.u64.wrap ((IntKind.u64.wrap (a3 * 6364136223846793005)) + 0)) + 1442695040888963407)) 40).bind fun n75 =>
   some ((IntKind.i64.wrap (iand .u64 n75 255)), a1, (IntKind.i64.wrap (a2 + 1)), (IntKind.u64.wrap ((IntKind.u64.wrap ((IntKind.u64.wrap (a3 * 6364136223846793005)) + 0)) + 1442695040888963407)))
def spec_l00Src_next_p_Q (a1 : List Int) (a2 : Int) (a3 : Int) (j1 : Nat) (M0 : Mem) (r : Int × (List Int) × Int × Int) (p : AV × Mem) : Prop := p.1 = .int .i64 r.1 ∧ p.2[j1]? = some (.live ⟨.box, 125, 3, [[.sl none (r.2.1.map (cI .u8)), .int .i64 r.2.2.1, .int .u64 r.2.2.2]]⟩) ∧ Fr [j1] M0 p.2
theorem spec_l00Src_next_p_ok (a1 : List Int) (a2 : Int) (a3 : Int) (j1 : Nat) (M0 : Mem) (oP1 : M0[j1]? = some (.live ⟨.box, 125, 3, [[.sl none (a1.map (cI .u8)), .int .i64 a2, .int .u64 a3]]⟩)) (r : Int × (List Int) × Int × Int) (h : spec_l00Src_next_p a1 a2 a3 = some r) : Ev (fun k => CN k 96 [.loc j1 1 0 0] M0) (spec_l00Src_next_p_Q a1 a2 a3 j1 M0 r) := by
 unfold spec_l00Src_next_p at h
 have fr0 : Fr [j1] M0 M0 := Fr.refl
 refine Ev.enter (F := fun k => f96 (CN k) k) (fun k => callN_eq rfl Tryd.func96 rfl rfl rfl (by decide +kernel) (f96_eq _ _)) (sq (Rg (kx (mvO rfl) (Rn (hV (.loc j1 1 0 0) rfl hZ) fun e1 h3 => sN (sq (Rg (kx (mvO rfl) (Rn (hA h3 (hV (.int .i64 0) rfl hZ)) fun e4 h6 h7 => sN (sq (sq (Rd (kf (mvO h6) (kf (ncO rfl oP1 rfl) (kf (faO rfl oP1 rfl) (kf (ldO rfl oP1 rfl rfl rfl) (kf (mvO h6) (kf (ncO rfl oP1 rfl) (kf (faO rfl oP1 rfl) (kf (ldO rfl oP1 rfl rfl rfl) (kf (lnS Tryd.underlying22 rfl) (kf (bLss rfl rfl) (fZ (Rn (hA h6 (hA h7 (hN rfl hZ))) fun e8 h10 h11 h12 => sN ?_)))))))))))))))))))))))
 clear h3 h6 h7
 rcases ite_some h with ⟨hb13, h⟩ | ⟨hb13, h⟩
 ·obtain ⟨x14, hx15, h⟩ := bind_some h
  refine cT h12 hb13 (Rd (kf (mvO h10) (kf (ncO rfl oP1 rfl) (kf (faO rfl oP1 rfl) (kf (ldO rfl oP1 rfl rfl rfl) (kf (mvO h10) (kf (ncO rfl oP1 rfl) (kf (faO rfl oP1 rfl) (kf (ldO rfl oP1 rfl rfl rfl) (kf (ixS rfl rfl hx15 (cI_fl _)) (kf (ldP rfl rfl) (kf (cvI rfl) (kf (mvO rfl) (fZ (Rn (hA h10 (hN rfl hZ)) fun e16 h18 h19 => sN (sq (Rg (kx (mvO h18) (kx (ncO rfl oP1 rfl) (kx (faO rfl oP1 rfl) (kx (ldO rfl oP1 rfl rfl rfl) (kx (bAdd rfl rfl) (kx (ncO rfl oP1 rfl) (kx (faO rfl oP1 rfl) (kw (stO rfl rfl oP1 rfl rfl ⟨rfl, ble rfl⟩ rfl rfl) fun M20 hM21 => ?_)))))))))))))))))))))))))
  clear h10 h12
  have o22 : M20[j1]? = some (.live ⟨.box, 125, 3, [[.sl none (a1.map (cI .u8)), .int .i64 (IntKind.i64.wrap (a2 + 1)), .int .u64 a3]]⟩) := set_same hM21 oP1
  have fr23 := Fr.setIn fr0 hM21 (by simp)
  refine Rn (hA h18 (hA h19 hZ)) fun e24 h26 h27 => sN (sq (Rg (kx (mvO h26) (kx (mvO h26) (kx (ncO rfl o22 rfl) (kx (faO rfl o22 rfl) (kx (ldO rfl o22 rfl rfl rfl) (kx (bMul rfl rfl) (kx (mvO h27) (kx (cvI rfl) (kx (bAdd rfl rfl) (kx (bAdd rfl rfl) (kx (ncO rfl o22 rfl) (kx (faO rfl o22 rfl) (kw (stO rfl rfl o22 rfl rfl ⟨rfl, ble rfl⟩ rfl rfl) fun M28 hM29 => ?_)))))))))))))))
  clear h18 h19
  have o30 : M28[j1]? = some (.live ⟨.box, 125, 3, [[.sl none (a1.map (cI .u8)), .int .i64 (IntKind.i64.wrap (a2 + 1)), .int .u64 (IntKind.u64.wrap ((IntKind.u64.wrap ((IntKind.u64.wrap (a3 * 6364136223846793005)) + (IntKind.u64.wrap (IntKind.i64.wrap x14)))) + 1442695040888963407))]]⟩) := set_same hM29 o22
  have fr31 := Fr.setIn fr23 hM29 (by simp)
  refine Rn (hA h26 (hA h27 hZ)) fun e32 h34 h35 => sN (sq (sq (Rd (kf (mvO h34) (kf (ncO rfl o30 rfl) (kf (faO rfl o30 rfl) (kf (ldO rfl o30 rfl rfl rfl) (kf (mvO h34) (kf (ncO rfl o30 rfl) (kf (faO rfl o30 rfl) (kf (ldO rfl o30 rfl rfl rfl) (kf (lnS Tryd.underlying22 rfl) (kf (bLeq rfl rfl) (fZ (Rn (hA h34 (hA h35 (hN rfl hZ))) fun e36 h38 h39 h40 => sN ?_)))))))))))))))
  clear h26 h27 h34 h35
  rcases ite_some h with ⟨hb41, h⟩ | ⟨hb41, h⟩
  ·refine cT h40 hb41 (sq (Rg (kx (mvO h39) (kx (mvO rfl) (Rn (hN rfl hZ) fun e42 h44 => sN (xx (sR ?_)))))))
   clear h38 h39 h40
   obtain rfl := si h
   exact eR (resT h44 res0) ⟨rfl, o30, fr31⟩
  obtain ⟨n45, hx46, h⟩ := bind_some h
  refine cF h40 hb41 (xx (sN (sq (Rg (kx (mvO h38) (kx (ncO rfl o30 rfl) (kx (faO rfl o30 rfl) (kx (ldO rfl o30 rfl rfl rfl) (kx (bShr rfl rfl hx46) (kx (bAnd rfl rfl) (kx (cvI rfl) (kx (mvO rfl) (Rn (hN rfl hZ) fun e47 h49 => sN (xx ?_))))))))))))))
  clear h38 h39 h40
  obtain rfl := si h
  exact eR (resT h49 res0) ⟨rfl, o30, fr31⟩
 refine cF h12 hb13 (xx (sN (sq (Rg (kx (mvO h10) (kx (ncO rfl oP1 rfl) (kx (faO rfl oP1 rfl) (kx (ldO rfl oP1 rfl rfl rfl) (kx (bAdd rfl rfl) (kx (ncO rfl oP1 rfl) (kx (faO rfl oP1 rfl) (kw (stO rfl rfl oP1 rfl rfl ⟨rfl, ble rfl⟩ rfl rfl) fun M50 hM51 => ?_))))))))))))
 have o52 : M50[j1]? = some (.live ⟨.box, 125, 3, [[.sl none (a1.map (cI .u8)), .int .i64 (IntKind.i64.wrap (a2 + 1)), .int .u64 a3]]⟩) := set_same hM51 oP1
 have fr53 := Fr.setIn fr0 hM51 (by simp)
 refine Rn (hA h10 (hA h11 hZ)) fun e54 h56 h57 => sN (sq (Rg (kx (mvO h56) (kx (mvO h56) (kx (ncO rfl o52 rfl) (kx (faO rfl o52 rfl) (kx (ldO rfl o52 rfl rfl rfl) (kx (bMul rfl rfl) (kx (mvO h57) (kx (cvI rfl) (kx (bAdd rfl rfl) (kx (bAdd rfl rfl) (kx (ncO rfl o52 rfl) (kx (faO rfl o52 rfl) (kw (stO rfl rfl o52 rfl rfl ⟨rfl, ble rfl⟩ rfl rfl) fun M58 hM59 => ?_)))))))))))))))
 clear h10 h11 h12
 have o60 : M58[j1]? = some (.live ⟨.box, 125, 3, [[.sl none (a1.map (cI .u8)), .int .i64 (IntKind.i64.wrap (a2 + 1)), .int .u64 (IntKind.u64.wrap ((IntKind.u64.wrap ((IntKind.u64.wrap (a3 * 6364136223846793005)) + 0)) + 1442695040888963407))]]⟩) := set_same hM59 o52
 have fr61 := Fr.setIn fr53 hM59 (by simp)
 refine Rn (hA h56 (hA h57 hZ)) fun e62 h64 h65 => sN (sq (sq (Rd (kf (mvO h64) (kf (ncO rfl o60 rfl) (kf (faO rfl o60 rfl) (kf (ldO rfl o60 rfl rfl rfl) (kf (mvO h64) (kf (ncO rfl o60 rfl) (kf (faO rfl o60 rfl) (kf (ldO rfl o60 rfl rfl rfl) (kf (lnS Tryd.underlying22 rfl) (kf (bLeq rfl rfl) (fZ (Rn (hA h64 (hA h65 (hN rfl hZ))) fun e66 h68 h69 h70 => sN ?_)))))))))))))))
 clear h56 h57 h64 h65
 rcases ite_some h with ⟨hb71, h⟩ | ⟨hb71, h⟩
 ·refine cT h70 hb71 (sq (Rg (kx (mvO h69) (kx (mvO rfl) (Rn (hV (.int .i64 0) rfl hZ) fun e72 h74 => sN (xx (sR ?_)))))))
  clear h68 h69 h70
  obtain rfl := si h
  exact eR (resT h74 res0) ⟨rfl, o60, fr61⟩
 obtain ⟨n75, hx76, h⟩ := bind_some h
 refine cF h70 hb71 (xx (sN (sq (Rg (kx (mvO h68) (kx (ncO rfl o60 rfl) (kx (faO rfl o60 rfl) (kx (ldO rfl o60 rfl rfl rfl) (kx (bShr rfl rfl hx76) (kx (bAnd rfl rfl) (kx (cvI rfl) (kx (mvO rfl) (Rn (hN rfl hZ) fun e77 h79 => sN (xx ?_))))))))))))))
 clear h68 h69 h70
 obtain rfl := si h
 exact eR (resT h79 res0) ⟨rfl, o60, fr61⟩
/-! ### (*loop.example/g01263/spec.l00Src).pick (f59) -/
noncomputable def spec_l00Src_pick_p (a1 : List Int) (a2 : Int) (a3 : Int) (a4 : Int) : Option (Int × (List Int) × Int × Int) :=
 if (decide (a4 ≤ 1)) = true then
  some (0, a1, a2, a3)
 else
  (spec_l00Src_next_p a1 a2 a3).bind fun (r15, r16, r17, r18) =>
  if (decide (a4 > 200)) = true then
   (spec_l00Src_next_p r16 r17 r18).bind fun (r39, r40, r41, r42) =>
   (rem .i64 (IntKind.i64.wrap ((IntKind.i64.wrap (r15 * 256)) + r39)) a4).bind fun n54 =>
   some (n54, r40, r41, r42)
  else
   (rem .i64 r15 a4).bind fun n59 =>
   some (n59, r16, r17, r18)
def spec_l00Src_pick_p_Q (a1 : List Int) (a2 : Int) (a3 : Int) (a4 : Int) (j1 : Nat) (M0 : Mem) (r : Int × (List Int) × Int × Int) (p : AV × Mem) : Prop := p.1 = .int .i64 r.1 ∧ p.2[j1]? = some (.live ⟨.box, 125, 3, [[.sl none (r.2.1.map (cI .u8)), .int .i64 r.2.2.1, .int .u64 r.2.2.2]]⟩) ∧ Fr [j1] M0 p.2
theorem spec_l00Src_pick_p_ok (a1 : List Int) (a2 : Int) (a3 : Int) (a4 : Int) (j1 : Nat) (M0 : Mem) (oP1 : M0[j1]? = some (.live ⟨.box, 125, 3, [[.sl none (a1.map (cI .u8)), .int .i64 a2, .int .u64 a3]]⟩)) (r : Int × (List Int) × Int × Int) (h : spec_l00Src_pick_p a1 a2 a3 a4 = some r) : Ev (fun k => CN k 59 [.loc j1 1 0 0, .int .i64 a4] M0) (spec_l00Src_pick_p_Q a1 a2 a3 a4 j1 M0 r) := by
 unfold spec_l00Src_pick_p at h
 have fr0 : Fr [j1] M0 M0 := Fr.refl
 refine Ev.enter (F := fun k => f59 (CN k) k) (fun k => callN_eq rfl Tryd.func59 rfl rfl rfl (by decide +kernel) (f59_eq _ _)) (sq (Rg (kx (mvO rfl) (Rn (hV (.loc j1 1 0 0) rfl (hN rfl hZ)) fun e1 h3 h4 => sN (sq (sq (Rg (kx (mvO h4) (kx (bLeq rfl rfl) (Rn (hA h3 (hA h4 (hN rfl hZ))) fun e5 h7 h8 h9 => sN ?_))))))))))
 clear h3 h4
 rcases ite_some h with ⟨hb10, h⟩ | ⟨hb10, h⟩
 ·refine cT h9 hb10 (sq (Rg (kx (mvO rfl) (Rn (hV (.int .i64 0) rfl hZ) fun e11 h13 => sN (xx (sR ?_))))))
  clear h7 h8 h9
  obtain rfl := si h
  exact eR (resT h13 res0) ⟨rfl, oP1, fr0⟩
 obtain ⟨⟨r15, r16, r17, r18⟩, hx14, h⟩ := bind_some h
 refine cF h9 hb10 (xx (sN (sq (Rg (kx (mvO h7) (Ev.nxw (Ev.callW rfl (cns rfl rfl) (spec_l00Src_next_p_ok a1 a2 a3 j1 M0 oP1 _ hx14)) fun v21 M19 hq20 => ?_))))))
 obtain ⟨hv21, o22, fr23⟩ := hq20
 have hv21 : v21 = .int .i64 r15 := hv21
 subst hv21
 have o24 : M19[j1]? = some (.live ⟨.box, 125, 3, [[.sl none (r16.map (cI .u8)), .int .i64 r17, .int .u64 r18]]⟩) := o22
 have fr25 : Fr [j1] M0 M19 := Fr.call fr0 fr23 (fwI (by simp) fwN)
 refine kx (mvO rfl) (Rn (hA h7 (hA h8 (hN rfl hZ))) fun e26 h28 h29 h30 => sN (sq (sq (Rg (kx (mvO h29) (kx (bGtr rfl rfl) (Rn (hA h28 (hA h29 (hA h30 (hN rfl hZ)))) fun e31 h33 h34 h35 h36 => sN ?_)))))))
 clear h7 h8 h9 h28 h29 h30
 rcases ite_some h with ⟨hb37, h⟩ | ⟨hb37, h⟩
 ·obtain ⟨⟨r39, r40, r41, r42⟩, hx38, h⟩ := bind_some h
  refine cT h36 hb37 (Rg (kx (mvO h35) (kx (bMul rfl rfl) (kx (mvO h33) (Ev.nxw (Ev.callW rfl (cns rfl rfl) (spec_l00Src_next_p_ok r16 r17 r18 j1 M19 o24 _ hx38)) fun v45 M43 hq44 => ?_)))))
  obtain ⟨hv45, o46, fr47⟩ := hq44
  have hv45 : v45 = .int .i64 r39 := hv45
  subst hv45
  have o48 : M43[j1]? = some (.live ⟨.box, 125, 3, [[.sl none (r40.map (cI .u8)), .int .i64 r41, .int .u64 r42]]⟩) := o46
  have fr49 : Fr [j1] M0 M43 := Fr.call fr25 fr47 (fwI (by simp) fwN)
  obtain ⟨n54, hx55, h⟩ := bind_some h
  refine kx (bAdd rfl rfl) (kx (mvO rfl) (Rn (hA h34 (hN rfl hZ)) fun e50 h52 h53 => sN (sq (Rg (kx (mvO h53) (kx (mvO h52) (kx (bRem rfl rfl hx55) (kx (mvO rfl) (Rn (hN rfl hZ) fun e56 h58 => sN (xx ?_))))))))))
  clear h33 h34 h36 h52 h53
  obtain rfl := si h
  exact eR (resT h58 res0) ⟨rfl, o48, fr49⟩
 obtain ⟨n59, hx60, h⟩ := bind_some h
 refine cF h36 hb37 (xx (sN (sq (Rg (kx (mvO h35) (kx (mvO h34) (kx (bRem rfl rfl hx60) (kx (mvO rfl) (Rn (hN rfl hZ) fun e61 h63 => sN (xx ?_))))))))))
 clear h33 h34 h35 h36
 obtain rfl := si h
 exact eR (resT h63 res0) ⟨rfl, o24, fr25⟩
/-! ### loop.example/g01263/spec.P6Pick (f24) -/
noncomputable def spec_P6Pick (a1 : List Int) (a2 : Int) : Option Int :=
 (spec_l00From a1).bind fun r6 =>
 (spec_l00Src_pick_p r6.Code r6.At r6.Seed a2).bind fun (r14, r15, r16, r17) =>
 some r14
def spec_P6Pick_enc (r : Int) : AV := .int .i64 r
theorem spec_P6Pick_ok (a1 : List Int) (a2 : Int) (r : Int) (h : spec_P6Pick a1 a2 = some r) : Ev (fun k => CN k 24 [.sl none (a1.map (cI .u8)), .int .i64 a2] []) (fun p => rRes p.2 p.1 = spec_P6Pick_enc r) := by
 unfold spec_P6Pick at h
 obtain ⟨r6, hx5, h⟩ := bind_some h
 refine Ev.enter (F := fun k => f24 (CN k) k) (fun k => callN_eq rfl Tryd.func24 rfl rfl rfl (by decide +kernel) (f24_eq _ _)) (sq (Rg (kx (mvO rfl) (Rn (hN rfl (hN rfl hZ)) fun e1 h3 h4 => sN (sq (Rg (kx (mvO h3) (Ev.nxw (Ev.callW rfl (cns rfl rfl) (spec_l00From_ok a1 _ _ hx5)) fun v10 M8 hq9 => ?_))))))))
 obtain ⟨hv10, o12, fr11⟩ := hq9
 have hv10 : v10 = .loc ([] : Mem).length 1 0 0 := hv10
 subst hv10
 obtain ⟨⟨r14, r15, r16, r17⟩, hx13, h⟩ := bind_some h
 refine kx (mvO h4) (Ev.nxw (Ev.callW rfl (cns rfl (cns rfl rfl)) (spec_l00Src_pick_p_ok r6.Code r6.At r6.Seed a2 (([] : Mem).length) M8 o12 _ hx13)) fun v20 M18 hq19 => ?_)
 obtain ⟨hv20, o21, fr22⟩ := hq19
 have hv20 : v20 = .int .i64 r14 := hv20
 subst hv20
 have o23 : M18[([] : Mem).length]? = some (.live ⟨.box, 125, 3, [[.sl none (r15.map (cI .u8)), .int .i64 r16, .int .u64 r17]]⟩) := o21
 refine kx (mvO rfl) (Rn (hN rfl hZ) fun e24 h26 => sN (xx ?_))
 clear h3 h4
 obtain rfl := si h
 exact eR (resT h26 res0) rfl
/-! ### (*loop.example/g01263/spec.l00Src).one (f122) -/
noncomputable def spec_l00Src_one_p (a1 : List Int) (a2 : Int) (a3 : Int) (a4 : Int) : Option (Bool × (List Int) × Int × Int) :=
 (spec_l00Src_pick_p a1 a2 a3 a4).bind fun (r6, r7, r8, r9) =>
 some ((r6 == 0), r7, r8, r9)
def spec_l00Src_one_p_Q (a1 : List Int) (a2 : Int) (a3 : Int) (a4 : Int) (j1 : Nat) (M0 : Mem) (r : Bool × (List Int) × Int × Int) (p : AV × Mem) : Prop := p.1 = .bool r.1 ∧ p.2[j1]? = some (.live ⟨.box, 125, 3, [[.sl none (r.2.1.map (cI .u8)), .int .i64 r.2.2.1, .int .u64 r.2.2.2]]⟩) ∧ Fr [j1] M0 p.2
theorem spec_l00Src_one_p_ok (a1 : List Int) (a2 : Int) (a3 : Int) (a4 : Int) (j1 : Nat) (M0 : Mem) (oP1 : M0[j1]? = some (.live ⟨.box, 125, 3, [[.sl none (a1.map (cI .u8)), .int .i64 a2, .int .u64 a3]]⟩)) (r : Bool × (List Int) × Int × Int) (h : spec_l00Src_one_p a1 a2 a3 a4 = some r) : Ev (fun k => CN k 122 [.loc j1 1 0 0, .int .i64 a4] M0) (spec_l00Src_one_p_Q a1 a2 a3 a4 j1 M0 r) := by
 unfold spec_l00Src_one_p at h
 have fr0 : Fr [j1] M0 M0 := Fr.refl
 obtain ⟨⟨r6, r7, r8, r9⟩, hx5, h⟩ := bind_some h
 refine Ev.enter (F := fun k => f122 (CN k) k) (fun k => callN_eq rfl Tryd.func122 rfl rfl rfl (by decide +kernel) (f122_eq _ _)) (sq (Rg (kx (mvO rfl) (Rn (hV (.loc j1 1 0 0) rfl (hN rfl hZ)) fun e1 h3 h4 => sN (sq (Rg (kx (mvO h3) (kx (mvO h4) (Ev.nxw (Ev.callW rfl (cns rfl (cns rfl rfl)) (spec_l00Src_pick_p_ok a1 a2 a3 a4 j1 M0 oP1 _ hx5)) fun v12 M10 hq11 => ?_)))))))))
 obtain ⟨hv12, o13, fr14⟩ := hq11
 have hv12 : v12 = .int .i64 r6 := hv12
 subst hv12
 have o15 : M10[j1]? = some (.live ⟨.box, 125, 3, [[.sl none (r7.map (cI .u8)), .int .i64 r8, .int .u64 r9]]⟩) := o13
 have fr16 : Fr [j1] M0 M10 := Fr.call fr0 fr14 (fwI (by simp) fwN)
 refine kx (bEql rfl rfl) (kx (mvO rfl) (Rn (hN rfl hZ) fun e17 h19 => sN (xx ?_)))
 clear h3 h4
 obtain rfl := si h
 exact eR (resT h19 res0) ⟨rfl, o15, fr16⟩
/-! ### loop.example/g01263/spec.l04Small (f93) -/
abbrev spec_l04Small_p_b1_S := Int × Int × Int × Bool × (Ar 16 Int) × (List Notch) × (List Int) × Int × Int
abbrev spec_l04Small_p_b1_R := Bool × (Ar 16 Int) × (List Notch) × (List Int) × Int × Int
def spec_l04Small_p_b1_RS (i1_1 : Nat) (i1_2 : Nat) (i1_3 : Nat) (j1 : Nat) (M0 : Mem) (s : spec_l04Small_p_b1_S) (e : Env) (M : Mem) : Prop := eget e 0 = .loc j1 1 0 0 ∧ eget e 2 = .loc i1_1 1 0 0 ∧ eget e 3 = .loc i1_2 1 0 0 ∧ eget e 5 = .int .i64 s.1 ∧ eget e 6 = .int .i8 s.2.1 ∧ eget e 7 = .int .i64 s.2.2.1 ∧ M[i1_1]? = some (.live ⟨.box, 52, 18, [(.bool false :: (.nils :: ((arC (cI .i8) 0 (Ar.rep 16 0)) ++ ([] : List AV))))]⟩) ∧ M[i1_2]? = some (.live ⟨.box, 52, 18, [(.bool s.2.2.2.1 :: (.lsl i1_3 s.2.2.2.2.2.1.length 0 s.2.2.2.2.2.1.length :: ((arC (cI .i8) 0 s.2.2.2.2.1) ++ ([] : List AV))))]⟩) ∧ M[i1_3]? = some (.live ⟨.grow, 141, 2, s.2.2.2.2.2.1.map Notch.c⟩) ∧ M[j1]? = some (.live ⟨.box, 125, 3, [[.sl none (s.2.2.2.2.2.2.1.map (cI .u8)), .int .i64 s.2.2.2.2.2.2.2.1, .int .u64 s.2.2.2.2.2.2.2.2]]⟩) ∧ Fr [j1] M0 M
def spec_l04Small_p_b1_RR (i1_1 : Nat) (i1_2 : Nat) (i1_3 : Nat) (j1 : Nat) (M0 : Mem) (g : spec_l04Small_p_b1_R) (x : Ex) (e : Env) (M : Mem) : Prop := x = .ext 0 ∧ eget e 2 = .loc i1_1 1 0 0 ∧ eget e 3 = .loc i1_2 1 0 0 ∧ M[i1_1]? = some (.live ⟨.box, 52, 18, [(.bool false :: (.nils :: ((arC (cI .i8) 0 (Ar.rep 16 0)) ++ ([] : List AV))))]⟩) ∧ M[i1_2]? = some (.live ⟨.box, 52, 18, [(.bool g.1 :: (.lsl i1_3 g.2.2.1.length 0 g.2.2.1.length :: ((arC (cI .i8) 0 g.2.1) ++ ([] : List AV))))]⟩) ∧ M[i1_3]? = some (.live ⟨.grow, 141, 2, g.2.2.1.map Notch.c⟩) ∧ M[j1]? = some (.live ⟨.box, 125, 3, [[.sl none (g.2.2.2.1.map (cI .u8)), .int .i64 g.2.2.2.2.1, .int .u64 g.2.2.2.2.2]]⟩) ∧ Fr [j1] M0 M
noncomputable def spec_l04Small_p_b1 : spec_l04Small_p_b1_S → Option (spec_l04Small_p_b1_S ⊕ spec_l04Small_p_b1_R) := fun (s1_1, s1_2, s1_3, s1_4, s1_5, s1_6, s1_7, s1_8, s1_9) =>
 if (decide (s1_3 > 0)) = true then
  (app 4 s1_6 [(Notch.mk s1_2 (IntKind.i16.wrap s1_1))]).bind fun x219 =>
  (spec_l01Widths).bind fun r244 =>
  (rd r244 s1_2).bind fun x245 =>
  (spec_l00Src_pick_p s1_7 s1_8 s1_9 6).bind fun (r248, r249, r250, r251) =>
  if (decide (s1_2 > 0)) = true then
   (spec_l00Src_one_p r249 r250 r251 2).bind fun (r272, r273, r274, r275) =>
   if r272 = true then
    some (.inl ((IntKind.i64.wrap (s1_1 + (IntKind.i64.wrap ((IntKind.i64.wrap (x245 + 1)) + r248)))), (IntKind.i8.wrap (s1_2 - 1)), (IntKind.i64.wrap (s1_3 - 1)), s1_4, s1_5, x219, r273, r274, r275))
   else
    some (.inl ((IntKind.i64.wrap (s1_1 + (IntKind.i64.wrap ((IntKind.i64.wrap (x245 + 1)) + r248)))), s1_2, (IntKind.i64.wrap (s1_3 - 1)), s1_4, s1_5, x219, r273, r274, r275))
  else
   some (.inl ((IntKind.i64.wrap (s1_1 + (IntKind.i64.wrap ((IntKind.i64.wrap (x245 + 1)) + r248)))), s1_2, (IntKind.i64.wrap (s1_3 - 1)), s1_4, s1_5, x219, r249, r250, r251))
 else
  some (.inr (s1_4, s1_5, s1_6, s1_7, s1_8, s1_9))
theorem spec_l04Small_p_b1_ok (i1_1 : Nat) (i1_2 : Nat) (i1_3 : Nat) (j1 : Nat) (M0 : Mem) (ne33 : i1_1 ≠ i1_2) (ne50 : i1_1 ≠ i1_3) (ne51 : i1_2 ≠ i1_3) (ne7 : j1 ≠ i1_1) (ne32 : j1 ≠ i1_2) (ne49 : j1 ≠ i1_3) (nf4 : Nf [j1] M0 i1_1) (nf39 : Nf [j1] M0 i1_2) (nf54 : Nf [j1] M0 i1_3) (s : spec_l04Small_p_b1_S) (r : spec_l04Small_p_b1_S ⊕ spec_l04Small_p_b1_R) (h : spec_l04Small_p_b1 s = some r) (e : Env) (M : Mem) (hs : spec_l04Small_p_b1_RS i1_1 i1_2 i1_3 j1 M0 s e M) : Ev (fun k => (f93_l7 (CN k) k (prune [0, 2, 3, 5, 6, 7] e) M).bind fun q => some q) (bQ (spec_l04Small_p_b1_RS i1_1 i1_2 i1_3 j1 M0) (spec_l04Small_p_b1_RR i1_1 i1_2 i1_3 j1 M0) r) := by
 obtain ⟨s1_1, s1_2, s1_3, s1_4, s1_5, s1_6, s1_7, s1_8, s1_9⟩ := s
 unfold spec_l04Small_p_b1 at h
 obtain ⟨h192, h194, h196, h198, h200, h202, o205, o206, o207, o204, fr208⟩ := hs
 generalize he191 : prune [0, 2, 3, 5, 6, 7] e = e190
 have h193 := envp he191.symm rfl h192
 have h195 := envp he191.symm rfl h194
 have h197 := envp he191.symm rfl h196
 have h199 := envp he191.symm rfl h198
 have h201 := envp he191.symm rfl h200
 have h203 := envp he191.symm rfl h202
 refine sq (sq (Rg (kx (mvO h203) (kx (bGtr rfl rfl) (Rn (hV (.loc j1 1 0 0) h193 (hV (.loc i1_1 1 0 0) h195 (hV (.loc i1_2 1 0 0) h197 (hV (.int .i64 s1_1) h199 (hV (.int .i8 s1_2) h201 (hV (.int .i64 s1_3) h203 (hN rfl hZ))))))) fun e209 h211 h212 h213 h214 h215 h216 h217 => sN ?_)))))
 clear h193 h195 h197 h199 h201 h203
 rcases ite_some h with ⟨hb218, h⟩ | ⟨hb218, h⟩
 ·obtain ⟨x219, hx220, h⟩ := bind_some h
  refine cT h217 hb218 (xx (sN (sq (bl (sq (Rg (kx (faO h213 o206 rfl) (kx (ldO rfl o206 rfl rfl rfl) (kx (mvO h215) (kx (mvO h214) (kx (cvI rfl) (kx (bldT zero141 (cns (pr3 rfl) (cns (pr3 rfl) rfl)) (fill1 ⟨rfl, ble rfl⟩ rfl rfl (fill1 ⟨rfl, ble rfl⟩ rfl rfl (fill0 rfl)))) (kx (litI (cns rfl rfl) rfl ⟨rfl, by decide⟩) (kw (apO rfl o207 rfl (elT (c := Notch.c) (xs := [(Notch.mk s1_2 (IntKind.i16.wrap s1_1))]) rfl) hx220 Notch.fl (by decide)) fun M221 hM222 => ?_))))))))))))))
  have o223 := set_ne hM222 ne49 o204
  have o224 := set_ne hM222 ne50 o205
  have o225 := set_ne hM222 ne51 o206
  have o226 : M221[i1_3]? = some (.live ⟨.grow, 141, 2, x219.map Notch.c⟩) := set_same hM222 o207
  have fr227 := Fr.setNew fr208 hM222 nf54
  refine kx (faO h213 o225 rfl) (kw (stO rfl rfl o225 rfl rfl ⟨rfl, ble rfl⟩ (all1 (okL o226 (by simp)) all0) rfl) fun M228 hM229 => ?_)
  have o230 := set_ne hM229 ne32 o223
  have o231 := set_ne hM229 ne33 o224
  have o232 : M228[i1_2]? = some (.live ⟨.box, 52, 18, [(.bool s1_4 :: (.lsl i1_3 x219.length 0 x219.length :: ((arC (cI .i8) 0 s1_5) ++ ([] : List AV))))]⟩) := set_same hM229 o225
  have o233 := set_ne hM229 (Ne.symm ne51) o226
  have fr234 := Fr.setNew fr227 hM229 nf39
  obtain ⟨r244, hx243, h⟩ := bind_some h
  obtain ⟨x245, hx246, h⟩ := bind_some h
  obtain ⟨⟨r248, r249, r250, r251⟩, hx247, h⟩ := bind_some h
  refine Rn (hA h211 (hA h212 (hA h213 (hA h214 (hA h215 (hA h216 hZ)))))) fun e235 h237 h238 h239 h240 h241 h242 => sN (sq (RdS (kfS (mvO h240) (fcS (clO (v := .sl none (r244.map (cI .i64))) rfl rfl rfl rfl (spec_l01Widths_ok  _ hx243)) (kfS (mvO h241) (kgS (ixS rfl rfl hx246 (cI_fl _)) (kgS (ldP rfl rfl) (kfS (bAdd rfl rfl) (kfS (mvO h237) (fZS (Ev.nxw (Ev.callW rfl (cns rfl (cns rfl rfl)) (spec_l00Src_pick_p_ok s1_7 s1_8 s1_9 6 j1 M228 o230 _ hx247)) fun v254 M252 hq253 => ?_)))))))))))
  clear h211 h212 h213 h214 h215 h216 h217
  obtain ⟨hv254, o255, fr256⟩ := hq253
  have hv254 : v254 = .int .i64 r248 := hv254
  subst hv254
  have o257 : M252[j1]? = some (.live ⟨.box, 125, 3, [[.sl none (r249.map (cI .u8)), .int .i64 r250, .int .u64 r251]]⟩) := o255
  have fr256 : Fr [j1] M228 M252 := fr256
  have o258 := fr256 _ _ (niC (Ne.symm ne7) niN) o231
  have o259 := fr256 _ _ (niC (Ne.symm ne32) niN) o232
  have o260 := fr256 _ _ (niC (Ne.symm ne49) niN) o233
  have fr261 : Fr [j1] M0 M252 := Fr.call fr234 fr256 (fwI (by simp) fwN)
  refine ck (ckP (ldP rfl rfl) (ckP (ixS rfl rfl hx246 (cI_fl _)) ck0)) (kx (bAdd rfl rfl) (ck (ckD rfl (ckD rfl ck0)) (kx (bAdd rfl rfl) (ck (ckD rfl (ckD rfl ck0)) (kx (mvO rfl) (ck (ckD rfl (ckD rfl ck0)) (Rn (hA h237 (hA h238 (hA h239 (hN rfl (hA h241 (hA h242 hZ)))))) fun e262 h264 h265 h266 h267 h268 h269 => sN (sq (Rg (kx (mvO h268) (kx (bGtr rfl rfl) (kx (mvO rfl) ?_))))))))))))
  clear h237 h238 h239 h241 h242
  rcases ite_some h with ⟨hb270, h⟩ | ⟨hb270, h⟩
  ·obtain ⟨⟨r272, r273, r274, r275⟩, hx271, h⟩ := bind_some h
   refine kx (guT rfl hb270 (mvO h264)) (Ev.nxw (Ev.guT rfl hb270 (Ev.callW rfl (cns rfl (cns rfl rfl)) (spec_l00Src_one_p_ok r249 r250 r251 2 j1 M252 o257 _ hx271))) fun v278 M276 hq277 => ?_)
   obtain ⟨hv278, o279, fr280⟩ := hq277
   have hv278 : v278 = .bool r272 := hv278
   subst hv278
   have o281 : M276[j1]? = some (.live ⟨.box, 125, 3, [[.sl none (r273.map (cI .u8)), .int .i64 r274, .int .u64 r275]]⟩) := o279
   have fr280 : Fr [j1] M252 M276 := fr280
   have o282 := fr280 _ _ (niC (Ne.symm ne7) niN) o258
   have o283 := fr280 _ _ (niC (Ne.symm ne32) niN) o259
   have o284 := fr280 _ _ (niC (Ne.symm ne49) niN) o260
   have fr285 : Fr [j1] M0 M276 := Fr.call fr261 fr280 (fwI (by simp) fwN)
   refine kx (pkT rfl hb270 rfl) (Rn (hA h264 (hA h265 (hA h266 (hA h267 (hA h268 (hA h269 (hN rfl hZ))))))) fun e286 h288 h289 h290 h291 h292 h293 h294 => sN ?_)
   clear h264 h265 h266 h267 h268 h269
   rcases ite_some h with ⟨hb295, h⟩ | ⟨hb295, h⟩
   ·refine cT h294 hb295 (Rg (kx (mvO h292) (kx (bSub rfl rfl) (kx (mvO rfl) (Rn (hA h288 (hA h289 (hA h290 (hA h291 (hN rfl (hA h293 hZ)))))) fun e296 h298 h299 h300 h301 h302 h303 => bN (sN (Rg (kx (mvO h303) (kx (bSub rfl rfl) (kx (mvO rfl) (Rn (hA h298 (hA h299 (hA h300 (hA h301 (hA h302 (hN rfl hZ)))))) fun e304 h306 h307 h308 h309 h310 h311 => ?_)))))))))))
    clear h288 h289 h290 h291 h293 h294 h298 h299 h300 h301 h302
    obtain rfl := si h
    exact qN ⟨h306, h307, h308, h309, h310, h311, o282, (by simpa using o283), o284, o281, fr285⟩
   refine cF h294 hb295 (xx (bN (sN (Rg (kx (mvO h293) (kx (bSub rfl rfl) (kx (mvO rfl) (Rn (hA h288 (hA h289 (hA h290 (hA h291 (hA h292 (hN rfl hZ)))))) fun e312 h314 h315 h316 h317 h318 h319 => ?_))))))))
   clear h288 h289 h290 h291 h292 h294
   obtain rfl := si h
   exact qN ⟨h314, h315, h316, h317, h318, h319, o282, (by simpa using o283), o284, o281, fr285⟩
  refine kx (gsT rfl hb270) (kc (Ev.gsT rfl hb270) (kx (pkF rfl hb270 rfl) (Rn (hA h264 (hA h265 (hA h266 (hA h267 (hA h268 (hA h269 (hV (.bool false) rfl hZ))))))) fun e320 h322 h323 h324 h325 h326 h327 h328 => sN (cF h328 rfl (xx (bN (sN (Rg (kx (mvO h327) (kx (bSub rfl rfl) (kx (mvO rfl) (Rn (hA h322 (hA h323 (hA h324 (hA h325 (hA h326 (hN rfl hZ)))))) fun e329 h331 h332 h333 h334 h335 h336 => ?_))))))))))))
  clear h264 h265 h266 h267 h268 h269 h322 h323 h324 h325 h326 h328
  obtain rfl := si h
  exact qN ⟨h331, h332, h333, h334, h335, h336, o258, (by simpa using o259), o260, o257, fr261⟩
 refine cF h217 hb218 (xx (sE ?_))
 obtain rfl := si h
 exact qE ⟨rfl, h212, h213, o205, (by simpa using o206), o207, o204, fr208⟩
noncomputable def spec_l04Small_p (a1 : List Int) (a2 : Int) (a3 : Int) : Option (Bool × (Ar 16 Int) × (List Int) × Int × Int × (List Notch)) :=
 (spec_l00Src_one_p a1 a2 a3 2).bind fun (r14, r15, r16, r17) =>
 (spec_l00Src_pick_p r15 r16 r17 1073741824).bind fun (r70, r71, r72, r73) =>
 (spec_GrainFrom (IntKind.u32.wrap r70)).bind fun (r91, r92) =>
 (spec_l00Src_pick_p r71 r72 r73 3).bind fun (r106, r107, r108, r109) =>
 (spec_l00Src_pick_p r107 r108 r109 5).bind fun (r127, r128, r129, r130) =>
 (spec_l00Src_pick_p r128 r129 r130 6).bind fun (r149, r150, r151, r152) =>
 (Lw (spec_l04Small_p_b1) (r106, (IntKind.i8.wrap r127), r149, r14, r91, ([] : List Notch), r150, r151, r152)).bind fun (y342, y343, y344, y345, y346, y347) =>
 some (y342, y343, y345, y346, y347, y344)
def spec_l04Small_p_Q (a1 : List Int) (a2 : Int) (a3 : Int) (j1 : Nat) (M0 : Mem) (r : Bool × (Ar 16 Int) × (List Int) × Int × Int × (List Notch)) (p : AV × Mem) : Prop := (∃ n1 : Nat, p.1 = .agg (.bool r.1 :: (.lsl n1 r.2.2.2.2.2.length 0 r.2.2.2.2.2.length :: ((arC (cI .i8) 0 r.2.1) ++ ([] : List AV)))) ∧ p.2[n1]? = some (.live ⟨.grow, 141, 2, r.2.2.2.2.2.map Notch.c⟩) ∧ p.2[j1]? = some (.live ⟨.box, 125, 3, [[.sl none (r.2.2.1.map (cI .u8)), .int .i64 r.2.2.2.1, .int .u64 r.2.2.2.2.1]]⟩) ∧ Fr [j1] M0 p.2 ∧ Nf [j1] M0 n1 ∧ j1 ≠ n1)
theorem spec_l04Small_p_ok (a1 : List Int) (a2 : Int) (a3 : Int) (j1 : Nat) (M0 : Mem) (oP1 : M0[j1]? = some (.live ⟨.box, 125, 3, [[.sl none (a1.map (cI .u8)), .int .i64 a2, .int .u64 a3]]⟩)) (r : Bool × (Ar 16 Int) × (List Int) × Int × Int × (List Notch)) (h : spec_l04Small_p a1 a2 a3 = some r) : Ev (fun k => CN k 93 [.loc j1 1 0 0] M0) (spec_l04Small_p_Q a1 a2 a3 j1 M0 r) := by
 unfold spec_l04Small_p at h
 have fr0 : Fr [j1] M0 M0 := Fr.refl
 refine Ev.enter (F := fun k => f93 (CN k) k) (fun k => callN_eq rfl Tryd.func93 rfl rfl rfl (by decide +kernel) (f93_eq _ _)) (sq (Rg (ku (alO zero52) fun M2 hM3 => ?_)))
 have nf4 := Nf.mk fr0
 have fr5 := Fr.push fr0 hM3
 have o6 := push_old hM3 oP1
 have ne7 := ne_new oP1
 have o8 : M2[M0.length]? = some (.live ⟨.box, 52, 18, [(.bool false :: (.nils :: ((arC (cI .i8) 0 (Ar.rep 16 0)) ++ ([] : List AV))))]⟩) := push_new hM3
 obtain ⟨⟨r14, r15, r16, r17⟩, hx13, h⟩ := bind_some h
 refine Rn (hV (.loc j1 1 0 0) rfl (hV (.loc M0.length 1 0 0) rfl hZ)) fun e9 h11 h12 => sN (sq (Rg (kx (mvO h11) (Ev.nxw (Ev.callW rfl (cns rfl (cns rfl rfl)) (spec_l00Src_one_p_ok a1 a2 a3 2 j1 M2 o6 _ hx13)) fun v20 M18 hq19 => ?_))))
 obtain ⟨hv20, o21, fr22⟩ := hq19
 have hv20 : v20 = .bool r14 := hv20
 subst hv20
 have o23 : M18[j1]? = some (.live ⟨.box, 125, 3, [[.sl none (r15.map (cI .u8)), .int .i64 r16, .int .u64 r17]]⟩) := o21
 have fr22 : Fr [j1] M2 M18 := fr22
 have o24 := fr22 _ _ (niC (Ne.symm ne7) niN) o8
 have fr25 : Fr [j1] M0 M18 := Fr.call fr5 fr22 (fwI (by simp) fwN)
 refine kx (bldT zero52 (cns (pr3 rfl) rfl) (fill1 (cs' := (.bool r14 :: (.nils :: ((arC (cI .i8) 0 (Ar.rep 16 0)) ++ ([] : List AV))))) ⟨rfl, ble rfl⟩ rfl rfl (fill0 rfl))) (Ev.nxpushL (gho_one (alO zero52) nty52 (ghc rfl (ghn (gha (arC_nn (fun _ => rfl)) (arC_len (fun x => ((cI_fl _) x).1)) ghz) co141)) (by decide)) fun M28 hM29 => ?_)
 have o30 := push_old hM29 o23
 have o31 := push_old hM29 o24
 have ne32 : j1 ≠ M18.length := by have := lt_of_get (M := M18) o23; omega
 have ne33 : M0.length ≠ M18.length := by have := lt_of_get (M := M18) o24; omega
 have o34 : M28[M18.length]? = some (.live ⟨.box, 52, 18, [(.bool false :: (.lsl (M18.length + 1) ([] : List Notch).length 0 ([] : List Notch).length :: ((arC (cI .i8) 0 (Ar.rep 16 0)) ++ ([] : List AV))))]⟩) := push_at hM29 0 rfl
 have ne35 : j1 ≠ (M18.length + 1) := by have := lt_of_get (M := M18) o23; omega
 have ne36 : M0.length ≠ (M18.length + 1) := by have := lt_of_get (M := M18) o24; omega
 have ne37 : M18.length ≠ (M18.length + 1) := by omega
 have o38 : M28[(M18.length + 1)]? = some (.live ⟨.grow, 141, 2, ([] : List Notch).map Notch.c⟩) := push_at hM29 1 rfl
 have nf39 := Nf.mk fr25
 have nf40 := Nf.mkAt fr25 1
 have fr41 := Fr.push fr25 hM29
 obtain ⟨M42, hM43⟩ : ∃ x, x = M28 ++ ([⟨.grow, 141, 2, ([] : List Notch).map Notch.c⟩] : List Ob).map Ent.live := ⟨_, rfl⟩
 have o45 := push_old hM43 o30
 have o46 := push_old hM43 o31
 have o47 := push_old hM43 o34
 have o48 := push_old hM43 o38
 have ne49 : j1 ≠ M28.length := by have := lt_of_get (M := M28) o30; omega
 have ne50 : M0.length ≠ M28.length := by have := lt_of_get (M := M28) o31; omega
 have ne51 : M18.length ≠ M28.length := by have := lt_of_get (M := M28) o34; omega
 have ne52 : (M18.length + 1) ≠ M28.length := by have := lt_of_get (M := M28) o38; omega
 have o53 : M42[M28.length]? = some (.live ⟨.grow, 141, 2, ([] : List Notch).map Notch.c⟩) := push_at hM43 0 rfl
 have nf54 := Nf.mk fr41
 have fr55 := Fr.push fr41 hM43
 refine kw (stG (kp := false) hM43 rfl nty52 (ghc rfl (ghn (gha (arC_nn (fun _ => rfl)) (arC_len (fun x => ((cI_fl _) x).1)) ghz) co141)) (by decide) (stO rfl rfl o47 rfl rfl ⟨rfl, ble rfl⟩ (all1 rfl (all1 (okL o53 (by simp)) (oaS (rest := []) (fun _ => rfl) all0))) rfl)) fun M56 hM57 => ?_
 have o58 := set_ne hM57 ne32 o45
 have o59 := set_ne hM57 ne33 o46
 have o60 : M56[M18.length]? = some (.live ⟨.box, 52, 18, [(.bool r14 :: (.lsl M28.length ([] : List Notch).length 0 ([] : List Notch).length :: ((arC (cI .i8) 0 (Ar.rep 16 0)) ++ ([] : List AV))))]⟩) := set_same hM57 o47
 have o61 := set_ne hM57 (Ne.symm ne37) o48
 have o62 := set_ne hM57 (Ne.symm ne51) o53
 have fr63 := Fr.setNew fr55 hM57 nf39
 obtain ⟨⟨r70, r71, r72, r73⟩, hx69, h⟩ := bind_some h
 refine Rn (hA h11 (hA h12 (hV (.loc M18.length 1 0 0) rfl hZ))) fun e64 h66 h67 h68 => sN (sq (Rg (kx (mvO h66) (Ev.nxw (Ev.callW rfl (cns rfl (cns rfl rfl)) (spec_l00Src_pick_p_ok r15 r16 r17 1073741824 j1 M56 o58 _ hx69)) fun v76 M74 hq75 => ?_))))
 clear h11 h12
 obtain ⟨hv76, o77, fr78⟩ := hq75
 have hv76 : v76 = .int .i64 r70 := hv76
 subst hv76
 have o79 : M74[j1]? = some (.live ⟨.box, 125, 3, [[.sl none (r71.map (cI .u8)), .int .i64 r72, .int .u64 r73]]⟩) := o77
 have fr78 : Fr [j1] M56 M74 := fr78
 have o80 := fr78 _ _ (niC (Ne.symm ne7) niN) o59
 have o81 := fr78 _ _ (niC (Ne.symm ne32) niN) o60
 have o82 := fr78 _ _ (niC (Ne.symm ne49) niN) o62
 have fr83 : Fr [j1] M0 M74 := Fr.call fr63 fr78 (fwI (by simp) fwN)
 obtain ⟨⟨r91, r92⟩, hx90, h⟩ := bind_some h
 refine kx (cvI rfl) (kx (mvO rfl) (Rn (hA h66 (hA h67 (hA h68 (hN rfl hZ)))) fun e84 h86 h87 h88 h89 => sN (sq (Rg (kx (mvO h89) (kc (cl (v := .tup [.agg (arC (cI .i8) 0 r91), .int .u32 r92]) rfl rfl (cns rfl rfl) rfl (spec_GrainFrom_ok (IntKind.u32.wrap r70) _ hx90) nm) (kx (mvO rfl) (kx (exT rfl rfl) (kx (exT rfl rfl) (kx (faO h88 o81 rfl) (kw (stO rfl rfl o81 rfl rfl ⟨rfl, ble rfl⟩ rfl rfl) fun M93 hM94 => ?_)))))))))))
 clear h66 h67 h68
 have o95 := set_ne hM94 ne32 o79
 have o96 := set_ne hM94 ne33 o80
 have o97 : M93[M18.length]? = some (.live ⟨.box, 52, 18, [(.bool r14 :: (.lsl M28.length ([] : List Notch).length 0 ([] : List Notch).length :: ((arC (cI .i8) 0 r91) ++ ([] : List AV))))]⟩) := set_same hM94 o81
 have o98 := set_ne hM94 (Ne.symm ne51) o82
 have fr99 := Fr.setNew fr83 hM94 nf39
 obtain ⟨⟨r106, r107, r108, r109⟩, hx105, h⟩ := bind_some h
 refine kx (mvO rfl) (Rn (hA h86 (hA h87 (hA h88 hZ))) fun e100 h102 h103 h104 => sN (sq (Rg (kx (mvO h102) (Ev.nxw (Ev.callW rfl (cns rfl (cns rfl rfl)) (spec_l00Src_pick_p_ok r71 r72 r73 3 j1 M93 o95 _ hx105)) fun v112 M110 hq111 => ?_)))))
 clear h86 h87 h88
 obtain ⟨hv112, o113, fr114⟩ := hq111
 have hv112 : v112 = .int .i64 r106 := hv112
 subst hv112
 have o115 : M110[j1]? = some (.live ⟨.box, 125, 3, [[.sl none (r107.map (cI .u8)), .int .i64 r108, .int .u64 r109]]⟩) := o113
 have fr114 : Fr [j1] M93 M110 := fr114
 have o116 := fr114 _ _ (niC (Ne.symm ne7) niN) o96
 have o117 := fr114 _ _ (niC (Ne.symm ne32) niN) o97
 have o118 := fr114 _ _ (niC (Ne.symm ne49) niN) o98
 have fr119 : Fr [j1] M0 M110 := Fr.call fr99 fr114 (fwI (by simp) fwN)
 obtain ⟨⟨r127, r128, r129, r130⟩, hx126, h⟩ := bind_some h
 refine kx (mvO rfl) (Rn (hA h102 (hA h103 (hA h104 (hN rfl hZ)))) fun e120 h122 h123 h124 h125 => sN (sq (Rg (kx (mvO h122) (Ev.nxw (Ev.callW rfl (cns rfl (cns rfl rfl)) (spec_l00Src_pick_p_ok r107 r108 r109 5 j1 M110 o115 _ hx126)) fun v133 M131 hq132 => ?_)))))
 clear h102 h103 h104
 obtain ⟨hv133, o134, fr135⟩ := hq132
 have hv133 : v133 = .int .i64 r127 := hv133
 subst hv133
 have o136 : M131[j1]? = some (.live ⟨.box, 125, 3, [[.sl none (r128.map (cI .u8)), .int .i64 r129, .int .u64 r130]]⟩) := o134
 have fr135 : Fr [j1] M110 M131 := fr135
 have o137 := fr135 _ _ (niC (Ne.symm ne7) niN) o116
 have o138 := fr135 _ _ (niC (Ne.symm ne32) niN) o117
 have o139 := fr135 _ _ (niC (Ne.symm ne49) niN) o118
 have fr140 : Fr [j1] M0 M131 := Fr.call fr119 fr135 (fwI (by simp) fwN)
 obtain ⟨⟨r149, r150, r151, r152⟩, hx148, h⟩ := bind_some h
 refine kx (cvI rfl) (kx (mvO rfl) (Rn (hA h122 (hA h123 (hA h124 (hA h125 (hN rfl hZ))))) fun e141 h143 h144 h145 h146 h147 => sN (sq (sq (Rg (kx (mvO h143) (Ev.nxw (Ev.callW rfl (cns rfl (cns rfl rfl)) (spec_l00Src_pick_p_ok r128 r129 r130 6 j1 M131 o136 _ hx148)) fun v155 M153 hq154 => ?_)))))))
 clear h122 h123 h124 h125
 obtain ⟨hv155, o156, fr157⟩ := hq154
 have hv155 : v155 = .int .i64 r149 := hv155
 subst hv155
 have o158 : M153[j1]? = some (.live ⟨.box, 125, 3, [[.sl none (r150.map (cI .u8)), .int .i64 r151, .int .u64 r152]]⟩) := o156
 have fr157 : Fr [j1] M131 M153 := fr157
 have o159 := fr157 _ _ (niC (Ne.symm ne7) niN) o137
 have o160 := fr157 _ _ (niC (Ne.symm ne32) niN) o138
 have o161 := fr157 _ _ (niC (Ne.symm ne49) niN) o139
 have fr162 : Fr [j1] M0 M153 := Fr.call fr140 fr157 (fwI (by simp) fwN)
 obtain ⟨⟨y342, y343, y344, y345, y346, y347⟩, hr338, h⟩ := bind_some h
 refine kx (mvO rfl) (Rn (hA h143 (hA h144 (hA h145 (hA h146 (hA h147 (hN rfl hZ)))))) fun e163 h165 h166 h167 h168 h169 h170 => sN (bl (Ev.loop (RS := spec_l04Small_p_b1_RS M0.length M18.length M28.length j1 M0) (RR := spec_l04Small_p_b1_RR M0.length M18.length M28.length j1 M0) (fun s r h e M hs => spec_l04Small_p_b1_ok M0.length M18.length M28.length j1 M0 ne33 ne50 ne51 ne7 ne32 ne49 nf4 nf39 nf54 s r h e M hs) hr338 ⟨h165, h166, h167, h168, h169, h170, o159, o160, o161, o158, fr162⟩ fun x e340 M341 hq339 => ?_)))
 clear h143 h144 h145 h146 h147
 obtain ⟨rfl, h348, h349, o350, o351, o352, o353, fr354⟩ := hq339
 refine bE (sN (sq (Rg (kx (ldOA (cs' := (.bool y342 :: (.lsl M28.length y344.length 0 y344.length :: ((arC (cI .i8) 0 y343) ++ ([] : List AV))))) h349 o351 rfl rfl (ble rfl) rfl) (kw (stO h348 rfl o350 rfl rfl ⟨rfl, ble rfl⟩ (all1 rfl (all1 (okL o352 (by simp)) (oaS (rest := []) (fun _ => rfl) all0))) rfl) fun M355 hM356 => ?_)))))
 have o357 : M355[M0.length]? = some (.live ⟨.box, 52, 18, [(.bool y342 :: (.lsl M28.length y344.length 0 y344.length :: ((arC (cI .i8) 0 y343) ++ ([] : List AV))))]⟩) := set_same hM356 o350
 have o358 := set_ne hM356 (Ne.symm ne33) o351
 have o359 := set_ne hM356 (Ne.symm ne50) o352
 have o360 := set_ne hM356 ne7 o353
 have fr361 := Fr.setNew fr354 hM356 nf4
 refine Rn (hV (.loc M0.length 1 0 0) h348 hZ) fun e362 h364 => sN (xx ?_)
 clear h348 h349
 obtain rfl := si h
 exact eR (resC (ag := true) (sz := 18) ⟨by kernel_rfl, by kernel_rfl, by kernel_rfl⟩ (ldOA (cs' := (.bool y342 :: (.lsl M28.length y344.length 0 y344.length :: ((arC (cI .i8) 0 y343) ++ ([] : List AV))))) h364 o357 rfl rfl (ble rfl) rfl) res0) ⟨M28.length, rfl, o359, o360, fr361, nf54, ne49⟩
/-! ### loop.example/g01263/spec.l06Drawn (f58) -/
abbrev spec_l06Drawn_p_b1_S := Int × Int × (List UInt8) × Bool × (List Notch) × (Ar 16 Int) × (List Mark) × (List Int) × Int × Int
abbrev spec_l06Drawn_p_b1_R := (List UInt8) × Bool × (List Notch) × (Ar 16 Int) × (List Mark) × (List Int) × Int × Int
def spec_l06Drawn_p_b1_RS (r14 : List Party) (i1_1 : Nat) (i1_2 : Nat) (j1 : Nat) (M0 : Mem) (s : spec_l06Drawn_p_b1_S) (e : Env) (M : Mem) : Prop := eget e 0 = .loc j1 1 0 0 ∧ eget e 2 = .loc i1_1 1 0 0 ∧ eget e 3 = .sl none (r14.map Party.c) ∧ eget e 4 = .int .i64 (r14.length : Int) ∧ eget e 7 = .int .i64 s.1 ∧ eget e 8 = .loc i1_2 1 0 0 ∧ eget e 10 = .int .i64 s.2.1 ∧ M[i1_1]? = some (.live ⟨.box, 55, 20, [(.str ([] : List UInt8) :: (.bool false :: (.nils :: ((arC (cI .i8) 0 (Ar.rep 16 0)) ++ ((.nils :: []) : List AV)))))]⟩) ∧ M[i1_2]? = some (.live ⟨.box, 55, 20, [(.str s.2.2.1 :: (.bool s.2.2.2.1 :: (.sl none (s.2.2.2.2.1.map Notch.c) :: ((arC (cI .i8) 0 s.2.2.2.2.2.1) ++ ((.sl none (s.2.2.2.2.2.2.1.map Mark.c) :: []) : List AV)))))]⟩) ∧ M[j1]? = some (.live ⟨.box, 125, 3, [[.sl none (s.2.2.2.2.2.2.2.1.map (cI .u8)), .int .i64 s.2.2.2.2.2.2.2.2.1, .int .u64 s.2.2.2.2.2.2.2.2.2]]⟩) ∧ Fr [j1] M0 M
def spec_l06Drawn_p_b1_RR (r14 : List Party) (i1_1 : Nat) (i1_2 : Nat) (j1 : Nat) (M0 : Mem) (g : spec_l06Drawn_p_b1_R) (x : Ex) (e : Env) (M : Mem) : Prop := x = .ext 0 ∧ eget e 2 = .loc i1_1 1 0 0 ∧ eget e 8 = .loc i1_2 1 0 0 ∧ M[i1_1]? = some (.live ⟨.box, 55, 20, [(.str ([] : List UInt8) :: (.bool false :: (.nils :: ((arC (cI .i8) 0 (Ar.rep 16 0)) ++ ((.nils :: []) : List AV)))))]⟩) ∧ M[i1_2]? = some (.live ⟨.box, 55, 20, [(.str g.1 :: (.bool g.2.1 :: (.sl none (g.2.2.1.map Notch.c) :: ((arC (cI .i8) 0 g.2.2.2.1) ++ ((.sl none (g.2.2.2.2.1.map Mark.c) :: []) : List AV)))))]⟩) ∧ M[j1]? = some (.live ⟨.box, 125, 3, [[.sl none (g.2.2.2.2.2.1.map (cI .u8)), .int .i64 g.2.2.2.2.2.2.1, .int .u64 g.2.2.2.2.2.2.2]]⟩) ∧ Fr [j1] M0 M
noncomputable def spec_l06Drawn_p_b1 (r14 : List Party) : spec_l06Drawn_p_b1_S → Option (spec_l06Drawn_p_b1_S ⊕ spec_l06Drawn_p_b1_R) := fun (s1_1, s1_2, s1_3, s1_4, s1_5, s1_6, s1_7, s1_8, s1_9, s1_10) =>
 if (decide (s1_2 > 0)) = true then
  (spec_l00Src_pick_p s1_8 s1_9 s1_10 (IntKind.i64.wrap ((r14.length : Int) - 1))).bind fun (r252, r253, r254, r255) =>
  (rem .i64 (IntKind.i64.wrap ((IntKind.i64.wrap (s1_1 + 1)) + r252)) (r14.length : Int)).bind fun n265 =>
  (rd r14 s1_1).bind fun x277 =>
  (rd r14 n265).bind fun x279 =>
  (spec_PassOn (Chain.mk s1_3 (Half.mk s1_4 s1_5 s1_6) s1_7) x277 x279.Name).bind fun (r282, r283, r284, r285, r286, r287) =>
  some (.inl (n265, (IntKind.i64.wrap (s1_2 - 1)), r282, r283, r284, r285, r286, r253, r254, r255))
 else
  some (.inr (s1_3, s1_4, s1_5, s1_6, s1_7, s1_8, s1_9, s1_10))
theorem spec_l06Drawn_p_b1_ok (r14 : List Party) (i1_1 : Nat) (i1_2 : Nat) (j1 : Nat) (M0 : Mem) (ne157 : i1_1 ≠ i1_2) (ne7 : j1 ≠ i1_1) (ne156 : j1 ≠ i1_2) (nf4 : Nf [j1] M0 i1_1) (nf160 : Nf [j1] M0 i1_2) (s : spec_l06Drawn_p_b1_S) (r : spec_l06Drawn_p_b1_S ⊕ spec_l06Drawn_p_b1_R) (h : spec_l06Drawn_p_b1 r14 s = some r) (e : Env) (M : Mem) (hs : spec_l06Drawn_p_b1_RS r14 i1_1 i1_2 j1 M0 s e M) : Ev (fun k => (f58_l9 (CN k) k (prune [0, 2, 3, 4, 7, 8, 10] e) M).bind fun q => some q) (bQ (spec_l06Drawn_p_b1_RS r14 i1_1 i1_2 j1 M0) (spec_l06Drawn_p_b1_RR r14 i1_1 i1_2 j1 M0) r) := by
 obtain ⟨s1_1, s1_2, s1_3, s1_4, s1_5, s1_6, s1_7, s1_8, s1_9, s1_10⟩ := s
 unfold spec_l06Drawn_p_b1 at h
 obtain ⟨h222, h224, h226, h228, h230, h232, h234, o237, o238, o236, fr239⟩ := hs
 generalize he221 : prune [0, 2, 3, 4, 7, 8, 10] e = e220
 have h223 := envp he221.symm rfl h222
 have h225 := envp he221.symm rfl h224
 have h227 := envp he221.symm rfl h226
 have h229 := envp he221.symm rfl h228
 have h231 := envp he221.symm rfl h230
 have h233 := envp he221.symm rfl h232
 have h235 := envp he221.symm rfl h234
 refine sq (sq (Rg (kx (mvO h235) (kx (bGtr rfl rfl) (Rn (hV (.loc j1 1 0 0) h223 (hV (.loc i1_1 1 0 0) h225 (hV (.sl none (r14.map Party.c)) h227 (hV (.int .i64 (r14.length : Int)) h229 (hV (.int .i64 s1_1) h231 (hV (.loc i1_2 1 0 0) h233 (hV (.int .i64 s1_2) h235 (hN rfl hZ)))))))) fun e240 h242 h243 h244 h245 h246 h247 h248 h249 => sN ?_)))))
 clear h223 h225 h227 h229 h231 h233 h235
 rcases ite_some h with ⟨hb250, h⟩ | ⟨hb250, h⟩
 ·obtain ⟨⟨r252, r253, r254, r255⟩, hx251, h⟩ := bind_some h
  refine cT h249 hb250 (xx (sN (sq (bl (sq (Rg (kx (mvO h246) (kx (bAdd rfl rfl) (kx (mvO h242) (kx (mvO h245) (kx (bSub rfl rfl) (Ev.nxw (Ev.callW rfl (cns rfl (cns rfl rfl)) (spec_l00Src_pick_p_ok s1_8 s1_9 s1_10 (IntKind.i64.wrap ((r14.length : Int) - 1)) j1 M o236 _ hx251)) fun v258 M256 hq257 => ?_))))))))))))
  obtain ⟨hv258, o259, fr260⟩ := hq257
  have hv258 : v258 = .int .i64 r252 := hv258
  subst hv258
  have o261 : M256[j1]? = some (.live ⟨.box, 125, 3, [[.sl none (r253.map (cI .u8)), .int .i64 r254, .int .u64 r255]]⟩) := o259
  have fr260 : Fr [j1] M M256 := fr260
  have o262 := fr260 _ _ (niC (Ne.symm ne7) niN) o237
  have o263 := fr260 _ _ (niC (Ne.symm ne156) niN) o238
  have fr264 : Fr [j1] M0 M256 := Fr.call fr239 fr260 (fwI (by simp) fwN)
  obtain ⟨n265, hx266, h⟩ := bind_some h
  obtain ⟨x277, hx278, h⟩ := bind_some h
  obtain ⟨x279, hx280, h⟩ := bind_some h
  obtain ⟨⟨r282, r283, r284, r285, r286, r287⟩, hx281, h⟩ := bind_some h
  refine kx (bAdd rfl rfl) (kx (mvO h245) (kx (bRem rfl rfl hx266) (kx (mvO rfl) (Rn (hA h242 (hA h243 (hA h244 (hA h245 (hA h246 (hA h247 (hA h248 (hN rfl hZ)))))))) fun e267 h269 h270 h271 h272 h273 h274 h275 h276 => sN (sq (Rd (kf (ldOA (cs' := (.str s1_3 :: (.bool s1_4 :: (.sl none (s1_5.map Notch.c) :: ((arC (cI .i8) 0 s1_6) ++ ((.sl none (s1_7.map Mark.c) :: []) : List AV)))))) h274 o263 rfl rfl (ble rfl) rfl) (kf (mvO h271) (kf (mvO h273) (kf (ixS rfl rfl hx278 Party.fl) (kf (ldPA rfl rfl rfl) (kf (mvO h271) (kf (mvO h276) (kf (ixS rfl rfl hx280 Party.fl) (kf (faP rfl ⟨ble rfl, blt rfl⟩ rfl) (kf (ldP rfl rfl) (fc (clO (v := .tup [.agg (.str r282 :: (.bool r283 :: (.sl none (r284.map Notch.c) :: ((arC (cI .i8) 0 r285) ++ ((.sl none (r286.map Mark.c) :: []) : List AV))))), .int .i64 r287]) rfl rfl (cns rfl (cns rfl (cns rfl rfl))) rfl (spec_PassOn_ok (Chain.mk s1_3 (Half.mk s1_4 s1_5 s1_6) s1_7) x277 x279.Name _ hx281)) (kf (mvO rfl) (kf (exT rfl rfl) (kf (exT rfl rfl) (fZ (kw (stO h274 rfl o263 rfl rfl ⟨rfl, ble rfl⟩ rfl rfl) fun M288 hM289 => ?_))))))))))))))))))))))
  clear h242 h243 h244 h245 h246 h247 h248 h249
  have o290 := set_ne hM289 ne156 o261
  have o291 := set_ne hM289 ne157 o262
  have o292 : M288[i1_2]? = some (.live ⟨.box, 55, 20, [(.str r282 :: (.bool r283 :: (.sl none (r284.map Notch.c) :: ((arC (cI .i8) 0 r285) ++ ((.sl none (r286.map Mark.c) :: []) : List AV)))))]⟩) := set_same hM289 o263
  have fr293 := Fr.setNew fr264 hM289 nf160
  refine Rn (hA h269 (hA h270 (hA h271 (hA h272 (hA h274 (hA h275 (hA h276 hZ))))))) fun e294 h296 h297 h298 h299 h300 h301 h302 => sN (Rg (kx (mvO h302) (kx (mvO rfl) (Rn (hA h296 (hA h297 (hA h298 (hA h299 (hN rfl (hA h300 (hA h301 hZ))))))) fun e303 h305 h306 h307 h308 h309 h310 h311 => bN (sN (Rg (kx (mvO h311) (kx (bSub rfl rfl) (kx (mvO rfl) (Rn (hA h305 (hA h306 (hA h307 (hA h308 (hA h309 (hA h310 (hN rfl hZ))))))) fun e312 h314 h315 h316 h317 h318 h319 h320 => ?_))))))))))
  clear h269 h270 h271 h272 h273 h274 h275 h276 h296 h297 h298 h299 h300 h301 h302 h305 h306 h307 h308 h309 h310
  obtain rfl := si h
  exact qN ⟨h314, h315, h316, h317, h318, h319, h320, o291, o292, o290, fr293⟩
 refine cF h249 hb250 (xx (sE ?_))
 obtain rfl := si h
 exact qE ⟨rfl, h243, h247, o237, o238, o236, fr239⟩
noncomputable def spec_l06Drawn_p (a1 : List Int) (a2 : Int) (a3 : Int) : Option ((List UInt8) × Bool × (List Notch) × (Ar 16 Int) × (List Mark) × (List Int) × Int × Int) :=
 (spec_l06People).bind fun r14 =>
 (spec_l04Small_p a1 a2 a3).bind fun (r27, r28, r29, r30, r31, r32) =>
 (spec_l00Src_pick_p r29 r30 r31 (r14.length : Int)).bind fun (r93, r94, r95, r96) =>
 (spec_l00Src_pick_p r94 r95 r96 (IntKind.i64.wrap ((r14.length : Int) - 1))).bind fun (r115, r116, r117, r118) =>
 (rem .i64 (IntKind.i64.wrap ((IntKind.i64.wrap (r93 + 1)) + r115)) (r14.length : Int)).bind fun n128 =>
 (rd r14 r93).bind fun x139 =>
 (rd r14 n128).bind fun x141 =>
 (spec_StartChain (Half.mk true r32 r28) x139 x141.Name).bind fun (r144, r145, r146, r147, r148, r149) =>
 (spec_l00Src_pick_p r116 r117 r118 5).bind fun (r178, r179, r180, r181) =>
 (Lw (spec_l06Drawn_p_b1 r14) (n128, r178, r144, r145, r146, r147, r148, r179, r180, r181)).bind fun (y326, y327, y328, y329, y330, y331, y332, y333) =>
 some (y326, y327, y328, y329, y330, y331, y332, y333)
def spec_l06Drawn_p_Q (a1 : List Int) (a2 : Int) (a3 : Int) (j1 : Nat) (M0 : Mem) (r : (List UInt8) × Bool × (List Notch) × (Ar 16 Int) × (List Mark) × (List Int) × Int × Int) (p : AV × Mem) : Prop := p.1 = .agg (.str r.1 :: (.bool r.2.1 :: (.sl none (r.2.2.1.map Notch.c) :: ((arC (cI .i8) 0 r.2.2.2.1) ++ ((.sl none (r.2.2.2.2.1.map Mark.c) :: []) : List AV))))) ∧ p.2[j1]? = some (.live ⟨.box, 125, 3, [[.sl none (r.2.2.2.2.2.1.map (cI .u8)), .int .i64 r.2.2.2.2.2.2.1, .int .u64 r.2.2.2.2.2.2.2]]⟩) ∧ Fr [j1] M0 p.2
theorem spec_l06Drawn_p_ok (a1 : List Int) (a2 : Int) (a3 : Int) (j1 : Nat) (M0 : Mem) (oP1 : M0[j1]? = some (.live ⟨.box, 125, 3, [[.sl none (a1.map (cI .u8)), .int .i64 a2, .int .u64 a3]]⟩)) (r : (List UInt8) × Bool × (List Notch) × (Ar 16 Int) × (List Mark) × (List Int) × Int × Int) (h : spec_l06Drawn_p a1 a2 a3 = some r) : Ev (fun k => CN k 58 [.loc j1 1 0 0] M0) (spec_l06Drawn_p_Q a1 a2 a3 j1 M0 r) := by
 unfold spec_l06Drawn_p at h
 have fr0 : Fr [j1] M0 M0 := Fr.refl
 refine Ev.enter (F := fun k => f58 (CN k) k) (fun k => callN_eq rfl Tryd.func58 rfl rfl rfl (by decide +kernel) (f58_eq _ _)) (sq (Rg (ku (alO zero55) fun M2 hM3 => ?_)))
 have nf4 := Nf.mk fr0
 have fr5 := Fr.push fr0 hM3
 have o6 := push_old hM3 oP1
 have ne7 := ne_new oP1
 have o8 : M2[M0.length]? = some (.live ⟨.box, 55, 20, [(.str ([] : List UInt8) :: (.bool false :: (.nils :: ((arC (cI .i8) 0 (Ar.rep 16 0)) ++ ((.nils :: []) : List AV)))))]⟩) := push_new hM3
 obtain ⟨r14, hx13, h⟩ := bind_some h
 obtain ⟨⟨r27, r28, r29, r30, r31, r32⟩, hx26, h⟩ := bind_some h
 refine Rn (hV (.loc j1 1 0 0) rfl (hV (.loc M0.length 1 0 0) rfl hZ)) fun e9 h11 h12 => sN (sq (Rg (kc (clO (v := .sl none (r14.map Party.c)) rfl rfl rfl rfl (spec_l06People_ok  _ hx13)) (kx (mvO rfl) (Rn (hA h11 (hA h12 (hN rfl hZ))) fun e15 h17 h18 h19 => sN (sq (Rg (kx (mvO h19) (kx (lnS Tryd.underlying46 rfl) (kx (mvO rfl) (Rn (hA h17 (hA h18 (hA h19 (hN rfl hZ)))) fun e20 h22 h23 h24 h25 => sN (sq (Rg (kx (mvO h22) (Ev.nxw (Ev.callF rfl (cns rfl rfl) (spec_l04Small_p_ok a1 a2 a3 j1 M2 o6 _ hx26)) fun v43 M44 hq36 => ?_)))))))))))))))
 clear h11 h12 h17 h18 h19
 obtain ⟨⟨v37, M35⟩, hq36, hf45⟩ := hq36
 obtain ⟨id33, hv37, o40, o38, fr39, nf41, ne42⟩ := hq36
 have hv37 : v37 = .agg (.bool r27 :: (.lsl id33 r32.length 0 r32.length :: ((arC (cI .i8) 0 r28) ++ ([] : List AV)))) := hv37
 subst hv37
 have o46 : M35[j1]? = some (.live ⟨.box, 125, 3, [[.sl none (r29.map (cI .u8)), .int .i64 r30, .int .u64 r31]]⟩) := o38
 have ne47 := nf41 _ _ (niC (Ne.symm ne7) niN) o8
 have nf48 : Nf [j1] M0 id33 := Nf.call fr5 nf41 (nwC ne42 nwN)
 have fr39 : Fr [j1] M2 M35 := fr39
 have o49 := fr39 _ _ (niC (Ne.symm ne7) niN) o8
 have fr50 : Fr [j1] M0 M35 := Fr.call fr5 fr39 (fwI (by simp) fwN)
 obtain ⟨e51, hM52⟩ := Prod.mk.inj ((show frz (.agg (.bool r27 :: (.lsl id33 r32.length 0 r32.length :: ((arC (cI .i8) 0 r28) ++ ([] : List AV))))) M35 = (.agg (.bool r27 :: (.sl (some 141) (r32.map Notch.c) :: ((arC (cI .i8) 0 r28) ++ ([] : List AV)))), (M35.set id33 .dead)) from (fzA (fz1 rfl (fz1 (frz1_row o40 rfl Notch.fl) (fzR (fun _ _ => frz1_flat) (fun _ => rfl) fz0))))).symm.trans hf45)
 subst e51
 have o53 := set_ne hM52.symm ne42 o46
 have o54 := set_ne hM52.symm ne47 o49
 have fr55 := Fr.setNew fr50 hM52.symm nf48
 refine ku (alO zero52) fun M57 hM58 => ?_
 have nf59 := Nf.mk fr55
 have fr60 := Fr.push fr55 hM58
 have o61 := push_old hM58 o53
 have ne62 := ne_new o53
 have o63 := push_old hM58 o54
 have ne64 := ne_new o54
 have o65 : M57[M44.length]? = some (.live ⟨.box, 52, 18, [(.bool false :: (.nils :: ((arC (cI .i8) 0 (Ar.rep 16 0)) ++ ([] : List AV))))]⟩) := push_new hM58
 refine kw (stO rfl rfl o65 rfl rfl ⟨rfl, ble rfl⟩ rfl rfl) fun M66 hM67 => ?_
 have o68 := set_ne hM67 ne62 o61
 have o69 := set_ne hM67 ne64 o63
 have o70 : M66[M44.length]? = some (.live ⟨.box, 52, 18, [(.bool r27 :: (.sl none (r32.map Notch.c) :: ((arC (cI .i8) 0 r28) ++ ([] : List AV))))]⟩) := set_same hM67 o65
 have fr71 := Fr.setNew fr60 hM67 nf59
 refine Rn (hA h22 (hA h23 (hA h24 (hA h25 (hV (.loc M44.length 1 0 0) rfl hZ))))) fun e72 h74 h75 h76 h77 h78 => sN (sq (Rg (kx (faO h78 o70 rfl) (kw (stO rfl rfl o70 rfl rfl ⟨rfl, ble rfl⟩ rfl rfl) fun M79 hM80 => ?_))))
 clear h22 h23 h24 h25
 have o81 := set_ne hM80 ne62 o68
 have o82 := set_ne hM80 ne64 o69
 have o83 : M79[M44.length]? = some (.live ⟨.box, 52, 18, [(.bool true :: (.sl none (r32.map Notch.c) :: ((arC (cI .i8) 0 r28) ++ ([] : List AV))))]⟩) := set_same hM80 o70
 have fr84 := Fr.setNew fr71 hM80 nf59
 obtain ⟨⟨r93, r94, r95, r96⟩, hx92, h⟩ := bind_some h
 refine Rn (hA h74 (hA h75 (hA h76 (hA h77 (hA h78 hZ))))) fun e85 h87 h88 h89 h90 h91 => sN (sq (Rg (kx (mvO h87) (kx (mvO h90) (Ev.nxw (Ev.callW rfl (cns rfl (cns rfl rfl)) (spec_l00Src_pick_p_ok r29 r30 r31 (r14.length : Int) j1 M79 o81 _ hx92)) fun v99 M97 hq98 => ?_)))))
 clear h74 h75 h76 h77 h78
 obtain ⟨hv99, o100, fr101⟩ := hq98
 have hv99 : v99 = .int .i64 r93 := hv99
 subst hv99
 have o102 : M97[j1]? = some (.live ⟨.box, 125, 3, [[.sl none (r94.map (cI .u8)), .int .i64 r95, .int .u64 r96]]⟩) := o100
 have fr101 : Fr [j1] M79 M97 := fr101
 have o103 := fr101 _ _ (niC (Ne.symm ne7) niN) o82
 have o104 := fr101 _ _ (niC (Ne.symm ne62) niN) o83
 have fr105 : Fr [j1] M0 M97 := Fr.call fr84 fr101 (fwI (by simp) fwN)
 obtain ⟨⟨r115, r116, r117, r118⟩, hx114, h⟩ := bind_some h
 refine kx (mvO rfl) (Rn (hA h87 (hA h88 (hA h89 (hA h90 (hA h91 (hN rfl hZ)))))) fun e106 h108 h109 h110 h111 h112 h113 => sN (sq (Rg (kx (mvO h113) (kx (bAdd rfl rfl) (kx (mvO h108) (kx (mvO h111) (kx (bSub rfl rfl) (Ev.nxw (Ev.callW rfl (cns rfl (cns rfl rfl)) (spec_l00Src_pick_p_ok r94 r95 r96 (IntKind.i64.wrap ((r14.length : Int) - 1)) j1 M97 o102 _ hx114)) fun v121 M119 hq120 => ?_)))))))))
 clear h87 h88 h89 h90 h91
 obtain ⟨hv121, o122, fr123⟩ := hq120
 have hv121 : v121 = .int .i64 r115 := hv121
 subst hv121
 have o124 : M119[j1]? = some (.live ⟨.box, 125, 3, [[.sl none (r116.map (cI .u8)), .int .i64 r117, .int .u64 r118]]⟩) := o122
 have fr123 : Fr [j1] M97 M119 := fr123
 have o125 := fr123 _ _ (niC (Ne.symm ne7) niN) o103
 have o126 := fr123 _ _ (niC (Ne.symm ne62) niN) o104
 have fr127 : Fr [j1] M0 M119 := Fr.call fr105 fr123 (fwI (by simp) fwN)
 obtain ⟨n128, hx129, h⟩ := bind_some h
 obtain ⟨x139, hx140, h⟩ := bind_some h
 obtain ⟨x141, hx142, h⟩ := bind_some h
 obtain ⟨⟨r144, r145, r146, r147, r148, r149⟩, hx143, h⟩ := bind_some h
 refine kx (bAdd rfl rfl) (kx (mvO h111) (kx (bRem rfl rfl hx129) (kx (mvO rfl) (Rn (hA h108 (hA h109 (hA h110 (hA h111 (hA h112 (hA h113 (hN rfl hZ))))))) fun e130 h132 h133 h134 h135 h136 h137 h138 => sN (sq (Rd (kf (ldOA (cs' := (.bool true :: (.sl none (r32.map Notch.c) :: ((arC (cI .i8) 0 r28) ++ ([] : List AV))))) h136 o126 rfl rfl (ble rfl) rfl) (kf (mvO h134) (kf (mvO h137) (kf (ixS rfl rfl hx140 Party.fl) (kf (ldPA rfl rfl rfl) (kf (mvO h134) (kf (mvO h138) (kf (ixS rfl rfl hx142 Party.fl) (kf (faP rfl ⟨ble rfl, blt rfl⟩ rfl) (kf (ldP rfl rfl) (fc (clW (v := .tup [.agg (.str r144 :: (.bool r145 :: (.sl none (r146.map Notch.c) :: ((arC (cI .i8) 0 r147) ++ ((.sl none (r148.map Mark.c) :: []) : List AV))))), .int .i64 r149]) rfl rfl (cns rfl (cns rfl (cns rfl rfl))) rfl (spec_StartChain_ok (Half.mk true r32 r28) x139 x141.Name _ hx143) rfl) (kf (mvO rfl) (kf (exT rfl rfl) (kf (exT rfl rfl) (Ev.nfpushE (alO zero55) (Ev.fend1 fun M151 hM152 => ?_))))))))))))))))))))))
 clear h108 h109 h110 h111 h112 h113
 have hM152 := fendM hM152 [⟨.box, 55, 20, [(.str ([] : List UInt8) :: (.bool false :: (.nils :: ((arC (cI .i8) 0 (Ar.rep 16 0)) ++ ((.nils :: []) : List AV)))))]⟩] rfl
 have o153 := push_old hM152 o124
 have o154 := push_old hM152 o125
 have o155 := push_old hM152 o126
 have ne156 : j1 ≠ M119.length := by have := lt_of_get (M := M119) o124; omega
 have ne157 : M0.length ≠ M119.length := by have := lt_of_get (M := M119) o125; omega
 have ne158 : M44.length ≠ M119.length := by have := lt_of_get (M := M119) o126; omega
 have o159 : M151[M119.length]? = some (.live ⟨.box, 55, 20, [(.str ([] : List UInt8) :: (.bool false :: (.nils :: ((arC (cI .i8) 0 (Ar.rep 16 0)) ++ ((.nils :: []) : List AV)))))]⟩) := push_at hM152 0 rfl
 have nf160 := Nf.mk fr127
 have fr161 := Fr.push fr127 hM152
 refine kw (stO rfl rfl o159 rfl rfl ⟨rfl, ble rfl⟩ rfl rfl) fun M162 hM163 => ?_
 have o164 := set_ne hM163 ne156 o153
 have o165 := set_ne hM163 ne157 o154
 have o166 := set_ne hM163 ne158 o155
 have o167 : M162[M119.length]? = some (.live ⟨.box, 55, 20, [(.str r144 :: (.bool r145 :: (.sl none (r146.map Notch.c) :: ((arC (cI .i8) 0 r147) ++ ((.sl none (r148.map Mark.c) :: []) : List AV)))))]⟩) := set_same hM163 o159
 have fr168 := Fr.setNew fr161 hM163 nf160
 obtain ⟨⟨r178, r179, r180, r181⟩, hx177, h⟩ := bind_some h
 refine kx (mvO rfl) (Rn (hA h132 (hA h133 (hA h134 (hA h135 (hA h138 (hV (.loc M119.length 1 0 0) rfl hZ)))))) fun e169 h171 h172 h173 h174 h175 h176 => sN (sq (sq (Rg (kx (mvO h171) (Ev.nxw (Ev.callW rfl (cns rfl (cns rfl rfl)) (spec_l00Src_pick_p_ok r116 r117 r118 5 j1 M162 o164 _ hx177)) fun v184 M182 hq183 => ?_))))))
 clear h132 h133 h134 h135 h136 h137 h138
 obtain ⟨hv184, o185, fr186⟩ := hq183
 have hv184 : v184 = .int .i64 r178 := hv184
 subst hv184
 have o187 : M182[j1]? = some (.live ⟨.box, 125, 3, [[.sl none (r179.map (cI .u8)), .int .i64 r180, .int .u64 r181]]⟩) := o185
 have fr186 : Fr [j1] M162 M182 := fr186
 have o188 := fr186 _ _ (niC (Ne.symm ne7) niN) o165
 have o189 := fr186 _ _ (niC (Ne.symm ne156) niN) o167
 have fr190 : Fr [j1] M0 M182 := Fr.call fr168 fr186 (fwI (by simp) fwN)
 obtain ⟨⟨y326, y327, y328, y329, y330, y331, y332, y333⟩, hr322, h⟩ := bind_some h
 refine kx (mvO rfl) (Rn (hA h171 (hA h172 (hA h173 (hA h174 (hA h175 (hA h176 (hN rfl hZ))))))) fun e191 h193 h194 h195 h196 h197 h198 h199 => sN (bl (Ev.loop (RS := spec_l06Drawn_p_b1_RS r14 M0.length M119.length j1 M0) (RR := spec_l06Drawn_p_b1_RR r14 M0.length M119.length j1 M0) (fun s r h e M hs => spec_l06Drawn_p_b1_ok r14 M0.length M119.length j1 M0 ne157 ne7 ne156 nf4 nf160 s r h e M hs) hr322 ⟨h193, h194, h195, h196, h197, h198, h199, o188, o189, o187, fr190⟩ fun x e324 M325 hq323 => ?_)))
 clear h171 h172 h173 h174 h175 h176
 obtain ⟨rfl, h334, h335, o336, o337, o338, fr339⟩ := hq323
 refine bE (sN (sq (Rg (kx (ldOA (cs' := (.str y326 :: (.bool y327 :: (.sl none (y328.map Notch.c) :: ((arC (cI .i8) 0 y329) ++ ((.sl none (y330.map Mark.c) :: []) : List AV)))))) h335 o337 rfl rfl (ble rfl) rfl) (kw (stO h334 rfl o336 rfl rfl ⟨rfl, ble rfl⟩ rfl rfl) fun M340 hM341 => ?_)))))
 have o342 : M340[M0.length]? = some (.live ⟨.box, 55, 20, [(.str y326 :: (.bool y327 :: (.sl none (y328.map Notch.c) :: ((arC (cI .i8) 0 y329) ++ ((.sl none (y330.map Mark.c) :: []) : List AV)))))]⟩) := set_same hM341 o336
 have o343 := set_ne hM341 (Ne.symm ne157) o337
 have o344 := set_ne hM341 ne7 o338
 have fr345 := Fr.setNew fr339 hM341 nf4
 refine Rn (hV (.loc M0.length 1 0 0) h334 hZ) fun e346 h348 => sN (xx ?_)
 clear h334 h335
 obtain rfl := si h
 exact eR (resC (ag := true) (sz := 20) ⟨by kernel_rfl, by kernel_rfl, by kernel_rfl⟩ (ldOA (cs' := (.str y326 :: (.bool y327 :: (.sl none (y328.map Notch.c) :: ((arC (cI .i8) 0 y329) ++ ((.sl none (y330.map Mark.c) :: []) : List AV)))))) h348 o342 rfl rfl (ble rfl) rfl) res0) ⟨rfl, o344, fr345⟩
/-! ### loop.example/g01263/spec.P6Chain (f23) -/
noncomputable def spec_P6Chain (a1 : List Int) : Option ((List UInt8) × Bool × (List Notch) × (Ar 16 Int) × (List Mark)) :=
 (spec_l00From a1).bind fun r10 =>
 (spec_l06Drawn_p r10.Code r10.At r10.Seed).bind fun (r20, r21, r22, r23, r24, r25, r26, r27) =>
 some (r20, r21, r22, r23, r24)
def spec_P6Chain_enc (r : (List UInt8) × Bool × (List Notch) × (Ar 16 Int) × (List Mark)) : AV := .agg (.str r.1 :: (.bool r.2.1 :: (.sl none (r.2.2.1.map Notch.c) :: ((arC (cI .i8) 0 r.2.2.2.1) ++ ((.sl none (r.2.2.2.2.map Mark.c) :: []) : List AV)))))
theorem spec_P6Chain_ok (a1 : List Int) (r : (List UInt8) × Bool × (List Notch) × (Ar 16 Int) × (List Mark)) (h : spec_P6Chain a1 = some r) : Ev (fun k => CN k 23 [.sl none (a1.map (cI .u8))] []) (fun p => wkR (rRes p.2 p.1) = spec_P6Chain_enc r) := by
 unfold spec_P6Chain at h
 refine Ev.enter (F := fun k => f23 (CN k) k) (fun k => callN_eq rfl Tryd.func23 rfl rfl rfl (by decide +kernel) (f23_eq _ _)) (sq (Rg (ku (alO zero55) fun M2 hM3 => ?_)))
 have o4 : M2[([] : Mem).length]? = some (.live ⟨.box, 55, 20, [(.str ([] : List UInt8) :: (.bool false :: (.nils :: ((arC (cI .i8) 0 (Ar.rep 16 0)) ++ ((.nils :: []) : List AV)))))]⟩) := push_new hM3
 obtain ⟨r10, hx9, h⟩ := bind_some h
 refine Rn (hN rfl (hV (.loc ([] : Mem).length 1 0 0) rfl hZ)) fun e5 h7 h8 => sN (sq (Rg (kx (mvO h7) (Ev.nxw (Ev.callW rfl (cns rfl rfl) (spec_l00From_ok a1 M2 _ hx9)) fun v14 M12 hq13 => ?_))))
 obtain ⟨hv14, o16, fr15⟩ := hq13
 have hv14 : v14 = .loc M2.length 1 0 0 := hv14
 subst hv14
 have ne17 := ne_new o4
 have fr15 : Fr [] M2 M12 := fr15
 have o18 := fr15 _ _ niN o4
 obtain ⟨⟨r20, r21, r22, r23, r24, r25, r26, r27⟩, hx19, h⟩ := bind_some h
 refine Ev.nxw (Ev.callW rfl (cns rfl rfl) (spec_l06Drawn_p_ok r10.Code r10.At r10.Seed M2.length M12 o16 _ hx19)) fun v30 M28 hq29 => ?_
 obtain ⟨hv30, o31, fr32⟩ := hq29
 have hv30 : v30 = .agg (.str r20 :: (.bool r21 :: (.sl none (r22.map Notch.c) :: ((arC (cI .i8) 0 r23) ++ ((.sl none (r24.map Mark.c) :: []) : List AV))))) := hv30
 subst hv30
 have o33 : M28[M2.length]? = some (.live ⟨.box, 125, 3, [[.sl none (r25.map (cI .u8)), .int .i64 r26, .int .u64 r27]]⟩) := o31
 have fr32 : Fr [M2.length] M12 M28 := fr32
 have o34 := fr32 _ _ (niC ne17 niN) o18
 refine kw (stO h8 rfl o34 rfl rfl ⟨rfl, ble rfl⟩ rfl rfl) fun M35 hM36 => ?_
 have o37 : M35[([] : Mem).length]? = some (.live ⟨.box, 55, 20, [(.str r20 :: (.bool r21 :: (.sl none (r22.map Notch.c) :: ((arC (cI .i8) 0 r23) ++ ((.sl none (r24.map Mark.c) :: []) : List AV)))))]⟩) := set_same hM36 o34
 have o38 := set_ne hM36 (Ne.symm ne17) o33
 refine Rn (hA h8 hZ) fun e39 h41 => sN (xx ?_)
 clear h7 h8
 obtain rfl := si h
 exact eR (resC (ag := true) (sz := 20) ⟨by kernel_rfl, by kernel_rfl, by kernel_rfl⟩ (ldOA (cs' := (.str r20 :: (.bool r21 :: (.sl none (r22.map Notch.c) :: ((arC (cI .i8) 0 r23) ++ ((.sl none (r24.map Mark.c) :: []) : List AV)))))) h41 o37 rfl rfl (ble rfl) rfl) res0) (wkH (y := .agg (.str r20 :: (.bool r21 :: (.sl none (r22.map Notch.c) :: ((arC (cI .i8) 0 r23) ++ ((.sl none (r24.map Mark.c) :: []) : List AV)))))) rfl (wk_agg (mp1 rfl (mp1 rfl (mp1 rfl (mpA (fun _ => wk1_flat) (fun _ => rfl) (mp1 rfl mp0)))))))
/-! ### loop.example/g01263/spec.P6People (f22) -/
noncomputable def spec_P6People : Option ((List Party)) :=
 (spec_l06People).bind fun r4 =>
 some r4
def spec_P6People_enc (r : (List Party)) : AV := .sl none (r.map Party.c)
theorem spec_P6People_ok (r : (List Party)) (h : spec_P6People = some r) : Ev (fun k => CN k 22 [] []) (fun p => wkR (rRes p.2 p.1) = spec_P6People_enc r) := by
 unfold spec_P6People at h
 obtain ⟨r4, hx3, h⟩ := bind_some h
 refine Ev.enter (F := fun k => f22 (CN k) k) (fun k => callN_eq rfl Tryd.func22 rfl rfl rfl (by decide +kernel) (f22_eq _ _)) (sq (Rg (kx (mvO rfl) (Rn hZ fun e1 => sN (sq (Rg (kc (clO (v := .sl none (r4.map Party.c)) rfl rfl rfl rfl (spec_l06People_ok  _ hx3)) (kx (mvO rfl) (Rn (hN rfl hZ) fun e5 h7 => sN (xx ?_))))))))))
 obtain rfl := si h
 exact eR (resT h7 res0) (wkH (y := .sl none (r4.map Party.c)) rfl rfl)
/-! ### loop.example/g01263/laws.f6big (f21) -/
noncomputable def laws_f6big (a1 : List Int) : Option Bool :=
 some (decide ((a1.length : Int) > 4096))
def laws_f6big_enc (r : Bool) : AV := .bool r
theorem laws_f6big_ok (a1 : List Int) (r : Bool) (h : laws_f6big a1 = some r) : Ev (fun k => CN k 21 [.sl none (a1.map (cI .u8))] []) (fun p => rRes p.2 p.1 = laws_f6big_enc r) := by
 unfold laws_f6big at h
 refine Ev.enter (F := fun k => f21 (CN k) k) (fun k => callN_eq rfl Tryd.func21 rfl rfl rfl (by decide +kernel) (f21_eq _ _)) (sq (Rg (kx (mvO rfl) (Rn (hN rfl hZ) fun e1 h3 => sN (sq (Rg (kx (mvO h3) (kx (lnS Tryd.underlying22 rfl) (kx (bGtr rfl rfl) (kx (mvO rfl) (Rn (hN rfl hZ) fun e4 h6 => sN (xx ?_))))))))))))
 clear h3
 obtain rfl := si h
 exact eR (resT h6 res0) rfl
/-! ### loop.example/g01263/laws.FnTwice (f4) -/
def laws_FnTwice_c1_Q (a1 : List Int) (a2 : List Int) (g : Bool) (q : Out) : Prop := q.1 = .nrm ∧ eget q.2.1 0 = .sl none (a1.map (cI .u8)) ∧ eget q.2.1 1 = .sl none (a2.map (cI .u8)) ∧ eget q.2.1 34 = .bool g
def laws_FnTwice_c2_Q (r31 : List Party) (r38 : List UInt8) (r39 : Bool) (r40 : List Notch) (r41 : Ar 16 Int) (r42 : List Mark) (r62 : Int) (x70 : List Mark) (x104 : Mark) (i902_1 : Nat) (i902_2 : Nat) (g : Bool) (q : Out) : Prop := q.1 = .nrm ∧ eget q.2.1 5 = .sl none (r31.map Party.c) ∧ eget q.2.1 6 = .loc i902_1 1 0 0 ∧ eget q.2.1 8 = .int .i64 r62 ∧ eget q.2.1 9 = .loc i902_2 1 0 0 ∧ eget q.2.1 10 = .str x104.Holder ∧ eget q.2.1 88 = .bool g ∧ q.2.2[i902_1]? = some (.live ⟨.box, 55, 20, [(.str r38 :: (.bool r39 :: (.sl none (r40.map Notch.c) :: ((arC (cI .i8) 0 r41) ++ ((.sl none (r42.map Mark.c) :: []) : List AV)))))]⟩) ∧ q.2.2[i902_2]? = some (.live ⟨.box, 55, 20, [(.str r38 :: (.bool r39 :: (.sl none (r40.map Notch.c) :: ((arC (cI .i8) 0 r41) ++ ((.sl none (x70.map Mark.c) :: []) : List AV)))))]⟩)
abbrev laws_FnTwice_b1_S := (List UInt8) × Int
abbrev laws_FnTwice_b1_R := (List UInt8)
def laws_FnTwice_b1_RS (r31 : List Party) (r38 : List UInt8) (r39 : Bool) (r40 : List Notch) (r41 : Ar 16 Int) (r42 : List Mark) (r62 : Int) (x70 : List Mark) (x104 : Mark) (r180 : Int) (i1_1 : Nat) (i1_2 : Nat) (s : laws_FnTwice_b1_S) (e : Env) (M : Mem) : Prop := eget e 5 = .sl none (r31.map Party.c) ∧ eget e 6 = .loc i1_1 1 0 0 ∧ eget e 8 = .int .i64 r62 ∧ eget e 9 = .loc i1_2 1 0 0 ∧ eget e 10 = .str x104.Holder ∧ eget e 15 = .int .i64 r180 ∧ eget e 17 = .str s.1 ∧ eget e 18 = .int .i64 s.2 ∧ M[i1_1]? = some (.live ⟨.box, 55, 20, [(.str r38 :: (.bool r39 :: (.sl none (r40.map Notch.c) :: ((arC (cI .i8) 0 r41) ++ ((.sl none (r42.map Mark.c) :: []) : List AV)))))]⟩) ∧ M[i1_2]? = some (.live ⟨.box, 55, 20, [(.str r38 :: (.bool r39 :: (.sl none (r40.map Notch.c) :: ((arC (cI .i8) 0 r41) ++ ((.sl none (x70.map Mark.c) :: []) : List AV)))))]⟩)
def laws_FnTwice_b1_RR (r31 : List Party) (r38 : List UInt8) (r39 : Bool) (r40 : List Notch) (r41 : Ar 16 Int) (r42 : List Mark) (r62 : Int) (x70 : List Mark) (x104 : Mark) (r180 : Int) (i1_1 : Nat) (i1_2 : Nat) (g : laws_FnTwice_b1_R) (x : Ex) (e : Env) (M : Mem) : Prop := x = .ext 0 ∧ eget e 5 = .sl none (r31.map Party.c) ∧ eget e 6 = .loc i1_1 1 0 0 ∧ eget e 8 = .int .i64 r62 ∧ eget e 9 = .loc i1_2 1 0 0 ∧ eget e 10 = .str x104.Holder ∧ eget e 15 = .int .i64 r180 ∧ eget e 17 = .str g ∧ M[i1_1]? = some (.live ⟨.box, 55, 20, [(.str r38 :: (.bool r39 :: (.sl none (r40.map Notch.c) :: ((arC (cI .i8) 0 r41) ++ ((.sl none (r42.map Mark.c) :: []) : List AV)))))]⟩) ∧ M[i1_2]? = some (.live ⟨.box, 55, 20, [(.str r38 :: (.bool r39 :: (.sl none (r40.map Notch.c) :: ((arC (cI .i8) 0 r41) ++ ((.sl none (x70.map Mark.c) :: []) : List AV)))))]⟩)
noncomputable def laws_FnTwice_b1 (r31 : List Party) (r42 : List Mark) (r62 : Int) (x104 : Mark) : laws_FnTwice_b1_S → Option (laws_FnTwice_b1_S ⊕ laws_FnTwice_b1_R) := fun (s1_1, s1_2) =>
 if (decide (s1_2 < (r31.length : Int))) = true then
  (rd r31 s1_2).bind fun x275 =>
  if (x275.Name == x104.Holder) = true then
   some (.inl (s1_1, (IntKind.i64.wrap (s1_2 + 1))))
  else
   (rd r31 s1_2).bind fun x299 =>
   (rd r42 r62).bind fun x301 =>
   if (x299.Name == x301.Holder) = true then
    some (.inl (s1_1, (IntKind.i64.wrap (s1_2 + 1))))
   else
    (rd r31 s1_2).bind fun x325 =>
    some (.inl (x325.Name, (IntKind.i64.wrap (s1_2 + 1))))
 else
  some (.inr s1_1)
theorem laws_FnTwice_b1_ok (r31 : List Party) (r38 : List UInt8) (r39 : Bool) (r40 : List Notch) (r41 : Ar 16 Int) (r42 : List Mark) (r62 : Int) (x70 : List Mark) (x104 : Mark) (r180 : Int) (i1_1 : Nat) (i1_2 : Nat) (ne76 : i1_1 ≠ i1_2) (s : laws_FnTwice_b1_S) (r : laws_FnTwice_b1_S ⊕ laws_FnTwice_b1_R) (h : laws_FnTwice_b1 r31 r42 r62 x104 s = some r) (e : Env) (M : Mem) (hs : laws_FnTwice_b1_RS r31 r38 r39 r40 r41 r42 r62 x70 x104 r180 i1_1 i1_2 s e M) : Ev (fun k => (f4_l20 (CN k) k (prune [5, 6, 8, 9, 10, 15, 17, 18] e) M).bind fun q => some q) (bQ (laws_FnTwice_b1_RS r31 r38 r39 r40 r41 r42 r62 x70 x104 r180 i1_1 i1_2) (laws_FnTwice_b1_RR r31 r38 r39 r40 r41 r42 r62 x70 x104 r180 i1_1 i1_2) r) := by
 obtain ⟨s1_1, s1_2⟩ := s
 unfold laws_FnTwice_b1 at h
 obtain ⟨h245, h247, h249, h251, h253, h255, h257, h259, o261, o262⟩ := hs
 generalize he244 : prune [5, 6, 8, 9, 10, 15, 17, 18] e = e243
 have h246 := envp he244.symm rfl h245
 have h248 := envp he244.symm rfl h247
 have h250 := envp he244.symm rfl h249
 have h252 := envp he244.symm rfl h251
 have h254 := envp he244.symm rfl h253
 have h256 := envp he244.symm rfl h255
 have h258 := envp he244.symm rfl h257
 have h260 := envp he244.symm rfl h259
 refine sq (sq (Rg (kx (mvO h260) (kx (mvO h246) (kx (lnS Tryd.underlying46 rfl) (kx (bLss rfl rfl) (Rn (hV (.sl none (r31.map Party.c)) h246 (hV (.loc i1_1 1 0 0) h248 (hV (.int .i64 r62) h250 (hV (.loc i1_2 1 0 0) h252 (hV (.str x104.Holder) h254 (hV (.int .i64 r180) h256 (hV (.str s1_1) h258 (hV (.int .i64 s1_2) h260 (hN rfl hZ))))))))) fun e263 h265 h266 h267 h268 h269 h270 h271 h272 h273 => sN ?_)))))))
 clear h246 h248 h250 h252 h254 h256 h258 h260
 rcases ite_some h with ⟨hb274, h⟩ | ⟨hb274, h⟩
 ·obtain ⟨x275, hx276, h⟩ := bind_some h
  refine cT h273 hb274 (xx (sN (sq (bl (sq (Rd (kf (mvO h265) (kf (mvO h272) (kf (ixS rfl rfl hx276 Party.fl) (kf (faP rfl ⟨ble rfl, blt rfl⟩ rfl) (kf (ldP rfl rfl) (kf (mvO h269) (kf (sNeq rfl rfl) (kf (mvO rfl) ?_))))))))))))))
  rcases ite_some h with ⟨hb277, h⟩ | ⟨hb277, h⟩
  ·refine kf (gsT rfl (congrArg Bool.not hb277)) (kf (gsT rfl (congrArg Bool.not hb277)) (kf (gsT rfl (congrArg Bool.not hb277)) (kf (gsT rfl (congrArg Bool.not hb277)) (kf (gsT rfl (congrArg Bool.not hb277)) (kf (gsT rfl (congrArg Bool.not hb277)) (kf (gsT rfl (congrArg Bool.not hb277)) (kf (gsT rfl (congrArg Bool.not hb277)) (kf (gsT rfl (congrArg Bool.not hb277)) (kf (gsT rfl (congrArg Bool.not hb277)) (kf (gsT rfl (congrArg Bool.not hb277)) (kf (gsT rfl (congrArg Bool.not hb277)) (kf (pkF rfl (congrArg Bool.not hb277) rfl) (fZ (Rn (hA h265 (hA h266 (hA h267 (hA h268 (hA h269 (hA h270 (hA h271 (hA h272 (hV (.bool false) rfl hZ))))))))) fun e278 h280 h281 h282 h283 h284 h285 h286 h287 h288 => sN (cF h288 rfl (xx (bN (sN (Rg (kx (mvO h287) (kx (bAdd rfl rfl) (kx (mvO rfl) (Rn (hA h280 (hA h281 (hA h282 (hA h283 (hA h284 (hA h285 (hA h286 (hN rfl hZ)))))))) fun e289 h291 h292 h293 h294 h295 h296 h297 h298 => ?_)))))))))))))))))))))))
   clear h265 h266 h267 h268 h269 h270 h271 h272 h273 h280 h281 h282 h283 h284 h285 h286 h288
   obtain rfl := si h
   exact qN ⟨h291, h292, h293, h294, h295, h296, h297, h298, o261, o262⟩
  obtain ⟨x299, hx300, h⟩ := bind_some h
  obtain ⟨x301, hx302, h⟩ := bind_some h
  refine kf (guT rfl (congrArg Bool.not hb277) (mvO h265)) (kf (guT rfl (congrArg Bool.not hb277) (mvO h272)) (kf (guT rfl (congrArg Bool.not hb277) (ixS rfl rfl hx300 Party.fl)) (kf (guT rfl (congrArg Bool.not hb277) (faP rfl ⟨ble rfl, blt rfl⟩ rfl)) (kf (guT rfl (congrArg Bool.not hb277) (ldP rfl rfl)) (kf (guT rfl (congrArg Bool.not hb277) (faO h266 o261 rfl)) (kf (guT rfl (congrArg Bool.not hb277) (ldO rfl o261 rfl rfl rfl)) (kf (guT rfl (congrArg Bool.not hb277) (mvO h267)) (kf (guT rfl (congrArg Bool.not hb277) (ixS rfl rfl hx302 Mark.fl)) (kf (guT rfl (congrArg Bool.not hb277) (faP rfl ⟨ble rfl, blt rfl⟩ rfl)) (kf (guT rfl (congrArg Bool.not hb277) (ldP rfl rfl)) (kf (guT rfl (congrArg Bool.not hb277) (sNeq rfl rfl)) (kf (pkT rfl (congrArg Bool.not hb277) rfl) (fZ (Rn (hA h265 (hA h266 (hA h267 (hA h268 (hA h269 (hA h270 (hA h271 (hA h272 (hN rfl hZ))))))))) fun e303 h305 h306 h307 h308 h309 h310 h311 h312 h313 => sN ?_))))))))))))))
  clear h265 h266 h267 h268 h269 h270 h271 h272 h273
  rcases ite_some h with ⟨hb314, h⟩ | ⟨hb314, h⟩
  ·refine cF h313 (congrArg Bool.not hb314) (xx (bN (sN (Rg (kx (mvO h312) (kx (bAdd rfl rfl) (kx (mvO rfl) (Rn (hA h305 (hA h306 (hA h307 (hA h308 (hA h309 (hA h310 (hA h311 (hN rfl hZ)))))))) fun e315 h317 h318 h319 h320 h321 h322 h323 h324 => ?_))))))))
   clear h305 h306 h307 h308 h309 h310 h311 h313
   obtain rfl := si h
   exact qN ⟨h317, h318, h319, h320, h321, h322, h323, h324, o261, o262⟩
  obtain ⟨x325, hx326, h⟩ := bind_some h
  refine cT h313 (congrArg Bool.not hb314) (Rg (kx (mvO h305) (kx (mvO h312) (kx (ixS rfl rfl hx326 Party.fl) (kx (faP rfl ⟨ble rfl, blt rfl⟩ rfl) (kx (ldP rfl rfl) (kx (mvO rfl) (Rn (hA h305 (hA h306 (hA h307 (hA h308 (hA h309 (hA h310 (hN rfl (hA h312 hZ)))))))) fun e327 h329 h330 h331 h332 h333 h334 h335 h336 => bN (sN (Rg (kx (mvO h336) (kx (bAdd rfl rfl) (kx (mvO rfl) (Rn (hA h329 (hA h330 (hA h331 (hA h332 (hA h333 (hA h334 (hA h335 (hN rfl hZ)))))))) fun e337 h339 h340 h341 h342 h343 h344 h345 h346 => ?_))))))))))))))
  clear h305 h306 h307 h308 h309 h310 h312 h313 h329 h330 h331 h332 h333 h334 h335
  obtain rfl := si h
  exact qN ⟨h339, h340, h341, h342, h343, h344, h345, h346, o261, o262⟩
 refine cF h273 hb274 (xx (sE ?_))
 obtain rfl := si h
 exact qE ⟨rfl, h265, h266, h267, h268, h269, h270, h271, o261, o262⟩
def laws_FnTwice_c3_Q (r31 : List Party) (r38 : List UInt8) (r39 : Bool) (r40 : List Notch) (r41 : Ar 16 Int) (r42 : List Mark) (r62 : Int) (x104 : Mark) (i903_1 : Nat) (i903_2 : Nat) (i903_3 : Nat) (g : Int × (List UInt8) × Bool × (List Notch) × (Ar 16 Int) × (List Mark)) (q : Out) : Prop := q.1 = .nrm ∧ eget q.2.1 5 = .sl none (r31.map Party.c) ∧ eget q.2.1 6 = .loc i903_1 1 0 0 ∧ eget q.2.1 8 = .int .i64 r62 ∧ eget q.2.1 10 = .str x104.Holder ∧ eget q.2.1 19 = .loc i903_3 1 0 0 ∧ eget q.2.1 20 = .int .i64 g.1 ∧ q.2.2[i903_3]? = some (.live ⟨.box, 55, 20, [(.str g.2.1 :: (.bool g.2.2.1 :: (.sl none (g.2.2.2.1.map Notch.c) :: ((arC (cI .i8) 0 g.2.2.2.2.1) ++ ((.sl none (g.2.2.2.2.2.map Mark.c) :: []) : List AV)))))]⟩) ∧ q.2.2[i903_1]? = some (.live ⟨.box, 55, 20, [(.str r38 :: (.bool r39 :: (.sl none (r40.map Notch.c) :: ((arC (cI .i8) 0 r41) ++ ((.sl none (r42.map Mark.c) :: []) : List AV)))))]⟩)
abbrev laws_FnTwice_b2_S := (List UInt8) × Int
abbrev laws_FnTwice_b2_R := (List UInt8)
def laws_FnTwice_b2_RS (r31 : List Party) (r38 : List UInt8) (r39 : Bool) (r40 : List Notch) (r41 : Ar 16 Int) (r42 : List Mark) (r62 : Int) (x70 : List Mark) (r564 : Int) (i2_1 : Nat) (i2_2 : Nat) (s : laws_FnTwice_b2_S) (e : Env) (M : Mem) : Prop := eget e 5 = .sl none (r31.map Party.c) ∧ eget e 6 = .loc i2_1 1 0 0 ∧ eget e 8 = .int .i64 r62 ∧ eget e 9 = .loc i2_2 1 0 0 ∧ eget e 10 = .str r38 ∧ eget e 15 = .int .i64 r564 ∧ eget e 17 = .str s.1 ∧ eget e 18 = .int .i64 s.2 ∧ M[i2_1]? = some (.live ⟨.box, 55, 20, [(.str r38 :: (.bool r39 :: (.sl none (r40.map Notch.c) :: ((arC (cI .i8) 0 r41) ++ ((.sl none (r42.map Mark.c) :: []) : List AV)))))]⟩) ∧ M[i2_2]? = some (.live ⟨.box, 55, 20, [(.str r38 :: (.bool r39 :: (.sl none (r40.map Notch.c) :: ((arC (cI .i8) 0 r41) ++ ((.sl none (x70.map Mark.c) :: []) : List AV)))))]⟩)
def laws_FnTwice_b2_RR (r31 : List Party) (r38 : List UInt8) (r39 : Bool) (r40 : List Notch) (r41 : Ar 16 Int) (r42 : List Mark) (r62 : Int) (x70 : List Mark) (r564 : Int) (i2_1 : Nat) (i2_2 : Nat) (g : laws_FnTwice_b2_R) (x : Ex) (e : Env) (M : Mem) : Prop := x = .ext 0 ∧ eget e 5 = .sl none (r31.map Party.c) ∧ eget e 6 = .loc i2_1 1 0 0 ∧ eget e 8 = .int .i64 r62 ∧ eget e 9 = .loc i2_2 1 0 0 ∧ eget e 10 = .str r38 ∧ eget e 15 = .int .i64 r564 ∧ eget e 17 = .str g ∧ M[i2_1]? = some (.live ⟨.box, 55, 20, [(.str r38 :: (.bool r39 :: (.sl none (r40.map Notch.c) :: ((arC (cI .i8) 0 r41) ++ ((.sl none (r42.map Mark.c) :: []) : List AV)))))]⟩) ∧ M[i2_2]? = some (.live ⟨.box, 55, 20, [(.str r38 :: (.bool r39 :: (.sl none (r40.map Notch.c) :: ((arC (cI .i8) 0 r41) ++ ((.sl none (x70.map Mark.c) :: []) : List AV)))))]⟩)
noncomputable def laws_FnTwice_b2 (r31 : List Party) (r38 : List UInt8) (r42 : List Mark) (r62 : Int) : laws_FnTwice_b2_S → Option (laws_FnTwice_b2_S ⊕ laws_FnTwice_b2_R) := fun (s2_1, s2_2) =>
 if (decide (s2_2 < (r31.length : Int))) = true then
  (rd r31 s2_2).bind fun x659 =>
  if (x659.Name == r38) = true then
   some (.inl (s2_1, (IntKind.i64.wrap (s2_2 + 1))))
  else
   (rd r31 s2_2).bind fun x683 =>
   (rd r42 r62).bind fun x685 =>
   if (x683.Name == x685.Holder) = true then
    some (.inl (s2_1, (IntKind.i64.wrap (s2_2 + 1))))
   else
    (rd r31 s2_2).bind fun x709 =>
    some (.inl (x709.Name, (IntKind.i64.wrap (s2_2 + 1))))
 else
  some (.inr s2_1)
theorem laws_FnTwice_b2_ok (r31 : List Party) (r38 : List UInt8) (r39 : Bool) (r40 : List Notch) (r41 : Ar 16 Int) (r42 : List Mark) (r62 : Int) (x70 : List Mark) (r564 : Int) (i2_1 : Nat) (i2_2 : Nat) (ne76 : i2_1 ≠ i2_2) (s : laws_FnTwice_b2_S) (r : laws_FnTwice_b2_S ⊕ laws_FnTwice_b2_R) (h : laws_FnTwice_b2 r31 r38 r42 r62 s = some r) (e : Env) (M : Mem) (hs : laws_FnTwice_b2_RS r31 r38 r39 r40 r41 r42 r62 x70 r564 i2_1 i2_2 s e M) : Ev (fun k => (f4_l20 (CN k) k (prune [5, 6, 8, 9, 10, 15, 17, 18] e) M).bind fun q => some q) (bQ (laws_FnTwice_b2_RS r31 r38 r39 r40 r41 r42 r62 x70 r564 i2_1 i2_2) (laws_FnTwice_b2_RR r31 r38 r39 r40 r41 r42 r62 x70 r564 i2_1 i2_2) r) := by
 obtain ⟨s2_1, s2_2⟩ := s
 unfold laws_FnTwice_b2 at h
 obtain ⟨h629, h631, h633, h635, h637, h639, h641, h643, o645, o646⟩ := hs
 generalize he628 : prune [5, 6, 8, 9, 10, 15, 17, 18] e = e627
 have h630 := envp he628.symm rfl h629
 have h632 := envp he628.symm rfl h631
 have h634 := envp he628.symm rfl h633
 have h636 := envp he628.symm rfl h635
 have h638 := envp he628.symm rfl h637
 have h640 := envp he628.symm rfl h639
 have h642 := envp he628.symm rfl h641
 have h644 := envp he628.symm rfl h643
 refine sq (sq (Rg (kx (mvO h644) (kx (mvO h630) (kx (lnS Tryd.underlying46 rfl) (kx (bLss rfl rfl) (Rn (hV (.sl none (r31.map Party.c)) h630 (hV (.loc i2_1 1 0 0) h632 (hV (.int .i64 r62) h634 (hV (.loc i2_2 1 0 0) h636 (hV (.str r38) h638 (hV (.int .i64 r564) h640 (hV (.str s2_1) h642 (hV (.int .i64 s2_2) h644 (hN rfl hZ))))))))) fun e647 h649 h650 h651 h652 h653 h654 h655 h656 h657 => sN ?_)))))))
 clear h630 h632 h634 h636 h638 h640 h642 h644
 rcases ite_some h with ⟨hb658, h⟩ | ⟨hb658, h⟩
 ·obtain ⟨x659, hx660, h⟩ := bind_some h
  refine cT h657 hb658 (xx (sN (sq (bl (sq (Rd (kf (mvO h649) (kf (mvO h656) (kf (ixS rfl rfl hx660 Party.fl) (kf (faP rfl ⟨ble rfl, blt rfl⟩ rfl) (kf (ldP rfl rfl) (kf (mvO h653) (kf (sNeq rfl rfl) (kf (mvO rfl) ?_))))))))))))))
  rcases ite_some h with ⟨hb661, h⟩ | ⟨hb661, h⟩
  ·refine kf (gsT rfl (congrArg Bool.not hb661)) (kf (gsT rfl (congrArg Bool.not hb661)) (kf (gsT rfl (congrArg Bool.not hb661)) (kf (gsT rfl (congrArg Bool.not hb661)) (kf (gsT rfl (congrArg Bool.not hb661)) (kf (gsT rfl (congrArg Bool.not hb661)) (kf (gsT rfl (congrArg Bool.not hb661)) (kf (gsT rfl (congrArg Bool.not hb661)) (kf (gsT rfl (congrArg Bool.not hb661)) (kf (gsT rfl (congrArg Bool.not hb661)) (kf (gsT rfl (congrArg Bool.not hb661)) (kf (gsT rfl (congrArg Bool.not hb661)) (kf (pkF rfl (congrArg Bool.not hb661) rfl) (fZ (Rn (hA h649 (hA h650 (hA h651 (hA h652 (hA h653 (hA h654 (hA h655 (hA h656 (hV (.bool false) rfl hZ))))))))) fun e662 h664 h665 h666 h667 h668 h669 h670 h671 h672 => sN (cF h672 rfl (xx (bN (sN (Rg (kx (mvO h671) (kx (bAdd rfl rfl) (kx (mvO rfl) (Rn (hA h664 (hA h665 (hA h666 (hA h667 (hA h668 (hA h669 (hA h670 (hN rfl hZ)))))))) fun e673 h675 h676 h677 h678 h679 h680 h681 h682 => ?_)))))))))))))))))))))))
   clear h649 h650 h651 h652 h653 h654 h655 h656 h657 h664 h665 h666 h667 h668 h669 h670 h672
   obtain rfl := si h
   exact qN ⟨h675, h676, h677, h678, h679, h680, h681, h682, o645, o646⟩
  obtain ⟨x683, hx684, h⟩ := bind_some h
  obtain ⟨x685, hx686, h⟩ := bind_some h
  refine kf (guT rfl (congrArg Bool.not hb661) (mvO h649)) (kf (guT rfl (congrArg Bool.not hb661) (mvO h656)) (kf (guT rfl (congrArg Bool.not hb661) (ixS rfl rfl hx684 Party.fl)) (kf (guT rfl (congrArg Bool.not hb661) (faP rfl ⟨ble rfl, blt rfl⟩ rfl)) (kf (guT rfl (congrArg Bool.not hb661) (ldP rfl rfl)) (kf (guT rfl (congrArg Bool.not hb661) (faO h650 o645 rfl)) (kf (guT rfl (congrArg Bool.not hb661) (ldO rfl o645 rfl rfl rfl)) (kf (guT rfl (congrArg Bool.not hb661) (mvO h651)) (kf (guT rfl (congrArg Bool.not hb661) (ixS rfl rfl hx686 Mark.fl)) (kf (guT rfl (congrArg Bool.not hb661) (faP rfl ⟨ble rfl, blt rfl⟩ rfl)) (kf (guT rfl (congrArg Bool.not hb661) (ldP rfl rfl)) (kf (guT rfl (congrArg Bool.not hb661) (sNeq rfl rfl)) (kf (pkT rfl (congrArg Bool.not hb661) rfl) (fZ (Rn (hA h649 (hA h650 (hA h651 (hA h652 (hA h653 (hA h654 (hA h655 (hA h656 (hN rfl hZ))))))))) fun e687 h689 h690 h691 h692 h693 h694 h695 h696 h697 => sN ?_))))))))))))))
  clear h649 h650 h651 h652 h653 h654 h655 h656 h657
  rcases ite_some h with ⟨hb698, h⟩ | ⟨hb698, h⟩
  ·refine cF h697 (congrArg Bool.not hb698) (xx (bN (sN (Rg (kx (mvO h696) (kx (bAdd rfl rfl) (kx (mvO rfl) (Rn (hA h689 (hA h690 (hA h691 (hA h692 (hA h693 (hA h694 (hA h695 (hN rfl hZ)))))))) fun e699 h701 h702 h703 h704 h705 h706 h707 h708 => ?_))))))))
   clear h689 h690 h691 h692 h693 h694 h695 h697
   obtain rfl := si h
   exact qN ⟨h701, h702, h703, h704, h705, h706, h707, h708, o645, o646⟩
  obtain ⟨x709, hx710, h⟩ := bind_some h
  refine cT h697 (congrArg Bool.not hb698) (Rg (kx (mvO h689) (kx (mvO h696) (kx (ixS rfl rfl hx710 Party.fl) (kx (faP rfl ⟨ble rfl, blt rfl⟩ rfl) (kx (ldP rfl rfl) (kx (mvO rfl) (Rn (hA h689 (hA h690 (hA h691 (hA h692 (hA h693 (hA h694 (hN rfl (hA h696 hZ)))))))) fun e711 h713 h714 h715 h716 h717 h718 h719 h720 => bN (sN (Rg (kx (mvO h720) (kx (bAdd rfl rfl) (kx (mvO rfl) (Rn (hA h713 (hA h714 (hA h715 (hA h716 (hA h717 (hA h718 (hA h719 (hN rfl hZ)))))))) fun e721 h723 h724 h725 h726 h727 h728 h729 h730 => ?_))))))))))))))
  clear h689 h690 h691 h692 h693 h694 h696 h697 h713 h714 h715 h716 h717 h718 h719
  obtain rfl := si h
  exact qN ⟨h723, h724, h725, h726, h727, h728, h729, h730, o645, o646⟩
 refine cF h657 hb658 (xx (sE ?_))
 obtain rfl := si h
 exact qE ⟨rfl, h649, h650, h651, h652, h653, h654, h655, o645, o646⟩
def laws_FnTwice_c4_Q (r31 : List Party) (r38 : List UInt8) (r39 : Bool) (r40 : List Notch) (r41 : Ar 16 Int) (r42 : List Mark) (r62 : Int) (i904_1 : Nat) (i904_2 : Nat) (i904_3 : Nat) (g : Int × (List UInt8) × Bool × (List Notch) × (Ar 16 Int) × (List Mark)) (q : Out) : Prop := q.1 = .nrm ∧ eget q.2.1 5 = .sl none (r31.map Party.c) ∧ eget q.2.1 6 = .loc i904_1 1 0 0 ∧ eget q.2.1 8 = .int .i64 r62 ∧ eget q.2.1 10 = .str r38 ∧ eget q.2.1 19 = .loc i904_3 1 0 0 ∧ eget q.2.1 20 = .int .i64 g.1 ∧ q.2.2[i904_1]? = some (.live ⟨.box, 55, 20, [(.str r38 :: (.bool r39 :: (.sl none (r40.map Notch.c) :: ((arC (cI .i8) 0 r41) ++ ((.sl none (r42.map Mark.c) :: []) : List AV)))))]⟩) ∧ q.2.2[i904_3]? = some (.live ⟨.box, 55, 20, [(.str g.2.1 :: (.bool g.2.2.1 :: (.sl none (g.2.2.2.1.map Notch.c) :: ((arC (cI .i8) 0 g.2.2.2.2.1) ++ ((.sl none (g.2.2.2.2.2.map Mark.c) :: []) : List AV)))))]⟩)
noncomputable def laws_FnTwice (a1 : List Int) (a2 : List Int) : Option Bool :=
 ((laws_f6big a1).bind fun r6 =>
 if r6 = true then
  some true
 else
  (laws_f6big a2).bind fun r14 =>
  some r14).bind fun y22 =>
 if y22 = true then
  some true
 else
  (spec_P6People).bind fun r31 =>
  (spec_P6Chain a1).bind fun (r38, r39, r40, r41, r42) =>
  (spec_P6Pick a2 (r42.length : Int)).bind fun r62 =>
  (slc r42 0 r62).bind fun x68 =>
  (app 24 ([] : List Mark) x68).bind fun x70 =>
  if (decide (r62 > 0)) = true then
   (rd r42 (IntKind.i64.wrap (r62 - 1))).bind fun x104 =>
   (impl_CommonMarks (Chain.mk r38 (Half.mk r39 r40 r41) r42) (Chain.mk r38 (Half.mk r39 r40 r41) x70)).bind fun (r114, r115) =>
   (impl_WhoPassedTwice (Chain.mk r38 (Half.mk r39 r40 r41) r42) (Chain.mk r38 (Half.mk r39 r40 r41) x70)).bind fun (r126, r127) =>
   (if (r115 != 0) = true then
    some true
   else
    if (r114 != r62) = true then
     some true
    else
     some (r127 != 6)).bind fun y166 =>
   if y166 = true then
    some false
   else
    (spec_FindParty r31 x104.Holder).bind fun (r180, r181) =>
    if (r181 != 0) = true then
     some false
    else
     (Lw (laws_FnTwice_b1 r31 r42 r62 x104) (([] : List UInt8), 0)).bind fun y352 =>
     (if (r62 == 0) = true then
      (rd r31 r180).bind fun x407 =>
      (impl_StartChain (Half.mk r39 r40 r41) x407 y352).bind fun (r410, r411, r412, r413, r414, r415) =>
      some (r415, r410, r411, r412, r413, r414)
     else
      (rd r31 r180).bind fun x429 =>
      (impl_PassOn (Chain.mk r38 (Half.mk r39 r40 r41) x70) x429 y352).bind fun (r432, r433, r434, r435, r436, r437) =>
      some (r437, r432, r433, r434, r435, r436)).bind fun (y453, y454, y455, y456, y457, y458) =>
     (impl_CommonMarks (Chain.mk r38 (Half.mk r39 r40 r41) r42) (Chain.mk y454 (Half.mk y455 y456 y457) y458)).bind fun (r468, r469) =>
     (impl_WhoPassedTwice (Chain.mk r38 (Half.mk r39 r40 r41) r42) (Chain.mk y454 (Half.mk y455 y456 y457) y458)).bind fun (r481, r482) =>
     (spec_WhoPassedTwice (Chain.mk r38 (Half.mk r39 r40 r41) r42) (Chain.mk y454 (Half.mk y455 y456 y457) y458)).bind fun (r496, r497) =>
     (impl_CheckChain r31 (Chain.mk y454 (Half.mk y455 y456 y457) y458)).bind fun (r512, r513) =>
     if (y453 == 0) = true then
      if (r469 == 0) = true then
       if (r468 == r62) = true then
        if (r482 == r497) = true then
         if (r482 == 0) = true then
          if (r481 == r496) = true then
           if (r496 == x104.Holder) = true then
            some (r513 == 6)
           else
            some false
          else
           some false
         else
          some false
        else
         some false
       else
        some false
      else
       some false
     else
      some false
  else
   (spec_FindParty r31 r38).bind fun (r564, r565) =>
   if (r565 != 0) = true then
    some false
   else
    (Lw (laws_FnTwice_b2 r31 r38 r42 r62) (([] : List UInt8), 0)).bind fun y736 =>
    (if (r62 == 0) = true then
     (rd r31 r564).bind fun x791 =>
     (impl_StartChain (Half.mk r39 r40 r41) x791 y736).bind fun (r794, r795, r796, r797, r798, r799) =>
     some (r799, r794, r795, r796, r797, r798)
    else
     (rd r31 r564).bind fun x813 =>
     (impl_PassOn (Chain.mk r38 (Half.mk r39 r40 r41) x70) x813 y736).bind fun (r816, r817, r818, r819, r820, r821) =>
     some (r821, r816, r817, r818, r819, r820)).bind fun (y837, y838, y839, y840, y841, y842) =>
    (impl_CommonMarks (Chain.mk r38 (Half.mk r39 r40 r41) r42) (Chain.mk y838 (Half.mk y839 y840 y841) y842)).bind fun (r852, r853) =>
    (impl_WhoPassedTwice (Chain.mk r38 (Half.mk r39 r40 r41) r42) (Chain.mk y838 (Half.mk y839 y840 y841) y842)).bind fun (r865, r866) =>
    (spec_WhoPassedTwice (Chain.mk r38 (Half.mk r39 r40 r41) r42) (Chain.mk y838 (Half.mk y839 y840 y841) y842)).bind fun (r880, r881) =>
    (impl_CheckChain r31 (Chain.mk y838 (Half.mk y839 y840 y841) y842)).bind fun (r896, r897) =>
    if (y837 == 0) = true then
     if (r853 == 0) = true then
      if (r852 == r62) = true then
       if (r866 == r881) = true then
        if (r866 == 0) = true then
         if (r865 == r880) = true then
          if (r880 == r38) = true then
           some (r897 == 6)
          else
           some false
         else
          some false
        else
         some false
       else
        some false
      else
       some false
     else
      some false
    else
     some false
def laws_FnTwice_enc (r : Bool) : AV := .bool r
theorem laws_FnTwice_ok (a1 : List Int) (a2 : List Int) (r : Bool) (h : laws_FnTwice a1 a2 = some r) : Ev (fun k => CN k 4 [.sl none (a1.map (cI .u8)), .sl none (a2.map (cI .u8))] []) (fun p => rRes p.2 p.1 = laws_FnTwice_enc r) := by
 unfold laws_FnTwice at h
 obtain ⟨r945, hr946, h⟩ := bind_some h
 refine Ev.enter (F := fun k => f4 (CN k) k) (fun k => callN_eq rfl Tryd.func4 rfl rfl rfl (by decide +kernel) (f4_eq _ _)) (sq (Rg (kx (mvO rfl) (Rn (hN rfl (hN rfl hZ)) fun e1 h3 h4 => sN (sq (sq ?_))))))
 refine Ev.cut (Q1 := laws_FnTwice_c1_Q a1 a2 r945) (by
     have h := hr946
     obtain ⟨r6, hx5, h⟩ := bind_some h
     refine Rg (kx (mvO h3) (kc (cl (v := .bool r6) rfl rfl (cns rfl rfl) rfl (laws_f6big_ok a1 _ hx5) nm) (kx (mvO rfl) ?_)))
     rcases ite_some h with ⟨hb7, h⟩ | ⟨hb7, h⟩
     ·refine kx (gsF rfl hb7) (kc (Ev.gsF rfl hb7) (kx (pkT rfl hb7 rfl) (Rn (hA h3 (hA h4 (hV (.bool true) rfl hZ))) fun e8 h10 h11 h12 => ?_)))
      clear h3 h4
      obtain rfl := si h
      exact kd (show laws_FnTwice_c1_Q a1 a2 _ _ from ⟨rfl, h10, h11, h12⟩)
     obtain ⟨r14, hx13, h⟩ := bind_some h
     refine kx (guF rfl hb7 (mvO h4)) (kc (Ev.guF rfl hb7 (cl (v := .bool r14) rfl rfl (cns rfl rfl) rfl (laws_f6big_ok a2 _ hx13) nm)) (kx (pkF rfl hb7 rfl) (Rn (hA h3 (hA h4 (hN rfl hZ))) fun e15 h17 h18 h19 => ?_)))
     clear h3 h4
     obtain rfl := si h
     exact kd (show laws_FnTwice_c1_Q a1 a2 _ _ from ⟨rfl, h17, h18, h19⟩)) ?_
 revert h hr946
 revert r945
 intro y22 hr946 h
 intro x e20 M21 hq944
 obtain ⟨rfl, h23, h24, h25⟩ := hq944
 refine sN ?_
 rcases ite_some h with ⟨hb26, h⟩ | ⟨hb26, h⟩
 ·refine cT h25 hb26 (sq (Rg (kx (mvO rfl) (Rn (hV (.bool true) rfl hZ) fun e27 h29 => sN (xx (sR ?_))))))
  clear h23 h24 h25
  obtain rfl := si h
  exact eR (resT h29 res0) rfl
 obtain ⟨r31, hx30, h⟩ := bind_some h
 obtain ⟨⟨r38, r39, r40, r41, r42⟩, hx37, h⟩ := bind_some h
 refine cF h25 hb26 (xx (sN (sq (Rg (kc (clW (v := .sl none (r31.map Party.c)) rfl rfl rfl rfl (spec_P6People_ok  _ hx30) rfl) (kx (mvO rfl) (Rn (hV (.sl none (a1.map (cI .u8))) h23 (hV (.sl none (a2.map (cI .u8))) h24 (hN rfl hZ))) fun e32 h34 h35 h36 => sN (sq (Rg (kx (mvO h34) (kc (clW (v := .agg (.str r38 :: (.bool r39 :: (.sl none (r40.map Notch.c) :: ((arC (cI .i8) 0 r41) ++ ((.sl none (r42.map Mark.c) :: []) : List AV)))))) rfl rfl (cns rfl rfl) rfl (spec_P6Chain_ok a1 _ hx37) rfl) (ku (alO zero55) fun M44 hM45 => ?_))))))))))))
 clear h23 h24 h25
 have o46 : M44[M21.length]? = some (.live ⟨.box, 55, 20, [(.str ([] : List UInt8) :: (.bool false :: (.nils :: ((arC (cI .i8) 0 (Ar.rep 16 0)) ++ ((.nils :: []) : List AV)))))]⟩) := push_new hM45
 refine kw (stO rfl rfl o46 rfl rfl ⟨rfl, ble rfl⟩ rfl rfl) fun M47 hM48 => ?_
 have o49 : M47[M21.length]? = some (.live ⟨.box, 55, 20, [(.str r38 :: (.bool r39 :: (.sl none (r40.map Notch.c) :: ((arC (cI .i8) 0 r41) ++ ((.sl none (r42.map Mark.c) :: []) : List AV)))))]⟩) := set_same hM48 o46
 obtain ⟨r62, hx61, h⟩ := bind_some h
 obtain ⟨x68, hx69, h⟩ := bind_some h
 obtain ⟨x70, hx71, h⟩ := bind_some h
 refine Rn (hA h35 (hA h36 (hV (.loc M21.length 1 0 0) rfl hZ))) fun e50 h52 h53 h54 => sN (sq (Rg (kx (faO h54 o49 rfl) (kx (ldO rfl o49 rfl rfl rfl) (kx (lnS Tryd.underlying53 rfl) (kx (mvO rfl) (Rn (hA h52 (hA h53 (hA h54 (hN rfl hZ)))) fun e55 h57 h58 h59 h60 => sN (sq (Rg (kx (mvO h57) (kx (mvO h60) (kc (cl (v := .int .i64 r62) rfl rfl (cns rfl (cns rfl rfl)) rfl (spec_P6Pick_ok a2 (r42.length : Int) _ hx61) nm) (kx (mvO rfl) (Rn (hA h58 (hA h59 (hN rfl hZ))) fun e63 h65 h66 h67 => sN (sq (Rd (kf (faO h66 o49 rfl) (kf (ldO rfl o49 rfl rfl rfl) (kf (faO h66 o49 rfl) (kf (ldOA (cs' := (.bool r39 :: (.sl none (r40.map Notch.c) :: ((arC (cI .i8) 0 r41) ++ ([] : List AV))))) rfl o49 rfl rfl (ble rfl) rfl) (kf (litI rfl rfl ⟨rfl, by decide⟩) (kf (faO h66 o49 rfl) (kf (ldO rfl o49 rfl rfl rfl) (kf (mvO h67) (kf (slS rfl rfl (bnd1 rfl) hx69 Mark.fl) (kf (aiT (c := Mark.c) (xs := ([] : List Mark)) rfl (elS rfl) hx71 Mark.fl (by decide)) (kf (bldT zero55 (cns (pr3 rfl) (cns (pr3 rfl) (cns (pr3 rfl) rfl))) (fill1 (cs' := (.str r38 :: (.bool false :: (.nils :: ((arC (cI .i8) 0 (Ar.rep 16 0)) ++ ((.nils :: []) : List AV)))))) ⟨rfl, ble rfl⟩ rfl rfl (fill1 (cs' := (.str r38 :: (.bool r39 :: (.sl none (r40.map Notch.c) :: ((arC (cI .i8) 0 r41) ++ ((.nils :: []) : List AV)))))) ⟨rfl, ble rfl⟩ rfl rfl (fill1 (cs' := (.str r38 :: (.bool r39 :: (.sl none (r40.map Notch.c) :: ((arC (cI .i8) 0 r41) ++ ((.sl (some 60) (x70.map Mark.c) :: []) : List AV)))))) ⟨rfl, ble rfl⟩ rfl rfl (fill0 rfl))))) (Ev.nfpushE (alO zero55) (Ev.fend1 fun M73 hM74 => ?_)))))))))))))))))))))))))))))
 clear h34 h35 h36 h52 h53 h54 h57 h58 h59 h60
 have hM74 := fendM hM74 [⟨.box, 55, 20, [(.str ([] : List UInt8) :: (.bool false :: (.nils :: ((arC (cI .i8) 0 (Ar.rep 16 0)) ++ ((.nils :: []) : List AV)))))]⟩] rfl
 have o75 := push_old hM74 o49
 have ne76 : M21.length ≠ M47.length := by have := lt_of_get (M := M47) o49; omega
 have o77 : M73[M47.length]? = some (.live ⟨.box, 55, 20, [(.str ([] : List UInt8) :: (.bool false :: (.nils :: ((arC (cI .i8) 0 (Ar.rep 16 0)) ++ ((.nils :: []) : List AV)))))]⟩) := push_at hM74 0 rfl
 refine kw (stO rfl rfl o77 rfl rfl ⟨rfl, ble rfl⟩ rfl rfl) fun M78 hM79 => ?_
 have o80 := set_ne hM79 ne76 o75
 have o81 : M78[M47.length]? = some (.live ⟨.box, 55, 20, [(.str r38 :: (.bool r39 :: (.sl none (r40.map Notch.c) :: ((arC (cI .i8) 0 r41) ++ ((.sl none (x70.map Mark.c) :: []) : List AV)))))]⟩) := set_same hM79 o77
 refine Rn (hA h65 (hA h66 (hA h67 (hV (.loc M47.length 1 0 0) rfl hZ)))) fun e82 h84 h85 h86 h87 => sN (sq (Rg (kx (faO h85 o80 rfl) (kx (ldO rfl o80 rfl rfl rfl) (kx (mvO rfl) (Rn (hA h84 (hA h85 (hA h86 (hA h87 (hN rfl hZ))))) fun e88 h90 h91 h92 h93 h94 => sN (sq (sq (Rg (kx (mvO h92) (kx (bGtr rfl rfl) (Rn (hA h90 (hA h91 (hA h92 (hA h93 (hA h94 (hN rfl hZ)))))) fun e95 h97 h98 h99 h100 h101 h102 => sN ?_))))))))))))
 clear h65 h66 h67 h84 h85 h86 h87 h90 h91 h92 h93 h94
 rcases ite_some h with ⟨hb103, h⟩ | ⟨hb103, h⟩
 ·obtain ⟨x104, hx105, h⟩ := bind_some h
  obtain ⟨⟨r114, r115⟩, hx113, h⟩ := bind_some h
  obtain ⟨⟨r126, r127⟩, hx125, h⟩ := bind_some h
  obtain ⟨r561, hr562, h⟩ := bind_some h
  refine cT h102 hb103 (sq (Rg (kx (faO h98 o80 rfl) (kx (ldO rfl o80 rfl rfl rfl) (kx (mvO h99) (kx (bSub rfl rfl) (kx (ixS rfl rfl hx105 Mark.fl) (kx (faP rfl ⟨ble rfl, blt rfl⟩ rfl) (kx (ldP rfl rfl) (kx (mvO rfl) (Rn (hA h97 (hA h98 (hA h99 (hA h100 (hN rfl hZ))))) fun e106 h108 h109 h110 h111 h112 => sN (sq (Rg (kx (ldOA (cs' := (.str r38 :: (.bool r39 :: (.sl none (r40.map Notch.c) :: ((arC (cI .i8) 0 r41) ++ ((.sl none (r42.map Mark.c) :: []) : List AV)))))) h109 o80 rfl rfl (ble rfl) rfl) (kx (ldOA (cs' := (.str r38 :: (.bool r39 :: (.sl none (r40.map Notch.c) :: ((arC (cI .i8) 0 r41) ++ ((.sl none (x70.map Mark.c) :: []) : List AV)))))) h111 o81 rfl rfl (ble rfl) rfl) (kc (cl (v := .tup [.int .i64 r114, .int .i64 r115]) rfl rfl (cns rfl (cns rfl rfl)) rfl (impl_CommonMarks_ok (Chain.mk r38 (Half.mk r39 r40 r41) r42) (Chain.mk r38 (Half.mk r39 r40 r41) x70) _ hx113) nm) (kx (mvO rfl) (kx (exT rfl rfl) (kx (exT rfl rfl) (kx (mvO rfl) (kx (mvO rfl) (Rn (hA h108 (hA h109 (hA h110 (hA h111 (hA h112 (hN rfl (hN rfl hZ))))))) fun e116 h118 h119 h120 h121 h122 h123 h124 => sN (sq (Rg (kx (ldOA (cs' := (.str r38 :: (.bool r39 :: (.sl none (r40.map Notch.c) :: ((arC (cI .i8) 0 r41) ++ ((.sl none (r42.map Mark.c) :: []) : List AV)))))) h119 o80 rfl rfl (ble rfl) rfl) (kx (ldOA (cs' := (.str r38 :: (.bool r39 :: (.sl none (r40.map Notch.c) :: ((arC (cI .i8) 0 r41) ++ ((.sl none (x70.map Mark.c) :: []) : List AV)))))) h121 o81 rfl rfl (ble rfl) rfl) (kc (cl (v := .tup [.str r126, .int .i64 r127]) rfl rfl (cns rfl (cns rfl rfl)) rfl (impl_WhoPassedTwice_ok (Chain.mk r38 (Half.mk r39 r40 r41) r42) (Chain.mk r38 (Half.mk r39 r40 r41) x70) _ hx125) nm) (kx (mvO rfl) (kx (exT rfl rfl) (kx (exT rfl rfl) (kx (mvO rfl) (kx (mvO rfl) (Rn (hA h118 (hA h119 (hA h120 (hA h121 (hA h122 (hA h123 (hA h124 (hN rfl hZ)))))))) fun e128 h130 h131 h132 h133 h134 h135 h136 h137 => sN (sq ?_))))))))))))))))))))))))))))))))))
  clear h100 h102 h97 h98 h99 h108 h109 h110 h111 h112 h118 h119 h120 h121 h122 h123 h124
  refine Ev.cut (Q1 := laws_FnTwice_c2_Q r31 r38 r39 r40 r41 r42 r62 x70 x104 M21.length M47.length r561) (by
      have h := hr562
      refine Rg (kx (mvO h136) (kx (bNeq rfl rfl) (kx (mvO rfl) ?_)))
      rcases ite_some h with ⟨hb138, h⟩ | ⟨hb138, h⟩
      ·refine kx (gsF rfl hb138) (kx (gsF rfl hb138) (kx (gsF rfl hb138) (kx (pkT rfl hb138 rfl) (kx (mvO rfl) (kx (gsF rfl rfl) (kx (gsF rfl rfl) (kx (pkT rfl rfl rfl) (Rn (hA h130 (hA h131 (hA h132 (hA h133 (hA h134 (hV (.bool true) rfl hZ)))))) fun e139 h141 h142 h143 h144 h145 h146 => ?_))))))))
       clear h130 h131 h132 h133 h134 h135 h136 h137
       obtain rfl := si h
       exact kd (show laws_FnTwice_c2_Q r31 r38 r39 r40 r41 r42 r62 x70 x104 M21.length M47.length _ _ from ⟨rfl, h141, h142, h143, h144, h145, h146, o80, o81⟩)
      refine kx (guF rfl hb138 (mvO h135)) (kx (guF rfl hb138 (mvO h132)) (kx (guF rfl hb138 (bNeq rfl rfl)) (kx (pkF rfl hb138 rfl) (kx (mvO rfl) ?_))))
      rcases ite_some h with ⟨hb147, h⟩ | ⟨hb147, h⟩
      ·refine kx (gsF rfl hb147) (kx (gsF rfl hb147) (kx (pkT rfl hb147 rfl) (Rn (hA h130 (hA h131 (hA h132 (hA h133 (hA h134 (hV (.bool true) rfl hZ)))))) fun e148 h150 h151 h152 h153 h154 h155 => ?_)))
       clear h130 h131 h132 h133 h134 h135 h136 h137
       obtain rfl := si h
       exact kd (show laws_FnTwice_c2_Q r31 r38 r39 r40 r41 r42 r62 x70 x104 M21.length M47.length _ _ from ⟨rfl, h150, h151, h152, h153, h154, h155, o80, o81⟩)
      refine kx (guF rfl hb147 (mvO h137)) (kx (guF rfl hb147 (bNeq rfl rfl)) (kx (pkF rfl hb147 rfl) (Rn (hA h130 (hA h131 (hA h132 (hA h133 (hA h134 (hN rfl hZ)))))) fun e156 h158 h159 h160 h161 h162 h163 => ?_)))
      clear h130 h131 h132 h133 h134 h135 h136 h137
      obtain rfl := si h
      exact kd (show laws_FnTwice_c2_Q r31 r38 r39 r40 r41 r42 r62 x70 x104 M21.length M47.length _ _ from ⟨rfl, h158, h159, h160, h161, h162, h163, o80, o81⟩)) ?_
  revert h hr562
  revert r561
  intro y166 hr562 h
  intro x e164 M165 hq560
  obtain ⟨rfl, h167, h168, h169, h170, h171, h172, o173, o174⟩ := hq560
  refine sN ?_
  rcases ite_some h with ⟨hb175, h⟩ | ⟨hb175, h⟩
  ·refine cT h172 hb175 (sq (Rg (kx (mvO rfl) (Rn (hV (.bool false) rfl hZ) fun e176 h178 => sN (xx (sR ?_))))))
   clear h167 h168 h169 h170 h171 h172
   obtain rfl := si h
   exact eR (resT h178 res0) rfl
  obtain ⟨⟨r180, r181⟩, hx179, h⟩ := bind_some h
  refine cF h172 hb175 (xx (sN (sq (Rg (kx (mvO h167) (kx (mvO h171) (kc (cl (v := .tup [.int .i64 r180, .int .i64 r181]) rfl rfl (cns rfl (cns rfl rfl)) rfl (spec_FindParty_ok r31 x104.Holder _ hx179) nm) (kx (mvO rfl) (kx (exT rfl rfl) (kx (exT rfl rfl) (kx (mvO rfl) (kx (mvO rfl) (Rn (hV (.sl none (r31.map Party.c)) h167 (hV (.loc M21.length 1 0 0) h168 (hV (.int .i64 r62) h169 (hV (.loc M47.length 1 0 0) h170 (hV (.str x104.Holder) h171 (hN rfl (hN rfl hZ))))))) fun e182 h184 h185 h186 h187 h188 h189 h190 => sN (sq (sq (Rg (kx (mvO h190) (kx (bNeq rfl rfl) (Rn (hA h184 (hA h185 (hA h186 (hA h187 (hA h188 (hA h189 (hN rfl hZ))))))) fun e191 h193 h194 h195 h196 h197 h198 h199 => sN ?_)))))))))))))))))))
  clear h167 h168 h169 h170 h171 h172 h184 h185 h186 h187 h188 h189 h190
  rcases ite_some h with ⟨hb200, h⟩ | ⟨hb200, h⟩
  ·refine cT h199 hb200 (sq (Rg (kx (mvO rfl) (Rn (hV (.bool false) rfl hZ) fun e201 h203 => sN (xx (sR ?_))))))
   clear h193 h194 h195 h196 h197 h198 h199
   obtain rfl := si h
   exact eR (resT h203 res0) rfl
  obtain ⟨y352, hr348, h⟩ := bind_some h
  refine cF h199 hb200 (xx (sN (sq (Rg (kx (mvO rfl) (Rn (hA h193 (hA h194 (hA h195 (hA h196 (hA h197 (hA h198 (hN rfl hZ))))))) fun e204 h206 h207 h208 h209 h210 h211 h212 => sN (sq (sq (Rg (kx (mvO rfl) (Rn (hA h206 (hA h207 (hA h208 (hA h209 (hA h210 (hA h211 (hA h212 (hV (.int .i64 0) rfl hZ)))))))) fun e213 h215 h216 h217 h218 h219 h220 h221 h222 => sN (bl (Ev.loop (RS := laws_FnTwice_b1_RS r31 r38 r39 r40 r41 r42 r62 x70 x104 r180 M21.length M47.length) (RR := laws_FnTwice_b1_RR r31 r38 r39 r40 r41 r42 r62 x70 x104 r180 M21.length M47.length) (fun s r h e M hs => laws_FnTwice_b1_ok r31 r38 r39 r40 r41 r42 r62 x70 x104 r180 M21.length M47.length ne76 s r h e M hs) hr348 ⟨h215, h216, h217, h218, h219, h220, h221, h222, o173, o174⟩ fun x e350 M351 hq349 => ?_)))))))))))))
  clear h193 h194 h195 h196 h197 h198 h199 h206 h207 h208 h209 h210 h211 h212
  obtain ⟨rfl, h353, h354, h355, h356, h357, h358, h359, o360, o361⟩ := hq349
  refine bE (sN (sq (Rg (kx (bldT zero55 rfl (fill0 rfl)) (ku (alO zero55) fun M363 hM364 => ?_)))))
  have o365 := push_old hM364 o360
  have ne366 := ne_new o360
  have o367 := push_old hM364 o361
  have ne368 := ne_new o361
  have o369 : M363[M351.length]? = some (.live ⟨.box, 55, 20, [(.str ([] : List UInt8) :: (.bool false :: (.nils :: ((arC (cI .i8) 0 (Ar.rep 16 0)) ++ ((.nils :: []) : List AV)))))]⟩) := push_new hM364
  refine kw (stO rfl rfl o369 rfl rfl ⟨rfl, ble rfl⟩ rfl rfl) fun M370 hM371 => ?_
  have o372 := set_ne hM371 ne366 o365
  have o373 := set_ne hM371 ne368 o367
  have o374 : M370[M351.length]? = some (.live ⟨.box, 55, 20, [(.str ([] : List UInt8) :: (.bool false :: (.nils :: ((arC (cI .i8) 0 (Ar.rep 16 0)) ++ ((.nils :: []) : List AV)))))]⟩) := set_same hM371 o369
  obtain ⟨r558, hr559, h⟩ := bind_some h
  refine Rn (hV (.sl none (r31.map Party.c)) h353 (hV (.loc M21.length 1 0 0) h354 (hV (.int .i64 r62) h355 (hV (.loc M47.length 1 0 0) h356 (hV (.str x104.Holder) h357 (hV (.int .i64 r180) h358 (hV (.str y352) h359 (hV (.loc M351.length 1 0 0) rfl hZ)))))))) fun e375 h377 h378 h379 h380 h381 h382 h383 h384 => sN (sq (Rg (kx (mvO rfl) (Rn (hA h377 (hA h378 (hA h379 (hA h380 (hA h381 (hA h382 (hA h383 (hA h384 hZ)))))))) fun e385 h387 h388 h389 h390 h391 h392 h393 h394 => sN (sq ?_)))))
  clear h353 h354 h355 h356 h357 h358 h359 h377 h378 h379 h380 h381 h382 h383 h384
  refine Ev.cut (Q1 := laws_FnTwice_c3_Q r31 r38 r39 r40 r41 r42 r62 x104 M21.length M47.length M351.length r558) (by
      have h := hr559
      refine sq (Rg (kx (mvO h389) (kx (bEql rfl rfl) (Rn (hA h387 (hA h388 (hA h389 (hA h390 (hA h391 (hA h392 (hA h393 (hA h394 (hN rfl hZ))))))))) fun e395 h397 h398 h399 h400 h401 h402 h403 h404 h405 => sN ?_))))
      clear h387 h388 h389 h390 h391 h392 h393 h394
      rcases ite_some h with ⟨hb406, h⟩ | ⟨hb406, h⟩
      ·obtain ⟨x407, hx408, h⟩ := bind_some h
       obtain ⟨⟨r410, r411, r412, r413, r414, r415⟩, hx409, h⟩ := bind_some h
       refine cT h405 hb406 (Rd (kf (faO h398 o372 rfl) (kf (ldOA (cs' := (.bool r39 :: (.sl none (r40.map Notch.c) :: ((arC (cI .i8) 0 r41) ++ ([] : List AV))))) rfl o372 rfl rfl (ble rfl) rfl) (kf (mvO h397) (kf (mvO h402) (kf (ixS rfl rfl hx408 Party.fl) (kf (ldPA rfl rfl rfl) (kf (mvO h403) (fc (clW (v := .tup [.agg (.str r410 :: (.bool r411 :: (.sl none (r412.map Notch.c) :: ((arC (cI .i8) 0 r413) ++ ((.sl none (r414.map Mark.c) :: []) : List AV))))), .int .i64 r415]) rfl rfl (cns rfl (cns rfl (cns rfl rfl))) rfl (impl_StartChain_ok (Half.mk r39 r40 r41) x407 y352 _ hx409) rfl) (kf (mvO rfl) (kf (exT rfl rfl) (kf (exT rfl rfl) (fZ (kw (stO h404 rfl o374 rfl rfl ⟨rfl, ble rfl⟩ rfl rfl) fun M416 hM417 => ?_))))))))))))))
       have o418 := set_ne hM417 ne366 o372
       have o419 := set_ne hM417 ne368 o373
       have o420 : M416[M351.length]? = some (.live ⟨.box, 55, 20, [(.str r410 :: (.bool r411 :: (.sl none (r412.map Notch.c) :: ((arC (cI .i8) 0 r413) ++ ((.sl none (r414.map Mark.c) :: []) : List AV)))))]⟩) := set_same hM417 o374
       refine kx (mvO rfl) (Rn (hA h397 (hA h398 (hA h399 (hA h401 (hA h404 (hN rfl hZ)))))) fun e421 h423 h424 h425 h426 h427 h428 => ?_)
       clear h397 h398 h399 h400 h401 h402 h403 h404 h405
       obtain rfl := si h
       exact kd (show laws_FnTwice_c3_Q r31 r38 r39 r40 r41 r42 r62 x104 M21.length M47.length M351.length _ _ from ⟨rfl, h423, h424, h425, h426, h427, h428, o420, o418⟩)
      obtain ⟨x429, hx430, h⟩ := bind_some h
      obtain ⟨⟨r432, r433, r434, r435, r436, r437⟩, hx431, h⟩ := bind_some h
      refine cF h405 hb406 (Rd (kf (ldOA (cs' := (.str r38 :: (.bool r39 :: (.sl none (r40.map Notch.c) :: ((arC (cI .i8) 0 r41) ++ ((.sl none (x70.map Mark.c) :: []) : List AV)))))) h400 o373 rfl rfl (ble rfl) rfl) (kf (mvO h397) (kf (mvO h402) (kf (ixS rfl rfl hx430 Party.fl) (kf (ldPA rfl rfl rfl) (kf (mvO h403) (fc (clO (v := .tup [.agg (.str r432 :: (.bool r433 :: (.sl none (r434.map Notch.c) :: ((arC (cI .i8) 0 r435) ++ ((.sl none (r436.map Mark.c) :: []) : List AV))))), .int .i64 r437]) rfl rfl (cns rfl (cns rfl (cns rfl rfl))) rfl (impl_PassOn_ok (Chain.mk r38 (Half.mk r39 r40 r41) x70) x429 y352 _ hx431)) (kf (mvO rfl) (kf (exT rfl rfl) (kf (exT rfl rfl) (fZ (kw (stO h404 rfl o374 rfl rfl ⟨rfl, ble rfl⟩ rfl rfl) fun M438 hM439 => ?_)))))))))))))
      have o440 := set_ne hM439 ne366 o372
      have o441 := set_ne hM439 ne368 o373
      have o442 : M438[M351.length]? = some (.live ⟨.box, 55, 20, [(.str r432 :: (.bool r433 :: (.sl none (r434.map Notch.c) :: ((arC (cI .i8) 0 r435) ++ ((.sl none (r436.map Mark.c) :: []) : List AV)))))]⟩) := set_same hM439 o374
      refine kx (mvO rfl) (Rn (hA h397 (hA h398 (hA h399 (hA h401 (hA h404 (hN rfl hZ)))))) fun e443 h445 h446 h447 h448 h449 h450 => ?_)
      clear h397 h398 h399 h400 h401 h402 h403 h404 h405
      obtain rfl := si h
      exact kd (show laws_FnTwice_c3_Q r31 r38 r39 r40 r41 r42 r62 x104 M21.length M47.length M351.length _ _ from ⟨rfl, h445, h446, h447, h448, h449, h450, o442, o440⟩)) ?_
  obtain ⟨y453, y454, y455, y456, y457, y458⟩ := r558
  intro x e451 M452 hq557
  obtain ⟨rfl, h459, h460, h461, h462, h463, h464, o465, o466⟩ := hq557
  obtain ⟨⟨r468, r469⟩, hx467, h⟩ := bind_some h
  obtain ⟨⟨r481, r482⟩, hx480, h⟩ := bind_some h
  obtain ⟨⟨r496, r497⟩, hx495, h⟩ := bind_some h
  obtain ⟨⟨r512, r513⟩, hx511, h⟩ := bind_some h
  refine sN (sq (Rg (kx (ldOA (cs' := (.str r38 :: (.bool r39 :: (.sl none (r40.map Notch.c) :: ((arC (cI .i8) 0 r41) ++ ((.sl none (r42.map Mark.c) :: []) : List AV)))))) h460 o466 rfl rfl (ble rfl) rfl) (kx (ldOA (cs' := (.str y454 :: (.bool y455 :: (.sl none (y456.map Notch.c) :: ((arC (cI .i8) 0 y457) ++ ((.sl none (y458.map Mark.c) :: []) : List AV)))))) h463 o465 rfl rfl (ble rfl) rfl) (kc (cl (v := .tup [.int .i64 r468, .int .i64 r469]) rfl rfl (cns rfl (cns rfl rfl)) rfl (impl_CommonMarks_ok (Chain.mk r38 (Half.mk r39 r40 r41) r42) (Chain.mk y454 (Half.mk y455 y456 y457) y458) _ hx467) nm) (kx (mvO rfl) (kx (exT rfl rfl) (kx (exT rfl rfl) (kx (mvO rfl) (kx (mvO rfl) (Rn (hV (.sl none (r31.map Party.c)) h459 (hV (.loc M21.length 1 0 0) h460 (hV (.int .i64 r62) h461 (hV (.str x104.Holder) h462 (hV (.loc M351.length 1 0 0) h463 (hV (.int .i64 y453) h464 (hN rfl (hN rfl hZ)))))))) fun e470 h472 h473 h474 h475 h476 h477 h478 h479 => sN (sq (Rg (kx (ldOA (cs' := (.str r38 :: (.bool r39 :: (.sl none (r40.map Notch.c) :: ((arC (cI .i8) 0 r41) ++ ((.sl none (r42.map Mark.c) :: []) : List AV)))))) h473 o466 rfl rfl (ble rfl) rfl) (kx (ldOA (cs' := (.str y454 :: (.bool y455 :: (.sl none (y456.map Notch.c) :: ((arC (cI .i8) 0 y457) ++ ((.sl none (y458.map Mark.c) :: []) : List AV)))))) h476 o465 rfl rfl (ble rfl) rfl) (kc (cl (v := .tup [.str r481, .int .i64 r482]) rfl rfl (cns rfl (cns rfl rfl)) rfl (impl_WhoPassedTwice_ok (Chain.mk r38 (Half.mk r39 r40 r41) r42) (Chain.mk y454 (Half.mk y455 y456 y457) y458) _ hx480) nm) (kx (mvO rfl) (kx (exT rfl rfl) (kx (exT rfl rfl) (kx (mvO rfl) (kx (mvO rfl) (Rn (hA h472 (hA h473 (hA h474 (hA h475 (hA h476 (hA h477 (hA h478 (hA h479 (hN rfl (hN rfl hZ)))))))))) fun e483 h485 h486 h487 h488 h489 h490 h491 h492 h493 h494 => sN (sq (Rg (kx (ldOA (cs' := (.str r38 :: (.bool r39 :: (.sl none (r40.map Notch.c) :: ((arC (cI .i8) 0 r41) ++ ((.sl none (r42.map Mark.c) :: []) : List AV)))))) h486 o466 rfl rfl (ble rfl) rfl) (kx (ldOA (cs' := (.str y454 :: (.bool y455 :: (.sl none (y456.map Notch.c) :: ((arC (cI .i8) 0 y457) ++ ((.sl none (y458.map Mark.c) :: []) : List AV)))))) h489 o465 rfl rfl (ble rfl) rfl) (kc (cl (v := .tup [.str r496, .int .i64 r497]) rfl rfl (cns rfl (cns rfl rfl)) rfl (spec_WhoPassedTwice_ok (Chain.mk r38 (Half.mk r39 r40 r41) r42) (Chain.mk y454 (Half.mk y455 y456 y457) y458) _ hx495) nm) (kx (mvO rfl) (kx (exT rfl rfl) (kx (exT rfl rfl) (kx (mvO rfl) (kx (mvO rfl) (Rn (hA h485 (hA h487 (hA h488 (hA h489 (hA h490 (hA h491 (hA h492 (hA h493 (hA h494 (hN rfl (hN rfl hZ))))))))))) fun e498 h500 h501 h502 h503 h504 h505 h506 h507 h508 h509 h510 => sN (sq (Rg (kx (mvO h500) (kx (ldOA (cs' := (.str y454 :: (.bool y455 :: (.sl none (y456.map Notch.c) :: ((arC (cI .i8) 0 y457) ++ ((.sl none (y458.map Mark.c) :: []) : List AV)))))) h503 o465 rfl rfl (ble rfl) rfl) (kc (cl (v := .tup [.int .i64 r512, .int .i64 r513]) rfl rfl (cns rfl (cns rfl rfl)) rfl (impl_CheckChain_ok r31 (Chain.mk y454 (Half.mk y455 y456 y457) y458) _ hx511) nm) (kx (mvO rfl) (kx (exT rfl rfl) (kx (exT rfl rfl) (kx (mvO rfl) (kx (mvO rfl) (Rn (hA h501 (hA h502 (hA h504 (hA h505 (hA h506 (hA h507 (hA h508 (hA h509 (hA h510 (hN rfl hZ)))))))))) fun e514 h516 h517 h518 h519 h520 h521 h522 h523 h524 h525 => sN (sq (Rg (kx (mvO h518) (kx (bEql rfl rfl) (kx (mvO rfl) ?_)))))))))))))))))))))))))))))))))))))))))))))))))
  clear h459 h460 h461 h462 h463 h464 h472 h473 h474 h475 h476 h477 h478 h479 h485 h486 h487 h488 h489 h490 h491 h492 h493 h494 h500 h501 h502 h503 h504 h505 h506 h507 h508 h509 h510
  rcases ite_some h with ⟨hb526, h⟩ | ⟨hb526, h⟩
  ·refine kx (guT rfl hb526 (mvO h520)) (kx (guT rfl hb526 (bEql rfl rfl)) (kx (pkT rfl hb526 rfl) (kx (mvO rfl) ?_)))
   rcases ite_some h with ⟨hb527, h⟩ | ⟨hb527, h⟩
   ·refine kx (guT rfl hb527 (mvO h519)) (kx (guT rfl hb527 (mvO h516)) (kx (guT rfl hb527 (bEql rfl rfl)) (kx (pkT rfl hb527 rfl) (kx (mvO rfl) ?_))))
    rcases ite_some h with ⟨hb528, h⟩ | ⟨hb528, h⟩
    ·refine kx (guT rfl hb528 (mvO h522)) (kx (guT rfl hb528 (mvO h524)) (kx (guT rfl hb528 (bEql rfl rfl)) (kx (pkT rfl hb528 rfl) (kx (mvO rfl) ?_))))
     rcases ite_some h with ⟨hb529, h⟩ | ⟨hb529, h⟩
     ·refine kx (guT rfl hb529 (mvO h522)) (kx (guT rfl hb529 (bEql rfl rfl)) (kx (pkT rfl hb529 rfl) (kx (mvO rfl) ?_)))
      rcases ite_some h with ⟨hb530, h⟩ | ⟨hb530, h⟩
      ·refine kx (guT rfl hb530 (mvO h521)) (kx (guT rfl hb530 (mvO h523)) (kx (guT rfl hb530 (sEql rfl rfl)) (kx (pkT rfl hb530 rfl) (kx (mvO rfl) ?_))))
       rcases ite_some h with ⟨hb531, h⟩ | ⟨hb531, h⟩
       ·refine kx (guT rfl hb531 (mvO h523)) (kx (guT rfl hb531 (mvO h517)) (kx (guT rfl hb531 (sEql rfl rfl)) (kx (pkT rfl hb531 rfl) (kx (mvO rfl) ?_))))
        rcases ite_some h with ⟨hb532, h⟩ | ⟨hb532, h⟩
        ·refine kx (guT rfl hb532 (mvO h525)) (kx (guT rfl hb532 (bEql rfl rfl)) (kx (pkT rfl hb532 rfl) (kx (mvO rfl) (Rn (hN rfl hZ) fun e533 h535 => sN (xx ?_)))))
         clear h516 h517 h518 h519 h520 h521 h522 h523 h524 h525
         obtain rfl := si h
         exact eR (resT h535 res0) rfl
        refine kx (gsT rfl hb532) (kx (gsT rfl hb532) (kx (pkF rfl hb532 rfl) (kx (mvO rfl) (Rn (hV (.bool false) rfl hZ) fun e536 h538 => sN (xx ?_)))))
        clear h516 h517 h518 h519 h520 h521 h522 h523 h524 h525
        obtain rfl := si h
        exact eR (resT h538 res0) rfl
       refine kx (gsT rfl hb531) (kx (gsT rfl hb531) (kx (gsT rfl hb531) (kx (pkF rfl hb531 rfl) (kx (mvO rfl) (kx (gsT rfl rfl) (kx (gsT rfl rfl) (kx (pkF rfl rfl rfl) (kx (mvO rfl) (Rn (hV (.bool false) rfl hZ) fun e539 h541 => sN (xx ?_))))))))))
       clear h516 h517 h518 h519 h520 h521 h522 h523 h524 h525
       obtain rfl := si h
       exact eR (resT h541 res0) rfl
      refine kx (gsT rfl hb530) (kx (gsT rfl hb530) (kx (gsT rfl hb530) (kx (pkF rfl hb530 rfl) (kx (mvO rfl) (kx (gsT rfl rfl) (kx (gsT rfl rfl) (kx (gsT rfl rfl) (kx (pkF rfl rfl rfl) (kx (mvO rfl) (kx (gsT rfl rfl) (kx (gsT rfl rfl) (kx (pkF rfl rfl rfl) (kx (mvO rfl) (Rn (hV (.bool false) rfl hZ) fun e542 h544 => sN (xx ?_)))))))))))))))
      clear h516 h517 h518 h519 h520 h521 h522 h523 h524 h525
      obtain rfl := si h
      exact eR (resT h544 res0) rfl
     refine kx (gsT rfl hb529) (kx (gsT rfl hb529) (kx (pkF rfl hb529 rfl) (kx (mvO rfl) (kx (gsT rfl rfl) (kx (gsT rfl rfl) (kx (gsT rfl rfl) (kx (pkF rfl rfl rfl) (kx (mvO rfl) (kx (gsT rfl rfl) (kx (gsT rfl rfl) (kx (gsT rfl rfl) (kx (pkF rfl rfl rfl) (kx (mvO rfl) (kx (gsT rfl rfl) (kx (gsT rfl rfl) (kx (pkF rfl rfl rfl) (kx (mvO rfl) (Rn (hV (.bool false) rfl hZ) fun e545 h547 => sN (xx ?_)))))))))))))))))))
     clear h516 h517 h518 h519 h520 h521 h522 h523 h524 h525
     obtain rfl := si h
     exact eR (resT h547 res0) rfl
    refine kx (gsT rfl hb528) (kx (gsT rfl hb528) (kx (gsT rfl hb528) (kx (pkF rfl hb528 rfl) (kx (mvO rfl) (kx (gsT rfl rfl) (kx (gsT rfl rfl) (kx (pkF rfl rfl rfl) (kx (mvO rfl) (kx (gsT rfl rfl) (kx (gsT rfl rfl) (kx (gsT rfl rfl) (kx (pkF rfl rfl rfl) (kx (mvO rfl) (kx (gsT rfl rfl) (kx (gsT rfl rfl) (kx (gsT rfl rfl) (kx (pkF rfl rfl rfl) (kx (mvO rfl) (kx (gsT rfl rfl) (kx (gsT rfl rfl) (kx (pkF rfl rfl rfl) (kx (mvO rfl) (Rn (hV (.bool false) rfl hZ) fun e548 h550 => sN (xx ?_))))))))))))))))))))))))
    clear h516 h517 h518 h519 h520 h521 h522 h523 h524 h525
    obtain rfl := si h
    exact eR (resT h550 res0) rfl
   refine kx (gsT rfl hb527) (kx (gsT rfl hb527) (kx (gsT rfl hb527) (kx (pkF rfl hb527 rfl) (kx (mvO rfl) (kx (gsT rfl rfl) (kx (gsT rfl rfl) (kx (gsT rfl rfl) (kx (pkF rfl rfl rfl) (kx (mvO rfl) (kx (gsT rfl rfl) (kx (gsT rfl rfl) (kx (pkF rfl rfl rfl) (kx (mvO rfl) (kx (gsT rfl rfl) (kx (gsT rfl rfl) (kx (gsT rfl rfl) (kx (pkF rfl rfl rfl) (kx (mvO rfl) (kx (gsT rfl rfl) (kx (gsT rfl rfl) (kx (gsT rfl rfl) (kx (pkF rfl rfl rfl) (kx (mvO rfl) (kx (gsT rfl rfl) (kx (gsT rfl rfl) (kx (pkF rfl rfl rfl) (kx (mvO rfl) (Rn (hV (.bool false) rfl hZ) fun e551 h553 => sN (xx ?_)))))))))))))))))))))))))))))
   clear h516 h517 h518 h519 h520 h521 h522 h523 h524 h525
   obtain rfl := si h
   exact eR (resT h553 res0) rfl
  refine kx (gsT rfl hb526) (kx (gsT rfl hb526) (kx (pkF rfl hb526 rfl) (kx (mvO rfl) (kx (gsT rfl rfl) (kx (gsT rfl rfl) (kx (gsT rfl rfl) (kx (pkF rfl rfl rfl) (kx (mvO rfl) (kx (gsT rfl rfl) (kx (gsT rfl rfl) (kx (gsT rfl rfl) (kx (pkF rfl rfl rfl) (kx (mvO rfl) (kx (gsT rfl rfl) (kx (gsT rfl rfl) (kx (pkF rfl rfl rfl) (kx (mvO rfl) (kx (gsT rfl rfl) (kx (gsT rfl rfl) (kx (gsT rfl rfl) (kx (pkF rfl rfl rfl) (kx (mvO rfl) (kx (gsT rfl rfl) (kx (gsT rfl rfl) (kx (gsT rfl rfl) (kx (pkF rfl rfl rfl) (kx (mvO rfl) (kx (gsT rfl rfl) (kx (gsT rfl rfl) (kx (pkF rfl rfl rfl) (kx (mvO rfl) (Rn (hV (.bool false) rfl hZ) fun e554 h556 => sN (xx ?_)))))))))))))))))))))))))))))))))
  clear h516 h517 h518 h519 h520 h521 h522 h523 h524 h525
  obtain rfl := si h
  exact eR (resT h556 res0) rfl
 obtain ⟨⟨r564, r565⟩, hx563, h⟩ := bind_some h
 refine cF h102 hb103 (xx (sN (sq (Rg (kx (mvO h97) (kx (mvO h101) (kc (cl (v := .tup [.int .i64 r564, .int .i64 r565]) rfl rfl (cns rfl (cns rfl rfl)) rfl (spec_FindParty_ok r31 r38 _ hx563) nm) (kx (mvO rfl) (kx (exT rfl rfl) (kx (exT rfl rfl) (kx (mvO rfl) (kx (mvO rfl) (Rn (hA h97 (hA h98 (hA h99 (hA h100 (hA h101 (hN rfl (hN rfl hZ))))))) fun e566 h568 h569 h570 h571 h572 h573 h574 => sN (sq (sq (Rg (kx (mvO h574) (kx (bNeq rfl rfl) (Rn (hA h568 (hA h569 (hA h570 (hA h571 (hA h572 (hA h573 (hN rfl hZ))))))) fun e575 h577 h578 h579 h580 h581 h582 h583 => sN ?_)))))))))))))))))))
 clear h100 h101 h102 h97 h98 h99 h568 h569 h570 h571 h572 h573 h574
 rcases ite_some h with ⟨hb584, h⟩ | ⟨hb584, h⟩
 ·refine cT h583 hb584 (sq (Rg (kx (mvO rfl) (Rn (hV (.bool false) rfl hZ) fun e585 h587 => sN (xx (sR ?_))))))
  clear h577 h578 h579 h580 h581 h582 h583
  obtain rfl := si h
  exact eR (resT h587 res0) rfl
 obtain ⟨y736, hr732, h⟩ := bind_some h
 refine cF h583 hb584 (xx (sN (sq (Rg (kx (mvO rfl) (Rn (hA h577 (hA h578 (hA h579 (hA h580 (hA h581 (hA h582 (hN rfl hZ))))))) fun e588 h590 h591 h592 h593 h594 h595 h596 => sN (sq (sq (Rg (kx (mvO rfl) (Rn (hA h590 (hA h591 (hA h592 (hA h593 (hA h594 (hA h595 (hA h596 (hV (.int .i64 0) rfl hZ)))))))) fun e597 h599 h600 h601 h602 h603 h604 h605 h606 => sN (bl (Ev.loop (RS := laws_FnTwice_b2_RS r31 r38 r39 r40 r41 r42 r62 x70 r564 M21.length M47.length) (RR := laws_FnTwice_b2_RR r31 r38 r39 r40 r41 r42 r62 x70 r564 M21.length M47.length) (fun s r h e M hs => laws_FnTwice_b2_ok r31 r38 r39 r40 r41 r42 r62 x70 r564 M21.length M47.length ne76 s r h e M hs) hr732 ⟨h599, h600, h601, h602, h603, h604, h605, h606, o80, o81⟩ fun x e734 M735 hq733 => ?_)))))))))))))
 clear h577 h578 h579 h580 h581 h582 h583 h590 h591 h592 h593 h594 h595 h596
 obtain ⟨rfl, h737, h738, h739, h740, h741, h742, h743, o744, o745⟩ := hq733
 refine bE (sN (sq (Rg (kx (bldT zero55 rfl (fill0 rfl)) (ku (alO zero55) fun M747 hM748 => ?_)))))
 have o749 := push_old hM748 o744
 have ne750 := ne_new o744
 have o751 := push_old hM748 o745
 have ne752 := ne_new o745
 have o753 : M747[M735.length]? = some (.live ⟨.box, 55, 20, [(.str ([] : List UInt8) :: (.bool false :: (.nils :: ((arC (cI .i8) 0 (Ar.rep 16 0)) ++ ((.nils :: []) : List AV)))))]⟩) := push_new hM748
 refine kw (stO rfl rfl o753 rfl rfl ⟨rfl, ble rfl⟩ rfl rfl) fun M754 hM755 => ?_
 have o756 := set_ne hM755 ne750 o749
 have o757 := set_ne hM755 ne752 o751
 have o758 : M754[M735.length]? = some (.live ⟨.box, 55, 20, [(.str ([] : List UInt8) :: (.bool false :: (.nils :: ((arC (cI .i8) 0 (Ar.rep 16 0)) ++ ((.nils :: []) : List AV)))))]⟩) := set_same hM755 o753
 obtain ⟨r942, hr943, h⟩ := bind_some h
 refine Rn (hV (.sl none (r31.map Party.c)) h737 (hV (.loc M21.length 1 0 0) h738 (hV (.int .i64 r62) h739 (hV (.loc M47.length 1 0 0) h740 (hV (.str r38) h741 (hV (.int .i64 r564) h742 (hV (.str y736) h743 (hV (.loc M735.length 1 0 0) rfl hZ)))))))) fun e759 h761 h762 h763 h764 h765 h766 h767 h768 => sN (sq (Rg (kx (mvO rfl) (Rn (hA h761 (hA h762 (hA h763 (hA h764 (hA h765 (hA h766 (hA h767 (hA h768 hZ)))))))) fun e769 h771 h772 h773 h774 h775 h776 h777 h778 => sN (sq ?_)))))
 clear h737 h738 h739 h740 h741 h742 h743 h761 h762 h763 h764 h765 h766 h767 h768
 refine Ev.cut (Q1 := laws_FnTwice_c4_Q r31 r38 r39 r40 r41 r42 r62 M21.length M47.length M735.length r942) (by
     have h := hr943
     refine sq (Rg (kx (mvO h773) (kx (bEql rfl rfl) (Rn (hA h771 (hA h772 (hA h773 (hA h774 (hA h775 (hA h776 (hA h777 (hA h778 (hN rfl hZ))))))))) fun e779 h781 h782 h783 h784 h785 h786 h787 h788 h789 => sN ?_))))
     clear h771 h772 h773 h774 h775 h776 h777 h778
     rcases ite_some h with ⟨hb790, h⟩ | ⟨hb790, h⟩
     ·obtain ⟨x791, hx792, h⟩ := bind_some h
      obtain ⟨⟨r794, r795, r796, r797, r798, r799⟩, hx793, h⟩ := bind_some h
      refine cT h789 hb790 (Rd (kf (faO h782 o756 rfl) (kf (ldOA (cs' := (.bool r39 :: (.sl none (r40.map Notch.c) :: ((arC (cI .i8) 0 r41) ++ ([] : List AV))))) rfl o756 rfl rfl (ble rfl) rfl) (kf (mvO h781) (kf (mvO h786) (kf (ixS rfl rfl hx792 Party.fl) (kf (ldPA rfl rfl rfl) (kf (mvO h787) (fc (clW (v := .tup [.agg (.str r794 :: (.bool r795 :: (.sl none (r796.map Notch.c) :: ((arC (cI .i8) 0 r797) ++ ((.sl none (r798.map Mark.c) :: []) : List AV))))), .int .i64 r799]) rfl rfl (cns rfl (cns rfl (cns rfl rfl))) rfl (impl_StartChain_ok (Half.mk r39 r40 r41) x791 y736 _ hx793) rfl) (kf (mvO rfl) (kf (exT rfl rfl) (kf (exT rfl rfl) (fZ (kw (stO h788 rfl o758 rfl rfl ⟨rfl, ble rfl⟩ rfl rfl) fun M800 hM801 => ?_))))))))))))))
      have o802 := set_ne hM801 ne750 o756
      have o803 := set_ne hM801 ne752 o757
      have o804 : M800[M735.length]? = some (.live ⟨.box, 55, 20, [(.str r794 :: (.bool r795 :: (.sl none (r796.map Notch.c) :: ((arC (cI .i8) 0 r797) ++ ((.sl none (r798.map Mark.c) :: []) : List AV)))))]⟩) := set_same hM801 o758
      refine kx (mvO rfl) (Rn (hA h781 (hA h782 (hA h783 (hA h785 (hA h788 (hN rfl hZ)))))) fun e805 h807 h808 h809 h810 h811 h812 => ?_)
      clear h781 h782 h783 h784 h785 h786 h787 h788 h789
      obtain rfl := si h
      exact kd (show laws_FnTwice_c4_Q r31 r38 r39 r40 r41 r42 r62 M21.length M47.length M735.length _ _ from ⟨rfl, h807, h808, h809, h810, h811, h812, o802, o804⟩)
     obtain ⟨x813, hx814, h⟩ := bind_some h
     obtain ⟨⟨r816, r817, r818, r819, r820, r821⟩, hx815, h⟩ := bind_some h
     refine cF h789 hb790 (Rd (kf (ldOA (cs' := (.str r38 :: (.bool r39 :: (.sl none (r40.map Notch.c) :: ((arC (cI .i8) 0 r41) ++ ((.sl none (x70.map Mark.c) :: []) : List AV)))))) h784 o757 rfl rfl (ble rfl) rfl) (kf (mvO h781) (kf (mvO h786) (kf (ixS rfl rfl hx814 Party.fl) (kf (ldPA rfl rfl rfl) (kf (mvO h787) (fc (clO (v := .tup [.agg (.str r816 :: (.bool r817 :: (.sl none (r818.map Notch.c) :: ((arC (cI .i8) 0 r819) ++ ((.sl none (r820.map Mark.c) :: []) : List AV))))), .int .i64 r821]) rfl rfl (cns rfl (cns rfl (cns rfl rfl))) rfl (impl_PassOn_ok (Chain.mk r38 (Half.mk r39 r40 r41) x70) x813 y736 _ hx815)) (kf (mvO rfl) (kf (exT rfl rfl) (kf (exT rfl rfl) (fZ (kw (stO h788 rfl o758 rfl rfl ⟨rfl, ble rfl⟩ rfl rfl) fun M822 hM823 => ?_)))))))))))))
     have o824 := set_ne hM823 ne750 o756
     have o825 := set_ne hM823 ne752 o757
     have o826 : M822[M735.length]? = some (.live ⟨.box, 55, 20, [(.str r816 :: (.bool r817 :: (.sl none (r818.map Notch.c) :: ((arC (cI .i8) 0 r819) ++ ((.sl none (r820.map Mark.c) :: []) : List AV)))))]⟩) := set_same hM823 o758
     refine kx (mvO rfl) (Rn (hA h781 (hA h782 (hA h783 (hA h785 (hA h788 (hN rfl hZ)))))) fun e827 h829 h830 h831 h832 h833 h834 => ?_)
     clear h781 h782 h783 h784 h785 h786 h787 h788 h789
     obtain rfl := si h
     exact kd (show laws_FnTwice_c4_Q r31 r38 r39 r40 r41 r42 r62 M21.length M47.length M735.length _ _ from ⟨rfl, h829, h830, h831, h832, h833, h834, o824, o826⟩)) ?_
 obtain ⟨y837, y838, y839, y840, y841, y842⟩ := r942
 intro x e835 M836 hq941
 obtain ⟨rfl, h843, h844, h845, h846, h847, h848, o849, o850⟩ := hq941
 obtain ⟨⟨r852, r853⟩, hx851, h⟩ := bind_some h
 obtain ⟨⟨r865, r866⟩, hx864, h⟩ := bind_some h
 obtain ⟨⟨r880, r881⟩, hx879, h⟩ := bind_some h
 obtain ⟨⟨r896, r897⟩, hx895, h⟩ := bind_some h
 refine sN (sq (Rg (kx (ldOA (cs' := (.str r38 :: (.bool r39 :: (.sl none (r40.map Notch.c) :: ((arC (cI .i8) 0 r41) ++ ((.sl none (r42.map Mark.c) :: []) : List AV)))))) h844 o849 rfl rfl (ble rfl) rfl) (kx (ldOA (cs' := (.str y838 :: (.bool y839 :: (.sl none (y840.map Notch.c) :: ((arC (cI .i8) 0 y841) ++ ((.sl none (y842.map Mark.c) :: []) : List AV)))))) h847 o850 rfl rfl (ble rfl) rfl) (kc (cl (v := .tup [.int .i64 r852, .int .i64 r853]) rfl rfl (cns rfl (cns rfl rfl)) rfl (impl_CommonMarks_ok (Chain.mk r38 (Half.mk r39 r40 r41) r42) (Chain.mk y838 (Half.mk y839 y840 y841) y842) _ hx851) nm) (kx (mvO rfl) (kx (exT rfl rfl) (kx (exT rfl rfl) (kx (mvO rfl) (kx (mvO rfl) (Rn (hV (.sl none (r31.map Party.c)) h843 (hV (.loc M21.length 1 0 0) h844 (hV (.int .i64 r62) h845 (hV (.str r38) h846 (hV (.loc M735.length 1 0 0) h847 (hV (.int .i64 y837) h848 (hN rfl (hN rfl hZ)))))))) fun e854 h856 h857 h858 h859 h860 h861 h862 h863 => sN (sq (Rg (kx (ldOA (cs' := (.str r38 :: (.bool r39 :: (.sl none (r40.map Notch.c) :: ((arC (cI .i8) 0 r41) ++ ((.sl none (r42.map Mark.c) :: []) : List AV)))))) h857 o849 rfl rfl (ble rfl) rfl) (kx (ldOA (cs' := (.str y838 :: (.bool y839 :: (.sl none (y840.map Notch.c) :: ((arC (cI .i8) 0 y841) ++ ((.sl none (y842.map Mark.c) :: []) : List AV)))))) h860 o850 rfl rfl (ble rfl) rfl) (kc (cl (v := .tup [.str r865, .int .i64 r866]) rfl rfl (cns rfl (cns rfl rfl)) rfl (impl_WhoPassedTwice_ok (Chain.mk r38 (Half.mk r39 r40 r41) r42) (Chain.mk y838 (Half.mk y839 y840 y841) y842) _ hx864) nm) (kx (mvO rfl) (kx (exT rfl rfl) (kx (exT rfl rfl) (kx (mvO rfl) (kx (mvO rfl) (Rn (hA h856 (hA h857 (hA h858 (hA h859 (hA h860 (hA h861 (hA h862 (hA h863 (hN rfl (hN rfl hZ)))))))))) fun e867 h869 h870 h871 h872 h873 h874 h875 h876 h877 h878 => sN (sq (Rg (kx (ldOA (cs' := (.str r38 :: (.bool r39 :: (.sl none (r40.map Notch.c) :: ((arC (cI .i8) 0 r41) ++ ((.sl none (r42.map Mark.c) :: []) : List AV)))))) h870 o849 rfl rfl (ble rfl) rfl) (kx (ldOA (cs' := (.str y838 :: (.bool y839 :: (.sl none (y840.map Notch.c) :: ((arC (cI .i8) 0 y841) ++ ((.sl none (y842.map Mark.c) :: []) : List AV)))))) h873 o850 rfl rfl (ble rfl) rfl) (kc (cl (v := .tup [.str r880, .int .i64 r881]) rfl rfl (cns rfl (cns rfl rfl)) rfl (spec_WhoPassedTwice_ok (Chain.mk r38 (Half.mk r39 r40 r41) r42) (Chain.mk y838 (Half.mk y839 y840 y841) y842) _ hx879) nm) (kx (mvO rfl) (kx (exT rfl rfl) (kx (exT rfl rfl) (kx (mvO rfl) (kx (mvO rfl) (Rn (hA h869 (hA h871 (hA h872 (hA h873 (hA h874 (hA h875 (hA h876 (hA h877 (hA h878 (hN rfl (hN rfl hZ))))))))))) fun e882 h884 h885 h886 h887 h888 h889 h890 h891 h892 h893 h894 => sN (sq (Rg (kx (mvO h884) (kx (ldOA (cs' := (.str y838 :: (.bool y839 :: (.sl none (y840.map Notch.c) :: ((arC (cI .i8) 0 y841) ++ ((.sl none (y842.map Mark.c) :: []) : List AV)))))) h887 o850 rfl rfl (ble rfl) rfl) (kc (cl (v := .tup [.int .i64 r896, .int .i64 r897]) rfl rfl (cns rfl (cns rfl rfl)) rfl (impl_CheckChain_ok r31 (Chain.mk y838 (Half.mk y839 y840 y841) y842) _ hx895) nm) (kx (mvO rfl) (kx (exT rfl rfl) (kx (exT rfl rfl) (kx (mvO rfl) (kx (mvO rfl) (Rn (hA h885 (hA h886 (hA h888 (hA h889 (hA h890 (hA h891 (hA h892 (hA h893 (hA h894 (hN rfl hZ)))))))))) fun e898 h900 h901 h902 h903 h904 h905 h906 h907 h908 h909 => sN (sq (Rg (kx (mvO h902) (kx (bEql rfl rfl) (kx (mvO rfl) ?_)))))))))))))))))))))))))))))))))))))))))))))))))
 clear h843 h844 h845 h846 h847 h848 h856 h857 h858 h859 h860 h861 h862 h863 h869 h870 h871 h872 h873 h874 h875 h876 h877 h878 h884 h885 h886 h887 h888 h889 h890 h891 h892 h893 h894
 rcases ite_some h with ⟨hb910, h⟩ | ⟨hb910, h⟩
 ·refine kx (guT rfl hb910 (mvO h904)) (kx (guT rfl hb910 (bEql rfl rfl)) (kx (pkT rfl hb910 rfl) (kx (mvO rfl) ?_)))
  rcases ite_some h with ⟨hb911, h⟩ | ⟨hb911, h⟩
  ·refine kx (guT rfl hb911 (mvO h903)) (kx (guT rfl hb911 (mvO h900)) (kx (guT rfl hb911 (bEql rfl rfl)) (kx (pkT rfl hb911 rfl) (kx (mvO rfl) ?_))))
   rcases ite_some h with ⟨hb912, h⟩ | ⟨hb912, h⟩
   ·refine kx (guT rfl hb912 (mvO h906)) (kx (guT rfl hb912 (mvO h908)) (kx (guT rfl hb912 (bEql rfl rfl)) (kx (pkT rfl hb912 rfl) (kx (mvO rfl) ?_))))
    rcases ite_some h with ⟨hb913, h⟩ | ⟨hb913, h⟩
    ·refine kx (guT rfl hb913 (mvO h906)) (kx (guT rfl hb913 (bEql rfl rfl)) (kx (pkT rfl hb913 rfl) (kx (mvO rfl) ?_)))
     rcases ite_some h with ⟨hb914, h⟩ | ⟨hb914, h⟩
     ·refine kx (guT rfl hb914 (mvO h905)) (kx (guT rfl hb914 (mvO h907)) (kx (guT rfl hb914 (sEql rfl rfl)) (kx (pkT rfl hb914 rfl) (kx (mvO rfl) ?_))))
      rcases ite_some h with ⟨hb915, h⟩ | ⟨hb915, h⟩
      ·refine kx (guT rfl hb915 (mvO h907)) (kx (guT rfl hb915 (mvO h901)) (kx (guT rfl hb915 (sEql rfl rfl)) (kx (pkT rfl hb915 rfl) (kx (mvO rfl) ?_))))
       rcases ite_some h with ⟨hb916, h⟩ | ⟨hb916, h⟩
       ·refine kx (guT rfl hb916 (mvO h909)) (kx (guT rfl hb916 (bEql rfl rfl)) (kx (pkT rfl hb916 rfl) (kx (mvO rfl) (Rn (hN rfl hZ) fun e917 h919 => sN (xx ?_)))))
        clear h900 h901 h902 h903 h904 h905 h906 h907 h908 h909
        obtain rfl := si h
        exact eR (resT h919 res0) rfl
       refine kx (gsT rfl hb916) (kx (gsT rfl hb916) (kx (pkF rfl hb916 rfl) (kx (mvO rfl) (Rn (hV (.bool false) rfl hZ) fun e920 h922 => sN (xx ?_)))))
       clear h900 h901 h902 h903 h904 h905 h906 h907 h908 h909
       obtain rfl := si h
       exact eR (resT h922 res0) rfl
      refine kx (gsT rfl hb915) (kx (gsT rfl hb915) (kx (gsT rfl hb915) (kx (pkF rfl hb915 rfl) (kx (mvO rfl) (kx (gsT rfl rfl) (kx (gsT rfl rfl) (kx (pkF rfl rfl rfl) (kx (mvO rfl) (Rn (hV (.bool false) rfl hZ) fun e923 h925 => sN (xx ?_))))))))))
      clear h900 h901 h902 h903 h904 h905 h906 h907 h908 h909
      obtain rfl := si h
      exact eR (resT h925 res0) rfl
     refine kx (gsT rfl hb914) (kx (gsT rfl hb914) (kx (gsT rfl hb914) (kx (pkF rfl hb914 rfl) (kx (mvO rfl) (kx (gsT rfl rfl) (kx (gsT rfl rfl) (kx (gsT rfl rfl) (kx (pkF rfl rfl rfl) (kx (mvO rfl) (kx (gsT rfl rfl) (kx (gsT rfl rfl) (kx (pkF rfl rfl rfl) (kx (mvO rfl) (Rn (hV (.bool false) rfl hZ) fun e926 h928 => sN (xx ?_)))))))))))))))
     clear h900 h901 h902 h903 h904 h905 h906 h907 h908 h909
     obtain rfl := si h
     exact eR (resT h928 res0) rfl
    refine kx (gsT rfl hb913) (kx (gsT rfl hb913) (kx (pkF rfl hb913 rfl) (kx (mvO rfl) (kx (gsT rfl rfl) (kx (gsT rfl rfl) (kx (gsT rfl rfl) (kx (pkF rfl rfl rfl) (kx (mvO rfl) (kx (gsT rfl rfl) (kx (gsT rfl rfl) (kx (gsT rfl rfl) (kx (pkF rfl rfl rfl) (kx (mvO rfl) (kx (gsT rfl rfl) (kx (gsT rfl rfl) (kx (pkF rfl rfl rfl) (kx (mvO rfl) (Rn (hV (.bool false) rfl hZ) fun e929 h931 => sN (xx ?_)))))))))))))))))))
    clear h900 h901 h902 h903 h904 h905 h906 h907 h908 h909
    obtain rfl := si h
    exact eR (resT h931 res0) rfl
   refine kx (gsT rfl hb912) (kx (gsT rfl hb912) (kx (gsT rfl hb912) (kx (pkF rfl hb912 rfl) (kx (mvO rfl) (kx (gsT rfl rfl) (kx (gsT rfl rfl) (kx (pkF rfl rfl rfl) (kx (mvO rfl) (kx (gsT rfl rfl) (kx (gsT rfl rfl) (kx (gsT rfl rfl) (kx (pkF rfl rfl rfl) (kx (mvO rfl) (kx (gsT rfl rfl) (kx (gsT rfl rfl) (kx (gsT rfl rfl) (kx (pkF rfl rfl rfl) (kx (mvO rfl) (kx (gsT rfl rfl) (kx (gsT rfl rfl) (kx (pkF rfl rfl rfl) (kx (mvO rfl) (Rn (hV (.bool false) rfl hZ) fun e932 h934 => sN (xx ?_))))))))))))))))))))))))
   clear h900 h901 h902 h903 h904 h905 h906 h907 h908 h909
   obtain rfl := si h
   exact eR (resT h934 res0) rfl
  refine kx (gsT rfl hb911) (kx (gsT rfl hb911) (kx (gsT rfl hb911) (kx (pkF rfl hb911 rfl) (kx (mvO rfl) (kx (gsT rfl rfl) (kx (gsT rfl rfl) (kx (gsT rfl rfl) (kx (pkF rfl rfl rfl) (kx (mvO rfl) (kx (gsT rfl rfl) (kx (gsT rfl rfl) (kx (pkF rfl rfl rfl) (kx (mvO rfl) (kx (gsT rfl rfl) (kx (gsT rfl rfl) (kx (gsT rfl rfl) (kx (pkF rfl rfl rfl) (kx (mvO rfl) (kx (gsT rfl rfl) (kx (gsT rfl rfl) (kx (gsT rfl rfl) (kx (pkF rfl rfl rfl) (kx (mvO rfl) (kx (gsT rfl rfl) (kx (gsT rfl rfl) (kx (pkF rfl rfl rfl) (kx (mvO rfl) (Rn (hV (.bool false) rfl hZ) fun e935 h937 => sN (xx ?_)))))))))))))))))))))))))))))
  clear h900 h901 h902 h903 h904 h905 h906 h907 h908 h909
  obtain rfl := si h
  exact eR (resT h937 res0) rfl
 refine kx (gsT rfl hb910) (kx (gsT rfl hb910) (kx (pkF rfl hb910 rfl) (kx (mvO rfl) (kx (gsT rfl rfl) (kx (gsT rfl rfl) (kx (gsT rfl rfl) (kx (pkF rfl rfl rfl) (kx (mvO rfl) (kx (gsT rfl rfl) (kx (gsT rfl rfl) (kx (gsT rfl rfl) (kx (pkF rfl rfl rfl) (kx (mvO rfl) (kx (gsT rfl rfl) (kx (gsT rfl rfl) (kx (pkF rfl rfl rfl) (kx (mvO rfl) (kx (gsT rfl rfl) (kx (gsT rfl rfl) (kx (gsT rfl rfl) (kx (pkF rfl rfl rfl) (kx (mvO rfl) (kx (gsT rfl rfl) (kx (gsT rfl rfl) (kx (gsT rfl rfl) (kx (pkF rfl rfl rfl) (kx (mvO rfl) (kx (gsT rfl rfl) (kx (gsT rfl rfl) (kx (pkF rfl rfl rfl) (kx (mvO rfl) (Rn (hV (.bool false) rfl hZ) fun e938 h940 => sN (xx ?_)))))))))))))))))))))))))))))))))
 clear h900 h901 h902 h903 h904 h905 h906 h907 h908 h909
 obtain rfl := si h
 exact eR (resT h940 res0) rfl
end Go.Proofs.YtjlalepbhcekoaaDoor

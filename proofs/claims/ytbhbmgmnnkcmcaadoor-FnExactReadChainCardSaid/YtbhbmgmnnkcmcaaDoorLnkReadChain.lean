/- Printed by a program of ours (ext.py). -/
import Derived.Test.YtbhbmgmnnkcmcaaDoorLnkReadChainx0
set_option linter.unusedVariables false
set_option linter.unusedSimpArgs false
set_option maxRecDepth 100000
set_option maxHeartbeats 2000000
namespace Go.Proofs.YtbhbmgmnnkcmcaaDoor
open Go Go.Ab
/-! ### loop.example/g01263/impl.ValidChain (f60) -/
def impl_ValidChain_c1_Q (a1 : Chain) (g : Bool) (q : Out) : Prop := q.1 = .nrm ∧ eget q.2.1 1 = .pt none (.str a1.Debtor :: (.bool a1.Stock.Stock :: (.sl none (a1.Stock.Notches.map Notch.c) :: ((arC (cI .i8) 0 a1.Stock.Grain) ++ ((.sl none (a1.Marks.map Mark.c) :: []) : List AV))))) ∧ eget q.2.1 33 = .bool g
abbrev impl_ValidChain_b1_S := (List UInt8) × Int
abbrev impl_ValidChain_b1_R := Unit ⊕ Unit
def impl_ValidChain_b1_RS (a1 : Chain) (s : impl_ValidChain_b1_S) (e : Env) (M : Mem) : Prop := eget e 3 = .str s.1 ∧ eget e 37 = .sl none (a1.Marks.map Mark.c) ∧ eget e 38 = .int .i64 (a1.Marks.length : Int) ∧ eget e 39 = .int .i64 s.2
def impl_ValidChain_b1_RR (a1 : Chain) (r : impl_ValidChain_b1_R) (x : Ex) (e : Env) (M : Mem) : Prop :=
  match r with
  | (.inl g) => x = .ret ∧ eget e 2 = .bool false
  | (.inr g) => x = .ext 0 ∧ True
noncomputable def impl_ValidChain_b1 (a1 : Chain) : impl_ValidChain_b1_S → Option (impl_ValidChain_b1_S ⊕ impl_ValidChain_b1_R) := fun (s1_1, s1_2) =>
 if (decide (s1_2 < (a1.Marks.length : Int))) = true then
  (rd a1.Marks s1_2).bind fun x79 =>
  (impl_isName x79.Holder).bind fun r96 =>
  if r96 = true then
   if (x79.Holder == s1_1) = true then
    some (.inr (.inl ()))
   else
    some (.inl (x79.Holder, (IntKind.i64.wrap (s1_2 + 1))))
  else
   some (.inr (.inl ()))
 else
  some (.inr (.inr ()))
theorem impl_ValidChain_b1_ok (a1 : Chain) (s : impl_ValidChain_b1_S) (r : impl_ValidChain_b1_S ⊕ impl_ValidChain_b1_R) (h : impl_ValidChain_b1 a1 s = some r) (e : Env) (M : Mem) (hs : impl_ValidChain_b1_RS a1 s e M) : Ev (fun k => (f60_l5 (CN k) k (prune [3, 37, 38, 39] e) M).bind fun q => some q) (bQ (impl_ValidChain_b1_RS a1) (impl_ValidChain_b1_RR a1) r) := by
 obtain ⟨s1_1, s1_2⟩ := s
 unfold impl_ValidChain_b1 at h
 obtain ⟨h63, h65, h67, h69⟩ := hs
 generalize he62 : prune [3, 37, 38, 39] e = e61
 have h64 := envp he62.symm rfl h63
 have h66 := envp he62.symm rfl h65
 have h68 := envp he62.symm rfl h67
 have h70 := envp he62.symm rfl h69
 refine sq (Rg (kx (bLss h70 h68) (Rn (hV (.str s1_1) h64 (hV (.sl none (a1.Marks.map Mark.c)) h66 (hV (.int .i64 (a1.Marks.length : Int)) h68 (hV (.int .i64 s1_2) h70 (hN rfl hZ))))) fun e71 h73 h74 h75 h76 h77 => sN (sq ?_))))
 clear h64 h66 h68 h70
 rcases ite_some h with ⟨hb78, h⟩ | ⟨hb78, h⟩
 ·obtain ⟨x79, hx80, h⟩ := bind_some h
  refine cT h77 hb78 (xx (sN (sq (bl (sq (Rg (kx (ixS h74 h76 hx80 Mark.fl) (kx (ldPA rfl rfl rfl) (ku (alO zero107) fun M82 hM83 => ?_)))))))))
  have o84 : M82[M.length]? = some (.live ⟨.box, 107, 2, [[.str ([] : List UInt8), .int .u32 0]]⟩) := push_new hM83
  refine kw (stO rfl rfl o84 rfl rfl ⟨rfl, ble rfl⟩ rfl rfl) fun M85 hM86 => ?_
  have o87 : M85[M.length]? = some (.live ⟨.box, 107, 2, [[.str x79.Holder, .int .u32 x79.Seal]]⟩) := set_same hM86 o84
  obtain ⟨r96, hx95, h⟩ := bind_some h
  refine Rn (hA h73 (hV (.loc M.length 1 0 0) rfl (hA h74 (hA h75 (hA h76 hZ))))) fun e88 h90 h91 h92 h93 h94 => sN (sq (sq (Rg (kx (faO h91 o87 rfl) (kx (ldO rfl o87 rfl rfl rfl) (kc (cl (v := .bool r96) rfl (cns rfl rfl) rfl (impl_isName_ok x79.Holder _ hx95) nm) (kx (uNot rfl) (kx (mvO rfl) ?_))))))))
  clear h73 h74 h75 h76 h77
  rcases ite_some h with ⟨hb97, h⟩ | ⟨hb97, h⟩
  ·refine kx (guF rfl (congrArg Bool.not hb97) (faO h91 o87 rfl)) (kx (guF rfl (congrArg Bool.not hb97) (ldO rfl o87 rfl rfl rfl)) (kx (guF rfl (congrArg Bool.not hb97) (mvO h90)) (kx (guF rfl (congrArg Bool.not hb97) (sEql rfl rfl)) (kx (pkF rfl (congrArg Bool.not hb97) rfl) (Rn (hA h91 (hA h92 (hA h93 (hA h94 (hN rfl hZ))))) fun e98 h100 h101 h102 h103 h104 => sN ?_)))))
   clear h90 h91 h92 h93 h94
   rcases ite_some h with ⟨hb105, h⟩ | ⟨hb105, h⟩
   ·refine cT h104 hb105 (sq (Rg (kx (mvO rfl) (Rn (hV (.bool false) rfl hZ) fun e106 h108 => sN (xx (sR (bR (sR ?_))))))))
    clear h100 h101 h102 h103 h104
    obtain rfl := si h
    exact qR ⟨rfl, h108⟩
   refine cF h104 hb105 (xx (sN (Rg (kx (faO h100 o87 rfl) (kx (ldO rfl o87 rfl rfl rfl) (kx (mvO rfl) (Rn (hN rfl (hA h101 (hA h102 (hA h103 hZ)))) fun e109 h111 h112 h113 h114 => bN (sN (Rg (kx (bAdd h114 rfl) (kx (mvO rfl) (Rn (hA h111 (hA h112 (hA h113 (hN rfl hZ)))) fun e115 h117 h118 h119 h120 => ?_))))))))))))
   clear h100 h101 h102 h103 h104 h111 h112 h113
   obtain rfl := si h
   exact qN ⟨h117, h118, h119, h120⟩
  refine kx (gsF rfl (congrArg Bool.not hb97)) (kx (gsF rfl (congrArg Bool.not hb97)) (kx (gsF rfl (congrArg Bool.not hb97)) (kx (gsF rfl (congrArg Bool.not hb97)) (kx (pkT rfl (congrArg Bool.not hb97) rfl) (Rn (hA h91 (hA h92 (hA h93 (hA h94 (hV (.bool true) rfl hZ))))) fun e121 h123 h124 h125 h126 h127 => sN (cT h127 rfl (sq (Rg (kx (mvO rfl) (Rn (hV (.bool false) rfl hZ) fun e128 h130 => sN (xx (sR (bR (sR ?_))))))))))))))
  clear h90 h91 h92 h93 h94 h123 h124 h125 h126 h127
  obtain rfl := si h
  exact qR ⟨rfl, h130⟩
 refine cF h77 hb78 (xx (sE ?_))
 obtain rfl := si h
 exact qE ⟨rfl, trivial⟩
noncomputable def impl_ValidChain (a1 : Chain) : Option Bool :=
 ((impl_isName a1.Debtor).bind fun r5 =>
 if r5 = true then
  (impl_ValidHalf a1.Stock).bind fun r8 =>
  if r8 = true then
   if a1.Stock.Stock = true then
    if (decide ((a1.Marks.length : Int) < 1)) = true then
     some true
    else
     some (decide ((a1.Marks.length : Int) > 30))
   else
    some true
  else
   some true
 else
  some true).bind fun y34 =>
 if y34 = true then
  some false
 else
  (Lw (impl_ValidChain_b1 a1) (a1.Debtor, 0)).bind fun r => match r with
  | (.inl _) =>
   some false
  | (.inr _) =>
   some true
def impl_ValidChain_enc (r : Bool) : AV := .bool r
theorem impl_ValidChain_ok (a1 : Chain) (r : Bool) (h : impl_ValidChain a1 = some r) : Ev (fun k => CN k 60 [.agg (.str a1.Debtor :: (.bool a1.Stock.Stock :: (.sl none (a1.Stock.Notches.map Notch.c) :: ((arC (cI .i8) 0 a1.Stock.Grain) ++ ((.sl none (a1.Marks.map Mark.c) :: []) : List AV)))))] []) (fun p => rRes p.2 p.1 = impl_ValidChain_enc r) := by
 unfold impl_ValidChain at h
 obtain ⟨r143, hr144, h⟩ := bind_some h
 refine Ev.enter (F := fun k => f60 (CN k) k) (fun k => callN_eq rfl Tryd.func60 rfl rfl rfl (by decide +kernel) (f60_eq _ _)) (sq (Rg (kx (bxI rfl rfl ⟨rfl, rfl, by decide⟩) (kx (mvO rfl) (Rn (hN rfl hZ) fun e1 h3 => sN (sq (sq ?_)))))))
 refine Ev.cut (Q1 := impl_ValidChain_c1_Q a1 r143) (by
     have h := hr144
     obtain ⟨r5, hx4, h⟩ := bind_some h
     refine Rg (kx (faP h3 ⟨ble rfl, blt rfl⟩ rfl) (kx (ldP rfl rfl) (kc (cl (v := .bool r5) rfl (cns rfl rfl) rfl (impl_isName_ok a1.Debtor _ hx4) nm) (kx (uNot rfl) (kx (mvO rfl) ?_)))))
     rcases ite_some h with ⟨hb6, h⟩ | ⟨hb6, h⟩
     ·obtain ⟨r8, hx7, h⟩ := bind_some h
      refine kx (guF rfl (congrArg Bool.not hb6) (faP h3 ⟨ble rfl, blt rfl⟩ rfl)) (kx (guF rfl (congrArg Bool.not hb6) (ldPA rfl rfl rfl)) (kc (Ev.guF rfl (congrArg Bool.not hb6) (cl (v := .bool r8) rfl (cns rfl rfl) rfl (impl_ValidHalf_ok a1.Stock _ hx7) nm)) (kx (guF rfl (congrArg Bool.not hb6) (uNot rfl)) (kx (pkF rfl (congrArg Bool.not hb6) rfl) (kx (mvO rfl) ?_)))))
      rcases ite_some h with ⟨hb9, h⟩ | ⟨hb9, h⟩
      ·refine kx (guF rfl (congrArg Bool.not hb9) (faP h3 ⟨ble rfl, blt rfl⟩ rfl)) (kx (guF rfl (congrArg Bool.not hb9) (faP rfl ⟨ble rfl, blt rfl⟩ rfl)) (kx (guF rfl (congrArg Bool.not hb9) (ldP rfl rfl)) (kx (guF rfl (congrArg Bool.not hb9) (uNot rfl)) (kx (pkF rfl (congrArg Bool.not hb9) rfl) (kx (mvO rfl) ?_)))))
       rcases ite_some h with ⟨hb10, h⟩ | ⟨hb10, h⟩
       ·refine kx (guF rfl (congrArg Bool.not hb10) (faP h3 ⟨ble rfl, blt rfl⟩ rfl)) (kx (guF rfl (congrArg Bool.not hb10) (ldP rfl rfl)) (kx (guF rfl (congrArg Bool.not hb10) (lnS Tryd.underlying58 rfl)) (kx (guF rfl (congrArg Bool.not hb10) (bLss rfl rfl)) (kx (pkF rfl (congrArg Bool.not hb10) rfl) (kx (mvO rfl) ?_)))))
        rcases ite_some h with ⟨hb11, h⟩ | ⟨hb11, h⟩
        ·refine kx (gsF rfl hb11) (kx (gsF rfl hb11) (kx (gsF rfl hb11) (kx (gsF rfl hb11) (kx (pkT rfl hb11 rfl) (Rn (hA h3 (hV (.bool true) rfl hZ)) fun e12 h14 h15 => ?_)))))
         clear h3
         obtain rfl := si h
         exact kd (show impl_ValidChain_c1_Q a1 _ _ from ⟨rfl, h14, h15⟩)
        refine kx (guF rfl hb11 (faP h3 ⟨ble rfl, blt rfl⟩ rfl)) (kx (guF rfl hb11 (ldP rfl rfl)) (kx (guF rfl hb11 (lnS Tryd.underlying58 rfl)) (kx (guF rfl hb11 (bGtr rfl rfl)) (kx (pkF rfl hb11 rfl) (Rn (hA h3 (hN rfl hZ)) fun e16 h18 h19 => ?_)))))
        clear h3
        obtain rfl := si h
        exact kd (show impl_ValidChain_c1_Q a1 _ _ from ⟨rfl, h18, h19⟩)
       refine kx (gsF rfl (congrArg Bool.not hb10)) (kx (gsF rfl (congrArg Bool.not hb10)) (kx (gsF rfl (congrArg Bool.not hb10)) (kx (gsF rfl (congrArg Bool.not hb10)) (kx (pkT rfl (congrArg Bool.not hb10) rfl) (kx (mvO rfl) (kx (gsF rfl rfl) (kx (gsF rfl rfl) (kx (gsF rfl rfl) (kx (gsF rfl rfl) (kx (pkT rfl rfl rfl) (Rn (hA h3 (hV (.bool true) rfl hZ)) fun e20 h22 h23 => ?_)))))))))))
       clear h3
       obtain rfl := si h
       exact kd (show impl_ValidChain_c1_Q a1 _ _ from ⟨rfl, h22, h23⟩)
      refine kx (gsF rfl (congrArg Bool.not hb9)) (kx (gsF rfl (congrArg Bool.not hb9)) (kx (gsF rfl (congrArg Bool.not hb9)) (kx (gsF rfl (congrArg Bool.not hb9)) (kx (pkT rfl (congrArg Bool.not hb9) rfl) (kx (mvO rfl) (kx (gsF rfl rfl) (kx (gsF rfl rfl) (kx (gsF rfl rfl) (kx (gsF rfl rfl) (kx (pkT rfl rfl rfl) (kx (mvO rfl) (kx (gsF rfl rfl) (kx (gsF rfl rfl) (kx (gsF rfl rfl) (kx (gsF rfl rfl) (kx (pkT rfl rfl rfl) (Rn (hA h3 (hV (.bool true) rfl hZ)) fun e24 h26 h27 => ?_)))))))))))))))))
      clear h3
      obtain rfl := si h
      exact kd (show impl_ValidChain_c1_Q a1 _ _ from ⟨rfl, h26, h27⟩)
     refine kx (gsF rfl (congrArg Bool.not hb6)) (kx (gsF rfl (congrArg Bool.not hb6)) (kc (Ev.gsF rfl (congrArg Bool.not hb6)) (kx (gsF rfl (congrArg Bool.not hb6)) (kx (pkT rfl (congrArg Bool.not hb6) rfl) (kx (mvO rfl) (kx (gsF rfl rfl) (kx (gsF rfl rfl) (kx (gsF rfl rfl) (kx (gsF rfl rfl) (kx (pkT rfl rfl rfl) (kx (mvO rfl) (kx (gsF rfl rfl) (kx (gsF rfl rfl) (kx (gsF rfl rfl) (kx (gsF rfl rfl) (kx (pkT rfl rfl rfl) (kx (mvO rfl) (kx (gsF rfl rfl) (kx (gsF rfl rfl) (kx (gsF rfl rfl) (kx (gsF rfl rfl) (kx (pkT rfl rfl rfl) (Rn (hA h3 (hV (.bool true) rfl hZ)) fun e28 h30 h31 => ?_)))))))))))))))))))))))
     clear h3
     obtain rfl := si h
     exact kd (show impl_ValidChain_c1_Q a1 _ _ from ⟨rfl, h30, h31⟩)) ?_
 revert h hr144
 revert r143
 intro y34 hr144 h
 intro x e32 M33 hq142
 obtain ⟨rfl, h35, h36⟩ := hq142
 refine sN ?_
 rcases ite_some h with ⟨hb37, h⟩ | ⟨hb37, h⟩
 ·refine cT h36 hb37 (sq (Rg (kx (mvO rfl) (Rn (hV (.bool false) rfl hZ) fun e38 h40 => sN (xx (sR ?_))))))
  clear h35 h36
  obtain rfl := si h
  exact eR (resT h40 res0) rfl
 obtain ⟨r131, hr132, h⟩ := bind_some h
 refine cF h36 hb37 (xx (sN (sq (Rg (kx (faP h35 ⟨ble rfl, blt rfl⟩ rfl) (kx (ldP rfl rfl) (kx (mvO rfl) (Rn (hV (.pt none (.str a1.Debtor :: (.bool a1.Stock.Stock :: (.sl none (a1.Stock.Notches.map Notch.c) :: ((arC (cI .i8) 0 a1.Stock.Grain) ++ ((.sl none (a1.Marks.map Mark.c) :: []) : List AV)))))) h35 (hN rfl hZ)) fun e41 h43 h44 => sN (sq (sq (Rg (kx (faP h43 ⟨ble rfl, blt rfl⟩ rfl) (kx (ldP rfl rfl) (kx (lnS Tryd.underlying58 rfl) (kx (mvO rfl) (Rn (hA h44 (hN rfl (hN rfl (hV (.int .i64 0) rfl hZ)))) fun e45 h47 h48 h49 h50 => sN (bl ?_)))))))))))))))))
 clear h35 h36 h43 h44
 rcases r131 with _ | _
 ·refine Ev.loop (RS := impl_ValidChain_b1_RS a1) (RR := impl_ValidChain_b1_RR a1) (fun s r h e M hs => impl_ValidChain_b1_ok a1 s r h e M hs) hr132 ⟨h47, h48, h49, h50⟩ fun x e134 M135 hq133 => ?_
  obtain ⟨rfl, h136⟩ := hq133
  refine bR (sR ?_)
  obtain rfl := si h
  exact eR (resT h136 res0) rfl
 refine Ev.loop (RS := impl_ValidChain_b1_RS a1) (RR := impl_ValidChain_b1_RR a1) (fun s r h e M hs => impl_ValidChain_b1_ok a1 s r h e M hs) hr132 ⟨h47, h48, h49, h50⟩ fun x e137 M138 hq133 => ?_
 obtain ⟨rfl, _⟩ := hq133
 refine bE (sN (sq (Rg (kx (mvO rfl) (Rn (hV (.bool true) rfl hZ) fun e139 h141 => sN (xx ?_))))))
 obtain rfl := si h
 exact eR (resT h141 res0) rfl
/-! ### loop.example/g01263/spec.l06Ok (f56) -/
def spec_l06Ok_c1_Q (a1 : Chain) (g : Bool) (q : Out) : Prop := q.1 = .nrm ∧ eget q.2.1 0 = .pt none (.str a1.Debtor :: (.bool a1.Stock.Stock :: (.sl none (a1.Stock.Notches.map Notch.c) :: ((arC (cI .i8) 0 a1.Stock.Grain) ++ ((.sl none (a1.Marks.map Mark.c) :: []) : List AV))))) ∧ eget q.2.1 34 = .bool g
abbrev spec_l06Ok_b1_S := (List UInt8) × Int
abbrev spec_l06Ok_b1_R := Unit ⊕ Unit
def spec_l06Ok_b1_RS (a1 : Chain) (s : spec_l06Ok_b1_S) (e : Env) (M : Mem) : Prop := eget e 0 = .pt none (.str a1.Debtor :: (.bool a1.Stock.Stock :: (.sl none (a1.Stock.Notches.map Notch.c) :: ((arC (cI .i8) 0 a1.Stock.Grain) ++ ((.sl none (a1.Marks.map Mark.c) :: []) : List AV))))) ∧ eget e 3 = .str s.1 ∧ eget e 4 = .int .i64 s.2
def spec_l06Ok_b1_RR (a1 : Chain) (r : spec_l06Ok_b1_R) (x : Ex) (e : Env) (M : Mem) : Prop :=
  match r with
  | (.inl g) => x = .ret ∧ eget e 2 = .bool false
  | (.inr g) => x = .ext 0 ∧ True
noncomputable def spec_l06Ok_b1 (a1 : Chain) : spec_l06Ok_b1_S → Option (spec_l06Ok_b1_S ⊕ spec_l06Ok_b1_R) := fun (s1_1, s1_2) =>
 if (decide (s1_2 < (a1.Marks.length : Int))) = true then
  (rd a1.Marks s1_2).bind fun x70 =>
  (spec_l06Name x70.Holder).bind fun r73 =>
  if r73 = true then
   (rd a1.Marks s1_2).bind fun x75 =>
   if (x75.Holder == s1_1) = true then
    some (.inr (.inl ()))
   else
    (rd a1.Marks s1_2).bind fun x86 =>
    some (.inl (x86.Holder, (IntKind.i64.wrap (s1_2 + 1))))
  else
   some (.inr (.inl ()))
 else
  some (.inr (.inr ()))
theorem spec_l06Ok_b1_ok (a1 : Chain) (s : spec_l06Ok_b1_S) (r : spec_l06Ok_b1_S ⊕ spec_l06Ok_b1_R) (h : spec_l06Ok_b1 a1 s = some r) (e : Env) (M : Mem) (hs : spec_l06Ok_b1_RS a1 s e M) : Ev (fun k => (f56_l5 (CN k) k (prune [0, 3, 4] e) M).bind fun q => some q) (bQ (spec_l06Ok_b1_RS a1) (spec_l06Ok_b1_RR a1) r) := by
 obtain ⟨s1_1, s1_2⟩ := s
 unfold spec_l06Ok_b1 at h
 obtain ⟨h57, h59, h61⟩ := hs
 generalize he56 : prune [0, 3, 4] e = e55
 have h58 := envp he56.symm rfl h57
 have h60 := envp he56.symm rfl h59
 have h62 := envp he56.symm rfl h61
 refine sq (sq (Rg (kx (mvO h62) (kx (mvO h58) (kx (ncP rfl) (kx (faP rfl ⟨ble rfl, blt rfl⟩ rfl) (kx (ldP rfl rfl) (kx (lnS Tryd.underlying58 rfl) (kx (bLss rfl rfl) (Rn (hV (.pt none (.str a1.Debtor :: (.bool a1.Stock.Stock :: (.sl none (a1.Stock.Notches.map Notch.c) :: ((arC (cI .i8) 0 a1.Stock.Grain) ++ ((.sl none (a1.Marks.map Mark.c) :: []) : List AV)))))) h58 (hV (.str s1_1) h60 (hV (.int .i64 s1_2) h62 (hN rfl hZ)))) fun e63 h65 h66 h67 h68 => sN ?_))))))))))
 clear h58 h60 h62
 rcases ite_some h with ⟨hb69, h⟩ | ⟨hb69, h⟩
 ·obtain ⟨x70, hx71, h⟩ := bind_some h
  obtain ⟨r73, hx72, h⟩ := bind_some h
  refine cT h68 hb69 (xx (sN (sq (bl (sq (sq (Rg (kx (mvO h65) (kx (ncP rfl) (kx (faP rfl ⟨ble rfl, blt rfl⟩ rfl) (kx (ldP rfl rfl) (kx (mvO h67) (kx (ixS rfl rfl hx71 Mark.fl) (kx (faP rfl ⟨ble rfl, blt rfl⟩ rfl) (kx (ldP rfl rfl) (kc (cl (v := .bool r73) rfl (cns rfl rfl) rfl (spec_l06Name_ok x70.Holder _ hx72) nm) (kx (uNot rfl) (kx (mvO rfl) ?_))))))))))))))))))
  rcases ite_some h with ⟨hb74, h⟩ | ⟨hb74, h⟩
  ·obtain ⟨x75, hx76, h⟩ := bind_some h
   refine kx (guF rfl (congrArg Bool.not hb74) (mvO h65)) (kx (guF rfl (congrArg Bool.not hb74) (ncP rfl)) (kx (guF rfl (congrArg Bool.not hb74) (faP rfl ⟨ble rfl, blt rfl⟩ rfl)) (kx (guF rfl (congrArg Bool.not hb74) (ldP rfl rfl)) (kx (guF rfl (congrArg Bool.not hb74) (mvO h67)) (kx (guF rfl (congrArg Bool.not hb74) (ixS rfl rfl hx76 Mark.fl)) (kx (guF rfl (congrArg Bool.not hb74) (faP rfl ⟨ble rfl, blt rfl⟩ rfl)) (kx (guF rfl (congrArg Bool.not hb74) (ldP rfl rfl)) (kx (guF rfl (congrArg Bool.not hb74) (mvO h66)) (kx (guF rfl (congrArg Bool.not hb74) (sEql rfl rfl)) (kx (pkF rfl (congrArg Bool.not hb74) rfl) (Rn (hA h65 (hA h67 (hN rfl hZ))) fun e77 h79 h80 h81 => sN ?_)))))))))))
   clear h65 h66 h67 h68
   rcases ite_some h with ⟨hb82, h⟩ | ⟨hb82, h⟩
   ·refine cT h81 hb82 (sq (Rg (kx (mvO rfl) (Rn (hV (.bool false) rfl hZ) fun e83 h85 => sN (xx (sR (bR (sR ?_))))))))
    clear h79 h80 h81
    obtain rfl := si h
    exact qR ⟨rfl, h85⟩
   obtain ⟨x86, hx87, h⟩ := bind_some h
   refine cF h81 hb82 (xx (sN (Rg (kx (mvO h79) (kx (ncP rfl) (kx (faP rfl ⟨ble rfl, blt rfl⟩ rfl) (kx (ldP rfl rfl) (kx (mvO h80) (kx (ixS rfl rfl hx87 Mark.fl) (kx (faP rfl ⟨ble rfl, blt rfl⟩ rfl) (kx (ldP rfl rfl) (kx (mvO rfl) (Rn (hA h79 (hN rfl (hA h80 hZ))) fun e88 h90 h91 h92 => bN (sN (Rg (kx (mvO h92) (kx (bAdd rfl rfl) (kx (mvO rfl) (Rn (hA h90 (hA h91 (hN rfl hZ))) fun e93 h95 h96 h97 => ?_)))))))))))))))))))
   clear h79 h80 h81 h90 h91
   obtain rfl := si h
   exact qN ⟨h95, h96, h97⟩
  refine kx (gsF rfl (congrArg Bool.not hb74)) (kx (gsF rfl (congrArg Bool.not hb74)) (kx (gsF rfl (congrArg Bool.not hb74)) (kx (gsF rfl (congrArg Bool.not hb74)) (kx (gsF rfl (congrArg Bool.not hb74)) (kx (gsF rfl (congrArg Bool.not hb74)) (kx (gsF rfl (congrArg Bool.not hb74)) (kx (gsF rfl (congrArg Bool.not hb74)) (kx (gsF rfl (congrArg Bool.not hb74)) (kx (gsF rfl (congrArg Bool.not hb74)) (kx (pkT rfl (congrArg Bool.not hb74) rfl) (Rn (hA h65 (hA h67 (hV (.bool true) rfl hZ))) fun e98 h100 h101 h102 => sN (cT h102 rfl (sq (Rg (kx (mvO rfl) (Rn (hV (.bool false) rfl hZ) fun e103 h105 => sN (xx (sR (bR (sR ?_))))))))))))))))))))
  clear h65 h66 h67 h68 h100 h101 h102
  obtain rfl := si h
  exact qR ⟨rfl, h105⟩
 refine cF h68 hb69 (xx (sE ?_))
 obtain rfl := si h
 exact qE ⟨rfl, trivial⟩
noncomputable def spec_l06Ok (a1 : Chain) : Option Bool :=
 ((spec_l06Name a1.Debtor).bind fun r5 =>
 if r5 = true then
  (spec_l01Ok a1.Stock).bind fun r8 =>
  if r8 = true then
   if a1.Stock.Stock = true then
    (spec_l00In (a1.Marks.length : Int) 1 30).bind fun r12 =>
    some (!r12)
   else
    some true
  else
   some true
 else
  some true).bind fun y31 =>
 if y31 = true then
  some false
 else
  (Lw (spec_l06Ok_b1 a1) (a1.Debtor, 0)).bind fun r => match r with
  | (.inl _) =>
   some false
  | (.inr _) =>
   some true
def spec_l06Ok_enc (r : Bool) : AV := .bool r
theorem spec_l06Ok_ok (a1 : Chain) (r : Bool) (h : spec_l06Ok a1 = some r) : Ev (fun k => CN k 56 [.pt none (.str a1.Debtor :: (.bool a1.Stock.Stock :: (.sl none (a1.Stock.Notches.map Notch.c) :: ((arC (cI .i8) 0 a1.Stock.Grain) ++ ((.sl none (a1.Marks.map Mark.c) :: []) : List AV)))))] []) (fun p => rRes p.2 p.1 = spec_l06Ok_enc r) := by
 unfold spec_l06Ok at h
 obtain ⟨r118, hr119, h⟩ := bind_some h
 refine Ev.enter (F := fun k => f56 (CN k) k) (fun k => callN_eq rfl Tryd.func56 rfl rfl rfl (by decide +kernel) (f56_eq _ _)) (sq (Rg (kx (mvO rfl) (Rn (hN rfl hZ) fun e1 h3 => sN (sq (sq ?_))))))
 refine Ev.cut (Q1 := spec_l06Ok_c1_Q a1 r118) (by
     have h := hr119
     obtain ⟨r5, hx4, h⟩ := bind_some h
     refine Rg (kx (mvO h3) (kx (ncP rfl) (kx (faP rfl ⟨ble rfl, blt rfl⟩ rfl) (kx (ldP rfl rfl) (kc (cl (v := .bool r5) rfl (cns rfl rfl) rfl (spec_l06Name_ok a1.Debtor _ hx4) nm) (kx (uNot rfl) (kx (mvO rfl) ?_)))))))
     rcases ite_some h with ⟨hb6, h⟩ | ⟨hb6, h⟩
     ·obtain ⟨r8, hx7, h⟩ := bind_some h
      refine kx (guF rfl (congrArg Bool.not hb6) (mvO h3)) (kx (guF rfl (congrArg Bool.not hb6) (ncP rfl)) (kx (guF rfl (congrArg Bool.not hb6) (faP rfl ⟨ble rfl, blt rfl⟩ rfl)) (kc (Ev.guF rfl (congrArg Bool.not hb6) (cl (v := .bool r8) rfl (cns rfl rfl) rfl (spec_l01Ok_ok a1.Stock _ hx7) nm)) (kx (guF rfl (congrArg Bool.not hb6) (uNot rfl)) (kx (pkF rfl (congrArg Bool.not hb6) rfl) (kx (mvO rfl) ?_))))))
      rcases ite_some h with ⟨hb9, h⟩ | ⟨hb9, h⟩
      ·refine kx (guF rfl (congrArg Bool.not hb9) (mvO h3)) (kx (guF rfl (congrArg Bool.not hb9) (ncP rfl)) (kx (guF rfl (congrArg Bool.not hb9) (faP rfl ⟨ble rfl, blt rfl⟩ rfl)) (kx (guF rfl (congrArg Bool.not hb9) (faP rfl ⟨ble rfl, blt rfl⟩ rfl)) (kx (guF rfl (congrArg Bool.not hb9) (ldP rfl rfl)) (kx (guF rfl (congrArg Bool.not hb9) (uNot rfl)) (kx (pkF rfl (congrArg Bool.not hb9) rfl) (kx (mvO rfl) ?_)))))))
       rcases ite_some h with ⟨hb10, h⟩ | ⟨hb10, h⟩
       ·obtain ⟨r12, hx11, h⟩ := bind_some h
        refine kx (guF rfl (congrArg Bool.not hb10) (mvO h3)) (kx (guF rfl (congrArg Bool.not hb10) (ncP rfl)) (kx (guF rfl (congrArg Bool.not hb10) (faP rfl ⟨ble rfl, blt rfl⟩ rfl)) (kx (guF rfl (congrArg Bool.not hb10) (ldP rfl rfl)) (kx (guF rfl (congrArg Bool.not hb10) (lnS Tryd.underlying58 rfl)) (kc (Ev.guF rfl (congrArg Bool.not hb10) (cl (v := .bool r12) rfl (cns rfl (cns rfl (cns rfl rfl))) rfl (spec_l00In_ok (a1.Marks.length : Int) 1 30 _ hx11) nm)) (kx (guF rfl (congrArg Bool.not hb10) (uNot rfl)) (kx (pkF rfl (congrArg Bool.not hb10) rfl) (Rn (hA h3 (hN rfl hZ)) fun e13 h15 h16 => ?_))))))))
        clear h3
        obtain rfl := si h
        exact kd (show spec_l06Ok_c1_Q a1 _ _ from ⟨rfl, h15, h16⟩)
       refine kx (gsF rfl (congrArg Bool.not hb10)) (kx (gsF rfl (congrArg Bool.not hb10)) (kx (gsF rfl (congrArg Bool.not hb10)) (kx (gsF rfl (congrArg Bool.not hb10)) (kx (gsF rfl (congrArg Bool.not hb10)) (kc (Ev.gsF rfl (congrArg Bool.not hb10)) (kx (gsF rfl (congrArg Bool.not hb10)) (kx (pkT rfl (congrArg Bool.not hb10) rfl) (Rn (hA h3 (hV (.bool true) rfl hZ)) fun e17 h19 h20 => ?_))))))))
       clear h3
       obtain rfl := si h
       exact kd (show spec_l06Ok_c1_Q a1 _ _ from ⟨rfl, h19, h20⟩)
      refine kx (gsF rfl (congrArg Bool.not hb9)) (kx (gsF rfl (congrArg Bool.not hb9)) (kx (gsF rfl (congrArg Bool.not hb9)) (kx (gsF rfl (congrArg Bool.not hb9)) (kx (gsF rfl (congrArg Bool.not hb9)) (kx (gsF rfl (congrArg Bool.not hb9)) (kx (pkT rfl (congrArg Bool.not hb9) rfl) (kx (mvO rfl) (kx (gsF rfl rfl) (kx (gsF rfl rfl) (kx (gsF rfl rfl) (kx (gsF rfl rfl) (kx (gsF rfl rfl) (kc (Ev.gsF rfl rfl) (kx (gsF rfl rfl) (kx (pkT rfl rfl rfl) (Rn (hA h3 (hV (.bool true) rfl hZ)) fun e21 h23 h24 => ?_))))))))))))))))
      clear h3
      obtain rfl := si h
      exact kd (show spec_l06Ok_c1_Q a1 _ _ from ⟨rfl, h23, h24⟩)
     refine kx (gsF rfl (congrArg Bool.not hb6)) (kx (gsF rfl (congrArg Bool.not hb6)) (kx (gsF rfl (congrArg Bool.not hb6)) (kc (Ev.gsF rfl (congrArg Bool.not hb6)) (kx (gsF rfl (congrArg Bool.not hb6)) (kx (pkT rfl (congrArg Bool.not hb6) rfl) (kx (mvO rfl) (kx (gsF rfl rfl) (kx (gsF rfl rfl) (kx (gsF rfl rfl) (kx (gsF rfl rfl) (kx (gsF rfl rfl) (kx (gsF rfl rfl) (kx (pkT rfl rfl rfl) (kx (mvO rfl) (kx (gsF rfl rfl) (kx (gsF rfl rfl) (kx (gsF rfl rfl) (kx (gsF rfl rfl) (kx (gsF rfl rfl) (kc (Ev.gsF rfl rfl) (kx (gsF rfl rfl) (kx (pkT rfl rfl rfl) (Rn (hA h3 (hV (.bool true) rfl hZ)) fun e25 h27 h28 => ?_)))))))))))))))))))))))
     clear h3
     obtain rfl := si h
     exact kd (show spec_l06Ok_c1_Q a1 _ _ from ⟨rfl, h27, h28⟩)) ?_
 revert h hr119
 revert r118
 intro y31 hr119 h
 intro x e29 M30 hq117
 obtain ⟨rfl, h32, h33⟩ := hq117
 refine sN ?_
 rcases ite_some h with ⟨hb34, h⟩ | ⟨hb34, h⟩
 ·refine cT h33 hb34 (sq (Rg (kx (mvO rfl) (Rn (hV (.bool false) rfl hZ) fun e35 h37 => sN (xx (sR ?_))))))
  clear h32 h33
  obtain rfl := si h
  exact eR (resT h37 res0) rfl
 obtain ⟨r106, hr107, h⟩ := bind_some h
 refine cF h33 hb34 (xx (sN (sq (Rg (kx (mvO h32) (kx (ncP rfl) (kx (faP rfl ⟨ble rfl, blt rfl⟩ rfl) (kx (ldP rfl rfl) (kx (mvO rfl) (Rn (hV (.pt none (.str a1.Debtor :: (.bool a1.Stock.Stock :: (.sl none (a1.Stock.Notches.map Notch.c) :: ((arC (cI .i8) 0 a1.Stock.Grain) ++ ((.sl none (a1.Marks.map Mark.c) :: []) : List AV)))))) h32 (hN rfl hZ)) fun e38 h40 h41 => sN (sq (sq (Rg (kx (mvO rfl) (Rn (hA h40 (hA h41 (hV (.int .i64 0) rfl hZ))) fun e42 h44 h45 h46 => sN (bl ?_))))))))))))))))
 clear h32 h33 h40 h41
 rcases r106 with _ | _
 ·refine Ev.loop (RS := spec_l06Ok_b1_RS a1) (RR := spec_l06Ok_b1_RR a1) (fun s r h e M hs => spec_l06Ok_b1_ok a1 s r h e M hs) hr107 ⟨h44, h45, h46⟩ fun x e109 M110 hq108 => ?_
  obtain ⟨rfl, h111⟩ := hq108
  refine bR (sR ?_)
  obtain rfl := si h
  exact eR (resT h111 res0) rfl
 refine Ev.loop (RS := spec_l06Ok_b1_RS a1) (RR := spec_l06Ok_b1_RR a1) (fun s r h e M hs => spec_l06Ok_b1_ok a1 s r h e M hs) hr107 ⟨h44, h45, h46⟩ fun x e112 M113 hq108 => ?_
 obtain ⟨rfl, _⟩ := hq108
 refine bE (sN (sq (Rg (kx (mvO rfl) (Rn (hV (.bool true) rfl hZ) fun e114 h116 => sN (xx ?_))))))
 obtain rfl := si h
 exact eR (resT h116 res0) rfl
/-! ### loop.example/g01263/laws.heldChain (f31) -/
noncomputable def laws_heldChain (a1 : Chain) (a2 : Int) : Option Int :=
 (laws_heldHalf a1.Stock a2).bind fun r6 =>
 if (decide (r6 < 0)) = true then
  some (-1)
 else
  (laws_heldMarkS a1.Marks r6).bind fun r21 =>
  if (decide (r21 < 0)) = true then
   some (-1)
  else
   some r21
def laws_heldChain_enc (r : Int) : AV := .int .i64 r
theorem laws_heldChain_ok (a1 : Chain) (a2 : Int) (r : Int) (h : laws_heldChain a1 a2 = some r) : Ev (fun k => CN k 31 [.agg (.str a1.Debtor :: (.bool a1.Stock.Stock :: (.sl none (a1.Stock.Notches.map Notch.c) :: ((arC (cI .i8) 0 a1.Stock.Grain) ++ ((.sl none (a1.Marks.map Mark.c) :: []) : List AV))))), .int .i64 a2] []) (fun p => rRes p.2 p.1 = laws_heldChain_enc r) := by
 unfold laws_heldChain at h
 obtain ⟨r6, hx5, h⟩ := bind_some h
 refine Ev.enter (F := fun k => f31 (CN k) k) (fun k => callN_eq rfl Tryd.func31 rfl rfl rfl (by decide +kernel) (f31_eq _ _)) (sq (Rg (kx (bxI rfl rfl ⟨rfl, rfl, by decide⟩) (kx (mvO rfl) (Rn (hN rfl (hN rfl hZ)) fun e1 h3 h4 => sN (sq (Rg (kx (faP h4 ⟨ble rfl, blt rfl⟩ rfl) (kx (ldPA rfl rfl rfl) (kx (mvO h3) (kc (cl (v := .int .i64 r6) rfl (cns rfl (cns rfl rfl)) rfl (laws_heldHalf_ok a1.Stock a2 _ hx5) nm) (kx (mvO rfl) (Rn (hN rfl (hA h4 hZ)) fun e7 h9 h10 => sN (sq (sq (Rg (kx (mvO h9) (kx (bLss rfl rfl) (Rn (hA h9 (hA h10 (hN rfl hZ))) fun e11 h13 h14 h15 => sN ?_)))))))))))))))))))
 clear h4 h10 h9
 rcases ite_some h with ⟨hb16, h⟩ | ⟨hb16, h⟩
 ·refine cT h15 hb16 (sq (Rg (kx (mvO rfl) (Rn (hV (.int .i64 (-1)) rfl hZ) fun e17 h19 => sN (xx (sR ?_))))))
  clear h13 h14 h15
  obtain rfl := si h
  exact eR (resT h19 res0) rfl
 obtain ⟨r21, hx20, h⟩ := bind_some h
 refine cF h15 hb16 (xx (sN (sq (Rg (kx (faP h14 ⟨ble rfl, blt rfl⟩ rfl) (kx (ldP rfl rfl) (kx (mvO h13) (kc (cl (v := .int .i64 r21) rfl (cns rfl (cns rfl rfl)) rfl (laws_heldMarkS_ok a1.Marks r6 _ hx20) nm) (kx (mvO rfl) (Rn (hN rfl hZ) fun e22 h24 => sN (sq (sq (Rg (kx (mvO h24) (kx (bLss rfl rfl) (Rn (hA h24 (hN rfl hZ)) fun e25 h27 h28 => sN ?_))))))))))))))))
 clear h14 h15 h24
 rcases ite_some h with ⟨hb29, h⟩ | ⟨hb29, h⟩
 ·refine cT h28 hb29 (sq (Rg (kx (mvO rfl) (Rn (hV (.int .i64 (-1)) rfl hZ) fun e30 h32 => sN (xx (sR ?_))))))
  clear h27 h28
  obtain rfl := si h
  exact eR (resT h32 res0) rfl
 refine cF h28 hb29 (xx (sN (sq (Rg (kx (mvO h27) (kx (mvO rfl) (Rn (hN rfl hZ) fun e33 h35 => sN (xx ?_))))))))
 clear h27 h28
 obtain rfl := si h
 exact eR (resT h35 res0) rfl
/-! ### strings.Cut (f73), by its contract -/
noncomputable def strings_Cut (a1 : List UInt8) (a2 : List UInt8) : Option ((List UInt8) × (List UInt8) × Bool) := cutI a1 a2
def strings_Cut_enc (r : (List UInt8) × (List UInt8) × Bool) : AV := .tup [.str r.1, .str r.2.1, .bool r.2.2]
theorem strings_Cut_ok (a1 : List UInt8) (a2 : List UInt8) (r : (List UInt8) × (List UInt8) × Bool) (h : strings_Cut a1 a2 = some r) : Ev (fun k => CN k 73 [.str a1, .str a2] []) (fun p => rRes p.2 p.1 = strings_Cut_enc r) := Ev.lib rfl rfl (lib_cut h) rfl
/-! ### loop.example/g01263/impl.ReadChain (f29) -/
abbrev impl_ReadChain_b1_S := Int × (List UInt8) × Bool × (Ar 16 Int) × (List Mark)
abbrev impl_ReadChain_b1_R := Unit ⊕ ((List UInt8) × Bool × (Ar 16 Int) × (List Mark))
def impl_ReadChain_b1_RS (r128 : List Notch) (x228 : List (List UInt8)) (i1_1 : Nat) (i1_2 : Nat) (i1_3 : Nat) (i1_4 : Nat) (s : impl_ReadChain_b1_S) (e : Env) (M : Mem) : Prop := eget e 2 = .loc i1_1 1 0 0 ∧ eget e 11 = .loc i1_2 1 0 0 ∧ eget e 57 = .sl none (x228.map cS) ∧ eget e 58 = .int .i64 (x228.length : Int) ∧ eget e 59 = .int .i64 s.1 ∧ M[i1_1]? = some (.live ⟨.box, 60, 20, [(.str ([] : List UInt8) :: (.bool false :: (.nils :: ((arC (cI .i8) 0 (Ar.rep 16 0)) ++ ((.nils :: []) : List AV)))))]⟩) ∧ M[i1_4]? = some (.live ⟨.grow, 156, 2, r128.map Notch.c⟩) ∧ M[i1_2]? = some (.live ⟨.box, 60, 20, [(.str s.2.1 :: (.bool s.2.2.1 :: (.lsl i1_4 r128.length 0 r128.length :: ((arC (cI .i8) 0 s.2.2.2.1) ++ ((.lsl i1_3 s.2.2.2.2.length 0 s.2.2.2.2.length :: []) : List AV)))))]⟩) ∧ M[i1_3]? = some (.live ⟨.grow, 107, 2, s.2.2.2.2.map Mark.c⟩)
def impl_ReadChain_b1_RR (r128 : List Notch) (x228 : List (List UInt8)) (i1_1 : Nat) (i1_2 : Nat) (i1_3 : Nat) (i1_4 : Nat) (r : impl_ReadChain_b1_R) (x : Ex) (e : Env) (M : Mem) : Prop :=
  match r with
  | (.inl g) => x = .ret ∧ eget e 2 = .loc i1_1 1 0 0 ∧ eget e 3 = .int .i64 5 ∧ M[i1_1]? = some (.live ⟨.box, 60, 20, [(.str ([] : List UInt8) :: (.bool false :: (.nils :: ((arC (cI .i8) 0 (Ar.rep 16 0)) ++ ((.nils :: []) : List AV)))))]⟩)
  | (.inr g) => x = .ext 0 ∧ eget e 2 = .loc i1_1 1 0 0 ∧ eget e 11 = .loc i1_2 1 0 0 ∧ M[i1_1]? = some (.live ⟨.box, 60, 20, [(.str ([] : List UInt8) :: (.bool false :: (.nils :: ((arC (cI .i8) 0 (Ar.rep 16 0)) ++ ((.nils :: []) : List AV)))))]⟩) ∧ M[i1_4]? = some (.live ⟨.grow, 156, 2, r128.map Notch.c⟩) ∧ M[i1_2]? = some (.live ⟨.box, 60, 20, [(.str g.1 :: (.bool g.2.1 :: (.lsl i1_4 r128.length 0 r128.length :: ((arC (cI .i8) 0 g.2.2.1) ++ ((.lsl i1_3 g.2.2.2.length 0 g.2.2.2.length :: []) : List AV)))))]⟩) ∧ M[i1_3]? = some (.live ⟨.grow, 107, 2, g.2.2.2.map Mark.c⟩)
noncomputable def impl_ReadChain_b1 (x228 : List (List UInt8)) : impl_ReadChain_b1_S → Option (impl_ReadChain_b1_S ⊕ impl_ReadChain_b1_R) := fun (s1_1, s1_2, s1_3, s1_4, s1_5) =>
 if (decide (s1_1 < (x228.length : Int))) = true then
  (rd x228 s1_1).bind fun x278 =>
  (strings_Cut x278 ([32] : List UInt8)).bind fun (r289, r290, r291) =>
  (impl_unhex r290).bind fun (r302, r303) =>
  if r303 = true then
   (app 24 s1_5 [(Mark.mk r289 r302)]).bind fun x325 =>
   some (.inl ((IntKind.i64.wrap (s1_1 + 1)), s1_2, s1_3, s1_4, x325))
  else
   some (.inr (.inl ()))
 else
  some (.inr (.inr (s1_2, s1_3, s1_4, s1_5)))
theorem impl_ReadChain_b1_ok (r128 : List Notch) (x228 : List (List UInt8)) (i1_1 : Nat) (i1_2 : Nat) (i1_3 : Nat) (i1_4 : Nat) (ne134 : i1_1 ≠ i1_4) (ne183 : i1_1 ≠ i1_2) (ne207 : i1_1 ≠ i1_3) (ne184 : i1_4 ≠ i1_2) (ne208 : i1_4 ≠ i1_3) (ne210 : i1_2 ≠ i1_3) (s : impl_ReadChain_b1_S) (r : impl_ReadChain_b1_S ⊕ impl_ReadChain_b1_R) (h : impl_ReadChain_b1 x228 s = some r) (e : Env) (M : Mem) (hs : impl_ReadChain_b1_RS r128 x228 i1_1 i1_2 i1_3 i1_4 s e M) : Ev (fun k => (f29_l10 (CN k) k (prune [2, 11, 57, 58, 59] e) M).bind fun q => some q) (bQ (impl_ReadChain_b1_RS r128 x228 i1_1 i1_2 i1_3 i1_4) (impl_ReadChain_b1_RR r128 x228 i1_1 i1_2 i1_3 i1_4) r) := by
 obtain ⟨s1_1, s1_2, s1_3, s1_4, s1_5⟩ := s
 unfold impl_ReadChain_b1 at h
 obtain ⟨h255, h257, h259, h261, h263, o265, o266, o267, o268⟩ := hs
 generalize he254 : prune [2, 11, 57, 58, 59] e = e253
 have h256 := envp he254.symm rfl h255
 have h258 := envp he254.symm rfl h257
 have h260 := envp he254.symm rfl h259
 have h262 := envp he254.symm rfl h261
 have h264 := envp he254.symm rfl h263
 refine sq (Rg (kx (bLss h264 h262) (Rn (hV (.loc i1_1 1 0 0) h256 (hV (.loc i1_2 1 0 0) h258 (hV (.sl none (x228.map cS)) h260 (hV (.int .i64 (x228.length : Int)) h262 (hV (.int .i64 s1_1) h264 (hN rfl hZ)))))) fun e269 h271 h272 h273 h274 h275 h276 => sN (sq ?_))))
 clear h256 h258 h260 h262 h264
 rcases ite_some h with ⟨hb277, h⟩ | ⟨hb277, h⟩
 ·obtain ⟨x278, hx279, h⟩ := bind_some h
  obtain ⟨⟨r289, r290, r291⟩, hx288, h⟩ := bind_some h
  obtain ⟨⟨r302, r303⟩, hx301, h⟩ := bind_some h
  refine cT h276 hb277 (xx (sN (sq (bl (sq (Rg (kx (ixS h273 h275 hx279 cS_fl) (kx (ldP rfl rfl) (kx (mvO rfl) (Rn (hA h271 (hA h272 (hN rfl (hA h273 (hA h274 (hA h275 hZ)))))) fun e280 h282 h283 h284 h285 h286 h287 => sN (sq (Rg (kx (mvO h284) (kc (cl (v := .tup [.str r289, .str r290, .bool r291]) rfl (cns rfl (cns rfl rfl)) rfl (strings_Cut_ok x278 ([32] : List UInt8) _ hx288) nm) (kx (mvO rfl) (kx (exT rfl rfl) (kx (exT rfl rfl) (kx (exT rfl rfl) (kx (mvO rfl) (kx (mvO rfl) (kx (mvO rfl) (Rn (hA h282 (hA h283 (hN rfl (hN rfl (hA h285 (hA h286 (hA h287 hZ))))))) fun e292 h294 h295 h296 h297 h298 h299 h300 => sN (sq (Rg (kx (mvO h297) (kc (cl (v := .tup [.int .u32 r302, .bool r303]) rfl (cns rfl rfl) rfl (impl_unhex_ok r290 _ hx301) nm) (kx (mvO rfl) (kx (exT rfl rfl) (kx (exT rfl rfl) (kx (mvO rfl) (kx (mvO rfl) (Rn (hA h294 (hA h295 (hA h296 (hN rfl (hN rfl (hA h298 (hA h299 (hA h300 hZ)))))))) fun e304 h306 h307 h308 h309 h310 h311 h312 h313 => sN (sq (sq (Rg (kx (mvO h310) (kx (uNot rfl) (Rn (hA h306 (hA h307 (hA h308 (hA h309 (hA h311 (hA h312 (hA h313 (hN rfl hZ)))))))) fun e314 h316 h317 h318 h319 h320 h321 h322 h323 => sN ?_))))))))))))))))))))))))))))))))))))))
  clear h271 h272 h273 h274 h275 h276 h282 h283 h284 h285 h286 h287 h294 h295 h296 h297 h298 h299 h300 h306 h307 h308 h309 h310 h311 h312 h313
  rcases ite_some h with ⟨hb324, h⟩ | ⟨hb324, h⟩
  ·obtain ⟨x325, hx326, h⟩ := bind_some h
   refine cF h323 (congrArg Bool.not hb324) (xx (sN (Rg (kx (faO h317 o267 rfl) (kx (ldO rfl o267 rfl rfl rfl) (kx (mvO h318) (kx (mvO h319) (kx (bldT zero107 (cns (pr3 rfl) (cns (pr3 rfl) rfl)) (fill1 ⟨rfl, ble rfl⟩ rfl rfl (fill1 ⟨rfl, ble rfl⟩ rfl rfl (fill0 rfl)))) (kx (litI (cns rfl rfl) rfl ⟨rfl, by decide⟩) (kw (apO rfl o268 rfl (elT (c := Mark.c) (xs := [(Mark.mk r289 r302)]) rfl) hx326 Mark.fl (by decide)) fun M327 hM328 => ?_))))))))))
   have o329 := set_ne hM328 ne207 o265
   have o330 := set_ne hM328 ne208 o266
   have o331 := set_ne hM328 ne210 o267
   have o332 : M327[i1_3]? = some (.live ⟨.grow, 107, 2, x325.map Mark.c⟩) := set_same hM328 o268
   refine kx (faO h317 o331 rfl) (kw (stOK rfl rfl o331 rfl rfl ⟨rfl, ble rfl⟩ (all1 (okL o332 (by simp)) all0) rfl) fun M333 hM334 => ?_)
   have o335 := set_ne hM334 ne183 o329
   have o336 := set_ne hM334 ne184 o330
   have o337 : M333[i1_2]? = some (.live ⟨.box, 60, 20, [(.str s1_2 :: (.bool s1_3 :: (.lsl i1_4 r128.length 0 r128.length :: ((arC (cI .i8) 0 s1_4) ++ ((.lsl i1_3 x325.length 0 x325.length :: []) : List AV)))))]⟩) := set_same hM334 o331
   have o338 := set_ne hM334 (Ne.symm ne210) o332
   refine Rn (hA h316 (hA h317 (hA h320 (hA h321 (hA h322 hZ))))) fun e339 h341 h342 h343 h344 h345 => bN (sN (Rg (kx (bAdd h345 rfl) (kx (mvO rfl) (Rn (hA h341 (hA h342 (hA h343 (hA h344 (hN rfl hZ))))) fun e346 h348 h349 h350 h351 h352 => ?_)))))
   clear h316 h317 h318 h319 h320 h321 h322 h323 h341 h342 h343 h344
   obtain rfl := si h
   exact qN ⟨h348, h349, h350, h351, h352, o335, o336, (by simpa using o337), o338⟩
  refine cT h323 (congrArg Bool.not hb324) (sq (Rg (kx (bldT zero60 rfl (fill0 rfl)) (kw (stOK h316 rfl o265 rfl rfl ⟨rfl, ble rfl⟩ rfl rfl) fun M353 hM354 => ?_))))
  have o355 : M353[i1_1]? = some (.live ⟨.box, 60, 20, [(.str ([] : List UInt8) :: (.bool false :: (.nils :: ((arC (cI .i8) 0 (Ar.rep 16 0)) ++ ((.nils :: []) : List AV)))))]⟩) := set_same hM354 o265
  have o356 := set_ne hM354 (Ne.symm ne134) o266
  have o357 := set_ne hM354 (Ne.symm ne183) o267
  have o358 := set_ne hM354 (Ne.symm ne207) o268
  refine kx (mvO rfl) (Rn (hA h316 (hV (.int .i64 5) rfl hZ)) fun e359 h361 h362 => sN (xx (sR (bR (sR ?_)))))
  clear h316 h317 h318 h319 h320 h321 h322 h323
  obtain rfl := si h
  exact qR ⟨rfl, h361, h362, o355⟩
 refine cF h276 hb277 (xx (sE ?_))
 obtain rfl := si h
 exact qE ⟨rfl, h271, h272, o265, o266, (by simpa using o267), o268⟩
noncomputable def impl_ReadChain (a1 : List UInt8) : Option (((Ar 16 Int)) ⊕ ((List UInt8) × Bool × (List Notch) × (Ar 16 Int) × (List Mark))) :=
 (impl_linesOf a1).bind fun r => match r with
 | (.inl _) =>
  some (.inl (Ar.rep 16 0))
 | (.inr (r27, r28)) =>
  if r28 = true then
   if (decide ((r27.length : Int) < 2)) = true then
    some (.inl (Ar.rep 16 0))
   else
    if (decide ((r27.length : Int) > 31)) = true then
     some (.inl (Ar.rep 16 0))
    else
     (rd r27 0).bind fun x61 =>
     (strings_Cut x61 ([32] : List UInt8)).bind fun (r64, r65, r66) =>
     (impl_ReadHalf r65).bind fun r => match r with
     | (.inl r74) =>
      some (.inl (Ar.rep 16 0))
     | (.inr (r127, r128, r129)) =>
      (slc r27 1 (r27.length : Int)).bind fun x228 =>
      (Lw (impl_ReadChain_b1 x228) (0, r64, r127, r129, ([] : List Mark))).bind fun r => match r with
      | (.inl _) =>
       some (.inl (Ar.rep 16 0))
      | (.inr (y373, y374, y375, y376)) =>
       (impl_ValidChain (Chain.mk y373 (Half.mk y374 r128 y375) y376)).bind fun r384 =>
       if r384 = true then
        some (.inr (y373, y374, r128, y375, y376))
       else
        some (.inl (Ar.rep 16 0))
  else
   some (.inl (Ar.rep 16 0))
def impl_ReadChain_enc (r : ((Ar 16 Int)) ⊕ ((List UInt8) × Bool × (List Notch) × (Ar 16 Int) × (List Mark))) : AV :=
  match r with
  | (.inl g) => .tup [.agg (.str ([] : List UInt8) :: (.bool false :: (.nils :: ((arC (cI .i8) 0 g) ++ ((.nils :: []) : List AV))))), .int .i64 5]
  | (.inr g) => .tup [.agg (.str g.1 :: (.bool g.2.1 :: (.sl (some 156) (g.2.2.1.map Notch.c) :: ((arC (cI .i8) 0 g.2.2.2.1) ++ ((.sl (some 107) (g.2.2.2.2.map Mark.c) :: []) : List AV))))), .int .i64 0]
theorem impl_ReadChain_ok (a1 : List UInt8) (r : ((Ar 16 Int)) ⊕ ((List UInt8) × Bool × (List Notch) × (Ar 16 Int) × (List Mark))) (h : impl_ReadChain a1 = some r) : Ev (fun k => CN k 29 [.str a1] []) (fun p => rRes p.2 p.1 = impl_ReadChain_enc r) := by
 unfold impl_ReadChain at h
 refine Ev.enter (F := fun k => f29 (CN k) k) (fun k => callN_eq rfl Tryd.func29 rfl rfl rfl (by decide +kernel) (f29_eq _ _)) (sq (Rg (ku (alO zero60) fun M2 hM3 => ?_)))
 have o4 : M2[([] : Mem).length]? = some (.live ⟨.box, 60, 20, [(.str ([] : List UInt8) :: (.bool false :: (.nils :: ((arC (cI .i8) 0 (Ar.rep 16 0)) ++ ((.nils :: []) : List AV)))))]⟩) := push_new hM3
 obtain ⟨q424, hx9, h⟩ := bind_some h
 refine kx (mvO rfl) (Rn (hN rfl (hV (.loc ([] : Mem).length 1 0 0) rfl hZ)) fun e5 h7 h8 => sN (sq (Rg (kx (mvO h7) ?_))))
 rcases q424 with _ | ⟨r27, r28⟩
 ·refine kc (cl (v := .tup [.nils, .bool true]) rfl (cns rfl rfl) rfl (impl_linesOf_ok a1 _ hx9) nm) (kx (mvO rfl) (kx (exT rfl rfl) (kx (exT rfl rfl) (kx (mvO rfl) (kx (mvO rfl) (Rn (hA h8 (hV .nils rfl (hV (.bool true) rfl hZ))) fun e10 h12 h13 h14 => sN (sq (sq (Rg (kx (mvO h14) (kx (uNot rfl) (kx (mvO rfl) (kx (guF rfl rfl (mvO h13)) (kx (guF rfl rfl (lnN Tryd.underlying86 rfl)) (kx (guF rfl rfl (bLss rfl rfl)) (kx (pkF rfl rfl rfl) (kx (mvO rfl) (kx (gsF rfl rfl) (kx (gsF rfl rfl) (kx (gsF rfl rfl) (kx (pkT rfl rfl rfl) (Rn (hA h12 (hA h13 (hV (.bool true) rfl hZ))) fun e15 h17 h18 h19 => sN (cT h19 rfl (sq (Rg (kx (bldT zero60 rfl (fill0 rfl)) (kw (stOK h17 rfl o4 rfl rfl ⟨rfl, ble rfl⟩ rfl rfl) fun M20 hM21 => ?_)))))))))))))))))))))))))))
  clear h7 h8 h12 h13 h14
  have o22 : M20[([] : Mem).length]? = some (.live ⟨.box, 60, 20, [(.str ([] : List UInt8) :: (.bool false :: (.nils :: ((arC (cI .i8) 0 (Ar.rep 16 0)) ++ ((.nils :: []) : List AV)))))]⟩) := set_same hM21 o4
  refine kx (mvO rfl) (Rn (hA h17 (hV (.int .i64 5) rfl hZ)) fun e23 h25 h26 => sN (xx (sR ?_)))
  clear h17 h18 h19
  obtain rfl := si h
  exact eR (resC (ag := true) (sz := 20) ⟨by kernel_rfl, by kernel_rfl, by kernel_rfl⟩ (ldOA (cs' := (.str ([] : List UInt8) :: (.bool false :: (.nils :: ((arC (cI .i8) 0 (Ar.rep 16 0)) ++ ((.nils :: []) : List AV)))))) h25 o22 rfl rfl (ble rfl) rfl) (resT h26 res0)) rfl
 refine kc (cl (v := .tup [.sl none (r27.map cS), .bool r28]) rfl (cns rfl rfl) rfl (impl_linesOf_ok a1 _ hx9) nm) (kx (mvO rfl) (kx (exT rfl rfl) (kx (exT rfl rfl) (kx (mvO rfl) (kx (mvO rfl) (Rn (hA h8 (hN rfl (hN rfl hZ))) fun e29 h31 h32 h33 => sN (sq (sq (Rg (kx (mvO h33) (kx (uNot rfl) (kx (mvO rfl) ?_))))))))))))
 clear h7 h8
 rcases ite_some h with ⟨hb34, h⟩ | ⟨hb34, h⟩
 ·refine kx (guF rfl (congrArg Bool.not hb34) (mvO h32)) (kx (guF rfl (congrArg Bool.not hb34) (lnS Tryd.underlying86 rfl)) (kx (guF rfl (congrArg Bool.not hb34) (bLss rfl rfl)) (kx (pkF rfl (congrArg Bool.not hb34) rfl) (kx (mvO rfl) ?_))))
  rcases ite_some h with ⟨hb35, h⟩ | ⟨hb35, h⟩
  ·refine kx (gsF rfl hb35) (kx (gsF rfl hb35) (kx (gsF rfl hb35) (kx (pkT rfl hb35 rfl) (Rn (hA h31 (hA h32 (hV (.bool true) rfl hZ))) fun e36 h38 h39 h40 => sN (cT h40 rfl (sq (Rg (kx (bldT zero60 rfl (fill0 rfl)) (kw (stOK h38 rfl o4 rfl rfl ⟨rfl, ble rfl⟩ rfl rfl) fun M41 hM42 => ?_)))))))))
   clear h31 h32 h33
   have o43 : M41[([] : Mem).length]? = some (.live ⟨.box, 60, 20, [(.str ([] : List UInt8) :: (.bool false :: (.nils :: ((arC (cI .i8) 0 (Ar.rep 16 0)) ++ ((.nils :: []) : List AV)))))]⟩) := set_same hM42 o4
   refine kx (mvO rfl) (Rn (hA h38 (hV (.int .i64 5) rfl hZ)) fun e44 h46 h47 => sN (xx (sR ?_)))
   clear h38 h39 h40
   obtain rfl := si h
   exact eR (resC (ag := true) (sz := 20) ⟨by kernel_rfl, by kernel_rfl, by kernel_rfl⟩ (ldOA (cs' := (.str ([] : List UInt8) :: (.bool false :: (.nils :: ((arC (cI .i8) 0 (Ar.rep 16 0)) ++ ((.nils :: []) : List AV)))))) h46 o43 rfl rfl (ble rfl) rfl) (resT h47 res0)) rfl
  refine kx (guF rfl hb35 (mvO h32)) (kx (guF rfl hb35 (lnS Tryd.underlying86 rfl)) (kx (guF rfl hb35 (bGtr rfl rfl)) (kx (pkF rfl hb35 rfl) (Rn (hA h31 (hA h32 (hN rfl hZ))) fun e48 h50 h51 h52 => sN ?_))))
  clear h31 h32 h33
  rcases ite_some h with ⟨hb53, h⟩ | ⟨hb53, h⟩
  ·refine cT h52 hb53 (sq (Rg (kx (bldT zero60 rfl (fill0 rfl)) (kw (stOK h50 rfl o4 rfl rfl ⟨rfl, ble rfl⟩ rfl rfl) fun M54 hM55 => ?_))))
   have o56 : M54[([] : Mem).length]? = some (.live ⟨.box, 60, 20, [(.str ([] : List UInt8) :: (.bool false :: (.nils :: ((arC (cI .i8) 0 (Ar.rep 16 0)) ++ ((.nils :: []) : List AV)))))]⟩) := set_same hM55 o4
   refine kx (mvO rfl) (Rn (hA h50 (hV (.int .i64 5) rfl hZ)) fun e57 h59 h60 => sN (xx (sR ?_)))
   clear h50 h51 h52
   obtain rfl := si h
   exact eR (resC (ag := true) (sz := 20) ⟨by kernel_rfl, by kernel_rfl, by kernel_rfl⟩ (ldOA (cs' := (.str ([] : List UInt8) :: (.bool false :: (.nils :: ((arC (cI .i8) 0 (Ar.rep 16 0)) ++ ((.nils :: []) : List AV)))))) h59 o56 rfl rfl (ble rfl) rfl) (resT h60 res0)) rfl
  obtain ⟨x61, hx62, h⟩ := bind_some h
  obtain ⟨⟨r64, r65, r66⟩, hx63, h⟩ := bind_some h
  obtain ⟨q411, hx73, h⟩ := bind_some h
  refine cF h52 hb53 (xx (sN (sq (Rg (kx (mvO h51) (kx (ixS rfl rfl hx62 cS_fl) (kx (ldP rfl rfl) (kc (cl (v := .tup [.str r64, .str r65, .bool r66]) rfl (cns rfl (cns rfl rfl)) rfl (strings_Cut_ok x61 ([32] : List UInt8) _ hx63) nm) (kx (mvO rfl) (kx (exT rfl rfl) (kx (exT rfl rfl) (kx (exT rfl rfl) (kx (mvO rfl) (kx (mvO rfl) (kx (mvO rfl) (Rn (hA h50 (hA h51 (hN rfl (hN rfl hZ)))) fun e67 h69 h70 h71 h72 => sN (sq (Rg (kx (mvO h72) ?_)))))))))))))))))))
  clear h50 h51 h52
  rcases q411 with r74 | ⟨r127, r128, r129⟩
  ·refine Ev.nxcp (Ev.callT (v := .tup [.agg (.bool false :: (.nils :: ((arC (cI .i8) 0 r74) ++ ([] : List AV)))), .int .i64 5]) rfl (cns rfl rfl) rfl (impl_ReadHalf_ok r65 _ hx73) (th_gen (v' := .tup [.agg (.bool false :: (.nils :: ((arC (cI .i8) 0 r74) ++ ([] : List AV)))), .int .i64 5]) (l := []) (own_tup (oa1 (own2_agg (oa1 rfl (oa1 rfl (oaA (fun _ => own1_flat) (fun _ => rfl) oa0)))) (oa1 rfl oa0))) (by simp [thaw, thaw2, thaw1, thawL, thA (c := (cI .i8)) (fun _ => rfl), thA0 (c := (cI .i8)) (fun _ => rfl)]) rfl rfl)) fun M75 hM76 => ?_
   have o77 := push_old hM76 o4
   refine kx (mvO rfl) (kx (exT rfl rfl) (kx (exT rfl rfl) (Ev.nxpushL (gho_one (alO zero57) nty57 (ghc rfl (ghn (gha (arC_nn (fun _ => rfl)) (arC_len (fun x => ((cI_fl _) x).1)) ghz) co156)) (by decide)) fun M80 hM81 => ?_)))
   have o82 := push_old hM81 o77
   have ne83 : ([] : Mem).length ≠ M75.length := by have := lt_of_get (M := M75) o77; omega
   have o84 : M80[M75.length]? = some (.live ⟨.box, 57, 18, [(.bool false :: (.lsl (M75.length + 1) ([] : List Notch).length 0 ([] : List Notch).length :: ((arC (cI .i8) 0 (Ar.rep 16 0)) ++ ([] : List AV))))]⟩) := push_at hM81 0 rfl
   have ne85 : ([] : Mem).length ≠ (M75.length + 1) := by have := lt_of_get (M := M75) o77; omega
   have ne86 : M75.length ≠ (M75.length + 1) := by omega
   have o87 : M80[(M75.length + 1)]? = some (.live ⟨.grow, 156, 2, ([] : List Notch).map Notch.c⟩) := push_at hM81 1 rfl
   obtain ⟨M88, hM89⟩ : ∃ x, x = M80 ++ ([⟨.grow, 156, 2, ([] : List Notch).map Notch.c⟩] : List Ob).map Ent.live := ⟨_, rfl⟩
   have o91 := push_old hM89 o82
   have o92 := push_old hM89 o84
   have o93 := push_old hM89 o87
   have ne94 : ([] : Mem).length ≠ M80.length := by have := lt_of_get (M := M80) o82; omega
   have ne95 : M75.length ≠ M80.length := by have := lt_of_get (M := M80) o84; omega
   have ne96 : (M75.length + 1) ≠ M80.length := by have := lt_of_get (M := M80) o87; omega
   have o97 : M88[M80.length]? = some (.live ⟨.grow, 156, 2, ([] : List Notch).map Notch.c⟩) := push_at hM89 0 rfl
   refine kw (stG (kp := true) hM89 rfl nty57 (ghc rfl (ghn (gha (arC_nn (fun _ => rfl)) (arC_len (fun x => ((cI_fl _) x).1)) ghz) co156)) (by decide) (stOK rfl rfl o92 rfl rfl ⟨rfl, ble rfl⟩ (all1 rfl (all1 (okL o97 (by simp)) (oaL (rest := []) (fun _ => rfl) all0))) rfl)) fun M98 hM99 => ?_
   have o100 := set_ne hM99 ne83 o91
   have o101 : M98[M75.length]? = some (.live ⟨.box, 57, 18, [(.bool false :: (.lsl M80.length ([] : List Notch).length 0 ([] : List Notch).length :: ((arC (cI .i8) 0 r74) ++ ([] : List AV))))]⟩) := set_same hM99 o92
   have o102 := set_ne hM99 (Ne.symm ne86) o93
   have o103 := set_ne hM99 (Ne.symm ne95) o97
   refine kx (mvO rfl) (Rn (hA h69 (hA h70 (hA h71 (hV (.loc M75.length 1 0 0) rfl (hV (.int .i64 5) rfl hZ))))) fun e104 h106 h107 h108 h109 h110 => sN (sq (sq (Rg (kx (mvO h110) (kx (bNeq rfl rfl) (Rn (hA h106 (hA h107 (hA h108 (hA h109 (hV (.bool true) rfl hZ))))) fun e111 h113 h114 h115 h116 h117 => sN (cT h117 rfl (sq (Rg (kx (bldT zero60 rfl (fill0 rfl)) (kw (stOK h113 rfl o100 rfl rfl ⟨rfl, ble rfl⟩ rfl rfl) fun M118 hM119 => ?_))))))))))))
   clear h69 h70 h71 h72 h106 h107 h108 h109 h110
   have o120 : M118[([] : Mem).length]? = some (.live ⟨.box, 60, 20, [(.str ([] : List UInt8) :: (.bool false :: (.nils :: ((arC (cI .i8) 0 (Ar.rep 16 0)) ++ ((.nils :: []) : List AV)))))]⟩) := set_same hM119 o100
   have o121 := set_ne hM119 (Ne.symm ne83) o101
   have o122 := set_ne hM119 (Ne.symm ne94) o103
   refine kx (mvO rfl) (Rn (hA h113 (hV (.int .i64 5) rfl hZ)) fun e123 h125 h126 => sN (xx (sR ?_)))
   clear h113 h114 h115 h116 h117
   obtain rfl := si h
   exact eR (resC (ag := true) (sz := 20) ⟨by kernel_rfl, by kernel_rfl, by kernel_rfl⟩ (ldOA (cs' := (.str ([] : List UInt8) :: (.bool false :: (.nils :: ((arC (cI .i8) 0 (Ar.rep 16 0)) ++ ((.nils :: []) : List AV)))))) h125 o120 rfl rfl (ble rfl) rfl) (resT h126 res0)) rfl
  refine Ev.nxcp (Ev.callT (v := .tup [.agg (.bool r127 :: (.sl (some 156) (r128.map Notch.c) :: ((arC (cI .i8) 0 r129) ++ ([] : List AV)))), .int .i64 0]) rfl (cns rfl rfl) rfl (impl_ReadHalf_ok r65 _ hx73) (th_gen (v' := .tup [.agg (.bool r127 :: (.lsl M2.length r128.length 0 r128.length :: ((arC (cI .i8) 0 r129) ++ ([] : List AV)))), .int .i64 0]) (l := [⟨.grow, 156, 2, r128.map Notch.c⟩]) (own_tup (oa1 (own2_agg (oa1 rfl (oa1 (own1_row' (c := Notch.c) Notch.flF) (oaA (fun _ => own1_flat) (fun _ => rfl) oa0)))) (oa1 rfl oa0))) (by simp [thaw, thaw2, thaw1, thawL, co156, thA (c := (cI .i8)) (fun _ => rfl), thA0 (c := (cI .i8)) (fun _ => rfl)]) rfl rfl)) fun M131 hM132 => ?_
  have o133 := push_old hM132 o4
  have ne134 : ([] : Mem).length ≠ M2.length := by have := lt_of_get (M := M2) o4; omega
  have o135 : M131[M2.length]? = some (.live ⟨.grow, 156, 2, r128.map Notch.c⟩) := push_at hM132 0 rfl
  refine kx (mvO rfl) (kx (exT rfl rfl) (kx (exT rfl rfl) (Ev.nxpushL (gho_one (alO zero57) nty57 (ghc rfl (ghn (gha (arC_nn (fun _ => rfl)) (arC_len (fun x => ((cI_fl _) x).1)) ghz) co156)) (by decide)) fun M138 hM139 => ?_)))
  have o140 := push_old hM139 o133
  have o141 := push_old hM139 o135
  have ne142 : ([] : Mem).length ≠ M131.length := by have := lt_of_get (M := M131) o133; omega
  have ne143 : M2.length ≠ M131.length := by have := lt_of_get (M := M131) o135; omega
  have o144 : M138[M131.length]? = some (.live ⟨.box, 57, 18, [(.bool false :: (.lsl (M131.length + 1) ([] : List Notch).length 0 ([] : List Notch).length :: ((arC (cI .i8) 0 (Ar.rep 16 0)) ++ ([] : List AV))))]⟩) := push_at hM139 0 rfl
  have ne145 : ([] : Mem).length ≠ (M131.length + 1) := by have := lt_of_get (M := M131) o133; omega
  have ne146 : M2.length ≠ (M131.length + 1) := by have := lt_of_get (M := M131) o135; omega
  have ne147 : M131.length ≠ (M131.length + 1) := by omega
  have o148 : M138[(M131.length + 1)]? = some (.live ⟨.grow, 156, 2, ([] : List Notch).map Notch.c⟩) := push_at hM139 1 rfl
  obtain ⟨M149, hM150⟩ : ∃ x, x = M138 ++ ([] : List Ob).map Ent.live := ⟨_, rfl⟩
  have o151 := push_old hM150 o140
  have o152 := push_old hM150 o141
  have o153 := push_old hM150 o144
  have o154 := push_old hM150 o148
  refine kw (stG (kp := true) hM150 rfl nty57 (ghc rfl (ghc rfl (gha (arC_nn (fun _ => rfl)) (arC_len (fun x => ((cI_fl _) x).1)) ghz))) (by decide) (stOK rfl rfl o153 rfl rfl ⟨rfl, ble rfl⟩ (all1 rfl (all1 (okL o152 (by simp)) (oaL (rest := []) (fun _ => rfl) all0))) rfl)) fun M155 hM156 => ?_
  have o157 := set_ne hM156 ne142 o151
  have o158 := set_ne hM156 ne143 o152
  have o159 : M155[M131.length]? = some (.live ⟨.box, 57, 18, [(.bool r127 :: (.lsl M2.length r128.length 0 r128.length :: ((arC (cI .i8) 0 r129) ++ ([] : List AV))))]⟩) := set_same hM156 o153
  have o160 := set_ne hM156 (Ne.symm ne147) o154
  refine kx (mvO rfl) (Rn (hA h69 (hA h70 (hA h71 (hV (.loc M131.length 1 0 0) rfl (hV (.int .i64 0) rfl hZ))))) fun e161 h163 h164 h165 h166 h167 => sN (sq (sq (Rg (kx (mvO h167) (kx (bNeq rfl rfl) (Rn (hA h163 (hA h164 (hA h165 (hA h166 (hV (.bool false) rfl hZ))))) fun e168 h170 h171 h172 h173 h174 => sN (cF h174 rfl (xx (sN (sq (Rg (kx (mvO h172) (kx (ldOA (cs' := (.bool r127 :: (.lsl M2.length r128.length 0 r128.length :: ((arC (cI .i8) 0 r129) ++ ([] : List AV))))) h173 o159 rfl rfl (ble rfl) rfl) (kx (bldT zero60 (cns (pr3 rfl) (cns (pr3 rfl) rfl)) (fill1 (cs' := (.str r64 :: (.bool false :: (.nils :: ((arC (cI .i8) 0 (Ar.rep 16 0)) ++ ((.nils :: []) : List AV)))))) ⟨rfl, ble rfl⟩ rfl rfl (fill1 (cs' := (.str r64 :: (.bool r127 :: (.lsl M2.length r128.length 0 r128.length :: ((arC (cI .i8) 0 r129) ++ ((.nils :: []) : List AV)))))) ⟨rfl, ble rfl⟩ (all1 rfl (all1 (okL o158 (by simp)) (oaP (fun _ => rfl) all0))) rfl (fill0 rfl)))) (Ev.nxpushL (gho_one (alO zero60) nty60 (ghc rfl (ghc rfl (ghn (gha (arC_nn (fun _ => rfl)) (arC_len (fun x => ((cI_fl _) x).1)) (ghn ghz co107)) co156))) (by decide)) fun M178 hM179 => ?_))))))))))))))))
  clear h69 h70 h71 h72 h163 h164 h165 h166 h167
  have o180 := push_old hM179 o157
  have o181 := push_old hM179 o158
  have o182 := push_old hM179 o159
  have ne183 : ([] : Mem).length ≠ M155.length := by have := lt_of_get (M := M155) o157; omega
  have ne184 : M2.length ≠ M155.length := by have := lt_of_get (M := M155) o158; omega
  have ne185 : M131.length ≠ M155.length := by have := lt_of_get (M := M155) o159; omega
  have o186 : M178[M155.length]? = some (.live ⟨.box, 60, 20, [(.str ([] : List UInt8) :: (.bool false :: (.lsl (M155.length + 1) ([] : List Notch).length 0 ([] : List Notch).length :: ((arC (cI .i8) 0 (Ar.rep 16 0)) ++ ((.lsl (M155.length + 2) ([] : List Mark).length 0 ([] : List Mark).length :: []) : List AV)))))]⟩) := push_at hM179 0 rfl
  have ne187 : ([] : Mem).length ≠ (M155.length + 1) := by have := lt_of_get (M := M155) o157; omega
  have ne188 : M2.length ≠ (M155.length + 1) := by have := lt_of_get (M := M155) o158; omega
  have ne189 : M131.length ≠ (M155.length + 1) := by have := lt_of_get (M := M155) o159; omega
  have ne190 : M155.length ≠ (M155.length + 1) := by omega
  have o191 : M178[(M155.length + 1)]? = some (.live ⟨.grow, 156, 2, ([] : List Notch).map Notch.c⟩) := push_at hM179 1 rfl
  have ne192 : ([] : Mem).length ≠ (M155.length + 2) := by have := lt_of_get (M := M155) o157; omega
  have ne193 : M2.length ≠ (M155.length + 2) := by have := lt_of_get (M := M155) o158; omega
  have ne194 : M131.length ≠ (M155.length + 2) := by have := lt_of_get (M := M155) o159; omega
  have ne195 : M155.length ≠ (M155.length + 2) := by omega
  have ne196 : (M155.length + 1) ≠ (M155.length + 2) := by omega
  have o197 : M178[(M155.length + 2)]? = some (.live ⟨.grow, 107, 2, ([] : List Mark).map Mark.c⟩) := push_at hM179 2 rfl
  obtain ⟨M198, hM199⟩ : ∃ x, x = M178 ++ ([⟨.grow, 107, 2, ([] : List Mark).map Mark.c⟩] : List Ob).map Ent.live := ⟨_, rfl⟩
  have o201 := push_old hM199 o180
  have o202 := push_old hM199 o181
  have o203 := push_old hM199 o182
  have o204 := push_old hM199 o186
  have o205 := push_old hM199 o191
  have o206 := push_old hM199 o197
  have ne207 : ([] : Mem).length ≠ M178.length := by have := lt_of_get (M := M178) o180; omega
  have ne208 : M2.length ≠ M178.length := by have := lt_of_get (M := M178) o181; omega
  have ne209 : M131.length ≠ M178.length := by have := lt_of_get (M := M178) o182; omega
  have ne210 : M155.length ≠ M178.length := by have := lt_of_get (M := M178) o186; omega
  have ne211 : (M155.length + 1) ≠ M178.length := by have := lt_of_get (M := M178) o191; omega
  have ne212 : (M155.length + 2) ≠ M178.length := by have := lt_of_get (M := M178) o197; omega
  have o213 : M198[M178.length]? = some (.live ⟨.grow, 107, 2, ([] : List Mark).map Mark.c⟩) := push_at hM199 0 rfl
  refine kw (stG (kp := true) hM199 rfl nty60 (ghc rfl (ghc rfl (ghc rfl (gha (arC_nn (fun _ => rfl)) (arC_len (fun x => ((cI_fl _) x).1)) (ghn ghz co107))))) (by decide) (stOK rfl rfl o204 rfl rfl ⟨rfl, ble rfl⟩ (all1 rfl (all1 rfl (all1 (okL o202 (by simp)) (oaL (rest := [.lsl M178.length ([] : List Mark).length 0 ([] : List Mark).length]) (fun _ => rfl) (all1 (okL o213 (by simp)) all0))))) rfl)) fun M214 hM215 => ?_
  have o216 := set_ne hM215 ne183 o201
  have o217 := set_ne hM215 ne184 o202
  have o218 := set_ne hM215 ne185 o203
  have o219 : M214[M155.length]? = some (.live ⟨.box, 60, 20, [(.str r64 :: (.bool r127 :: (.lsl M2.length r128.length 0 r128.length :: ((arC (cI .i8) 0 r129) ++ ((.lsl M178.length ([] : List Mark).length 0 ([] : List Mark).length :: []) : List AV)))))]⟩) := set_same hM215 o204
  have o220 := set_ne hM215 (Ne.symm ne190) o205
  have o221 := set_ne hM215 (Ne.symm ne195) o206
  have o222 := set_ne hM215 (Ne.symm ne210) o213
  obtain ⟨x228, hx229, h⟩ := bind_some h
  obtain ⟨r363, hr364, h⟩ := bind_some h
  refine Rn (hA h170 (hA h171 (hV (.loc M155.length 1 0 0) rfl hZ))) fun e223 h225 h226 h227 => sN (sq (sq (Rg (kx (mvO h226) (kx (slS rfl (bnd1 rfl) rfl hx229 cS_fl) (kx (lnS Tryd.underlying86 rfl) (kx (mvO rfl) (Rn (hA h225 (hA h227 (hN rfl (hN rfl (hV (.int .i64 0) rfl hZ))))) fun e230 h232 h233 h234 h235 h236 => sN (bl ?_)))))))))
  clear h170 h171 h172 h173 h174 h225 h226 h227
  rcases r363 with _ | ⟨y373, y374, y375, y376⟩
  ·refine Ev.loop (RS := impl_ReadChain_b1_RS r128 x228 (([] : Mem).length) M155.length M178.length M2.length) (RR := impl_ReadChain_b1_RR r128 x228 (([] : Mem).length) M155.length M178.length M2.length) (fun s r h e M hs => impl_ReadChain_b1_ok r128 x228 (([] : Mem).length) M155.length M178.length M2.length ne134 ne183 ne207 ne184 ne208 ne210 s r h e M hs) hr364 ⟨h232, h233, h234, h235, h236, o216, o217, o219, o222⟩ fun x e366 M367 hq365 => ?_
   obtain ⟨rfl, h368, h369, o370⟩ := hq365
   refine bR (sR ?_)
   obtain rfl := si h
   exact eR (resC (ag := true) (sz := 20) ⟨by kernel_rfl, by kernel_rfl, by kernel_rfl⟩ (ldOA (cs' := (.str ([] : List UInt8) :: (.bool false :: (.nils :: ((arC (cI .i8) 0 (Ar.rep 16 0)) ++ ((.nils :: []) : List AV)))))) h368 o370 rfl rfl (ble rfl) rfl) (resT h369 res0)) rfl
  refine Ev.loop (RS := impl_ReadChain_b1_RS r128 x228 (([] : Mem).length) M155.length M178.length M2.length) (RR := impl_ReadChain_b1_RR r128 x228 (([] : Mem).length) M155.length M178.length M2.length) (fun s r h e M hs => impl_ReadChain_b1_ok r128 x228 (([] : Mem).length) M155.length M178.length M2.length ne134 ne183 ne207 ne184 ne208 ne210 s r h e M hs) hr364 ⟨h232, h233, h234, h235, h236, o216, o217, o219, o222⟩ fun x e371 M372 hq365 => ?_
  obtain ⟨rfl, h377, h378, o379, o380, o381, o382⟩ := hq365
  obtain ⟨r384, hx383, h⟩ := bind_some h
  refine bE (sN (sq (sq (Rg (kx (ldOA (cs' := (.str y373 :: (.bool y374 :: (.lsl M2.length r128.length 0 r128.length :: ((arC (cI .i8) 0 y375) ++ ((.lsl M178.length y376.length 0 y376.length :: []) : List AV)))))) h378 o381 rfl rfl (ble rfl) rfl) (kc (cl (v := .bool r384) rfl (cns rfl rfl) (ra1 (ra_agg (mp1 rfl (mp1 rfl (mp1 (ra1_row o380 rfl Notch.fl) (mpA (fun _ => rArg1_flat) (fun _ => rfl) (mp1 (ra1_row o382 rfl Mark.fl) mp0)))))) ra0) (impl_ValidChain_ok (Chain.mk y373 (Half.mk y374 r128 y375) y376) _ hx383) (fun _ => rfl)) (kx (uNot rfl) (Rn (hV (.loc ([] : Mem).length 1 0 0) h377 (hV (.loc M155.length 1 0 0) h378 (hN rfl hZ))) fun e385 h387 h388 h389 => sN ?_))))))))
  clear h377 h378
  rcases ite_some h with ⟨hb390, h⟩ | ⟨hb390, h⟩
  ·refine cF h389 (congrArg Bool.not hb390) (xx (sN (sq (Rg (kx (ldOA (cs' := (.str y373 :: (.bool y374 :: (.lsl M2.length r128.length 0 r128.length :: ((arC (cI .i8) 0 y375) ++ ((.lsl M178.length y376.length 0 y376.length :: []) : List AV)))))) h388 o381 rfl rfl (ble rfl) rfl) (kw (stOK h387 rfl o379 rfl rfl ⟨rfl, ble rfl⟩ (all1 rfl (all1 rfl (all1 (okL o380 (by simp)) (oaL (rest := [.lsl M178.length y376.length 0 y376.length]) (fun _ => rfl) (all1 (okL o382 (by simp)) all0))))) rfl) fun M391 hM392 => ?_))))))
   have o393 : M391[([] : Mem).length]? = some (.live ⟨.box, 60, 20, [(.str y373 :: (.bool y374 :: (.lsl M2.length r128.length 0 r128.length :: ((arC (cI .i8) 0 y375) ++ ((.lsl M178.length y376.length 0 y376.length :: []) : List AV)))))]⟩) := set_same hM392 o379
   have o394 := set_ne hM392 (Ne.symm ne134) o380
   have o395 := set_ne hM392 (Ne.symm ne183) o381
   have o396 := set_ne hM392 (Ne.symm ne207) o382
   refine kx (mvO rfl) (Rn (hA h387 (hV (.int .i64 0) rfl hZ)) fun e397 h399 h400 => sN (xx ?_))
   clear h387 h388 h389
   obtain rfl := si h
   exact eR (resC (ag := true) (sz := 20) ⟨by kernel_rfl, by kernel_rfl, by kernel_rfl⟩ (ldOA (cs' := (.str y373 :: (.bool y374 :: (.lsl M2.length r128.length 0 r128.length :: ((arC (cI .i8) 0 y375) ++ ((.lsl M178.length y376.length 0 y376.length :: []) : List AV)))))) h399 o393 rfl rfl (ble rfl) rfl) (resT h400 res0)) (rr_tup (mp1 (rr_agg (mp1 rfl (mp1 rfl (mp1 (rr_row o394 rfl Notch.fl) (mpA (fun _ => rRes1_flat) (fun _ => rfl) (mp1 (rr_row o396 rfl Mark.fl) mp0)))))) (mp1 rfl mp0)))
  refine cT h389 (congrArg Bool.not hb390) (sq (Rg (kx (bldT zero60 rfl (fill0 rfl)) (kw (stOK h387 rfl o379 rfl rfl ⟨rfl, ble rfl⟩ rfl rfl) fun M401 hM402 => ?_))))
  have o403 : M401[([] : Mem).length]? = some (.live ⟨.box, 60, 20, [(.str ([] : List UInt8) :: (.bool false :: (.nils :: ((arC (cI .i8) 0 (Ar.rep 16 0)) ++ ((.nils :: []) : List AV)))))]⟩) := set_same hM402 o379
  have o404 := set_ne hM402 (Ne.symm ne134) o380
  have o405 := set_ne hM402 (Ne.symm ne183) o381
  have o406 := set_ne hM402 (Ne.symm ne207) o382
  refine kx (mvO rfl) (Rn (hA h387 (hV (.int .i64 5) rfl hZ)) fun e407 h409 h410 => sN (xx (sR ?_)))
  clear h387 h388 h389
  obtain rfl := si h
  exact eR (resC (ag := true) (sz := 20) ⟨by kernel_rfl, by kernel_rfl, by kernel_rfl⟩ (ldOA (cs' := (.str ([] : List UInt8) :: (.bool false :: (.nils :: ((arC (cI .i8) 0 (Ar.rep 16 0)) ++ ((.nils :: []) : List AV)))))) h409 o403 rfl rfl (ble rfl) rfl) (resT h410 res0)) rfl
 refine kx (gsF rfl (congrArg Bool.not hb34)) (kx (gsF rfl (congrArg Bool.not hb34)) (kx (gsF rfl (congrArg Bool.not hb34)) (kx (pkT rfl (congrArg Bool.not hb34) rfl) (kx (mvO rfl) (kx (gsF rfl rfl) (kx (gsF rfl rfl) (kx (gsF rfl rfl) (kx (pkT rfl rfl rfl) (Rn (hA h31 (hA h32 (hV (.bool true) rfl hZ))) fun e412 h414 h415 h416 => sN (cT h416 rfl (sq (Rg (kx (bldT zero60 rfl (fill0 rfl)) (kw (stOK h414 rfl o4 rfl rfl ⟨rfl, ble rfl⟩ rfl rfl) fun M417 hM418 => ?_))))))))))))))
 clear h31 h32 h33
 have o419 : M417[([] : Mem).length]? = some (.live ⟨.box, 60, 20, [(.str ([] : List UInt8) :: (.bool false :: (.nils :: ((arC (cI .i8) 0 (Ar.rep 16 0)) ++ ((.nils :: []) : List AV)))))]⟩) := set_same hM418 o4
 refine kx (mvO rfl) (Rn (hA h414 (hV (.int .i64 5) rfl hZ)) fun e420 h422 h423 => sN (xx (sR ?_)))
 clear h414 h415 h416
 obtain rfl := si h
 exact eR (resC (ag := true) (sz := 20) ⟨by kernel_rfl, by kernel_rfl, by kernel_rfl⟩ (ldOA (cs' := (.str ([] : List UInt8) :: (.bool false :: (.nils :: ((arC (cI .i8) 0 (Ar.rep 16 0)) ++ ((.nils :: []) : List AV)))))) h422 o419 rfl rfl (ble rfl) rfl) (resT h423 res0)) rfl
/-! ### loop.example/g01263/spec.ReadChain (f28) -/
def spec_ReadChain_c1_Q (r10 : List (List UInt8)) (i901_1 : Nat) (g : Bool) (q : Out) : Prop := q.1 = .nrm ∧ eget q.2.1 2 = .loc i901_1 1 0 0 ∧ eget q.2.1 4 = .sl (some 9) (r10.map cS) ∧ eget q.2.1 5 = .int .i64 (r10.length : Int) ∧ eget q.2.1 31 = .bool g ∧ q.2.2[i901_1]? = some (.live ⟨.box, 60, 20, [(.str ([] : List UInt8) :: (.bool false :: (.nils :: ((arC (cI .i8) 0 (Ar.rep 16 0)) ++ ((.nils :: []) : List AV)))))]⟩)
abbrev spec_ReadChain_b1_S := Int
abbrev spec_ReadChain_b1_R := Int
def spec_ReadChain_b1_RS (r10 : List (List UInt8)) (i1_1 : Nat) (s : spec_ReadChain_b1_S) (e : Env) (M : Mem) : Prop := eget e 2 = .loc i1_1 1 0 0 ∧ eget e 4 = .sl (some 9) (r10.map cS) ∧ eget e 5 = .int .i64 (r10.length : Int) ∧ eget e 6 = .int .i64 s ∧ M[i1_1]? = some (.live ⟨.box, 60, 20, [(.str ([] : List UInt8) :: (.bool false :: (.nils :: ((arC (cI .i8) 0 (Ar.rep 16 0)) ++ ((.nils :: []) : List AV)))))]⟩)
def spec_ReadChain_b1_RR (r10 : List (List UInt8)) (i1_1 : Nat) (g : spec_ReadChain_b1_R) (x : Ex) (e : Env) (M : Mem) : Prop := x = .ext 0 ∧ eget e 2 = .loc i1_1 1 0 0 ∧ eget e 4 = .sl (some 9) (r10.map cS) ∧ eget e 5 = .int .i64 (r10.length : Int) ∧ eget e 6 = .int .i64 g ∧ M[i1_1]? = some (.live ⟨.box, 60, 20, [(.str ([] : List UInt8) :: (.bool false :: (.nils :: ((arC (cI .i8) 0 (Ar.rep 16 0)) ++ ((.nils :: []) : List AV)))))]⟩)
noncomputable def spec_ReadChain_b1 (r10 : List (List UInt8)) : spec_ReadChain_b1_S → Option (spec_ReadChain_b1_S ⊕ spec_ReadChain_b1_R) := fun s1_1 =>
 (rd r10 0).bind fun x86 =>
 if (decide (s1_1 < (x86.length : Int))) = true then
  (rd r10 0).bind fun x89 =>
  (rd x89 s1_1).bind fun x91 =>
  if ((x91.toNat : Int) != 32) = true then
   some (.inl (IntKind.i64.wrap (s1_1 + 1)))
  else
   some (.inr s1_1)
 else
  some (.inr s1_1)
theorem spec_ReadChain_b1_ok (r10 : List (List UInt8)) (i1_1 : Nat) (s : spec_ReadChain_b1_S) (r : spec_ReadChain_b1_S ⊕ spec_ReadChain_b1_R) (h : spec_ReadChain_b1 r10 s = some r) (e : Env) (M : Mem) (hs : spec_ReadChain_b1_RS r10 i1_1 s e M) : Ev (fun k => (f28_l6 (CN k) k (prune [2, 4, 5, 6] e) M).bind fun q => some q) (bQ (spec_ReadChain_b1_RS r10 i1_1) (spec_ReadChain_b1_RR r10 i1_1) r) := by
 revert h hs
 revert s
 intro s1_1 h hs
 unfold spec_ReadChain_b1 at h
 obtain ⟨h77, h79, h81, h83, o85⟩ := hs
 generalize he76 : prune [2, 4, 5, 6] e = e75
 have h78 := envp he76.symm rfl h77
 have h80 := envp he76.symm rfl h79
 have h82 := envp he76.symm rfl h81
 have h84 := envp he76.symm rfl h83
 obtain ⟨x86, hx87, h⟩ := bind_some h
 refine sq (sq (Rg (kx (mvO h84) (kx (mvO h80) (kx (ixS rfl rfl hx87 cS_fl) (kx (ldP rfl rfl) (kx (lnB Tryd.underlying9 rfl) (kx (bLss rfl rfl) (kx (mvO rfl) ?_)))))))))
 rcases ite_some h with ⟨hb88, h⟩ | ⟨hb88, h⟩
 ·obtain ⟨x89, hx90, h⟩ := bind_some h
  obtain ⟨x91, hx92, h⟩ := bind_some h
  refine kx (guT rfl hb88 (mvO h80)) (kx (guT rfl hb88 (ixS rfl rfl hx90 cS_fl)) (kx (guT rfl hb88 (ldP rfl rfl)) (kx (guT rfl hb88 (mvO h84)) (kx (guT rfl hb88 (ixB rfl rfl hx92)) (kx (guT rfl hb88 (bNeq rfl rfl)) (kx (pkT rfl hb88 rfl) (Rn (hV (.loc i1_1 1 0 0) h78 (hV (.sl (some 9) (r10.map cS)) h80 (hV (.int .i64 (r10.length : Int)) h82 (hV (.int .i64 s1_1) h84 (hN rfl hZ))))) fun e93 h95 h96 h97 h98 h99 => sN ?_)))))))
  clear h78 h80 h82 h84
  rcases ite_some h with ⟨hb100, h⟩ | ⟨hb100, h⟩
  ·refine cT h99 hb100 (xx (sN (bl (Rg (kx (mvO h98) (kx (bAdd rfl rfl) (kx (mvO rfl) (Rn (hA h95 (hA h96 (hA h97 (hN rfl hZ)))) fun e101 h103 h104 h105 h106 => bN ?_))))))))
   clear h95 h96 h97 h99
   obtain rfl := si h
   exact qN ⟨h103, h104, h105, h106, o85⟩
  refine cF h99 hb100 (xx (sE ?_))
  obtain rfl := si h
  exact qE ⟨rfl, h95, h96, h97, h98, o85⟩
 refine kx (gsT rfl hb88) (kx (gsT rfl hb88) (kx (gsT rfl hb88) (kx (gsT rfl hb88) (kx (gsT rfl hb88) (kx (gsT rfl hb88) (kx (pkF rfl hb88 rfl) (Rn (hV (.loc i1_1 1 0 0) h78 (hV (.sl (some 9) (r10.map cS)) h80 (hV (.int .i64 (r10.length : Int)) h82 (hV (.int .i64 s1_1) h84 (hV (.bool false) rfl hZ))))) fun e107 h109 h110 h111 h112 h113 => sN (cF h113 rfl (xx (sE ?_))))))))))
 clear h78 h80 h82 h84
 obtain rfl := si h
 exact qE ⟨rfl, h109, h110, h111, h112, o85⟩
abbrev spec_ReadChain_b2_S := Int × (List UInt8) × Bool × (Ar 16 Int) × (List Mark)
abbrev spec_ReadChain_b2_R := Unit ⊕ ((List UInt8) × Bool × (Ar 16 Int) × (List Mark))
def spec_ReadChain_b2_RS (r10 : List (List UInt8)) (r203 : List Notch) (i2_1 : Nat) (i2_2 : Nat) (i2_3 : Nat) (i2_4 : Nat) (s : spec_ReadChain_b2_S) (e : Env) (M : Mem) : Prop := eget e 2 = .loc i2_1 1 0 0 ∧ eget e 4 = .sl (some 9) (r10.map cS) ∧ eget e 5 = .int .i64 (r10.length : Int) ∧ eget e 9 = .loc i2_3 1 0 0 ∧ eget e 10 = .int .i64 s.1 ∧ M[i2_1]? = some (.live ⟨.box, 60, 20, [(.str ([] : List UInt8) :: (.bool false :: (.nils :: ((arC (cI .i8) 0 (Ar.rep 16 0)) ++ ((.nils :: []) : List AV)))))]⟩) ∧ M[i2_2]? = some (.live ⟨.grow, 156, 2, r203.map Notch.c⟩) ∧ M[i2_3]? = some (.live ⟨.box, 60, 20, [(.str s.2.1 :: (.bool s.2.2.1 :: (.lsl i2_2 r203.length 0 r203.length :: ((arC (cI .i8) 0 s.2.2.2.1) ++ ((.lsl i2_4 s.2.2.2.2.length 0 s.2.2.2.2.length :: []) : List AV)))))]⟩) ∧ M[i2_4]? = some (.live ⟨.grow, 107, 2, s.2.2.2.2.map Mark.c⟩)
def spec_ReadChain_b2_RR (r10 : List (List UInt8)) (r203 : List Notch) (i2_1 : Nat) (i2_2 : Nat) (i2_3 : Nat) (i2_4 : Nat) (r : spec_ReadChain_b2_R) (x : Ex) (e : Env) (M : Mem) : Prop :=
  match r with
  | (.inl g) => x = .ret ∧ eget e 2 = .loc i2_1 1 0 0 ∧ eget e 3 = .int .i64 5 ∧ M[i2_1]? = some (.live ⟨.box, 60, 20, [(.str ([] : List UInt8) :: (.bool false :: (.nils :: ((arC (cI .i8) 0 (Ar.rep 16 0)) ++ ((.nils :: []) : List AV)))))]⟩)
  | (.inr g) => x = .ext 2 ∧ eget e 2 = .loc i2_1 1 0 0 ∧ eget e 9 = .loc i2_3 1 0 0 ∧ M[i2_1]? = some (.live ⟨.box, 60, 20, [(.str ([] : List UInt8) :: (.bool false :: (.nils :: ((arC (cI .i8) 0 (Ar.rep 16 0)) ++ ((.nils :: []) : List AV)))))]⟩) ∧ M[i2_2]? = some (.live ⟨.grow, 156, 2, r203.map Notch.c⟩) ∧ M[i2_3]? = some (.live ⟨.box, 60, 20, [(.str g.1 :: (.bool g.2.1 :: (.lsl i2_2 r203.length 0 r203.length :: ((arC (cI .i8) 0 g.2.2.1) ++ ((.lsl i2_4 g.2.2.2.length 0 g.2.2.2.length :: []) : List AV)))))]⟩) ∧ M[i2_4]? = some (.live ⟨.grow, 107, 2, g.2.2.2.map Mark.c⟩)
noncomputable def spec_ReadChain_b2 (r10 : List (List UInt8)) : spec_ReadChain_b2_S → Option (spec_ReadChain_b2_S ⊕ spec_ReadChain_b2_R) := fun (s2_1, s2_2, s2_3, s2_4, s2_5) =>
 if (decide (s2_1 < (IntKind.i64.wrap ((r10.length : Int) - 1)))) = true then
  (rd r10 s2_1).bind fun x358 =>
  (spec_l01Split x358 32).bind fun r361 =>
  if ((r361.length : Int) != 2) = true then
   some (.inr (.inl ()))
  else
   (rd r361 1).bind fun x390 =>
   (spec_l06Unhex x390).bind fun (r393, r394) =>
   if r394 = true then
    (rd r361 0).bind fun x416 =>
    (app 24 s2_5 [(Mark.mk x416 r393)]).bind fun x418 =>
    some (.inl ((IntKind.i64.wrap (s2_1 + 1)), s2_2, s2_3, s2_4, x418))
   else
    some (.inr (.inl ()))
 else
  some (.inr (.inr (s2_2, s2_3, s2_4, s2_5)))
theorem spec_ReadChain_b2_ok (r10 : List (List UInt8)) (r203 : List Notch) (i2_1 : Nat) (i2_2 : Nat) (i2_3 : Nat) (i2_4 : Nat) (ne209 : i2_1 ≠ i2_2) (ne264 : i2_1 ≠ i2_3) (ne288 : i2_1 ≠ i2_4) (ne265 : i2_2 ≠ i2_3) (ne289 : i2_2 ≠ i2_4) (ne291 : i2_3 ≠ i2_4) (s : spec_ReadChain_b2_S) (r : spec_ReadChain_b2_S ⊕ spec_ReadChain_b2_R) (h : spec_ReadChain_b2 r10 s = some r) (e : Env) (M : Mem) (hs : spec_ReadChain_b2_RS r10 r203 i2_1 i2_2 i2_3 i2_4 s e M) : Ev (fun k => (f28_l15 (CN k) k (prune [2, 4, 5, 9, 10] e) M).bind fun q => some q) (bQ (spec_ReadChain_b2_RS r10 r203 i2_1 i2_2 i2_3 i2_4) (spec_ReadChain_b2_RR r10 r203 i2_1 i2_2 i2_3 i2_4) r) := by
 obtain ⟨s2_1, s2_2, s2_3, s2_4, s2_5⟩ := s
 unfold spec_ReadChain_b2 at h
 obtain ⟨h335, h337, h339, h341, h343, o345, o346, o347, o348⟩ := hs
 generalize he334 : prune [2, 4, 5, 9, 10] e = e333
 have h336 := envp he334.symm rfl h335
 have h338 := envp he334.symm rfl h337
 have h340 := envp he334.symm rfl h339
 have h342 := envp he334.symm rfl h341
 have h344 := envp he334.symm rfl h343
 refine sq (sq (Rg (kx (mvO h344) (kx (mvO h340) (kx (bSub rfl rfl) (kx (bLss rfl rfl) (Rn (hV (.loc i2_1 1 0 0) h336 (hV (.sl (some 9) (r10.map cS)) h338 (hV (.int .i64 (r10.length : Int)) h340 (hV (.loc i2_3 1 0 0) h342 (hV (.int .i64 s2_1) h344 (hN rfl hZ)))))) fun e349 h351 h352 h353 h354 h355 h356 => sN ?_)))))))
 clear h336 h338 h340 h342 h344
 rcases ite_some h with ⟨hb357, h⟩ | ⟨hb357, h⟩
 ·obtain ⟨x358, hx359, h⟩ := bind_some h
  obtain ⟨r361, hx360, h⟩ := bind_some h
  refine cT h356 hb357 (xx (sN (sq (bl (sq (Rg (kx (mvO h352) (kx (mvO h355) (kx (ixS rfl rfl hx359 cS_fl) (kx (ldP rfl rfl) (kc (cl (v := .sl (some 9) (r361.map cS)) rfl (cns rfl (cns rfl rfl)) rfl (spec_l01Split_ok x358 32 _ hx360) nm) (kx (mvO rfl) (Rn (hA h351 (hA h352 (hA h353 (hA h354 (hA h355 (hN rfl hZ)))))) fun e362 h364 h365 h366 h367 h368 h369 => sN (sq (sq (Rg (kx (mvO h369) (kx (lnS Tryd.underlying86 rfl) (kx (bNeq rfl rfl) (Rn (hA h364 (hA h365 (hA h366 (hA h367 (hA h368 (hA h369 (hN rfl hZ))))))) fun e370 h372 h373 h374 h375 h376 h377 h378 => sN ?_))))))))))))))))))))
  clear h351 h352 h353 h354 h355 h356 h364 h365 h366 h367 h368 h369
  rcases ite_some h with ⟨hb379, h⟩ | ⟨hb379, h⟩
  ·refine cT h378 hb379 (sq (Rg (kx (bldT zero60 rfl (fill0 rfl)) (kw (stO h372 rfl o345 rfl rfl ⟨rfl, ble rfl⟩ rfl rfl) fun M380 hM381 => ?_))))
   have o382 : M380[i2_1]? = some (.live ⟨.box, 60, 20, [(.str ([] : List UInt8) :: (.bool false :: (.nils :: ((arC (cI .i8) 0 (Ar.rep 16 0)) ++ ((.nils :: []) : List AV)))))]⟩) := set_same hM381 o345
   have o383 := set_ne hM381 (Ne.symm ne209) o346
   have o384 := set_ne hM381 (Ne.symm ne264) o347
   have o385 := set_ne hM381 (Ne.symm ne288) o348
   refine kx (mvO rfl) (Rn (hA h372 (hV (.int .i64 5) rfl hZ)) fun e386 h388 h389 => sN (xx (sR (bR (sR ?_)))))
   clear h372 h373 h374 h375 h376 h377 h378
   obtain rfl := si h
   exact qR ⟨rfl, h388, h389, o382⟩
  obtain ⟨x390, hx391, h⟩ := bind_some h
  obtain ⟨⟨r393, r394⟩, hx392, h⟩ := bind_some h
  refine cF h378 hb379 (xx (sN (sq (Rg (kx (mvO h377) (kx (ixS rfl rfl hx391 cS_fl) (kx (ldP rfl rfl) (kc (cl (v := .tup [.int .u32 r393, .bool r394]) rfl (cns rfl rfl) rfl (spec_l06Unhex_ok x390 _ hx392) nm) (kx (mvO rfl) (kx (exT rfl rfl) (kx (exT rfl rfl) (kx (mvO rfl) (kx (mvO rfl) (Rn (hA h372 (hA h373 (hA h374 (hA h375 (hA h376 (hA h377 (hN rfl (hN rfl hZ)))))))) fun e395 h397 h398 h399 h400 h401 h402 h403 h404 => sN (sq (sq (Rg (kx (mvO h404) (kx (uNot rfl) (Rn (hA h397 (hA h398 (hA h399 (hA h400 (hA h401 (hA h402 (hA h403 (hN rfl hZ)))))))) fun e405 h407 h408 h409 h410 h411 h412 h413 h414 => sN ?_))))))))))))))))))))
  clear h372 h373 h374 h375 h376 h377 h378 h397 h398 h399 h400 h401 h402 h403 h404
  rcases ite_some h with ⟨hb415, h⟩ | ⟨hb415, h⟩
  ·obtain ⟨x416, hx417, h⟩ := bind_some h
   obtain ⟨x418, hx419, h⟩ := bind_some h
   refine cF h414 (congrArg Bool.not hb415) (xx (sN (Rd (kf (faO h410 o347 rfl) (kf (ldO rfl o347 rfl rfl rfl) (kf (mvO h412) (kf (ixS rfl rfl hx417 cS_fl) (kf (ldP rfl rfl) (kf (mvO h413) (kf (bldT zero107 (cns (pr3 rfl) (cns (pr3 rfl) rfl)) (fill1 ⟨rfl, ble rfl⟩ rfl rfl (fill1 ⟨rfl, ble rfl⟩ rfl rfl (fill0 rfl)))) (kf (litI (cns rfl rfl) rfl ⟨rfl, by decide⟩) (fZ (kw (apO rfl o348 rfl (elT (c := Mark.c) (xs := [(Mark.mk x416 r393)]) rfl) hx419 Mark.fl (by decide)) fun M420 hM421 => ?_)))))))))))))
   have o422 := set_ne hM421 ne288 o345
   have o423 := set_ne hM421 ne289 o346
   have o424 := set_ne hM421 ne291 o347
   have o425 : M420[i2_4]? = some (.live ⟨.grow, 107, 2, x418.map Mark.c⟩) := set_same hM421 o348
   refine kx (faO h410 o424 rfl) (kw (stO rfl rfl o424 rfl rfl ⟨rfl, ble rfl⟩ (all1 (okL o425 (by simp)) all0) rfl) fun M426 hM427 => ?_)
   have o428 := set_ne hM427 ne264 o422
   have o429 := set_ne hM427 ne265 o423
   have o430 : M426[i2_3]? = some (.live ⟨.box, 60, 20, [(.str s2_2 :: (.bool s2_3 :: (.lsl i2_2 r203.length 0 r203.length :: ((arC (cI .i8) 0 s2_4) ++ ((.lsl i2_4 x418.length 0 x418.length :: []) : List AV)))))]⟩) := set_same hM427 o424
   have o431 := set_ne hM427 (Ne.symm ne291) o425
   refine Rn (hA h407 (hA h408 (hA h409 (hA h410 (hA h411 hZ))))) fun e432 h434 h435 h436 h437 h438 => bN (sN (Rg (kx (mvO h438) (kx (bAdd rfl rfl) (kx (mvO rfl) (Rn (hA h434 (hA h435 (hA h436 (hA h437 (hN rfl hZ))))) fun e439 h441 h442 h443 h444 h445 => ?_))))))
   clear h407 h408 h409 h410 h411 h412 h413 h414 h434 h435 h436 h437
   obtain rfl := si h
   exact qN ⟨h441, h442, h443, h444, h445, o428, o429, (by simpa using o430), o431⟩
  refine cT h414 (congrArg Bool.not hb415) (sq (Rg (kx (bldT zero60 rfl (fill0 rfl)) (kw (stO h407 rfl o345 rfl rfl ⟨rfl, ble rfl⟩ rfl rfl) fun M446 hM447 => ?_))))
  have o448 : M446[i2_1]? = some (.live ⟨.box, 60, 20, [(.str ([] : List UInt8) :: (.bool false :: (.nils :: ((arC (cI .i8) 0 (Ar.rep 16 0)) ++ ((.nils :: []) : List AV)))))]⟩) := set_same hM447 o345
  have o449 := set_ne hM447 (Ne.symm ne209) o346
  have o450 := set_ne hM447 (Ne.symm ne264) o347
  have o451 := set_ne hM447 (Ne.symm ne288) o348
  refine kx (mvO rfl) (Rn (hA h407 (hV (.int .i64 5) rfl hZ)) fun e452 h454 h455 => sN (xx (sR (bR (sR ?_)))))
  clear h407 h408 h409 h410 h411 h412 h413 h414
  obtain rfl := si h
  exact qR ⟨rfl, h454, h455, o448⟩
 refine cF h356 hb357 (xx (sE ?_))
 obtain rfl := si h
 exact qE ⟨rfl, h351, h354, o345, o346, (by simpa using o347), o348⟩
noncomputable def spec_ReadChain (a1 : List UInt8) : Option (((Ar 16 Int)) ⊕ ((List UInt8) × Bool × (List Notch) × (Ar 16 Int) × (List Mark))) :=
 (spec_l01Split a1 10).bind fun r10 =>
 (if (decide ((r10.length : Int) < 3)) = true then
  some true
 else
  if (decide ((r10.length : Int) > 32)) = true then
   some true
  else
   (rd r10 (IntKind.i64.wrap ((r10.length : Int) - 1))).bind fun x34 =>
   some (!(x34 == ([] : List UInt8)))).bind fun y44 =>
 if y44 = true then
  some (.inl (Ar.rep 16 0))
 else
  (Lw (spec_ReadChain_b1 r10) 0).bind fun y119 =>
  (rd r10 0).bind fun x125 =>
  if (y119 == (x125.length : Int)) = true then
   some (.inl (Ar.rep 16 0))
  else
   (rd r10 0).bind fun x142 =>
   (slc x142 (IntKind.i64.wrap (y119 + 1)) (x142.length : Int)).bind fun x144 =>
   (spec_ReadHalf x144).bind fun r => match r with
   | (.inl r147) =>
    some (.inl (Ar.rep 16 0))
   | (.inr (r202, r203, r204)) =>
    (rd r10 0).bind fun x252 =>
    (slc x252 0 y119).bind fun x254 =>
    (Lw (spec_ReadChain_b2 r10) (1, x254, r202, r204, ([] : List Mark))).bind fun r => match r with
    | (.inl _) =>
     some (.inl (Ar.rep 16 0))
    | (.inr (y466, y467, y468, y469)) =>
     (spec_l06Ok (Chain.mk y466 (Half.mk y467 r203 y468) y469)).bind fun r477 =>
     if r477 = true then
      some (.inr (y466, y467, r203, y468, y469))
     else
      some (.inl (Ar.rep 16 0))
def spec_ReadChain_enc (r : ((Ar 16 Int)) ⊕ ((List UInt8) × Bool × (List Notch) × (Ar 16 Int) × (List Mark))) : AV :=
  match r with
  | (.inl g) => .tup [.agg (.str ([] : List UInt8) :: (.bool false :: (.nils :: ((arC (cI .i8) 0 g) ++ ((.nils :: []) : List AV))))), .int .i64 5]
  | (.inr g) => .tup [.agg (.str g.1 :: (.bool g.2.1 :: (.sl (some 156) (g.2.2.1.map Notch.c) :: ((arC (cI .i8) 0 g.2.2.2.1) ++ ((.sl (some 107) (g.2.2.2.2.map Mark.c) :: []) : List AV))))), .int .i64 0]
theorem spec_ReadChain_ok (a1 : List UInt8) (r : ((Ar 16 Int)) ⊕ ((List UInt8) × Bool × (List Notch) × (Ar 16 Int) × (List Mark))) (h : spec_ReadChain a1 = some r) : Ev (fun k => CN k 28 [.str a1] []) (fun p => rRes p.2 p.1 = spec_ReadChain_enc r) := by
 unfold spec_ReadChain at h
 refine Ev.enter (F := fun k => f28 (CN k) k) (fun k => callN_eq rfl Tryd.func28 rfl rfl rfl (by decide +kernel) (f28_eq _ _)) (sq (Rg (ku (alO zero60) fun M2 hM3 => ?_)))
 have o4 : M2[([] : Mem).length]? = some (.live ⟨.box, 60, 20, [(.str ([] : List UInt8) :: (.bool false :: (.nils :: ((arC (cI .i8) 0 (Ar.rep 16 0)) ++ ((.nils :: []) : List AV)))))]⟩) := push_new hM3
 obtain ⟨r10, hx9, h⟩ := bind_some h
 obtain ⟨r506, hr507, h⟩ := bind_some h
 refine kx (mvO rfl) (Rn (hN rfl (hV (.loc ([] : Mem).length 1 0 0) rfl hZ)) fun e5 h7 h8 => sN (sq (Rg (kx (mvO h7) (kc (cl (v := .sl (some 9) (r10.map cS)) rfl (cns rfl (cns rfl rfl)) rfl (spec_l01Split_ok a1 10 _ hx9) nm) (kx (mvO rfl) (Rn (hA h8 (hN rfl hZ)) fun e11 h13 h14 => sN (sq (Rg (kx (mvO h14) (kx (lnS Tryd.underlying86 rfl) (kx (mvO rfl) (Rn (hA h13 (hA h14 (hN rfl hZ))) fun e15 h17 h18 h19 => sN (sq (sq ?_)))))))))))))))
 clear h7 h8 h13 h14
 refine Ev.cut (Q1 := spec_ReadChain_c1_Q r10 (([] : Mem).length) r506) (by
     have h := hr507
     refine Rg (kx (mvO h19) (kx (bLss rfl rfl) (kx (mvO rfl) ?_)))
     rcases ite_some h with ⟨hb20, h⟩ | ⟨hb20, h⟩
     ·refine kx (gsF rfl hb20) (kx (gsF rfl hb20) (kx (pkT rfl hb20 rfl) (kx (mvO rfl) (kx (gsF rfl rfl) (kx (gsF rfl rfl) (kx (gsF rfl rfl) (kx (gsF rfl rfl) (kx (gsF rfl rfl) (kx (gsF rfl rfl) (kx (pkT rfl rfl rfl) (Rn (hA h17 (hA h18 (hA h19 (hV (.bool true) rfl hZ)))) fun e21 h23 h24 h25 h26 => ?_)))))))))))
      clear h17 h18 h19
      obtain rfl := si h
      exact kd (show spec_ReadChain_c1_Q r10 (([] : Mem).length) _ _ from ⟨rfl, h23, h24, h25, h26, o4⟩)
     refine kx (guF rfl hb20 (mvO h19)) (kx (guF rfl hb20 (bGtr rfl rfl)) (kx (pkF rfl hb20 rfl) (kx (mvO rfl) ?_)))
     rcases ite_some h with ⟨hb27, h⟩ | ⟨hb27, h⟩
     ·refine kx (gsF rfl hb27) (kx (gsF rfl hb27) (kx (gsF rfl hb27) (kx (gsF rfl hb27) (kx (gsF rfl hb27) (kx (gsF rfl hb27) (kx (pkT rfl hb27 rfl) (Rn (hA h17 (hA h18 (hA h19 (hV (.bool true) rfl hZ)))) fun e28 h30 h31 h32 h33 => ?_)))))))
      clear h17 h18 h19
      obtain rfl := si h
      exact kd (show spec_ReadChain_c1_Q r10 (([] : Mem).length) _ _ from ⟨rfl, h30, h31, h32, h33, o4⟩)
     obtain ⟨x34, hx35, h⟩ := bind_some h
     refine kx (guF rfl hb27 (mvO h18)) (kx (guF rfl hb27 (mvO h19)) (kx (guF rfl hb27 (bSub rfl rfl)) (kx (guF rfl hb27 (ixS rfl rfl hx35 cS_fl)) (kx (guF rfl hb27 (ldP rfl rfl)) (kx (guF rfl hb27 (sNeq rfl rfl)) (kx (pkF rfl hb27 rfl) (Rn (hA h17 (hA h18 (hA h19 (hN rfl hZ)))) fun e36 h38 h39 h40 h41 => ?_)))))))
     clear h17 h18 h19
     obtain rfl := si h
     exact kd (show spec_ReadChain_c1_Q r10 (([] : Mem).length) _ _ from ⟨rfl, h38, h39, h40, h41, o4⟩)) ?_
 revert h hr507
 revert r506
 intro y44 hr507 h
 intro x e42 M43 hq505
 obtain ⟨rfl, h45, h46, h47, h48, o49⟩ := hq505
 refine sN ?_
 rcases ite_some h with ⟨hb50, h⟩ | ⟨hb50, h⟩
 ·refine cT h48 hb50 (sq (Rg (kx (bldT zero60 rfl (fill0 rfl)) (kw (stO h45 rfl o49 rfl rfl ⟨rfl, ble rfl⟩ rfl rfl) fun M51 hM52 => ?_))))
  have o53 : M51[([] : Mem).length]? = some (.live ⟨.box, 60, 20, [(.str ([] : List UInt8) :: (.bool false :: (.nils :: ((arC (cI .i8) 0 (Ar.rep 16 0)) ++ ((.nils :: []) : List AV)))))]⟩) := set_same hM52 o49
  refine kx (mvO rfl) (Rn (hV (.loc ([] : Mem).length 1 0 0) h45 (hV (.int .i64 5) rfl hZ)) fun e54 h56 h57 => sN (xx (sR ?_)))
  clear h45 h46 h47 h48
  obtain rfl := si h
  exact eR (resC (ag := true) (sz := 20) ⟨by kernel_rfl, by kernel_rfl, by kernel_rfl⟩ (ldOA (cs' := (.str ([] : List UInt8) :: (.bool false :: (.nils :: ((arC (cI .i8) 0 (Ar.rep 16 0)) ++ ((.nils :: []) : List AV)))))) h56 o53 rfl rfl (ble rfl) rfl) (resT h57 res0)) rfl
 obtain ⟨y119, hr115, h⟩ := bind_some h
 refine cF h48 hb50 (xx (sN (sq (Rg (kx (mvO rfl) (Rn (hV (.loc ([] : Mem).length 1 0 0) h45 (hV (.sl (some 9) (r10.map cS)) h46 (hV (.int .i64 (r10.length : Int)) h47 (hV (.int .i64 0) rfl hZ)))) fun e58 h60 h61 h62 h63 => sN (sq (bl (Ev.loop (RS := spec_ReadChain_b1_RS r10 (([] : Mem).length)) (RR := spec_ReadChain_b1_RR r10 (([] : Mem).length)) (fun s r h e M hs => spec_ReadChain_b1_ok r10 (([] : Mem).length) s r h e M hs) hr115 ⟨h60, h61, h62, h63, o49⟩ fun x e117 M118 hq116 => ?_)))))))))
 clear h45 h46 h47 h48
 obtain ⟨rfl, h120, h121, h122, h123, o124⟩ := hq116
 obtain ⟨x125, hx126, h⟩ := bind_some h
 refine bE (sN (sq (sq (Rg (kx (mvO h123) (kx (mvO h121) (kx (ixS rfl rfl hx126 cS_fl) (kx (ldP rfl rfl) (kx (lnB Tryd.underlying9 rfl) (kx (bEql rfl rfl) (Rn (hV (.loc ([] : Mem).length 1 0 0) h120 (hV (.sl (some 9) (r10.map cS)) h121 (hV (.int .i64 (r10.length : Int)) h122 (hV (.int .i64 y119) h123 (hN rfl hZ))))) fun e127 h129 h130 h131 h132 h133 => sN ?_)))))))))))
 clear h120 h121 h122 h123
 rcases ite_some h with ⟨hb134, h⟩ | ⟨hb134, h⟩
 ·refine cT h133 hb134 (sq (Rg (kx (bldT zero60 rfl (fill0 rfl)) (kw (stO h129 rfl o124 rfl rfl ⟨rfl, ble rfl⟩ rfl rfl) fun M135 hM136 => ?_))))
  have o137 : M135[([] : Mem).length]? = some (.live ⟨.box, 60, 20, [(.str ([] : List UInt8) :: (.bool false :: (.nils :: ((arC (cI .i8) 0 (Ar.rep 16 0)) ++ ((.nils :: []) : List AV)))))]⟩) := set_same hM136 o124
  refine kx (mvO rfl) (Rn (hA h129 (hV (.int .i64 5) rfl hZ)) fun e138 h140 h141 => sN (xx (sR ?_)))
  clear h129 h130 h131 h132 h133
  obtain rfl := si h
  exact eR (resC (ag := true) (sz := 20) ⟨by kernel_rfl, by kernel_rfl, by kernel_rfl⟩ (ldOA (cs' := (.str ([] : List UInt8) :: (.bool false :: (.nils :: ((arC (cI .i8) 0 (Ar.rep 16 0)) ++ ((.nils :: []) : List AV)))))) h140 o137 rfl rfl (ble rfl) rfl) (resT h141 res0)) rfl
 obtain ⟨x142, hx143, h⟩ := bind_some h
 obtain ⟨x144, hx145, h⟩ := bind_some h
 obtain ⟨q504, hx146, h⟩ := bind_some h
 refine cF h133 hb134 (xx (sN (sq (Rg (kx (mvO h130) (kx (ixS rfl rfl hx143 cS_fl) (kx (ldP rfl rfl) (kx (mvO h132) (kx (bAdd rfl rfl) (kx (ssl2 rfl (bnd1 rfl) rfl hx145) ?_))))))))))
 rcases q504 with r147 | ⟨r202, r203, r204⟩
 ·refine Ev.nxcp (Ev.callT (v := .tup [.agg (.bool false :: (.nils :: ((arC (cI .i8) 0 r147) ++ ([] : List AV)))), .int .i64 5]) rfl (cns rfl rfl) rfl (spec_ReadHalf_ok x144 _ hx146) (th_gen (v' := .tup [.agg (.bool false :: (.nils :: ((arC (cI .i8) 0 r147) ++ ([] : List AV)))), .int .i64 5]) (l := []) (own_tup (oa1 (own2_agg (oa1 rfl (oa1 rfl (oaA (fun _ => own1_flat) (fun _ => rfl) oa0)))) (oa1 rfl oa0))) (by simp [thaw, thaw2, thaw1, thawL, thA (c := (cI .i8)) (fun _ => rfl), thA0 (c := (cI .i8)) (fun _ => rfl)]) rfl rfl)) fun M148 hM149 => ?_
  have o150 := push_old hM149 o124
  refine kx (mvO rfl) (kx (exT rfl rfl) (kx (exT rfl rfl) (Ev.nxpushL (gho_one (alO zero57) nty57 (ghc rfl (ghn (gha (arC_nn (fun _ => rfl)) (arC_len (fun x => ((cI_fl _) x).1)) ghz) co156)) (by decide)) fun M153 hM154 => ?_)))
  have o155 := push_old hM154 o150
  have ne156 : ([] : Mem).length ≠ M148.length := by have := lt_of_get (M := M148) o150; omega
  have o157 : M153[M148.length]? = some (.live ⟨.box, 57, 18, [(.bool false :: (.lsl (M148.length + 1) ([] : List Notch).length 0 ([] : List Notch).length :: ((arC (cI .i8) 0 (Ar.rep 16 0)) ++ ([] : List AV))))]⟩) := push_at hM154 0 rfl
  have ne158 : ([] : Mem).length ≠ (M148.length + 1) := by have := lt_of_get (M := M148) o150; omega
  have ne159 : M148.length ≠ (M148.length + 1) := by omega
  have o160 : M153[(M148.length + 1)]? = some (.live ⟨.grow, 156, 2, ([] : List Notch).map Notch.c⟩) := push_at hM154 1 rfl
  obtain ⟨M161, hM162⟩ : ∃ x, x = M153 ++ ([⟨.grow, 156, 2, ([] : List Notch).map Notch.c⟩] : List Ob).map Ent.live := ⟨_, rfl⟩
  have o164 := push_old hM162 o155
  have o165 := push_old hM162 o157
  have o166 := push_old hM162 o160
  have ne167 : ([] : Mem).length ≠ M153.length := by have := lt_of_get (M := M153) o155; omega
  have ne168 : M148.length ≠ M153.length := by have := lt_of_get (M := M153) o157; omega
  have ne169 : (M148.length + 1) ≠ M153.length := by have := lt_of_get (M := M153) o160; omega
  have o170 : M161[M153.length]? = some (.live ⟨.grow, 156, 2, ([] : List Notch).map Notch.c⟩) := push_at hM162 0 rfl
  refine kw (stG (kp := false) hM162 rfl nty57 (ghc rfl (ghn (gha (arC_nn (fun _ => rfl)) (arC_len (fun x => ((cI_fl _) x).1)) ghz) co156)) (by decide) (stO rfl rfl o165 rfl rfl ⟨rfl, ble rfl⟩ (all1 rfl (all1 (okL o170 (by simp)) (oaS (rest := []) (fun _ => rfl) all0))) rfl)) fun M171 hM172 => ?_
  have o173 := set_ne hM172 ne156 o164
  have o174 : M171[M148.length]? = some (.live ⟨.box, 57, 18, [(.bool false :: (.lsl M153.length ([] : List Notch).length 0 ([] : List Notch).length :: ((arC (cI .i8) 0 r147) ++ ([] : List AV))))]⟩) := set_same hM172 o165
  have o175 := set_ne hM172 (Ne.symm ne159) o166
  have o176 := set_ne hM172 (Ne.symm ne168) o170
  refine kx (mvO rfl) (Rn (hA h129 (hA h130 (hA h131 (hA h132 (hV (.loc M148.length 1 0 0) rfl (hV (.int .i64 5) rfl hZ)))))) fun e177 h179 h180 h181 h182 h183 h184 => sN (sq (sq (Rg (kx (mvO h184) (kx (bNeq rfl rfl) (Rn (hA h179 (hA h180 (hA h181 (hA h182 (hA h183 (hV (.bool true) rfl hZ)))))) fun e185 h187 h188 h189 h190 h191 h192 => sN (cT h192 rfl (sq (Rg (kx (bldT zero60 rfl (fill0 rfl)) (kw (stO h187 rfl o173 rfl rfl ⟨rfl, ble rfl⟩ rfl rfl) fun M193 hM194 => ?_))))))))))))
  clear h129 h130 h131 h132 h133 h179 h180 h181 h182 h183 h184
  have o195 : M193[([] : Mem).length]? = some (.live ⟨.box, 60, 20, [(.str ([] : List UInt8) :: (.bool false :: (.nils :: ((arC (cI .i8) 0 (Ar.rep 16 0)) ++ ((.nils :: []) : List AV)))))]⟩) := set_same hM194 o173
  have o196 := set_ne hM194 (Ne.symm ne156) o174
  have o197 := set_ne hM194 (Ne.symm ne167) o176
  refine kx (mvO rfl) (Rn (hA h187 (hV (.int .i64 5) rfl hZ)) fun e198 h200 h201 => sN (xx (sR ?_)))
  clear h187 h188 h189 h190 h191 h192
  obtain rfl := si h
  exact eR (resC (ag := true) (sz := 20) ⟨by kernel_rfl, by kernel_rfl, by kernel_rfl⟩ (ldOA (cs' := (.str ([] : List UInt8) :: (.bool false :: (.nils :: ((arC (cI .i8) 0 (Ar.rep 16 0)) ++ ((.nils :: []) : List AV)))))) h200 o195 rfl rfl (ble rfl) rfl) (resT h201 res0)) rfl
 refine Ev.nxcp (Ev.callT (v := .tup [.agg (.bool r202 :: (.sl (some 156) (r203.map Notch.c) :: ((arC (cI .i8) 0 r204) ++ ([] : List AV)))), .int .i64 0]) rfl (cns rfl rfl) rfl (spec_ReadHalf_ok x144 _ hx146) (th_gen (v' := .tup [.agg (.bool r202 :: (.lsl M118.length r203.length 0 r203.length :: ((arC (cI .i8) 0 r204) ++ ([] : List AV)))), .int .i64 0]) (l := [⟨.grow, 156, 2, r203.map Notch.c⟩]) (own_tup (oa1 (own2_agg (oa1 rfl (oa1 (own1_row' (c := Notch.c) Notch.flF) (oaA (fun _ => own1_flat) (fun _ => rfl) oa0)))) (oa1 rfl oa0))) (by simp [thaw, thaw2, thaw1, thawL, co156, thA (c := (cI .i8)) (fun _ => rfl), thA0 (c := (cI .i8)) (fun _ => rfl)]) rfl rfl)) fun M206 hM207 => ?_
 have o208 := push_old hM207 o124
 have ne209 : ([] : Mem).length ≠ M118.length := by have := lt_of_get (M := M118) o124; omega
 have o210 : M206[M118.length]? = some (.live ⟨.grow, 156, 2, r203.map Notch.c⟩) := push_at hM207 0 rfl
 refine kx (mvO rfl) (kx (exT rfl rfl) (kx (exT rfl rfl) (Ev.nxpushL (gho_one (alO zero57) nty57 (ghc rfl (ghn (gha (arC_nn (fun _ => rfl)) (arC_len (fun x => ((cI_fl _) x).1)) ghz) co156)) (by decide)) fun M213 hM214 => ?_)))
 have o215 := push_old hM214 o208
 have o216 := push_old hM214 o210
 have ne217 : ([] : Mem).length ≠ M206.length := by have := lt_of_get (M := M206) o208; omega
 have ne218 : M118.length ≠ M206.length := by have := lt_of_get (M := M206) o210; omega
 have o219 : M213[M206.length]? = some (.live ⟨.box, 57, 18, [(.bool false :: (.lsl (M206.length + 1) ([] : List Notch).length 0 ([] : List Notch).length :: ((arC (cI .i8) 0 (Ar.rep 16 0)) ++ ([] : List AV))))]⟩) := push_at hM214 0 rfl
 have ne220 : ([] : Mem).length ≠ (M206.length + 1) := by have := lt_of_get (M := M206) o208; omega
 have ne221 : M118.length ≠ (M206.length + 1) := by have := lt_of_get (M := M206) o210; omega
 have ne222 : M206.length ≠ (M206.length + 1) := by omega
 have o223 : M213[(M206.length + 1)]? = some (.live ⟨.grow, 156, 2, ([] : List Notch).map Notch.c⟩) := push_at hM214 1 rfl
 obtain ⟨M224, hM225⟩ : ∃ x, x = M213 ++ ([] : List Ob).map Ent.live := ⟨_, rfl⟩
 have o226 := push_old hM225 o215
 have o227 := push_old hM225 o216
 have o228 := push_old hM225 o219
 have o229 := push_old hM225 o223
 refine kw (stG (kp := false) hM225 rfl nty57 (ghc rfl (ghc rfl (gha (arC_nn (fun _ => rfl)) (arC_len (fun x => ((cI_fl _) x).1)) ghz))) (by decide) (stO rfl rfl o228 rfl rfl ⟨rfl, ble rfl⟩ (all1 rfl (all1 (okL o227 (by simp)) (oaS (rest := []) (fun _ => rfl) all0))) rfl)) fun M230 hM231 => ?_
 have o232 := set_ne hM231 ne217 o226
 have o233 := set_ne hM231 ne218 o227
 have o234 : M230[M206.length]? = some (.live ⟨.box, 57, 18, [(.bool r202 :: (.lsl M118.length r203.length 0 r203.length :: ((arC (cI .i8) 0 r204) ++ ([] : List AV))))]⟩) := set_same hM231 o228
 have o235 := set_ne hM231 (Ne.symm ne222) o229
 obtain ⟨x252, hx253, h⟩ := bind_some h
 obtain ⟨x254, hx255, h⟩ := bind_some h
 refine kx (mvO rfl) (Rn (hA h129 (hA h130 (hA h131 (hA h132 (hV (.loc M206.length 1 0 0) rfl (hV (.int .i64 0) rfl hZ)))))) fun e236 h238 h239 h240 h241 h242 h243 => sN (sq (sq (Rg (kx (mvO h243) (kx (bNeq rfl rfl) (Rn (hA h238 (hA h239 (hA h240 (hA h241 (hA h242 (hV (.bool false) rfl hZ)))))) fun e244 h246 h247 h248 h249 h250 h251 => sN (cF h251 rfl (xx (sN (sq (Rd (kf (mvO h247) (kf (ixS rfl rfl hx253 cS_fl) (kf (ldP rfl rfl) (kf (mvO h249) (kf (ssl2 rfl rfl (bnd1 rfl) hx255) (kf (ldOA (cs' := (.bool r202 :: (.lsl M118.length r203.length 0 r203.length :: ((arC (cI .i8) 0 r204) ++ ([] : List AV))))) h250 o234 rfl rfl (ble rfl) rfl) (kf (bldT zero60 (cns (pr3 rfl) (cns (pr3 rfl) rfl)) (fill1 (cs' := (.str x254 :: (.bool false :: (.nils :: ((arC (cI .i8) 0 (Ar.rep 16 0)) ++ ((.nils :: []) : List AV)))))) ⟨rfl, ble rfl⟩ rfl rfl (fill1 (cs' := (.str x254 :: (.bool r202 :: (.lsl M118.length r203.length 0 r203.length :: ((arC (cI .i8) 0 r204) ++ ((.nils :: []) : List AV)))))) ⟨rfl, ble rfl⟩ (all1 rfl (all1 (okL o233 (by simp)) (oaP (fun _ => rfl) all0))) rfl (fill0 rfl)))) (Ev.nfpushE (gho_one (alO zero60) nty60 (ghc rfl (ghc rfl (ghn (gha (arC_nn (fun _ => rfl)) (arC_len (fun x => ((cI_fl _) x).1)) (ghn ghz co107)) co156))) (by decide)) (Ev.fend1 fun M259 hM260 => ?_)))))))))))))))))))))
 clear h129 h130 h131 h132 h133 h238 h239 h240 h241 h242 h243
 have hM260 := fendM hM260 [⟨.box, 60, 20, [(.str ([] : List UInt8) :: (.bool false :: (.lsl (M230.length + 1) ([] : List Notch).length 0 ([] : List Notch).length :: ((arC (cI .i8) 0 (Ar.rep 16 0)) ++ ((.lsl (M230.length + 2) ([] : List Mark).length 0 ([] : List Mark).length :: []) : List AV)))))]⟩, ⟨.grow, 156, 2, ([] : List Notch).map Notch.c⟩, ⟨.grow, 107, 2, ([] : List Mark).map Mark.c⟩] rfl
 have o261 := push_old hM260 o232
 have o262 := push_old hM260 o233
 have o263 := push_old hM260 o234
 have ne264 : ([] : Mem).length ≠ M230.length := by have := lt_of_get (M := M230) o232; omega
 have ne265 : M118.length ≠ M230.length := by have := lt_of_get (M := M230) o233; omega
 have ne266 : M206.length ≠ M230.length := by have := lt_of_get (M := M230) o234; omega
 have o267 : M259[M230.length]? = some (.live ⟨.box, 60, 20, [(.str ([] : List UInt8) :: (.bool false :: (.lsl (M230.length + 1) ([] : List Notch).length 0 ([] : List Notch).length :: ((arC (cI .i8) 0 (Ar.rep 16 0)) ++ ((.lsl (M230.length + 2) ([] : List Mark).length 0 ([] : List Mark).length :: []) : List AV)))))]⟩) := push_at hM260 0 rfl
 have ne268 : ([] : Mem).length ≠ (M230.length + 1) := by have := lt_of_get (M := M230) o232; omega
 have ne269 : M118.length ≠ (M230.length + 1) := by have := lt_of_get (M := M230) o233; omega
 have ne270 : M206.length ≠ (M230.length + 1) := by have := lt_of_get (M := M230) o234; omega
 have ne271 : M230.length ≠ (M230.length + 1) := by omega
 have o272 : M259[(M230.length + 1)]? = some (.live ⟨.grow, 156, 2, ([] : List Notch).map Notch.c⟩) := push_at hM260 1 rfl
 have ne273 : ([] : Mem).length ≠ (M230.length + 2) := by have := lt_of_get (M := M230) o232; omega
 have ne274 : M118.length ≠ (M230.length + 2) := by have := lt_of_get (M := M230) o233; omega
 have ne275 : M206.length ≠ (M230.length + 2) := by have := lt_of_get (M := M230) o234; omega
 have ne276 : M230.length ≠ (M230.length + 2) := by omega
 have ne277 : (M230.length + 1) ≠ (M230.length + 2) := by omega
 have o278 : M259[(M230.length + 2)]? = some (.live ⟨.grow, 107, 2, ([] : List Mark).map Mark.c⟩) := push_at hM260 2 rfl
 obtain ⟨M279, hM280⟩ : ∃ x, x = M259 ++ ([⟨.grow, 107, 2, ([] : List Mark).map Mark.c⟩] : List Ob).map Ent.live := ⟨_, rfl⟩
 have o282 := push_old hM280 o261
 have o283 := push_old hM280 o262
 have o284 := push_old hM280 o263
 have o285 := push_old hM280 o267
 have o286 := push_old hM280 o272
 have o287 := push_old hM280 o278
 have ne288 : ([] : Mem).length ≠ M259.length := by have := lt_of_get (M := M259) o261; omega
 have ne289 : M118.length ≠ M259.length := by have := lt_of_get (M := M259) o262; omega
 have ne290 : M206.length ≠ M259.length := by have := lt_of_get (M := M259) o263; omega
 have ne291 : M230.length ≠ M259.length := by have := lt_of_get (M := M259) o267; omega
 have ne292 : (M230.length + 1) ≠ M259.length := by have := lt_of_get (M := M259) o272; omega
 have ne293 : (M230.length + 2) ≠ M259.length := by have := lt_of_get (M := M259) o278; omega
 have o294 : M279[M259.length]? = some (.live ⟨.grow, 107, 2, ([] : List Mark).map Mark.c⟩) := push_at hM280 0 rfl
 refine kw (stG (kp := false) hM280 rfl nty60 (ghc rfl (ghc rfl (ghc rfl (gha (arC_nn (fun _ => rfl)) (arC_len (fun x => ((cI_fl _) x).1)) (ghn ghz co107))))) (by decide) (stO rfl rfl o285 rfl rfl ⟨rfl, ble rfl⟩ (all1 rfl (all1 rfl (all1 (okL o283 (by simp)) (oaS (rest := [.lsl M259.length ([] : List Mark).length 0 ([] : List Mark).length]) (fun _ => rfl) (all1 (okL o294 (by simp)) all0))))) rfl)) fun M295 hM296 => ?_
 have o297 := set_ne hM296 ne264 o282
 have o298 := set_ne hM296 ne265 o283
 have o299 := set_ne hM296 ne266 o284
 have o300 : M295[M230.length]? = some (.live ⟨.box, 60, 20, [(.str x254 :: (.bool r202 :: (.lsl M118.length r203.length 0 r203.length :: ((arC (cI .i8) 0 r204) ++ ((.lsl M259.length ([] : List Mark).length 0 ([] : List Mark).length :: []) : List AV)))))]⟩) := set_same hM296 o285
 have o301 := set_ne hM296 (Ne.symm ne271) o286
 have o302 := set_ne hM296 (Ne.symm ne276) o287
 have o303 := set_ne hM296 (Ne.symm ne291) o294
 obtain ⟨r456, hr457, h⟩ := bind_some h
 refine Rn (hA h246 (hA h247 (hA h248 (hV (.loc M230.length 1 0 0) rfl hZ)))) fun e304 h306 h307 h308 h309 => sN (sq (sq (Rg (kx (mvO rfl) (Rn (hA h306 (hA h307 (hA h308 (hA h309 (hV (.int .i64 1) rfl hZ))))) fun e310 h312 h313 h314 h315 h316 => sN (bl ?_))))))
 clear h246 h247 h248 h249 h250 h251 h306 h307 h308 h309
 rcases r456 with _ | ⟨y466, y467, y468, y469⟩
 ·refine Ev.loop (RS := spec_ReadChain_b2_RS r10 r203 (([] : Mem).length) M118.length M230.length M259.length) (RR := spec_ReadChain_b2_RR r10 r203 (([] : Mem).length) M118.length M230.length M259.length) (fun s r h e M hs => spec_ReadChain_b2_ok r10 r203 (([] : Mem).length) M118.length M230.length M259.length ne209 ne264 ne288 ne265 ne289 ne291 s r h e M hs) hr457 ⟨h312, h313, h314, h315, h316, o297, o298, o300, o303⟩ fun x e459 M460 hq458 => ?_
  obtain ⟨rfl, h461, h462, o463⟩ := hq458
  refine bR (sR ?_)
  obtain rfl := si h
  exact eR (resC (ag := true) (sz := 20) ⟨by kernel_rfl, by kernel_rfl, by kernel_rfl⟩ (ldOA (cs' := (.str ([] : List UInt8) :: (.bool false :: (.nils :: ((arC (cI .i8) 0 (Ar.rep 16 0)) ++ ((.nils :: []) : List AV)))))) h461 o463 rfl rfl (ble rfl) rfl) (resT h462 res0)) rfl
 refine Ev.loop (RS := spec_ReadChain_b2_RS r10 r203 (([] : Mem).length) M118.length M230.length M259.length) (RR := spec_ReadChain_b2_RR r10 r203 (([] : Mem).length) M118.length M230.length M259.length) (fun s r h e M hs => spec_ReadChain_b2_ok r10 r203 (([] : Mem).length) M118.length M230.length M259.length ne209 ne264 ne288 ne265 ne289 ne291 s r h e M hs) hr457 ⟨h312, h313, h314, h315, h316, o297, o298, o300, o303⟩ fun x e464 M465 hq458 => ?_
 obtain ⟨rfl, h470, h471, o472, o473, o474, o475⟩ := hq458
 obtain ⟨r477, hx476, h⟩ := bind_some h
 refine bE (sN (sq (sq (Rg (kc (cl (v := .bool r477) rfl (cns h471 rfl) (ra1 (ra1_loc o474 rfl rfl (mp1 rfl (mp1 rfl (mp1 (rc_row o473 rfl Notch.fl) (mpA (fun _ => rCell_flat) (fun _ => rfl) (mp1 (rc_row o475 rfl Mark.fl) mp0))))) ⟨rfl, blt rfl⟩) ra0) (spec_l06Ok_ok (Chain.mk y466 (Half.mk y467 r203 y468) y469) _ hx476) (fun _ => rfl)) (kx (uNot rfl) (Rn (hV (.loc ([] : Mem).length 1 0 0) h470 (hV (.loc M230.length 1 0 0) h471 (hN rfl hZ))) fun e478 h480 h481 h482 => sN ?_)))))))
 clear h470 h471
 rcases ite_some h with ⟨hb483, h⟩ | ⟨hb483, h⟩
 ·refine cF h482 (congrArg Bool.not hb483) (xx (sN (sq (Rg (kx (ldOA (cs' := (.str y466 :: (.bool y467 :: (.lsl M118.length r203.length 0 r203.length :: ((arC (cI .i8) 0 y468) ++ ((.lsl M259.length y469.length 0 y469.length :: []) : List AV)))))) h481 o474 rfl rfl (ble rfl) rfl) (kw (stO h480 rfl o472 rfl rfl ⟨rfl, ble rfl⟩ (all1 rfl (all1 rfl (all1 (okL o473 (by simp)) (oaS (rest := [.lsl M259.length y469.length 0 y469.length]) (fun _ => rfl) (all1 (okL o475 (by simp)) all0))))) rfl) fun M484 hM485 => ?_))))))
  have o486 : M484[([] : Mem).length]? = some (.live ⟨.box, 60, 20, [(.str y466 :: (.bool y467 :: (.lsl M118.length r203.length 0 r203.length :: ((arC (cI .i8) 0 y468) ++ ((.lsl M259.length y469.length 0 y469.length :: []) : List AV)))))]⟩) := set_same hM485 o472
  have o487 := set_ne hM485 (Ne.symm ne209) o473
  have o488 := set_ne hM485 (Ne.symm ne264) o474
  have o489 := set_ne hM485 (Ne.symm ne288) o475
  refine kx (mvO rfl) (Rn (hA h480 (hV (.int .i64 0) rfl hZ)) fun e490 h492 h493 => sN (xx ?_))
  clear h480 h481 h482
  obtain rfl := si h
  exact eR (resC (ag := true) (sz := 20) ⟨by kernel_rfl, by kernel_rfl, by kernel_rfl⟩ (ldOA (cs' := (.str y466 :: (.bool y467 :: (.lsl M118.length r203.length 0 r203.length :: ((arC (cI .i8) 0 y468) ++ ((.lsl M259.length y469.length 0 y469.length :: []) : List AV)))))) h492 o486 rfl rfl (ble rfl) rfl) (resT h493 res0)) (rr_tup (mp1 (rr_agg (mp1 rfl (mp1 rfl (mp1 (rr_row o487 rfl Notch.fl) (mpA (fun _ => rRes1_flat) (fun _ => rfl) (mp1 (rr_row o489 rfl Mark.fl) mp0)))))) (mp1 rfl mp0)))
 refine cT h482 (congrArg Bool.not hb483) (sq (Rg (kx (bldT zero60 rfl (fill0 rfl)) (kw (stO h480 rfl o472 rfl rfl ⟨rfl, ble rfl⟩ rfl rfl) fun M494 hM495 => ?_))))
 have o496 : M494[([] : Mem).length]? = some (.live ⟨.box, 60, 20, [(.str ([] : List UInt8) :: (.bool false :: (.nils :: ((arC (cI .i8) 0 (Ar.rep 16 0)) ++ ((.nils :: []) : List AV)))))]⟩) := set_same hM495 o472
 have o497 := set_ne hM495 (Ne.symm ne209) o473
 have o498 := set_ne hM495 (Ne.symm ne264) o474
 have o499 := set_ne hM495 (Ne.symm ne288) o475
 refine kx (mvO rfl) (Rn (hA h480 (hV (.int .i64 5) rfl hZ)) fun e500 h502 h503 => sN (xx (sR ?_)))
 clear h480 h481 h482
 obtain rfl := si h
 exact eR (resC (ag := true) (sz := 20) ⟨by kernel_rfl, by kernel_rfl, by kernel_rfl⟩ (ldOA (cs' := (.str ([] : List UInt8) :: (.bool false :: (.nils :: ((arC (cI .i8) 0 (Ar.rep 16 0)) ++ ((.nils :: []) : List AV)))))) h502 o496 rfl rfl (ble rfl) rfl) (resT h503 res0)) rfl
/-! ### loop.example/g01263/laws.eqChain (f23) -/
noncomputable def laws_eqChain (a1 : Chain) (a2 : Chain) : Option Bool :=
 if (a1.Debtor == a2.Debtor) = true then
  (laws_eqHalf a1.Stock a2.Stock).bind fun r12 =>
  if r12 = true then
   (laws_eqMarkS a1.Marks a2.Marks).bind fun r20 =>
   if r20 = true then
    some true
   else
    some false
  else
   some false
 else
  some false
def laws_eqChain_enc (r : Bool) : AV := .bool r
theorem laws_eqChain_ok (a1 : Chain) (a2 : Chain) (r : Bool) (h : laws_eqChain a1 a2 = some r) : Ev (fun k => CN k 23 [.agg (.str a1.Debtor :: (.bool a1.Stock.Stock :: (.sl none (a1.Stock.Notches.map Notch.c) :: ((arC (cI .i8) 0 a1.Stock.Grain) ++ ((.sl none (a1.Marks.map Mark.c) :: []) : List AV))))), .agg (.str a2.Debtor :: (.bool a2.Stock.Stock :: (.sl none (a2.Stock.Notches.map Notch.c) :: ((arC (cI .i8) 0 a2.Stock.Grain) ++ ((.sl none (a2.Marks.map Mark.c) :: []) : List AV)))))] []) (fun p => rRes p.2 p.1 = laws_eqChain_enc r) := by
 unfold laws_eqChain at h
 refine Ev.enter (F := fun k => f23 (CN k) k) (fun k => callN_eq rfl Tryd.func23 rfl rfl rfl (by decide +kernel) (f23_eq _ _)) (sq (Rg (kx (bxI rfl rfl ⟨rfl, rfl, by decide⟩) (kx (bxI rfl rfl ⟨rfl, rfl, by decide⟩) (kx (mvO rfl) (Rn (hN rfl (hN rfl hZ)) fun e1 h3 h4 => sN (sq (sq (Rg (kx (faP h3 ⟨ble rfl, blt rfl⟩ rfl) (kx (ldP rfl rfl) (kx (faP h4 ⟨ble rfl, blt rfl⟩ rfl) (kx (ldP rfl rfl) (kx (sNeq rfl rfl) (Rn (hA h3 (hA h4 (hN rfl hZ))) fun e5 h7 h8 h9 => sN ?_)))))))))))))))
 clear h3 h4
 rcases ite_some h with ⟨hb10, h⟩ | ⟨hb10, h⟩
 ·obtain ⟨r12, hx11, h⟩ := bind_some h
  refine cF h9 (congrArg Bool.not hb10) (xx (sN (sq (sq (Rg (kx (faP h7 ⟨ble rfl, blt rfl⟩ rfl) (kx (ldPA rfl rfl rfl) (kx (faP h8 ⟨ble rfl, blt rfl⟩ rfl) (kx (ldPA rfl rfl rfl) (kc (cl (v := .bool r12) rfl (cns rfl (cns rfl rfl)) rfl (laws_eqHalf_ok a1.Stock a2.Stock _ hx11) nm) (kx (uNot rfl) (Rn (hA h7 (hA h8 (hN rfl hZ))) fun e13 h15 h16 h17 => sN ?_))))))))))))
  clear h7 h8 h9
  rcases ite_some h with ⟨hb18, h⟩ | ⟨hb18, h⟩
  ·obtain ⟨r20, hx19, h⟩ := bind_some h
   refine cF h17 (congrArg Bool.not hb18) (xx (sN (sq (sq (Rg (kx (faP h15 ⟨ble rfl, blt rfl⟩ rfl) (kx (ldP rfl rfl) (kx (faP h16 ⟨ble rfl, blt rfl⟩ rfl) (kx (ldP rfl rfl) (kc (cl (v := .bool r20) rfl (cns rfl (cns rfl rfl)) rfl (laws_eqMarkS_ok a1.Marks a2.Marks _ hx19) nm) (kx (uNot rfl) (Rn (hN rfl hZ) fun e21 h23 => sN ?_))))))))))))
   clear h15 h16 h17
   rcases ite_some h with ⟨hb24, h⟩ | ⟨hb24, h⟩
   ·refine cF h23 (congrArg Bool.not hb24) (xx (sN (sq (Rg (kx (mvO rfl) (Rn (hV (.bool true) rfl hZ) fun e25 h27 => sN (xx ?_)))))))
    clear h23
    obtain rfl := si h
    exact eR (resT h27 res0) rfl
   refine cT h23 (congrArg Bool.not hb24) (sq (Rg (kx (mvO rfl) (Rn (hV (.bool false) rfl hZ) fun e28 h30 => sN (xx (sR ?_))))))
   clear h23
   obtain rfl := si h
   exact eR (resT h30 res0) rfl
  refine cT h17 (congrArg Bool.not hb18) (sq (Rg (kx (mvO rfl) (Rn (hV (.bool false) rfl hZ) fun e31 h33 => sN (xx (sR ?_))))))
  clear h15 h16 h17
  obtain rfl := si h
  exact eR (resT h33 res0) rfl
 refine cT h9 (congrArg Bool.not hb10) (sq (Rg (kx (mvO rfl) (Rn (hV (.bool false) rfl hZ) fun e34 h36 => sN (xx (sR ?_))))))
 clear h7 h8 h9
 obtain rfl := si h
 exact eR (resT h36 res0) rfl
/-! ### loop.example/g01263/laws.markNotchS (f122) -/
abbrev laws_markNotchS_n_b1_S := Int × Int
abbrev laws_markNotchS_n_b1_R := Int
def laws_markNotchS_n_b1_RS (M0 : Mem) (s : laws_markNotchS_n_b1_S) (e : Env) (M : Mem) : Prop := eget e 0 = .nils ∧ eget e 1 = .int .i64 s.1 ∧ eget e 5 = .int .i64 s.2 ∧ Fr [] M0 M
def laws_markNotchS_n_b1_RR (M0 : Mem) (g : laws_markNotchS_n_b1_R) (x : Ex) (e : Env) (M : Mem) : Prop := x = .ext 0 ∧ eget e 1 = .int .i64 g ∧ Fr [] M0 M
noncomputable def laws_markNotchS_n_b1 : laws_markNotchS_n_b1_S → Option (laws_markNotchS_n_b1_S ⊕ laws_markNotchS_n_b1_R) := fun (s1_1, s1_2) =>
 if (decide (s1_2 < 0)) = true then
  none
 else
  some (.inr s1_1)
theorem laws_markNotchS_n_b1_ok (M0 : Mem) (s : laws_markNotchS_n_b1_S) (r : laws_markNotchS_n_b1_S ⊕ laws_markNotchS_n_b1_R) (h : laws_markNotchS_n_b1 s = some r) (e : Env) (M : Mem) (hs : laws_markNotchS_n_b1_RS M0 s e M) : Ev (fun k => (f122_l2 (CN k) k (prune [0, 1, 5] e) M).bind fun q => some q) (bQ (laws_markNotchS_n_b1_RS M0) (laws_markNotchS_n_b1_RR M0) r) := by
 obtain ⟨s1_1, s1_2⟩ := s
 unfold laws_markNotchS_n_b1 at h
 obtain ⟨h21, h23, h25, fr27⟩ := hs
 generalize he20 : prune [0, 1, 5] e = e19
 have h22 := envp he20.symm rfl h21
 have h24 := envp he20.symm rfl h23
 have h26 := envp he20.symm rfl h25
 refine sq (sq (Rg (kx (mvO h26) (kx (mvO h22) (kx (lnN Tryd.underlying54 rfl) (kx (bLss rfl rfl) (Rn (hV .nils h22 (hV (.int .i64 s1_1) h24 (hV (.int .i64 s1_2) h26 (hN rfl hZ)))) fun e28 h30 h31 h32 h33 => sN ?_)))))))
 clear h22 h24 h26
 rcases ite_some h with ⟨hb34, h⟩ | ⟨hb34, h⟩
 ·refine cT h33 hb34 (xx (sN (sq (bl (sq (Rg (kx (mvO h30) (kx (mvO h32) (kx (mvO h31) (kx (cvI rfl) ?_))))))))))
  cases h
 refine cF h33 hb34 (xx (sE ?_))
 obtain rfl := si h
 exact qE ⟨rfl, h31, fr27⟩
noncomputable def laws_markNotchS_n (a1 : Int) : Option Int :=
 (Lw (laws_markNotchS_n_b1) (a1, 0)).bind fun y40 =>
 some y40
def laws_markNotchS_n_Q (a1 : Int) (M0 : Mem) (r : Int) (p : AV × Mem) : Prop := p.1 = .int .i64 r ∧ Fr [] M0 p.2
theorem laws_markNotchS_n_ok (a1 : Int) (M0 : Mem) (r : Int) (h : laws_markNotchS_n a1 = some r) : Ev (fun k => CN k 122 [.nils, .int .i64 a1] M0) (laws_markNotchS_n_Q a1 M0 r) := by
 unfold laws_markNotchS_n at h
 have fr0 : Fr [] M0 M0 := Fr.refl
 obtain ⟨y40, hr36, h⟩ := bind_some h
 refine Ev.enter (F := fun k => f122 (CN k) k) (fun k => callN_eq rfl Tryd.func122 rfl rfl rfl (by decide +kernel) (f122_eq _ _)) (sq (Rg (kx (mvO rfl) (Rn (hV .nils rfl (hN rfl hZ)) fun e1 h3 h4 => sN (sq (sq (Rg (kx (mvO rfl) (Rn (hA h3 (hA h4 (hV (.int .i64 0) rfl hZ))) fun e5 h7 h8 h9 => sN (bl (Ev.loop (RS := laws_markNotchS_n_b1_RS M0) (RR := laws_markNotchS_n_b1_RR M0) (fun s r h e M hs => laws_markNotchS_n_b1_ok M0 s r h e M hs) hr36 ⟨h7, h8, h9, fr0⟩ fun x e38 M39 hq37 => ?_)))))))))))
 clear h3 h4
 obtain ⟨rfl, h41, fr42⟩ := hq37
 refine bE (sN (sq (Rg (kx (mvO h41) (kx (mvO rfl) (Rn (hN rfl hZ) fun e43 h45 => sN (xx ?_)))))))
 clear h41
 obtain rfl := si h
 exact eR (resT h45 res0) ⟨rfl, fr42⟩
/-! ### loop.example/g01263/laws.markHalf (f76) -/
noncomputable def laws_markHalf_n (a1 : Bool) (a2 : Ar 16 Int) (a3 : Int) : Option Int :=
 (laws_markNotchS_n a3).bind fun r12 =>
 some r12
def laws_markHalf_n_Q (a1 : Bool) (a2 : Ar 16 Int) (a3 : Int) (M0 : Mem) (r : Int) (p : AV × Mem) : Prop := p.1 = .int .i64 r ∧ Fr [] M0 p.2
theorem laws_markHalf_n_ok (a1 : Bool) (a2 : Ar 16 Int) (a3 : Int) (M0 : Mem) (r : Int) (h : laws_markHalf_n a1 a2 a3 = some r) : Ev (fun k => CN k 76 [.agg (.bool a1 :: (.nils :: ((arC (cI .i8) 0 a2) ++ ([] : List AV)))), .int .i64 a3] M0) (laws_markHalf_n_Q a1 a2 a3 M0 r) := by
 unfold laws_markHalf_n at h
 have fr0 : Fr [] M0 M0 := Fr.refl
 refine Ev.enter (F := fun k => f76 (CN k) k) (fun k => callN_eq rfl Tryd.func76 rfl rfl rfl (by decide +kernel) (f76_eq _ _)) (sq (Rg (ku (bxO rfl rfl ⟨rfl, rfl, by decide⟩) fun M2 hM3 => ?_)))
 have nf4 := Nf.mk fr0
 have fr5 := Fr.push fr0 hM3
 have o6 : M2[M0.length]? = some (.live ⟨.box, 57, 18, [(.bool a1 :: (.nils :: ((arC (cI .i8) 0 a2) ++ ([] : List AV))))]⟩) := push_new hM3
 obtain ⟨r12, hx11, h⟩ := bind_some h
 refine kx (mvO rfl) (Rn (hN rfl (hV (.loc M0.length 1 0 0) rfl hZ)) fun e7 h9 h10 => sN (sq (Rg (kx (faO h10 o6 rfl) (kx (ldO rfl o6 rfl rfl rfl) (kx (mvO h9) (Ev.nxw (Ev.callW rfl (cns rfl (cns rfl rfl)) (laws_markNotchS_n_ok a3 M2 _ hx11)) fun v15 M13 hq14 => ?_)))))))
 obtain ⟨hv15, fr16⟩ := hq14
 have hv15 : v15 = .int .i64 r12 := hv15
 subst hv15
 have o17 : M13[M0.length]? = some (.live ⟨.box, 57, 18, [(.bool a1 :: (.nils :: ((arC (cI .i8) 0 a2) ++ ([] : List AV))))]⟩) := fr16 _ _ niN o6
 have fr18 : Fr [] M0 M13 := Fr.call fr5 fr16 fwN
 refine kx (mvO rfl) (Rn (hN rfl hZ) fun e19 h21 => sN (sq (Rg (kx (mvO h21) (kx (mvO rfl) (Rn (hN rfl hZ) fun e22 h24 => sN (xx ?_)))))))
 clear h10 h21
 obtain rfl := si h
 exact eR (resT h24 res0) ⟨rfl, fr18⟩
/-! ### loop.example/g01263/laws.markMarkS (f77) -/
abbrev laws_markMarkS_n_b1_S := Int × Int
abbrev laws_markMarkS_n_b1_R := Int
def laws_markMarkS_n_b1_RS (M0 : Mem) (s : laws_markMarkS_n_b1_S) (e : Env) (M : Mem) : Prop := eget e 0 = .nils ∧ eget e 1 = .int .i64 s.1 ∧ eget e 5 = .int .i64 s.2 ∧ Fr [] M0 M
def laws_markMarkS_n_b1_RR (M0 : Mem) (g : laws_markMarkS_n_b1_R) (x : Ex) (e : Env) (M : Mem) : Prop := x = .ext 0 ∧ eget e 1 = .int .i64 g ∧ Fr [] M0 M
noncomputable def laws_markMarkS_n_b1 : laws_markMarkS_n_b1_S → Option (laws_markMarkS_n_b1_S ⊕ laws_markMarkS_n_b1_R) := fun (s1_1, s1_2) =>
 if (decide (s1_2 < 0)) = true then
  (laws_markText s1_1).bind fun r36 =>
  none
 else
  some (.inr s1_1)
theorem laws_markMarkS_n_b1_ok (M0 : Mem) (s : laws_markMarkS_n_b1_S) (r : laws_markMarkS_n_b1_S ⊕ laws_markMarkS_n_b1_R) (h : laws_markMarkS_n_b1 s = some r) (e : Env) (M : Mem) (hs : laws_markMarkS_n_b1_RS M0 s e M) : Ev (fun k => (f77_l2 (CN k) k (prune [0, 1, 5] e) M).bind fun q => some q) (bQ (laws_markMarkS_n_b1_RS M0) (laws_markMarkS_n_b1_RR M0) r) := by
 obtain ⟨s1_1, s1_2⟩ := s
 unfold laws_markMarkS_n_b1 at h
 obtain ⟨h21, h23, h25, fr27⟩ := hs
 generalize he20 : prune [0, 1, 5] e = e19
 have h22 := envp he20.symm rfl h21
 have h24 := envp he20.symm rfl h23
 have h26 := envp he20.symm rfl h25
 refine sq (sq (Rg (kx (mvO h26) (kx (mvO h22) (kx (lnN Tryd.underlying58 rfl) (kx (bLss rfl rfl) (Rn (hV .nils h22 (hV (.int .i64 s1_1) h24 (hV (.int .i64 s1_2) h26 (hN rfl hZ)))) fun e28 h30 h31 h32 h33 => sN ?_)))))))
 clear h22 h24 h26
 rcases ite_some h with ⟨hb34, h⟩ | ⟨hb34, h⟩
 ·obtain ⟨r36, hx35, h⟩ := bind_some h
  refine cT h33 hb34 (xx (sN (sq (bl (sq (Rg (kx (mvO h30) (kx (mvO h32) (kx (mvO h31) (kc (cl (v := .str r36) rfl (cns rfl rfl) rfl (laws_markText_ok s1_1 _ hx35) nm) ?_))))))))))
  cases h
 refine cF h33 hb34 (xx (sE ?_))
 obtain rfl := si h
 exact qE ⟨rfl, h31, fr27⟩
noncomputable def laws_markMarkS_n (a1 : Int) : Option Int :=
 (Lw (laws_markMarkS_n_b1) (a1, 0)).bind fun y42 =>
 some y42
def laws_markMarkS_n_Q (a1 : Int) (M0 : Mem) (r : Int) (p : AV × Mem) : Prop := p.1 = .int .i64 r ∧ Fr [] M0 p.2
theorem laws_markMarkS_n_ok (a1 : Int) (M0 : Mem) (r : Int) (h : laws_markMarkS_n a1 = some r) : Ev (fun k => CN k 77 [.nils, .int .i64 a1] M0) (laws_markMarkS_n_Q a1 M0 r) := by
 unfold laws_markMarkS_n at h
 have fr0 : Fr [] M0 M0 := Fr.refl
 obtain ⟨y42, hr38, h⟩ := bind_some h
 refine Ev.enter (F := fun k => f77 (CN k) k) (fun k => callN_eq rfl Tryd.func77 rfl rfl rfl (by decide +kernel) (f77_eq _ _)) (sq (Rg (kx (mvO rfl) (Rn (hV .nils rfl (hN rfl hZ)) fun e1 h3 h4 => sN (sq (sq (Rg (kx (mvO rfl) (Rn (hA h3 (hA h4 (hV (.int .i64 0) rfl hZ))) fun e5 h7 h8 h9 => sN (bl (Ev.loop (RS := laws_markMarkS_n_b1_RS M0) (RR := laws_markMarkS_n_b1_RR M0) (fun s r h e M hs => laws_markMarkS_n_b1_ok M0 s r h e M hs) hr38 ⟨h7, h8, h9, fr0⟩ fun x e40 M41 hq39 => ?_)))))))))))
 clear h3 h4
 obtain ⟨rfl, h43, fr44⟩ := hq39
 refine bE (sN (sq (Rg (kx (mvO h43) (kx (mvO rfl) (Rn (hN rfl hZ) fun e45 h47 => sN (xx ?_)))))))
 clear h43
 obtain rfl := si h
 exact eR (resT h47 res0) ⟨rfl, fr44⟩
/-! ### loop.example/g01263/laws.markChain (f30) -/
noncomputable def laws_markChain_nn (a1 : List UInt8) (a2 : Bool) (a3 : Ar 16 Int) (a4 : Int) : Option Int :=
 (laws_markHalf_n a2 a3 a4).bind fun r12 =>
 (laws_markMarkS_n r12).bind fun r24 =>
 some r24
def laws_markChain_nn_Q (a1 : List UInt8) (a2 : Bool) (a3 : Ar 16 Int) (a4 : Int) (M0 : Mem) (r : Int) (p : AV × Mem) : Prop := p.1 = .int .i64 r ∧ Fr [] M0 p.2
theorem laws_markChain_nn_ok (a1 : List UInt8) (a2 : Bool) (a3 : Ar 16 Int) (a4 : Int) (M0 : Mem) (r : Int) (h : laws_markChain_nn a1 a2 a3 a4 = some r) : Ev (fun k => CN k 30 [.agg (.str a1 :: (.bool a2 :: (.nils :: ((arC (cI .i8) 0 a3) ++ ((.nils :: []) : List AV))))), .int .i64 a4] M0) (laws_markChain_nn_Q a1 a2 a3 a4 M0 r) := by
 unfold laws_markChain_nn at h
 have fr0 : Fr [] M0 M0 := Fr.refl
 refine Ev.enter (F := fun k => f30 (CN k) k) (fun k => callN_eq rfl Tryd.func30 rfl rfl rfl (by decide +kernel) (f30_eq _ _)) (sq (Rg (ku (bxO rfl rfl ⟨rfl, rfl, by decide⟩) fun M2 hM3 => ?_)))
 have nf4 := Nf.mk fr0
 have fr5 := Fr.push fr0 hM3
 have o6 : M2[M0.length]? = some (.live ⟨.box, 60, 20, [(.str a1 :: (.bool a2 :: (.nils :: ((arC (cI .i8) 0 a3) ++ ((.nils :: []) : List AV)))))]⟩) := push_new hM3
 obtain ⟨r12, hx11, h⟩ := bind_some h
 refine kx (mvO rfl) (Rn (hN rfl (hV (.loc M0.length 1 0 0) rfl hZ)) fun e7 h9 h10 => sN (sq (Rg (kx (faO h10 o6 rfl) (kx (ldOA (cs' := (.bool a2 :: (.nils :: ((arC (cI .i8) 0 a3) ++ ([] : List AV))))) rfl o6 rfl rfl (ble rfl) rfl) (kx (mvO h9) (Ev.nxw (Ev.callW rfl (cns rfl (cns rfl rfl)) (laws_markHalf_n_ok a2 a3 a4 M2 _ hx11)) fun v15 M13 hq14 => ?_)))))))
 obtain ⟨hv15, fr16⟩ := hq14
 have hv15 : v15 = .int .i64 r12 := hv15
 subst hv15
 have o17 : M13[M0.length]? = some (.live ⟨.box, 60, 20, [(.str a1 :: (.bool a2 :: (.nils :: ((arC (cI .i8) 0 a3) ++ ((.nils :: []) : List AV)))))]⟩) := fr16 _ _ niN o6
 have fr18 : Fr [] M0 M13 := Fr.call fr5 fr16 fwN
 obtain ⟨r24, hx23, h⟩ := bind_some h
 refine kx (mvO rfl) (Rn (hN rfl (hA h10 hZ)) fun e19 h21 h22 => sN (sq (Rg (kx (faO h22 o17 rfl) (kx (ldO rfl o17 rfl rfl rfl) (kx (mvO h21) (Ev.nxw (Ev.callW rfl (cns rfl (cns rfl rfl)) (laws_markMarkS_n_ok r12 M13 _ hx23)) fun v27 M25 hq26 => ?_)))))))
 clear h10
 obtain ⟨hv27, fr28⟩ := hq26
 have hv27 : v27 = .int .i64 r24 := hv27
 subst hv27
 have o29 : M25[M0.length]? = some (.live ⟨.box, 60, 20, [(.str a1 :: (.bool a2 :: (.nils :: ((arC (cI .i8) 0 a3) ++ ((.nils :: []) : List AV)))))]⟩) := fr28 _ _ niN o17
 have fr30 : Fr [] M0 M25 := Fr.call fr18 fr28 fwN
 refine kx (mvO rfl) (Rn (hN rfl hZ) fun e31 h33 => sN (sq (Rg (kx (mvO h33) (kx (mvO rfl) (Rn (hN rfl hZ) fun e34 h36 => sN (xx ?_)))))))
 clear h22 h33
 obtain rfl := si h
 exact eR (resT h36 res0) ⟨rfl, fr30⟩
/-! ### loop.example/g01263/laws.markNotchS (f122) -/
abbrev laws_markNotchS_l_b1_S := Int × Int × (List Notch)
abbrev laws_markNotchS_l_b1_R := Int × (List Notch)
def laws_markNotchS_l_b1_RS (a1 : List Notch) (j1 : Nat) (M0 : Mem) (s : laws_markNotchS_l_b1_S) (e : Env) (M : Mem) : Prop := eget e 0 = .lsl j1 s.2.2.length 0 s.2.2.length ∧ eget e 1 = .int .i64 s.1 ∧ eget e 5 = .int .i64 s.2.1 ∧ M[j1]? = some (.live ⟨.grow, 156, 2, s.2.2.map Notch.c⟩) ∧ Fr [j1] M0 M ∧ s.2.2.length = a1.length
def laws_markNotchS_l_b1_RR (a1 : List Notch) (j1 : Nat) (M0 : Mem) (g : laws_markNotchS_l_b1_R) (x : Ex) (e : Env) (M : Mem) : Prop := x = .ext 0 ∧ eget e 1 = .int .i64 g.1 ∧ M[j1]? = some (.live ⟨.grow, 156, 2, g.2.map Notch.c⟩) ∧ Fr [j1] M0 M ∧ g.2.length = a1.length
noncomputable def laws_markNotchS_l_b1 : laws_markNotchS_l_b1_S → Option (laws_markNotchS_l_b1_S ⊕ laws_markNotchS_l_b1_R) := fun (s1_1, s1_2, s1_3) =>
 if (decide (s1_2 < (s1_3.length : Int))) = true then
  (rd s1_3 s1_2).bind fun x38 =>
  (rd (s1_3.set s1_2.toNat (Notch.mk (IntKind.i8.wrap s1_1) x38.At)) s1_2).bind fun x55 =>
  some (.inl ((IntKind.i64.wrap ((IntKind.i64.wrap (s1_1 + 1)) + 1)), (IntKind.i64.wrap (s1_2 + 1)), ((s1_3.set s1_2.toNat (Notch.mk (IntKind.i8.wrap s1_1) x38.At)).set s1_2.toNat (Notch.mk x55.Kind (IntKind.i16.wrap (IntKind.i64.wrap (s1_1 + 1)))))))
 else
  some (.inr (s1_1, s1_3))
theorem laws_markNotchS_l_b1_ok (a1 : List Notch) (j1 : Nat) (M0 : Mem) (s : laws_markNotchS_l_b1_S) (r : laws_markNotchS_l_b1_S ⊕ laws_markNotchS_l_b1_R) (h : laws_markNotchS_l_b1 s = some r) (e : Env) (M : Mem) (hs : laws_markNotchS_l_b1_RS a1 j1 M0 s e M) : Ev (fun k => (f122_l2 (CN k) k (prune [0, 1, 5] e) M).bind fun q => some q) (bQ (laws_markNotchS_l_b1_RS a1 j1 M0) (laws_markNotchS_l_b1_RR a1 j1 M0) r) := by
 obtain ⟨s1_1, s1_2, s1_3⟩ := s
 unfold laws_markNotchS_l_b1 at h
 obtain ⟨h22, h24, h26, o28, fr29, hl30⟩ := hs
 generalize he21 : prune [0, 1, 5] e = e20
 have h23 := envp he21.symm rfl h22
 have h25 := envp he21.symm rfl h24
 have h27 := envp he21.symm rfl h26
 refine sq (sq (Rg (kx (mvO h27) (kx (mvO h23) (kx (lnL Tryd.underlying54 rfl o28 (by simp [hl30])) (kx (bLss rfl rfl) (Rn (hV (.lsl j1 s1_3.length 0 s1_3.length) h23 (hV (.int .i64 s1_1) h25 (hV (.int .i64 s1_2) h27 (hN rfl hZ)))) fun e31 h33 h34 h35 h36 => sN ?_)))))))
 clear h23 h25 h27
 rcases ite_some h with ⟨hb37, h⟩ | ⟨hb37, h⟩
 ·obtain ⟨x38, hx39, h⟩ := bind_some h
  refine cT h36 hb37 (xx (sN (sq (bl (sq (Rg (kx (mvO h33) (kx (mvO h35) (kx (mvO h34) (kx (cvI rfl) (kx (ixO rfl o28 rfl rfl (rd_get hx39).1 (rd_lt hx39).2) (kx (faO rfl o28 (by simp [hl30])) (kw (stR (u := x38) (u' := (Notch.mk (IntKind.i8.wrap s1_1) x38.At)) rfl rfl o28 rfl (rz2 hx39) ⟨rfl, ble rfl⟩ rfl rfl) fun M40 hM41 => ?_)))))))))))))
  rw [Nat.zero_add] at hM41
  have o42 : M40[j1]? = some (.live ⟨.grow, 156, 2, (s1_3.set s1_2.toNat (Notch.mk (IntKind.i8.wrap s1_1) x38.At)).map Notch.c⟩) := set_same hM41 o28
  have fr43 := Fr.setIn fr29 hM41 (by simp)
  have hx44 := rd_set (u' := (Notch.mk (IntKind.i8.wrap s1_1) x38.At)) hx39
  obtain ⟨x55, hx56, h⟩ := bind_some h
  refine Rn (hA h33 (hA h34 (hA h35 hZ))) fun e45 h47 h48 h49 => sN (sq (Rg (kx (mvO h48) (kx (bAdd rfl rfl) (kx (mvO rfl) (Rn (hA h47 (hN rfl (hA h49 hZ))) fun e50 h52 h53 h54 => sN (sq (Rg (kx (mvO (lslL (L' := (s1_3.set s1_2.toNat (Notch.mk (IntKind.i8.wrap s1_1) x38.At)).length) h52 (by simp [hl30]))) (kx (mvO h54) (kx (mvO h53) (kx (cvI rfl) (kx (ixO rfl o42 rfl rfl (rd_get hx56).1 (rd_lt hx56).2) (kx (faO rfl o42 (by simp [hl30])) (kw (stR (u := x55) (u' := (Notch.mk x55.Kind (IntKind.i16.wrap (IntKind.i64.wrap (s1_1 + 1))))) rfl rfl o42 rfl (rz2 hx56) ⟨rfl, ble rfl⟩ rfl rfl) fun M57 hM58 => ?_)))))))))))))))
  clear h33 h34 h35 h36 h47 h49
  rw [Nat.zero_add] at hM58
  have o59 : M57[j1]? = some (.live ⟨.grow, 156, 2, ((s1_3.set s1_2.toNat (Notch.mk (IntKind.i8.wrap s1_1) x38.At)).set s1_2.toNat (Notch.mk x55.Kind (IntKind.i16.wrap (IntKind.i64.wrap (s1_1 + 1))))).map Notch.c⟩) := set_same hM58 o42
  have fr60 := Fr.setIn fr43 hM58 (by simp)
  have hx61 := rd_set (u' := (Notch.mk x55.Kind (IntKind.i16.wrap (IntKind.i64.wrap (s1_1 + 1))))) hx56
  refine Rn (hA h52 (hA h53 (hA h54 hZ))) fun e62 h64 h65 h66 => sN (Rg (kx (mvO h65) (kx (bAdd rfl rfl) (kx (mvO rfl) (Rn (hA h64 (hN rfl (hA h66 hZ))) fun e67 h69 h70 h71 => bN (sN (Rg (kx (mvO h71) (kx (bAdd rfl rfl) (kx (mvO rfl) (Rn (hA h69 (hA h70 (hN rfl hZ))) fun e72 h74 h75 h76 => ?_)))))))))))
  clear h52 h53 h54 h64 h66 h69 h70
  obtain rfl := si h
  exact qN ⟨(lslL (L' := ((s1_3.set s1_2.toNat (Notch.mk (IntKind.i8.wrap s1_1) x38.At)).set s1_2.toNat (Notch.mk x55.Kind (IntKind.i16.wrap (IntKind.i64.wrap (s1_1 + 1))))).length) h74 (by simp [hl30])), h75, h76, o59, fr60, (by first | rfl | simp [hl30])⟩
 refine cF h36 hb37 (xx (sE ?_))
 obtain rfl := si h
 exact qE ⟨rfl, h34, o28, fr29, (by first | rfl | simp [hl30])⟩
noncomputable def laws_markNotchS_l (a1 : List Notch) (a2 : Int) : Option (Int × (List Notch)) :=
 (Lw (laws_markNotchS_l_b1) (a2, 0, a1)).bind fun (y82, y83) =>
 some (y82, y83)
def laws_markNotchS_l_Q (a1 : List Notch) (a2 : Int) (j1 : Nat) (M0 : Mem) (r : Int × (List Notch)) (p : AV × Mem) : Prop := p.1 = .int .i64 r.1 ∧ p.2[j1]? = some (.live ⟨.grow, 156, 2, r.2.map Notch.c⟩) ∧ Fr [j1] M0 p.2 ∧ r.2.length = a1.length
theorem laws_markNotchS_l_ok (a1 : List Notch) (a2 : Int) (j1 : Nat) (M0 : Mem) (oP1 : M0[j1]? = some (.live ⟨.grow, 156, 2, a1.map Notch.c⟩)) (r : Int × (List Notch)) (h : laws_markNotchS_l a1 a2 = some r) : Ev (fun k => CN k 122 [.lsl j1 a1.length 0 a1.length, .int .i64 a2] M0) (laws_markNotchS_l_Q a1 a2 j1 M0 r) := by
 unfold laws_markNotchS_l at h
 have fr0 : Fr [j1] M0 M0 := Fr.refl
 obtain ⟨⟨y82, y83⟩, hr78, h⟩ := bind_some h
 refine Ev.enter (F := fun k => f122 (CN k) k) (fun k => callN_eq rfl Tryd.func122 rfl rfl rfl (by decide +kernel) (f122_eq _ _)) (sq (Rg (kx (mvO rfl) (Rn (hV (.lsl j1 a1.length 0 a1.length) rfl (hN rfl hZ)) fun e1 h3 h4 => sN (sq (sq (Rg (kx (mvO rfl) (Rn (hA h3 (hA h4 (hV (.int .i64 0) rfl hZ))) fun e5 h7 h8 h9 => sN (bl (Ev.loop (RS := laws_markNotchS_l_b1_RS a1 j1 M0) (RR := laws_markNotchS_l_b1_RR a1 j1 M0) (fun s r h e M hs => laws_markNotchS_l_b1_ok a1 j1 M0 s r h e M hs) hr78 ⟨h7, h8, h9, oP1, fr0, rfl⟩ fun x e80 M81 hq79 => ?_)))))))))))
 clear h3 h4
 obtain ⟨rfl, h84, o85, fr86, hl87⟩ := hq79
 refine bE (sN (sq (Rg (kx (mvO h84) (kx (mvO rfl) (Rn (hN rfl hZ) fun e88 h90 => sN (xx ?_)))))))
 clear h84
 obtain rfl := si h
 exact eR (resT h90 res0) ⟨rfl, o85, fr86, (by first | rfl | simp [hl87])⟩
/-! ### loop.example/g01263/laws.markHalf (f76) -/
noncomputable def laws_markHalf_l (a1 : Bool) (a2 : List Notch) (a3 : Ar 16 Int) (a4 : Int) : Option (Int × (List Notch)) :=
 (laws_markNotchS_l a2 a4).bind fun (r14, r15) =>
 some (r14, r15)
def laws_markHalf_l_Q (a1 : Bool) (a2 : List Notch) (a3 : Ar 16 Int) (a4 : Int) (j1 : Nat) (M0 : Mem) (r : Int × (List Notch)) (p : AV × Mem) : Prop := p.1 = .int .i64 r.1 ∧ p.2[j1]? = some (.live ⟨.grow, 156, 2, r.2.map Notch.c⟩) ∧ Fr [j1] M0 p.2 ∧ r.2.length = a2.length
theorem laws_markHalf_l_ok (a1 : Bool) (a2 : List Notch) (a3 : Ar 16 Int) (a4 : Int) (j1 : Nat) (M0 : Mem) (oP1 : M0[j1]? = some (.live ⟨.grow, 156, 2, a2.map Notch.c⟩)) (r : Int × (List Notch)) (h : laws_markHalf_l a1 a2 a3 a4 = some r) : Ev (fun k => CN k 76 [.agg (.bool a1 :: (.lsl j1 a2.length 0 a2.length :: ((arC (cI .i8) 0 a3) ++ ([] : List AV)))), .int .i64 a4] M0) (laws_markHalf_l_Q a1 a2 a3 a4 j1 M0 r) := by
 unfold laws_markHalf_l at h
 have fr0 : Fr [j1] M0 M0 := Fr.refl
 refine Ev.enter (F := fun k => f76 (CN k) k) (fun k => callN_eq rfl Tryd.func76 rfl rfl rfl (by decide +kernel) (f76_eq _ _)) (sq (Rg (ku (bxO rfl rfl ⟨rfl, (all1 rfl (all1 (okL oP1 (by simp)) (oaS (fun _ => rfl) all0))), by decide⟩) fun M2 hM3 => ?_)))
 have nf4 := Nf.mk fr0
 have fr5 := Fr.push fr0 hM3
 have o6 := push_old hM3 oP1
 have ne7 := ne_new oP1
 have o8 : M2[M0.length]? = some (.live ⟨.box, 57, 18, [(.bool a1 :: (.lsl j1 a2.length 0 a2.length :: ((arC (cI .i8) 0 a3) ++ ([] : List AV))))]⟩) := push_new hM3
 obtain ⟨⟨r14, r15⟩, hx13, h⟩ := bind_some h
 refine kx (mvO rfl) (Rn (hN rfl (hV (.loc M0.length 1 0 0) rfl hZ)) fun e9 h11 h12 => sN (sq (Rg (kx (faO h12 o8 rfl) (kx (ldO rfl o8 rfl rfl rfl) (kx (mvO h11) (Ev.nxw (Ev.callW rfl (cns rfl (cns rfl rfl)) (laws_markNotchS_l_ok a2 a4 j1 M2 o6 _ hx13)) fun v18 M16 hq17 => ?_)))))))
 obtain ⟨hv18, o19, fr20, hl21⟩ := hq17
 have hv18 : v18 = .int .i64 r14 := hv18
 subst hv18
 have o22 : M16[j1]? = some (.live ⟨.grow, 156, 2, r15.map Notch.c⟩) := o19
 have hl21 : r15.length = a2.length := hl21
 have o23 : M16[M0.length]? = some (.live ⟨.box, 57, 18, [(.bool a1 :: (.lsl j1 a2.length 0 a2.length :: ((arC (cI .i8) 0 a3) ++ ([] : List AV))))]⟩) := fr20 _ _ (niC (Ne.symm ne7) niN) o8
 have fr24 : Fr [j1] M0 M16 := Fr.call fr5 fr20 (fwI (by simp) fwN)
 refine kx (mvO rfl) (Rn (hN rfl hZ) fun e25 h27 => sN (sq (Rg (kx (mvO h27) (kx (mvO rfl) (Rn (hN rfl hZ) fun e28 h30 => sN (xx ?_)))))))
 clear h12 h27
 obtain rfl := si h
 exact eR (resT h30 res0) ⟨rfl, o22, fr24, (by first | rfl | simp [hl21])⟩
/-! ### loop.example/g01263/laws.markMarkS (f77) -/
abbrev laws_markMarkS_l_b1_S := Int × Int × (List Mark)
abbrev laws_markMarkS_l_b1_R := Int × (List Mark)
def laws_markMarkS_l_b1_RS (a1 : List Mark) (j1 : Nat) (M0 : Mem) (s : laws_markMarkS_l_b1_S) (e : Env) (M : Mem) : Prop := eget e 0 = .lsl j1 s.2.2.length 0 s.2.2.length ∧ eget e 1 = .int .i64 s.1 ∧ eget e 5 = .int .i64 s.2.1 ∧ M[j1]? = some (.live ⟨.grow, 107, 2, s.2.2.map Mark.c⟩) ∧ Fr [j1] M0 M ∧ s.2.2.length = a1.length
def laws_markMarkS_l_b1_RR (a1 : List Mark) (j1 : Nat) (M0 : Mem) (g : laws_markMarkS_l_b1_R) (x : Ex) (e : Env) (M : Mem) : Prop := x = .ext 0 ∧ eget e 1 = .int .i64 g.1 ∧ M[j1]? = some (.live ⟨.grow, 107, 2, g.2.map Mark.c⟩) ∧ Fr [j1] M0 M ∧ g.2.length = a1.length
noncomputable def laws_markMarkS_l_b1 : laws_markMarkS_l_b1_S → Option (laws_markMarkS_l_b1_S ⊕ laws_markMarkS_l_b1_R) := fun (s1_1, s1_2, s1_3) =>
 if (decide (s1_2 < (s1_3.length : Int))) = true then
  (laws_markText s1_1).bind fun r39 =>
  (rd s1_3 s1_2).bind fun x40 =>
  (rd (s1_3.set s1_2.toNat (Mark.mk r39 x40.Seal)) s1_2).bind fun x57 =>
  some (.inl ((IntKind.i64.wrap ((IntKind.i64.wrap (s1_1 + 1)) + 1)), (IntKind.i64.wrap (s1_2 + 1)), ((s1_3.set s1_2.toNat (Mark.mk r39 x40.Seal)).set s1_2.toNat (Mark.mk x57.Holder (IntKind.u32.wrap (IntKind.i64.wrap (s1_1 + 1)))))))
 else
  some (.inr (s1_1, s1_3))
theorem laws_markMarkS_l_b1_ok (a1 : List Mark) (j1 : Nat) (M0 : Mem) (s : laws_markMarkS_l_b1_S) (r : laws_markMarkS_l_b1_S ⊕ laws_markMarkS_l_b1_R) (h : laws_markMarkS_l_b1 s = some r) (e : Env) (M : Mem) (hs : laws_markMarkS_l_b1_RS a1 j1 M0 s e M) : Ev (fun k => (f77_l2 (CN k) k (prune [0, 1, 5] e) M).bind fun q => some q) (bQ (laws_markMarkS_l_b1_RS a1 j1 M0) (laws_markMarkS_l_b1_RR a1 j1 M0) r) := by
 obtain ⟨s1_1, s1_2, s1_3⟩ := s
 unfold laws_markMarkS_l_b1 at h
 obtain ⟨h22, h24, h26, o28, fr29, hl30⟩ := hs
 generalize he21 : prune [0, 1, 5] e = e20
 have h23 := envp he21.symm rfl h22
 have h25 := envp he21.symm rfl h24
 have h27 := envp he21.symm rfl h26
 refine sq (sq (Rg (kx (mvO h27) (kx (mvO h23) (kx (lnL Tryd.underlying58 rfl o28 (by simp [hl30])) (kx (bLss rfl rfl) (Rn (hV (.lsl j1 s1_3.length 0 s1_3.length) h23 (hV (.int .i64 s1_1) h25 (hV (.int .i64 s1_2) h27 (hN rfl hZ)))) fun e31 h33 h34 h35 h36 => sN ?_)))))))
 clear h23 h25 h27
 rcases ite_some h with ⟨hb37, h⟩ | ⟨hb37, h⟩
 ·obtain ⟨r39, hx38, h⟩ := bind_some h
  obtain ⟨x40, hx41, h⟩ := bind_some h
  refine cT h36 hb37 (xx (sN (sq (bl (sq (Rg (kx (mvO h33) (kx (mvO h35) (kx (mvO h34) (kc (cl (v := .str r39) rfl (cns rfl rfl) rfl (laws_markText_ok s1_1 _ hx38) nm) (kx (ixO rfl o28 rfl rfl (rd_get hx41).1 (rd_lt hx41).2) (kx (faO rfl o28 (by simp [hl30])) (kw (stR (u := x40) (u' := (Mark.mk r39 x40.Seal)) rfl rfl o28 rfl (rz2 hx41) ⟨rfl, ble rfl⟩ rfl rfl) fun M42 hM43 => ?_)))))))))))))
  rw [Nat.zero_add] at hM43
  have o44 : M42[j1]? = some (.live ⟨.grow, 107, 2, (s1_3.set s1_2.toNat (Mark.mk r39 x40.Seal)).map Mark.c⟩) := set_same hM43 o28
  have fr45 := Fr.setIn fr29 hM43 (by simp)
  have hx46 := rd_set (u' := (Mark.mk r39 x40.Seal)) hx41
  obtain ⟨x57, hx58, h⟩ := bind_some h
  refine Rn (hA h33 (hA h34 (hA h35 hZ))) fun e47 h49 h50 h51 => sN (sq (Rg (kx (mvO h50) (kx (bAdd rfl rfl) (kx (mvO rfl) (Rn (hA h49 (hN rfl (hA h51 hZ))) fun e52 h54 h55 h56 => sN (sq (Rg (kx (mvO (lslL (L' := (s1_3.set s1_2.toNat (Mark.mk r39 x40.Seal)).length) h54 (by simp [hl30]))) (kx (mvO h56) (kx (mvO h55) (kx (cvI rfl) (kx (ixO rfl o44 rfl rfl (rd_get hx58).1 (rd_lt hx58).2) (kx (faO rfl o44 (by simp [hl30])) (kw (stR (u := x57) (u' := (Mark.mk x57.Holder (IntKind.u32.wrap (IntKind.i64.wrap (s1_1 + 1))))) rfl rfl o44 rfl (rz2 hx58) ⟨rfl, ble rfl⟩ rfl rfl) fun M59 hM60 => ?_)))))))))))))))
  clear h33 h34 h35 h36 h49 h51
  rw [Nat.zero_add] at hM60
  have o61 : M59[j1]? = some (.live ⟨.grow, 107, 2, ((s1_3.set s1_2.toNat (Mark.mk r39 x40.Seal)).set s1_2.toNat (Mark.mk x57.Holder (IntKind.u32.wrap (IntKind.i64.wrap (s1_1 + 1))))).map Mark.c⟩) := set_same hM60 o44
  have fr62 := Fr.setIn fr45 hM60 (by simp)
  have hx63 := rd_set (u' := (Mark.mk x57.Holder (IntKind.u32.wrap (IntKind.i64.wrap (s1_1 + 1))))) hx58
  refine Rn (hA h54 (hA h55 (hA h56 hZ))) fun e64 h66 h67 h68 => sN (Rg (kx (mvO h67) (kx (bAdd rfl rfl) (kx (mvO rfl) (Rn (hA h66 (hN rfl (hA h68 hZ))) fun e69 h71 h72 h73 => bN (sN (Rg (kx (mvO h73) (kx (bAdd rfl rfl) (kx (mvO rfl) (Rn (hA h71 (hA h72 (hN rfl hZ))) fun e74 h76 h77 h78 => ?_)))))))))))
  clear h54 h55 h56 h66 h68 h71 h72
  obtain rfl := si h
  exact qN ⟨(lslL (L' := ((s1_3.set s1_2.toNat (Mark.mk r39 x40.Seal)).set s1_2.toNat (Mark.mk x57.Holder (IntKind.u32.wrap (IntKind.i64.wrap (s1_1 + 1))))).length) h76 (by simp [hl30])), h77, h78, o61, fr62, (by first | rfl | simp [hl30])⟩
 refine cF h36 hb37 (xx (sE ?_))
 obtain rfl := si h
 exact qE ⟨rfl, h34, o28, fr29, (by first | rfl | simp [hl30])⟩
noncomputable def laws_markMarkS_l (a1 : List Mark) (a2 : Int) : Option (Int × (List Mark)) :=
 (Lw (laws_markMarkS_l_b1) (a2, 0, a1)).bind fun (y84, y85) =>
 some (y84, y85)
def laws_markMarkS_l_Q (a1 : List Mark) (a2 : Int) (j1 : Nat) (M0 : Mem) (r : Int × (List Mark)) (p : AV × Mem) : Prop := p.1 = .int .i64 r.1 ∧ p.2[j1]? = some (.live ⟨.grow, 107, 2, r.2.map Mark.c⟩) ∧ Fr [j1] M0 p.2 ∧ r.2.length = a1.length
theorem laws_markMarkS_l_ok (a1 : List Mark) (a2 : Int) (j1 : Nat) (M0 : Mem) (oP1 : M0[j1]? = some (.live ⟨.grow, 107, 2, a1.map Mark.c⟩)) (r : Int × (List Mark)) (h : laws_markMarkS_l a1 a2 = some r) : Ev (fun k => CN k 77 [.lsl j1 a1.length 0 a1.length, .int .i64 a2] M0) (laws_markMarkS_l_Q a1 a2 j1 M0 r) := by
 unfold laws_markMarkS_l at h
 have fr0 : Fr [j1] M0 M0 := Fr.refl
 obtain ⟨⟨y84, y85⟩, hr80, h⟩ := bind_some h
 refine Ev.enter (F := fun k => f77 (CN k) k) (fun k => callN_eq rfl Tryd.func77 rfl rfl rfl (by decide +kernel) (f77_eq _ _)) (sq (Rg (kx (mvO rfl) (Rn (hV (.lsl j1 a1.length 0 a1.length) rfl (hN rfl hZ)) fun e1 h3 h4 => sN (sq (sq (Rg (kx (mvO rfl) (Rn (hA h3 (hA h4 (hV (.int .i64 0) rfl hZ))) fun e5 h7 h8 h9 => sN (bl (Ev.loop (RS := laws_markMarkS_l_b1_RS a1 j1 M0) (RR := laws_markMarkS_l_b1_RR a1 j1 M0) (fun s r h e M hs => laws_markMarkS_l_b1_ok a1 j1 M0 s r h e M hs) hr80 ⟨h7, h8, h9, oP1, fr0, rfl⟩ fun x e82 M83 hq81 => ?_)))))))))))
 clear h3 h4
 obtain ⟨rfl, h86, o87, fr88, hl89⟩ := hq81
 refine bE (sN (sq (Rg (kx (mvO h86) (kx (mvO rfl) (Rn (hN rfl hZ) fun e90 h92 => sN (xx ?_)))))))
 clear h86
 obtain rfl := si h
 exact eR (resT h92 res0) ⟨rfl, o87, fr88, (by first | rfl | simp [hl89])⟩
/-! ### loop.example/g01263/laws.markChain (f30) -/
noncomputable def laws_markChain_ll (a1 : List UInt8) (a2 : Bool) (a3 : List Notch) (a4 : Ar 16 Int) (a5 : List Mark) (a6 : Int) : Option (Int × (List Notch) × (List Mark)) :=
 (laws_markHalf_l a2 a3 a4 a6).bind fun (r16, r17) =>
 (laws_markMarkS_l a5 r16).bind fun (r33, r34) =>
 some (r33, r17, r34)
def laws_markChain_ll_Q (a1 : List UInt8) (a2 : Bool) (a3 : List Notch) (a4 : Ar 16 Int) (a5 : List Mark) (a6 : Int) (j1 : Nat) (j2 : Nat) (M0 : Mem) (r : Int × (List Notch) × (List Mark)) (p : AV × Mem) : Prop := p.1 = .int .i64 r.1 ∧ p.2[j1]? = some (.live ⟨.grow, 156, 2, r.2.1.map Notch.c⟩) ∧ p.2[j2]? = some (.live ⟨.grow, 107, 2, r.2.2.map Mark.c⟩) ∧ Fr [j1, j2] M0 p.2 ∧ r.2.1.length = a3.length ∧ r.2.2.length = a5.length
theorem laws_markChain_ll_ok (a1 : List UInt8) (a2 : Bool) (a3 : List Notch) (a4 : Ar 16 Int) (a5 : List Mark) (a6 : Int) (j1 : Nat) (j2 : Nat) (ne01 : j1 ≠ j2) (M0 : Mem) (oP1 : M0[j1]? = some (.live ⟨.grow, 156, 2, a3.map Notch.c⟩)) (oP2 : M0[j2]? = some (.live ⟨.grow, 107, 2, a5.map Mark.c⟩)) (r : Int × (List Notch) × (List Mark)) (h : laws_markChain_ll a1 a2 a3 a4 a5 a6 = some r) : Ev (fun k => CN k 30 [.agg (.str a1 :: (.bool a2 :: (.lsl j1 a3.length 0 a3.length :: ((arC (cI .i8) 0 a4) ++ ((.lsl j2 a5.length 0 a5.length :: []) : List AV))))), .int .i64 a6] M0) (laws_markChain_ll_Q a1 a2 a3 a4 a5 a6 j1 j2 M0 r) := by
 unfold laws_markChain_ll at h
 have fr0 : Fr [j1, j2] M0 M0 := Fr.refl
 refine Ev.enter (F := fun k => f30 (CN k) k) (fun k => callN_eq rfl Tryd.func30 rfl rfl rfl (by decide +kernel) (f30_eq _ _)) (sq (Rg (ku (bxO rfl rfl ⟨rfl, (all1 rfl (all1 rfl (all1 (okL oP1 (by simp)) (oaS (fun _ => rfl) (all1 (okL oP2 (by simp)) all0))))), by decide⟩) fun M2 hM3 => ?_)))
 have nf4 := Nf.mk fr0
 have fr5 := Fr.push fr0 hM3
 have o6 := push_old hM3 oP1
 have ne7 := ne_new oP1
 have o8 := push_old hM3 oP2
 have ne9 := ne_new oP2
 have o10 : M2[M0.length]? = some (.live ⟨.box, 60, 20, [(.str a1 :: (.bool a2 :: (.lsl j1 a3.length 0 a3.length :: ((arC (cI .i8) 0 a4) ++ ((.lsl j2 a5.length 0 a5.length :: []) : List AV)))))]⟩) := push_new hM3
 obtain ⟨⟨r16, r17⟩, hx15, h⟩ := bind_some h
 refine kx (mvO rfl) (Rn (hN rfl (hV (.loc M0.length 1 0 0) rfl hZ)) fun e11 h13 h14 => sN (sq (Rg (kx (faO h14 o10 rfl) (kx (ldOA (cs' := (.bool a2 :: (.lsl j1 a3.length 0 a3.length :: ((arC (cI .i8) 0 a4) ++ ([] : List AV))))) rfl o10 rfl rfl (ble rfl) rfl) (kx (mvO h13) (Ev.nxw (Ev.callW rfl (cns rfl (cns rfl rfl)) (laws_markHalf_l_ok a2 a3 a4 a6 j1 M2 o6 _ hx15)) fun v20 M18 hq19 => ?_)))))))
 obtain ⟨hv20, o21, fr22, hl23⟩ := hq19
 have hv20 : v20 = .int .i64 r16 := hv20
 subst hv20
 have o24 : M18[j1]? = some (.live ⟨.grow, 156, 2, r17.map Notch.c⟩) := o21
 have hl23 : r17.length = a3.length := hl23
 have o25 : M18[j2]? = some (.live ⟨.grow, 107, 2, a5.map Mark.c⟩) := fr22 _ _ (niC (Ne.symm ne01) niN) o8
 have o26 : M18[M0.length]? = some (.live ⟨.box, 60, 20, [(.str a1 :: (.bool a2 :: (.lsl j1 a3.length 0 a3.length :: ((arC (cI .i8) 0 a4) ++ ((.lsl j2 a5.length 0 a5.length :: []) : List AV)))))]⟩) := fr22 _ _ (niC (Ne.symm ne7) niN) o10
 have fr27 : Fr [j1, j2] M0 M18 := Fr.call fr5 fr22 (fwI (by simp) fwN)
 obtain ⟨⟨r33, r34⟩, hx32, h⟩ := bind_some h
 refine kx (mvO rfl) (Rn (hN rfl (hA h14 hZ)) fun e28 h30 h31 => sN (sq (Rg (kx (faO h31 o26 rfl) (kx (ldO rfl o26 rfl rfl rfl) (kx (mvO h30) (Ev.nxw (Ev.callW rfl (cns rfl (cns rfl rfl)) (laws_markMarkS_l_ok a5 r16 j2 M18 o25 _ hx32)) fun v37 M35 hq36 => ?_)))))))
 clear h14
 obtain ⟨hv37, o38, fr39, hl40⟩ := hq36
 have hv37 : v37 = .int .i64 r33 := hv37
 subst hv37
 have o41 : M35[j2]? = some (.live ⟨.grow, 107, 2, r34.map Mark.c⟩) := o38
 have hl40 : r34.length = a5.length := hl40
 have o42 : M35[j1]? = some (.live ⟨.grow, 156, 2, r17.map Notch.c⟩) := fr39 _ _ (niC ne01 niN) o24
 have o43 : M35[M0.length]? = some (.live ⟨.box, 60, 20, [(.str a1 :: (.bool a2 :: (.lsl j1 a3.length 0 a3.length :: ((arC (cI .i8) 0 a4) ++ ((.lsl j2 a5.length 0 a5.length :: []) : List AV)))))]⟩) := fr39 _ _ (niC (Ne.symm ne9) niN) o26
 have fr44 : Fr [j1, j2] M0 M35 := Fr.call fr27 fr39 (fwI (by simp) fwN)
 refine kx (mvO rfl) (Rn (hN rfl hZ) fun e45 h47 => sN (sq (Rg (kx (mvO h47) (kx (mvO rfl) (Rn (hN rfl hZ) fun e48 h50 => sN (xx ?_)))))))
 clear h31 h47
 obtain rfl := si h
 exact eR (resT h50 res0) ⟨rfl, o42, o41, fr44, (by first | rfl | simp [hl23, hl40]), (by first | rfl | simp [hl23, hl40])⟩
/-! ### loop.example/g01263/laws.FnExactReadChain (f7) -/
def laws_FnExactReadChain_c1_Q (a1 : List UInt8) (r13 : Ar 16 Int) (r27 : Ar 16 Int) (i901_1 : Nat) (i901_2 : Nat) (g : Bool) (q : Out) : Prop := q.1 = .nrm ∧ eget q.2.1 0 = .str a1 ∧ eget q.2.1 3 = .loc i901_1 1 0 0 ∧ eget q.2.1 4 = .int .i64 5 ∧ eget q.2.1 5 = .loc i901_2 1 0 0 ∧ eget q.2.1 32 = .bool g ∧ q.2.2[i901_1]? = some (.live ⟨.box, 60, 20, [(.str ([] : List UInt8) :: (.bool false :: (.nils :: ((arC (cI .i8) 0 r13) ++ ((.nils :: []) : List AV)))))]⟩) ∧ q.2.2[i901_2]? = some (.live ⟨.box, 60, 20, [(.str ([] : List UInt8) :: (.bool false :: (.nils :: ((arC (cI .i8) 0 r27) ++ ((.nils :: []) : List AV)))))]⟩)
def laws_FnExactReadChain_c2_Q (r27 : Ar 16 Int) (r87 : Int) (i902_1 : Nat) (i902_2 : Nat) (i902_3 : Nat) (g : Bool) (q : Out) : Prop := q.1 = .nrm ∧ eget q.2.1 5 = .loc i902_2 1 0 0 ∧ eget q.2.1 7 = .int .i64 r87 ∧ eget q.2.1 57 = .bool g ∧ q.2.2[i902_2]? = some (.live ⟨.box, 60, 20, [(.str ([] : List UInt8) :: (.bool false :: (.nils :: ((arC (cI .i8) 0 r27) ++ ((.nils :: []) : List AV)))))]⟩)
def laws_FnExactReadChain_c3_Q (r27 : Ar 16 Int) (r87 : Int) (i903_1 : Nat) (i903_2 : Nat) (i903_3 : Nat) (g : Unit) (q : Out) : Prop := q.1 = .nrm ∧ eget q.2.1 5 = .loc i903_2 1 0 0 ∧ eget q.2.1 7 = .int .i64 r87 ∧ eget q.2.1 57 = .bool true ∧ q.2.2[i903_2]? = some (.live ⟨.box, 60, 20, [(.str ([] : List UInt8) :: (.bool false :: (.nils :: ((arC (cI .i8) 0 r27) ++ ((.nils :: []) : List AV)))))]⟩)
def laws_FnExactReadChain_c4_Q (a1 : List UInt8) (r13 : Ar 16 Int) (r279 : List UInt8) (r280 : Bool) (r281 : List Notch) (r282 : Ar 16 Int) (r283 : List Mark) (i904_1 : Nat) (i904_2 : Nat) (i904_3 : Nat) (i904_4 : Nat) (g : Unit) (q : Out) : Prop := q.1 = .nrm ∧ eget q.2.1 0 = .str a1 ∧ eget q.2.1 3 = .loc i904_1 1 0 0 ∧ eget q.2.1 4 = .int .i64 5 ∧ eget q.2.1 5 = .loc i904_4 1 0 0 ∧ eget q.2.1 32 = .bool true ∧ q.2.2[i904_1]? = some (.live ⟨.box, 60, 20, [(.str ([] : List UInt8) :: (.bool false :: (.nils :: ((arC (cI .i8) 0 r13) ++ ((.nils :: []) : List AV)))))]⟩) ∧ q.2.2[i904_2]? = some (.live ⟨.grow, 156, 2, r281.map Notch.c⟩) ∧ q.2.2[(i904_2 + 1)]? = some (.live ⟨.grow, 107, 2, r283.map Mark.c⟩) ∧ q.2.2[i904_4]? = some (.live ⟨.box, 60, 20, [(.str r279 :: (.bool r280 :: (.lsl i904_2 r281.length 0 r281.length :: ((arC (cI .i8) 0 r282) ++ ((.lsl (i904_2 + 1) r283.length 0 r283.length :: []) : List AV)))))]⟩)
def laws_FnExactReadChain_c5_Q (a1 : List UInt8) (r352 : List UInt8) (r353 : Bool) (r354 : List Notch) (r355 : Ar 16 Int) (r356 : List Mark) (r370 : Ar 16 Int) (i905_1 : Nat) (i905_2 : Nat) (g : Unit) (q : Out) : Prop := q.1 = .nrm ∧ eget q.2.1 0 = .str a1 ∧ eget q.2.1 3 = .loc i905_1 1 0 0 ∧ eget q.2.1 4 = .int .i64 0 ∧ eget q.2.1 5 = .loc i905_2 1 0 0 ∧ eget q.2.1 32 = .bool true ∧ q.2.2[i905_1]? = some (.live ⟨.box, 60, 20, [(.str r352 :: (.bool r353 :: (.sl none (r354.map Notch.c) :: ((arC (cI .i8) 0 r355) ++ ((.sl none (r356.map Mark.c) :: []) : List AV)))))]⟩) ∧ q.2.2[i905_2]? = some (.live ⟨.box, 60, 20, [(.str ([] : List UInt8) :: (.bool false :: (.nils :: ((arC (cI .i8) 0 r370) ++ ((.nils :: []) : List AV)))))]⟩)
def laws_FnExactReadChain_c6_Q (a1 : List UInt8) (r352 : List UInt8) (r353 : Bool) (r354 : List Notch) (r355 : Ar 16 Int) (r356 : List Mark) (r423 : List UInt8) (r424 : Bool) (r425 : List Notch) (r426 : Ar 16 Int) (r427 : List Mark) (i906_1 : Nat) (i906_2 : Nat) (i906_3 : Nat) (i906_4 : Nat) (g : Bool) (q : Out) : Prop := q.1 = .nrm ∧ eget q.2.1 0 = .str a1 ∧ eget q.2.1 3 = .loc i906_1 1 0 0 ∧ eget q.2.1 4 = .int .i64 0 ∧ eget q.2.1 5 = .loc i906_4 1 0 0 ∧ eget q.2.1 32 = .bool g ∧ q.2.2[i906_1]? = some (.live ⟨.box, 60, 20, [(.str r352 :: (.bool r353 :: (.sl none (r354.map Notch.c) :: ((arC (cI .i8) 0 r355) ++ ((.sl none (r356.map Mark.c) :: []) : List AV)))))]⟩) ∧ q.2.2[i906_2]? = some (.live ⟨.grow, 156, 2, r425.map Notch.c⟩) ∧ q.2.2[(i906_2 + 1)]? = some (.live ⟨.grow, 107, 2, r427.map Mark.c⟩) ∧ q.2.2[i906_4]? = some (.live ⟨.box, 60, 20, [(.str r423 :: (.bool r424 :: (.lsl i906_2 r425.length 0 r425.length :: ((arC (cI .i8) 0 r426) ++ ((.lsl (i906_2 + 1) r427.length 0 r427.length :: []) : List AV)))))]⟩)
def laws_FnExactReadChain_c7_Q (r423 : List UInt8) (r424 : Bool) (r425 : List Notch) (r426 : Ar 16 Int) (r427 : List Mark) (r502 : Int) (r503 : List Notch) (r504 : List Mark) (i907_1 : Nat) (i907_2 : Nat) (i907_3 : Nat) (i907_4 : Nat) (i907_5 : Nat) (g : Unit) (q : Out) : Prop := q.1 = .nrm ∧ eget q.2.1 5 = .loc i907_4 1 0 0 ∧ eget q.2.1 7 = .int .i64 r502 ∧ eget q.2.1 57 = .bool true ∧ q.2.2[i907_2]? = some (.live ⟨.grow, 156, 2, r503.map Notch.c⟩) ∧ q.2.2[(i907_2 + 1)]? = some (.live ⟨.grow, 107, 2, r504.map Mark.c⟩) ∧ q.2.2[i907_4]? = some (.live ⟨.box, 60, 20, [(.str r423 :: (.bool r424 :: (.lsl i907_2 r425.length 0 r425.length :: ((arC (cI .i8) 0 r426) ++ ((.lsl (i907_2 + 1) r427.length 0 r427.length :: []) : List AV)))))]⟩)
def laws_FnExactReadChain_c8_Q (r423 : List UInt8) (r424 : Bool) (r425 : List Notch) (r426 : Ar 16 Int) (r427 : List Mark) (r502 : Int) (r503 : List Notch) (r504 : List Mark) (i908_1 : Nat) (i908_2 : Nat) (i908_3 : Nat) (i908_4 : Nat) (i908_5 : Nat) (g : Bool) (q : Out) : Prop := q.1 = .nrm ∧ eget q.2.1 5 = .loc i908_4 1 0 0 ∧ eget q.2.1 7 = .int .i64 r502 ∧ eget q.2.1 57 = .bool g ∧ q.2.2[i908_2]? = some (.live ⟨.grow, 156, 2, r503.map Notch.c⟩) ∧ q.2.2[(i908_2 + 1)]? = some (.live ⟨.grow, 107, 2, r504.map Mark.c⟩) ∧ q.2.2[i908_4]? = some (.live ⟨.box, 60, 20, [(.str r423 :: (.bool r424 :: (.lsl i908_2 r425.length 0 r425.length :: ((arC (cI .i8) 0 r426) ++ ((.lsl (i908_2 + 1) r427.length 0 r427.length :: []) : List AV)))))]⟩)
noncomputable def laws_FnExactReadChain (a1 : List UInt8) : Option Bool :=
 if (decide ((a1.length : Int) > 1048576)) = true then
  some true
 else
  (spec_ReadChain a1).bind fun r => match r with
  | (.inl r13) =>
   (impl_ReadChain a1).bind fun r => match r with
   | (.inl r27) =>
    ((laws_eqChain (Chain.mk ([] : List UInt8) (Half.mk false ([] : List Notch) r27) ([] : List Mark)) (Chain.mk ([] : List UInt8) (Half.mk false ([] : List Notch) r13) ([] : List Mark))).bind fun r49 =>
    if r49 = true then
     some false
    else
     some true).bind fun y67 =>
    if y67 = true then
     some false
    else
     (laws_markChain_nn ([] : List UInt8) false r27 1).bind fun r87 =>
     (laws_heldChain (Chain.mk ([] : List UInt8) (Half.mk false ([] : List Notch) r27) ([] : List Mark)) 1).bind fun r110 =>
     if (decide (r110 < 0)) = true then
      some false
     else
      if (r110 != r87) = true then
       some false
      else
       (impl_ReadChain a1).bind fun r => match r with
       | (.inl r145) =>
        ((laws_eqChain (Chain.mk ([] : List UInt8) (Half.mk false ([] : List Notch) r145) ([] : List Mark)) (Chain.mk ([] : List UInt8) (Half.mk false ([] : List Notch) r13) ([] : List Mark))).bind fun r168 =>
        if r168 = true then
         some false
        else
         some true).bind fun y182 =>
        if y182 = true then
         some false
        else
         (laws_heldChain (Chain.mk ([] : List UInt8) (Half.mk false ([] : List Notch) r27) ([] : List Mark)) 1).bind fun r197 =>
         if (decide (r197 < 0)) = true then
          some false
         else
          if (r197 != r87) = true then
           some false
          else
           some true
       | (.inr (r224, r225, r226, r227, r228)) =>
        ((laws_eqChain (Chain.mk r224 (Half.mk r225 r226 r227) r228) (Chain.mk ([] : List UInt8) (Half.mk false ([] : List Notch) r13) ([] : List Mark))).bind fun r251 =>
        if r251 = true then
         some ()
        else
         some ()).bind fun _ =>
        some false
   | (.inr (r279, r280, r281, r282, r283)) =>
    ((laws_eqChain (Chain.mk r279 (Half.mk r280 r281 r282) r283) (Chain.mk ([] : List UInt8) (Half.mk false ([] : List Notch) r13) ([] : List Mark))).bind fun r318 =>
    if r318 = true then
     some ()
    else
     some ()).bind fun _ =>
    some false
  | (.inr (r352, r353, r354, r355, r356)) =>
   (impl_ReadChain a1).bind fun r => match r with
   | (.inl r370) =>
    ((laws_eqChain (Chain.mk ([] : List UInt8) (Half.mk false ([] : List Notch) r370) ([] : List Mark)) (Chain.mk r352 (Half.mk r353 r354 r355) r356)).bind fun r392 =>
    if r392 = true then
     some ()
    else
     some ()).bind fun _ =>
    some false
   | (.inr (r423, r424, r425, r426, r427)) =>
    ((laws_eqChain (Chain.mk r423 (Half.mk r424 r425 r426) r427) (Chain.mk r352 (Half.mk r353 r354 r355) r356)).bind fun r462 =>
    if r462 = true then
     some false
    else
     some true).bind fun y480 =>
    if y480 = true then
     some false
    else
     (laws_markChain_ll r423 r424 r425 r426 r427 1).bind fun (r502, r503, r504) =>
     (laws_heldChain (Chain.mk r423 (Half.mk r424 r503 r426) r504) 1).bind fun r533 =>
     if (decide (r533 < 0)) = true then
      some false
     else
      if (r533 != r502) = true then
       some false
      else
       (impl_ReadChain a1).bind fun r => match r with
       | (.inl r568) =>
        ((laws_eqChain (Chain.mk ([] : List UInt8) (Half.mk false ([] : List Notch) r568) ([] : List Mark)) (Chain.mk r352 (Half.mk r353 r354 r355) r356)).bind fun r597 =>
        if r597 = true then
         some ()
        else
         some ()).bind fun _ =>
        some false
       | (.inr (r623, r624, r625, r626, r627)) =>
        ((laws_eqChain (Chain.mk r623 (Half.mk r624 r625 r626) r627) (Chain.mk r352 (Half.mk r353 r354 r355) r356)).bind fun r656 =>
        if r656 = true then
         some false
        else
         some true).bind fun y670 =>
        if y670 = true then
         some false
        else
         (laws_heldChain (Chain.mk r423 (Half.mk r424 r503 r426) r504) 1).bind fun r687 =>
         if (decide (r687 < 0)) = true then
          some false
         else
          if (r687 != r502) = true then
           some false
          else
           some true
def laws_FnExactReadChain_enc (r : Bool) : AV := .bool r
theorem laws_FnExactReadChain_ok (a1 : List UInt8) (r : Bool) (h : laws_FnExactReadChain a1 = some r) : Ev (fun k => CN k 7 [.str a1] []) (fun p => rRes p.2 p.1 = laws_FnExactReadChain_enc r) := by
 unfold laws_FnExactReadChain at h
 refine Ev.enter (F := fun k => f7 (CN k) k) (fun k => callN_eq rfl Tryd.func7 rfl rfl rfl (by decide +kernel) (f7_eq _ _)) (sq (Rg (kx (mvO rfl) (Rn (hN rfl hZ) fun e1 h3 => sN (sq (sq (Rg (kx (mvO h3) (kx (lnB Tryd.underlying9 rfl) (kx (bGtr rfl rfl) (Rn (hA h3 (hN rfl hZ)) fun e4 h6 h7 => sN ?_)))))))))))
 clear h3
 rcases ite_some h with ⟨hb8, h⟩ | ⟨hb8, h⟩
 ·refine cT h7 hb8 (sq (Rg (kx (mvO rfl) (Rn (hV (.bool true) rfl hZ) fun e9 h11 => sN (xx (sR ?_))))))
  clear h6 h7
  obtain rfl := si h
  exact eR (resT h11 res0) rfl
 obtain ⟨q719, hx12, h⟩ := bind_some h
 refine cF h7 hb8 (xx (sN (sq (Rg (kx (mvO h6) ?_)))))
 rcases q719 with r13 | ⟨r352, r353, r354, r355, r356⟩
 ·refine kc (cl (v := .tup [.agg (.str ([] : List UInt8) :: (.bool false :: (.nils :: ((arC (cI .i8) 0 r13) ++ ((.nils :: []) : List AV))))), .int .i64 5]) rfl (cns rfl rfl) rfl (spec_ReadChain_ok a1 _ hx12) nm) (kx (mvO rfl) (kx (exT rfl rfl) (kx (exT rfl rfl) (ku (alO zero60) fun M15 hM16 => ?_))))
  have o17 : M15[([] : Mem).length]? = some (.live ⟨.box, 60, 20, [(.str ([] : List UInt8) :: (.bool false :: (.nils :: ((arC (cI .i8) 0 (Ar.rep 16 0)) ++ ((.nils :: []) : List AV)))))]⟩) := push_new hM16
  refine kw (stO rfl rfl o17 rfl rfl ⟨rfl, ble rfl⟩ rfl rfl) fun M18 hM19 => ?_
  have o20 : M18[([] : Mem).length]? = some (.live ⟨.box, 60, 20, [(.str ([] : List UInt8) :: (.bool false :: (.nils :: ((arC (cI .i8) 0 r13) ++ ((.nils :: []) : List AV)))))]⟩) := set_same hM19 o17
  obtain ⟨q351, hx26, h⟩ := bind_some h
  refine kx (mvO rfl) (Rn (hA h6 (hV (.loc ([] : Mem).length 1 0 0) rfl (hV (.int .i64 5) rfl hZ))) fun e21 h23 h24 h25 => sN (sq (Rg (kx (mvO h23) ?_))))
  clear h6 h7
  rcases q351 with r27 | ⟨r279, r280, r281, r282, r283⟩
  ·refine Ev.nxcp (Ev.callT (v := .tup [.agg (.str ([] : List UInt8) :: (.bool false :: (.nils :: ((arC (cI .i8) 0 r27) ++ ((.nils :: []) : List AV))))), .int .i64 5]) rfl (cns rfl rfl) rfl (impl_ReadChain_ok a1 _ hx26) (th_gen (v' := .tup [.agg (.str ([] : List UInt8) :: (.bool false :: (.nils :: ((arC (cI .i8) 0 r27) ++ ((.nils :: []) : List AV))))), .int .i64 5]) (l := []) (own_tup (oa1 (own2_agg (oa1 rfl (oa1 rfl (oa1 rfl (oaA (fun _ => own1_flat) (fun _ => rfl) (oa1 rfl oa0)))))) (oa1 rfl oa0))) (by simp [thaw, thaw2, thaw1, thawL, thA (c := (cI .i8)) (fun _ => rfl), thA0 (c := (cI .i8)) (fun _ => rfl)]) rfl rfl)) fun M28 hM29 => ?_
   have o30 := push_old hM29 o20
   refine kx (mvO rfl) (kx (exT rfl rfl) (kx (exT rfl rfl) (ku (alO zero60) fun M32 hM33 => ?_)))
   have o34 := push_old hM33 o30
   have ne35 := ne_new o30
   have o36 : M32[M28.length]? = some (.live ⟨.box, 60, 20, [(.str ([] : List UInt8) :: (.bool false :: (.nils :: ((arC (cI .i8) 0 (Ar.rep 16 0)) ++ ((.nils :: []) : List AV)))))]⟩) := push_new hM33
   refine kw (stO rfl rfl o36 rfl rfl ⟨rfl, ble rfl⟩ rfl rfl) fun M37 hM38 => ?_
   have o39 := set_ne hM38 ne35 o34
   have o40 : M37[M28.length]? = some (.live ⟨.box, 60, 20, [(.str ([] : List UInt8) :: (.bool false :: (.nils :: ((arC (cI .i8) 0 r27) ++ ((.nils :: []) : List AV)))))]⟩) := set_same hM38 o36
   obtain ⟨r277, hr278, h⟩ := bind_some h
   refine kx (mvO rfl) (Rn (hA h23 (hA h24 (hA h25 (hV (.loc M28.length 1 0 0) rfl (hV (.int .i64 5) rfl hZ))))) fun e41 h43 h44 h45 h46 h47 => sN (sq (sq ?_)))
   clear h23 h24 h25
   refine Ev.cut (Q1 := laws_FnExactReadChain_c1_Q a1 r13 r27 (([] : Mem).length) M28.length r277) (by
       have h := hr278
       obtain ⟨r49, hx48, h⟩ := bind_some h
       refine Rg (kx (ldOA (cs' := (.str ([] : List UInt8) :: (.bool false :: (.nils :: ((arC (cI .i8) 0 r27) ++ ((.nils :: []) : List AV)))))) h46 o40 rfl rfl (ble rfl) rfl) (kx (ldOA (cs' := (.str ([] : List UInt8) :: (.bool false :: (.nils :: ((arC (cI .i8) 0 r13) ++ ((.nils :: []) : List AV)))))) h44 o39 rfl rfl (ble rfl) rfl) (kc (cl (v := .bool r49) rfl (cns rfl (cns rfl rfl)) rfl (laws_eqChain_ok (Chain.mk ([] : List UInt8) (Half.mk false ([] : List Notch) r27) ([] : List Mark)) (Chain.mk ([] : List UInt8) (Half.mk false ([] : List Notch) r13) ([] : List Mark)) _ hx48) nm) (kx (uNot rfl) (kx (mvO rfl) ?_)))))
       rcases ite_some h with ⟨hb50, h⟩ | ⟨hb50, h⟩
       ·refine kx (guF rfl (congrArg Bool.not hb50) (mvO h47)) (kx (guF rfl (congrArg Bool.not hb50) (mvO h45)) (kx (guF rfl (congrArg Bool.not hb50) (bNeq rfl rfl)) (kx (pkF rfl (congrArg Bool.not hb50) rfl) (Rn (hA h43 (hA h44 (hA h45 (hA h46 (hV (.bool false) rfl hZ))))) fun e51 h53 h54 h55 h56 h57 => ?_))))
        clear h43 h44 h45 h46 h47
        obtain rfl := si h
        exact kd (show laws_FnExactReadChain_c1_Q a1 r13 r27 (([] : Mem).length) M28.length _ _ from ⟨rfl, h53, h54, h55, h56, h57, o39, o40⟩)
       refine kx (gsF rfl (congrArg Bool.not hb50)) (kx (gsF rfl (congrArg Bool.not hb50)) (kx (gsF rfl (congrArg Bool.not hb50)) (kx (pkT rfl (congrArg Bool.not hb50) rfl) (Rn (hA h43 (hA h44 (hA h45 (hA h46 (hV (.bool true) rfl hZ))))) fun e58 h60 h61 h62 h63 h64 => ?_))))
       clear h43 h44 h45 h46 h47
       obtain rfl := si h
       exact kd (show laws_FnExactReadChain_c1_Q a1 r13 r27 (([] : Mem).length) M28.length _ _ from ⟨rfl, h60, h61, h62, h63, h64, o39, o40⟩)) ?_
   revert h hr278
   revert r277
   intro y67 hr278 h
   intro x e65 M66 hq276
   obtain ⟨rfl, h68, h69, h70, h71, h72, o73, o74⟩ := hq276
   refine sN ?_
   rcases ite_some h with ⟨hb75, h⟩ | ⟨hb75, h⟩
   ·refine cT h72 hb75 (sq (Rg (kx (mvO rfl) (Rn (hV (.bool false) rfl hZ) fun e76 h78 => sN (xx (sR ?_))))))
    clear h68 h69 h70 h71 h72
    obtain rfl := si h
    exact eR (resT h78 res0) rfl
   obtain ⟨r87, hx86, h⟩ := bind_some h
   refine cF h72 hb75 (xx (sN (sq (Rg (kx (mvO rfl) (Rn (hV (.str a1) h68 (hV (.loc ([] : Mem).length 1 0 0) h69 (hV (.int .i64 5) h70 (hV (.loc M28.length 1 0 0) h71 (hV (.int .i64 1) rfl hZ))))) fun e79 h81 h82 h83 h84 h85 => sN (sq (Rg (kx (ldOA (cs' := (.str ([] : List UInt8) :: (.bool false :: (.nils :: ((arC (cI .i8) 0 r27) ++ ((.nils :: []) : List AV)))))) h84 o74 rfl rfl (ble rfl) rfl) (kx (mvO h85) (Ev.nxw (Ev.callW rfl (cns rfl (cns rfl rfl)) (laws_markChain_nn_ok ([] : List UInt8) false r27 1 M66 _ hx86)) fun v90 M88 hq89 => ?_)))))))))))
   clear h68 h69 h70 h71 h72
   obtain ⟨hv90, fr91⟩ := hq89
   have hv90 : v90 = .int .i64 r87 := hv90
   subst hv90
   have o92 : M88[([] : Mem).length]? = some (.live ⟨.box, 60, 20, [(.str ([] : List UInt8) :: (.bool false :: (.nils :: ((arC (cI .i8) 0 r13) ++ ((.nils :: []) : List AV)))))]⟩) := fr91 _ _ niN o73
   have o93 : M88[M28.length]? = some (.live ⟨.box, 60, 20, [(.str ([] : List UInt8) :: (.bool false :: (.nils :: ((arC (cI .i8) 0 r27) ++ ((.nils :: []) : List AV)))))]⟩) := fr91 _ _ niN o74
   obtain ⟨r110, hx109, h⟩ := bind_some h
   refine kx (mvO rfl) (Rn (hA h81 (hA h82 (hA h83 (hA h84 (hN rfl hZ))))) fun e94 h96 h97 h98 h99 h100 => sN (sq (Rg (kx (mvO rfl) (Rn (hA h96 (hA h97 (hA h98 (hA h99 (hA h100 (hV (.int .i64 1) rfl hZ)))))) fun e101 h103 h104 h105 h106 h107 h108 => sN (sq (Rg (kx (ldOA (cs' := (.str ([] : List UInt8) :: (.bool false :: (.nils :: ((arC (cI .i8) 0 r27) ++ ((.nils :: []) : List AV)))))) h106 o93 rfl rfl (ble rfl) rfl) (kx (mvO h108) (kc (cl (v := .int .i64 r110) rfl (cns rfl (cns rfl rfl)) rfl (laws_heldChain_ok (Chain.mk ([] : List UInt8) (Half.mk false ([] : List Notch) r27) ([] : List Mark)) 1 _ hx109) nm) (kx (mvO rfl) (Rn (hA h103 (hA h104 (hA h105 (hA h106 (hA h107 (hN rfl hZ)))))) fun e111 h113 h114 h115 h116 h117 h118 => sN (sq (sq (Rg (kx (mvO h118) (kx (bLss rfl rfl) (Rn (hA h113 (hA h114 (hA h115 (hA h116 (hA h117 (hA h118 (hN rfl hZ))))))) fun e119 h121 h122 h123 h124 h125 h126 h127 => sN ?_))))))))))))))))))
   clear h81 h82 h83 h84 h100 h96 h97 h98 h99 h103 h104 h105 h106 h107 h113 h114 h115 h116 h117 h118
   rcases ite_some h with ⟨hb128, h⟩ | ⟨hb128, h⟩
   ·refine cT h127 hb128 (sq (Rg (kx (mvO rfl) (Rn (hV (.bool false) rfl hZ) fun e129 h131 => sN (xx (sR ?_))))))
    clear h121 h122 h123 h124 h125 h126 h127
    obtain rfl := si h
    exact eR (resT h131 res0) rfl
   refine cF h127 hb128 (xx (sN (sq (sq (Rg (kx (mvO h126) (kx (mvO h125) (kx (bNeq rfl rfl) (Rn (hA h121 (hA h122 (hA h123 (hA h124 (hA h125 (hN rfl hZ)))))) fun e132 h134 h135 h136 h137 h138 h139 => sN ?_)))))))))
   clear h121 h122 h123 h124 h125 h126 h127
   rcases ite_some h with ⟨hb140, h⟩ | ⟨hb140, h⟩
   ·refine cT h139 hb140 (sq (Rg (kx (mvO rfl) (Rn (hV (.bool false) rfl hZ) fun e141 h143 => sN (xx (sR ?_))))))
    clear h134 h135 h136 h137 h138 h139
    obtain rfl := si h
    exact eR (resT h143 res0) rfl
   obtain ⟨q275, hx144, h⟩ := bind_some h
   refine cF h139 hb140 (xx (sN (sq (Rg (kx (mvO h134) ?_)))))
   rcases q275 with r145 | ⟨r224, r225, r226, r227, r228⟩
   ·refine kc (cl (v := .tup [.agg (.str ([] : List UInt8) :: (.bool false :: (.nils :: ((arC (cI .i8) 0 r145) ++ ((.nils :: []) : List AV))))), .int .i64 5]) rfl (cns rfl rfl) rfl (impl_ReadChain_ok a1 _ hx144) nm) (kx (mvO rfl) (kx (exT rfl rfl) (kx (exT rfl rfl) (ku (alO zero60) fun M147 hM148 => ?_))))
    have o149 := push_old hM148 o92
    have ne150 := ne_new o92
    have o151 := push_old hM148 o93
    have ne152 := ne_new o93
    have o153 : M147[M88.length]? = some (.live ⟨.box, 60, 20, [(.str ([] : List UInt8) :: (.bool false :: (.nils :: ((arC (cI .i8) 0 (Ar.rep 16 0)) ++ ((.nils :: []) : List AV)))))]⟩) := push_new hM148
    refine kw (stO rfl rfl o153 rfl rfl ⟨rfl, ble rfl⟩ rfl rfl) fun M154 hM155 => ?_
    have o156 := set_ne hM155 ne150 o149
    have o157 := set_ne hM155 ne152 o151
    have o158 : M154[M88.length]? = some (.live ⟨.box, 60, 20, [(.str ([] : List UInt8) :: (.bool false :: (.nils :: ((arC (cI .i8) 0 r145) ++ ((.nils :: []) : List AV)))))]⟩) := set_same hM155 o153
    obtain ⟨r222, hr223, h⟩ := bind_some h
    refine kx (mvO rfl) (Rn (hA h135 (hA h136 (hA h137 (hA h138 (hV (.loc M88.length 1 0 0) rfl (hV (.int .i64 5) rfl hZ)))))) fun e159 h161 h162 h163 h164 h165 h166 => sN (sq (sq ?_)))
    clear h134 h135 h136 h137 h138 h139
    refine Ev.cut (Q1 := laws_FnExactReadChain_c2_Q r27 r87 (([] : Mem).length) M28.length M88.length r222) (by
        have h := hr223
        obtain ⟨r168, hx167, h⟩ := bind_some h
        refine Rg (kx (ldOA (cs' := (.str ([] : List UInt8) :: (.bool false :: (.nils :: ((arC (cI .i8) 0 r145) ++ ((.nils :: []) : List AV)))))) h165 o158 rfl rfl (ble rfl) rfl) (kx (ldOA (cs' := (.str ([] : List UInt8) :: (.bool false :: (.nils :: ((arC (cI .i8) 0 r13) ++ ((.nils :: []) : List AV)))))) h161 o156 rfl rfl (ble rfl) rfl) (kc (cl (v := .bool r168) rfl (cns rfl (cns rfl rfl)) rfl (laws_eqChain_ok (Chain.mk ([] : List UInt8) (Half.mk false ([] : List Notch) r145) ([] : List Mark)) (Chain.mk ([] : List UInt8) (Half.mk false ([] : List Notch) r13) ([] : List Mark)) _ hx167) nm) (kx (uNot rfl) (kx (mvO rfl) ?_)))))
        rcases ite_some h with ⟨hb169, h⟩ | ⟨hb169, h⟩
        ·refine kx (guF rfl (congrArg Bool.not hb169) (mvO h166)) (kx (guF rfl (congrArg Bool.not hb169) (mvO h162)) (kx (guF rfl (congrArg Bool.not hb169) (bNeq rfl rfl)) (kx (pkF rfl (congrArg Bool.not hb169) rfl) (Rn (hA h163 (hA h164 (hV (.bool false) rfl hZ))) fun e170 h172 h173 h174 => ?_))))
         clear h161 h162 h163 h164 h165 h166
         obtain rfl := si h
         exact kd (show laws_FnExactReadChain_c2_Q r27 r87 (([] : Mem).length) M28.length M88.length _ _ from ⟨rfl, h172, h173, h174, o157⟩)
        refine kx (gsF rfl (congrArg Bool.not hb169)) (kx (gsF rfl (congrArg Bool.not hb169)) (kx (gsF rfl (congrArg Bool.not hb169)) (kx (pkT rfl (congrArg Bool.not hb169) rfl) (Rn (hA h163 (hA h164 (hV (.bool true) rfl hZ))) fun e175 h177 h178 h179 => ?_))))
        clear h161 h162 h163 h164 h165 h166
        obtain rfl := si h
        exact kd (show laws_FnExactReadChain_c2_Q r27 r87 (([] : Mem).length) M28.length M88.length _ _ from ⟨rfl, h177, h178, h179, o157⟩)) ?_
    revert h hr223
    revert r222
    intro y182 hr223 h
    intro x e180 M181 hq221
    obtain ⟨rfl, h183, h184, h185, o186⟩ := hq221
    refine sN ?_
    rcases ite_some h with ⟨hb187, h⟩ | ⟨hb187, h⟩
    ·refine cT h185 hb187 (sq (Rg (kx (mvO rfl) (Rn (hV (.bool false) rfl hZ) fun e188 h190 => sN (xx (sR ?_))))))
     clear h183 h184 h185
     obtain rfl := si h
     exact eR (resT h190 res0) rfl
    obtain ⟨r197, hx196, h⟩ := bind_some h
    refine cF h185 hb187 (xx (sN (sq (Rg (kx (mvO rfl) (Rn (hV (.loc M28.length 1 0 0) h183 (hV (.int .i64 r87) h184 (hV (.int .i64 1) rfl hZ))) fun e191 h193 h194 h195 => sN (sq (Rg (kx (ldOA (cs' := (.str ([] : List UInt8) :: (.bool false :: (.nils :: ((arC (cI .i8) 0 r27) ++ ((.nils :: []) : List AV)))))) h193 o186 rfl rfl (ble rfl) rfl) (kx (mvO h195) (kc (cl (v := .int .i64 r197) rfl (cns rfl (cns rfl rfl)) rfl (laws_heldChain_ok (Chain.mk ([] : List UInt8) (Half.mk false ([] : List Notch) r27) ([] : List Mark)) 1 _ hx196) nm) (kx (mvO rfl) (Rn (hA h194 (hN rfl hZ)) fun e198 h200 h201 => sN (sq (sq (Rg (kx (mvO h201) (kx (bLss rfl rfl) (Rn (hA h200 (hA h201 (hN rfl hZ))) fun e202 h204 h205 h206 => sN ?_)))))))))))))))))))
    clear h183 h184 h185 h193 h194 h200 h201
    rcases ite_some h with ⟨hb207, h⟩ | ⟨hb207, h⟩
    ·refine cT h206 hb207 (sq (Rg (kx (mvO rfl) (Rn (hV (.bool false) rfl hZ) fun e208 h210 => sN (xx (sR ?_))))))
     clear h204 h205 h206
     obtain rfl := si h
     exact eR (resT h210 res0) rfl
    refine cF h206 hb207 (xx (sN (sq (sq (Rg (kx (mvO h205) (kx (mvO h204) (kx (bNeq rfl rfl) (Rn (hN rfl hZ) fun e211 h213 => sN ?_)))))))))
    clear h204 h205 h206
    rcases ite_some h with ⟨hb214, h⟩ | ⟨hb214, h⟩
    ·refine cT h213 hb214 (sq (Rg (kx (mvO rfl) (Rn (hV (.bool false) rfl hZ) fun e215 h217 => sN (xx (sR ?_))))))
     clear h213
     obtain rfl := si h
     exact eR (resT h217 res0) rfl
    refine cF h213 hb214 (xx (sN (sq (Rg (kx (mvO rfl) (Rn (hV (.bool true) rfl hZ) fun e218 h220 => sN (xx ?_)))))))
    clear h213
    obtain rfl := si h
    exact eR (resT h220 res0) rfl
   refine kc (cl (v := .tup [.agg (.str r224 :: (.bool r225 :: (.sl (some 156) (r226.map Notch.c) :: ((arC (cI .i8) 0 r227) ++ ((.sl (some 107) (r228.map Mark.c) :: []) : List AV))))), .int .i64 0]) rfl (cns rfl rfl) rfl (impl_ReadChain_ok a1 _ hx144) nm) (kx (mvO rfl) (kx (exT rfl rfl) (kx (exT rfl rfl) (ku (alO zero60) fun M230 hM231 => ?_))))
   have o232 := push_old hM231 o92
   have ne233 := ne_new o92
   have o234 := push_old hM231 o93
   have ne235 := ne_new o93
   have o236 : M230[M88.length]? = some (.live ⟨.box, 60, 20, [(.str ([] : List UInt8) :: (.bool false :: (.nils :: ((arC (cI .i8) 0 (Ar.rep 16 0)) ++ ((.nils :: []) : List AV)))))]⟩) := push_new hM231
   refine kw (stO rfl rfl o236 rfl rfl ⟨rfl, ble rfl⟩ rfl rfl) fun M237 hM238 => ?_
   have o239 := set_ne hM238 ne233 o232
   have o240 := set_ne hM238 ne235 o234
   have o241 : M237[M88.length]? = some (.live ⟨.box, 60, 20, [(.str r224 :: (.bool r225 :: (.sl none (r226.map Notch.c) :: ((arC (cI .i8) 0 r227) ++ ((.sl none (r228.map Mark.c) :: []) : List AV)))))]⟩) := set_same hM238 o236
   obtain ⟨r273, hr274, h⟩ := bind_some h
   refine kx (mvO rfl) (Rn (hA h135 (hA h136 (hA h137 (hA h138 (hV (.loc M88.length 1 0 0) rfl (hV (.int .i64 0) rfl hZ)))))) fun e242 h244 h245 h246 h247 h248 h249 => sN (sq (sq ?_)))
   clear h134 h135 h136 h137 h138 h139
   refine Ev.cut (Q1 := laws_FnExactReadChain_c3_Q r27 r87 (([] : Mem).length) M28.length M88.length r273) (by
       have h := hr274
       obtain ⟨r251, hx250, h⟩ := bind_some h
       refine Rg (kx (ldOA (cs' := (.str r224 :: (.bool r225 :: (.sl none (r226.map Notch.c) :: ((arC (cI .i8) 0 r227) ++ ((.sl none (r228.map Mark.c) :: []) : List AV)))))) h248 o241 rfl rfl (ble rfl) rfl) (kx (ldOA (cs' := (.str ([] : List UInt8) :: (.bool false :: (.nils :: ((arC (cI .i8) 0 r13) ++ ((.nils :: []) : List AV)))))) h244 o239 rfl rfl (ble rfl) rfl) (kc (cl (v := .bool r251) rfl (cns rfl (cns rfl rfl)) rfl (laws_eqChain_ok (Chain.mk r224 (Half.mk r225 r226 r227) r228) (Chain.mk ([] : List UInt8) (Half.mk false ([] : List Notch) r13) ([] : List Mark)) _ hx250) nm) (kx (uNot rfl) (kx (mvO rfl) ?_)))))
       rcases ite_some h with ⟨hb252, h⟩ | ⟨hb252, h⟩
       ·refine kx (guF rfl (congrArg Bool.not hb252) (mvO h249)) (kx (guF rfl (congrArg Bool.not hb252) (mvO h245)) (kx (guF rfl (congrArg Bool.not hb252) (bNeq rfl rfl)) (kx (pkF rfl (congrArg Bool.not hb252) rfl) (Rn (hA h246 (hA h247 (hV (.bool true) rfl hZ))) fun e253 h255 h256 h257 => ?_))))
        clear h244 h245 h246 h247 h248 h249
        obtain rfl := si h
        exact kd (show laws_FnExactReadChain_c3_Q r27 r87 (([] : Mem).length) M28.length M88.length _ _ from ⟨rfl, h255, h256, h257, o240⟩)
       refine kx (gsF rfl (congrArg Bool.not hb252)) (kx (gsF rfl (congrArg Bool.not hb252)) (kx (gsF rfl (congrArg Bool.not hb252)) (kx (pkT rfl (congrArg Bool.not hb252) rfl) (Rn (hA h246 (hA h247 (hV (.bool true) rfl hZ))) fun e258 h260 h261 h262 => ?_))))
       clear h244 h245 h246 h247 h248 h249
       obtain rfl := si h
       exact kd (show laws_FnExactReadChain_c3_Q r27 r87 (([] : Mem).length) M28.length M88.length _ _ from ⟨rfl, h260, h261, h262, o240⟩)) ?_
   intro x e263 M264 hq272
   obtain ⟨rfl, h265, h266, h267, o268⟩ := hq272
   refine sN (cT h267 rfl (sq (Rg (kx (mvO rfl) (Rn (hV (.bool false) rfl hZ) fun e269 h271 => sN (xx (sR ?_)))))))
   clear h265 h266 h267
   obtain rfl := si h
   exact eR (resT h271 res0) rfl
  refine Ev.nxcp (Ev.callT (v := .tup [.agg (.str r279 :: (.bool r280 :: (.sl (some 156) (r281.map Notch.c) :: ((arC (cI .i8) 0 r282) ++ ((.sl (some 107) (r283.map Mark.c) :: []) : List AV))))), .int .i64 0]) rfl (cns rfl rfl) rfl (impl_ReadChain_ok a1 _ hx26) (th_gen (v' := .tup [.agg (.str r279 :: (.bool r280 :: (.lsl M18.length r281.length 0 r281.length :: ((arC (cI .i8) 0 r282) ++ ((.lsl (M18.length + 1) r283.length 0 r283.length :: []) : List AV))))), .int .i64 0]) (l := [⟨.grow, 156, 2, r281.map Notch.c⟩, ⟨.grow, 107, 2, r283.map Mark.c⟩]) (own_tup (oa1 (own2_agg (oa1 rfl (oa1 rfl (oa1 (own1_row' (c := Notch.c) Notch.flF) (oaA (fun _ => own1_flat) (fun _ => rfl) (oa1 (own1_row' (c := Mark.c) Mark.flF) oa0)))))) (oa1 rfl oa0))) (by simp [thaw, thaw2, thaw1, thawL, co156, co107, thA (c := (cI .i8)) (fun _ => rfl), thA0 (c := (cI .i8)) (fun _ => rfl)]) rfl rfl)) fun M286 hM287 => ?_
  have o288 := push_old hM287 o20
  have ne289 : ([] : Mem).length ≠ M18.length := by have := lt_of_get (M := M18) o20; omega
  have o290 : M286[M18.length]? = some (.live ⟨.grow, 156, 2, r281.map Notch.c⟩) := push_at hM287 0 rfl
  have ne291 : ([] : Mem).length ≠ (M18.length + 1) := by have := lt_of_get (M := M18) o20; omega
  have ne292 : M18.length ≠ (M18.length + 1) := by omega
  have o293 : M286[(M18.length + 1)]? = some (.live ⟨.grow, 107, 2, r283.map Mark.c⟩) := push_at hM287 1 rfl
  refine kx (mvO rfl) (kx (exT rfl rfl) (kx (exT rfl rfl) (ku (alO zero60) fun M295 hM296 => ?_)))
  have o297 := push_old hM296 o288
  have ne298 := ne_new o288
  have o299 := push_old hM296 o290
  have ne300 := ne_new o290
  have o301 := push_old hM296 o293
  have ne302 := ne_new o293
  have o303 : M295[M286.length]? = some (.live ⟨.box, 60, 20, [(.str ([] : List UInt8) :: (.bool false :: (.nils :: ((arC (cI .i8) 0 (Ar.rep 16 0)) ++ ((.nils :: []) : List AV)))))]⟩) := push_new hM296
  refine kw (stO rfl rfl o303 rfl rfl ⟨rfl, ble rfl⟩ (all1 rfl (all1 rfl (all1 (okL o299 (by simp)) (oaS (rest := [.lsl (M18.length + 1) r283.length 0 r283.length]) (fun _ => rfl) (all1 (okL o301 (by simp)) all0))))) rfl) fun M304 hM305 => ?_
  have o306 := set_ne hM305 ne298 o297
  have o307 := set_ne hM305 ne300 o299
  have o308 := set_ne hM305 ne302 o301
  have o309 : M304[M286.length]? = some (.live ⟨.box, 60, 20, [(.str r279 :: (.bool r280 :: (.lsl M18.length r281.length 0 r281.length :: ((arC (cI .i8) 0 r282) ++ ((.lsl (M18.length + 1) r283.length 0 r283.length :: []) : List AV)))))]⟩) := set_same hM305 o303
  obtain ⟨r349, hr350, h⟩ := bind_some h
  refine kx (mvO rfl) (Rn (hA h23 (hA h24 (hA h25 (hV (.loc M286.length 1 0 0) rfl (hV (.int .i64 0) rfl hZ))))) fun e310 h312 h313 h314 h315 h316 => sN (sq (sq ?_)))
  clear h23 h24 h25
  refine Ev.cut (Q1 := laws_FnExactReadChain_c4_Q a1 r13 r279 r280 r281 r282 r283 (([] : Mem).length) M18.length (M18.length + 1) M286.length r349) (by
      have h := hr350
      obtain ⟨r318, hx317, h⟩ := bind_some h
      refine Rg (kx (ldOA (cs' := (.str r279 :: (.bool r280 :: (.lsl M18.length r281.length 0 r281.length :: ((arC (cI .i8) 0 r282) ++ ((.lsl (M18.length + 1) r283.length 0 r283.length :: []) : List AV)))))) h315 o309 rfl rfl (ble rfl) rfl) (kx (ldOA (cs' := (.str ([] : List UInt8) :: (.bool false :: (.nils :: ((arC (cI .i8) 0 r13) ++ ((.nils :: []) : List AV)))))) h313 o306 rfl rfl (ble rfl) rfl) (kc (cl (v := .bool r318) rfl (cns rfl (cns rfl rfl)) (ra1 (ra_agg (mp1 rfl (mp1 rfl (mp1 (ra1_row o307 rfl Notch.fl) (mpA (fun _ => rArg1_flat) (fun _ => rfl) (mp1 (ra1_row o308 rfl Mark.fl) mp0)))))) (ra1 rfl ra0)) (laws_eqChain_ok (Chain.mk r279 (Half.mk r280 r281 r282) r283) (Chain.mk ([] : List UInt8) (Half.mk false ([] : List Notch) r13) ([] : List Mark)) _ hx317) (fun _ => rfl)) (kx (uNot rfl) (kx (mvO rfl) ?_)))))
      rcases ite_some h with ⟨hb319, h⟩ | ⟨hb319, h⟩
      ·refine kx (guF rfl (congrArg Bool.not hb319) (mvO h316)) (kx (guF rfl (congrArg Bool.not hb319) (mvO h314)) (kx (guF rfl (congrArg Bool.not hb319) (bNeq rfl rfl)) (kx (pkF rfl (congrArg Bool.not hb319) rfl) (Rn (hA h312 (hA h313 (hA h314 (hA h315 (hV (.bool true) rfl hZ))))) fun e320 h322 h323 h324 h325 h326 => ?_))))
       clear h312 h313 h314 h315 h316
       obtain rfl := si h
       exact kd (show laws_FnExactReadChain_c4_Q a1 r13 r279 r280 r281 r282 r283 (([] : Mem).length) M18.length (M18.length + 1) M286.length _ _ from ⟨rfl, h322, h323, h324, h325, h326, o306, o307, o308, o309⟩)
      refine kx (gsF rfl (congrArg Bool.not hb319)) (kx (gsF rfl (congrArg Bool.not hb319)) (kx (gsF rfl (congrArg Bool.not hb319)) (kx (pkT rfl (congrArg Bool.not hb319) rfl) (Rn (hA h312 (hA h313 (hA h314 (hA h315 (hV (.bool true) rfl hZ))))) fun e327 h329 h330 h331 h332 h333 => ?_))))
      clear h312 h313 h314 h315 h316
      obtain rfl := si h
      exact kd (show laws_FnExactReadChain_c4_Q a1 r13 r279 r280 r281 r282 r283 (([] : Mem).length) M18.length (M18.length + 1) M286.length _ _ from ⟨rfl, h329, h330, h331, h332, h333, o306, o307, o308, o309⟩)) ?_
  intro x e334 M335 hq348
  obtain ⟨rfl, h336, h337, h338, h339, h340, o341, o342, o343, o344⟩ := hq348
  refine sN (cT h340 rfl (sq (Rg (kx (mvO rfl) (Rn (hV (.bool false) rfl hZ) fun e345 h347 => sN (xx (sR ?_)))))))
  clear h336 h337 h338 h339 h340
  obtain rfl := si h
  exact eR (resT h347 res0) rfl
 refine kc (cl (v := .tup [.agg (.str r352 :: (.bool r353 :: (.sl (some 156) (r354.map Notch.c) :: ((arC (cI .i8) 0 r355) ++ ((.sl (some 107) (r356.map Mark.c) :: []) : List AV))))), .int .i64 0]) rfl (cns rfl rfl) rfl (spec_ReadChain_ok a1 _ hx12) nm) (kx (mvO rfl) (kx (exT rfl rfl) (kx (exT rfl rfl) (ku (alO zero60) fun M358 hM359 => ?_))))
 have o360 : M358[([] : Mem).length]? = some (.live ⟨.box, 60, 20, [(.str ([] : List UInt8) :: (.bool false :: (.nils :: ((arC (cI .i8) 0 (Ar.rep 16 0)) ++ ((.nils :: []) : List AV)))))]⟩) := push_new hM359
 refine kw (stO rfl rfl o360 rfl rfl ⟨rfl, ble rfl⟩ rfl rfl) fun M361 hM362 => ?_
 have o363 : M361[([] : Mem).length]? = some (.live ⟨.box, 60, 20, [(.str r352 :: (.bool r353 :: (.sl none (r354.map Notch.c) :: ((arC (cI .i8) 0 r355) ++ ((.sl none (r356.map Mark.c) :: []) : List AV)))))]⟩) := set_same hM362 o360
 obtain ⟨q718, hx369, h⟩ := bind_some h
 refine kx (mvO rfl) (Rn (hA h6 (hV (.loc ([] : Mem).length 1 0 0) rfl (hV (.int .i64 0) rfl hZ))) fun e364 h366 h367 h368 => sN (sq (Rg (kx (mvO h366) ?_))))
 clear h6 h7
 rcases q718 with r370 | ⟨r423, r424, r425, r426, r427⟩
 ·refine Ev.nxcp (Ev.callT (v := .tup [.agg (.str ([] : List UInt8) :: (.bool false :: (.nils :: ((arC (cI .i8) 0 r370) ++ ((.nils :: []) : List AV))))), .int .i64 5]) rfl (cns rfl rfl) rfl (impl_ReadChain_ok a1 _ hx369) (th_gen (v' := .tup [.agg (.str ([] : List UInt8) :: (.bool false :: (.nils :: ((arC (cI .i8) 0 r370) ++ ((.nils :: []) : List AV))))), .int .i64 5]) (l := []) (own_tup (oa1 (own2_agg (oa1 rfl (oa1 rfl (oa1 rfl (oaA (fun _ => own1_flat) (fun _ => rfl) (oa1 rfl oa0)))))) (oa1 rfl oa0))) (by simp [thaw, thaw2, thaw1, thawL, thA (c := (cI .i8)) (fun _ => rfl), thA0 (c := (cI .i8)) (fun _ => rfl)]) rfl rfl)) fun M371 hM372 => ?_
  have o373 := push_old hM372 o363
  refine kx (mvO rfl) (kx (exT rfl rfl) (kx (exT rfl rfl) (ku (alO zero60) fun M375 hM376 => ?_)))
  have o377 := push_old hM376 o373
  have ne378 := ne_new o373
  have o379 : M375[M371.length]? = some (.live ⟨.box, 60, 20, [(.str ([] : List UInt8) :: (.bool false :: (.nils :: ((arC (cI .i8) 0 (Ar.rep 16 0)) ++ ((.nils :: []) : List AV)))))]⟩) := push_new hM376
  refine kw (stO rfl rfl o379 rfl rfl ⟨rfl, ble rfl⟩ rfl rfl) fun M380 hM381 => ?_
  have o382 := set_ne hM381 ne378 o377
  have o383 : M380[M371.length]? = some (.live ⟨.box, 60, 20, [(.str ([] : List UInt8) :: (.bool false :: (.nils :: ((arC (cI .i8) 0 r370) ++ ((.nils :: []) : List AV)))))]⟩) := set_same hM381 o379
  obtain ⟨r421, hr422, h⟩ := bind_some h
  refine kx (mvO rfl) (Rn (hA h366 (hA h367 (hA h368 (hV (.loc M371.length 1 0 0) rfl (hV (.int .i64 5) rfl hZ))))) fun e384 h386 h387 h388 h389 h390 => sN (sq (sq ?_)))
  clear h366 h367 h368
  refine Ev.cut (Q1 := laws_FnExactReadChain_c5_Q a1 r352 r353 r354 r355 r356 r370 (([] : Mem).length) M371.length r421) (by
      have h := hr422
      obtain ⟨r392, hx391, h⟩ := bind_some h
      refine Rg (kx (ldOA (cs' := (.str ([] : List UInt8) :: (.bool false :: (.nils :: ((arC (cI .i8) 0 r370) ++ ((.nils :: []) : List AV)))))) h389 o383 rfl rfl (ble rfl) rfl) (kx (ldOA (cs' := (.str r352 :: (.bool r353 :: (.sl none (r354.map Notch.c) :: ((arC (cI .i8) 0 r355) ++ ((.sl none (r356.map Mark.c) :: []) : List AV)))))) h387 o382 rfl rfl (ble rfl) rfl) (kc (cl (v := .bool r392) rfl (cns rfl (cns rfl rfl)) rfl (laws_eqChain_ok (Chain.mk ([] : List UInt8) (Half.mk false ([] : List Notch) r370) ([] : List Mark)) (Chain.mk r352 (Half.mk r353 r354 r355) r356) _ hx391) nm) (kx (uNot rfl) (kx (mvO rfl) ?_)))))
      rcases ite_some h with ⟨hb393, h⟩ | ⟨hb393, h⟩
      ·refine kx (guF rfl (congrArg Bool.not hb393) (mvO h390)) (kx (guF rfl (congrArg Bool.not hb393) (mvO h388)) (kx (guF rfl (congrArg Bool.not hb393) (bNeq rfl rfl)) (kx (pkF rfl (congrArg Bool.not hb393) rfl) (Rn (hA h386 (hA h387 (hA h388 (hA h389 (hV (.bool true) rfl hZ))))) fun e394 h396 h397 h398 h399 h400 => ?_))))
       clear h386 h387 h388 h389 h390
       obtain rfl := si h
       exact kd (show laws_FnExactReadChain_c5_Q a1 r352 r353 r354 r355 r356 r370 (([] : Mem).length) M371.length _ _ from ⟨rfl, h396, h397, h398, h399, h400, o382, o383⟩)
      refine kx (gsF rfl (congrArg Bool.not hb393)) (kx (gsF rfl (congrArg Bool.not hb393)) (kx (gsF rfl (congrArg Bool.not hb393)) (kx (pkT rfl (congrArg Bool.not hb393) rfl) (Rn (hA h386 (hA h387 (hA h388 (hA h389 (hV (.bool true) rfl hZ))))) fun e401 h403 h404 h405 h406 h407 => ?_))))
      clear h386 h387 h388 h389 h390
      obtain rfl := si h
      exact kd (show laws_FnExactReadChain_c5_Q a1 r352 r353 r354 r355 r356 r370 (([] : Mem).length) M371.length _ _ from ⟨rfl, h403, h404, h405, h406, h407, o382, o383⟩)) ?_
  intro x e408 M409 hq420
  obtain ⟨rfl, h410, h411, h412, h413, h414, o415, o416⟩ := hq420
  refine sN (cT h414 rfl (sq (Rg (kx (mvO rfl) (Rn (hV (.bool false) rfl hZ) fun e417 h419 => sN (xx (sR ?_)))))))
  clear h410 h411 h412 h413 h414
  obtain rfl := si h
  exact eR (resT h419 res0) rfl
 refine Ev.nxcp (Ev.callT (v := .tup [.agg (.str r423 :: (.bool r424 :: (.sl (some 156) (r425.map Notch.c) :: ((arC (cI .i8) 0 r426) ++ ((.sl (some 107) (r427.map Mark.c) :: []) : List AV))))), .int .i64 0]) rfl (cns rfl rfl) rfl (impl_ReadChain_ok a1 _ hx369) (th_gen (v' := .tup [.agg (.str r423 :: (.bool r424 :: (.lsl M361.length r425.length 0 r425.length :: ((arC (cI .i8) 0 r426) ++ ((.lsl (M361.length + 1) r427.length 0 r427.length :: []) : List AV))))), .int .i64 0]) (l := [⟨.grow, 156, 2, r425.map Notch.c⟩, ⟨.grow, 107, 2, r427.map Mark.c⟩]) (own_tup (oa1 (own2_agg (oa1 rfl (oa1 rfl (oa1 (own1_row' (c := Notch.c) Notch.flF) (oaA (fun _ => own1_flat) (fun _ => rfl) (oa1 (own1_row' (c := Mark.c) Mark.flF) oa0)))))) (oa1 rfl oa0))) (by simp [thaw, thaw2, thaw1, thawL, co156, co107, thA (c := (cI .i8)) (fun _ => rfl), thA0 (c := (cI .i8)) (fun _ => rfl)]) rfl rfl)) fun M430 hM431 => ?_
 have o432 := push_old hM431 o363
 have ne433 : ([] : Mem).length ≠ M361.length := by have := lt_of_get (M := M361) o363; omega
 have o434 : M430[M361.length]? = some (.live ⟨.grow, 156, 2, r425.map Notch.c⟩) := push_at hM431 0 rfl
 have ne435 : ([] : Mem).length ≠ (M361.length + 1) := by have := lt_of_get (M := M361) o363; omega
 have ne436 : M361.length ≠ (M361.length + 1) := by omega
 have o437 : M430[(M361.length + 1)]? = some (.live ⟨.grow, 107, 2, r427.map Mark.c⟩) := push_at hM431 1 rfl
 refine kx (mvO rfl) (kx (exT rfl rfl) (kx (exT rfl rfl) (ku (alO zero60) fun M439 hM440 => ?_)))
 have o441 := push_old hM440 o432
 have ne442 := ne_new o432
 have o443 := push_old hM440 o434
 have ne444 := ne_new o434
 have o445 := push_old hM440 o437
 have ne446 := ne_new o437
 have o447 : M439[M430.length]? = some (.live ⟨.box, 60, 20, [(.str ([] : List UInt8) :: (.bool false :: (.nils :: ((arC (cI .i8) 0 (Ar.rep 16 0)) ++ ((.nils :: []) : List AV)))))]⟩) := push_new hM440
 refine kw (stO rfl rfl o447 rfl rfl ⟨rfl, ble rfl⟩ (all1 rfl (all1 rfl (all1 (okL o443 (by simp)) (oaS (rest := [.lsl (M361.length + 1) r427.length 0 r427.length]) (fun _ => rfl) (all1 (okL o445 (by simp)) all0))))) rfl) fun M448 hM449 => ?_
 have o450 := set_ne hM449 ne442 o441
 have o451 := set_ne hM449 ne444 o443
 have o452 := set_ne hM449 ne446 o445
 have o453 : M448[M430.length]? = some (.live ⟨.box, 60, 20, [(.str r423 :: (.bool r424 :: (.lsl M361.length r425.length 0 r425.length :: ((arC (cI .i8) 0 r426) ++ ((.lsl (M361.length + 1) r427.length 0 r427.length :: []) : List AV)))))]⟩) := set_same hM449 o447
 obtain ⟨r716, hr717, h⟩ := bind_some h
 refine kx (mvO rfl) (Rn (hA h366 (hA h367 (hA h368 (hV (.loc M430.length 1 0 0) rfl (hV (.int .i64 0) rfl hZ))))) fun e454 h456 h457 h458 h459 h460 => sN (sq (sq ?_)))
 clear h366 h367 h368
 refine Ev.cut (Q1 := laws_FnExactReadChain_c6_Q a1 r352 r353 r354 r355 r356 r423 r424 r425 r426 r427 (([] : Mem).length) M361.length (M361.length + 1) M430.length r716) (by
     have h := hr717
     obtain ⟨r462, hx461, h⟩ := bind_some h
     refine Rg (kx (ldOA (cs' := (.str r423 :: (.bool r424 :: (.lsl M361.length r425.length 0 r425.length :: ((arC (cI .i8) 0 r426) ++ ((.lsl (M361.length + 1) r427.length 0 r427.length :: []) : List AV)))))) h459 o453 rfl rfl (ble rfl) rfl) (kx (ldOA (cs' := (.str r352 :: (.bool r353 :: (.sl none (r354.map Notch.c) :: ((arC (cI .i8) 0 r355) ++ ((.sl none (r356.map Mark.c) :: []) : List AV)))))) h457 o450 rfl rfl (ble rfl) rfl) (kc (cl (v := .bool r462) rfl (cns rfl (cns rfl rfl)) (ra1 (ra_agg (mp1 rfl (mp1 rfl (mp1 (ra1_row o451 rfl Notch.fl) (mpA (fun _ => rArg1_flat) (fun _ => rfl) (mp1 (ra1_row o452 rfl Mark.fl) mp0)))))) (ra1 rfl ra0)) (laws_eqChain_ok (Chain.mk r423 (Half.mk r424 r425 r426) r427) (Chain.mk r352 (Half.mk r353 r354 r355) r356) _ hx461) (fun _ => rfl)) (kx (uNot rfl) (kx (mvO rfl) ?_)))))
     rcases ite_some h with ⟨hb463, h⟩ | ⟨hb463, h⟩
     ·refine kx (guF rfl (congrArg Bool.not hb463) (mvO h460)) (kx (guF rfl (congrArg Bool.not hb463) (mvO h458)) (kx (guF rfl (congrArg Bool.not hb463) (bNeq rfl rfl)) (kx (pkF rfl (congrArg Bool.not hb463) rfl) (Rn (hA h456 (hA h457 (hA h458 (hA h459 (hV (.bool false) rfl hZ))))) fun e464 h466 h467 h468 h469 h470 => ?_))))
      clear h456 h457 h458 h459 h460
      obtain rfl := si h
      exact kd (show laws_FnExactReadChain_c6_Q a1 r352 r353 r354 r355 r356 r423 r424 r425 r426 r427 (([] : Mem).length) M361.length (M361.length + 1) M430.length _ _ from ⟨rfl, h466, h467, h468, h469, h470, o450, o451, o452, o453⟩)
     refine kx (gsF rfl (congrArg Bool.not hb463)) (kx (gsF rfl (congrArg Bool.not hb463)) (kx (gsF rfl (congrArg Bool.not hb463)) (kx (pkT rfl (congrArg Bool.not hb463) rfl) (Rn (hA h456 (hA h457 (hA h458 (hA h459 (hV (.bool true) rfl hZ))))) fun e471 h473 h474 h475 h476 h477 => ?_))))
     clear h456 h457 h458 h459 h460
     obtain rfl := si h
     exact kd (show laws_FnExactReadChain_c6_Q a1 r352 r353 r354 r355 r356 r423 r424 r425 r426 r427 (([] : Mem).length) M361.length (M361.length + 1) M430.length _ _ from ⟨rfl, h473, h474, h475, h476, h477, o450, o451, o452, o453⟩)) ?_
 revert h hr717
 revert r716
 intro y480 hr717 h
 intro x e478 M479 hq715
 obtain ⟨rfl, h481, h482, h483, h484, h485, o486, o487, o488, o489⟩ := hq715
 refine sN ?_
 rcases ite_some h with ⟨hb490, h⟩ | ⟨hb490, h⟩
 ·refine cT h485 hb490 (sq (Rg (kx (mvO rfl) (Rn (hV (.bool false) rfl hZ) fun e491 h493 => sN (xx (sR ?_))))))
  clear h481 h482 h483 h484 h485
  obtain rfl := si h
  exact eR (resT h493 res0) rfl
 obtain ⟨⟨r502, r503, r504⟩, hx501, h⟩ := bind_some h
 refine cF h485 hb490 (xx (sN (sq (Rg (kx (mvO rfl) (Rn (hV (.str a1) h481 (hV (.loc ([] : Mem).length 1 0 0) h482 (hV (.int .i64 0) h483 (hV (.loc M430.length 1 0 0) h484 (hV (.int .i64 1) rfl hZ))))) fun e494 h496 h497 h498 h499 h500 => sN (sq (Rg (kx (ldOA (cs' := (.str r423 :: (.bool r424 :: (.lsl M361.length r425.length 0 r425.length :: ((arC (cI .i8) 0 r426) ++ ((.lsl (M361.length + 1) r427.length 0 r427.length :: []) : List AV)))))) h499 o489 rfl rfl (ble rfl) rfl) (kx (mvO h500) (Ev.nxw (Ev.callW rfl (cns rfl (cns rfl rfl)) (laws_markChain_ll_ok r423 r424 r425 r426 r427 1 M361.length (M361.length + 1) ne436 M479 o487 o488 _ hx501)) fun v507 M505 hq506 => ?_)))))))))))
 clear h481 h482 h483 h484 h485
 obtain ⟨hv507, o508, o509, fr510, hl511, hl512⟩ := hq506
 have hv507 : v507 = .int .i64 r502 := hv507
 subst hv507
 have o513 : M505[M361.length]? = some (.live ⟨.grow, 156, 2, r503.map Notch.c⟩) := o508
 have o514 : M505[(M361.length + 1)]? = some (.live ⟨.grow, 107, 2, r504.map Mark.c⟩) := o509
 have hl511 : r503.length = r425.length := hl511
 have hl512 : r504.length = r427.length := hl512
 have o515 : M505[([] : Mem).length]? = some (.live ⟨.box, 60, 20, [(.str r352 :: (.bool r353 :: (.sl none (r354.map Notch.c) :: ((arC (cI .i8) 0 r355) ++ ((.sl none (r356.map Mark.c) :: []) : List AV)))))]⟩) := fr510 _ _ (niC ne433 (niC ne435 niN)) o486
 have o516 : M505[M430.length]? = some (.live ⟨.box, 60, 20, [(.str r423 :: (.bool r424 :: (.lsl M361.length r425.length 0 r425.length :: ((arC (cI .i8) 0 r426) ++ ((.lsl (M361.length + 1) r427.length 0 r427.length :: []) : List AV)))))]⟩) := fr510 _ _ (niC (Ne.symm ne444) (niC (Ne.symm ne446) niN)) o489
 obtain ⟨r533, hx532, h⟩ := bind_some h
 refine kx (mvO rfl) (Rn (hA h496 (hA h497 (hA h498 (hA h499 (hN rfl hZ))))) fun e517 h519 h520 h521 h522 h523 => sN (sq (Rg (kx (mvO rfl) (Rn (hA h519 (hA h520 (hA h521 (hA h522 (hA h523 (hV (.int .i64 1) rfl hZ)))))) fun e524 h526 h527 h528 h529 h530 h531 => sN (sq (Rg (kx (ldOA (cs' := (.str r423 :: (.bool r424 :: (.lsl M361.length r425.length 0 r425.length :: ((arC (cI .i8) 0 r426) ++ ((.lsl (M361.length + 1) r427.length 0 r427.length :: []) : List AV)))))) h529 o516 rfl rfl (ble rfl) rfl) (kx (mvO h531) (kc (cl (v := .int .i64 r533) rfl (cns rfl (cns rfl rfl)) (ra1 (ra_agg (mp1 rfl (mp1 rfl (mp1 (ra1_row o513 (by simp [hl511, hl512]) Notch.fl) (mpA (fun _ => rArg1_flat) (fun _ => rfl) (mp1 (ra1_row o514 (by simp [hl511, hl512]) Mark.fl) mp0)))))) (ra1 rfl ra0)) (laws_heldChain_ok (Chain.mk r423 (Half.mk r424 r503 r426) r504) 1 _ hx532) (fun _ => rfl)) (kx (mvO rfl) (Rn (hA h526 (hA h527 (hA h528 (hA h529 (hA h530 (hN rfl hZ)))))) fun e534 h536 h537 h538 h539 h540 h541 => sN (sq (sq (Rg (kx (mvO h541) (kx (bLss rfl rfl) (Rn (hA h536 (hA h537 (hA h538 (hA h539 (hA h540 (hA h541 (hN rfl hZ))))))) fun e542 h544 h545 h546 h547 h548 h549 h550 => sN ?_))))))))))))))))))
 clear h496 h497 h498 h499 h519 h520 h521 h522 h523 h526 h527 h528 h529 h530 h536 h537 h538 h539 h540 h541
 rcases ite_some h with ⟨hb551, h⟩ | ⟨hb551, h⟩
 ·refine cT h550 hb551 (sq (Rg (kx (mvO rfl) (Rn (hV (.bool false) rfl hZ) fun e552 h554 => sN (xx (sR ?_))))))
  clear h544 h545 h546 h547 h548 h549 h550
  obtain rfl := si h
  exact eR (resT h554 res0) rfl
 refine cF h550 hb551 (xx (sN (sq (sq (Rg (kx (mvO h549) (kx (mvO h548) (kx (bNeq rfl rfl) (Rn (hA h544 (hA h545 (hA h546 (hA h547 (hA h548 (hN rfl hZ)))))) fun e555 h557 h558 h559 h560 h561 h562 => sN ?_)))))))))
 clear h544 h545 h546 h547 h548 h549 h550
 rcases ite_some h with ⟨hb563, h⟩ | ⟨hb563, h⟩
 ·refine cT h562 hb563 (sq (Rg (kx (mvO rfl) (Rn (hV (.bool false) rfl hZ) fun e564 h566 => sN (xx (sR ?_))))))
  clear h557 h558 h559 h560 h561 h562
  obtain rfl := si h
  exact eR (resT h566 res0) rfl
 obtain ⟨q714, hx567, h⟩ := bind_some h
 refine cF h562 hb563 (xx (sN (sq (Rg (kx (mvO h557) ?_)))))
 rcases q714 with r568 | ⟨r623, r624, r625, r626, r627⟩
 ·refine kc (cl (v := .tup [.agg (.str ([] : List UInt8) :: (.bool false :: (.nils :: ((arC (cI .i8) 0 r568) ++ ((.nils :: []) : List AV))))), .int .i64 5]) rfl (cns rfl rfl) rfl (impl_ReadChain_ok a1 _ hx567) nm) (kx (mvO rfl) (kx (exT rfl rfl) (kx (exT rfl rfl) (ku (alO zero60) fun M570 hM571 => ?_))))
  have o572 := push_old hM571 o515
  have ne573 := ne_new o515
  have o574 := push_old hM571 o513
  have ne575 := ne_new o513
  have o576 := push_old hM571 o514
  have ne577 := ne_new o514
  have o578 := push_old hM571 o516
  have ne579 := ne_new o516
  have o580 : M570[M505.length]? = some (.live ⟨.box, 60, 20, [(.str ([] : List UInt8) :: (.bool false :: (.nils :: ((arC (cI .i8) 0 (Ar.rep 16 0)) ++ ((.nils :: []) : List AV)))))]⟩) := push_new hM571
  refine kw (stO rfl rfl o580 rfl rfl ⟨rfl, ble rfl⟩ rfl rfl) fun M581 hM582 => ?_
  have o583 := set_ne hM582 ne573 o572
  have o584 := set_ne hM582 ne575 o574
  have o585 := set_ne hM582 ne577 o576
  have o586 := set_ne hM582 ne579 o578
  have o587 : M581[M505.length]? = some (.live ⟨.box, 60, 20, [(.str ([] : List UInt8) :: (.bool false :: (.nils :: ((arC (cI .i8) 0 r568) ++ ((.nils :: []) : List AV)))))]⟩) := set_same hM582 o580
  obtain ⟨r621, hr622, h⟩ := bind_some h
  refine kx (mvO rfl) (Rn (hA h558 (hA h559 (hA h560 (hA h561 (hV (.loc M505.length 1 0 0) rfl (hV (.int .i64 5) rfl hZ)))))) fun e588 h590 h591 h592 h593 h594 h595 => sN (sq (sq ?_)))
  clear h557 h558 h559 h560 h561 h562
  refine Ev.cut (Q1 := laws_FnExactReadChain_c7_Q r423 r424 r425 r426 r427 r502 r503 r504 (([] : Mem).length) M361.length (M361.length + 1) M430.length M505.length r621) (by
      have h := hr622
      obtain ⟨r597, hx596, h⟩ := bind_some h
      refine Rg (kx (ldOA (cs' := (.str ([] : List UInt8) :: (.bool false :: (.nils :: ((arC (cI .i8) 0 r568) ++ ((.nils :: []) : List AV)))))) h594 o587 rfl rfl (ble rfl) rfl) (kx (ldOA (cs' := (.str r352 :: (.bool r353 :: (.sl none (r354.map Notch.c) :: ((arC (cI .i8) 0 r355) ++ ((.sl none (r356.map Mark.c) :: []) : List AV)))))) h590 o583 rfl rfl (ble rfl) rfl) (kc (cl (v := .bool r597) rfl (cns rfl (cns rfl rfl)) rfl (laws_eqChain_ok (Chain.mk ([] : List UInt8) (Half.mk false ([] : List Notch) r568) ([] : List Mark)) (Chain.mk r352 (Half.mk r353 r354 r355) r356) _ hx596) nm) (kx (uNot rfl) (kx (mvO rfl) ?_)))))
      rcases ite_some h with ⟨hb598, h⟩ | ⟨hb598, h⟩
      ·refine kx (guF rfl (congrArg Bool.not hb598) (mvO h595)) (kx (guF rfl (congrArg Bool.not hb598) (mvO h591)) (kx (guF rfl (congrArg Bool.not hb598) (bNeq rfl rfl)) (kx (pkF rfl (congrArg Bool.not hb598) rfl) (Rn (hA h592 (hA h593 (hV (.bool true) rfl hZ))) fun e599 h601 h602 h603 => ?_))))
       clear h590 h591 h592 h593 h594 h595
       obtain rfl := si h
       exact kd (show laws_FnExactReadChain_c7_Q r423 r424 r425 r426 r427 r502 r503 r504 (([] : Mem).length) M361.length (M361.length + 1) M430.length M505.length _ _ from ⟨rfl, h601, h602, h603, o584, o585, o586⟩)
      refine kx (gsF rfl (congrArg Bool.not hb598)) (kx (gsF rfl (congrArg Bool.not hb598)) (kx (gsF rfl (congrArg Bool.not hb598)) (kx (pkT rfl (congrArg Bool.not hb598) rfl) (Rn (hA h592 (hA h593 (hV (.bool true) rfl hZ))) fun e604 h606 h607 h608 => ?_))))
      clear h590 h591 h592 h593 h594 h595
      obtain rfl := si h
      exact kd (show laws_FnExactReadChain_c7_Q r423 r424 r425 r426 r427 r502 r503 r504 (([] : Mem).length) M361.length (M361.length + 1) M430.length M505.length _ _ from ⟨rfl, h606, h607, h608, o584, o585, o586⟩)) ?_
  intro x e609 M610 hq620
  obtain ⟨rfl, h611, h612, h613, o614, o615, o616⟩ := hq620
  refine sN (cT h613 rfl (sq (Rg (kx (mvO rfl) (Rn (hV (.bool false) rfl hZ) fun e617 h619 => sN (xx (sR ?_)))))))
  clear h611 h612 h613
  obtain rfl := si h
  exact eR (resT h619 res0) rfl
 refine kc (cl (v := .tup [.agg (.str r623 :: (.bool r624 :: (.sl (some 156) (r625.map Notch.c) :: ((arC (cI .i8) 0 r626) ++ ((.sl (some 107) (r627.map Mark.c) :: []) : List AV))))), .int .i64 0]) rfl (cns rfl rfl) rfl (impl_ReadChain_ok a1 _ hx567) nm) (kx (mvO rfl) (kx (exT rfl rfl) (kx (exT rfl rfl) (ku (alO zero60) fun M629 hM630 => ?_))))
 have o631 := push_old hM630 o515
 have ne632 := ne_new o515
 have o633 := push_old hM630 o513
 have ne634 := ne_new o513
 have o635 := push_old hM630 o514
 have ne636 := ne_new o514
 have o637 := push_old hM630 o516
 have ne638 := ne_new o516
 have o639 : M629[M505.length]? = some (.live ⟨.box, 60, 20, [(.str ([] : List UInt8) :: (.bool false :: (.nils :: ((arC (cI .i8) 0 (Ar.rep 16 0)) ++ ((.nils :: []) : List AV)))))]⟩) := push_new hM630
 refine kw (stO rfl rfl o639 rfl rfl ⟨rfl, ble rfl⟩ rfl rfl) fun M640 hM641 => ?_
 have o642 := set_ne hM641 ne632 o631
 have o643 := set_ne hM641 ne634 o633
 have o644 := set_ne hM641 ne636 o635
 have o645 := set_ne hM641 ne638 o637
 have o646 : M640[M505.length]? = some (.live ⟨.box, 60, 20, [(.str r623 :: (.bool r624 :: (.sl none (r625.map Notch.c) :: ((arC (cI .i8) 0 r626) ++ ((.sl none (r627.map Mark.c) :: []) : List AV)))))]⟩) := set_same hM641 o639
 obtain ⟨r712, hr713, h⟩ := bind_some h
 refine kx (mvO rfl) (Rn (hA h558 (hA h559 (hA h560 (hA h561 (hV (.loc M505.length 1 0 0) rfl (hV (.int .i64 0) rfl hZ)))))) fun e647 h649 h650 h651 h652 h653 h654 => sN (sq (sq ?_)))
 clear h557 h558 h559 h560 h561 h562
 refine Ev.cut (Q1 := laws_FnExactReadChain_c8_Q r423 r424 r425 r426 r427 r502 r503 r504 (([] : Mem).length) M361.length (M361.length + 1) M430.length M505.length r712) (by
     have h := hr713
     obtain ⟨r656, hx655, h⟩ := bind_some h
     refine Rg (kx (ldOA (cs' := (.str r623 :: (.bool r624 :: (.sl none (r625.map Notch.c) :: ((arC (cI .i8) 0 r626) ++ ((.sl none (r627.map Mark.c) :: []) : List AV)))))) h653 o646 rfl rfl (ble rfl) rfl) (kx (ldOA (cs' := (.str r352 :: (.bool r353 :: (.sl none (r354.map Notch.c) :: ((arC (cI .i8) 0 r355) ++ ((.sl none (r356.map Mark.c) :: []) : List AV)))))) h649 o642 rfl rfl (ble rfl) rfl) (kc (cl (v := .bool r656) rfl (cns rfl (cns rfl rfl)) rfl (laws_eqChain_ok (Chain.mk r623 (Half.mk r624 r625 r626) r627) (Chain.mk r352 (Half.mk r353 r354 r355) r356) _ hx655) nm) (kx (uNot rfl) (kx (mvO rfl) ?_)))))
     rcases ite_some h with ⟨hb657, h⟩ | ⟨hb657, h⟩
     ·refine kx (guF rfl (congrArg Bool.not hb657) (mvO h654)) (kx (guF rfl (congrArg Bool.not hb657) (mvO h650)) (kx (guF rfl (congrArg Bool.not hb657) (bNeq rfl rfl)) (kx (pkF rfl (congrArg Bool.not hb657) rfl) (Rn (hA h651 (hA h652 (hV (.bool false) rfl hZ))) fun e658 h660 h661 h662 => ?_))))
      clear h649 h650 h651 h652 h653 h654
      obtain rfl := si h
      exact kd (show laws_FnExactReadChain_c8_Q r423 r424 r425 r426 r427 r502 r503 r504 (([] : Mem).length) M361.length (M361.length + 1) M430.length M505.length _ _ from ⟨rfl, h660, h661, h662, o643, o644, o645⟩)
     refine kx (gsF rfl (congrArg Bool.not hb657)) (kx (gsF rfl (congrArg Bool.not hb657)) (kx (gsF rfl (congrArg Bool.not hb657)) (kx (pkT rfl (congrArg Bool.not hb657) rfl) (Rn (hA h651 (hA h652 (hV (.bool true) rfl hZ))) fun e663 h665 h666 h667 => ?_))))
     clear h649 h650 h651 h652 h653 h654
     obtain rfl := si h
     exact kd (show laws_FnExactReadChain_c8_Q r423 r424 r425 r426 r427 r502 r503 r504 (([] : Mem).length) M361.length (M361.length + 1) M430.length M505.length _ _ from ⟨rfl, h665, h666, h667, o643, o644, o645⟩)) ?_
 revert h hr713
 revert r712
 intro y670 hr713 h
 intro x e668 M669 hq711
 obtain ⟨rfl, h671, h672, h673, o674, o675, o676⟩ := hq711
 refine sN ?_
 rcases ite_some h with ⟨hb677, h⟩ | ⟨hb677, h⟩
 ·refine cT h673 hb677 (sq (Rg (kx (mvO rfl) (Rn (hV (.bool false) rfl hZ) fun e678 h680 => sN (xx (sR ?_))))))
  clear h671 h672 h673
  obtain rfl := si h
  exact eR (resT h680 res0) rfl
 obtain ⟨r687, hx686, h⟩ := bind_some h
 refine cF h673 hb677 (xx (sN (sq (Rg (kx (mvO rfl) (Rn (hV (.loc M430.length 1 0 0) h671 (hV (.int .i64 r502) h672 (hV (.int .i64 1) rfl hZ))) fun e681 h683 h684 h685 => sN (sq (Rg (kx (ldOA (cs' := (.str r423 :: (.bool r424 :: (.lsl M361.length r425.length 0 r425.length :: ((arC (cI .i8) 0 r426) ++ ((.lsl (M361.length + 1) r427.length 0 r427.length :: []) : List AV)))))) h683 o676 rfl rfl (ble rfl) rfl) (kx (mvO h685) (kc (cl (v := .int .i64 r687) rfl (cns rfl (cns rfl rfl)) (ra1 (ra_agg (mp1 rfl (mp1 rfl (mp1 (ra1_row o674 (by simp [hl511, hl512]) Notch.fl) (mpA (fun _ => rArg1_flat) (fun _ => rfl) (mp1 (ra1_row o675 (by simp [hl511, hl512]) Mark.fl) mp0)))))) (ra1 rfl ra0)) (laws_heldChain_ok (Chain.mk r423 (Half.mk r424 r503 r426) r504) 1 _ hx686) (fun _ => rfl)) (kx (mvO rfl) (Rn (hA h684 (hN rfl hZ)) fun e688 h690 h691 => sN (sq (sq (Rg (kx (mvO h691) (kx (bLss rfl rfl) (Rn (hA h690 (hA h691 (hN rfl hZ))) fun e692 h694 h695 h696 => sN ?_)))))))))))))))))))
 clear h671 h672 h673 h683 h684 h690 h691
 rcases ite_some h with ⟨hb697, h⟩ | ⟨hb697, h⟩
 ·refine cT h696 hb697 (sq (Rg (kx (mvO rfl) (Rn (hV (.bool false) rfl hZ) fun e698 h700 => sN (xx (sR ?_))))))
  clear h694 h695 h696
  obtain rfl := si h
  exact eR (resT h700 res0) rfl
 refine cF h696 hb697 (xx (sN (sq (sq (Rg (kx (mvO h695) (kx (mvO h694) (kx (bNeq rfl rfl) (Rn (hN rfl hZ) fun e701 h703 => sN ?_)))))))))
 clear h694 h695 h696
 rcases ite_some h with ⟨hb704, h⟩ | ⟨hb704, h⟩
 ·refine cT h703 hb704 (sq (Rg (kx (mvO rfl) (Rn (hV (.bool false) rfl hZ) fun e705 h707 => sN (xx (sR ?_))))))
  clear h703
  obtain rfl := si h
  exact eR (resT h707 res0) rfl
 refine cF h703 hb704 (xx (sN (sq (Rg (kx (mvO rfl) (Rn (hV (.bool true) rfl hZ) fun e708 h710 => sN (xx ?_)))))))
 clear h703
 obtain rfl := si h
 exact eR (resT h710 res0) rfl
end Go.Proofs.YtbhbmgmnnkcmcaaDoor

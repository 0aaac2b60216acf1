/- Printed by a program of ours (ext.py). -/
import Derived.Test.YtjlalepbhcekoaaFnsShares
set_option linter.unusedVariables false
set_option linter.unusedSimpArgs false
set_option maxRecDepth 100000
set_option maxHeartbeats 20000000
namespace Go.Proofs.Ytjlalepbhcekoaa
open Go Go.Ab
structure Notch where
  Kind : Int
  At : Int
  deriving DecidableEq
def Notch.c (x : Notch) : List AV := [.int .i8 x.Kind, .int .i16 x.At]
theorem Notch.fl : Fl Notch.c 2 := fun _ => ⟨rfl, rfl⟩
theorem Notch.flF : FlF Notch.c := fun _ => rfl
structure Half where
  Stock : Bool
  Notches : List Notch
  Grain : Ar 16 Int
  deriving DecidableEq
def Half.c (x : Half) : List AV := (.bool x.Stock :: (.sl none (x.Notches.map Notch.c) :: ((arC (cI .i8) 0 x.Grain) ++ ([] : List AV))))
theorem Half.fl : Fl Half.c 18 := fun _ => ⟨rfl, rfl⟩
structure Mark where
  Holder : List UInt8
  Seal : Int
  deriving DecidableEq
def Mark.c (x : Mark) : List AV := [.str x.Holder, .int .u32 x.Seal]
theorem Mark.fl : Fl Mark.c 2 := fun _ => ⟨rfl, rfl⟩
theorem Mark.flF : FlF Mark.c := fun _ => rfl
structure Chain where
  Debtor : List UInt8
  Stock : Half
  Marks : List Mark
  deriving DecidableEq
def Chain.c (x : Chain) : List AV := (.str x.Debtor :: (.bool x.Stock.Stock :: (.sl none (x.Stock.Notches.map Notch.c) :: ((arC (cI .i8) 0 x.Stock.Grain) ++ ((.sl none (x.Marks.map Mark.c) :: []) : List AV)))))
theorem Chain.fl : Fl Chain.c 20 := fun _ => ⟨rfl, rfl⟩
structure Party where
  Name : List UInt8
  Secret : Int
  deriving DecidableEq
def Party.c (x : Party) : List AV := [.str x.Name, .int .u32 x.Secret]
theorem Party.fl : Fl Party.c 2 := fun _ => ⟨rfl, rfl⟩
theorem Party.flF : FlF Party.c := fun _ => rfl
structure L00Src where
  Code : List Int
  At : Int
  Seed : Int
  deriving DecidableEq
def L00Src.c (x : L00Src) : List AV := [.sl none (x.Code.map (cI .u8)), .int .i64 x.At, .int .u64 x.Seed]
theorem L00Src.fl : Fl L00Src.c 3 := fun _ => ⟨rfl, rfl⟩
theorem co170 : cx.P.cellsOf 170 = 2 := by kernel_rfl
theorem nty70 : nilTys cx.P 6 70 = [0, 171, 0, 0, 0, 0, 0, 0, 0, 0, 0, 0, 0, 0, 0, 0, 0, 0] := by kernel_rfl
theorem zero142 : zeroOf cx.P 142 = [.nils, .int .i64 0, .int .u64 0] := by kernel_rfl
theorem zero163 : zeroOf cx.P 163 = [.str ([] : List UInt8), .int .u32 0] := by kernel_rfl
theorem zero170 : zeroOf cx.P 170 = [.int .i8 0, .int .i16 0] := by kernel_rfl
theorem zero173 : zeroOf cx.P 173 = [.str ([] : List UInt8), .int .u32 0] := by kernel_rfl
theorem zero68 : zeroOf cx.P 68 = (arC (cI .i8) 0 (Ar.rep 16 0)) := by kernel_rfl
theorem zero70 : zeroOf cx.P 70 = (.bool false :: (.nils :: ((arC (cI .i8) 0 (Ar.rep 16 0)) ++ ([] : List AV)))) := by kernel_rfl
theorem zero73 : zeroOf cx.P 73 = (.str ([] : List UInt8) :: (.bool false :: (.nils :: ((arC (cI .i8) 0 (Ar.rep 16 0)) ++ ((.nils :: []) : List AV))))) := by kernel_rfl
noncomputable def spec_Decimal_F : Nat → Int → Option ((List UInt8))
  | 0, _ => none
  | k0 + 1, a1 =>
   if (decide (a1 < 10)) = true then
    (rem .i64 a1 10).bind fun n9 =>
    some (toB [(IntKind.u8.wrap (IntKind.i64.wrap (48 + n9)))])
   else
    (quo .i64 a1 10).bind fun n14 =>
    (spec_Decimal_F k0 n14).bind fun r17 =>
    (rem .i64 a1 10).bind fun n18 =>
    (sadd r17 (toB [(IntKind.u8.wrap (IntKind.i64.wrap (48 + n18)))])).bind fun w20 =>
    some w20
def spec_Decimal_enc (r : (List UInt8)) : AV := .str r
theorem spec_Decimal_F_ok : ∀ (k0 : Nat) (a1 : Int) (r : (List UInt8)) (h : spec_Decimal_F k0 a1 = some r), Ev (fun k => CN k 161 [.int .i64 a1] []) (fun p => rRes p.2 p.1 = spec_Decimal_enc r)
  | 0, a1, r, h => by cases h
  | k0 + 1, a1, r, h => by
   rw [spec_Decimal_F] at h
   refine Ev.enter (F := fun k => f161 (CN k) k) (fun k => callN_eq rfl Try.func161 rfl rfl rfl (by decide +kernel) (f161_eq _ _)) (sq (Rg (kx (mvO rfl) (Rn (hN rfl hZ) fun e1 h3 => sN (sq (sq (Rg (kx (mvO h3) (kx (bLss rfl rfl) (Rn (hA h3 (hN rfl hZ)) fun e4 h6 h7 => sN ?_))))))))))
   clear h3
   rcases ite_some h with ⟨hb8, h⟩ | ⟨hb8, h⟩
   ·obtain ⟨n9, hx10, h⟩ := bind_some h
    refine cT h7 hb8 (sq (Rg (kx (mvO h6) (kx (bRem rfl rfl hx10) (kx (bAdd rfl rfl) (kx (cvI rfl) (kx (litI (cns rfl rfl) rfl ⟨rfl, by decide⟩) (kx (cvB (elT (c := (cI .u8)) (xs := [(IntKind.u8.wrap (IntKind.i64.wrap (48 + n9)))]) rfl)) (kx (mvO rfl) (Rn (hN rfl hZ) fun e11 h13 => sN (xx (sR ?_))))))))))))
    clear h6 h7
    obtain rfl := si h
    exact eR (resT h13 res0) rfl
   obtain ⟨n14, hx15, h⟩ := bind_some h
   obtain ⟨r17, hx16, h⟩ := bind_some h
   obtain ⟨n18, hx19, h⟩ := bind_some h
   obtain ⟨w20, hx21, h⟩ := bind_some h
   refine cF h7 hb8 (xx (sN (sq (Rd (kf (mvO h6) (kf (bQuo rfl rfl hx15) (fc (cl (v := .str r17) rfl rfl (cns rfl rfl) rfl (spec_Decimal_F_ok k0 n14 _ hx16) nm) (kf (mvO h6) (kf (bRem rfl rfl hx19) (kf (bAdd rfl rfl) (kf (cvI rfl) (kf (litI (cns rfl rfl) rfl ⟨rfl, by decide⟩) (kf (cvB (elT (c := (cI .u8)) (xs := [(IntKind.u8.wrap (IntKind.i64.wrap (48 + n18)))]) rfl)) (kf (sAdd rfl rfl hx21) (kf (mvO rfl) (fZ (Rn (hN rfl hZ) fun e22 h24 => sN (xx ?_))))))))))))))))))
   clear h6 h7
   obtain rfl := si h
   exact eR (resT h24 res0) rfl
noncomputable def spec_Decimal (a1 : Int) : Option ((List UInt8)) := spec_Decimal_F 64 a1
theorem spec_Decimal_ok (a1 : Int) (r : (List UInt8)) (h : spec_Decimal a1 = some r) : Ev (fun k => CN k 161 [.int .i64 a1] []) (fun p => rRes p.2 p.1 = spec_Decimal_enc r) := spec_Decimal_F_ok 64 a1 r h
noncomputable def spec_l01Letters : Option Unit :=
 some ()
def spec_l01Letters_enc (r : Unit) : AV := .str ([100, 115, 108, 118, 99, 109] : List UInt8)
theorem spec_l01Letters_ok (r : Unit) (h : spec_l01Letters = some r) : Ev (fun k => CN k 160 [] []) (fun p => rRes p.2 p.1 = spec_l01Letters_enc r) := by
 unfold spec_l01Letters at h
 refine Ev.enter (F := fun k => f160 (CN k) k) (fun k => callN_eq rfl Try.func160 rfl rfl rfl (by decide +kernel) (f160_eq _ _)) (sq (Rg (kx (mvO rfl) (Rn hZ fun e1 => sN (sq (Rg (kx (mvO rfl) (Rn (hN rfl hZ) fun e3 h5 => sN (xx ?_)))))))))
 obtain rfl := si h
 exact eR (resT h5 res0) rfl
abbrev spec_l06Number_b1_S := Int × Int
abbrev spec_l06Number_b1_R := Int
def spec_l06Number_b1_RS (a2 : Int) (s : spec_l06Number_b1_S) (e : Env) (M : Mem) : Prop := eget e 0 = .int .u32 s.1 ∧ eget e 1 = .int .u32 a2 ∧ eget e 5 = .int .i64 s.2
def spec_l06Number_b1_RR (a2 : Int) (g : spec_l06Number_b1_R) (x : Ex) (e : Env) (M : Mem) : Prop := x = .ext 0 ∧ eget e 0 = .int .u32 g
noncomputable def spec_l06Number_b1 (a2 : Int) : spec_l06Number_b1_S → Option (spec_l06Number_b1_S ⊕ spec_l06Number_b1_R) := fun (s1_1, s1_2) =>
 if (decide (s1_2 ≥ 0)) = true then
  (shr .u32 a2 (IntKind.u64.wrap s1_2)).bind fun n33 =>
  some (.inl ((IntKind.u32.wrap ((ixor .u32 s1_1 (iand .u32 n33 255)) * 16777619)), (IntKind.i64.wrap (s1_2 - 8))))
 else
  some (.inr s1_1)
theorem spec_l06Number_b1_ok (a2 : Int) (s : spec_l06Number_b1_S) (r : spec_l06Number_b1_S ⊕ spec_l06Number_b1_R) (h : spec_l06Number_b1 a2 s = some r) (e : Env) (M : Mem) (hs : spec_l06Number_b1_RS a2 s e M) : Ev (fun k => (f159_l2 (CN k) k (prune [0, 1, 5] e) M).bind fun q => some q) (bQ (spec_l06Number_b1_RS a2) (spec_l06Number_b1_RR a2) r) := by
 obtain ⟨s1_1, s1_2⟩ := s
 unfold spec_l06Number_b1 at h
 obtain ⟨h20, h22, h24⟩ := hs
 generalize he19 : prune [0, 1, 5] e = e18
 have h21 := envp he19.symm rfl h20
 have h23 := envp he19.symm rfl h22
 have h25 := envp he19.symm rfl h24
 refine sq (sq (Rg (kx (mvO h25) (kx (bGeq rfl rfl) (Rn (hV (.int .u32 s1_1) h21 (hV (.int .u32 a2) h23 (hV (.int .i64 s1_2) h25 (hN rfl hZ)))) fun e26 h28 h29 h30 h31 => sN ?_)))))
 clear h21 h23 h25
 rcases ite_some h with ⟨hb32, h⟩ | ⟨hb32, h⟩
 ·obtain ⟨n33, hx34, h⟩ := bind_some h
  refine cT h31 hb32 (xx (sN (sq (bl (Rg (kx (mvO h28) (kx (mvO h29) (kx (mvO h30) (kx (cvI rfl) (kx (bShr rfl rfl hx34) (kx (bAnd rfl rfl) (kx (bXor rfl rfl) (kx (bMul rfl rfl) (kx (mvO rfl) (Rn (hN rfl (hA h29 (hA h30 hZ))) fun e35 h37 h38 h39 => bN (sN (Rg (kx (mvO h39) (kx (bSub rfl rfl) (kx (mvO rfl) (Rn (hA h37 (hA h38 (hN rfl hZ))) fun e40 h42 h43 h44 => ?_)))))))))))))))))))))
  clear h29 h30 h31 h37 h38
  obtain rfl := si h
  exact qN ⟨h42, h43, h44⟩
 refine cF h31 hb32 (xx (sE ?_))
 obtain rfl := si h
 exact qE ⟨rfl, h28⟩
noncomputable def spec_l06Number (a1 : Int) (a2 : Int) : Option Int :=
 (Lw (spec_l06Number_b1 a2) (a1, 24)).bind fun y50 =>
 some y50
def spec_l06Number_enc (r : Int) : AV := .int .u32 r
theorem spec_l06Number_ok (a1 : Int) (a2 : Int) (r : Int) (h : spec_l06Number a1 a2 = some r) : Ev (fun k => CN k 159 [.int .u32 a1, .int .u32 a2] []) (fun p => rRes p.2 p.1 = spec_l06Number_enc r) := by
 unfold spec_l06Number at h
 obtain ⟨y50, hr46, h⟩ := bind_some h
 refine Ev.enter (F := fun k => f159 (CN k) k) (fun k => callN_eq rfl Try.func159 rfl rfl rfl (by decide +kernel) (f159_eq _ _)) (sq (Rg (kx (mvO rfl) (Rn (hN rfl (hN rfl hZ)) fun e1 h3 h4 => sN (sq (sq (Rg (kx (mvO rfl) (Rn (hA h3 (hA h4 (hV (.int .i64 24) rfl hZ))) fun e5 h7 h8 h9 => sN (bl (Ev.loop (RS := spec_l06Number_b1_RS a2) (RR := spec_l06Number_b1_RR a2) (fun s r h e M hs => spec_l06Number_b1_ok a2 s r h e M hs) hr46 ⟨h7, h8, h9⟩ fun x e48 M49 hq47 => ?_)))))))))))
 clear h3 h4
 obtain ⟨rfl, h51⟩ := hq47
 refine bE (sN (sq (Rg (kx (mvO h51) (kx (mvO rfl) (Rn (hN rfl hZ) fun e52 h54 => sN (xx ?_)))))))
 clear h51
 obtain rfl := si h
 exact eR (resT h54 res0) rfl
abbrev spec_l01Text_b1_S := (List UInt8) × Int
abbrev spec_l01Text_b1_R := (List UInt8)
def spec_l01Text_b1_RS (a1 : Half) (s : spec_l01Text_b1_S) (e : Env) (M : Mem) : Prop := eget e 0 = .pt none (.bool a1.Stock :: (.sl none (a1.Notches.map Notch.c) :: ((arC (cI .i8) 0 a1.Grain) ++ ([] : List AV)))) ∧ eget e 3 = .str s.1 ∧ eget e 4 = .int .i64 s.2
def spec_l01Text_b1_RR (a1 : Half) (g : spec_l01Text_b1_R) (x : Ex) (e : Env) (M : Mem) : Prop := x = .ext 0 ∧ eget e 0 = .pt none (.bool a1.Stock :: (.sl none (a1.Notches.map Notch.c) :: ((arC (cI .i8) 0 a1.Grain) ++ ([] : List AV)))) ∧ eget e 3 = .str g
noncomputable def spec_l01Text_b1 (a1 : Half) : spec_l01Text_b1_S → Option (spec_l01Text_b1_S ⊕ spec_l01Text_b1_R) := fun (s1_1, s1_2) =>
 if (decide (s1_2 < 16)) = true then
  (rdA a1.Grain s1_2).bind fun x46 =>
  (sadd s1_1 (toB [(IntKind.u8.wrap (IntKind.i64.wrap (100 + (IntKind.i64.wrap x46))))])).bind fun w48 =>
  some (.inl (w48, (IntKind.i64.wrap (s1_2 + 1))))
 else
  some (.inr s1_1)
theorem spec_l01Text_b1_ok (a1 : Half) (s : spec_l01Text_b1_S) (r : spec_l01Text_b1_S ⊕ spec_l01Text_b1_R) (h : spec_l01Text_b1 a1 s = some r) (e : Env) (M : Mem) (hs : spec_l01Text_b1_RS a1 s e M) : Ev (fun k => (f158_l5 (CN k) k (prune [0, 3, 4] e) M).bind fun q => some q) (bQ (spec_l01Text_b1_RS a1) (spec_l01Text_b1_RR a1) r) := by
 obtain ⟨s1_1, s1_2⟩ := s
 unfold spec_l01Text_b1 at h
 obtain ⟨h33, h35, h37⟩ := hs
 generalize he32 : prune [0, 3, 4] e = e31
 have h34 := envp he32.symm rfl h33
 have h36 := envp he32.symm rfl h35
 have h38 := envp he32.symm rfl h37
 refine sq (sq (Rg (kx (mvO h38) (kx (bLss rfl rfl) (Rn (hV (.pt none (.bool a1.Stock :: (.sl none (a1.Notches.map Notch.c) :: ((arC (cI .i8) 0 a1.Grain) ++ ([] : List AV))))) h34 (hV (.str s1_1) h36 (hV (.int .i64 s1_2) h38 (hN rfl hZ)))) fun e39 h41 h42 h43 h44 => sN ?_)))))
 clear h34 h36 h38
 rcases ite_some h with ⟨hb45, h⟩ | ⟨hb45, h⟩
 ·obtain ⟨x46, hx47, h⟩ := bind_some h
  obtain ⟨w48, hx49, h⟩ := bind_some h
  refine cT h44 hb45 (xx (sN (sq (bl (Rg (kx (mvO h42) (kx (mvO h41) (kx (mvO h43) (kx (ncP rfl) (kx (faP rfl ⟨ble rfl, blt rfl⟩ rfl) (kx (ixPA (c := (cI .i8)) (z := 0) (g := a1.Grain) rfl rfl hx47 (fun _ => rfl)) (kx (ldP rfl rfl) (kx (cvI rfl) (kx (bAdd rfl rfl) (kx (cvI rfl) (kx (litI (cns rfl rfl) rfl ⟨rfl, by decide⟩) (kx (cvB (elT (c := (cI .u8)) (xs := [(IntKind.u8.wrap (IntKind.i64.wrap (100 + (IntKind.i64.wrap x46))))]) rfl)) (kx (sAdd rfl rfl hx49) (kx (mvO rfl) (Rn (hA h41 (hN rfl (hA h43 hZ))) fun e50 h52 h53 h54 => bN (sN (Rg (kx (mvO h54) (kx (bAdd rfl rfl) (kx (mvO rfl) (Rn (hA h52 (hA h53 (hN rfl hZ))) fun e55 h57 h58 h59 => ?_))))))))))))))))))))))))))
  clear h41 h43 h44 h52 h53
  obtain rfl := si h
  exact qN ⟨h57, h58, h59⟩
 refine cF h44 hb45 (xx (sE ?_))
 obtain rfl := si h
 exact qE ⟨rfl, h41, h42⟩
abbrev spec_l01Text_b2_S := (List UInt8) × Int
abbrev spec_l01Text_b2_R := (List UInt8)
def spec_l01Text_b2_RS (a1 : Half) (s : spec_l01Text_b2_S) (e : Env) (M : Mem) : Prop := eget e 0 = .pt none (.bool a1.Stock :: (.sl none (a1.Notches.map Notch.c) :: ((arC (cI .i8) 0 a1.Grain) ++ ([] : List AV)))) ∧ eget e 3 = .str s.1 ∧ eget e 5 = .int .i64 s.2
def spec_l01Text_b2_RR (a1 : Half) (g : spec_l01Text_b2_R) (x : Ex) (e : Env) (M : Mem) : Prop := x = .ext 2 ∧ eget e 3 = .str g
noncomputable def spec_l01Text_b2 (a1 : Half) : spec_l01Text_b2_S → Option (spec_l01Text_b2_S ⊕ spec_l01Text_b2_R) := fun (s2_1, s2_2) =>
 if (decide (s2_2 < (a1.Notches.length : Int))) = true then
  (rd a1.Notches s2_2).bind fun x96 =>
  (spec_l01Letters).bind fun _ =>
  (slc ([100, 115, 108, 118, 99, 109] : List UInt8) x96.Kind (IntKind.i8.wrap (x96.Kind + 1))).bind fun x112 =>
  (sadd ([32] : List UInt8) x112).bind fun w114 =>
  (spec_Decimal (IntKind.i64.wrap x96.At)).bind fun r117 =>
  (sadd w114 r117).bind fun w118 =>
  (sadd s2_1 w118).bind fun w120 =>
  some (.inl (w120, (IntKind.i64.wrap (s2_2 + 1))))
 else
  some (.inr s2_1)
theorem spec_l01Text_b2_ok (a1 : Half) (s : spec_l01Text_b2_S) (r : spec_l01Text_b2_S ⊕ spec_l01Text_b2_R) (h : spec_l01Text_b2 a1 s = some r) (e : Env) (M : Mem) (hs : spec_l01Text_b2_RS a1 s e M) : Ev (fun k => (f158_l9 (CN k) k (prune [0, 3, 5] e) M).bind fun q => some q) (bQ (spec_l01Text_b2_RS a1) (spec_l01Text_b2_RR a1) r) := by
 obtain ⟨s2_1, s2_2⟩ := s
 unfold spec_l01Text_b2 at h
 obtain ⟨h83, h85, h87⟩ := hs
 generalize he82 : prune [0, 3, 5] e = e81
 have h84 := envp he82.symm rfl h83
 have h86 := envp he82.symm rfl h85
 have h88 := envp he82.symm rfl h87
 refine sq (sq (Rg (kx (mvO h88) (kx (mvO h84) (kx (ncP rfl) (kx (faP rfl ⟨ble rfl, blt rfl⟩ rfl) (kx (ldP rfl rfl) (kx (lnS Try.underlying66 rfl) (kx (bLss rfl rfl) (Rn (hV (.pt none (.bool a1.Stock :: (.sl none (a1.Notches.map Notch.c) :: ((arC (cI .i8) 0 a1.Grain) ++ ([] : List AV))))) h84 (hV (.str s2_1) h86 (hV (.int .i64 s2_2) h88 (hN rfl hZ)))) fun e89 h91 h92 h93 h94 => sN ?_))))))))))
 clear h84 h86 h88
 rcases ite_some h with ⟨hb95, h⟩ | ⟨hb95, h⟩
 ·obtain ⟨x96, hx97, h⟩ := bind_some h
  refine cT h94 hb95 (xx (sN (sq (bl (sq (Rg (kx (mvO h91) (kx (ncP rfl) (kx (faP rfl ⟨ble rfl, blt rfl⟩ rfl) (kx (ldP rfl rfl) (kx (mvO h93) (kx (ixS rfl rfl hx97 Notch.fl) (kx (ldPA rfl rfl rfl) (ku (alO zero170) fun M99 hM100 => ?_))))))))))))))
  have o101 : M99[M.length]? = some (.live ⟨.box, 170, 2, [[.int .i8 0, .int .i16 0]]⟩) := push_new hM100
  refine kw (stO rfl rfl o101 rfl rfl ⟨rfl, ble rfl⟩ rfl rfl) fun M102 hM103 => ?_
  have o104 : M102[M.length]? = some (.live ⟨.box, 170, 2, [[.int .i8 x96.Kind, .int .i16 x96.At]]⟩) := set_same hM103 o101
  obtain ⟨_, hx111, h⟩ := bind_some h
  obtain ⟨x112, hx113, h⟩ := bind_some h
  obtain ⟨w114, hx115, h⟩ := bind_some h
  obtain ⟨r117, hx116, h⟩ := bind_some h
  obtain ⟨w118, hx119, h⟩ := bind_some h
  obtain ⟨w120, hx121, h⟩ := bind_some h
  refine Rn (hA h91 (hA h92 (hA h93 (hV (.loc M.length 1 0 0) rfl hZ)))) fun e105 h107 h108 h109 h110 => sN (Rd (kf (mvO h108) (fc (cl (v := .str ([100, 115, 108, 118, 99, 109] : List UInt8)) rfl rfl rfl rfl (spec_l01Letters_ok  _ hx111) nm) (kf (faO h110 o104 rfl) (kf (ldO rfl o104 rfl rfl rfl) (kf (faO h110 o104 rfl) (kf (ldO rfl o104 rfl rfl rfl) (kf (bAdd rfl rfl) (kf (ssl2 rfl (bnd1 rfl) (bnd1 rfl) hx113) (kf (sAdd rfl rfl hx115) (kf (faO h110 o104 rfl) (kf (ldO rfl o104 rfl rfl rfl) (kf (cvI rfl) (fc (cl (v := .str r117) rfl rfl (cns rfl rfl) rfl (spec_Decimal_ok (IntKind.i64.wrap x96.At) _ hx116) nm) (kf (sAdd rfl rfl hx119) (kf (sAdd rfl rfl hx121) (kf (mvO rfl) (fZ (Rn (hA h107 (hN rfl (hA h109 hZ))) fun e122 h124 h125 h126 => bN (sN (Rg (kx (mvO h126) (kx (bAdd rfl rfl) (kx (mvO rfl) (Rn (hA h124 (hA h125 (hN rfl hZ))) fun e127 h129 h130 h131 => ?_)))))))))))))))))))))))))
  clear h91 h92 h93 h94 h107 h109 h110 h124 h125
  obtain rfl := si h
  exact qN ⟨h129, h130, h131⟩
 refine cF h94 hb95 (xx (sE ?_))
 obtain rfl := si h
 exact qE ⟨rfl, h92⟩
abbrev spec_l01Text_b3_S := (List UInt8) × Int
abbrev spec_l01Text_b3_R := (List UInt8)
def spec_l01Text_b3_RS (a1 : Half) (s : spec_l01Text_b3_S) (e : Env) (M : Mem) : Prop := eget e 0 = .pt none (.bool a1.Stock :: (.sl none (a1.Notches.map Notch.c) :: ((arC (cI .i8) 0 a1.Grain) ++ ([] : List AV)))) ∧ eget e 3 = .str s.1 ∧ eget e 4 = .int .i64 s.2
def spec_l01Text_b3_RR (a1 : Half) (g : spec_l01Text_b3_R) (x : Ex) (e : Env) (M : Mem) : Prop := x = .ext 0 ∧ eget e 0 = .pt none (.bool a1.Stock :: (.sl none (a1.Notches.map Notch.c) :: ((arC (cI .i8) 0 a1.Grain) ++ ([] : List AV)))) ∧ eget e 3 = .str g
noncomputable def spec_l01Text_b3 (a1 : Half) : spec_l01Text_b3_S → Option (spec_l01Text_b3_S ⊕ spec_l01Text_b3_R) := fun (s3_1, s3_2) =>
 if (decide (s3_2 < 16)) = true then
  (rdA a1.Grain s3_2).bind fun x170 =>
  (sadd s3_1 (toB [(IntKind.u8.wrap (IntKind.i64.wrap (100 + (IntKind.i64.wrap x170))))])).bind fun w172 =>
  some (.inl (w172, (IntKind.i64.wrap (s3_2 + 1))))
 else
  some (.inr s3_1)
theorem spec_l01Text_b3_ok (a1 : Half) (s : spec_l01Text_b3_S) (r : spec_l01Text_b3_S ⊕ spec_l01Text_b3_R) (h : spec_l01Text_b3 a1 s = some r) (e : Env) (M : Mem) (hs : spec_l01Text_b3_RS a1 s e M) : Ev (fun k => (f158_l5 (CN k) k (prune [0, 3, 4] e) M).bind fun q => some q) (bQ (spec_l01Text_b3_RS a1) (spec_l01Text_b3_RR a1) r) := by
 obtain ⟨s3_1, s3_2⟩ := s
 unfold spec_l01Text_b3 at h
 obtain ⟨h157, h159, h161⟩ := hs
 generalize he156 : prune [0, 3, 4] e = e155
 have h158 := envp he156.symm rfl h157
 have h160 := envp he156.symm rfl h159
 have h162 := envp he156.symm rfl h161
 refine sq (sq (Rg (kx (mvO h162) (kx (bLss rfl rfl) (Rn (hV (.pt none (.bool a1.Stock :: (.sl none (a1.Notches.map Notch.c) :: ((arC (cI .i8) 0 a1.Grain) ++ ([] : List AV))))) h158 (hV (.str s3_1) h160 (hV (.int .i64 s3_2) h162 (hN rfl hZ)))) fun e163 h165 h166 h167 h168 => sN ?_)))))
 clear h158 h160 h162
 rcases ite_some h with ⟨hb169, h⟩ | ⟨hb169, h⟩
 ·obtain ⟨x170, hx171, h⟩ := bind_some h
  obtain ⟨w172, hx173, h⟩ := bind_some h
  refine cT h168 hb169 (xx (sN (sq (bl (Rg (kx (mvO h166) (kx (mvO h165) (kx (mvO h167) (kx (ncP rfl) (kx (faP rfl ⟨ble rfl, blt rfl⟩ rfl) (kx (ixPA (c := (cI .i8)) (z := 0) (g := a1.Grain) rfl rfl hx171 (fun _ => rfl)) (kx (ldP rfl rfl) (kx (cvI rfl) (kx (bAdd rfl rfl) (kx (cvI rfl) (kx (litI (cns rfl rfl) rfl ⟨rfl, by decide⟩) (kx (cvB (elT (c := (cI .u8)) (xs := [(IntKind.u8.wrap (IntKind.i64.wrap (100 + (IntKind.i64.wrap x170))))]) rfl)) (kx (sAdd rfl rfl hx173) (kx (mvO rfl) (Rn (hA h165 (hN rfl (hA h167 hZ))) fun e174 h176 h177 h178 => bN (sN (Rg (kx (mvO h178) (kx (bAdd rfl rfl) (kx (mvO rfl) (Rn (hA h176 (hA h177 (hN rfl hZ))) fun e179 h181 h182 h183 => ?_))))))))))))))))))))))))))
  clear h165 h167 h168 h176 h177
  obtain rfl := si h
  exact qN ⟨h181, h182, h183⟩
 refine cF h168 hb169 (xx (sE ?_))
 obtain rfl := si h
 exact qE ⟨rfl, h165, h166⟩
abbrev spec_l01Text_b4_S := (List UInt8) × Int
abbrev spec_l01Text_b4_R := (List UInt8)
def spec_l01Text_b4_RS (a1 : Half) (s : spec_l01Text_b4_S) (e : Env) (M : Mem) : Prop := eget e 0 = .pt none (.bool a1.Stock :: (.sl none (a1.Notches.map Notch.c) :: ((arC (cI .i8) 0 a1.Grain) ++ ([] : List AV)))) ∧ eget e 3 = .str s.1 ∧ eget e 5 = .int .i64 s.2
def spec_l01Text_b4_RR (a1 : Half) (g : spec_l01Text_b4_R) (x : Ex) (e : Env) (M : Mem) : Prop := x = .ext 2 ∧ eget e 3 = .str g
noncomputable def spec_l01Text_b4 (a1 : Half) : spec_l01Text_b4_S → Option (spec_l01Text_b4_S ⊕ spec_l01Text_b4_R) := fun (s4_1, s4_2) =>
 if (decide (s4_2 < (a1.Notches.length : Int))) = true then
  (rd a1.Notches s4_2).bind fun x220 =>
  (spec_l01Letters).bind fun _ =>
  (slc ([100, 115, 108, 118, 99, 109] : List UInt8) x220.Kind (IntKind.i8.wrap (x220.Kind + 1))).bind fun x236 =>
  (sadd ([32] : List UInt8) x236).bind fun w238 =>
  (spec_Decimal (IntKind.i64.wrap x220.At)).bind fun r241 =>
  (sadd w238 r241).bind fun w242 =>
  (sadd s4_1 w242).bind fun w244 =>
  some (.inl (w244, (IntKind.i64.wrap (s4_2 + 1))))
 else
  some (.inr s4_1)
theorem spec_l01Text_b4_ok (a1 : Half) (s : spec_l01Text_b4_S) (r : spec_l01Text_b4_S ⊕ spec_l01Text_b4_R) (h : spec_l01Text_b4 a1 s = some r) (e : Env) (M : Mem) (hs : spec_l01Text_b4_RS a1 s e M) : Ev (fun k => (f158_l9 (CN k) k (prune [0, 3, 5] e) M).bind fun q => some q) (bQ (spec_l01Text_b4_RS a1) (spec_l01Text_b4_RR a1) r) := by
 obtain ⟨s4_1, s4_2⟩ := s
 unfold spec_l01Text_b4 at h
 obtain ⟨h207, h209, h211⟩ := hs
 generalize he206 : prune [0, 3, 5] e = e205
 have h208 := envp he206.symm rfl h207
 have h210 := envp he206.symm rfl h209
 have h212 := envp he206.symm rfl h211
 refine sq (sq (Rg (kx (mvO h212) (kx (mvO h208) (kx (ncP rfl) (kx (faP rfl ⟨ble rfl, blt rfl⟩ rfl) (kx (ldP rfl rfl) (kx (lnS Try.underlying66 rfl) (kx (bLss rfl rfl) (Rn (hV (.pt none (.bool a1.Stock :: (.sl none (a1.Notches.map Notch.c) :: ((arC (cI .i8) 0 a1.Grain) ++ ([] : List AV))))) h208 (hV (.str s4_1) h210 (hV (.int .i64 s4_2) h212 (hN rfl hZ)))) fun e213 h215 h216 h217 h218 => sN ?_))))))))))
 clear h208 h210 h212
 rcases ite_some h with ⟨hb219, h⟩ | ⟨hb219, h⟩
 ·obtain ⟨x220, hx221, h⟩ := bind_some h
  refine cT h218 hb219 (xx (sN (sq (bl (sq (Rg (kx (mvO h215) (kx (ncP rfl) (kx (faP rfl ⟨ble rfl, blt rfl⟩ rfl) (kx (ldP rfl rfl) (kx (mvO h217) (kx (ixS rfl rfl hx221 Notch.fl) (kx (ldPA rfl rfl rfl) (ku (alO zero170) fun M223 hM224 => ?_))))))))))))))
  have o225 : M223[M.length]? = some (.live ⟨.box, 170, 2, [[.int .i8 0, .int .i16 0]]⟩) := push_new hM224
  refine kw (stO rfl rfl o225 rfl rfl ⟨rfl, ble rfl⟩ rfl rfl) fun M226 hM227 => ?_
  have o228 : M226[M.length]? = some (.live ⟨.box, 170, 2, [[.int .i8 x220.Kind, .int .i16 x220.At]]⟩) := set_same hM227 o225
  obtain ⟨_, hx235, h⟩ := bind_some h
  obtain ⟨x236, hx237, h⟩ := bind_some h
  obtain ⟨w238, hx239, h⟩ := bind_some h
  obtain ⟨r241, hx240, h⟩ := bind_some h
  obtain ⟨w242, hx243, h⟩ := bind_some h
  obtain ⟨w244, hx245, h⟩ := bind_some h
  refine Rn (hA h215 (hA h216 (hA h217 (hV (.loc M.length 1 0 0) rfl hZ)))) fun e229 h231 h232 h233 h234 => sN (Rd (kf (mvO h232) (fc (cl (v := .str ([100, 115, 108, 118, 99, 109] : List UInt8)) rfl rfl rfl rfl (spec_l01Letters_ok  _ hx235) nm) (kf (faO h234 o228 rfl) (kf (ldO rfl o228 rfl rfl rfl) (kf (faO h234 o228 rfl) (kf (ldO rfl o228 rfl rfl rfl) (kf (bAdd rfl rfl) (kf (ssl2 rfl (bnd1 rfl) (bnd1 rfl) hx237) (kf (sAdd rfl rfl hx239) (kf (faO h234 o228 rfl) (kf (ldO rfl o228 rfl rfl rfl) (kf (cvI rfl) (fc (cl (v := .str r241) rfl rfl (cns rfl rfl) rfl (spec_Decimal_ok (IntKind.i64.wrap x220.At) _ hx240) nm) (kf (sAdd rfl rfl hx243) (kf (sAdd rfl rfl hx245) (kf (mvO rfl) (fZ (Rn (hA h231 (hN rfl (hA h233 hZ))) fun e246 h248 h249 h250 => bN (sN (Rg (kx (mvO h250) (kx (bAdd rfl rfl) (kx (mvO rfl) (Rn (hA h248 (hA h249 (hN rfl hZ))) fun e251 h253 h254 h255 => ?_)))))))))))))))))))))))))
  clear h215 h216 h217 h218 h231 h233 h234 h248 h249
  obtain rfl := si h
  exact qN ⟨h253, h254, h255⟩
 refine cF h218 hb219 (xx (sE ?_))
 obtain rfl := si h
 exact qE ⟨rfl, h216⟩
noncomputable def spec_l01Text (a1 : Half) : Option ((List UInt8)) :=
 if a1.Stock = true then
  (Lw (spec_l01Text_b1 a1) (([115, 116, 111, 99, 107, 32] : List UInt8), 0)).bind fun y65 =>
  (Lw (spec_l01Text_b2 a1) (y65, 0)).bind fun y137 =>
  some y137
 else
  (Lw (spec_l01Text_b3 a1) (([102, 111, 105, 108, 32] : List UInt8), 0)).bind fun y189 =>
  (Lw (spec_l01Text_b4 a1) (y189, 0)).bind fun y261 =>
  some y261
def spec_l01Text_enc (r : (List UInt8)) : AV := .str r
theorem spec_l01Text_ok (a1 : Half) (r : (List UInt8)) (h : spec_l01Text a1 = some r) : Ev (fun k => CN k 158 [.pt none (.bool a1.Stock :: (.sl none (a1.Notches.map Notch.c) :: ((arC (cI .i8) 0 a1.Grain) ++ ([] : List AV))))] []) (fun p => rRes p.2 p.1 = spec_l01Text_enc r) := by
 unfold spec_l01Text at h
 refine Ev.enter (F := fun k => f158 (CN k) k) (fun k => callN_eq rfl Try.func158 rfl rfl rfl (by decide +kernel) (f158_eq _ _)) (sq (Rg (kx (mvO rfl) (Rn (hN rfl hZ) fun e1 h3 => sN (sq (Rg (kx (mvO rfl) (Rn (hA h3 (hN rfl hZ)) fun e4 h6 h7 => sN (sq (sq (Rg (kx (mvO h6) (kx (ncP rfl) (kx (faP rfl ⟨ble rfl, blt rfl⟩ rfl) (kx (ldP rfl rfl) (Rn (hA h6 (hA h7 (hN rfl hZ))) fun e8 h10 h11 h12 => sN ?_))))))))))))))))
 clear h3 h6 h7
 rcases ite_some h with ⟨hb13, h⟩ | ⟨hb13, h⟩
 ·obtain ⟨y65, hr61, h⟩ := bind_some h
  refine cT h12 hb13 (Rg (kx (mvO rfl) (Rn (hA h10 (hN rfl hZ)) fun e14 h16 h17 => sN (sq (sq (Rg (kx (mvO rfl) (Rn (hA h16 (hA h17 (hV (.int .i64 0) rfl hZ))) fun e18 h20 h21 h22 => sN (bl (Ev.loop (RS := spec_l01Text_b1_RS a1) (RR := spec_l01Text_b1_RR a1) (fun s r h e M hs => spec_l01Text_b1_ok a1 s r h e M hs) hr61 ⟨h20, h21, h22⟩ fun x e63 M64 hq62 => ?_))))))))))
  clear h10 h12 h16 h17
  obtain ⟨rfl, h66, h67⟩ := hq62
  obtain ⟨y137, hr133, h⟩ := bind_some h
  refine bE (sN (sq (sq (Rg (kx (mvO rfl) (Rn (hV (.pt none (.bool a1.Stock :: (.sl none (a1.Notches.map Notch.c) :: ((arC (cI .i8) 0 a1.Grain) ++ ([] : List AV))))) h66 (hV (.str y65) h67 (hV (.int .i64 0) rfl hZ))) fun e68 h70 h71 h72 => sN (bl (Ev.loop (RS := spec_l01Text_b2_RS a1) (RR := spec_l01Text_b2_RR a1) (fun s r h e M hs => spec_l01Text_b2_ok a1 s r h e M hs) hr133 ⟨h70, h71, h72⟩ fun x e135 M136 hq134 => ?_))))))))
  clear h66 h67
  obtain ⟨rfl, h138⟩ := hq134
  refine bE (sN (sq (Rg (kx (mvO h138) (kx (mvO rfl) (Rn (hN rfl hZ) fun e139 h141 => sN (xx ?_)))))))
  clear h138
  obtain rfl := si h
  exact eR (resT h141 res0) rfl
 obtain ⟨y189, hr185, h⟩ := bind_some h
 refine cF h12 hb13 (xx (sN (sq (sq (Rg (kx (mvO rfl) (Rn (hA h10 (hA h11 (hV (.int .i64 0) rfl hZ))) fun e142 h144 h145 h146 => sN (bl (Ev.loop (RS := spec_l01Text_b3_RS a1) (RR := spec_l01Text_b3_RR a1) (fun s r h e M hs => spec_l01Text_b3_ok a1 s r h e M hs) hr185 ⟨h144, h145, h146⟩ fun x e187 M188 hq186 => ?_)))))))))
 clear h10 h11 h12
 obtain ⟨rfl, h190, h191⟩ := hq186
 obtain ⟨y261, hr257, h⟩ := bind_some h
 refine bE (sN (sq (sq (Rg (kx (mvO rfl) (Rn (hV (.pt none (.bool a1.Stock :: (.sl none (a1.Notches.map Notch.c) :: ((arC (cI .i8) 0 a1.Grain) ++ ([] : List AV))))) h190 (hV (.str y189) h191 (hV (.int .i64 0) rfl hZ))) fun e192 h194 h195 h196 => sN (bl (Ev.loop (RS := spec_l01Text_b4_RS a1) (RR := spec_l01Text_b4_RR a1) (fun s r h e M hs => spec_l01Text_b4_ok a1 s r h e M hs) hr257 ⟨h194, h195, h196⟩ fun x e259 M260 hq258 => ?_))))))))
 clear h190 h191
 obtain ⟨rfl, h262⟩ := hq258
 refine bE (sN (sq (Rg (kx (mvO h262) (kx (mvO rfl) (Rn (hN rfl hZ) fun e263 h265 => sN (xx ?_)))))))
 clear h262
 obtain rfl := si h
 exact eR (resT h265 res0) rfl
abbrev spec_l06Text_b1_S := Int × Int
abbrev spec_l06Text_b1_R := Int
def spec_l06Text_b1_RS (a2 : List UInt8) (s : spec_l06Text_b1_S) (e : Env) (M : Mem) : Prop := eget e 0 = .int .u32 s.1 ∧ eget e 1 = .str a2 ∧ eget e 5 = .int .i64 s.2
def spec_l06Text_b1_RR (a2 : List UInt8) (g : spec_l06Text_b1_R) (x : Ex) (e : Env) (M : Mem) : Prop := x = .ext 0 ∧ eget e 0 = .int .u32 g
noncomputable def spec_l06Text_b1 (a2 : List UInt8) : spec_l06Text_b1_S → Option (spec_l06Text_b1_S ⊕ spec_l06Text_b1_R) := fun (s1_1, s1_2) =>
 if (decide (s1_2 < (a2.length : Int))) = true then
  (rd a2 s1_2).bind fun x33 =>
  some (.inl ((IntKind.u32.wrap ((ixor .u32 s1_1 (IntKind.u32.wrap (x33.toNat : Int))) * 16777619)), (IntKind.i64.wrap (s1_2 + 1))))
 else
  some (.inr s1_1)
theorem spec_l06Text_b1_ok (a2 : List UInt8) (s : spec_l06Text_b1_S) (r : spec_l06Text_b1_S ⊕ spec_l06Text_b1_R) (h : spec_l06Text_b1 a2 s = some r) (e : Env) (M : Mem) (hs : spec_l06Text_b1_RS a2 s e M) : Ev (fun k => (f157_l2 (CN k) k (prune [0, 1, 5] e) M).bind fun q => some q) (bQ (spec_l06Text_b1_RS a2) (spec_l06Text_b1_RR a2) r) := by
 obtain ⟨s1_1, s1_2⟩ := s
 unfold spec_l06Text_b1 at h
 obtain ⟨h20, h22, h24⟩ := hs
 generalize he19 : prune [0, 1, 5] e = e18
 have h21 := envp he19.symm rfl h20
 have h23 := envp he19.symm rfl h22
 have h25 := envp he19.symm rfl h24
 refine sq (sq (Rg (kx (mvO h25) (kx (mvO h23) (kx (lnB Try.underlying9 rfl) (kx (bLss rfl rfl) (Rn (hV (.int .u32 s1_1) h21 (hV (.str a2) h23 (hV (.int .i64 s1_2) h25 (hN rfl hZ)))) fun e26 h28 h29 h30 h31 => sN ?_)))))))
 clear h21 h23 h25
 rcases ite_some h with ⟨hb32, h⟩ | ⟨hb32, h⟩
 ·obtain ⟨x33, hx34, h⟩ := bind_some h
  refine cT h31 hb32 (xx (sN (sq (bl (Rg (kx (mvO h28) (kx (mvO h29) (kx (mvO h30) (kx (ixB rfl rfl hx34) (kx (cvI rfl) (kx (bXor rfl rfl) (kx (bMul rfl rfl) (kx (mvO rfl) (Rn (hN rfl (hA h29 (hA h30 hZ))) fun e35 h37 h38 h39 => bN (sN (Rg (kx (mvO h39) (kx (bAdd rfl rfl) (kx (mvO rfl) (Rn (hA h37 (hA h38 (hN rfl hZ))) fun e40 h42 h43 h44 => ?_))))))))))))))))))))
  clear h29 h30 h31 h37 h38
  obtain rfl := si h
  exact qN ⟨h42, h43, h44⟩
 refine cF h31 hb32 (xx (sE ?_))
 obtain rfl := si h
 exact qE ⟨rfl, h28⟩
noncomputable def spec_l06Text (a1 : Int) (a2 : List UInt8) : Option Int :=
 (Lw (spec_l06Text_b1 a2) (a1, 0)).bind fun y50 =>
 some y50
def spec_l06Text_enc (r : Int) : AV := .int .u32 r
theorem spec_l06Text_ok (a1 : Int) (a2 : List UInt8) (r : Int) (h : spec_l06Text a1 a2 = some r) : Ev (fun k => CN k 157 [.int .u32 a1, .str a2] []) (fun p => rRes p.2 p.1 = spec_l06Text_enc r) := by
 unfold spec_l06Text at h
 obtain ⟨y50, hr46, h⟩ := bind_some h
 refine Ev.enter (F := fun k => f157 (CN k) k) (fun k => callN_eq rfl Try.func157 rfl rfl rfl (by decide +kernel) (f157_eq _ _)) (sq (Rg (kx (mvO rfl) (Rn (hN rfl (hN rfl hZ)) fun e1 h3 h4 => sN (sq (sq (Rg (kx (mvO rfl) (Rn (hA h3 (hA h4 (hV (.int .i64 0) rfl hZ))) fun e5 h7 h8 h9 => sN (bl (Ev.loop (RS := spec_l06Text_b1_RS a2) (RR := spec_l06Text_b1_RR a2) (fun s r h e M hs => spec_l06Text_b1_ok a2 s r h e M hs) hr46 ⟨h7, h8, h9⟩ fun x e48 M49 hq47 => ?_)))))))))))
 clear h3 h4
 obtain ⟨rfl, h51⟩ := hq47
 refine bE (sN (sq (Rg (kx (mvO h51) (kx (mvO rfl) (Rn (hN rfl hZ) fun e52 h54 => sN (xx ?_)))))))
 clear h51
 obtain rfl := si h
 exact eR (resT h54 res0) rfl
abbrev impl_worn_b1_S := Int × (List Int)
abbrev impl_worn_b1_R := (List Int)
def impl_worn_b1_RS (a1 : Ar 16 Int) (a2 : Ar 16 Int) (i1_1 : Nat) (s : impl_worn_b1_S) (e : Env) (M : Mem) : Prop := eget e 2 = .pt none (arC (cI .i8) 0 a1) ∧ eget e 3 = .pt none (arC (cI .i8) 0 a2) ∧ eget e 5 = .lsl i1_1 s.2.length 0 s.2.length ∧ eget e 8 = .int .i64 s.1 ∧ M[i1_1]? = some (.live ⟨.grow, 2, 1, s.2.map (cI .i64)⟩)
def impl_worn_b1_RR (a1 : Ar 16 Int) (a2 : Ar 16 Int) (i1_1 : Nat) (g : impl_worn_b1_R) (x : Ex) (e : Env) (M : Mem) : Prop := x = .ext 0 ∧ eget e 5 = .lsl i1_1 g.length 0 g.length ∧ M[i1_1]? = some (.live ⟨.grow, 2, 1, g.map (cI .i64)⟩)
noncomputable def impl_worn_b1 (a1 : Ar 16 Int) (a2 : Ar 16 Int) : impl_worn_b1_S → Option (impl_worn_b1_S ⊕ impl_worn_b1_R) := fun (s1_1, s1_2) =>
 if (decide (s1_1 < 16)) = true then
  (rdA a1 s1_1).bind fun x57 =>
  (rdA a2 s1_1).bind fun x59 =>
  if ((IntKind.i8.wrap (x57 + x59)) != 0) = true then
   (app 8 s1_2 [s1_1]).bind fun x70 =>
   some (.inl ((IntKind.i64.wrap (s1_1 + 1)), x70))
  else
   some (.inl ((IntKind.i64.wrap (s1_1 + 1)), s1_2))
 else
  some (.inr s1_2)
theorem impl_worn_b1_ok (a1 : Ar 16 Int) (a2 : Ar 16 Int) (i1_1 : Nat) (s : impl_worn_b1_S) (r : impl_worn_b1_S ⊕ impl_worn_b1_R) (h : impl_worn_b1 a1 a2 s = some r) (e : Env) (M : Mem) (hs : impl_worn_b1_RS a1 a2 i1_1 s e M) : Ev (fun k => (f156_l3 (CN k) k (prune [2, 3, 5, 8] e) M).bind fun q => some q) (bQ (impl_worn_b1_RS a1 a2 i1_1) (impl_worn_b1_RR a1 a2 i1_1) r) := by
 obtain ⟨s1_1, s1_2⟩ := s
 unfold impl_worn_b1 at h
 obtain ⟨h33, h35, h37, h39, o41⟩ := hs
 generalize he32 : prune [2, 3, 5, 8] e = e31
 have h34 := envp he32.symm rfl h33
 have h36 := envp he32.symm rfl h35
 have h38 := envp he32.symm rfl h37
 have h40 := envp he32.symm rfl h39
 refine sq (Rg (kx (bLss h40 rfl) (Rn (hV (.pt none (arC (cI .i8) 0 a1)) h34 (hV (.pt none (arC (cI .i8) 0 a2)) h36 (hV (.lsl i1_1 s1_2.length 0 s1_2.length) h38 (hV (.int .i64 s1_1) h40 (hN rfl hZ))))) fun e42 h44 h45 h46 h47 h48 => sN (sq ?_))))
 clear h34 h36 h38 h40
 rcases ite_some h with ⟨hb49, h⟩ | ⟨hb49, h⟩
 ·obtain ⟨x57, hx58, h⟩ := bind_some h
  obtain ⟨x59, hx60, h⟩ := bind_some h
  refine cT h48 hb49 (xx (sN (sq (bl (sq (Rg (kx (mvO h47) (kx (mvO rfl) (Rn (hA h44 (hA h45 (hA h46 (hN rfl (hA h47 hZ))))) fun e50 h52 h53 h54 h55 h56 => sN (sq (Rd (kf (mvO h55) (kf (ixPA (c := (cI .i8)) (z := 0) (g := a1) h52 rfl hx58 (fun _ => rfl)) (kf (ldP rfl rfl) (kf (mvO h55) (kf (ixPA (c := (cI .i8)) (z := 0) (g := a2) h53 rfl hx60 (fun _ => rfl)) (kf (ldP rfl rfl) (kf (bAdd rfl rfl) (kf (bNeq rfl rfl) (fZ (Rn (hA h52 (hA h53 (hA h54 (hA h55 (hA h56 (hN rfl hZ)))))) fun e61 h63 h64 h65 h66 h67 h68 => sN ?_)))))))))))))))))))))
  clear h44 h45 h46 h47 h48 h52 h53 h54 h55 h56
  rcases ite_some h with ⟨hb69, h⟩ | ⟨hb69, h⟩
  ·obtain ⟨x70, hx71, h⟩ := bind_some h
   refine cT h68 hb69 (Rg (kx (mvO h65) (kx (mvO h66) (kx (litI (cns rfl rfl) rfl ⟨rfl, by decide⟩) (kw (apO rfl o41 rfl (elT (c := (cI .i64)) (xs := [s1_1]) rfl) hx71 (cI_fl _) (by decide)) fun M72 hM73 => ?_)))))
   have o74 : M72[i1_1]? = some (.live ⟨.grow, 2, 1, x70.map (cI .i64)⟩) := set_same hM73 o41
   refine kx (mvO rfl) (Rn (hA h63 (hA h64 (hV (.lsl i1_1 x70.length 0 x70.length) rfl (hA h67 hZ)))) fun e75 h77 h78 h79 h80 => bN (sN (Rg (kx (bAdd h80 rfl) (kx (mvO rfl) (Rn (hA h77 (hA h78 (hA h79 (hN rfl hZ)))) fun e81 h83 h84 h85 h86 => ?_))))))
   clear h63 h64 h66 h67 h68 h77 h78 h79
   obtain rfl := si h
   exact qN ⟨h83, h84, h85, h86, o74⟩
  refine cF h68 hb69 (xx (bN (sN (Rg (kx (bAdd h67 rfl) (kx (mvO rfl) (Rn (hA h63 (hA h64 (hA h65 (hN rfl hZ)))) fun e87 h89 h90 h91 h92 => ?_)))))))
  clear h63 h64 h65 h66 h68
  obtain rfl := si h
  exact qN ⟨h89, h90, h91, h92, o41⟩
 refine cF h48 hb49 (xx (sE ?_))
 obtain rfl := si h
 exact qE ⟨rfl, h46, o41⟩
noncomputable def impl_worn (a1 : Ar 16 Int) (a2 : Ar 16 Int) : Option ((List Int)) :=
 (Lw (impl_worn_b1 a1 a2) (0, ([] : List Int))).bind fun y98 =>
 some y98
def impl_worn_enc (r : (List Int)) : AV := .sl none (r.map (cI .i64))
theorem impl_worn_ok (a1 : Ar 16 Int) (a2 : Ar 16 Int) (r : (List Int)) (h : impl_worn a1 a2 = some r) : Ev (fun k => CN k 156 [.agg (arC (cI .i8) 0 a1), .agg (arC (cI .i8) 0 a2)] []) (fun p => wkR (rRes p.2 p.1) = impl_worn_enc r ∧ ownAll (rRes p.2 p.1) = true) := by
 unfold impl_worn at h
 refine Ev.enter (F := fun k => f156 (CN k) k) (fun k => callN_eq rfl Try.func156 rfl rfl rfl (by decide +kernel) (f156_eq _ _)) (sq (Rg (kx (bxI rfl rfl ⟨rfl, rfl, by decide⟩) (kx (bxI rfl rfl ⟨rfl, rfl, by decide⟩) (kx (mvO rfl) (Rn (hN rfl (hN rfl hZ)) fun e1 h3 h4 => sN (sq (Rg (ku (litO (xs := ([] : List Int)) (c := (cI .i64)) rfl rfl (by decide)) fun M6 hM7 => ?_)))))))))
 have o8 : M6[([] : Mem).length]? = some (.live ⟨.grow, 2, 1, ([] : List Int).map (cI .i64)⟩) := push_new hM7
 obtain ⟨y98, hr94, h⟩ := bind_some h
 refine kx (mvO rfl) (Rn (hA h3 (hA h4 (hV (.lsl ([] : Mem).length ([] : List Int).length 0 ([] : List Int).length) rfl hZ))) fun e9 h11 h12 h13 => sN (sq (sq (Rg (kx (mvO rfl) (Rn (hA h11 (hA h12 (hA h13 (hV (.int .i64 0) rfl hZ)))) fun e14 h16 h17 h18 h19 => sN (bl (Ev.loop (RS := impl_worn_b1_RS a1 a2 (([] : Mem).length)) (RR := impl_worn_b1_RR a1 a2 (([] : Mem).length)) (fun s r h e M hs => impl_worn_b1_ok a1 a2 (([] : Mem).length) s r h e M hs) hr94 ⟨h16, h17, h18, h19, o8⟩ fun x e96 M97 hq95 => ?_))))))))
 clear h3 h4 h11 h12 h13
 obtain ⟨rfl, h99, o100⟩ := hq95
 refine bE (sN (sq (Rg (kx (mvO h99) (kx (mvO rfl) (Rn (hV (.lsl ([] : Mem).length y98.length 0 y98.length) rfl hZ) fun e101 h103 => sN (xx ?_)))))))
 clear h99
 obtain rfl := si h
 exact eR (resT h103 res0) (wkO (y := .sl (some 2) (y98.map (cI .i64))) (rr_row o100 rfl (cI_fl _)) rfl (ownA_row (c := (cI .i64)) (fun _ => rfl)))
noncomputable def spec_l01Worths : Option ((List Int)) :=
 some [1, 12, 240, 4800, 24000, 240000]
def spec_l01Worths_enc (r : (List Int)) : AV := .sl none (r.map (cI .i64))
theorem spec_l01Worths_ok (r : (List Int)) (h : spec_l01Worths = some r) : Ev (fun k => CN k 124 [] []) (fun p => wkR (rRes p.2 p.1) = spec_l01Worths_enc r ∧ ownAll (rRes p.2 p.1) = true) := by
 unfold spec_l01Worths at h
 refine Ev.enter (F := fun k => f124 (CN k) k) (fun k => callN_eq rfl Try.func124 rfl rfl rfl (by decide +kernel) (f124_eq _ _)) (sq (Rg (kx (mvO rfl) (Rn hZ fun e1 => sN (sq (Rg (kx (litI (cns rfl (cns rfl (cns rfl (cns rfl (cns rfl (cns rfl rfl)))))) rfl ⟨rfl, by decide⟩) (kx (mvO rfl) (Rn (hN rfl hZ) fun e3 h5 => sN (xx ?_))))))))))
 obtain rfl := si h
 exact eR (resT h5 res0) (wkO (y := .sl (some 2) ([1, 12, 240, 4800, 24000, 240000].map (cI .i64))) rfl rfl (ownA_row (c := (cI .i64)) (fun _ => rfl)))
noncomputable def spec_l01Widths : Option ((List Int)) :=
 some [1, 2, 4, 6, 9, 12]
def spec_l01Widths_enc (r : (List Int)) : AV := .sl none (r.map (cI .i64))
theorem spec_l01Widths_ok (r : (List Int)) (h : spec_l01Widths = some r) : Ev (fun k => CN k 147 [] []) (fun p => wkR (rRes p.2 p.1) = spec_l01Widths_enc r ∧ ownAll (rRes p.2 p.1) = true) := by
 unfold spec_l01Widths at h
 refine Ev.enter (F := fun k => f147 (CN k) k) (fun k => callN_eq rfl Try.func147 rfl rfl rfl (by decide +kernel) (f147_eq _ _)) (sq (Rg (kx (mvO rfl) (Rn hZ fun e1 => sN (sq (Rg (kx (litI (cns rfl (cns rfl (cns rfl (cns rfl (cns rfl (cns rfl rfl)))))) rfl ⟨rfl, by decide⟩) (kx (mvO rfl) (Rn (hN rfl hZ) fun e3 h5 => sN (xx ?_))))))))))
 obtain rfl := si h
 exact eR (resT h5 res0) (wkO (y := .sl (some 2) ([1, 2, 4, 6, 9, 12].map (cI .i64))) rfl rfl (ownA_row (c := (cI .i64)) (fun _ => rfl)))
noncomputable def spec_l00In (a1 : Int) (a2 : Int) (a3 : Int) : Option Bool :=
 if (decide (a1 ≥ a2)) = true then
  some (decide (a1 ≤ a3))
 else
  some false
def spec_l00In_enc (r : Bool) : AV := .bool r
theorem spec_l00In_ok (a1 : Int) (a2 : Int) (a3 : Int) (r : Bool) (h : spec_l00In a1 a2 a3 = some r) : Ev (fun k => CN k 90 [.int .i64 a1, .int .i64 a2, .int .i64 a3] []) (fun p => rRes p.2 p.1 = spec_l00In_enc r) := by
 unfold spec_l00In at h
 refine Ev.enter (F := fun k => f90 (CN k) k) (fun k => callN_eq rfl Try.func90 rfl rfl rfl (by decide +kernel) (f90_eq _ _)) (sq (Rg (kx (mvO rfl) (Rn (hN rfl (hN rfl (hN rfl hZ))) fun e1 h3 h4 h5 => sN (sq (Rg (kx (mvO h3) (kx (mvO h4) (kx (bGeq rfl rfl) (kx (mvO rfl) ?_))))))))))
 rcases ite_some h with ⟨hb6, h⟩ | ⟨hb6, h⟩
 ·refine kx (guT rfl hb6 (mvO h3)) (kx (guT rfl hb6 (mvO h5)) (kx (guT rfl hb6 (bLeq rfl rfl)) (kx (pkT rfl hb6 rfl) (kx (mvO rfl) (Rn (hN rfl hZ) fun e7 h9 => sN (xx ?_))))))
  clear h3 h4 h5
  obtain rfl := si h
  exact eR (resT h9 res0) rfl
 refine kx (gsT rfl hb6) (kx (gsT rfl hb6) (kx (gsT rfl hb6) (kx (pkF rfl hb6 rfl) (kx (mvO rfl) (Rn (hV (.bool false) rfl hZ) fun e10 h12 => sN (xx ?_))))))
 clear h3 h4 h5
 obtain rfl := si h
 exact eR (resT h12 res0) rfl
noncomputable def spec_l01Kind (a1 : Int) : Option Bool :=
 (spec_l00In a1 0 5).bind fun r5 =>
 some r5
def spec_l01Kind_enc (r : Bool) : AV := .bool r
theorem spec_l01Kind_ok (a1 : Int) (r : Bool) (h : spec_l01Kind a1 = some r) : Ev (fun k => CN k 151 [.int .i64 a1] []) (fun p => rRes p.2 p.1 = spec_l01Kind_enc r) := by
 unfold spec_l01Kind at h
 obtain ⟨r5, hx4, h⟩ := bind_some h
 refine Ev.enter (F := fun k => f151 (CN k) k) (fun k => callN_eq rfl Try.func151 rfl rfl rfl (by decide +kernel) (f151_eq _ _)) (sq (Rg (kx (mvO rfl) (Rn (hN rfl hZ) fun e1 h3 => sN (sq (Rg (kx (mvO h3) (kc (cl (v := .bool r5) rfl rfl (cns rfl (cns rfl (cns rfl rfl))) rfl (spec_l00In_ok a1 0 5 _ hx4) nm) (kx (mvO rfl) (Rn (hN rfl hZ) fun e6 h8 => sN (xx ?_)))))))))))
 clear h3
 obtain rfl := si h
 exact eR (resT h8 res0) rfl
noncomputable def spec_l01Ends (a1 : Notch) : Option Int :=
 (spec_l01Widths).bind fun r5 =>
 (rd r5 a1.Kind).bind fun x6 =>
 some (IntKind.i64.wrap ((IntKind.i64.wrap a1.At) + x6))
def spec_l01Ends_enc (r : Int) : AV := .int .i64 r
theorem spec_l01Ends_ok (a1 : Notch) (r : Int) (h : spec_l01Ends a1 = some r) : Ev (fun k => CN k 152 [.agg [.int .i8 a1.Kind, .int .i16 a1.At]] []) (fun p => rRes p.2 p.1 = spec_l01Ends_enc r) := by
 unfold spec_l01Ends at h
 obtain ⟨r5, hx4, h⟩ := bind_some h
 obtain ⟨x6, hx7, h⟩ := bind_some h
 refine Ev.enter (F := fun k => f152 (CN k) k) (fun k => callN_eq rfl Try.func152 rfl rfl rfl (by decide +kernel) (f152_eq _ _)) (sq (Rg (kx (bxI rfl rfl ⟨rfl, rfl, by decide⟩) (kx (mvO rfl) (Rn (hN rfl hZ) fun e1 h3 => sN (sq (Rd (kf (faP h3 ⟨ble rfl, blt rfl⟩ rfl) (kf (ldP rfl rfl) (kf (cvI rfl) (fc (clO (v := .sl none (r5.map (cI .i64))) rfl rfl rfl rfl (spec_l01Widths_ok  _ hx4)) (kf (faP h3 ⟨ble rfl, blt rfl⟩ rfl) (kf (ldP rfl rfl) (kf (ixS rfl rfl hx7 (cI_fl _)) (kf (ldP rfl rfl) (kf (bAdd rfl rfl) (kf (mvO rfl) (fZ (Rn (hN rfl hZ) fun e8 h10 => sN (xx ?_))))))))))))))))))))
 clear h3
 obtain rfl := si h
 exact eR (resT h10 res0) rfl
def spec_l01Notches_c2_Q (a1 : List Notch) (s1_1 : Int) (x34 : Notch) (i902_1 : Nat) (g : Bool) (q : Out) : Prop := q.1 = .nrm ∧ eget q.2.1 0 = .sl none (a1.map Notch.c) ∧ eget q.2.1 3 = .int .i64 s1_1 ∧ eget q.2.1 4 = .loc i902_1 1 0 0 ∧ eget q.2.1 32 = .bool g ∧ q.2.2[i902_1]? = some (.live ⟨.box, 170, 2, [[.int .i8 x34.Kind, .int .i16 x34.At]]⟩)
abbrev spec_l01Notches_b1_S := Int
abbrev spec_l01Notches_b1_R := Unit ⊕ Unit
def spec_l01Notches_b1_RS (a1 : List Notch) (s : spec_l01Notches_b1_S) (e : Env) (M : Mem) : Prop := eget e 0 = .sl none (a1.map Notch.c) ∧ eget e 3 = .int .i64 s
def spec_l01Notches_b1_RR (a1 : List Notch) (r : spec_l01Notches_b1_R) (x : Ex) (e : Env) (M : Mem) : Prop :=
  match r with
  | (.inl g) => x = .ret ∧ eget e 2 = .bool false
  | (.inr g) => x = .ext 0 ∧ True
noncomputable def spec_l01Notches_b1 (a1 : List Notch) : spec_l01Notches_b1_S → Option (spec_l01Notches_b1_S ⊕ spec_l01Notches_b1_R) := fun s1_1 =>
 if (decide (s1_1 < (a1.length : Int))) = true then
  (rd a1 s1_1).bind fun x34 =>
  ((spec_l01Kind (IntKind.i64.wrap x34.Kind)).bind fun r49 =>
  if r49 = true then
   if (decide (x34.At < 0)) = true then
    some true
   else
    (spec_l01Ends x34).bind fun r59 =>
    some (decide (r59 > 200))
  else
   some true).bind fun y74 =>
  if y74 = true then
   some (.inr (.inl ()))
  else
   if (decide (s1_1 > 0)) = true then
    (rd a1 (IntKind.i64.wrap (s1_1 - 1))).bind fun x85 =>
    if (decide (x34.Kind > x85.Kind)) = true then
     some (.inr (.inl ()))
    else
     (rd a1 (IntKind.i64.wrap (s1_1 - 1))).bind fun x96 =>
     (spec_l01Ends x96).bind fun r99 =>
     if (decide ((IntKind.i64.wrap x34.At) ≤ r99)) = true then
      some (.inr (.inl ()))
     else
      some (.inl (IntKind.i64.wrap (s1_1 + 1)))
   else
    some (.inl (IntKind.i64.wrap (s1_1 + 1)))
 else
  some (.inr (.inr ()))
theorem spec_l01Notches_b1_ok (a1 : List Notch) (s : spec_l01Notches_b1_S) (r : spec_l01Notches_b1_S ⊕ spec_l01Notches_b1_R) (h : spec_l01Notches_b1 a1 s = some r) (e : Env) (M : Mem) (hs : spec_l01Notches_b1_RS a1 s e M) : Ev (fun k => (f122_l4 (CN k) k (prune [0, 3] e) M).bind fun q => some q) (bQ (spec_l01Notches_b1_RS a1) (spec_l01Notches_b1_RR a1) r) := by
 revert h hs
 revert s
 intro s1_1 h hs
 unfold spec_l01Notches_b1 at h
 obtain ⟨h24, h26⟩ := hs
 generalize he23 : prune [0, 3] e = e22
 have h25 := envp he23.symm rfl h24
 have h27 := envp he23.symm rfl h26
 refine sq (sq (Rg (kx (mvO h27) (kx (mvO h25) (kx (lnS Try.underlying66 rfl) (kx (bLss rfl rfl) (Rn (hV (.sl none (a1.map Notch.c)) h25 (hV (.int .i64 s1_1) h27 (hN rfl hZ))) fun e28 h30 h31 h32 => sN ?_)))))))
 clear h25 h27
 rcases ite_some h with ⟨hb33, h⟩ | ⟨hb33, h⟩
 ·obtain ⟨x34, hx35, h⟩ := bind_some h
  refine cT h32 hb33 (xx (sN (sq (bl (sq (Rg (kx (mvO h30) (kx (mvO h31) (kx (ixS rfl rfl hx35 Notch.fl) (kx (ldPA rfl rfl rfl) (ku (alO zero170) fun M37 hM38 => ?_)))))))))))
  have o39 : M37[M.length]? = some (.live ⟨.box, 170, 2, [[.int .i8 0, .int .i16 0]]⟩) := push_new hM38
  refine kw (stO rfl rfl o39 rfl rfl ⟨rfl, ble rfl⟩ rfl rfl) fun M40 hM41 => ?_
  have o42 : M40[M.length]? = some (.live ⟨.box, 170, 2, [[.int .i8 x34.Kind, .int .i16 x34.At]]⟩) := set_same hM41 o39
  obtain ⟨r123, hr124, h⟩ := bind_some h
  refine Rn (hA h30 (hA h31 (hV (.loc M.length 1 0 0) rfl hZ))) fun e43 h45 h46 h47 => sN (sq (sq ?_))
  clear h30 h31 h32
  refine Ev.cut (Q1 := spec_l01Notches_c2_Q a1 s1_1 x34 M.length r123) (by
      have h := hr124
      obtain ⟨r49, hx48, h⟩ := bind_some h
      refine Rg (kx (faO h47 o42 rfl) (kx (ldO rfl o42 rfl rfl rfl) (kx (cvI rfl) (kc (cl (v := .bool r49) rfl rfl (cns rfl rfl) rfl (spec_l01Kind_ok (IntKind.i64.wrap x34.Kind) _ hx48) nm) (kx (uNot rfl) (kx (mvO rfl) ?_))))))
      rcases ite_some h with ⟨hb50, h⟩ | ⟨hb50, h⟩
      ·refine kx (guF rfl (congrArg Bool.not hb50) (faO h47 o42 rfl)) (kx (guF rfl (congrArg Bool.not hb50) (ldO rfl o42 rfl rfl rfl)) (kx (guF rfl (congrArg Bool.not hb50) (bLss rfl rfl)) (kx (pkF rfl (congrArg Bool.not hb50) rfl) (kx (mvO rfl) ?_))))
       rcases ite_some h with ⟨hb51, h⟩ | ⟨hb51, h⟩
       ·refine kx (gsF rfl hb51) (kc (Ev.gsF rfl hb51) (kx (gsF rfl hb51) (kx (pkT rfl hb51 rfl) (Rn (hA h45 (hA h46 (hA h47 (hV (.bool true) rfl hZ)))) fun e52 h54 h55 h56 h57 => ?_))))
        clear h45 h46 h47
        obtain rfl := si h
        exact kd (show spec_l01Notches_c2_Q a1 s1_1 x34 M.length _ _ from ⟨rfl, h54, h55, h56, h57, o42⟩)
       obtain ⟨r59, hx58, h⟩ := bind_some h
       refine kx (guF rfl hb51 (ldOA h47 o42 rfl rfl (ble rfl) rfl)) (kc (Ev.guF rfl hb51 (cl (v := .int .i64 r59) rfl rfl (cns rfl rfl) rfl (spec_l01Ends_ok x34 _ hx58) nm)) (kx (guF rfl hb51 (bGtr rfl rfl)) (kx (pkF rfl hb51 rfl) (Rn (hA h45 (hA h46 (hA h47 (hN rfl hZ)))) fun e60 h62 h63 h64 h65 => ?_))))
       clear h45 h46 h47
       obtain rfl := si h
       exact kd (show spec_l01Notches_c2_Q a1 s1_1 x34 M.length _ _ from ⟨rfl, h62, h63, h64, h65, o42⟩)
      refine kx (gsF rfl (congrArg Bool.not hb50)) (kx (gsF rfl (congrArg Bool.not hb50)) (kx (gsF rfl (congrArg Bool.not hb50)) (kx (pkT rfl (congrArg Bool.not hb50) rfl) (kx (mvO rfl) (kx (gsF rfl rfl) (kc (Ev.gsF rfl rfl) (kx (gsF rfl rfl) (kx (pkT rfl rfl rfl) (Rn (hA h45 (hA h46 (hA h47 (hV (.bool true) rfl hZ)))) fun e66 h68 h69 h70 h71 => ?_)))))))))
      clear h45 h46 h47
      obtain rfl := si h
      exact kd (show spec_l01Notches_c2_Q a1 s1_1 x34 M.length _ _ from ⟨rfl, h68, h69, h70, h71, o42⟩)) ?_
  revert h hr124
  revert r123
  intro y74 hr124 h
  intro x e72 M73 hq122
  obtain ⟨rfl, h75, h76, h77, h78, o79⟩ := hq122
  refine sN ?_
  rcases ite_some h with ⟨hb80, h⟩ | ⟨hb80, h⟩
  ·refine cT h78 hb80 (sq (Rg (kx (mvO rfl) (Rn (hV (.bool false) rfl hZ) fun e81 h83 => sN (xx (sR (bR (sR ?_))))))))
   clear h75 h76 h77 h78
   obtain rfl := si h
   exact qR ⟨rfl, h83⟩
  refine cF h78 hb80 (xx (sN (sq (Rd (kf (mvO h76) (kf (bGtr rfl rfl) (kf (mvO rfl) ?_)))))))
  rcases ite_some h with ⟨hb84, h⟩ | ⟨hb84, h⟩
  ·obtain ⟨x85, hx86, h⟩ := bind_some h
   refine kf (guT rfl hb84 (faO h77 o79 rfl)) (kf (guT rfl hb84 (ldO rfl o79 rfl rfl rfl)) (kf (guT rfl hb84 (mvO h75)) (kf (guT rfl hb84 (mvO h76)) (kf (guT rfl hb84 (bSub rfl rfl)) (kf (guT rfl hb84 (ixS rfl rfl hx86 Notch.fl)) (kf (guT rfl hb84 (faP rfl ⟨ble rfl, blt rfl⟩ rfl)) (kf (guT rfl hb84 (ldP rfl rfl)) (kf (guT rfl hb84 (bGtr rfl rfl)) (kf (guT rfl hb84 (mvO rfl)) ?_)))))))))
   rcases ite_some h with ⟨hb87, h⟩ | ⟨hb87, h⟩
   ·refine kf (gsF rfl hb87) (kf (gsF rfl hb87) (kf (gsF rfl hb87) (kf (gsF rfl hb87) (kf (gsF rfl hb87) (kf (gsF rfl hb87) (kf (gsF rfl hb87) (kf (gsF rfl hb87) (fc (Ev.gsF rfl hb87) (kf (gsF rfl hb87) (kf (guT rfl hb84 (pkT rfl hb87 rfl)) (kf (pkT rfl hb84 rfl) (fZ (Rn (hV (.sl none (a1.map Notch.c)) h75 (hV (.int .i64 s1_1) h76 (hV (.bool true) rfl hZ))) fun e88 h90 h91 h92 => sN (cT h92 rfl (sq (Rg (kx (mvO rfl) (Rn (hV (.bool false) rfl hZ) fun e93 h95 => sN (xx (bR (sR ?_)))))))))))))))))))))
    clear h75 h76 h77 h78 h90 h91 h92
    obtain rfl := si h
    exact qR ⟨rfl, h95⟩
   obtain ⟨x96, hx97, h⟩ := bind_some h
   obtain ⟨r99, hx98, h⟩ := bind_some h
   refine kf (guF rfl hb87 (faO h77 o79 rfl)) (kf (guF rfl hb87 (ldO rfl o79 rfl rfl rfl)) (kf (guF rfl hb87 (cvI rfl)) (kf (guF rfl hb87 (mvO h75)) (kf (guF rfl hb87 (mvO h76)) (kf (guF rfl hb87 (bSub rfl rfl)) (kf (guF rfl hb87 (ixS rfl rfl hx97 Notch.fl)) (kf (guF rfl hb87 (ldPA rfl rfl rfl)) (fc (Ev.guF rfl hb87 (cl (v := .int .i64 r99) rfl rfl (cns rfl rfl) rfl (spec_l01Ends_ok x96 _ hx98) nm)) (kf (guF rfl hb87 (bLeq rfl rfl)) (kf (guT rfl hb84 (pkF rfl hb87 rfl)) (kf (pkT rfl hb84 rfl) (fZ (Rn (hV (.sl none (a1.map Notch.c)) h75 (hV (.int .i64 s1_1) h76 (hN rfl hZ))) fun e100 h102 h103 h104 => sN ?_)))))))))))))
   clear h75 h76 h77 h78
   rcases ite_some h with ⟨hb105, h⟩ | ⟨hb105, h⟩
   ·refine cT h104 hb105 (sq (Rg (kx (mvO rfl) (Rn (hV (.bool false) rfl hZ) fun e106 h108 => sN (xx (bR (sR ?_)))))))
    clear h102 h103 h104
    obtain rfl := si h
    exact qR ⟨rfl, h108⟩
   refine cF h104 hb105 (xx (bN (sN (Rg (kx (mvO h103) (kx (bAdd rfl rfl) (kx (mvO rfl) (Rn (hA h102 (hN rfl hZ)) fun e109 h111 h112 => ?_))))))))
   clear h102 h104
   obtain rfl := si h
   exact qN ⟨h111, h112⟩
  refine kf (gsT rfl hb84) (kf (gsT rfl hb84) (kf (gsT rfl hb84) (kf (gsT rfl hb84) (kf (gsT rfl hb84) (kf (gsT rfl hb84) (kf (gsT rfl hb84) (kf (gsT rfl hb84) (kf (gsT rfl hb84) (kf (gsT rfl hb84) (kf (gsU rfl) (kf (gsU rfl) (kf (gsU rfl) (kf (gsU rfl) (kf (gsU rfl) (kf (gsU rfl) (kf (gsU rfl) (kf (gsU rfl) (fc (Ev.gsU rfl) (kf (gsU rfl) (kf (gsT rfl hb84) (kf (pkF rfl hb84 rfl) (fZ (Rn (hV (.sl none (a1.map Notch.c)) h75 (hV (.int .i64 s1_1) h76 (hV (.bool false) rfl hZ))) fun e113 h115 h116 h117 => sN (cF h117 rfl (xx (bN (sN (Rg (kx (mvO h116) (kx (bAdd rfl rfl) (kx (mvO rfl) (Rn (hA h115 (hN rfl hZ)) fun e118 h120 h121 => ?_))))))))))))))))))))))))))))))))
  clear h75 h76 h77 h78 h115 h117
  obtain rfl := si h
  exact qN ⟨h120, h121⟩
 refine cF h32 hb33 (xx (sE ?_))
 obtain rfl := si h
 exact qE ⟨rfl, trivial⟩
noncomputable def spec_l01Notches (a1 : List Notch) : Option Bool :=
 if (decide ((a1.length : Int) > 60)) = true then
  some false
 else
  (Lw (spec_l01Notches_b1 a1) 0).bind fun r => match r with
  | (.inl _) =>
   some false
  | (.inr _) =>
   some true
def spec_l01Notches_enc (r : Bool) : AV := .bool r
theorem spec_l01Notches_ok (a1 : List Notch) (r : Bool) (h : spec_l01Notches a1 = some r) : Ev (fun k => CN k 122 [.sl none (a1.map Notch.c)] []) (fun p => rRes p.2 p.1 = spec_l01Notches_enc r) := by
 unfold spec_l01Notches at h
 refine Ev.enter (F := fun k => f122 (CN k) k) (fun k => callN_eq rfl Try.func122 rfl rfl rfl (by decide +kernel) (f122_eq _ _)) (sq (Rg (kx (mvO rfl) (Rn (hN rfl hZ) fun e1 h3 => sN (sq (sq (Rg (kx (mvO h3) (kx (lnS Try.underlying66 rfl) (kx (bGtr rfl rfl) (Rn (hA h3 (hN rfl hZ)) fun e4 h6 h7 => sN ?_)))))))))))
 clear h3
 rcases ite_some h with ⟨hb8, h⟩ | ⟨hb8, h⟩
 ·refine cT h7 hb8 (sq (Rg (kx (mvO rfl) (Rn (hV (.bool false) rfl hZ) fun e9 h11 => sN (xx (sR ?_))))))
  clear h6 h7
  obtain rfl := si h
  exact eR (resT h11 res0) rfl
 obtain ⟨r125, hr126, h⟩ := bind_some h
 refine cF h7 hb8 (xx (sN (sq (sq (Rg (kx (mvO rfl) (Rn (hA h6 (hV (.int .i64 0) rfl hZ)) fun e12 h14 h15 => sN (bl ?_))))))))
 clear h6 h7
 rcases r125 with _ | _
 ·refine Ev.loop (RS := spec_l01Notches_b1_RS a1) (RR := spec_l01Notches_b1_RR a1) (fun s r h e M hs => spec_l01Notches_b1_ok a1 s r h e M hs) hr126 ⟨h14, h15⟩ fun x e128 M129 hq127 => ?_
  obtain ⟨rfl, h130⟩ := hq127
  refine bR (sR ?_)
  obtain rfl := si h
  exact eR (resT h130 res0) rfl
 refine Ev.loop (RS := spec_l01Notches_b1_RS a1) (RR := spec_l01Notches_b1_RR a1) (fun s r h e M hs => spec_l01Notches_b1_ok a1 s r h e M hs) hr126 ⟨h14, h15⟩ fun x e131 M132 hq127 => ?_
 obtain ⟨rfl, _⟩ := hq127
 refine bE (sN (sq (Rg (kx (mvO rfl) (Rn (hV (.bool true) rfl hZ) fun e133 h135 => sN (xx ?_))))))
 obtain rfl := si h
 exact eR (resT h135 res0) rfl
abbrev spec_l01For_b2_S := Int × Int × (List Notch)
abbrev spec_l01For_b2_R := ((List Notch)) ⊕ (Int × Int × (List Notch))
def spec_l01For_b2_RS (s1_3 : Int) (x55 : Int) (i1_1 : Nat) (s : spec_l01For_b2_S) (e : Env) (M : Mem) : Prop := eget e 0 = .int .i64 s.1 ∧ eget e 4 = .lsl i1_1 s.2.2.length 0 s.2.2.length ∧ eget e 5 = .int .i64 s.2.1 ∧ eget e 6 = .int .i64 s1_3 ∧ eget e 7 = .int .i64 x55 ∧ M[i1_1]? = some (.live ⟨.grow, 170, 2, s.2.2.map Notch.c⟩)
def spec_l01For_b2_RR (s1_3 : Int) (x55 : Int) (i1_1 : Nat) (r : spec_l01For_b2_R) (x : Ex) (e : Env) (M : Mem) : Prop :=
  match r with
  | (.inl g) => x = .ret ∧ eget e 2 = .lsl i1_1 g.length 0 g.length ∧ eget e 3 = .bool false ∧ M[i1_1]? = some (.live ⟨.grow, 170, 2, g.map Notch.c⟩)
  | (.inr g) => x = .ext 2 ∧ eget e 0 = .int .i64 g.1 ∧ eget e 4 = .lsl i1_1 g.2.2.length 0 g.2.2.length ∧ eget e 5 = .int .i64 g.2.1 ∧ eget e 6 = .int .i64 s1_3 ∧ M[i1_1]? = some (.live ⟨.grow, 170, 2, g.2.2.map Notch.c⟩)
noncomputable def spec_l01For_b2 (s1_3 : Int) (x55 : Int) : spec_l01For_b2_S → Option (spec_l01For_b2_S ⊕ spec_l01For_b2_R) := fun (s2_1, s2_2, s2_3) =>
 if (decide (s2_1 ≥ x55)) = true then
  if (decide (s2_2 > 200)) = true then
   some (.inr (.inl s2_3))
  else
   (app 4 s2_3 [(Notch.mk (IntKind.i8.wrap s1_3) (IntKind.i16.wrap s2_2))]).bind fun x112 =>
   (spec_l01Widths).bind fun r125 =>
   (rd r125 s1_3).bind fun x126 =>
   some (.inl ((IntKind.i64.wrap (s2_1 - x55)), (IntKind.i64.wrap (s2_2 + (IntKind.i64.wrap (x126 + 1)))), x112))
 else
  some (.inr (.inr (s2_1, s2_2, s2_3)))
theorem spec_l01For_b2_ok (s1_3 : Int) (x55 : Int) (i1_1 : Nat) (s : spec_l01For_b2_S) (r : spec_l01For_b2_S ⊕ spec_l01For_b2_R) (h : spec_l01For_b2 s1_3 x55 s = some r) (e : Env) (M : Mem) (hs : spec_l01For_b2_RS s1_3 x55 i1_1 s e M) : Ev (fun k => (f155_l7 (CN k) k (prune [0, 4, 5, 6, 7] e) M).bind fun q => some q) (bQ (spec_l01For_b2_RS s1_3 x55 i1_1) (spec_l01For_b2_RR s1_3 x55 i1_1) r) := by
 obtain ⟨s2_1, s2_2, s2_3⟩ := s
 unfold spec_l01For_b2 at h
 obtain ⟨h79, h81, h83, h85, h87, o89⟩ := hs
 generalize he78 : prune [0, 4, 5, 6, 7] e = e77
 have h80 := envp he78.symm rfl h79
 have h82 := envp he78.symm rfl h81
 have h84 := envp he78.symm rfl h83
 have h86 := envp he78.symm rfl h85
 have h88 := envp he78.symm rfl h87
 refine sq (sq (Rg (kx (mvO h80) (kx (mvO h88) (kx (bGeq rfl rfl) (Rn (hV (.int .i64 s2_1) h80 (hV (.lsl i1_1 s2_3.length 0 s2_3.length) h82 (hV (.int .i64 s2_2) h84 (hV (.int .i64 s1_3) h86 (hV (.int .i64 x55) h88 (hN rfl hZ)))))) fun e90 h92 h93 h94 h95 h96 h97 => sN ?_))))))
 clear h80 h82 h84 h86 h88
 rcases ite_some h with ⟨hb98, h⟩ | ⟨hb98, h⟩
 ·refine cT h97 hb98 (xx (sN (bl (sq (sq (Rg (kx (mvO h94) (kx (bGtr rfl rfl) (Rn (hA h92 (hA h93 (hA h94 (hA h95 (hA h96 (hN rfl hZ)))))) fun e99 h101 h102 h103 h104 h105 h106 => sN ?_)))))))))
  clear h92 h93 h94 h95 h96 h97
  rcases ite_some h with ⟨hb107, h⟩ | ⟨hb107, h⟩
  ·refine cT h106 hb107 (sq (Rg (kx (mvO h102) (kx (mvO rfl) (kx (mvO rfl) (Rn (hV (.lsl i1_1 s2_3.length 0 s2_3.length) rfl (hV (.bool false) rfl hZ)) fun e108 h110 h111 => sN (xx (sR (bR ?_)))))))))
   clear h101 h102 h103 h104 h105 h106
   obtain rfl := si h
   exact qR ⟨rfl, h110, h111, o89⟩
  obtain ⟨x112, hx113, h⟩ := bind_some h
  refine cF h106 hb107 (xx (sN (sq (Rg (kx (mvO h102) (kx (mvO h104) (kx (cvI rfl) (kx (mvO h103) (kx (cvI rfl) (kx (bldT zero170 (cns (pr3 rfl) (cns (pr3 rfl) rfl)) (fill1 ⟨rfl, ble rfl⟩ rfl rfl (fill1 ⟨rfl, ble rfl⟩ rfl rfl (fill0 rfl)))) (kx (litI (cns rfl rfl) rfl ⟨rfl, by decide⟩) (kw (apO rfl o89 rfl (elT (c := Notch.c) (xs := [(Notch.mk (IntKind.i8.wrap s1_3) (IntKind.i16.wrap s2_2))]) rfl) hx113 Notch.fl (by decide)) fun M114 hM115 => ?_))))))))))))
  have o116 : M114[i1_1]? = some (.live ⟨.grow, 170, 2, x112.map Notch.c⟩) := set_same hM115 o89
  obtain ⟨r125, hx124, h⟩ := bind_some h
  obtain ⟨x126, hx127, h⟩ := bind_some h
  refine kx (mvO rfl) (Rn (hA h101 (hV (.lsl i1_1 x112.length 0 x112.length) rfl (hA h103 (hA h104 (hA h105 hZ))))) fun e117 h119 h120 h121 h122 h123 => sN (sq (Rg (kx (mvO h121) (kc (clO (v := .sl none (r125.map (cI .i64))) rfl rfl rfl rfl (spec_l01Widths_ok  _ hx124)) (kx (mvO h122) (kx (ixS rfl rfl hx127 (cI_fl _)) (kx (ldP rfl rfl) (kx (bAdd rfl rfl) (kx (bAdd rfl rfl) (kx (mvO rfl) (Rn (hA h119 (hA h120 (hN rfl (hA h122 (hA h123 hZ))))) fun e128 h130 h131 h132 h133 h134 => sN (Rg (kx (mvO h130) (kx (mvO h134) (kx (bSub rfl rfl) (kx (mvO rfl) (Rn (hN rfl (hA h131 (hA h132 (hA h133 (hA h134 hZ))))) fun e135 h137 h138 h139 h140 h141 => bN ?_))))))))))))))))))
  clear h101 h103 h104 h105 h106 h119 h120 h122 h123 h131 h132 h133 h134
  obtain rfl := si h
  exact qN ⟨h137, h138, h139, h140, h141, o116⟩
 refine cF h97 hb98 (xx (sE ?_))
 obtain rfl := si h
 exact qE ⟨rfl, h92, h93, h94, h95, o89⟩
abbrev spec_l01For_b1_S := Int × Int × Int × (List Notch)
abbrev spec_l01For_b1_R := ((List Notch)) ⊕ ((List Notch))
def spec_l01For_b1_RS (i1_1 : Nat) (s : spec_l01For_b1_S) (e : Env) (M : Mem) : Prop := eget e 0 = .int .i64 s.1 ∧ eget e 4 = .lsl i1_1 s.2.2.2.length 0 s.2.2.2.length ∧ eget e 5 = .int .i64 s.2.1 ∧ eget e 6 = .int .i64 s.2.2.1 ∧ M[i1_1]? = some (.live ⟨.grow, 170, 2, s.2.2.2.map Notch.c⟩)
def spec_l01For_b1_RR (i1_1 : Nat) (r : spec_l01For_b1_R) (x : Ex) (e : Env) (M : Mem) : Prop :=
  match r with
  | (.inl g) => x = .ret ∧ eget e 2 = .lsl i1_1 g.length 0 g.length ∧ eget e 3 = .bool false ∧ M[i1_1]? = some (.live ⟨.grow, 170, 2, g.map Notch.c⟩)
  | (.inr g) => x = .ext 0 ∧ eget e 4 = .lsl i1_1 g.length 0 g.length ∧ M[i1_1]? = some (.live ⟨.grow, 170, 2, g.map Notch.c⟩)
noncomputable def spec_l01For_b1 : spec_l01For_b1_S → Option (spec_l01For_b1_S ⊕ spec_l01For_b1_R) := fun (s1_1, s1_2, s1_3, s1_4) =>
 if (decide (s1_3 ≥ 0)) = true then
  (spec_l01Worths).bind fun r54 =>
  (rd r54 s1_3).bind fun x55 =>
  (Lw (spec_l01For_b2 s1_3 x55) (s1_1, s1_2, s1_4)).bind fun r => match r with
  | (.inl y147) =>
   some (.inr (.inl y147))
  | (.inr (y153, y154, y155)) =>
   some (.inl (y153, y154, (IntKind.i64.wrap (s1_3 - 1)), y155))
 else
  some (.inr (.inr s1_4))
theorem spec_l01For_b1_ok (i1_1 : Nat) (s : spec_l01For_b1_S) (r : spec_l01For_b1_S ⊕ spec_l01For_b1_R) (h : spec_l01For_b1 s = some r) (e : Env) (M : Mem) (hs : spec_l01For_b1_RS i1_1 s e M) : Ev (fun k => (f155_l4 (CN k) k (prune [0, 4, 5, 6] e) M).bind fun q => some q) (bQ (spec_l01For_b1_RS i1_1) (spec_l01For_b1_RR i1_1) r) := by
 obtain ⟨s1_1, s1_2, s1_3, s1_4⟩ := s
 unfold spec_l01For_b1 at h
 obtain ⟨h36, h38, h40, h42, o44⟩ := hs
 generalize he35 : prune [0, 4, 5, 6] e = e34
 have h37 := envp he35.symm rfl h36
 have h39 := envp he35.symm rfl h38
 have h41 := envp he35.symm rfl h40
 have h43 := envp he35.symm rfl h42
 refine sq (sq (Rg (kx (mvO h43) (kx (bGeq rfl rfl) (Rn (hV (.int .i64 s1_1) h37 (hV (.lsl i1_1 s1_4.length 0 s1_4.length) h39 (hV (.int .i64 s1_2) h41 (hV (.int .i64 s1_3) h43 (hN rfl hZ))))) fun e45 h47 h48 h49 h50 h51 => sN ?_)))))
 clear h37 h39 h41 h43
 rcases ite_some h with ⟨hb52, h⟩ | ⟨hb52, h⟩
 ·obtain ⟨r54, hx53, h⟩ := bind_some h
  obtain ⟨x55, hx56, h⟩ := bind_some h
  obtain ⟨r142, hr143, h⟩ := bind_some h
  refine cT h51 hb52 (xx (sN (sq (bl (sq (Rg (kc (clO (v := .sl none (r54.map (cI .i64))) rfl rfl rfl rfl (spec_l01Worths_ok  _ hx53)) (kx (mvO h50) (kx (ixS rfl rfl hx56 (cI_fl _)) (kx (ldP rfl rfl) (kx (mvO rfl) (Rn (hA h47 (hA h48 (hA h49 (hA h50 (hN rfl hZ))))) fun e57 h59 h60 h61 h62 h63 => sN (bl ?_)))))))))))))
  clear h47 h48 h49 h50 h51
  rcases r142 with y147 | ⟨y153, y154, y155⟩
  ·refine Ev.loop (RS := spec_l01For_b2_RS s1_3 x55 i1_1) (RR := spec_l01For_b2_RR s1_3 x55 i1_1) (fun s r h e M hs => spec_l01For_b2_ok s1_3 x55 i1_1 s r h e M hs) hr143 ⟨h59, h60, h61, h62, h63, o44⟩ fun x e145 M146 hq144 => ?_
   obtain ⟨rfl, h148, h149, o150⟩ := hq144
   refine bR (bR (sR ?_))
   obtain rfl := si h
   exact qR ⟨rfl, h148, h149, o150⟩
  refine Ev.loop (RS := spec_l01For_b2_RS s1_3 x55 i1_1) (RR := spec_l01For_b2_RR s1_3 x55 i1_1) (fun s r h e M hs => spec_l01For_b2_ok s1_3 x55 i1_1 s r h e M hs) hr143 ⟨h59, h60, h61, h62, h63, o44⟩ fun x e151 M152 hq144 => ?_
  obtain ⟨rfl, h156, h157, h158, h159, o160⟩ := hq144
  refine bE (bN (sN (Rg (kx (mvO h159) (kx (bSub rfl rfl) (kx (mvO rfl) (Rn (hV (.int .i64 y153) h156 (hV (.lsl i1_1 y155.length 0 y155.length) h157 (hV (.int .i64 y154) h158 (hN rfl hZ)))) fun e161 h163 h164 h165 h166 => ?_)))))))
  clear h156 h157 h158
  obtain rfl := si h
  exact qN ⟨h163, h164, h165, h166, o160⟩
 refine cF h51 hb52 (xx (sE ?_))
 obtain rfl := si h
 exact qE ⟨rfl, h48, o44⟩
noncomputable def spec_l01For (a1 : Int) : Option ((List Notch) × Bool) :=
 (Lw (spec_l01For_b1) (a1, 0, 5, ([] : List Notch))).bind fun r => match r with
 | (.inl y172) =>
  some (y172, false)
 | (.inr y178) =>
  (spec_l01Notches y178).bind fun r182 =>
  some (y178, r182)
def spec_l01For_enc (r : (List Notch) × Bool) : AV := .tup [.sl none (r.1.map Notch.c), .bool r.2]
theorem spec_l01For_ok (a1 : Int) (r : (List Notch) × Bool) (h : spec_l01For a1 = some r) : Ev (fun k => CN k 155 [.int .i64 a1] []) (fun p => wkR (rRes p.2 p.1) = spec_l01For_enc r ∧ ownAll (rRes p.2 p.1) = true) := by
 unfold spec_l01For at h
 refine Ev.enter (F := fun k => f155 (CN k) k) (fun k => callN_eq rfl Try.func155 rfl rfl rfl (by decide +kernel) (f155_eq _ _)) (sq (Rg (kx (mvO rfl) (kx (mvO rfl) (Rn (hN rfl hZ) fun e1 h3 => sN (sq (Rg (ku (litO (xs := ([] : List Notch)) (c := Notch.c) rfl rfl (by decide)) fun M5 hM6 => ?_))))))))
 have o7 : M5[([] : Mem).length]? = some (.live ⟨.grow, 170, 2, ([] : List Notch).map Notch.c⟩) := push_new hM6
 obtain ⟨r167, hr168, h⟩ := bind_some h
 refine kx (mvO rfl) (Rn (hA h3 (hV (.lsl ([] : Mem).length ([] : List Notch).length 0 ([] : List Notch).length) rfl hZ)) fun e8 h10 h11 => sN (sq (Rg (kx (mvO rfl) (Rn (hA h10 (hA h11 (hV (.int .i64 0) rfl hZ))) fun e12 h14 h15 h16 => sN (sq (sq (Rg (kx (mvO rfl) (Rn (hA h14 (hA h15 (hA h16 (hV (.int .i64 5) rfl hZ)))) fun e17 h19 h20 h21 h22 => sN (bl ?_)))))))))))
 clear h3 h10 h11 h14 h15 h16
 rcases r167 with y172 | y178
 ·refine Ev.loop (RS := spec_l01For_b1_RS (([] : Mem).length)) (RR := spec_l01For_b1_RR (([] : Mem).length)) (fun s r h e M hs => spec_l01For_b1_ok (([] : Mem).length) s r h e M hs) hr168 ⟨h19, h20, h21, h22, o7⟩ fun x e170 M171 hq169 => ?_
  obtain ⟨rfl, h173, h174, o175⟩ := hq169
  refine bR (sR ?_)
  obtain rfl := si h
  exact eR (resT h173 (resT h174 res0)) (wkO (y := .tup [.sl (some 170) (y172.map Notch.c), .bool false]) (rr_tup (mp1 (rr_row o175 rfl Notch.fl) (mp1 rfl mp0))) rfl (own_tup (oa1 (own2_row (c := Notch.c) Notch.flF) (oa1 rfl oa0))))
 refine Ev.loop (RS := spec_l01For_b1_RS (([] : Mem).length)) (RR := spec_l01For_b1_RR (([] : Mem).length)) (fun s r h e M hs => spec_l01For_b1_ok (([] : Mem).length) s r h e M hs) hr168 ⟨h19, h20, h21, h22, o7⟩ fun x e176 M177 hq169 => ?_
 obtain ⟨rfl, h179, o180⟩ := hq169
 obtain ⟨r182, hx181, h⟩ := bind_some h
 refine bE (sN (sq (Rg (kx (mvO h179) (kx (mvO h179) (kc (cl (v := .bool r182) rfl rfl (cns rfl rfl) (ra1 (ra1_row o180 rfl Notch.fl) ra0) (spec_l01Notches_ok y178 _ hx181) (fun _ => rfl)) (kx (mvO rfl) (kx (mvO rfl) (Rn (hV (.lsl ([] : Mem).length y178.length 0 y178.length) rfl (hN rfl hZ)) fun e183 h185 h186 => sN (xx ?_))))))))))
 clear h179
 obtain rfl := si h
 exact eR (resT h185 (resT h186 res0)) (wkO (y := .tup [.sl (some 170) (y178.map Notch.c), .bool r182]) (rr_tup (mp1 (rr_row o180 rfl Notch.fl) (mp1 rfl mp0))) rfl (own_tup (oa1 (own2_row (c := Notch.c) Notch.flF) (oa1 rfl oa0))))
noncomputable def impl_width (a1 : Int) : Option Int :=
 (rd [1, 2, 4, 6, 9, 12] a1).bind fun x4 =>
 some x4
def impl_width_enc (r : Int) : AV := .int .i64 r
theorem impl_width_ok (a1 : Int) (r : Int) (h : impl_width a1 = some r) : Ev (fun k => CN k 154 [.int .i64 a1] []) (fun p => rRes p.2 p.1 = impl_width_enc r) := by
 unfold impl_width at h
 obtain ⟨x4, hx5, h⟩ := bind_some h
 refine Ev.enter (F := fun k => f154 (CN k) k) (fun k => callN_eq rfl Try.func154 rfl rfl rfl (by decide +kernel) (f154_eq _ _)) (sq (Rg (kx (mvO rfl) (Rn (hN rfl hZ) fun e1 h3 => sN (sq (Rg (kx (litI (cns rfl (cns rfl (cns rfl (cns rfl (cns rfl (cns rfl rfl)))))) rfl ⟨rfl, by decide⟩) (kx (mvO h3) (kx (ixLt rfl rfl hx5 (cI_fl _)) (kx (ldP rfl rfl) (kx (mvO rfl) (Rn (hN rfl hZ) fun e6 h8 => sN (xx ?_)))))))))))))
 clear h3
 obtain rfl := si h
 exact eR (resT h8 res0) rfl
abbrev impl_isLetters_b1_S := Int
abbrev impl_isLetters_b1_R := Unit ⊕ Unit
def impl_isLetters_b1_RS (a1 : List UInt8) (a2 : Int) (s : impl_isLetters_b1_S) (e : Env) (M : Mem) : Prop := eget e 0 = .str a1 ∧ eget e 1 = .int .i64 a2 ∧ eget e 7 = .int .i64 (a1.length : Int) ∧ eget e 8 = .int .i64 s
def impl_isLetters_b1_RR (a1 : List UInt8) (a2 : Int) (r : impl_isLetters_b1_R) (x : Ex) (e : Env) (M : Mem) : Prop :=
  match r with
  | (.inl g) => x = .ret ∧ eget e 4 = .bool false
  | (.inr g) => x = .ext 0 ∧ eget e 0 = .str a1 ∧ eget e 1 = .int .i64 a2
noncomputable def impl_isLetters_b1 (a1 : List UInt8) : impl_isLetters_b1_S → Option (impl_isLetters_b1_S ⊕ impl_isLetters_b1_R) := fun s1_1 =>
 if (decide (s1_1 < (a1.length : Int))) = true then
  (rd a1 s1_1).bind fun x46 =>
  if (decide ((x46.toNat : Int) < 97)) = true then
   some (.inr (.inl ()))
  else
   (rd a1 s1_1).bind fun x59 =>
   if (decide ((x59.toNat : Int) > 122)) = true then
    some (.inr (.inl ()))
   else
    some (.inl (IntKind.i64.wrap (s1_1 + 1)))
 else
  some (.inr (.inr ()))
theorem impl_isLetters_b1_ok (a1 : List UInt8) (a2 : Int) (s : impl_isLetters_b1_S) (r : impl_isLetters_b1_S ⊕ impl_isLetters_b1_R) (h : impl_isLetters_b1 a1 s = some r) (e : Env) (M : Mem) (hs : impl_isLetters_b1_RS a1 a2 s e M) : Ev (fun k => (f153_l2 (CN k) k (prune [0, 1, 7, 8] e) M).bind fun q => some q) (bQ (impl_isLetters_b1_RS a1 a2) (impl_isLetters_b1_RR a1 a2) r) := by
 revert h hs
 revert s
 intro s1_1 h hs
 unfold impl_isLetters_b1 at h
 obtain ⟨h23, h25, h27, h29⟩ := hs
 generalize he22 : prune [0, 1, 7, 8] e = e21
 have h24 := envp he22.symm rfl h23
 have h26 := envp he22.symm rfl h25
 have h28 := envp he22.symm rfl h27
 have h30 := envp he22.symm rfl h29
 refine sq (Rg (kx (bLss h30 h28) (Rn (hV (.str a1) h24 (hV (.int .i64 a2) h26 (hV (.int .i64 (a1.length : Int)) h28 (hV (.int .i64 s1_1) h30 (hN rfl hZ))))) fun e31 h33 h34 h35 h36 h37 => sN (sq ?_))))
 clear h24 h26 h28 h30
 rcases ite_some h with ⟨hb38, h⟩ | ⟨hb38, h⟩
 ·obtain ⟨x46, hx47, h⟩ := bind_some h
  refine cT h37 hb38 (xx (sN (sq (bl (sq (Rg (kx (mvO h36) (kx (mvO rfl) (Rn (hA h33 (hA h34 (hN rfl (hA h35 (hA h36 hZ))))) fun e39 h41 h42 h43 h44 h45 => sN (sq (Rg (kx (mvO h41) (kx (mvO h43) (kx (ixB rfl rfl hx47) (kx (bLss rfl rfl) (kx (mvO rfl) ?_))))))))))))))))
  clear h33 h34 h35 h36 h37
  rcases ite_some h with ⟨hb48, h⟩ | ⟨hb48, h⟩
  ·refine kx (gsF rfl hb48) (kx (gsF rfl hb48) (kx (gsF rfl hb48) (kx (gsF rfl hb48) (kx (pkT rfl hb48 rfl) (Rn (hA h41 (hA h42 (hA h44 (hA h45 (hV (.bool true) rfl hZ))))) fun e49 h51 h52 h53 h54 h55 => sN (cT h55 rfl (sq (Rg (kx (mvO rfl) (Rn (hV (.bool false) rfl hZ) fun e56 h58 => sN (xx (bR (sR ?_)))))))))))))
   clear h41 h42 h43 h44 h45 h51 h52 h53 h54 h55
   obtain rfl := si h
   exact qR ⟨rfl, h58⟩
  obtain ⟨x59, hx60, h⟩ := bind_some h
  refine kx (guF rfl hb48 (mvO h41)) (kx (guF rfl hb48 (mvO h43)) (kx (guF rfl hb48 (ixB rfl rfl hx60)) (kx (guF rfl hb48 (bGtr rfl rfl)) (kx (pkF rfl hb48 rfl) (Rn (hA h41 (hA h42 (hA h44 (hA h45 (hN rfl hZ))))) fun e61 h63 h64 h65 h66 h67 => sN ?_)))))
  clear h41 h42 h43 h44 h45
  rcases ite_some h with ⟨hb68, h⟩ | ⟨hb68, h⟩
  ·refine cT h67 hb68 (sq (Rg (kx (mvO rfl) (Rn (hV (.bool false) rfl hZ) fun e69 h71 => sN (xx (bR (sR ?_)))))))
   clear h63 h64 h65 h66 h67
   obtain rfl := si h
   exact qR ⟨rfl, h71⟩
  refine cF h67 hb68 (xx (bN (sN (Rg (kx (bAdd h66 rfl) (kx (mvO rfl) (Rn (hA h63 (hA h64 (hA h65 (hN rfl hZ)))) fun e72 h74 h75 h76 h77 => ?_)))))))
  clear h63 h64 h65 h67
  obtain rfl := si h
  exact qN ⟨h74, h75, h76, h77⟩
 refine cF h37 hb38 (xx (sE ?_))
 obtain rfl := si h
 exact qE ⟨rfl, h33, h34⟩
noncomputable def impl_isLetters (a1 : List UInt8) (a2 : Int) : Option Bool :=
 (Lw (impl_isLetters_b1 a1) 0).bind fun r => match r with
 | (.inl _) =>
  some false
 | (.inr _) =>
  if (decide ((a1.length : Int) ≥ 1)) = true then
   some (decide ((a1.length : Int) ≤ a2))
  else
   some false
def impl_isLetters_enc (r : Bool) : AV := .bool r
theorem impl_isLetters_ok (a1 : List UInt8) (a2 : Int) (r : Bool) (h : impl_isLetters a1 a2 = some r) : Ev (fun k => CN k 153 [.str a1, .int .i64 a2] []) (fun p => rRes p.2 p.1 = impl_isLetters_enc r) := by
 unfold impl_isLetters at h
 obtain ⟨r78, hr79, h⟩ := bind_some h
 refine Ev.enter (F := fun k => f153 (CN k) k) (fun k => callN_eq rfl Try.func153 rfl rfl rfl (by decide +kernel) (f153_eq _ _)) (sq (Rg (kx (mvO rfl) (Rn (hN rfl (hN rfl hZ)) fun e1 h3 h4 => sN (sq (sq (Rg (kx (mvO h3) (kx (lnB Try.underlying9 rfl) (kx (mvO rfl) (Rn (hA h3 (hA h4 (hN rfl (hV (.int .i64 0) rfl hZ)))) fun e5 h7 h8 h9 h10 => sN (bl ?_))))))))))))
 clear h3 h4
 rcases r78 with _ | _
 ·refine Ev.loop (RS := impl_isLetters_b1_RS a1 a2) (RR := impl_isLetters_b1_RR a1 a2) (fun s r h e M hs => impl_isLetters_b1_ok a1 a2 s r h e M hs) hr79 ⟨h7, h8, h9, h10⟩ fun x e81 M82 hq80 => ?_
  obtain ⟨rfl, h83⟩ := hq80
  refine bR (sR ?_)
  obtain rfl := si h
  exact eR (resT h83 res0) rfl
 refine Ev.loop (RS := impl_isLetters_b1_RS a1 a2) (RR := impl_isLetters_b1_RR a1 a2) (fun s r h e M hs => impl_isLetters_b1_ok a1 a2 s r h e M hs) hr79 ⟨h7, h8, h9, h10⟩ fun x e84 M85 hq80 => ?_
 obtain ⟨rfl, h86, h87⟩ := hq80
 refine bE (sN (sq (Rg (kx (mvO h86) (kx (lnB Try.underlying9 rfl) (kx (bGeq rfl rfl) (kx (mvO rfl) ?_)))))))
 rcases ite_some h with ⟨hb88, h⟩ | ⟨hb88, h⟩
 ·refine kx (guT rfl hb88 (mvO h86)) (kx (guT rfl hb88 (lnB Try.underlying9 rfl)) (kx (guT rfl hb88 (mvO h87)) (kx (guT rfl hb88 (bLeq rfl rfl)) (kx (pkT rfl hb88 rfl) (kx (mvO rfl) (Rn (hN rfl hZ) fun e89 h91 => sN (xx ?_)))))))
  clear h86 h87
  obtain rfl := si h
  exact eR (resT h91 res0) rfl
 refine kx (gsT rfl hb88) (kx (gsT rfl hb88) (kx (gsT rfl hb88) (kx (gsT rfl hb88) (kx (pkF rfl hb88 rfl) (kx (mvO rfl) (Rn (hV (.bool false) rfl hZ) fun e92 h94 => sN (xx ?_)))))))
 clear h86 h87
 obtain rfl := si h
 exact eR (resT h94 res0) rfl
noncomputable def spec_l06Last (a1 : Chain) : Option ((List UInt8) × Int) :=
 (rd a1.Marks (IntKind.i64.wrap ((a1.Marks.length : Int) - 1))).bind fun x9 =>
 some (x9.Holder, x9.Seal)
def spec_l06Last_enc (r : (List UInt8) × Int) : AV := .agg [.str r.1, .int .u32 r.2]
theorem spec_l06Last_ok (a1 : Chain) (r : (List UInt8) × Int) (h : spec_l06Last a1 = some r) : Ev (fun k => CN k 150 [.pt none (.str a1.Debtor :: (.bool a1.Stock.Stock :: (.sl none (a1.Stock.Notches.map Notch.c) :: ((arC (cI .i8) 0 a1.Stock.Grain) ++ ((.sl none (a1.Marks.map Mark.c) :: []) : List AV)))))] []) (fun p => rRes p.2 p.1 = spec_l06Last_enc r) := by
 unfold spec_l06Last at h
 refine Ev.enter (F := fun k => f150 (CN k) k) (fun k => callN_eq rfl Try.func150 rfl rfl rfl (by decide +kernel) (f150_eq _ _)) (sq (Rg (ku (alO zero173) fun M2 hM3 => ?_)))
 have o4 : M2[([] : Mem).length]? = some (.live ⟨.box, 173, 2, [[.str ([] : List UInt8), .int .u32 0]]⟩) := push_new hM3
 obtain ⟨x9, hx10, h⟩ := bind_some h
 refine Rn (hN rfl (hV (.loc ([] : Mem).length 1 0 0) rfl hZ)) fun e5 h7 h8 => sN (sq (Rd (kf (mvO h7) (kf (ncP rfl) (kf (faP rfl ⟨ble rfl, blt rfl⟩ rfl) (kf (ldP rfl rfl) (kf (mvO h7) (kf (ncP rfl) (kf (faP rfl ⟨ble rfl, blt rfl⟩ rfl) (kf (ldP rfl rfl) (kf (lnS Try.underlying71 rfl) (kf (bSub rfl rfl) (kf (ixS rfl rfl hx10 Mark.fl) (kf (ldPA rfl rfl rfl) (fZ (kw (stO h8 rfl o4 rfl rfl ⟨rfl, ble rfl⟩ rfl rfl) fun M11 hM12 => ?_))))))))))))))))
 have o13 : M11[([] : Mem).length]? = some (.live ⟨.box, 173, 2, [[.str x9.Holder, .int .u32 x9.Seal]]⟩) := set_same hM12 o4
 refine Rn (hA h8 hZ) fun e14 h16 => sN (xx ?_)
 clear h7 h8
 obtain rfl := si h
 exact eR (resC (ag := true) (sz := 2) ⟨by kernel_rfl, by kernel_rfl, by kernel_rfl⟩ (ldOA h16 o13 rfl rfl (ble rfl) rfl) res0) rfl
noncomputable def spec_l01Copy (a1 : List Notch) : Option ((List Notch)) :=
 (app 4 ([] : List Notch) a1).bind fun x4 =>
 some x4
def spec_l01Copy_enc (r : (List Notch)) : AV := .sl (some 170) (r.map Notch.c)
theorem spec_l01Copy_ok (a1 : List Notch) (r : (List Notch)) (h : spec_l01Copy a1 = some r) : Ev (fun k => CN k 134 [.sl none (a1.map Notch.c)] []) (fun p => rRes p.2 p.1 = spec_l01Copy_enc r) := by
 unfold spec_l01Copy at h
 obtain ⟨x4, hx5, h⟩ := bind_some h
 refine Ev.enter (F := fun k => f134 (CN k) k) (fun k => callN_eq rfl Try.func134 rfl rfl rfl (by decide +kernel) (f134_eq _ _)) (sq (Rg (kx (mvO rfl) (Rn (hN rfl hZ) fun e1 h3 => sN (sq (Rg (kx (litI rfl rfl ⟨rfl, by decide⟩) (kx (mvO h3) (kx (aiT (c := Notch.c) (xs := ([] : List Notch)) rfl (elS rfl) hx5 Notch.fl (by decide)) (kx (mvO rfl) (Rn (hN rfl hZ) fun e6 h8 => sN (xx ?_))))))))))))
 clear h3
 obtain rfl := si h
 exact eR (resT h8 res0) rfl
noncomputable def spec_l04Copy (a1 : Half) : Option (Bool × (List Notch) × (Ar 16 Int)) :=
 (spec_l01Copy a1.Notches).bind fun r10 =>
 some (a1.Stock, r10, a1.Grain)
def spec_l04Copy_enc (r : Bool × (List Notch) × (Ar 16 Int)) : AV := .agg (.bool r.1 :: (.sl (some 170) (r.2.1.map Notch.c) :: ((arC (cI .i8) 0 r.2.2) ++ ([] : List AV))))
theorem spec_l04Copy_ok (a1 : Half) (r : Bool × (List Notch) × (Ar 16 Int)) (h : spec_l04Copy a1 = some r) : Ev (fun k => CN k 149 [.pt none (.bool a1.Stock :: (.sl none (a1.Notches.map Notch.c) :: ((arC (cI .i8) 0 a1.Grain) ++ ([] : List AV))))] []) (fun p => rRes p.2 p.1 = spec_l04Copy_enc r) := by
 unfold spec_l04Copy at h
 refine Ev.enter (F := fun k => f149 (CN k) k) (fun k => callN_eq rfl Try.func149 rfl rfl rfl (by decide +kernel) (f149_eq _ _)) (sq (Rg (ku (alO zero70) fun M2 hM3 => ?_)))
 have o4 : M2[([] : Mem).length]? = some (.live ⟨.box, 70, 18, [(.bool false :: (.nils :: ((arC (cI .i8) 0 (Ar.rep 16 0)) ++ ([] : List AV))))]⟩) := push_new hM3
 obtain ⟨r10, hx9, h⟩ := bind_some h
 refine Rn (hN rfl (hV (.loc ([] : Mem).length 1 0 0) rfl hZ)) fun e5 h7 h8 => sN (sq (Rd (kf (mvO h7) (kf (ncP rfl) (kf (faP rfl ⟨ble rfl, blt rfl⟩ rfl) (kf (ldP rfl rfl) (kf (mvO h7) (kf (ncP rfl) (kf (faP rfl ⟨ble rfl, blt rfl⟩ rfl) (kf (ldP rfl rfl) (fc (cl (v := .sl (some 170) (r10.map Notch.c)) rfl rfl (cns rfl rfl) rfl (spec_l01Copy_ok a1.Notches _ hx9) nm) (kf (mvO h7) (kf (ncP rfl) (kf (faP rfl ⟨ble rfl, blt rfl⟩ rfl) (kf (ldPA rfl rfl rfl) (kf (bldT zero70 (cns (pr3 rfl) (cns (pr3 rfl) (cns (pr3 rfl) rfl))) (fill1 (cs' := (.bool a1.Stock :: (.nils :: ((arC (cI .i8) 0 (Ar.rep 16 0)) ++ ([] : List AV))))) ⟨rfl, ble rfl⟩ rfl rfl (fill1 (cs' := (.bool a1.Stock :: (.sl (some 170) (r10.map Notch.c) :: ((arC (cI .i8) 0 (Ar.rep 16 0)) ++ ([] : List AV))))) ⟨rfl, ble rfl⟩ rfl rfl (fill1 (cs' := (.bool a1.Stock :: (.sl (some 170) (r10.map Notch.c) :: ((arC (cI .i8) 0 a1.Grain) ++ ([] : List AV))))) ⟨rfl, ble rfl⟩ rfl rfl (fill0 rfl))))) (fZ (kw (stOK h8 rfl o4 rfl rfl ⟨rfl, ble rfl⟩ rfl rfl) fun M11 hM12 => ?_))))))))))))))))))
 have o13 : M11[([] : Mem).length]? = some (.live ⟨.box, 70, 18, [(.bool a1.Stock :: (.sl (some 170) (r10.map Notch.c) :: ((arC (cI .i8) 0 a1.Grain) ++ ([] : List AV))))]⟩) := set_same hM12 o4
 refine Rn (hA h8 hZ) fun e14 h16 => sN (xx ?_)
 clear h7 h8
 obtain rfl := si h
 exact eR (resC (ag := true) (sz := 18) ⟨by kernel_rfl, by kernel_rfl, by kernel_rfl⟩ (ldOA (cs' := (.bool a1.Stock :: (.sl (some 170) (r10.map Notch.c) :: ((arC (cI .i8) 0 a1.Grain) ++ ([] : List AV))))) h16 o13 rfl rfl (ble rfl) rfl) res0) rfl
noncomputable def spec_l06Seal (a1 : Half) (a2 : Int) (a3 : List UInt8) (a4 : Int) : Option Int :=
 (spec_l01Text a1).bind fun r8 =>
 (spec_l06Text 2166136261 r8).bind fun r10 =>
 (spec_l06Number r10 a2).bind fun r18 =>
 (spec_l06Text r18 a3).bind fun r25 =>
 (spec_l06Number r25 a4).bind fun r31 =>
 some r31
def spec_l06Seal_enc (r : Int) : AV := .int .u32 r
theorem spec_l06Seal_ok (a1 : Half) (a2 : Int) (a3 : List UInt8) (a4 : Int) (r : Int) (h : spec_l06Seal a1 a2 a3 a4 = some r) : Ev (fun k => CN k 148 [.pt none (.bool a1.Stock :: (.sl none (a1.Notches.map Notch.c) :: ((arC (cI .i8) 0 a1.Grain) ++ ([] : List AV)))), .int .u32 a2, .str a3, .int .u32 a4] []) (fun p => rRes p.2 p.1 = spec_l06Seal_enc r) := by
 unfold spec_l06Seal at h
 obtain ⟨r8, hx7, h⟩ := bind_some h
 obtain ⟨r10, hx9, h⟩ := bind_some h
 obtain ⟨r18, hx17, h⟩ := bind_some h
 obtain ⟨r25, hx24, h⟩ := bind_some h
 obtain ⟨r31, hx30, h⟩ := bind_some h
 refine Ev.enter (F := fun k => f148 (CN k) k) (fun k => callN_eq rfl Try.func148 rfl rfl rfl (by decide +kernel) (f148_eq _ _)) (sq (Rg (kx (mvO rfl) (Rn (hN rfl (hN rfl (hN rfl (hN rfl hZ)))) fun e1 h3 h4 h5 h6 => sN (sq (Rg (kx (mvO h3) (kc (cl (v := .str r8) rfl rfl (cns rfl rfl) rfl (spec_l01Text_ok a1 _ hx7) nm) (kc (cl (v := .int .u32 r10) rfl rfl (cns rfl (cns rfl rfl)) rfl (spec_l06Text_ok 2166136261 r8 _ hx9) nm) (kx (mvO rfl) (Rn (hA h4 (hA h5 (hA h6 (hN rfl hZ)))) fun e11 h13 h14 h15 h16 => sN (sq (Rg (kx (mvO h16) (kx (mvO h13) (kc (cl (v := .int .u32 r18) rfl rfl (cns rfl (cns rfl rfl)) rfl (spec_l06Number_ok r10 a2 _ hx17) nm) (kx (mvO rfl) (Rn (hA h14 (hA h15 (hN rfl hZ))) fun e19 h21 h22 h23 => sN (sq (Rg (kx (mvO h23) (kx (mvO h21) (kc (cl (v := .int .u32 r25) rfl rfl (cns rfl (cns rfl rfl)) rfl (spec_l06Text_ok r18 a3 _ hx24) nm) (kx (mvO rfl) (Rn (hA h22 (hN rfl hZ)) fun e26 h28 h29 => sN (sq (Rg (kx (mvO h29) (kx (mvO h28) (kc (cl (v := .int .u32 r31) rfl rfl (cns rfl (cns rfl rfl)) rfl (spec_l06Number_ok r25 a4 _ hx30) nm) (kx (mvO rfl) (Rn (hN rfl hZ) fun e32 h34 => sN (xx ?_)))))))))))))))))))))))))))))))))
 clear h3 h4 h5 h6 h13 h14 h15 h21 h22 h28 h29
 obtain rfl := si h
 exact eR (resT h34 res0) rfl
noncomputable def spec_l06Who : Option ((List (List UInt8))) :=
 some [([107, 105, 110, 103] : List UInt8), ([97, 110, 110] : List UInt8), ([98, 111, 98] : List UInt8), ([99, 105, 100] : List UInt8), ([100, 97, 110] : List UInt8), ([101, 118, 101] : List UInt8)]
def spec_l06Who_enc (r : (List (List UInt8))) : AV := .sl none (r.map cS)
theorem spec_l06Who_ok (r : (List (List UInt8))) (h : spec_l06Who = some r) : Ev (fun k => CN k 146 [] []) (fun p => wkR (rRes p.2 p.1) = spec_l06Who_enc r ∧ ownAll (rRes p.2 p.1) = true) := by
 unfold spec_l06Who at h
 refine Ev.enter (F := fun k => f146 (CN k) k) (fun k => callN_eq rfl Try.func146 rfl rfl rfl (by decide +kernel) (f146_eq _ _)) (sq (Rg (kx (mvO rfl) (Rn hZ fun e1 => sN (sq (Rg (kx (litI (cns rfl (cns rfl (cns rfl (cns rfl (cns rfl (cns rfl rfl)))))) rfl ⟨rfl, by decide⟩) (kx (mvO rfl) (Rn (hN rfl hZ) fun e3 h5 => sN (xx ?_))))))))))
 obtain rfl := si h
 exact eR (resT h5 res0) (wkO (y := .sl (some 9) ([([107, 105, 110, 103] : List UInt8), ([97, 110, 110] : List UInt8), ([98, 111, 98] : List UInt8), ([99, 105, 100] : List UInt8), ([100, 97, 110] : List UInt8), ([101, 118, 101] : List UInt8)].map cS)) rfl rfl (ownA_row (c := cS) (fun _ => rfl)))
abbrev spec_l01SameNotches_b1_S := Int
abbrev spec_l01SameNotches_b1_R := Unit ⊕ Unit
def spec_l01SameNotches_b1_RS (a1 : List Notch) (a2 : List Notch) (s : spec_l01SameNotches_b1_S) (e : Env) (M : Mem) : Prop := eget e 0 = .sl none (a1.map Notch.c) ∧ eget e 1 = .sl none (a2.map Notch.c) ∧ eget e 5 = .int .i64 s
def spec_l01SameNotches_b1_RR (a1 : List Notch) (a2 : List Notch) (r : spec_l01SameNotches_b1_R) (x : Ex) (e : Env) (M : Mem) : Prop :=
  match r with
  | (.inl g) => x = .ret ∧ eget e 4 = .bool false
  | (.inr g) => x = .ext 0 ∧ True
noncomputable def spec_l01SameNotches_b1 (a1 : List Notch) (a2 : List Notch) : spec_l01SameNotches_b1_S → Option (spec_l01SameNotches_b1_S ⊕ spec_l01SameNotches_b1_R) := fun s1_1 =>
 if (decide (s1_1 < (a1.length : Int))) = true then
  (rd a1 s1_1).bind fun x42 =>
  (rd a2 s1_1).bind fun x44 =>
  if ((x42.Kind == x44.Kind) && ((x42.At == x44.At) && true)) = true then
   some (.inl (IntKind.i64.wrap (s1_1 + 1)))
  else
   some (.inr (.inl ()))
 else
  some (.inr (.inr ()))
theorem spec_l01SameNotches_b1_ok (a1 : List Notch) (a2 : List Notch) (s : spec_l01SameNotches_b1_S) (r : spec_l01SameNotches_b1_S ⊕ spec_l01SameNotches_b1_R) (h : spec_l01SameNotches_b1 a1 a2 s = some r) (e : Env) (M : Mem) (hs : spec_l01SameNotches_b1_RS a1 a2 s e M) : Ev (fun k => (f140_l4 (CN k) k (prune [0, 1, 5] e) M).bind fun q => some q) (bQ (spec_l01SameNotches_b1_RS a1 a2) (spec_l01SameNotches_b1_RR a1 a2) r) := by
 revert h hs
 revert s
 intro s1_1 h hs
 unfold spec_l01SameNotches_b1 at h
 obtain ⟨h29, h31, h33⟩ := hs
 generalize he28 : prune [0, 1, 5] e = e27
 have h30 := envp he28.symm rfl h29
 have h32 := envp he28.symm rfl h31
 have h34 := envp he28.symm rfl h33
 refine sq (sq (Rg (kx (mvO h34) (kx (mvO h30) (kx (lnS Try.underlying66 rfl) (kx (bLss rfl rfl) (Rn (hV (.sl none (a1.map Notch.c)) h30 (hV (.sl none (a2.map Notch.c)) h32 (hV (.int .i64 s1_1) h34 (hN rfl hZ)))) fun e35 h37 h38 h39 h40 => sN ?_)))))))
 clear h30 h32 h34
 rcases ite_some h with ⟨hb41, h⟩ | ⟨hb41, h⟩
 ·obtain ⟨x42, hx43, h⟩ := bind_some h
  obtain ⟨x44, hx45, h⟩ := bind_some h
  refine cT h40 hb41 (xx (sN (sq (bl (sq (Rd (kf (mvO h37) (kf (mvO h39) (kf (ixS rfl rfl hx43 Notch.fl) (kf (ldPA rfl rfl rfl) (kf (mvO h38) (kf (mvO h39) (kf (ixS rfl rfl hx45 Notch.fl) (kf (ldPA rfl rfl rfl) (kf (gNeq rfl rfl (by kernel_rfl) rfl) (fZ (Rn (hA h37 (hA h38 (hA h39 (hN rfl hZ)))) fun e46 h48 h49 h50 h51 => sN ?_)))))))))))))))))
  clear h37 h38 h39 h40
  rcases ite_some h with ⟨hb52, h⟩ | ⟨hb52, h⟩
  ·refine cF h51 (congrArg Bool.not hb52) (xx (bN (sN (Rg (kx (mvO h50) (kx (bAdd rfl rfl) (kx (mvO rfl) (Rn (hA h48 (hA h49 (hN rfl hZ))) fun e53 h55 h56 h57 => ?_))))))))
   clear h48 h49 h51
   obtain rfl := si h
   exact qN ⟨h55, h56, h57⟩
  refine cT h51 (congrArg Bool.not hb52) (sq (Rg (kx (mvO rfl) (Rn (hV (.bool false) rfl hZ) fun e58 h60 => sN (xx (bR (sR ?_)))))))
  clear h48 h49 h50 h51
  obtain rfl := si h
  exact qR ⟨rfl, h60⟩
 refine cF h40 hb41 (xx (sE ?_))
 obtain rfl := si h
 exact qE ⟨rfl, trivial⟩
noncomputable def spec_l01SameNotches (a1 : List Notch) (a2 : List Notch) : Option Bool :=
 if ((a1.length : Int) != (a2.length : Int)) = true then
  some false
 else
  (Lw (spec_l01SameNotches_b1 a1 a2) 0).bind fun r => match r with
  | (.inl _) =>
   some false
  | (.inr _) =>
   some true
def spec_l01SameNotches_enc (r : Bool) : AV := .bool r
theorem spec_l01SameNotches_ok (a1 : List Notch) (a2 : List Notch) (r : Bool) (h : spec_l01SameNotches a1 a2 = some r) : Ev (fun k => CN k 140 [.sl none (a1.map Notch.c), .sl none (a2.map Notch.c)] []) (fun p => rRes p.2 p.1 = spec_l01SameNotches_enc r) := by
 unfold spec_l01SameNotches at h
 refine Ev.enter (F := fun k => f140 (CN k) k) (fun k => callN_eq rfl Try.func140 rfl rfl rfl (by decide +kernel) (f140_eq _ _)) (sq (Rg (kx (mvO rfl) (Rn (hN rfl (hN rfl hZ)) fun e1 h3 h4 => sN (sq (sq (Rg (kx (mvO h3) (kx (lnS Try.underlying66 rfl) (kx (mvO h4) (kx (lnS Try.underlying66 rfl) (kx (bNeq rfl rfl) (Rn (hA h3 (hA h4 (hN rfl hZ))) fun e5 h7 h8 h9 => sN ?_)))))))))))))
 clear h3 h4
 rcases ite_some h with ⟨hb10, h⟩ | ⟨hb10, h⟩
 ·refine cT h9 hb10 (sq (Rg (kx (mvO rfl) (Rn (hV (.bool false) rfl hZ) fun e11 h13 => sN (xx (sR ?_))))))
  clear h7 h8 h9
  obtain rfl := si h
  exact eR (resT h13 res0) rfl
 obtain ⟨r61, hr62, h⟩ := bind_some h
 refine cF h9 hb10 (xx (sN (sq (sq (Rg (kx (mvO rfl) (Rn (hA h7 (hA h8 (hV (.int .i64 0) rfl hZ))) fun e14 h16 h17 h18 => sN (bl ?_))))))))
 clear h7 h8 h9
 rcases r61 with _ | _
 ·refine Ev.loop (RS := spec_l01SameNotches_b1_RS a1 a2) (RR := spec_l01SameNotches_b1_RR a1 a2) (fun s r h e M hs => spec_l01SameNotches_b1_ok a1 a2 s r h e M hs) hr62 ⟨h16, h17, h18⟩ fun x e64 M65 hq63 => ?_
  obtain ⟨rfl, h66⟩ := hq63
  refine bR (sR ?_)
  obtain rfl := si h
  exact eR (resT h66 res0) rfl
 refine Ev.loop (RS := spec_l01SameNotches_b1_RS a1 a2) (RR := spec_l01SameNotches_b1_RR a1 a2) (fun s r h e M hs => spec_l01SameNotches_b1_ok a1 a2 s r h e M hs) hr62 ⟨h16, h17, h18⟩ fun x e67 M68 hq63 => ?_
 obtain ⟨rfl, _⟩ := hq63
 refine bE (sN (sq (Rg (kx (mvO rfl) (Rn (hV (.bool true) rfl hZ) fun e69 h71 => sN (xx ?_))))))
 obtain rfl := si h
 exact eR (resT h71 res0) rfl
abbrev impl_fitsGrain_b1_S := Int
abbrev impl_fitsGrain_b1_R := Unit ⊕ Unit
def impl_fitsGrain_b1_RS (a1 : Ar 16 Int) (a2 : Ar 16 Int) (a3 : Int) (s : impl_fitsGrain_b1_S) (e : Env) (M : Mem) : Prop := eget e 2 = .int .i64 a3 ∧ eget e 3 = .pt none (arC (cI .i8) 0 a1) ∧ eget e 4 = .pt none (arC (cI .i8) 0 a2) ∧ eget e 9 = .int .i64 s
def impl_fitsGrain_b1_RR (a1 : Ar 16 Int) (a2 : Ar 16 Int) (a3 : Int) (r : impl_fitsGrain_b1_R) (x : Ex) (e : Env) (M : Mem) : Prop :=
  match r with
  | (.inl g) => x = .ret ∧ eget e 6 = .bool false
  | (.inr g) => x = .ext 0 ∧ eget e 2 = .int .i64 a3 ∧ eget e 3 = .pt none (arC (cI .i8) 0 a1) ∧ eget e 4 = .pt none (arC (cI .i8) 0 a2)
noncomputable def impl_fitsGrain_b1 (a1 : Ar 16 Int) (a2 : Ar 16 Int) : impl_fitsGrain_b1_S → Option (impl_fitsGrain_b1_S ⊕ impl_fitsGrain_b1_R) := fun s1_1 =>
 if (decide (s1_1 < 16)) = true then
  (rdA a1 s1_1).bind fun x47 =>
  (rdA a2 s1_1).bind fun x49 =>
  if (decide ((IntKind.i8.wrap (x47 + x49)) < (-1))) = true then
   some (.inr (.inl ()))
  else
   if (decide ((IntKind.i8.wrap (x47 + x49)) > 1)) = true then
    some (.inr (.inl ()))
   else
    some (.inl (IntKind.i64.wrap (s1_1 + 1)))
 else
  some (.inr (.inr ()))
theorem impl_fitsGrain_b1_ok (a1 : Ar 16 Int) (a2 : Ar 16 Int) (a3 : Int) (s : impl_fitsGrain_b1_S) (r : impl_fitsGrain_b1_S ⊕ impl_fitsGrain_b1_R) (h : impl_fitsGrain_b1 a1 a2 s = some r) (e : Env) (M : Mem) (hs : impl_fitsGrain_b1_RS a1 a2 a3 s e M) : Ev (fun k => (f139_l2 (CN k) k (prune [2, 3, 4, 9] e) M).bind fun q => some q) (bQ (impl_fitsGrain_b1_RS a1 a2 a3) (impl_fitsGrain_b1_RR a1 a2 a3) r) := by
 revert h hs
 revert s
 intro s1_1 h hs
 unfold impl_fitsGrain_b1 at h
 obtain ⟨h24, h26, h28, h30⟩ := hs
 generalize he23 : prune [2, 3, 4, 9] e = e22
 have h25 := envp he23.symm rfl h24
 have h27 := envp he23.symm rfl h26
 have h29 := envp he23.symm rfl h28
 have h31 := envp he23.symm rfl h30
 refine sq (Rg (kx (bLss h31 rfl) (Rn (hV (.int .i64 a3) h25 (hV (.pt none (arC (cI .i8) 0 a1)) h27 (hV (.pt none (arC (cI .i8) 0 a2)) h29 (hV (.int .i64 s1_1) h31 (hN rfl hZ))))) fun e32 h34 h35 h36 h37 h38 => sN (sq ?_))))
 clear h25 h27 h29 h31
 rcases ite_some h with ⟨hb39, h⟩ | ⟨hb39, h⟩
 ·obtain ⟨x47, hx48, h⟩ := bind_some h
  obtain ⟨x49, hx50, h⟩ := bind_some h
  refine cT h38 hb39 (xx (sN (sq (bl (sq (Rg (kx (mvO h37) (kx (mvO rfl) (Rn (hA h34 (hA h35 (hA h36 (hN rfl (hA h37 hZ))))) fun e40 h42 h43 h44 h45 h46 => sN (sq (Rd (kf (mvO h45) (kf (ixPA (c := (cI .i8)) (z := 0) (g := a1) h43 rfl hx48 (fun _ => rfl)) (kf (ldP rfl rfl) (kf (mvO h45) (kf (ixPA (c := (cI .i8)) (z := 0) (g := a2) h44 rfl hx50 (fun _ => rfl)) (kf (ldP rfl rfl) (kf (bAdd rfl rfl) (kf (mvO rfl) (fZ (Rn (hA h42 (hA h43 (hA h44 (hN rfl (hA h46 hZ))))) fun e51 h53 h54 h55 h56 h57 => sN (sq (Rg (kx (mvO h56) (kx (bLss rfl rfl) (kx (mvO rfl) ?_))))))))))))))))))))))))))
  clear h34 h35 h36 h37 h38 h42 h43 h44 h45 h46
  rcases ite_some h with ⟨hb58, h⟩ | ⟨hb58, h⟩
  ·refine kx (gsF rfl hb58) (kx (gsF rfl hb58) (kx (pkT rfl hb58 rfl) (Rn (hA h53 (hA h54 (hA h55 (hA h57 (hV (.bool true) rfl hZ))))) fun e59 h61 h62 h63 h64 h65 => sN (cT h65 rfl (sq (Rg (kx (mvO rfl) (Rn (hV (.bool false) rfl hZ) fun e66 h68 => sN (xx (bR (sR ?_)))))))))))
   clear h53 h54 h55 h56 h57 h61 h62 h63 h64 h65
   obtain rfl := si h
   exact qR ⟨rfl, h68⟩
  refine kx (guF rfl hb58 (mvO h56)) (kx (guF rfl hb58 (bGtr rfl rfl)) (kx (pkF rfl hb58 rfl) (Rn (hA h53 (hA h54 (hA h55 (hA h57 (hN rfl hZ))))) fun e69 h71 h72 h73 h74 h75 => sN ?_)))
  clear h53 h54 h55 h56 h57
  rcases ite_some h with ⟨hb76, h⟩ | ⟨hb76, h⟩
  ·refine cT h75 hb76 (sq (Rg (kx (mvO rfl) (Rn (hV (.bool false) rfl hZ) fun e77 h79 => sN (xx (bR (sR ?_)))))))
   clear h71 h72 h73 h74 h75
   obtain rfl := si h
   exact qR ⟨rfl, h79⟩
  refine cF h75 hb76 (xx (bN (sN (Rg (kx (bAdd h74 rfl) (kx (mvO rfl) (Rn (hA h71 (hA h72 (hA h73 (hN rfl hZ)))) fun e80 h82 h83 h84 h85 => ?_)))))))
  clear h71 h72 h73 h75
  obtain rfl := si h
  exact qN ⟨h82, h83, h84, h85⟩
 refine cF h38 hb39 (xx (sE ?_))
 obtain rfl := si h
 exact qE ⟨rfl, h34, h35, h36⟩
noncomputable def impl_fitsGrain (a1 : Ar 16 Int) (a2 : Ar 16 Int) (a3 : Int) : Option Bool :=
 (Lw (impl_fitsGrain_b1 a1 a2) 0).bind fun r => match r with
 | (.inl _) =>
  some false
 | (.inr _) =>
  (impl_worn a1 a2).bind fun r98 =>
  some (decide ((r98.length : Int) ≤ a3))
def impl_fitsGrain_enc (r : Bool) : AV := .bool r
theorem impl_fitsGrain_ok (a1 : Ar 16 Int) (a2 : Ar 16 Int) (a3 : Int) (r : Bool) (h : impl_fitsGrain a1 a2 a3 = some r) : Ev (fun k => CN k 139 [.agg (arC (cI .i8) 0 a1), .agg (arC (cI .i8) 0 a2), .int .i64 a3] []) (fun p => rRes p.2 p.1 = impl_fitsGrain_enc r) := by
 unfold impl_fitsGrain at h
 obtain ⟨r86, hr87, h⟩ := bind_some h
 refine Ev.enter (F := fun k => f139 (CN k) k) (fun k => callN_eq rfl Try.func139 rfl rfl rfl (by decide +kernel) (f139_eq _ _)) (sq (Rg (kx (bxI rfl rfl ⟨rfl, rfl, by decide⟩) (kx (bxI rfl rfl ⟨rfl, rfl, by decide⟩) (kx (mvO rfl) (Rn (hN rfl (hN rfl (hN rfl hZ))) fun e1 h3 h4 h5 => sN (sq (sq (Rg (kx (mvO rfl) (Rn (hA h3 (hA h4 (hA h5 (hV (.int .i64 0) rfl hZ)))) fun e6 h8 h9 h10 h11 => sN (bl ?_))))))))))))
 clear h3 h4 h5
 rcases r86 with _ | _
 ·refine Ev.loop (RS := impl_fitsGrain_b1_RS a1 a2 a3) (RR := impl_fitsGrain_b1_RR a1 a2 a3) (fun s r h e M hs => impl_fitsGrain_b1_ok a1 a2 a3 s r h e M hs) hr87 ⟨h8, h9, h10, h11⟩ fun x e89 M90 hq88 => ?_
  obtain ⟨rfl, h91⟩ := hq88
  refine bR (sR ?_)
  obtain rfl := si h
  exact eR (resT h91 res0) rfl
 refine Ev.loop (RS := impl_fitsGrain_b1_RS a1 a2 a3) (RR := impl_fitsGrain_b1_RR a1 a2 a3) (fun s r h e M hs => impl_fitsGrain_b1_ok a1 a2 a3 s r h e M hs) hr87 ⟨h8, h9, h10, h11⟩ fun x e92 M93 hq88 => ?_
 obtain ⟨rfl, h94, h95, h96⟩ := hq88
 obtain ⟨r98, hx97, h⟩ := bind_some h
 refine bE (sN (sq (Rg (kx (ldPA h95 rfl rfl) (kx (ldPA h96 rfl rfl) (kc (clO (v := .sl none (r98.map (cI .i64))) rfl rfl (cns rfl (cns rfl rfl)) rfl (impl_worn_ok a1 a2 _ hx97)) (kx (lnS Try.underlying24 rfl) (kx (mvO h94) (kx (bLeq rfl rfl) (kx (mvO rfl) (Rn (hN rfl hZ) fun e99 h101 => sN (xx ?_))))))))))))
 clear h94 h95 h96
 obtain rfl := si h
 exact eR (resT h101 res0) rfl
abbrev slices_Equal_Notch_b1_S := Int
abbrev slices_Equal_Notch_b1_R := Unit ⊕ Unit
def slices_Equal_Notch_b1_RS (a1 : List Notch) (a2 : List Notch) (s : slices_Equal_Notch_b1_S) (e : Env) (M : Mem) : Prop := eget e 0 = .sl none (a1.map Notch.c) ∧ eget e 1 = .sl none (a2.map Notch.c) ∧ eget e 12 = .int .i64 (a1.length : Int) ∧ eget e 13 = .int .i64 s
def slices_Equal_Notch_b1_RR (a1 : List Notch) (a2 : List Notch) (r : slices_Equal_Notch_b1_R) (x : Ex) (e : Env) (M : Mem) : Prop :=
  match r with
  | (.inl g) => x = .ret ∧ eget e 4 = .bool false
  | (.inr g) => x = .ext 0 ∧ True
noncomputable def slices_Equal_Notch_b1 (a1 : List Notch) (a2 : List Notch) : slices_Equal_Notch_b1_S → Option (slices_Equal_Notch_b1_S ⊕ slices_Equal_Notch_b1_R) := fun s1_1 =>
 if (decide (s1_1 < (a1.length : Int))) = true then
  (rd a1 s1_1).bind fun x55 =>
  (rd a2 s1_1).bind fun x57 =>
  if ((x55.Kind == x57.Kind) && ((x55.At == x57.At) && true)) = true then
   some (.inl (IntKind.i64.wrap (s1_1 + 1)))
  else
   some (.inr (.inl ()))
 else
  some (.inr (.inr ()))
theorem slices_Equal_Notch_b1_ok (a1 : List Notch) (a2 : List Notch) (s : slices_Equal_Notch_b1_S) (r : slices_Equal_Notch_b1_S ⊕ slices_Equal_Notch_b1_R) (h : slices_Equal_Notch_b1 a1 a2 s = some r) (e : Env) (M : Mem) (hs : slices_Equal_Notch_b1_RS a1 a2 s e M) : Ev (fun k => (f138_l4 (CN k) k (prune [0, 1, 12, 13] e) M).bind fun q => some q) (bQ (slices_Equal_Notch_b1_RS a1 a2) (slices_Equal_Notch_b1_RR a1 a2) r) := by
 revert h hs
 revert s
 intro s1_1 h hs
 unfold slices_Equal_Notch_b1 at h
 obtain ⟨h32, h34, h36, h38⟩ := hs
 generalize he31 : prune [0, 1, 12, 13] e = e30
 have h33 := envp he31.symm rfl h32
 have h35 := envp he31.symm rfl h34
 have h37 := envp he31.symm rfl h36
 have h39 := envp he31.symm rfl h38
 refine sq (Rg (kx (bLss h39 h37) (Rn (hV (.sl none (a1.map Notch.c)) h33 (hV (.sl none (a2.map Notch.c)) h35 (hV (.int .i64 (a1.length : Int)) h37 (hV (.int .i64 s1_1) h39 (hN rfl hZ))))) fun e40 h42 h43 h44 h45 h46 => sN (sq ?_))))
 clear h33 h35 h37 h39
 rcases ite_some h with ⟨hb47, h⟩ | ⟨hb47, h⟩
 ·obtain ⟨x55, hx56, h⟩ := bind_some h
  obtain ⟨x57, hx58, h⟩ := bind_some h
  refine cT h46 hb47 (xx (sN (sq (bl (sq (Rg (kx (mvO h45) (kx (mvO rfl) (Rn (hA h42 (hA h43 (hN rfl (hA h44 (hA h45 hZ))))) fun e48 h50 h51 h52 h53 h54 => sN (sq (Rd (kf (mvO h50) (kf (mvO h52) (kf (ixS rfl rfl hx56 Notch.fl) (kf (ldPA rfl rfl rfl) (kf (mvO h51) (kf (mvO h52) (kf (ixS rfl rfl hx58 Notch.fl) (kf (ldPA rfl rfl rfl) (kf (gNeq rfl rfl (by kernel_rfl) rfl) (fZ (Rn (hA h50 (hA h51 (hA h53 (hA h54 (hN rfl hZ))))) fun e59 h61 h62 h63 h64 h65 => sN ?_))))))))))))))))))))))
  clear h42 h43 h44 h45 h46 h50 h51 h52 h53 h54
  rcases ite_some h with ⟨hb66, h⟩ | ⟨hb66, h⟩
  ·refine cF h65 (congrArg Bool.not hb66) (xx (bN (sN (Rg (kx (bAdd h64 rfl) (kx (mvO rfl) (Rn (hA h61 (hA h62 (hA h63 (hN rfl hZ)))) fun e67 h69 h70 h71 h72 => ?_)))))))
   clear h61 h62 h63 h65
   obtain rfl := si h
   exact qN ⟨h69, h70, h71, h72⟩
  refine cT h65 (congrArg Bool.not hb66) (sq (Rg (kx (mvO rfl) (Rn (hV (.bool false) rfl hZ) fun e73 h75 => sN (xx (bR (sR ?_)))))))
  clear h61 h62 h63 h64 h65
  obtain rfl := si h
  exact qR ⟨rfl, h75⟩
 refine cF h46 hb47 (xx (sE ?_))
 obtain rfl := si h
 exact qE ⟨rfl, trivial⟩
noncomputable def slices_Equal_Notch (a1 : List Notch) (a2 : List Notch) : Option Bool :=
 if ((a1.length : Int) != (a2.length : Int)) = true then
  some false
 else
  (Lw (slices_Equal_Notch_b1 a1 a2) 0).bind fun r => match r with
  | (.inl _) =>
   some false
  | (.inr _) =>
   some true
def slices_Equal_Notch_enc (r : Bool) : AV := .bool r
theorem slices_Equal_Notch_ok (a1 : List Notch) (a2 : List Notch) (r : Bool) (h : slices_Equal_Notch a1 a2 = some r) : Ev (fun k => CN k 138 [.sl none (a1.map Notch.c), .sl none (a2.map Notch.c)] []) (fun p => rRes p.2 p.1 = slices_Equal_Notch_enc r) := by
 unfold slices_Equal_Notch at h
 refine Ev.enter (F := fun k => f138 (CN k) k) (fun k => callN_eq rfl Try.func138 rfl rfl rfl (by decide +kernel) (f138_eq _ _)) (sq (Rg (kx (mvO rfl) (Rn (hN rfl (hN rfl hZ)) fun e1 h3 h4 => sN (sq (sq (Rg (kx (mvO h3) (kx (lnS Try.underlying66 rfl) (kx (mvO h4) (kx (lnS Try.underlying66 rfl) (kx (bNeq rfl rfl) (Rn (hA h3 (hA h4 (hN rfl hZ))) fun e5 h7 h8 h9 => sN ?_)))))))))))))
 clear h3 h4
 rcases ite_some h with ⟨hb10, h⟩ | ⟨hb10, h⟩
 ·refine cT h9 hb10 (sq (Rg (kx (mvO rfl) (Rn (hV (.bool false) rfl hZ) fun e11 h13 => sN (xx (sR ?_))))))
  clear h7 h8 h9
  obtain rfl := si h
  exact eR (resT h13 res0) rfl
 obtain ⟨r76, hr77, h⟩ := bind_some h
 refine cF h9 hb10 (xx (sN (sq (sq (Rg (kx (mvO h7) (kx (lnS Try.underlying66 rfl) (kx (mvO rfl) (Rn (hA h7 (hA h8 (hN rfl (hV (.int .i64 0) rfl hZ)))) fun e14 h16 h17 h18 h19 => sN (bl ?_))))))))))
 clear h7 h8 h9
 rcases r76 with _ | _
 ·refine Ev.loop (RS := slices_Equal_Notch_b1_RS a1 a2) (RR := slices_Equal_Notch_b1_RR a1 a2) (fun s r h e M hs => slices_Equal_Notch_b1_ok a1 a2 s r h e M hs) hr77 ⟨h16, h17, h18, h19⟩ fun x e79 M80 hq78 => ?_
  obtain ⟨rfl, h81⟩ := hq78
  refine bR (sR ?_)
  obtain rfl := si h
  exact eR (resT h81 res0) rfl
 refine Ev.loop (RS := slices_Equal_Notch_b1_RS a1 a2) (RR := slices_Equal_Notch_b1_RR a1 a2) (fun s r h e M hs => slices_Equal_Notch_b1_ok a1 a2 s r h e M hs) hr77 ⟨h16, h17, h18, h19⟩ fun x e82 M83 hq78 => ?_
 obtain ⟨rfl, _⟩ := hq78
 refine bE (sN (sq (Rg (kx (mvO rfl) (Rn (hV (.bool true) rfl hZ) fun e84 h86 => sN (xx ?_))))))
 obtain rfl := si h
 exact eR (resT h86 res0) rfl
noncomputable def impl_Notch_end (a1 : Notch) : Option Int :=
 (impl_width (IntKind.i64.wrap a1.Kind)).bind fun r5 =>
 some (IntKind.i64.wrap ((IntKind.i64.wrap a1.At) + r5))
def impl_Notch_end_enc (r : Int) : AV := .int .i64 r
theorem impl_Notch_end_ok (a1 : Notch) (r : Int) (h : impl_Notch_end a1 = some r) : Ev (fun k => CN k 137 [.agg [.int .i8 a1.Kind, .int .i16 a1.At]] []) (fun p => rRes p.2 p.1 = impl_Notch_end_enc r) := by
 unfold impl_Notch_end at h
 obtain ⟨r5, hx4, h⟩ := bind_some h
 refine Ev.enter (F := fun k => f137 (CN k) k) (fun k => callN_eq rfl Try.func137 rfl rfl rfl (by decide +kernel) (f137_eq _ _)) (sq (Rg (kx (bxI rfl rfl ⟨rfl, rfl, by decide⟩) (kx (mvO rfl) (Rn (hN rfl hZ) fun e1 h3 => sN (sq (Rd (kf (faP h3 ⟨ble rfl, blt rfl⟩ rfl) (kf (ldP rfl rfl) (kf (cvI rfl) (kf (faP h3 ⟨ble rfl, blt rfl⟩ rfl) (kf (ldP rfl rfl) (kf (cvI rfl) (fc (cl (v := .int .i64 r5) rfl rfl (cns rfl rfl) rfl (impl_width_ok (IntKind.i64.wrap a1.Kind) _ hx4) nm) (kf (bAdd rfl rfl) (kf (mvO rfl) (fZ (Rn (hN rfl hZ) fun e6 h8 => sN (xx ?_)))))))))))))))))))
 clear h3
 obtain rfl := si h
 exact eR (resT h8 res0) rfl
noncomputable def impl_isKind (a1 : Int) : Option Bool :=
 if (decide (a1 ≥ 0)) = true then
  some (decide (a1 ≤ 5))
 else
  some false
def impl_isKind_enc (r : Bool) : AV := .bool r
theorem impl_isKind_ok (a1 : Int) (r : Bool) (h : impl_isKind a1 = some r) : Ev (fun k => CN k 136 [.int .i64 a1] []) (fun p => rRes p.2 p.1 = impl_isKind_enc r) := by
 unfold impl_isKind at h
 refine Ev.enter (F := fun k => f136 (CN k) k) (fun k => callN_eq rfl Try.func136 rfl rfl rfl (by decide +kernel) (f136_eq _ _)) (sq (Rg (kx (mvO rfl) (Rn (hN rfl hZ) fun e1 h3 => sN (sq (Rg (kx (mvO h3) (kx (bGeq rfl rfl) (kx (mvO rfl) ?_)))))))))
 rcases ite_some h with ⟨hb4, h⟩ | ⟨hb4, h⟩
 ·refine kx (guT rfl hb4 (mvO h3)) (kx (guT rfl hb4 (bLeq rfl rfl)) (kx (pkT rfl hb4 rfl) (kx (mvO rfl) (Rn (hN rfl hZ) fun e5 h7 => sN (xx ?_)))))
  clear h3
  obtain rfl := si h
  exact eR (resT h7 res0) rfl
 refine kx (gsT rfl hb4) (kx (gsT rfl hb4) (kx (pkF rfl hb4 rfl) (kx (mvO rfl) (Rn (hV (.bool false) rfl hZ) fun e8 h10 => sN (xx ?_)))))
 clear h3
 obtain rfl := si h
 exact eR (resT h10 res0) rfl
abbrev spec_l01Opposite_b1_S := Int × (Ar 16 Int)
abbrev spec_l01Opposite_b1_R := (Ar 16 Int)
def spec_l01Opposite_b1_RS (i1_1 : Nat) (i1_2 : Nat) (s : spec_l01Opposite_b1_S) (e : Env) (M : Mem) : Prop := eget e 1 = .loc i1_1 1 0 0 ∧ eget e 2 = .loc i1_2 1 0 0 ∧ eget e 3 = .int .i64 s.1 ∧ M[i1_1]? = some (.live ⟨.box, 68, 16, [(arC (cI .i8) 0 s.2)]⟩) ∧ M[i1_2]? = some (.live ⟨.box, 68, 16, [(arC (cI .i8) 0 (Ar.rep 16 0))]⟩)
def spec_l01Opposite_b1_RR (i1_1 : Nat) (i1_2 : Nat) (g : spec_l01Opposite_b1_R) (x : Ex) (e : Env) (M : Mem) : Prop := x = .ext 0 ∧ eget e 1 = .loc i1_1 1 0 0 ∧ eget e 2 = .loc i1_2 1 0 0 ∧ M[i1_1]? = some (.live ⟨.box, 68, 16, [(arC (cI .i8) 0 g)]⟩) ∧ M[i1_2]? = some (.live ⟨.box, 68, 16, [(arC (cI .i8) 0 (Ar.rep 16 0))]⟩)
noncomputable def spec_l01Opposite_b1 : spec_l01Opposite_b1_S → Option (spec_l01Opposite_b1_S ⊕ spec_l01Opposite_b1_R) := fun (s1_1, s1_2) =>
 if (decide (s1_1 < 16)) = true then
  (rdA s1_2 s1_1).bind fun x47 =>
  (rdA s1_2 s1_1).bind fun x49 =>
  some (.inl ((IntKind.i64.wrap (s1_1 + 1)), (s1_2.set s1_1.toNat (IntKind.i8.wrap (0 - x47)))))
 else
  some (.inr s1_2)
theorem spec_l01Opposite_b1_ok (i1_1 : Nat) (i1_2 : Nat) (ne9 : i1_1 ≠ i1_2) (s : spec_l01Opposite_b1_S) (r : spec_l01Opposite_b1_S ⊕ spec_l01Opposite_b1_R) (h : spec_l01Opposite_b1 s = some r) (e : Env) (M : Mem) (hs : spec_l01Opposite_b1_RS i1_1 i1_2 s e M) : Ev (fun k => (f135_l2 (CN k) k (prune [1, 2, 3] e) M).bind fun q => some q) (bQ (spec_l01Opposite_b1_RS i1_1 i1_2) (spec_l01Opposite_b1_RR i1_1 i1_2) r) := by
 obtain ⟨s1_1, s1_2⟩ := s
 unfold spec_l01Opposite_b1 at h
 obtain ⟨h32, h34, h36, o38, o39⟩ := hs
 generalize he31 : prune [1, 2, 3] e = e30
 have h33 := envp he31.symm rfl h32
 have h35 := envp he31.symm rfl h34
 have h37 := envp he31.symm rfl h36
 refine sq (sq (Rg (kx (mvO h37) (kx (bLss rfl rfl) (Rn (hV (.loc i1_1 1 0 0) h33 (hV (.loc i1_2 1 0 0) h35 (hV (.int .i64 s1_1) h37 (hN rfl hZ)))) fun e40 h42 h43 h44 h45 => sN ?_)))))
 clear h33 h35 h37
 rcases ite_some h with ⟨hb46, h⟩ | ⟨hb46, h⟩
 ·obtain ⟨x47, hx48, h⟩ := bind_some h
  obtain ⟨x49, hx50, h⟩ := bind_some h
  refine cT h45 hb46 (xx (sN (sq (bl (Rg (kx (mvO h44) (kx (mvO h44) (kx (ixLA h42 o38 rfl rfl hx48) (kx (ldLA (K := AV.int .i8) (c := (cI .i8)) (z := 0) (g := s1_2) (pre := []) (post := []) rfl o38 rfl rfl rfl rfl (fun _ => rfl) hx48) (kx (uNeg rfl) (kx (ixLA h42 o38 rfl rfl hx50) (kw (stLA (c := (cI .i8)) (z := 0) (g := s1_2) (pre := []) (post := []) (u' := (IntKind.i8.wrap (0 - x47))) rfl rfl o38 rfl rfl rfl rfl (fun _ => rfl) rfl rfl hx50) fun M51 hM52 => ?_))))))))))))
  have o53 : M51[i1_1]? = some (.live ⟨.box, 68, 16, [(arC (cI .i8) 0 (s1_2.set s1_1.toNat (IntKind.i8.wrap (0 - x47))))]⟩) := set_same hM52 o38
  have o54 := set_ne hM52 (Ne.symm ne9) o39
  refine Rn (hA h42 (hA h43 (hA h44 hZ))) fun e55 h57 h58 h59 => bN (sN (Rg (kx (mvO h59) (kx (bAdd rfl rfl) (kx (mvO rfl) (Rn (hA h57 (hA h58 (hN rfl hZ))) fun e60 h62 h63 h64 => ?_))))))
  clear h42 h43 h44 h45 h57 h58
  obtain rfl := si h
  exact qN ⟨h62, h63, h64, o53, o54⟩
 refine cF h45 hb46 (xx (sE ?_))
 obtain rfl := si h
 exact qE ⟨rfl, h42, h43, o38, o39⟩
noncomputable def spec_l01Opposite (a1 : Ar 16 Int) : Option ((Ar 16 Int)) :=
 (Lw (spec_l01Opposite_b1) (0, a1)).bind fun y70 =>
 some y70
def spec_l01Opposite_enc (r : (Ar 16 Int)) : AV := .agg (arC (cI .i8) 0 r)
theorem spec_l01Opposite_ok (a1 : Ar 16 Int) (r : (Ar 16 Int)) (h : spec_l01Opposite a1 = some r) : Ev (fun k => CN k 135 [.agg (arC (cI .i8) 0 a1)] []) (fun p => rRes p.2 p.1 = spec_l01Opposite_enc r) := by
 unfold spec_l01Opposite at h
 refine Ev.enter (F := fun k => f135 (CN k) k) (fun k => callN_eq rfl Try.func135 rfl rfl rfl (by decide +kernel) (f135_eq _ _)) (sq (Rg (ku (bxO rfl rfl ⟨rfl, rfl, by decide⟩) fun M2 hM3 => ?_)))
 have o4 : M2[([] : Mem).length]? = some (.live ⟨.box, 68, 16, [(arC (cI .i8) 0 a1)]⟩) := push_new hM3
 refine ku (alO zero68) fun M6 hM7 => ?_
 have o8 := push_old hM7 o4
 have ne9 := ne_new o4
 have o10 : M6[M2.length]? = some (.live ⟨.box, 68, 16, [(arC (cI .i8) 0 (Ar.rep 16 0))]⟩) := push_new hM7
 obtain ⟨y70, hr66, h⟩ := bind_some h
 refine Rn (hV (.loc ([] : Mem).length 1 0 0) rfl (hV (.loc M2.length 1 0 0) rfl hZ)) fun e11 h13 h14 => sN (sq (sq (Rg (kx (mvO rfl) (Rn (hA h13 (hA h14 (hV (.int .i64 0) rfl hZ))) fun e15 h17 h18 h19 => sN (bl (Ev.loop (RS := spec_l01Opposite_b1_RS (([] : Mem).length) M2.length) (RR := spec_l01Opposite_b1_RR (([] : Mem).length) M2.length) (fun s r h e M hs => spec_l01Opposite_b1_ok (([] : Mem).length) M2.length ne9 s r h e M hs) hr66 ⟨h17, h18, h19, o8, o10⟩ fun x e68 M69 hq67 => ?_)))))))
 clear h13 h14
 obtain ⟨rfl, h71, h72, o73, o74⟩ := hq67
 refine bE (sN (sq (Rg (kx (ldOA (cs' := (arC (cI .i8) 0 y70)) h71 o73 rfl rfl (ble rfl) rfl) (kw (stO h72 rfl o74 rfl rfl ⟨rfl, ble rfl⟩ rfl rfl) fun M75 hM76 => ?_)))))
 have o77 := set_ne hM76 ne9 o73
 have o78 : M75[M2.length]? = some (.live ⟨.box, 68, 16, [(arC (cI .i8) 0 y70)]⟩) := set_same hM76 o74
 refine Rn (hV (.loc M2.length 1 0 0) h72 hZ) fun e79 h81 => sN (xx ?_)
 clear h71 h72
 obtain rfl := si h
 exact eR (resC (ag := true) (sz := 16) ⟨by kernel_rfl, by kernel_rfl, by kernel_rfl⟩ (ldOA (cs' := (arC (cI .i8) 0 y70)) h81 o78 rfl rfl (ble rfl) rfl) res0) rfl
noncomputable def spec_l01Amount (a1 : Int) : Option Bool :=
 (spec_l00In a1 0 100000000).bind fun r5 =>
 some r5
def spec_l01Amount_enc (r : Bool) : AV := .bool r
theorem spec_l01Amount_ok (a1 : Int) (r : Bool) (h : spec_l01Amount a1 = some r) : Ev (fun k => CN k 89 [.int .i64 a1] []) (fun p => rRes p.2 p.1 = spec_l01Amount_enc r) := by
 unfold spec_l01Amount at h
 obtain ⟨r5, hx4, h⟩ := bind_some h
 refine Ev.enter (F := fun k => f89 (CN k) k) (fun k => callN_eq rfl Try.func89 rfl rfl rfl (by decide +kernel) (f89_eq _ _)) (sq (Rg (kx (mvO rfl) (Rn (hN rfl hZ) fun e1 h3 => sN (sq (Rg (kx (mvO h3) (kc (cl (v := .bool r5) rfl rfl (cns rfl (cns rfl (cns rfl rfl))) rfl (spec_l00In_ok a1 0 100000000 _ hx4) nm) (kx (mvO rfl) (Rn (hN rfl hZ) fun e6 h8 => sN (xx ?_)))))))))))
 clear h3
 obtain rfl := si h
 exact eR (resT h8 res0) rfl
noncomputable def spec_NotchesFor (a1 : Int) : Option ((List Notch) × Int) :=
 (spec_l01Amount a1).bind fun r5 =>
 if r5 = true then
  (spec_l01For a1).bind fun (r12, r13) =>
  if r13 = true then
   some (r12, 0)
  else
   some (([] : List Notch), 3)
 else
  some (([] : List Notch), 2)
def spec_NotchesFor_enc (r : (List Notch) × Int) : AV := .tup [.sl none (r.1.map Notch.c), .int .i64 r.2]
theorem spec_NotchesFor_ok (a1 : Int) (r : (List Notch) × Int) (h : spec_NotchesFor a1 = some r) : Ev (fun k => CN k 133 [.int .i64 a1] []) (fun p => wkR (rRes p.2 p.1) = spec_NotchesFor_enc r) := by
 unfold spec_NotchesFor at h
 obtain ⟨r5, hx4, h⟩ := bind_some h
 refine Ev.enter (F := fun k => f133 (CN k) k) (fun k => callN_eq rfl Try.func133 rfl rfl rfl (by decide +kernel) (f133_eq _ _)) (sq (Rg (kx (mvO rfl) (kx (mvO rfl) (Rn (hN rfl hZ) fun e1 h3 => sN (sq (sq (Rg (kx (mvO h3) (kc (cl (v := .bool r5) rfl rfl (cns rfl rfl) rfl (spec_l01Amount_ok a1 _ hx4) nm) (kx (uNot rfl) (Rn (hA h3 (hN rfl hZ)) fun e6 h8 h9 => sN ?_))))))))))))
 clear h3
 rcases ite_some h with ⟨hb10, h⟩ | ⟨hb10, h⟩
 ·obtain ⟨⟨r12, r13⟩, hx11, h⟩ := bind_some h
  refine cF h9 (congrArg Bool.not hb10) (xx (sN (sq (Rg (kx (mvO h8) (kc (clO (v := .tup [.sl none (r12.map Notch.c), .bool r13]) rfl rfl (cns rfl rfl) rfl (spec_l01For_ok a1 _ hx11)) (kx (mvO rfl) (kx (exT rfl rfl) (kx (exT rfl rfl) (kx (mvO rfl) (kx (mvO rfl) (Rn (hN rfl (hN rfl hZ)) fun e14 h16 h17 => sN (sq (sq (Rg (kx (mvO h17) (kx (uNot rfl) (Rn (hA h16 (hN rfl hZ)) fun e18 h20 h21 => sN ?_))))))))))))))))))
  clear h8 h9 h16 h17
  rcases ite_some h with ⟨hb22, h⟩ | ⟨hb22, h⟩
  ·refine cF h21 (congrArg Bool.not hb22) (xx (sN (sq (Rg (kx (mvO h20) (kx (mvO rfl) (kx (mvO rfl) (Rn (hN rfl (hV (.int .i64 0) rfl hZ)) fun e23 h25 h26 => sN (xx ?_)))))))))
   clear h20 h21
   obtain rfl := si h
   exact eR (resT h25 (resT h26 res0)) (wkH (y := .tup [.sl none (r12.map Notch.c), .int .i64 0]) rfl rfl)
  refine cT h21 (congrArg Bool.not hb22) (sq (Rg (kx (litI rfl rfl ⟨rfl, by decide⟩) (kx (mvO rfl) (kx (mvO rfl) (Rn (hN rfl (hV (.int .i64 3) rfl hZ)) fun e27 h29 h30 => sN (xx (sR ?_))))))))
  clear h20 h21
  obtain rfl := si h
  exact eR (resT h29 (resT h30 res0)) (wkH (y := .tup [.sl (some 170) (([] : List Notch).map Notch.c), .int .i64 3]) rfl rfl)
 refine cT h9 (congrArg Bool.not hb10) (sq (Rg (kx (litI rfl rfl ⟨rfl, by decide⟩) (kx (mvO rfl) (kx (mvO rfl) (Rn (hN rfl (hV (.int .i64 2) rfl hZ)) fun e31 h33 h34 => sN (xx (sR ?_))))))))
 clear h8 h9
 obtain rfl := si h
 exact eR (resT h33 (resT h34 res0)) (wkH (y := .tup [.sl (some 170) (([] : List Notch).map Notch.c), .int .i64 2]) rfl rfl)
abbrev spec_l06Name_b1_S := Int
abbrev spec_l06Name_b1_R := Unit ⊕ Unit
def spec_l06Name_b1_RS (a1 : List UInt8) (s : spec_l06Name_b1_S) (e : Env) (M : Mem) : Prop := eget e 0 = .str a1 ∧ eget e 3 = .int .i64 s
def spec_l06Name_b1_RR (a1 : List UInt8) (r : spec_l06Name_b1_R) (x : Ex) (e : Env) (M : Mem) : Prop :=
  match r with
  | (.inl g) => x = .ret ∧ eget e 2 = .bool false
  | (.inr g) => x = .ext 0 ∧ eget e 0 = .str a1
noncomputable def spec_l06Name_b1 (a1 : List UInt8) : spec_l06Name_b1_S → Option (spec_l06Name_b1_S ⊕ spec_l06Name_b1_R) := fun s1_1 =>
 if (decide (s1_1 < (a1.length : Int))) = true then
  (rd a1 s1_1).bind fun x26 =>
  if (decide ((x26.toNat : Int) < 97)) = true then
   some (.inr (.inl ()))
  else
   (rd a1 s1_1).bind fun x37 =>
   if (decide ((x37.toNat : Int) > 122)) = true then
    some (.inr (.inl ()))
   else
    some (.inl (IntKind.i64.wrap (s1_1 + 1)))
 else
  some (.inr (.inr ()))
theorem spec_l06Name_b1_ok (a1 : List UInt8) (s : spec_l06Name_b1_S) (r : spec_l06Name_b1_S ⊕ spec_l06Name_b1_R) (h : spec_l06Name_b1 a1 s = some r) (e : Env) (M : Mem) (hs : spec_l06Name_b1_RS a1 s e M) : Ev (fun k => (f132_l2 (CN k) k (prune [0, 3] e) M).bind fun q => some q) (bQ (spec_l06Name_b1_RS a1) (spec_l06Name_b1_RR a1) r) := by
 revert h hs
 revert s
 intro s1_1 h hs
 unfold spec_l06Name_b1 at h
 obtain ⟨h16, h18⟩ := hs
 generalize he15 : prune [0, 3] e = e14
 have h17 := envp he15.symm rfl h16
 have h19 := envp he15.symm rfl h18
 refine sq (sq (Rg (kx (mvO h19) (kx (mvO h17) (kx (lnB Try.underlying9 rfl) (kx (bLss rfl rfl) (Rn (hV (.str a1) h17 (hV (.int .i64 s1_1) h19 (hN rfl hZ))) fun e20 h22 h23 h24 => sN ?_)))))))
 clear h17 h19
 rcases ite_some h with ⟨hb25, h⟩ | ⟨hb25, h⟩
 ·obtain ⟨x26, hx27, h⟩ := bind_some h
  refine cT h24 hb25 (xx (sN (sq (bl (sq (Rg (kx (mvO h22) (kx (mvO h23) (kx (ixB rfl rfl hx27) (kx (bLss rfl rfl) (kx (mvO rfl) ?_)))))))))))
  rcases ite_some h with ⟨hb28, h⟩ | ⟨hb28, h⟩
  ·refine kx (gsF rfl hb28) (kx (gsF rfl hb28) (kx (gsF rfl hb28) (kx (gsF rfl hb28) (kx (pkT rfl hb28 rfl) (Rn (hA h22 (hA h23 (hV (.bool true) rfl hZ))) fun e29 h31 h32 h33 => sN (cT h33 rfl (sq (Rg (kx (mvO rfl) (Rn (hV (.bool false) rfl hZ) fun e34 h36 => sN (xx (bR (sR ?_)))))))))))))
   clear h22 h23 h24 h31 h32 h33
   obtain rfl := si h
   exact qR ⟨rfl, h36⟩
  obtain ⟨x37, hx38, h⟩ := bind_some h
  refine kx (guF rfl hb28 (mvO h22)) (kx (guF rfl hb28 (mvO h23)) (kx (guF rfl hb28 (ixB rfl rfl hx38)) (kx (guF rfl hb28 (bGtr rfl rfl)) (kx (pkF rfl hb28 rfl) (Rn (hA h22 (hA h23 (hN rfl hZ))) fun e39 h41 h42 h43 => sN ?_)))))
  clear h22 h23 h24
  rcases ite_some h with ⟨hb44, h⟩ | ⟨hb44, h⟩
  ·refine cT h43 hb44 (sq (Rg (kx (mvO rfl) (Rn (hV (.bool false) rfl hZ) fun e45 h47 => sN (xx (bR (sR ?_)))))))
   clear h41 h42 h43
   obtain rfl := si h
   exact qR ⟨rfl, h47⟩
  refine cF h43 hb44 (xx (bN (sN (Rg (kx (mvO h42) (kx (bAdd rfl rfl) (kx (mvO rfl) (Rn (hA h41 (hN rfl hZ)) fun e48 h50 h51 => ?_))))))))
  clear h41 h43
  obtain rfl := si h
  exact qN ⟨h50, h51⟩
 refine cF h24 hb25 (xx (sE ?_))
 obtain rfl := si h
 exact qE ⟨rfl, h22⟩
noncomputable def spec_l06Name (a1 : List UInt8) : Option Bool :=
 (Lw (spec_l06Name_b1 a1) 0).bind fun r => match r with
 | (.inl _) =>
  some false
 | (.inr _) =>
  if (a1 == ([] : List UInt8)) = true then
   some false
  else
   some (decide ((a1.length : Int) ≤ 12))
def spec_l06Name_enc (r : Bool) : AV := .bool r
theorem spec_l06Name_ok (a1 : List UInt8) (r : Bool) (h : spec_l06Name a1 = some r) : Ev (fun k => CN k 132 [.str a1] []) (fun p => rRes p.2 p.1 = spec_l06Name_enc r) := by
 unfold spec_l06Name at h
 obtain ⟨r52, hr53, h⟩ := bind_some h
 refine Ev.enter (F := fun k => f132 (CN k) k) (fun k => callN_eq rfl Try.func132 rfl rfl rfl (by decide +kernel) (f132_eq _ _)) (sq (Rg (kx (mvO rfl) (Rn (hN rfl hZ) fun e1 h3 => sN (sq (sq (Rg (kx (mvO rfl) (Rn (hA h3 (hV (.int .i64 0) rfl hZ)) fun e4 h6 h7 => sN (bl ?_))))))))))
 clear h3
 rcases r52 with _ | _
 ·refine Ev.loop (RS := spec_l06Name_b1_RS a1) (RR := spec_l06Name_b1_RR a1) (fun s r h e M hs => spec_l06Name_b1_ok a1 s r h e M hs) hr53 ⟨h6, h7⟩ fun x e55 M56 hq54 => ?_
  obtain ⟨rfl, h57⟩ := hq54
  refine bR (sR ?_)
  obtain rfl := si h
  exact eR (resT h57 res0) rfl
 refine Ev.loop (RS := spec_l06Name_b1_RS a1) (RR := spec_l06Name_b1_RR a1) (fun s r h e M hs => spec_l06Name_b1_ok a1 s r h e M hs) hr53 ⟨h6, h7⟩ fun x e58 M59 hq54 => ?_
 obtain ⟨rfl, h60⟩ := hq54
 refine bE (sN (sq (Rg (kx (mvO h60) (kx (sNeq rfl rfl) (kx (mvO rfl) ?_))))))
 rcases ite_some h with ⟨hb61, h⟩ | ⟨hb61, h⟩
 ·refine kx (gsT rfl (congrArg Bool.not hb61)) (kx (gsT rfl (congrArg Bool.not hb61)) (kx (gsT rfl (congrArg Bool.not hb61)) (kx (pkF rfl (congrArg Bool.not hb61) rfl) (kx (mvO rfl) (Rn (hV (.bool false) rfl hZ) fun e62 h64 => sN (xx ?_))))))
  clear h60
  obtain rfl := si h
  exact eR (resT h64 res0) rfl
 refine kx (guT rfl (congrArg Bool.not hb61) (mvO h60)) (kx (guT rfl (congrArg Bool.not hb61) (lnB Try.underlying9 rfl)) (kx (guT rfl (congrArg Bool.not hb61) (bLeq rfl rfl)) (kx (pkT rfl (congrArg Bool.not hb61) rfl) (kx (mvO rfl) (Rn (hN rfl hZ) fun e65 h67 => sN (xx ?_))))))
 clear h60
 obtain rfl := si h
 exact eR (resT h67 res0) rfl
abbrev impl_opposite_b1_S := Int × (Ar 16 Int)
abbrev impl_opposite_b1_R := (Ar 16 Int)
def impl_opposite_b1_RS (i1_1 : Nat) (i1_2 : Nat) (s : impl_opposite_b1_S) (e : Env) (M : Mem) : Prop := eget e 1 = .loc i1_1 1 0 0 ∧ eget e 2 = .loc i1_2 1 0 0 ∧ eget e 4 = .int .i64 s.1 ∧ M[i1_1]? = some (.live ⟨.box, 68, 16, [(arC (cI .i8) 0 s.2)]⟩) ∧ M[i1_2]? = some (.live ⟨.box, 68, 16, [(arC (cI .i8) 0 (Ar.rep 16 0))]⟩)
def impl_opposite_b1_RR (i1_1 : Nat) (i1_2 : Nat) (g : impl_opposite_b1_R) (x : Ex) (e : Env) (M : Mem) : Prop := x = .ext 0 ∧ eget e 1 = .loc i1_1 1 0 0 ∧ eget e 2 = .loc i1_2 1 0 0 ∧ M[i1_1]? = some (.live ⟨.box, 68, 16, [(arC (cI .i8) 0 g)]⟩) ∧ M[i1_2]? = some (.live ⟨.box, 68, 16, [(arC (cI .i8) 0 (Ar.rep 16 0))]⟩)
noncomputable def impl_opposite_b1 : impl_opposite_b1_S → Option (impl_opposite_b1_S ⊕ impl_opposite_b1_R) := fun (s1_1, s1_2) =>
 if (decide (s1_1 < 16)) = true then
  (rdA s1_2 s1_1).bind fun x53 =>
  (rdA s1_2 s1_1).bind fun x55 =>
  some (.inl ((IntKind.i64.wrap (s1_1 + 1)), (s1_2.set s1_1.toNat (IntKind.i8.wrap (0 - x53)))))
 else
  some (.inr s1_2)
theorem impl_opposite_b1_ok (i1_1 : Nat) (i1_2 : Nat) (ne9 : i1_1 ≠ i1_2) (s : impl_opposite_b1_S) (r : impl_opposite_b1_S ⊕ impl_opposite_b1_R) (h : impl_opposite_b1 s = some r) (e : Env) (M : Mem) (hs : impl_opposite_b1_RS i1_1 i1_2 s e M) : Ev (fun k => (f131_l2 (CN k) k (prune [1, 2, 4] e) M).bind fun q => some q) (bQ (impl_opposite_b1_RS i1_1 i1_2) (impl_opposite_b1_RR i1_1 i1_2) r) := by
 obtain ⟨s1_1, s1_2⟩ := s
 unfold impl_opposite_b1 at h
 obtain ⟨h32, h34, h36, o38, o39⟩ := hs
 generalize he31 : prune [1, 2, 4] e = e30
 have h33 := envp he31.symm rfl h32
 have h35 := envp he31.symm rfl h34
 have h37 := envp he31.symm rfl h36
 refine sq (Rg (kx (bLss h37 rfl) (Rn (hV (.loc i1_1 1 0 0) h33 (hV (.loc i1_2 1 0 0) h35 (hV (.int .i64 s1_1) h37 (hN rfl hZ)))) fun e40 h42 h43 h44 h45 => sN (sq ?_))))
 clear h33 h35 h37
 rcases ite_some h with ⟨hb46, h⟩ | ⟨hb46, h⟩
 ·obtain ⟨x53, hx54, h⟩ := bind_some h
  obtain ⟨x55, hx56, h⟩ := bind_some h
  refine cT h45 hb46 (xx (sN (sq (bl (sq (Rg (kx (mvO h44) (kx (mvO rfl) (Rn (hA h42 (hA h43 (hN rfl (hA h44 hZ)))) fun e47 h49 h50 h51 h52 => sN (Rg (kx (mvO h51) (kx (mvO h51) (kx (ixLA h49 o38 rfl rfl hx54) (kx (ldLA (K := AV.int .i8) (c := (cI .i8)) (z := 0) (g := s1_2) (pre := []) (post := []) rfl o38 rfl rfl rfl rfl (fun _ => rfl) hx54) (kx (uNeg rfl) (kx (ixLA h49 o38 rfl rfl hx56) (kw (stLA (c := (cI .i8)) (z := 0) (g := s1_2) (pre := []) (post := []) (u' := (IntKind.i8.wrap (0 - x53))) rfl rfl o38 rfl rfl rfl rfl (fun _ => rfl) rfl rfl hx56) fun M57 hM58 => ?_)))))))))))))))))
  clear h42 h43 h44 h45
  have o59 : M57[i1_1]? = some (.live ⟨.box, 68, 16, [(arC (cI .i8) 0 (s1_2.set s1_1.toNat (IntKind.i8.wrap (0 - x53))))]⟩) := set_same hM58 o38
  have o60 := set_ne hM58 (Ne.symm ne9) o39
  refine Rn (hA h49 (hA h50 (hA h52 hZ))) fun e61 h63 h64 h65 => bN (sN (Rg (kx (bAdd h65 rfl) (kx (mvO rfl) (Rn (hA h63 (hA h64 (hN rfl hZ))) fun e66 h68 h69 h70 => ?_)))))
  clear h49 h50 h51 h52 h63 h64
  obtain rfl := si h
  exact qN ⟨h68, h69, h70, o59, o60⟩
 refine cF h45 hb46 (xx (sE ?_))
 obtain rfl := si h
 exact qE ⟨rfl, h42, h43, o38, o39⟩
noncomputable def impl_opposite (a1 : Ar 16 Int) : Option ((Ar 16 Int)) :=
 (Lw (impl_opposite_b1) (0, a1)).bind fun y76 =>
 some y76
def impl_opposite_enc (r : (Ar 16 Int)) : AV := .agg (arC (cI .i8) 0 r)
theorem impl_opposite_ok (a1 : Ar 16 Int) (r : (Ar 16 Int)) (h : impl_opposite a1 = some r) : Ev (fun k => CN k 131 [.agg (arC (cI .i8) 0 a1)] []) (fun p => rRes p.2 p.1 = impl_opposite_enc r) := by
 unfold impl_opposite at h
 refine Ev.enter (F := fun k => f131 (CN k) k) (fun k => callN_eq rfl Try.func131 rfl rfl rfl (by decide +kernel) (f131_eq _ _)) (sq (Rg (ku (bxO rfl rfl ⟨rfl, rfl, by decide⟩) fun M2 hM3 => ?_)))
 have o4 : M2[([] : Mem).length]? = some (.live ⟨.box, 68, 16, [(arC (cI .i8) 0 a1)]⟩) := push_new hM3
 refine ku (alO zero68) fun M6 hM7 => ?_
 have o8 := push_old hM7 o4
 have ne9 := ne_new o4
 have o10 : M6[M2.length]? = some (.live ⟨.box, 68, 16, [(arC (cI .i8) 0 (Ar.rep 16 0))]⟩) := push_new hM7
 obtain ⟨y76, hr72, h⟩ := bind_some h
 refine Rn (hV (.loc ([] : Mem).length 1 0 0) rfl (hV (.loc M2.length 1 0 0) rfl hZ)) fun e11 h13 h14 => sN (sq (sq (Rg (kx (mvO rfl) (Rn (hA h13 (hA h14 (hV (.int .i64 0) rfl hZ))) fun e15 h17 h18 h19 => sN (bl (Ev.loop (RS := impl_opposite_b1_RS (([] : Mem).length) M2.length) (RR := impl_opposite_b1_RR (([] : Mem).length) M2.length) (fun s r h e M hs => impl_opposite_b1_ok (([] : Mem).length) M2.length ne9 s r h e M hs) hr72 ⟨h17, h18, h19, o8, o10⟩ fun x e74 M75 hq73 => ?_)))))))
 clear h13 h14
 obtain ⟨rfl, h77, h78, o79, o80⟩ := hq73
 refine bE (sN (sq (Rg (kx (ldOA (cs' := (arC (cI .i8) 0 y76)) h77 o79 rfl rfl (ble rfl) rfl) (kw (stO h78 rfl o80 rfl rfl ⟨rfl, ble rfl⟩ rfl rfl) fun M81 hM82 => ?_)))))
 have o83 := set_ne hM82 ne9 o79
 have o84 : M81[M2.length]? = some (.live ⟨.box, 68, 16, [(arC (cI .i8) 0 y76)]⟩) := set_same hM82 o80
 refine Rn (hV (.loc M2.length 1 0 0) h78 hZ) fun e85 h87 => sN (xx ?_)
 clear h77 h78
 obtain rfl := si h
 exact eR (resC (ag := true) (sz := 16) ⟨by kernel_rfl, by kernel_rfl, by kernel_rfl⟩ (ldOA (cs' := (arC (cI .i8) 0 y76)) h87 o84 rfl rfl (ble rfl) rfl) res0) rfl
noncomputable def slices_Clone_Notch (a1 : List Notch) : Option ((List Notch)) :=
 (app 4 ([] : List Notch) a1).bind fun x8 =>
 some x8
def slices_Clone_Notch_enc (r : (List Notch)) : AV := .sl (some 170) (r.map Notch.c)
theorem slices_Clone_Notch_ok (a1 : List Notch) (r : (List Notch)) (h : slices_Clone_Notch a1 = some r) : Ev (fun k => CN k 130 [.sl none (a1.map Notch.c)] []) (fun p => rRes p.2 p.1 = slices_Clone_Notch_enc r) := by
  refine Ev.prim rfl ?_
  by_cases hn : a1 = []
  · subst hn
    have e : r = [] := by simpa [slices_Clone_Notch, app] using h.symm
    subst e
    exact Ev.nilBoth (by kernel_rfl) (by kernel_rfl)
  · have hp : 0 < a1.length := List.length_pos_iff.2 hn
    refine Ev.nilNot (by simpa using hn) ?_
    unfold slices_Clone_Notch at h
    obtain ⟨x8, hx9, h⟩ := bind_some h
    refine Ev.enter0 (F := fun _ => f130 (CN0 2) 2) (fun k => callN_eq rfl Try.func130 rfl rfl rfl (by decide +kernel) (f130_eq _ _)) (sq (Rg (kx (mvO rfl) (Rn (hN rfl hZ) fun e1 h3 => sN (sq (sq (Rg (kx (mvO h3) (kx (bNilF Try.underlying66 hp rfl rfl) (Rn (hA h3 (hV (.bool false) rfl hZ)) fun e4 h6 h7 => sN (cF h7 rfl (xx (sN (sq (Rg (kx (litI rfl rfl ⟨rfl, by decide⟩) (kx (mvO h6) (kx (aiT (c := Notch.c) (xs := ([] : List Notch)) rfl (elS rfl) hx9 Notch.fl (by decide)) (kx (mvO rfl) (Rn (hN rfl hZ) fun e10 h12 => sN (xx ?_)))))))))))))))))))))
    clear h3 h6 h7
    obtain rfl := si h
    exact eR (resT h12 res0) rfl
noncomputable def impl_isAmount (a1 : Int) : Option Bool :=
 if (decide (a1 ≥ 0)) = true then
  some (decide (a1 ≤ 100000000))
 else
  some false
def impl_isAmount_enc (r : Bool) : AV := .bool r
theorem impl_isAmount_ok (a1 : Int) (r : Bool) (h : impl_isAmount a1 = some r) : Ev (fun k => CN k 74 [.int .i64 a1] []) (fun p => rRes p.2 p.1 = impl_isAmount_enc r) := by
 unfold impl_isAmount at h
 refine Ev.enter (F := fun k => f74 (CN k) k) (fun k => callN_eq rfl Try.func74 rfl rfl rfl (by decide +kernel) (f74_eq _ _)) (sq (Rg (kx (mvO rfl) (Rn (hN rfl hZ) fun e1 h3 => sN (sq (Rg (kx (mvO h3) (kx (bGeq rfl rfl) (kx (mvO rfl) ?_)))))))))
 rcases ite_some h with ⟨hb4, h⟩ | ⟨hb4, h⟩
 ·refine kx (guT rfl hb4 (mvO h3)) (kx (guT rfl hb4 (bLeq rfl rfl)) (kx (pkT rfl hb4 rfl) (kx (mvO rfl) (Rn (hN rfl hZ) fun e5 h7 => sN (xx ?_)))))
  clear h3
  obtain rfl := si h
  exact eR (resT h7 res0) rfl
 refine kx (gsT rfl hb4) (kx (gsT rfl hb4) (kx (pkF rfl hb4 rfl) (kx (mvO rfl) (Rn (hV (.bool false) rfl hZ) fun e8 h10 => sN (xx ?_)))))
 clear h3
 obtain rfl := si h
 exact eR (resT h10 res0) rfl
noncomputable def impl_worth (a1 : Int) : Option Int :=
 (rd [1, 12, 240, 4800, 24000, 240000] a1).bind fun x4 =>
 some x4
def impl_worth_enc (r : Int) : AV := .int .i64 r
theorem impl_worth_ok (a1 : Int) (r : Int) (h : impl_worth a1 = some r) : Ev (fun k => CN k 126 [.int .i64 a1] []) (fun p => rRes p.2 p.1 = impl_worth_enc r) := by
 unfold impl_worth at h
 obtain ⟨x4, hx5, h⟩ := bind_some h
 refine Ev.enter (F := fun k => f126 (CN k) k) (fun k => callN_eq rfl Try.func126 rfl rfl rfl (by decide +kernel) (f126_eq _ _)) (sq (Rg (kx (mvO rfl) (Rn (hN rfl hZ) fun e1 h3 => sN (sq (Rg (kx (litI (cns rfl (cns rfl (cns rfl (cns rfl (cns rfl (cns rfl rfl)))))) rfl ⟨rfl, by decide⟩) (kx (mvO h3) (kx (ixLt rfl rfl hx5 (cI_fl _)) (kx (ldP rfl rfl) (kx (mvO rfl) (Rn (hN rfl hZ) fun e6 h8 => sN (xx ?_)))))))))))))
 clear h3
 obtain rfl := si h
 exact eR (resT h8 res0) rfl
abbrev impl_ValidGrain_b1_S := Int
abbrev impl_ValidGrain_b1_R := Unit ⊕ Unit
def impl_ValidGrain_b1_RS (a1 : Ar 16 Int) (s : impl_ValidGrain_b1_S) (e : Env) (M : Mem) : Prop := eget e 5 = .agg (arC (cI .i8) 0 a1) ∧ eget e 6 = .int .i64 s
def impl_ValidGrain_b1_RR (a1 : Ar 16 Int) (r : impl_ValidGrain_b1_R) (x : Ex) (e : Env) (M : Mem) : Prop :=
  match r with
  | (.inl g) => x = .ret ∧ eget e 2 = .bool false
  | (.inr g) => x = .ext 0 ∧ True
noncomputable def impl_ValidGrain_b1 (a1 : Ar 16 Int) : impl_ValidGrain_b1_S → Option (impl_ValidGrain_b1_S ⊕ impl_ValidGrain_b1_R) := fun s1_1 =>
 if (decide (s1_1 < 16)) = true then
  (rdA a1 s1_1).bind fun x26 =>
  if (decide (x26 < (-3))) = true then
   some (.inr (.inl ()))
  else
   if (decide (x26 > 3)) = true then
    some (.inr (.inl ()))
   else
    some (.inl (IntKind.i64.wrap (s1_1 + 1)))
 else
  some (.inr (.inr ()))
theorem impl_ValidGrain_b1_ok (a1 : Ar 16 Int) (s : impl_ValidGrain_b1_S) (r : impl_ValidGrain_b1_S ⊕ impl_ValidGrain_b1_R) (h : impl_ValidGrain_b1 a1 s = some r) (e : Env) (M : Mem) (hs : impl_ValidGrain_b1_RS a1 s e M) : Ev (fun k => (f128_l2 (CN k) k (prune [5, 6] e) M).bind fun q => some q) (bQ (impl_ValidGrain_b1_RS a1) (impl_ValidGrain_b1_RR a1) r) := by
 revert h hs
 revert s
 intro s1_1 h hs
 unfold impl_ValidGrain_b1 at h
 obtain ⟨h16, h18⟩ := hs
 generalize he15 : prune [5, 6] e = e14
 have h17 := envp he15.symm rfl h16
 have h19 := envp he15.symm rfl h18
 refine sq (Rg (kx (bLss h19 rfl) (Rn (hV (.agg (arC (cI .i8) 0 a1)) h17 (hV (.int .i64 s1_1) h19 (hN rfl hZ))) fun e20 h22 h23 h24 => sN (sq ?_))))
 clear h17 h19
 rcases ite_some h with ⟨hb25, h⟩ | ⟨hb25, h⟩
 ·obtain ⟨x26, hx27, h⟩ := bind_some h
  refine cT h24 hb25 (xx (sN (sq (bl (sq (Rg (kx (ixA1 (K := AV.int .i8) (c := (cI .i8)) (z := 0) (g := a1) h22 h23 hx27 (fun _ => rfl)) (kx (mvO rfl) (Rn (hN rfl (hA h22 (hA h23 hZ))) fun e28 h30 h31 h32 => sN (sq (Rg (kx (mvO h30) (kx (bLss rfl rfl) (kx (mvO rfl) ?_))))))))))))))
  clear h22 h23 h24
  rcases ite_some h with ⟨hb33, h⟩ | ⟨hb33, h⟩
  ·refine kx (gsF rfl hb33) (kx (gsF rfl hb33) (kx (pkT rfl hb33 rfl) (Rn (hA h31 (hA h32 (hV (.bool true) rfl hZ))) fun e34 h36 h37 h38 => sN (cT h38 rfl (sq (Rg (kx (mvO rfl) (Rn (hV (.bool false) rfl hZ) fun e39 h41 => sN (xx (bR (sR ?_)))))))))))
   clear h30 h31 h32 h36 h37 h38
   obtain rfl := si h
   exact qR ⟨rfl, h41⟩
  refine kx (guF rfl hb33 (mvO h30)) (kx (guF rfl hb33 (bGtr rfl rfl)) (kx (pkF rfl hb33 rfl) (Rn (hA h31 (hA h32 (hN rfl hZ))) fun e42 h44 h45 h46 => sN ?_)))
  clear h30 h31 h32
  rcases ite_some h with ⟨hb47, h⟩ | ⟨hb47, h⟩
  ·refine cT h46 hb47 (sq (Rg (kx (mvO rfl) (Rn (hV (.bool false) rfl hZ) fun e48 h50 => sN (xx (bR (sR ?_)))))))
   clear h44 h45 h46
   obtain rfl := si h
   exact qR ⟨rfl, h50⟩
  refine cF h46 hb47 (xx (bN (sN (Rg (kx (bAdd h45 rfl) (kx (mvO rfl) (Rn (hA h44 (hN rfl hZ)) fun e51 h53 h54 => ?_)))))))
  clear h44 h46
  obtain rfl := si h
  exact qN ⟨h53, h54⟩
 refine cF h24 hb25 (xx (sE ?_))
 obtain rfl := si h
 exact qE ⟨rfl, trivial⟩
noncomputable def impl_ValidGrain (a1 : Ar 16 Int) : Option Bool :=
 (Lw (impl_ValidGrain_b1 a1) 0).bind fun r => match r with
 | (.inl _) =>
  some false
 | (.inr _) =>
  some true
def impl_ValidGrain_enc (r : Bool) : AV := .bool r
theorem impl_ValidGrain_ok (a1 : Ar 16 Int) (r : Bool) (h : impl_ValidGrain a1 = some r) : Ev (fun k => CN k 128 [.agg (arC (cI .i8) 0 a1)] []) (fun p => rRes p.2 p.1 = impl_ValidGrain_enc r) := by
 unfold impl_ValidGrain at h
 obtain ⟨r55, hr56, h⟩ := bind_some h
 refine Ev.enter (F := fun k => f128 (CN k) k) (fun k => callN_eq rfl Try.func128 rfl rfl rfl (by decide +kernel) (f128_eq _ _)) (sq (Rg (kx (bxI rfl rfl ⟨rfl, rfl, by decide⟩) (kx (mvO rfl) (Rn (hN rfl hZ) fun e1 h3 => sN (sq (sq (Rg (kx (ldPA h3 rfl rfl) (kx (mvO rfl) (Rn (hN rfl (hV (.int .i64 0) rfl hZ)) fun e4 h6 h7 => sN (bl ?_))))))))))))
 clear h3
 rcases r55 with _ | _
 ·refine Ev.loop (RS := impl_ValidGrain_b1_RS a1) (RR := impl_ValidGrain_b1_RR a1) (fun s r h e M hs => impl_ValidGrain_b1_ok a1 s r h e M hs) hr56 ⟨h6, h7⟩ fun x e58 M59 hq57 => ?_
  obtain ⟨rfl, h60⟩ := hq57
  refine bR (sR ?_)
  obtain rfl := si h
  exact eR (resT h60 res0) rfl
 refine Ev.loop (RS := impl_ValidGrain_b1_RS a1) (RR := impl_ValidGrain_b1_RR a1) (fun s r h e M hs => impl_ValidGrain_b1_ok a1 s r h e M hs) hr56 ⟨h6, h7⟩ fun x e61 M62 hq57 => ?_
 obtain ⟨rfl, _⟩ := hq57
 refine bE (sN (sq (Rg (kx (mvO rfl) (Rn (hV (.bool true) rfl hZ) fun e63 h65 => sN (xx ?_))))))
 obtain rfl := si h
 exact eR (resT h65 res0) rfl
def impl_ValidHalf_c1_Q (a1 : Half) (g : Bool) (q : Out) : Prop := q.1 = .nrm ∧ eget q.2.1 1 = .pt none (.bool a1.Stock :: (.sl none (a1.Notches.map Notch.c) :: ((arC (cI .i8) 0 a1.Grain) ++ ([] : List AV)))) ∧ eget q.2.1 14 = .bool g
def impl_ValidHalf_c3_Q (a1 : Half) (s1_1 : Int) (x58 : Notch) (i903_1 : Nat) (g : Bool) (q : Out) : Prop := q.1 = .nrm ∧ eget q.2.1 1 = .pt none (.bool a1.Stock :: (.sl none (a1.Notches.map Notch.c) :: ((arC (cI .i8) 0 a1.Grain) ++ ([] : List AV)))) ∧ eget q.2.1 3 = .int .i64 s1_1 ∧ eget q.2.1 4 = .loc i903_1 1 0 0 ∧ eget q.2.1 16 = .sl none (a1.Notches.map Notch.c) ∧ eget q.2.1 17 = .int .i64 (a1.Notches.length : Int) ∧ eget q.2.1 18 = .int .i64 s1_1 ∧ eget q.2.1 37 = .bool g ∧ q.2.2[i903_1]? = some (.live ⟨.box, 170, 2, [[.int .i8 x58.Kind, .int .i16 x58.At]]⟩)
abbrev impl_ValidHalf_b1_S := Int
abbrev impl_ValidHalf_b1_R := Unit ⊕ Unit
def impl_ValidHalf_b1_RS (a1 : Half) (s : impl_ValidHalf_b1_S) (e : Env) (M : Mem) : Prop := eget e 1 = .pt none (.bool a1.Stock :: (.sl none (a1.Notches.map Notch.c) :: ((arC (cI .i8) 0 a1.Grain) ++ ([] : List AV)))) ∧ eget e 16 = .sl none (a1.Notches.map Notch.c) ∧ eget e 17 = .int .i64 (a1.Notches.length : Int) ∧ eget e 18 = .int .i64 s
def impl_ValidHalf_b1_RR (a1 : Half) (r : impl_ValidHalf_b1_R) (x : Ex) (e : Env) (M : Mem) : Prop :=
  match r with
  | (.inl g) => x = .ret ∧ eget e 2 = .bool false
  | (.inr g) => x = .ext 0 ∧ True
noncomputable def impl_ValidHalf_b1 (a1 : Half) : impl_ValidHalf_b1_S → Option (impl_ValidHalf_b1_S ⊕ impl_ValidHalf_b1_R) := fun s1_1 =>
 if (decide (s1_1 < (a1.Notches.length : Int))) = true then
  (rd a1.Notches s1_1).bind fun x58 =>
  ((impl_isKind (IntKind.i64.wrap x58.Kind)).bind fun r76 =>
  if r76 = true then
   if (decide (x58.At < 0)) = true then
    some true
   else
    (impl_Notch_end x58).bind fun r89 =>
    some (decide (r89 > 200))
  else
   some true).bind fun y110 =>
  if y110 = true then
   some (.inr (.inl ()))
  else
   if (decide (s1_1 > 0)) = true then
    (rd a1.Notches (IntKind.i64.wrap (s1_1 - 1))).bind fun x124 =>
    (impl_Notch_end x124).bind fun r127 =>
    if (decide ((IntKind.i64.wrap x58.At) ≤ r127)) = true then
     some (.inr (.inl ()))
    else
     (rd a1.Notches (IntKind.i64.wrap (s1_1 - 1))).bind fun x139 =>
     if (decide (x58.Kind > x139.Kind)) = true then
      some (.inr (.inl ()))
     else
      some (.inl (IntKind.i64.wrap (s1_1 + 1)))
   else
    some (.inl (IntKind.i64.wrap (s1_1 + 1)))
 else
  some (.inr (.inr ()))
theorem impl_ValidHalf_b1_ok (a1 : Half) (s : impl_ValidHalf_b1_S) (r : impl_ValidHalf_b1_S ⊕ impl_ValidHalf_b1_R) (h : impl_ValidHalf_b1 a1 s = some r) (e : Env) (M : Mem) (hs : impl_ValidHalf_b1_RS a1 s e M) : Ev (fun k => (f101_l4 (CN k) k (prune [1, 16, 17, 18] e) M).bind fun q => some q) (bQ (impl_ValidHalf_b1_RS a1) (impl_ValidHalf_b1_RR a1) r) := by
 revert h hs
 revert s
 intro s1_1 h hs
 unfold impl_ValidHalf_b1 at h
 obtain ⟨h42, h44, h46, h48⟩ := hs
 generalize he41 : prune [1, 16, 17, 18] e = e40
 have h43 := envp he41.symm rfl h42
 have h45 := envp he41.symm rfl h44
 have h47 := envp he41.symm rfl h46
 have h49 := envp he41.symm rfl h48
 refine sq (Rg (kx (bLss h49 h47) (Rn (hV (.pt none (.bool a1.Stock :: (.sl none (a1.Notches.map Notch.c) :: ((arC (cI .i8) 0 a1.Grain) ++ ([] : List AV))))) h43 (hV (.sl none (a1.Notches.map Notch.c)) h45 (hV (.int .i64 (a1.Notches.length : Int)) h47 (hV (.int .i64 s1_1) h49 (hN rfl hZ))))) fun e50 h52 h53 h54 h55 h56 => sN (sq ?_))))
 clear h43 h45 h47 h49
 rcases ite_some h with ⟨hb57, h⟩ | ⟨hb57, h⟩
 ·obtain ⟨x58, hx59, h⟩ := bind_some h
  refine cT h56 hb57 (xx (sN (sq (bl (sq (Rg (kx (mvO h55) (kx (ixS h53 h55 hx59 Notch.fl) (kx (ldPA rfl rfl rfl) (ku (alO zero170) fun M61 hM62 => ?_))))))))))
  have o63 : M61[M.length]? = some (.live ⟨.box, 170, 2, [[.int .i8 0, .int .i16 0]]⟩) := push_new hM62
  refine kx (mvO rfl) (kw (stO rfl rfl o63 rfl rfl ⟨rfl, ble rfl⟩ rfl rfl) fun M64 hM65 => ?_)
  have o66 : M64[M.length]? = some (.live ⟨.box, 170, 2, [[.int .i8 x58.Kind, .int .i16 x58.At]]⟩) := set_same hM65 o63
  obtain ⟨r172, hr173, h⟩ := bind_some h
  refine Rn (hA h52 (hN rfl (hV (.loc M.length 1 0 0) rfl (hA h53 (hA h54 (hA h55 hZ)))))) fun e67 h69 h70 h71 h72 h73 h74 => sN (sq (sq ?_))
  clear h52 h53 h54 h55 h56
  refine Ev.cut (Q1 := impl_ValidHalf_c3_Q a1 s1_1 x58 M.length r172) (by
      have h := hr173
      obtain ⟨r76, hx75, h⟩ := bind_some h
      refine Rg (kx (faO h71 o66 rfl) (kx (ldO rfl o66 rfl rfl rfl) (kx (cvI rfl) (kc (cl (v := .bool r76) rfl rfl (cns rfl rfl) rfl (impl_isKind_ok (IntKind.i64.wrap x58.Kind) _ hx75) nm) (kx (uNot rfl) (kx (mvO rfl) ?_))))))
      rcases ite_some h with ⟨hb77, h⟩ | ⟨hb77, h⟩
      ·refine kx (guF rfl (congrArg Bool.not hb77) (faO h71 o66 rfl)) (kx (guF rfl (congrArg Bool.not hb77) (ldO rfl o66 rfl rfl rfl)) (kx (guF rfl (congrArg Bool.not hb77) (bLss rfl rfl)) (kx (pkF rfl (congrArg Bool.not hb77) rfl) (kx (mvO rfl) ?_))))
       rcases ite_some h with ⟨hb78, h⟩ | ⟨hb78, h⟩
       ·refine kx (gsF rfl hb78) (kc (Ev.gsF rfl hb78) (kx (gsF rfl hb78) (kx (pkT rfl hb78 rfl) (Rn (hA h69 (hA h70 (hA h71 (hA h72 (hA h73 (hA h74 (hV (.bool true) rfl hZ))))))) fun e79 h81 h82 h83 h84 h85 h86 h87 => ?_))))
        clear h69 h70 h71 h72 h73 h74
        obtain rfl := si h
        exact kd (show impl_ValidHalf_c3_Q a1 s1_1 x58 M.length _ _ from ⟨rfl, h81, h82, h83, h84, h85, h86, h87, o66⟩)
       obtain ⟨r89, hx88, h⟩ := bind_some h
       refine kx (guF rfl hb78 (ldOA h71 o66 rfl rfl (ble rfl) rfl)) (kc (Ev.guF rfl hb78 (cl (v := .int .i64 r89) rfl rfl (cns rfl rfl) rfl (impl_Notch_end_ok x58 _ hx88) nm)) (kx (guF rfl hb78 (bGtr rfl rfl)) (kx (pkF rfl hb78 rfl) (Rn (hA h69 (hA h70 (hA h71 (hA h72 (hA h73 (hA h74 (hN rfl hZ))))))) fun e90 h92 h93 h94 h95 h96 h97 h98 => ?_))))
       clear h69 h70 h71 h72 h73 h74
       obtain rfl := si h
       exact kd (show impl_ValidHalf_c3_Q a1 s1_1 x58 M.length _ _ from ⟨rfl, h92, h93, h94, h95, h96, h97, h98, o66⟩)
      refine kx (gsF rfl (congrArg Bool.not hb77)) (kx (gsF rfl (congrArg Bool.not hb77)) (kx (gsF rfl (congrArg Bool.not hb77)) (kx (pkT rfl (congrArg Bool.not hb77) rfl) (kx (mvO rfl) (kx (gsF rfl rfl) (kc (Ev.gsF rfl rfl) (kx (gsF rfl rfl) (kx (pkT rfl rfl rfl) (Rn (hA h69 (hA h70 (hA h71 (hA h72 (hA h73 (hA h74 (hV (.bool true) rfl hZ))))))) fun e99 h101 h102 h103 h104 h105 h106 h107 => ?_)))))))))
      clear h69 h70 h71 h72 h73 h74
      obtain rfl := si h
      exact kd (show impl_ValidHalf_c3_Q a1 s1_1 x58 M.length _ _ from ⟨rfl, h101, h102, h103, h104, h105, h106, h107, o66⟩)) ?_
  revert h hr173
  revert r172
  intro y110 hr173 h
  intro x e108 M109 hq171
  obtain ⟨rfl, h111, h112, h113, h114, h115, h116, h117, o118⟩ := hq171
  refine sN ?_
  rcases ite_some h with ⟨hb119, h⟩ | ⟨hb119, h⟩
  ·refine cT h117 hb119 (sq (Rg (kx (mvO rfl) (Rn (hV (.bool false) rfl hZ) fun e120 h122 => sN (xx (sR (bR (sR ?_))))))))
   clear h111 h112 h113 h114 h115 h116 h117
   obtain rfl := si h
   exact qR ⟨rfl, h122⟩
  refine cF h117 hb119 (xx (sN (sq (Rd (kf (mvO h112) (kf (bGtr rfl rfl) (kf (mvO rfl) ?_)))))))
  rcases ite_some h with ⟨hb123, h⟩ | ⟨hb123, h⟩
  ·obtain ⟨x124, hx125, h⟩ := bind_some h
   obtain ⟨r127, hx126, h⟩ := bind_some h
   refine kf (guT rfl hb123 (faO h113 o118 rfl)) (kf (guT rfl hb123 (ldO rfl o118 rfl rfl rfl)) (kf (guT rfl hb123 (cvI rfl)) (kf (guT rfl hb123 (faP h111 ⟨ble rfl, blt rfl⟩ rfl)) (kf (guT rfl hb123 (ldP rfl rfl)) (kf (guT rfl hb123 (mvO h112)) (kf (guT rfl hb123 (bSub rfl rfl)) (kf (guT rfl hb123 (ixS rfl rfl hx125 Notch.fl)) (kf (guT rfl hb123 (ldPA rfl rfl rfl)) (fc (Ev.guT rfl hb123 (cl (v := .int .i64 r127) rfl rfl (cns rfl rfl) rfl (impl_Notch_end_ok x124 _ hx126) nm)) (kf (guT rfl hb123 (bLeq rfl rfl)) (kf (guT rfl hb123 (mvO rfl)) ?_)))))))))))
   rcases ite_some h with ⟨hb128, h⟩ | ⟨hb128, h⟩
   ·refine kf (gsF rfl hb128) (kf (gsF rfl hb128) (kf (gsF rfl hb128) (kf (gsF rfl hb128) (kf (gsF rfl hb128) (kf (gsF rfl hb128) (kf (gsF rfl hb128) (kf (gsF rfl hb128) (kf (gsF rfl hb128) (kf (gsF rfl hb128) (kf (guT rfl hb123 (pkT rfl hb128 rfl)) (kf (pkT rfl hb123 rfl) (fZ (Rn (hV (.pt none (.bool a1.Stock :: (.sl none (a1.Notches.map Notch.c) :: ((arC (cI .i8) 0 a1.Grain) ++ ([] : List AV))))) h111 (hV (.sl none (a1.Notches.map Notch.c)) h114 (hV (.int .i64 (a1.Notches.length : Int)) h115 (hV (.int .i64 s1_1) h116 (hV (.bool true) rfl hZ))))) fun e129 h131 h132 h133 h134 h135 => sN (cT h135 rfl (sq (Rg (kx (mvO rfl) (Rn (hV (.bool false) rfl hZ) fun e136 h138 => sN (xx (bR (sR ?_)))))))))))))))))))))
    clear h111 h112 h113 h114 h115 h116 h117 h131 h132 h133 h134 h135
    obtain rfl := si h
    exact qR ⟨rfl, h138⟩
   obtain ⟨x139, hx140, h⟩ := bind_some h
   refine kf (guF rfl hb128 (faO h113 o118 rfl)) (kf (guF rfl hb128 (ldO rfl o118 rfl rfl rfl)) (kf (guF rfl hb128 (faP h111 ⟨ble rfl, blt rfl⟩ rfl)) (kf (guF rfl hb128 (ldP rfl rfl)) (kf (guF rfl hb128 (mvO h112)) (kf (guF rfl hb128 (bSub rfl rfl)) (kf (guF rfl hb128 (ixS rfl rfl hx140 Notch.fl)) (kf (guF rfl hb128 (faP rfl ⟨ble rfl, blt rfl⟩ rfl)) (kf (guF rfl hb128 (ldP rfl rfl)) (kf (guF rfl hb128 (bGtr rfl rfl)) (kf (guT rfl hb123 (pkF rfl hb128 rfl)) (kf (pkT rfl hb123 rfl) (fZ (Rn (hV (.pt none (.bool a1.Stock :: (.sl none (a1.Notches.map Notch.c) :: ((arC (cI .i8) 0 a1.Grain) ++ ([] : List AV))))) h111 (hV (.sl none (a1.Notches.map Notch.c)) h114 (hV (.int .i64 (a1.Notches.length : Int)) h115 (hV (.int .i64 s1_1) h116 (hN rfl hZ))))) fun e141 h143 h144 h145 h146 h147 => sN ?_)))))))))))))
   clear h111 h112 h113 h114 h115 h116 h117
   rcases ite_some h with ⟨hb148, h⟩ | ⟨hb148, h⟩
   ·refine cT h147 hb148 (sq (Rg (kx (mvO rfl) (Rn (hV (.bool false) rfl hZ) fun e149 h151 => sN (xx (bR (sR ?_)))))))
    clear h143 h144 h145 h146 h147
    obtain rfl := si h
    exact qR ⟨rfl, h151⟩
   refine cF h147 hb148 (xx (bN (sN (Rg (kx (bAdd h146 rfl) (kx (mvO rfl) (Rn (hA h143 (hA h144 (hA h145 (hN rfl hZ)))) fun e152 h154 h155 h156 h157 => ?_)))))))
   clear h143 h144 h145 h147
   obtain rfl := si h
   exact qN ⟨h154, h155, h156, h157⟩
  refine kf (gsT rfl hb123) (kf (gsT rfl hb123) (kf (gsT rfl hb123) (kf (gsT rfl hb123) (kf (gsT rfl hb123) (kf (gsT rfl hb123) (kf (gsT rfl hb123) (kf (gsT rfl hb123) (kf (gsT rfl hb123) (fc (Ev.gsT rfl hb123) (kf (gsT rfl hb123) (kf (gsT rfl hb123) (kf (gsU rfl) (kf (gsU rfl) (kf (gsU rfl) (kf (gsU rfl) (kf (gsU rfl) (kf (gsU rfl) (kf (gsU rfl) (kf (gsU rfl) (kf (gsU rfl) (kf (gsU rfl) (kf (gsT rfl hb123) (kf (pkF rfl hb123 rfl) (fZ (Rn (hV (.pt none (.bool a1.Stock :: (.sl none (a1.Notches.map Notch.c) :: ((arC (cI .i8) 0 a1.Grain) ++ ([] : List AV))))) h111 (hV (.sl none (a1.Notches.map Notch.c)) h114 (hV (.int .i64 (a1.Notches.length : Int)) h115 (hV (.int .i64 s1_1) h116 (hV (.bool false) rfl hZ))))) fun e158 h160 h161 h162 h163 h164 => sN (cF h164 rfl (xx (bN (sN (Rg (kx (bAdd h163 rfl) (kx (mvO rfl) (Rn (hA h160 (hA h161 (hA h162 (hN rfl hZ)))) fun e165 h167 h168 h169 h170 => ?_)))))))))))))))))))))))))))))))))
  clear h111 h112 h113 h114 h115 h116 h117 h160 h161 h162 h164
  obtain rfl := si h
  exact qN ⟨h167, h168, h169, h170⟩
 refine cF h56 hb57 (xx (sE ?_))
 obtain rfl := si h
 exact qE ⟨rfl, trivial⟩
noncomputable def impl_ValidHalf (a1 : Half) : Option Bool :=
 (if (decide ((a1.Notches.length : Int) > 60)) = true then
  some true
 else
  (impl_ValidGrain a1.Grain).bind fun r10 =>
  some (!r10)).bind fun y17 =>
 if y17 = true then
  some false
 else
  (Lw (impl_ValidHalf_b1 a1) 0).bind fun r => match r with
  | (.inl _) =>
   some false
  | (.inr _) =>
   some true
def impl_ValidHalf_enc (r : Bool) : AV := .bool r
theorem impl_ValidHalf_ok (a1 : Half) (r : Bool) (h : impl_ValidHalf a1 = some r) : Ev (fun k => CN k 101 [.agg (.bool a1.Stock :: (.sl none (a1.Notches.map Notch.c) :: ((arC (cI .i8) 0 a1.Grain) ++ ([] : List AV))))] []) (fun p => rRes p.2 p.1 = impl_ValidHalf_enc r) := by
 unfold impl_ValidHalf at h
 obtain ⟨r186, hr187, h⟩ := bind_some h
 refine Ev.enter (F := fun k => f101 (CN k) k) (fun k => callN_eq rfl Try.func101 rfl rfl rfl (by decide +kernel) (f101_eq _ _)) (sq (Rg (kx (bxI rfl rfl ⟨rfl, rfl, by decide⟩) (kx (mvO rfl) (Rn (hN rfl hZ) fun e1 h3 => sN (sq (sq ?_)))))))
 refine Ev.cut (Q1 := impl_ValidHalf_c1_Q a1 r186) (by
     have h := hr187
     refine Rg (kx (faP h3 ⟨ble rfl, blt rfl⟩ rfl) (kx (ldP rfl rfl) (kx (lnS Try.underlying66 rfl) (kx (bGtr rfl rfl) (kx (mvO rfl) ?_)))))
     rcases ite_some h with ⟨hb4, h⟩ | ⟨hb4, h⟩
     ·refine kx (gsF rfl hb4) (kx (gsF rfl hb4) (kc (Ev.gsF rfl hb4) (kx (gsF rfl hb4) (kx (pkT rfl hb4 rfl) (Rn (hA h3 (hV (.bool true) rfl hZ)) fun e5 h7 h8 => ?_)))))
      clear h3
      obtain rfl := si h
      exact kd (show impl_ValidHalf_c1_Q a1 _ _ from ⟨rfl, h7, h8⟩)
     obtain ⟨r10, hx9, h⟩ := bind_some h
     refine kx (guF rfl hb4 (faP h3 ⟨ble rfl, blt rfl⟩ rfl)) (kx (guF rfl hb4 (ldPA rfl rfl rfl)) (kc (Ev.guF rfl hb4 (cl (v := .bool r10) rfl rfl (cns rfl rfl) rfl (impl_ValidGrain_ok a1.Grain _ hx9) nm)) (kx (guF rfl hb4 (uNot rfl)) (kx (pkF rfl hb4 rfl) (Rn (hA h3 (hN rfl hZ)) fun e11 h13 h14 => ?_)))))
     clear h3
     obtain rfl := si h
     exact kd (show impl_ValidHalf_c1_Q a1 _ _ from ⟨rfl, h13, h14⟩)) ?_
 revert h hr187
 revert r186
 intro y17 hr187 h
 intro x e15 M16 hq185
 obtain ⟨rfl, h18, h19⟩ := hq185
 refine sN ?_
 rcases ite_some h with ⟨hb20, h⟩ | ⟨hb20, h⟩
 ·refine cT h19 hb20 (sq (Rg (kx (mvO rfl) (Rn (hV (.bool false) rfl hZ) fun e21 h23 => sN (xx (sR ?_))))))
  clear h18 h19
  obtain rfl := si h
  exact eR (resT h23 res0) rfl
 obtain ⟨r174, hr175, h⟩ := bind_some h
 refine cF h19 hb20 (xx (sN (sq (sq (Rg (kx (faP h18 ⟨ble rfl, blt rfl⟩ rfl) (kx (ldP rfl rfl) (kx (lnS Try.underlying66 rfl) (kx (mvO rfl) (Rn (hV (.pt none (.bool a1.Stock :: (.sl none (a1.Notches.map Notch.c) :: ((arC (cI .i8) 0 a1.Grain) ++ ([] : List AV))))) h18 (hN rfl (hN rfl (hV (.int .i64 0) rfl hZ)))) fun e24 h26 h27 h28 h29 => sN (bl ?_)))))))))))
 clear h18 h19
 rcases r174 with _ | _
 ·refine Ev.loop (RS := impl_ValidHalf_b1_RS a1) (RR := impl_ValidHalf_b1_RR a1) (fun s r h e M hs => impl_ValidHalf_b1_ok a1 s r h e M hs) hr175 ⟨h26, h27, h28, h29⟩ fun x e177 M178 hq176 => ?_
  obtain ⟨rfl, h179⟩ := hq176
  refine bR (sR ?_)
  obtain rfl := si h
  exact eR (resT h179 res0) rfl
 refine Ev.loop (RS := impl_ValidHalf_b1_RS a1) (RR := impl_ValidHalf_b1_RR a1) (fun s r h e M hs => impl_ValidHalf_b1_ok a1 s r h e M hs) hr175 ⟨h26, h27, h28, h29⟩ fun x e180 M181 hq176 => ?_
 obtain ⟨rfl, _⟩ := hq176
 refine bE (sN (sq (Rg (kx (mvO rfl) (Rn (hV (.bool true) rfl hZ) fun e182 h184 => sN (xx ?_))))))
 obtain rfl := si h
 exact eR (resT h184 res0) rfl
abbrev impl_NotchesFor_b2_S := Int × Int × (List Notch)
abbrev impl_NotchesFor_b2_R := Unit ⊕ (Int × Int × (List Notch))
def impl_NotchesFor_b2_RS (s1_3 : Int) (i1_1 : Nat) (s : impl_NotchesFor_b2_S) (e : Env) (M : Mem) : Prop := eget e 0 = .int .i64 s.1 ∧ eget e 4 = .lsl i1_1 s.2.2.length 0 s.2.2.length ∧ eget e 5 = .int .i64 s.2.1 ∧ eget e 6 = .int .i64 s1_3 ∧ M[i1_1]? = some (.live ⟨.grow, 170, 2, s.2.2.map Notch.c⟩)
def impl_NotchesFor_b2_RR (s1_3 : Int) (i1_1 : Nat) (r : impl_NotchesFor_b2_R) (x : Ex) (e : Env) (M : Mem) : Prop :=
  match r with
  | (.inl g) => x = .ret ∧ eget e 2 = .nils ∧ eget e 3 = .int .i64 3
  | (.inr g) => x = .ext 2 ∧ eget e 0 = .int .i64 g.1 ∧ eget e 4 = .lsl i1_1 g.2.2.length 0 g.2.2.length ∧ eget e 5 = .int .i64 g.2.1 ∧ eget e 6 = .int .i64 s1_3 ∧ M[i1_1]? = some (.live ⟨.grow, 170, 2, g.2.2.map Notch.c⟩)
noncomputable def impl_NotchesFor_b2 (s1_3 : Int) : impl_NotchesFor_b2_S → Option (impl_NotchesFor_b2_S ⊕ impl_NotchesFor_b2_R) := fun (s2_1, s2_2, s2_3) =>
 (impl_worth s1_3).bind fun r79 =>
 if (decide (s2_1 ≥ r79)) = true then
  (app 4 s2_3 [(Notch.mk (IntKind.i8.wrap s1_3) (IntKind.i16.wrap s2_2))]).bind fun x88 =>
  (impl_width s1_3).bind fun r100 =>
  if (decide ((x88.length : Int) > 60)) = true then
   some (.inr (.inl ()))
  else
   (impl_worth s1_3).bind fun r120 =>
   some (.inl ((IntKind.i64.wrap (s2_1 - r120)), (IntKind.i64.wrap (s2_2 + (IntKind.i64.wrap (r100 + 1)))), x88))
 else
  some (.inr (.inr (s2_1, s2_2, s2_3)))
theorem impl_NotchesFor_b2_ok (s1_3 : Int) (i1_1 : Nat) (s : impl_NotchesFor_b2_S) (r : impl_NotchesFor_b2_S ⊕ impl_NotchesFor_b2_R) (h : impl_NotchesFor_b2 s1_3 s = some r) (e : Env) (M : Mem) (hs : impl_NotchesFor_b2_RS s1_3 i1_1 s e M) : Ev (fun k => (f129_l7 (CN k) k (prune [0, 4, 5, 6] e) M).bind fun q => some q) (bQ (impl_NotchesFor_b2_RS s1_3 i1_1) (impl_NotchesFor_b2_RR s1_3 i1_1) r) := by
 obtain ⟨s2_1, s2_2, s2_3⟩ := s
 unfold impl_NotchesFor_b2 at h
 obtain ⟨h69, h71, h73, h75, o77⟩ := hs
 generalize he68 : prune [0, 4, 5, 6] e = e67
 have h70 := envp he68.symm rfl h69
 have h72 := envp he68.symm rfl h71
 have h74 := envp he68.symm rfl h73
 have h76 := envp he68.symm rfl h75
 obtain ⟨r79, hx78, h⟩ := bind_some h
 refine sq (sq (Rg (kx (mvO h70) (kx (mvO h76) (kc (cl (v := .int .i64 r79) rfl rfl (cns rfl rfl) rfl (impl_worth_ok s1_3 _ hx78) nm) (kx (bGeq rfl rfl) (Rn (hV (.int .i64 s2_1) h70 (hV (.lsl i1_1 s2_3.length 0 s2_3.length) h72 (hV (.int .i64 s2_2) h74 (hA h76 (hN rfl hZ))))) fun e80 h82 h83 h84 h85 h86 => sN ?_)))))))
 clear h70 h72 h74 h76
 rcases ite_some h with ⟨hb87, h⟩ | ⟨hb87, h⟩
 ·obtain ⟨x88, hx89, h⟩ := bind_some h
  refine cT h86 hb87 (xx (sN (sq (bl (sq (Rg (kx (mvO h83) (kx (mvO h85) (kx (cvI rfl) (kx (mvO h84) (kx (cvI rfl) (kx (bldT zero170 (cns (pr3 rfl) (cns (pr3 rfl) rfl)) (fill1 ⟨rfl, ble rfl⟩ rfl rfl (fill1 ⟨rfl, ble rfl⟩ rfl rfl (fill0 rfl)))) (kx (litI (cns rfl rfl) rfl ⟨rfl, by decide⟩) (kw (apO rfl o77 rfl (elT (c := Notch.c) (xs := [(Notch.mk (IntKind.i8.wrap s1_3) (IntKind.i16.wrap s2_2))]) rfl) hx89 Notch.fl (by decide)) fun M90 hM91 => ?_))))))))))))))
  have o92 : M90[i1_1]? = some (.live ⟨.grow, 170, 2, x88.map Notch.c⟩) := set_same hM91 o77
  obtain ⟨r100, hx99, h⟩ := bind_some h
  refine kx (mvO rfl) (Rn (hA h82 (hV (.lsl i1_1 x88.length 0 x88.length) rfl (hA h84 (hA h85 hZ)))) fun e93 h95 h96 h97 h98 => sN (sq (Rg (kx (mvO h97) (kx (mvO h98) (kc (cl (v := .int .i64 r100) rfl rfl (cns rfl rfl) rfl (impl_width_ok s1_3 _ hx99) nm) (kx (bAdd rfl rfl) (kx (bAdd rfl rfl) (kx (mvO rfl) (Rn (hA h95 (hA h96 (hN rfl (hA h98 hZ)))) fun e101 h103 h104 h105 h106 => sN (sq (Rg (kx (mvO h104) (kx (lnL Try.underlying66 rfl o92 (by simp)) (kx (bGtr rfl rfl) (Rn (hA h103 (hA h104 (hA h105 (hA h106 (hN rfl hZ))))) fun e107 h109 h110 h111 h112 h113 => sN ?_))))))))))))))))
  clear h82 h84 h85 h86 h95 h96 h98 h103 h104 h105 h106
  rcases ite_some h with ⟨hb114, h⟩ | ⟨hb114, h⟩
  ·refine cT h113 hb114 (sq (Rg (kx (mvO rfl) (kx (mvO rfl) (Rn (hV .nils rfl (hV (.int .i64 3) rfl hZ)) fun e115 h117 h118 => sN (xx (bR (sR ?_))))))))
   clear h109 h110 h111 h112 h113
   obtain rfl := si h
   exact qR ⟨rfl, h117, h118⟩
  obtain ⟨r120, hx119, h⟩ := bind_some h
  refine cF h113 hb114 (xx (bN (sN (Rg (kx (mvO h109) (kx (mvO h112) (kc (cl (v := .int .i64 r120) rfl rfl (cns rfl rfl) rfl (impl_worth_ok s1_3 _ hx119) nm) (kx (bSub rfl rfl) (kx (mvO rfl) (Rn (hN rfl (hA h110 (hA h111 (hA h112 hZ)))) fun e121 h123 h124 h125 h126 => ?_))))))))))
  clear h110 h111 h112 h113
  obtain rfl := si h
  exact qN ⟨h123, h124, h125, h126, o92⟩
 refine cF h86 hb87 (xx (sE ?_))
 obtain rfl := si h
 exact qE ⟨rfl, h82, h83, h84, h85, o77⟩
abbrev impl_NotchesFor_b1_S := Int × Int × Int × (List Notch)
abbrev impl_NotchesFor_b1_R := Unit ⊕ ((List Notch))
def impl_NotchesFor_b1_RS (i1_1 : Nat) (s : impl_NotchesFor_b1_S) (e : Env) (M : Mem) : Prop := eget e 0 = .int .i64 s.1 ∧ eget e 4 = .lsl i1_1 s.2.2.2.length 0 s.2.2.2.length ∧ eget e 5 = .int .i64 s.2.1 ∧ eget e 6 = .int .i64 s.2.2.1 ∧ M[i1_1]? = some (.live ⟨.grow, 170, 2, s.2.2.2.map Notch.c⟩)
def impl_NotchesFor_b1_RR (i1_1 : Nat) (r : impl_NotchesFor_b1_R) (x : Ex) (e : Env) (M : Mem) : Prop :=
  match r with
  | (.inl g) => x = .ret ∧ eget e 2 = .nils ∧ eget e 3 = .int .i64 3
  | (.inr g) => x = .ext 0 ∧ eget e 4 = .lsl i1_1 g.length 0 g.length ∧ M[i1_1]? = some (.live ⟨.grow, 170, 2, g.map Notch.c⟩)
noncomputable def impl_NotchesFor_b1 : impl_NotchesFor_b1_S → Option (impl_NotchesFor_b1_S ⊕ impl_NotchesFor_b1_R) := fun (s1_1, s1_2, s1_3, s1_4) =>
 if (decide (s1_3 ≥ 0)) = true then
  (Lw (impl_NotchesFor_b2 s1_3) (s1_1, s1_2, s1_4)).bind fun r => match r with
  | (.inl _) =>
   some (.inr (.inl ()))
  | (.inr (y136, y137, y138)) =>
   some (.inl (y136, y137, (IntKind.i64.wrap (s1_3 - 1)), y138))
 else
  some (.inr (.inr s1_4))
theorem impl_NotchesFor_b1_ok (i1_1 : Nat) (s : impl_NotchesFor_b1_S) (r : impl_NotchesFor_b1_S ⊕ impl_NotchesFor_b1_R) (h : impl_NotchesFor_b1 s = some r) (e : Env) (M : Mem) (hs : impl_NotchesFor_b1_RS i1_1 s e M) : Ev (fun k => (f129_l5 (CN k) k (prune [0, 4, 5, 6] e) M).bind fun q => some q) (bQ (impl_NotchesFor_b1_RS i1_1) (impl_NotchesFor_b1_RR i1_1) r) := by
 obtain ⟨s1_1, s1_2, s1_3, s1_4⟩ := s
 unfold impl_NotchesFor_b1 at h
 obtain ⟨h39, h41, h43, h45, o47⟩ := hs
 generalize he38 : prune [0, 4, 5, 6] e = e37
 have h40 := envp he38.symm rfl h39
 have h42 := envp he38.symm rfl h41
 have h44 := envp he38.symm rfl h43
 have h46 := envp he38.symm rfl h45
 refine sq (sq (Rg (kx (mvO h46) (kx (bGeq rfl rfl) (Rn (hV (.int .i64 s1_1) h40 (hV (.lsl i1_1 s1_4.length 0 s1_4.length) h42 (hV (.int .i64 s1_2) h44 (hV (.int .i64 s1_3) h46 (hN rfl hZ))))) fun e48 h50 h51 h52 h53 h54 => sN ?_)))))
 clear h40 h42 h44 h46
 rcases ite_some h with ⟨hb55, h⟩ | ⟨hb55, h⟩
 ·obtain ⟨r127, hr128, h⟩ := bind_some h
  refine cT h54 hb55 (xx (sN (sq (bl (bl ?_)))))
  rcases r127 with _ | ⟨y136, y137, y138⟩
  ·refine Ev.loop (RS := impl_NotchesFor_b2_RS s1_3 i1_1) (RR := impl_NotchesFor_b2_RR s1_3 i1_1) (fun s r h e M hs => impl_NotchesFor_b2_ok s1_3 i1_1 s r h e M hs) hr128 ⟨h50, h51, h52, h53, o47⟩ fun x e130 M131 hq129 => ?_
   obtain ⟨rfl, h132, h133⟩ := hq129
   refine bR (bR (sR ?_))
   obtain rfl := si h
   exact qR ⟨rfl, h132, h133⟩
  refine Ev.loop (RS := impl_NotchesFor_b2_RS s1_3 i1_1) (RR := impl_NotchesFor_b2_RR s1_3 i1_1) (fun s r h e M hs => impl_NotchesFor_b2_ok s1_3 i1_1 s r h e M hs) hr128 ⟨h50, h51, h52, h53, o47⟩ fun x e134 M135 hq129 => ?_
  obtain ⟨rfl, h139, h140, h141, h142, o143⟩ := hq129
  refine bE (bN (sN (Rg (kx (mvO h142) (kx (bSub rfl rfl) (kx (mvO rfl) (Rn (hV (.int .i64 y136) h139 (hV (.lsl i1_1 y138.length 0 y138.length) h140 (hV (.int .i64 y137) h141 (hN rfl hZ)))) fun e144 h146 h147 h148 h149 => ?_)))))))
  clear h139 h140 h141
  obtain rfl := si h
  exact qN ⟨h146, h147, h148, h149, o143⟩
 refine cF h54 hb55 (xx (sE ?_))
 obtain rfl := si h
 exact qE ⟨rfl, h51, o47⟩
noncomputable def impl_NotchesFor (a1 : Int) : Option ((List Notch) × Int) :=
 (impl_isAmount a1).bind fun r5 =>
 if r5 = true then
  (Lw (impl_NotchesFor_b1) (a1, 0, 5, ([] : List Notch))).bind fun r => match r with
  | (.inl _) =>
   some (([] : List Notch), 3)
  | (.inr y159) =>
   (impl_ValidHalf (Half.mk false y159 (Ar.rep 16 0))).bind fun r163 =>
   if r163 = true then
    some (y159, 0)
   else
    some (([] : List Notch), 3)
 else
  some (([] : List Notch), 2)
def impl_NotchesFor_enc (r : (List Notch) × Int) : AV := .tup [.sl none (r.1.map Notch.c), .int .i64 r.2]
theorem impl_NotchesFor_ok (a1 : Int) (r : (List Notch) × Int) (h : impl_NotchesFor a1 = some r) : Ev (fun k => CN k 129 [.int .i64 a1] []) (fun p => wkR (rRes p.2 p.1) = impl_NotchesFor_enc r ∧ ownAll (rRes p.2 p.1) = true) := by
 unfold impl_NotchesFor at h
 obtain ⟨r5, hx4, h⟩ := bind_some h
 refine Ev.enter (F := fun k => f129 (CN k) k) (fun k => callN_eq rfl Try.func129 rfl rfl rfl (by decide +kernel) (f129_eq _ _)) (sq (Rg (kx (mvO rfl) (kx (mvO rfl) (Rn (hN rfl hZ) fun e1 h3 => sN (sq (sq (Rg (kx (mvO h3) (kc (cl (v := .bool r5) rfl rfl (cns rfl rfl) rfl (impl_isAmount_ok a1 _ hx4) nm) (kx (uNot rfl) (Rn (hA h3 (hN rfl hZ)) fun e6 h8 h9 => sN ?_))))))))))))
 clear h3
 rcases ite_some h with ⟨hb10, h⟩ | ⟨hb10, h⟩
 ·refine cF h9 (congrArg Bool.not hb10) (xx (sN (sq (Rg (ku (litO (xs := ([] : List Notch)) (c := Notch.c) rfl rfl (by decide)) fun M12 hM13 => ?_)))))
  have o14 : M12[([] : Mem).length]? = some (.live ⟨.grow, 170, 2, ([] : List Notch).map Notch.c⟩) := push_new hM13
  obtain ⟨r150, hr151, h⟩ := bind_some h
  refine kx (mvO rfl) (kx (mvO rfl) (Rn (hA h8 (hV (.lsl ([] : Mem).length ([] : List Notch).length 0 ([] : List Notch).length) rfl (hV (.int .i64 0) rfl hZ))) fun e15 h17 h18 h19 => sN (sq (sq (Rg (kx (mvO rfl) (Rn (hA h17 (hA h18 (hA h19 (hV (.int .i64 5) rfl hZ)))) fun e20 h22 h23 h24 h25 => sN (bl ?_))))))))
  clear h8 h9 h17 h18 h19
  rcases r150 with _ | y159
  ·refine Ev.loop (RS := impl_NotchesFor_b1_RS (([] : Mem).length)) (RR := impl_NotchesFor_b1_RR (([] : Mem).length)) (fun s r h e M hs => impl_NotchesFor_b1_ok (([] : Mem).length) s r h e M hs) hr151 ⟨h22, h23, h24, h25, o14⟩ fun x e153 M154 hq152 => ?_
   obtain ⟨rfl, h155, h156⟩ := hq152
   refine bR (sR ?_)
   obtain rfl := si h
   exact eR (resT h155 (resT h156 res0)) (wkO (y := .tup [.nils, .int .i64 3]) rfl rfl (own_tup (oa1 rfl (oa1 rfl oa0))))
  refine Ev.loop (RS := impl_NotchesFor_b1_RS (([] : Mem).length)) (RR := impl_NotchesFor_b1_RR (([] : Mem).length)) (fun s r h e M hs => impl_NotchesFor_b1_ok (([] : Mem).length) s r h e M hs) hr151 ⟨h22, h23, h24, h25, o14⟩ fun x e157 M158 hq152 => ?_
  obtain ⟨rfl, h160, o161⟩ := hq152
  obtain ⟨r163, hx162, h⟩ := bind_some h
  refine bE (sN (sq (sq (Rg (kx (mvO h160) (kx (bldT zero70 (cns (pr3 rfl) rfl) (fill1 (cs' := (.bool false :: (.lsl ([] : Mem).length y159.length 0 y159.length :: ((arC (cI .i8) 0 (Ar.rep 16 0)) ++ ([] : List AV))))) ⟨rfl, ble rfl⟩ (all1 (okL o161 (by simp)) all0) rfl (fill0 rfl))) (kc (cl (v := .bool r163) rfl rfl (cns rfl rfl) (ra1 (ra_agg (mp1 rfl (mp1 (ra1_row o161 rfl Notch.fl) (mpA (fun _ => rArg1_flat) (fun _ => rfl) mp0)))) ra0) (impl_ValidHalf_ok (Half.mk false y159 (Ar.rep 16 0)) _ hx162) (fun _ => rfl)) (kx (uNot rfl) (Rn (hV (.lsl ([] : Mem).length y159.length 0 y159.length) h160 (hN rfl hZ)) fun e164 h166 h167 => sN ?_)))))))))
  clear h160
  rcases ite_some h with ⟨hb168, h⟩ | ⟨hb168, h⟩
  ·refine cF h167 (congrArg Bool.not hb168) (xx (sN (sq (Rg (kx (mvO h166) (kx (mvO rfl) (kx (mvO rfl) (Rn (hV (.lsl ([] : Mem).length y159.length 0 y159.length) rfl (hV (.int .i64 0) rfl hZ)) fun e169 h171 h172 => sN (xx ?_)))))))))
   clear h166 h167
   obtain rfl := si h
   exact eR (resT h171 (resT h172 res0)) (wkO (y := .tup [.sl (some 170) (y159.map Notch.c), .int .i64 0]) (rr_tup (mp1 (rr_row o161 rfl Notch.fl) (mp1 rfl mp0))) rfl (own_tup (oa1 (own2_row (c := Notch.c) Notch.flF) (oa1 rfl oa0))))
  refine cT h167 (congrArg Bool.not hb168) (sq (Rg (kx (mvO rfl) (kx (mvO rfl) (Rn (hV .nils rfl (hV (.int .i64 3) rfl hZ)) fun e173 h175 h176 => sN (xx (sR ?_)))))))
  clear h166 h167
  obtain rfl := si h
  exact eR (resT h175 (resT h176 res0)) (wkO (y := .tup [.nils, .int .i64 3]) rfl rfl (own_tup (oa1 rfl (oa1 rfl oa0))))
 refine cT h9 (congrArg Bool.not hb10) (sq (Rg (kx (mvO rfl) (kx (mvO rfl) (Rn (hV .nils rfl (hV (.int .i64 2) rfl hZ)) fun e177 h179 h180 => sN (xx (sR ?_)))))))
 clear h8 h9
 obtain rfl := si h
 exact eR (resT h179 (resT h180 res0)) (wkO (y := .tup [.nils, .int .i64 2]) rfl rfl (own_tup (oa1 rfl (oa1 rfl oa0))))
noncomputable def impl_nextSeed (a1 : Int) : Option Int :=
 some (IntKind.u32.wrap ((IntKind.u32.wrap (1664525 * a1)) + 1013904223))
def impl_nextSeed_enc (r : Int) : AV := .int .u32 r
theorem impl_nextSeed_ok (a1 : Int) (r : Int) (h : impl_nextSeed a1 = some r) : Ev (fun k => CN k 127 [.int .u32 a1] []) (fun p => rRes p.2 p.1 = impl_nextSeed_enc r) := by
 unfold impl_nextSeed at h
 refine Ev.enter (F := fun k => f127 (CN k) k) (fun k => callN_eq rfl Try.func127 rfl rfl rfl (by decide +kernel) (f127_eq _ _)) (sq (Rg (kx (mvO rfl) (Rn (hN rfl hZ) fun e1 h3 => sN (sq (Rg (kx (mvO h3) (kx (bMul rfl rfl) (kx (bAdd rfl rfl) (kx (mvO rfl) (Rn (hN rfl hZ) fun e4 h6 => sN (xx ?_))))))))))))
 clear h3
 obtain rfl := si h
 exact eR (resT h6 res0) rfl
noncomputable def impl_isName (a1 : List UInt8) : Option Bool :=
 (impl_isLetters a1 12).bind fun r5 =>
 some r5
def impl_isName_enc (r : Bool) : AV := .bool r
theorem impl_isName_ok (a1 : List UInt8) (r : Bool) (h : impl_isName a1 = some r) : Ev (fun k => CN k 125 [.str a1] []) (fun p => rRes p.2 p.1 = impl_isName_enc r) := by
 unfold impl_isName at h
 obtain ⟨r5, hx4, h⟩ := bind_some h
 refine Ev.enter (F := fun k => f125 (CN k) k) (fun k => callN_eq rfl Try.func125 rfl rfl rfl (by decide +kernel) (f125_eq _ _)) (sq (Rg (kx (mvO rfl) (Rn (hN rfl hZ) fun e1 h3 => sN (sq (Rg (kx (mvO h3) (kc (cl (v := .bool r5) rfl rfl (cns rfl (cns rfl rfl)) rfl (impl_isLetters_ok a1 12 _ hx4) nm) (kx (mvO rfl) (Rn (hN rfl hZ) fun e6 h8 => sN (xx ?_)))))))))))
 clear h3
 obtain rfl := si h
 exact eR (resT h8 res0) rfl
abbrev spec_l01Grain_b1_S := Int
abbrev spec_l01Grain_b1_R := Unit ⊕ Unit
def spec_l01Grain_b1_RS (a1 : Ar 16 Int) (s : spec_l01Grain_b1_S) (e : Env) (M : Mem) : Prop := eget e 1 = .pt none (arC (cI .i8) 0 a1) ∧ eget e 3 = .int .i64 s
def spec_l01Grain_b1_RR (a1 : Ar 16 Int) (r : spec_l01Grain_b1_R) (x : Ex) (e : Env) (M : Mem) : Prop :=
  match r with
  | (.inl g) => x = .ret ∧ eget e 2 = .bool false
  | (.inr g) => x = .ext 0 ∧ True
noncomputable def spec_l01Grain_b1 (a1 : Ar 16 Int) : spec_l01Grain_b1_S → Option (spec_l01Grain_b1_S ⊕ spec_l01Grain_b1_R) := fun s1_1 =>
 if (decide (s1_1 < 16)) = true then
  (rdA a1 s1_1).bind fun x26 =>
  if (decide (x26 < (-3))) = true then
   some (.inr (.inl ()))
  else
   (rdA a1 s1_1).bind fun x37 =>
   if (decide (x37 > 3)) = true then
    some (.inr (.inl ()))
   else
    some (.inl (IntKind.i64.wrap (s1_1 + 1)))
 else
  some (.inr (.inr ()))
theorem spec_l01Grain_b1_ok (a1 : Ar 16 Int) (s : spec_l01Grain_b1_S) (r : spec_l01Grain_b1_S ⊕ spec_l01Grain_b1_R) (h : spec_l01Grain_b1 a1 s = some r) (e : Env) (M : Mem) (hs : spec_l01Grain_b1_RS a1 s e M) : Ev (fun k => (f123_l2 (CN k) k (prune [1, 3] e) M).bind fun q => some q) (bQ (spec_l01Grain_b1_RS a1) (spec_l01Grain_b1_RR a1) r) := by
 revert h hs
 revert s
 intro s1_1 h hs
 unfold spec_l01Grain_b1 at h
 obtain ⟨h16, h18⟩ := hs
 generalize he15 : prune [1, 3] e = e14
 have h17 := envp he15.symm rfl h16
 have h19 := envp he15.symm rfl h18
 refine sq (sq (Rg (kx (mvO h19) (kx (bLss rfl rfl) (Rn (hV (.pt none (arC (cI .i8) 0 a1)) h17 (hV (.int .i64 s1_1) h19 (hN rfl hZ))) fun e20 h22 h23 h24 => sN ?_)))))
 clear h17 h19
 rcases ite_some h with ⟨hb25, h⟩ | ⟨hb25, h⟩
 ·obtain ⟨x26, hx27, h⟩ := bind_some h
  refine cT h24 hb25 (xx (sN (sq (bl (sq (Rg (kx (mvO h23) (kx (ixPA (c := (cI .i8)) (z := 0) (g := a1) h22 rfl hx27 (fun _ => rfl)) (kx (ldP rfl rfl) (kx (bLss rfl rfl) (kx (mvO rfl) ?_)))))))))))
  rcases ite_some h with ⟨hb28, h⟩ | ⟨hb28, h⟩
  ·refine kx (gsF rfl hb28) (kx (gsF rfl hb28) (kx (gsF rfl hb28) (kx (gsF rfl hb28) (kx (pkT rfl hb28 rfl) (Rn (hA h22 (hA h23 (hV (.bool true) rfl hZ))) fun e29 h31 h32 h33 => sN (cT h33 rfl (sq (Rg (kx (mvO rfl) (Rn (hV (.bool false) rfl hZ) fun e34 h36 => sN (xx (bR (sR ?_)))))))))))))
   clear h22 h23 h24 h31 h32 h33
   obtain rfl := si h
   exact qR ⟨rfl, h36⟩
  obtain ⟨x37, hx38, h⟩ := bind_some h
  refine kx (guF rfl hb28 (mvO h23)) (kx (guF rfl hb28 (ixPA (c := (cI .i8)) (z := 0) (g := a1) h22 rfl hx38 (fun _ => rfl))) (kx (guF rfl hb28 (ldP rfl rfl)) (kx (guF rfl hb28 (bGtr rfl rfl)) (kx (pkF rfl hb28 rfl) (Rn (hA h22 (hA h23 (hN rfl hZ))) fun e39 h41 h42 h43 => sN ?_)))))
  clear h22 h23 h24
  rcases ite_some h with ⟨hb44, h⟩ | ⟨hb44, h⟩
  ·refine cT h43 hb44 (sq (Rg (kx (mvO rfl) (Rn (hV (.bool false) rfl hZ) fun e45 h47 => sN (xx (bR (sR ?_)))))))
   clear h41 h42 h43
   obtain rfl := si h
   exact qR ⟨rfl, h47⟩
  refine cF h43 hb44 (xx (bN (sN (Rg (kx (mvO h42) (kx (bAdd rfl rfl) (kx (mvO rfl) (Rn (hA h41 (hN rfl hZ)) fun e48 h50 h51 => ?_))))))))
  clear h41 h43
  obtain rfl := si h
  exact qN ⟨h50, h51⟩
 refine cF h24 hb25 (xx (sE ?_))
 obtain rfl := si h
 exact qE ⟨rfl, trivial⟩
noncomputable def spec_l01Grain (a1 : Ar 16 Int) : Option Bool :=
 (Lw (spec_l01Grain_b1 a1) 0).bind fun r => match r with
 | (.inl _) =>
  some false
 | (.inr _) =>
  some true
def spec_l01Grain_enc (r : Bool) : AV := .bool r
theorem spec_l01Grain_ok (a1 : Ar 16 Int) (r : Bool) (h : spec_l01Grain a1 = some r) : Ev (fun k => CN k 123 [.agg (arC (cI .i8) 0 a1)] []) (fun p => rRes p.2 p.1 = spec_l01Grain_enc r) := by
 unfold spec_l01Grain at h
 obtain ⟨r52, hr53, h⟩ := bind_some h
 refine Ev.enter (F := fun k => f123 (CN k) k) (fun k => callN_eq rfl Try.func123 rfl rfl rfl (by decide +kernel) (f123_eq _ _)) (sq (Rg (kx (bxI rfl rfl ⟨rfl, rfl, by decide⟩) (kx (mvO rfl) (Rn (hN rfl hZ) fun e1 h3 => sN (sq (sq (Rg (kx (mvO rfl) (Rn (hA h3 (hV (.int .i64 0) rfl hZ)) fun e4 h6 h7 => sN (bl ?_)))))))))))
 clear h3
 rcases r52 with _ | _
 ·refine Ev.loop (RS := spec_l01Grain_b1_RS a1) (RR := spec_l01Grain_b1_RR a1) (fun s r h e M hs => spec_l01Grain_b1_ok a1 s r h e M hs) hr53 ⟨h6, h7⟩ fun x e55 M56 hq54 => ?_
  obtain ⟨rfl, h57⟩ := hq54
  refine bR (sR ?_)
  obtain rfl := si h
  exact eR (resT h57 res0) rfl
 refine Ev.loop (RS := spec_l01Grain_b1_RS a1) (RR := spec_l01Grain_b1_RR a1) (fun s r h e M hs => spec_l01Grain_b1_ok a1 s r h e M hs) hr53 ⟨h6, h7⟩ fun x e58 M59 hq54 => ?_
 obtain ⟨rfl, _⟩ := hq54
 refine bE (sN (sq (Rg (kx (mvO rfl) (Rn (hV (.bool true) rfl hZ) fun e60 h62 => sN (xx ?_))))))
 obtain rfl := si h
 exact eR (resT h62 res0) rfl
noncomputable def spec_l01Ok (a1 : Half) : Option Bool :=
 (spec_l01Notches a1.Notches).bind fun r5 =>
 if r5 = true then
  (spec_l01Grain a1.Grain).bind fun r8 =>
  some r8
 else
  some false
def spec_l01Ok_enc (r : Bool) : AV := .bool r
theorem spec_l01Ok_ok (a1 : Half) (r : Bool) (h : spec_l01Ok a1 = some r) : Ev (fun k => CN k 92 [.pt none (.bool a1.Stock :: (.sl none (a1.Notches.map Notch.c) :: ((arC (cI .i8) 0 a1.Grain) ++ ([] : List AV))))] []) (fun p => rRes p.2 p.1 = spec_l01Ok_enc r) := by
 unfold spec_l01Ok at h
 obtain ⟨r5, hx4, h⟩ := bind_some h
 refine Ev.enter (F := fun k => f92 (CN k) k) (fun k => callN_eq rfl Try.func92 rfl rfl rfl (by decide +kernel) (f92_eq _ _)) (sq (Rg (kx (mvO rfl) (Rn (hN rfl hZ) fun e1 h3 => sN (sq (Rg (kx (mvO h3) (kx (ncP rfl) (kx (faP rfl ⟨ble rfl, blt rfl⟩ rfl) (kx (ldP rfl rfl) (kc (cl (v := .bool r5) rfl rfl (cns rfl rfl) rfl (spec_l01Notches_ok a1.Notches _ hx4) nm) (kx (mvO rfl) ?_))))))))))))
 rcases ite_some h with ⟨hb6, h⟩ | ⟨hb6, h⟩
 ·obtain ⟨r8, hx7, h⟩ := bind_some h
  refine kx (guT rfl hb6 (mvO h3)) (kx (guT rfl hb6 (ncP rfl)) (kx (guT rfl hb6 (faP rfl ⟨ble rfl, blt rfl⟩ rfl)) (kx (guT rfl hb6 (ldPA rfl rfl rfl)) (kc (Ev.guT rfl hb6 (cl (v := .bool r8) rfl rfl (cns rfl rfl) rfl (spec_l01Grain_ok a1.Grain _ hx7) nm)) (kx (pkT rfl hb6 rfl) (kx (mvO rfl) (Rn (hN rfl hZ) fun e9 h11 => sN (xx ?_))))))))
  clear h3
  obtain rfl := si h
  exact eR (resT h11 res0) rfl
 refine kx (gsT rfl hb6) (kx (gsT rfl hb6) (kx (gsT rfl hb6) (kx (gsT rfl hb6) (kc (Ev.gsT rfl hb6) (kx (pkF rfl hb6 rfl) (kx (mvO rfl) (Rn (hV (.bool false) rfl hZ) fun e12 h14 => sN (xx ?_))))))))
 clear h3
 obtain rfl := si h
 exact eR (resT h14 res0) rfl
def spec_l06Ok_c1_Q (a1 : Chain) (g : Bool) (q : Out) : Prop := q.1 = .nrm ∧ eget q.2.1 0 = .pt none (.str a1.Debtor :: (.bool a1.Stock.Stock :: (.sl none (a1.Stock.Notches.map Notch.c) :: ((arC (cI .i8) 0 a1.Stock.Grain) ++ ((.sl none (a1.Marks.map Mark.c) :: []) : List AV))))) ∧ eget q.2.1 34 = .bool g
abbrev spec_l06Ok_b1_S := (List UInt8) × Int
abbrev spec_l06Ok_b1_R := Unit ⊕ Unit
def spec_l06Ok_b1_RS (a1 : Chain) (s : spec_l06Ok_b1_S) (e : Env) (M : Mem) : Prop := eget e 0 = .pt none (.str a1.Debtor :: (.bool a1.Stock.Stock :: (.sl none (a1.Stock.Notches.map Notch.c) :: ((arC (cI .i8) 0 a1.Stock.Grain) ++ ((.sl none (a1.Marks.map Mark.c) :: []) : List AV))))) ∧ eget e 3 = .str s.1 ∧ eget e 4 = .int .i64 s.2
def spec_l06Ok_b1_RR (a1 : Chain) (r : spec_l06Ok_b1_R) (x : Ex) (e : Env) (M : Mem) : Prop :=
  match r with
  | (.inl g) => x = .ret ∧ eget e 2 = .bool false
  | (.inr g) => x = .ext 0 ∧ True
noncomputable def spec_l06Ok_b1 (a1 : Chain) : spec_l06Ok_b1_S → Option (spec_l06Ok_b1_S ⊕ spec_l06Ok_b1_R) := fun (s1_1, s1_2) =>
 if (decide (s1_2 < (a1.Marks.length : Int))) = true then
  (rd a1.Marks s1_2).bind fun x70 =>
  (spec_l06Name x70.Holder).bind fun r73 =>
  if r73 = true then
   (rd a1.Marks s1_2).bind fun x75 =>
   if (x75.Holder == s1_1) = true then
    some (.inr (.inl ()))
   else
    (rd a1.Marks s1_2).bind fun x86 =>
    some (.inl (x86.Holder, (IntKind.i64.wrap (s1_2 + 1))))
  else
   some (.inr (.inl ()))
 else
  some (.inr (.inr ()))
theorem spec_l06Ok_b1_ok (a1 : Chain) (s : spec_l06Ok_b1_S) (r : spec_l06Ok_b1_S ⊕ spec_l06Ok_b1_R) (h : spec_l06Ok_b1 a1 s = some r) (e : Env) (M : Mem) (hs : spec_l06Ok_b1_RS a1 s e M) : Ev (fun k => (f98_l5 (CN k) k (prune [0, 3, 4] e) M).bind fun q => some q) (bQ (spec_l06Ok_b1_RS a1) (spec_l06Ok_b1_RR a1) r) := by
 obtain ⟨s1_1, s1_2⟩ := s
 unfold spec_l06Ok_b1 at h
 obtain ⟨h57, h59, h61⟩ := hs
 generalize he56 : prune [0, 3, 4] e = e55
 have h58 := envp he56.symm rfl h57
 have h60 := envp he56.symm rfl h59
 have h62 := envp he56.symm rfl h61
 refine sq (sq (Rg (kx (mvO h62) (kx (mvO h58) (kx (ncP rfl) (kx (faP rfl ⟨ble rfl, blt rfl⟩ rfl) (kx (ldP rfl rfl) (kx (lnS Try.underlying71 rfl) (kx (bLss rfl rfl) (Rn (hV (.pt none (.str a1.Debtor :: (.bool a1.Stock.Stock :: (.sl none (a1.Stock.Notches.map Notch.c) :: ((arC (cI .i8) 0 a1.Stock.Grain) ++ ((.sl none (a1.Marks.map Mark.c) :: []) : List AV)))))) h58 (hV (.str s1_1) h60 (hV (.int .i64 s1_2) h62 (hN rfl hZ)))) fun e63 h65 h66 h67 h68 => sN ?_))))))))))
 clear h58 h60 h62
 rcases ite_some h with ⟨hb69, h⟩ | ⟨hb69, h⟩
 ·obtain ⟨x70, hx71, h⟩ := bind_some h
  obtain ⟨r73, hx72, h⟩ := bind_some h
  refine cT h68 hb69 (xx (sN (sq (bl (sq (sq (Rg (kx (mvO h65) (kx (ncP rfl) (kx (faP rfl ⟨ble rfl, blt rfl⟩ rfl) (kx (ldP rfl rfl) (kx (mvO h67) (kx (ixS rfl rfl hx71 Mark.fl) (kx (faP rfl ⟨ble rfl, blt rfl⟩ rfl) (kx (ldP rfl rfl) (kc (cl (v := .bool r73) rfl rfl (cns rfl rfl) rfl (spec_l06Name_ok x70.Holder _ hx72) nm) (kx (uNot rfl) (kx (mvO rfl) ?_))))))))))))))))))
  rcases ite_some h with ⟨hb74, h⟩ | ⟨hb74, h⟩
  ·obtain ⟨x75, hx76, h⟩ := bind_some h
   refine kx (guF rfl (congrArg Bool.not hb74) (mvO h65)) (kx (guF rfl (congrArg Bool.not hb74) (ncP rfl)) (kx (guF rfl (congrArg Bool.not hb74) (faP rfl ⟨ble rfl, blt rfl⟩ rfl)) (kx (guF rfl (congrArg Bool.not hb74) (ldP rfl rfl)) (kx (guF rfl (congrArg Bool.not hb74) (mvO h67)) (kx (guF rfl (congrArg Bool.not hb74) (ixS rfl rfl hx76 Mark.fl)) (kx (guF rfl (congrArg Bool.not hb74) (faP rfl ⟨ble rfl, blt rfl⟩ rfl)) (kx (guF rfl (congrArg Bool.not hb74) (ldP rfl rfl)) (kx (guF rfl (congrArg Bool.not hb74) (mvO h66)) (kx (guF rfl (congrArg Bool.not hb74) (sEql rfl rfl)) (kx (pkF rfl (congrArg Bool.not hb74) rfl) (Rn (hA h65 (hA h67 (hN rfl hZ))) fun e77 h79 h80 h81 => sN ?_)))))))))))
   clear h65 h66 h67 h68
   rcases ite_some h with ⟨hb82, h⟩ | ⟨hb82, h⟩
   ·refine cT h81 hb82 (sq (Rg (kx (mvO rfl) (Rn (hV (.bool false) rfl hZ) fun e83 h85 => sN (xx (sR (bR (sR ?_))))))))
    clear h79 h80 h81
    obtain rfl := si h
    exact qR ⟨rfl, h85⟩
   obtain ⟨x86, hx87, h⟩ := bind_some h
   refine cF h81 hb82 (xx (sN (Rg (kx (mvO h79) (kx (ncP rfl) (kx (faP rfl ⟨ble rfl, blt rfl⟩ rfl) (kx (ldP rfl rfl) (kx (mvO h80) (kx (ixS rfl rfl hx87 Mark.fl) (kx (faP rfl ⟨ble rfl, blt rfl⟩ rfl) (kx (ldP rfl rfl) (kx (mvO rfl) (Rn (hA h79 (hN rfl (hA h80 hZ))) fun e88 h90 h91 h92 => bN (sN (Rg (kx (mvO h92) (kx (bAdd rfl rfl) (kx (mvO rfl) (Rn (hA h90 (hA h91 (hN rfl hZ))) fun e93 h95 h96 h97 => ?_)))))))))))))))))))
   clear h79 h80 h81 h90 h91
   obtain rfl := si h
   exact qN ⟨h95, h96, h97⟩
  refine kx (gsF rfl (congrArg Bool.not hb74)) (kx (gsF rfl (congrArg Bool.not hb74)) (kx (gsF rfl (congrArg Bool.not hb74)) (kx (gsF rfl (congrArg Bool.not hb74)) (kx (gsF rfl (congrArg Bool.not hb74)) (kx (gsF rfl (congrArg Bool.not hb74)) (kx (gsF rfl (congrArg Bool.not hb74)) (kx (gsF rfl (congrArg Bool.not hb74)) (kx (gsF rfl (congrArg Bool.not hb74)) (kx (gsF rfl (congrArg Bool.not hb74)) (kx (pkT rfl (congrArg Bool.not hb74) rfl) (Rn (hA h65 (hA h67 (hV (.bool true) rfl hZ))) fun e98 h100 h101 h102 => sN (cT h102 rfl (sq (Rg (kx (mvO rfl) (Rn (hV (.bool false) rfl hZ) fun e103 h105 => sN (xx (sR (bR (sR ?_))))))))))))))))))))
  clear h65 h66 h67 h68 h100 h101 h102
  obtain rfl := si h
  exact qR ⟨rfl, h105⟩
 refine cF h68 hb69 (xx (sE ?_))
 obtain rfl := si h
 exact qE ⟨rfl, trivial⟩
noncomputable def spec_l06Ok (a1 : Chain) : Option Bool :=
 ((spec_l06Name a1.Debtor).bind fun r5 =>
 if r5 = true then
  (spec_l01Ok a1.Stock).bind fun r8 =>
  if r8 = true then
   if a1.Stock.Stock = true then
    (spec_l00In (a1.Marks.length : Int) 1 30).bind fun r12 =>
    some (!r12)
   else
    some true
  else
   some true
 else
  some true).bind fun y31 =>
 if y31 = true then
  some false
 else
  (Lw (spec_l06Ok_b1 a1) (a1.Debtor, 0)).bind fun r => match r with
  | (.inl _) =>
   some false
  | (.inr _) =>
   some true
def spec_l06Ok_enc (r : Bool) : AV := .bool r
theorem spec_l06Ok_ok (a1 : Chain) (r : Bool) (h : spec_l06Ok a1 = some r) : Ev (fun k => CN k 98 [.pt none (.str a1.Debtor :: (.bool a1.Stock.Stock :: (.sl none (a1.Stock.Notches.map Notch.c) :: ((arC (cI .i8) 0 a1.Stock.Grain) ++ ((.sl none (a1.Marks.map Mark.c) :: []) : List AV)))))] []) (fun p => rRes p.2 p.1 = spec_l06Ok_enc r) := by
 unfold spec_l06Ok at h
 obtain ⟨r118, hr119, h⟩ := bind_some h
 refine Ev.enter (F := fun k => f98 (CN k) k) (fun k => callN_eq rfl Try.func98 rfl rfl rfl (by decide +kernel) (f98_eq _ _)) (sq (Rg (kx (mvO rfl) (Rn (hN rfl hZ) fun e1 h3 => sN (sq (sq ?_))))))
 refine Ev.cut (Q1 := spec_l06Ok_c1_Q a1 r118) (by
     have h := hr119
     obtain ⟨r5, hx4, h⟩ := bind_some h
     refine Rg (kx (mvO h3) (kx (ncP rfl) (kx (faP rfl ⟨ble rfl, blt rfl⟩ rfl) (kx (ldP rfl rfl) (kc (cl (v := .bool r5) rfl rfl (cns rfl rfl) rfl (spec_l06Name_ok a1.Debtor _ hx4) nm) (kx (uNot rfl) (kx (mvO rfl) ?_)))))))
     rcases ite_some h with ⟨hb6, h⟩ | ⟨hb6, h⟩
     ·obtain ⟨r8, hx7, h⟩ := bind_some h
      refine kx (guF rfl (congrArg Bool.not hb6) (mvO h3)) (kx (guF rfl (congrArg Bool.not hb6) (ncP rfl)) (kx (guF rfl (congrArg Bool.not hb6) (faP rfl ⟨ble rfl, blt rfl⟩ rfl)) (kc (Ev.guF rfl (congrArg Bool.not hb6) (cl (v := .bool r8) rfl rfl (cns rfl rfl) rfl (spec_l01Ok_ok a1.Stock _ hx7) nm)) (kx (guF rfl (congrArg Bool.not hb6) (uNot rfl)) (kx (pkF rfl (congrArg Bool.not hb6) rfl) (kx (mvO rfl) ?_))))))
      rcases ite_some h with ⟨hb9, h⟩ | ⟨hb9, h⟩
      ·refine kx (guF rfl (congrArg Bool.not hb9) (mvO h3)) (kx (guF rfl (congrArg Bool.not hb9) (ncP rfl)) (kx (guF rfl (congrArg Bool.not hb9) (faP rfl ⟨ble rfl, blt rfl⟩ rfl)) (kx (guF rfl (congrArg Bool.not hb9) (faP rfl ⟨ble rfl, blt rfl⟩ rfl)) (kx (guF rfl (congrArg Bool.not hb9) (ldP rfl rfl)) (kx (guF rfl (congrArg Bool.not hb9) (uNot rfl)) (kx (pkF rfl (congrArg Bool.not hb9) rfl) (kx (mvO rfl) ?_)))))))
       rcases ite_some h with ⟨hb10, h⟩ | ⟨hb10, h⟩
       ·obtain ⟨r12, hx11, h⟩ := bind_some h
        refine kx (guF rfl (congrArg Bool.not hb10) (mvO h3)) (kx (guF rfl (congrArg Bool.not hb10) (ncP rfl)) (kx (guF rfl (congrArg Bool.not hb10) (faP rfl ⟨ble rfl, blt rfl⟩ rfl)) (kx (guF rfl (congrArg Bool.not hb10) (ldP rfl rfl)) (kx (guF rfl (congrArg Bool.not hb10) (lnS Try.underlying71 rfl)) (kc (Ev.guF rfl (congrArg Bool.not hb10) (cl (v := .bool r12) rfl rfl (cns rfl (cns rfl (cns rfl rfl))) rfl (spec_l00In_ok (a1.Marks.length : Int) 1 30 _ hx11) nm)) (kx (guF rfl (congrArg Bool.not hb10) (uNot rfl)) (kx (pkF rfl (congrArg Bool.not hb10) rfl) (Rn (hA h3 (hN rfl hZ)) fun e13 h15 h16 => ?_))))))))
        clear h3
        obtain rfl := si h
        exact kd (show spec_l06Ok_c1_Q a1 _ _ from ⟨rfl, h15, h16⟩)
       refine kx (gsF rfl (congrArg Bool.not hb10)) (kx (gsF rfl (congrArg Bool.not hb10)) (kx (gsF rfl (congrArg Bool.not hb10)) (kx (gsF rfl (congrArg Bool.not hb10)) (kx (gsF rfl (congrArg Bool.not hb10)) (kc (Ev.gsF rfl (congrArg Bool.not hb10)) (kx (gsF rfl (congrArg Bool.not hb10)) (kx (pkT rfl (congrArg Bool.not hb10) rfl) (Rn (hA h3 (hV (.bool true) rfl hZ)) fun e17 h19 h20 => ?_))))))))
       clear h3
       obtain rfl := si h
       exact kd (show spec_l06Ok_c1_Q a1 _ _ from ⟨rfl, h19, h20⟩)
      refine kx (gsF rfl (congrArg Bool.not hb9)) (kx (gsF rfl (congrArg Bool.not hb9)) (kx (gsF rfl (congrArg Bool.not hb9)) (kx (gsF rfl (congrArg Bool.not hb9)) (kx (gsF rfl (congrArg Bool.not hb9)) (kx (gsF rfl (congrArg Bool.not hb9)) (kx (pkT rfl (congrArg Bool.not hb9) rfl) (kx (mvO rfl) (kx (gsF rfl rfl) (kx (gsF rfl rfl) (kx (gsF rfl rfl) (kx (gsF rfl rfl) (kx (gsF rfl rfl) (kc (Ev.gsF rfl rfl) (kx (gsF rfl rfl) (kx (pkT rfl rfl rfl) (Rn (hA h3 (hV (.bool true) rfl hZ)) fun e21 h23 h24 => ?_))))))))))))))))
      clear h3
      obtain rfl := si h
      exact kd (show spec_l06Ok_c1_Q a1 _ _ from ⟨rfl, h23, h24⟩)
     refine kx (gsF rfl (congrArg Bool.not hb6)) (kx (gsF rfl (congrArg Bool.not hb6)) (kx (gsF rfl (congrArg Bool.not hb6)) (kc (Ev.gsF rfl (congrArg Bool.not hb6)) (kx (gsF rfl (congrArg Bool.not hb6)) (kx (pkT rfl (congrArg Bool.not hb6) rfl) (kx (mvO rfl) (kx (gsF rfl rfl) (kx (gsF rfl rfl) (kx (gsF rfl rfl) (kx (gsF rfl rfl) (kx (gsF rfl rfl) (kx (gsF rfl rfl) (kx (pkT rfl rfl rfl) (kx (mvO rfl) (kx (gsF rfl rfl) (kx (gsF rfl rfl) (kx (gsF rfl rfl) (kx (gsF rfl rfl) (kx (gsF rfl rfl) (kc (Ev.gsF rfl rfl) (kx (gsF rfl rfl) (kx (pkT rfl rfl rfl) (Rn (hA h3 (hV (.bool true) rfl hZ)) fun e25 h27 h28 => ?_)))))))))))))))))))))))
     clear h3
     obtain rfl := si h
     exact kd (show spec_l06Ok_c1_Q a1 _ _ from ⟨rfl, h27, h28⟩)) ?_
 revert h hr119
 revert r118
 intro y31 hr119 h
 intro x e29 M30 hq117
 obtain ⟨rfl, h32, h33⟩ := hq117
 refine sN ?_
 rcases ite_some h with ⟨hb34, h⟩ | ⟨hb34, h⟩
 ·refine cT h33 hb34 (sq (Rg (kx (mvO rfl) (Rn (hV (.bool false) rfl hZ) fun e35 h37 => sN (xx (sR ?_))))))
  clear h32 h33
  obtain rfl := si h
  exact eR (resT h37 res0) rfl
 obtain ⟨r106, hr107, h⟩ := bind_some h
 refine cF h33 hb34 (xx (sN (sq (Rg (kx (mvO h32) (kx (ncP rfl) (kx (faP rfl ⟨ble rfl, blt rfl⟩ rfl) (kx (ldP rfl rfl) (kx (mvO rfl) (Rn (hV (.pt none (.str a1.Debtor :: (.bool a1.Stock.Stock :: (.sl none (a1.Stock.Notches.map Notch.c) :: ((arC (cI .i8) 0 a1.Stock.Grain) ++ ((.sl none (a1.Marks.map Mark.c) :: []) : List AV)))))) h32 (hN rfl hZ)) fun e38 h40 h41 => sN (sq (sq (Rg (kx (mvO rfl) (Rn (hA h40 (hA h41 (hV (.int .i64 0) rfl hZ))) fun e42 h44 h45 h46 => sN (bl ?_))))))))))))))))
 clear h32 h33 h40 h41
 rcases r106 with _ | _
 ·refine Ev.loop (RS := spec_l06Ok_b1_RS a1) (RR := spec_l06Ok_b1_RR a1) (fun s r h e M hs => spec_l06Ok_b1_ok a1 s r h e M hs) hr107 ⟨h44, h45, h46⟩ fun x e109 M110 hq108 => ?_
  obtain ⟨rfl, h111⟩ := hq108
  refine bR (sR ?_)
  obtain rfl := si h
  exact eR (resT h111 res0) rfl
 refine Ev.loop (RS := spec_l06Ok_b1_RS a1) (RR := spec_l06Ok_b1_RR a1) (fun s r h e M hs => spec_l06Ok_b1_ok a1 s r h e M hs) hr107 ⟨h44, h45, h46⟩ fun x e112 M113 hq108 => ?_
 obtain ⟨rfl, _⟩ := hq108
 refine bE (sN (sq (Rg (kx (mvO rfl) (Rn (hV (.bool true) rfl hZ) fun e114 h116 => sN (xx ?_))))))
 obtain rfl := si h
 exact eR (resT h116 res0) rfl
def spec_PassOn_c1_Q (a1 : Chain) (a2 : Party) (a3 : List UInt8) (r22 : List UInt8) (r23 : Int) (i901_1 : Nat) (i901_2 : Nat) (g : Bool) (q : Out) : Prop := q.1 = .nrm ∧ eget q.2.1 2 = .str a3 ∧ eget q.2.1 3 = .pt none (.str a1.Debtor :: (.bool a1.Stock.Stock :: (.sl none (a1.Stock.Notches.map Notch.c) :: ((arC (cI .i8) 0 a1.Stock.Grain) ++ ((.sl none (a1.Marks.map Mark.c) :: []) : List AV))))) ∧ eget q.2.1 4 = .pt none [.str a2.Name, .int .u32 a2.Secret] ∧ eget q.2.1 6 = .loc i901_1 1 0 0 ∧ eget q.2.1 8 = .loc i901_2 1 0 0 ∧ eget q.2.1 28 = .bool g ∧ q.2.2[i901_1]? = some (.live ⟨.box, 73, 20, [(.str ([] : List UInt8) :: (.bool false :: (.nils :: ((arC (cI .i8) 0 (Ar.rep 16 0)) ++ ((.nils :: []) : List AV)))))]⟩) ∧ q.2.2[i901_2]? = some (.live ⟨.box, 173, 2, [[.str r22, .int .u32 r23]]⟩)
noncomputable def spec_PassOn (a1 : Chain) (a2 : Party) (a3 : List UInt8) : Option ((List UInt8) × Bool × (List Notch) × (Ar 16 Int) × (List Mark) × Int) :=
 (spec_l06Ok a1).bind fun r12 =>
 if r12 = true then
  (spec_l06Last a1).bind fun (r22, r23) =>
  if (a2.Name == r22) = true then
   ((spec_l06Name a3).bind fun r51 =>
   if r51 = true then
    some (a3 == a2.Name)
   else
    some true).bind fun y71 =>
   if y71 = true then
    some (([] : List UInt8), false, ([] : List Notch), (Ar.rep 16 0), ([] : List Mark), 2)
   else
    if (decide ((a1.Marks.length : Int) ≥ 30)) = true then
     some (([] : List UInt8), false, ([] : List Notch), (Ar.rep 16 0), ([] : List Mark), 3)
    else
     (spec_l06Seal a1.Stock r23 a3 a2.Secret).bind fun r107 =>
     (spec_l04Copy a1.Stock).bind fun (r127, r128, r129) =>
     (app 24 ([] : List Mark) a1.Marks).bind fun x143 =>
     (app 24 x143 [(Mark.mk a3 r107)]).bind fun x151 =>
     some (a1.Debtor, r127, r128, r129, x151, 0)
  else
   some (([] : List UInt8), false, ([] : List Notch), (Ar.rep 16 0), ([] : List Mark), 4)
 else
  some (([] : List UInt8), false, ([] : List Notch), (Ar.rep 16 0), ([] : List Mark), 1)
def spec_PassOn_enc (r : (List UInt8) × Bool × (List Notch) × (Ar 16 Int) × (List Mark) × Int) : AV := .tup [.agg (.str r.1 :: (.bool r.2.1 :: (.sl none (r.2.2.1.map Notch.c) :: ((arC (cI .i8) 0 r.2.2.2.1) ++ ((.sl none (r.2.2.2.2.1.map Mark.c) :: []) : List AV))))), .int .i64 r.2.2.2.2.2]
theorem spec_PassOn_ok (a1 : Chain) (a2 : Party) (a3 : List UInt8) (r : (List UInt8) × Bool × (List Notch) × (Ar 16 Int) × (List Mark) × Int) (h : spec_PassOn a1 a2 a3 = some r) : Ev (fun k => CN k 121 [.agg (.str a1.Debtor :: (.bool a1.Stock.Stock :: (.sl none (a1.Stock.Notches.map Notch.c) :: ((arC (cI .i8) 0 a1.Stock.Grain) ++ ((.sl none (a1.Marks.map Mark.c) :: []) : List AV))))), .agg [.str a2.Name, .int .u32 a2.Secret], .str a3] []) (fun p => wkR (rRes p.2 p.1) = spec_PassOn_enc r ∧ ownAll (rRes p.2 p.1) = true) := by
 unfold spec_PassOn at h
 refine Ev.enter (F := fun k => f121 (CN k) k) (fun k => callN_eq rfl Try.func121 rfl rfl rfl (by decide +kernel) (f121_eq _ _)) (sq (Rg (kx (bxI rfl rfl ⟨rfl, rfl, by decide⟩) (kx (bxI rfl rfl ⟨rfl, rfl, by decide⟩) (ku (alO zero73) fun M2 hM3 => ?_)))))
 have o4 : M2[([] : Mem).length]? = some (.live ⟨.box, 73, 20, [(.str ([] : List UInt8) :: (.bool false :: (.nils :: ((arC (cI .i8) 0 (Ar.rep 16 0)) ++ ((.nils :: []) : List AV)))))]⟩) := push_new hM3
 obtain ⟨r12, hx11, h⟩ := bind_some h
 refine kx (mvO rfl) (Rn (hN rfl (hN rfl (hN rfl (hV (.loc ([] : Mem).length 1 0 0) rfl hZ)))) fun e5 h7 h8 h9 h10 => sN (sq (sq (Rg (kc (cl (v := .bool r12) rfl rfl (cns h8 rfl) rfl (spec_l06Ok_ok a1 _ hx11) nm) (kx (uNot rfl) (Rn (hA h7 (hA h8 (hA h9 (hA h10 (hN rfl hZ))))) fun e13 h15 h16 h17 h18 h19 => sN ?_)))))))
 clear h10 h7 h8 h9
 rcases ite_some h with ⟨hb20, h⟩ | ⟨hb20, h⟩
 ·obtain ⟨⟨r22, r23⟩, hx21, h⟩ := bind_some h
  refine cF h19 (congrArg Bool.not hb20) (xx (sN (sq (Rg (kc (cl (v := .agg [.str r22, .int .u32 r23]) rfl rfl (cns h16 rfl) rfl (spec_l06Last_ok a1 _ hx21) nm) (ku (alO zero173) fun M25 hM26 => ?_))))))
  have o27 := push_old hM26 o4
  have ne28 := ne_new o4
  have o29 : M25[M2.length]? = some (.live ⟨.box, 173, 2, [[.str ([] : List UInt8), .int .u32 0]]⟩) := push_new hM26
  refine kw (stO rfl rfl o29 rfl rfl ⟨rfl, ble rfl⟩ rfl rfl) fun M30 hM31 => ?_
  have o32 := set_ne hM31 ne28 o27
  have o33 : M30[M2.length]? = some (.live ⟨.box, 173, 2, [[.str r22, .int .u32 r23]]⟩) := set_same hM31 o29
  refine Rn (hA h15 (hA h16 (hA h17 (hA h18 (hV (.loc M2.length 1 0 0) rfl hZ))))) fun e34 h36 h37 h38 h39 h40 => sN (sq (sq (Rg (kx (faP h38 ⟨ble rfl, blt rfl⟩ rfl) (kx (ldP rfl rfl) (kx (faO h40 o33 rfl) (kx (ldO rfl o33 rfl rfl rfl) (kx (sNeq rfl rfl) (Rn (hA h36 (hA h37 (hA h38 (hA h39 (hA h40 (hN rfl hZ)))))) fun e41 h43 h44 h45 h46 h47 h48 => sN ?_)))))))))
  clear h15 h16 h17 h18 h19 h36 h37 h38 h39 h40
  rcases ite_some h with ⟨hb49, h⟩ | ⟨hb49, h⟩
  ·obtain ⟨r170, hr171, h⟩ := bind_some h
   refine cF h48 (congrArg Bool.not hb49) (xx (sN (sq (sq ?_))))
   refine Ev.cut (Q1 := spec_PassOn_c1_Q a1 a2 a3 r22 r23 (([] : Mem).length) M2.length r170) (by
       have h := hr171
       obtain ⟨r51, hx50, h⟩ := bind_some h
       refine Rg (kx (mvO h43) (kc (cl (v := .bool r51) rfl rfl (cns rfl rfl) rfl (spec_l06Name_ok a3 _ hx50) nm) (kx (uNot rfl) (kx (mvO rfl) ?_))))
       rcases ite_some h with ⟨hb52, h⟩ | ⟨hb52, h⟩
       ·refine kx (guF rfl (congrArg Bool.not hb52) (mvO h43)) (kx (guF rfl (congrArg Bool.not hb52) (faP h45 ⟨ble rfl, blt rfl⟩ rfl)) (kx (guF rfl (congrArg Bool.not hb52) (ldP rfl rfl)) (kx (guF rfl (congrArg Bool.not hb52) (sEql rfl rfl)) (kx (pkF rfl (congrArg Bool.not hb52) rfl) (Rn (hA h43 (hA h44 (hA h45 (hA h46 (hA h47 (hN rfl hZ)))))) fun e53 h55 h56 h57 h58 h59 h60 => ?_)))))
        clear h43 h44 h45 h46 h47 h48
        obtain rfl := si h
        exact kd (show spec_PassOn_c1_Q a1 a2 a3 r22 r23 (([] : Mem).length) M2.length _ _ from ⟨rfl, h55, h56, h57, h58, h59, h60, o32, o33⟩)
       refine kx (gsF rfl (congrArg Bool.not hb52)) (kx (gsF rfl (congrArg Bool.not hb52)) (kx (gsF rfl (congrArg Bool.not hb52)) (kx (gsF rfl (congrArg Bool.not hb52)) (kx (pkT rfl (congrArg Bool.not hb52) rfl) (Rn (hA h43 (hA h44 (hA h45 (hA h46 (hA h47 (hV (.bool true) rfl hZ)))))) fun e61 h63 h64 h65 h66 h67 h68 => ?_)))))
       clear h43 h44 h45 h46 h47 h48
       obtain rfl := si h
       exact kd (show spec_PassOn_c1_Q a1 a2 a3 r22 r23 (([] : Mem).length) M2.length _ _ from ⟨rfl, h63, h64, h65, h66, h67, h68, o32, o33⟩)) ?_
   revert h hr171
   revert r170
   intro y71 hr171 h
   intro x e69 M70 hq169
   obtain ⟨rfl, h72, h73, h74, h75, h76, h77, o78, o79⟩ := hq169
   refine sN ?_
   rcases ite_some h with ⟨hb80, h⟩ | ⟨hb80, h⟩
   ·refine cT h77 hb80 (sq (Rg (kx (bldT zero73 rfl (fill0 rfl)) (kw (stO h75 rfl o78 rfl rfl ⟨rfl, ble rfl⟩ rfl rfl) fun M81 hM82 => ?_))))
    have o83 : M81[([] : Mem).length]? = some (.live ⟨.box, 73, 20, [(.str ([] : List UInt8) :: (.bool false :: (.nils :: ((arC (cI .i8) 0 (Ar.rep 16 0)) ++ ((.nils :: []) : List AV)))))]⟩) := set_same hM82 o78
    have o84 := set_ne hM82 (Ne.symm ne28) o79
    refine kx (mvO rfl) (Rn (hA h75 (hV (.int .i64 2) rfl hZ)) fun e85 h87 h88 => sN (xx (sR ?_)))
    clear h72 h73 h74 h75 h76 h77
    obtain rfl := si h
    exact eR (resC (ag := true) (sz := 20) ⟨by kernel_rfl, by kernel_rfl, by kernel_rfl⟩ (ldOA (cs' := (.str ([] : List UInt8) :: (.bool false :: (.nils :: ((arC (cI .i8) 0 (Ar.rep 16 0)) ++ ((.nils :: []) : List AV)))))) h87 o83 rfl rfl (ble rfl) rfl) (resT h88 res0)) (wkO (y := .tup [.agg (.str ([] : List UInt8) :: (.bool false :: (.nils :: ((arC (cI .i8) 0 (Ar.rep 16 0)) ++ ((.nils :: []) : List AV))))), .int .i64 2]) rfl (wk_tup (mp1 (wk_agg (mp1 rfl (mp1 rfl (mp1 rfl (mpA (fun _ => wk1_flat) (fun _ => rfl) (mp1 rfl mp0)))))) (mp1 rfl mp0))) (own_tup (oa1 (own2_agg (oa1 rfl (oa1 rfl (oa1 rfl (oaA (fun _ => own1_flat) (fun _ => rfl) (oa1 rfl oa0)))))) (oa1 rfl oa0))))
   refine cF h77 hb80 (xx (sN (sq (sq (Rg (kx (faP h73 ⟨ble rfl, blt rfl⟩ rfl) (kx (ldP rfl rfl) (kx (lnS Try.underlying71 rfl) (kx (bGeq rfl rfl) (Rn (hA h72 (hA h73 (hA h74 (hA h75 (hA h76 (hN rfl hZ)))))) fun e89 h91 h92 h93 h94 h95 h96 => sN ?_))))))))))
   clear h72 h73 h74 h75 h76 h77
   rcases ite_some h with ⟨hb97, h⟩ | ⟨hb97, h⟩
   ·refine cT h96 hb97 (sq (Rg (kx (bldT zero73 rfl (fill0 rfl)) (kw (stO h94 rfl o78 rfl rfl ⟨rfl, ble rfl⟩ rfl rfl) fun M98 hM99 => ?_))))
    have o100 : M98[([] : Mem).length]? = some (.live ⟨.box, 73, 20, [(.str ([] : List UInt8) :: (.bool false :: (.nils :: ((arC (cI .i8) 0 (Ar.rep 16 0)) ++ ((.nils :: []) : List AV)))))]⟩) := set_same hM99 o78
    have o101 := set_ne hM99 (Ne.symm ne28) o79
    refine kx (mvO rfl) (Rn (hA h94 (hV (.int .i64 3) rfl hZ)) fun e102 h104 h105 => sN (xx (sR ?_)))
    clear h91 h92 h93 h94 h95 h96
    obtain rfl := si h
    exact eR (resC (ag := true) (sz := 20) ⟨by kernel_rfl, by kernel_rfl, by kernel_rfl⟩ (ldOA (cs' := (.str ([] : List UInt8) :: (.bool false :: (.nils :: ((arC (cI .i8) 0 (Ar.rep 16 0)) ++ ((.nils :: []) : List AV)))))) h104 o100 rfl rfl (ble rfl) rfl) (resT h105 res0)) (wkO (y := .tup [.agg (.str ([] : List UInt8) :: (.bool false :: (.nils :: ((arC (cI .i8) 0 (Ar.rep 16 0)) ++ ((.nils :: []) : List AV))))), .int .i64 3]) rfl (wk_tup (mp1 (wk_agg (mp1 rfl (mp1 rfl (mp1 rfl (mpA (fun _ => wk1_flat) (fun _ => rfl) (mp1 rfl mp0)))))) (mp1 rfl mp0))) (own_tup (oa1 (own2_agg (oa1 rfl (oa1 rfl (oa1 rfl (oaA (fun _ => own1_flat) (fun _ => rfl) (oa1 rfl oa0)))))) (oa1 rfl oa0))))
   obtain ⟨r107, hx106, h⟩ := bind_some h
   refine cF h96 hb97 (xx (sN (sq (Rg (kx (mvO h91) (kx (faP h92 ⟨ble rfl, blt rfl⟩ rfl) (kx (faO h95 o79 rfl) (kx (ldO rfl o79 rfl rfl rfl) (kx (mvO h91) (kx (faP h93 ⟨ble rfl, blt rfl⟩ rfl) (kx (ldP rfl rfl) (kc (cl (v := .int .u32 r107) rfl rfl (cns rfl (cns rfl (cns rfl (cns rfl rfl)))) rfl (spec_l06Seal_ok a1.Stock r23 a3 a2.Secret _ hx106) nm) (kx (bldT zero173 (cns (pr3 rfl) (cns (pr3 rfl) rfl)) (fill1 ⟨rfl, ble rfl⟩ rfl rfl (fill1 ⟨rfl, ble rfl⟩ rfl rfl (fill0 rfl)))) (ku (alO zero173) fun M109 hM110 => ?_))))))))))))))
   have o111 := push_old hM110 o78
   have ne112 := ne_new o78
   have o113 := push_old hM110 o79
   have ne114 := ne_new o79
   have o115 : M109[M70.length]? = some (.live ⟨.box, 173, 2, [[.str ([] : List UInt8), .int .u32 0]]⟩) := push_new hM110
   refine kw (stO rfl rfl o115 rfl rfl ⟨rfl, ble rfl⟩ rfl rfl) fun M116 hM117 => ?_
   have o118 := set_ne hM117 ne112 o111
   have o119 := set_ne hM117 ne114 o113
   have o120 : M116[M70.length]? = some (.live ⟨.box, 173, 2, [[.str a3, .int .u32 r107]]⟩) := set_same hM117 o115
   obtain ⟨⟨r127, r128, r129⟩, hx126, h⟩ := bind_some h
   refine Rn (hA h92 (hA h94 (hV (.loc M70.length 1 0 0) rfl hZ))) fun e121 h123 h124 h125 => sN (sq (RdS (kfS (faP h123 ⟨ble rfl, blt rfl⟩ rfl) (kfS (ldP rfl rfl) (kfS (faP h123 ⟨ble rfl, blt rfl⟩ rfl) (fpS (Ev.callT (v := .agg (.bool r127 :: (.sl (some 170) (r128.map Notch.c) :: ((arC (cI .i8) 0 r129) ++ ([] : List AV))))) rfl (cns rfl rfl) rfl (spec_l04Copy_ok a1.Stock _ hx126) (th_gen (v' := .agg (.bool r127 :: (.lsl M116.length r128.length 0 r128.length :: ((arC (cI .i8) 0 r129) ++ ([] : List AV))))) (l := [⟨.grow, 170, 2, r128.map Notch.c⟩]) (own_agg (oa1 rfl (oa1 (own1_row' (c := Notch.c) Notch.flF) (oaA (fun _ => own1_flat) (fun _ => rfl) oa0)))) (by simp [thaw, thaw2, thaw1, thawL, co170, thA (c := (cI .i8)) (fun _ => rfl), thA0 (c := (cI .i8)) (fun _ => rfl)]) rfl rfl)) (kpS (litO (xs := ([] : List Mark)) (c := Mark.c) rfl rfl (by decide)) (kfS (faP h123 ⟨ble rfl, blt rfl⟩ rfl) (kfS (ldP rfl rfl) (kgS (ldOA h125 o120 rfl rfl (ble rfl) rfl) (kfS (litI (cns rfl rfl) rfl ⟨rfl, by decide⟩) (feS fun M132 hM133 => ?_))))))))))))
   clear h91 h92 h93 h94 h95 h96
   have hM133 := fendM hM133 [⟨.grow, 170, 2, r128.map Notch.c⟩, ⟨.grow, 173, 2, ([] : List Mark).map Mark.c⟩] rfl
   have o134 := push_old hM133 o118
   have o135 := push_old hM133 o120
   have ne136 : ([] : Mem).length ≠ M116.length := by have := lt_of_get (M := M116) o118; omega
   have ne137 : M70.length ≠ M116.length := by have := lt_of_get (M := M116) o120; omega
   have o138 : M132[M116.length]? = some (.live ⟨.grow, 170, 2, r128.map Notch.c⟩) := push_at hM133 0 rfl
   have ne139 : ([] : Mem).length ≠ (M116.length + 1) := by have := lt_of_get (M := M116) o118; omega
   have ne140 : M70.length ≠ (M116.length + 1) := by have := lt_of_get (M := M116) o120; omega
   have ne141 : M116.length ≠ (M116.length + 1) := by omega
   have o142 : M132[(M116.length + 1)]? = some (.live ⟨.grow, 173, 2, ([] : List Mark).map Mark.c⟩) := push_at hM133 1 rfl
   obtain ⟨x143, hx144, h⟩ := bind_some h
   refine kw (apO rfl o142 rfl (elS rfl) hx144 Mark.fl (by decide)) fun M145 hM146 => ?_
   have o147 := set_ne hM146 ne139 o134
   have o148 := set_ne hM146 ne140 o135
   have o149 := set_ne hM146 ne141 o138
   have o150 : M145[(M116.length + 1)]? = some (.live ⟨.grow, 173, 2, x143.map Mark.c⟩) := set_same hM146 o142
   obtain ⟨x151, hx152, h⟩ := bind_some h
   refine ck (ckP (ldOA h125 o148 rfl rfl (ble rfl) rfl) ck0) (kw (apO rfl o150 rfl (elT (c := Mark.c) (xs := [(Mark.mk a3 r107)]) rfl) hx152 Mark.fl (by decide)) fun M153 hM154 => ?_)
   have o155 := set_ne hM154 ne139 o147
   have o156 := set_ne hM154 ne140 o148
   have o157 := set_ne hM154 ne141 o149
   have o158 : M153[(M116.length + 1)]? = some (.live ⟨.grow, 173, 2, x151.map Mark.c⟩) := set_same hM154 o150
   refine ck (ckD rfl ck0) (kx (bldT zero73 (cns (pr3 rfl) (cns (pr3 rfl) (cns (pr3 rfl) rfl))) (fill1 (cs' := (.str a1.Debtor :: (.bool false :: (.nils :: ((arC (cI .i8) 0 (Ar.rep 16 0)) ++ ((.nils :: []) : List AV)))))) ⟨rfl, ble rfl⟩ rfl rfl (fill1 (cs' := (.str a1.Debtor :: (.bool r127 :: (.lsl M116.length r128.length 0 r128.length :: ((arC (cI .i8) 0 r129) ++ ((.nils :: []) : List AV)))))) ⟨rfl, ble rfl⟩ (all1 rfl (all1 (okL o157 (by simp)) (oaP (fun _ => rfl) all0))) rfl (fill1 (cs' := (.str a1.Debtor :: (.bool r127 :: (.lsl M116.length r128.length 0 r128.length :: ((arC (cI .i8) 0 r129) ++ ((.lsl (M116.length + 1) x151.length 0 x151.length :: []) : List AV)))))) ⟨rfl, ble rfl⟩ (all1 (okL o158 (by simp)) all0) rfl (fill0 rfl))))) (ck (ckD rfl ck0) (kw (stO h124 rfl o155 rfl rfl ⟨rfl, ble rfl⟩ (all1 rfl (all1 rfl (all1 (okL o157 (by simp)) (oaS (rest := [.lsl (M116.length + 1) x151.length 0 x151.length]) (fun _ => rfl) (all1 (okL o158 (by simp)) all0))))) rfl) fun M159 hM160 => ?_)))
   have o161 : M159[([] : Mem).length]? = some (.live ⟨.box, 73, 20, [(.str a1.Debtor :: (.bool r127 :: (.lsl M116.length r128.length 0 r128.length :: ((arC (cI .i8) 0 r129) ++ ((.lsl (M116.length + 1) x151.length 0 x151.length :: []) : List AV)))))]⟩) := set_same hM160 o155
   have o162 := set_ne hM160 (Ne.symm ne112) o156
   have o163 := set_ne hM160 (Ne.symm ne136) o157
   have o164 := set_ne hM160 (Ne.symm ne139) o158
   refine ck (ckD rfl ck0) (kx (mvO rfl) (ck (ckD rfl ck0) (Rn (hA h124 (hV (.int .i64 0) rfl hZ)) fun e165 h167 h168 => sN (xx ?_))))
   clear h123 h124 h125
   obtain rfl := si h
   exact eR (resC (ag := true) (sz := 20) ⟨by kernel_rfl, by kernel_rfl, by kernel_rfl⟩ (ldOA (cs' := (.str a1.Debtor :: (.bool r127 :: (.lsl M116.length r128.length 0 r128.length :: ((arC (cI .i8) 0 r129) ++ ((.lsl (M116.length + 1) x151.length 0 x151.length :: []) : List AV)))))) h167 o161 rfl rfl (ble rfl) rfl) (resT h168 res0)) (wkO (y := .tup [.agg (.str a1.Debtor :: (.bool r127 :: (.sl (some 170) (r128.map Notch.c) :: ((arC (cI .i8) 0 r129) ++ ((.sl (some 173) (x151.map Mark.c) :: []) : List AV))))), .int .i64 0]) (rr_tup (mp1 (rr_agg (mp1 rfl (mp1 rfl (mp1 (rr_row o163 rfl Notch.fl) (mpA (fun _ => rRes1_flat) (fun _ => rfl) (mp1 (rr_row o164 rfl Mark.fl) mp0)))))) (mp1 rfl mp0))) (wk_tup (mp1 (wk_agg (mp1 rfl (mp1 rfl (mp1 rfl (mpA (fun _ => wk1_flat) (fun _ => rfl) (mp1 rfl mp0)))))) (mp1 rfl mp0))) (own_tup (oa1 (own2_agg (oa1 rfl (oa1 rfl (oa1 (own1_row' (c := Notch.c) Notch.flF) (oaA (fun _ => own1_flat) (fun _ => rfl) (oa1 (own1_row' (c := Mark.c) Mark.flF) oa0)))))) (oa1 rfl oa0))))
  refine cT h48 (congrArg Bool.not hb49) (sq (Rg (kx (bldT zero73 rfl (fill0 rfl)) (kw (stO h46 rfl o32 rfl rfl ⟨rfl, ble rfl⟩ rfl rfl) fun M172 hM173 => ?_))))
  have o174 : M172[([] : Mem).length]? = some (.live ⟨.box, 73, 20, [(.str ([] : List UInt8) :: (.bool false :: (.nils :: ((arC (cI .i8) 0 (Ar.rep 16 0)) ++ ((.nils :: []) : List AV)))))]⟩) := set_same hM173 o32
  have o175 := set_ne hM173 (Ne.symm ne28) o33
  refine kx (mvO rfl) (Rn (hA h46 (hV (.int .i64 4) rfl hZ)) fun e176 h178 h179 => sN (xx (sR ?_)))
  clear h43 h44 h45 h46 h47 h48
  obtain rfl := si h
  exact eR (resC (ag := true) (sz := 20) ⟨by kernel_rfl, by kernel_rfl, by kernel_rfl⟩ (ldOA (cs' := (.str ([] : List UInt8) :: (.bool false :: (.nils :: ((arC (cI .i8) 0 (Ar.rep 16 0)) ++ ((.nils :: []) : List AV)))))) h178 o174 rfl rfl (ble rfl) rfl) (resT h179 res0)) (wkO (y := .tup [.agg (.str ([] : List UInt8) :: (.bool false :: (.nils :: ((arC (cI .i8) 0 (Ar.rep 16 0)) ++ ((.nils :: []) : List AV))))), .int .i64 4]) rfl (wk_tup (mp1 (wk_agg (mp1 rfl (mp1 rfl (mp1 rfl (mpA (fun _ => wk1_flat) (fun _ => rfl) (mp1 rfl mp0)))))) (mp1 rfl mp0))) (own_tup (oa1 (own2_agg (oa1 rfl (oa1 rfl (oa1 rfl (oaA (fun _ => own1_flat) (fun _ => rfl) (oa1 rfl oa0)))))) (oa1 rfl oa0))))
 refine cT h19 (congrArg Bool.not hb20) (sq (Rg (kx (bldT zero73 rfl (fill0 rfl)) (kw (stO h18 rfl o4 rfl rfl ⟨rfl, ble rfl⟩ rfl rfl) fun M180 hM181 => ?_))))
 have o182 : M180[([] : Mem).length]? = some (.live ⟨.box, 73, 20, [(.str ([] : List UInt8) :: (.bool false :: (.nils :: ((arC (cI .i8) 0 (Ar.rep 16 0)) ++ ((.nils :: []) : List AV)))))]⟩) := set_same hM181 o4
 refine kx (mvO rfl) (Rn (hA h18 (hV (.int .i64 1) rfl hZ)) fun e183 h185 h186 => sN (xx (sR ?_)))
 clear h15 h16 h17 h18 h19
 obtain rfl := si h
 exact eR (resC (ag := true) (sz := 20) ⟨by kernel_rfl, by kernel_rfl, by kernel_rfl⟩ (ldOA (cs' := (.str ([] : List UInt8) :: (.bool false :: (.nils :: ((arC (cI .i8) 0 (Ar.rep 16 0)) ++ ((.nils :: []) : List AV)))))) h185 o182 rfl rfl (ble rfl) rfl) (resT h186 res0)) (wkO (y := .tup [.agg (.str ([] : List UInt8) :: (.bool false :: (.nils :: ((arC (cI .i8) 0 (Ar.rep 16 0)) ++ ((.nils :: []) : List AV))))), .int .i64 1]) rfl (wk_tup (mp1 (wk_agg (mp1 rfl (mp1 rfl (mp1 rfl (mpA (fun _ => wk1_flat) (fun _ => rfl) (mp1 rfl mp0)))))) (mp1 rfl mp0))) (own_tup (oa1 (own2_agg (oa1 rfl (oa1 rfl (oa1 rfl (oaA (fun _ => own1_flat) (fun _ => rfl) (oa1 rfl oa0)))))) (oa1 rfl oa0))))
noncomputable def spec_StartChain (a1 : Half) (a2 : Party) (a3 : List UInt8) : Option ((List UInt8) × Bool × (List Notch) × (Ar 16 Int) × (List Mark) × Int) :=
 (spec_l01Ok a1).bind fun r12 =>
 if r12 = true then
  if a1.Stock = true then
   (spec_l06Name a2.Name).bind fun r30 =>
   if r30 = true then
    (spec_l06Name a3).bind fun r33 =>
    if r33 = true then
     if (a2.Name == a3) = true then
      some (([] : List UInt8), false, ([] : List Notch), (Ar.rep 16 0), ([] : List Mark), 2)
     else
      (spec_l06Seal a1 0 a3 a2.Secret).bind fun r51 =>
      (spec_l04Copy a1).bind fun (r60, r61, r62) =>
      some (a2.Name, r60, r61, r62, [(Mark.mk a3 r51)], 0)
    else
     some (([] : List UInt8), false, ([] : List Notch), (Ar.rep 16 0), ([] : List Mark), 2)
   else
    some (([] : List UInt8), false, ([] : List Notch), (Ar.rep 16 0), ([] : List Mark), 2)
  else
   some (([] : List UInt8), false, ([] : List Notch), (Ar.rep 16 0), ([] : List Mark), 4)
 else
  some (([] : List UInt8), false, ([] : List Notch), (Ar.rep 16 0), ([] : List Mark), 1)
def spec_StartChain_enc (r : (List UInt8) × Bool × (List Notch) × (Ar 16 Int) × (List Mark) × Int) : AV := .tup [.agg (.str r.1 :: (.bool r.2.1 :: (.sl none (r.2.2.1.map Notch.c) :: ((arC (cI .i8) 0 r.2.2.2.1) ++ ((.sl none (r.2.2.2.2.1.map Mark.c) :: []) : List AV))))), .int .i64 r.2.2.2.2.2]
theorem spec_StartChain_ok (a1 : Half) (a2 : Party) (a3 : List UInt8) (r : (List UInt8) × Bool × (List Notch) × (Ar 16 Int) × (List Mark) × Int) (h : spec_StartChain a1 a2 a3 = some r) : Ev (fun k => CN k 120 [.agg (.bool a1.Stock :: (.sl none (a1.Notches.map Notch.c) :: ((arC (cI .i8) 0 a1.Grain) ++ ([] : List AV)))), .agg [.str a2.Name, .int .u32 a2.Secret], .str a3] []) (fun p => wkR (rRes p.2 p.1) = spec_StartChain_enc r) := by
 unfold spec_StartChain at h
 refine Ev.enter (F := fun k => f120 (CN k) k) (fun k => callN_eq rfl Try.func120 rfl rfl rfl (by decide +kernel) (f120_eq _ _)) (sq (Rg (kx (bxI rfl rfl ⟨rfl, rfl, by decide⟩) (kx (bxI rfl rfl ⟨rfl, rfl, by decide⟩) (ku (alO zero73) fun M2 hM3 => ?_)))))
 have o4 : M2[([] : Mem).length]? = some (.live ⟨.box, 73, 20, [(.str ([] : List UInt8) :: (.bool false :: (.nils :: ((arC (cI .i8) 0 (Ar.rep 16 0)) ++ ((.nils :: []) : List AV)))))]⟩) := push_new hM3
 obtain ⟨r12, hx11, h⟩ := bind_some h
 refine kx (mvO rfl) (Rn (hN rfl (hN rfl (hN rfl (hV (.loc ([] : Mem).length 1 0 0) rfl hZ)))) fun e5 h7 h8 h9 h10 => sN (sq (sq (Rg (kc (cl (v := .bool r12) rfl rfl (cns h8 rfl) rfl (spec_l01Ok_ok a1 _ hx11) nm) (kx (uNot rfl) (Rn (hA h7 (hA h8 (hA h9 (hA h10 (hN rfl hZ))))) fun e13 h15 h16 h17 h18 h19 => sN ?_)))))))
 clear h10 h7 h8 h9
 rcases ite_some h with ⟨hb20, h⟩ | ⟨hb20, h⟩
 ·refine cF h19 (congrArg Bool.not hb20) (xx (sN (sq (sq (Rg (kx (faP h16 ⟨ble rfl, blt rfl⟩ rfl) (kx (ldP rfl rfl) (kx (uNot rfl) (Rn (hA h15 (hA h16 (hA h17 (hA h18 (hN rfl hZ))))) fun e21 h23 h24 h25 h26 h27 => sN ?_)))))))))
  clear h15 h16 h17 h18 h19
  rcases ite_some h with ⟨hb28, h⟩ | ⟨hb28, h⟩
  ·obtain ⟨r30, hx29, h⟩ := bind_some h
   refine cF h27 (congrArg Bool.not hb28) (xx (sN (sq (sq (Rg (kx (faP h25 ⟨ble rfl, blt rfl⟩ rfl) (kx (ldP rfl rfl) (kc (cl (v := .bool r30) rfl rfl (cns rfl rfl) rfl (spec_l06Name_ok a2.Name _ hx29) nm) (kx (uNot rfl) (kx (mvO rfl) ?_))))))))))
   rcases ite_some h with ⟨hb31, h⟩ | ⟨hb31, h⟩
   ·obtain ⟨r33, hx32, h⟩ := bind_some h
    refine kx (guF rfl (congrArg Bool.not hb31) (mvO h23)) (kc (Ev.guF rfl (congrArg Bool.not hb31) (cl (v := .bool r33) rfl rfl (cns rfl rfl) rfl (spec_l06Name_ok a3 _ hx32) nm)) (kx (guF rfl (congrArg Bool.not hb31) (uNot rfl)) (kx (pkF rfl (congrArg Bool.not hb31) rfl) (kx (mvO rfl) ?_))))
    rcases ite_some h with ⟨hb34, h⟩ | ⟨hb34, h⟩
    ·refine kx (guF rfl (congrArg Bool.not hb34) (faP h25 ⟨ble rfl, blt rfl⟩ rfl)) (kx (guF rfl (congrArg Bool.not hb34) (ldP rfl rfl)) (kx (guF rfl (congrArg Bool.not hb34) (mvO h23)) (kx (guF rfl (congrArg Bool.not hb34) (sEql rfl rfl)) (kx (pkF rfl (congrArg Bool.not hb34) rfl) (Rn (hA h23 (hA h24 (hA h25 (hA h26 (hN rfl hZ))))) fun e35 h37 h38 h39 h40 h41 => sN ?_)))))
     clear h23 h24 h25 h26 h27
     rcases ite_some h with ⟨hb42, h⟩ | ⟨hb42, h⟩
     ·refine cT h41 hb42 (sq (Rg (kx (bldT zero73 rfl (fill0 rfl)) (kw (stO h40 rfl o4 rfl rfl ⟨rfl, ble rfl⟩ rfl rfl) fun M43 hM44 => ?_))))
      have o45 : M43[([] : Mem).length]? = some (.live ⟨.box, 73, 20, [(.str ([] : List UInt8) :: (.bool false :: (.nils :: ((arC (cI .i8) 0 (Ar.rep 16 0)) ++ ((.nils :: []) : List AV)))))]⟩) := set_same hM44 o4
      refine kx (mvO rfl) (Rn (hA h40 (hV (.int .i64 2) rfl hZ)) fun e46 h48 h49 => sN (xx (sR ?_)))
      clear h37 h38 h39 h40 h41
      obtain rfl := si h
      exact eR (resC (ag := true) (sz := 20) ⟨by kernel_rfl, by kernel_rfl, by kernel_rfl⟩ (ldOA (cs' := (.str ([] : List UInt8) :: (.bool false :: (.nils :: ((arC (cI .i8) 0 (Ar.rep 16 0)) ++ ((.nils :: []) : List AV)))))) h48 o45 rfl rfl (ble rfl) rfl) (resT h49 res0)) (wkH (y := .tup [.agg (.str ([] : List UInt8) :: (.bool false :: (.nils :: ((arC (cI .i8) 0 (Ar.rep 16 0)) ++ ((.nils :: []) : List AV))))), .int .i64 2]) rfl (wk_tup (mp1 (wk_agg (mp1 rfl (mp1 rfl (mp1 rfl (mpA (fun _ => wk1_flat) (fun _ => rfl) (mp1 rfl mp0)))))) (mp1 rfl mp0))))
     obtain ⟨r51, hx50, h⟩ := bind_some h
     obtain ⟨⟨r60, r61, r62⟩, hx59, h⟩ := bind_some h
     refine cF h41 hb42 (xx (sN (sq (Rg (kx (mvO h37) (kx (faP h39 ⟨ble rfl, blt rfl⟩ rfl) (kx (ldP rfl rfl) (kc (cl (v := .int .u32 r51) rfl rfl (cns h38 (cns rfl (cns rfl (cns rfl rfl)))) rfl (spec_l06Seal_ok a1 0 a3 a2.Secret _ hx50) nm) (kx (mvO rfl) (Rn (hA h37 (hA h38 (hA h39 (hA h40 (hN rfl hZ))))) fun e52 h54 h55 h56 h57 h58 => sN (sq (Rd (kf (faP h56 ⟨ble rfl, blt rfl⟩ rfl) (kf (ldP rfl rfl) (fc (cl (v := .agg (.bool r60 :: (.sl (some 170) (r61.map Notch.c) :: ((arC (cI .i8) 0 r62) ++ ([] : List AV))))) rfl rfl (cns h55 rfl) rfl (spec_l04Copy_ok a1 _ hx59) nm) (kf (mvO h54) (kf (mvO h58) (kf (bldT zero173 (cns (pr3 rfl) (cns (pr3 rfl) rfl)) (fill1 ⟨rfl, ble rfl⟩ rfl rfl (fill1 ⟨rfl, ble rfl⟩ rfl rfl (fill0 rfl)))) (kf (litI (cns rfl rfl) rfl ⟨rfl, by decide⟩) (kf (bldT zero73 (cns (pr3 rfl) (cns (pr3 rfl) (cns (pr3 rfl) rfl))) (fill1 (cs' := (.str a2.Name :: (.bool false :: (.nils :: ((arC (cI .i8) 0 (Ar.rep 16 0)) ++ ((.nils :: []) : List AV)))))) ⟨rfl, ble rfl⟩ rfl rfl (fill1 (cs' := (.str a2.Name :: (.bool r60 :: (.sl (some 170) (r61.map Notch.c) :: ((arC (cI .i8) 0 r62) ++ ((.nils :: []) : List AV)))))) ⟨rfl, ble rfl⟩ rfl rfl (fill1 (cs' := (.str a2.Name :: (.bool r60 :: (.sl (some 170) (r61.map Notch.c) :: ((arC (cI .i8) 0 r62) ++ ((.lit 173 ([(Mark.mk a3 r51)].map Mark.c) :: []) : List AV)))))) ⟨rfl, ble rfl⟩ rfl rfl (fill0 rfl))))) (fZ (kw (stO h57 rfl o4 rfl rfl ⟨rfl, ble rfl⟩ rfl rfl) fun M63 hM64 => ?_))))))))))))))))))))))
     clear h37 h38 h39 h40 h41
     have o65 : M63[([] : Mem).length]? = some (.live ⟨.box, 73, 20, [(.str a2.Name :: (.bool r60 :: (.sl none (r61.map Notch.c) :: ((arC (cI .i8) 0 r62) ++ ((.sl none ([(Mark.mk a3 r51)].map Mark.c) :: []) : List AV)))))]⟩) := set_same hM64 o4
     refine kx (mvO rfl) (Rn (hA h57 (hV (.int .i64 0) rfl hZ)) fun e66 h68 h69 => sN (xx ?_))
     clear h54 h55 h56 h57 h58
     obtain rfl := si h
     exact eR (resC (ag := true) (sz := 20) ⟨by kernel_rfl, by kernel_rfl, by kernel_rfl⟩ (ldOA (cs' := (.str a2.Name :: (.bool r60 :: (.sl none (r61.map Notch.c) :: ((arC (cI .i8) 0 r62) ++ ((.sl none ([(Mark.mk a3 r51)].map Mark.c) :: []) : List AV)))))) h68 o65 rfl rfl (ble rfl) rfl) (resT h69 res0)) (wkH (y := .tup [.agg (.str a2.Name :: (.bool r60 :: (.sl none (r61.map Notch.c) :: ((arC (cI .i8) 0 r62) ++ ((.sl none ([(Mark.mk a3 r51)].map Mark.c) :: []) : List AV))))), .int .i64 0]) rfl (wk_tup (mp1 (wk_agg (mp1 rfl (mp1 rfl (mp1 rfl (mpA (fun _ => wk1_flat) (fun _ => rfl) (mp1 rfl mp0)))))) (mp1 rfl mp0))))
    refine kx (gsF rfl (congrArg Bool.not hb34)) (kx (gsF rfl (congrArg Bool.not hb34)) (kx (gsF rfl (congrArg Bool.not hb34)) (kx (gsF rfl (congrArg Bool.not hb34)) (kx (pkT rfl (congrArg Bool.not hb34) rfl) (Rn (hA h23 (hA h24 (hA h25 (hA h26 (hV (.bool true) rfl hZ))))) fun e70 h72 h73 h74 h75 h76 => sN (cT h76 rfl (sq (Rg (kx (bldT zero73 rfl (fill0 rfl)) (kw (stO h75 rfl o4 rfl rfl ⟨rfl, ble rfl⟩ rfl rfl) fun M77 hM78 => ?_))))))))))
    clear h23 h24 h25 h26 h27
    have o79 : M77[([] : Mem).length]? = some (.live ⟨.box, 73, 20, [(.str ([] : List UInt8) :: (.bool false :: (.nils :: ((arC (cI .i8) 0 (Ar.rep 16 0)) ++ ((.nils :: []) : List AV)))))]⟩) := set_same hM78 o4
    refine kx (mvO rfl) (Rn (hA h75 (hV (.int .i64 2) rfl hZ)) fun e80 h82 h83 => sN (xx (sR ?_)))
    clear h72 h73 h74 h75 h76
    obtain rfl := si h
    exact eR (resC (ag := true) (sz := 20) ⟨by kernel_rfl, by kernel_rfl, by kernel_rfl⟩ (ldOA (cs' := (.str ([] : List UInt8) :: (.bool false :: (.nils :: ((arC (cI .i8) 0 (Ar.rep 16 0)) ++ ((.nils :: []) : List AV)))))) h82 o79 rfl rfl (ble rfl) rfl) (resT h83 res0)) (wkH (y := .tup [.agg (.str ([] : List UInt8) :: (.bool false :: (.nils :: ((arC (cI .i8) 0 (Ar.rep 16 0)) ++ ((.nils :: []) : List AV))))), .int .i64 2]) rfl (wk_tup (mp1 (wk_agg (mp1 rfl (mp1 rfl (mp1 rfl (mpA (fun _ => wk1_flat) (fun _ => rfl) (mp1 rfl mp0)))))) (mp1 rfl mp0))))
   refine kx (gsF rfl (congrArg Bool.not hb31)) (kc (Ev.gsF rfl (congrArg Bool.not hb31)) (kx (gsF rfl (congrArg Bool.not hb31)) (kx (pkT rfl (congrArg Bool.not hb31) rfl) (kx (mvO rfl) (kx (gsF rfl rfl) (kx (gsF rfl rfl) (kx (gsF rfl rfl) (kx (gsF rfl rfl) (kx (pkT rfl rfl rfl) (Rn (hA h23 (hA h24 (hA h25 (hA h26 (hV (.bool true) rfl hZ))))) fun e84 h86 h87 h88 h89 h90 => sN (cT h90 rfl (sq (Rg (kx (bldT zero73 rfl (fill0 rfl)) (kw (stO h89 rfl o4 rfl rfl ⟨rfl, ble rfl⟩ rfl rfl) fun M91 hM92 => ?_)))))))))))))))
   clear h23 h24 h25 h26 h27
   have o93 : M91[([] : Mem).length]? = some (.live ⟨.box, 73, 20, [(.str ([] : List UInt8) :: (.bool false :: (.nils :: ((arC (cI .i8) 0 (Ar.rep 16 0)) ++ ((.nils :: []) : List AV)))))]⟩) := set_same hM92 o4
   refine kx (mvO rfl) (Rn (hA h89 (hV (.int .i64 2) rfl hZ)) fun e94 h96 h97 => sN (xx (sR ?_)))
   clear h86 h87 h88 h89 h90
   obtain rfl := si h
   exact eR (resC (ag := true) (sz := 20) ⟨by kernel_rfl, by kernel_rfl, by kernel_rfl⟩ (ldOA (cs' := (.str ([] : List UInt8) :: (.bool false :: (.nils :: ((arC (cI .i8) 0 (Ar.rep 16 0)) ++ ((.nils :: []) : List AV)))))) h96 o93 rfl rfl (ble rfl) rfl) (resT h97 res0)) (wkH (y := .tup [.agg (.str ([] : List UInt8) :: (.bool false :: (.nils :: ((arC (cI .i8) 0 (Ar.rep 16 0)) ++ ((.nils :: []) : List AV))))), .int .i64 2]) rfl (wk_tup (mp1 (wk_agg (mp1 rfl (mp1 rfl (mp1 rfl (mpA (fun _ => wk1_flat) (fun _ => rfl) (mp1 rfl mp0)))))) (mp1 rfl mp0))))
  refine cT h27 (congrArg Bool.not hb28) (sq (Rg (kx (bldT zero73 rfl (fill0 rfl)) (kw (stO h26 rfl o4 rfl rfl ⟨rfl, ble rfl⟩ rfl rfl) fun M98 hM99 => ?_))))
  have o100 : M98[([] : Mem).length]? = some (.live ⟨.box, 73, 20, [(.str ([] : List UInt8) :: (.bool false :: (.nils :: ((arC (cI .i8) 0 (Ar.rep 16 0)) ++ ((.nils :: []) : List AV)))))]⟩) := set_same hM99 o4
  refine kx (mvO rfl) (Rn (hA h26 (hV (.int .i64 4) rfl hZ)) fun e101 h103 h104 => sN (xx (sR ?_)))
  clear h23 h24 h25 h26 h27
  obtain rfl := si h
  exact eR (resC (ag := true) (sz := 20) ⟨by kernel_rfl, by kernel_rfl, by kernel_rfl⟩ (ldOA (cs' := (.str ([] : List UInt8) :: (.bool false :: (.nils :: ((arC (cI .i8) 0 (Ar.rep 16 0)) ++ ((.nils :: []) : List AV)))))) h103 o100 rfl rfl (ble rfl) rfl) (resT h104 res0)) (wkH (y := .tup [.agg (.str ([] : List UInt8) :: (.bool false :: (.nils :: ((arC (cI .i8) 0 (Ar.rep 16 0)) ++ ((.nils :: []) : List AV))))), .int .i64 4]) rfl (wk_tup (mp1 (wk_agg (mp1 rfl (mp1 rfl (mp1 rfl (mpA (fun _ => wk1_flat) (fun _ => rfl) (mp1 rfl mp0)))))) (mp1 rfl mp0))))
 refine cT h19 (congrArg Bool.not hb20) (sq (Rg (kx (bldT zero73 rfl (fill0 rfl)) (kw (stO h18 rfl o4 rfl rfl ⟨rfl, ble rfl⟩ rfl rfl) fun M105 hM106 => ?_))))
 have o107 : M105[([] : Mem).length]? = some (.live ⟨.box, 73, 20, [(.str ([] : List UInt8) :: (.bool false :: (.nils :: ((arC (cI .i8) 0 (Ar.rep 16 0)) ++ ((.nils :: []) : List AV)))))]⟩) := set_same hM106 o4
 refine kx (mvO rfl) (Rn (hA h18 (hV (.int .i64 1) rfl hZ)) fun e108 h110 h111 => sN (xx (sR ?_)))
 clear h15 h16 h17 h18 h19
 obtain rfl := si h
 exact eR (resC (ag := true) (sz := 20) ⟨by kernel_rfl, by kernel_rfl, by kernel_rfl⟩ (ldOA (cs' := (.str ([] : List UInt8) :: (.bool false :: (.nils :: ((arC (cI .i8) 0 (Ar.rep 16 0)) ++ ((.nils :: []) : List AV)))))) h110 o107 rfl rfl (ble rfl) rfl) (resT h111 res0)) (wkH (y := .tup [.agg (.str ([] : List UInt8) :: (.bool false :: (.nils :: ((arC (cI .i8) 0 (Ar.rep 16 0)) ++ ((.nils :: []) : List AV))))), .int .i64 1]) rfl (wk_tup (mp1 (wk_agg (mp1 rfl (mp1 rfl (mp1 rfl (mpA (fun _ => wk1_flat) (fun _ => rfl) (mp1 rfl mp0)))))) (mp1 rfl mp0))))
abbrev spec_l06People_b1_S := Int × (List Party)
abbrev spec_l06People_b1_R := (List Party)
def spec_l06People_b1_RS (r4 : List (List UInt8)) (i1_1 : Nat) (s : spec_l06People_b1_S) (e : Env) (M : Mem) : Prop := eget e 1 = .sl none (r4.map cS) ∧ eget e 2 = .lsl i1_1 s.2.length 0 s.2.length ∧ eget e 3 = .int .i64 s.1 ∧ M[i1_1]? = some (.live ⟨.grow, 163, 2, s.2.map Party.c⟩)
def spec_l06People_b1_RR (r4 : List (List UInt8)) (i1_1 : Nat) (g : spec_l06People_b1_R) (x : Ex) (e : Env) (M : Mem) : Prop := x = .ext 0 ∧ eget e 2 = .lsl i1_1 g.length 0 g.length ∧ M[i1_1]? = some (.live ⟨.grow, 163, 2, g.map Party.c⟩)
noncomputable def spec_l06People_b1 (r4 : List (List UInt8)) : spec_l06People_b1_S → Option (spec_l06People_b1_S ⊕ spec_l06People_b1_R) := fun (s1_1, s1_2) =>
 if (decide (s1_1 < (r4.length : Int))) = true then
  (rd r4 s1_1).bind fun x46 =>
  (app 24 s1_2 [(Party.mk x46 (IntKind.u32.wrap (IntKind.i64.wrap ((IntKind.i64.wrap (1000003 * s1_1)) + 77))))]).bind fun x48 =>
  some (.inl ((IntKind.i64.wrap (s1_1 + 1)), x48))
 else
  some (.inr s1_2)
theorem spec_l06People_b1_ok (r4 : List (List UInt8)) (i1_1 : Nat) (s : spec_l06People_b1_S) (r : spec_l06People_b1_S ⊕ spec_l06People_b1_R) (h : spec_l06People_b1 r4 s = some r) (e : Env) (M : Mem) (hs : spec_l06People_b1_RS r4 i1_1 s e M) : Ev (fun k => (f118_l4 (CN k) k (prune [1, 2, 3] e) M).bind fun q => some q) (bQ (spec_l06People_b1_RS r4 i1_1) (spec_l06People_b1_RR r4 i1_1) r) := by
 obtain ⟨s1_1, s1_2⟩ := s
 unfold spec_l06People_b1 at h
 obtain ⟨h32, h34, h36, o38⟩ := hs
 generalize he31 : prune [1, 2, 3] e = e30
 have h33 := envp he31.symm rfl h32
 have h35 := envp he31.symm rfl h34
 have h37 := envp he31.symm rfl h36
 refine sq (sq (Rg (kx (mvO h37) (kx (mvO h33) (kx (lnS Try.underlying185 rfl) (kx (bLss rfl rfl) (Rn (hV (.sl none (r4.map cS)) h33 (hV (.lsl i1_1 s1_2.length 0 s1_2.length) h35 (hV (.int .i64 s1_1) h37 (hN rfl hZ)))) fun e39 h41 h42 h43 h44 => sN ?_)))))))
 clear h33 h35 h37
 rcases ite_some h with ⟨hb45, h⟩ | ⟨hb45, h⟩
 ·obtain ⟨x46, hx47, h⟩ := bind_some h
  obtain ⟨x48, hx49, h⟩ := bind_some h
  refine cT h44 hb45 (xx (sN (sq (bl (Rg (kx (mvO h42) (kx (mvO h41) (kx (mvO h43) (kx (ixS rfl rfl hx47 cS_fl) (kx (ldP rfl rfl) (kx (mvO h43) (kx (bMul rfl rfl) (kx (bAdd rfl rfl) (kx (cvI rfl) (kx (bldT zero163 (cns (pr3 rfl) (cns (pr3 rfl) rfl)) (fill1 ⟨rfl, ble rfl⟩ rfl rfl (fill1 ⟨rfl, ble rfl⟩ rfl rfl (fill0 rfl)))) (kx (litI (cns rfl rfl) rfl ⟨rfl, by decide⟩) (kw (apO rfl o38 rfl (elT (c := Party.c) (xs := [(Party.mk x46 (IntKind.u32.wrap (IntKind.i64.wrap ((IntKind.i64.wrap (1000003 * s1_1)) + 77))))]) rfl) hx49 Party.fl (by decide)) fun M50 hM51 => ?_)))))))))))))))))
  have o52 : M50[i1_1]? = some (.live ⟨.grow, 163, 2, x48.map Party.c⟩) := set_same hM51 o38
  refine kx (mvO rfl) (Rn (hA h41 (hV (.lsl i1_1 x48.length 0 x48.length) rfl (hA h43 hZ))) fun e53 h55 h56 h57 => bN (sN (Rg (kx (mvO h57) (kx (bAdd rfl rfl) (kx (mvO rfl) (Rn (hA h55 (hA h56 (hN rfl hZ))) fun e58 h60 h61 h62 => ?_)))))))
  clear h41 h43 h44 h55 h56
  obtain rfl := si h
  exact qN ⟨h60, h61, h62, o52⟩
 refine cF h44 hb45 (xx (sE ?_))
 obtain rfl := si h
 exact qE ⟨rfl, h42, o38⟩
noncomputable def spec_l06People : Option ((List Party)) :=
 (spec_l06Who).bind fun r4 =>
 (Lw (spec_l06People_b1 r4) (0, ([] : List Party))).bind fun y68 =>
 some y68
def spec_l06People_enc (r : (List Party)) : AV := .sl none (r.map Party.c)
theorem spec_l06People_ok (r : (List Party)) (h : spec_l06People = some r) : Ev (fun k => CN k 118 [] []) (fun p => wkR (rRes p.2 p.1) = spec_l06People_enc r ∧ ownAll (rRes p.2 p.1) = true) := by
 unfold spec_l06People at h
 obtain ⟨r4, hx3, h⟩ := bind_some h
 refine Ev.enter (F := fun k => f118 (CN k) k) (fun k => callN_eq rfl Try.func118 rfl rfl rfl (by decide +kernel) (f118_eq _ _)) (sq (Rg (kx (mvO rfl) (Rn hZ fun e1 => sN (sq (Rg (kc (clO (v := .sl none (r4.map cS)) rfl rfl rfl rfl (spec_l06Who_ok  _ hx3)) (kx (mvO rfl) (Rn (hN rfl hZ) fun e5 h7 => sN (sq (Rg (ku (litO (xs := ([] : List Party)) (c := Party.c) rfl rfl (by decide)) fun M9 hM10 => ?_))))))))))))
 have o11 : M9[([] : Mem).length]? = some (.live ⟨.grow, 163, 2, ([] : List Party).map Party.c⟩) := push_new hM10
 obtain ⟨y68, hr64, h⟩ := bind_some h
 refine kx (mvO rfl) (Rn (hA h7 (hV (.lsl ([] : Mem).length ([] : List Party).length 0 ([] : List Party).length) rfl hZ)) fun e12 h14 h15 => sN (sq (sq (Rg (kx (mvO rfl) (Rn (hA h14 (hA h15 (hV (.int .i64 0) rfl hZ))) fun e16 h18 h19 h20 => sN (bl (Ev.loop (RS := spec_l06People_b1_RS r4 (([] : Mem).length)) (RR := spec_l06People_b1_RR r4 (([] : Mem).length)) (fun s r h e M hs => spec_l06People_b1_ok r4 (([] : Mem).length) s r h e M hs) hr64 ⟨h18, h19, h20, o11⟩ fun x e66 M67 hq65 => ?_))))))))
 clear h7 h14 h15
 obtain ⟨rfl, h69, o70⟩ := hq65
 refine bE (sN (sq (Rg (kx (mvO h69) (kx (mvO rfl) (Rn (hV (.lsl ([] : Mem).length y68.length 0 y68.length) rfl hZ) fun e71 h73 => sN (xx ?_)))))))
 clear h69
 obtain rfl := si h
 exact eR (resT h73 res0) (wkO (y := .sl (some 163) (y68.map Party.c)) (rr_row o70 rfl Party.fl) rfl (ownA_row (c := Party.c) Party.flF))
noncomputable def spec_l01Same (a1 : Half) (a2 : Half) : Option Bool :=
 if (a1.Stock == a2.Stock) = true then
  if (arB 16 (fun j => a1.Grain.get 0 j == a2.Grain.get 0 j) true) = true then
   (spec_l01SameNotches a1.Notches a2.Notches).bind fun r8 =>
   some r8
  else
   some false
 else
  some false
def spec_l01Same_enc (r : Bool) : AV := .bool r
theorem spec_l01Same_ok (a1 : Half) (a2 : Half) (r : Bool) (h : spec_l01Same a1 a2 = some r) : Ev (fun k => CN k 104 [.pt none (.bool a1.Stock :: (.sl none (a1.Notches.map Notch.c) :: ((arC (cI .i8) 0 a1.Grain) ++ ([] : List AV)))), .pt none (.bool a2.Stock :: (.sl none (a2.Notches.map Notch.c) :: ((arC (cI .i8) 0 a2.Grain) ++ ([] : List AV))))] []) (fun p => rRes p.2 p.1 = spec_l01Same_enc r) := by
 unfold spec_l01Same at h
 refine Ev.enter (F := fun k => f104 (CN k) k) (fun k => callN_eq rfl Try.func104 rfl rfl rfl (by decide +kernel) (f104_eq _ _)) (sq (Rg (kx (mvO rfl) (Rn (hN rfl (hN rfl hZ)) fun e1 h3 h4 => sN (sq (Rd (kf (mvO h3) (kf (ncP rfl) (kf (faP rfl ⟨ble rfl, blt rfl⟩ rfl) (kf (ldP rfl rfl) (kf (mvO h4) (kf (ncP rfl) (kf (faP rfl ⟨ble rfl, blt rfl⟩ rfl) (kf (ldP rfl rfl) (kf (oEql (by kernel_rfl) rfl rfl) (kf (mvO rfl) ?_))))))))))))))))
 rcases ite_some h with ⟨hb5, h⟩ | ⟨hb5, h⟩
 ·refine kf (guT rfl hb5 (mvO h3)) (kf (guT rfl hb5 (ncP rfl)) (kf (guT rfl hb5 (faP rfl ⟨ble rfl, blt rfl⟩ rfl)) (kf (guT rfl hb5 (ldPA rfl rfl rfl)) (kf (guT rfl hb5 (mvO h4)) (kf (guT rfl hb5 (ncP rfl)) (kf (guT rfl hb5 (faP rfl ⟨ble rfl, blt rfl⟩ rfl)) (kf (guT rfl hb5 (ldPA rfl rfl rfl)) (kf (guT rfl hb5 (gEql rfl rfl (by kernel_rfl) rfl)) (kf (pkT rfl hb5 rfl) (kf (mvO rfl) ?_))))))))))
  rcases ite_some h with ⟨hb6, h⟩ | ⟨hb6, h⟩
  ·obtain ⟨r8, hx7, h⟩ := bind_some h
   refine kf (guT rfl hb6 (mvO h3)) (kf (guT rfl hb6 (ncP rfl)) (kf (guT rfl hb6 (faP rfl ⟨ble rfl, blt rfl⟩ rfl)) (kf (guT rfl hb6 (ldP rfl rfl)) (kf (guT rfl hb6 (mvO h4)) (kf (guT rfl hb6 (ncP rfl)) (kf (guT rfl hb6 (faP rfl ⟨ble rfl, blt rfl⟩ rfl)) (kf (guT rfl hb6 (ldP rfl rfl)) (fc (Ev.guT rfl hb6 (cl (v := .bool r8) rfl rfl (cns rfl (cns rfl rfl)) rfl (spec_l01SameNotches_ok a1.Notches a2.Notches _ hx7) nm)) (kf (pkT rfl hb6 rfl) (kf (mvO rfl) (fZ (Rn (hN rfl hZ) fun e9 h11 => sN (xx ?_)))))))))))))
   clear h3 h4
   obtain rfl := si h
   exact eR (resT h11 res0) rfl
  refine kf (gsT rfl hb6) (kf (gsT rfl hb6) (kf (gsT rfl hb6) (kf (gsT rfl hb6) (kf (gsT rfl hb6) (kf (gsT rfl hb6) (kf (gsT rfl hb6) (kf (gsT rfl hb6) (fc (Ev.gsT rfl hb6) (kf (pkF rfl hb6 rfl) (kf (mvO rfl) (fZ (Rn (hV (.bool false) rfl hZ) fun e12 h14 => sN (xx ?_)))))))))))))
  clear h3 h4
  obtain rfl := si h
  exact eR (resT h14 res0) rfl
 refine kf (gsT rfl hb5) (kf (gsT rfl hb5) (kf (gsT rfl hb5) (kf (gsT rfl hb5) (kf (gsT rfl hb5) (kf (gsT rfl hb5) (kf (gsT rfl hb5) (kf (gsT rfl hb5) (kf (gsT rfl hb5) (kf (pkF rfl hb5 rfl) (kf (mvO rfl) (kf (gsT rfl rfl) (kf (gsT rfl rfl) (kf (gsT rfl rfl) (kf (gsT rfl rfl) (kf (gsT rfl rfl) (kf (gsT rfl rfl) (kf (gsT rfl rfl) (kf (gsT rfl rfl) (fc (Ev.gsT rfl rfl) (kf (pkF rfl rfl rfl) (kf (mvO rfl) (fZ (Rn (hV (.bool false) rfl hZ) fun e15 h17 => sN (xx ?_))))))))))))))))))))))))
 clear h3 h4
 obtain rfl := si h
 exact eR (resT h17 res0) rfl
noncomputable def impl_fits (a1 : Half) (a2 : Half) (a3 : Int) : Option Bool :=
 (slices_Equal_Notch a1.Notches a2.Notches).bind fun r7 =>
 if r7 = true then
  (impl_fitsGrain a1.Grain a2.Grain a3).bind fun r10 =>
  some r10
 else
  some false
def impl_fits_enc (r : Bool) : AV := .bool r
theorem impl_fits_ok (a1 : Half) (a2 : Half) (a3 : Int) (r : Bool) (h : impl_fits a1 a2 a3 = some r) : Ev (fun k => CN k 103 [.agg (.bool a1.Stock :: (.sl none (a1.Notches.map Notch.c) :: ((arC (cI .i8) 0 a1.Grain) ++ ([] : List AV)))), .agg (.bool a2.Stock :: (.sl none (a2.Notches.map Notch.c) :: ((arC (cI .i8) 0 a2.Grain) ++ ([] : List AV)))), .int .i64 a3] []) (fun p => rRes p.2 p.1 = impl_fits_enc r) := by
 unfold impl_fits at h
 obtain ⟨r7, hx6, h⟩ := bind_some h
 refine Ev.enter (F := fun k => f103 (CN k) k) (fun k => callN_eq rfl Try.func103 rfl rfl rfl (by decide +kernel) (f103_eq _ _)) (sq (Rg (kx (bxI rfl rfl ⟨rfl, rfl, by decide⟩) (kx (bxI rfl rfl ⟨rfl, rfl, by decide⟩) (kx (mvO rfl) (Rn (hN rfl (hN rfl (hN rfl hZ))) fun e1 h3 h4 h5 => sN (sq (Rg (kx (faP h4 ⟨ble rfl, blt rfl⟩ rfl) (kx (ldP rfl rfl) (kx (faP h5 ⟨ble rfl, blt rfl⟩ rfl) (kx (ldP rfl rfl) (kc (cl (v := .bool r7) rfl rfl (cns rfl (cns rfl rfl)) rfl (slices_Equal_Notch_ok a1.Notches a2.Notches _ hx6) nm) (kx (mvO rfl) ?_))))))))))))))
 rcases ite_some h with ⟨hb8, h⟩ | ⟨hb8, h⟩
 ·obtain ⟨r10, hx9, h⟩ := bind_some h
  refine kx (guT rfl hb8 (faP h4 ⟨ble rfl, blt rfl⟩ rfl)) (kx (guT rfl hb8 (ldPA rfl rfl rfl)) (kx (guT rfl hb8 (faP h5 ⟨ble rfl, blt rfl⟩ rfl)) (kx (guT rfl hb8 (ldPA rfl rfl rfl)) (kx (guT rfl hb8 (mvO h3)) (kc (Ev.guT rfl hb8 (cl (v := .bool r10) rfl rfl (cns rfl (cns rfl (cns rfl rfl))) rfl (impl_fitsGrain_ok a1.Grain a2.Grain a3 _ hx9) nm)) (kx (pkT rfl hb8 rfl) (kx (mvO rfl) (Rn (hN rfl hZ) fun e11 h13 => sN (xx ?_)))))))))
  clear h3 h4 h5
  obtain rfl := si h
  exact eR (resT h13 res0) rfl
 refine kx (gsT rfl hb8) (kx (gsT rfl hb8) (kx (gsT rfl hb8) (kx (gsT rfl hb8) (kx (gsT rfl hb8) (kc (Ev.gsT rfl hb8) (kx (pkF rfl hb8 rfl) (kx (mvO rfl) (Rn (hV (.bool false) rfl hZ) fun e14 h16 => sN (xx ?_)))))))))
 clear h3 h4 h5
 obtain rfl := si h
 exact eR (resT h16 res0) rfl
noncomputable def impl_isWear (a1 : Int) : Option Bool :=
 if (decide (a1 ≥ 0)) = true then
  some (decide (a1 ≤ 16))
 else
  some false
def impl_isWear_enc (r : Bool) : AV := .bool r
theorem impl_isWear_ok (a1 : Int) (r : Bool) (h : impl_isWear a1 = some r) : Ev (fun k => CN k 102 [.int .i64 a1] []) (fun p => rRes p.2 p.1 = impl_isWear_enc r) := by
 unfold impl_isWear at h
 refine Ev.enter (F := fun k => f102 (CN k) k) (fun k => callN_eq rfl Try.func102 rfl rfl rfl (by decide +kernel) (f102_eq _ _)) (sq (Rg (kx (mvO rfl) (Rn (hN rfl hZ) fun e1 h3 => sN (sq (Rg (kx (mvO h3) (kx (bGeq rfl rfl) (kx (mvO rfl) ?_)))))))))
 rcases ite_some h with ⟨hb4, h⟩ | ⟨hb4, h⟩
 ·refine kx (guT rfl hb4 (mvO h3)) (kx (guT rfl hb4 (bLeq rfl rfl)) (kx (pkT rfl hb4 rfl) (kx (mvO rfl) (Rn (hN rfl hZ) fun e5 h7 => sN (xx ?_)))))
  clear h3
  obtain rfl := si h
  exact eR (resT h7 res0) rfl
 refine kx (gsT rfl hb4) (kx (gsT rfl hb4) (kx (pkF rfl hb4 rfl) (kx (mvO rfl) (Rn (hV (.bool false) rfl hZ) fun e8 h10 => sN (xx ?_)))))
 clear h3
 obtain rfl := si h
 exact eR (resT h10 res0) rfl
noncomputable def spec_CutStick (a1 : Int) (a2 : Ar 16 Int) : Option (Bool × (List Notch) × (Ar 16 Int) × (List Notch) × (Ar 16 Int) × Int) :=
 (spec_l01Grain a2).bind fun r18 =>
 if r18 = true then
  (spec_NotchesFor a1).bind fun (r28, r29) =>
  if (r29 != 0) = true then
   some (false, ([] : List Notch), (Ar.rep 16 0), ([] : List Notch), (Ar.rep 16 0), r29)
  else
   (spec_l01Copy r28).bind fun r60 =>
   (spec_l01Opposite a2).bind fun r62 =>
   some (true, r28, a2, r60, r62, 0)
 else
  some (false, ([] : List Notch), (Ar.rep 16 0), ([] : List Notch), (Ar.rep 16 0), 1)
def spec_CutStick_enc (r : Bool × (List Notch) × (Ar 16 Int) × (List Notch) × (Ar 16 Int) × Int) : AV := .tup [.agg (.bool r.1 :: (.sl none (r.2.1.map Notch.c) :: ((arC (cI .i8) 0 r.2.2.1) ++ ([] : List AV)))), .agg (.bool false :: (.sl none (r.2.2.2.1.map Notch.c) :: ((arC (cI .i8) 0 r.2.2.2.2.1) ++ ([] : List AV)))), .int .i64 r.2.2.2.2.2]
theorem spec_CutStick_ok (a1 : Int) (a2 : Ar 16 Int) (r : Bool × (List Notch) × (Ar 16 Int) × (List Notch) × (Ar 16 Int) × Int) (h : spec_CutStick a1 a2 = some r) : Ev (fun k => CN k 100 [.int .i64 a1, .agg (arC (cI .i8) 0 a2)] []) (fun p => wkR (rRes p.2 p.1) = spec_CutStick_enc r) := by
 unfold spec_CutStick at h
 refine Ev.enter (F := fun k => f100 (CN k) k) (fun k => callN_eq rfl Try.func100 rfl rfl rfl (by decide +kernel) (f100_eq _ _)) (sq (Rg (kx (bxI rfl rfl ⟨rfl, rfl, by decide⟩) (ku (alO zero70) fun M2 hM3 => ?_))))
 have o4 : M2[([] : Mem).length]? = some (.live ⟨.box, 70, 18, [(.bool false :: (.nils :: ((arC (cI .i8) 0 (Ar.rep 16 0)) ++ ([] : List AV))))]⟩) := push_new hM3
 refine ku (alO zero70) fun M6 hM7 => ?_
 have o8 := push_old hM7 o4
 have ne9 := ne_new o4
 have o10 : M6[M2.length]? = some (.live ⟨.box, 70, 18, [(.bool false :: (.nils :: ((arC (cI .i8) 0 (Ar.rep 16 0)) ++ ([] : List AV))))]⟩) := push_new hM7
 obtain ⟨r18, hx17, h⟩ := bind_some h
 refine kx (mvO rfl) (Rn (hN rfl (hN rfl (hV (.loc ([] : Mem).length 1 0 0) rfl (hV (.loc M2.length 1 0 0) rfl hZ)))) fun e11 h13 h14 h15 h16 => sN (sq (sq (Rg (kx (ldPA h14 rfl rfl) (kc (cl (v := .bool r18) rfl rfl (cns rfl rfl) rfl (spec_l01Grain_ok a2 _ hx17) nm) (kx (uNot rfl) (Rn (hA h13 (hA h14 (hA h15 (hA h16 (hN rfl hZ))))) fun e19 h21 h22 h23 h24 h25 => sN ?_))))))))
 clear h13 h14 h15 h16
 rcases ite_some h with ⟨hb26, h⟩ | ⟨hb26, h⟩
 ·obtain ⟨⟨r28, r29⟩, hx27, h⟩ := bind_some h
  refine cF h25 (congrArg Bool.not hb26) (xx (sN (sq (Rg (kx (mvO h21) (kc (clW (v := .tup [.sl none (r28.map Notch.c), .int .i64 r29]) rfl rfl (cns rfl rfl) rfl (spec_NotchesFor_ok a1 _ hx27) rfl) (kx (mvO rfl) (kx (exT rfl rfl) (kx (exT rfl rfl) (kx (mvO rfl) (kx (mvO rfl) (Rn (hA h22 (hA h23 (hA h24 (hN rfl (hN rfl hZ))))) fun e30 h32 h33 h34 h35 h36 => sN (sq (sq (Rg (kx (mvO h36) (kx (bNeq rfl rfl) (Rn (hA h32 (hA h33 (hA h34 (hA h35 (hA h36 (hN rfl hZ)))))) fun e37 h39 h40 h41 h42 h43 h44 => sN ?_))))))))))))))))))
  clear h21 h22 h23 h24 h25 h32 h33 h34 h35 h36
  rcases ite_some h with ⟨hb45, h⟩ | ⟨hb45, h⟩
  ·refine cT h44 hb45 (sq (Rg (kx (bldT zero70 rfl (fill0 rfl)) (kx (bldT zero70 rfl (fill0 rfl)) (kx (mvO h43) (kw (stO h40 rfl o8 rfl rfl ⟨rfl, ble rfl⟩ rfl rfl) fun M46 hM47 => ?_))))))
   have o48 : M46[([] : Mem).length]? = some (.live ⟨.box, 70, 18, [(.bool false :: (.nils :: ((arC (cI .i8) 0 (Ar.rep 16 0)) ++ ([] : List AV))))]⟩) := set_same hM47 o8
   have o49 := set_ne hM47 (Ne.symm ne9) o10
   refine kw (stO h41 rfl o49 rfl rfl ⟨rfl, ble rfl⟩ rfl rfl) fun M50 hM51 => ?_
   have o52 := set_ne hM51 ne9 o48
   have o53 : M50[M2.length]? = some (.live ⟨.box, 70, 18, [(.bool false :: (.nils :: ((arC (cI .i8) 0 (Ar.rep 16 0)) ++ ([] : List AV))))]⟩) := set_same hM51 o49
   refine kx (mvO rfl) (Rn (hA h40 (hA h41 (hN rfl hZ))) fun e54 h56 h57 h58 => sN (xx (sR ?_)))
   clear h39 h40 h41 h42 h43 h44
   obtain rfl := si h
   exact eR (resC (ag := true) (sz := 18) ⟨by kernel_rfl, by kernel_rfl, by kernel_rfl⟩ (ldOA (cs' := (.bool false :: (.nils :: ((arC (cI .i8) 0 (Ar.rep 16 0)) ++ ([] : List AV))))) h56 o52 rfl rfl (ble rfl) rfl) (resC (ag := true) (sz := 18) ⟨by kernel_rfl, by kernel_rfl, by kernel_rfl⟩ (ldOA (cs' := (.bool false :: (.nils :: ((arC (cI .i8) 0 (Ar.rep 16 0)) ++ ([] : List AV))))) h57 o53 rfl rfl (ble rfl) rfl) (resT h58 res0))) (wkH (y := .tup [.agg (.bool false :: (.nils :: ((arC (cI .i8) 0 (Ar.rep 16 0)) ++ ([] : List AV)))), .agg (.bool false :: (.nils :: ((arC (cI .i8) 0 (Ar.rep 16 0)) ++ ([] : List AV)))), .int .i64 r29]) rfl (wk_tup (mp1 (wk_agg (mp1 rfl (mp1 rfl (mpA (fun _ => wk1_flat) (fun _ => rfl) mp0)))) (mp1 (wk_agg (mp1 rfl (mp1 rfl (mpA (fun _ => wk1_flat) (fun _ => rfl) mp0)))) (mp1 rfl mp0)))))
  obtain ⟨r60, hx59, h⟩ := bind_some h
  obtain ⟨r62, hx61, h⟩ := bind_some h
  refine cF h44 hb45 (xx (sN (sq (Rd (kf (mvO h42) (kf (ldPA h39 rfl rfl) (kf (bldT zero70 (cns (pr3 rfl) (cns (pr3 rfl) (cns (pr3 rfl) rfl))) (fill1 (cs' := (.bool true :: (.nils :: ((arC (cI .i8) 0 (Ar.rep 16 0)) ++ ([] : List AV))))) ⟨rfl, ble rfl⟩ rfl rfl (fill1 (cs' := (.bool true :: (.sl none (r28.map Notch.c) :: ((arC (cI .i8) 0 (Ar.rep 16 0)) ++ ([] : List AV))))) ⟨rfl, ble rfl⟩ rfl rfl (fill1 (cs' := (.bool true :: (.sl none (r28.map Notch.c) :: ((arC (cI .i8) 0 a2) ++ ([] : List AV))))) ⟨rfl, ble rfl⟩ rfl rfl (fill0 rfl))))) (kf (mvO h42) (fc (cl (v := .sl (some 170) (r60.map Notch.c)) rfl rfl (cns rfl rfl) rfl (spec_l01Copy_ok r28 _ hx59) nm) (kf (ldPA h39 rfl rfl) (fc (cl (v := .agg (arC (cI .i8) 0 r62)) rfl rfl (cns rfl rfl) rfl (spec_l01Opposite_ok a2 _ hx61) nm) (kf (bldT zero70 (cns (pr3 rfl) (cns (pr3 rfl) rfl)) (fill1 (cs' := (.bool false :: (.sl (some 170) (r60.map Notch.c) :: ((arC (cI .i8) 0 (Ar.rep 16 0)) ++ ([] : List AV))))) ⟨rfl, ble rfl⟩ rfl rfl (fill1 (cs' := (.bool false :: (.sl (some 170) (r60.map Notch.c) :: ((arC (cI .i8) 0 r62) ++ ([] : List AV))))) ⟨rfl, ble rfl⟩ rfl rfl (fill0 rfl)))) (fZ (kw (stO h40 rfl o8 rfl rfl ⟨rfl, ble rfl⟩ rfl rfl) fun M63 hM64 => ?_))))))))))))))
  have o65 : M63[([] : Mem).length]? = some (.live ⟨.box, 70, 18, [(.bool true :: (.sl none (r28.map Notch.c) :: ((arC (cI .i8) 0 a2) ++ ([] : List AV))))]⟩) := set_same hM64 o8
  have o66 := set_ne hM64 (Ne.symm ne9) o10
  refine kw (stO h41 rfl o66 rfl rfl ⟨rfl, ble rfl⟩ rfl rfl) fun M67 hM68 => ?_
  have o69 := set_ne hM68 ne9 o65
  have o70 : M67[M2.length]? = some (.live ⟨.box, 70, 18, [(.bool false :: (.sl none (r60.map Notch.c) :: ((arC (cI .i8) 0 r62) ++ ([] : List AV))))]⟩) := set_same hM68 o66
  refine kx (mvO rfl) (Rn (hA h40 (hA h41 (hV (.int .i64 0) rfl hZ))) fun e71 h73 h74 h75 => sN (xx ?_))
  clear h39 h40 h41 h42 h43 h44
  obtain rfl := si h
  exact eR (resC (ag := true) (sz := 18) ⟨by kernel_rfl, by kernel_rfl, by kernel_rfl⟩ (ldOA (cs' := (.bool true :: (.sl none (r28.map Notch.c) :: ((arC (cI .i8) 0 a2) ++ ([] : List AV))))) h73 o69 rfl rfl (ble rfl) rfl) (resC (ag := true) (sz := 18) ⟨by kernel_rfl, by kernel_rfl, by kernel_rfl⟩ (ldOA (cs' := (.bool false :: (.sl none (r60.map Notch.c) :: ((arC (cI .i8) 0 r62) ++ ([] : List AV))))) h74 o70 rfl rfl (ble rfl) rfl) (resT h75 res0))) (wkH (y := .tup [.agg (.bool true :: (.sl none (r28.map Notch.c) :: ((arC (cI .i8) 0 a2) ++ ([] : List AV)))), .agg (.bool false :: (.sl none (r60.map Notch.c) :: ((arC (cI .i8) 0 r62) ++ ([] : List AV)))), .int .i64 0]) rfl (wk_tup (mp1 (wk_agg (mp1 rfl (mp1 rfl (mpA (fun _ => wk1_flat) (fun _ => rfl) mp0)))) (mp1 (wk_agg (mp1 rfl (mp1 rfl (mpA (fun _ => wk1_flat) (fun _ => rfl) mp0)))) (mp1 rfl mp0)))))
 refine cT h25 (congrArg Bool.not hb26) (sq (Rg (kx (bldT zero70 rfl (fill0 rfl)) (kx (bldT zero70 rfl (fill0 rfl)) (kw (stO h23 rfl o8 rfl rfl ⟨rfl, ble rfl⟩ rfl rfl) fun M76 hM77 => ?_)))))
 have o78 : M76[([] : Mem).length]? = some (.live ⟨.box, 70, 18, [(.bool false :: (.nils :: ((arC (cI .i8) 0 (Ar.rep 16 0)) ++ ([] : List AV))))]⟩) := set_same hM77 o8
 have o79 := set_ne hM77 (Ne.symm ne9) o10
 refine kw (stO h24 rfl o79 rfl rfl ⟨rfl, ble rfl⟩ rfl rfl) fun M80 hM81 => ?_
 have o82 := set_ne hM81 ne9 o78
 have o83 : M80[M2.length]? = some (.live ⟨.box, 70, 18, [(.bool false :: (.nils :: ((arC (cI .i8) 0 (Ar.rep 16 0)) ++ ([] : List AV))))]⟩) := set_same hM81 o79
 refine kx (mvO rfl) (Rn (hA h23 (hA h24 (hV (.int .i64 1) rfl hZ))) fun e84 h86 h87 h88 => sN (xx (sR ?_)))
 clear h21 h22 h23 h24 h25
 obtain rfl := si h
 exact eR (resC (ag := true) (sz := 18) ⟨by kernel_rfl, by kernel_rfl, by kernel_rfl⟩ (ldOA (cs' := (.bool false :: (.nils :: ((arC (cI .i8) 0 (Ar.rep 16 0)) ++ ([] : List AV))))) h86 o82 rfl rfl (ble rfl) rfl) (resC (ag := true) (sz := 18) ⟨by kernel_rfl, by kernel_rfl, by kernel_rfl⟩ (ldOA (cs' := (.bool false :: (.nils :: ((arC (cI .i8) 0 (Ar.rep 16 0)) ++ ([] : List AV))))) h87 o83 rfl rfl (ble rfl) rfl) (resT h88 res0))) (wkH (y := .tup [.agg (.bool false :: (.nils :: ((arC (cI .i8) 0 (Ar.rep 16 0)) ++ ([] : List AV)))), .agg (.bool false :: (.nils :: ((arC (cI .i8) 0 (Ar.rep 16 0)) ++ ([] : List AV)))), .int .i64 1]) rfl (wk_tup (mp1 (wk_agg (mp1 rfl (mp1 rfl (mpA (fun _ => wk1_flat) (fun _ => rfl) mp0)))) (mp1 (wk_agg (mp1 rfl (mp1 rfl (mpA (fun _ => wk1_flat) (fun _ => rfl) mp0)))) (mp1 rfl mp0)))))
abbrev spec_GrainFrom_b1_S := Int × Int × (Ar 16 Int)
abbrev spec_GrainFrom_b1_R := Int × (Ar 16 Int)
def spec_GrainFrom_b1_RS (i1_1 : Nat) (i1_2 : Nat) (s : spec_GrainFrom_b1_S) (e : Env) (M : Mem) : Prop := eget e 0 = .int .u32 s.1 ∧ eget e 2 = .loc i1_1 1 0 0 ∧ eget e 4 = .loc i1_2 1 0 0 ∧ eget e 5 = .int .i64 s.2.1 ∧ M[i1_1]? = some (.live ⟨.box, 68, 16, [(arC (cI .i8) 0 (Ar.rep 16 0))]⟩) ∧ M[i1_2]? = some (.live ⟨.box, 68, 16, [(arC (cI .i8) 0 s.2.2)]⟩)
def spec_GrainFrom_b1_RR (i1_1 : Nat) (i1_2 : Nat) (g : spec_GrainFrom_b1_R) (x : Ex) (e : Env) (M : Mem) : Prop := x = .ext 0 ∧ eget e 0 = .int .u32 g.1 ∧ eget e 2 = .loc i1_1 1 0 0 ∧ eget e 4 = .loc i1_2 1 0 0 ∧ M[i1_1]? = some (.live ⟨.box, 68, 16, [(arC (cI .i8) 0 (Ar.rep 16 0))]⟩) ∧ M[i1_2]? = some (.live ⟨.box, 68, 16, [(arC (cI .i8) 0 g.2)]⟩)
noncomputable def spec_GrainFrom_b1 : spec_GrainFrom_b1_S → Option (spec_GrainFrom_b1_S ⊕ spec_GrainFrom_b1_R) := fun (s1_1, s1_2, s1_3) =>
 if (decide (s1_2 < 16)) = true then
  (quo .u32 (IntKind.u32.wrap ((IntKind.u32.wrap (1664525 * s1_1)) + 1013904223)) 65536).bind fun n68 =>
  (rem .u32 n68 7).bind fun n70 =>
  (rdA s1_3 s1_2).bind fun x72 =>
  some (.inl ((IntKind.u32.wrap ((IntKind.u32.wrap (1664525 * s1_1)) + 1013904223)), (IntKind.i64.wrap (s1_2 + 1)), (s1_3.set s1_2.toNat (IntKind.i8.wrap ((IntKind.i8.wrap n70) - 3)))))
 else
  some (.inr (s1_1, s1_3))
theorem spec_GrainFrom_b1_ok (i1_1 : Nat) (i1_2 : Nat) (ne13 : i1_1 ≠ i1_2) (s : spec_GrainFrom_b1_S) (r : spec_GrainFrom_b1_S ⊕ spec_GrainFrom_b1_R) (h : spec_GrainFrom_b1 s = some r) (e : Env) (M : Mem) (hs : spec_GrainFrom_b1_RS i1_1 i1_2 s e M) : Ev (fun k => (f99_l3 (CN k) k (prune [0, 2, 4, 5] e) M).bind fun q => some q) (bQ (spec_GrainFrom_b1_RS i1_1 i1_2) (spec_GrainFrom_b1_RR i1_1 i1_2) r) := by
 obtain ⟨s1_1, s1_2, s1_3⟩ := s
 unfold spec_GrainFrom_b1 at h
 obtain ⟨h44, h46, h48, h50, o52, o53⟩ := hs
 generalize he43 : prune [0, 2, 4, 5] e = e42
 have h45 := envp he43.symm rfl h44
 have h47 := envp he43.symm rfl h46
 have h49 := envp he43.symm rfl h48
 have h51 := envp he43.symm rfl h50
 refine sq (sq (Rg (kx (mvO h51) (kx (bLss rfl rfl) (Rn (hV (.int .u32 s1_1) h45 (hV (.loc i1_1 1 0 0) h47 (hV (.loc i1_2 1 0 0) h49 (hV (.int .i64 s1_2) h51 (hN rfl hZ))))) fun e54 h56 h57 h58 h59 h60 => sN ?_)))))
 clear h45 h47 h49 h51
 rcases ite_some h with ⟨hb61, h⟩ | ⟨hb61, h⟩
 ·obtain ⟨n68, hx69, h⟩ := bind_some h
  obtain ⟨n70, hx71, h⟩ := bind_some h
  obtain ⟨x72, hx73, h⟩ := bind_some h
  refine cT h60 hb61 (xx (sN (sq (bl (sq (Rg (kx (mvO h56) (kx (bMul rfl rfl) (kx (bAdd rfl rfl) (kx (mvO rfl) (Rn (hN rfl (hA h57 (hA h58 (hA h59 hZ)))) fun e62 h64 h65 h66 h67 => sN (Rg (kx (mvO h67) (kx (mvO h64) (kx (bQuo rfl rfl hx69) (kx (bRem rfl rfl hx71) (kx (cvI rfl) (kx (bSub rfl rfl) (kx (ixLA h66 o53 rfl rfl hx73) (kw (stLA (c := (cI .i8)) (z := 0) (g := s1_3) (pre := []) (post := []) (u' := (IntKind.i8.wrap ((IntKind.i8.wrap n70) - 3))) rfl rfl o53 rfl rfl rfl rfl (fun _ => rfl) rfl rfl hx73) fun M74 hM75 => ?_))))))))))))))))))))
  clear h57 h58 h59 h60
  have o76 := set_ne hM75 ne13 o52
  have o77 : M74[i1_2]? = some (.live ⟨.box, 68, 16, [(arC (cI .i8) 0 (s1_3.set s1_2.toNat (IntKind.i8.wrap ((IntKind.i8.wrap n70) - 3))))]⟩) := set_same hM75 o53
  refine Rn (hA h64 (hA h65 (hA h66 (hA h67 hZ)))) fun e78 h80 h81 h82 h83 => bN (sN (Rg (kx (mvO h83) (kx (bAdd rfl rfl) (kx (mvO rfl) (Rn (hA h80 (hA h81 (hA h82 (hN rfl hZ)))) fun e84 h86 h87 h88 h89 => ?_))))))
  clear h64 h65 h66 h67 h80 h81 h82
  obtain rfl := si h
  exact qN ⟨h86, h87, h88, h89, o76, o77⟩
 refine cF h60 hb61 (xx (sE ?_))
 obtain rfl := si h
 exact qE ⟨rfl, h56, h57, h58, o52, o53⟩
noncomputable def spec_GrainFrom (a1 : Int) : Option ((Ar 16 Int) × Int) :=
 (Lw (spec_GrainFrom_b1) (a1, 0, (Ar.rep 16 0))).bind fun (y95, y96) =>
 some (y96, y95)
def spec_GrainFrom_enc (r : (Ar 16 Int) × Int) : AV := .tup [.agg (arC (cI .i8) 0 r.1), .int .u32 r.2]
theorem spec_GrainFrom_ok (a1 : Int) (r : (Ar 16 Int) × Int) (h : spec_GrainFrom a1 = some r) : Ev (fun k => CN k 99 [.int .u32 a1] []) (fun p => rRes p.2 p.1 = spec_GrainFrom_enc r) := by
 unfold spec_GrainFrom at h
 refine Ev.enter (F := fun k => f99 (CN k) k) (fun k => callN_eq rfl Try.func99 rfl rfl rfl (by decide +kernel) (f99_eq _ _)) (sq (Rg (ku (alO zero68) fun M2 hM3 => ?_)))
 have o4 : M2[([] : Mem).length]? = some (.live ⟨.box, 68, 16, [(arC (cI .i8) 0 (Ar.rep 16 0))]⟩) := push_new hM3
 refine kx (mvO rfl) (Rn (hN rfl (hV (.loc ([] : Mem).length 1 0 0) rfl hZ)) fun e5 h7 h8 => sN (sq (Rg (kx (bldT zero68 rfl (fill0 rfl)) (ku (alO zero68) fun M10 hM11 => ?_)))))
 have o12 := push_old hM11 o4
 have ne13 := ne_new o4
 have o14 : M10[M2.length]? = some (.live ⟨.box, 68, 16, [(arC (cI .i8) 0 (Ar.rep 16 0))]⟩) := push_new hM11
 refine kw (stO rfl rfl o14 rfl rfl ⟨rfl, ble rfl⟩ rfl rfl) fun M15 hM16 => ?_
 have o17 := set_ne hM16 ne13 o12
 have o18 : M15[M2.length]? = some (.live ⟨.box, 68, 16, [(arC (cI .i8) 0 (Ar.rep 16 0))]⟩) := set_same hM16 o14
 obtain ⟨⟨y95, y96⟩, hr91, h⟩ := bind_some h
 refine Rn (hA h7 (hA h8 (hV (.loc M2.length 1 0 0) rfl hZ))) fun e19 h21 h22 h23 => sN (sq (sq (Rg (kx (mvO rfl) (Rn (hA h21 (hA h22 (hA h23 (hV (.int .i64 0) rfl hZ)))) fun e24 h26 h27 h28 h29 => sN (bl (Ev.loop (RS := spec_GrainFrom_b1_RS (([] : Mem).length) M2.length) (RR := spec_GrainFrom_b1_RR (([] : Mem).length) M2.length) (fun s r h e M hs => spec_GrainFrom_b1_ok (([] : Mem).length) M2.length ne13 s r h e M hs) hr91 ⟨h26, h27, h28, h29, o17, o18⟩ fun x e93 M94 hq92 => ?_)))))))
 clear h7 h8 h21 h22 h23
 obtain ⟨rfl, h97, h98, h99, o100, o101⟩ := hq92
 refine bE (sN (sq (Rg (kx (ldOA (cs' := (arC (cI .i8) 0 y96)) h99 o101 rfl rfl (ble rfl) rfl) (kx (mvO h97) (kw (stO h98 rfl o100 rfl rfl ⟨rfl, ble rfl⟩ rfl rfl) fun M102 hM103 => ?_))))))
 have o104 : M102[([] : Mem).length]? = some (.live ⟨.box, 68, 16, [(arC (cI .i8) 0 y96)]⟩) := set_same hM103 o100
 have o105 := set_ne hM103 (Ne.symm ne13) o101
 refine kx (mvO rfl) (Rn (hV (.loc ([] : Mem).length 1 0 0) h98 (hN rfl hZ)) fun e106 h108 h109 => sN (xx ?_))
 clear h97 h98 h99
 obtain rfl := si h
 exact eR (resC (ag := true) (sz := 16) ⟨by kernel_rfl, by kernel_rfl, by kernel_rfl⟩ (ldOA (cs' := (arC (cI .i8) 0 y96)) h108 o104 rfl rfl (ble rfl) rfl) (resT h109 res0)) rfl
end Go.Proofs.Ytjlalepbhcekoaa

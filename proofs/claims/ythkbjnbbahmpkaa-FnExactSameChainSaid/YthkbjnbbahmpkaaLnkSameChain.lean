/- Printed by a program of ours (ext.py). -/
import Derived.Test.YthkbjnbbahmpkaaFnsSameChain
set_option linter.unusedVariables false
set_option linter.unusedSimpArgs false
set_option maxRecDepth 100000
set_option maxHeartbeats 2000000
namespace Go.Proofs.Ythkbjnbbahmpkaa
open Go Go.Ab
structure Notch where
  Kind : Int
  At : Int
  deriving DecidableEq
def Notch.c (x : Notch) : List AV := [.int .i8 x.Kind, .int .i16 x.At]
theorem Notch.fl : Fl Notch.c 2 := fun _ => ⟨rfl, rfl⟩
theorem Notch.flF : FlF Notch.c := fun _ => rfl
structure Mark where
  Holder : List UInt8
  Seal : Int
  deriving DecidableEq
def Mark.c (x : Mark) : List AV := [.str x.Holder, .int .u32 x.Seal]
theorem Mark.fl : Fl Mark.c 2 := fun _ => ⟨rfl, rfl⟩
theorem Mark.flF : FlF Mark.c := fun _ => rfl
structure Half where
  Stock : Bool
  Notches : List Notch
  Grain : Ar 16 Int
  deriving DecidableEq
def Half.c (x : Half) : List AV := (.bool x.Stock :: (.sl none (x.Notches.map Notch.c) :: ((arC (cI .i8) 0 x.Grain) ++ ([] : List AV))))
theorem Half.fl : Fl Half.c 18 := fun _ => ⟨rfl, rfl⟩
structure Chain where
  Debtor : List UInt8
  Stock : Half
  Marks : List Mark
  deriving DecidableEq
def Chain.c (x : Chain) : List AV := (.str x.Debtor :: (.bool x.Stock.Stock :: (.sl none (x.Stock.Notches.map Notch.c) :: ((arC (cI .i8) 0 x.Stock.Grain) ++ ((.sl none (x.Marks.map Mark.c) :: []) : List AV)))))
theorem Chain.fl : Fl Chain.c 20 := fun _ => ⟨rfl, rfl⟩
theorem zero115 : zeroOf cx.P 115 = [.int .i8 0, .int .i16 0] := by kernel_rfl
theorem zero33 : zeroOf cx.P 33 = (arC (cI .i8) 0 (Ar.rep 16 0)) := by kernel_rfl
theorem zero35 : zeroOf cx.P 35 = (.bool false :: (.nils :: ((arC (cI .i8) 0 (Ar.rep 16 0)) ++ ([] : List AV)))) := by kernel_rfl
theorem zero38 : zeroOf cx.P 38 = (.str ([] : List UInt8) :: (.bool false :: (.nils :: ((arC (cI .i8) 0 (Ar.rep 16 0)) ++ ((.nils :: []) : List AV))))) := by kernel_rfl
theorem zero72 : zeroOf cx.P 72 = [.str ([] : List UInt8), .int .u32 0] := by kernel_rfl
/-! ### loop.example/g01263/laws.eqNotch (f90) -/
noncomputable def laws_eqNotch (a1 : Notch) (a2 : Notch) : Option Bool :=
 if (a1.Kind != a2.Kind) = true then
  some false
 else
  if (a1.At != a2.At) = true then
   some false
  else
   some true
def laws_eqNotch_enc (r : Bool) : AV := .bool r
theorem laws_eqNotch_ok (a1 : Notch) (a2 : Notch) (r : Bool) (h : laws_eqNotch a1 a2 = some r) : Ev (fun k => CN k 90 [.agg [.int .i8 a1.Kind, .int .i16 a1.At], .agg [.int .i8 a2.Kind, .int .i16 a2.At]] []) (fun p => rRes p.2 p.1 = laws_eqNotch_enc r) := by
 unfold laws_eqNotch at h
 refine Ev.enter (F := fun k => f90 (CN k) k) (fun k => callN_eq rfl Try.func90 rfl rfl rfl (by decide +kernel) (f90_eq _ _)) (sq (Rg (kx (bxI rfl rfl ⟨rfl, rfl, by decide⟩) (kx (bxI rfl rfl ⟨rfl, rfl, by decide⟩) (kx (mvO rfl) (Rn (hN rfl (hN rfl hZ)) fun e1 h3 h4 => sN (sq (sq (Rg (kx (faP h3 ⟨ble rfl, blt rfl⟩ rfl) (kx (ldP rfl rfl) (kx (faP h4 ⟨ble rfl, blt rfl⟩ rfl) (kx (ldP rfl rfl) (kx (bNeq rfl rfl) (Rn (hA h3 (hA h4 (hN rfl hZ))) fun e5 h7 h8 h9 => sN ?_)))))))))))))))
 clear h3 h4
 rcases ite_some h with ⟨hb10, h⟩ | ⟨hb10, h⟩
 ·refine cT h9 hb10 (sq (Rg (kx (mvO rfl) (Rn (hV (.bool false) rfl hZ) fun e11 h13 => sN (xx (sR ?_))))))
  clear h7 h8 h9
  cases h
  exact eR (resT h13 res0) rfl
 refine cF h9 hb10 (xx (sN (sq (sq (Rg (kx (faP h7 ⟨ble rfl, blt rfl⟩ rfl) (kx (ldP rfl rfl) (kx (faP h8 ⟨ble rfl, blt rfl⟩ rfl) (kx (ldP rfl rfl) (kx (bNeq rfl rfl) (Rn (hN rfl hZ) fun e14 h16 => sN ?_)))))))))))
 clear h7 h8 h9
 rcases ite_some h with ⟨hb17, h⟩ | ⟨hb17, h⟩
 ·refine cT h16 hb17 (sq (Rg (kx (mvO rfl) (Rn (hV (.bool false) rfl hZ) fun e18 h20 => sN (xx (sR ?_))))))
  clear h16
  cases h
  exact eR (resT h20 res0) rfl
 refine cF h16 hb17 (xx (sN (sq (Rg (kx (mvO rfl) (Rn (hV (.bool true) rfl hZ) fun e21 h23 => sN (xx ?_)))))))
 clear h16
 cases h
 exact eR (resT h23 res0) rfl
/-! ### loop.example/g01263/laws.toNotch (f89) -/
noncomputable def laws_toNotch (a1 : Notch) : Option (Int × Int) :=
 some (a1.Kind, a1.At)
def laws_toNotch_enc (r : Int × Int) : AV := .agg [.int .i8 r.1, .int .i16 r.2]
theorem laws_toNotch_ok (a1 : Notch) (r : Int × Int) (h : laws_toNotch a1 = some r) : Ev (fun k => CN k 89 [.agg [.int .i8 a1.Kind, .int .i16 a1.At]] []) (fun p => rRes p.2 p.1 = laws_toNotch_enc r) := by
 unfold laws_toNotch at h
 refine Ev.enter (F := fun k => f89 (CN k) k) (fun k => callN_eq rfl Try.func89 rfl rfl rfl (by decide +kernel) (f89_eq _ _)) (sq (Rg (kx (bxI rfl rfl ⟨rfl, rfl, by decide⟩) (ku (alO zero115) fun M2 hM3 => ?_))))
 have o4 : M2[([] : Mem).length]? = some (.live ⟨.box, 115, 2, [[.int .i8 0, .int .i16 0]]⟩) := push_new hM3
 refine Rn (hN rfl (hV (.loc ([] : Mem).length 1 0 0) rfl hZ)) fun e5 h7 h8 => sN (sq (Rg (ku (alO zero115) fun M10 hM11 => ?_)))
 have o12 := push_old hM11 o4
 have ne13 := ne_new o4
 have o14 : M10[M2.length]? = some (.live ⟨.box, 115, 2, [[.int .i8 0, .int .i16 0]]⟩) := push_new hM11
 refine Rn (hA h7 (hA h8 (hV (.loc M2.length 1 0 0) rfl hZ))) fun e15 h17 h18 h19 => sN (sq (Rg (kx (faP h17 ⟨ble rfl, blt rfl⟩ rfl) (kx (ldP rfl rfl) (kx (faO h19 o14 rfl) (kw (stO rfl rfl o14 rfl rfl ⟨rfl, ble rfl⟩ rfl rfl) fun M20 hM21 => ?_))))))
 clear h7 h8
 have o22 := set_ne hM21 ne13 o12
 have o23 : M20[M2.length]? = some (.live ⟨.box, 115, 2, [[.int .i8 a1.Kind, .int .i16 0]]⟩) := set_same hM21 o14
 refine Rn (hA h17 (hA h18 (hA h19 hZ))) fun e24 h26 h27 h28 => sN (sq (Rg (kx (faP h26 ⟨ble rfl, blt rfl⟩ rfl) (kx (ldP rfl rfl) (kx (faO h28 o23 rfl) (kw (stO rfl rfl o23 rfl rfl ⟨rfl, ble rfl⟩ rfl rfl) fun M29 hM30 => ?_))))))
 clear h17 h18 h19
 have o31 := set_ne hM30 ne13 o22
 have o32 : M29[M2.length]? = some (.live ⟨.box, 115, 2, [[.int .i8 a1.Kind, .int .i16 a1.At]]⟩) := set_same hM30 o23
 refine Rn (hA h27 (hA h28 hZ)) fun e33 h35 h36 => sN (sq (Rg (kx (ldOA h36 o32 rfl rfl (ble rfl) rfl) (kw (stO h35 rfl o31 rfl rfl ⟨rfl, ble rfl⟩ rfl rfl) fun M37 hM38 => ?_))))
 clear h26 h27 h28
 have o39 : M37[([] : Mem).length]? = some (.live ⟨.box, 115, 2, [[.int .i8 a1.Kind, .int .i16 a1.At]]⟩) := set_same hM38 o31
 have o40 := set_ne hM38 (Ne.symm ne13) o32
 refine Rn (hA h35 hZ) fun e41 h43 => sN (xx ?_)
 clear h35 h36
 cases h
 exact eR (resC (ag := true) (sz := 2) ⟨by kernel_rfl, by kernel_rfl, by kernel_rfl⟩ (ldOA h43 o39 rfl rfl (ble rfl) rfl) res0) rfl
/-! ### loop.example/g01263/laws.eqMark (f70) -/
noncomputable def laws_eqMark (a1 : Mark) (a2 : Mark) : Option Bool :=
 if (a1.Holder == a2.Holder) = true then
  if (a1.Seal != a2.Seal) = true then
   some false
  else
   some true
 else
  some false
def laws_eqMark_enc (r : Bool) : AV := .bool r
theorem laws_eqMark_ok (a1 : Mark) (a2 : Mark) (r : Bool) (h : laws_eqMark a1 a2 = some r) : Ev (fun k => CN k 70 [.agg [.str a1.Holder, .int .u32 a1.Seal], .agg [.str a2.Holder, .int .u32 a2.Seal]] []) (fun p => rRes p.2 p.1 = laws_eqMark_enc r) := by
 unfold laws_eqMark at h
 refine Ev.enter (F := fun k => f70 (CN k) k) (fun k => callN_eq rfl Try.func70 rfl rfl rfl (by decide +kernel) (f70_eq _ _)) (sq (Rg (kx (bxI rfl rfl ⟨rfl, rfl, by decide⟩) (kx (bxI rfl rfl ⟨rfl, rfl, by decide⟩) (kx (mvO rfl) (Rn (hN rfl (hN rfl hZ)) fun e1 h3 h4 => sN (sq (sq (Rg (kx (faP h3 ⟨ble rfl, blt rfl⟩ rfl) (kx (ldP rfl rfl) (kx (faP h4 ⟨ble rfl, blt rfl⟩ rfl) (kx (ldP rfl rfl) (kx (sNeq rfl rfl) (Rn (hA h3 (hA h4 (hN rfl hZ))) fun e5 h7 h8 h9 => sN ?_)))))))))))))))
 clear h3 h4
 rcases ite_some h with ⟨hb10, h⟩ | ⟨hb10, h⟩
 ·refine cF h9 (congrArg Bool.not hb10) (xx (sN (sq (sq (Rg (kx (faP h7 ⟨ble rfl, blt rfl⟩ rfl) (kx (ldP rfl rfl) (kx (faP h8 ⟨ble rfl, blt rfl⟩ rfl) (kx (ldP rfl rfl) (kx (bNeq rfl rfl) (Rn (hN rfl hZ) fun e11 h13 => sN ?_)))))))))))
  clear h7 h8 h9
  rcases ite_some h with ⟨hb14, h⟩ | ⟨hb14, h⟩
  ·refine cT h13 hb14 (sq (Rg (kx (mvO rfl) (Rn (hV (.bool false) rfl hZ) fun e15 h17 => sN (xx (sR ?_))))))
   clear h13
   cases h
   exact eR (resT h17 res0) rfl
  refine cF h13 hb14 (xx (sN (sq (Rg (kx (mvO rfl) (Rn (hV (.bool true) rfl hZ) fun e18 h20 => sN (xx ?_)))))))
  clear h13
  cases h
  exact eR (resT h20 res0) rfl
 refine cT h9 (congrArg Bool.not hb10) (sq (Rg (kx (mvO rfl) (Rn (hV (.bool false) rfl hZ) fun e21 h23 => sN (xx (sR ?_))))))
 clear h7 h8 h9
 cases h
 exact eR (resT h23 res0) rfl
/-! ### loop.example/g01263/laws.eqGrain (f69) -/
abbrev laws_eqGrain_b1_S := Int
abbrev laws_eqGrain_b1_R := Unit ⊕ Unit
def laws_eqGrain_b1_RS (a1 : Ar 16 Int) (a2 : Ar 16 Int) (s : laws_eqGrain_b1_S) (e : Env) (M : Mem) : Prop := eget e 2 = .pt none (arC (cI .i8) 0 a1) ∧ eget e 3 = .pt none (arC (cI .i8) 0 a2) ∧ eget e 5 = .int .i64 s
def laws_eqGrain_b1_RR (a1 : Ar 16 Int) (a2 : Ar 16 Int) (r : laws_eqGrain_b1_R) (x : Ex) (e : Env) (M : Mem) : Prop :=
  match r with
  | (.inl g) => x = .ret ∧ eget e 4 = .bool false
  | (.inr g) => x = .ext 0 ∧ True
noncomputable def laws_eqGrain_b1 (a1 : Ar 16 Int) (a2 : Ar 16 Int) : laws_eqGrain_b1_S → Option (laws_eqGrain_b1_S ⊕ laws_eqGrain_b1_R) := fun s1_1 =>
 if (decide (s1_1 < 16)) = true then
  (rdA a1 s1_1).bind fun x33 =>
  (rdA a2 s1_1).bind fun x35 =>
  if (x33 != x35) = true then
   some (.inr (.inl ()))
  else
   some (.inl (IntKind.i64.wrap (s1_1 + 1)))
 else
  some (.inr (.inr ()))
theorem laws_eqGrain_b1_ok (a1 : Ar 16 Int) (a2 : Ar 16 Int) (s : laws_eqGrain_b1_S) (r : laws_eqGrain_b1_S ⊕ laws_eqGrain_b1_R) (h : laws_eqGrain_b1 a1 a2 s = some r) (e : Env) (M : Mem) (hs : laws_eqGrain_b1_RS a1 a2 s e M) : Ev (fun k => (f69_l2 (CN k) k (prune [2, 3, 5] e) M).bind fun q => some q) (bQ (laws_eqGrain_b1_RS a1 a2) (laws_eqGrain_b1_RR a1 a2) r) := by
 revert h hs
 revert s
 intro s1_1 h hs
 unfold laws_eqGrain_b1 at h
 obtain ⟨h20, h22, h24⟩ := hs
 generalize he19 : prune [2, 3, 5] e = e18
 have h21 := envp he19.symm rfl h20
 have h23 := envp he19.symm rfl h22
 have h25 := envp he19.symm rfl h24
 refine sq (sq (Rg (kx (mvO h25) (kx (bLss rfl rfl) (Rn (hV (.pt none (arC (cI .i8) 0 a1)) h21 (hV (.pt none (arC (cI .i8) 0 a2)) h23 (hV (.int .i64 s1_1) h25 (hN rfl hZ)))) fun e26 h28 h29 h30 h31 => sN ?_)))))
 clear h21 h23 h25
 rcases ite_some h with ⟨hb32, h⟩ | ⟨hb32, h⟩
 ·obtain ⟨x33, hx34, h⟩ := bind_some h
  obtain ⟨x35, hx36, h⟩ := bind_some h
  refine cT h31 hb32 (xx (sN (sq (bl (sq (Rd (kf (mvO h30) (kf (ixPA (c := (cI .i8)) (z := 0) (g := a1) h28 rfl hx34 (fun _ => rfl)) (kf (ldP rfl rfl) (kf (mvO h30) (kf (ixPA (c := (cI .i8)) (z := 0) (g := a2) h29 rfl hx36 (fun _ => rfl)) (kf (ldP rfl rfl) (kf (bNeq rfl rfl) (fZ (Rn (hA h28 (hA h29 (hA h30 (hN rfl hZ)))) fun e37 h39 h40 h41 h42 => sN ?_)))))))))))))))
  clear h28 h29 h30 h31
  rcases ite_some h with ⟨hb43, h⟩ | ⟨hb43, h⟩
  ·refine cT h42 hb43 (sq (Rg (kx (mvO rfl) (Rn (hV (.bool false) rfl hZ) fun e44 h46 => sN (xx (bR (sR ?_)))))))
   clear h39 h40 h41 h42
   cases h
   exact qR ⟨rfl, h46⟩
  refine cF h42 hb43 (xx (bN (sN (Rg (kx (mvO h41) (kx (bAdd rfl rfl) (kx (mvO rfl) (Rn (hA h39 (hA h40 (hN rfl hZ))) fun e47 h49 h50 h51 => ?_))))))))
  clear h39 h40 h42
  cases h
  exact qN ⟨h49, h50, h51⟩
 refine cF h31 hb32 (xx (sE ?_))
 cases h
 exact qE ⟨rfl, trivial⟩
noncomputable def laws_eqGrain (a1 : Ar 16 Int) (a2 : Ar 16 Int) : Option Bool :=
 (Lw (laws_eqGrain_b1 a1 a2) 0).bind fun r => match r with
 | (.inl _) =>
  some false
 | (.inr _) =>
  some true
def laws_eqGrain_enc (r : Bool) : AV := .bool r
theorem laws_eqGrain_ok (a1 : Ar 16 Int) (a2 : Ar 16 Int) (r : Bool) (h : laws_eqGrain a1 a2 = some r) : Ev (fun k => CN k 69 [.agg (arC (cI .i8) 0 a1), .agg (arC (cI .i8) 0 a2)] []) (fun p => rRes p.2 p.1 = laws_eqGrain_enc r) := by
 unfold laws_eqGrain at h
 obtain ⟨r52, hr53, h⟩ := bind_some h
 refine Ev.enter (F := fun k => f69 (CN k) k) (fun k => callN_eq rfl Try.func69 rfl rfl rfl (by decide +kernel) (f69_eq _ _)) (sq (Rg (kx (bxI rfl rfl ⟨rfl, rfl, by decide⟩) (kx (bxI rfl rfl ⟨rfl, rfl, by decide⟩) (kx (mvO rfl) (Rn (hN rfl (hN rfl hZ)) fun e1 h3 h4 => sN (sq (sq (Rg (kx (mvO rfl) (Rn (hA h3 (hA h4 (hV (.int .i64 0) rfl hZ))) fun e5 h7 h8 h9 => sN (bl ?_))))))))))))
 clear h3 h4
 rcases r52 with _ | _
 ·refine Ev.loop (RS := laws_eqGrain_b1_RS a1 a2) (RR := laws_eqGrain_b1_RR a1 a2) (fun s r h e M hs => laws_eqGrain_b1_ok a1 a2 s r h e M hs) hr53 ⟨h7, h8, h9⟩ fun x e55 M56 hq54 => ?_
  obtain ⟨rfl, h57⟩ := hq54
  refine bR (sR ?_)
  cases h
  exact eR (resT h57 res0) rfl
 refine Ev.loop (RS := laws_eqGrain_b1_RS a1 a2) (RR := laws_eqGrain_b1_RR a1 a2) (fun s r h e M hs => laws_eqGrain_b1_ok a1 a2 s r h e M hs) hr53 ⟨h7, h8, h9⟩ fun x e58 M59 hq54 => ?_
 obtain ⟨rfl, _⟩ := hq54
 refine bE (sN (sq (Rg (kx (mvO rfl) (Rn (hV (.bool true) rfl hZ) fun e60 h62 => sN (xx ?_))))))
 cases h
 exact eR (resT h62 res0) rfl
/-! ### loop.example/g01263/laws.eqNotchS (f68) -/
abbrev laws_eqNotchS_b1_S := Int
abbrev laws_eqNotchS_b1_R := Unit ⊕ Unit
def laws_eqNotchS_b1_RS (a1 : List Notch) (a2 : List Notch) (s : laws_eqNotchS_b1_S) (e : Env) (M : Mem) : Prop := eget e 0 = .sl none (a1.map Notch.c) ∧ eget e 1 = .sl none (a2.map Notch.c) ∧ eget e 5 = .int .i64 s
def laws_eqNotchS_b1_RR (a1 : List Notch) (a2 : List Notch) (r : laws_eqNotchS_b1_R) (x : Ex) (e : Env) (M : Mem) : Prop :=
  match r with
  | (.inl g) => x = .ret ∧ eget e 4 = .bool false
  | (.inr g) => x = .ext 0 ∧ True
noncomputable def laws_eqNotchS_b1 (a1 : List Notch) (a2 : List Notch) : laws_eqNotchS_b1_S → Option (laws_eqNotchS_b1_S ⊕ laws_eqNotchS_b1_R) := fun s1_1 =>
 if (decide (s1_1 < (a1.length : Int))) = true then
  (rd a1 s1_1).bind fun x42 =>
  (rd a2 s1_1).bind fun x44 =>
  (laws_eqNotch x42 x44).bind fun r47 =>
  if r47 = true then
   some (.inl (IntKind.i64.wrap (s1_1 + 1)))
  else
   some (.inr (.inl ()))
 else
  some (.inr (.inr ()))
theorem laws_eqNotchS_b1_ok (a1 : List Notch) (a2 : List Notch) (s : laws_eqNotchS_b1_S) (r : laws_eqNotchS_b1_S ⊕ laws_eqNotchS_b1_R) (h : laws_eqNotchS_b1 a1 a2 s = some r) (e : Env) (M : Mem) (hs : laws_eqNotchS_b1_RS a1 a2 s e M) : Ev (fun k => (f68_l4 (CN k) k (prune [0, 1, 5] e) M).bind fun q => some q) (bQ (laws_eqNotchS_b1_RS a1 a2) (laws_eqNotchS_b1_RR a1 a2) r) := by
 revert h hs
 revert s
 intro s1_1 h hs
 unfold laws_eqNotchS_b1 at h
 obtain ⟨h29, h31, h33⟩ := hs
 generalize he28 : prune [0, 1, 5] e = e27
 have h30 := envp he28.symm rfl h29
 have h32 := envp he28.symm rfl h31
 have h34 := envp he28.symm rfl h33
 refine sq (sq (Rg (kx (mvO h34) (kx (mvO h30) (kx (lnS Try.underlying32 rfl) (kx (bLss rfl rfl) (Rn (hV (.sl none (a1.map Notch.c)) h30 (hV (.sl none (a2.map Notch.c)) h32 (hV (.int .i64 s1_1) h34 (hN rfl hZ)))) fun e35 h37 h38 h39 h40 => sN ?_)))))))
 clear h30 h32 h34
 rcases ite_some h with ⟨hb41, h⟩ | ⟨hb41, h⟩
 ·obtain ⟨x42, hx43, h⟩ := bind_some h
  obtain ⟨x44, hx45, h⟩ := bind_some h
  obtain ⟨r47, hx46, h⟩ := bind_some h
  refine cT h40 hb41 (xx (sN (sq (bl (sq (Rd (kf (mvO h37) (kf (mvO h39) (kf (ixS rfl rfl hx43 Notch.fl) (kf (ldPA rfl rfl rfl) (kf (mvO h38) (kf (mvO h39) (kf (ixS rfl rfl hx45 Notch.fl) (kf (ldPA rfl rfl rfl) (fc (cl (v := .bool r47) rfl (cns rfl (cns rfl rfl)) rfl (laws_eqNotch_ok x42 x44 _ hx46) nm) (kf (uNot rfl) (fZ (Rn (hA h37 (hA h38 (hA h39 (hN rfl hZ)))) fun e48 h50 h51 h52 h53 => sN ?_))))))))))))))))))
  clear h37 h38 h39 h40
  rcases ite_some h with ⟨hb54, h⟩ | ⟨hb54, h⟩
  ·refine cF h53 (congrArg Bool.not hb54) (xx (bN (sN (Rg (kx (mvO h52) (kx (bAdd rfl rfl) (kx (mvO rfl) (Rn (hA h50 (hA h51 (hN rfl hZ))) fun e55 h57 h58 h59 => ?_))))))))
   clear h50 h51 h53
   cases h
   exact qN ⟨h57, h58, h59⟩
  refine cT h53 (congrArg Bool.not hb54) (sq (Rg (kx (mvO rfl) (Rn (hV (.bool false) rfl hZ) fun e60 h62 => sN (xx (bR (sR ?_)))))))
  clear h50 h51 h52 h53
  cases h
  exact qR ⟨rfl, h62⟩
 refine cF h40 hb41 (xx (sE ?_))
 cases h
 exact qE ⟨rfl, trivial⟩
noncomputable def laws_eqNotchS (a1 : List Notch) (a2 : List Notch) : Option Bool :=
 if ((a1.length : Int) != (a2.length : Int)) = true then
  some false
 else
  (Lw (laws_eqNotchS_b1 a1 a2) 0).bind fun r => match r with
  | (.inl _) =>
   some false
  | (.inr _) =>
   some true
def laws_eqNotchS_enc (r : Bool) : AV := .bool r
theorem laws_eqNotchS_ok (a1 : List Notch) (a2 : List Notch) (r : Bool) (h : laws_eqNotchS a1 a2 = some r) : Ev (fun k => CN k 68 [.sl none (a1.map Notch.c), .sl none (a2.map Notch.c)] []) (fun p => rRes p.2 p.1 = laws_eqNotchS_enc r) := by
 unfold laws_eqNotchS at h
 refine Ev.enter (F := fun k => f68 (CN k) k) (fun k => callN_eq rfl Try.func68 rfl rfl rfl (by decide +kernel) (f68_eq _ _)) (sq (Rg (kx (mvO rfl) (Rn (hN rfl (hN rfl hZ)) fun e1 h3 h4 => sN (sq (sq (Rg (kx (mvO h3) (kx (lnS Try.underlying32 rfl) (kx (mvO h4) (kx (lnS Try.underlying32 rfl) (kx (bNeq rfl rfl) (Rn (hA h3 (hA h4 (hN rfl hZ))) fun e5 h7 h8 h9 => sN ?_)))))))))))))
 clear h3 h4
 rcases ite_some h with ⟨hb10, h⟩ | ⟨hb10, h⟩
 ·refine cT h9 hb10 (sq (Rg (kx (mvO rfl) (Rn (hV (.bool false) rfl hZ) fun e11 h13 => sN (xx (sR ?_))))))
  clear h7 h8 h9
  cases h
  exact eR (resT h13 res0) rfl
 obtain ⟨r63, hr64, h⟩ := bind_some h
 refine cF h9 hb10 (xx (sN (sq (sq (Rg (kx (mvO rfl) (Rn (hA h7 (hA h8 (hV (.int .i64 0) rfl hZ))) fun e14 h16 h17 h18 => sN (bl ?_))))))))
 clear h7 h8 h9
 rcases r63 with _ | _
 ·refine Ev.loop (RS := laws_eqNotchS_b1_RS a1 a2) (RR := laws_eqNotchS_b1_RR a1 a2) (fun s r h e M hs => laws_eqNotchS_b1_ok a1 a2 s r h e M hs) hr64 ⟨h16, h17, h18⟩ fun x e66 M67 hq65 => ?_
  obtain ⟨rfl, h68⟩ := hq65
  refine bR (sR ?_)
  cases h
  exact eR (resT h68 res0) rfl
 refine Ev.loop (RS := laws_eqNotchS_b1_RS a1 a2) (RR := laws_eqNotchS_b1_RR a1 a2) (fun s r h e M hs => laws_eqNotchS_b1_ok a1 a2 s r h e M hs) hr64 ⟨h16, h17, h18⟩ fun x e69 M70 hq65 => ?_
 obtain ⟨rfl, _⟩ := hq65
 refine bE (sN (sq (Rg (kx (mvO rfl) (Rn (hV (.bool true) rfl hZ) fun e71 h73 => sN (xx ?_))))))
 cases h
 exact eR (resT h73 res0) rfl
/-! ### slices.Equal[[]loop.example/g01263/impl.Notch,loop.example/g01263/impl.Notch] (f67) -/
abbrev slices_Equal_Notch_b1_S := Int
abbrev slices_Equal_Notch_b1_R := Unit ⊕ Unit
def slices_Equal_Notch_b1_RS (a1 : List Notch) (a2 : List Notch) (s : slices_Equal_Notch_b1_S) (e : Env) (M : Mem) : Prop := eget e 0 = .sl none (a1.map Notch.c) ∧ eget e 1 = .sl none (a2.map Notch.c) ∧ eget e 12 = .int .i64 (a1.length : Int) ∧ eget e 13 = .int .i64 s
def slices_Equal_Notch_b1_RR (a1 : List Notch) (a2 : List Notch) (r : slices_Equal_Notch_b1_R) (x : Ex) (e : Env) (M : Mem) : Prop :=
  match r with
  | (.inl g) => x = .ret ∧ eget e 4 = .bool false
  | (.inr g) => x = .ext 0 ∧ True
noncomputable def slices_Equal_Notch_b1 (a1 : List Notch) (a2 : List Notch) : slices_Equal_Notch_b1_S → Option (slices_Equal_Notch_b1_S ⊕ slices_Equal_Notch_b1_R) := fun s1_1 =>
 if (decide (s1_1 < (a1.length : Int))) = true then
  (rd a1 s1_1).bind fun x55 =>
  (rd a2 s1_1).bind fun x57 =>
  if ((x55.Kind == x57.Kind) && ((x55.At == x57.At) && true)) = true then
   some (.inl (IntKind.i64.wrap (s1_1 + 1)))
  else
   some (.inr (.inl ()))
 else
  some (.inr (.inr ()))
theorem slices_Equal_Notch_b1_ok (a1 : List Notch) (a2 : List Notch) (s : slices_Equal_Notch_b1_S) (r : slices_Equal_Notch_b1_S ⊕ slices_Equal_Notch_b1_R) (h : slices_Equal_Notch_b1 a1 a2 s = some r) (e : Env) (M : Mem) (hs : slices_Equal_Notch_b1_RS a1 a2 s e M) : Ev (fun k => (f67_l4 (CN k) k (prune [0, 1, 12, 13] e) M).bind fun q => some q) (bQ (slices_Equal_Notch_b1_RS a1 a2) (slices_Equal_Notch_b1_RR a1 a2) r) := by
 revert h hs
 revert s
 intro s1_1 h hs
 unfold slices_Equal_Notch_b1 at h
 obtain ⟨h32, h34, h36, h38⟩ := hs
 generalize he31 : prune [0, 1, 12, 13] e = e30
 have h33 := envp he31.symm rfl h32
 have h35 := envp he31.symm rfl h34
 have h37 := envp he31.symm rfl h36
 have h39 := envp he31.symm rfl h38
 refine sq (Rg (kx (bLss h39 h37) (Rn (hV (.sl none (a1.map Notch.c)) h33 (hV (.sl none (a2.map Notch.c)) h35 (hV (.int .i64 (a1.length : Int)) h37 (hV (.int .i64 s1_1) h39 (hN rfl hZ))))) fun e40 h42 h43 h44 h45 h46 => sN (sq ?_))))
 clear h33 h35 h37 h39
 rcases ite_some h with ⟨hb47, h⟩ | ⟨hb47, h⟩
 ·obtain ⟨x55, hx56, h⟩ := bind_some h
  obtain ⟨x57, hx58, h⟩ := bind_some h
  refine cT h46 hb47 (xx (sN (sq (bl (sq (Rg (kx (mvO h45) (kx (mvO rfl) (Rn (hA h42 (hA h43 (hN rfl (hA h44 (hA h45 hZ))))) fun e48 h50 h51 h52 h53 h54 => sN (sq (Rd (kf (mvO h50) (kf (mvO h52) (kf (ixS rfl rfl hx56 Notch.fl) (kf (ldPA rfl rfl rfl) (kf (mvO h51) (kf (mvO h52) (kf (ixS rfl rfl hx58 Notch.fl) (kf (ldPA rfl rfl rfl) (kf (gNeq rfl rfl (by kernel_rfl) rfl) (fZ (Rn (hA h50 (hA h51 (hA h53 (hA h54 (hN rfl hZ))))) fun e59 h61 h62 h63 h64 h65 => sN ?_))))))))))))))))))))))
  clear h42 h43 h44 h45 h46 h50 h51 h52 h53 h54
  rcases ite_some h with ⟨hb66, h⟩ | ⟨hb66, h⟩
  ·refine cF h65 (congrArg Bool.not hb66) (xx (bN (sN (Rg (kx (bAdd h64 rfl) (kx (mvO rfl) (Rn (hA h61 (hA h62 (hA h63 (hN rfl hZ)))) fun e67 h69 h70 h71 h72 => ?_)))))))
   clear h61 h62 h63 h65
   cases h
   exact qN ⟨h69, h70, h71, h72⟩
  refine cT h65 (congrArg Bool.not hb66) (sq (Rg (kx (mvO rfl) (Rn (hV (.bool false) rfl hZ) fun e73 h75 => sN (xx (bR (sR ?_)))))))
  clear h61 h62 h63 h64 h65
  cases h
  exact qR ⟨rfl, h75⟩
 refine cF h46 hb47 (xx (sE ?_))
 cases h
 exact qE ⟨rfl, trivial⟩
noncomputable def slices_Equal_Notch (a1 : List Notch) (a2 : List Notch) : Option Bool :=
 if ((a1.length : Int) != (a2.length : Int)) = true then
  some false
 else
  (Lw (slices_Equal_Notch_b1 a1 a2) 0).bind fun r => match r with
  | (.inl _) =>
   some false
  | (.inr _) =>
   some true
def slices_Equal_Notch_enc (r : Bool) : AV := .bool r
theorem slices_Equal_Notch_ok (a1 : List Notch) (a2 : List Notch) (r : Bool) (h : slices_Equal_Notch a1 a2 = some r) : Ev (fun k => CN k 67 [.sl none (a1.map Notch.c), .sl none (a2.map Notch.c)] []) (fun p => rRes p.2 p.1 = slices_Equal_Notch_enc r) := by
 unfold slices_Equal_Notch at h
 refine Ev.enter (F := fun k => f67 (CN k) k) (fun k => callN_eq rfl Try.func67 rfl rfl rfl (by decide +kernel) (f67_eq _ _)) (sq (Rg (kx (mvO rfl) (Rn (hN rfl (hN rfl hZ)) fun e1 h3 h4 => sN (sq (sq (Rg (kx (mvO h3) (kx (lnS Try.underlying32 rfl) (kx (mvO h4) (kx (lnS Try.underlying32 rfl) (kx (bNeq rfl rfl) (Rn (hA h3 (hA h4 (hN rfl hZ))) fun e5 h7 h8 h9 => sN ?_)))))))))))))
 clear h3 h4
 rcases ite_some h with ⟨hb10, h⟩ | ⟨hb10, h⟩
 ·refine cT h9 hb10 (sq (Rg (kx (mvO rfl) (Rn (hV (.bool false) rfl hZ) fun e11 h13 => sN (xx (sR ?_))))))
  clear h7 h8 h9
  cases h
  exact eR (resT h13 res0) rfl
 obtain ⟨r76, hr77, h⟩ := bind_some h
 refine cF h9 hb10 (xx (sN (sq (sq (Rg (kx (mvO h7) (kx (lnS Try.underlying32 rfl) (kx (mvO rfl) (Rn (hA h7 (hA h8 (hN rfl (hV (.int .i64 0) rfl hZ)))) fun e14 h16 h17 h18 h19 => sN (bl ?_))))))))))
 clear h7 h8 h9
 rcases r76 with _ | _
 ·refine Ev.loop (RS := slices_Equal_Notch_b1_RS a1 a2) (RR := slices_Equal_Notch_b1_RR a1 a2) (fun s r h e M hs => slices_Equal_Notch_b1_ok a1 a2 s r h e M hs) hr77 ⟨h16, h17, h18, h19⟩ fun x e79 M80 hq78 => ?_
  obtain ⟨rfl, h81⟩ := hq78
  refine bR (sR ?_)
  cases h
  exact eR (resT h81 res0) rfl
 refine Ev.loop (RS := slices_Equal_Notch_b1_RS a1 a2) (RR := slices_Equal_Notch_b1_RR a1 a2) (fun s r h e M hs => slices_Equal_Notch_b1_ok a1 a2 s r h e M hs) hr77 ⟨h16, h17, h18, h19⟩ fun x e82 M83 hq78 => ?_
 obtain ⟨rfl, _⟩ := hq78
 refine bE (sN (sq (Rg (kx (mvO rfl) (Rn (hV (.bool true) rfl hZ) fun e84 h86 => sN (xx ?_))))))
 cases h
 exact eR (resT h86 res0) rfl
/-! ### loop.example/g01263/laws.toMark (f66) -/
noncomputable def laws_toMark (a1 : Mark) : Option ((List UInt8) × Int) :=
 some (a1.Holder, a1.Seal)
def laws_toMark_enc (r : (List UInt8) × Int) : AV := .agg [.str r.1, .int .u32 r.2]
theorem laws_toMark_ok (a1 : Mark) (r : (List UInt8) × Int) (h : laws_toMark a1 = some r) : Ev (fun k => CN k 66 [.agg [.str a1.Holder, .int .u32 a1.Seal]] []) (fun p => rRes p.2 p.1 = laws_toMark_enc r) := by
 unfold laws_toMark at h
 refine Ev.enter (F := fun k => f66 (CN k) k) (fun k => callN_eq rfl Try.func66 rfl rfl rfl (by decide +kernel) (f66_eq _ _)) (sq (Rg (kx (bxI rfl rfl ⟨rfl, rfl, by decide⟩) (ku (alO zero72) fun M2 hM3 => ?_))))
 have o4 : M2[([] : Mem).length]? = some (.live ⟨.box, 72, 2, [[.str ([] : List UInt8), .int .u32 0]]⟩) := push_new hM3
 refine Rn (hN rfl (hV (.loc ([] : Mem).length 1 0 0) rfl hZ)) fun e5 h7 h8 => sN (sq (Rg (ku (alO zero72) fun M10 hM11 => ?_)))
 have o12 := push_old hM11 o4
 have ne13 := ne_new o4
 have o14 : M10[M2.length]? = some (.live ⟨.box, 72, 2, [[.str ([] : List UInt8), .int .u32 0]]⟩) := push_new hM11
 refine Rn (hA h7 (hA h8 (hV (.loc M2.length 1 0 0) rfl hZ))) fun e15 h17 h18 h19 => sN (sq (Rg (kx (faP h17 ⟨ble rfl, blt rfl⟩ rfl) (kx (ldP rfl rfl) (kx (faO h19 o14 rfl) (kw (stO rfl rfl o14 rfl rfl ⟨rfl, ble rfl⟩ rfl rfl) fun M20 hM21 => ?_))))))
 clear h7 h8
 have o22 := set_ne hM21 ne13 o12
 have o23 : M20[M2.length]? = some (.live ⟨.box, 72, 2, [[.str a1.Holder, .int .u32 0]]⟩) := set_same hM21 o14
 refine Rn (hA h17 (hA h18 (hA h19 hZ))) fun e24 h26 h27 h28 => sN (sq (Rg (kx (faP h26 ⟨ble rfl, blt rfl⟩ rfl) (kx (ldP rfl rfl) (kx (faO h28 o23 rfl) (kw (stO rfl rfl o23 rfl rfl ⟨rfl, ble rfl⟩ rfl rfl) fun M29 hM30 => ?_))))))
 clear h17 h18 h19
 have o31 := set_ne hM30 ne13 o22
 have o32 : M29[M2.length]? = some (.live ⟨.box, 72, 2, [[.str a1.Holder, .int .u32 a1.Seal]]⟩) := set_same hM30 o23
 refine Rn (hA h27 (hA h28 hZ)) fun e33 h35 h36 => sN (sq (Rg (kx (ldOA h36 o32 rfl rfl (ble rfl) rfl) (kw (stO h35 rfl o31 rfl rfl ⟨rfl, ble rfl⟩ rfl rfl) fun M37 hM38 => ?_))))
 clear h26 h27 h28
 have o39 : M37[([] : Mem).length]? = some (.live ⟨.box, 72, 2, [[.str a1.Holder, .int .u32 a1.Seal]]⟩) := set_same hM38 o31
 have o40 := set_ne hM38 (Ne.symm ne13) o32
 refine Rn (hA h35 hZ) fun e41 h43 => sN (xx ?_)
 clear h35 h36
 cases h
 exact eR (resC (ag := true) (sz := 2) ⟨by kernel_rfl, by kernel_rfl, by kernel_rfl⟩ (ldOA h43 o39 rfl rfl (ble rfl) rfl) res0) rfl
/-! ### loop.example/g01263/laws.toGrain (f65) -/
abbrev laws_toGrain_b1_S := Int × (Ar 16 Int)
abbrev laws_toGrain_b1_R := (Ar 16 Int)
def laws_toGrain_b1_RS (a1 : Ar 16 Int) (i1_1 : Nat) (i1_2 : Nat) (s : laws_toGrain_b1_S) (e : Env) (M : Mem) : Prop := eget e 1 = .pt none (arC (cI .i8) 0 a1) ∧ eget e 2 = .loc i1_1 1 0 0 ∧ eget e 3 = .loc i1_2 1 0 0 ∧ eget e 4 = .int .i64 s.1 ∧ M[i1_1]? = some (.live ⟨.box, 33, 16, [(arC (cI .i8) 0 (Ar.rep 16 0))]⟩) ∧ M[i1_2]? = some (.live ⟨.box, 33, 16, [(arC (cI .i8) 0 s.2)]⟩)
def laws_toGrain_b1_RR (a1 : Ar 16 Int) (i1_1 : Nat) (i1_2 : Nat) (g : laws_toGrain_b1_R) (x : Ex) (e : Env) (M : Mem) : Prop := x = .ext 0 ∧ eget e 2 = .loc i1_1 1 0 0 ∧ eget e 3 = .loc i1_2 1 0 0 ∧ M[i1_1]? = some (.live ⟨.box, 33, 16, [(arC (cI .i8) 0 (Ar.rep 16 0))]⟩) ∧ M[i1_2]? = some (.live ⟨.box, 33, 16, [(arC (cI .i8) 0 g)]⟩)
noncomputable def laws_toGrain_b1 (a1 : Ar 16 Int) : laws_toGrain_b1_S → Option (laws_toGrain_b1_S ⊕ laws_toGrain_b1_R) := fun (s1_1, s1_2) =>
 if (decide (s1_1 < 16)) = true then
  (rdA a1 s1_1).bind fun x58 =>
  (rdA s1_2 s1_1).bind fun x60 =>
  some (.inl ((IntKind.i64.wrap (s1_1 + 1)), (s1_2.set s1_1.toNat x58)))
 else
  some (.inr s1_2)
theorem laws_toGrain_b1_ok (a1 : Ar 16 Int) (i1_1 : Nat) (i1_2 : Nat) (ne13 : i1_1 ≠ i1_2) (s : laws_toGrain_b1_S) (r : laws_toGrain_b1_S ⊕ laws_toGrain_b1_R) (h : laws_toGrain_b1 a1 s = some r) (e : Env) (M : Mem) (hs : laws_toGrain_b1_RS a1 i1_1 i1_2 s e M) : Ev (fun k => (f65_l3 (CN k) k (prune [1, 2, 3, 4] e) M).bind fun q => some q) (bQ (laws_toGrain_b1_RS a1 i1_1 i1_2) (laws_toGrain_b1_RR a1 i1_1 i1_2) r) := by
 obtain ⟨s1_1, s1_2⟩ := s
 unfold laws_toGrain_b1 at h
 obtain ⟨h40, h42, h44, h46, o48, o49⟩ := hs
 generalize he39 : prune [1, 2, 3, 4] e = e38
 have h41 := envp he39.symm rfl h40
 have h43 := envp he39.symm rfl h42
 have h45 := envp he39.symm rfl h44
 have h47 := envp he39.symm rfl h46
 refine sq (sq (Rg (kx (mvO h47) (kx (bLss rfl rfl) (Rn (hV (.pt none (arC (cI .i8) 0 a1)) h41 (hV (.loc i1_1 1 0 0) h43 (hV (.loc i1_2 1 0 0) h45 (hV (.int .i64 s1_1) h47 (hN rfl hZ))))) fun e50 h52 h53 h54 h55 h56 => sN ?_)))))
 clear h41 h43 h45 h47
 rcases ite_some h with ⟨hb57, h⟩ | ⟨hb57, h⟩
 ·obtain ⟨x58, hx59, h⟩ := bind_some h
  obtain ⟨x60, hx61, h⟩ := bind_some h
  refine cT h56 hb57 (xx (sN (sq (bl (Rg (kx (mvO h55) (kx (mvO h55) (kx (ixPA (c := (cI .i8)) (z := 0) (g := a1) h52 rfl hx59 (fun _ => rfl)) (kx (ldP rfl rfl) (kx (ixLA h54 o49 rfl rfl hx61) (kw (stLA (c := (cI .i8)) (z := 0) (g := s1_2) (pre := []) (post := []) (u' := x58) rfl rfl o49 rfl rfl rfl rfl (fun _ => rfl) rfl rfl hx61) fun M62 hM63 => ?_)))))))))))
  have o64 := set_ne hM63 ne13 o48
  have o65 : M62[i1_2]? = some (.live ⟨.box, 33, 16, [(arC (cI .i8) 0 (s1_2.set s1_1.toNat x58))]⟩) := set_same hM63 o49
  refine Rn (hA h52 (hA h53 (hA h54 (hA h55 hZ)))) fun e66 h68 h69 h70 h71 => bN (sN (Rg (kx (mvO h71) (kx (bAdd rfl rfl) (kx (mvO rfl) (Rn (hA h68 (hA h69 (hA h70 (hN rfl hZ)))) fun e72 h74 h75 h76 h77 => ?_))))))
  clear h52 h53 h54 h55 h56 h68 h69 h70
  cases h
  exact qN ⟨h74, h75, h76, h77, o64, o65⟩
 refine cF h56 hb57 (xx (sE ?_))
 cases h
 exact qE ⟨rfl, h53, h54, o48, o49⟩
noncomputable def laws_toGrain (a1 : Ar 16 Int) : Option ((Ar 16 Int)) :=
 (Lw (laws_toGrain_b1 a1) (0, (Ar.rep 16 0))).bind fun y83 =>
 some y83
def laws_toGrain_enc (r : (Ar 16 Int)) : AV := .agg (arC (cI .i8) 0 r)
theorem laws_toGrain_ok (a1 : Ar 16 Int) (r : (Ar 16 Int)) (h : laws_toGrain a1 = some r) : Ev (fun k => CN k 65 [.agg (arC (cI .i8) 0 a1)] []) (fun p => rRes p.2 p.1 = laws_toGrain_enc r) := by
 unfold laws_toGrain at h
 refine Ev.enter (F := fun k => f65 (CN k) k) (fun k => callN_eq rfl Try.func65 rfl rfl rfl (by decide +kernel) (f65_eq _ _)) (sq (Rg (kx (bxI rfl rfl ⟨rfl, rfl, by decide⟩) (ku (alO zero33) fun M2 hM3 => ?_))))
 have o4 : M2[([] : Mem).length]? = some (.live ⟨.box, 33, 16, [(arC (cI .i8) 0 (Ar.rep 16 0))]⟩) := push_new hM3
 refine Rn (hN rfl (hV (.loc ([] : Mem).length 1 0 0) rfl hZ)) fun e5 h7 h8 => sN (sq (Rg (ku (alO zero33) fun M10 hM11 => ?_)))
 have o12 := push_old hM11 o4
 have ne13 := ne_new o4
 have o14 : M10[M2.length]? = some (.live ⟨.box, 33, 16, [(arC (cI .i8) 0 (Ar.rep 16 0))]⟩) := push_new hM11
 obtain ⟨y83, hr79, h⟩ := bind_some h
 refine Rn (hA h7 (hA h8 (hV (.loc M2.length 1 0 0) rfl hZ))) fun e15 h17 h18 h19 => sN (sq (sq (Rg (kx (mvO rfl) (Rn (hA h17 (hA h18 (hA h19 (hV (.int .i64 0) rfl hZ)))) fun e20 h22 h23 h24 h25 => sN (bl (Ev.loop (RS := laws_toGrain_b1_RS a1 (([] : Mem).length) M2.length) (RR := laws_toGrain_b1_RR a1 (([] : Mem).length) M2.length) (fun s r h e M hs => laws_toGrain_b1_ok a1 (([] : Mem).length) M2.length ne13 s r h e M hs) hr79 ⟨h22, h23, h24, h25, o12, o14⟩ fun x e81 M82 hq80 => ?_)))))))
 clear h7 h8 h17 h18 h19
 obtain ⟨rfl, h84, h85, o86, o87⟩ := hq80
 refine bE (sN (sq (Rg (kx (ldOA h85 o87 rfl rfl (ble rfl) rfl) (kw (stO h84 rfl o86 rfl rfl ⟨rfl, ble rfl⟩ rfl rfl) fun M88 hM89 => ?_)))))
 have o90 : M88[([] : Mem).length]? = some (.live ⟨.box, 33, 16, [(arC (cI .i8) 0 y83)]⟩) := set_same hM89 o86
 have o91 := set_ne hM89 (Ne.symm ne13) o87
 refine Rn (hV (.loc ([] : Mem).length 1 0 0) h84 hZ) fun e92 h94 => sN (xx ?_)
 clear h84 h85
 cases h
 exact eR (resC (ag := true) (sz := 16) ⟨by kernel_rfl, by kernel_rfl, by kernel_rfl⟩ (ldOA h94 o90 rfl rfl (ble rfl) rfl) res0) rfl
/-! ### loop.example/g01263/laws.toNotchS (f64) -/
abbrev laws_toNotchS_b1_S := Int × (List Notch)
abbrev laws_toNotchS_b1_R := (List Notch)
def laws_toNotchS_b1_RS (a1 : List Notch) (x4 : List Notch) (i1_1 : Nat) (s : laws_toNotchS_b1_S) (e : Env) (M : Mem) : Prop := eget e 0 = .sl none (a1.map Notch.c) ∧ eget e 3 = .lsl i1_1 s.2.length 0 s.2.length ∧ eget e 4 = .int .i64 s.1 ∧ M[i1_1]? = some (.live ⟨.grow, 115, 2, s.2.map Notch.c⟩) ∧ s.2.length = x4.length
def laws_toNotchS_b1_RR (a1 : List Notch) (x4 : List Notch) (i1_1 : Nat) (g : laws_toNotchS_b1_R) (x : Ex) (e : Env) (M : Mem) : Prop := x = .ext 0 ∧ eget e 3 = .lsl i1_1 g.length 0 g.length ∧ M[i1_1]? = some (.live ⟨.grow, 115, 2, g.map Notch.c⟩) ∧ g.length = x4.length
noncomputable def laws_toNotchS_b1 (a1 : List Notch) : laws_toNotchS_b1_S → Option (laws_toNotchS_b1_S ⊕ laws_toNotchS_b1_R) := fun (s1_1, s1_2) =>
 if (decide (s1_1 < (a1.length : Int))) = true then
  (rd a1 s1_1).bind fun x45 =>
  (laws_toNotch x45).bind fun (r48, r49) =>
  (rd s1_2 s1_1).bind fun x50 =>
  some (.inl ((IntKind.i64.wrap (s1_1 + 1)), (s1_2.set s1_1.toNat (Notch.mk r48 r49))))
 else
  some (.inr s1_2)
theorem laws_toNotchS_b1_ok (a1 : List Notch) (x4 : List Notch) (i1_1 : Nat) (s : laws_toNotchS_b1_S) (r : laws_toNotchS_b1_S ⊕ laws_toNotchS_b1_R) (h : laws_toNotchS_b1 a1 s = some r) (e : Env) (M : Mem) (hs : laws_toNotchS_b1_RS a1 x4 i1_1 s e M) : Ev (fun k => (f64_l3 (CN k) k (prune [0, 3, 4] e) M).bind fun q => some q) (bQ (laws_toNotchS_b1_RS a1 x4 i1_1) (laws_toNotchS_b1_RR a1 x4 i1_1) r) := by
 obtain ⟨s1_1, s1_2⟩ := s
 unfold laws_toNotchS_b1 at h
 obtain ⟨h30, h32, h34, o36, hl37⟩ := hs
 generalize he29 : prune [0, 3, 4] e = e28
 have h31 := envp he29.symm rfl h30
 have h33 := envp he29.symm rfl h32
 have h35 := envp he29.symm rfl h34
 refine sq (sq (Rg (kx (mvO h35) (kx (mvO h31) (kx (lnS Try.underlying22 rfl) (kx (bLss rfl rfl) (Rn (hV (.sl none (a1.map Notch.c)) h31 (hV (.lsl i1_1 s1_2.length 0 s1_2.length) h33 (hV (.int .i64 s1_1) h35 (hN rfl hZ)))) fun e38 h40 h41 h42 h43 => sN ?_)))))))
 clear h31 h33 h35
 rcases ite_some h with ⟨hb44, h⟩ | ⟨hb44, h⟩
 ·obtain ⟨x45, hx46, h⟩ := bind_some h
  obtain ⟨⟨r48, r49⟩, hx47, h⟩ := bind_some h
  obtain ⟨x50, hx51, h⟩ := bind_some h
  refine cT h43 hb44 (xx (sN (sq (bl (Rg (kx (mvO h41) (kx (mvO h42) (kx (mvO h40) (kx (mvO h42) (kx (ixS rfl rfl hx46 Notch.fl) (kx (ldPA rfl rfl rfl) (kc (cl (v := .agg [.int .i8 r48, .int .i16 r49]) rfl (cns rfl rfl) rfl (laws_toNotch_ok x45 _ hx47) nm) (kx (ixO rfl o36 rfl rfl (rd_get hx51).1 (rd_lt hx51).2) (kw (stR (u := x50) (u' := (Notch.mk r48 r49)) rfl rfl o36 rfl (by rw [Nat.zero_add]; exact (rd_get hx51).2) ⟨rfl, ble rfl⟩ rfl rfl) fun M52 hM53 => ?_))))))))))))))
  rw [Nat.zero_add] at hM53
  have o54 : M52[i1_1]? = some (.live ⟨.grow, 115, 2, (s1_2.set s1_1.toNat (Notch.mk r48 r49)).map Notch.c⟩) := set_same hM53 o36
  have hx55 := rd_set (u' := (Notch.mk r48 r49)) hx51
  refine Rn (hA h40 (hA h41 (hA h42 hZ))) fun e56 h58 h59 h60 => bN (sN (Rg (kx (mvO h60) (kx (bAdd rfl rfl) (kx (mvO rfl) (Rn (hA h58 (hA h59 (hN rfl hZ))) fun e61 h63 h64 h65 => ?_))))))
  clear h40 h41 h42 h43 h58 h59
  cases h
  exact qN ⟨h63, (lslL (L' := (s1_2.set s1_1.toNat (Notch.mk r48 r49)).length) h64 (by simp [hl37])), h65, o54, (by first | rfl | simp [hl37])⟩
 refine cF h43 hb44 (xx (sE ?_))
 cases h
 exact qE ⟨rfl, h41, o36, (by first | rfl | simp [hl37])⟩
noncomputable def laws_toNotchS (a1 : List Notch) : Option ((List Notch)) :=
 (mkS 4 (Notch.mk 0 0) (a1.length : Int)).bind fun x4 =>
 (Lw (laws_toNotchS_b1 a1) (0, x4)).bind fun y71 =>
 some y71
def laws_toNotchS_enc (r : (List Notch)) : AV := .sl (some 115) (r.map Notch.c)
theorem laws_toNotchS_ok (a1 : List Notch) (r : (List Notch)) (h : laws_toNotchS a1 = some r) : Ev (fun k => CN k 64 [.sl none (a1.map Notch.c)] []) (fun p => rRes p.2 p.1 = laws_toNotchS_enc r) := by
 unfold laws_toNotchS at h
 obtain ⟨x4, hx5, h⟩ := bind_some h
 refine Ev.enter (F := fun k => f64 (CN k) k) (fun k => callN_eq rfl Try.func64 rfl rfl rfl (by decide +kernel) (f64_eq _ _)) (sq (Rg (kx (mvO rfl) (Rn (hN rfl hZ) fun e1 h3 => sN (sq (Rg (kx (mvO h3) (kx (lnS Try.underlying22 rfl) (ku (mkO rfl rfl hx5 (c := Notch.c) zero115 Notch.fl (by decide)) fun M7 hM8 => ?_)))))))))
 have o9 : M7[([] : Mem).length]? = some (.live ⟨.grow, 115, 2, x4.map Notch.c⟩) := push_new hM8
 obtain ⟨y71, hr67, h⟩ := bind_some h
 refine kx (mvO rfl) (Rn (hA h3 (hV (.lsl ([] : Mem).length x4.length 0 x4.length) rfl hZ)) fun e10 h12 h13 => sN (sq (sq (Rg (kx (mvO rfl) (Rn (hA h12 (hA h13 (hV (.int .i64 0) rfl hZ))) fun e14 h16 h17 h18 => sN (bl (Ev.loop (RS := laws_toNotchS_b1_RS a1 x4 (([] : Mem).length)) (RR := laws_toNotchS_b1_RR a1 x4 (([] : Mem).length)) (fun s r h e M hs => laws_toNotchS_b1_ok a1 x4 (([] : Mem).length) s r h e M hs) hr67 ⟨h16, h17, h18, o9, rfl⟩ fun x e69 M70 hq68 => ?_))))))))
 clear h3 h12 h13
 obtain ⟨rfl, h72, o73, hl74⟩ := hq68
 refine bE (sN (sq (Rg (kx (mvO h72) (kx (mvO rfl) (Rn (hV (.lsl ([] : Mem).length y71.length 0 y71.length) rfl hZ) fun e75 h77 => sN (xx ?_)))))))
 clear h72
 cases h
 exact eR (resT h77 res0) (rr_row o73 rfl Notch.fl)
/-! ### loop.example/g01263/spec.l01SameNotches (f63) -/
abbrev spec_l01SameNotches_b1_S := Int
abbrev spec_l01SameNotches_b1_R := Unit ⊕ Unit
def spec_l01SameNotches_b1_RS (a1 : List Notch) (a2 : List Notch) (s : spec_l01SameNotches_b1_S) (e : Env) (M : Mem) : Prop := eget e 0 = .sl none (a1.map Notch.c) ∧ eget e 1 = .sl none (a2.map Notch.c) ∧ eget e 5 = .int .i64 s
def spec_l01SameNotches_b1_RR (a1 : List Notch) (a2 : List Notch) (r : spec_l01SameNotches_b1_R) (x : Ex) (e : Env) (M : Mem) : Prop :=
  match r with
  | (.inl g) => x = .ret ∧ eget e 4 = .bool false
  | (.inr g) => x = .ext 0 ∧ True
noncomputable def spec_l01SameNotches_b1 (a1 : List Notch) (a2 : List Notch) : spec_l01SameNotches_b1_S → Option (spec_l01SameNotches_b1_S ⊕ spec_l01SameNotches_b1_R) := fun s1_1 =>
 if (decide (s1_1 < (a1.length : Int))) = true then
  (rd a1 s1_1).bind fun x42 =>
  (rd a2 s1_1).bind fun x44 =>
  if ((x42.Kind == x44.Kind) && ((x42.At == x44.At) && true)) = true then
   some (.inl (IntKind.i64.wrap (s1_1 + 1)))
  else
   some (.inr (.inl ()))
 else
  some (.inr (.inr ()))
theorem spec_l01SameNotches_b1_ok (a1 : List Notch) (a2 : List Notch) (s : spec_l01SameNotches_b1_S) (r : spec_l01SameNotches_b1_S ⊕ spec_l01SameNotches_b1_R) (h : spec_l01SameNotches_b1 a1 a2 s = some r) (e : Env) (M : Mem) (hs : spec_l01SameNotches_b1_RS a1 a2 s e M) : Ev (fun k => (f63_l4 (CN k) k (prune [0, 1, 5] e) M).bind fun q => some q) (bQ (spec_l01SameNotches_b1_RS a1 a2) (spec_l01SameNotches_b1_RR a1 a2) r) := by
 revert h hs
 revert s
 intro s1_1 h hs
 unfold spec_l01SameNotches_b1 at h
 obtain ⟨h29, h31, h33⟩ := hs
 generalize he28 : prune [0, 1, 5] e = e27
 have h30 := envp he28.symm rfl h29
 have h32 := envp he28.symm rfl h31
 have h34 := envp he28.symm rfl h33
 refine sq (sq (Rg (kx (mvO h34) (kx (mvO h30) (kx (lnS Try.underlying32 rfl) (kx (bLss rfl rfl) (Rn (hV (.sl none (a1.map Notch.c)) h30 (hV (.sl none (a2.map Notch.c)) h32 (hV (.int .i64 s1_1) h34 (hN rfl hZ)))) fun e35 h37 h38 h39 h40 => sN ?_)))))))
 clear h30 h32 h34
 rcases ite_some h with ⟨hb41, h⟩ | ⟨hb41, h⟩
 ·obtain ⟨x42, hx43, h⟩ := bind_some h
  obtain ⟨x44, hx45, h⟩ := bind_some h
  refine cT h40 hb41 (xx (sN (sq (bl (sq (Rd (kf (mvO h37) (kf (mvO h39) (kf (ixS rfl rfl hx43 Notch.fl) (kf (ldPA rfl rfl rfl) (kf (mvO h38) (kf (mvO h39) (kf (ixS rfl rfl hx45 Notch.fl) (kf (ldPA rfl rfl rfl) (kf (gNeq rfl rfl (by kernel_rfl) rfl) (fZ (Rn (hA h37 (hA h38 (hA h39 (hN rfl hZ)))) fun e46 h48 h49 h50 h51 => sN ?_)))))))))))))))))
  clear h37 h38 h39 h40
  rcases ite_some h with ⟨hb52, h⟩ | ⟨hb52, h⟩
  ·refine cF h51 (congrArg Bool.not hb52) (xx (bN (sN (Rg (kx (mvO h50) (kx (bAdd rfl rfl) (kx (mvO rfl) (Rn (hA h48 (hA h49 (hN rfl hZ))) fun e53 h55 h56 h57 => ?_))))))))
   clear h48 h49 h51
   cases h
   exact qN ⟨h55, h56, h57⟩
  refine cT h51 (congrArg Bool.not hb52) (sq (Rg (kx (mvO rfl) (Rn (hV (.bool false) rfl hZ) fun e58 h60 => sN (xx (bR (sR ?_)))))))
  clear h48 h49 h50 h51
  cases h
  exact qR ⟨rfl, h60⟩
 refine cF h40 hb41 (xx (sE ?_))
 cases h
 exact qE ⟨rfl, trivial⟩
noncomputable def spec_l01SameNotches (a1 : List Notch) (a2 : List Notch) : Option Bool :=
 if ((a1.length : Int) != (a2.length : Int)) = true then
  some false
 else
  (Lw (spec_l01SameNotches_b1 a1 a2) 0).bind fun r => match r with
  | (.inl _) =>
   some false
  | (.inr _) =>
   some true
def spec_l01SameNotches_enc (r : Bool) : AV := .bool r
theorem spec_l01SameNotches_ok (a1 : List Notch) (a2 : List Notch) (r : Bool) (h : spec_l01SameNotches a1 a2 = some r) : Ev (fun k => CN k 63 [.sl none (a1.map Notch.c), .sl none (a2.map Notch.c)] []) (fun p => rRes p.2 p.1 = spec_l01SameNotches_enc r) := by
 unfold spec_l01SameNotches at h
 refine Ev.enter (F := fun k => f63 (CN k) k) (fun k => callN_eq rfl Try.func63 rfl rfl rfl (by decide +kernel) (f63_eq _ _)) (sq (Rg (kx (mvO rfl) (Rn (hN rfl (hN rfl hZ)) fun e1 h3 h4 => sN (sq (sq (Rg (kx (mvO h3) (kx (lnS Try.underlying32 rfl) (kx (mvO h4) (kx (lnS Try.underlying32 rfl) (kx (bNeq rfl rfl) (Rn (hA h3 (hA h4 (hN rfl hZ))) fun e5 h7 h8 h9 => sN ?_)))))))))))))
 clear h3 h4
 rcases ite_some h with ⟨hb10, h⟩ | ⟨hb10, h⟩
 ·refine cT h9 hb10 (sq (Rg (kx (mvO rfl) (Rn (hV (.bool false) rfl hZ) fun e11 h13 => sN (xx (sR ?_))))))
  clear h7 h8 h9
  cases h
  exact eR (resT h13 res0) rfl
 obtain ⟨r61, hr62, h⟩ := bind_some h
 refine cF h9 hb10 (xx (sN (sq (sq (Rg (kx (mvO rfl) (Rn (hA h7 (hA h8 (hV (.int .i64 0) rfl hZ))) fun e14 h16 h17 h18 => sN (bl ?_))))))))
 clear h7 h8 h9
 rcases r61 with _ | _
 ·refine Ev.loop (RS := spec_l01SameNotches_b1_RS a1 a2) (RR := spec_l01SameNotches_b1_RR a1 a2) (fun s r h e M hs => spec_l01SameNotches_b1_ok a1 a2 s r h e M hs) hr62 ⟨h16, h17, h18⟩ fun x e64 M65 hq63 => ?_
  obtain ⟨rfl, h66⟩ := hq63
  refine bR (sR ?_)
  cases h
  exact eR (resT h66 res0) rfl
 refine Ev.loop (RS := spec_l01SameNotches_b1_RS a1 a2) (RR := spec_l01SameNotches_b1_RR a1 a2) (fun s r h e M hs => spec_l01SameNotches_b1_ok a1 a2 s r h e M hs) hr62 ⟨h16, h17, h18⟩ fun x e67 M68 hq63 => ?_
 obtain ⟨rfl, _⟩ := hq63
 refine bE (sN (sq (Rg (kx (mvO rfl) (Rn (hV (.bool true) rfl hZ) fun e69 h71 => sN (xx ?_))))))
 cases h
 exact eR (resT h71 res0) rfl
/-! ### loop.example/g01263/laws.szMark (f62) -/
noncomputable def laws_szMark (a1 : Mark) (a2 : Int) : Option Int :=
 if (decide ((IntKind.i64.wrap (a2 - (a1.Holder.length : Int))) < 0)) = true then
  some (-1)
 else
  some (IntKind.i64.wrap (a2 - (a1.Holder.length : Int)))
def laws_szMark_enc (r : Int) : AV := .int .i64 r
theorem laws_szMark_ok (a1 : Mark) (a2 : Int) (r : Int) (h : laws_szMark a1 a2 = some r) : Ev (fun k => CN k 62 [.agg [.str a1.Holder, .int .u32 a1.Seal], .int .i64 a2] []) (fun p => rRes p.2 p.1 = laws_szMark_enc r) := by
 unfold laws_szMark at h
 refine Ev.enter (F := fun k => f62 (CN k) k) (fun k => callN_eq rfl Try.func62 rfl rfl rfl (by decide +kernel) (f62_eq _ _)) (sq (Rg (kx (bxI rfl rfl ⟨rfl, rfl, by decide⟩) (kx (mvO rfl) (Rn (hN rfl (hN rfl hZ)) fun e1 h3 h4 => sN (sq (Rg (kx (mvO h3) (kx (faP h4 ⟨ble rfl, blt rfl⟩ rfl) (kx (ldP rfl rfl) (kx (lnB Try.underlying9 rfl) (kx (bSub rfl rfl) (kx (mvO rfl) (Rn (hN rfl hZ) fun e5 h7 => sN (sq (sq (Rg (kx (mvO h7) (kx (bLss rfl rfl) (Rn (hA h7 (hN rfl hZ)) fun e8 h10 h11 => sN ?_))))))))))))))))))))
 clear h4 h7
 rcases ite_some h with ⟨hb12, h⟩ | ⟨hb12, h⟩
 ·refine cT h11 hb12 (sq (Rg (kx (mvO rfl) (Rn (hV (.int .i64 (-1)) rfl hZ) fun e13 h15 => sN (xx (sR ?_))))))
  clear h10 h11
  cases h
  exact eR (resT h15 res0) rfl
 refine cF h11 hb12 (xx (sN (sq (Rg (kx (mvO h10) (kx (mvO rfl) (Rn (hN rfl hZ) fun e16 h18 => sN (xx ?_))))))))
 clear h10 h11
 cases h
 exact eR (resT h18 res0) rfl
/-! ### loop.example/g01263/laws.szNotchS (f61) -/
noncomputable def laws_szNotchS (a1 : List Notch) (a2 : Int) : Option Int :=
 if (decide ((IntKind.i64.wrap (a2 - (a1.length : Int))) < 0)) = true then
  some (-1)
 else
  some (IntKind.i64.wrap (a2 - (a1.length : Int)))
def laws_szNotchS_enc (r : Int) : AV := .int .i64 r
theorem laws_szNotchS_ok (a1 : List Notch) (a2 : Int) (r : Int) (h : laws_szNotchS a1 a2 = some r) : Ev (fun k => CN k 61 [.sl none (a1.map Notch.c), .int .i64 a2] []) (fun p => rRes p.2 p.1 = laws_szNotchS_enc r) := by
 unfold laws_szNotchS at h
 refine Ev.enter (F := fun k => f61 (CN k) k) (fun k => callN_eq rfl Try.func61 rfl rfl rfl (by decide +kernel) (f61_eq _ _)) (sq (Rg (kx (mvO rfl) (Rn (hN rfl (hN rfl hZ)) fun e1 h3 h4 => sN (sq (Rg (kx (mvO h4) (kx (mvO h3) (kx (lnS Try.underlying22 rfl) (kx (bSub rfl rfl) (kx (mvO rfl) (Rn (hN rfl hZ) fun e5 h7 => sN (sq (sq (Rg (kx (mvO h7) (kx (bLss rfl rfl) (Rn (hA h7 (hN rfl hZ)) fun e8 h10 h11 => sN ?_))))))))))))))))))
 clear h3 h7
 rcases ite_some h with ⟨hb12, h⟩ | ⟨hb12, h⟩
 ·refine cT h11 hb12 (sq (Rg (kx (mvO rfl) (Rn (hV (.int .i64 (-1)) rfl hZ) fun e13 h15 => sN (xx (sR ?_))))))
  clear h10 h11
  cases h
  exact eR (resT h15 res0) rfl
 refine cF h11 hb12 (xx (sN (sq (Rg (kx (mvO h10) (kx (mvO rfl) (Rn (hN rfl hZ) fun e16 h18 => sN (xx ?_))))))))
 clear h10 h11
 cases h
 exact eR (resT h18 res0) rfl
/-! ### loop.example/g01263/laws.eqMarkS (f39) -/
abbrev laws_eqMarkS_b1_S := Int
abbrev laws_eqMarkS_b1_R := Unit ⊕ Unit
def laws_eqMarkS_b1_RS (a1 : List Mark) (a2 : List Mark) (s : laws_eqMarkS_b1_S) (e : Env) (M : Mem) : Prop := eget e 0 = .sl none (a1.map Mark.c) ∧ eget e 1 = .sl none (a2.map Mark.c) ∧ eget e 5 = .int .i64 s
def laws_eqMarkS_b1_RR (a1 : List Mark) (a2 : List Mark) (r : laws_eqMarkS_b1_R) (x : Ex) (e : Env) (M : Mem) : Prop :=
  match r with
  | (.inl g) => x = .ret ∧ eget e 4 = .bool false
  | (.inr g) => x = .ext 0 ∧ True
noncomputable def laws_eqMarkS_b1 (a1 : List Mark) (a2 : List Mark) : laws_eqMarkS_b1_S → Option (laws_eqMarkS_b1_S ⊕ laws_eqMarkS_b1_R) := fun s1_1 =>
 if (decide (s1_1 < (a1.length : Int))) = true then
  (rd a1 s1_1).bind fun x42 =>
  (rd a2 s1_1).bind fun x44 =>
  (laws_eqMark x42 x44).bind fun r47 =>
  if r47 = true then
   some (.inl (IntKind.i64.wrap (s1_1 + 1)))
  else
   some (.inr (.inl ()))
 else
  some (.inr (.inr ()))
theorem laws_eqMarkS_b1_ok (a1 : List Mark) (a2 : List Mark) (s : laws_eqMarkS_b1_S) (r : laws_eqMarkS_b1_S ⊕ laws_eqMarkS_b1_R) (h : laws_eqMarkS_b1 a1 a2 s = some r) (e : Env) (M : Mem) (hs : laws_eqMarkS_b1_RS a1 a2 s e M) : Ev (fun k => (f39_l4 (CN k) k (prune [0, 1, 5] e) M).bind fun q => some q) (bQ (laws_eqMarkS_b1_RS a1 a2) (laws_eqMarkS_b1_RR a1 a2) r) := by
 revert h hs
 revert s
 intro s1_1 h hs
 unfold laws_eqMarkS_b1 at h
 obtain ⟨h29, h31, h33⟩ := hs
 generalize he28 : prune [0, 1, 5] e = e27
 have h30 := envp he28.symm rfl h29
 have h32 := envp he28.symm rfl h31
 have h34 := envp he28.symm rfl h33
 refine sq (sq (Rg (kx (mvO h34) (kx (mvO h30) (kx (lnS Try.underlying36 rfl) (kx (bLss rfl rfl) (Rn (hV (.sl none (a1.map Mark.c)) h30 (hV (.sl none (a2.map Mark.c)) h32 (hV (.int .i64 s1_1) h34 (hN rfl hZ)))) fun e35 h37 h38 h39 h40 => sN ?_)))))))
 clear h30 h32 h34
 rcases ite_some h with ⟨hb41, h⟩ | ⟨hb41, h⟩
 ·obtain ⟨x42, hx43, h⟩ := bind_some h
  obtain ⟨x44, hx45, h⟩ := bind_some h
  obtain ⟨r47, hx46, h⟩ := bind_some h
  refine cT h40 hb41 (xx (sN (sq (bl (sq (Rd (kf (mvO h37) (kf (mvO h39) (kf (ixS rfl rfl hx43 Mark.fl) (kf (ldPA rfl rfl rfl) (kf (mvO h38) (kf (mvO h39) (kf (ixS rfl rfl hx45 Mark.fl) (kf (ldPA rfl rfl rfl) (fc (cl (v := .bool r47) rfl (cns rfl (cns rfl rfl)) rfl (laws_eqMark_ok x42 x44 _ hx46) nm) (kf (uNot rfl) (fZ (Rn (hA h37 (hA h38 (hA h39 (hN rfl hZ)))) fun e48 h50 h51 h52 h53 => sN ?_))))))))))))))))))
  clear h37 h38 h39 h40
  rcases ite_some h with ⟨hb54, h⟩ | ⟨hb54, h⟩
  ·refine cF h53 (congrArg Bool.not hb54) (xx (bN (sN (Rg (kx (mvO h52) (kx (bAdd rfl rfl) (kx (mvO rfl) (Rn (hA h50 (hA h51 (hN rfl hZ))) fun e55 h57 h58 h59 => ?_))))))))
   clear h50 h51 h53
   cases h
   exact qN ⟨h57, h58, h59⟩
  refine cT h53 (congrArg Bool.not hb54) (sq (Rg (kx (mvO rfl) (Rn (hV (.bool false) rfl hZ) fun e60 h62 => sN (xx (bR (sR ?_)))))))
  clear h50 h51 h52 h53
  cases h
  exact qR ⟨rfl, h62⟩
 refine cF h40 hb41 (xx (sE ?_))
 cases h
 exact qE ⟨rfl, trivial⟩
noncomputable def laws_eqMarkS (a1 : List Mark) (a2 : List Mark) : Option Bool :=
 if ((a1.length : Int) != (a2.length : Int)) = true then
  some false
 else
  (Lw (laws_eqMarkS_b1 a1 a2) 0).bind fun r => match r with
  | (.inl _) =>
   some false
  | (.inr _) =>
   some true
def laws_eqMarkS_enc (r : Bool) : AV := .bool r
theorem laws_eqMarkS_ok (a1 : List Mark) (a2 : List Mark) (r : Bool) (h : laws_eqMarkS a1 a2 = some r) : Ev (fun k => CN k 39 [.sl none (a1.map Mark.c), .sl none (a2.map Mark.c)] []) (fun p => rRes p.2 p.1 = laws_eqMarkS_enc r) := by
 unfold laws_eqMarkS at h
 refine Ev.enter (F := fun k => f39 (CN k) k) (fun k => callN_eq rfl Try.func39 rfl rfl rfl (by decide +kernel) (f39_eq _ _)) (sq (Rg (kx (mvO rfl) (Rn (hN rfl (hN rfl hZ)) fun e1 h3 h4 => sN (sq (sq (Rg (kx (mvO h3) (kx (lnS Try.underlying36 rfl) (kx (mvO h4) (kx (lnS Try.underlying36 rfl) (kx (bNeq rfl rfl) (Rn (hA h3 (hA h4 (hN rfl hZ))) fun e5 h7 h8 h9 => sN ?_)))))))))))))
 clear h3 h4
 rcases ite_some h with ⟨hb10, h⟩ | ⟨hb10, h⟩
 ·refine cT h9 hb10 (sq (Rg (kx (mvO rfl) (Rn (hV (.bool false) rfl hZ) fun e11 h13 => sN (xx (sR ?_))))))
  clear h7 h8 h9
  cases h
  exact eR (resT h13 res0) rfl
 obtain ⟨r63, hr64, h⟩ := bind_some h
 refine cF h9 hb10 (xx (sN (sq (sq (Rg (kx (mvO rfl) (Rn (hA h7 (hA h8 (hV (.int .i64 0) rfl hZ))) fun e14 h16 h17 h18 => sN (bl ?_))))))))
 clear h7 h8 h9
 rcases r63 with _ | _
 ·refine Ev.loop (RS := laws_eqMarkS_b1_RS a1 a2) (RR := laws_eqMarkS_b1_RR a1 a2) (fun s r h e M hs => laws_eqMarkS_b1_ok a1 a2 s r h e M hs) hr64 ⟨h16, h17, h18⟩ fun x e66 M67 hq65 => ?_
  obtain ⟨rfl, h68⟩ := hq65
  refine bR (sR ?_)
  cases h
  exact eR (resT h68 res0) rfl
 refine Ev.loop (RS := laws_eqMarkS_b1_RS a1 a2) (RR := laws_eqMarkS_b1_RR a1 a2) (fun s r h e M hs => laws_eqMarkS_b1_ok a1 a2 s r h e M hs) hr64 ⟨h16, h17, h18⟩ fun x e69 M70 hq65 => ?_
 obtain ⟨rfl, _⟩ := hq65
 refine bE (sN (sq (Rg (kx (mvO rfl) (Rn (hV (.bool true) rfl hZ) fun e71 h73 => sN (xx ?_))))))
 cases h
 exact eR (resT h73 res0) rfl
/-! ### loop.example/g01263/laws.eqHalf (f38) -/
noncomputable def laws_eqHalf (a1 : Half) (a2 : Half) : Option Bool :=
 if (a1.Stock == a2.Stock) = true then
  (laws_eqNotchS a1.Notches a2.Notches).bind fun r12 =>
  if r12 = true then
   (laws_eqGrain a1.Grain a2.Grain).bind fun r20 =>
   if r20 = true then
    some true
   else
    some false
  else
   some false
 else
  some false
def laws_eqHalf_enc (r : Bool) : AV := .bool r
theorem laws_eqHalf_ok (a1 : Half) (a2 : Half) (r : Bool) (h : laws_eqHalf a1 a2 = some r) : Ev (fun k => CN k 38 [.agg (.bool a1.Stock :: (.sl none (a1.Notches.map Notch.c) :: ((arC (cI .i8) 0 a1.Grain) ++ ([] : List AV)))), .agg (.bool a2.Stock :: (.sl none (a2.Notches.map Notch.c) :: ((arC (cI .i8) 0 a2.Grain) ++ ([] : List AV))))] []) (fun p => rRes p.2 p.1 = laws_eqHalf_enc r) := by
 unfold laws_eqHalf at h
 refine Ev.enter (F := fun k => f38 (CN k) k) (fun k => callN_eq rfl Try.func38 rfl rfl rfl (by decide +kernel) (f38_eq _ _)) (sq (Rg (kx (bxI rfl rfl ⟨rfl, rfl, by decide⟩) (kx (bxI rfl rfl ⟨rfl, rfl, by decide⟩) (kx (mvO rfl) (Rn (hN rfl (hN rfl hZ)) fun e1 h3 h4 => sN (sq (sq (Rg (kx (faP h3 ⟨ble rfl, blt rfl⟩ rfl) (kx (ldP rfl rfl) (kx (faP h4 ⟨ble rfl, blt rfl⟩ rfl) (kx (ldP rfl rfl) (kx (oNeq (by kernel_rfl) rfl rfl) (Rn (hA h3 (hA h4 (hN rfl hZ))) fun e5 h7 h8 h9 => sN ?_)))))))))))))))
 clear h3 h4
 rcases ite_some h with ⟨hb10, h⟩ | ⟨hb10, h⟩
 ·obtain ⟨r12, hx11, h⟩ := bind_some h
  refine cF h9 (congrArg Bool.not hb10) (xx (sN (sq (sq (Rg (kx (faP h7 ⟨ble rfl, blt rfl⟩ rfl) (kx (ldP rfl rfl) (kx (faP h8 ⟨ble rfl, blt rfl⟩ rfl) (kx (ldP rfl rfl) (kc (cl (v := .bool r12) rfl (cns rfl (cns rfl rfl)) rfl (laws_eqNotchS_ok a1.Notches a2.Notches _ hx11) nm) (kx (uNot rfl) (Rn (hA h7 (hA h8 (hN rfl hZ))) fun e13 h15 h16 h17 => sN ?_))))))))))))
  clear h7 h8 h9
  rcases ite_some h with ⟨hb18, h⟩ | ⟨hb18, h⟩
  ·obtain ⟨r20, hx19, h⟩ := bind_some h
   refine cF h17 (congrArg Bool.not hb18) (xx (sN (sq (sq (Rg (kx (faP h15 ⟨ble rfl, blt rfl⟩ rfl) (kx (ldPA rfl rfl rfl) (kx (faP h16 ⟨ble rfl, blt rfl⟩ rfl) (kx (ldPA rfl rfl rfl) (kc (cl (v := .bool r20) rfl (cns rfl (cns rfl rfl)) rfl (laws_eqGrain_ok a1.Grain a2.Grain _ hx19) nm) (kx (uNot rfl) (Rn (hN rfl hZ) fun e21 h23 => sN ?_))))))))))))
   clear h15 h16 h17
   rcases ite_some h with ⟨hb24, h⟩ | ⟨hb24, h⟩
   ·refine cF h23 (congrArg Bool.not hb24) (xx (sN (sq (Rg (kx (mvO rfl) (Rn (hV (.bool true) rfl hZ) fun e25 h27 => sN (xx ?_)))))))
    clear h23
    cases h
    exact eR (resT h27 res0) rfl
   refine cT h23 (congrArg Bool.not hb24) (sq (Rg (kx (mvO rfl) (Rn (hV (.bool false) rfl hZ) fun e28 h30 => sN (xx (sR ?_))))))
   clear h23
   cases h
   exact eR (resT h30 res0) rfl
  refine cT h17 (congrArg Bool.not hb18) (sq (Rg (kx (mvO rfl) (Rn (hV (.bool false) rfl hZ) fun e31 h33 => sN (xx (sR ?_))))))
  clear h15 h16 h17
  cases h
  exact eR (resT h33 res0) rfl
 refine cT h9 (congrArg Bool.not hb10) (sq (Rg (kx (mvO rfl) (Rn (hV (.bool false) rfl hZ) fun e34 h36 => sN (xx (sR ?_))))))
 clear h7 h8 h9
 cases h
 exact eR (resT h36 res0) rfl
/-! ### slices.Equal[[]loop.example/g01263/impl.Mark,loop.example/g01263/impl.Mark] (f37) -/
abbrev slices_Equal_Mark_b1_S := Int
abbrev slices_Equal_Mark_b1_R := Unit ⊕ Unit
def slices_Equal_Mark_b1_RS (a1 : List Mark) (a2 : List Mark) (s : slices_Equal_Mark_b1_S) (e : Env) (M : Mem) : Prop := eget e 0 = .sl none (a1.map Mark.c) ∧ eget e 1 = .sl none (a2.map Mark.c) ∧ eget e 12 = .int .i64 (a1.length : Int) ∧ eget e 13 = .int .i64 s
def slices_Equal_Mark_b1_RR (a1 : List Mark) (a2 : List Mark) (r : slices_Equal_Mark_b1_R) (x : Ex) (e : Env) (M : Mem) : Prop :=
  match r with
  | (.inl g) => x = .ret ∧ eget e 4 = .bool false
  | (.inr g) => x = .ext 0 ∧ True
noncomputable def slices_Equal_Mark_b1 (a1 : List Mark) (a2 : List Mark) : slices_Equal_Mark_b1_S → Option (slices_Equal_Mark_b1_S ⊕ slices_Equal_Mark_b1_R) := fun s1_1 =>
 if (decide (s1_1 < (a1.length : Int))) = true then
  (rd a1 s1_1).bind fun x55 =>
  (rd a2 s1_1).bind fun x57 =>
  if ((x55.Holder == x57.Holder) && ((x55.Seal == x57.Seal) && true)) = true then
   some (.inl (IntKind.i64.wrap (s1_1 + 1)))
  else
   some (.inr (.inl ()))
 else
  some (.inr (.inr ()))
theorem slices_Equal_Mark_b1_ok (a1 : List Mark) (a2 : List Mark) (s : slices_Equal_Mark_b1_S) (r : slices_Equal_Mark_b1_S ⊕ slices_Equal_Mark_b1_R) (h : slices_Equal_Mark_b1 a1 a2 s = some r) (e : Env) (M : Mem) (hs : slices_Equal_Mark_b1_RS a1 a2 s e M) : Ev (fun k => (f37_l4 (CN k) k (prune [0, 1, 12, 13] e) M).bind fun q => some q) (bQ (slices_Equal_Mark_b1_RS a1 a2) (slices_Equal_Mark_b1_RR a1 a2) r) := by
 revert h hs
 revert s
 intro s1_1 h hs
 unfold slices_Equal_Mark_b1 at h
 obtain ⟨h32, h34, h36, h38⟩ := hs
 generalize he31 : prune [0, 1, 12, 13] e = e30
 have h33 := envp he31.symm rfl h32
 have h35 := envp he31.symm rfl h34
 have h37 := envp he31.symm rfl h36
 have h39 := envp he31.symm rfl h38
 refine sq (Rg (kx (bLss h39 h37) (Rn (hV (.sl none (a1.map Mark.c)) h33 (hV (.sl none (a2.map Mark.c)) h35 (hV (.int .i64 (a1.length : Int)) h37 (hV (.int .i64 s1_1) h39 (hN rfl hZ))))) fun e40 h42 h43 h44 h45 h46 => sN (sq ?_))))
 clear h33 h35 h37 h39
 rcases ite_some h with ⟨hb47, h⟩ | ⟨hb47, h⟩
 ·obtain ⟨x55, hx56, h⟩ := bind_some h
  obtain ⟨x57, hx58, h⟩ := bind_some h
  refine cT h46 hb47 (xx (sN (sq (bl (sq (Rg (kx (mvO h45) (kx (mvO rfl) (Rn (hA h42 (hA h43 (hN rfl (hA h44 (hA h45 hZ))))) fun e48 h50 h51 h52 h53 h54 => sN (sq (Rd (kf (mvO h50) (kf (mvO h52) (kf (ixS rfl rfl hx56 Mark.fl) (kf (ldPA rfl rfl rfl) (kf (mvO h51) (kf (mvO h52) (kf (ixS rfl rfl hx58 Mark.fl) (kf (ldPA rfl rfl rfl) (kf (gNeq rfl rfl (by kernel_rfl) rfl) (fZ (Rn (hA h50 (hA h51 (hA h53 (hA h54 (hN rfl hZ))))) fun e59 h61 h62 h63 h64 h65 => sN ?_))))))))))))))))))))))
  clear h42 h43 h44 h45 h46 h50 h51 h52 h53 h54
  rcases ite_some h with ⟨hb66, h⟩ | ⟨hb66, h⟩
  ·refine cF h65 (congrArg Bool.not hb66) (xx (bN (sN (Rg (kx (bAdd h64 rfl) (kx (mvO rfl) (Rn (hA h61 (hA h62 (hA h63 (hN rfl hZ)))) fun e67 h69 h70 h71 h72 => ?_)))))))
   clear h61 h62 h63 h65
   cases h
   exact qN ⟨h69, h70, h71, h72⟩
  refine cT h65 (congrArg Bool.not hb66) (sq (Rg (kx (mvO rfl) (Rn (hV (.bool false) rfl hZ) fun e73 h75 => sN (xx (bR (sR ?_)))))))
  clear h61 h62 h63 h64 h65
  cases h
  exact qR ⟨rfl, h75⟩
 refine cF h46 hb47 (xx (sE ?_))
 cases h
 exact qE ⟨rfl, trivial⟩
noncomputable def slices_Equal_Mark (a1 : List Mark) (a2 : List Mark) : Option Bool :=
 if ((a1.length : Int) != (a2.length : Int)) = true then
  some false
 else
  (Lw (slices_Equal_Mark_b1 a1 a2) 0).bind fun r => match r with
  | (.inl _) =>
   some false
  | (.inr _) =>
   some true
def slices_Equal_Mark_enc (r : Bool) : AV := .bool r
theorem slices_Equal_Mark_ok (a1 : List Mark) (a2 : List Mark) (r : Bool) (h : slices_Equal_Mark a1 a2 = some r) : Ev (fun k => CN k 37 [.sl none (a1.map Mark.c), .sl none (a2.map Mark.c)] []) (fun p => rRes p.2 p.1 = slices_Equal_Mark_enc r) := by
 unfold slices_Equal_Mark at h
 refine Ev.enter (F := fun k => f37 (CN k) k) (fun k => callN_eq rfl Try.func37 rfl rfl rfl (by decide +kernel) (f37_eq _ _)) (sq (Rg (kx (mvO rfl) (Rn (hN rfl (hN rfl hZ)) fun e1 h3 h4 => sN (sq (sq (Rg (kx (mvO h3) (kx (lnS Try.underlying36 rfl) (kx (mvO h4) (kx (lnS Try.underlying36 rfl) (kx (bNeq rfl rfl) (Rn (hA h3 (hA h4 (hN rfl hZ))) fun e5 h7 h8 h9 => sN ?_)))))))))))))
 clear h3 h4
 rcases ite_some h with ⟨hb10, h⟩ | ⟨hb10, h⟩
 ·refine cT h9 hb10 (sq (Rg (kx (mvO rfl) (Rn (hV (.bool false) rfl hZ) fun e11 h13 => sN (xx (sR ?_))))))
  clear h7 h8 h9
  cases h
  exact eR (resT h13 res0) rfl
 obtain ⟨r76, hr77, h⟩ := bind_some h
 refine cF h9 hb10 (xx (sN (sq (sq (Rg (kx (mvO h7) (kx (lnS Try.underlying36 rfl) (kx (mvO rfl) (Rn (hA h7 (hA h8 (hN rfl (hV (.int .i64 0) rfl hZ)))) fun e14 h16 h17 h18 h19 => sN (bl ?_))))))))))
 clear h7 h8 h9
 rcases r76 with _ | _
 ·refine Ev.loop (RS := slices_Equal_Mark_b1_RS a1 a2) (RR := slices_Equal_Mark_b1_RR a1 a2) (fun s r h e M hs => slices_Equal_Mark_b1_ok a1 a2 s r h e M hs) hr77 ⟨h16, h17, h18, h19⟩ fun x e79 M80 hq78 => ?_
  obtain ⟨rfl, h81⟩ := hq78
  refine bR (sR ?_)
  cases h
  exact eR (resT h81 res0) rfl
 refine Ev.loop (RS := slices_Equal_Mark_b1_RS a1 a2) (RR := slices_Equal_Mark_b1_RR a1 a2) (fun s r h e M hs => slices_Equal_Mark_b1_ok a1 a2 s r h e M hs) hr77 ⟨h16, h17, h18, h19⟩ fun x e82 M83 hq78 => ?_
 obtain ⟨rfl, _⟩ := hq78
 refine bE (sN (sq (Rg (kx (mvO rfl) (Rn (hV (.bool true) rfl hZ) fun e84 h86 => sN (xx ?_))))))
 cases h
 exact eR (resT h86 res0) rfl
/-! ### loop.example/g01263/impl.SameHalf (f36) -/
noncomputable def impl_SameHalf (a1 : Half) (a2 : Half) : Option Bool :=
 if (a1.Stock == a2.Stock) = true then
  if (arB 16 (fun j => a1.Grain.get 0 j == a2.Grain.get 0 j) true) = true then
   (slices_Equal_Notch a1.Notches a2.Notches).bind fun r8 =>
   some r8
  else
   some false
 else
  some false
def impl_SameHalf_enc (r : Bool) : AV := .bool r
theorem impl_SameHalf_ok (a1 : Half) (a2 : Half) (r : Bool) (h : impl_SameHalf a1 a2 = some r) : Ev (fun k => CN k 36 [.agg (.bool a1.Stock :: (.sl none (a1.Notches.map Notch.c) :: ((arC (cI .i8) 0 a1.Grain) ++ ([] : List AV)))), .agg (.bool a2.Stock :: (.sl none (a2.Notches.map Notch.c) :: ((arC (cI .i8) 0 a2.Grain) ++ ([] : List AV))))] []) (fun p => rRes p.2 p.1 = impl_SameHalf_enc r) := by
 unfold impl_SameHalf at h
 refine Ev.enter (F := fun k => f36 (CN k) k) (fun k => callN_eq rfl Try.func36 rfl rfl rfl (by decide +kernel) (f36_eq _ _)) (sq (Rg (kx (bxI rfl rfl ⟨rfl, rfl, by decide⟩) (kx (bxI rfl rfl ⟨rfl, rfl, by decide⟩) (kx (mvO rfl) (Rn (hN rfl (hN rfl hZ)) fun e1 h3 h4 => sN (sq (Rg (kx (faP h3 ⟨ble rfl, blt rfl⟩ rfl) (kx (ldP rfl rfl) (kx (faP h4 ⟨ble rfl, blt rfl⟩ rfl) (kx (ldP rfl rfl) (kx (oEql (by kernel_rfl) rfl rfl) (kx (mvO rfl) ?_))))))))))))))
 rcases ite_some h with ⟨hb5, h⟩ | ⟨hb5, h⟩
 ·refine kx (guT rfl hb5 (faP h3 ⟨ble rfl, blt rfl⟩ rfl)) (kx (guT rfl hb5 (ldPA rfl rfl rfl)) (kx (guT rfl hb5 (faP h4 ⟨ble rfl, blt rfl⟩ rfl)) (kx (guT rfl hb5 (ldPA rfl rfl rfl)) (kx (guT rfl hb5 (gEql rfl rfl (by kernel_rfl) rfl)) (kx (pkT rfl hb5 rfl) (kx (mvO rfl) ?_))))))
  rcases ite_some h with ⟨hb6, h⟩ | ⟨hb6, h⟩
  ·obtain ⟨r8, hx7, h⟩ := bind_some h
   refine kx (guT rfl hb6 (faP h3 ⟨ble rfl, blt rfl⟩ rfl)) (kx (guT rfl hb6 (ldP rfl rfl)) (kx (guT rfl hb6 (faP h4 ⟨ble rfl, blt rfl⟩ rfl)) (kx (guT rfl hb6 (ldP rfl rfl)) (kc (Ev.guT rfl hb6 (cl (v := .bool r8) rfl (cns rfl (cns rfl rfl)) rfl (slices_Equal_Notch_ok a1.Notches a2.Notches _ hx7) nm)) (kx (pkT rfl hb6 rfl) (kx (mvO rfl) (Rn (hN rfl hZ) fun e9 h11 => sN (xx ?_))))))))
   clear h3 h4
   cases h
   exact eR (resT h11 res0) rfl
  refine kx (gsT rfl hb6) (kx (gsT rfl hb6) (kx (gsT rfl hb6) (kx (gsT rfl hb6) (kc (Ev.gsT rfl hb6) (kx (pkF rfl hb6 rfl) (kx (mvO rfl) (Rn (hV (.bool false) rfl hZ) fun e12 h14 => sN (xx ?_))))))))
  clear h3 h4
  cases h
  exact eR (resT h14 res0) rfl
 refine kx (gsT rfl hb5) (kx (gsT rfl hb5) (kx (gsT rfl hb5) (kx (gsT rfl hb5) (kx (gsT rfl hb5) (kx (pkF rfl hb5 rfl) (kx (mvO rfl) (kx (gsT rfl rfl) (kx (gsT rfl rfl) (kx (gsT rfl rfl) (kx (gsT rfl rfl) (kc (Ev.gsT rfl rfl) (kx (pkF rfl rfl rfl) (kx (mvO rfl) (Rn (hV (.bool false) rfl hZ) fun e15 h17 => sN (xx ?_)))))))))))))))
 clear h3 h4
 cases h
 exact eR (resT h17 res0) rfl
/-! ### loop.example/g01263/laws.toMarkS (f35) -/
abbrev laws_toMarkS_b1_S := Int × (List Mark)
abbrev laws_toMarkS_b1_R := (List Mark)
def laws_toMarkS_b1_RS (a1 : List Mark) (x4 : List Mark) (i1_1 : Nat) (s : laws_toMarkS_b1_S) (e : Env) (M : Mem) : Prop := eget e 0 = .sl none (a1.map Mark.c) ∧ eget e 3 = .lsl i1_1 s.2.length 0 s.2.length ∧ eget e 4 = .int .i64 s.1 ∧ M[i1_1]? = some (.live ⟨.grow, 72, 2, s.2.map Mark.c⟩) ∧ s.2.length = x4.length
def laws_toMarkS_b1_RR (a1 : List Mark) (x4 : List Mark) (i1_1 : Nat) (g : laws_toMarkS_b1_R) (x : Ex) (e : Env) (M : Mem) : Prop := x = .ext 0 ∧ eget e 3 = .lsl i1_1 g.length 0 g.length ∧ M[i1_1]? = some (.live ⟨.grow, 72, 2, g.map Mark.c⟩) ∧ g.length = x4.length
noncomputable def laws_toMarkS_b1 (a1 : List Mark) : laws_toMarkS_b1_S → Option (laws_toMarkS_b1_S ⊕ laws_toMarkS_b1_R) := fun (s1_1, s1_2) =>
 if (decide (s1_1 < (a1.length : Int))) = true then
  (rd a1 s1_1).bind fun x45 =>
  (laws_toMark x45).bind fun (r48, r49) =>
  (rd s1_2 s1_1).bind fun x50 =>
  some (.inl ((IntKind.i64.wrap (s1_1 + 1)), (s1_2.set s1_1.toNat (Mark.mk r48 r49))))
 else
  some (.inr s1_2)
theorem laws_toMarkS_b1_ok (a1 : List Mark) (x4 : List Mark) (i1_1 : Nat) (s : laws_toMarkS_b1_S) (r : laws_toMarkS_b1_S ⊕ laws_toMarkS_b1_R) (h : laws_toMarkS_b1 a1 s = some r) (e : Env) (M : Mem) (hs : laws_toMarkS_b1_RS a1 x4 i1_1 s e M) : Ev (fun k => (f35_l3 (CN k) k (prune [0, 3, 4] e) M).bind fun q => some q) (bQ (laws_toMarkS_b1_RS a1 x4 i1_1) (laws_toMarkS_b1_RR a1 x4 i1_1) r) := by
 obtain ⟨s1_1, s1_2⟩ := s
 unfold laws_toMarkS_b1 at h
 obtain ⟨h30, h32, h34, o36, hl37⟩ := hs
 generalize he29 : prune [0, 3, 4] e = e28
 have h31 := envp he29.symm rfl h30
 have h33 := envp he29.symm rfl h32
 have h35 := envp he29.symm rfl h34
 refine sq (sq (Rg (kx (mvO h35) (kx (mvO h31) (kx (lnS Try.underlying27 rfl) (kx (bLss rfl rfl) (Rn (hV (.sl none (a1.map Mark.c)) h31 (hV (.lsl i1_1 s1_2.length 0 s1_2.length) h33 (hV (.int .i64 s1_1) h35 (hN rfl hZ)))) fun e38 h40 h41 h42 h43 => sN ?_)))))))
 clear h31 h33 h35
 rcases ite_some h with ⟨hb44, h⟩ | ⟨hb44, h⟩
 ·obtain ⟨x45, hx46, h⟩ := bind_some h
  obtain ⟨⟨r48, r49⟩, hx47, h⟩ := bind_some h
  obtain ⟨x50, hx51, h⟩ := bind_some h
  refine cT h43 hb44 (xx (sN (sq (bl (Rg (kx (mvO h41) (kx (mvO h42) (kx (mvO h40) (kx (mvO h42) (kx (ixS rfl rfl hx46 Mark.fl) (kx (ldPA rfl rfl rfl) (kc (cl (v := .agg [.str r48, .int .u32 r49]) rfl (cns rfl rfl) rfl (laws_toMark_ok x45 _ hx47) nm) (kx (ixO rfl o36 rfl rfl (rd_get hx51).1 (rd_lt hx51).2) (kw (stR (u := x50) (u' := (Mark.mk r48 r49)) rfl rfl o36 rfl (by rw [Nat.zero_add]; exact (rd_get hx51).2) ⟨rfl, ble rfl⟩ rfl rfl) fun M52 hM53 => ?_))))))))))))))
  rw [Nat.zero_add] at hM53
  have o54 : M52[i1_1]? = some (.live ⟨.grow, 72, 2, (s1_2.set s1_1.toNat (Mark.mk r48 r49)).map Mark.c⟩) := set_same hM53 o36
  have hx55 := rd_set (u' := (Mark.mk r48 r49)) hx51
  refine Rn (hA h40 (hA h41 (hA h42 hZ))) fun e56 h58 h59 h60 => bN (sN (Rg (kx (mvO h60) (kx (bAdd rfl rfl) (kx (mvO rfl) (Rn (hA h58 (hA h59 (hN rfl hZ))) fun e61 h63 h64 h65 => ?_))))))
  clear h40 h41 h42 h43 h58 h59
  cases h
  exact qN ⟨h63, (lslL (L' := (s1_2.set s1_1.toNat (Mark.mk r48 r49)).length) h64 (by simp [hl37])), h65, o54, (by first | rfl | simp [hl37])⟩
 refine cF h43 hb44 (xx (sE ?_))
 cases h
 exact qE ⟨rfl, h41, o36, (by first | rfl | simp [hl37])⟩
noncomputable def laws_toMarkS (a1 : List Mark) : Option ((List Mark)) :=
 (mkS 24 (Mark.mk ([] : List UInt8) 0) (a1.length : Int)).bind fun x4 =>
 (Lw (laws_toMarkS_b1 a1) (0, x4)).bind fun y71 =>
 some y71
def laws_toMarkS_enc (r : (List Mark)) : AV := .sl (some 72) (r.map Mark.c)
theorem laws_toMarkS_ok (a1 : List Mark) (r : (List Mark)) (h : laws_toMarkS a1 = some r) : Ev (fun k => CN k 35 [.sl none (a1.map Mark.c)] []) (fun p => rRes p.2 p.1 = laws_toMarkS_enc r) := by
 unfold laws_toMarkS at h
 obtain ⟨x4, hx5, h⟩ := bind_some h
 refine Ev.enter (F := fun k => f35 (CN k) k) (fun k => callN_eq rfl Try.func35 rfl rfl rfl (by decide +kernel) (f35_eq _ _)) (sq (Rg (kx (mvO rfl) (Rn (hN rfl hZ) fun e1 h3 => sN (sq (Rg (kx (mvO h3) (kx (lnS Try.underlying27 rfl) (ku (mkO rfl rfl hx5 (c := Mark.c) zero72 Mark.fl (by decide)) fun M7 hM8 => ?_)))))))))
 have o9 : M7[([] : Mem).length]? = some (.live ⟨.grow, 72, 2, x4.map Mark.c⟩) := push_new hM8
 obtain ⟨y71, hr67, h⟩ := bind_some h
 refine kx (mvO rfl) (Rn (hA h3 (hV (.lsl ([] : Mem).length x4.length 0 x4.length) rfl hZ)) fun e10 h12 h13 => sN (sq (sq (Rg (kx (mvO rfl) (Rn (hA h12 (hA h13 (hV (.int .i64 0) rfl hZ))) fun e14 h16 h17 h18 => sN (bl (Ev.loop (RS := laws_toMarkS_b1_RS a1 x4 (([] : Mem).length)) (RR := laws_toMarkS_b1_RR a1 x4 (([] : Mem).length)) (fun s r h e M hs => laws_toMarkS_b1_ok a1 x4 (([] : Mem).length) s r h e M hs) hr67 ⟨h16, h17, h18, o9, rfl⟩ fun x e69 M70 hq68 => ?_))))))))
 clear h3 h12 h13
 obtain ⟨rfl, h72, o73, hl74⟩ := hq68
 refine bE (sN (sq (Rg (kx (mvO h72) (kx (mvO rfl) (Rn (hV (.lsl ([] : Mem).length y71.length 0 y71.length) rfl hZ) fun e75 h77 => sN (xx ?_)))))))
 clear h72
 cases h
 exact eR (resT h77 res0) (rr_row o73 rfl Mark.fl)
/-! ### loop.example/g01263/laws.toHalf (f34) -/
noncomputable def laws_toHalf (a1 : Half) : Option (Bool × (List Notch) × (Ar 16 Int)) :=
 (laws_toNotchS a1.Notches).bind fun r30 =>
 (laws_toGrain a1.Grain).bind fun r41 =>
 some (a1.Stock, r30, r41)
def laws_toHalf_enc (r : Bool × (List Notch) × (Ar 16 Int)) : AV := .agg (.bool r.1 :: (.sl none (r.2.1.map Notch.c) :: ((arC (cI .i8) 0 r.2.2) ++ ([] : List AV))))
theorem laws_toHalf_ok (a1 : Half) (r : Bool × (List Notch) × (Ar 16 Int)) (h : laws_toHalf a1 = some r) : Ev (fun k => CN k 34 [.agg (.bool a1.Stock :: (.sl none (a1.Notches.map Notch.c) :: ((arC (cI .i8) 0 a1.Grain) ++ ([] : List AV))))] []) (fun p => rRes p.2 p.1 = laws_toHalf_enc r) := by
 unfold laws_toHalf at h
 refine Ev.enter (F := fun k => f34 (CN k) k) (fun k => callN_eq rfl Try.func34 rfl rfl rfl (by decide +kernel) (f34_eq _ _)) (sq (Rg (kx (bxI rfl rfl ⟨rfl, rfl, by decide⟩) (ku (alO zero35) fun M2 hM3 => ?_))))
 have o4 : M2[([] : Mem).length]? = some (.live ⟨.box, 35, 18, [(.bool false :: (.nils :: ((arC (cI .i8) 0 (Ar.rep 16 0)) ++ ([] : List AV))))]⟩) := push_new hM3
 refine Rn (hN rfl (hV (.loc ([] : Mem).length 1 0 0) rfl hZ)) fun e5 h7 h8 => sN (sq (Rg (ku (alO zero35) fun M10 hM11 => ?_)))
 have o12 := push_old hM11 o4
 have ne13 := ne_new o4
 have o14 : M10[M2.length]? = some (.live ⟨.box, 35, 18, [(.bool false :: (.nils :: ((arC (cI .i8) 0 (Ar.rep 16 0)) ++ ([] : List AV))))]⟩) := push_new hM11
 refine Rn (hA h7 (hA h8 (hV (.loc M2.length 1 0 0) rfl hZ))) fun e15 h17 h18 h19 => sN (sq (Rg (kx (faP h17 ⟨ble rfl, blt rfl⟩ rfl) (kx (ldP rfl rfl) (kx (faO h19 o14 rfl) (kw (stO rfl rfl o14 rfl rfl ⟨rfl, ble rfl⟩ rfl rfl) fun M20 hM21 => ?_))))))
 clear h7 h8
 have o22 := set_ne hM21 ne13 o12
 have o23 : M20[M2.length]? = some (.live ⟨.box, 35, 18, [(.bool a1.Stock :: (.nils :: ((arC (cI .i8) 0 (Ar.rep 16 0)) ++ ([] : List AV))))]⟩) := set_same hM21 o14
 obtain ⟨r30, hx29, h⟩ := bind_some h
 refine Rn (hA h17 (hA h18 (hA h19 hZ))) fun e24 h26 h27 h28 => sN (sq (Rg (kx (faP h26 ⟨ble rfl, blt rfl⟩ rfl) (kx (ldP rfl rfl) (kc (cl (v := .sl (some 115) (r30.map Notch.c)) rfl (cns rfl rfl) rfl (laws_toNotchS_ok a1.Notches _ hx29) nm) (kx (faO h28 o23 rfl) (kw (stO rfl rfl o23 rfl rfl ⟨rfl, ble rfl⟩ rfl rfl) fun M31 hM32 => ?_)))))))
 clear h17 h18 h19
 have o33 := set_ne hM32 ne13 o22
 have o34 : M31[M2.length]? = some (.live ⟨.box, 35, 18, [(.bool a1.Stock :: (.sl none (r30.map Notch.c) :: ((arC (cI .i8) 0 (Ar.rep 16 0)) ++ ([] : List AV))))]⟩) := set_same hM32 o23
 obtain ⟨r41, hx40, h⟩ := bind_some h
 refine Rn (hA h26 (hA h27 (hA h28 hZ))) fun e35 h37 h38 h39 => sN (sq (Rg (kx (faP h37 ⟨ble rfl, blt rfl⟩ rfl) (kx (ldPA rfl rfl rfl) (kc (cl (v := .agg (arC (cI .i8) 0 r41)) rfl (cns rfl rfl) rfl (laws_toGrain_ok a1.Grain _ hx40) nm) (kx (faO h39 o34 rfl) (kw (stO rfl rfl o34 rfl rfl ⟨rfl, ble rfl⟩ rfl rfl) fun M42 hM43 => ?_)))))))
 clear h26 h27 h28
 have o44 := set_ne hM43 ne13 o33
 have o45 : M42[M2.length]? = some (.live ⟨.box, 35, 18, [(.bool a1.Stock :: (.sl none (r30.map Notch.c) :: ((arC (cI .i8) 0 r41) ++ ([] : List AV))))]⟩) := set_same hM43 o34
 refine Rn (hA h38 (hA h39 hZ)) fun e46 h48 h49 => sN (sq (Rg (kx (ldOA h49 o45 rfl rfl (ble rfl) rfl) (kw (stO h48 rfl o44 rfl rfl ⟨rfl, ble rfl⟩ rfl rfl) fun M50 hM51 => ?_))))
 clear h37 h38 h39
 have o52 : M50[([] : Mem).length]? = some (.live ⟨.box, 35, 18, [(.bool a1.Stock :: (.sl none (r30.map Notch.c) :: ((arC (cI .i8) 0 r41) ++ ([] : List AV))))]⟩) := set_same hM51 o44
 have o53 := set_ne hM51 (Ne.symm ne13) o45
 refine Rn (hA h48 hZ) fun e54 h56 => sN (xx ?_)
 clear h48 h49
 cases h
 exact eR (resC (ag := true) (sz := 18) ⟨by kernel_rfl, by kernel_rfl, by kernel_rfl⟩ (ldOA h56 o52 rfl rfl (ble rfl) rfl) res0) rfl
/-! ### loop.example/g01263/spec.l01Same (f33) -/
noncomputable def spec_l01Same (a1 : Half) (a2 : Half) : Option Bool :=
 if (a1.Stock == a2.Stock) = true then
  if (arB 16 (fun j => a1.Grain.get 0 j == a2.Grain.get 0 j) true) = true then
   (spec_l01SameNotches a1.Notches a2.Notches).bind fun r8 =>
   some r8
  else
   some false
 else
  some false
def spec_l01Same_enc (r : Bool) : AV := .bool r
theorem spec_l01Same_ok (a1 : Half) (a2 : Half) (r : Bool) (h : spec_l01Same a1 a2 = some r) : Ev (fun k => CN k 33 [.pt none (.bool a1.Stock :: (.sl none (a1.Notches.map Notch.c) :: ((arC (cI .i8) 0 a1.Grain) ++ ([] : List AV)))), .pt none (.bool a2.Stock :: (.sl none (a2.Notches.map Notch.c) :: ((arC (cI .i8) 0 a2.Grain) ++ ([] : List AV))))] []) (fun p => rRes p.2 p.1 = spec_l01Same_enc r) := by
 unfold spec_l01Same at h
 refine Ev.enter (F := fun k => f33 (CN k) k) (fun k => callN_eq rfl Try.func33 rfl rfl rfl (by decide +kernel) (f33_eq _ _)) (sq (Rg (kx (mvO rfl) (Rn (hN rfl (hN rfl hZ)) fun e1 h3 h4 => sN (sq (Rd (kf (mvO h3) (kf (ncP rfl) (kf (faP rfl ⟨ble rfl, blt rfl⟩ rfl) (kf (ldP rfl rfl) (kf (mvO h4) (kf (ncP rfl) (kf (faP rfl ⟨ble rfl, blt rfl⟩ rfl) (kf (ldP rfl rfl) (kf (oEql (by kernel_rfl) rfl rfl) (kf (mvO rfl) ?_))))))))))))))))
 rcases ite_some h with ⟨hb5, h⟩ | ⟨hb5, h⟩
 ·refine kf (guT rfl hb5 (mvO h3)) (kf (guT rfl hb5 (ncP rfl)) (kf (guT rfl hb5 (faP rfl ⟨ble rfl, blt rfl⟩ rfl)) (kf (guT rfl hb5 (ldPA rfl rfl rfl)) (kf (guT rfl hb5 (mvO h4)) (kf (guT rfl hb5 (ncP rfl)) (kf (guT rfl hb5 (faP rfl ⟨ble rfl, blt rfl⟩ rfl)) (kf (guT rfl hb5 (ldPA rfl rfl rfl)) (kf (guT rfl hb5 (gEql rfl rfl (by kernel_rfl) rfl)) (kf (pkT rfl hb5 rfl) (kf (mvO rfl) ?_))))))))))
  rcases ite_some h with ⟨hb6, h⟩ | ⟨hb6, h⟩
  ·obtain ⟨r8, hx7, h⟩ := bind_some h
   refine kf (guT rfl hb6 (mvO h3)) (kf (guT rfl hb6 (ncP rfl)) (kf (guT rfl hb6 (faP rfl ⟨ble rfl, blt rfl⟩ rfl)) (kf (guT rfl hb6 (ldP rfl rfl)) (kf (guT rfl hb6 (mvO h4)) (kf (guT rfl hb6 (ncP rfl)) (kf (guT rfl hb6 (faP rfl ⟨ble rfl, blt rfl⟩ rfl)) (kf (guT rfl hb6 (ldP rfl rfl)) (fc (Ev.guT rfl hb6 (cl (v := .bool r8) rfl (cns rfl (cns rfl rfl)) rfl (spec_l01SameNotches_ok a1.Notches a2.Notches _ hx7) nm)) (kf (pkT rfl hb6 rfl) (kf (mvO rfl) (fZ (Rn (hN rfl hZ) fun e9 h11 => sN (xx ?_)))))))))))))
   clear h3 h4
   cases h
   exact eR (resT h11 res0) rfl
  refine kf (gsT rfl hb6) (kf (gsT rfl hb6) (kf (gsT rfl hb6) (kf (gsT rfl hb6) (kf (gsT rfl hb6) (kf (gsT rfl hb6) (kf (gsT rfl hb6) (kf (gsT rfl hb6) (fc (Ev.gsT rfl hb6) (kf (pkF rfl hb6 rfl) (kf (mvO rfl) (fZ (Rn (hV (.bool false) rfl hZ) fun e12 h14 => sN (xx ?_)))))))))))))
  clear h3 h4
  cases h
  exact eR (resT h14 res0) rfl
 refine kf (gsT rfl hb5) (kf (gsT rfl hb5) (kf (gsT rfl hb5) (kf (gsT rfl hb5) (kf (gsT rfl hb5) (kf (gsT rfl hb5) (kf (gsT rfl hb5) (kf (gsT rfl hb5) (kf (gsT rfl hb5) (kf (pkF rfl hb5 rfl) (kf (mvO rfl) (kf (gsT rfl rfl) (kf (gsT rfl rfl) (kf (gsT rfl rfl) (kf (gsT rfl rfl) (kf (gsT rfl rfl) (kf (gsT rfl rfl) (kf (gsT rfl rfl) (kf (gsT rfl rfl) (fc (Ev.gsT rfl rfl) (kf (pkF rfl rfl rfl) (kf (mvO rfl) (fZ (Rn (hV (.bool false) rfl hZ) fun e15 h17 => sN (xx ?_))))))))))))))))))))))))
 clear h3 h4
 cases h
 exact eR (resT h17 res0) rfl
/-! ### loop.example/g01263/laws.szMarkS (f32) -/
abbrev laws_szMarkS_b1_S := Int × Int
abbrev laws_szMarkS_b1_R := Unit ⊕ Int
def laws_szMarkS_b1_RS (a1 : List Mark) (s : laws_szMarkS_b1_S) (e : Env) (M : Mem) : Prop := eget e 0 = .sl none (a1.map Mark.c) ∧ eget e 1 = .int .i64 s.1 ∧ eget e 5 = .int .i64 s.2
def laws_szMarkS_b1_RR (a1 : List Mark) (r : laws_szMarkS_b1_R) (x : Ex) (e : Env) (M : Mem) : Prop :=
  match r with
  | (.inl g) => x = .ret ∧ eget e 4 = .int .i64 (-1)
  | (.inr g) => x = .ext 0 ∧ eget e 1 = .int .i64 g
noncomputable def laws_szMarkS_b1 (a1 : List Mark) : laws_szMarkS_b1_S → Option (laws_szMarkS_b1_S ⊕ laws_szMarkS_b1_R) := fun (s1_1, s1_2) =>
 if (decide (s1_2 < (a1.length : Int))) = true then
  (rd a1 s1_2).bind fun x46 =>
  (laws_szMark x46 s1_1).bind fun r49 =>
  if (decide (r49 < 0)) = true then
   some (.inr (.inl ()))
  else
   some (.inl (r49, (IntKind.i64.wrap (s1_2 + 1))))
 else
  some (.inr (.inr s1_1))
theorem laws_szMarkS_b1_ok (a1 : List Mark) (s : laws_szMarkS_b1_S) (r : laws_szMarkS_b1_S ⊕ laws_szMarkS_b1_R) (h : laws_szMarkS_b1 a1 s = some r) (e : Env) (M : Mem) (hs : laws_szMarkS_b1_RS a1 s e M) : Ev (fun k => (f32_l5 (CN k) k (prune [0, 1, 5] e) M).bind fun q => some q) (bQ (laws_szMarkS_b1_RS a1) (laws_szMarkS_b1_RR a1) r) := by
 obtain ⟨s1_1, s1_2⟩ := s
 unfold laws_szMarkS_b1 at h
 obtain ⟨h33, h35, h37⟩ := hs
 generalize he32 : prune [0, 1, 5] e = e31
 have h34 := envp he32.symm rfl h33
 have h36 := envp he32.symm rfl h35
 have h38 := envp he32.symm rfl h37
 refine sq (sq (Rg (kx (mvO h38) (kx (mvO h34) (kx (lnS Try.underlying27 rfl) (kx (bLss rfl rfl) (Rn (hV (.sl none (a1.map Mark.c)) h34 (hV (.int .i64 s1_1) h36 (hV (.int .i64 s1_2) h38 (hN rfl hZ)))) fun e39 h41 h42 h43 h44 => sN ?_)))))))
 clear h34 h36 h38
 rcases ite_some h with ⟨hb45, h⟩ | ⟨hb45, h⟩
 ·obtain ⟨x46, hx47, h⟩ := bind_some h
  obtain ⟨r49, hx48, h⟩ := bind_some h
  refine cT h44 hb45 (xx (sN (sq (bl (sq (Rg (kx (mvO h41) (kx (mvO h43) (kx (ixS rfl rfl hx47 Mark.fl) (kx (ldPA rfl rfl rfl) (kx (mvO h42) (kc (cl (v := .int .i64 r49) rfl (cns rfl (cns rfl rfl)) rfl (laws_szMark_ok x46 s1_1 _ hx48) nm) (kx (mvO rfl) (Rn (hA h41 (hN rfl (hA h43 hZ))) fun e50 h52 h53 h54 => sN (sq (Rg (kx (mvO h53) (kx (bLss rfl rfl) (Rn (hA h52 (hA h53 (hA h54 (hN rfl hZ)))) fun e55 h57 h58 h59 h60 => sN ?_)))))))))))))))))))
  clear h41 h43 h44 h52 h53 h54
  rcases ite_some h with ⟨hb61, h⟩ | ⟨hb61, h⟩
  ·refine cT h60 hb61 (sq (Rg (kx (mvO rfl) (Rn (hV (.int .i64 (-1)) rfl hZ) fun e62 h64 => sN (xx (bR (sR ?_)))))))
   clear h57 h58 h59 h60
   cases h
   exact qR ⟨rfl, h64⟩
  refine cF h60 hb61 (xx (bN (sN (Rg (kx (mvO h59) (kx (bAdd rfl rfl) (kx (mvO rfl) (Rn (hA h57 (hA h58 (hN rfl hZ))) fun e65 h67 h68 h69 => ?_))))))))
  clear h57 h58 h60
  cases h
  exact qN ⟨h67, h68, h69⟩
 refine cF h44 hb45 (xx (sE ?_))
 cases h
 exact qE ⟨rfl, h42⟩
noncomputable def laws_szMarkS (a1 : List Mark) (a2 : Int) : Option Int :=
 if (decide ((IntKind.i64.wrap (a2 - (a1.length : Int))) < 0)) = true then
  some (-1)
 else
  (Lw (laws_szMarkS_b1 a1) ((IntKind.i64.wrap (a2 - (a1.length : Int))), 0)).bind fun r => match r with
  | (.inl _) =>
   some (-1)
  | (.inr y78) =>
   some y78
def laws_szMarkS_enc (r : Int) : AV := .int .i64 r
theorem laws_szMarkS_ok (a1 : List Mark) (a2 : Int) (r : Int) (h : laws_szMarkS a1 a2 = some r) : Ev (fun k => CN k 32 [.sl none (a1.map Mark.c), .int .i64 a2] []) (fun p => rRes p.2 p.1 = laws_szMarkS_enc r) := by
 unfold laws_szMarkS at h
 refine Ev.enter (F := fun k => f32 (CN k) k) (fun k => callN_eq rfl Try.func32 rfl rfl rfl (by decide +kernel) (f32_eq _ _)) (sq (Rg (kx (mvO rfl) (Rn (hN rfl (hN rfl hZ)) fun e1 h3 h4 => sN (sq (Rg (kx (mvO h4) (kx (mvO h3) (kx (lnS Try.underlying27 rfl) (kx (bSub rfl rfl) (kx (mvO rfl) (Rn (hA h3 (hN rfl hZ)) fun e5 h7 h8 => sN (sq (sq (Rg (kx (mvO h8) (kx (bLss rfl rfl) (Rn (hA h7 (hA h8 (hN rfl hZ))) fun e9 h11 h12 h13 => sN ?_))))))))))))))))))
 clear h3 h7 h8
 rcases ite_some h with ⟨hb14, h⟩ | ⟨hb14, h⟩
 ·refine cT h13 hb14 (sq (Rg (kx (mvO rfl) (Rn (hV (.int .i64 (-1)) rfl hZ) fun e15 h17 => sN (xx (sR ?_))))))
  clear h11 h12 h13
  cases h
  exact eR (resT h17 res0) rfl
 obtain ⟨r70, hr71, h⟩ := bind_some h
 refine cF h13 hb14 (xx (sN (sq (sq (Rg (kx (mvO rfl) (Rn (hA h11 (hA h12 (hV (.int .i64 0) rfl hZ))) fun e18 h20 h21 h22 => sN (bl ?_))))))))
 clear h11 h12 h13
 rcases r70 with _ | y78
 ·refine Ev.loop (RS := laws_szMarkS_b1_RS a1) (RR := laws_szMarkS_b1_RR a1) (fun s r h e M hs => laws_szMarkS_b1_ok a1 s r h e M hs) hr71 ⟨h20, h21, h22⟩ fun x e73 M74 hq72 => ?_
  obtain ⟨rfl, h75⟩ := hq72
  refine bR (sR ?_)
  cases h
  exact eR (resT h75 res0) rfl
 refine Ev.loop (RS := laws_szMarkS_b1_RS a1) (RR := laws_szMarkS_b1_RR a1) (fun s r h e M hs => laws_szMarkS_b1_ok a1 s r h e M hs) hr71 ⟨h20, h21, h22⟩ fun x e76 M77 hq72 => ?_
 obtain ⟨rfl, h79⟩ := hq72
 refine bE (sN (sq (Rg (kx (mvO h79) (kx (mvO rfl) (Rn (hN rfl hZ) fun e80 h82 => sN (xx ?_)))))))
 clear h79
 cases h
 exact eR (resT h82 res0) rfl
/-! ### loop.example/g01263/laws.szHalf (f31) -/
noncomputable def laws_szHalf (a1 : Half) (a2 : Int) : Option Int :=
 (laws_szNotchS a1.Notches a2).bind fun r6 =>
 if (decide (r6 < 0)) = true then
  some (-1)
 else
  some r6
def laws_szHalf_enc (r : Int) : AV := .int .i64 r
theorem laws_szHalf_ok (a1 : Half) (a2 : Int) (r : Int) (h : laws_szHalf a1 a2 = some r) : Ev (fun k => CN k 31 [.agg (.bool a1.Stock :: (.sl none (a1.Notches.map Notch.c) :: ((arC (cI .i8) 0 a1.Grain) ++ ([] : List AV)))), .int .i64 a2] []) (fun p => rRes p.2 p.1 = laws_szHalf_enc r) := by
 unfold laws_szHalf at h
 obtain ⟨r6, hx5, h⟩ := bind_some h
 refine Ev.enter (F := fun k => f31 (CN k) k) (fun k => callN_eq rfl Try.func31 rfl rfl rfl (by decide +kernel) (f31_eq _ _)) (sq (Rg (kx (bxI rfl rfl ⟨rfl, rfl, by decide⟩) (kx (mvO rfl) (Rn (hN rfl (hN rfl hZ)) fun e1 h3 h4 => sN (sq (Rg (kx (faP h4 ⟨ble rfl, blt rfl⟩ rfl) (kx (ldP rfl rfl) (kx (mvO h3) (kc (cl (v := .int .i64 r6) rfl (cns rfl (cns rfl rfl)) rfl (laws_szNotchS_ok a1.Notches a2 _ hx5) nm) (kx (mvO rfl) (Rn (hN rfl hZ) fun e7 h9 => sN (sq (sq (Rg (kx (mvO h9) (kx (bLss rfl rfl) (Rn (hA h9 (hN rfl hZ)) fun e10 h12 h13 => sN ?_)))))))))))))))))))
 clear h4 h9
 rcases ite_some h with ⟨hb14, h⟩ | ⟨hb14, h⟩
 ·refine cT h13 hb14 (sq (Rg (kx (mvO rfl) (Rn (hV (.int .i64 (-1)) rfl hZ) fun e15 h17 => sN (xx (sR ?_))))))
  clear h12 h13
  cases h
  exact eR (resT h17 res0) rfl
 refine cF h13 hb14 (xx (sN (sq (Rg (kx (mvO h12) (kx (mvO rfl) (Rn (hN rfl hZ) fun e18 h20 => sN (xx ?_))))))))
 clear h12 h13
 cases h
 exact eR (resT h20 res0) rfl
/-! ### loop.example/g01263/laws.eqChain (f13) -/
noncomputable def laws_eqChain (a1 : Chain) (a2 : Chain) : Option Bool :=
 if (a1.Debtor == a2.Debtor) = true then
  (laws_eqHalf a1.Stock a2.Stock).bind fun r12 =>
  if r12 = true then
   (laws_eqMarkS a1.Marks a2.Marks).bind fun r20 =>
   if r20 = true then
    some true
   else
    some false
  else
   some false
 else
  some false
def laws_eqChain_enc (r : Bool) : AV := .bool r
theorem laws_eqChain_ok (a1 : Chain) (a2 : Chain) (r : Bool) (h : laws_eqChain a1 a2 = some r) : Ev (fun k => CN k 13 [.agg (.str a1.Debtor :: (.bool a1.Stock.Stock :: (.sl none (a1.Stock.Notches.map Notch.c) :: ((arC (cI .i8) 0 a1.Stock.Grain) ++ ((.sl none (a1.Marks.map Mark.c) :: []) : List AV))))), .agg (.str a2.Debtor :: (.bool a2.Stock.Stock :: (.sl none (a2.Stock.Notches.map Notch.c) :: ((arC (cI .i8) 0 a2.Stock.Grain) ++ ((.sl none (a2.Marks.map Mark.c) :: []) : List AV)))))] []) (fun p => rRes p.2 p.1 = laws_eqChain_enc r) := by
 unfold laws_eqChain at h
 refine Ev.enter (F := fun k => f13 (CN k) k) (fun k => callN_eq rfl Try.func13 rfl rfl rfl (by decide +kernel) (f13_eq _ _)) (sq (Rg (kx (bxI rfl rfl ⟨rfl, rfl, by decide⟩) (kx (bxI rfl rfl ⟨rfl, rfl, by decide⟩) (kx (mvO rfl) (Rn (hN rfl (hN rfl hZ)) fun e1 h3 h4 => sN (sq (sq (Rg (kx (faP h3 ⟨ble rfl, blt rfl⟩ rfl) (kx (ldP rfl rfl) (kx (faP h4 ⟨ble rfl, blt rfl⟩ rfl) (kx (ldP rfl rfl) (kx (sNeq rfl rfl) (Rn (hA h3 (hA h4 (hN rfl hZ))) fun e5 h7 h8 h9 => sN ?_)))))))))))))))
 clear h3 h4
 rcases ite_some h with ⟨hb10, h⟩ | ⟨hb10, h⟩
 ·obtain ⟨r12, hx11, h⟩ := bind_some h
  refine cF h9 (congrArg Bool.not hb10) (xx (sN (sq (sq (Rg (kx (faP h7 ⟨ble rfl, blt rfl⟩ rfl) (kx (ldPA rfl rfl rfl) (kx (faP h8 ⟨ble rfl, blt rfl⟩ rfl) (kx (ldPA rfl rfl rfl) (kc (cl (v := .bool r12) rfl (cns rfl (cns rfl rfl)) rfl (laws_eqHalf_ok a1.Stock a2.Stock _ hx11) nm) (kx (uNot rfl) (Rn (hA h7 (hA h8 (hN rfl hZ))) fun e13 h15 h16 h17 => sN ?_))))))))))))
  clear h7 h8 h9
  rcases ite_some h with ⟨hb18, h⟩ | ⟨hb18, h⟩
  ·obtain ⟨r20, hx19, h⟩ := bind_some h
   refine cF h17 (congrArg Bool.not hb18) (xx (sN (sq (sq (Rg (kx (faP h15 ⟨ble rfl, blt rfl⟩ rfl) (kx (ldP rfl rfl) (kx (faP h16 ⟨ble rfl, blt rfl⟩ rfl) (kx (ldP rfl rfl) (kc (cl (v := .bool r20) rfl (cns rfl (cns rfl rfl)) rfl (laws_eqMarkS_ok a1.Marks a2.Marks _ hx19) nm) (kx (uNot rfl) (Rn (hN rfl hZ) fun e21 h23 => sN ?_))))))))))))
   clear h15 h16 h17
   rcases ite_some h with ⟨hb24, h⟩ | ⟨hb24, h⟩
   ·refine cF h23 (congrArg Bool.not hb24) (xx (sN (sq (Rg (kx (mvO rfl) (Rn (hV (.bool true) rfl hZ) fun e25 h27 => sN (xx ?_)))))))
    clear h23
    cases h
    exact eR (resT h27 res0) rfl
   refine cT h23 (congrArg Bool.not hb24) (sq (Rg (kx (mvO rfl) (Rn (hV (.bool false) rfl hZ) fun e28 h30 => sN (xx (sR ?_))))))
   clear h23
   cases h
   exact eR (resT h30 res0) rfl
  refine cT h17 (congrArg Bool.not hb18) (sq (Rg (kx (mvO rfl) (Rn (hV (.bool false) rfl hZ) fun e31 h33 => sN (xx (sR ?_))))))
  clear h15 h16 h17
  cases h
  exact eR (resT h33 res0) rfl
 refine cT h9 (congrArg Bool.not hb10) (sq (Rg (kx (mvO rfl) (Rn (hV (.bool false) rfl hZ) fun e34 h36 => sN (xx (sR ?_))))))
 clear h7 h8 h9
 cases h
 exact eR (resT h36 res0) rfl
/-! ### loop.example/g01263/impl.SameChain (f12) -/
noncomputable def impl_SameChain (a1 : Chain) (a2 : Chain) : Option Bool :=
 if (a1.Debtor == a2.Debtor) = true then
  (impl_SameHalf a1.Stock a2.Stock).bind fun r7 =>
  if r7 = true then
   (slices_Equal_Mark a1.Marks a2.Marks).bind fun r10 =>
   some r10
  else
   some false
 else
  some false
def impl_SameChain_enc (r : Bool) : AV := .bool r
theorem impl_SameChain_ok (a1 : Chain) (a2 : Chain) (r : Bool) (h : impl_SameChain a1 a2 = some r) : Ev (fun k => CN k 12 [.agg (.str a1.Debtor :: (.bool a1.Stock.Stock :: (.sl none (a1.Stock.Notches.map Notch.c) :: ((arC (cI .i8) 0 a1.Stock.Grain) ++ ((.sl none (a1.Marks.map Mark.c) :: []) : List AV))))), .agg (.str a2.Debtor :: (.bool a2.Stock.Stock :: (.sl none (a2.Stock.Notches.map Notch.c) :: ((arC (cI .i8) 0 a2.Stock.Grain) ++ ((.sl none (a2.Marks.map Mark.c) :: []) : List AV)))))] []) (fun p => rRes p.2 p.1 = impl_SameChain_enc r) := by
 unfold impl_SameChain at h
 refine Ev.enter (F := fun k => f12 (CN k) k) (fun k => callN_eq rfl Try.func12 rfl rfl rfl (by decide +kernel) (f12_eq _ _)) (sq (Rg (kx (bxI rfl rfl ⟨rfl, rfl, by decide⟩) (kx (bxI rfl rfl ⟨rfl, rfl, by decide⟩) (kx (mvO rfl) (Rn (hN rfl (hN rfl hZ)) fun e1 h3 h4 => sN (sq (Rg (kx (faP h3 ⟨ble rfl, blt rfl⟩ rfl) (kx (ldP rfl rfl) (kx (faP h4 ⟨ble rfl, blt rfl⟩ rfl) (kx (ldP rfl rfl) (kx (sEql rfl rfl) (kx (mvO rfl) ?_))))))))))))))
 rcases ite_some h with ⟨hb5, h⟩ | ⟨hb5, h⟩
 ·obtain ⟨r7, hx6, h⟩ := bind_some h
  refine kx (guT rfl hb5 (faP h3 ⟨ble rfl, blt rfl⟩ rfl)) (kx (guT rfl hb5 (ldPA rfl rfl rfl)) (kx (guT rfl hb5 (faP h4 ⟨ble rfl, blt rfl⟩ rfl)) (kx (guT rfl hb5 (ldPA rfl rfl rfl)) (kc (Ev.guT rfl hb5 (cl (v := .bool r7) rfl (cns rfl (cns rfl rfl)) rfl (impl_SameHalf_ok a1.Stock a2.Stock _ hx6) nm)) (kx (pkT rfl hb5 rfl) (kx (mvO rfl) ?_))))))
  rcases ite_some h with ⟨hb8, h⟩ | ⟨hb8, h⟩
  ·obtain ⟨r10, hx9, h⟩ := bind_some h
   refine kx (guT rfl hb8 (faP h3 ⟨ble rfl, blt rfl⟩ rfl)) (kx (guT rfl hb8 (ldP rfl rfl)) (kx (guT rfl hb8 (faP h4 ⟨ble rfl, blt rfl⟩ rfl)) (kx (guT rfl hb8 (ldP rfl rfl)) (kc (Ev.guT rfl hb8 (cl (v := .bool r10) rfl (cns rfl (cns rfl rfl)) rfl (slices_Equal_Mark_ok a1.Marks a2.Marks _ hx9) nm)) (kx (pkT rfl hb8 rfl) (kx (mvO rfl) (Rn (hN rfl hZ) fun e11 h13 => sN (xx ?_))))))))
   clear h3 h4
   cases h
   exact eR (resT h13 res0) rfl
  refine kx (gsT rfl hb8) (kx (gsT rfl hb8) (kx (gsT rfl hb8) (kx (gsT rfl hb8) (kc (Ev.gsT rfl hb8) (kx (pkF rfl hb8 rfl) (kx (mvO rfl) (Rn (hV (.bool false) rfl hZ) fun e14 h16 => sN (xx ?_))))))))
  clear h3 h4
  cases h
  exact eR (resT h16 res0) rfl
 refine kx (gsT rfl hb5) (kx (gsT rfl hb5) (kx (gsT rfl hb5) (kx (gsT rfl hb5) (kc (Ev.gsT rfl hb5) (kx (pkF rfl hb5 rfl) (kx (mvO rfl) (kx (gsT rfl rfl) (kx (gsT rfl rfl) (kx (gsT rfl rfl) (kx (gsT rfl rfl) (kc (Ev.gsT rfl rfl) (kx (pkF rfl rfl rfl) (kx (mvO rfl) (Rn (hV (.bool false) rfl hZ) fun e17 h19 => sN (xx ?_)))))))))))))))
 clear h3 h4
 cases h
 exact eR (resT h19 res0) rfl
/-! ### loop.example/g01263/laws.toChain (f11) -/
noncomputable def laws_toChain (a1 : Chain) : Option ((List UInt8) × Bool × (List Notch) × (Ar 16 Int) × (List Mark)) :=
 (laws_toHalf a1.Stock).bind fun (r30, r31, r32) =>
 (laws_toMarkS a1.Marks).bind fun r43 =>
 some (a1.Debtor, r30, r31, r32, r43)
def laws_toChain_enc (r : (List UInt8) × Bool × (List Notch) × (Ar 16 Int) × (List Mark)) : AV := .agg (.str r.1 :: (.bool r.2.1 :: (.sl none (r.2.2.1.map Notch.c) :: ((arC (cI .i8) 0 r.2.2.2.1) ++ ((.sl none (r.2.2.2.2.map Mark.c) :: []) : List AV)))))
theorem laws_toChain_ok (a1 : Chain) (r : (List UInt8) × Bool × (List Notch) × (Ar 16 Int) × (List Mark)) (h : laws_toChain a1 = some r) : Ev (fun k => CN k 11 [.agg (.str a1.Debtor :: (.bool a1.Stock.Stock :: (.sl none (a1.Stock.Notches.map Notch.c) :: ((arC (cI .i8) 0 a1.Stock.Grain) ++ ((.sl none (a1.Marks.map Mark.c) :: []) : List AV)))))] []) (fun p => rRes p.2 p.1 = laws_toChain_enc r) := by
 unfold laws_toChain at h
 refine Ev.enter (F := fun k => f11 (CN k) k) (fun k => callN_eq rfl Try.func11 rfl rfl rfl (by decide +kernel) (f11_eq _ _)) (sq (Rg (kx (bxI rfl rfl ⟨rfl, rfl, by decide⟩) (ku (alO zero38) fun M2 hM3 => ?_))))
 have o4 : M2[([] : Mem).length]? = some (.live ⟨.box, 38, 20, [(.str ([] : List UInt8) :: (.bool false :: (.nils :: ((arC (cI .i8) 0 (Ar.rep 16 0)) ++ ((.nils :: []) : List AV)))))]⟩) := push_new hM3
 refine Rn (hN rfl (hV (.loc ([] : Mem).length 1 0 0) rfl hZ)) fun e5 h7 h8 => sN (sq (Rg (ku (alO zero38) fun M10 hM11 => ?_)))
 have o12 := push_old hM11 o4
 have ne13 := ne_new o4
 have o14 : M10[M2.length]? = some (.live ⟨.box, 38, 20, [(.str ([] : List UInt8) :: (.bool false :: (.nils :: ((arC (cI .i8) 0 (Ar.rep 16 0)) ++ ((.nils :: []) : List AV)))))]⟩) := push_new hM11
 refine Rn (hA h7 (hA h8 (hV (.loc M2.length 1 0 0) rfl hZ))) fun e15 h17 h18 h19 => sN (sq (Rg (kx (faP h17 ⟨ble rfl, blt rfl⟩ rfl) (kx (ldP rfl rfl) (kx (faO h19 o14 rfl) (kw (stO rfl rfl o14 rfl rfl ⟨rfl, ble rfl⟩ rfl rfl) fun M20 hM21 => ?_))))))
 clear h7 h8
 have o22 := set_ne hM21 ne13 o12
 have o23 : M20[M2.length]? = some (.live ⟨.box, 38, 20, [(.str a1.Debtor :: (.bool false :: (.nils :: ((arC (cI .i8) 0 (Ar.rep 16 0)) ++ ((.nils :: []) : List AV)))))]⟩) := set_same hM21 o14
 obtain ⟨⟨r30, r31, r32⟩, hx29, h⟩ := bind_some h
 refine Rn (hA h17 (hA h18 (hA h19 hZ))) fun e24 h26 h27 h28 => sN (sq (Rg (kx (faP h26 ⟨ble rfl, blt rfl⟩ rfl) (kx (ldPA rfl rfl rfl) (kc (cl (v := .agg (.bool r30 :: (.sl none (r31.map Notch.c) :: ((arC (cI .i8) 0 r32) ++ ([] : List AV))))) rfl (cns rfl rfl) rfl (laws_toHalf_ok a1.Stock _ hx29) nm) (kx (faO h28 o23 rfl) (kw (stO rfl rfl o23 rfl rfl ⟨rfl, ble rfl⟩ rfl rfl) fun M33 hM34 => ?_)))))))
 clear h17 h18 h19
 have o35 := set_ne hM34 ne13 o22
 have o36 : M33[M2.length]? = some (.live ⟨.box, 38, 20, [(.str a1.Debtor :: (.bool r30 :: (.sl none (r31.map Notch.c) :: ((arC (cI .i8) 0 r32) ++ ((.nils :: []) : List AV)))))]⟩) := set_same hM34 o23
 obtain ⟨r43, hx42, h⟩ := bind_some h
 refine Rn (hA h26 (hA h27 (hA h28 hZ))) fun e37 h39 h40 h41 => sN (sq (Rg (kx (faP h39 ⟨ble rfl, blt rfl⟩ rfl) (kx (ldP rfl rfl) (kc (cl (v := .sl (some 72) (r43.map Mark.c)) rfl (cns rfl rfl) rfl (laws_toMarkS_ok a1.Marks _ hx42) nm) (kx (faO h41 o36 rfl) (kw (stO rfl rfl o36 rfl rfl ⟨rfl, ble rfl⟩ rfl rfl) fun M44 hM45 => ?_)))))))
 clear h26 h27 h28
 have o46 := set_ne hM45 ne13 o35
 have o47 : M44[M2.length]? = some (.live ⟨.box, 38, 20, [(.str a1.Debtor :: (.bool r30 :: (.sl none (r31.map Notch.c) :: ((arC (cI .i8) 0 r32) ++ ((.sl none (r43.map Mark.c) :: []) : List AV)))))]⟩) := set_same hM45 o36
 refine Rn (hA h40 (hA h41 hZ)) fun e48 h50 h51 => sN (sq (Rg (kx (ldOA h51 o47 rfl rfl (ble rfl) rfl) (kw (stO h50 rfl o46 rfl rfl ⟨rfl, ble rfl⟩ rfl rfl) fun M52 hM53 => ?_))))
 clear h39 h40 h41
 have o54 : M52[([] : Mem).length]? = some (.live ⟨.box, 38, 20, [(.str a1.Debtor :: (.bool r30 :: (.sl none (r31.map Notch.c) :: ((arC (cI .i8) 0 r32) ++ ((.sl none (r43.map Mark.c) :: []) : List AV)))))]⟩) := set_same hM53 o46
 have o55 := set_ne hM53 (Ne.symm ne13) o47
 refine Rn (hA h50 hZ) fun e56 h58 => sN (xx ?_)
 clear h50 h51
 cases h
 exact eR (resC (ag := true) (sz := 20) ⟨by kernel_rfl, by kernel_rfl, by kernel_rfl⟩ (ldOA h58 o54 rfl rfl (ble rfl) rfl) res0) rfl
/-! ### loop.example/g01263/spec.SameChain (f10) -/
def spec_SameChain_c1_Q (a1 : Chain) (a2 : Chain) (g : Bool) (q : Out) : Prop := q.1 = .nrm ∧ eget q.2.1 2 = .pt none (.str a1.Debtor :: (.bool a1.Stock.Stock :: (.sl none (a1.Stock.Notches.map Notch.c) :: ((arC (cI .i8) 0 a1.Stock.Grain) ++ ((.sl none (a1.Marks.map Mark.c) :: []) : List AV))))) ∧ eget q.2.1 3 = .pt none (.str a2.Debtor :: (.bool a2.Stock.Stock :: (.sl none (a2.Stock.Notches.map Notch.c) :: ((arC (cI .i8) 0 a2.Stock.Grain) ++ ((.sl none (a2.Marks.map Mark.c) :: []) : List AV))))) ∧ eget q.2.1 25 = .bool g
abbrev spec_SameChain_b1_S := Int
abbrev spec_SameChain_b1_R := Unit ⊕ Unit
def spec_SameChain_b1_RS (a1 : Chain) (a2 : Chain) (s : spec_SameChain_b1_S) (e : Env) (M : Mem) : Prop := eget e 2 = .pt none (.str a1.Debtor :: (.bool a1.Stock.Stock :: (.sl none (a1.Stock.Notches.map Notch.c) :: ((arC (cI .i8) 0 a1.Stock.Grain) ++ ((.sl none (a1.Marks.map Mark.c) :: []) : List AV))))) ∧ eget e 3 = .pt none (.str a2.Debtor :: (.bool a2.Stock.Stock :: (.sl none (a2.Stock.Notches.map Notch.c) :: ((arC (cI .i8) 0 a2.Stock.Grain) ++ ((.sl none (a2.Marks.map Mark.c) :: []) : List AV))))) ∧ eget e 5 = .int .i64 s
def spec_SameChain_b1_RR (a1 : Chain) (a2 : Chain) (r : spec_SameChain_b1_R) (x : Ex) (e : Env) (M : Mem) : Prop :=
  match r with
  | (.inl g) => x = .ret ∧ eget e 4 = .bool false
  | (.inr g) => x = .ext 0 ∧ True
noncomputable def spec_SameChain_b1 (a1 : Chain) (a2 : Chain) : spec_SameChain_b1_S → Option (spec_SameChain_b1_S ⊕ spec_SameChain_b1_R) := fun s1_1 =>
 if (decide (s1_1 < (a1.Marks.length : Int))) = true then
  (rd a1.Marks s1_1).bind fun x62 =>
  (rd a2.Marks s1_1).bind fun x64 =>
  if ((x62.Holder == x64.Holder) && ((x62.Seal == x64.Seal) && true)) = true then
   some (.inl (IntKind.i64.wrap (s1_1 + 1)))
  else
   some (.inr (.inl ()))
 else
  some (.inr (.inr ()))
theorem spec_SameChain_b1_ok (a1 : Chain) (a2 : Chain) (s : spec_SameChain_b1_S) (r : spec_SameChain_b1_S ⊕ spec_SameChain_b1_R) (h : spec_SameChain_b1 a1 a2 s = some r) (e : Env) (M : Mem) (hs : spec_SameChain_b1_RS a1 a2 s e M) : Ev (fun k => (f10_l4 (CN k) k (prune [2, 3, 5] e) M).bind fun q => some q) (bQ (spec_SameChain_b1_RS a1 a2) (spec_SameChain_b1_RR a1 a2) r) := by
 revert h hs
 revert s
 intro s1_1 h hs
 unfold spec_SameChain_b1 at h
 obtain ⟨h49, h51, h53⟩ := hs
 generalize he48 : prune [2, 3, 5] e = e47
 have h50 := envp he48.symm rfl h49
 have h52 := envp he48.symm rfl h51
 have h54 := envp he48.symm rfl h53
 refine sq (sq (Rg (kx (mvO h54) (kx (faP h50 ⟨ble rfl, blt rfl⟩ rfl) (kx (ldP rfl rfl) (kx (lnS Try.underlying36 rfl) (kx (bLss rfl rfl) (Rn (hV (.pt none (.str a1.Debtor :: (.bool a1.Stock.Stock :: (.sl none (a1.Stock.Notches.map Notch.c) :: ((arC (cI .i8) 0 a1.Stock.Grain) ++ ((.sl none (a1.Marks.map Mark.c) :: []) : List AV)))))) h50 (hV (.pt none (.str a2.Debtor :: (.bool a2.Stock.Stock :: (.sl none (a2.Stock.Notches.map Notch.c) :: ((arC (cI .i8) 0 a2.Stock.Grain) ++ ((.sl none (a2.Marks.map Mark.c) :: []) : List AV)))))) h52 (hV (.int .i64 s1_1) h54 (hN rfl hZ)))) fun e55 h57 h58 h59 h60 => sN ?_))))))))
 clear h50 h52 h54
 rcases ite_some h with ⟨hb61, h⟩ | ⟨hb61, h⟩
 ·obtain ⟨x62, hx63, h⟩ := bind_some h
  obtain ⟨x64, hx65, h⟩ := bind_some h
  refine cT h60 hb61 (xx (sN (sq (bl (sq (Rd (kf (faP h57 ⟨ble rfl, blt rfl⟩ rfl) (kf (ldP rfl rfl) (kf (mvO h59) (kf (ixS rfl rfl hx63 Mark.fl) (kf (ldPA rfl rfl rfl) (kf (faP h58 ⟨ble rfl, blt rfl⟩ rfl) (kf (ldP rfl rfl) (kf (mvO h59) (kf (ixS rfl rfl hx65 Mark.fl) (kf (ldPA rfl rfl rfl) (kf (gNeq rfl rfl (by kernel_rfl) rfl) (fZ (Rn (hA h57 (hA h58 (hA h59 (hN rfl hZ)))) fun e66 h68 h69 h70 h71 => sN ?_)))))))))))))))))))
  clear h57 h58 h59 h60
  rcases ite_some h with ⟨hb72, h⟩ | ⟨hb72, h⟩
  ·refine cF h71 (congrArg Bool.not hb72) (xx (bN (sN (Rg (kx (mvO h70) (kx (bAdd rfl rfl) (kx (mvO rfl) (Rn (hA h68 (hA h69 (hN rfl hZ))) fun e73 h75 h76 h77 => ?_))))))))
   clear h68 h69 h71
   cases h
   exact qN ⟨h75, h76, h77⟩
  refine cT h71 (congrArg Bool.not hb72) (sq (Rg (kx (mvO rfl) (Rn (hV (.bool false) rfl hZ) fun e78 h80 => sN (xx (bR (sR ?_)))))))
  clear h68 h69 h70 h71
  cases h
  exact qR ⟨rfl, h80⟩
 refine cF h60 hb61 (xx (sE ?_))
 cases h
 exact qE ⟨rfl, trivial⟩
noncomputable def spec_SameChain (a1 : Chain) (a2 : Chain) : Option Bool :=
 (if (a1.Debtor == a2.Debtor) = true then
  (spec_l01Same a1.Stock a2.Stock).bind fun r7 =>
  if r7 = true then
   some ((a1.Marks.length : Int) != (a2.Marks.length : Int))
  else
   some true
 else
  some true).bind fun y26 =>
 if y26 = true then
  some false
 else
  (Lw (spec_SameChain_b1 a1 a2) 0).bind fun r => match r with
  | (.inl _) =>
   some false
  | (.inr _) =>
   some true
def spec_SameChain_enc (r : Bool) : AV := .bool r
theorem spec_SameChain_ok (a1 : Chain) (a2 : Chain) (r : Bool) (h : spec_SameChain a1 a2 = some r) : Ev (fun k => CN k 10 [.agg (.str a1.Debtor :: (.bool a1.Stock.Stock :: (.sl none (a1.Stock.Notches.map Notch.c) :: ((arC (cI .i8) 0 a1.Stock.Grain) ++ ((.sl none (a1.Marks.map Mark.c) :: []) : List AV))))), .agg (.str a2.Debtor :: (.bool a2.Stock.Stock :: (.sl none (a2.Stock.Notches.map Notch.c) :: ((arC (cI .i8) 0 a2.Stock.Grain) ++ ((.sl none (a2.Marks.map Mark.c) :: []) : List AV)))))] []) (fun p => rRes p.2 p.1 = spec_SameChain_enc r) := by
 unfold spec_SameChain at h
 obtain ⟨r93, hr94, h⟩ := bind_some h
 refine Ev.enter (F := fun k => f10 (CN k) k) (fun k => callN_eq rfl Try.func10 rfl rfl rfl (by decide +kernel) (f10_eq _ _)) (sq (Rg (kx (bxI rfl rfl ⟨rfl, rfl, by decide⟩) (kx (bxI rfl rfl ⟨rfl, rfl, by decide⟩) (kx (mvO rfl) (Rn (hN rfl (hN rfl hZ)) fun e1 h3 h4 => sN (sq (sq ?_))))))))
 refine Ev.cut (Q1 := spec_SameChain_c1_Q a1 a2 r93) (by
     have h := hr94
     refine Rg (kx (faP h3 ⟨ble rfl, blt rfl⟩ rfl) (kx (ldP rfl rfl) (kx (faP h4 ⟨ble rfl, blt rfl⟩ rfl) (kx (ldP rfl rfl) (kx (sNeq rfl rfl) (kx (mvO rfl) ?_))))))
     rcases ite_some h with ⟨hb5, h⟩ | ⟨hb5, h⟩
     ·obtain ⟨r7, hx6, h⟩ := bind_some h
      refine kx (guF rfl (congrArg Bool.not hb5) (faP h3 ⟨ble rfl, blt rfl⟩ rfl)) (kx (guF rfl (congrArg Bool.not hb5) (faP h4 ⟨ble rfl, blt rfl⟩ rfl)) (kc (Ev.guF rfl (congrArg Bool.not hb5) (cl (v := .bool r7) rfl (cns rfl (cns rfl rfl)) rfl (spec_l01Same_ok a1.Stock a2.Stock _ hx6) nm)) (kx (guF rfl (congrArg Bool.not hb5) (uNot rfl)) (kx (pkF rfl (congrArg Bool.not hb5) rfl) (kx (mvO rfl) ?_)))))
      rcases ite_some h with ⟨hb8, h⟩ | ⟨hb8, h⟩
      ·refine kx (guF rfl (congrArg Bool.not hb8) (faP h3 ⟨ble rfl, blt rfl⟩ rfl)) (kx (guF rfl (congrArg Bool.not hb8) (ldP rfl rfl)) (kx (guF rfl (congrArg Bool.not hb8) (lnS Try.underlying36 rfl)) (kx (guF rfl (congrArg Bool.not hb8) (faP h4 ⟨ble rfl, blt rfl⟩ rfl)) (kx (guF rfl (congrArg Bool.not hb8) (ldP rfl rfl)) (kx (guF rfl (congrArg Bool.not hb8) (lnS Try.underlying36 rfl)) (kx (guF rfl (congrArg Bool.not hb8) (bNeq rfl rfl)) (kx (pkF rfl (congrArg Bool.not hb8) rfl) (Rn (hA h3 (hA h4 (hN rfl hZ))) fun e9 h11 h12 h13 => ?_))))))))
       clear h3 h4
       cases h
       exact kd (show spec_SameChain_c1_Q a1 a2 _ _ from ⟨rfl, h11, h12, h13⟩)
      refine kx (gsF rfl (congrArg Bool.not hb8)) (kx (gsF rfl (congrArg Bool.not hb8)) (kx (gsF rfl (congrArg Bool.not hb8)) (kx (gsF rfl (congrArg Bool.not hb8)) (kx (gsF rfl (congrArg Bool.not hb8)) (kx (gsF rfl (congrArg Bool.not hb8)) (kx (gsF rfl (congrArg Bool.not hb8)) (kx (pkT rfl (congrArg Bool.not hb8) rfl) (Rn (hA h3 (hA h4 (hV (.bool true) rfl hZ))) fun e14 h16 h17 h18 => ?_))))))))
      clear h3 h4
      cases h
      exact kd (show spec_SameChain_c1_Q a1 a2 _ _ from ⟨rfl, h16, h17, h18⟩)
     refine kx (gsF rfl (congrArg Bool.not hb5)) (kx (gsF rfl (congrArg Bool.not hb5)) (kc (Ev.gsF rfl (congrArg Bool.not hb5)) (kx (gsF rfl (congrArg Bool.not hb5)) (kx (pkT rfl (congrArg Bool.not hb5) rfl) (kx (mvO rfl) (kx (gsF rfl rfl) (kx (gsF rfl rfl) (kx (gsF rfl rfl) (kx (gsF rfl rfl) (kx (gsF rfl rfl) (kx (gsF rfl rfl) (kx (gsF rfl rfl) (kx (pkT rfl rfl rfl) (Rn (hA h3 (hA h4 (hV (.bool true) rfl hZ))) fun e19 h21 h22 h23 => ?_))))))))))))))
     clear h3 h4
     cases h
     exact kd (show spec_SameChain_c1_Q a1 a2 _ _ from ⟨rfl, h21, h22, h23⟩)) ?_
 revert h hr94
 revert r93
 intro y26 hr94 h
 intro x e24 M25 hq92
 obtain ⟨rfl, h27, h28, h29⟩ := hq92
 refine sN ?_
 rcases ite_some h with ⟨hb30, h⟩ | ⟨hb30, h⟩
 ·refine cT h29 hb30 (sq (Rg (kx (mvO rfl) (Rn (hV (.bool false) rfl hZ) fun e31 h33 => sN (xx (sR ?_))))))
  clear h27 h28 h29
  cases h
  exact eR (resT h33 res0) rfl
 obtain ⟨r81, hr82, h⟩ := bind_some h
 refine cF h29 hb30 (xx (sN (sq (sq (Rg (kx (mvO rfl) (Rn (hV (.pt none (.str a1.Debtor :: (.bool a1.Stock.Stock :: (.sl none (a1.Stock.Notches.map Notch.c) :: ((arC (cI .i8) 0 a1.Stock.Grain) ++ ((.sl none (a1.Marks.map Mark.c) :: []) : List AV)))))) h27 (hV (.pt none (.str a2.Debtor :: (.bool a2.Stock.Stock :: (.sl none (a2.Stock.Notches.map Notch.c) :: ((arC (cI .i8) 0 a2.Stock.Grain) ++ ((.sl none (a2.Marks.map Mark.c) :: []) : List AV)))))) h28 (hV (.int .i64 0) rfl hZ))) fun e34 h36 h37 h38 => sN (bl ?_))))))))
 clear h27 h28 h29
 rcases r81 with _ | _
 ·refine Ev.loop (RS := spec_SameChain_b1_RS a1 a2) (RR := spec_SameChain_b1_RR a1 a2) (fun s r h e M hs => spec_SameChain_b1_ok a1 a2 s r h e M hs) hr82 ⟨h36, h37, h38⟩ fun x e84 M85 hq83 => ?_
  obtain ⟨rfl, h86⟩ := hq83
  refine bR (sR ?_)
  cases h
  exact eR (resT h86 res0) rfl
 refine Ev.loop (RS := spec_SameChain_b1_RS a1 a2) (RR := spec_SameChain_b1_RR a1 a2) (fun s r h e M hs => spec_SameChain_b1_ok a1 a2 s r h e M hs) hr82 ⟨h36, h37, h38⟩ fun x e87 M88 hq83 => ?_
 obtain ⟨rfl, _⟩ := hq83
 refine bE (sN (sq (Rg (kx (mvO rfl) (Rn (hV (.bool true) rfl hZ) fun e89 h91 => sN (xx ?_))))))
 cases h
 exact eR (resT h91 res0) rfl
/-! ### loop.example/g01263/laws.szChain (f9) -/
noncomputable def laws_szChain (a1 : Chain) (a2 : Int) : Option Int :=
 if (decide ((IntKind.i64.wrap (a2 - (a1.Debtor.length : Int))) < 0)) = true then
  some (-1)
 else
  (laws_szHalf a1.Stock (IntKind.i64.wrap (a2 - (a1.Debtor.length : Int)))).bind fun r19 =>
  if (decide (r19 < 0)) = true then
   some (-1)
  else
   (laws_szMarkS a1.Marks r19).bind fun r34 =>
   if (decide (r34 < 0)) = true then
    some (-1)
   else
    some r34
def laws_szChain_enc (r : Int) : AV := .int .i64 r
theorem laws_szChain_ok (a1 : Chain) (a2 : Int) (r : Int) (h : laws_szChain a1 a2 = some r) : Ev (fun k => CN k 9 [.agg (.str a1.Debtor :: (.bool a1.Stock.Stock :: (.sl none (a1.Stock.Notches.map Notch.c) :: ((arC (cI .i8) 0 a1.Stock.Grain) ++ ((.sl none (a1.Marks.map Mark.c) :: []) : List AV))))), .int .i64 a2] []) (fun p => rRes p.2 p.1 = laws_szChain_enc r) := by
 unfold laws_szChain at h
 refine Ev.enter (F := fun k => f9 (CN k) k) (fun k => callN_eq rfl Try.func9 rfl rfl rfl (by decide +kernel) (f9_eq _ _)) (sq (Rg (kx (bxI rfl rfl ⟨rfl, rfl, by decide⟩) (kx (mvO rfl) (Rn (hN rfl (hN rfl hZ)) fun e1 h3 h4 => sN (sq (Rg (kx (mvO h3) (kx (faP h4 ⟨ble rfl, blt rfl⟩ rfl) (kx (ldP rfl rfl) (kx (lnB Try.underlying9 rfl) (kx (bSub rfl rfl) (kx (mvO rfl) (Rn (hN rfl (hA h4 hZ)) fun e5 h7 h8 => sN (sq (sq (Rg (kx (mvO h7) (kx (bLss rfl rfl) (Rn (hA h7 (hA h8 (hN rfl hZ))) fun e9 h11 h12 h13 => sN ?_))))))))))))))))))))
 clear h4 h7 h8
 rcases ite_some h with ⟨hb14, h⟩ | ⟨hb14, h⟩
 ·refine cT h13 hb14 (sq (Rg (kx (mvO rfl) (Rn (hV (.int .i64 (-1)) rfl hZ) fun e15 h17 => sN (xx (sR ?_))))))
  clear h11 h12 h13
  cases h
  exact eR (resT h17 res0) rfl
 obtain ⟨r19, hx18, h⟩ := bind_some h
 refine cF h13 hb14 (xx (sN (sq (Rg (kx (faP h12 ⟨ble rfl, blt rfl⟩ rfl) (kx (ldPA rfl rfl rfl) (kx (mvO h11) (kc (cl (v := .int .i64 r19) rfl (cns rfl (cns rfl rfl)) rfl (laws_szHalf_ok a1.Stock (IntKind.i64.wrap (a2 - (a1.Debtor.length : Int))) _ hx18) nm) (kx (mvO rfl) (Rn (hN rfl (hA h12 hZ)) fun e20 h22 h23 => sN (sq (sq (Rg (kx (mvO h22) (kx (bLss rfl rfl) (Rn (hA h22 (hA h23 (hN rfl hZ))) fun e24 h26 h27 h28 => sN ?_))))))))))))))))
 clear h12 h13 h22 h23
 rcases ite_some h with ⟨hb29, h⟩ | ⟨hb29, h⟩
 ·refine cT h28 hb29 (sq (Rg (kx (mvO rfl) (Rn (hV (.int .i64 (-1)) rfl hZ) fun e30 h32 => sN (xx (sR ?_))))))
  clear h26 h27 h28
  cases h
  exact eR (resT h32 res0) rfl
 obtain ⟨r34, hx33, h⟩ := bind_some h
 refine cF h28 hb29 (xx (sN (sq (Rg (kx (faP h27 ⟨ble rfl, blt rfl⟩ rfl) (kx (ldP rfl rfl) (kx (mvO h26) (kc (cl (v := .int .i64 r34) rfl (cns rfl (cns rfl rfl)) rfl (laws_szMarkS_ok a1.Marks r19 _ hx33) nm) (kx (mvO rfl) (Rn (hN rfl hZ) fun e35 h37 => sN (sq (sq (Rg (kx (mvO h37) (kx (bLss rfl rfl) (Rn (hA h37 (hN rfl hZ)) fun e38 h40 h41 => sN ?_))))))))))))))))
 clear h27 h28 h37
 rcases ite_some h with ⟨hb42, h⟩ | ⟨hb42, h⟩
 ·refine cT h41 hb42 (sq (Rg (kx (mvO rfl) (Rn (hV (.int .i64 (-1)) rfl hZ) fun e43 h45 => sN (xx (sR ?_))))))
  clear h40 h41
  cases h
  exact eR (resT h45 res0) rfl
 refine cF h41 hb42 (xx (sN (sq (Rg (kx (mvO h40) (kx (mvO rfl) (Rn (hN rfl hZ) fun e46 h48 => sN (xx ?_))))))))
 clear h40 h41
 cases h
 exact eR (resT h48 res0) rfl
/-! ### loop.example/g01263/laws.FnExactSameChain (f3) -/
noncomputable def laws_FnExactSameChain (a1 : Chain) (a2 : Chain) : Option Bool :=
 (laws_szChain a1 1048576).bind fun r11 =>
 if (decide (r11 < 0)) = true then
  some true
 else
  (laws_szChain a2 r11).bind fun r28 =>
  if (decide (r28 < 0)) = true then
   some true
  else
   (laws_toChain a1).bind fun (r44, r45, r46, r47, r48) =>
   (laws_toChain a2).bind fun (r50, r51, r52, r53, r54) =>
   (spec_SameChain (Chain.mk r44 (Half.mk r45 r46 r47) r48) (Chain.mk r50 (Half.mk r51 r52 r53) r54)).bind fun r56 =>
   (laws_toChain a1).bind fun (r63, r64, r65, r66, r67) =>
   (laws_toChain a2).bind fun (r82, r83, r84, r85, r86) =>
   (impl_SameChain (Chain.mk r63 (Half.mk r64 r65 r66) r67) (Chain.mk r82 (Half.mk r83 r84 r85) r86)).bind fun r105 =>
   if (r105 == r56) = true then
    (laws_toChain a1).bind fun (r123, r124, r125, r126, r127) =>
    (laws_eqChain (Chain.mk r63 (Half.mk r64 r65 r66) r67) (Chain.mk r123 (Half.mk r124 r125 r126) r127)).bind fun r129 =>
    if r129 = true then
     (laws_toChain a2).bind fun (r137, r138, r139, r140, r141) =>
     (laws_eqChain (Chain.mk r82 (Half.mk r83 r84 r85) r86) (Chain.mk r137 (Half.mk r138 r139 r140) r141)).bind fun r143 =>
     if r143 = true then
      some true
     else
      some false
    else
     some false
   else
    some false
def laws_FnExactSameChain_enc (r : Bool) : AV := .bool r
theorem laws_FnExactSameChain_ok (a1 : Chain) (a2 : Chain) (r : Bool) (h : laws_FnExactSameChain a1 a2 = some r) : Ev (fun k => CN k 3 [.agg (.str a1.Debtor :: (.bool a1.Stock.Stock :: (.sl none (a1.Stock.Notches.map Notch.c) :: ((arC (cI .i8) 0 a1.Stock.Grain) ++ ((.sl none (a1.Marks.map Mark.c) :: []) : List AV))))), .agg (.str a2.Debtor :: (.bool a2.Stock.Stock :: (.sl none (a2.Stock.Notches.map Notch.c) :: ((arC (cI .i8) 0 a2.Stock.Grain) ++ ((.sl none (a2.Marks.map Mark.c) :: []) : List AV)))))] []) (fun p => rRes p.2 p.1 = laws_FnExactSameChain_enc r) := by
 unfold laws_FnExactSameChain at h
 obtain ⟨r11, hx10, h⟩ := bind_some h
 refine Ev.enter (F := fun k => f3 (CN k) k) (fun k => callN_eq rfl Try.func3 rfl rfl rfl (by decide +kernel) (f3_eq _ _)) (sq (Rg (kx (bxI rfl rfl ⟨rfl, rfl, by decide⟩) (kx (bxI rfl rfl ⟨rfl, rfl, by decide⟩) (kx (mvO rfl) (Rn (hN rfl (hN rfl hZ)) fun e1 h3 h4 => sN (sq (Rg (kx (mvO rfl) (Rn (hA h3 (hA h4 (hV (.int .i64 1048576) rfl hZ))) fun e5 h7 h8 h9 => sN (sq (Rg (kx (ldPA h7 rfl rfl) (kx (mvO h9) (kc (cl (v := .int .i64 r11) rfl (cns rfl (cns rfl rfl)) rfl (laws_szChain_ok a1 1048576 _ hx10) nm) (kx (mvO rfl) (Rn (hA h7 (hA h8 (hN rfl hZ))) fun e12 h14 h15 h16 => sN (sq (sq (Rg (kx (mvO h16) (kx (bLss rfl rfl) (Rn (hA h14 (hA h15 (hA h16 (hN rfl hZ)))) fun e17 h19 h20 h21 h22 => sN ?_)))))))))))))))))))))))
 clear h3 h4 h7 h8 h14 h15 h16
 rcases ite_some h with ⟨hb23, h⟩ | ⟨hb23, h⟩
 ·refine cT h22 hb23 (sq (Rg (kx (mvO rfl) (Rn (hV (.bool true) rfl hZ) fun e24 h26 => sN (xx (sR ?_))))))
  clear h19 h20 h21 h22
  cases h
  exact eR (resT h26 res0) rfl
 obtain ⟨r28, hx27, h⟩ := bind_some h
 refine cF h22 hb23 (xx (sN (sq (Rg (kx (ldPA h20 rfl rfl) (kx (mvO h21) (kc (cl (v := .int .i64 r28) rfl (cns rfl (cns rfl rfl)) rfl (laws_szChain_ok a2 r11 _ hx27) nm) (kx (mvO rfl) (Rn (hA h19 (hA h20 (hN rfl hZ))) fun e29 h31 h32 h33 => sN (sq (sq (Rg (kx (mvO h33) (kx (bLss rfl rfl) (Rn (hA h31 (hA h32 (hN rfl hZ))) fun e34 h36 h37 h38 => sN ?_)))))))))))))))
 clear h19 h20 h22 h31 h32 h33
 rcases ite_some h with ⟨hb39, h⟩ | ⟨hb39, h⟩
 ·refine cT h38 hb39 (sq (Rg (kx (mvO rfl) (Rn (hV (.bool true) rfl hZ) fun e40 h42 => sN (xx (sR ?_))))))
  clear h36 h37 h38
  cases h
  exact eR (resT h42 res0) rfl
 obtain ⟨⟨r44, r45, r46, r47, r48⟩, hx43, h⟩ := bind_some h
 obtain ⟨⟨r50, r51, r52, r53, r54⟩, hx49, h⟩ := bind_some h
 obtain ⟨r56, hx55, h⟩ := bind_some h
 obtain ⟨⟨r63, r64, r65, r66, r67⟩, hx62, h⟩ := bind_some h
 refine cF h38 hb39 (xx (sN (sq (Rd (kf (ldPA h36 rfl rfl) (fc (cl (v := .agg (.str r44 :: (.bool r45 :: (.sl none (r46.map Notch.c) :: ((arC (cI .i8) 0 r47) ++ ((.sl none (r48.map Mark.c) :: []) : List AV)))))) rfl (cns rfl rfl) rfl (laws_toChain_ok a1 _ hx43) nm) (kf (ldPA h37 rfl rfl) (fc (cl (v := .agg (.str r50 :: (.bool r51 :: (.sl none (r52.map Notch.c) :: ((arC (cI .i8) 0 r53) ++ ((.sl none (r54.map Mark.c) :: []) : List AV)))))) rfl (cns rfl rfl) rfl (laws_toChain_ok a2 _ hx49) nm) (fc (cl (v := .bool r56) rfl (cns rfl (cns rfl rfl)) rfl (spec_SameChain_ok (Chain.mk r44 (Half.mk r45 r46 r47) r48) (Chain.mk r50 (Half.mk r51 r52 r53) r54) _ hx55) nm) (kf (mvO rfl) (fZ (Rn (hA h36 (hA h37 (hN rfl hZ))) fun e57 h59 h60 h61 => sN (sq (Rg (kx (ldPA h59 rfl rfl) (kc (cl (v := .agg (.str r63 :: (.bool r64 :: (.sl none (r65.map Notch.c) :: ((arC (cI .i8) 0 r66) ++ ((.sl none (r67.map Mark.c) :: []) : List AV)))))) rfl (cns rfl rfl) rfl (laws_toChain_ok a1 _ hx62) nm) (ku (alO zero38) fun M69 hM70 => ?_)))))))))))))))))
 clear h36 h37 h38
 have o71 : M69[([] : Mem).length]? = some (.live ⟨.box, 38, 20, [(.str ([] : List UInt8) :: (.bool false :: (.nils :: ((arC (cI .i8) 0 (Ar.rep 16 0)) ++ ((.nils :: []) : List AV)))))]⟩) := push_new hM70
 refine kw (stO rfl rfl o71 rfl rfl ⟨rfl, ble rfl⟩ rfl rfl) fun M72 hM73 => ?_
 have o74 : M72[([] : Mem).length]? = some (.live ⟨.box, 38, 20, [(.str r63 :: (.bool r64 :: (.sl none (r65.map Notch.c) :: ((arC (cI .i8) 0 r66) ++ ((.sl none (r67.map Mark.c) :: []) : List AV)))))]⟩) := set_same hM73 o71
 obtain ⟨⟨r82, r83, r84, r85, r86⟩, hx81, h⟩ := bind_some h
 refine Rn (hA h59 (hA h60 (hA h61 (hV (.loc ([] : Mem).length 1 0 0) rfl hZ)))) fun e75 h77 h78 h79 h80 => sN (sq (Rg (kx (ldPA h78 rfl rfl) (kc (cl (v := .agg (.str r82 :: (.bool r83 :: (.sl none (r84.map Notch.c) :: ((arC (cI .i8) 0 r85) ++ ((.sl none (r86.map Mark.c) :: []) : List AV)))))) rfl (cns rfl rfl) rfl (laws_toChain_ok a2 _ hx81) nm) (ku (alO zero38) fun M88 hM89 => ?_)))))
 clear h59 h60 h61
 have o90 := push_old hM89 o74
 have ne91 := ne_new o74
 have o92 : M88[M72.length]? = some (.live ⟨.box, 38, 20, [(.str ([] : List UInt8) :: (.bool false :: (.nils :: ((arC (cI .i8) 0 (Ar.rep 16 0)) ++ ((.nils :: []) : List AV)))))]⟩) := push_new hM89
 refine kw (stO rfl rfl o92 rfl rfl ⟨rfl, ble rfl⟩ rfl rfl) fun M93 hM94 => ?_
 have o95 := set_ne hM94 ne91 o90
 have o96 : M93[M72.length]? = some (.live ⟨.box, 38, 20, [(.str r82 :: (.bool r83 :: (.sl none (r84.map Notch.c) :: ((arC (cI .i8) 0 r85) ++ ((.sl none (r86.map Mark.c) :: []) : List AV)))))]⟩) := set_same hM94 o92
 obtain ⟨r105, hx104, h⟩ := bind_some h
 refine Rn (hA h77 (hA h78 (hA h79 (hA h80 (hV (.loc M72.length 1 0 0) rfl hZ))))) fun e97 h99 h100 h101 h102 h103 => sN (sq (Rg (kx (ldOA h102 o95 rfl rfl (ble rfl) rfl) (kx (ldOA h103 o96 rfl rfl (ble rfl) rfl) (kc (cl (v := .bool r105) rfl (cns rfl (cns rfl rfl)) rfl (impl_SameChain_ok (Chain.mk r63 (Half.mk r64 r65 r66) r67) (Chain.mk r82 (Half.mk r83 r84 r85) r86) _ hx104) nm) (kx (mvO rfl) (Rn (hA h99 (hA h100 (hA h101 (hA h102 (hA h103 (hN rfl hZ)))))) fun e106 h108 h109 h110 h111 h112 h113 => sN (sq (sq (Rg (kx (mvO h113) (kx (mvO h110) (kx (oNeq (by kernel_rfl) rfl rfl) (Rn (hA h108 (hA h109 (hA h111 (hA h112 (hN rfl hZ))))) fun e114 h116 h117 h118 h119 h120 => sN ?_))))))))))))))
 clear h77 h78 h79 h80 h100 h101 h102 h103 h99 h108 h109 h110 h111 h112 h113
 rcases ite_some h with ⟨hb121, h⟩ | ⟨hb121, h⟩
 ·obtain ⟨⟨r123, r124, r125, r126, r127⟩, hx122, h⟩ := bind_some h
  obtain ⟨r129, hx128, h⟩ := bind_some h
  refine cF h120 (congrArg Bool.not hb121) (xx (sN (sq (sq (Rd (kf (ldOA h118 o95 rfl rfl (ble rfl) rfl) (kf (ldPA h116 rfl rfl) (fc (cl (v := .agg (.str r123 :: (.bool r124 :: (.sl none (r125.map Notch.c) :: ((arC (cI .i8) 0 r126) ++ ((.sl none (r127.map Mark.c) :: []) : List AV)))))) rfl (cns rfl rfl) rfl (laws_toChain_ok a1 _ hx122) nm) (fc (cl (v := .bool r129) rfl (cns rfl (cns rfl rfl)) rfl (laws_eqChain_ok (Chain.mk r63 (Half.mk r64 r65 r66) r67) (Chain.mk r123 (Half.mk r124 r125 r126) r127) _ hx128) nm) (kf (uNot rfl) (fZ (Rn (hA h117 (hA h119 (hN rfl hZ))) fun e130 h132 h133 h134 => sN ?_))))))))))))
  clear h116 h117 h118 h119 h120
  rcases ite_some h with ⟨hb135, h⟩ | ⟨hb135, h⟩
  ·obtain ⟨⟨r137, r138, r139, r140, r141⟩, hx136, h⟩ := bind_some h
   obtain ⟨r143, hx142, h⟩ := bind_some h
   refine cF h134 (congrArg Bool.not hb135) (xx (sN (sq (sq (Rd (kf (ldOA h133 o96 rfl rfl (ble rfl) rfl) (kf (ldPA h132 rfl rfl) (fc (cl (v := .agg (.str r137 :: (.bool r138 :: (.sl none (r139.map Notch.c) :: ((arC (cI .i8) 0 r140) ++ ((.sl none (r141.map Mark.c) :: []) : List AV)))))) rfl (cns rfl rfl) rfl (laws_toChain_ok a2 _ hx136) nm) (fc (cl (v := .bool r143) rfl (cns rfl (cns rfl rfl)) rfl (laws_eqChain_ok (Chain.mk r82 (Half.mk r83 r84 r85) r86) (Chain.mk r137 (Half.mk r138 r139 r140) r141) _ hx142) nm) (kf (uNot rfl) (fZ (Rn (hN rfl hZ) fun e144 h146 => sN ?_))))))))))))
   clear h132 h133 h134
   rcases ite_some h with ⟨hb147, h⟩ | ⟨hb147, h⟩
   ·refine cF h146 (congrArg Bool.not hb147) (xx (sN (sq (Rg (kx (mvO rfl) (Rn (hV (.bool true) rfl hZ) fun e148 h150 => sN (xx ?_)))))))
    clear h146
    cases h
    exact eR (resT h150 res0) rfl
   refine cT h146 (congrArg Bool.not hb147) (sq (Rg (kx (mvO rfl) (Rn (hV (.bool false) rfl hZ) fun e151 h153 => sN (xx (sR ?_))))))
   clear h146
   cases h
   exact eR (resT h153 res0) rfl
  refine cT h134 (congrArg Bool.not hb135) (sq (Rg (kx (mvO rfl) (Rn (hV (.bool false) rfl hZ) fun e154 h156 => sN (xx (sR ?_))))))
  clear h132 h133 h134
  cases h
  exact eR (resT h156 res0) rfl
 refine cT h120 (congrArg Bool.not hb121) (sq (Rg (kx (mvO rfl) (Rn (hV (.bool false) rfl hZ) fun e157 h159 => sN (xx (sR ?_))))))
 clear h116 h117 h118 h119 h120
 cases h
 exact eR (resT h159 res0) rfl
end Go.Proofs.Ythkbjnbbahmpkaa

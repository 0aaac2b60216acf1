/- Printed by a program of ours (ext.py). -/
import Derived.Test.YthkbjnbbahmpkabFnsShortWay
set_option linter.unusedVariables false
set_option linter.unusedSimpArgs false
set_option maxRecDepth 100000
set_option maxHeartbeats 2000000
namespace Go.Proofs.Ythkbjnbbahmpkab
open Go Go.Ab
structure Notch where
  Kind : Int
  At : Int
  deriving DecidableEq
def Notch.c (x : Notch) : List AV := [.int .i8 x.Kind, .int .i16 x.At]
theorem Notch.fl : Fl Notch.c 2 := fun _ => ⟨rfl, rfl⟩
theorem Notch.flF : FlF Notch.c := fun _ => rfl
structure Half where
  Stock : Bool
  Notches : List Notch
  Grain : Ar 16 Int
  deriving DecidableEq
def Half.c (x : Half) : List AV := (.bool x.Stock :: (.sl none (x.Notches.map Notch.c) :: ((arC (cI .i8) 0 x.Grain) ++ ([] : List AV))))
theorem Half.fl : Fl Half.c 18 := fun _ => ⟨rfl, rfl⟩
structure Mark where
  Holder : List UInt8
  Seal : Int
  deriving DecidableEq
def Mark.c (x : Mark) : List AV := [.str x.Holder, .int .u32 x.Seal]
theorem Mark.fl : Fl Mark.c 2 := fun _ => ⟨rfl, rfl⟩
theorem Mark.flF : FlF Mark.c := fun _ => rfl
structure Chain where
  Debtor : List UInt8
  Stock : Half
  Marks : List Mark
  deriving DecidableEq
def Chain.c (x : Chain) : List AV := (.str x.Debtor :: (.bool x.Stock.Stock :: (.sl none (x.Stock.Notches.map Notch.c) :: ((arC (cI .i8) 0 x.Stock.Grain) ++ ((.sl none (x.Marks.map Mark.c) :: []) : List AV)))))
theorem Chain.fl : Fl Chain.c 20 := fun _ => ⟨rfl, rfl⟩
theorem co57 : cx.P.cellsOf 57 = 2 := by kernel_rfl
theorem co9 : cx.P.cellsOf 9 = 1 := by kernel_rfl
theorem co90 : cx.P.cellsOf 90 = 2 := by kernel_rfl
theorem zero34 : zeroOf cx.P 34 = (arC (cI .i8) 0 (Ar.rep 16 0)) := by kernel_rfl
theorem zero36 : zeroOf cx.P 36 = (.bool false :: (.nils :: ((arC (cI .i8) 0 (Ar.rep 16 0)) ++ ([] : List AV)))) := by kernel_rfl
theorem zero39 : zeroOf cx.P 39 = (.str ([] : List UInt8) :: (.bool false :: (.nils :: ((arC (cI .i8) 0 (Ar.rep 16 0)) ++ ((.nils :: []) : List AV))))) := by kernel_rfl
theorem zero57 : zeroOf cx.P 57 = [.str ([] : List UInt8), .int .u32 0] := by kernel_rfl
theorem zero90 : zeroOf cx.P 90 = [.int .i8 0, .int .i16 0] := by kernel_rfl
/-! ### loop.example/g01263/spec.l01Widths (f60) -/
noncomputable def spec_l01Widths : Option ((List Int)) :=
 some [1, 2, 4, 6, 9, 12]
def spec_l01Widths_enc (r : (List Int)) : AV := .sl (some 2) (r.map (cI .i64))
theorem spec_l01Widths_ok (r : (List Int)) (h : spec_l01Widths = some r) : Ev (fun k => CN k 60 [] []) (fun p => rRes p.2 p.1 = spec_l01Widths_enc r) := by
 unfold spec_l01Widths at h
 refine Ev.enter (F := fun k => f60 (CN k) k) (fun k => callN_eq rfl Try.func60 rfl rfl rfl (by decide +kernel) (f60_eq _ _)) (sq (Rg (kx (mvO rfl) (Rn hZ fun e1 => sN (sq (Rg (kx (litI (cns rfl (cns rfl (cns rfl (cns rfl (cns rfl (cns rfl rfl)))))) rfl ⟨rfl, by decide⟩) (kx (mvO rfl) (Rn (hN rfl hZ) fun e3 h5 => sN (xx ?_))))))))))
 obtain rfl := si h
 exact eR (resT h5 res0) rfl
/-! ### loop.example/g01263/impl.width (f59) -/
noncomputable def impl_width (a1 : Int) : Option Int :=
 (rd [1, 2, 4, 6, 9, 12] a1).bind fun x4 =>
 some x4
def impl_width_enc (r : Int) : AV := .int .i64 r
theorem impl_width_ok (a1 : Int) (r : Int) (h : impl_width a1 = some r) : Ev (fun k => CN k 59 [.int .i64 a1] []) (fun p => rRes p.2 p.1 = impl_width_enc r) := by
 unfold impl_width at h
 obtain ⟨x4, hx5, h⟩ := bind_some h
 refine Ev.enter (F := fun k => f59 (CN k) k) (fun k => callN_eq rfl Try.func59 rfl rfl rfl (by decide +kernel) (f59_eq _ _)) (sq (Rg (kx (mvO rfl) (Rn (hN rfl hZ) fun e1 h3 => sN (sq (Rg (kx (litI (cns rfl (cns rfl (cns rfl (cns rfl (cns rfl (cns rfl rfl)))))) rfl ⟨rfl, by decide⟩) (kx (mvO h3) (kx (ixLt rfl rfl hx5 (cI_fl _)) (kx (ldP rfl rfl) (kx (mvO rfl) (Rn (hN rfl hZ) fun e6 h8 => sN (xx ?_)))))))))))))
 clear h3
 obtain rfl := si h
 exact eR (resT h8 res0) rfl
/-! ### loop.example/g01263/spec.l01Ends (f58) -/
noncomputable def spec_l01Ends (a1 : Notch) : Option Int :=
 (spec_l01Widths).bind fun r5 =>
 (rd r5 a1.Kind).bind fun x6 =>
 some (IntKind.i64.wrap ((IntKind.i64.wrap a1.At) + x6))
def spec_l01Ends_enc (r : Int) : AV := .int .i64 r
theorem spec_l01Ends_ok (a1 : Notch) (r : Int) (h : spec_l01Ends a1 = some r) : Ev (fun k => CN k 58 [.agg [.int .i8 a1.Kind, .int .i16 a1.At]] []) (fun p => rRes p.2 p.1 = spec_l01Ends_enc r) := by
 unfold spec_l01Ends at h
 obtain ⟨r5, hx4, h⟩ := bind_some h
 obtain ⟨x6, hx7, h⟩ := bind_some h
 refine Ev.enter (F := fun k => f58 (CN k) k) (fun k => callN_eq rfl Try.func58 rfl rfl rfl (by decide +kernel) (f58_eq _ _)) (sq (Rg (kx (bxI rfl rfl ⟨rfl, rfl, by decide⟩) (kx (mvO rfl) (Rn (hN rfl hZ) fun e1 h3 => sN (sq (Rd (kf (faP h3 ⟨ble rfl, blt rfl⟩ rfl) (kf (ldP rfl rfl) (kf (cvI rfl) (fc (cl (v := .sl (some 2) (r5.map (cI .i64))) rfl rfl rfl (spec_l01Widths_ok  _ hx4) nm) (kf (faP h3 ⟨ble rfl, blt rfl⟩ rfl) (kf (ldP rfl rfl) (kf (ixS rfl rfl hx7 (cI_fl _)) (kf (ldP rfl rfl) (kf (bAdd rfl rfl) (kf (mvO rfl) (fZ (Rn (hN rfl hZ) fun e8 h10 => sN (xx ?_))))))))))))))))))))
 clear h3
 obtain rfl := si h
 exact eR (resT h10 res0) rfl
/-! ### loop.example/g01263/spec.l00In (f43) -/
noncomputable def spec_l00In (a1 : Int) (a2 : Int) (a3 : Int) : Option Bool :=
 if (decide (a1 ≥ a2)) = true then
  some (decide (a1 ≤ a3))
 else
  some false
def spec_l00In_enc (r : Bool) : AV := .bool r
theorem spec_l00In_ok (a1 : Int) (a2 : Int) (a3 : Int) (r : Bool) (h : spec_l00In a1 a2 a3 = some r) : Ev (fun k => CN k 43 [.int .i64 a1, .int .i64 a2, .int .i64 a3] []) (fun p => rRes p.2 p.1 = spec_l00In_enc r) := by
 unfold spec_l00In at h
 refine Ev.enter (F := fun k => f43 (CN k) k) (fun k => callN_eq rfl Try.func43 rfl rfl rfl (by decide +kernel) (f43_eq _ _)) (sq (Rg (kx (mvO rfl) (Rn (hN rfl (hN rfl (hN rfl hZ))) fun e1 h3 h4 h5 => sN (sq (Rg (kx (mvO h3) (kx (mvO h4) (kx (bGeq rfl rfl) (kx (mvO rfl) ?_))))))))))
 rcases ite_some h with ⟨hb6, h⟩ | ⟨hb6, h⟩
 ·refine kx (guT rfl hb6 (mvO h3)) (kx (guT rfl hb6 (mvO h5)) (kx (guT rfl hb6 (bLeq rfl rfl)) (kx (pkT rfl hb6 rfl) (kx (mvO rfl) (Rn (hN rfl hZ) fun e7 h9 => sN (xx ?_))))))
  clear h3 h4 h5
  obtain rfl := si h
  exact eR (resT h9 res0) rfl
 refine kx (gsT rfl hb6) (kx (gsT rfl hb6) (kx (gsT rfl hb6) (kx (pkF rfl hb6 rfl) (kx (mvO rfl) (Rn (hV (.bool false) rfl hZ) fun e10 h12 => sN (xx ?_))))))
 clear h3 h4 h5
 obtain rfl := si h
 exact eR (resT h12 res0) rfl
/-! ### loop.example/g01263/spec.l01Kind (f57) -/
noncomputable def spec_l01Kind (a1 : Int) : Option Bool :=
 (spec_l00In a1 0 5).bind fun r5 =>
 some r5
def spec_l01Kind_enc (r : Bool) : AV := .bool r
theorem spec_l01Kind_ok (a1 : Int) (r : Bool) (h : spec_l01Kind a1 = some r) : Ev (fun k => CN k 57 [.int .i64 a1] []) (fun p => rRes p.2 p.1 = spec_l01Kind_enc r) := by
 unfold spec_l01Kind at h
 obtain ⟨r5, hx4, h⟩ := bind_some h
 refine Ev.enter (F := fun k => f57 (CN k) k) (fun k => callN_eq rfl Try.func57 rfl rfl rfl (by decide +kernel) (f57_eq _ _)) (sq (Rg (kx (mvO rfl) (Rn (hN rfl hZ) fun e1 h3 => sN (sq (Rg (kx (mvO h3) (kc (cl (v := .bool r5) rfl (cns rfl (cns rfl (cns rfl rfl))) rfl (spec_l00In_ok a1 0 5 _ hx4) nm) (kx (mvO rfl) (Rn (hN rfl hZ) fun e6 h8 => sN (xx ?_)))))))))))
 clear h3
 obtain rfl := si h
 exact eR (resT h8 res0) rfl
/-! ### (loop.example/g01263/impl.Notch).end (f56) -/
noncomputable def impl_Notch_end (a1 : Notch) : Option Int :=
 (impl_width (IntKind.i64.wrap a1.Kind)).bind fun r5 =>
 some (IntKind.i64.wrap ((IntKind.i64.wrap a1.At) + r5))
def impl_Notch_end_enc (r : Int) : AV := .int .i64 r
theorem impl_Notch_end_ok (a1 : Notch) (r : Int) (h : impl_Notch_end a1 = some r) : Ev (fun k => CN k 56 [.agg [.int .i8 a1.Kind, .int .i16 a1.At]] []) (fun p => rRes p.2 p.1 = impl_Notch_end_enc r) := by
 unfold impl_Notch_end at h
 obtain ⟨r5, hx4, h⟩ := bind_some h
 refine Ev.enter (F := fun k => f56 (CN k) k) (fun k => callN_eq rfl Try.func56 rfl rfl rfl (by decide +kernel) (f56_eq _ _)) (sq (Rg (kx (bxI rfl rfl ⟨rfl, rfl, by decide⟩) (kx (mvO rfl) (Rn (hN rfl hZ) fun e1 h3 => sN (sq (Rd (kf (faP h3 ⟨ble rfl, blt rfl⟩ rfl) (kf (ldP rfl rfl) (kf (cvI rfl) (kf (faP h3 ⟨ble rfl, blt rfl⟩ rfl) (kf (ldP rfl rfl) (kf (cvI rfl) (fc (cl (v := .int .i64 r5) rfl (cns rfl rfl) rfl (impl_width_ok (IntKind.i64.wrap a1.Kind) _ hx4) nm) (kf (bAdd rfl rfl) (kf (mvO rfl) (fZ (Rn (hN rfl hZ) fun e6 h8 => sN (xx ?_)))))))))))))))))))
 clear h3
 obtain rfl := si h
 exact eR (resT h8 res0) rfl
/-! ### loop.example/g01263/impl.isKind (f55) -/
noncomputable def impl_isKind (a1 : Int) : Option Bool :=
 if (decide (a1 ≥ 0)) = true then
  some (decide (a1 ≤ 5))
 else
  some false
def impl_isKind_enc (r : Bool) : AV := .bool r
theorem impl_isKind_ok (a1 : Int) (r : Bool) (h : impl_isKind a1 = some r) : Ev (fun k => CN k 55 [.int .i64 a1] []) (fun p => rRes p.2 p.1 = impl_isKind_enc r) := by
 unfold impl_isKind at h
 refine Ev.enter (F := fun k => f55 (CN k) k) (fun k => callN_eq rfl Try.func55 rfl rfl rfl (by decide +kernel) (f55_eq _ _)) (sq (Rg (kx (mvO rfl) (Rn (hN rfl hZ) fun e1 h3 => sN (sq (Rg (kx (mvO h3) (kx (bGeq rfl rfl) (kx (mvO rfl) ?_)))))))))
 rcases ite_some h with ⟨hb4, h⟩ | ⟨hb4, h⟩
 ·refine kx (guT rfl hb4 (mvO h3)) (kx (guT rfl hb4 (bLeq rfl rfl)) (kx (pkT rfl hb4 rfl) (kx (mvO rfl) (Rn (hN rfl hZ) fun e5 h7 => sN (xx ?_)))))
  clear h3
  obtain rfl := si h
  exact eR (resT h7 res0) rfl
 refine kx (gsT rfl hb4) (kx (gsT rfl hb4) (kx (pkF rfl hb4 rfl) (kx (mvO rfl) (Rn (hV (.bool false) rfl hZ) fun e8 h10 => sN (xx ?_)))))
 clear h3
 obtain rfl := si h
 exact eR (resT h10 res0) rfl
/-! ### loop.example/g01263/impl.ValidGrain (f54) -/
abbrev impl_ValidGrain_b1_S := Int
abbrev impl_ValidGrain_b1_R := Unit ⊕ Unit
def impl_ValidGrain_b1_RS (a1 : Ar 16 Int) (s : impl_ValidGrain_b1_S) (e : Env) (M : Mem) : Prop := eget e 5 = .agg (arC (cI .i8) 0 a1) ∧ eget e 6 = .int .i64 s
def impl_ValidGrain_b1_RR (a1 : Ar 16 Int) (r : impl_ValidGrain_b1_R) (x : Ex) (e : Env) (M : Mem) : Prop :=
  match r with
  | (.inl g) => x = .ret ∧ eget e 2 = .bool false
  | (.inr g) => x = .ext 0 ∧ True
noncomputable def impl_ValidGrain_b1 (a1 : Ar 16 Int) : impl_ValidGrain_b1_S → Option (impl_ValidGrain_b1_S ⊕ impl_ValidGrain_b1_R) := fun s1_1 =>
 if (decide (s1_1 < 16)) = true then
  (rdA a1 s1_1).bind fun x26 =>
  if (decide (x26 < (-3))) = true then
   some (.inr (.inl ()))
  else
   if (decide (x26 > 3)) = true then
    some (.inr (.inl ()))
   else
    some (.inl (IntKind.i64.wrap (s1_1 + 1)))
 else
  some (.inr (.inr ()))
theorem impl_ValidGrain_b1_ok (a1 : Ar 16 Int) (s : impl_ValidGrain_b1_S) (r : impl_ValidGrain_b1_S ⊕ impl_ValidGrain_b1_R) (h : impl_ValidGrain_b1 a1 s = some r) (e : Env) (M : Mem) (hs : impl_ValidGrain_b1_RS a1 s e M) : Ev (fun k => (f54_l2 (CN k) k (prune [5, 6] e) M).bind fun q => some q) (bQ (impl_ValidGrain_b1_RS a1) (impl_ValidGrain_b1_RR a1) r) := by
 revert h hs
 revert s
 intro s1_1 h hs
 unfold impl_ValidGrain_b1 at h
 obtain ⟨h16, h18⟩ := hs
 generalize he15 : prune [5, 6] e = e14
 have h17 := envp he15.symm rfl h16
 have h19 := envp he15.symm rfl h18
 refine sq (Rg (kx (bLss h19 rfl) (Rn (hV (.agg (arC (cI .i8) 0 a1)) h17 (hV (.int .i64 s1_1) h19 (hN rfl hZ))) fun e20 h22 h23 h24 => sN (sq ?_))))
 clear h17 h19
 rcases ite_some h with ⟨hb25, h⟩ | ⟨hb25, h⟩
 ·obtain ⟨x26, hx27, h⟩ := bind_some h
  refine cT h24 hb25 (xx (sN (sq (bl (sq (Rg (kx (ixA1 (K := AV.int .i8) (c := (cI .i8)) (z := 0) (g := a1) h22 h23 hx27 (fun _ => rfl)) (kx (mvO rfl) (Rn (hN rfl (hA h22 (hA h23 hZ))) fun e28 h30 h31 h32 => sN (sq (Rg (kx (mvO h30) (kx (bLss rfl rfl) (kx (mvO rfl) ?_))))))))))))))
  clear h22 h23 h24
  rcases ite_some h with ⟨hb33, h⟩ | ⟨hb33, h⟩
  ·refine kx (gsF rfl hb33) (kx (gsF rfl hb33) (kx (pkT rfl hb33 rfl) (Rn (hA h31 (hA h32 (hV (.bool true) rfl hZ))) fun e34 h36 h37 h38 => sN (cT h38 rfl (sq (Rg (kx (mvO rfl) (Rn (hV (.bool false) rfl hZ) fun e39 h41 => sN (xx (bR (sR ?_)))))))))))
   clear h30 h31 h32 h36 h37 h38
   obtain rfl := si h
   exact qR ⟨rfl, h41⟩
  refine kx (guF rfl hb33 (mvO h30)) (kx (guF rfl hb33 (bGtr rfl rfl)) (kx (pkF rfl hb33 rfl) (Rn (hA h31 (hA h32 (hN rfl hZ))) fun e42 h44 h45 h46 => sN ?_)))
  clear h30 h31 h32
  rcases ite_some h with ⟨hb47, h⟩ | ⟨hb47, h⟩
  ·refine cT h46 hb47 (sq (Rg (kx (mvO rfl) (Rn (hV (.bool false) rfl hZ) fun e48 h50 => sN (xx (bR (sR ?_)))))))
   clear h44 h45 h46
   obtain rfl := si h
   exact qR ⟨rfl, h50⟩
  refine cF h46 hb47 (xx (bN (sN (Rg (kx (bAdd h45 rfl) (kx (mvO rfl) (Rn (hA h44 (hN rfl hZ)) fun e51 h53 h54 => ?_)))))))
  clear h44 h46
  obtain rfl := si h
  exact qN ⟨h53, h54⟩
 refine cF h24 hb25 (xx (sE ?_))
 obtain rfl := si h
 exact qE ⟨rfl, trivial⟩
noncomputable def impl_ValidGrain (a1 : Ar 16 Int) : Option Bool :=
 (Lw (impl_ValidGrain_b1 a1) 0).bind fun r => match r with
 | (.inl _) =>
  some false
 | (.inr _) =>
  some true
def impl_ValidGrain_enc (r : Bool) : AV := .bool r
theorem impl_ValidGrain_ok (a1 : Ar 16 Int) (r : Bool) (h : impl_ValidGrain a1 = some r) : Ev (fun k => CN k 54 [.agg (arC (cI .i8) 0 a1)] []) (fun p => rRes p.2 p.1 = impl_ValidGrain_enc r) := by
 unfold impl_ValidGrain at h
 obtain ⟨r55, hr56, h⟩ := bind_some h
 refine Ev.enter (F := fun k => f54 (CN k) k) (fun k => callN_eq rfl Try.func54 rfl rfl rfl (by decide +kernel) (f54_eq _ _)) (sq (Rg (kx (bxI rfl rfl ⟨rfl, rfl, by decide⟩) (kx (mvO rfl) (Rn (hN rfl hZ) fun e1 h3 => sN (sq (sq (Rg (kx (ldPA h3 rfl rfl) (kx (mvO rfl) (Rn (hN rfl (hV (.int .i64 0) rfl hZ)) fun e4 h6 h7 => sN (bl ?_))))))))))))
 clear h3
 rcases r55 with _ | _
 ·refine Ev.loop (RS := impl_ValidGrain_b1_RS a1) (RR := impl_ValidGrain_b1_RR a1) (fun s r h e M hs => impl_ValidGrain_b1_ok a1 s r h e M hs) hr56 ⟨h6, h7⟩ fun x e58 M59 hq57 => ?_
  obtain ⟨rfl, h60⟩ := hq57
  refine bR (sR ?_)
  obtain rfl := si h
  exact eR (resT h60 res0) rfl
 refine Ev.loop (RS := impl_ValidGrain_b1_RS a1) (RR := impl_ValidGrain_b1_RR a1) (fun s r h e M hs => impl_ValidGrain_b1_ok a1 s r h e M hs) hr56 ⟨h6, h7⟩ fun x e61 M62 hq57 => ?_
 obtain ⟨rfl, _⟩ := hq57
 refine bE (sN (sq (Rg (kx (mvO rfl) (Rn (hV (.bool true) rfl hZ) fun e63 h65 => sN (xx ?_))))))
 obtain rfl := si h
 exact eR (resT h65 res0) rfl
/-! ### loop.example/g01263/impl.isLetters (f53) -/
abbrev impl_isLetters_b1_S := Int
abbrev impl_isLetters_b1_R := Unit ⊕ Unit
def impl_isLetters_b1_RS (a1 : List UInt8) (a2 : Int) (s : impl_isLetters_b1_S) (e : Env) (M : Mem) : Prop := eget e 0 = .str a1 ∧ eget e 1 = .int .i64 a2 ∧ eget e 7 = .int .i64 (a1.length : Int) ∧ eget e 8 = .int .i64 s
def impl_isLetters_b1_RR (a1 : List UInt8) (a2 : Int) (r : impl_isLetters_b1_R) (x : Ex) (e : Env) (M : Mem) : Prop :=
  match r with
  | (.inl g) => x = .ret ∧ eget e 4 = .bool false
  | (.inr g) => x = .ext 0 ∧ eget e 0 = .str a1 ∧ eget e 1 = .int .i64 a2
noncomputable def impl_isLetters_b1 (a1 : List UInt8) : impl_isLetters_b1_S → Option (impl_isLetters_b1_S ⊕ impl_isLetters_b1_R) := fun s1_1 =>
 if (decide (s1_1 < (a1.length : Int))) = true then
  (rd a1 s1_1).bind fun x46 =>
  if (decide ((x46.toNat : Int) < 97)) = true then
   some (.inr (.inl ()))
  else
   (rd a1 s1_1).bind fun x59 =>
   if (decide ((x59.toNat : Int) > 122)) = true then
    some (.inr (.inl ()))
   else
    some (.inl (IntKind.i64.wrap (s1_1 + 1)))
 else
  some (.inr (.inr ()))
theorem impl_isLetters_b1_ok (a1 : List UInt8) (a2 : Int) (s : impl_isLetters_b1_S) (r : impl_isLetters_b1_S ⊕ impl_isLetters_b1_R) (h : impl_isLetters_b1 a1 s = some r) (e : Env) (M : Mem) (hs : impl_isLetters_b1_RS a1 a2 s e M) : Ev (fun k => (f53_l2 (CN k) k (prune [0, 1, 7, 8] e) M).bind fun q => some q) (bQ (impl_isLetters_b1_RS a1 a2) (impl_isLetters_b1_RR a1 a2) r) := by
 revert h hs
 revert s
 intro s1_1 h hs
 unfold impl_isLetters_b1 at h
 obtain ⟨h23, h25, h27, h29⟩ := hs
 generalize he22 : prune [0, 1, 7, 8] e = e21
 have h24 := envp he22.symm rfl h23
 have h26 := envp he22.symm rfl h25
 have h28 := envp he22.symm rfl h27
 have h30 := envp he22.symm rfl h29
 refine sq (Rg (kx (bLss h30 h28) (Rn (hV (.str a1) h24 (hV (.int .i64 a2) h26 (hV (.int .i64 (a1.length : Int)) h28 (hV (.int .i64 s1_1) h30 (hN rfl hZ))))) fun e31 h33 h34 h35 h36 h37 => sN (sq ?_))))
 clear h24 h26 h28 h30
 rcases ite_some h with ⟨hb38, h⟩ | ⟨hb38, h⟩
 ·obtain ⟨x46, hx47, h⟩ := bind_some h
  refine cT h37 hb38 (xx (sN (sq (bl (sq (Rg (kx (mvO h36) (kx (mvO rfl) (Rn (hA h33 (hA h34 (hN rfl (hA h35 (hA h36 hZ))))) fun e39 h41 h42 h43 h44 h45 => sN (sq (Rg (kx (mvO h41) (kx (mvO h43) (kx (ixB rfl rfl hx47) (kx (bLss rfl rfl) (kx (mvO rfl) ?_))))))))))))))))
  clear h33 h34 h35 h36 h37
  rcases ite_some h with ⟨hb48, h⟩ | ⟨hb48, h⟩
  ·refine kx (gsF rfl hb48) (kx (gsF rfl hb48) (kx (gsF rfl hb48) (kx (gsF rfl hb48) (kx (pkT rfl hb48 rfl) (Rn (hA h41 (hA h42 (hA h44 (hA h45 (hV (.bool true) rfl hZ))))) fun e49 h51 h52 h53 h54 h55 => sN (cT h55 rfl (sq (Rg (kx (mvO rfl) (Rn (hV (.bool false) rfl hZ) fun e56 h58 => sN (xx (bR (sR ?_)))))))))))))
   clear h41 h42 h43 h44 h45 h51 h52 h53 h54 h55
   obtain rfl := si h
   exact qR ⟨rfl, h58⟩
  obtain ⟨x59, hx60, h⟩ := bind_some h
  refine kx (guF rfl hb48 (mvO h41)) (kx (guF rfl hb48 (mvO h43)) (kx (guF rfl hb48 (ixB rfl rfl hx60)) (kx (guF rfl hb48 (bGtr rfl rfl)) (kx (pkF rfl hb48 rfl) (Rn (hA h41 (hA h42 (hA h44 (hA h45 (hN rfl hZ))))) fun e61 h63 h64 h65 h66 h67 => sN ?_)))))
  clear h41 h42 h43 h44 h45
  rcases ite_some h with ⟨hb68, h⟩ | ⟨hb68, h⟩
  ·refine cT h67 hb68 (sq (Rg (kx (mvO rfl) (Rn (hV (.bool false) rfl hZ) fun e69 h71 => sN (xx (bR (sR ?_)))))))
   clear h63 h64 h65 h66 h67
   obtain rfl := si h
   exact qR ⟨rfl, h71⟩
  refine cF h67 hb68 (xx (bN (sN (Rg (kx (bAdd h66 rfl) (kx (mvO rfl) (Rn (hA h63 (hA h64 (hA h65 (hN rfl hZ)))) fun e72 h74 h75 h76 h77 => ?_)))))))
  clear h63 h64 h65 h67
  obtain rfl := si h
  exact qN ⟨h74, h75, h76, h77⟩
 refine cF h37 hb38 (xx (sE ?_))
 obtain rfl := si h
 exact qE ⟨rfl, h33, h34⟩
noncomputable def impl_isLetters (a1 : List UInt8) (a2 : Int) : Option Bool :=
 (Lw (impl_isLetters_b1 a1) 0).bind fun r => match r with
 | (.inl _) =>
  some false
 | (.inr _) =>
  if (decide ((a1.length : Int) ≥ 1)) = true then
   some (decide ((a1.length : Int) ≤ a2))
  else
   some false
def impl_isLetters_enc (r : Bool) : AV := .bool r
theorem impl_isLetters_ok (a1 : List UInt8) (a2 : Int) (r : Bool) (h : impl_isLetters a1 a2 = some r) : Ev (fun k => CN k 53 [.str a1, .int .i64 a2] []) (fun p => rRes p.2 p.1 = impl_isLetters_enc r) := by
 unfold impl_isLetters at h
 obtain ⟨r78, hr79, h⟩ := bind_some h
 refine Ev.enter (F := fun k => f53 (CN k) k) (fun k => callN_eq rfl Try.func53 rfl rfl rfl (by decide +kernel) (f53_eq _ _)) (sq (Rg (kx (mvO rfl) (Rn (hN rfl (hN rfl hZ)) fun e1 h3 h4 => sN (sq (sq (Rg (kx (mvO h3) (kx (lnB Try.underlying9 rfl) (kx (mvO rfl) (Rn (hA h3 (hA h4 (hN rfl (hV (.int .i64 0) rfl hZ)))) fun e5 h7 h8 h9 h10 => sN (bl ?_))))))))))))
 clear h3 h4
 rcases r78 with _ | _
 ·refine Ev.loop (RS := impl_isLetters_b1_RS a1 a2) (RR := impl_isLetters_b1_RR a1 a2) (fun s r h e M hs => impl_isLetters_b1_ok a1 a2 s r h e M hs) hr79 ⟨h7, h8, h9, h10⟩ fun x e81 M82 hq80 => ?_
  obtain ⟨rfl, h83⟩ := hq80
  refine bR (sR ?_)
  obtain rfl := si h
  exact eR (resT h83 res0) rfl
 refine Ev.loop (RS := impl_isLetters_b1_RS a1 a2) (RR := impl_isLetters_b1_RR a1 a2) (fun s r h e M hs => impl_isLetters_b1_ok a1 a2 s r h e M hs) hr79 ⟨h7, h8, h9, h10⟩ fun x e84 M85 hq80 => ?_
 obtain ⟨rfl, h86, h87⟩ := hq80
 refine bE (sN (sq (Rg (kx (mvO h86) (kx (lnB Try.underlying9 rfl) (kx (bGeq rfl rfl) (kx (mvO rfl) ?_)))))))
 rcases ite_some h with ⟨hb88, h⟩ | ⟨hb88, h⟩
 ·refine kx (guT rfl hb88 (mvO h86)) (kx (guT rfl hb88 (lnB Try.underlying9 rfl)) (kx (guT rfl hb88 (mvO h87)) (kx (guT rfl hb88 (bLeq rfl rfl)) (kx (pkT rfl hb88 rfl) (kx (mvO rfl) (Rn (hN rfl hZ) fun e89 h91 => sN (xx ?_)))))))
  clear h86 h87
  obtain rfl := si h
  exact eR (resT h91 res0) rfl
 refine kx (gsT rfl hb88) (kx (gsT rfl hb88) (kx (gsT rfl hb88) (kx (gsT rfl hb88) (kx (pkF rfl hb88 rfl) (kx (mvO rfl) (Rn (hV (.bool false) rfl hZ) fun e92 h94 => sN (xx ?_)))))))
 clear h86 h87
 obtain rfl := si h
 exact eR (resT h94 res0) rfl
/-! ### loop.example/g01263/spec.l01Grain (f52) -/
abbrev spec_l01Grain_b1_S := Int
abbrev spec_l01Grain_b1_R := Unit ⊕ Unit
def spec_l01Grain_b1_RS (a1 : Ar 16 Int) (s : spec_l01Grain_b1_S) (e : Env) (M : Mem) : Prop := eget e 1 = .pt none (arC (cI .i8) 0 a1) ∧ eget e 3 = .int .i64 s
def spec_l01Grain_b1_RR (a1 : Ar 16 Int) (r : spec_l01Grain_b1_R) (x : Ex) (e : Env) (M : Mem) : Prop :=
  match r with
  | (.inl g) => x = .ret ∧ eget e 2 = .bool false
  | (.inr g) => x = .ext 0 ∧ True
noncomputable def spec_l01Grain_b1 (a1 : Ar 16 Int) : spec_l01Grain_b1_S → Option (spec_l01Grain_b1_S ⊕ spec_l01Grain_b1_R) := fun s1_1 =>
 if (decide (s1_1 < 16)) = true then
  (rdA a1 s1_1).bind fun x26 =>
  if (decide (x26 < (-3))) = true then
   some (.inr (.inl ()))
  else
   (rdA a1 s1_1).bind fun x37 =>
   if (decide (x37 > 3)) = true then
    some (.inr (.inl ()))
   else
    some (.inl (IntKind.i64.wrap (s1_1 + 1)))
 else
  some (.inr (.inr ()))
theorem spec_l01Grain_b1_ok (a1 : Ar 16 Int) (s : spec_l01Grain_b1_S) (r : spec_l01Grain_b1_S ⊕ spec_l01Grain_b1_R) (h : spec_l01Grain_b1 a1 s = some r) (e : Env) (M : Mem) (hs : spec_l01Grain_b1_RS a1 s e M) : Ev (fun k => (f52_l2 (CN k) k (prune [1, 3] e) M).bind fun q => some q) (bQ (spec_l01Grain_b1_RS a1) (spec_l01Grain_b1_RR a1) r) := by
 revert h hs
 revert s
 intro s1_1 h hs
 unfold spec_l01Grain_b1 at h
 obtain ⟨h16, h18⟩ := hs
 generalize he15 : prune [1, 3] e = e14
 have h17 := envp he15.symm rfl h16
 have h19 := envp he15.symm rfl h18
 refine sq (sq (Rg (kx (mvO h19) (kx (bLss rfl rfl) (Rn (hV (.pt none (arC (cI .i8) 0 a1)) h17 (hV (.int .i64 s1_1) h19 (hN rfl hZ))) fun e20 h22 h23 h24 => sN ?_)))))
 clear h17 h19
 rcases ite_some h with ⟨hb25, h⟩ | ⟨hb25, h⟩
 ·obtain ⟨x26, hx27, h⟩ := bind_some h
  refine cT h24 hb25 (xx (sN (sq (bl (sq (Rg (kx (mvO h23) (kx (ixPA (c := (cI .i8)) (z := 0) (g := a1) h22 rfl hx27 (fun _ => rfl)) (kx (ldP rfl rfl) (kx (bLss rfl rfl) (kx (mvO rfl) ?_)))))))))))
  rcases ite_some h with ⟨hb28, h⟩ | ⟨hb28, h⟩
  ·refine kx (gsF rfl hb28) (kx (gsF rfl hb28) (kx (gsF rfl hb28) (kx (gsF rfl hb28) (kx (pkT rfl hb28 rfl) (Rn (hA h22 (hA h23 (hV (.bool true) rfl hZ))) fun e29 h31 h32 h33 => sN (cT h33 rfl (sq (Rg (kx (mvO rfl) (Rn (hV (.bool false) rfl hZ) fun e34 h36 => sN (xx (bR (sR ?_)))))))))))))
   clear h22 h23 h24 h31 h32 h33
   obtain rfl := si h
   exact qR ⟨rfl, h36⟩
  obtain ⟨x37, hx38, h⟩ := bind_some h
  refine kx (guF rfl hb28 (mvO h23)) (kx (guF rfl hb28 (ixPA (c := (cI .i8)) (z := 0) (g := a1) h22 rfl hx38 (fun _ => rfl))) (kx (guF rfl hb28 (ldP rfl rfl)) (kx (guF rfl hb28 (bGtr rfl rfl)) (kx (pkF rfl hb28 rfl) (Rn (hA h22 (hA h23 (hN rfl hZ))) fun e39 h41 h42 h43 => sN ?_)))))
  clear h22 h23 h24
  rcases ite_some h with ⟨hb44, h⟩ | ⟨hb44, h⟩
  ·refine cT h43 hb44 (sq (Rg (kx (mvO rfl) (Rn (hV (.bool false) rfl hZ) fun e45 h47 => sN (xx (bR (sR ?_)))))))
   clear h41 h42 h43
   obtain rfl := si h
   exact qR ⟨rfl, h47⟩
  refine cF h43 hb44 (xx (bN (sN (Rg (kx (mvO h42) (kx (bAdd rfl rfl) (kx (mvO rfl) (Rn (hA h41 (hN rfl hZ)) fun e48 h50 h51 => ?_))))))))
  clear h41 h43
  obtain rfl := si h
  exact qN ⟨h50, h51⟩
 refine cF h24 hb25 (xx (sE ?_))
 obtain rfl := si h
 exact qE ⟨rfl, trivial⟩
noncomputable def spec_l01Grain (a1 : Ar 16 Int) : Option Bool :=
 (Lw (spec_l01Grain_b1 a1) 0).bind fun r => match r with
 | (.inl _) =>
  some false
 | (.inr _) =>
  some true
def spec_l01Grain_enc (r : Bool) : AV := .bool r
theorem spec_l01Grain_ok (a1 : Ar 16 Int) (r : Bool) (h : spec_l01Grain a1 = some r) : Ev (fun k => CN k 52 [.agg (arC (cI .i8) 0 a1)] []) (fun p => rRes p.2 p.1 = spec_l01Grain_enc r) := by
 unfold spec_l01Grain at h
 obtain ⟨r52, hr53, h⟩ := bind_some h
 refine Ev.enter (F := fun k => f52 (CN k) k) (fun k => callN_eq rfl Try.func52 rfl rfl rfl (by decide +kernel) (f52_eq _ _)) (sq (Rg (kx (bxI rfl rfl ⟨rfl, rfl, by decide⟩) (kx (mvO rfl) (Rn (hN rfl hZ) fun e1 h3 => sN (sq (sq (Rg (kx (mvO rfl) (Rn (hA h3 (hV (.int .i64 0) rfl hZ)) fun e4 h6 h7 => sN (bl ?_)))))))))))
 clear h3
 rcases r52 with _ | _
 ·refine Ev.loop (RS := spec_l01Grain_b1_RS a1) (RR := spec_l01Grain_b1_RR a1) (fun s r h e M hs => spec_l01Grain_b1_ok a1 s r h e M hs) hr53 ⟨h6, h7⟩ fun x e55 M56 hq54 => ?_
  obtain ⟨rfl, h57⟩ := hq54
  refine bR (sR ?_)
  obtain rfl := si h
  exact eR (resT h57 res0) rfl
 refine Ev.loop (RS := spec_l01Grain_b1_RS a1) (RR := spec_l01Grain_b1_RR a1) (fun s r h e M hs => spec_l01Grain_b1_ok a1 s r h e M hs) hr53 ⟨h6, h7⟩ fun x e58 M59 hq54 => ?_
 obtain ⟨rfl, _⟩ := hq54
 refine bE (sN (sq (Rg (kx (mvO rfl) (Rn (hV (.bool true) rfl hZ) fun e60 h62 => sN (xx ?_))))))
 obtain rfl := si h
 exact eR (resT h62 res0) rfl
/-! ### loop.example/g01263/spec.l01Notches (f51) -/
def spec_l01Notches_c2_Q (a1 : List Notch) (s1_1 : Int) (x34 : Notch) (i902_1 : Nat) (g : Bool) (q : Out) : Prop := q.1 = .nrm ∧ eget q.2.1 0 = .sl none (a1.map Notch.c) ∧ eget q.2.1 3 = .int .i64 s1_1 ∧ eget q.2.1 4 = .loc i902_1 1 0 0 ∧ eget q.2.1 32 = .bool g ∧ q.2.2[i902_1]? = some (.live ⟨.box, 90, 2, [[.int .i8 x34.Kind, .int .i16 x34.At]]⟩)
abbrev spec_l01Notches_b1_S := Int
abbrev spec_l01Notches_b1_R := Unit ⊕ Unit
def spec_l01Notches_b1_RS (a1 : List Notch) (s : spec_l01Notches_b1_S) (e : Env) (M : Mem) : Prop := eget e 0 = .sl none (a1.map Notch.c) ∧ eget e 3 = .int .i64 s
def spec_l01Notches_b1_RR (a1 : List Notch) (r : spec_l01Notches_b1_R) (x : Ex) (e : Env) (M : Mem) : Prop :=
  match r with
  | (.inl g) => x = .ret ∧ eget e 2 = .bool false
  | (.inr g) => x = .ext 0 ∧ True
noncomputable def spec_l01Notches_b1 (a1 : List Notch) : spec_l01Notches_b1_S → Option (spec_l01Notches_b1_S ⊕ spec_l01Notches_b1_R) := fun s1_1 =>
 if (decide (s1_1 < (a1.length : Int))) = true then
  (rd a1 s1_1).bind fun x34 =>
  ((spec_l01Kind (IntKind.i64.wrap x34.Kind)).bind fun r49 =>
  if r49 = true then
   if (decide (x34.At < 0)) = true then
    some true
   else
    (spec_l01Ends x34).bind fun r59 =>
    some (decide (r59 > 200))
  else
   some true).bind fun y74 =>
  if y74 = true then
   some (.inr (.inl ()))
  else
   if (decide (s1_1 > 0)) = true then
    (rd a1 (IntKind.i64.wrap (s1_1 - 1))).bind fun x85 =>
    if (decide (x34.Kind > x85.Kind)) = true then
     some (.inr (.inl ()))
    else
     (rd a1 (IntKind.i64.wrap (s1_1 - 1))).bind fun x96 =>
     (spec_l01Ends x96).bind fun r99 =>
     if (decide ((IntKind.i64.wrap x34.At) ≤ r99)) = true then
      some (.inr (.inl ()))
     else
      some (.inl (IntKind.i64.wrap (s1_1 + 1)))
   else
    some (.inl (IntKind.i64.wrap (s1_1 + 1)))
 else
  some (.inr (.inr ()))
theorem spec_l01Notches_b1_ok (a1 : List Notch) (s : spec_l01Notches_b1_S) (r : spec_l01Notches_b1_S ⊕ spec_l01Notches_b1_R) (h : spec_l01Notches_b1 a1 s = some r) (e : Env) (M : Mem) (hs : spec_l01Notches_b1_RS a1 s e M) : Ev (fun k => (f51_l4 (CN k) k (prune [0, 3] e) M).bind fun q => some q) (bQ (spec_l01Notches_b1_RS a1) (spec_l01Notches_b1_RR a1) r) := by
 revert h hs
 revert s
 intro s1_1 h hs
 unfold spec_l01Notches_b1 at h
 obtain ⟨h24, h26⟩ := hs
 generalize he23 : prune [0, 3] e = e22
 have h25 := envp he23.symm rfl h24
 have h27 := envp he23.symm rfl h26
 refine sq (sq (Rg (kx (mvO h27) (kx (mvO h25) (kx (lnS Try.underlying33 rfl) (kx (bLss rfl rfl) (Rn (hV (.sl none (a1.map Notch.c)) h25 (hV (.int .i64 s1_1) h27 (hN rfl hZ))) fun e28 h30 h31 h32 => sN ?_)))))))
 clear h25 h27
 rcases ite_some h with ⟨hb33, h⟩ | ⟨hb33, h⟩
 ·obtain ⟨x34, hx35, h⟩ := bind_some h
  refine cT h32 hb33 (xx (sN (sq (bl (sq (Rg (kx (mvO h30) (kx (mvO h31) (kx (ixS rfl rfl hx35 Notch.fl) (kx (ldPA rfl rfl rfl) (ku (alO zero90) fun M37 hM38 => ?_)))))))))))
  have o39 : M37[M.length]? = some (.live ⟨.box, 90, 2, [[.int .i8 0, .int .i16 0]]⟩) := push_new hM38
  refine kw (stO rfl rfl o39 rfl rfl ⟨rfl, ble rfl⟩ rfl rfl) fun M40 hM41 => ?_
  have o42 : M40[M.length]? = some (.live ⟨.box, 90, 2, [[.int .i8 x34.Kind, .int .i16 x34.At]]⟩) := set_same hM41 o39
  obtain ⟨r123, hr124, h⟩ := bind_some h
  refine Rn (hA h30 (hA h31 (hV (.loc M.length 1 0 0) rfl hZ))) fun e43 h45 h46 h47 => sN (sq (sq ?_))
  clear h30 h31 h32
  refine Ev.cut (Q1 := spec_l01Notches_c2_Q a1 s1_1 x34 M.length r123) (by
      have h := hr124
      obtain ⟨r49, hx48, h⟩ := bind_some h
      refine Rg (kx (faO h47 o42 rfl) (kx (ldO rfl o42 rfl rfl rfl) (kx (cvI rfl) (kc (cl (v := .bool r49) rfl (cns rfl rfl) rfl (spec_l01Kind_ok (IntKind.i64.wrap x34.Kind) _ hx48) nm) (kx (uNot rfl) (kx (mvO rfl) ?_))))))
      rcases ite_some h with ⟨hb50, h⟩ | ⟨hb50, h⟩
      ·refine kx (guF rfl (congrArg Bool.not hb50) (faO h47 o42 rfl)) (kx (guF rfl (congrArg Bool.not hb50) (ldO rfl o42 rfl rfl rfl)) (kx (guF rfl (congrArg Bool.not hb50) (bLss rfl rfl)) (kx (pkF rfl (congrArg Bool.not hb50) rfl) (kx (mvO rfl) ?_))))
       rcases ite_some h with ⟨hb51, h⟩ | ⟨hb51, h⟩
       ·refine kx (gsF rfl hb51) (kc (Ev.gsF rfl hb51) (kx (gsF rfl hb51) (kx (pkT rfl hb51 rfl) (Rn (hA h45 (hA h46 (hA h47 (hV (.bool true) rfl hZ)))) fun e52 h54 h55 h56 h57 => ?_))))
        clear h45 h46 h47
        obtain rfl := si h
        exact kd (show spec_l01Notches_c2_Q a1 s1_1 x34 M.length _ _ from ⟨rfl, h54, h55, h56, h57, o42⟩)
       obtain ⟨r59, hx58, h⟩ := bind_some h
       refine kx (guF rfl hb51 (ldOA h47 o42 rfl rfl (ble rfl) rfl)) (kc (Ev.guF rfl hb51 (cl (v := .int .i64 r59) rfl (cns rfl rfl) rfl (spec_l01Ends_ok x34 _ hx58) nm)) (kx (guF rfl hb51 (bGtr rfl rfl)) (kx (pkF rfl hb51 rfl) (Rn (hA h45 (hA h46 (hA h47 (hN rfl hZ)))) fun e60 h62 h63 h64 h65 => ?_))))
       clear h45 h46 h47
       obtain rfl := si h
       exact kd (show spec_l01Notches_c2_Q a1 s1_1 x34 M.length _ _ from ⟨rfl, h62, h63, h64, h65, o42⟩)
      refine kx (gsF rfl (congrArg Bool.not hb50)) (kx (gsF rfl (congrArg Bool.not hb50)) (kx (gsF rfl (congrArg Bool.not hb50)) (kx (pkT rfl (congrArg Bool.not hb50) rfl) (kx (mvO rfl) (kx (gsF rfl rfl) (kc (Ev.gsF rfl rfl) (kx (gsF rfl rfl) (kx (pkT rfl rfl rfl) (Rn (hA h45 (hA h46 (hA h47 (hV (.bool true) rfl hZ)))) fun e66 h68 h69 h70 h71 => ?_)))))))))
      clear h45 h46 h47
      obtain rfl := si h
      exact kd (show spec_l01Notches_c2_Q a1 s1_1 x34 M.length _ _ from ⟨rfl, h68, h69, h70, h71, o42⟩)) ?_
  revert h hr124
  revert r123
  intro y74 hr124 h
  intro x e72 M73 hq122
  obtain ⟨rfl, h75, h76, h77, h78, o79⟩ := hq122
  refine sN ?_
  rcases ite_some h with ⟨hb80, h⟩ | ⟨hb80, h⟩
  ·refine cT h78 hb80 (sq (Rg (kx (mvO rfl) (Rn (hV (.bool false) rfl hZ) fun e81 h83 => sN (xx (sR (bR (sR ?_))))))))
   clear h75 h76 h77 h78
   obtain rfl := si h
   exact qR ⟨rfl, h83⟩
  refine cF h78 hb80 (xx (sN (sq (Rd (kf (mvO h76) (kf (bGtr rfl rfl) (kf (mvO rfl) ?_)))))))
  rcases ite_some h with ⟨hb84, h⟩ | ⟨hb84, h⟩
  ·obtain ⟨x85, hx86, h⟩ := bind_some h
   refine kf (guT rfl hb84 (faO h77 o79 rfl)) (kf (guT rfl hb84 (ldO rfl o79 rfl rfl rfl)) (kf (guT rfl hb84 (mvO h75)) (kf (guT rfl hb84 (mvO h76)) (kf (guT rfl hb84 (bSub rfl rfl)) (kf (guT rfl hb84 (ixS rfl rfl hx86 Notch.fl)) (kf (guT rfl hb84 (faP rfl ⟨ble rfl, blt rfl⟩ rfl)) (kf (guT rfl hb84 (ldP rfl rfl)) (kf (guT rfl hb84 (bGtr rfl rfl)) (kf (guT rfl hb84 (mvO rfl)) ?_)))))))))
   rcases ite_some h with ⟨hb87, h⟩ | ⟨hb87, h⟩
   ·refine kf (gsF rfl hb87) (kf (gsF rfl hb87) (kf (gsF rfl hb87) (kf (gsF rfl hb87) (kf (gsF rfl hb87) (kf (gsF rfl hb87) (kf (gsF rfl hb87) (kf (gsF rfl hb87) (fc (Ev.gsF rfl hb87) (kf (gsF rfl hb87) (kf (guT rfl hb84 (pkT rfl hb87 rfl)) (kf (pkT rfl hb84 rfl) (fZ (Rn (hV (.sl none (a1.map Notch.c)) h75 (hV (.int .i64 s1_1) h76 (hV (.bool true) rfl hZ))) fun e88 h90 h91 h92 => sN (cT h92 rfl (sq (Rg (kx (mvO rfl) (Rn (hV (.bool false) rfl hZ) fun e93 h95 => sN (xx (bR (sR ?_)))))))))))))))))))))
    clear h75 h76 h77 h78 h90 h91 h92
    obtain rfl := si h
    exact qR ⟨rfl, h95⟩
   obtain ⟨x96, hx97, h⟩ := bind_some h
   obtain ⟨r99, hx98, h⟩ := bind_some h
   refine kf (guF rfl hb87 (faO h77 o79 rfl)) (kf (guF rfl hb87 (ldO rfl o79 rfl rfl rfl)) (kf (guF rfl hb87 (cvI rfl)) (kf (guF rfl hb87 (mvO h75)) (kf (guF rfl hb87 (mvO h76)) (kf (guF rfl hb87 (bSub rfl rfl)) (kf (guF rfl hb87 (ixS rfl rfl hx97 Notch.fl)) (kf (guF rfl hb87 (ldPA rfl rfl rfl)) (fc (Ev.guF rfl hb87 (cl (v := .int .i64 r99) rfl (cns rfl rfl) rfl (spec_l01Ends_ok x96 _ hx98) nm)) (kf (guF rfl hb87 (bLeq rfl rfl)) (kf (guT rfl hb84 (pkF rfl hb87 rfl)) (kf (pkT rfl hb84 rfl) (fZ (Rn (hV (.sl none (a1.map Notch.c)) h75 (hV (.int .i64 s1_1) h76 (hN rfl hZ))) fun e100 h102 h103 h104 => sN ?_)))))))))))))
   clear h75 h76 h77 h78
   rcases ite_some h with ⟨hb105, h⟩ | ⟨hb105, h⟩
   ·refine cT h104 hb105 (sq (Rg (kx (mvO rfl) (Rn (hV (.bool false) rfl hZ) fun e106 h108 => sN (xx (bR (sR ?_)))))))
    clear h102 h103 h104
    obtain rfl := si h
    exact qR ⟨rfl, h108⟩
   refine cF h104 hb105 (xx (bN (sN (Rg (kx (mvO h103) (kx (bAdd rfl rfl) (kx (mvO rfl) (Rn (hA h102 (hN rfl hZ)) fun e109 h111 h112 => ?_))))))))
   clear h102 h104
   obtain rfl := si h
   exact qN ⟨h111, h112⟩
  refine kf (gsT rfl hb84) (kf (gsT rfl hb84) (kf (gsT rfl hb84) (kf (gsT rfl hb84) (kf (gsT rfl hb84) (kf (gsT rfl hb84) (kf (gsT rfl hb84) (kf (gsT rfl hb84) (kf (gsT rfl hb84) (kf (gsT rfl hb84) (kf (gsU rfl) (kf (gsU rfl) (kf (gsU rfl) (kf (gsU rfl) (kf (gsU rfl) (kf (gsU rfl) (kf (gsU rfl) (kf (gsU rfl) (fc (Ev.gsU rfl) (kf (gsU rfl) (kf (gsT rfl hb84) (kf (pkF rfl hb84 rfl) (fZ (Rn (hV (.sl none (a1.map Notch.c)) h75 (hV (.int .i64 s1_1) h76 (hV (.bool false) rfl hZ))) fun e113 h115 h116 h117 => sN (cF h117 rfl (xx (bN (sN (Rg (kx (mvO h116) (kx (bAdd rfl rfl) (kx (mvO rfl) (Rn (hA h115 (hN rfl hZ)) fun e118 h120 h121 => ?_))))))))))))))))))))))))))))))))
  clear h75 h76 h77 h78 h115 h117
  obtain rfl := si h
  exact qN ⟨h120, h121⟩
 refine cF h32 hb33 (xx (sE ?_))
 obtain rfl := si h
 exact qE ⟨rfl, trivial⟩
noncomputable def spec_l01Notches (a1 : List Notch) : Option Bool :=
 if (decide ((a1.length : Int) > 60)) = true then
  some false
 else
  (Lw (spec_l01Notches_b1 a1) 0).bind fun r => match r with
  | (.inl _) =>
   some false
  | (.inr _) =>
   some true
def spec_l01Notches_enc (r : Bool) : AV := .bool r
theorem spec_l01Notches_ok (a1 : List Notch) (r : Bool) (h : spec_l01Notches a1 = some r) : Ev (fun k => CN k 51 [.sl none (a1.map Notch.c)] []) (fun p => rRes p.2 p.1 = spec_l01Notches_enc r) := by
 unfold spec_l01Notches at h
 refine Ev.enter (F := fun k => f51 (CN k) k) (fun k => callN_eq rfl Try.func51 rfl rfl rfl (by decide +kernel) (f51_eq _ _)) (sq (Rg (kx (mvO rfl) (Rn (hN rfl hZ) fun e1 h3 => sN (sq (sq (Rg (kx (mvO h3) (kx (lnS Try.underlying33 rfl) (kx (bGtr rfl rfl) (Rn (hA h3 (hN rfl hZ)) fun e4 h6 h7 => sN ?_)))))))))))
 clear h3
 rcases ite_some h with ⟨hb8, h⟩ | ⟨hb8, h⟩
 ·refine cT h7 hb8 (sq (Rg (kx (mvO rfl) (Rn (hV (.bool false) rfl hZ) fun e9 h11 => sN (xx (sR ?_))))))
  clear h6 h7
  obtain rfl := si h
  exact eR (resT h11 res0) rfl
 obtain ⟨r125, hr126, h⟩ := bind_some h
 refine cF h7 hb8 (xx (sN (sq (sq (Rg (kx (mvO rfl) (Rn (hA h6 (hV (.int .i64 0) rfl hZ)) fun e12 h14 h15 => sN (bl ?_))))))))
 clear h6 h7
 rcases r125 with _ | _
 ·refine Ev.loop (RS := spec_l01Notches_b1_RS a1) (RR := spec_l01Notches_b1_RR a1) (fun s r h e M hs => spec_l01Notches_b1_ok a1 s r h e M hs) hr126 ⟨h14, h15⟩ fun x e128 M129 hq127 => ?_
  obtain ⟨rfl, h130⟩ := hq127
  refine bR (sR ?_)
  obtain rfl := si h
  exact eR (resT h130 res0) rfl
 refine Ev.loop (RS := spec_l01Notches_b1_RS a1) (RR := spec_l01Notches_b1_RR a1) (fun s r h e M hs => spec_l01Notches_b1_ok a1 s r h e M hs) hr126 ⟨h14, h15⟩ fun x e131 M132 hq127 => ?_
 obtain ⟨rfl, _⟩ := hq127
 refine bE (sN (sq (Rg (kx (mvO rfl) (Rn (hV (.bool true) rfl hZ) fun e133 h135 => sN (xx ?_))))))
 obtain rfl := si h
 exact eR (resT h135 res0) rfl
/-! ### loop.example/g01263/laws.eqNotch (f50) -/
noncomputable def laws_eqNotch (a1 : Notch) (a2 : Notch) : Option Bool :=
 if (a1.Kind != a2.Kind) = true then
  some false
 else
  if (a1.At != a2.At) = true then
   some false
  else
   some true
def laws_eqNotch_enc (r : Bool) : AV := .bool r
theorem laws_eqNotch_ok (a1 : Notch) (a2 : Notch) (r : Bool) (h : laws_eqNotch a1 a2 = some r) : Ev (fun k => CN k 50 [.agg [.int .i8 a1.Kind, .int .i16 a1.At], .agg [.int .i8 a2.Kind, .int .i16 a2.At]] []) (fun p => rRes p.2 p.1 = laws_eqNotch_enc r) := by
 unfold laws_eqNotch at h
 refine Ev.enter (F := fun k => f50 (CN k) k) (fun k => callN_eq rfl Try.func50 rfl rfl rfl (by decide +kernel) (f50_eq _ _)) (sq (Rg (kx (bxI rfl rfl ⟨rfl, rfl, by decide⟩) (kx (bxI rfl rfl ⟨rfl, rfl, by decide⟩) (kx (mvO rfl) (Rn (hN rfl (hN rfl hZ)) fun e1 h3 h4 => sN (sq (sq (Rg (kx (faP h3 ⟨ble rfl, blt rfl⟩ rfl) (kx (ldP rfl rfl) (kx (faP h4 ⟨ble rfl, blt rfl⟩ rfl) (kx (ldP rfl rfl) (kx (bNeq rfl rfl) (Rn (hA h3 (hA h4 (hN rfl hZ))) fun e5 h7 h8 h9 => sN ?_)))))))))))))))
 clear h3 h4
 rcases ite_some h with ⟨hb10, h⟩ | ⟨hb10, h⟩
 ·refine cT h9 hb10 (sq (Rg (kx (mvO rfl) (Rn (hV (.bool false) rfl hZ) fun e11 h13 => sN (xx (sR ?_))))))
  clear h7 h8 h9
  obtain rfl := si h
  exact eR (resT h13 res0) rfl
 refine cF h9 hb10 (xx (sN (sq (sq (Rg (kx (faP h7 ⟨ble rfl, blt rfl⟩ rfl) (kx (ldP rfl rfl) (kx (faP h8 ⟨ble rfl, blt rfl⟩ rfl) (kx (ldP rfl rfl) (kx (bNeq rfl rfl) (Rn (hN rfl hZ) fun e14 h16 => sN ?_)))))))))))
 clear h7 h8 h9
 rcases ite_some h with ⟨hb17, h⟩ | ⟨hb17, h⟩
 ·refine cT h16 hb17 (sq (Rg (kx (mvO rfl) (Rn (hV (.bool false) rfl hZ) fun e18 h20 => sN (xx (sR ?_))))))
  clear h16
  obtain rfl := si h
  exact eR (resT h20 res0) rfl
 refine cF h16 hb17 (xx (sN (sq (Rg (kx (mvO rfl) (Rn (hV (.bool true) rfl hZ) fun e21 h23 => sN (xx ?_)))))))
 clear h16
 obtain rfl := si h
 exact eR (resT h23 res0) rfl
/-! ### loop.example/g01263/laws.toNotch (f48) -/
noncomputable def laws_toNotch (a1 : Notch) : Option (Int × Int) :=
 some (a1.Kind, a1.At)
def laws_toNotch_enc (r : Int × Int) : AV := .agg [.int .i8 r.1, .int .i16 r.2]
theorem laws_toNotch_ok (a1 : Notch) (r : Int × Int) (h : laws_toNotch a1 = some r) : Ev (fun k => CN k 48 [.agg [.int .i8 a1.Kind, .int .i16 a1.At]] []) (fun p => rRes p.2 p.1 = laws_toNotch_enc r) := by
 unfold laws_toNotch at h
 refine Ev.enter (F := fun k => f48 (CN k) k) (fun k => callN_eq rfl Try.func48 rfl rfl rfl (by decide +kernel) (f48_eq _ _)) (sq (Rg (kx (bxI rfl rfl ⟨rfl, rfl, by decide⟩) (ku (alO zero90) fun M2 hM3 => ?_))))
 have o4 : M2[([] : Mem).length]? = some (.live ⟨.box, 90, 2, [[.int .i8 0, .int .i16 0]]⟩) := push_new hM3
 refine Rn (hN rfl (hV (.loc ([] : Mem).length 1 0 0) rfl hZ)) fun e5 h7 h8 => sN (sq (Rg (ku (alO zero90) fun M10 hM11 => ?_)))
 have o12 := push_old hM11 o4
 have ne13 := ne_new o4
 have o14 : M10[M2.length]? = some (.live ⟨.box, 90, 2, [[.int .i8 0, .int .i16 0]]⟩) := push_new hM11
 refine Rn (hA h7 (hA h8 (hV (.loc M2.length 1 0 0) rfl hZ))) fun e15 h17 h18 h19 => sN (sq (Rg (kx (faP h17 ⟨ble rfl, blt rfl⟩ rfl) (kx (ldP rfl rfl) (kx (faO h19 o14 rfl) (kw (stO rfl rfl o14 rfl rfl ⟨rfl, ble rfl⟩ rfl rfl) fun M20 hM21 => ?_))))))
 clear h7 h8
 have o22 := set_ne hM21 ne13 o12
 have o23 : M20[M2.length]? = some (.live ⟨.box, 90, 2, [[.int .i8 a1.Kind, .int .i16 0]]⟩) := set_same hM21 o14
 refine Rn (hA h17 (hA h18 (hA h19 hZ))) fun e24 h26 h27 h28 => sN (sq (Rg (kx (faP h26 ⟨ble rfl, blt rfl⟩ rfl) (kx (ldP rfl rfl) (kx (faO h28 o23 rfl) (kw (stO rfl rfl o23 rfl rfl ⟨rfl, ble rfl⟩ rfl rfl) fun M29 hM30 => ?_))))))
 clear h17 h18 h19
 have o31 := set_ne hM30 ne13 o22
 have o32 : M29[M2.length]? = some (.live ⟨.box, 90, 2, [[.int .i8 a1.Kind, .int .i16 a1.At]]⟩) := set_same hM30 o23
 refine Rn (hA h27 (hA h28 hZ)) fun e33 h35 h36 => sN (sq (Rg (kx (ldOA h36 o32 rfl rfl (ble rfl) rfl) (kw (stO h35 rfl o31 rfl rfl ⟨rfl, ble rfl⟩ rfl rfl) fun M37 hM38 => ?_))))
 clear h26 h27 h28
 have o39 : M37[([] : Mem).length]? = some (.live ⟨.box, 90, 2, [[.int .i8 a1.Kind, .int .i16 a1.At]]⟩) := set_same hM38 o31
 have o40 := set_ne hM38 (Ne.symm ne13) o32
 refine Rn (hA h35 hZ) fun e41 h43 => sN (xx ?_)
 clear h35 h36
 obtain rfl := si h
 exact eR (resC (ag := true) (sz := 2) ⟨by kernel_rfl, by kernel_rfl, by kernel_rfl⟩ (ldOA h43 o39 rfl rfl (ble rfl) rfl) res0) rfl
/-! ### loop.example/g01263/impl.ValidHalf (f45) -/
def impl_ValidHalf_c1_Q (a1 : Half) (g : Bool) (q : Out) : Prop := q.1 = .nrm ∧ eget q.2.1 1 = .pt none (.bool a1.Stock :: (.sl none (a1.Notches.map Notch.c) :: ((arC (cI .i8) 0 a1.Grain) ++ ([] : List AV)))) ∧ eget q.2.1 14 = .bool g
def impl_ValidHalf_c3_Q (a1 : Half) (s1_1 : Int) (x58 : Notch) (i903_1 : Nat) (g : Bool) (q : Out) : Prop := q.1 = .nrm ∧ eget q.2.1 1 = .pt none (.bool a1.Stock :: (.sl none (a1.Notches.map Notch.c) :: ((arC (cI .i8) 0 a1.Grain) ++ ([] : List AV)))) ∧ eget q.2.1 3 = .int .i64 s1_1 ∧ eget q.2.1 4 = .loc i903_1 1 0 0 ∧ eget q.2.1 16 = .sl none (a1.Notches.map Notch.c) ∧ eget q.2.1 17 = .int .i64 (a1.Notches.length : Int) ∧ eget q.2.1 18 = .int .i64 s1_1 ∧ eget q.2.1 37 = .bool g ∧ q.2.2[i903_1]? = some (.live ⟨.box, 90, 2, [[.int .i8 x58.Kind, .int .i16 x58.At]]⟩)
abbrev impl_ValidHalf_b1_S := Int
abbrev impl_ValidHalf_b1_R := Unit ⊕ Unit
def impl_ValidHalf_b1_RS (a1 : Half) (s : impl_ValidHalf_b1_S) (e : Env) (M : Mem) : Prop := eget e 1 = .pt none (.bool a1.Stock :: (.sl none (a1.Notches.map Notch.c) :: ((arC (cI .i8) 0 a1.Grain) ++ ([] : List AV)))) ∧ eget e 16 = .sl none (a1.Notches.map Notch.c) ∧ eget e 17 = .int .i64 (a1.Notches.length : Int) ∧ eget e 18 = .int .i64 s
def impl_ValidHalf_b1_RR (a1 : Half) (r : impl_ValidHalf_b1_R) (x : Ex) (e : Env) (M : Mem) : Prop :=
  match r with
  | (.inl g) => x = .ret ∧ eget e 2 = .bool false
  | (.inr g) => x = .ext 0 ∧ True
noncomputable def impl_ValidHalf_b1 (a1 : Half) : impl_ValidHalf_b1_S → Option (impl_ValidHalf_b1_S ⊕ impl_ValidHalf_b1_R) := fun s1_1 =>
 if (decide (s1_1 < (a1.Notches.length : Int))) = true then
  (rd a1.Notches s1_1).bind fun x58 =>
  ((impl_isKind (IntKind.i64.wrap x58.Kind)).bind fun r76 =>
  if r76 = true then
   if (decide (x58.At < 0)) = true then
    some true
   else
    (impl_Notch_end x58).bind fun r89 =>
    some (decide (r89 > 200))
  else
   some true).bind fun y110 =>
  if y110 = true then
   some (.inr (.inl ()))
  else
   if (decide (s1_1 > 0)) = true then
    (rd a1.Notches (IntKind.i64.wrap (s1_1 - 1))).bind fun x124 =>
    (impl_Notch_end x124).bind fun r127 =>
    if (decide ((IntKind.i64.wrap x58.At) ≤ r127)) = true then
     some (.inr (.inl ()))
    else
     (rd a1.Notches (IntKind.i64.wrap (s1_1 - 1))).bind fun x139 =>
     if (decide (x58.Kind > x139.Kind)) = true then
      some (.inr (.inl ()))
     else
      some (.inl (IntKind.i64.wrap (s1_1 + 1)))
   else
    some (.inl (IntKind.i64.wrap (s1_1 + 1)))
 else
  some (.inr (.inr ()))
theorem impl_ValidHalf_b1_ok (a1 : Half) (s : impl_ValidHalf_b1_S) (r : impl_ValidHalf_b1_S ⊕ impl_ValidHalf_b1_R) (h : impl_ValidHalf_b1 a1 s = some r) (e : Env) (M : Mem) (hs : impl_ValidHalf_b1_RS a1 s e M) : Ev (fun k => (f45_l4 (CN k) k (prune [1, 16, 17, 18] e) M).bind fun q => some q) (bQ (impl_ValidHalf_b1_RS a1) (impl_ValidHalf_b1_RR a1) r) := by
 revert h hs
 revert s
 intro s1_1 h hs
 unfold impl_ValidHalf_b1 at h
 obtain ⟨h42, h44, h46, h48⟩ := hs
 generalize he41 : prune [1, 16, 17, 18] e = e40
 have h43 := envp he41.symm rfl h42
 have h45 := envp he41.symm rfl h44
 have h47 := envp he41.symm rfl h46
 have h49 := envp he41.symm rfl h48
 refine sq (Rg (kx (bLss h49 h47) (Rn (hV (.pt none (.bool a1.Stock :: (.sl none (a1.Notches.map Notch.c) :: ((arC (cI .i8) 0 a1.Grain) ++ ([] : List AV))))) h43 (hV (.sl none (a1.Notches.map Notch.c)) h45 (hV (.int .i64 (a1.Notches.length : Int)) h47 (hV (.int .i64 s1_1) h49 (hN rfl hZ))))) fun e50 h52 h53 h54 h55 h56 => sN (sq ?_))))
 clear h43 h45 h47 h49
 rcases ite_some h with ⟨hb57, h⟩ | ⟨hb57, h⟩
 ·obtain ⟨x58, hx59, h⟩ := bind_some h
  refine cT h56 hb57 (xx (sN (sq (bl (sq (Rg (kx (mvO h55) (kx (ixS h53 h55 hx59 Notch.fl) (kx (ldPA rfl rfl rfl) (ku (alO zero90) fun M61 hM62 => ?_))))))))))
  have o63 : M61[M.length]? = some (.live ⟨.box, 90, 2, [[.int .i8 0, .int .i16 0]]⟩) := push_new hM62
  refine kx (mvO rfl) (kw (stO rfl rfl o63 rfl rfl ⟨rfl, ble rfl⟩ rfl rfl) fun M64 hM65 => ?_)
  have o66 : M64[M.length]? = some (.live ⟨.box, 90, 2, [[.int .i8 x58.Kind, .int .i16 x58.At]]⟩) := set_same hM65 o63
  obtain ⟨r172, hr173, h⟩ := bind_some h
  refine Rn (hA h52 (hN rfl (hV (.loc M.length 1 0 0) rfl (hA h53 (hA h54 (hA h55 hZ)))))) fun e67 h69 h70 h71 h72 h73 h74 => sN (sq (sq ?_))
  clear h52 h53 h54 h55 h56
  refine Ev.cut (Q1 := impl_ValidHalf_c3_Q a1 s1_1 x58 M.length r172) (by
      have h := hr173
      obtain ⟨r76, hx75, h⟩ := bind_some h
      refine Rg (kx (faO h71 o66 rfl) (kx (ldO rfl o66 rfl rfl rfl) (kx (cvI rfl) (kc (cl (v := .bool r76) rfl (cns rfl rfl) rfl (impl_isKind_ok (IntKind.i64.wrap x58.Kind) _ hx75) nm) (kx (uNot rfl) (kx (mvO rfl) ?_))))))
      rcases ite_some h with ⟨hb77, h⟩ | ⟨hb77, h⟩
      ·refine kx (guF rfl (congrArg Bool.not hb77) (faO h71 o66 rfl)) (kx (guF rfl (congrArg Bool.not hb77) (ldO rfl o66 rfl rfl rfl)) (kx (guF rfl (congrArg Bool.not hb77) (bLss rfl rfl)) (kx (pkF rfl (congrArg Bool.not hb77) rfl) (kx (mvO rfl) ?_))))
       rcases ite_some h with ⟨hb78, h⟩ | ⟨hb78, h⟩
       ·refine kx (gsF rfl hb78) (kc (Ev.gsF rfl hb78) (kx (gsF rfl hb78) (kx (pkT rfl hb78 rfl) (Rn (hA h69 (hA h70 (hA h71 (hA h72 (hA h73 (hA h74 (hV (.bool true) rfl hZ))))))) fun e79 h81 h82 h83 h84 h85 h86 h87 => ?_))))
        clear h69 h70 h71 h72 h73 h74
        obtain rfl := si h
        exact kd (show impl_ValidHalf_c3_Q a1 s1_1 x58 M.length _ _ from ⟨rfl, h81, h82, h83, h84, h85, h86, h87, o66⟩)
       obtain ⟨r89, hx88, h⟩ := bind_some h
       refine kx (guF rfl hb78 (ldOA h71 o66 rfl rfl (ble rfl) rfl)) (kc (Ev.guF rfl hb78 (cl (v := .int .i64 r89) rfl (cns rfl rfl) rfl (impl_Notch_end_ok x58 _ hx88) nm)) (kx (guF rfl hb78 (bGtr rfl rfl)) (kx (pkF rfl hb78 rfl) (Rn (hA h69 (hA h70 (hA h71 (hA h72 (hA h73 (hA h74 (hN rfl hZ))))))) fun e90 h92 h93 h94 h95 h96 h97 h98 => ?_))))
       clear h69 h70 h71 h72 h73 h74
       obtain rfl := si h
       exact kd (show impl_ValidHalf_c3_Q a1 s1_1 x58 M.length _ _ from ⟨rfl, h92, h93, h94, h95, h96, h97, h98, o66⟩)
      refine kx (gsF rfl (congrArg Bool.not hb77)) (kx (gsF rfl (congrArg Bool.not hb77)) (kx (gsF rfl (congrArg Bool.not hb77)) (kx (pkT rfl (congrArg Bool.not hb77) rfl) (kx (mvO rfl) (kx (gsF rfl rfl) (kc (Ev.gsF rfl rfl) (kx (gsF rfl rfl) (kx (pkT rfl rfl rfl) (Rn (hA h69 (hA h70 (hA h71 (hA h72 (hA h73 (hA h74 (hV (.bool true) rfl hZ))))))) fun e99 h101 h102 h103 h104 h105 h106 h107 => ?_)))))))))
      clear h69 h70 h71 h72 h73 h74
      obtain rfl := si h
      exact kd (show impl_ValidHalf_c3_Q a1 s1_1 x58 M.length _ _ from ⟨rfl, h101, h102, h103, h104, h105, h106, h107, o66⟩)) ?_
  revert h hr173
  revert r172
  intro y110 hr173 h
  intro x e108 M109 hq171
  obtain ⟨rfl, h111, h112, h113, h114, h115, h116, h117, o118⟩ := hq171
  refine sN ?_
  rcases ite_some h with ⟨hb119, h⟩ | ⟨hb119, h⟩
  ·refine cT h117 hb119 (sq (Rg (kx (mvO rfl) (Rn (hV (.bool false) rfl hZ) fun e120 h122 => sN (xx (sR (bR (sR ?_))))))))
   clear h111 h112 h113 h114 h115 h116 h117
   obtain rfl := si h
   exact qR ⟨rfl, h122⟩
  refine cF h117 hb119 (xx (sN (sq (Rd (kf (mvO h112) (kf (bGtr rfl rfl) (kf (mvO rfl) ?_)))))))
  rcases ite_some h with ⟨hb123, h⟩ | ⟨hb123, h⟩
  ·obtain ⟨x124, hx125, h⟩ := bind_some h
   obtain ⟨r127, hx126, h⟩ := bind_some h
   refine kf (guT rfl hb123 (faO h113 o118 rfl)) (kf (guT rfl hb123 (ldO rfl o118 rfl rfl rfl)) (kf (guT rfl hb123 (cvI rfl)) (kf (guT rfl hb123 (faP h111 ⟨ble rfl, blt rfl⟩ rfl)) (kf (guT rfl hb123 (ldP rfl rfl)) (kf (guT rfl hb123 (mvO h112)) (kf (guT rfl hb123 (bSub rfl rfl)) (kf (guT rfl hb123 (ixS rfl rfl hx125 Notch.fl)) (kf (guT rfl hb123 (ldPA rfl rfl rfl)) (fc (Ev.guT rfl hb123 (cl (v := .int .i64 r127) rfl (cns rfl rfl) rfl (impl_Notch_end_ok x124 _ hx126) nm)) (kf (guT rfl hb123 (bLeq rfl rfl)) (kf (guT rfl hb123 (mvO rfl)) ?_)))))))))))
   rcases ite_some h with ⟨hb128, h⟩ | ⟨hb128, h⟩
   ·refine kf (gsF rfl hb128) (kf (gsF rfl hb128) (kf (gsF rfl hb128) (kf (gsF rfl hb128) (kf (gsF rfl hb128) (kf (gsF rfl hb128) (kf (gsF rfl hb128) (kf (gsF rfl hb128) (kf (gsF rfl hb128) (kf (gsF rfl hb128) (kf (guT rfl hb123 (pkT rfl hb128 rfl)) (kf (pkT rfl hb123 rfl) (fZ (Rn (hV (.pt none (.bool a1.Stock :: (.sl none (a1.Notches.map Notch.c) :: ((arC (cI .i8) 0 a1.Grain) ++ ([] : List AV))))) h111 (hV (.sl none (a1.Notches.map Notch.c)) h114 (hV (.int .i64 (a1.Notches.length : Int)) h115 (hV (.int .i64 s1_1) h116 (hV (.bool true) rfl hZ))))) fun e129 h131 h132 h133 h134 h135 => sN (cT h135 rfl (sq (Rg (kx (mvO rfl) (Rn (hV (.bool false) rfl hZ) fun e136 h138 => sN (xx (bR (sR ?_)))))))))))))))))))))
    clear h111 h112 h113 h114 h115 h116 h117 h131 h132 h133 h134 h135
    obtain rfl := si h
    exact qR ⟨rfl, h138⟩
   obtain ⟨x139, hx140, h⟩ := bind_some h
   refine kf (guF rfl hb128 (faO h113 o118 rfl)) (kf (guF rfl hb128 (ldO rfl o118 rfl rfl rfl)) (kf (guF rfl hb128 (faP h111 ⟨ble rfl, blt rfl⟩ rfl)) (kf (guF rfl hb128 (ldP rfl rfl)) (kf (guF rfl hb128 (mvO h112)) (kf (guF rfl hb128 (bSub rfl rfl)) (kf (guF rfl hb128 (ixS rfl rfl hx140 Notch.fl)) (kf (guF rfl hb128 (faP rfl ⟨ble rfl, blt rfl⟩ rfl)) (kf (guF rfl hb128 (ldP rfl rfl)) (kf (guF rfl hb128 (bGtr rfl rfl)) (kf (guT rfl hb123 (pkF rfl hb128 rfl)) (kf (pkT rfl hb123 rfl) (fZ (Rn (hV (.pt none (.bool a1.Stock :: (.sl none (a1.Notches.map Notch.c) :: ((arC (cI .i8) 0 a1.Grain) ++ ([] : List AV))))) h111 (hV (.sl none (a1.Notches.map Notch.c)) h114 (hV (.int .i64 (a1.Notches.length : Int)) h115 (hV (.int .i64 s1_1) h116 (hN rfl hZ))))) fun e141 h143 h144 h145 h146 h147 => sN ?_)))))))))))))
   clear h111 h112 h113 h114 h115 h116 h117
   rcases ite_some h with ⟨hb148, h⟩ | ⟨hb148, h⟩
   ·refine cT h147 hb148 (sq (Rg (kx (mvO rfl) (Rn (hV (.bool false) rfl hZ) fun e149 h151 => sN (xx (bR (sR ?_)))))))
    clear h143 h144 h145 h146 h147
    obtain rfl := si h
    exact qR ⟨rfl, h151⟩
   refine cF h147 hb148 (xx (bN (sN (Rg (kx (bAdd h146 rfl) (kx (mvO rfl) (Rn (hA h143 (hA h144 (hA h145 (hN rfl hZ)))) fun e152 h154 h155 h156 h157 => ?_)))))))
   clear h143 h144 h145 h147
   obtain rfl := si h
   exact qN ⟨h154, h155, h156, h157⟩
  refine kf (gsT rfl hb123) (kf (gsT rfl hb123) (kf (gsT rfl hb123) (kf (gsT rfl hb123) (kf (gsT rfl hb123) (kf (gsT rfl hb123) (kf (gsT rfl hb123) (kf (gsT rfl hb123) (kf (gsT rfl hb123) (fc (Ev.gsT rfl hb123) (kf (gsT rfl hb123) (kf (gsT rfl hb123) (kf (gsU rfl) (kf (gsU rfl) (kf (gsU rfl) (kf (gsU rfl) (kf (gsU rfl) (kf (gsU rfl) (kf (gsU rfl) (kf (gsU rfl) (kf (gsU rfl) (kf (gsU rfl) (kf (gsT rfl hb123) (kf (pkF rfl hb123 rfl) (fZ (Rn (hV (.pt none (.bool a1.Stock :: (.sl none (a1.Notches.map Notch.c) :: ((arC (cI .i8) 0 a1.Grain) ++ ([] : List AV))))) h111 (hV (.sl none (a1.Notches.map Notch.c)) h114 (hV (.int .i64 (a1.Notches.length : Int)) h115 (hV (.int .i64 s1_1) h116 (hV (.bool false) rfl hZ))))) fun e158 h160 h161 h162 h163 h164 => sN (cF h164 rfl (xx (bN (sN (Rg (kx (bAdd h163 rfl) (kx (mvO rfl) (Rn (hA h160 (hA h161 (hA h162 (hN rfl hZ)))) fun e165 h167 h168 h169 h170 => ?_)))))))))))))))))))))))))))))))))
  clear h111 h112 h113 h114 h115 h116 h117 h160 h161 h162 h164
  obtain rfl := si h
  exact qN ⟨h167, h168, h169, h170⟩
 refine cF h56 hb57 (xx (sE ?_))
 obtain rfl := si h
 exact qE ⟨rfl, trivial⟩
noncomputable def impl_ValidHalf (a1 : Half) : Option Bool :=
 (if (decide ((a1.Notches.length : Int) > 60)) = true then
  some true
 else
  (impl_ValidGrain a1.Grain).bind fun r10 =>
  some (!r10)).bind fun y17 =>
 if y17 = true then
  some false
 else
  (Lw (impl_ValidHalf_b1 a1) 0).bind fun r => match r with
  | (.inl _) =>
   some false
  | (.inr _) =>
   some true
def impl_ValidHalf_enc (r : Bool) : AV := .bool r
theorem impl_ValidHalf_ok (a1 : Half) (r : Bool) (h : impl_ValidHalf a1 = some r) : Ev (fun k => CN k 45 [.agg (.bool a1.Stock :: (.sl none (a1.Notches.map Notch.c) :: ((arC (cI .i8) 0 a1.Grain) ++ ([] : List AV))))] []) (fun p => rRes p.2 p.1 = impl_ValidHalf_enc r) := by
 unfold impl_ValidHalf at h
 obtain ⟨r186, hr187, h⟩ := bind_some h
 refine Ev.enter (F := fun k => f45 (CN k) k) (fun k => callN_eq rfl Try.func45 rfl rfl rfl (by decide +kernel) (f45_eq _ _)) (sq (Rg (kx (bxI rfl rfl ⟨rfl, rfl, by decide⟩) (kx (mvO rfl) (Rn (hN rfl hZ) fun e1 h3 => sN (sq (sq ?_)))))))
 refine Ev.cut (Q1 := impl_ValidHalf_c1_Q a1 r186) (by
     have h := hr187
     refine Rg (kx (faP h3 ⟨ble rfl, blt rfl⟩ rfl) (kx (ldP rfl rfl) (kx (lnS Try.underlying33 rfl) (kx (bGtr rfl rfl) (kx (mvO rfl) ?_)))))
     rcases ite_some h with ⟨hb4, h⟩ | ⟨hb4, h⟩
     ·refine kx (gsF rfl hb4) (kx (gsF rfl hb4) (kc (Ev.gsF rfl hb4) (kx (gsF rfl hb4) (kx (pkT rfl hb4 rfl) (Rn (hA h3 (hV (.bool true) rfl hZ)) fun e5 h7 h8 => ?_)))))
      clear h3
      obtain rfl := si h
      exact kd (show impl_ValidHalf_c1_Q a1 _ _ from ⟨rfl, h7, h8⟩)
     obtain ⟨r10, hx9, h⟩ := bind_some h
     refine kx (guF rfl hb4 (faP h3 ⟨ble rfl, blt rfl⟩ rfl)) (kx (guF rfl hb4 (ldPA rfl rfl rfl)) (kc (Ev.guF rfl hb4 (cl (v := .bool r10) rfl (cns rfl rfl) rfl (impl_ValidGrain_ok a1.Grain _ hx9) nm)) (kx (guF rfl hb4 (uNot rfl)) (kx (pkF rfl hb4 rfl) (Rn (hA h3 (hN rfl hZ)) fun e11 h13 h14 => ?_)))))
     clear h3
     obtain rfl := si h
     exact kd (show impl_ValidHalf_c1_Q a1 _ _ from ⟨rfl, h13, h14⟩)) ?_
 revert h hr187
 revert r186
 intro y17 hr187 h
 intro x e15 M16 hq185
 obtain ⟨rfl, h18, h19⟩ := hq185
 refine sN ?_
 rcases ite_some h with ⟨hb20, h⟩ | ⟨hb20, h⟩
 ·refine cT h19 hb20 (sq (Rg (kx (mvO rfl) (Rn (hV (.bool false) rfl hZ) fun e21 h23 => sN (xx (sR ?_))))))
  clear h18 h19
  obtain rfl := si h
  exact eR (resT h23 res0) rfl
 obtain ⟨r174, hr175, h⟩ := bind_some h
 refine cF h19 hb20 (xx (sN (sq (sq (Rg (kx (faP h18 ⟨ble rfl, blt rfl⟩ rfl) (kx (ldP rfl rfl) (kx (lnS Try.underlying33 rfl) (kx (mvO rfl) (Rn (hV (.pt none (.bool a1.Stock :: (.sl none (a1.Notches.map Notch.c) :: ((arC (cI .i8) 0 a1.Grain) ++ ([] : List AV))))) h18 (hN rfl (hN rfl (hV (.int .i64 0) rfl hZ)))) fun e24 h26 h27 h28 h29 => sN (bl ?_)))))))))))
 clear h18 h19
 rcases r174 with _ | _
 ·refine Ev.loop (RS := impl_ValidHalf_b1_RS a1) (RR := impl_ValidHalf_b1_RR a1) (fun s r h e M hs => impl_ValidHalf_b1_ok a1 s r h e M hs) hr175 ⟨h26, h27, h28, h29⟩ fun x e177 M178 hq176 => ?_
  obtain ⟨rfl, h179⟩ := hq176
  refine bR (sR ?_)
  obtain rfl := si h
  exact eR (resT h179 res0) rfl
 refine Ev.loop (RS := impl_ValidHalf_b1_RS a1) (RR := impl_ValidHalf_b1_RR a1) (fun s r h e M hs => impl_ValidHalf_b1_ok a1 s r h e M hs) hr175 ⟨h26, h27, h28, h29⟩ fun x e180 M181 hq176 => ?_
 obtain ⟨rfl, _⟩ := hq176
 refine bE (sN (sq (Rg (kx (mvO rfl) (Rn (hV (.bool true) rfl hZ) fun e182 h184 => sN (xx ?_))))))
 obtain rfl := si h
 exact eR (resT h184 res0) rfl
/-! ### loop.example/g01263/impl.isName (f44) -/
noncomputable def impl_isName (a1 : List UInt8) : Option Bool :=
 (impl_isLetters a1 12).bind fun r5 =>
 some r5
def impl_isName_enc (r : Bool) : AV := .bool r
theorem impl_isName_ok (a1 : List UInt8) (r : Bool) (h : impl_isName a1 = some r) : Ev (fun k => CN k 44 [.str a1] []) (fun p => rRes p.2 p.1 = impl_isName_enc r) := by
 unfold impl_isName at h
 obtain ⟨r5, hx4, h⟩ := bind_some h
 refine Ev.enter (F := fun k => f44 (CN k) k) (fun k => callN_eq rfl Try.func44 rfl rfl rfl (by decide +kernel) (f44_eq _ _)) (sq (Rg (kx (mvO rfl) (Rn (hN rfl hZ) fun e1 h3 => sN (sq (Rg (kx (mvO h3) (kc (cl (v := .bool r5) rfl (cns rfl (cns rfl rfl)) rfl (impl_isLetters_ok a1 12 _ hx4) nm) (kx (mvO rfl) (Rn (hN rfl hZ) fun e6 h8 => sN (xx ?_)))))))))))
 clear h3
 obtain rfl := si h
 exact eR (resT h8 res0) rfl
/-! ### loop.example/g01263/spec.l01Ok (f42) -/
noncomputable def spec_l01Ok (a1 : Half) : Option Bool :=
 (spec_l01Notches a1.Notches).bind fun r5 =>
 if r5 = true then
  (spec_l01Grain a1.Grain).bind fun r8 =>
  some r8
 else
  some false
def spec_l01Ok_enc (r : Bool) : AV := .bool r
theorem spec_l01Ok_ok (a1 : Half) (r : Bool) (h : spec_l01Ok a1 = some r) : Ev (fun k => CN k 42 [.pt none (.bool a1.Stock :: (.sl none (a1.Notches.map Notch.c) :: ((arC (cI .i8) 0 a1.Grain) ++ ([] : List AV))))] []) (fun p => rRes p.2 p.1 = spec_l01Ok_enc r) := by
 unfold spec_l01Ok at h
 obtain ⟨r5, hx4, h⟩ := bind_some h
 refine Ev.enter (F := fun k => f42 (CN k) k) (fun k => callN_eq rfl Try.func42 rfl rfl rfl (by decide +kernel) (f42_eq _ _)) (sq (Rg (kx (mvO rfl) (Rn (hN rfl hZ) fun e1 h3 => sN (sq (Rg (kx (mvO h3) (kx (ncP rfl) (kx (faP rfl ⟨ble rfl, blt rfl⟩ rfl) (kx (ldP rfl rfl) (kc (cl (v := .bool r5) rfl (cns rfl rfl) rfl (spec_l01Notches_ok a1.Notches _ hx4) nm) (kx (mvO rfl) ?_))))))))))))
 rcases ite_some h with ⟨hb6, h⟩ | ⟨hb6, h⟩
 ·obtain ⟨r8, hx7, h⟩ := bind_some h
  refine kx (guT rfl hb6 (mvO h3)) (kx (guT rfl hb6 (ncP rfl)) (kx (guT rfl hb6 (faP rfl ⟨ble rfl, blt rfl⟩ rfl)) (kx (guT rfl hb6 (ldPA rfl rfl rfl)) (kc (Ev.guT rfl hb6 (cl (v := .bool r8) rfl (cns rfl rfl) rfl (spec_l01Grain_ok a1.Grain _ hx7) nm)) (kx (pkT rfl hb6 rfl) (kx (mvO rfl) (Rn (hN rfl hZ) fun e9 h11 => sN (xx ?_))))))))
  clear h3
  obtain rfl := si h
  exact eR (resT h11 res0) rfl
 refine kx (gsT rfl hb6) (kx (gsT rfl hb6) (kx (gsT rfl hb6) (kx (gsT rfl hb6) (kc (Ev.gsT rfl hb6) (kx (pkF rfl hb6 rfl) (kx (mvO rfl) (Rn (hV (.bool false) rfl hZ) fun e12 h14 => sN (xx ?_))))))))
 clear h3
 obtain rfl := si h
 exact eR (resT h14 res0) rfl
/-! ### loop.example/g01263/spec.l06Name (f41) -/
abbrev spec_l06Name_b1_S := Int
abbrev spec_l06Name_b1_R := Unit ⊕ Unit
def spec_l06Name_b1_RS (a1 : List UInt8) (s : spec_l06Name_b1_S) (e : Env) (M : Mem) : Prop := eget e 0 = .str a1 ∧ eget e 3 = .int .i64 s
def spec_l06Name_b1_RR (a1 : List UInt8) (r : spec_l06Name_b1_R) (x : Ex) (e : Env) (M : Mem) : Prop :=
  match r with
  | (.inl g) => x = .ret ∧ eget e 2 = .bool false
  | (.inr g) => x = .ext 0 ∧ eget e 0 = .str a1
noncomputable def spec_l06Name_b1 (a1 : List UInt8) : spec_l06Name_b1_S → Option (spec_l06Name_b1_S ⊕ spec_l06Name_b1_R) := fun s1_1 =>
 if (decide (s1_1 < (a1.length : Int))) = true then
  (rd a1 s1_1).bind fun x26 =>
  if (decide ((x26.toNat : Int) < 97)) = true then
   some (.inr (.inl ()))
  else
   (rd a1 s1_1).bind fun x37 =>
   if (decide ((x37.toNat : Int) > 122)) = true then
    some (.inr (.inl ()))
   else
    some (.inl (IntKind.i64.wrap (s1_1 + 1)))
 else
  some (.inr (.inr ()))
theorem spec_l06Name_b1_ok (a1 : List UInt8) (s : spec_l06Name_b1_S) (r : spec_l06Name_b1_S ⊕ spec_l06Name_b1_R) (h : spec_l06Name_b1 a1 s = some r) (e : Env) (M : Mem) (hs : spec_l06Name_b1_RS a1 s e M) : Ev (fun k => (f41_l2 (CN k) k (prune [0, 3] e) M).bind fun q => some q) (bQ (spec_l06Name_b1_RS a1) (spec_l06Name_b1_RR a1) r) := by
 revert h hs
 revert s
 intro s1_1 h hs
 unfold spec_l06Name_b1 at h
 obtain ⟨h16, h18⟩ := hs
 generalize he15 : prune [0, 3] e = e14
 have h17 := envp he15.symm rfl h16
 have h19 := envp he15.symm rfl h18
 refine sq (sq (Rg (kx (mvO h19) (kx (mvO h17) (kx (lnB Try.underlying9 rfl) (kx (bLss rfl rfl) (Rn (hV (.str a1) h17 (hV (.int .i64 s1_1) h19 (hN rfl hZ))) fun e20 h22 h23 h24 => sN ?_)))))))
 clear h17 h19
 rcases ite_some h with ⟨hb25, h⟩ | ⟨hb25, h⟩
 ·obtain ⟨x26, hx27, h⟩ := bind_some h
  refine cT h24 hb25 (xx (sN (sq (bl (sq (Rg (kx (mvO h22) (kx (mvO h23) (kx (ixB rfl rfl hx27) (kx (bLss rfl rfl) (kx (mvO rfl) ?_)))))))))))
  rcases ite_some h with ⟨hb28, h⟩ | ⟨hb28, h⟩
  ·refine kx (gsF rfl hb28) (kx (gsF rfl hb28) (kx (gsF rfl hb28) (kx (gsF rfl hb28) (kx (pkT rfl hb28 rfl) (Rn (hA h22 (hA h23 (hV (.bool true) rfl hZ))) fun e29 h31 h32 h33 => sN (cT h33 rfl (sq (Rg (kx (mvO rfl) (Rn (hV (.bool false) rfl hZ) fun e34 h36 => sN (xx (bR (sR ?_)))))))))))))
   clear h22 h23 h24 h31 h32 h33
   obtain rfl := si h
   exact qR ⟨rfl, h36⟩
  obtain ⟨x37, hx38, h⟩ := bind_some h
  refine kx (guF rfl hb28 (mvO h22)) (kx (guF rfl hb28 (mvO h23)) (kx (guF rfl hb28 (ixB rfl rfl hx38)) (kx (guF rfl hb28 (bGtr rfl rfl)) (kx (pkF rfl hb28 rfl) (Rn (hA h22 (hA h23 (hN rfl hZ))) fun e39 h41 h42 h43 => sN ?_)))))
  clear h22 h23 h24
  rcases ite_some h with ⟨hb44, h⟩ | ⟨hb44, h⟩
  ·refine cT h43 hb44 (sq (Rg (kx (mvO rfl) (Rn (hV (.bool false) rfl hZ) fun e45 h47 => sN (xx (bR (sR ?_)))))))
   clear h41 h42 h43
   obtain rfl := si h
   exact qR ⟨rfl, h47⟩
  refine cF h43 hb44 (xx (bN (sN (Rg (kx (mvO h42) (kx (bAdd rfl rfl) (kx (mvO rfl) (Rn (hA h41 (hN rfl hZ)) fun e48 h50 h51 => ?_))))))))
  clear h41 h43
  obtain rfl := si h
  exact qN ⟨h50, h51⟩
 refine cF h24 hb25 (xx (sE ?_))
 obtain rfl := si h
 exact qE ⟨rfl, h22⟩
noncomputable def spec_l06Name (a1 : List UInt8) : Option Bool :=
 (Lw (spec_l06Name_b1 a1) 0).bind fun r => match r with
 | (.inl _) =>
  some false
 | (.inr _) =>
  if (a1 == ([] : List UInt8)) = true then
   some false
  else
   some (decide ((a1.length : Int) ≤ 12))
def spec_l06Name_enc (r : Bool) : AV := .bool r
theorem spec_l06Name_ok (a1 : List UInt8) (r : Bool) (h : spec_l06Name a1 = some r) : Ev (fun k => CN k 41 [.str a1] []) (fun p => rRes p.2 p.1 = spec_l06Name_enc r) := by
 unfold spec_l06Name at h
 obtain ⟨r52, hr53, h⟩ := bind_some h
 refine Ev.enter (F := fun k => f41 (CN k) k) (fun k => callN_eq rfl Try.func41 rfl rfl rfl (by decide +kernel) (f41_eq _ _)) (sq (Rg (kx (mvO rfl) (Rn (hN rfl hZ) fun e1 h3 => sN (sq (sq (Rg (kx (mvO rfl) (Rn (hA h3 (hV (.int .i64 0) rfl hZ)) fun e4 h6 h7 => sN (bl ?_))))))))))
 clear h3
 rcases r52 with _ | _
 ·refine Ev.loop (RS := spec_l06Name_b1_RS a1) (RR := spec_l06Name_b1_RR a1) (fun s r h e M hs => spec_l06Name_b1_ok a1 s r h e M hs) hr53 ⟨h6, h7⟩ fun x e55 M56 hq54 => ?_
  obtain ⟨rfl, h57⟩ := hq54
  refine bR (sR ?_)
  obtain rfl := si h
  exact eR (resT h57 res0) rfl
 refine Ev.loop (RS := spec_l06Name_b1_RS a1) (RR := spec_l06Name_b1_RR a1) (fun s r h e M hs => spec_l06Name_b1_ok a1 s r h e M hs) hr53 ⟨h6, h7⟩ fun x e58 M59 hq54 => ?_
 obtain ⟨rfl, h60⟩ := hq54
 refine bE (sN (sq (Rg (kx (mvO h60) (kx (sNeq rfl rfl) (kx (mvO rfl) ?_))))))
 rcases ite_some h with ⟨hb61, h⟩ | ⟨hb61, h⟩
 ·refine kx (gsT rfl (congrArg Bool.not hb61)) (kx (gsT rfl (congrArg Bool.not hb61)) (kx (gsT rfl (congrArg Bool.not hb61)) (kx (pkF rfl (congrArg Bool.not hb61) rfl) (kx (mvO rfl) (Rn (hV (.bool false) rfl hZ) fun e62 h64 => sN (xx ?_))))))
  clear h60
  obtain rfl := si h
  exact eR (resT h64 res0) rfl
 refine kx (guT rfl (congrArg Bool.not hb61) (mvO h60)) (kx (guT rfl (congrArg Bool.not hb61) (lnB Try.underlying9 rfl)) (kx (guT rfl (congrArg Bool.not hb61) (bLeq rfl rfl)) (kx (pkT rfl (congrArg Bool.not hb61) rfl) (kx (mvO rfl) (Rn (hN rfl hZ) fun e65 h67 => sN (xx ?_))))))
 clear h60
 obtain rfl := si h
 exact eR (resT h67 res0) rfl
/-! ### loop.example/g01263/laws.eqMark (f40) -/
noncomputable def laws_eqMark (a1 : Mark) (a2 : Mark) : Option Bool :=
 if (a1.Holder == a2.Holder) = true then
  if (a1.Seal != a2.Seal) = true then
   some false
  else
   some true
 else
  some false
def laws_eqMark_enc (r : Bool) : AV := .bool r
theorem laws_eqMark_ok (a1 : Mark) (a2 : Mark) (r : Bool) (h : laws_eqMark a1 a2 = some r) : Ev (fun k => CN k 40 [.agg [.str a1.Holder, .int .u32 a1.Seal], .agg [.str a2.Holder, .int .u32 a2.Seal]] []) (fun p => rRes p.2 p.1 = laws_eqMark_enc r) := by
 unfold laws_eqMark at h
 refine Ev.enter (F := fun k => f40 (CN k) k) (fun k => callN_eq rfl Try.func40 rfl rfl rfl (by decide +kernel) (f40_eq _ _)) (sq (Rg (kx (bxI rfl rfl ⟨rfl, rfl, by decide⟩) (kx (bxI rfl rfl ⟨rfl, rfl, by decide⟩) (kx (mvO rfl) (Rn (hN rfl (hN rfl hZ)) fun e1 h3 h4 => sN (sq (sq (Rg (kx (faP h3 ⟨ble rfl, blt rfl⟩ rfl) (kx (ldP rfl rfl) (kx (faP h4 ⟨ble rfl, blt rfl⟩ rfl) (kx (ldP rfl rfl) (kx (sNeq rfl rfl) (Rn (hA h3 (hA h4 (hN rfl hZ))) fun e5 h7 h8 h9 => sN ?_)))))))))))))))
 clear h3 h4
 rcases ite_some h with ⟨hb10, h⟩ | ⟨hb10, h⟩
 ·refine cF h9 (congrArg Bool.not hb10) (xx (sN (sq (sq (Rg (kx (faP h7 ⟨ble rfl, blt rfl⟩ rfl) (kx (ldP rfl rfl) (kx (faP h8 ⟨ble rfl, blt rfl⟩ rfl) (kx (ldP rfl rfl) (kx (bNeq rfl rfl) (Rn (hN rfl hZ) fun e11 h13 => sN ?_)))))))))))
  clear h7 h8 h9
  rcases ite_some h with ⟨hb14, h⟩ | ⟨hb14, h⟩
  ·refine cT h13 hb14 (sq (Rg (kx (mvO rfl) (Rn (hV (.bool false) rfl hZ) fun e15 h17 => sN (xx (sR ?_))))))
   clear h13
   obtain rfl := si h
   exact eR (resT h17 res0) rfl
  refine cF h13 hb14 (xx (sN (sq (Rg (kx (mvO rfl) (Rn (hV (.bool true) rfl hZ) fun e18 h20 => sN (xx ?_)))))))
  clear h13
  obtain rfl := si h
  exact eR (resT h20 res0) rfl
 refine cT h9 (congrArg Bool.not hb10) (sq (Rg (kx (mvO rfl) (Rn (hV (.bool false) rfl hZ) fun e21 h23 => sN (xx (sR ?_))))))
 clear h7 h8 h9
 obtain rfl := si h
 exact eR (resT h23 res0) rfl
/-! ### loop.example/g01263/laws.eqGrain (f39) -/
abbrev laws_eqGrain_b1_S := Int
abbrev laws_eqGrain_b1_R := Unit ⊕ Unit
def laws_eqGrain_b1_RS (a1 : Ar 16 Int) (a2 : Ar 16 Int) (s : laws_eqGrain_b1_S) (e : Env) (M : Mem) : Prop := eget e 2 = .pt none (arC (cI .i8) 0 a1) ∧ eget e 3 = .pt none (arC (cI .i8) 0 a2) ∧ eget e 5 = .int .i64 s
def laws_eqGrain_b1_RR (a1 : Ar 16 Int) (a2 : Ar 16 Int) (r : laws_eqGrain_b1_R) (x : Ex) (e : Env) (M : Mem) : Prop :=
  match r with
  | (.inl g) => x = .ret ∧ eget e 4 = .bool false
  | (.inr g) => x = .ext 0 ∧ True
noncomputable def laws_eqGrain_b1 (a1 : Ar 16 Int) (a2 : Ar 16 Int) : laws_eqGrain_b1_S → Option (laws_eqGrain_b1_S ⊕ laws_eqGrain_b1_R) := fun s1_1 =>
 if (decide (s1_1 < 16)) = true then
  (rdA a1 s1_1).bind fun x33 =>
  (rdA a2 s1_1).bind fun x35 =>
  if (x33 != x35) = true then
   some (.inr (.inl ()))
  else
   some (.inl (IntKind.i64.wrap (s1_1 + 1)))
 else
  some (.inr (.inr ()))
theorem laws_eqGrain_b1_ok (a1 : Ar 16 Int) (a2 : Ar 16 Int) (s : laws_eqGrain_b1_S) (r : laws_eqGrain_b1_S ⊕ laws_eqGrain_b1_R) (h : laws_eqGrain_b1 a1 a2 s = some r) (e : Env) (M : Mem) (hs : laws_eqGrain_b1_RS a1 a2 s e M) : Ev (fun k => (f39_l2 (CN k) k (prune [2, 3, 5] e) M).bind fun q => some q) (bQ (laws_eqGrain_b1_RS a1 a2) (laws_eqGrain_b1_RR a1 a2) r) := by
 revert h hs
 revert s
 intro s1_1 h hs
 unfold laws_eqGrain_b1 at h
 obtain ⟨h20, h22, h24⟩ := hs
 generalize he19 : prune [2, 3, 5] e = e18
 have h21 := envp he19.symm rfl h20
 have h23 := envp he19.symm rfl h22
 have h25 := envp he19.symm rfl h24
 refine sq (sq (Rg (kx (mvO h25) (kx (bLss rfl rfl) (Rn (hV (.pt none (arC (cI .i8) 0 a1)) h21 (hV (.pt none (arC (cI .i8) 0 a2)) h23 (hV (.int .i64 s1_1) h25 (hN rfl hZ)))) fun e26 h28 h29 h30 h31 => sN ?_)))))
 clear h21 h23 h25
 rcases ite_some h with ⟨hb32, h⟩ | ⟨hb32, h⟩
 ·obtain ⟨x33, hx34, h⟩ := bind_some h
  obtain ⟨x35, hx36, h⟩ := bind_some h
  refine cT h31 hb32 (xx (sN (sq (bl (sq (Rd (kf (mvO h30) (kf (ixPA (c := (cI .i8)) (z := 0) (g := a1) h28 rfl hx34 (fun _ => rfl)) (kf (ldP rfl rfl) (kf (mvO h30) (kf (ixPA (c := (cI .i8)) (z := 0) (g := a2) h29 rfl hx36 (fun _ => rfl)) (kf (ldP rfl rfl) (kf (bNeq rfl rfl) (fZ (Rn (hA h28 (hA h29 (hA h30 (hN rfl hZ)))) fun e37 h39 h40 h41 h42 => sN ?_)))))))))))))))
  clear h28 h29 h30 h31
  rcases ite_some h with ⟨hb43, h⟩ | ⟨hb43, h⟩
  ·refine cT h42 hb43 (sq (Rg (kx (mvO rfl) (Rn (hV (.bool false) rfl hZ) fun e44 h46 => sN (xx (bR (sR ?_)))))))
   clear h39 h40 h41 h42
   obtain rfl := si h
   exact qR ⟨rfl, h46⟩
  refine cF h42 hb43 (xx (bN (sN (Rg (kx (mvO h41) (kx (bAdd rfl rfl) (kx (mvO rfl) (Rn (hA h39 (hA h40 (hN rfl hZ))) fun e47 h49 h50 h51 => ?_))))))))
  clear h39 h40 h42
  obtain rfl := si h
  exact qN ⟨h49, h50, h51⟩
 refine cF h31 hb32 (xx (sE ?_))
 obtain rfl := si h
 exact qE ⟨rfl, trivial⟩
noncomputable def laws_eqGrain (a1 : Ar 16 Int) (a2 : Ar 16 Int) : Option Bool :=
 (Lw (laws_eqGrain_b1 a1 a2) 0).bind fun r => match r with
 | (.inl _) =>
  some false
 | (.inr _) =>
  some true
def laws_eqGrain_enc (r : Bool) : AV := .bool r
theorem laws_eqGrain_ok (a1 : Ar 16 Int) (a2 : Ar 16 Int) (r : Bool) (h : laws_eqGrain a1 a2 = some r) : Ev (fun k => CN k 39 [.agg (arC (cI .i8) 0 a1), .agg (arC (cI .i8) 0 a2)] []) (fun p => rRes p.2 p.1 = laws_eqGrain_enc r) := by
 unfold laws_eqGrain at h
 obtain ⟨r52, hr53, h⟩ := bind_some h
 refine Ev.enter (F := fun k => f39 (CN k) k) (fun k => callN_eq rfl Try.func39 rfl rfl rfl (by decide +kernel) (f39_eq _ _)) (sq (Rg (kx (bxI rfl rfl ⟨rfl, rfl, by decide⟩) (kx (bxI rfl rfl ⟨rfl, rfl, by decide⟩) (kx (mvO rfl) (Rn (hN rfl (hN rfl hZ)) fun e1 h3 h4 => sN (sq (sq (Rg (kx (mvO rfl) (Rn (hA h3 (hA h4 (hV (.int .i64 0) rfl hZ))) fun e5 h7 h8 h9 => sN (bl ?_))))))))))))
 clear h3 h4
 rcases r52 with _ | _
 ·refine Ev.loop (RS := laws_eqGrain_b1_RS a1 a2) (RR := laws_eqGrain_b1_RR a1 a2) (fun s r h e M hs => laws_eqGrain_b1_ok a1 a2 s r h e M hs) hr53 ⟨h7, h8, h9⟩ fun x e55 M56 hq54 => ?_
  obtain ⟨rfl, h57⟩ := hq54
  refine bR (sR ?_)
  obtain rfl := si h
  exact eR (resT h57 res0) rfl
 refine Ev.loop (RS := laws_eqGrain_b1_RS a1 a2) (RR := laws_eqGrain_b1_RR a1 a2) (fun s r h e M hs => laws_eqGrain_b1_ok a1 a2 s r h e M hs) hr53 ⟨h7, h8, h9⟩ fun x e58 M59 hq54 => ?_
 obtain ⟨rfl, _⟩ := hq54
 refine bE (sN (sq (Rg (kx (mvO rfl) (Rn (hV (.bool true) rfl hZ) fun e60 h62 => sN (xx ?_))))))
 obtain rfl := si h
 exact eR (resT h62 res0) rfl
/-! ### loop.example/g01263/laws.eqNotchS (f38) -/
abbrev laws_eqNotchS_b1_S := Int
abbrev laws_eqNotchS_b1_R := Unit ⊕ Unit
def laws_eqNotchS_b1_RS (a1 : List Notch) (a2 : List Notch) (s : laws_eqNotchS_b1_S) (e : Env) (M : Mem) : Prop := eget e 0 = .sl none (a1.map Notch.c) ∧ eget e 1 = .sl none (a2.map Notch.c) ∧ eget e 5 = .int .i64 s
def laws_eqNotchS_b1_RR (a1 : List Notch) (a2 : List Notch) (r : laws_eqNotchS_b1_R) (x : Ex) (e : Env) (M : Mem) : Prop :=
  match r with
  | (.inl g) => x = .ret ∧ eget e 4 = .bool false
  | (.inr g) => x = .ext 0 ∧ True
noncomputable def laws_eqNotchS_b1 (a1 : List Notch) (a2 : List Notch) : laws_eqNotchS_b1_S → Option (laws_eqNotchS_b1_S ⊕ laws_eqNotchS_b1_R) := fun s1_1 =>
 if (decide (s1_1 < (a1.length : Int))) = true then
  (rd a1 s1_1).bind fun x42 =>
  (rd a2 s1_1).bind fun x44 =>
  (laws_eqNotch x42 x44).bind fun r47 =>
  if r47 = true then
   some (.inl (IntKind.i64.wrap (s1_1 + 1)))
  else
   some (.inr (.inl ()))
 else
  some (.inr (.inr ()))
theorem laws_eqNotchS_b1_ok (a1 : List Notch) (a2 : List Notch) (s : laws_eqNotchS_b1_S) (r : laws_eqNotchS_b1_S ⊕ laws_eqNotchS_b1_R) (h : laws_eqNotchS_b1 a1 a2 s = some r) (e : Env) (M : Mem) (hs : laws_eqNotchS_b1_RS a1 a2 s e M) : Ev (fun k => (f38_l4 (CN k) k (prune [0, 1, 5] e) M).bind fun q => some q) (bQ (laws_eqNotchS_b1_RS a1 a2) (laws_eqNotchS_b1_RR a1 a2) r) := by
 revert h hs
 revert s
 intro s1_1 h hs
 unfold laws_eqNotchS_b1 at h
 obtain ⟨h29, h31, h33⟩ := hs
 generalize he28 : prune [0, 1, 5] e = e27
 have h30 := envp he28.symm rfl h29
 have h32 := envp he28.symm rfl h31
 have h34 := envp he28.symm rfl h33
 refine sq (sq (Rg (kx (mvO h34) (kx (mvO h30) (kx (lnS Try.underlying33 rfl) (kx (bLss rfl rfl) (Rn (hV (.sl none (a1.map Notch.c)) h30 (hV (.sl none (a2.map Notch.c)) h32 (hV (.int .i64 s1_1) h34 (hN rfl hZ)))) fun e35 h37 h38 h39 h40 => sN ?_)))))))
 clear h30 h32 h34
 rcases ite_some h with ⟨hb41, h⟩ | ⟨hb41, h⟩
 ·obtain ⟨x42, hx43, h⟩ := bind_some h
  obtain ⟨x44, hx45, h⟩ := bind_some h
  obtain ⟨r47, hx46, h⟩ := bind_some h
  refine cT h40 hb41 (xx (sN (sq (bl (sq (Rd (kf (mvO h37) (kf (mvO h39) (kf (ixS rfl rfl hx43 Notch.fl) (kf (ldPA rfl rfl rfl) (kf (mvO h38) (kf (mvO h39) (kf (ixS rfl rfl hx45 Notch.fl) (kf (ldPA rfl rfl rfl) (fc (cl (v := .bool r47) rfl (cns rfl (cns rfl rfl)) rfl (laws_eqNotch_ok x42 x44 _ hx46) nm) (kf (uNot rfl) (fZ (Rn (hA h37 (hA h38 (hA h39 (hN rfl hZ)))) fun e48 h50 h51 h52 h53 => sN ?_))))))))))))))))))
  clear h37 h38 h39 h40
  rcases ite_some h with ⟨hb54, h⟩ | ⟨hb54, h⟩
  ·refine cF h53 (congrArg Bool.not hb54) (xx (bN (sN (Rg (kx (mvO h52) (kx (bAdd rfl rfl) (kx (mvO rfl) (Rn (hA h50 (hA h51 (hN rfl hZ))) fun e55 h57 h58 h59 => ?_))))))))
   clear h50 h51 h53
   obtain rfl := si h
   exact qN ⟨h57, h58, h59⟩
  refine cT h53 (congrArg Bool.not hb54) (sq (Rg (kx (mvO rfl) (Rn (hV (.bool false) rfl hZ) fun e60 h62 => sN (xx (bR (sR ?_)))))))
  clear h50 h51 h52 h53
  obtain rfl := si h
  exact qR ⟨rfl, h62⟩
 refine cF h40 hb41 (xx (sE ?_))
 obtain rfl := si h
 exact qE ⟨rfl, trivial⟩
noncomputable def laws_eqNotchS (a1 : List Notch) (a2 : List Notch) : Option Bool :=
 if ((a1.length : Int) != (a2.length : Int)) = true then
  some false
 else
  (Lw (laws_eqNotchS_b1 a1 a2) 0).bind fun r => match r with
  | (.inl _) =>
   some false
  | (.inr _) =>
   some true
def laws_eqNotchS_enc (r : Bool) : AV := .bool r
theorem laws_eqNotchS_ok (a1 : List Notch) (a2 : List Notch) (r : Bool) (h : laws_eqNotchS a1 a2 = some r) : Ev (fun k => CN k 38 [.sl none (a1.map Notch.c), .sl none (a2.map Notch.c)] []) (fun p => rRes p.2 p.1 = laws_eqNotchS_enc r) := by
 unfold laws_eqNotchS at h
 refine Ev.enter (F := fun k => f38 (CN k) k) (fun k => callN_eq rfl Try.func38 rfl rfl rfl (by decide +kernel) (f38_eq _ _)) (sq (Rg (kx (mvO rfl) (Rn (hN rfl (hN rfl hZ)) fun e1 h3 h4 => sN (sq (sq (Rg (kx (mvO h3) (kx (lnS Try.underlying33 rfl) (kx (mvO h4) (kx (lnS Try.underlying33 rfl) (kx (bNeq rfl rfl) (Rn (hA h3 (hA h4 (hN rfl hZ))) fun e5 h7 h8 h9 => sN ?_)))))))))))))
 clear h3 h4
 rcases ite_some h with ⟨hb10, h⟩ | ⟨hb10, h⟩
 ·refine cT h9 hb10 (sq (Rg (kx (mvO rfl) (Rn (hV (.bool false) rfl hZ) fun e11 h13 => sN (xx (sR ?_))))))
  clear h7 h8 h9
  obtain rfl := si h
  exact eR (resT h13 res0) rfl
 obtain ⟨r63, hr64, h⟩ := bind_some h
 refine cF h9 hb10 (xx (sN (sq (sq (Rg (kx (mvO rfl) (Rn (hA h7 (hA h8 (hV (.int .i64 0) rfl hZ))) fun e14 h16 h17 h18 => sN (bl ?_))))))))
 clear h7 h8 h9
 rcases r63 with _ | _
 ·refine Ev.loop (RS := laws_eqNotchS_b1_RS a1 a2) (RR := laws_eqNotchS_b1_RR a1 a2) (fun s r h e M hs => laws_eqNotchS_b1_ok a1 a2 s r h e M hs) hr64 ⟨h16, h17, h18⟩ fun x e66 M67 hq65 => ?_
  obtain ⟨rfl, h68⟩ := hq65
  refine bR (sR ?_)
  obtain rfl := si h
  exact eR (resT h68 res0) rfl
 refine Ev.loop (RS := laws_eqNotchS_b1_RS a1 a2) (RR := laws_eqNotchS_b1_RR a1 a2) (fun s r h e M hs => laws_eqNotchS_b1_ok a1 a2 s r h e M hs) hr64 ⟨h16, h17, h18⟩ fun x e69 M70 hq65 => ?_
 obtain ⟨rfl, _⟩ := hq65
 refine bE (sN (sq (Rg (kx (mvO rfl) (Rn (hV (.bool true) rfl hZ) fun e71 h73 => sN (xx ?_))))))
 obtain rfl := si h
 exact eR (resT h73 res0) rfl
/-! ### loop.example/g01263/laws.toMark (f35) -/
noncomputable def laws_toMark (a1 : Mark) : Option ((List UInt8) × Int) :=
 some (a1.Holder, a1.Seal)
def laws_toMark_enc (r : (List UInt8) × Int) : AV := .agg [.str r.1, .int .u32 r.2]
theorem laws_toMark_ok (a1 : Mark) (r : (List UInt8) × Int) (h : laws_toMark a1 = some r) : Ev (fun k => CN k 35 [.agg [.str a1.Holder, .int .u32 a1.Seal]] []) (fun p => rRes p.2 p.1 = laws_toMark_enc r) := by
 unfold laws_toMark at h
 refine Ev.enter (F := fun k => f35 (CN k) k) (fun k => callN_eq rfl Try.func35 rfl rfl rfl (by decide +kernel) (f35_eq _ _)) (sq (Rg (kx (bxI rfl rfl ⟨rfl, rfl, by decide⟩) (ku (alO zero57) fun M2 hM3 => ?_))))
 have o4 : M2[([] : Mem).length]? = some (.live ⟨.box, 57, 2, [[.str ([] : List UInt8), .int .u32 0]]⟩) := push_new hM3
 refine Rn (hN rfl (hV (.loc ([] : Mem).length 1 0 0) rfl hZ)) fun e5 h7 h8 => sN (sq (Rg (ku (alO zero57) fun M10 hM11 => ?_)))
 have o12 := push_old hM11 o4
 have ne13 := ne_new o4
 have o14 : M10[M2.length]? = some (.live ⟨.box, 57, 2, [[.str ([] : List UInt8), .int .u32 0]]⟩) := push_new hM11
 refine Rn (hA h7 (hA h8 (hV (.loc M2.length 1 0 0) rfl hZ))) fun e15 h17 h18 h19 => sN (sq (Rg (kx (faP h17 ⟨ble rfl, blt rfl⟩ rfl) (kx (ldP rfl rfl) (kx (faO h19 o14 rfl) (kw (stO rfl rfl o14 rfl rfl ⟨rfl, ble rfl⟩ rfl rfl) fun M20 hM21 => ?_))))))
 clear h7 h8
 have o22 := set_ne hM21 ne13 o12
 have o23 : M20[M2.length]? = some (.live ⟨.box, 57, 2, [[.str a1.Holder, .int .u32 0]]⟩) := set_same hM21 o14
 refine Rn (hA h17 (hA h18 (hA h19 hZ))) fun e24 h26 h27 h28 => sN (sq (Rg (kx (faP h26 ⟨ble rfl, blt rfl⟩ rfl) (kx (ldP rfl rfl) (kx (faO h28 o23 rfl) (kw (stO rfl rfl o23 rfl rfl ⟨rfl, ble rfl⟩ rfl rfl) fun M29 hM30 => ?_))))))
 clear h17 h18 h19
 have o31 := set_ne hM30 ne13 o22
 have o32 : M29[M2.length]? = some (.live ⟨.box, 57, 2, [[.str a1.Holder, .int .u32 a1.Seal]]⟩) := set_same hM30 o23
 refine Rn (hA h27 (hA h28 hZ)) fun e33 h35 h36 => sN (sq (Rg (kx (ldOA h36 o32 rfl rfl (ble rfl) rfl) (kw (stO h35 rfl o31 rfl rfl ⟨rfl, ble rfl⟩ rfl rfl) fun M37 hM38 => ?_))))
 clear h26 h27 h28
 have o39 : M37[([] : Mem).length]? = some (.live ⟨.box, 57, 2, [[.str a1.Holder, .int .u32 a1.Seal]]⟩) := set_same hM38 o31
 have o40 := set_ne hM38 (Ne.symm ne13) o32
 refine Rn (hA h35 hZ) fun e41 h43 => sN (xx ?_)
 clear h35 h36
 obtain rfl := si h
 exact eR (resC (ag := true) (sz := 2) ⟨by kernel_rfl, by kernel_rfl, by kernel_rfl⟩ (ldOA h43 o39 rfl rfl (ble rfl) rfl) res0) rfl
/-! ### loop.example/g01263/laws.toGrain (f34) -/
abbrev laws_toGrain_b1_S := Int × (Ar 16 Int)
abbrev laws_toGrain_b1_R := (Ar 16 Int)
def laws_toGrain_b1_RS (a1 : Ar 16 Int) (i1_1 : Nat) (i1_2 : Nat) (s : laws_toGrain_b1_S) (e : Env) (M : Mem) : Prop := eget e 1 = .pt none (arC (cI .i8) 0 a1) ∧ eget e 2 = .loc i1_1 1 0 0 ∧ eget e 3 = .loc i1_2 1 0 0 ∧ eget e 4 = .int .i64 s.1 ∧ M[i1_1]? = some (.live ⟨.box, 34, 16, [(arC (cI .i8) 0 (Ar.rep 16 0))]⟩) ∧ M[i1_2]? = some (.live ⟨.box, 34, 16, [(arC (cI .i8) 0 s.2)]⟩)
def laws_toGrain_b1_RR (a1 : Ar 16 Int) (i1_1 : Nat) (i1_2 : Nat) (g : laws_toGrain_b1_R) (x : Ex) (e : Env) (M : Mem) : Prop := x = .ext 0 ∧ eget e 2 = .loc i1_1 1 0 0 ∧ eget e 3 = .loc i1_2 1 0 0 ∧ M[i1_1]? = some (.live ⟨.box, 34, 16, [(arC (cI .i8) 0 (Ar.rep 16 0))]⟩) ∧ M[i1_2]? = some (.live ⟨.box, 34, 16, [(arC (cI .i8) 0 g)]⟩)
noncomputable def laws_toGrain_b1 (a1 : Ar 16 Int) : laws_toGrain_b1_S → Option (laws_toGrain_b1_S ⊕ laws_toGrain_b1_R) := fun (s1_1, s1_2) =>
 if (decide (s1_1 < 16)) = true then
  (rdA a1 s1_1).bind fun x58 =>
  (rdA s1_2 s1_1).bind fun x60 =>
  some (.inl ((IntKind.i64.wrap (s1_1 + 1)), (s1_2.set s1_1.toNat x58)))
 else
  some (.inr s1_2)
theorem laws_toGrain_b1_ok (a1 : Ar 16 Int) (i1_1 : Nat) (i1_2 : Nat) (ne13 : i1_1 ≠ i1_2) (s : laws_toGrain_b1_S) (r : laws_toGrain_b1_S ⊕ laws_toGrain_b1_R) (h : laws_toGrain_b1 a1 s = some r) (e : Env) (M : Mem) (hs : laws_toGrain_b1_RS a1 i1_1 i1_2 s e M) : Ev (fun k => (f34_l3 (CN k) k (prune [1, 2, 3, 4] e) M).bind fun q => some q) (bQ (laws_toGrain_b1_RS a1 i1_1 i1_2) (laws_toGrain_b1_RR a1 i1_1 i1_2) r) := by
 obtain ⟨s1_1, s1_2⟩ := s
 unfold laws_toGrain_b1 at h
 obtain ⟨h40, h42, h44, h46, o48, o49⟩ := hs
 generalize he39 : prune [1, 2, 3, 4] e = e38
 have h41 := envp he39.symm rfl h40
 have h43 := envp he39.symm rfl h42
 have h45 := envp he39.symm rfl h44
 have h47 := envp he39.symm rfl h46
 refine sq (sq (Rg (kx (mvO h47) (kx (bLss rfl rfl) (Rn (hV (.pt none (arC (cI .i8) 0 a1)) h41 (hV (.loc i1_1 1 0 0) h43 (hV (.loc i1_2 1 0 0) h45 (hV (.int .i64 s1_1) h47 (hN rfl hZ))))) fun e50 h52 h53 h54 h55 h56 => sN ?_)))))
 clear h41 h43 h45 h47
 rcases ite_some h with ⟨hb57, h⟩ | ⟨hb57, h⟩
 ·obtain ⟨x58, hx59, h⟩ := bind_some h
  obtain ⟨x60, hx61, h⟩ := bind_some h
  refine cT h56 hb57 (xx (sN (sq (bl (Rg (kx (mvO h55) (kx (mvO h55) (kx (ixPA (c := (cI .i8)) (z := 0) (g := a1) h52 rfl hx59 (fun _ => rfl)) (kx (ldP rfl rfl) (kx (ixLA h54 o49 rfl rfl hx61) (kw (stLA (c := (cI .i8)) (z := 0) (g := s1_2) (pre := []) (post := []) (u' := x58) rfl rfl o49 rfl rfl rfl rfl (fun _ => rfl) rfl rfl hx61) fun M62 hM63 => ?_)))))))))))
  have o64 := set_ne hM63 ne13 o48
  have o65 : M62[i1_2]? = some (.live ⟨.box, 34, 16, [(arC (cI .i8) 0 (s1_2.set s1_1.toNat x58))]⟩) := set_same hM63 o49
  refine Rn (hA h52 (hA h53 (hA h54 (hA h55 hZ)))) fun e66 h68 h69 h70 h71 => bN (sN (Rg (kx (mvO h71) (kx (bAdd rfl rfl) (kx (mvO rfl) (Rn (hA h68 (hA h69 (hA h70 (hN rfl hZ)))) fun e72 h74 h75 h76 h77 => ?_))))))
  clear h52 h53 h54 h55 h56 h68 h69 h70
  obtain rfl := si h
  exact qN ⟨h74, h75, h76, h77, o64, o65⟩
 refine cF h56 hb57 (xx (sE ?_))
 obtain rfl := si h
 exact qE ⟨rfl, h53, h54, o48, o49⟩
noncomputable def laws_toGrain (a1 : Ar 16 Int) : Option ((Ar 16 Int)) :=
 (Lw (laws_toGrain_b1 a1) (0, (Ar.rep 16 0))).bind fun y83 =>
 some y83
def laws_toGrain_enc (r : (Ar 16 Int)) : AV := .agg (arC (cI .i8) 0 r)
theorem laws_toGrain_ok (a1 : Ar 16 Int) (r : (Ar 16 Int)) (h : laws_toGrain a1 = some r) : Ev (fun k => CN k 34 [.agg (arC (cI .i8) 0 a1)] []) (fun p => rRes p.2 p.1 = laws_toGrain_enc r) := by
 unfold laws_toGrain at h
 refine Ev.enter (F := fun k => f34 (CN k) k) (fun k => callN_eq rfl Try.func34 rfl rfl rfl (by decide +kernel) (f34_eq _ _)) (sq (Rg (kx (bxI rfl rfl ⟨rfl, rfl, by decide⟩) (ku (alO zero34) fun M2 hM3 => ?_))))
 have o4 : M2[([] : Mem).length]? = some (.live ⟨.box, 34, 16, [(arC (cI .i8) 0 (Ar.rep 16 0))]⟩) := push_new hM3
 refine Rn (hN rfl (hV (.loc ([] : Mem).length 1 0 0) rfl hZ)) fun e5 h7 h8 => sN (sq (Rg (ku (alO zero34) fun M10 hM11 => ?_)))
 have o12 := push_old hM11 o4
 have ne13 := ne_new o4
 have o14 : M10[M2.length]? = some (.live ⟨.box, 34, 16, [(arC (cI .i8) 0 (Ar.rep 16 0))]⟩) := push_new hM11
 obtain ⟨y83, hr79, h⟩ := bind_some h
 refine Rn (hA h7 (hA h8 (hV (.loc M2.length 1 0 0) rfl hZ))) fun e15 h17 h18 h19 => sN (sq (sq (Rg (kx (mvO rfl) (Rn (hA h17 (hA h18 (hA h19 (hV (.int .i64 0) rfl hZ)))) fun e20 h22 h23 h24 h25 => sN (bl (Ev.loop (RS := laws_toGrain_b1_RS a1 (([] : Mem).length) M2.length) (RR := laws_toGrain_b1_RR a1 (([] : Mem).length) M2.length) (fun s r h e M hs => laws_toGrain_b1_ok a1 (([] : Mem).length) M2.length ne13 s r h e M hs) hr79 ⟨h22, h23, h24, h25, o12, o14⟩ fun x e81 M82 hq80 => ?_)))))))
 clear h7 h8 h17 h18 h19
 obtain ⟨rfl, h84, h85, o86, o87⟩ := hq80
 refine bE (sN (sq (Rg (kx (ldOA (cs' := (arC (cI .i8) 0 y83)) h85 o87 rfl rfl (ble rfl) rfl) (kw (stO h84 rfl o86 rfl rfl ⟨rfl, ble rfl⟩ rfl rfl) fun M88 hM89 => ?_)))))
 have o90 : M88[([] : Mem).length]? = some (.live ⟨.box, 34, 16, [(arC (cI .i8) 0 y83)]⟩) := set_same hM89 o86
 have o91 := set_ne hM89 (Ne.symm ne13) o87
 refine Rn (hV (.loc ([] : Mem).length 1 0 0) h84 hZ) fun e92 h94 => sN (xx ?_)
 clear h84 h85
 obtain rfl := si h
 exact eR (resC (ag := true) (sz := 16) ⟨by kernel_rfl, by kernel_rfl, by kernel_rfl⟩ (ldOA (cs' := (arC (cI .i8) 0 y83)) h94 o90 rfl rfl (ble rfl) rfl) res0) rfl
/-! ### loop.example/g01263/laws.toNotchS (f33) -/
abbrev laws_toNotchS_b1_S := Int × (List Notch)
abbrev laws_toNotchS_b1_R := (List Notch)
def laws_toNotchS_b1_RS (a1 : List Notch) (x4 : List Notch) (i1_1 : Nat) (s : laws_toNotchS_b1_S) (e : Env) (M : Mem) : Prop := eget e 0 = .sl none (a1.map Notch.c) ∧ eget e 3 = .lsl i1_1 s.2.length 0 s.2.length ∧ eget e 4 = .int .i64 s.1 ∧ M[i1_1]? = some (.live ⟨.grow, 90, 2, s.2.map Notch.c⟩) ∧ s.2.length = x4.length
def laws_toNotchS_b1_RR (a1 : List Notch) (x4 : List Notch) (i1_1 : Nat) (g : laws_toNotchS_b1_R) (x : Ex) (e : Env) (M : Mem) : Prop := x = .ext 0 ∧ eget e 3 = .lsl i1_1 g.length 0 g.length ∧ M[i1_1]? = some (.live ⟨.grow, 90, 2, g.map Notch.c⟩) ∧ g.length = x4.length
noncomputable def laws_toNotchS_b1 (a1 : List Notch) : laws_toNotchS_b1_S → Option (laws_toNotchS_b1_S ⊕ laws_toNotchS_b1_R) := fun (s1_1, s1_2) =>
 if (decide (s1_1 < (a1.length : Int))) = true then
  (rd a1 s1_1).bind fun x45 =>
  (laws_toNotch x45).bind fun (r48, r49) =>
  (rd s1_2 s1_1).bind fun x50 =>
  some (.inl ((IntKind.i64.wrap (s1_1 + 1)), (s1_2.set s1_1.toNat (Notch.mk r48 r49))))
 else
  some (.inr s1_2)
theorem laws_toNotchS_b1_ok (a1 : List Notch) (x4 : List Notch) (i1_1 : Nat) (s : laws_toNotchS_b1_S) (r : laws_toNotchS_b1_S ⊕ laws_toNotchS_b1_R) (h : laws_toNotchS_b1 a1 s = some r) (e : Env) (M : Mem) (hs : laws_toNotchS_b1_RS a1 x4 i1_1 s e M) : Ev (fun k => (f33_l3 (CN k) k (prune [0, 3, 4] e) M).bind fun q => some q) (bQ (laws_toNotchS_b1_RS a1 x4 i1_1) (laws_toNotchS_b1_RR a1 x4 i1_1) r) := by
 obtain ⟨s1_1, s1_2⟩ := s
 unfold laws_toNotchS_b1 at h
 obtain ⟨h30, h32, h34, o36, hl37⟩ := hs
 generalize he29 : prune [0, 3, 4] e = e28
 have h31 := envp he29.symm rfl h30
 have h33 := envp he29.symm rfl h32
 have h35 := envp he29.symm rfl h34
 refine sq (sq (Rg (kx (mvO h35) (kx (mvO h31) (kx (lnS Try.underlying22 rfl) (kx (bLss rfl rfl) (Rn (hV (.sl none (a1.map Notch.c)) h31 (hV (.lsl i1_1 s1_2.length 0 s1_2.length) h33 (hV (.int .i64 s1_1) h35 (hN rfl hZ)))) fun e38 h40 h41 h42 h43 => sN ?_)))))))
 clear h31 h33 h35
 rcases ite_some h with ⟨hb44, h⟩ | ⟨hb44, h⟩
 ·obtain ⟨x45, hx46, h⟩ := bind_some h
  obtain ⟨⟨r48, r49⟩, hx47, h⟩ := bind_some h
  obtain ⟨x50, hx51, h⟩ := bind_some h
  refine cT h43 hb44 (xx (sN (sq (bl (Rg (kx (mvO h41) (kx (mvO h42) (kx (mvO h40) (kx (mvO h42) (kx (ixS rfl rfl hx46 Notch.fl) (kx (ldPA rfl rfl rfl) (kc (cl (v := .agg [.int .i8 r48, .int .i16 r49]) rfl (cns rfl rfl) rfl (laws_toNotch_ok x45 _ hx47) nm) (kx (ixO rfl o36 rfl rfl (rd_get hx51).1 (rd_lt hx51).2) (kw (stR (u := x50) (u' := (Notch.mk r48 r49)) rfl rfl o36 rfl (rz2 hx51) ⟨rfl, ble rfl⟩ rfl rfl) fun M52 hM53 => ?_))))))))))))))
  rw [Nat.zero_add] at hM53
  have o54 : M52[i1_1]? = some (.live ⟨.grow, 90, 2, (s1_2.set s1_1.toNat (Notch.mk r48 r49)).map Notch.c⟩) := set_same hM53 o36
  have hx55 := rd_set (u' := (Notch.mk r48 r49)) hx51
  refine Rn (hA h40 (hA h41 (hA h42 hZ))) fun e56 h58 h59 h60 => bN (sN (Rg (kx (mvO h60) (kx (bAdd rfl rfl) (kx (mvO rfl) (Rn (hA h58 (hA h59 (hN rfl hZ))) fun e61 h63 h64 h65 => ?_))))))
  clear h40 h41 h42 h43 h58 h59
  obtain rfl := si h
  exact qN ⟨h63, (lslL (L' := (s1_2.set s1_1.toNat (Notch.mk r48 r49)).length) h64 (by simp [hl37])), h65, o54, (by first | rfl | simp [hl37])⟩
 refine cF h43 hb44 (xx (sE ?_))
 obtain rfl := si h
 exact qE ⟨rfl, h41, o36, (by first | rfl | simp [hl37])⟩
noncomputable def laws_toNotchS (a1 : List Notch) : Option ((List Notch)) :=
 (mkS 4 (Notch.mk 0 0) (a1.length : Int)).bind fun x4 =>
 (Lw (laws_toNotchS_b1 a1) (0, x4)).bind fun y71 =>
 some y71
def laws_toNotchS_enc (r : (List Notch)) : AV := .sl (some 90) (r.map Notch.c)
theorem laws_toNotchS_ok (a1 : List Notch) (r : (List Notch)) (h : laws_toNotchS a1 = some r) : Ev (fun k => CN k 33 [.sl none (a1.map Notch.c)] []) (fun p => rRes p.2 p.1 = laws_toNotchS_enc r) := by
 unfold laws_toNotchS at h
 obtain ⟨x4, hx5, h⟩ := bind_some h
 refine Ev.enter (F := fun k => f33 (CN k) k) (fun k => callN_eq rfl Try.func33 rfl rfl rfl (by decide +kernel) (f33_eq _ _)) (sq (Rg (kx (mvO rfl) (Rn (hN rfl hZ) fun e1 h3 => sN (sq (Rg (kx (mvO h3) (kx (lnS Try.underlying22 rfl) (ku (mkO rfl rfl hx5 (c := Notch.c) zero90 Notch.fl (by decide)) fun M7 hM8 => ?_)))))))))
 have o9 : M7[([] : Mem).length]? = some (.live ⟨.grow, 90, 2, x4.map Notch.c⟩) := push_new hM8
 obtain ⟨y71, hr67, h⟩ := bind_some h
 refine kx (mvO rfl) (Rn (hA h3 (hV (.lsl ([] : Mem).length x4.length 0 x4.length) rfl hZ)) fun e10 h12 h13 => sN (sq (sq (Rg (kx (mvO rfl) (Rn (hA h12 (hA h13 (hV (.int .i64 0) rfl hZ))) fun e14 h16 h17 h18 => sN (bl (Ev.loop (RS := laws_toNotchS_b1_RS a1 x4 (([] : Mem).length)) (RR := laws_toNotchS_b1_RR a1 x4 (([] : Mem).length)) (fun s r h e M hs => laws_toNotchS_b1_ok a1 x4 (([] : Mem).length) s r h e M hs) hr67 ⟨h16, h17, h18, o9, rfl⟩ fun x e69 M70 hq68 => ?_))))))))
 clear h3 h12 h13
 obtain ⟨rfl, h72, o73, hl74⟩ := hq68
 refine bE (sN (sq (Rg (kx (mvO h72) (kx (mvO rfl) (Rn (hV (.lsl ([] : Mem).length y71.length 0 y71.length) rfl hZ) fun e75 h77 => sN (xx ?_)))))))
 clear h72
 obtain rfl := si h
 exact eR (resT h77 res0) (rr_row o73 rfl Notch.fl)
/-! ### loop.example/g01263/laws.szMark (f31) -/
noncomputable def laws_szMark (a1 : Mark) (a2 : Int) : Option Int :=
 if (decide ((IntKind.i64.wrap (a2 - (a1.Holder.length : Int))) < 0)) = true then
  some (-1)
 else
  some (IntKind.i64.wrap (a2 - (a1.Holder.length : Int)))
def laws_szMark_enc (r : Int) : AV := .int .i64 r
theorem laws_szMark_ok (a1 : Mark) (a2 : Int) (r : Int) (h : laws_szMark a1 a2 = some r) : Ev (fun k => CN k 31 [.agg [.str a1.Holder, .int .u32 a1.Seal], .int .i64 a2] []) (fun p => rRes p.2 p.1 = laws_szMark_enc r) := by
 unfold laws_szMark at h
 refine Ev.enter (F := fun k => f31 (CN k) k) (fun k => callN_eq rfl Try.func31 rfl rfl rfl (by decide +kernel) (f31_eq _ _)) (sq (Rg (kx (bxI rfl rfl ⟨rfl, rfl, by decide⟩) (kx (mvO rfl) (Rn (hN rfl (hN rfl hZ)) fun e1 h3 h4 => sN (sq (Rg (kx (mvO h3) (kx (faP h4 ⟨ble rfl, blt rfl⟩ rfl) (kx (ldP rfl rfl) (kx (lnB Try.underlying9 rfl) (kx (bSub rfl rfl) (kx (mvO rfl) (Rn (hN rfl hZ) fun e5 h7 => sN (sq (sq (Rg (kx (mvO h7) (kx (bLss rfl rfl) (Rn (hA h7 (hN rfl hZ)) fun e8 h10 h11 => sN ?_))))))))))))))))))))
 clear h4 h7
 rcases ite_some h with ⟨hb12, h⟩ | ⟨hb12, h⟩
 ·refine cT h11 hb12 (sq (Rg (kx (mvO rfl) (Rn (hV (.int .i64 (-1)) rfl hZ) fun e13 h15 => sN (xx (sR ?_))))))
  clear h10 h11
  obtain rfl := si h
  exact eR (resT h15 res0) rfl
 refine cF h11 hb12 (xx (sN (sq (Rg (kx (mvO h10) (kx (mvO rfl) (Rn (hN rfl hZ) fun e16 h18 => sN (xx ?_))))))))
 clear h10 h11
 obtain rfl := si h
 exact eR (resT h18 res0) rfl
/-! ### loop.example/g01263/laws.szNotchS (f30) -/
noncomputable def laws_szNotchS (a1 : List Notch) (a2 : Int) : Option Int :=
 if (decide ((IntKind.i64.wrap (a2 - (a1.length : Int))) < 0)) = true then
  some (-1)
 else
  some (IntKind.i64.wrap (a2 - (a1.length : Int)))
def laws_szNotchS_enc (r : Int) : AV := .int .i64 r
theorem laws_szNotchS_ok (a1 : List Notch) (a2 : Int) (r : Int) (h : laws_szNotchS a1 a2 = some r) : Ev (fun k => CN k 30 [.sl none (a1.map Notch.c), .int .i64 a2] []) (fun p => rRes p.2 p.1 = laws_szNotchS_enc r) := by
 unfold laws_szNotchS at h
 refine Ev.enter (F := fun k => f30 (CN k) k) (fun k => callN_eq rfl Try.func30 rfl rfl rfl (by decide +kernel) (f30_eq _ _)) (sq (Rg (kx (mvO rfl) (Rn (hN rfl (hN rfl hZ)) fun e1 h3 h4 => sN (sq (Rg (kx (mvO h4) (kx (mvO h3) (kx (lnS Try.underlying22 rfl) (kx (bSub rfl rfl) (kx (mvO rfl) (Rn (hN rfl hZ) fun e5 h7 => sN (sq (sq (Rg (kx (mvO h7) (kx (bLss rfl rfl) (Rn (hA h7 (hN rfl hZ)) fun e8 h10 h11 => sN ?_))))))))))))))))))
 clear h3 h7
 rcases ite_some h with ⟨hb12, h⟩ | ⟨hb12, h⟩
 ·refine cT h11 hb12 (sq (Rg (kx (mvO rfl) (Rn (hV (.int .i64 (-1)) rfl hZ) fun e13 h15 => sN (xx (sR ?_))))))
  clear h10 h11
  obtain rfl := si h
  exact eR (resT h15 res0) rfl
 refine cF h11 hb12 (xx (sN (sq (Rg (kx (mvO h10) (kx (mvO rfl) (Rn (hN rfl hZ) fun e16 h18 => sN (xx ?_))))))))
 clear h10 h11
 obtain rfl := si h
 exact eR (resT h18 res0) rfl
/-! ### loop.example/g01263/laws.markText (f29) -/
abbrev laws_markText_b1_S := Int × (List UInt8)
abbrev laws_markText_b1_R := (List UInt8)
def laws_markText_b1_RS (s : laws_markText_b1_S) (e : Env) (M : Mem) : Prop := eget e 0 = .int .i64 s.1 ∧ eget e 3 = .str s.2
def laws_markText_b1_RR (g : laws_markText_b1_R) (x : Ex) (e : Env) (M : Mem) : Prop := x = .ext 0 ∧ eget e 3 = .str g
noncomputable def laws_markText_b1 : laws_markText_b1_S → Option (laws_markText_b1_S ⊕ laws_markText_b1_R) := fun (s1_1, s1_2) =>
 if (decide (s1_1 > 0)) = true then
  (rem .i64 s1_1 10).bind fun n34 =>
  (sadd (toB [(IntKind.u8.wrap (IntKind.i64.wrap (48 + n34)))]) s1_2).bind fun w36 =>
  (quo .i64 s1_1 10).bind fun n42 =>
  some (.inl (n42, w36))
 else
  some (.inr s1_2)
theorem laws_markText_b1_ok (s : laws_markText_b1_S) (r : laws_markText_b1_S ⊕ laws_markText_b1_R) (h : laws_markText_b1 s = some r) (e : Env) (M : Mem) (hs : laws_markText_b1_RS s e M) : Ev (fun k => (f29_l4 (CN k) k (prune [0, 3] e) M).bind fun q => some q) (bQ (laws_markText_b1_RS) (laws_markText_b1_RR) r) := by
 obtain ⟨s1_1, s1_2⟩ := s
 unfold laws_markText_b1 at h
 obtain ⟨h24, h26⟩ := hs
 generalize he23 : prune [0, 3] e = e22
 have h25 := envp he23.symm rfl h24
 have h27 := envp he23.symm rfl h26
 refine sq (sq (Rg (kx (mvO h25) (kx (bGtr rfl rfl) (Rn (hV (.int .i64 s1_1) h25 (hV (.str s1_2) h27 (hN rfl hZ))) fun e28 h30 h31 h32 => sN ?_)))))
 clear h25 h27
 rcases ite_some h with ⟨hb33, h⟩ | ⟨hb33, h⟩
 ·obtain ⟨n34, hx35, h⟩ := bind_some h
  obtain ⟨w36, hx37, h⟩ := bind_some h
  obtain ⟨n42, hx43, h⟩ := bind_some h
  refine cT h32 hb33 (xx (sN (bl (sq (Rg (kx (mvO h30) (kx (bRem rfl rfl hx35) (kx (bAdd rfl rfl) (kx (cvI rfl) (kx (litI (cns rfl rfl) rfl ⟨rfl, by decide⟩) (kx (cvB (elT (c := (cI .u8)) (xs := [(IntKind.u8.wrap (IntKind.i64.wrap (48 + n34)))]) rfl)) (kx (mvO h31) (kx (sAdd rfl rfl hx37) (kx (mvO rfl) (Rn (hA h30 (hN rfl hZ)) fun e38 h40 h41 => sN (Rg (kx (mvO h40) (kx (bQuo rfl rfl hx43) (kx (mvO rfl) (Rn (hN rfl (hA h41 hZ)) fun e44 h46 h47 => bN ?_))))))))))))))))))))
  clear h30 h32 h41
  obtain rfl := si h
  exact qN ⟨h46, h47⟩
 refine cF h32 hb33 (xx (sE ?_))
 obtain rfl := si h
 exact qE ⟨rfl, h31⟩
noncomputable def laws_markText (a1 : Int) : Option ((List UInt8)) :=
 if (decide (a1 ≤ 0)) = true then
  some ([109, 48] : List UInt8)
 else
  (Lw (laws_markText_b1) (a1, ([] : List UInt8))).bind fun y53 =>
  (sadd ([109] : List UInt8) y53).bind fun w55 =>
  some w55
def laws_markText_enc (r : (List UInt8)) : AV := .str r
theorem laws_markText_ok (a1 : Int) (r : (List UInt8)) (h : laws_markText a1 = some r) : Ev (fun k => CN k 29 [.int .i64 a1] []) (fun p => rRes p.2 p.1 = laws_markText_enc r) := by
 unfold laws_markText at h
 refine Ev.enter (F := fun k => f29 (CN k) k) (fun k => callN_eq rfl Try.func29 rfl rfl rfl (by decide +kernel) (f29_eq _ _)) (sq (Rg (kx (mvO rfl) (Rn (hN rfl hZ) fun e1 h3 => sN (sq (sq (Rg (kx (mvO h3) (kx (bLeq rfl rfl) (Rn (hA h3 (hN rfl hZ)) fun e4 h6 h7 => sN ?_))))))))))
 clear h3
 rcases ite_some h with ⟨hb8, h⟩ | ⟨hb8, h⟩
 ·refine cT h7 hb8 (sq (Rg (kx (mvO rfl) (Rn (hN rfl hZ) fun e9 h11 => sN (xx (sR ?_))))))
  clear h6 h7
  obtain rfl := si h
  exact eR (resT h11 res0) rfl
 obtain ⟨y53, hr49, h⟩ := bind_some h
 refine cF h7 hb8 (xx (sN (sq (Rg (kx (mvO rfl) (Rn (hA h6 (hN rfl hZ)) fun e12 h14 h15 => sN (sq (bl (Ev.loop (RS := laws_markText_b1_RS) (RR := laws_markText_b1_RR) (fun s r h e M hs => laws_markText_b1_ok s r h e M hs) hr49 ⟨h14, h15⟩ fun x e51 M52 hq50 => ?_)))))))))
 clear h6 h7
 obtain ⟨rfl, h54⟩ := hq50
 obtain ⟨w55, hx56, h⟩ := bind_some h
 refine bE (sN (sq (Rg (kx (mvO h54) (kx (sAdd rfl rfl hx56) (kx (mvO rfl) (Rn (hN rfl hZ) fun e57 h59 => sN (xx ?_))))))))
 clear h54
 obtain rfl := si h
 exact eR (resT h59 res0) rfl
/-! ### slices.Index[[]string,string] (f26) -/
abbrev slices_Index_string_b1_S := Int
abbrev slices_Index_string_b1_R := Int ⊕ Unit
def slices_Index_string_b1_RS (a1 : List (List UInt8)) (a2 : List UInt8) (s : slices_Index_string_b1_S) (e : Env) (M : Mem) : Prop := eget e 0 = .sl none (a1.map cS) ∧ eget e 1 = .str a2 ∧ eget e 7 = .int .i64 (a1.length : Int) ∧ eget e 8 = .int .i64 s
def slices_Index_string_b1_RR (a1 : List (List UInt8)) (a2 : List UInt8) (r : slices_Index_string_b1_R) (x : Ex) (e : Env) (M : Mem) : Prop :=
  match r with
  | (.inl g) => x = .ret ∧ eget e 4 = .int .i64 g
  | (.inr g) => x = .ext 0 ∧ True
noncomputable def slices_Index_string_b1 (a1 : List (List UInt8)) (a2 : List UInt8) : slices_Index_string_b1_S → Option (slices_Index_string_b1_S ⊕ slices_Index_string_b1_R) := fun s1_1 =>
 if (decide (s1_1 < (a1.length : Int))) = true then
  (rd a1 s1_1).bind fun x46 =>
  if (a2 == x46) = true then
   some (.inr (.inl s1_1))
  else
   some (.inl (IntKind.i64.wrap (s1_1 + 1)))
 else
  some (.inr (.inr ()))
theorem slices_Index_string_b1_ok (a1 : List (List UInt8)) (a2 : List UInt8) (s : slices_Index_string_b1_S) (r : slices_Index_string_b1_S ⊕ slices_Index_string_b1_R) (h : slices_Index_string_b1 a1 a2 s = some r) (e : Env) (M : Mem) (hs : slices_Index_string_b1_RS a1 a2 s e M) : Ev (fun k => (f26_l2 (CN k) k (prune [0, 1, 7, 8] e) M).bind fun q => some q) (bQ (slices_Index_string_b1_RS a1 a2) (slices_Index_string_b1_RR a1 a2) r) := by
 revert h hs
 revert s
 intro s1_1 h hs
 unfold slices_Index_string_b1 at h
 obtain ⟨h23, h25, h27, h29⟩ := hs
 generalize he22 : prune [0, 1, 7, 8] e = e21
 have h24 := envp he22.symm rfl h23
 have h26 := envp he22.symm rfl h25
 have h28 := envp he22.symm rfl h27
 have h30 := envp he22.symm rfl h29
 refine sq (Rg (kx (bLss h30 h28) (Rn (hV (.sl none (a1.map cS)) h24 (hV (.str a2) h26 (hV (.int .i64 (a1.length : Int)) h28 (hV (.int .i64 s1_1) h30 (hN rfl hZ))))) fun e31 h33 h34 h35 h36 h37 => sN (sq ?_))))
 clear h24 h26 h28 h30
 rcases ite_some h with ⟨hb38, h⟩ | ⟨hb38, h⟩
 ·obtain ⟨x46, hx47, h⟩ := bind_some h
  refine cT h37 hb38 (xx (sN (sq (bl (sq (Rg (kx (mvO h36) (kx (mvO rfl) (Rn (hA h33 (hA h34 (hN rfl (hA h35 (hA h36 hZ))))) fun e39 h41 h42 h43 h44 h45 => sN (sq (Rg (kx (mvO h42) (kx (mvO h41) (kx (mvO h43) (kx (ixS rfl rfl hx47 cS_fl) (kx (ldP rfl rfl) (kx (sEql rfl rfl) (Rn (hA h41 (hA h42 (hA h43 (hA h44 (hA h45 (hN rfl hZ)))))) fun e48 h50 h51 h52 h53 h54 h55 => sN ?_))))))))))))))))))
  clear h33 h34 h35 h36 h37 h41 h42 h43 h44 h45
  rcases ite_some h with ⟨hb56, h⟩ | ⟨hb56, h⟩
  ·refine cT h55 hb56 (sq (Rg (kx (mvO h52) (kx (mvO rfl) (Rn (hN rfl hZ) fun e57 h59 => sN (xx (bR (sR ?_))))))))
   clear h50 h51 h52 h53 h54 h55
   obtain rfl := si h
   exact qR ⟨rfl, h59⟩
  refine cF h55 hb56 (xx (bN (sN (Rg (kx (bAdd h54 rfl) (kx (mvO rfl) (Rn (hA h50 (hA h51 (hA h53 (hN rfl hZ)))) fun e60 h62 h63 h64 h65 => ?_)))))))
  clear h50 h51 h52 h53 h55
  obtain rfl := si h
  exact qN ⟨h62, h63, h64, h65⟩
 refine cF h37 hb38 (xx (sE ?_))
 obtain rfl := si h
 exact qE ⟨rfl, trivial⟩
noncomputable def slices_Index_string (a1 : List (List UInt8)) (a2 : List UInt8) : Option Int :=
 (Lw (slices_Index_string_b1 a1 a2) 0).bind fun r => match r with
 | (.inl y71) =>
  some y71
 | (.inr _) =>
  some (-1)
def slices_Index_string_enc (r : Int) : AV := .int .i64 r
theorem slices_Index_string_ok (a1 : List (List UInt8)) (a2 : List UInt8) (r : Int) (h : slices_Index_string a1 a2 = some r) : Ev (fun k => CN k 26 [.sl none (a1.map cS), .str a2] []) (fun p => rRes p.2 p.1 = slices_Index_string_enc r) := by
 unfold slices_Index_string at h
 obtain ⟨r66, hr67, h⟩ := bind_some h
 refine Ev.enter (F := fun k => f26 (CN k) k) (fun k => callN_eq rfl Try.func26 rfl rfl rfl (by decide +kernel) (f26_eq _ _)) (sq (Rg (kx (mvO rfl) (Rn (hN rfl (hN rfl hZ)) fun e1 h3 h4 => sN (sq (sq (Rg (kx (mvO h3) (kx (lnS Try.underlying43 rfl) (kx (mvO rfl) (Rn (hA h3 (hA h4 (hN rfl (hV (.int .i64 0) rfl hZ)))) fun e5 h7 h8 h9 h10 => sN (bl ?_))))))))))))
 clear h3 h4
 rcases r66 with y71 | _
 ·refine Ev.loop (RS := slices_Index_string_b1_RS a1 a2) (RR := slices_Index_string_b1_RR a1 a2) (fun s r h e M hs => slices_Index_string_b1_ok a1 a2 s r h e M hs) hr67 ⟨h7, h8, h9, h10⟩ fun x e69 M70 hq68 => ?_
  obtain ⟨rfl, h72⟩ := hq68
  refine bR (sR ?_)
  obtain rfl := si h
  exact eR (resT h72 res0) rfl
 refine Ev.loop (RS := slices_Index_string_b1_RS a1 a2) (RR := slices_Index_string_b1_RR a1 a2) (fun s r h e M hs => slices_Index_string_b1_ok a1 a2 s r h e M hs) hr67 ⟨h7, h8, h9, h10⟩ fun x e73 M74 hq68 => ?_
 obtain ⟨rfl, _⟩ := hq68
 refine bE (sN (sq (Rg (kx (mvO rfl) (Rn (hV (.int .i64 (-1)) rfl hZ) fun e75 h77 => sN (xx ?_))))))
 obtain rfl := si h
 exact eR (resT h77 res0) rfl
/-! ### loop.example/g01263/impl.ValidChain (f25) -/
def impl_ValidChain_c1_Q (a1 : Chain) (g : Bool) (q : Out) : Prop := q.1 = .nrm ∧ eget q.2.1 1 = .pt none (.str a1.Debtor :: (.bool a1.Stock.Stock :: (.sl none (a1.Stock.Notches.map Notch.c) :: ((arC (cI .i8) 0 a1.Stock.Grain) ++ ((.sl none (a1.Marks.map Mark.c) :: []) : List AV))))) ∧ eget q.2.1 33 = .bool g
abbrev impl_ValidChain_b1_S := (List UInt8) × Int
abbrev impl_ValidChain_b1_R := Unit ⊕ Unit
def impl_ValidChain_b1_RS (a1 : Chain) (s : impl_ValidChain_b1_S) (e : Env) (M : Mem) : Prop := eget e 3 = .str s.1 ∧ eget e 37 = .sl none (a1.Marks.map Mark.c) ∧ eget e 38 = .int .i64 (a1.Marks.length : Int) ∧ eget e 39 = .int .i64 s.2
def impl_ValidChain_b1_RR (a1 : Chain) (r : impl_ValidChain_b1_R) (x : Ex) (e : Env) (M : Mem) : Prop :=
  match r with
  | (.inl g) => x = .ret ∧ eget e 2 = .bool false
  | (.inr g) => x = .ext 0 ∧ True
noncomputable def impl_ValidChain_b1 (a1 : Chain) : impl_ValidChain_b1_S → Option (impl_ValidChain_b1_S ⊕ impl_ValidChain_b1_R) := fun (s1_1, s1_2) =>
 if (decide (s1_2 < (a1.Marks.length : Int))) = true then
  (rd a1.Marks s1_2).bind fun x79 =>
  (impl_isName x79.Holder).bind fun r96 =>
  if r96 = true then
   if (x79.Holder == s1_1) = true then
    some (.inr (.inl ()))
   else
    some (.inl (x79.Holder, (IntKind.i64.wrap (s1_2 + 1))))
  else
   some (.inr (.inl ()))
 else
  some (.inr (.inr ()))
theorem impl_ValidChain_b1_ok (a1 : Chain) (s : impl_ValidChain_b1_S) (r : impl_ValidChain_b1_S ⊕ impl_ValidChain_b1_R) (h : impl_ValidChain_b1 a1 s = some r) (e : Env) (M : Mem) (hs : impl_ValidChain_b1_RS a1 s e M) : Ev (fun k => (f25_l5 (CN k) k (prune [3, 37, 38, 39] e) M).bind fun q => some q) (bQ (impl_ValidChain_b1_RS a1) (impl_ValidChain_b1_RR a1) r) := by
 obtain ⟨s1_1, s1_2⟩ := s
 unfold impl_ValidChain_b1 at h
 obtain ⟨h63, h65, h67, h69⟩ := hs
 generalize he62 : prune [3, 37, 38, 39] e = e61
 have h64 := envp he62.symm rfl h63
 have h66 := envp he62.symm rfl h65
 have h68 := envp he62.symm rfl h67
 have h70 := envp he62.symm rfl h69
 refine sq (Rg (kx (bLss h70 h68) (Rn (hV (.str s1_1) h64 (hV (.sl none (a1.Marks.map Mark.c)) h66 (hV (.int .i64 (a1.Marks.length : Int)) h68 (hV (.int .i64 s1_2) h70 (hN rfl hZ))))) fun e71 h73 h74 h75 h76 h77 => sN (sq ?_))))
 clear h64 h66 h68 h70
 rcases ite_some h with ⟨hb78, h⟩ | ⟨hb78, h⟩
 ·obtain ⟨x79, hx80, h⟩ := bind_some h
  refine cT h77 hb78 (xx (sN (sq (bl (sq (Rg (kx (ixS h74 h76 hx80 Mark.fl) (kx (ldPA rfl rfl rfl) (ku (alO zero57) fun M82 hM83 => ?_)))))))))
  have o84 : M82[M.length]? = some (.live ⟨.box, 57, 2, [[.str ([] : List UInt8), .int .u32 0]]⟩) := push_new hM83
  refine kw (stO rfl rfl o84 rfl rfl ⟨rfl, ble rfl⟩ rfl rfl) fun M85 hM86 => ?_
  have o87 : M85[M.length]? = some (.live ⟨.box, 57, 2, [[.str x79.Holder, .int .u32 x79.Seal]]⟩) := set_same hM86 o84
  obtain ⟨r96, hx95, h⟩ := bind_some h
  refine Rn (hA h73 (hV (.loc M.length 1 0 0) rfl (hA h74 (hA h75 (hA h76 hZ))))) fun e88 h90 h91 h92 h93 h94 => sN (sq (sq (Rg (kx (faO h91 o87 rfl) (kx (ldO rfl o87 rfl rfl rfl) (kc (cl (v := .bool r96) rfl (cns rfl rfl) rfl (impl_isName_ok x79.Holder _ hx95) nm) (kx (uNot rfl) (kx (mvO rfl) ?_))))))))
  clear h73 h74 h75 h76 h77
  rcases ite_some h with ⟨hb97, h⟩ | ⟨hb97, h⟩
  ·refine kx (guF rfl (congrArg Bool.not hb97) (faO h91 o87 rfl)) (kx (guF rfl (congrArg Bool.not hb97) (ldO rfl o87 rfl rfl rfl)) (kx (guF rfl (congrArg Bool.not hb97) (mvO h90)) (kx (guF rfl (congrArg Bool.not hb97) (sEql rfl rfl)) (kx (pkF rfl (congrArg Bool.not hb97) rfl) (Rn (hA h91 (hA h92 (hA h93 (hA h94 (hN rfl hZ))))) fun e98 h100 h101 h102 h103 h104 => sN ?_)))))
   clear h90 h91 h92 h93 h94
   rcases ite_some h with ⟨hb105, h⟩ | ⟨hb105, h⟩
   ·refine cT h104 hb105 (sq (Rg (kx (mvO rfl) (Rn (hV (.bool false) rfl hZ) fun e106 h108 => sN (xx (sR (bR (sR ?_))))))))
    clear h100 h101 h102 h103 h104
    obtain rfl := si h
    exact qR ⟨rfl, h108⟩
   refine cF h104 hb105 (xx (sN (Rg (kx (faO h100 o87 rfl) (kx (ldO rfl o87 rfl rfl rfl) (kx (mvO rfl) (Rn (hN rfl (hA h101 (hA h102 (hA h103 hZ)))) fun e109 h111 h112 h113 h114 => bN (sN (Rg (kx (bAdd h114 rfl) (kx (mvO rfl) (Rn (hA h111 (hA h112 (hA h113 (hN rfl hZ)))) fun e115 h117 h118 h119 h120 => ?_))))))))))))
   clear h100 h101 h102 h103 h104 h111 h112 h113
   obtain rfl := si h
   exact qN ⟨h117, h118, h119, h120⟩
  refine kx (gsF rfl (congrArg Bool.not hb97)) (kx (gsF rfl (congrArg Bool.not hb97)) (kx (gsF rfl (congrArg Bool.not hb97)) (kx (gsF rfl (congrArg Bool.not hb97)) (kx (pkT rfl (congrArg Bool.not hb97) rfl) (Rn (hA h91 (hA h92 (hA h93 (hA h94 (hV (.bool true) rfl hZ))))) fun e121 h123 h124 h125 h126 h127 => sN (cT h127 rfl (sq (Rg (kx (mvO rfl) (Rn (hV (.bool false) rfl hZ) fun e128 h130 => sN (xx (sR (bR (sR ?_))))))))))))))
  clear h90 h91 h92 h93 h94 h123 h124 h125 h126 h127
  obtain rfl := si h
  exact qR ⟨rfl, h130⟩
 refine cF h77 hb78 (xx (sE ?_))
 obtain rfl := si h
 exact qE ⟨rfl, trivial⟩
noncomputable def impl_ValidChain (a1 : Chain) : Option Bool :=
 ((impl_isName a1.Debtor).bind fun r5 =>
 if r5 = true then
  (impl_ValidHalf a1.Stock).bind fun r8 =>
  if r8 = true then
   if a1.Stock.Stock = true then
    if (decide ((a1.Marks.length : Int) < 1)) = true then
     some true
    else
     some (decide ((a1.Marks.length : Int) > 30))
   else
    some true
  else
   some true
 else
  some true).bind fun y34 =>
 if y34 = true then
  some false
 else
  (Lw (impl_ValidChain_b1 a1) (a1.Debtor, 0)).bind fun r => match r with
  | (.inl _) =>
   some false
  | (.inr _) =>
   some true
def impl_ValidChain_enc (r : Bool) : AV := .bool r
theorem impl_ValidChain_ok (a1 : Chain) (r : Bool) (h : impl_ValidChain a1 = some r) : Ev (fun k => CN k 25 [.agg (.str a1.Debtor :: (.bool a1.Stock.Stock :: (.sl none (a1.Stock.Notches.map Notch.c) :: ((arC (cI .i8) 0 a1.Stock.Grain) ++ ((.sl none (a1.Marks.map Mark.c) :: []) : List AV)))))] []) (fun p => rRes p.2 p.1 = impl_ValidChain_enc r) := by
 unfold impl_ValidChain at h
 obtain ⟨r143, hr144, h⟩ := bind_some h
 refine Ev.enter (F := fun k => f25 (CN k) k) (fun k => callN_eq rfl Try.func25 rfl rfl rfl (by decide +kernel) (f25_eq _ _)) (sq (Rg (kx (bxI rfl rfl ⟨rfl, rfl, by decide⟩) (kx (mvO rfl) (Rn (hN rfl hZ) fun e1 h3 => sN (sq (sq ?_)))))))
 refine Ev.cut (Q1 := impl_ValidChain_c1_Q a1 r143) (by
     have h := hr144
     obtain ⟨r5, hx4, h⟩ := bind_some h
     refine Rg (kx (faP h3 ⟨ble rfl, blt rfl⟩ rfl) (kx (ldP rfl rfl) (kc (cl (v := .bool r5) rfl (cns rfl rfl) rfl (impl_isName_ok a1.Debtor _ hx4) nm) (kx (uNot rfl) (kx (mvO rfl) ?_)))))
     rcases ite_some h with ⟨hb6, h⟩ | ⟨hb6, h⟩
     ·obtain ⟨r8, hx7, h⟩ := bind_some h
      refine kx (guF rfl (congrArg Bool.not hb6) (faP h3 ⟨ble rfl, blt rfl⟩ rfl)) (kx (guF rfl (congrArg Bool.not hb6) (ldPA rfl rfl rfl)) (kc (Ev.guF rfl (congrArg Bool.not hb6) (cl (v := .bool r8) rfl (cns rfl rfl) rfl (impl_ValidHalf_ok a1.Stock _ hx7) nm)) (kx (guF rfl (congrArg Bool.not hb6) (uNot rfl)) (kx (pkF rfl (congrArg Bool.not hb6) rfl) (kx (mvO rfl) ?_)))))
      rcases ite_some h with ⟨hb9, h⟩ | ⟨hb9, h⟩
      ·refine kx (guF rfl (congrArg Bool.not hb9) (faP h3 ⟨ble rfl, blt rfl⟩ rfl)) (kx (guF rfl (congrArg Bool.not hb9) (faP rfl ⟨ble rfl, blt rfl⟩ rfl)) (kx (guF rfl (congrArg Bool.not hb9) (ldP rfl rfl)) (kx (guF rfl (congrArg Bool.not hb9) (uNot rfl)) (kx (pkF rfl (congrArg Bool.not hb9) rfl) (kx (mvO rfl) ?_)))))
       rcases ite_some h with ⟨hb10, h⟩ | ⟨hb10, h⟩
       ·refine kx (guF rfl (congrArg Bool.not hb10) (faP h3 ⟨ble rfl, blt rfl⟩ rfl)) (kx (guF rfl (congrArg Bool.not hb10) (ldP rfl rfl)) (kx (guF rfl (congrArg Bool.not hb10) (lnS Try.underlying37 rfl)) (kx (guF rfl (congrArg Bool.not hb10) (bLss rfl rfl)) (kx (pkF rfl (congrArg Bool.not hb10) rfl) (kx (mvO rfl) ?_)))))
        rcases ite_some h with ⟨hb11, h⟩ | ⟨hb11, h⟩
        ·refine kx (gsF rfl hb11) (kx (gsF rfl hb11) (kx (gsF rfl hb11) (kx (gsF rfl hb11) (kx (pkT rfl hb11 rfl) (Rn (hA h3 (hV (.bool true) rfl hZ)) fun e12 h14 h15 => ?_)))))
         clear h3
         obtain rfl := si h
         exact kd (show impl_ValidChain_c1_Q a1 _ _ from ⟨rfl, h14, h15⟩)
        refine kx (guF rfl hb11 (faP h3 ⟨ble rfl, blt rfl⟩ rfl)) (kx (guF rfl hb11 (ldP rfl rfl)) (kx (guF rfl hb11 (lnS Try.underlying37 rfl)) (kx (guF rfl hb11 (bGtr rfl rfl)) (kx (pkF rfl hb11 rfl) (Rn (hA h3 (hN rfl hZ)) fun e16 h18 h19 => ?_)))))
        clear h3
        obtain rfl := si h
        exact kd (show impl_ValidChain_c1_Q a1 _ _ from ⟨rfl, h18, h19⟩)
       refine kx (gsF rfl (congrArg Bool.not hb10)) (kx (gsF rfl (congrArg Bool.not hb10)) (kx (gsF rfl (congrArg Bool.not hb10)) (kx (gsF rfl (congrArg Bool.not hb10)) (kx (pkT rfl (congrArg Bool.not hb10) rfl) (kx (mvO rfl) (kx (gsF rfl rfl) (kx (gsF rfl rfl) (kx (gsF rfl rfl) (kx (gsF rfl rfl) (kx (pkT rfl rfl rfl) (Rn (hA h3 (hV (.bool true) rfl hZ)) fun e20 h22 h23 => ?_)))))))))))
       clear h3
       obtain rfl := si h
       exact kd (show impl_ValidChain_c1_Q a1 _ _ from ⟨rfl, h22, h23⟩)
      refine kx (gsF rfl (congrArg Bool.not hb9)) (kx (gsF rfl (congrArg Bool.not hb9)) (kx (gsF rfl (congrArg Bool.not hb9)) (kx (gsF rfl (congrArg Bool.not hb9)) (kx (pkT rfl (congrArg Bool.not hb9) rfl) (kx (mvO rfl) (kx (gsF rfl rfl) (kx (gsF rfl rfl) (kx (gsF rfl rfl) (kx (gsF rfl rfl) (kx (pkT rfl rfl rfl) (kx (mvO rfl) (kx (gsF rfl rfl) (kx (gsF rfl rfl) (kx (gsF rfl rfl) (kx (gsF rfl rfl) (kx (pkT rfl rfl rfl) (Rn (hA h3 (hV (.bool true) rfl hZ)) fun e24 h26 h27 => ?_)))))))))))))))))
      clear h3
      obtain rfl := si h
      exact kd (show impl_ValidChain_c1_Q a1 _ _ from ⟨rfl, h26, h27⟩)
     refine kx (gsF rfl (congrArg Bool.not hb6)) (kx (gsF rfl (congrArg Bool.not hb6)) (kc (Ev.gsF rfl (congrArg Bool.not hb6)) (kx (gsF rfl (congrArg Bool.not hb6)) (kx (pkT rfl (congrArg Bool.not hb6) rfl) (kx (mvO rfl) (kx (gsF rfl rfl) (kx (gsF rfl rfl) (kx (gsF rfl rfl) (kx (gsF rfl rfl) (kx (pkT rfl rfl rfl) (kx (mvO rfl) (kx (gsF rfl rfl) (kx (gsF rfl rfl) (kx (gsF rfl rfl) (kx (gsF rfl rfl) (kx (pkT rfl rfl rfl) (kx (mvO rfl) (kx (gsF rfl rfl) (kx (gsF rfl rfl) (kx (gsF rfl rfl) (kx (gsF rfl rfl) (kx (pkT rfl rfl rfl) (Rn (hA h3 (hV (.bool true) rfl hZ)) fun e28 h30 h31 => ?_)))))))))))))))))))))))
     clear h3
     obtain rfl := si h
     exact kd (show impl_ValidChain_c1_Q a1 _ _ from ⟨rfl, h30, h31⟩)) ?_
 revert h hr144
 revert r143
 intro y34 hr144 h
 intro x e32 M33 hq142
 obtain ⟨rfl, h35, h36⟩ := hq142
 refine sN ?_
 rcases ite_some h with ⟨hb37, h⟩ | ⟨hb37, h⟩
 ·refine cT h36 hb37 (sq (Rg (kx (mvO rfl) (Rn (hV (.bool false) rfl hZ) fun e38 h40 => sN (xx (sR ?_))))))
  clear h35 h36
  obtain rfl := si h
  exact eR (resT h40 res0) rfl
 obtain ⟨r131, hr132, h⟩ := bind_some h
 refine cF h36 hb37 (xx (sN (sq (Rg (kx (faP h35 ⟨ble rfl, blt rfl⟩ rfl) (kx (ldP rfl rfl) (kx (mvO rfl) (Rn (hV (.pt none (.str a1.Debtor :: (.bool a1.Stock.Stock :: (.sl none (a1.Stock.Notches.map Notch.c) :: ((arC (cI .i8) 0 a1.Stock.Grain) ++ ((.sl none (a1.Marks.map Mark.c) :: []) : List AV)))))) h35 (hN rfl hZ)) fun e41 h43 h44 => sN (sq (sq (Rg (kx (faP h43 ⟨ble rfl, blt rfl⟩ rfl) (kx (ldP rfl rfl) (kx (lnS Try.underlying37 rfl) (kx (mvO rfl) (Rn (hA h44 (hN rfl (hN rfl (hV (.int .i64 0) rfl hZ)))) fun e45 h47 h48 h49 h50 => sN (bl ?_)))))))))))))))))
 clear h35 h36 h43 h44
 rcases r131 with _ | _
 ·refine Ev.loop (RS := impl_ValidChain_b1_RS a1) (RR := impl_ValidChain_b1_RR a1) (fun s r h e M hs => impl_ValidChain_b1_ok a1 s r h e M hs) hr132 ⟨h47, h48, h49, h50⟩ fun x e134 M135 hq133 => ?_
  obtain ⟨rfl, h136⟩ := hq133
  refine bR (sR ?_)
  obtain rfl := si h
  exact eR (resT h136 res0) rfl
 refine Ev.loop (RS := impl_ValidChain_b1_RS a1) (RR := impl_ValidChain_b1_RR a1) (fun s r h e M hs => impl_ValidChain_b1_ok a1 s r h e M hs) hr132 ⟨h47, h48, h49, h50⟩ fun x e137 M138 hq133 => ?_
 obtain ⟨rfl, _⟩ := hq133
 refine bE (sN (sq (Rg (kx (mvO rfl) (Rn (hV (.bool true) rfl hZ) fun e139 h141 => sN (xx ?_))))))
 obtain rfl := si h
 exact eR (resT h141 res0) rfl
/-! ### loop.example/g01263/spec.l06Ok (f24) -/
def spec_l06Ok_c1_Q (a1 : Chain) (g : Bool) (q : Out) : Prop := q.1 = .nrm ∧ eget q.2.1 0 = .pt none (.str a1.Debtor :: (.bool a1.Stock.Stock :: (.sl none (a1.Stock.Notches.map Notch.c) :: ((arC (cI .i8) 0 a1.Stock.Grain) ++ ((.sl none (a1.Marks.map Mark.c) :: []) : List AV))))) ∧ eget q.2.1 34 = .bool g
abbrev spec_l06Ok_b1_S := (List UInt8) × Int
abbrev spec_l06Ok_b1_R := Unit ⊕ Unit
def spec_l06Ok_b1_RS (a1 : Chain) (s : spec_l06Ok_b1_S) (e : Env) (M : Mem) : Prop := eget e 0 = .pt none (.str a1.Debtor :: (.bool a1.Stock.Stock :: (.sl none (a1.Stock.Notches.map Notch.c) :: ((arC (cI .i8) 0 a1.Stock.Grain) ++ ((.sl none (a1.Marks.map Mark.c) :: []) : List AV))))) ∧ eget e 3 = .str s.1 ∧ eget e 4 = .int .i64 s.2
def spec_l06Ok_b1_RR (a1 : Chain) (r : spec_l06Ok_b1_R) (x : Ex) (e : Env) (M : Mem) : Prop :=
  match r with
  | (.inl g) => x = .ret ∧ eget e 2 = .bool false
  | (.inr g) => x = .ext 0 ∧ True
noncomputable def spec_l06Ok_b1 (a1 : Chain) : spec_l06Ok_b1_S → Option (spec_l06Ok_b1_S ⊕ spec_l06Ok_b1_R) := fun (s1_1, s1_2) =>
 if (decide (s1_2 < (a1.Marks.length : Int))) = true then
  (rd a1.Marks s1_2).bind fun x70 =>
  (spec_l06Name x70.Holder).bind fun r73 =>
  if r73 = true then
   (rd a1.Marks s1_2).bind fun x75 =>
   if (x75.Holder == s1_1) = true then
    some (.inr (.inl ()))
   else
    (rd a1.Marks s1_2).bind fun x86 =>
    some (.inl (x86.Holder, (IntKind.i64.wrap (s1_2 + 1))))
  else
   some (.inr (.inl ()))
 else
  some (.inr (.inr ()))
theorem spec_l06Ok_b1_ok (a1 : Chain) (s : spec_l06Ok_b1_S) (r : spec_l06Ok_b1_S ⊕ spec_l06Ok_b1_R) (h : spec_l06Ok_b1 a1 s = some r) (e : Env) (M : Mem) (hs : spec_l06Ok_b1_RS a1 s e M) : Ev (fun k => (f24_l5 (CN k) k (prune [0, 3, 4] e) M).bind fun q => some q) (bQ (spec_l06Ok_b1_RS a1) (spec_l06Ok_b1_RR a1) r) := by
 obtain ⟨s1_1, s1_2⟩ := s
 unfold spec_l06Ok_b1 at h
 obtain ⟨h57, h59, h61⟩ := hs
 generalize he56 : prune [0, 3, 4] e = e55
 have h58 := envp he56.symm rfl h57
 have h60 := envp he56.symm rfl h59
 have h62 := envp he56.symm rfl h61
 refine sq (sq (Rg (kx (mvO h62) (kx (mvO h58) (kx (ncP rfl) (kx (faP rfl ⟨ble rfl, blt rfl⟩ rfl) (kx (ldP rfl rfl) (kx (lnS Try.underlying37 rfl) (kx (bLss rfl rfl) (Rn (hV (.pt none (.str a1.Debtor :: (.bool a1.Stock.Stock :: (.sl none (a1.Stock.Notches.map Notch.c) :: ((arC (cI .i8) 0 a1.Stock.Grain) ++ ((.sl none (a1.Marks.map Mark.c) :: []) : List AV)))))) h58 (hV (.str s1_1) h60 (hV (.int .i64 s1_2) h62 (hN rfl hZ)))) fun e63 h65 h66 h67 h68 => sN ?_))))))))))
 clear h58 h60 h62
 rcases ite_some h with ⟨hb69, h⟩ | ⟨hb69, h⟩
 ·obtain ⟨x70, hx71, h⟩ := bind_some h
  obtain ⟨r73, hx72, h⟩ := bind_some h
  refine cT h68 hb69 (xx (sN (sq (bl (sq (sq (Rg (kx (mvO h65) (kx (ncP rfl) (kx (faP rfl ⟨ble rfl, blt rfl⟩ rfl) (kx (ldP rfl rfl) (kx (mvO h67) (kx (ixS rfl rfl hx71 Mark.fl) (kx (faP rfl ⟨ble rfl, blt rfl⟩ rfl) (kx (ldP rfl rfl) (kc (cl (v := .bool r73) rfl (cns rfl rfl) rfl (spec_l06Name_ok x70.Holder _ hx72) nm) (kx (uNot rfl) (kx (mvO rfl) ?_))))))))))))))))))
  rcases ite_some h with ⟨hb74, h⟩ | ⟨hb74, h⟩
  ·obtain ⟨x75, hx76, h⟩ := bind_some h
   refine kx (guF rfl (congrArg Bool.not hb74) (mvO h65)) (kx (guF rfl (congrArg Bool.not hb74) (ncP rfl)) (kx (guF rfl (congrArg Bool.not hb74) (faP rfl ⟨ble rfl, blt rfl⟩ rfl)) (kx (guF rfl (congrArg Bool.not hb74) (ldP rfl rfl)) (kx (guF rfl (congrArg Bool.not hb74) (mvO h67)) (kx (guF rfl (congrArg Bool.not hb74) (ixS rfl rfl hx76 Mark.fl)) (kx (guF rfl (congrArg Bool.not hb74) (faP rfl ⟨ble rfl, blt rfl⟩ rfl)) (kx (guF rfl (congrArg Bool.not hb74) (ldP rfl rfl)) (kx (guF rfl (congrArg Bool.not hb74) (mvO h66)) (kx (guF rfl (congrArg Bool.not hb74) (sEql rfl rfl)) (kx (pkF rfl (congrArg Bool.not hb74) rfl) (Rn (hA h65 (hA h67 (hN rfl hZ))) fun e77 h79 h80 h81 => sN ?_)))))))))))
   clear h65 h66 h67 h68
   rcases ite_some h with ⟨hb82, h⟩ | ⟨hb82, h⟩
   ·refine cT h81 hb82 (sq (Rg (kx (mvO rfl) (Rn (hV (.bool false) rfl hZ) fun e83 h85 => sN (xx (sR (bR (sR ?_))))))))
    clear h79 h80 h81
    obtain rfl := si h
    exact qR ⟨rfl, h85⟩
   obtain ⟨x86, hx87, h⟩ := bind_some h
   refine cF h81 hb82 (xx (sN (Rg (kx (mvO h79) (kx (ncP rfl) (kx (faP rfl ⟨ble rfl, blt rfl⟩ rfl) (kx (ldP rfl rfl) (kx (mvO h80) (kx (ixS rfl rfl hx87 Mark.fl) (kx (faP rfl ⟨ble rfl, blt rfl⟩ rfl) (kx (ldP rfl rfl) (kx (mvO rfl) (Rn (hA h79 (hN rfl (hA h80 hZ))) fun e88 h90 h91 h92 => bN (sN (Rg (kx (mvO h92) (kx (bAdd rfl rfl) (kx (mvO rfl) (Rn (hA h90 (hA h91 (hN rfl hZ))) fun e93 h95 h96 h97 => ?_)))))))))))))))))))
   clear h79 h80 h81 h90 h91
   obtain rfl := si h
   exact qN ⟨h95, h96, h97⟩
  refine kx (gsF rfl (congrArg Bool.not hb74)) (kx (gsF rfl (congrArg Bool.not hb74)) (kx (gsF rfl (congrArg Bool.not hb74)) (kx (gsF rfl (congrArg Bool.not hb74)) (kx (gsF rfl (congrArg Bool.not hb74)) (kx (gsF rfl (congrArg Bool.not hb74)) (kx (gsF rfl (congrArg Bool.not hb74)) (kx (gsF rfl (congrArg Bool.not hb74)) (kx (gsF rfl (congrArg Bool.not hb74)) (kx (gsF rfl (congrArg Bool.not hb74)) (kx (pkT rfl (congrArg Bool.not hb74) rfl) (Rn (hA h65 (hA h67 (hV (.bool true) rfl hZ))) fun e98 h100 h101 h102 => sN (cT h102 rfl (sq (Rg (kx (mvO rfl) (Rn (hV (.bool false) rfl hZ) fun e103 h105 => sN (xx (sR (bR (sR ?_))))))))))))))))))))
  clear h65 h66 h67 h68 h100 h101 h102
  obtain rfl := si h
  exact qR ⟨rfl, h105⟩
 refine cF h68 hb69 (xx (sE ?_))
 obtain rfl := si h
 exact qE ⟨rfl, trivial⟩
noncomputable def spec_l06Ok (a1 : Chain) : Option Bool :=
 ((spec_l06Name a1.Debtor).bind fun r5 =>
 if r5 = true then
  (spec_l01Ok a1.Stock).bind fun r8 =>
  if r8 = true then
   if a1.Stock.Stock = true then
    (spec_l00In (a1.Marks.length : Int) 1 30).bind fun r12 =>
    some (!r12)
   else
    some true
  else
   some true
 else
  some true).bind fun y31 =>
 if y31 = true then
  some false
 else
  (Lw (spec_l06Ok_b1 a1) (a1.Debtor, 0)).bind fun r => match r with
  | (.inl _) =>
   some false
  | (.inr _) =>
   some true
def spec_l06Ok_enc (r : Bool) : AV := .bool r
theorem spec_l06Ok_ok (a1 : Chain) (r : Bool) (h : spec_l06Ok a1 = some r) : Ev (fun k => CN k 24 [.pt none (.str a1.Debtor :: (.bool a1.Stock.Stock :: (.sl none (a1.Stock.Notches.map Notch.c) :: ((arC (cI .i8) 0 a1.Stock.Grain) ++ ((.sl none (a1.Marks.map Mark.c) :: []) : List AV)))))] []) (fun p => rRes p.2 p.1 = spec_l06Ok_enc r) := by
 unfold spec_l06Ok at h
 obtain ⟨r118, hr119, h⟩ := bind_some h
 refine Ev.enter (F := fun k => f24 (CN k) k) (fun k => callN_eq rfl Try.func24 rfl rfl rfl (by decide +kernel) (f24_eq _ _)) (sq (Rg (kx (mvO rfl) (Rn (hN rfl hZ) fun e1 h3 => sN (sq (sq ?_))))))
 refine Ev.cut (Q1 := spec_l06Ok_c1_Q a1 r118) (by
     have h := hr119
     obtain ⟨r5, hx4, h⟩ := bind_some h
     refine Rg (kx (mvO h3) (kx (ncP rfl) (kx (faP rfl ⟨ble rfl, blt rfl⟩ rfl) (kx (ldP rfl rfl) (kc (cl (v := .bool r5) rfl (cns rfl rfl) rfl (spec_l06Name_ok a1.Debtor _ hx4) nm) (kx (uNot rfl) (kx (mvO rfl) ?_)))))))
     rcases ite_some h with ⟨hb6, h⟩ | ⟨hb6, h⟩
     ·obtain ⟨r8, hx7, h⟩ := bind_some h
      refine kx (guF rfl (congrArg Bool.not hb6) (mvO h3)) (kx (guF rfl (congrArg Bool.not hb6) (ncP rfl)) (kx (guF rfl (congrArg Bool.not hb6) (faP rfl ⟨ble rfl, blt rfl⟩ rfl)) (kc (Ev.guF rfl (congrArg Bool.not hb6) (cl (v := .bool r8) rfl (cns rfl rfl) rfl (spec_l01Ok_ok a1.Stock _ hx7) nm)) (kx (guF rfl (congrArg Bool.not hb6) (uNot rfl)) (kx (pkF rfl (congrArg Bool.not hb6) rfl) (kx (mvO rfl) ?_))))))
      rcases ite_some h with ⟨hb9, h⟩ | ⟨hb9, h⟩
      ·refine kx (guF rfl (congrArg Bool.not hb9) (mvO h3)) (kx (guF rfl (congrArg Bool.not hb9) (ncP rfl)) (kx (guF rfl (congrArg Bool.not hb9) (faP rfl ⟨ble rfl, blt rfl⟩ rfl)) (kx (guF rfl (congrArg Bool.not hb9) (faP rfl ⟨ble rfl, blt rfl⟩ rfl)) (kx (guF rfl (congrArg Bool.not hb9) (ldP rfl rfl)) (kx (guF rfl (congrArg Bool.not hb9) (uNot rfl)) (kx (pkF rfl (congrArg Bool.not hb9) rfl) (kx (mvO rfl) ?_)))))))
       rcases ite_some h with ⟨hb10, h⟩ | ⟨hb10, h⟩
       ·obtain ⟨r12, hx11, h⟩ := bind_some h
        refine kx (guF rfl (congrArg Bool.not hb10) (mvO h3)) (kx (guF rfl (congrArg Bool.not hb10) (ncP rfl)) (kx (guF rfl (congrArg Bool.not hb10) (faP rfl ⟨ble rfl, blt rfl⟩ rfl)) (kx (guF rfl (congrArg Bool.not hb10) (ldP rfl rfl)) (kx (guF rfl (congrArg Bool.not hb10) (lnS Try.underlying37 rfl)) (kc (Ev.guF rfl (congrArg Bool.not hb10) (cl (v := .bool r12) rfl (cns rfl (cns rfl (cns rfl rfl))) rfl (spec_l00In_ok (a1.Marks.length : Int) 1 30 _ hx11) nm)) (kx (guF rfl (congrArg Bool.not hb10) (uNot rfl)) (kx (pkF rfl (congrArg Bool.not hb10) rfl) (Rn (hA h3 (hN rfl hZ)) fun e13 h15 h16 => ?_))))))))
        clear h3
        obtain rfl := si h
        exact kd (show spec_l06Ok_c1_Q a1 _ _ from ⟨rfl, h15, h16⟩)
       refine kx (gsF rfl (congrArg Bool.not hb10)) (kx (gsF rfl (congrArg Bool.not hb10)) (kx (gsF rfl (congrArg Bool.not hb10)) (kx (gsF rfl (congrArg Bool.not hb10)) (kx (gsF rfl (congrArg Bool.not hb10)) (kc (Ev.gsF rfl (congrArg Bool.not hb10)) (kx (gsF rfl (congrArg Bool.not hb10)) (kx (pkT rfl (congrArg Bool.not hb10) rfl) (Rn (hA h3 (hV (.bool true) rfl hZ)) fun e17 h19 h20 => ?_))))))))
       clear h3
       obtain rfl := si h
       exact kd (show spec_l06Ok_c1_Q a1 _ _ from ⟨rfl, h19, h20⟩)
      refine kx (gsF rfl (congrArg Bool.not hb9)) (kx (gsF rfl (congrArg Bool.not hb9)) (kx (gsF rfl (congrArg Bool.not hb9)) (kx (gsF rfl (congrArg Bool.not hb9)) (kx (gsF rfl (congrArg Bool.not hb9)) (kx (gsF rfl (congrArg Bool.not hb9)) (kx (pkT rfl (congrArg Bool.not hb9) rfl) (kx (mvO rfl) (kx (gsF rfl rfl) (kx (gsF rfl rfl) (kx (gsF rfl rfl) (kx (gsF rfl rfl) (kx (gsF rfl rfl) (kc (Ev.gsF rfl rfl) (kx (gsF rfl rfl) (kx (pkT rfl rfl rfl) (Rn (hA h3 (hV (.bool true) rfl hZ)) fun e21 h23 h24 => ?_))))))))))))))))
      clear h3
      obtain rfl := si h
      exact kd (show spec_l06Ok_c1_Q a1 _ _ from ⟨rfl, h23, h24⟩)
     refine kx (gsF rfl (congrArg Bool.not hb6)) (kx (gsF rfl (congrArg Bool.not hb6)) (kx (gsF rfl (congrArg Bool.not hb6)) (kc (Ev.gsF rfl (congrArg Bool.not hb6)) (kx (gsF rfl (congrArg Bool.not hb6)) (kx (pkT rfl (congrArg Bool.not hb6) rfl) (kx (mvO rfl) (kx (gsF rfl rfl) (kx (gsF rfl rfl) (kx (gsF rfl rfl) (kx (gsF rfl rfl) (kx (gsF rfl rfl) (kx (gsF rfl rfl) (kx (pkT rfl rfl rfl) (kx (mvO rfl) (kx (gsF rfl rfl) (kx (gsF rfl rfl) (kx (gsF rfl rfl) (kx (gsF rfl rfl) (kx (gsF rfl rfl) (kc (Ev.gsF rfl rfl) (kx (gsF rfl rfl) (kx (pkT rfl rfl rfl) (Rn (hA h3 (hV (.bool true) rfl hZ)) fun e25 h27 h28 => ?_)))))))))))))))))))))))
     clear h3
     obtain rfl := si h
     exact kd (show spec_l06Ok_c1_Q a1 _ _ from ⟨rfl, h27, h28⟩)) ?_
 revert h hr119
 revert r118
 intro y31 hr119 h
 intro x e29 M30 hq117
 obtain ⟨rfl, h32, h33⟩ := hq117
 refine sN ?_
 rcases ite_some h with ⟨hb34, h⟩ | ⟨hb34, h⟩
 ·refine cT h33 hb34 (sq (Rg (kx (mvO rfl) (Rn (hV (.bool false) rfl hZ) fun e35 h37 => sN (xx (sR ?_))))))
  clear h32 h33
  obtain rfl := si h
  exact eR (resT h37 res0) rfl
 obtain ⟨r106, hr107, h⟩ := bind_some h
 refine cF h33 hb34 (xx (sN (sq (Rg (kx (mvO h32) (kx (ncP rfl) (kx (faP rfl ⟨ble rfl, blt rfl⟩ rfl) (kx (ldP rfl rfl) (kx (mvO rfl) (Rn (hV (.pt none (.str a1.Debtor :: (.bool a1.Stock.Stock :: (.sl none (a1.Stock.Notches.map Notch.c) :: ((arC (cI .i8) 0 a1.Stock.Grain) ++ ((.sl none (a1.Marks.map Mark.c) :: []) : List AV)))))) h32 (hN rfl hZ)) fun e38 h40 h41 => sN (sq (sq (Rg (kx (mvO rfl) (Rn (hA h40 (hA h41 (hV (.int .i64 0) rfl hZ))) fun e42 h44 h45 h46 => sN (bl ?_))))))))))))))))
 clear h32 h33 h40 h41
 rcases r106 with _ | _
 ·refine Ev.loop (RS := spec_l06Ok_b1_RS a1) (RR := spec_l06Ok_b1_RR a1) (fun s r h e M hs => spec_l06Ok_b1_ok a1 s r h e M hs) hr107 ⟨h44, h45, h46⟩ fun x e109 M110 hq108 => ?_
  obtain ⟨rfl, h111⟩ := hq108
  refine bR (sR ?_)
  obtain rfl := si h
  exact eR (resT h111 res0) rfl
 refine Ev.loop (RS := spec_l06Ok_b1_RS a1) (RR := spec_l06Ok_b1_RR a1) (fun s r h e M hs => spec_l06Ok_b1_ok a1 s r h e M hs) hr107 ⟨h44, h45, h46⟩ fun x e112 M113 hq108 => ?_
 obtain ⟨rfl, _⟩ := hq108
 refine bE (sN (sq (Rg (kx (mvO rfl) (Rn (hV (.bool true) rfl hZ) fun e114 h116 => sN (xx ?_))))))
 obtain rfl := si h
 exact eR (resT h116 res0) rfl
/-! ### loop.example/g01263/laws.eqMarkS (f23) -/
abbrev laws_eqMarkS_b1_S := Int
abbrev laws_eqMarkS_b1_R := Unit ⊕ Unit
def laws_eqMarkS_b1_RS (a1 : List Mark) (a2 : List Mark) (s : laws_eqMarkS_b1_S) (e : Env) (M : Mem) : Prop := eget e 0 = .sl none (a1.map Mark.c) ∧ eget e 1 = .sl none (a2.map Mark.c) ∧ eget e 5 = .int .i64 s
def laws_eqMarkS_b1_RR (a1 : List Mark) (a2 : List Mark) (r : laws_eqMarkS_b1_R) (x : Ex) (e : Env) (M : Mem) : Prop :=
  match r with
  | (.inl g) => x = .ret ∧ eget e 4 = .bool false
  | (.inr g) => x = .ext 0 ∧ True
noncomputable def laws_eqMarkS_b1 (a1 : List Mark) (a2 : List Mark) : laws_eqMarkS_b1_S → Option (laws_eqMarkS_b1_S ⊕ laws_eqMarkS_b1_R) := fun s1_1 =>
 if (decide (s1_1 < (a1.length : Int))) = true then
  (rd a1 s1_1).bind fun x42 =>
  (rd a2 s1_1).bind fun x44 =>
  (laws_eqMark x42 x44).bind fun r47 =>
  if r47 = true then
   some (.inl (IntKind.i64.wrap (s1_1 + 1)))
  else
   some (.inr (.inl ()))
 else
  some (.inr (.inr ()))
theorem laws_eqMarkS_b1_ok (a1 : List Mark) (a2 : List Mark) (s : laws_eqMarkS_b1_S) (r : laws_eqMarkS_b1_S ⊕ laws_eqMarkS_b1_R) (h : laws_eqMarkS_b1 a1 a2 s = some r) (e : Env) (M : Mem) (hs : laws_eqMarkS_b1_RS a1 a2 s e M) : Ev (fun k => (f23_l4 (CN k) k (prune [0, 1, 5] e) M).bind fun q => some q) (bQ (laws_eqMarkS_b1_RS a1 a2) (laws_eqMarkS_b1_RR a1 a2) r) := by
 revert h hs
 revert s
 intro s1_1 h hs
 unfold laws_eqMarkS_b1 at h
 obtain ⟨h29, h31, h33⟩ := hs
 generalize he28 : prune [0, 1, 5] e = e27
 have h30 := envp he28.symm rfl h29
 have h32 := envp he28.symm rfl h31
 have h34 := envp he28.symm rfl h33
 refine sq (sq (Rg (kx (mvO h34) (kx (mvO h30) (kx (lnS Try.underlying37 rfl) (kx (bLss rfl rfl) (Rn (hV (.sl none (a1.map Mark.c)) h30 (hV (.sl none (a2.map Mark.c)) h32 (hV (.int .i64 s1_1) h34 (hN rfl hZ)))) fun e35 h37 h38 h39 h40 => sN ?_)))))))
 clear h30 h32 h34
 rcases ite_some h with ⟨hb41, h⟩ | ⟨hb41, h⟩
 ·obtain ⟨x42, hx43, h⟩ := bind_some h
  obtain ⟨x44, hx45, h⟩ := bind_some h
  obtain ⟨r47, hx46, h⟩ := bind_some h
  refine cT h40 hb41 (xx (sN (sq (bl (sq (Rd (kf (mvO h37) (kf (mvO h39) (kf (ixS rfl rfl hx43 Mark.fl) (kf (ldPA rfl rfl rfl) (kf (mvO h38) (kf (mvO h39) (kf (ixS rfl rfl hx45 Mark.fl) (kf (ldPA rfl rfl rfl) (fc (cl (v := .bool r47) rfl (cns rfl (cns rfl rfl)) rfl (laws_eqMark_ok x42 x44 _ hx46) nm) (kf (uNot rfl) (fZ (Rn (hA h37 (hA h38 (hA h39 (hN rfl hZ)))) fun e48 h50 h51 h52 h53 => sN ?_))))))))))))))))))
  clear h37 h38 h39 h40
  rcases ite_some h with ⟨hb54, h⟩ | ⟨hb54, h⟩
  ·refine cF h53 (congrArg Bool.not hb54) (xx (bN (sN (Rg (kx (mvO h52) (kx (bAdd rfl rfl) (kx (mvO rfl) (Rn (hA h50 (hA h51 (hN rfl hZ))) fun e55 h57 h58 h59 => ?_))))))))
   clear h50 h51 h53
   obtain rfl := si h
   exact qN ⟨h57, h58, h59⟩
  refine cT h53 (congrArg Bool.not hb54) (sq (Rg (kx (mvO rfl) (Rn (hV (.bool false) rfl hZ) fun e60 h62 => sN (xx (bR (sR ?_)))))))
  clear h50 h51 h52 h53
  obtain rfl := si h
  exact qR ⟨rfl, h62⟩
 refine cF h40 hb41 (xx (sE ?_))
 obtain rfl := si h
 exact qE ⟨rfl, trivial⟩
noncomputable def laws_eqMarkS (a1 : List Mark) (a2 : List Mark) : Option Bool :=
 if ((a1.length : Int) != (a2.length : Int)) = true then
  some false
 else
  (Lw (laws_eqMarkS_b1 a1 a2) 0).bind fun r => match r with
  | (.inl _) =>
   some false
  | (.inr _) =>
   some true
def laws_eqMarkS_enc (r : Bool) : AV := .bool r
theorem laws_eqMarkS_ok (a1 : List Mark) (a2 : List Mark) (r : Bool) (h : laws_eqMarkS a1 a2 = some r) : Ev (fun k => CN k 23 [.sl none (a1.map Mark.c), .sl none (a2.map Mark.c)] []) (fun p => rRes p.2 p.1 = laws_eqMarkS_enc r) := by
 unfold laws_eqMarkS at h
 refine Ev.enter (F := fun k => f23 (CN k) k) (fun k => callN_eq rfl Try.func23 rfl rfl rfl (by decide +kernel) (f23_eq _ _)) (sq (Rg (kx (mvO rfl) (Rn (hN rfl (hN rfl hZ)) fun e1 h3 h4 => sN (sq (sq (Rg (kx (mvO h3) (kx (lnS Try.underlying37 rfl) (kx (mvO h4) (kx (lnS Try.underlying37 rfl) (kx (bNeq rfl rfl) (Rn (hA h3 (hA h4 (hN rfl hZ))) fun e5 h7 h8 h9 => sN ?_)))))))))))))
 clear h3 h4
 rcases ite_some h with ⟨hb10, h⟩ | ⟨hb10, h⟩
 ·refine cT h9 hb10 (sq (Rg (kx (mvO rfl) (Rn (hV (.bool false) rfl hZ) fun e11 h13 => sN (xx (sR ?_))))))
  clear h7 h8 h9
  obtain rfl := si h
  exact eR (resT h13 res0) rfl
 obtain ⟨r63, hr64, h⟩ := bind_some h
 refine cF h9 hb10 (xx (sN (sq (sq (Rg (kx (mvO rfl) (Rn (hA h7 (hA h8 (hV (.int .i64 0) rfl hZ))) fun e14 h16 h17 h18 => sN (bl ?_))))))))
 clear h7 h8 h9
 rcases r63 with _ | _
 ·refine Ev.loop (RS := laws_eqMarkS_b1_RS a1 a2) (RR := laws_eqMarkS_b1_RR a1 a2) (fun s r h e M hs => laws_eqMarkS_b1_ok a1 a2 s r h e M hs) hr64 ⟨h16, h17, h18⟩ fun x e66 M67 hq65 => ?_
  obtain ⟨rfl, h68⟩ := hq65
  refine bR (sR ?_)
  obtain rfl := si h
  exact eR (resT h68 res0) rfl
 refine Ev.loop (RS := laws_eqMarkS_b1_RS a1 a2) (RR := laws_eqMarkS_b1_RR a1 a2) (fun s r h e M hs => laws_eqMarkS_b1_ok a1 a2 s r h e M hs) hr64 ⟨h16, h17, h18⟩ fun x e69 M70 hq65 => ?_
 obtain ⟨rfl, _⟩ := hq65
 refine bE (sN (sq (Rg (kx (mvO rfl) (Rn (hV (.bool true) rfl hZ) fun e71 h73 => sN (xx ?_))))))
 obtain rfl := si h
 exact eR (resT h73 res0) rfl
/-! ### loop.example/g01263/laws.eqHalf (f22) -/
noncomputable def laws_eqHalf (a1 : Half) (a2 : Half) : Option Bool :=
 if (a1.Stock == a2.Stock) = true then
  (laws_eqNotchS a1.Notches a2.Notches).bind fun r12 =>
  if r12 = true then
   (laws_eqGrain a1.Grain a2.Grain).bind fun r20 =>
   if r20 = true then
    some true
   else
    some false
  else
   some false
 else
  some false
def laws_eqHalf_enc (r : Bool) : AV := .bool r
theorem laws_eqHalf_ok (a1 : Half) (a2 : Half) (r : Bool) (h : laws_eqHalf a1 a2 = some r) : Ev (fun k => CN k 22 [.agg (.bool a1.Stock :: (.sl none (a1.Notches.map Notch.c) :: ((arC (cI .i8) 0 a1.Grain) ++ ([] : List AV)))), .agg (.bool a2.Stock :: (.sl none (a2.Notches.map Notch.c) :: ((arC (cI .i8) 0 a2.Grain) ++ ([] : List AV))))] []) (fun p => rRes p.2 p.1 = laws_eqHalf_enc r) := by
 unfold laws_eqHalf at h
 refine Ev.enter (F := fun k => f22 (CN k) k) (fun k => callN_eq rfl Try.func22 rfl rfl rfl (by decide +kernel) (f22_eq _ _)) (sq (Rg (kx (bxI rfl rfl ⟨rfl, rfl, by decide⟩) (kx (bxI rfl rfl ⟨rfl, rfl, by decide⟩) (kx (mvO rfl) (Rn (hN rfl (hN rfl hZ)) fun e1 h3 h4 => sN (sq (sq (Rg (kx (faP h3 ⟨ble rfl, blt rfl⟩ rfl) (kx (ldP rfl rfl) (kx (faP h4 ⟨ble rfl, blt rfl⟩ rfl) (kx (ldP rfl rfl) (kx (oNeq (by kernel_rfl) rfl rfl) (Rn (hA h3 (hA h4 (hN rfl hZ))) fun e5 h7 h8 h9 => sN ?_)))))))))))))))
 clear h3 h4
 rcases ite_some h with ⟨hb10, h⟩ | ⟨hb10, h⟩
 ·obtain ⟨r12, hx11, h⟩ := bind_some h
  refine cF h9 (congrArg Bool.not hb10) (xx (sN (sq (sq (Rg (kx (faP h7 ⟨ble rfl, blt rfl⟩ rfl) (kx (ldP rfl rfl) (kx (faP h8 ⟨ble rfl, blt rfl⟩ rfl) (kx (ldP rfl rfl) (kc (cl (v := .bool r12) rfl (cns rfl (cns rfl rfl)) rfl (laws_eqNotchS_ok a1.Notches a2.Notches _ hx11) nm) (kx (uNot rfl) (Rn (hA h7 (hA h8 (hN rfl hZ))) fun e13 h15 h16 h17 => sN ?_))))))))))))
  clear h7 h8 h9
  rcases ite_some h with ⟨hb18, h⟩ | ⟨hb18, h⟩
  ·obtain ⟨r20, hx19, h⟩ := bind_some h
   refine cF h17 (congrArg Bool.not hb18) (xx (sN (sq (sq (Rg (kx (faP h15 ⟨ble rfl, blt rfl⟩ rfl) (kx (ldPA rfl rfl rfl) (kx (faP h16 ⟨ble rfl, blt rfl⟩ rfl) (kx (ldPA rfl rfl rfl) (kc (cl (v := .bool r20) rfl (cns rfl (cns rfl rfl)) rfl (laws_eqGrain_ok a1.Grain a2.Grain _ hx19) nm) (kx (uNot rfl) (Rn (hN rfl hZ) fun e21 h23 => sN ?_))))))))))))
   clear h15 h16 h17
   rcases ite_some h with ⟨hb24, h⟩ | ⟨hb24, h⟩
   ·refine cF h23 (congrArg Bool.not hb24) (xx (sN (sq (Rg (kx (mvO rfl) (Rn (hV (.bool true) rfl hZ) fun e25 h27 => sN (xx ?_)))))))
    clear h23
    obtain rfl := si h
    exact eR (resT h27 res0) rfl
   refine cT h23 (congrArg Bool.not hb24) (sq (Rg (kx (mvO rfl) (Rn (hV (.bool false) rfl hZ) fun e28 h30 => sN (xx (sR ?_))))))
   clear h23
   obtain rfl := si h
   exact eR (resT h30 res0) rfl
  refine cT h17 (congrArg Bool.not hb18) (sq (Rg (kx (mvO rfl) (Rn (hV (.bool false) rfl hZ) fun e31 h33 => sN (xx (sR ?_))))))
  clear h15 h16 h17
  obtain rfl := si h
  exact eR (resT h33 res0) rfl
 refine cT h9 (congrArg Bool.not hb10) (sq (Rg (kx (mvO rfl) (Rn (hV (.bool false) rfl hZ) fun e34 h36 => sN (xx (sR ?_))))))
 clear h7 h8 h9
 obtain rfl := si h
 exact eR (resT h36 res0) rfl
/-! ### loop.example/g01263/laws.toMarkS (f20) -/
abbrev laws_toMarkS_b1_S := Int × (List Mark)
abbrev laws_toMarkS_b1_R := (List Mark)
def laws_toMarkS_b1_RS (a1 : List Mark) (x4 : List Mark) (i1_1 : Nat) (s : laws_toMarkS_b1_S) (e : Env) (M : Mem) : Prop := eget e 0 = .sl none (a1.map Mark.c) ∧ eget e 3 = .lsl i1_1 s.2.length 0 s.2.length ∧ eget e 4 = .int .i64 s.1 ∧ M[i1_1]? = some (.live ⟨.grow, 57, 2, s.2.map Mark.c⟩) ∧ s.2.length = x4.length
def laws_toMarkS_b1_RR (a1 : List Mark) (x4 : List Mark) (i1_1 : Nat) (g : laws_toMarkS_b1_R) (x : Ex) (e : Env) (M : Mem) : Prop := x = .ext 0 ∧ eget e 3 = .lsl i1_1 g.length 0 g.length ∧ M[i1_1]? = some (.live ⟨.grow, 57, 2, g.map Mark.c⟩) ∧ g.length = x4.length
noncomputable def laws_toMarkS_b1 (a1 : List Mark) : laws_toMarkS_b1_S → Option (laws_toMarkS_b1_S ⊕ laws_toMarkS_b1_R) := fun (s1_1, s1_2) =>
 if (decide (s1_1 < (a1.length : Int))) = true then
  (rd a1 s1_1).bind fun x45 =>
  (laws_toMark x45).bind fun (r48, r49) =>
  (rd s1_2 s1_1).bind fun x50 =>
  some (.inl ((IntKind.i64.wrap (s1_1 + 1)), (s1_2.set s1_1.toNat (Mark.mk r48 r49))))
 else
  some (.inr s1_2)
theorem laws_toMarkS_b1_ok (a1 : List Mark) (x4 : List Mark) (i1_1 : Nat) (s : laws_toMarkS_b1_S) (r : laws_toMarkS_b1_S ⊕ laws_toMarkS_b1_R) (h : laws_toMarkS_b1 a1 s = some r) (e : Env) (M : Mem) (hs : laws_toMarkS_b1_RS a1 x4 i1_1 s e M) : Ev (fun k => (f20_l3 (CN k) k (prune [0, 3, 4] e) M).bind fun q => some q) (bQ (laws_toMarkS_b1_RS a1 x4 i1_1) (laws_toMarkS_b1_RR a1 x4 i1_1) r) := by
 obtain ⟨s1_1, s1_2⟩ := s
 unfold laws_toMarkS_b1 at h
 obtain ⟨h30, h32, h34, o36, hl37⟩ := hs
 generalize he29 : prune [0, 3, 4] e = e28
 have h31 := envp he29.symm rfl h30
 have h33 := envp he29.symm rfl h32
 have h35 := envp he29.symm rfl h34
 refine sq (sq (Rg (kx (mvO h35) (kx (mvO h31) (kx (lnS Try.underlying27 rfl) (kx (bLss rfl rfl) (Rn (hV (.sl none (a1.map Mark.c)) h31 (hV (.lsl i1_1 s1_2.length 0 s1_2.length) h33 (hV (.int .i64 s1_1) h35 (hN rfl hZ)))) fun e38 h40 h41 h42 h43 => sN ?_)))))))
 clear h31 h33 h35
 rcases ite_some h with ⟨hb44, h⟩ | ⟨hb44, h⟩
 ·obtain ⟨x45, hx46, h⟩ := bind_some h
  obtain ⟨⟨r48, r49⟩, hx47, h⟩ := bind_some h
  obtain ⟨x50, hx51, h⟩ := bind_some h
  refine cT h43 hb44 (xx (sN (sq (bl (Rg (kx (mvO h41) (kx (mvO h42) (kx (mvO h40) (kx (mvO h42) (kx (ixS rfl rfl hx46 Mark.fl) (kx (ldPA rfl rfl rfl) (kc (cl (v := .agg [.str r48, .int .u32 r49]) rfl (cns rfl rfl) rfl (laws_toMark_ok x45 _ hx47) nm) (kx (ixO rfl o36 rfl rfl (rd_get hx51).1 (rd_lt hx51).2) (kw (stR (u := x50) (u' := (Mark.mk r48 r49)) rfl rfl o36 rfl (rz2 hx51) ⟨rfl, ble rfl⟩ rfl rfl) fun M52 hM53 => ?_))))))))))))))
  rw [Nat.zero_add] at hM53
  have o54 : M52[i1_1]? = some (.live ⟨.grow, 57, 2, (s1_2.set s1_1.toNat (Mark.mk r48 r49)).map Mark.c⟩) := set_same hM53 o36
  have hx55 := rd_set (u' := (Mark.mk r48 r49)) hx51
  refine Rn (hA h40 (hA h41 (hA h42 hZ))) fun e56 h58 h59 h60 => bN (sN (Rg (kx (mvO h60) (kx (bAdd rfl rfl) (kx (mvO rfl) (Rn (hA h58 (hA h59 (hN rfl hZ))) fun e61 h63 h64 h65 => ?_))))))
  clear h40 h41 h42 h43 h58 h59
  obtain rfl := si h
  exact qN ⟨h63, (lslL (L' := (s1_2.set s1_1.toNat (Mark.mk r48 r49)).length) h64 (by simp [hl37])), h65, o54, (by first | rfl | simp [hl37])⟩
 refine cF h43 hb44 (xx (sE ?_))
 obtain rfl := si h
 exact qE ⟨rfl, h41, o36, (by first | rfl | simp [hl37])⟩
noncomputable def laws_toMarkS (a1 : List Mark) : Option ((List Mark)) :=
 (mkS 24 (Mark.mk ([] : List UInt8) 0) (a1.length : Int)).bind fun x4 =>
 (Lw (laws_toMarkS_b1 a1) (0, x4)).bind fun y71 =>
 some y71
def laws_toMarkS_enc (r : (List Mark)) : AV := .sl (some 57) (r.map Mark.c)
theorem laws_toMarkS_ok (a1 : List Mark) (r : (List Mark)) (h : laws_toMarkS a1 = some r) : Ev (fun k => CN k 20 [.sl none (a1.map Mark.c)] []) (fun p => rRes p.2 p.1 = laws_toMarkS_enc r) := by
 unfold laws_toMarkS at h
 obtain ⟨x4, hx5, h⟩ := bind_some h
 refine Ev.enter (F := fun k => f20 (CN k) k) (fun k => callN_eq rfl Try.func20 rfl rfl rfl (by decide +kernel) (f20_eq _ _)) (sq (Rg (kx (mvO rfl) (Rn (hN rfl hZ) fun e1 h3 => sN (sq (Rg (kx (mvO h3) (kx (lnS Try.underlying27 rfl) (ku (mkO rfl rfl hx5 (c := Mark.c) zero57 Mark.fl (by decide)) fun M7 hM8 => ?_)))))))))
 have o9 : M7[([] : Mem).length]? = some (.live ⟨.grow, 57, 2, x4.map Mark.c⟩) := push_new hM8
 obtain ⟨y71, hr67, h⟩ := bind_some h
 refine kx (mvO rfl) (Rn (hA h3 (hV (.lsl ([] : Mem).length x4.length 0 x4.length) rfl hZ)) fun e10 h12 h13 => sN (sq (sq (Rg (kx (mvO rfl) (Rn (hA h12 (hA h13 (hV (.int .i64 0) rfl hZ))) fun e14 h16 h17 h18 => sN (bl (Ev.loop (RS := laws_toMarkS_b1_RS a1 x4 (([] : Mem).length)) (RR := laws_toMarkS_b1_RR a1 x4 (([] : Mem).length)) (fun s r h e M hs => laws_toMarkS_b1_ok a1 x4 (([] : Mem).length) s r h e M hs) hr67 ⟨h16, h17, h18, o9, rfl⟩ fun x e69 M70 hq68 => ?_))))))))
 clear h3 h12 h13
 obtain ⟨rfl, h72, o73, hl74⟩ := hq68
 refine bE (sN (sq (Rg (kx (mvO h72) (kx (mvO rfl) (Rn (hV (.lsl ([] : Mem).length y71.length 0 y71.length) rfl hZ) fun e75 h77 => sN (xx ?_)))))))
 clear h72
 obtain rfl := si h
 exact eR (resT h77 res0) (rr_row o73 rfl Mark.fl)
/-! ### loop.example/g01263/laws.toHalf (f19) -/
noncomputable def laws_toHalf (a1 : Half) : Option (Bool × (List Notch) × (Ar 16 Int)) :=
 (laws_toNotchS a1.Notches).bind fun r30 =>
 (laws_toGrain a1.Grain).bind fun r41 =>
 some (a1.Stock, r30, r41)
def laws_toHalf_enc (r : Bool × (List Notch) × (Ar 16 Int)) : AV := .agg (.bool r.1 :: (.sl (some 90) (r.2.1.map Notch.c) :: ((arC (cI .i8) 0 r.2.2) ++ ([] : List AV))))
theorem laws_toHalf_ok (a1 : Half) (r : Bool × (List Notch) × (Ar 16 Int)) (h : laws_toHalf a1 = some r) : Ev (fun k => CN k 19 [.agg (.bool a1.Stock :: (.sl none (a1.Notches.map Notch.c) :: ((arC (cI .i8) 0 a1.Grain) ++ ([] : List AV))))] []) (fun p => rRes p.2 p.1 = laws_toHalf_enc r) := by
 unfold laws_toHalf at h
 refine Ev.enter (F := fun k => f19 (CN k) k) (fun k => callN_eq rfl Try.func19 rfl rfl rfl (by decide +kernel) (f19_eq _ _)) (sq (Rg (kx (bxI rfl rfl ⟨rfl, rfl, by decide⟩) (ku (alO zero36) fun M2 hM3 => ?_))))
 have o4 : M2[([] : Mem).length]? = some (.live ⟨.box, 36, 18, [(.bool false :: (.nils :: ((arC (cI .i8) 0 (Ar.rep 16 0)) ++ ([] : List AV))))]⟩) := push_new hM3
 refine Rn (hN rfl (hV (.loc ([] : Mem).length 1 0 0) rfl hZ)) fun e5 h7 h8 => sN (sq (Rg (ku (alO zero36) fun M10 hM11 => ?_)))
 have o12 := push_old hM11 o4
 have ne13 := ne_new o4
 have o14 : M10[M2.length]? = some (.live ⟨.box, 36, 18, [(.bool false :: (.nils :: ((arC (cI .i8) 0 (Ar.rep 16 0)) ++ ([] : List AV))))]⟩) := push_new hM11
 refine Rn (hA h7 (hA h8 (hV (.loc M2.length 1 0 0) rfl hZ))) fun e15 h17 h18 h19 => sN (sq (Rg (kx (faP h17 ⟨ble rfl, blt rfl⟩ rfl) (kx (ldP rfl rfl) (kx (faO h19 o14 rfl) (kw (stO rfl rfl o14 rfl rfl ⟨rfl, ble rfl⟩ rfl rfl) fun M20 hM21 => ?_))))))
 clear h7 h8
 have o22 := set_ne hM21 ne13 o12
 have o23 : M20[M2.length]? = some (.live ⟨.box, 36, 18, [(.bool a1.Stock :: (.nils :: ((arC (cI .i8) 0 (Ar.rep 16 0)) ++ ([] : List AV))))]⟩) := set_same hM21 o14
 obtain ⟨r30, hx29, h⟩ := bind_some h
 refine Rn (hA h17 (hA h18 (hA h19 hZ))) fun e24 h26 h27 h28 => sN (sq (Rg (kx (faP h26 ⟨ble rfl, blt rfl⟩ rfl) (kx (ldP rfl rfl) (kc (cl (v := .sl (some 90) (r30.map Notch.c)) rfl (cns rfl rfl) rfl (laws_toNotchS_ok a1.Notches _ hx29) nm) (kx (faO h28 o23 rfl) (kw (stOK rfl rfl o23 rfl rfl ⟨rfl, ble rfl⟩ rfl rfl) fun M31 hM32 => ?_)))))))
 clear h17 h18 h19
 have o33 := set_ne hM32 ne13 o22
 have o34 : M31[M2.length]? = some (.live ⟨.box, 36, 18, [(.bool a1.Stock :: (.sl (some 90) (r30.map Notch.c) :: ((arC (cI .i8) 0 (Ar.rep 16 0)) ++ ([] : List AV))))]⟩) := set_same hM32 o23
 obtain ⟨r41, hx40, h⟩ := bind_some h
 refine Rn (hA h26 (hA h27 (hA h28 hZ))) fun e35 h37 h38 h39 => sN (sq (Rg (kx (faP h37 ⟨ble rfl, blt rfl⟩ rfl) (kx (ldPA rfl rfl rfl) (kc (cl (v := .agg (arC (cI .i8) 0 r41)) rfl (cns rfl rfl) rfl (laws_toGrain_ok a1.Grain _ hx40) nm) (kx (faO h39 o34 rfl) (kw (stO rfl rfl o34 rfl rfl ⟨rfl, ble rfl⟩ rfl rfl) fun M42 hM43 => ?_)))))))
 clear h26 h27 h28
 have o44 := set_ne hM43 ne13 o33
 have o45 : M42[M2.length]? = some (.live ⟨.box, 36, 18, [(.bool a1.Stock :: (.sl (some 90) (r30.map Notch.c) :: ((arC (cI .i8) 0 r41) ++ ([] : List AV))))]⟩) := set_same hM43 o34
 refine Rn (hA h38 (hA h39 hZ)) fun e46 h48 h49 => sN (sq (Rg (kx (ldOA (cs' := (.bool a1.Stock :: (.sl (some 90) (r30.map Notch.c) :: ((arC (cI .i8) 0 r41) ++ ([] : List AV))))) h49 o45 rfl rfl (ble rfl) rfl) (kw (stOK h48 rfl o44 rfl rfl ⟨rfl, ble rfl⟩ rfl rfl) fun M50 hM51 => ?_))))
 clear h37 h38 h39
 have o52 : M50[([] : Mem).length]? = some (.live ⟨.box, 36, 18, [(.bool a1.Stock :: (.sl (some 90) (r30.map Notch.c) :: ((arC (cI .i8) 0 r41) ++ ([] : List AV))))]⟩) := set_same hM51 o44
 have o53 := set_ne hM51 (Ne.symm ne13) o45
 refine Rn (hA h48 hZ) fun e54 h56 => sN (xx ?_)
 clear h48 h49
 obtain rfl := si h
 exact eR (resC (ag := true) (sz := 18) ⟨by kernel_rfl, by kernel_rfl, by kernel_rfl⟩ (ldOA (cs' := (.bool a1.Stock :: (.sl (some 90) (r30.map Notch.c) :: ((arC (cI .i8) 0 r41) ++ ([] : List AV))))) h56 o52 rfl rfl (ble rfl) rfl) res0) rfl
/-! ### loop.example/g01263/laws.szMarkS (f17) -/
abbrev laws_szMarkS_b1_S := Int × Int
abbrev laws_szMarkS_b1_R := Unit ⊕ Int
def laws_szMarkS_b1_RS (a1 : List Mark) (s : laws_szMarkS_b1_S) (e : Env) (M : Mem) : Prop := eget e 0 = .sl none (a1.map Mark.c) ∧ eget e 1 = .int .i64 s.1 ∧ eget e 5 = .int .i64 s.2
def laws_szMarkS_b1_RR (a1 : List Mark) (r : laws_szMarkS_b1_R) (x : Ex) (e : Env) (M : Mem) : Prop :=
  match r with
  | (.inl g) => x = .ret ∧ eget e 4 = .int .i64 (-1)
  | (.inr g) => x = .ext 0 ∧ eget e 1 = .int .i64 g
noncomputable def laws_szMarkS_b1 (a1 : List Mark) : laws_szMarkS_b1_S → Option (laws_szMarkS_b1_S ⊕ laws_szMarkS_b1_R) := fun (s1_1, s1_2) =>
 if (decide (s1_2 < (a1.length : Int))) = true then
  (rd a1 s1_2).bind fun x46 =>
  (laws_szMark x46 s1_1).bind fun r49 =>
  if (decide (r49 < 0)) = true then
   some (.inr (.inl ()))
  else
   some (.inl (r49, (IntKind.i64.wrap (s1_2 + 1))))
 else
  some (.inr (.inr s1_1))
theorem laws_szMarkS_b1_ok (a1 : List Mark) (s : laws_szMarkS_b1_S) (r : laws_szMarkS_b1_S ⊕ laws_szMarkS_b1_R) (h : laws_szMarkS_b1 a1 s = some r) (e : Env) (M : Mem) (hs : laws_szMarkS_b1_RS a1 s e M) : Ev (fun k => (f17_l5 (CN k) k (prune [0, 1, 5] e) M).bind fun q => some q) (bQ (laws_szMarkS_b1_RS a1) (laws_szMarkS_b1_RR a1) r) := by
 obtain ⟨s1_1, s1_2⟩ := s
 unfold laws_szMarkS_b1 at h
 obtain ⟨h33, h35, h37⟩ := hs
 generalize he32 : prune [0, 1, 5] e = e31
 have h34 := envp he32.symm rfl h33
 have h36 := envp he32.symm rfl h35
 have h38 := envp he32.symm rfl h37
 refine sq (sq (Rg (kx (mvO h38) (kx (mvO h34) (kx (lnS Try.underlying27 rfl) (kx (bLss rfl rfl) (Rn (hV (.sl none (a1.map Mark.c)) h34 (hV (.int .i64 s1_1) h36 (hV (.int .i64 s1_2) h38 (hN rfl hZ)))) fun e39 h41 h42 h43 h44 => sN ?_)))))))
 clear h34 h36 h38
 rcases ite_some h with ⟨hb45, h⟩ | ⟨hb45, h⟩
 ·obtain ⟨x46, hx47, h⟩ := bind_some h
  obtain ⟨r49, hx48, h⟩ := bind_some h
  refine cT h44 hb45 (xx (sN (sq (bl (sq (Rg (kx (mvO h41) (kx (mvO h43) (kx (ixS rfl rfl hx47 Mark.fl) (kx (ldPA rfl rfl rfl) (kx (mvO h42) (kc (cl (v := .int .i64 r49) rfl (cns rfl (cns rfl rfl)) rfl (laws_szMark_ok x46 s1_1 _ hx48) nm) (kx (mvO rfl) (Rn (hA h41 (hN rfl (hA h43 hZ))) fun e50 h52 h53 h54 => sN (sq (Rg (kx (mvO h53) (kx (bLss rfl rfl) (Rn (hA h52 (hA h53 (hA h54 (hN rfl hZ)))) fun e55 h57 h58 h59 h60 => sN ?_)))))))))))))))))))
  clear h41 h43 h44 h52 h53 h54
  rcases ite_some h with ⟨hb61, h⟩ | ⟨hb61, h⟩
  ·refine cT h60 hb61 (sq (Rg (kx (mvO rfl) (Rn (hV (.int .i64 (-1)) rfl hZ) fun e62 h64 => sN (xx (bR (sR ?_)))))))
   clear h57 h58 h59 h60
   obtain rfl := si h
   exact qR ⟨rfl, h64⟩
  refine cF h60 hb61 (xx (bN (sN (Rg (kx (mvO h59) (kx (bAdd rfl rfl) (kx (mvO rfl) (Rn (hA h57 (hA h58 (hN rfl hZ))) fun e65 h67 h68 h69 => ?_))))))))
  clear h57 h58 h60
  obtain rfl := si h
  exact qN ⟨h67, h68, h69⟩
 refine cF h44 hb45 (xx (sE ?_))
 obtain rfl := si h
 exact qE ⟨rfl, h42⟩
noncomputable def laws_szMarkS (a1 : List Mark) (a2 : Int) : Option Int :=
 if (decide ((IntKind.i64.wrap (a2 - (a1.length : Int))) < 0)) = true then
  some (-1)
 else
  (Lw (laws_szMarkS_b1 a1) ((IntKind.i64.wrap (a2 - (a1.length : Int))), 0)).bind fun r => match r with
  | (.inl _) =>
   some (-1)
  | (.inr y78) =>
   some y78
def laws_szMarkS_enc (r : Int) : AV := .int .i64 r
theorem laws_szMarkS_ok (a1 : List Mark) (a2 : Int) (r : Int) (h : laws_szMarkS a1 a2 = some r) : Ev (fun k => CN k 17 [.sl none (a1.map Mark.c), .int .i64 a2] []) (fun p => rRes p.2 p.1 = laws_szMarkS_enc r) := by
 unfold laws_szMarkS at h
 refine Ev.enter (F := fun k => f17 (CN k) k) (fun k => callN_eq rfl Try.func17 rfl rfl rfl (by decide +kernel) (f17_eq _ _)) (sq (Rg (kx (mvO rfl) (Rn (hN rfl (hN rfl hZ)) fun e1 h3 h4 => sN (sq (Rg (kx (mvO h4) (kx (mvO h3) (kx (lnS Try.underlying27 rfl) (kx (bSub rfl rfl) (kx (mvO rfl) (Rn (hA h3 (hN rfl hZ)) fun e5 h7 h8 => sN (sq (sq (Rg (kx (mvO h8) (kx (bLss rfl rfl) (Rn (hA h7 (hA h8 (hN rfl hZ))) fun e9 h11 h12 h13 => sN ?_))))))))))))))))))
 clear h3 h7 h8
 rcases ite_some h with ⟨hb14, h⟩ | ⟨hb14, h⟩
 ·refine cT h13 hb14 (sq (Rg (kx (mvO rfl) (Rn (hV (.int .i64 (-1)) rfl hZ) fun e15 h17 => sN (xx (sR ?_))))))
  clear h11 h12 h13
  obtain rfl := si h
  exact eR (resT h17 res0) rfl
 obtain ⟨r70, hr71, h⟩ := bind_some h
 refine cF h13 hb14 (xx (sN (sq (sq (Rg (kx (mvO rfl) (Rn (hA h11 (hA h12 (hV (.int .i64 0) rfl hZ))) fun e18 h20 h21 h22 => sN (bl ?_))))))))
 clear h11 h12 h13
 rcases r70 with _ | y78
 ·refine Ev.loop (RS := laws_szMarkS_b1_RS a1) (RR := laws_szMarkS_b1_RR a1) (fun s r h e M hs => laws_szMarkS_b1_ok a1 s r h e M hs) hr71 ⟨h20, h21, h22⟩ fun x e73 M74 hq72 => ?_
  obtain ⟨rfl, h75⟩ := hq72
  refine bR (sR ?_)
  obtain rfl := si h
  exact eR (resT h75 res0) rfl
 refine Ev.loop (RS := laws_szMarkS_b1_RS a1) (RR := laws_szMarkS_b1_RR a1) (fun s r h e M hs => laws_szMarkS_b1_ok a1 s r h e M hs) hr71 ⟨h20, h21, h22⟩ fun x e76 M77 hq72 => ?_
 obtain ⟨rfl, h79⟩ := hq72
 refine bE (sN (sq (Rg (kx (mvO h79) (kx (mvO rfl) (Rn (hN rfl hZ) fun e80 h82 => sN (xx ?_)))))))
 clear h79
 obtain rfl := si h
 exact eR (resT h82 res0) rfl
/-! ### loop.example/g01263/laws.szHalf (f16) -/
noncomputable def laws_szHalf (a1 : Half) (a2 : Int) : Option Int :=
 (laws_szNotchS a1.Notches a2).bind fun r6 =>
 if (decide (r6 < 0)) = true then
  some (-1)
 else
  some r6
def laws_szHalf_enc (r : Int) : AV := .int .i64 r
theorem laws_szHalf_ok (a1 : Half) (a2 : Int) (r : Int) (h : laws_szHalf a1 a2 = some r) : Ev (fun k => CN k 16 [.agg (.bool a1.Stock :: (.sl none (a1.Notches.map Notch.c) :: ((arC (cI .i8) 0 a1.Grain) ++ ([] : List AV)))), .int .i64 a2] []) (fun p => rRes p.2 p.1 = laws_szHalf_enc r) := by
 unfold laws_szHalf at h
 obtain ⟨r6, hx5, h⟩ := bind_some h
 refine Ev.enter (F := fun k => f16 (CN k) k) (fun k => callN_eq rfl Try.func16 rfl rfl rfl (by decide +kernel) (f16_eq _ _)) (sq (Rg (kx (bxI rfl rfl ⟨rfl, rfl, by decide⟩) (kx (mvO rfl) (Rn (hN rfl (hN rfl hZ)) fun e1 h3 h4 => sN (sq (Rg (kx (faP h4 ⟨ble rfl, blt rfl⟩ rfl) (kx (ldP rfl rfl) (kx (mvO h3) (kc (cl (v := .int .i64 r6) rfl (cns rfl (cns rfl rfl)) rfl (laws_szNotchS_ok a1.Notches a2 _ hx5) nm) (kx (mvO rfl) (Rn (hN rfl hZ) fun e7 h9 => sN (sq (sq (Rg (kx (mvO h9) (kx (bLss rfl rfl) (Rn (hA h9 (hN rfl hZ)) fun e10 h12 h13 => sN ?_)))))))))))))))))))
 clear h4 h9
 rcases ite_some h with ⟨hb14, h⟩ | ⟨hb14, h⟩
 ·refine cT h13 hb14 (sq (Rg (kx (mvO rfl) (Rn (hV (.int .i64 (-1)) rfl hZ) fun e15 h17 => sN (xx (sR ?_))))))
  clear h12 h13
  obtain rfl := si h
  exact eR (resT h17 res0) rfl
 refine cF h13 hb14 (xx (sN (sq (Rg (kx (mvO h12) (kx (mvO rfl) (Rn (hN rfl hZ) fun e18 h20 => sN (xx ?_))))))))
 clear h12 h13
 obtain rfl := si h
 exact eR (resT h20 res0) rfl
/-! ### loop.example/g01263/laws.heldStringS (f15) -/
abbrev laws_heldStringS_b1_S := Int × Int
abbrev laws_heldStringS_b1_R := Unit ⊕ Int
def laws_heldStringS_b1_RS (a1 : List (List UInt8)) (s : laws_heldStringS_b1_S) (e : Env) (M : Mem) : Prop := eget e 0 = .sl none (a1.map cS) ∧ eget e 1 = .int .i64 s.1 ∧ eget e 5 = .int .i64 s.2
def laws_heldStringS_b1_RR (a1 : List (List UInt8)) (r : laws_heldStringS_b1_R) (x : Ex) (e : Env) (M : Mem) : Prop :=
  match r with
  | (.inl g) => x = .ret ∧ eget e 4 = .int .i64 (-1)
  | (.inr g) => x = .ext 0 ∧ eget e 1 = .int .i64 g
noncomputable def laws_heldStringS_b1 (a1 : List (List UInt8)) : laws_heldStringS_b1_S → Option (laws_heldStringS_b1_S ⊕ laws_heldStringS_b1_R) := fun (s1_1, s1_2) =>
 if (decide (s1_2 < (a1.length : Int))) = true then
  (rd a1 s1_2).bind fun x33 =>
  (laws_markText s1_1).bind fun r36 =>
  if (x33 == r36) = true then
   some (.inl ((IntKind.i64.wrap (s1_1 + 1)), (IntKind.i64.wrap (s1_2 + 1))))
  else
   some (.inr (.inl ()))
 else
  some (.inr (.inr s1_1))
theorem laws_heldStringS_b1_ok (a1 : List (List UInt8)) (s : laws_heldStringS_b1_S) (r : laws_heldStringS_b1_S ⊕ laws_heldStringS_b1_R) (h : laws_heldStringS_b1 a1 s = some r) (e : Env) (M : Mem) (hs : laws_heldStringS_b1_RS a1 s e M) : Ev (fun k => (f15_l2 (CN k) k (prune [0, 1, 5] e) M).bind fun q => some q) (bQ (laws_heldStringS_b1_RS a1) (laws_heldStringS_b1_RR a1) r) := by
 obtain ⟨s1_1, s1_2⟩ := s
 unfold laws_heldStringS_b1 at h
 obtain ⟨h20, h22, h24⟩ := hs
 generalize he19 : prune [0, 1, 5] e = e18
 have h21 := envp he19.symm rfl h20
 have h23 := envp he19.symm rfl h22
 have h25 := envp he19.symm rfl h24
 refine sq (sq (Rg (kx (mvO h25) (kx (mvO h21) (kx (lnS Try.underlying43 rfl) (kx (bLss rfl rfl) (Rn (hV (.sl none (a1.map cS)) h21 (hV (.int .i64 s1_1) h23 (hV (.int .i64 s1_2) h25 (hN rfl hZ)))) fun e26 h28 h29 h30 h31 => sN ?_)))))))
 clear h21 h23 h25
 rcases ite_some h with ⟨hb32, h⟩ | ⟨hb32, h⟩
 ·obtain ⟨x33, hx34, h⟩ := bind_some h
  obtain ⟨r36, hx35, h⟩ := bind_some h
  refine cT h31 hb32 (xx (sN (sq (bl (sq (sq (Rd (kf (mvO h28) (kf (mvO h30) (kf (ixS rfl rfl hx34 cS_fl) (kf (ldP rfl rfl) (kf (mvO h29) (fc (cl (v := .str r36) rfl (cns rfl rfl) rfl (laws_markText_ok s1_1 _ hx35) nm) (kf (sNeq rfl rfl) (fZ (Rn (hA h28 (hA h29 (hA h30 (hN rfl hZ)))) fun e37 h39 h40 h41 h42 => sN ?_))))))))))))))))
  clear h28 h29 h30 h31
  rcases ite_some h with ⟨hb43, h⟩ | ⟨hb43, h⟩
  ·refine cF h42 (congrArg Bool.not hb43) (xx (sN (Rg (kx (mvO h40) (kx (bAdd rfl rfl) (kx (mvO rfl) (Rn (hA h39 (hN rfl (hA h41 hZ))) fun e44 h46 h47 h48 => bN (sN (Rg (kx (mvO h48) (kx (bAdd rfl rfl) (kx (mvO rfl) (Rn (hA h46 (hA h47 (hN rfl hZ))) fun e49 h51 h52 h53 => ?_)))))))))))))
   clear h39 h41 h42 h46 h47
   obtain rfl := si h
   exact qN ⟨h51, h52, h53⟩
  refine cT h42 (congrArg Bool.not hb43) (sq (Rg (kx (mvO rfl) (Rn (hV (.int .i64 (-1)) rfl hZ) fun e54 h56 => sN (xx (sR (bR (sR ?_))))))))
  clear h39 h40 h41 h42
  obtain rfl := si h
  exact qR ⟨rfl, h56⟩
 refine cF h31 hb32 (xx (sE ?_))
 obtain rfl := si h
 exact qE ⟨rfl, h29⟩
noncomputable def laws_heldStringS (a1 : List (List UInt8)) (a2 : Int) : Option Int :=
 (Lw (laws_heldStringS_b1 a1) (a2, 0)).bind fun r => match r with
 | (.inl _) =>
  some (-1)
 | (.inr y65) =>
  some y65
def laws_heldStringS_enc (r : Int) : AV := .int .i64 r
theorem laws_heldStringS_ok (a1 : List (List UInt8)) (a2 : Int) (r : Int) (h : laws_heldStringS a1 a2 = some r) : Ev (fun k => CN k 15 [.sl none (a1.map cS), .int .i64 a2] []) (fun p => rRes p.2 p.1 = laws_heldStringS_enc r) := by
 unfold laws_heldStringS at h
 obtain ⟨r57, hr58, h⟩ := bind_some h
 refine Ev.enter (F := fun k => f15 (CN k) k) (fun k => callN_eq rfl Try.func15 rfl rfl rfl (by decide +kernel) (f15_eq _ _)) (sq (Rg (kx (mvO rfl) (Rn (hN rfl (hN rfl hZ)) fun e1 h3 h4 => sN (sq (sq (Rg (kx (mvO rfl) (Rn (hA h3 (hA h4 (hV (.int .i64 0) rfl hZ))) fun e5 h7 h8 h9 => sN (bl ?_))))))))))
 clear h3 h4
 rcases r57 with _ | y65
 ·refine Ev.loop (RS := laws_heldStringS_b1_RS a1) (RR := laws_heldStringS_b1_RR a1) (fun s r h e M hs => laws_heldStringS_b1_ok a1 s r h e M hs) hr58 ⟨h7, h8, h9⟩ fun x e60 M61 hq59 => ?_
  obtain ⟨rfl, h62⟩ := hq59
  refine bR (sR ?_)
  obtain rfl := si h
  exact eR (resT h62 res0) rfl
 refine Ev.loop (RS := laws_heldStringS_b1_RS a1) (RR := laws_heldStringS_b1_RR a1) (fun s r h e M hs => laws_heldStringS_b1_ok a1 s r h e M hs) hr58 ⟨h7, h8, h9⟩ fun x e63 M64 hq59 => ?_
 obtain ⟨rfl, h66⟩ := hq59
 refine bE (sN (sq (Rg (kx (mvO h66) (kx (mvO rfl) (Rn (hN rfl hZ) fun e67 h69 => sN (xx ?_)))))))
 clear h66
 obtain rfl := si h
 exact eR (resT h69 res0) rfl
/-! ### loop.example/g01263/laws.eqStringS (f12) -/
abbrev laws_eqStringS_b1_S := Int
abbrev laws_eqStringS_b1_R := Unit ⊕ Unit
def laws_eqStringS_b1_RS (a1 : List (List UInt8)) (a2 : List (List UInt8)) (s : laws_eqStringS_b1_S) (e : Env) (M : Mem) : Prop := eget e 0 = .sl none (a1.map cS) ∧ eget e 1 = .sl none (a2.map cS) ∧ eget e 5 = .int .i64 s
def laws_eqStringS_b1_RR (a1 : List (List UInt8)) (a2 : List (List UInt8)) (r : laws_eqStringS_b1_R) (x : Ex) (e : Env) (M : Mem) : Prop :=
  match r with
  | (.inl g) => x = .ret ∧ eget e 4 = .bool false
  | (.inr g) => x = .ext 0 ∧ True
noncomputable def laws_eqStringS_b1 (a1 : List (List UInt8)) (a2 : List (List UInt8)) : laws_eqStringS_b1_S → Option (laws_eqStringS_b1_S ⊕ laws_eqStringS_b1_R) := fun s1_1 =>
 if (decide (s1_1 < (a1.length : Int))) = true then
  (rd a1 s1_1).bind fun x42 =>
  (rd a2 s1_1).bind fun x44 =>
  if (x42 == x44) = true then
   some (.inl (IntKind.i64.wrap (s1_1 + 1)))
  else
   some (.inr (.inl ()))
 else
  some (.inr (.inr ()))
theorem laws_eqStringS_b1_ok (a1 : List (List UInt8)) (a2 : List (List UInt8)) (s : laws_eqStringS_b1_S) (r : laws_eqStringS_b1_S ⊕ laws_eqStringS_b1_R) (h : laws_eqStringS_b1 a1 a2 s = some r) (e : Env) (M : Mem) (hs : laws_eqStringS_b1_RS a1 a2 s e M) : Ev (fun k => (f12_l4 (CN k) k (prune [0, 1, 5] e) M).bind fun q => some q) (bQ (laws_eqStringS_b1_RS a1 a2) (laws_eqStringS_b1_RR a1 a2) r) := by
 revert h hs
 revert s
 intro s1_1 h hs
 unfold laws_eqStringS_b1 at h
 obtain ⟨h29, h31, h33⟩ := hs
 generalize he28 : prune [0, 1, 5] e = e27
 have h30 := envp he28.symm rfl h29
 have h32 := envp he28.symm rfl h31
 have h34 := envp he28.symm rfl h33
 refine sq (sq (Rg (kx (mvO h34) (kx (mvO h30) (kx (lnS Try.underlying43 rfl) (kx (bLss rfl rfl) (Rn (hV (.sl none (a1.map cS)) h30 (hV (.sl none (a2.map cS)) h32 (hV (.int .i64 s1_1) h34 (hN rfl hZ)))) fun e35 h37 h38 h39 h40 => sN ?_)))))))
 clear h30 h32 h34
 rcases ite_some h with ⟨hb41, h⟩ | ⟨hb41, h⟩
 ·obtain ⟨x42, hx43, h⟩ := bind_some h
  obtain ⟨x44, hx45, h⟩ := bind_some h
  refine cT h40 hb41 (xx (sN (sq (bl (sq (Rd (kf (mvO h37) (kf (mvO h39) (kf (ixS rfl rfl hx43 cS_fl) (kf (ldP rfl rfl) (kf (mvO h38) (kf (mvO h39) (kf (ixS rfl rfl hx45 cS_fl) (kf (ldP rfl rfl) (kf (sNeq rfl rfl) (fZ (Rn (hA h37 (hA h38 (hA h39 (hN rfl hZ)))) fun e46 h48 h49 h50 h51 => sN ?_)))))))))))))))))
  clear h37 h38 h39 h40
  rcases ite_some h with ⟨hb52, h⟩ | ⟨hb52, h⟩
  ·refine cF h51 (congrArg Bool.not hb52) (xx (bN (sN (Rg (kx (mvO h50) (kx (bAdd rfl rfl) (kx (mvO rfl) (Rn (hA h48 (hA h49 (hN rfl hZ))) fun e53 h55 h56 h57 => ?_))))))))
   clear h48 h49 h51
   obtain rfl := si h
   exact qN ⟨h55, h56, h57⟩
  refine cT h51 (congrArg Bool.not hb52) (sq (Rg (kx (mvO rfl) (Rn (hV (.bool false) rfl hZ) fun e58 h60 => sN (xx (bR (sR ?_)))))))
  clear h48 h49 h50 h51
  obtain rfl := si h
  exact qR ⟨rfl, h60⟩
 refine cF h40 hb41 (xx (sE ?_))
 obtain rfl := si h
 exact qE ⟨rfl, trivial⟩
noncomputable def laws_eqStringS (a1 : List (List UInt8)) (a2 : List (List UInt8)) : Option Bool :=
 if ((a1.length : Int) != (a2.length : Int)) = true then
  some false
 else
  (Lw (laws_eqStringS_b1 a1 a2) 0).bind fun r => match r with
  | (.inl _) =>
   some false
  | (.inr _) =>
   some true
def laws_eqStringS_enc (r : Bool) : AV := .bool r
theorem laws_eqStringS_ok (a1 : List (List UInt8)) (a2 : List (List UInt8)) (r : Bool) (h : laws_eqStringS a1 a2 = some r) : Ev (fun k => CN k 12 [.sl none (a1.map cS), .sl none (a2.map cS)] []) (fun p => rRes p.2 p.1 = laws_eqStringS_enc r) := by
 unfold laws_eqStringS at h
 refine Ev.enter (F := fun k => f12 (CN k) k) (fun k => callN_eq rfl Try.func12 rfl rfl rfl (by decide +kernel) (f12_eq _ _)) (sq (Rg (kx (mvO rfl) (Rn (hN rfl (hN rfl hZ)) fun e1 h3 h4 => sN (sq (sq (Rg (kx (mvO h3) (kx (lnS Try.underlying43 rfl) (kx (mvO h4) (kx (lnS Try.underlying43 rfl) (kx (bNeq rfl rfl) (Rn (hA h3 (hA h4 (hN rfl hZ))) fun e5 h7 h8 h9 => sN ?_)))))))))))))
 clear h3 h4
 rcases ite_some h with ⟨hb10, h⟩ | ⟨hb10, h⟩
 ·refine cT h9 hb10 (sq (Rg (kx (mvO rfl) (Rn (hV (.bool false) rfl hZ) fun e11 h13 => sN (xx (sR ?_))))))
  clear h7 h8 h9
  obtain rfl := si h
  exact eR (resT h13 res0) rfl
 obtain ⟨r61, hr62, h⟩ := bind_some h
 refine cF h9 hb10 (xx (sN (sq (sq (Rg (kx (mvO rfl) (Rn (hA h7 (hA h8 (hV (.int .i64 0) rfl hZ))) fun e14 h16 h17 h18 => sN (bl ?_))))))))
 clear h7 h8 h9
 rcases r61 with _ | _
 ·refine Ev.loop (RS := laws_eqStringS_b1_RS a1 a2) (RR := laws_eqStringS_b1_RR a1 a2) (fun s r h e M hs => laws_eqStringS_b1_ok a1 a2 s r h e M hs) hr62 ⟨h16, h17, h18⟩ fun x e64 M65 hq63 => ?_
  obtain ⟨rfl, h66⟩ := hq63
  refine bR (sR ?_)
  obtain rfl := si h
  exact eR (resT h66 res0) rfl
 refine Ev.loop (RS := laws_eqStringS_b1_RS a1 a2) (RR := laws_eqStringS_b1_RR a1 a2) (fun s r h e M hs => laws_eqStringS_b1_ok a1 a2 s r h e M hs) hr62 ⟨h16, h17, h18⟩ fun x e67 M68 hq63 => ?_
 obtain ⟨rfl, _⟩ := hq63
 refine bE (sN (sq (Rg (kx (mvO rfl) (Rn (hV (.bool true) rfl hZ) fun e69 h71 => sN (xx ?_))))))
 obtain rfl := si h
 exact eR (resT h71 res0) rfl
/-! ### loop.example/g01263/impl.ShortWay (f11) -/
abbrev impl_ShortWay_b1_S := Nat × Int × (List (List UInt8))
abbrev impl_ShortWay_b1_R := Nat × (List (List UInt8))
def impl_ShortWay_b1_RS (a1 : Chain) (i1_1 : Nat) (s : impl_ShortWay_b1_S) (e : Env) (M : Mem) : Prop := eget e 4 = .lsl i1_1 s.2.2.length 0 s.1 ∧ eget e 15 = .sl none (a1.Marks.map Mark.c) ∧ eget e 16 = .int .i64 (a1.Marks.length : Int) ∧ eget e 17 = .int .i64 s.2.1 ∧ M[i1_1]? = some (.live ⟨.grow, 9, 1, s.2.2.map cS⟩) ∧ s.1 ≤ s.2.2.length
def impl_ShortWay_b1_RR (a1 : Chain) (i1_1 : Nat) (g : impl_ShortWay_b1_R) (x : Ex) (e : Env) (M : Mem) : Prop := x = .ext 0 ∧ eget e 4 = .lsl i1_1 g.2.length 0 g.1 ∧ M[i1_1]? = some (.live ⟨.grow, 9, 1, g.2.map cS⟩) ∧ g.1 ≤ g.2.length
noncomputable def impl_ShortWay_b1 (a1 : Chain) : impl_ShortWay_b1_S → Option (impl_ShortWay_b1_S ⊕ impl_ShortWay_b1_R) := fun (s1_1, s1_2, s1_3) =>
 if (decide (s1_2 < (a1.Marks.length : Int))) = true then
  (rd a1.Marks s1_2).bind fun x56 =>
  (slices_Index_string (s1_3.take s1_1) x56.Holder).bind fun r76 =>
  if (decide (r76 ≥ 0)) = true then
   (slw s1_1 (IntKind.i64.wrap (r76 + 1))).bind fun x95 =>
   some (.inl (x95, (IntKind.i64.wrap (s1_2 + 1)), s1_3))
  else
   (apw 16 s1_3 s1_1 [x56.Holder]).bind fun (x109, n110) =>
   some (.inl (n110, (IntKind.i64.wrap (s1_2 + 1)), x109))
 else
  some (.inr (s1_1, s1_3))
theorem impl_ShortWay_b1_ok (a1 : Chain) (i1_1 : Nat) (s : impl_ShortWay_b1_S) (r : impl_ShortWay_b1_S ⊕ impl_ShortWay_b1_R) (h : impl_ShortWay_b1 a1 s = some r) (e : Env) (M : Mem) (hs : impl_ShortWay_b1_RS a1 i1_1 s e M) : Ev (fun k => (f11_l5 (CN k) k (prune [4, 15, 16, 17] e) M).bind fun q => some q) (bQ (impl_ShortWay_b1_RS a1 i1_1) (impl_ShortWay_b1_RR a1 i1_1) r) := by
 obtain ⟨s1_1, s1_2, s1_3⟩ := s
 unfold impl_ShortWay_b1 at h
 obtain ⟨h38, h40, h42, h44, o46, hl47⟩ := hs
 generalize he37 : prune [4, 15, 16, 17] e = e36
 have h39 := envp he37.symm rfl h38
 have h41 := envp he37.symm rfl h40
 have h43 := envp he37.symm rfl h42
 have h45 := envp he37.symm rfl h44
 refine sq (Rg (kx (bLss h45 h43) (Rn (hV (.lsl i1_1 s1_3.length 0 s1_1) h39 (hV (.sl none (a1.Marks.map Mark.c)) h41 (hV (.int .i64 (a1.Marks.length : Int)) h43 (hV (.int .i64 s1_2) h45 (hN rfl hZ))))) fun e48 h50 h51 h52 h53 h54 => sN (sq ?_))))
 clear h39 h41 h43 h45
 rcases ite_some h with ⟨hb55, h⟩ | ⟨hb55, h⟩
 ·obtain ⟨x56, hx57, h⟩ := bind_some h
  refine cT h54 hb55 (xx (sN (sq (bl (sq (Rg (kx (ixS h51 h53 hx57 Mark.fl) (kx (ldPA rfl rfl rfl) (ku (alO zero57) fun M59 hM60 => ?_)))))))))
  have o61 := push_old hM60 o46
  have ne62 := ne_new o46
  have o63 : M59[M.length]? = some (.live ⟨.box, 57, 2, [[.str ([] : List UInt8), .int .u32 0]]⟩) := push_new hM60
  refine kw (stO rfl rfl o63 rfl rfl ⟨rfl, ble rfl⟩ rfl rfl) fun M64 hM65 => ?_
  have o66 := set_ne hM65 ne62 o61
  have o67 : M64[M.length]? = some (.live ⟨.box, 57, 2, [[.str x56.Holder, .int .u32 x56.Seal]]⟩) := set_same hM65 o63
  obtain ⟨r76, hx75, h⟩ := bind_some h
  refine Rn (hA h50 (hV (.loc M.length 1 0 0) rfl (hA h51 (hA h52 (hA h53 hZ))))) fun e68 h70 h71 h72 h73 h74 => sN (sq (Rg (kx (mvO h70) (kx (faO h71 o67 rfl) (kx (ldO rfl o67 rfl rfl rfl) (kc (cl (v := .int .i64 r76) rfl (cns rfl (cns rfl rfl)) (ra1 (ra1_win o66 rfl hl47 cS_fl) (ra1 rfl ra0)) (slices_Index_string_ok (s1_3.take s1_1) x56.Holder _ hx75) (fun _ => rfl)) (kx (mvO rfl) (Rn (hA h70 (hA h71 (hN rfl (hA h72 (hA h73 (hA h74 hZ)))))) fun e77 h79 h80 h81 h82 h83 h84 => sN (sq (Rg (kx (mvO h81) (kx (bGeq rfl rfl) (Rn (hA h79 (hA h80 (hA h81 (hA h82 (hA h83 (hA h84 (hN rfl hZ))))))) fun e85 h87 h88 h89 h90 h91 h92 h93 => sN ?_)))))))))))))
  clear h50 h51 h52 h53 h54 h70 h71 h72 h73 h74 h79 h80 h81 h82 h83 h84
  rcases ite_some h with ⟨hb94, h⟩ | ⟨hb94, h⟩
  ·obtain ⟨x95, hx96, h⟩ := bind_some h
   refine cT h93 hb94 (Rg (kx (mvO h87) (kx (mvO h89) (kx (bAdd rfl rfl) (kx (slW rfl o66 rfl rfl hx96) (kx (mvO rfl) (Rn (hV (.lsl i1_1 s1_3.length 0 x95) rfl (hA h90 (hA h91 (hA h92 hZ)))) fun e97 h99 h100 h101 h102 => bN (sN (Rg (kx (bAdd h102 rfl) (kx (mvO rfl) (Rn (hA h99 (hA h100 (hA h101 (hN rfl hZ)))) fun e103 h105 h106 h107 h108 => ?_))))))))))))
   clear h88 h89 h90 h91 h92 h93 h100 h101 h99
   obtain rfl := si h
   exact qN ⟨h105, h106, h107, h108, o66, (slw_le hx96 hl47)⟩
  obtain ⟨⟨x109, n110⟩, hx111, h⟩ := bind_some h
  refine cF h93 hb94 (Rg (kx (mvO h87) (kx (faO h88 o67 rfl) (kx (ldO rfl o67 rfl rfl rfl) (kx (litI (cns rfl rfl) rfl ⟨rfl, by decide⟩) (kw (apW rfl o66 rfl (elT (c := cS) (xs := [x56.Holder]) rfl) hx111 cS_fl (by decide)) fun M112 hM113 => ?_))))))
  have o114 : M112[i1_1]? = some (.live ⟨.grow, 9, 1, x109.map cS⟩) := set_same hM113 o66
  have o115 := set_ne hM113 (Ne.symm ne62) o67
  refine kx (mvO rfl) (Rn (hV (.lsl i1_1 x109.length 0 n110) rfl (hA h90 (hA h91 (hA h92 hZ)))) fun e116 h118 h119 h120 h121 => bN (sN (Rg (kx (bAdd h121 rfl) (kx (mvO rfl) (Rn (hA h118 (hA h119 (hA h120 (hN rfl hZ)))) fun e122 h124 h125 h126 h127 => ?_))))))
  clear h88 h89 h90 h91 h92 h93 h118 h119 h120
  obtain rfl := si h
  exact qN ⟨h124, h125, h126, h127, o114, (apw_le hx111)⟩
 refine cF h54 hb55 (xx (sE ?_))
 obtain rfl := si h
 exact qE ⟨rfl, h50, o46, hl47⟩
noncomputable def impl_ShortWay (a1 : Chain) : Option (((List (List UInt8))) ⊕ Unit) :=
 (impl_ValidChain a1).bind fun r5 =>
 if r5 = true then
  (Lw (impl_ShortWay_b1 a1) ([a1.Debtor].length, 0, [a1.Debtor])).bind fun (y133, y134) =>
  some (.inl (y134.take y133))
 else
  some (.inr ())
def impl_ShortWay_enc (r : ((List (List UInt8))) ⊕ Unit) : AV :=
  match r with
  | (.inl g) => .tup [.sl (some 9) (g.map cS), .int .i64 0]
  | (.inr g) => .tup [.nils, .int .i64 1]
theorem impl_ShortWay_ok (a1 : Chain) (r : ((List (List UInt8))) ⊕ Unit) (h : impl_ShortWay a1 = some r) : Ev (fun k => CN k 11 [.agg (.str a1.Debtor :: (.bool a1.Stock.Stock :: (.sl none (a1.Stock.Notches.map Notch.c) :: ((arC (cI .i8) 0 a1.Stock.Grain) ++ ((.sl none (a1.Marks.map Mark.c) :: []) : List AV)))))] []) (fun p => rRes p.2 p.1 = impl_ShortWay_enc r) := by
 unfold impl_ShortWay at h
 obtain ⟨r5, hx4, h⟩ := bind_some h
 refine Ev.enter (F := fun k => f11 (CN k) k) (fun k => callN_eq rfl Try.func11 rfl rfl rfl (by decide +kernel) (f11_eq _ _)) (sq (Rg (kx (bxI rfl rfl ⟨rfl, rfl, by decide⟩) (kx (mvO rfl) (kx (mvO rfl) (Rn (hN rfl hZ) fun e1 h3 => sN (sq (sq (Rg (kx (ldPA h3 rfl rfl) (kc (cl (v := .bool r5) rfl (cns rfl rfl) rfl (impl_ValidChain_ok a1 _ hx4) nm) (kx (uNot rfl) (Rn (hA h3 (hN rfl hZ)) fun e6 h8 h9 => sN ?_)))))))))))))
 clear h3
 rcases ite_some h with ⟨hb10, h⟩ | ⟨hb10, h⟩
 ·refine cF h9 (congrArg Bool.not hb10) (xx (sN (sq (Rg (kx (faP h8 ⟨ble rfl, blt rfl⟩ rfl) (kx (ldP rfl rfl) (ku (litO (xs := [a1.Debtor]) (c := cS) (cns rfl rfl) rfl (by decide)) fun M12 hM13 => ?_)))))))
  have o14 : M12[([] : Mem).length]? = some (.live ⟨.grow, 9, 1, [a1.Debtor].map cS⟩) := push_new hM13
  obtain ⟨⟨y133, y134⟩, hr129, h⟩ := bind_some h
  refine kx (mvO rfl) (Rn (hA h8 (hV (.lsl ([] : Mem).length [a1.Debtor].length 0 [a1.Debtor].length) rfl hZ)) fun e15 h17 h18 => sN (sq (sq (Rg (kx (faP h17 ⟨ble rfl, blt rfl⟩ rfl) (kx (ldP rfl rfl) (kx (lnS Try.underlying37 rfl) (kx (mvO rfl) (Rn (hA h18 (hN rfl (hN rfl (hV (.int .i64 0) rfl hZ)))) fun e19 h21 h22 h23 h24 => sN (bl (Ev.loop (RS := impl_ShortWay_b1_RS a1 (([] : Mem).length)) (RR := impl_ShortWay_b1_RR a1 (([] : Mem).length)) (fun s r h e M hs => impl_ShortWay_b1_ok a1 (([] : Mem).length) s r h e M hs) hr129 ⟨h21, h22, h23, h24, o14, (Nat.le_refl _)⟩ fun x e131 M132 hq130 => ?_)))))))))))
  clear h8 h9 h17 h18
  obtain ⟨rfl, h135, o136, hl137⟩ := hq130
  refine bE (sN (sq (Rg (kx (mvO h135) (kx (mvO rfl) (kx (mvO rfl) (Rn (hV (.lsl ([] : Mem).length y134.length 0 y133) rfl (hV (.int .i64 0) rfl hZ)) fun e138 h140 h141 => sN (xx ?_))))))))
  clear h135
  obtain rfl := si h
  exact eR (resT h140 (resT h141 res0)) (rr_tup (mp1 (rr_win o136 rfl hl137 cS_fl) (mp1 rfl mp0)))
 refine cT h9 (congrArg Bool.not hb10) (sq (Rg (kx (mvO rfl) (kx (mvO rfl) (Rn (hV .nils rfl (hV (.int .i64 1) rfl hZ)) fun e142 h144 h145 => sN (xx (sR ?_)))))))
 clear h8 h9
 obtain rfl := si h
 exact eR (resT h144 (resT h145 res0)) rfl
/-! ### loop.example/g01263/spec.ShortWay (f10) -/
abbrev spec_ShortWay_b2_S := Int
abbrev spec_ShortWay_b2_R := Int
def spec_ShortWay_b2_RS (a1 : Chain) (s1_1 : Nat) (s1_2 : Int) (s1_3 : List (List UInt8)) (i1_1 : Nat) (s : spec_ShortWay_b2_S) (e : Env) (M : Mem) : Prop := eget e 1 = .pt none (.str a1.Debtor :: (.bool a1.Stock.Stock :: (.sl none (a1.Stock.Notches.map Notch.c) :: ((arC (cI .i8) 0 a1.Stock.Grain) ++ ((.sl none (a1.Marks.map Mark.c) :: []) : List AV))))) ∧ eget e 4 = .lsl i1_1 s1_3.length 0 s1_1 ∧ eget e 5 = .int .i64 s1_2 ∧ eget e 6 = .int .i64 s ∧ M[i1_1]? = some (.live ⟨.grow, 9, 1, s1_3.map cS⟩) ∧ s1_1 ≤ s1_3.length
def spec_ShortWay_b2_RR (a1 : Chain) (s1_1 : Nat) (s1_2 : Int) (s1_3 : List (List UInt8)) (i1_1 : Nat) (g : spec_ShortWay_b2_R) (x : Ex) (e : Env) (M : Mem) : Prop := x = .ext 2 ∧ eget e 1 = .pt none (.str a1.Debtor :: (.bool a1.Stock.Stock :: (.sl none (a1.Stock.Notches.map Notch.c) :: ((arC (cI .i8) 0 a1.Stock.Grain) ++ ((.sl none (a1.Marks.map Mark.c) :: []) : List AV))))) ∧ eget e 4 = .lsl i1_1 s1_3.length 0 s1_1 ∧ eget e 5 = .int .i64 s1_2 ∧ eget e 6 = .int .i64 g ∧ M[i1_1]? = some (.live ⟨.grow, 9, 1, s1_3.map cS⟩) ∧ s1_1 ≤ s1_3.length
noncomputable def spec_ShortWay_b2 (a1 : Chain) (s1_1 : Nat) (s1_2 : Int) (s1_3 : List (List UInt8)) : spec_ShortWay_b2_S → Option (spec_ShortWay_b2_S ⊕ spec_ShortWay_b2_R) := fun s2_1 =>
 if (decide (s2_1 < (s1_1 : Int))) = true then
  (rd (s1_3.take s1_1) s2_1).bind fun x80 =>
  (rd a1.Marks s1_2).bind fun x82 =>
  if (x80 == x82.Holder) = true then
   some (.inr s2_1)
  else
   some (.inl (IntKind.i64.wrap (s2_1 + 1)))
 else
  some (.inr s2_1)
theorem spec_ShortWay_b2_ok (a1 : Chain) (s1_1 : Nat) (s1_2 : Int) (s1_3 : List (List UInt8)) (i1_1 : Nat) (s : spec_ShortWay_b2_S) (r : spec_ShortWay_b2_S ⊕ spec_ShortWay_b2_R) (h : spec_ShortWay_b2 a1 s1_1 s1_2 s1_3 s = some r) (e : Env) (M : Mem) (hs : spec_ShortWay_b2_RS a1 s1_1 s1_2 s1_3 i1_1 s e M) : Ev (fun k => (f10_l8 (CN k) k (prune [1, 4, 5, 6] e) M).bind fun q => some q) (bQ (spec_ShortWay_b2_RS a1 s1_1 s1_2 s1_3 i1_1) (spec_ShortWay_b2_RR a1 s1_1 s1_2 s1_3 i1_1) r) := by
 revert h hs
 revert s
 intro s2_1 h hs
 unfold spec_ShortWay_b2 at h
 obtain ⟨h69, h71, h73, h75, o77, hl78⟩ := hs
 generalize he68 : prune [1, 4, 5, 6] e = e67
 have h70 := envp he68.symm rfl h69
 have h72 := envp he68.symm rfl h71
 have h74 := envp he68.symm rfl h73
 have h76 := envp he68.symm rfl h75
 refine sq (sq (Rd (kf (mvO h76) (kf (mvO h72) (kf (lnL Try.underlying43 rfl o77 (by simp [hl78])) (kf (bLss rfl rfl) (kf (mvO rfl) ?_)))))))
 rcases ite_some h with ⟨hb79, h⟩ | ⟨hb79, h⟩
 ·obtain ⟨x80, hx81, h⟩ := bind_some h
  obtain ⟨x82, hx83, h⟩ := bind_some h
  refine kf (guT rfl hb79 (mvO h72)) (kf (guT rfl hb79 (mvO h76)) (kf (guT rfl hb79 (ixO rfl o77 rfl rfl (rd_win hx81).1 (rd_win hx81).2.1)) (kf (guT rfl hb79 (ldO rfl o77 (by simp [hl78]) (rz (rd_win hx81).2.2) rfl)) (kf (guT rfl hb79 (faP h70 ⟨ble rfl, blt rfl⟩ rfl)) (kf (guT rfl hb79 (ldP rfl rfl)) (kf (guT rfl hb79 (mvO h74)) (kf (guT rfl hb79 (ixS rfl rfl hx83 Mark.fl)) (kf (guT rfl hb79 (faP rfl ⟨ble rfl, blt rfl⟩ rfl)) (kf (guT rfl hb79 (ldP rfl rfl)) (kf (guT rfl hb79 (sNeq rfl rfl)) (kf (pkT rfl hb79 rfl) (fZ (Rn (hV (.pt none (.str a1.Debtor :: (.bool a1.Stock.Stock :: (.sl none (a1.Stock.Notches.map Notch.c) :: ((arC (cI .i8) 0 a1.Stock.Grain) ++ ((.sl none (a1.Marks.map Mark.c) :: []) : List AV)))))) h70 (hV (.lsl i1_1 s1_3.length 0 s1_1) h72 (hV (.int .i64 s1_2) h74 (hV (.int .i64 s2_1) h76 (hN rfl hZ))))) fun e84 h86 h87 h88 h89 h90 => sN ?_)))))))))))))
  clear h70 h72 h74 h76
  rcases ite_some h with ⟨hb91, h⟩ | ⟨hb91, h⟩
  ·refine cF h90 (congrArg Bool.not hb91) (xx (sE ?_))
   obtain rfl := si h
   exact qE ⟨rfl, h86, h87, h88, h89, o77, hl78⟩
  refine cT h90 (congrArg Bool.not hb91) (xx (sN (bl (Rg (kx (mvO h89) (kx (bAdd rfl rfl) (kx (mvO rfl) (Rn (hA h86 (hA h87 (hA h88 (hN rfl hZ)))) fun e92 h94 h95 h96 h97 => bN ?_))))))))
  clear h86 h87 h88 h90
  obtain rfl := si h
  exact qN ⟨h94, h95, h96, h97, o77, hl78⟩
 refine kf (gsT rfl hb79) (kf (gsT rfl hb79) (kf (gsT rfl hb79) (kf (gsT rfl hb79) (kf (gsT rfl hb79) (kf (gsT rfl hb79) (kf (gsT rfl hb79) (kf (gsT rfl hb79) (kf (gsT rfl hb79) (kf (gsT rfl hb79) (kf (gsT rfl hb79) (kf (pkF rfl hb79 rfl) (fZ (Rn (hV (.pt none (.str a1.Debtor :: (.bool a1.Stock.Stock :: (.sl none (a1.Stock.Notches.map Notch.c) :: ((arC (cI .i8) 0 a1.Stock.Grain) ++ ((.sl none (a1.Marks.map Mark.c) :: []) : List AV)))))) h70 (hV (.lsl i1_1 s1_3.length 0 s1_1) h72 (hV (.int .i64 s1_2) h74 (hV (.int .i64 s2_1) h76 (hV (.bool false) rfl hZ))))) fun e98 h100 h101 h102 h103 h104 => sN (cF h104 rfl (xx (sE ?_))))))))))))))))
 clear h70 h72 h74 h76
 obtain rfl := si h
 exact qE ⟨rfl, h100, h101, h102, h103, o77, hl78⟩
abbrev spec_ShortWay_b1_S := Nat × Int × (List (List UInt8))
abbrev spec_ShortWay_b1_R := Nat × (List (List UInt8))
def spec_ShortWay_b1_RS (a1 : Chain) (i1_1 : Nat) (s : spec_ShortWay_b1_S) (e : Env) (M : Mem) : Prop := eget e 1 = .pt none (.str a1.Debtor :: (.bool a1.Stock.Stock :: (.sl none (a1.Stock.Notches.map Notch.c) :: ((arC (cI .i8) 0 a1.Stock.Grain) ++ ((.sl none (a1.Marks.map Mark.c) :: []) : List AV))))) ∧ eget e 4 = .lsl i1_1 s.2.2.length 0 s.1 ∧ eget e 5 = .int .i64 s.2.1 ∧ M[i1_1]? = some (.live ⟨.grow, 9, 1, s.2.2.map cS⟩) ∧ s.1 ≤ s.2.2.length
def spec_ShortWay_b1_RR (a1 : Chain) (i1_1 : Nat) (g : spec_ShortWay_b1_R) (x : Ex) (e : Env) (M : Mem) : Prop := x = .ext 0 ∧ eget e 4 = .lsl i1_1 g.2.length 0 g.1 ∧ M[i1_1]? = some (.live ⟨.grow, 9, 1, g.2.map cS⟩) ∧ g.1 ≤ g.2.length
noncomputable def spec_ShortWay_b1 (a1 : Chain) : spec_ShortWay_b1_S → Option (spec_ShortWay_b1_S ⊕ spec_ShortWay_b1_R) := fun (s1_1, s1_2, s1_3) =>
 if (decide (s1_2 < (a1.Marks.length : Int))) = true then
  (Lw (spec_ShortWay_b2 a1 s1_1 s1_2 s1_3) 0).bind fun y110 =>
  if (decide (y110 < (s1_1 : Int))) = true then
   (slw s1_1 (IntKind.i64.wrap (y110 + 1))).bind fun x125 =>
   some (.inl (x125, (IntKind.i64.wrap (s1_2 + 1)), s1_3))
  else
   (rd a1.Marks s1_2).bind fun x137 =>
   (apw 16 s1_3 s1_1 [x137.Holder]).bind fun (x139, n140) =>
   some (.inl (n140, (IntKind.i64.wrap (s1_2 + 1)), x139))
 else
  some (.inr (s1_1, s1_3))
theorem spec_ShortWay_b1_ok (a1 : Chain) (i1_1 : Nat) (s : spec_ShortWay_b1_S) (r : spec_ShortWay_b1_S ⊕ spec_ShortWay_b1_R) (h : spec_ShortWay_b1 a1 s = some r) (e : Env) (M : Mem) (hs : spec_ShortWay_b1_RS a1 i1_1 s e M) : Ev (fun k => (f10_l5 (CN k) k (prune [1, 4, 5] e) M).bind fun q => some q) (bQ (spec_ShortWay_b1_RS a1 i1_1) (spec_ShortWay_b1_RR a1 i1_1) r) := by
 obtain ⟨s1_1, s1_2, s1_3⟩ := s
 unfold spec_ShortWay_b1 at h
 obtain ⟨h35, h37, h39, o41, hl42⟩ := hs
 generalize he34 : prune [1, 4, 5] e = e33
 have h36 := envp he34.symm rfl h35
 have h38 := envp he34.symm rfl h37
 have h40 := envp he34.symm rfl h39
 refine sq (sq (Rg (kx (mvO h40) (kx (faP h36 ⟨ble rfl, blt rfl⟩ rfl) (kx (ldP rfl rfl) (kx (lnS Try.underlying37 rfl) (kx (bLss rfl rfl) (Rn (hV (.pt none (.str a1.Debtor :: (.bool a1.Stock.Stock :: (.sl none (a1.Stock.Notches.map Notch.c) :: ((arC (cI .i8) 0 a1.Stock.Grain) ++ ((.sl none (a1.Marks.map Mark.c) :: []) : List AV)))))) h36 (hV (.lsl i1_1 s1_3.length 0 s1_1) h38 (hV (.int .i64 s1_2) h40 (hN rfl hZ)))) fun e43 h45 h46 h47 h48 => sN ?_))))))))
 clear h36 h38 h40
 rcases ite_some h with ⟨hb49, h⟩ | ⟨hb49, h⟩
 ·obtain ⟨y110, hr106, h⟩ := bind_some h
  refine cT h48 hb49 (xx (sN (sq (bl (sq (Rg (kx (mvO rfl) (Rn (hA h45 (hA h46 (hA h47 (hV (.int .i64 0) rfl hZ)))) fun e50 h52 h53 h54 h55 => sN (sq (bl (Ev.loop (RS := spec_ShortWay_b2_RS a1 s1_1 s1_2 s1_3 i1_1) (RR := spec_ShortWay_b2_RR a1 s1_1 s1_2 s1_3 i1_1) (fun s r h e M hs => spec_ShortWay_b2_ok a1 s1_1 s1_2 s1_3 i1_1 s r h e M hs) hr106 ⟨h52, h53, h54, h55, o41, hl42⟩ fun x e108 M109 hq107 => ?_)))))))))))
  clear h45 h46 h47 h48
  obtain ⟨rfl, h111, h112, h113, h114, o115, hl116⟩ := hq107
  refine bE (sN (sq (Rg (kx (mvO h114) (kx (mvO h112) (kx (lnL Try.underlying43 rfl o115 (by simp [hl42])) (kx (bLss rfl rfl) (Rn (hV (.pt none (.str a1.Debtor :: (.bool a1.Stock.Stock :: (.sl none (a1.Stock.Notches.map Notch.c) :: ((arC (cI .i8) 0 a1.Stock.Grain) ++ ((.sl none (a1.Marks.map Mark.c) :: []) : List AV)))))) h111 (hV (.lsl i1_1 s1_3.length 0 s1_1) h112 (hV (.int .i64 s1_2) h113 (hV (.int .i64 y110) h114 (hN rfl hZ))))) fun e117 h119 h120 h121 h122 h123 => sN ?_))))))))
  clear h111 h112 h113 h114
  rcases ite_some h with ⟨hb124, h⟩ | ⟨hb124, h⟩
  ·obtain ⟨x125, hx126, h⟩ := bind_some h
   refine cT h123 hb124 (Rg (kx (mvO h120) (kx (mvO h122) (kx (bAdd rfl rfl) (kx (slW rfl o115 rfl rfl hx126) (kx (mvO rfl) (Rn (hA h119 (hV (.lsl i1_1 s1_3.length 0 x125) rfl (hA h121 hZ))) fun e127 h129 h130 h131 => bN (sN (Rg (kx (mvO h131) (kx (bAdd rfl rfl) (kx (mvO rfl) (Rn (hA h129 (hA h130 (hN rfl hZ))) fun e132 h134 h135 h136 => ?_)))))))))))))
   clear h119 h121 h122 h123 h129 h130
   obtain rfl := si h
   exact qN ⟨h134, h135, h136, o115, (slw_le hx126 hl116)⟩
  obtain ⟨x137, hx138, h⟩ := bind_some h
  obtain ⟨⟨x139, n140⟩, hx141, h⟩ := bind_some h
  refine cF h123 hb124 (Rg (kx (mvO h120) (kx (faP h119 ⟨ble rfl, blt rfl⟩ rfl) (kx (ldP rfl rfl) (kx (mvO h121) (kx (ixS rfl rfl hx138 Mark.fl) (kx (faP rfl ⟨ble rfl, blt rfl⟩ rfl) (kx (ldP rfl rfl) (kx (litI (cns rfl rfl) rfl ⟨rfl, by decide⟩) (kw (apW rfl o115 rfl (elT (c := cS) (xs := [x137.Holder]) rfl) hx141 cS_fl (by decide)) fun M142 hM143 => ?_))))))))))
  have o144 : M142[i1_1]? = some (.live ⟨.grow, 9, 1, x139.map cS⟩) := set_same hM143 o115
  refine kx (mvO rfl) (Rn (hA h119 (hV (.lsl i1_1 x139.length 0 n140) rfl (hA h121 hZ))) fun e145 h147 h148 h149 => bN (sN (Rg (kx (mvO h149) (kx (bAdd rfl rfl) (kx (mvO rfl) (Rn (hA h147 (hA h148 (hN rfl hZ))) fun e150 h152 h153 h154 => ?_)))))))
  clear h119 h121 h122 h123 h147 h148
  obtain rfl := si h
  exact qN ⟨h152, h153, h154, o144, (apw_le hx141)⟩
 refine cF h48 hb49 (xx (sE ?_))
 obtain rfl := si h
 exact qE ⟨rfl, h46, o41, hl42⟩
noncomputable def spec_ShortWay (a1 : Chain) : Option ((List (List UInt8)) × Int) :=
 (spec_l06Ok a1).bind fun r5 =>
 if r5 = true then
  (Lw (spec_ShortWay_b1 a1) ([a1.Debtor].length, 0, [a1.Debtor])).bind fun (y160, y161) =>
  (app 16 ([] : List (List UInt8)) (y161.take y160)).bind fun x165 =>
  some (x165, 0)
 else
  some (([] : List (List UInt8)), 1)
def spec_ShortWay_enc (r : (List (List UInt8)) × Int) : AV := .tup [.sl (some 9) (r.1.map cS), .int .i64 r.2]
theorem spec_ShortWay_ok (a1 : Chain) (r : (List (List UInt8)) × Int) (h : spec_ShortWay a1 = some r) : Ev (fun k => CN k 10 [.agg (.str a1.Debtor :: (.bool a1.Stock.Stock :: (.sl none (a1.Stock.Notches.map Notch.c) :: ((arC (cI .i8) 0 a1.Stock.Grain) ++ ((.sl none (a1.Marks.map Mark.c) :: []) : List AV)))))] []) (fun p => rRes p.2 p.1 = spec_ShortWay_enc r) := by
 unfold spec_ShortWay at h
 obtain ⟨r5, hx4, h⟩ := bind_some h
 refine Ev.enter (F := fun k => f10 (CN k) k) (fun k => callN_eq rfl Try.func10 rfl rfl rfl (by decide +kernel) (f10_eq _ _)) (sq (Rg (kx (bxI rfl rfl ⟨rfl, rfl, by decide⟩) (kx (mvO rfl) (kx (mvO rfl) (Rn (hN rfl hZ) fun e1 h3 => sN (sq (sq (Rg (kc (cl (v := .bool r5) rfl (cns h3 rfl) rfl (spec_l06Ok_ok a1 _ hx4) nm) (kx (uNot rfl) (Rn (hA h3 (hN rfl hZ)) fun e6 h8 h9 => sN ?_))))))))))))
 clear h3
 rcases ite_some h with ⟨hb10, h⟩ | ⟨hb10, h⟩
 ·refine cF h9 (congrArg Bool.not hb10) (xx (sN (sq (Rg (kx (faP h8 ⟨ble rfl, blt rfl⟩ rfl) (kx (ldP rfl rfl) (ku (litO (xs := [a1.Debtor]) (c := cS) (cns rfl rfl) rfl (by decide)) fun M12 hM13 => ?_)))))))
  have o14 : M12[([] : Mem).length]? = some (.live ⟨.grow, 9, 1, [a1.Debtor].map cS⟩) := push_new hM13
  obtain ⟨⟨y160, y161⟩, hr156, h⟩ := bind_some h
  refine kx (mvO rfl) (Rn (hA h8 (hV (.lsl ([] : Mem).length [a1.Debtor].length 0 [a1.Debtor].length) rfl hZ)) fun e15 h17 h18 => sN (sq (sq (Rg (kx (mvO rfl) (Rn (hA h17 (hA h18 (hV (.int .i64 0) rfl hZ))) fun e19 h21 h22 h23 => sN (bl (Ev.loop (RS := spec_ShortWay_b1_RS a1 (([] : Mem).length)) (RR := spec_ShortWay_b1_RR a1 (([] : Mem).length)) (fun s r h e M hs => spec_ShortWay_b1_ok a1 (([] : Mem).length) s r h e M hs) hr156 ⟨h21, h22, h23, o14, (Nat.le_refl _)⟩ fun x e158 M159 hq157 => ?_))))))))
  clear h8 h9 h17 h18
  obtain ⟨rfl, h162, o163, hl164⟩ := hq157
  obtain ⟨x165, hx166, h⟩ := bind_some h
  refine bE (sN (sq (Rg (kx (litI rfl rfl ⟨rfl, by decide⟩) (kx (mvO h162) (kx (aiT (c := cS) (xs := ([] : List (List UInt8))) rfl (elW rfl o163 rfl hl164) hx166 cS_fl (by decide)) (kx (mvO rfl) (kx (mvO rfl) (Rn (hN rfl (hV (.int .i64 0) rfl hZ)) fun e167 h169 h170 => sN (xx ?_))))))))))
  clear h162
  obtain rfl := si h
  exact eR (resT h169 (resT h170 res0)) rfl
 refine cT h9 (congrArg Bool.not hb10) (sq (Rg (kx (litI rfl rfl ⟨rfl, by decide⟩) (kx (mvO rfl) (kx (mvO rfl) (Rn (hN rfl (hV (.int .i64 1) rfl hZ)) fun e171 h173 h174 => sN (xx (sR ?_))))))))
 clear h8 h9
 obtain rfl := si h
 exact eR (resT h173 (resT h174 res0)) rfl
/-! ### loop.example/g01263/laws.eqChain (f9) -/
noncomputable def laws_eqChain (a1 : Chain) (a2 : Chain) : Option Bool :=
 if (a1.Debtor == a2.Debtor) = true then
  (laws_eqHalf a1.Stock a2.Stock).bind fun r12 =>
  if r12 = true then
   (laws_eqMarkS a1.Marks a2.Marks).bind fun r20 =>
   if r20 = true then
    some true
   else
    some false
  else
   some false
 else
  some false
def laws_eqChain_enc (r : Bool) : AV := .bool r
theorem laws_eqChain_ok (a1 : Chain) (a2 : Chain) (r : Bool) (h : laws_eqChain a1 a2 = some r) : Ev (fun k => CN k 9 [.agg (.str a1.Debtor :: (.bool a1.Stock.Stock :: (.sl none (a1.Stock.Notches.map Notch.c) :: ((arC (cI .i8) 0 a1.Stock.Grain) ++ ((.sl none (a1.Marks.map Mark.c) :: []) : List AV))))), .agg (.str a2.Debtor :: (.bool a2.Stock.Stock :: (.sl none (a2.Stock.Notches.map Notch.c) :: ((arC (cI .i8) 0 a2.Stock.Grain) ++ ((.sl none (a2.Marks.map Mark.c) :: []) : List AV)))))] []) (fun p => rRes p.2 p.1 = laws_eqChain_enc r) := by
 unfold laws_eqChain at h
 refine Ev.enter (F := fun k => f9 (CN k) k) (fun k => callN_eq rfl Try.func9 rfl rfl rfl (by decide +kernel) (f9_eq _ _)) (sq (Rg (kx (bxI rfl rfl ⟨rfl, rfl, by decide⟩) (kx (bxI rfl rfl ⟨rfl, rfl, by decide⟩) (kx (mvO rfl) (Rn (hN rfl (hN rfl hZ)) fun e1 h3 h4 => sN (sq (sq (Rg (kx (faP h3 ⟨ble rfl, blt rfl⟩ rfl) (kx (ldP rfl rfl) (kx (faP h4 ⟨ble rfl, blt rfl⟩ rfl) (kx (ldP rfl rfl) (kx (sNeq rfl rfl) (Rn (hA h3 (hA h4 (hN rfl hZ))) fun e5 h7 h8 h9 => sN ?_)))))))))))))))
 clear h3 h4
 rcases ite_some h with ⟨hb10, h⟩ | ⟨hb10, h⟩
 ·obtain ⟨r12, hx11, h⟩ := bind_some h
  refine cF h9 (congrArg Bool.not hb10) (xx (sN (sq (sq (Rg (kx (faP h7 ⟨ble rfl, blt rfl⟩ rfl) (kx (ldPA rfl rfl rfl) (kx (faP h8 ⟨ble rfl, blt rfl⟩ rfl) (kx (ldPA rfl rfl rfl) (kc (cl (v := .bool r12) rfl (cns rfl (cns rfl rfl)) rfl (laws_eqHalf_ok a1.Stock a2.Stock _ hx11) nm) (kx (uNot rfl) (Rn (hA h7 (hA h8 (hN rfl hZ))) fun e13 h15 h16 h17 => sN ?_))))))))))))
  clear h7 h8 h9
  rcases ite_some h with ⟨hb18, h⟩ | ⟨hb18, h⟩
  ·obtain ⟨r20, hx19, h⟩ := bind_some h
   refine cF h17 (congrArg Bool.not hb18) (xx (sN (sq (sq (Rg (kx (faP h15 ⟨ble rfl, blt rfl⟩ rfl) (kx (ldP rfl rfl) (kx (faP h16 ⟨ble rfl, blt rfl⟩ rfl) (kx (ldP rfl rfl) (kc (cl (v := .bool r20) rfl (cns rfl (cns rfl rfl)) rfl (laws_eqMarkS_ok a1.Marks a2.Marks _ hx19) nm) (kx (uNot rfl) (Rn (hN rfl hZ) fun e21 h23 => sN ?_))))))))))))
   clear h15 h16 h17
   rcases ite_some h with ⟨hb24, h⟩ | ⟨hb24, h⟩
   ·refine cF h23 (congrArg Bool.not hb24) (xx (sN (sq (Rg (kx (mvO rfl) (Rn (hV (.bool true) rfl hZ) fun e25 h27 => sN (xx ?_)))))))
    clear h23
    obtain rfl := si h
    exact eR (resT h27 res0) rfl
   refine cT h23 (congrArg Bool.not hb24) (sq (Rg (kx (mvO rfl) (Rn (hV (.bool false) rfl hZ) fun e28 h30 => sN (xx (sR ?_))))))
   clear h23
   obtain rfl := si h
   exact eR (resT h30 res0) rfl
  refine cT h17 (congrArg Bool.not hb18) (sq (Rg (kx (mvO rfl) (Rn (hV (.bool false) rfl hZ) fun e31 h33 => sN (xx (sR ?_))))))
  clear h15 h16 h17
  obtain rfl := si h
  exact eR (resT h33 res0) rfl
 refine cT h9 (congrArg Bool.not hb10) (sq (Rg (kx (mvO rfl) (Rn (hV (.bool false) rfl hZ) fun e34 h36 => sN (xx (sR ?_))))))
 clear h7 h8 h9
 obtain rfl := si h
 exact eR (resT h36 res0) rfl
/-! ### loop.example/g01263/laws.toChain (f7) -/
noncomputable def laws_toChain (a1 : Chain) : Option ((List UInt8) × Bool × (List Notch) × (Ar 16 Int) × (List Mark)) :=
 (laws_toHalf a1.Stock).bind fun (r30, r31, r32) =>
 (laws_toMarkS a1.Marks).bind fun r43 =>
 some (a1.Debtor, r30, r31, r32, r43)
def laws_toChain_enc (r : (List UInt8) × Bool × (List Notch) × (Ar 16 Int) × (List Mark)) : AV := .agg (.str r.1 :: (.bool r.2.1 :: (.sl (some 90) (r.2.2.1.map Notch.c) :: ((arC (cI .i8) 0 r.2.2.2.1) ++ ((.sl (some 57) (r.2.2.2.2.map Mark.c) :: []) : List AV)))))
theorem laws_toChain_ok (a1 : Chain) (r : (List UInt8) × Bool × (List Notch) × (Ar 16 Int) × (List Mark)) (h : laws_toChain a1 = some r) : Ev (fun k => CN k 7 [.agg (.str a1.Debtor :: (.bool a1.Stock.Stock :: (.sl none (a1.Stock.Notches.map Notch.c) :: ((arC (cI .i8) 0 a1.Stock.Grain) ++ ((.sl none (a1.Marks.map Mark.c) :: []) : List AV)))))] []) (fun p => rRes p.2 p.1 = laws_toChain_enc r) := by
 unfold laws_toChain at h
 refine Ev.enter (F := fun k => f7 (CN k) k) (fun k => callN_eq rfl Try.func7 rfl rfl rfl (by decide +kernel) (f7_eq _ _)) (sq (Rg (kx (bxI rfl rfl ⟨rfl, rfl, by decide⟩) (ku (alO zero39) fun M2 hM3 => ?_))))
 have o4 : M2[([] : Mem).length]? = some (.live ⟨.box, 39, 20, [(.str ([] : List UInt8) :: (.bool false :: (.nils :: ((arC (cI .i8) 0 (Ar.rep 16 0)) ++ ((.nils :: []) : List AV)))))]⟩) := push_new hM3
 refine Rn (hN rfl (hV (.loc ([] : Mem).length 1 0 0) rfl hZ)) fun e5 h7 h8 => sN (sq (Rg (ku (alO zero39) fun M10 hM11 => ?_)))
 have o12 := push_old hM11 o4
 have ne13 := ne_new o4
 have o14 : M10[M2.length]? = some (.live ⟨.box, 39, 20, [(.str ([] : List UInt8) :: (.bool false :: (.nils :: ((arC (cI .i8) 0 (Ar.rep 16 0)) ++ ((.nils :: []) : List AV)))))]⟩) := push_new hM11
 refine Rn (hA h7 (hA h8 (hV (.loc M2.length 1 0 0) rfl hZ))) fun e15 h17 h18 h19 => sN (sq (Rg (kx (faP h17 ⟨ble rfl, blt rfl⟩ rfl) (kx (ldP rfl rfl) (kx (faO h19 o14 rfl) (kw (stO rfl rfl o14 rfl rfl ⟨rfl, ble rfl⟩ rfl rfl) fun M20 hM21 => ?_))))))
 clear h7 h8
 have o22 := set_ne hM21 ne13 o12
 have o23 : M20[M2.length]? = some (.live ⟨.box, 39, 20, [(.str a1.Debtor :: (.bool false :: (.nils :: ((arC (cI .i8) 0 (Ar.rep 16 0)) ++ ((.nils :: []) : List AV)))))]⟩) := set_same hM21 o14
 obtain ⟨⟨r30, r31, r32⟩, hx29, h⟩ := bind_some h
 refine Rn (hA h17 (hA h18 (hA h19 hZ))) fun e24 h26 h27 h28 => sN (sq (Rg (kx (faP h26 ⟨ble rfl, blt rfl⟩ rfl) (kx (ldPA rfl rfl rfl) (kc (cl (v := .agg (.bool r30 :: (.sl (some 90) (r31.map Notch.c) :: ((arC (cI .i8) 0 r32) ++ ([] : List AV))))) rfl (cns rfl rfl) rfl (laws_toHalf_ok a1.Stock _ hx29) nm) (kx (faO h28 o23 rfl) (kw (stOK rfl rfl o23 rfl rfl ⟨rfl, ble rfl⟩ rfl rfl) fun M33 hM34 => ?_)))))))
 clear h17 h18 h19
 have o35 := set_ne hM34 ne13 o22
 have o36 : M33[M2.length]? = some (.live ⟨.box, 39, 20, [(.str a1.Debtor :: (.bool r30 :: (.sl (some 90) (r31.map Notch.c) :: ((arC (cI .i8) 0 r32) ++ ((.nils :: []) : List AV)))))]⟩) := set_same hM34 o23
 obtain ⟨r43, hx42, h⟩ := bind_some h
 refine Rn (hA h26 (hA h27 (hA h28 hZ))) fun e37 h39 h40 h41 => sN (sq (Rg (kx (faP h39 ⟨ble rfl, blt rfl⟩ rfl) (kx (ldP rfl rfl) (kc (cl (v := .sl (some 57) (r43.map Mark.c)) rfl (cns rfl rfl) rfl (laws_toMarkS_ok a1.Marks _ hx42) nm) (kx (faO h41 o36 rfl) (kw (stOK rfl rfl o36 rfl rfl ⟨rfl, ble rfl⟩ rfl rfl) fun M44 hM45 => ?_)))))))
 clear h26 h27 h28
 have o46 := set_ne hM45 ne13 o35
 have o47 : M44[M2.length]? = some (.live ⟨.box, 39, 20, [(.str a1.Debtor :: (.bool r30 :: (.sl (some 90) (r31.map Notch.c) :: ((arC (cI .i8) 0 r32) ++ ((.sl (some 57) (r43.map Mark.c) :: []) : List AV)))))]⟩) := set_same hM45 o36
 refine Rn (hA h40 (hA h41 hZ)) fun e48 h50 h51 => sN (sq (Rg (kx (ldOA (cs' := (.str a1.Debtor :: (.bool r30 :: (.sl (some 90) (r31.map Notch.c) :: ((arC (cI .i8) 0 r32) ++ ((.sl (some 57) (r43.map Mark.c) :: []) : List AV)))))) h51 o47 rfl rfl (ble rfl) rfl) (kw (stOK h50 rfl o46 rfl rfl ⟨rfl, ble rfl⟩ rfl rfl) fun M52 hM53 => ?_))))
 clear h39 h40 h41
 have o54 : M52[([] : Mem).length]? = some (.live ⟨.box, 39, 20, [(.str a1.Debtor :: (.bool r30 :: (.sl (some 90) (r31.map Notch.c) :: ((arC (cI .i8) 0 r32) ++ ((.sl (some 57) (r43.map Mark.c) :: []) : List AV)))))]⟩) := set_same hM53 o46
 have o55 := set_ne hM53 (Ne.symm ne13) o47
 refine Rn (hA h50 hZ) fun e56 h58 => sN (xx ?_)
 clear h50 h51
 obtain rfl := si h
 exact eR (resC (ag := true) (sz := 20) ⟨by kernel_rfl, by kernel_rfl, by kernel_rfl⟩ (ldOA (cs' := (.str a1.Debtor :: (.bool r30 :: (.sl (some 90) (r31.map Notch.c) :: ((arC (cI .i8) 0 r32) ++ ((.sl (some 57) (r43.map Mark.c) :: []) : List AV)))))) h58 o54 rfl rfl (ble rfl) rfl) res0) rfl
/-! ### loop.example/g01263/laws.szChain (f5) -/
noncomputable def laws_szChain (a1 : Chain) (a2 : Int) : Option Int :=
 if (decide ((IntKind.i64.wrap (a2 - (a1.Debtor.length : Int))) < 0)) = true then
  some (-1)
 else
  (laws_szHalf a1.Stock (IntKind.i64.wrap (a2 - (a1.Debtor.length : Int)))).bind fun r19 =>
  if (decide (r19 < 0)) = true then
   some (-1)
  else
   (laws_szMarkS a1.Marks r19).bind fun r34 =>
   if (decide (r34 < 0)) = true then
    some (-1)
   else
    some r34
def laws_szChain_enc (r : Int) : AV := .int .i64 r
theorem laws_szChain_ok (a1 : Chain) (a2 : Int) (r : Int) (h : laws_szChain a1 a2 = some r) : Ev (fun k => CN k 5 [.agg (.str a1.Debtor :: (.bool a1.Stock.Stock :: (.sl none (a1.Stock.Notches.map Notch.c) :: ((arC (cI .i8) 0 a1.Stock.Grain) ++ ((.sl none (a1.Marks.map Mark.c) :: []) : List AV))))), .int .i64 a2] []) (fun p => rRes p.2 p.1 = laws_szChain_enc r) := by
 unfold laws_szChain at h
 refine Ev.enter (F := fun k => f5 (CN k) k) (fun k => callN_eq rfl Try.func5 rfl rfl rfl (by decide +kernel) (f5_eq _ _)) (sq (Rg (kx (bxI rfl rfl ⟨rfl, rfl, by decide⟩) (kx (mvO rfl) (Rn (hN rfl (hN rfl hZ)) fun e1 h3 h4 => sN (sq (Rg (kx (mvO h3) (kx (faP h4 ⟨ble rfl, blt rfl⟩ rfl) (kx (ldP rfl rfl) (kx (lnB Try.underlying9 rfl) (kx (bSub rfl rfl) (kx (mvO rfl) (Rn (hN rfl (hA h4 hZ)) fun e5 h7 h8 => sN (sq (sq (Rg (kx (mvO h7) (kx (bLss rfl rfl) (Rn (hA h7 (hA h8 (hN rfl hZ))) fun e9 h11 h12 h13 => sN ?_))))))))))))))))))))
 clear h4 h7 h8
 rcases ite_some h with ⟨hb14, h⟩ | ⟨hb14, h⟩
 ·refine cT h13 hb14 (sq (Rg (kx (mvO rfl) (Rn (hV (.int .i64 (-1)) rfl hZ) fun e15 h17 => sN (xx (sR ?_))))))
  clear h11 h12 h13
  obtain rfl := si h
  exact eR (resT h17 res0) rfl
 obtain ⟨r19, hx18, h⟩ := bind_some h
 refine cF h13 hb14 (xx (sN (sq (Rg (kx (faP h12 ⟨ble rfl, blt rfl⟩ rfl) (kx (ldPA rfl rfl rfl) (kx (mvO h11) (kc (cl (v := .int .i64 r19) rfl (cns rfl (cns rfl rfl)) rfl (laws_szHalf_ok a1.Stock (IntKind.i64.wrap (a2 - (a1.Debtor.length : Int))) _ hx18) nm) (kx (mvO rfl) (Rn (hN rfl (hA h12 hZ)) fun e20 h22 h23 => sN (sq (sq (Rg (kx (mvO h22) (kx (bLss rfl rfl) (Rn (hA h22 (hA h23 (hN rfl hZ))) fun e24 h26 h27 h28 => sN ?_))))))))))))))))
 clear h12 h13 h22 h23
 rcases ite_some h with ⟨hb29, h⟩ | ⟨hb29, h⟩
 ·refine cT h28 hb29 (sq (Rg (kx (mvO rfl) (Rn (hV (.int .i64 (-1)) rfl hZ) fun e30 h32 => sN (xx (sR ?_))))))
  clear h26 h27 h28
  obtain rfl := si h
  exact eR (resT h32 res0) rfl
 obtain ⟨r34, hx33, h⟩ := bind_some h
 refine cF h28 hb29 (xx (sN (sq (Rg (kx (faP h27 ⟨ble rfl, blt rfl⟩ rfl) (kx (ldP rfl rfl) (kx (mvO h26) (kc (cl (v := .int .i64 r34) rfl (cns rfl (cns rfl rfl)) rfl (laws_szMarkS_ok a1.Marks r19 _ hx33) nm) (kx (mvO rfl) (Rn (hN rfl hZ) fun e35 h37 => sN (sq (sq (Rg (kx (mvO h37) (kx (bLss rfl rfl) (Rn (hA h37 (hN rfl hZ)) fun e38 h40 h41 => sN ?_))))))))))))))))
 clear h27 h28 h37
 rcases ite_some h with ⟨hb42, h⟩ | ⟨hb42, h⟩
 ·refine cT h41 hb42 (sq (Rg (kx (mvO rfl) (Rn (hV (.int .i64 (-1)) rfl hZ) fun e43 h45 => sN (xx (sR ?_))))))
  clear h40 h41
  obtain rfl := si h
  exact eR (resT h45 res0) rfl
 refine cF h41 hb42 (xx (sN (sq (Rg (kx (mvO h40) (kx (mvO rfl) (Rn (hN rfl hZ) fun e46 h48 => sN (xx ?_))))))))
 clear h40 h41
 obtain rfl := si h
 exact eR (resT h48 res0) rfl
/-! ### loop.example/g01263/laws.markNotchS (f46) -/
abbrev laws_markNotchS_l_b1_S := Int × Int × (List Notch)
abbrev laws_markNotchS_l_b1_R := Int × (List Notch)
def laws_markNotchS_l_b1_RS (a1 : List Notch) (j1 : Nat) (M0 : Mem) (s : laws_markNotchS_l_b1_S) (e : Env) (M : Mem) : Prop := eget e 0 = .lsl j1 s.2.2.length 0 s.2.2.length ∧ eget e 1 = .int .i64 s.1 ∧ eget e 5 = .int .i64 s.2.1 ∧ M[j1]? = some (.live ⟨.grow, 90, 2, s.2.2.map Notch.c⟩) ∧ Fr [j1] M0 M ∧ s.2.2.length = a1.length
def laws_markNotchS_l_b1_RR (a1 : List Notch) (j1 : Nat) (M0 : Mem) (g : laws_markNotchS_l_b1_R) (x : Ex) (e : Env) (M : Mem) : Prop := x = .ext 0 ∧ eget e 1 = .int .i64 g.1 ∧ M[j1]? = some (.live ⟨.grow, 90, 2, g.2.map Notch.c⟩) ∧ Fr [j1] M0 M ∧ g.2.length = a1.length
noncomputable def laws_markNotchS_l_b1 : laws_markNotchS_l_b1_S → Option (laws_markNotchS_l_b1_S ⊕ laws_markNotchS_l_b1_R) := fun (s1_1, s1_2, s1_3) =>
 if (decide (s1_2 < (s1_3.length : Int))) = true then
  (rd s1_3 s1_2).bind fun x38 =>
  (rd (s1_3.set s1_2.toNat (Notch.mk (IntKind.i8.wrap s1_1) x38.At)) s1_2).bind fun x55 =>
  some (.inl ((IntKind.i64.wrap ((IntKind.i64.wrap (s1_1 + 1)) + 1)), (IntKind.i64.wrap (s1_2 + 1)), ((s1_3.set s1_2.toNat (Notch.mk (IntKind.i8.wrap s1_1) x38.At)).set s1_2.toNat (Notch.mk x55.Kind (IntKind.i16.wrap (IntKind.i64.wrap (s1_1 + 1)))))))
 else
  some (.inr (s1_1, s1_3))
theorem laws_markNotchS_l_b1_ok (a1 : List Notch) (j1 : Nat) (M0 : Mem) (s : laws_markNotchS_l_b1_S) (r : laws_markNotchS_l_b1_S ⊕ laws_markNotchS_l_b1_R) (h : laws_markNotchS_l_b1 s = some r) (e : Env) (M : Mem) (hs : laws_markNotchS_l_b1_RS a1 j1 M0 s e M) : Ev (fun k => (f46_l2 (CN k) k (prune [0, 1, 5] e) M).bind fun q => some q) (bQ (laws_markNotchS_l_b1_RS a1 j1 M0) (laws_markNotchS_l_b1_RR a1 j1 M0) r) := by
 obtain ⟨s1_1, s1_2, s1_3⟩ := s
 unfold laws_markNotchS_l_b1 at h
 obtain ⟨h22, h24, h26, o28, fr29, hl30⟩ := hs
 generalize he21 : prune [0, 1, 5] e = e20
 have h23 := envp he21.symm rfl h22
 have h25 := envp he21.symm rfl h24
 have h27 := envp he21.symm rfl h26
 refine sq (sq (Rg (kx (mvO h27) (kx (mvO h23) (kx (lnL Try.underlying33 rfl o28 (by simp [hl30])) (kx (bLss rfl rfl) (Rn (hV (.lsl j1 s1_3.length 0 s1_3.length) h23 (hV (.int .i64 s1_1) h25 (hV (.int .i64 s1_2) h27 (hN rfl hZ)))) fun e31 h33 h34 h35 h36 => sN ?_)))))))
 clear h23 h25 h27
 rcases ite_some h with ⟨hb37, h⟩ | ⟨hb37, h⟩
 ·obtain ⟨x38, hx39, h⟩ := bind_some h
  refine cT h36 hb37 (xx (sN (sq (bl (sq (Rg (kx (mvO h33) (kx (mvO h35) (kx (mvO h34) (kx (cvI rfl) (kx (ixO rfl o28 rfl rfl (rd_get hx39).1 (rd_lt hx39).2) (kx (faO rfl o28 (by simp [hl30])) (kw (stR (u := x38) (u' := (Notch.mk (IntKind.i8.wrap s1_1) x38.At)) rfl rfl o28 rfl (rz2 hx39) ⟨rfl, ble rfl⟩ rfl rfl) fun M40 hM41 => ?_)))))))))))))
  rw [Nat.zero_add] at hM41
  have o42 : M40[j1]? = some (.live ⟨.grow, 90, 2, (s1_3.set s1_2.toNat (Notch.mk (IntKind.i8.wrap s1_1) x38.At)).map Notch.c⟩) := set_same hM41 o28
  have fr43 := Fr.setIn fr29 hM41 (by simp)
  have hx44 := rd_set (u' := (Notch.mk (IntKind.i8.wrap s1_1) x38.At)) hx39
  obtain ⟨x55, hx56, h⟩ := bind_some h
  refine Rn (hA h33 (hA h34 (hA h35 hZ))) fun e45 h47 h48 h49 => sN (sq (Rg (kx (mvO h48) (kx (bAdd rfl rfl) (kx (mvO rfl) (Rn (hA h47 (hN rfl (hA h49 hZ))) fun e50 h52 h53 h54 => sN (sq (Rg (kx (mvO (lslL (L' := (s1_3.set s1_2.toNat (Notch.mk (IntKind.i8.wrap s1_1) x38.At)).length) h52 (by simp [hl30]))) (kx (mvO h54) (kx (mvO h53) (kx (cvI rfl) (kx (ixO rfl o42 rfl rfl (rd_get hx56).1 (rd_lt hx56).2) (kx (faO rfl o42 (by simp [hl30])) (kw (stR (u := x55) (u' := (Notch.mk x55.Kind (IntKind.i16.wrap (IntKind.i64.wrap (s1_1 + 1))))) rfl rfl o42 rfl (rz2 hx56) ⟨rfl, ble rfl⟩ rfl rfl) fun M57 hM58 => ?_)))))))))))))))
  clear h33 h34 h35 h36 h47 h49
  rw [Nat.zero_add] at hM58
  have o59 : M57[j1]? = some (.live ⟨.grow, 90, 2, ((s1_3.set s1_2.toNat (Notch.mk (IntKind.i8.wrap s1_1) x38.At)).set s1_2.toNat (Notch.mk x55.Kind (IntKind.i16.wrap (IntKind.i64.wrap (s1_1 + 1))))).map Notch.c⟩) := set_same hM58 o42
  have fr60 := Fr.setIn fr43 hM58 (by simp)
  have hx61 := rd_set (u' := (Notch.mk x55.Kind (IntKind.i16.wrap (IntKind.i64.wrap (s1_1 + 1))))) hx56
  refine Rn (hA h52 (hA h53 (hA h54 hZ))) fun e62 h64 h65 h66 => sN (Rg (kx (mvO h65) (kx (bAdd rfl rfl) (kx (mvO rfl) (Rn (hA h64 (hN rfl (hA h66 hZ))) fun e67 h69 h70 h71 => bN (sN (Rg (kx (mvO h71) (kx (bAdd rfl rfl) (kx (mvO rfl) (Rn (hA h69 (hA h70 (hN rfl hZ))) fun e72 h74 h75 h76 => ?_)))))))))))
  clear h52 h53 h54 h64 h66 h69 h70
  obtain rfl := si h
  exact qN ⟨(lslL (L' := ((s1_3.set s1_2.toNat (Notch.mk (IntKind.i8.wrap s1_1) x38.At)).set s1_2.toNat (Notch.mk x55.Kind (IntKind.i16.wrap (IntKind.i64.wrap (s1_1 + 1))))).length) h74 (by simp [hl30])), h75, h76, o59, fr60, (by first | rfl | simp [hl30])⟩
 refine cF h36 hb37 (xx (sE ?_))
 obtain rfl := si h
 exact qE ⟨rfl, h34, o28, fr29, (by first | rfl | simp [hl30])⟩
noncomputable def laws_markNotchS_l (a1 : List Notch) (a2 : Int) : Option (Int × (List Notch)) :=
 (Lw (laws_markNotchS_l_b1) (a2, 0, a1)).bind fun (y82, y83) =>
 some (y82, y83)
def laws_markNotchS_l_Q (a1 : List Notch) (a2 : Int) (j1 : Nat) (M0 : Mem) (r : Int × (List Notch)) (p : AV × Mem) : Prop := p.1 = .int .i64 r.1 ∧ p.2[j1]? = some (.live ⟨.grow, 90, 2, r.2.map Notch.c⟩) ∧ Fr [j1] M0 p.2 ∧ r.2.length = a1.length
theorem laws_markNotchS_l_ok (a1 : List Notch) (a2 : Int) (j1 : Nat) (M0 : Mem) (oP1 : M0[j1]? = some (.live ⟨.grow, 90, 2, a1.map Notch.c⟩)) (r : Int × (List Notch)) (h : laws_markNotchS_l a1 a2 = some r) : Ev (fun k => CN k 46 [.lsl j1 a1.length 0 a1.length, .int .i64 a2] M0) (laws_markNotchS_l_Q a1 a2 j1 M0 r) := by
 unfold laws_markNotchS_l at h
 have fr0 : Fr [j1] M0 M0 := Fr.refl
 obtain ⟨⟨y82, y83⟩, hr78, h⟩ := bind_some h
 refine Ev.enter (F := fun k => f46 (CN k) k) (fun k => callN_eq rfl Try.func46 rfl rfl rfl (by decide +kernel) (f46_eq _ _)) (sq (Rg (kx (mvO rfl) (Rn (hV (.lsl j1 a1.length 0 a1.length) rfl (hN rfl hZ)) fun e1 h3 h4 => sN (sq (sq (Rg (kx (mvO rfl) (Rn (hA h3 (hA h4 (hV (.int .i64 0) rfl hZ))) fun e5 h7 h8 h9 => sN (bl (Ev.loop (RS := laws_markNotchS_l_b1_RS a1 j1 M0) (RR := laws_markNotchS_l_b1_RR a1 j1 M0) (fun s r h e M hs => laws_markNotchS_l_b1_ok a1 j1 M0 s r h e M hs) hr78 ⟨h7, h8, h9, oP1, fr0, rfl⟩ fun x e80 M81 hq79 => ?_)))))))))))
 clear h3 h4
 obtain ⟨rfl, h84, o85, fr86, hl87⟩ := hq79
 refine bE (sN (sq (Rg (kx (mvO h84) (kx (mvO rfl) (Rn (hN rfl hZ) fun e88 h90 => sN (xx ?_)))))))
 clear h84
 obtain rfl := si h
 exact eR (resT h90 res0) ⟨rfl, o85, fr86, (by first | rfl | simp [hl87])⟩
/-! ### loop.example/g01263/laws.markHalf (f27) -/
noncomputable def laws_markHalf_l (a1 : Bool) (a2 : List Notch) (a3 : Ar 16 Int) (a4 : Int) : Option (Int × (List Notch)) :=
 (laws_markNotchS_l a2 a4).bind fun (r14, r15) =>
 some (r14, r15)
def laws_markHalf_l_Q (a1 : Bool) (a2 : List Notch) (a3 : Ar 16 Int) (a4 : Int) (j1 : Nat) (M0 : Mem) (r : Int × (List Notch)) (p : AV × Mem) : Prop := p.1 = .int .i64 r.1 ∧ p.2[j1]? = some (.live ⟨.grow, 90, 2, r.2.map Notch.c⟩) ∧ Fr [j1] M0 p.2 ∧ r.2.length = a2.length
theorem laws_markHalf_l_ok (a1 : Bool) (a2 : List Notch) (a3 : Ar 16 Int) (a4 : Int) (j1 : Nat) (M0 : Mem) (oP1 : M0[j1]? = some (.live ⟨.grow, 90, 2, a2.map Notch.c⟩)) (r : Int × (List Notch)) (h : laws_markHalf_l a1 a2 a3 a4 = some r) : Ev (fun k => CN k 27 [.agg (.bool a1 :: (.lsl j1 a2.length 0 a2.length :: ((arC (cI .i8) 0 a3) ++ ([] : List AV)))), .int .i64 a4] M0) (laws_markHalf_l_Q a1 a2 a3 a4 j1 M0 r) := by
 unfold laws_markHalf_l at h
 have fr0 : Fr [j1] M0 M0 := Fr.refl
 refine Ev.enter (F := fun k => f27 (CN k) k) (fun k => callN_eq rfl Try.func27 rfl rfl rfl (by decide +kernel) (f27_eq _ _)) (sq (Rg (ku (bxO rfl rfl ⟨rfl, (all1 rfl (all1 (okL oP1 (by simp)) (oaS (fun _ => rfl) all0))), by decide⟩) fun M2 hM3 => ?_)))
 have nf4 := Nf.mk fr0
 have fr5 := Fr.push fr0 hM3
 have o6 := push_old hM3 oP1
 have ne7 := ne_new oP1
 have o8 : M2[M0.length]? = some (.live ⟨.box, 36, 18, [(.bool a1 :: (.lsl j1 a2.length 0 a2.length :: ((arC (cI .i8) 0 a3) ++ ([] : List AV))))]⟩) := push_new hM3
 obtain ⟨⟨r14, r15⟩, hx13, h⟩ := bind_some h
 refine kx (mvO rfl) (Rn (hN rfl (hV (.loc M0.length 1 0 0) rfl hZ)) fun e9 h11 h12 => sN (sq (Rg (kx (faO h12 o8 rfl) (kx (ldO rfl o8 rfl rfl rfl) (kx (mvO h11) (Ev.nxw (Ev.callW rfl (cns rfl (cns rfl rfl)) (laws_markNotchS_l_ok a2 a4 j1 M2 o6 _ hx13)) fun v18 M16 hq17 => ?_)))))))
 obtain ⟨hv18, o19, fr20, hl21⟩ := hq17
 have hv18 : v18 = .int .i64 r14 := hv18
 subst hv18
 have o22 : M16[j1]? = some (.live ⟨.grow, 90, 2, r15.map Notch.c⟩) := o19
 have hl21 : r15.length = a2.length := hl21
 have o23 : M16[M0.length]? = some (.live ⟨.box, 36, 18, [(.bool a1 :: (.lsl j1 a2.length 0 a2.length :: ((arC (cI .i8) 0 a3) ++ ([] : List AV))))]⟩) := fr20 _ _ (niC (Ne.symm ne7) niN) o8
 have fr24 : Fr [j1] M0 M16 := Fr.call fr5 fr20 (fwI (by simp) fwN)
 refine kx (mvO rfl) (Rn (hN rfl hZ) fun e25 h27 => sN (sq (Rg (kx (mvO h27) (kx (mvO rfl) (Rn (hN rfl hZ) fun e28 h30 => sN (xx ?_)))))))
 clear h12 h27
 obtain rfl := si h
 exact eR (resT h30 res0) ⟨rfl, o22, fr24, (by first | rfl | simp [hl21])⟩
/-! ### loop.example/g01263/laws.markMarkS (f28) -/
abbrev laws_markMarkS_l_b1_S := Int × Int × (List Mark)
abbrev laws_markMarkS_l_b1_R := Int × (List Mark)
def laws_markMarkS_l_b1_RS (a1 : List Mark) (j1 : Nat) (M0 : Mem) (s : laws_markMarkS_l_b1_S) (e : Env) (M : Mem) : Prop := eget e 0 = .lsl j1 s.2.2.length 0 s.2.2.length ∧ eget e 1 = .int .i64 s.1 ∧ eget e 5 = .int .i64 s.2.1 ∧ M[j1]? = some (.live ⟨.grow, 57, 2, s.2.2.map Mark.c⟩) ∧ Fr [j1] M0 M ∧ s.2.2.length = a1.length
def laws_markMarkS_l_b1_RR (a1 : List Mark) (j1 : Nat) (M0 : Mem) (g : laws_markMarkS_l_b1_R) (x : Ex) (e : Env) (M : Mem) : Prop := x = .ext 0 ∧ eget e 1 = .int .i64 g.1 ∧ M[j1]? = some (.live ⟨.grow, 57, 2, g.2.map Mark.c⟩) ∧ Fr [j1] M0 M ∧ g.2.length = a1.length
noncomputable def laws_markMarkS_l_b1 : laws_markMarkS_l_b1_S → Option (laws_markMarkS_l_b1_S ⊕ laws_markMarkS_l_b1_R) := fun (s1_1, s1_2, s1_3) =>
 if (decide (s1_2 < (s1_3.length : Int))) = true then
  (laws_markText s1_1).bind fun r39 =>
  (rd s1_3 s1_2).bind fun x40 =>
  (rd (s1_3.set s1_2.toNat (Mark.mk r39 x40.Seal)) s1_2).bind fun x57 =>
  some (.inl ((IntKind.i64.wrap ((IntKind.i64.wrap (s1_1 + 1)) + 1)), (IntKind.i64.wrap (s1_2 + 1)), ((s1_3.set s1_2.toNat (Mark.mk r39 x40.Seal)).set s1_2.toNat (Mark.mk x57.Holder (IntKind.u32.wrap (IntKind.i64.wrap (s1_1 + 1)))))))
 else
  some (.inr (s1_1, s1_3))
theorem laws_markMarkS_l_b1_ok (a1 : List Mark) (j1 : Nat) (M0 : Mem) (s : laws_markMarkS_l_b1_S) (r : laws_markMarkS_l_b1_S ⊕ laws_markMarkS_l_b1_R) (h : laws_markMarkS_l_b1 s = some r) (e : Env) (M : Mem) (hs : laws_markMarkS_l_b1_RS a1 j1 M0 s e M) : Ev (fun k => (f28_l2 (CN k) k (prune [0, 1, 5] e) M).bind fun q => some q) (bQ (laws_markMarkS_l_b1_RS a1 j1 M0) (laws_markMarkS_l_b1_RR a1 j1 M0) r) := by
 obtain ⟨s1_1, s1_2, s1_3⟩ := s
 unfold laws_markMarkS_l_b1 at h
 obtain ⟨h22, h24, h26, o28, fr29, hl30⟩ := hs
 generalize he21 : prune [0, 1, 5] e = e20
 have h23 := envp he21.symm rfl h22
 have h25 := envp he21.symm rfl h24
 have h27 := envp he21.symm rfl h26
 refine sq (sq (Rg (kx (mvO h27) (kx (mvO h23) (kx (lnL Try.underlying37 rfl o28 (by simp [hl30])) (kx (bLss rfl rfl) (Rn (hV (.lsl j1 s1_3.length 0 s1_3.length) h23 (hV (.int .i64 s1_1) h25 (hV (.int .i64 s1_2) h27 (hN rfl hZ)))) fun e31 h33 h34 h35 h36 => sN ?_)))))))
 clear h23 h25 h27
 rcases ite_some h with ⟨hb37, h⟩ | ⟨hb37, h⟩
 ·obtain ⟨r39, hx38, h⟩ := bind_some h
  obtain ⟨x40, hx41, h⟩ := bind_some h
  refine cT h36 hb37 (xx (sN (sq (bl (sq (Rg (kx (mvO h33) (kx (mvO h35) (kx (mvO h34) (kc (cl (v := .str r39) rfl (cns rfl rfl) rfl (laws_markText_ok s1_1 _ hx38) nm) (kx (ixO rfl o28 rfl rfl (rd_get hx41).1 (rd_lt hx41).2) (kx (faO rfl o28 (by simp [hl30])) (kw (stR (u := x40) (u' := (Mark.mk r39 x40.Seal)) rfl rfl o28 rfl (rz2 hx41) ⟨rfl, ble rfl⟩ rfl rfl) fun M42 hM43 => ?_)))))))))))))
  rw [Nat.zero_add] at hM43
  have o44 : M42[j1]? = some (.live ⟨.grow, 57, 2, (s1_3.set s1_2.toNat (Mark.mk r39 x40.Seal)).map Mark.c⟩) := set_same hM43 o28
  have fr45 := Fr.setIn fr29 hM43 (by simp)
  have hx46 := rd_set (u' := (Mark.mk r39 x40.Seal)) hx41
  obtain ⟨x57, hx58, h⟩ := bind_some h
  refine Rn (hA h33 (hA h34 (hA h35 hZ))) fun e47 h49 h50 h51 => sN (sq (Rg (kx (mvO h50) (kx (bAdd rfl rfl) (kx (mvO rfl) (Rn (hA h49 (hN rfl (hA h51 hZ))) fun e52 h54 h55 h56 => sN (sq (Rg (kx (mvO (lslL (L' := (s1_3.set s1_2.toNat (Mark.mk r39 x40.Seal)).length) h54 (by simp [hl30]))) (kx (mvO h56) (kx (mvO h55) (kx (cvI rfl) (kx (ixO rfl o44 rfl rfl (rd_get hx58).1 (rd_lt hx58).2) (kx (faO rfl o44 (by simp [hl30])) (kw (stR (u := x57) (u' := (Mark.mk x57.Holder (IntKind.u32.wrap (IntKind.i64.wrap (s1_1 + 1))))) rfl rfl o44 rfl (rz2 hx58) ⟨rfl, ble rfl⟩ rfl rfl) fun M59 hM60 => ?_)))))))))))))))
  clear h33 h34 h35 h36 h49 h51
  rw [Nat.zero_add] at hM60
  have o61 : M59[j1]? = some (.live ⟨.grow, 57, 2, ((s1_3.set s1_2.toNat (Mark.mk r39 x40.Seal)).set s1_2.toNat (Mark.mk x57.Holder (IntKind.u32.wrap (IntKind.i64.wrap (s1_1 + 1))))).map Mark.c⟩) := set_same hM60 o44
  have fr62 := Fr.setIn fr45 hM60 (by simp)
  have hx63 := rd_set (u' := (Mark.mk x57.Holder (IntKind.u32.wrap (IntKind.i64.wrap (s1_1 + 1))))) hx58
  refine Rn (hA h54 (hA h55 (hA h56 hZ))) fun e64 h66 h67 h68 => sN (Rg (kx (mvO h67) (kx (bAdd rfl rfl) (kx (mvO rfl) (Rn (hA h66 (hN rfl (hA h68 hZ))) fun e69 h71 h72 h73 => bN (sN (Rg (kx (mvO h73) (kx (bAdd rfl rfl) (kx (mvO rfl) (Rn (hA h71 (hA h72 (hN rfl hZ))) fun e74 h76 h77 h78 => ?_)))))))))))
  clear h54 h55 h56 h66 h68 h71 h72
  obtain rfl := si h
  exact qN ⟨(lslL (L' := ((s1_3.set s1_2.toNat (Mark.mk r39 x40.Seal)).set s1_2.toNat (Mark.mk x57.Holder (IntKind.u32.wrap (IntKind.i64.wrap (s1_1 + 1))))).length) h76 (by simp [hl30])), h77, h78, o61, fr62, (by first | rfl | simp [hl30])⟩
 refine cF h36 hb37 (xx (sE ?_))
 obtain rfl := si h
 exact qE ⟨rfl, h34, o28, fr29, (by first | rfl | simp [hl30])⟩
noncomputable def laws_markMarkS_l (a1 : List Mark) (a2 : Int) : Option (Int × (List Mark)) :=
 (Lw (laws_markMarkS_l_b1) (a2, 0, a1)).bind fun (y84, y85) =>
 some (y84, y85)
def laws_markMarkS_l_Q (a1 : List Mark) (a2 : Int) (j1 : Nat) (M0 : Mem) (r : Int × (List Mark)) (p : AV × Mem) : Prop := p.1 = .int .i64 r.1 ∧ p.2[j1]? = some (.live ⟨.grow, 57, 2, r.2.map Mark.c⟩) ∧ Fr [j1] M0 p.2 ∧ r.2.length = a1.length
theorem laws_markMarkS_l_ok (a1 : List Mark) (a2 : Int) (j1 : Nat) (M0 : Mem) (oP1 : M0[j1]? = some (.live ⟨.grow, 57, 2, a1.map Mark.c⟩)) (r : Int × (List Mark)) (h : laws_markMarkS_l a1 a2 = some r) : Ev (fun k => CN k 28 [.lsl j1 a1.length 0 a1.length, .int .i64 a2] M0) (laws_markMarkS_l_Q a1 a2 j1 M0 r) := by
 unfold laws_markMarkS_l at h
 have fr0 : Fr [j1] M0 M0 := Fr.refl
 obtain ⟨⟨y84, y85⟩, hr80, h⟩ := bind_some h
 refine Ev.enter (F := fun k => f28 (CN k) k) (fun k => callN_eq rfl Try.func28 rfl rfl rfl (by decide +kernel) (f28_eq _ _)) (sq (Rg (kx (mvO rfl) (Rn (hV (.lsl j1 a1.length 0 a1.length) rfl (hN rfl hZ)) fun e1 h3 h4 => sN (sq (sq (Rg (kx (mvO rfl) (Rn (hA h3 (hA h4 (hV (.int .i64 0) rfl hZ))) fun e5 h7 h8 h9 => sN (bl (Ev.loop (RS := laws_markMarkS_l_b1_RS a1 j1 M0) (RR := laws_markMarkS_l_b1_RR a1 j1 M0) (fun s r h e M hs => laws_markMarkS_l_b1_ok a1 j1 M0 s r h e M hs) hr80 ⟨h7, h8, h9, oP1, fr0, rfl⟩ fun x e82 M83 hq81 => ?_)))))))))))
 clear h3 h4
 obtain ⟨rfl, h86, o87, fr88, hl89⟩ := hq81
 refine bE (sN (sq (Rg (kx (mvO h86) (kx (mvO rfl) (Rn (hN rfl hZ) fun e90 h92 => sN (xx ?_)))))))
 clear h86
 obtain rfl := si h
 exact eR (resT h92 res0) ⟨rfl, o87, fr88, (by first | rfl | simp [hl89])⟩
/-! ### loop.example/g01263/laws.markChain (f13) -/
noncomputable def laws_markChain_ll (a1 : List UInt8) (a2 : Bool) (a3 : List Notch) (a4 : Ar 16 Int) (a5 : List Mark) (a6 : Int) : Option (Int × (List Notch) × (List Mark)) :=
 (laws_markHalf_l a2 a3 a4 a6).bind fun (r16, r17) =>
 (laws_markMarkS_l a5 r16).bind fun (r33, r34) =>
 some (r33, r17, r34)
def laws_markChain_ll_Q (a1 : List UInt8) (a2 : Bool) (a3 : List Notch) (a4 : Ar 16 Int) (a5 : List Mark) (a6 : Int) (j1 : Nat) (j2 : Nat) (M0 : Mem) (r : Int × (List Notch) × (List Mark)) (p : AV × Mem) : Prop := p.1 = .int .i64 r.1 ∧ p.2[j1]? = some (.live ⟨.grow, 90, 2, r.2.1.map Notch.c⟩) ∧ p.2[j2]? = some (.live ⟨.grow, 57, 2, r.2.2.map Mark.c⟩) ∧ Fr [j1, j2] M0 p.2 ∧ r.2.1.length = a3.length ∧ r.2.2.length = a5.length
theorem laws_markChain_ll_ok (a1 : List UInt8) (a2 : Bool) (a3 : List Notch) (a4 : Ar 16 Int) (a5 : List Mark) (a6 : Int) (j1 : Nat) (j2 : Nat) (ne01 : j1 ≠ j2) (M0 : Mem) (oP1 : M0[j1]? = some (.live ⟨.grow, 90, 2, a3.map Notch.c⟩)) (oP2 : M0[j2]? = some (.live ⟨.grow, 57, 2, a5.map Mark.c⟩)) (r : Int × (List Notch) × (List Mark)) (h : laws_markChain_ll a1 a2 a3 a4 a5 a6 = some r) : Ev (fun k => CN k 13 [.agg (.str a1 :: (.bool a2 :: (.lsl j1 a3.length 0 a3.length :: ((arC (cI .i8) 0 a4) ++ ((.lsl j2 a5.length 0 a5.length :: []) : List AV))))), .int .i64 a6] M0) (laws_markChain_ll_Q a1 a2 a3 a4 a5 a6 j1 j2 M0 r) := by
 unfold laws_markChain_ll at h
 have fr0 : Fr [j1, j2] M0 M0 := Fr.refl
 refine Ev.enter (F := fun k => f13 (CN k) k) (fun k => callN_eq rfl Try.func13 rfl rfl rfl (by decide +kernel) (f13_eq _ _)) (sq (Rg (ku (bxO rfl rfl ⟨rfl, (all1 rfl (all1 rfl (all1 (okL oP1 (by simp)) (oaS (fun _ => rfl) (all1 (okL oP2 (by simp)) all0))))), by decide⟩) fun M2 hM3 => ?_)))
 have nf4 := Nf.mk fr0
 have fr5 := Fr.push fr0 hM3
 have o6 := push_old hM3 oP1
 have ne7 := ne_new oP1
 have o8 := push_old hM3 oP2
 have ne9 := ne_new oP2
 have o10 : M2[M0.length]? = some (.live ⟨.box, 39, 20, [(.str a1 :: (.bool a2 :: (.lsl j1 a3.length 0 a3.length :: ((arC (cI .i8) 0 a4) ++ ((.lsl j2 a5.length 0 a5.length :: []) : List AV)))))]⟩) := push_new hM3
 obtain ⟨⟨r16, r17⟩, hx15, h⟩ := bind_some h
 refine kx (mvO rfl) (Rn (hN rfl (hV (.loc M0.length 1 0 0) rfl hZ)) fun e11 h13 h14 => sN (sq (Rg (kx (faO h14 o10 rfl) (kx (ldOA (cs' := (.bool a2 :: (.lsl j1 a3.length 0 a3.length :: ((arC (cI .i8) 0 a4) ++ ([] : List AV))))) rfl o10 rfl rfl (ble rfl) rfl) (kx (mvO h13) (Ev.nxw (Ev.callW rfl (cns rfl (cns rfl rfl)) (laws_markHalf_l_ok a2 a3 a4 a6 j1 M2 o6 _ hx15)) fun v20 M18 hq19 => ?_)))))))
 obtain ⟨hv20, o21, fr22, hl23⟩ := hq19
 have hv20 : v20 = .int .i64 r16 := hv20
 subst hv20
 have o24 : M18[j1]? = some (.live ⟨.grow, 90, 2, r17.map Notch.c⟩) := o21
 have hl23 : r17.length = a3.length := hl23
 have o25 : M18[j2]? = some (.live ⟨.grow, 57, 2, a5.map Mark.c⟩) := fr22 _ _ (niC (Ne.symm ne01) niN) o8
 have o26 : M18[M0.length]? = some (.live ⟨.box, 39, 20, [(.str a1 :: (.bool a2 :: (.lsl j1 a3.length 0 a3.length :: ((arC (cI .i8) 0 a4) ++ ((.lsl j2 a5.length 0 a5.length :: []) : List AV)))))]⟩) := fr22 _ _ (niC (Ne.symm ne7) niN) o10
 have fr27 : Fr [j1, j2] M0 M18 := Fr.call fr5 fr22 (fwI (by simp) fwN)
 obtain ⟨⟨r33, r34⟩, hx32, h⟩ := bind_some h
 refine kx (mvO rfl) (Rn (hN rfl (hA h14 hZ)) fun e28 h30 h31 => sN (sq (Rg (kx (faO h31 o26 rfl) (kx (ldO rfl o26 rfl rfl rfl) (kx (mvO h30) (Ev.nxw (Ev.callW rfl (cns rfl (cns rfl rfl)) (laws_markMarkS_l_ok a5 r16 j2 M18 o25 _ hx32)) fun v37 M35 hq36 => ?_)))))))
 clear h14
 obtain ⟨hv37, o38, fr39, hl40⟩ := hq36
 have hv37 : v37 = .int .i64 r33 := hv37
 subst hv37
 have o41 : M35[j2]? = some (.live ⟨.grow, 57, 2, r34.map Mark.c⟩) := o38
 have hl40 : r34.length = a5.length := hl40
 have o42 : M35[j1]? = some (.live ⟨.grow, 90, 2, r17.map Notch.c⟩) := fr39 _ _ (niC ne01 niN) o24
 have o43 : M35[M0.length]? = some (.live ⟨.box, 39, 20, [(.str a1 :: (.bool a2 :: (.lsl j1 a3.length 0 a3.length :: ((arC (cI .i8) 0 a4) ++ ((.lsl j2 a5.length 0 a5.length :: []) : List AV)))))]⟩) := fr39 _ _ (niC (Ne.symm ne9) niN) o26
 have fr44 : Fr [j1, j2] M0 M35 := Fr.call fr27 fr39 (fwI (by simp) fwN)
 refine kx (mvO rfl) (Rn (hN rfl hZ) fun e45 h47 => sN (sq (Rg (kx (mvO h47) (kx (mvO rfl) (Rn (hN rfl hZ) fun e48 h50 => sN (xx ?_)))))))
 clear h31 h47
 obtain rfl := si h
 exact eR (resT h50 res0) ⟨rfl, o42, o41, fr44, (by first | rfl | simp [hl23, hl40]), (by first | rfl | simp [hl23, hl40])⟩
/-! ### loop.example/g01263/laws.markStringS (f14) -/
abbrev laws_markStringS_l_b1_S := Int × Int × (List (List UInt8))
abbrev laws_markStringS_l_b1_R := Int × (List (List UInt8))
def laws_markStringS_l_b1_RS (a1 : List (List UInt8)) (j1 : Nat) (M0 : Mem) (s : laws_markStringS_l_b1_S) (e : Env) (M : Mem) : Prop := eget e 0 = .lsl j1 s.2.2.length 0 s.2.2.length ∧ eget e 1 = .int .i64 s.1 ∧ eget e 5 = .int .i64 s.2.1 ∧ M[j1]? = some (.live ⟨.grow, 9, 1, s.2.2.map cS⟩) ∧ Fr [j1] M0 M ∧ s.2.2.length = a1.length
def laws_markStringS_l_b1_RR (a1 : List (List UInt8)) (j1 : Nat) (M0 : Mem) (g : laws_markStringS_l_b1_R) (x : Ex) (e : Env) (M : Mem) : Prop := x = .ext 0 ∧ eget e 1 = .int .i64 g.1 ∧ M[j1]? = some (.live ⟨.grow, 9, 1, g.2.map cS⟩) ∧ Fr [j1] M0 M ∧ g.2.length = a1.length
noncomputable def laws_markStringS_l_b1 : laws_markStringS_l_b1_S → Option (laws_markStringS_l_b1_S ⊕ laws_markStringS_l_b1_R) := fun (s1_1, s1_2, s1_3) =>
 if (decide (s1_2 < (s1_3.length : Int))) = true then
  (laws_markText s1_1).bind fun r39 =>
  (rd s1_3 s1_2).bind fun x40 =>
  some (.inl ((IntKind.i64.wrap (s1_1 + 1)), (IntKind.i64.wrap (s1_2 + 1)), (s1_3.set s1_2.toNat r39)))
 else
  some (.inr (s1_1, s1_3))
theorem laws_markStringS_l_b1_ok (a1 : List (List UInt8)) (j1 : Nat) (M0 : Mem) (s : laws_markStringS_l_b1_S) (r : laws_markStringS_l_b1_S ⊕ laws_markStringS_l_b1_R) (h : laws_markStringS_l_b1 s = some r) (e : Env) (M : Mem) (hs : laws_markStringS_l_b1_RS a1 j1 M0 s e M) : Ev (fun k => (f14_l2 (CN k) k (prune [0, 1, 5] e) M).bind fun q => some q) (bQ (laws_markStringS_l_b1_RS a1 j1 M0) (laws_markStringS_l_b1_RR a1 j1 M0) r) := by
 obtain ⟨s1_1, s1_2, s1_3⟩ := s
 unfold laws_markStringS_l_b1 at h
 obtain ⟨h22, h24, h26, o28, fr29, hl30⟩ := hs
 generalize he21 : prune [0, 1, 5] e = e20
 have h23 := envp he21.symm rfl h22
 have h25 := envp he21.symm rfl h24
 have h27 := envp he21.symm rfl h26
 refine sq (sq (Rg (kx (mvO h27) (kx (mvO h23) (kx (lnL Try.underlying43 rfl o28 (by simp [hl30])) (kx (bLss rfl rfl) (Rn (hV (.lsl j1 s1_3.length 0 s1_3.length) h23 (hV (.int .i64 s1_1) h25 (hV (.int .i64 s1_2) h27 (hN rfl hZ)))) fun e31 h33 h34 h35 h36 => sN ?_)))))))
 clear h23 h25 h27
 rcases ite_some h with ⟨hb37, h⟩ | ⟨hb37, h⟩
 ·obtain ⟨r39, hx38, h⟩ := bind_some h
  obtain ⟨x40, hx41, h⟩ := bind_some h
  refine cT h36 hb37 (xx (sN (sq (bl (sq (Rg (kx (mvO h33) (kx (mvO h35) (kx (mvO h34) (kc (cl (v := .str r39) rfl (cns rfl rfl) rfl (laws_markText_ok s1_1 _ hx38) nm) (kx (ixO rfl o28 rfl rfl (rd_get hx41).1 (rd_lt hx41).2) (kw (stR (u := x40) (u' := r39) rfl rfl o28 rfl (rz2 hx41) ⟨rfl, ble rfl⟩ rfl rfl) fun M42 hM43 => ?_))))))))))))
  rw [Nat.zero_add] at hM43
  have o44 : M42[j1]? = some (.live ⟨.grow, 9, 1, (s1_3.set s1_2.toNat r39).map cS⟩) := set_same hM43 o28
  have fr45 := Fr.setIn fr29 hM43 (by simp)
  have hx46 := rd_set (u' := r39) hx41
  refine Rn (hA h33 (hA h34 (hA h35 hZ))) fun e47 h49 h50 h51 => sN (Rg (kx (mvO h50) (kx (bAdd rfl rfl) (kx (mvO rfl) (Rn (hA h49 (hN rfl (hA h51 hZ))) fun e52 h54 h55 h56 => bN (sN (Rg (kx (mvO h56) (kx (bAdd rfl rfl) (kx (mvO rfl) (Rn (hA h54 (hA h55 (hN rfl hZ))) fun e57 h59 h60 h61 => ?_)))))))))))
  clear h33 h34 h35 h36 h49 h51 h54 h55
  obtain rfl := si h
  exact qN ⟨(lslL (L' := (s1_3.set s1_2.toNat r39).length) h59 (by simp [hl30])), h60, h61, o44, fr45, (by first | rfl | simp [hl30])⟩
 refine cF h36 hb37 (xx (sE ?_))
 obtain rfl := si h
 exact qE ⟨rfl, h34, o28, fr29, (by first | rfl | simp [hl30])⟩
noncomputable def laws_markStringS_l (a1 : List (List UInt8)) (a2 : Int) : Option (Int × (List (List UInt8))) :=
 (Lw (laws_markStringS_l_b1) (a2, 0, a1)).bind fun (y67, y68) =>
 some (y67, y68)
def laws_markStringS_l_Q (a1 : List (List UInt8)) (a2 : Int) (j1 : Nat) (M0 : Mem) (r : Int × (List (List UInt8))) (p : AV × Mem) : Prop := p.1 = .int .i64 r.1 ∧ p.2[j1]? = some (.live ⟨.grow, 9, 1, r.2.map cS⟩) ∧ Fr [j1] M0 p.2 ∧ r.2.length = a1.length
theorem laws_markStringS_l_ok (a1 : List (List UInt8)) (a2 : Int) (j1 : Nat) (M0 : Mem) (oP1 : M0[j1]? = some (.live ⟨.grow, 9, 1, a1.map cS⟩)) (r : Int × (List (List UInt8))) (h : laws_markStringS_l a1 a2 = some r) : Ev (fun k => CN k 14 [.lsl j1 a1.length 0 a1.length, .int .i64 a2] M0) (laws_markStringS_l_Q a1 a2 j1 M0 r) := by
 unfold laws_markStringS_l at h
 have fr0 : Fr [j1] M0 M0 := Fr.refl
 obtain ⟨⟨y67, y68⟩, hr63, h⟩ := bind_some h
 refine Ev.enter (F := fun k => f14 (CN k) k) (fun k => callN_eq rfl Try.func14 rfl rfl rfl (by decide +kernel) (f14_eq _ _)) (sq (Rg (kx (mvO rfl) (Rn (hV (.lsl j1 a1.length 0 a1.length) rfl (hN rfl hZ)) fun e1 h3 h4 => sN (sq (sq (Rg (kx (mvO rfl) (Rn (hA h3 (hA h4 (hV (.int .i64 0) rfl hZ))) fun e5 h7 h8 h9 => sN (bl (Ev.loop (RS := laws_markStringS_l_b1_RS a1 j1 M0) (RR := laws_markStringS_l_b1_RR a1 j1 M0) (fun s r h e M hs => laws_markStringS_l_b1_ok a1 j1 M0 s r h e M hs) hr63 ⟨h7, h8, h9, oP1, fr0, rfl⟩ fun x e65 M66 hq64 => ?_)))))))))))
 clear h3 h4
 obtain ⟨rfl, h69, o70, fr71, hl72⟩ := hq64
 refine bE (sN (sq (Rg (kx (mvO h69) (kx (mvO rfl) (Rn (hN rfl hZ) fun e73 h75 => sN (xx ?_)))))))
 clear h69
 obtain rfl := si h
 exact eR (resT h75 res0) ⟨rfl, o70, fr71, (by first | rfl | simp [hl72])⟩
/-! ### loop.example/g01263/laws.markStringS (f14) -/
abbrev laws_markStringS_n_b1_S := Int × Int
abbrev laws_markStringS_n_b1_R := Int
def laws_markStringS_n_b1_RS (M0 : Mem) (s : laws_markStringS_n_b1_S) (e : Env) (M : Mem) : Prop := eget e 0 = .nils ∧ eget e 1 = .int .i64 s.1 ∧ eget e 5 = .int .i64 s.2 ∧ Fr [] M0 M
def laws_markStringS_n_b1_RR (M0 : Mem) (g : laws_markStringS_n_b1_R) (x : Ex) (e : Env) (M : Mem) : Prop := x = .ext 0 ∧ eget e 1 = .int .i64 g ∧ Fr [] M0 M
noncomputable def laws_markStringS_n_b1 : laws_markStringS_n_b1_S → Option (laws_markStringS_n_b1_S ⊕ laws_markStringS_n_b1_R) := fun (s1_1, s1_2) =>
 if (decide (s1_2 < 0)) = true then
  (laws_markText s1_1).bind fun r36 =>
  none
 else
  some (.inr s1_1)
theorem laws_markStringS_n_b1_ok (M0 : Mem) (s : laws_markStringS_n_b1_S) (r : laws_markStringS_n_b1_S ⊕ laws_markStringS_n_b1_R) (h : laws_markStringS_n_b1 s = some r) (e : Env) (M : Mem) (hs : laws_markStringS_n_b1_RS M0 s e M) : Ev (fun k => (f14_l2 (CN k) k (prune [0, 1, 5] e) M).bind fun q => some q) (bQ (laws_markStringS_n_b1_RS M0) (laws_markStringS_n_b1_RR M0) r) := by
 obtain ⟨s1_1, s1_2⟩ := s
 unfold laws_markStringS_n_b1 at h
 obtain ⟨h21, h23, h25, fr27⟩ := hs
 generalize he20 : prune [0, 1, 5] e = e19
 have h22 := envp he20.symm rfl h21
 have h24 := envp he20.symm rfl h23
 have h26 := envp he20.symm rfl h25
 refine sq (sq (Rg (kx (mvO h26) (kx (mvO h22) (kx (lnN Try.underlying43 rfl) (kx (bLss rfl rfl) (Rn (hV .nils h22 (hV (.int .i64 s1_1) h24 (hV (.int .i64 s1_2) h26 (hN rfl hZ)))) fun e28 h30 h31 h32 h33 => sN ?_)))))))
 clear h22 h24 h26
 rcases ite_some h with ⟨hb34, h⟩ | ⟨hb34, h⟩
 ·obtain ⟨r36, hx35, h⟩ := bind_some h
  refine cT h33 hb34 (xx (sN (sq (bl (sq (Rg (kx (mvO h30) (kx (mvO h32) (kx (mvO h31) (kc (cl (v := .str r36) rfl (cns rfl rfl) rfl (laws_markText_ok s1_1 _ hx35) nm) ?_))))))))))
  cases h
 refine cF h33 hb34 (xx (sE ?_))
 obtain rfl := si h
 exact qE ⟨rfl, h31, fr27⟩
noncomputable def laws_markStringS_n (a1 : Int) : Option Int :=
 (Lw (laws_markStringS_n_b1) (a1, 0)).bind fun y42 =>
 some y42
def laws_markStringS_n_Q (a1 : Int) (M0 : Mem) (r : Int) (p : AV × Mem) : Prop := p.1 = .int .i64 r ∧ Fr [] M0 p.2
theorem laws_markStringS_n_ok (a1 : Int) (M0 : Mem) (r : Int) (h : laws_markStringS_n a1 = some r) : Ev (fun k => CN k 14 [.nils, .int .i64 a1] M0) (laws_markStringS_n_Q a1 M0 r) := by
 unfold laws_markStringS_n at h
 have fr0 : Fr [] M0 M0 := Fr.refl
 obtain ⟨y42, hr38, h⟩ := bind_some h
 refine Ev.enter (F := fun k => f14 (CN k) k) (fun k => callN_eq rfl Try.func14 rfl rfl rfl (by decide +kernel) (f14_eq _ _)) (sq (Rg (kx (mvO rfl) (Rn (hV .nils rfl (hN rfl hZ)) fun e1 h3 h4 => sN (sq (sq (Rg (kx (mvO rfl) (Rn (hA h3 (hA h4 (hV (.int .i64 0) rfl hZ))) fun e5 h7 h8 h9 => sN (bl (Ev.loop (RS := laws_markStringS_n_b1_RS M0) (RR := laws_markStringS_n_b1_RR M0) (fun s r h e M hs => laws_markStringS_n_b1_ok M0 s r h e M hs) hr38 ⟨h7, h8, h9, fr0⟩ fun x e40 M41 hq39 => ?_)))))))))))
 clear h3 h4
 obtain ⟨rfl, h43, fr44⟩ := hq39
 refine bE (sN (sq (Rg (kx (mvO h43) (kx (mvO rfl) (Rn (hN rfl hZ) fun e45 h47 => sN (xx ?_)))))))
 clear h43
 obtain rfl := si h
 exact eR (resT h47 res0) ⟨rfl, fr44⟩
end Go.Proofs.Ythkbjnbbahmpkab

/- Printed by a program of ours (ext.py). -/
import Derived.Test.YthkbjnbbahmpkaaFnsCommonMarks
set_option linter.unusedVariables false
set_option linter.unusedSimpArgs false
set_option maxRecDepth 100000
set_option maxHeartbeats 2000000
namespace Go.Proofs.Ythkbjnbbahmpkaa
open Go Go.Ab
structure Notch where
  Kind : Int
  At : Int
  deriving DecidableEq
def Notch.c (x : Notch) : List AV := [.int .i8 x.Kind, .int .i16 x.At]
theorem Notch.fl : Fl Notch.c 2 := fun _ => ⟨rfl, rfl⟩
theorem Notch.flF : FlF Notch.c := fun _ => rfl
structure Half where
  Stock : Bool
  Notches : List Notch
  Grain : Ar 16 Int
  deriving DecidableEq
def Half.c (x : Half) : List AV := (.bool x.Stock :: (.sl none (x.Notches.map Notch.c) :: ((arC (cI .i8) 0 x.Grain) ++ ([] : List AV))))
theorem Half.fl : Fl Half.c 18 := fun _ => ⟨rfl, rfl⟩
structure Mark where
  Holder : List UInt8
  Seal : Int
  deriving DecidableEq
def Mark.c (x : Mark) : List AV := [.str x.Holder, .int .u32 x.Seal]
theorem Mark.fl : Fl Mark.c 2 := fun _ => ⟨rfl, rfl⟩
theorem Mark.flF : FlF Mark.c := fun _ => rfl
structure Chain where
  Debtor : List UInt8
  Stock : Half
  Marks : List Mark
  deriving DecidableEq
def Chain.c (x : Chain) : List AV := (.str x.Debtor :: (.bool x.Stock.Stock :: (.sl none (x.Stock.Notches.map Notch.c) :: ((arC (cI .i8) 0 x.Stock.Grain) ++ ((.sl none (x.Marks.map Mark.c) :: []) : List AV)))))
theorem Chain.fl : Fl Chain.c 20 := fun _ => ⟨rfl, rfl⟩
theorem zero115 : zeroOf cx.P 115 = [.int .i8 0, .int .i16 0] := by kernel_rfl
theorem zero33 : zeroOf cx.P 33 = (arC (cI .i8) 0 (Ar.rep 16 0)) := by kernel_rfl
theorem zero35 : zeroOf cx.P 35 = (.bool false :: (.nils :: ((arC (cI .i8) 0 (Ar.rep 16 0)) ++ ([] : List AV)))) := by kernel_rfl
theorem zero38 : zeroOf cx.P 38 = (.str ([] : List UInt8) :: (.bool false :: (.nils :: ((arC (cI .i8) 0 (Ar.rep 16 0)) ++ ((.nils :: []) : List AV))))) := by kernel_rfl
theorem zero72 : zeroOf cx.P 72 = [.str ([] : List UInt8), .int .u32 0] := by kernel_rfl
/-! ### loop.example/g01263/spec.l01Widths (f97) -/
noncomputable def spec_l01Widths : Option ((List Int)) :=
 some [1, 2, 4, 6, 9, 12]
def spec_l01Widths_enc (r : (List Int)) : AV := .sl (some 2) (r.map (cI .i64))
theorem spec_l01Widths_ok (r : (List Int)) (h : spec_l01Widths = some r) : Ev (fun k => CN k 97 [] []) (fun p => rRes p.2 p.1 = spec_l01Widths_enc r) := by
 unfold spec_l01Widths at h
 refine Ev.enter (F := fun k => f97 (CN k) k) (fun k => callN_eq rfl Try.func97 rfl rfl rfl (by decide +kernel) (f97_eq _ _)) (sq (Rg (kx (mvO rfl) (Rn hZ fun e1 => sN (sq (Rg (kx (litI (cns rfl (cns rfl (cns rfl (cns rfl (cns rfl (cns rfl rfl)))))) rfl ⟨rfl, by decide⟩) (kx (mvO rfl) (Rn (hN rfl hZ) fun e3 h5 => sN (xx ?_))))))))))
 cases h
 exact eR (resT h5 res0) rfl
/-! ### loop.example/g01263/spec.l01Ends (f96) -/
noncomputable def spec_l01Ends (a1 : Notch) : Option Int :=
 (spec_l01Widths).bind fun r5 =>
 (rd r5 a1.Kind).bind fun x6 =>
 some (IntKind.i64.wrap ((IntKind.i64.wrap a1.At) + x6))
def spec_l01Ends_enc (r : Int) : AV := .int .i64 r
theorem spec_l01Ends_ok (a1 : Notch) (r : Int) (h : spec_l01Ends a1 = some r) : Ev (fun k => CN k 96 [.agg [.int .i8 a1.Kind, .int .i16 a1.At]] []) (fun p => rRes p.2 p.1 = spec_l01Ends_enc r) := by
 unfold spec_l01Ends at h
 obtain ⟨r5, hx4, h⟩ := bind_some h
 obtain ⟨x6, hx7, h⟩ := bind_some h
 refine Ev.enter (F := fun k => f96 (CN k) k) (fun k => callN_eq rfl Try.func96 rfl rfl rfl (by decide +kernel) (f96_eq _ _)) (sq (Rg (kx (bxI rfl rfl ⟨rfl, rfl, by decide⟩) (kx (mvO rfl) (Rn (hN rfl hZ) fun e1 h3 => sN (sq (Rd (kf (faP h3 ⟨ble rfl, blt rfl⟩ rfl) (kf (ldP rfl rfl) (kf (cvI rfl) (fc (cl (v := .sl (some 2) (r5.map (cI .i64))) rfl rfl rfl (spec_l01Widths_ok  _ hx4) nm) (kf (faP h3 ⟨ble rfl, blt rfl⟩ rfl) (kf (ldP rfl rfl) (kf (ixS rfl rfl hx7 (cI_fl _)) (kf (ldP rfl rfl) (kf (bAdd rfl rfl) (kf (mvO rfl) (fZ (Rn (hN rfl hZ) fun e8 h10 => sN (xx ?_))))))))))))))))))))
 clear h3
 cases h
 exact eR (resT h10 res0) rfl
/-! ### loop.example/g01263/spec.l00In (f73) -/
noncomputable def spec_l00In (a1 : Int) (a2 : Int) (a3 : Int) : Option Bool :=
 if (decide (a1 ≥ a2)) = true then
  some (decide (a1 ≤ a3))
 else
  some false
def spec_l00In_enc (r : Bool) : AV := .bool r
theorem spec_l00In_ok (a1 : Int) (a2 : Int) (a3 : Int) (r : Bool) (h : spec_l00In a1 a2 a3 = some r) : Ev (fun k => CN k 73 [.int .i64 a1, .int .i64 a2, .int .i64 a3] []) (fun p => rRes p.2 p.1 = spec_l00In_enc r) := by
 unfold spec_l00In at h
 refine Ev.enter (F := fun k => f73 (CN k) k) (fun k => callN_eq rfl Try.func73 rfl rfl rfl (by decide +kernel) (f73_eq _ _)) (sq (Rg (kx (mvO rfl) (Rn (hN rfl (hN rfl (hN rfl hZ))) fun e1 h3 h4 h5 => sN (sq (Rg (kx (mvO h3) (kx (mvO h4) (kx (bGeq rfl rfl) (kx (mvO rfl) ?_))))))))))
 rcases ite_some h with ⟨hb6, h⟩ | ⟨hb6, h⟩
 ·refine kx (guT rfl hb6 (mvO h3)) (kx (guT rfl hb6 (mvO h5)) (kx (guT rfl hb6 (bLeq rfl rfl)) (kx (pkT rfl hb6 rfl) (kx (mvO rfl) (Rn (hN rfl hZ) fun e7 h9 => sN (xx ?_))))))
  clear h3 h4 h5
  cases h
  exact eR (resT h9 res0) rfl
 refine kx (gsT rfl hb6) (kx (gsT rfl hb6) (kx (gsT rfl hb6) (kx (pkF rfl hb6 rfl) (kx (mvO rfl) (Rn (hV (.bool false) rfl hZ) fun e10 h12 => sN (xx ?_))))))
 clear h3 h4 h5
 cases h
 exact eR (resT h12 res0) rfl
/-! ### loop.example/g01263/spec.l01Kind (f95) -/
noncomputable def spec_l01Kind (a1 : Int) : Option Bool :=
 (spec_l00In a1 0 5).bind fun r5 =>
 some r5
def spec_l01Kind_enc (r : Bool) : AV := .bool r
theorem spec_l01Kind_ok (a1 : Int) (r : Bool) (h : spec_l01Kind a1 = some r) : Ev (fun k => CN k 95 [.int .i64 a1] []) (fun p => rRes p.2 p.1 = spec_l01Kind_enc r) := by
 unfold spec_l01Kind at h
 obtain ⟨r5, hx4, h⟩ := bind_some h
 refine Ev.enter (F := fun k => f95 (CN k) k) (fun k => callN_eq rfl Try.func95 rfl rfl rfl (by decide +kernel) (f95_eq _ _)) (sq (Rg (kx (mvO rfl) (Rn (hN rfl hZ) fun e1 h3 => sN (sq (Rg (kx (mvO h3) (kc (cl (v := .bool r5) rfl (cns rfl (cns rfl (cns rfl rfl))) rfl (spec_l00In_ok a1 0 5 _ hx4) nm) (kx (mvO rfl) (Rn (hN rfl hZ) fun e6 h8 => sN (xx ?_)))))))))))
 clear h3
 cases h
 exact eR (resT h8 res0) rfl
/-! ### loop.example/g01263/impl.width (f93) -/
noncomputable def impl_width (a1 : Int) : Option Int :=
 (rd [1, 2, 4, 6, 9, 12] a1).bind fun x4 =>
 some x4
def impl_width_enc (r : Int) : AV := .int .i64 r
theorem impl_width_ok (a1 : Int) (r : Int) (h : impl_width a1 = some r) : Ev (fun k => CN k 93 [.int .i64 a1] []) (fun p => rRes p.2 p.1 = impl_width_enc r) := by
 unfold impl_width at h
 obtain ⟨x4, hx5, h⟩ := bind_some h
 refine Ev.enter (F := fun k => f93 (CN k) k) (fun k => callN_eq rfl Try.func93 rfl rfl rfl (by decide +kernel) (f93_eq _ _)) (sq (Rg (kx (mvO rfl) (Rn (hN rfl hZ) fun e1 h3 => sN (sq (Rg (kx (litI (cns rfl (cns rfl (cns rfl (cns rfl (cns rfl (cns rfl rfl)))))) rfl ⟨rfl, by decide⟩) (kx (mvO h3) (kx (ixLt rfl rfl hx5 (cI_fl _)) (kx (ldP rfl rfl) (kx (mvO rfl) (Rn (hN rfl hZ) fun e6 h8 => sN (xx ?_)))))))))))))
 clear h3
 cases h
 exact eR (resT h8 res0) rfl
/-! ### loop.example/g01263/spec.l01Grain (f92) -/
abbrev spec_l01Grain_b1_S := Int
abbrev spec_l01Grain_b1_R := Unit ⊕ Unit
def spec_l01Grain_b1_RS (a1 : Ar 16 Int) (s : spec_l01Grain_b1_S) (e : Env) (M : Mem) : Prop := eget e 1 = .pt none (arC (cI .i8) 0 a1) ∧ eget e 3 = .int .i64 s
def spec_l01Grain_b1_RR (a1 : Ar 16 Int) (r : spec_l01Grain_b1_R) (x : Ex) (e : Env) (M : Mem) : Prop :=
  match r with
  | (.inl g) => x = .ret ∧ eget e 2 = .bool false
  | (.inr g) => x = .ext 0 ∧ True
noncomputable def spec_l01Grain_b1 (a1 : Ar 16 Int) : spec_l01Grain_b1_S → Option (spec_l01Grain_b1_S ⊕ spec_l01Grain_b1_R) := fun s1_1 =>
 if (decide (s1_1 < 16)) = true then
  (rdA a1 s1_1).bind fun x26 =>
  if (decide (x26 < (-3))) = true then
   some (.inr (.inl ()))
  else
   (rdA a1 s1_1).bind fun x37 =>
   if (decide (x37 > 3)) = true then
    some (.inr (.inl ()))
   else
    some (.inl (IntKind.i64.wrap (s1_1 + 1)))
 else
  some (.inr (.inr ()))
theorem spec_l01Grain_b1_ok (a1 : Ar 16 Int) (s : spec_l01Grain_b1_S) (r : spec_l01Grain_b1_S ⊕ spec_l01Grain_b1_R) (h : spec_l01Grain_b1 a1 s = some r) (e : Env) (M : Mem) (hs : spec_l01Grain_b1_RS a1 s e M) : Ev (fun k => (f92_l2 (CN k) k (prune [1, 3] e) M).bind fun q => some q) (bQ (spec_l01Grain_b1_RS a1) (spec_l01Grain_b1_RR a1) r) := by
 revert h hs
 revert s
 intro s1_1 h hs
 unfold spec_l01Grain_b1 at h
 obtain ⟨h16, h18⟩ := hs
 generalize he15 : prune [1, 3] e = e14
 have h17 := envp he15.symm rfl h16
 have h19 := envp he15.symm rfl h18
 refine sq (sq (Rg (kx (mvO h19) (kx (bLss rfl rfl) (Rn (hV (.pt none (arC (cI .i8) 0 a1)) h17 (hV (.int .i64 s1_1) h19 (hN rfl hZ))) fun e20 h22 h23 h24 => sN ?_)))))
 clear h17 h19
 rcases ite_some h with ⟨hb25, h⟩ | ⟨hb25, h⟩
 ·obtain ⟨x26, hx27, h⟩ := bind_some h
  refine cT h24 hb25 (xx (sN (sq (bl (sq (Rg (kx (mvO h23) (kx (ixPA (c := (cI .i8)) (z := 0) (g := a1) h22 rfl hx27 (fun _ => rfl)) (kx (ldP rfl rfl) (kx (bLss rfl rfl) (kx (mvO rfl) ?_)))))))))))
  rcases ite_some h with ⟨hb28, h⟩ | ⟨hb28, h⟩
  ·refine kx (gsF rfl hb28) (kx (gsF rfl hb28) (kx (gsF rfl hb28) (kx (gsF rfl hb28) (kx (pkT rfl hb28 rfl) (Rn (hA h22 (hA h23 (hV (.bool true) rfl hZ))) fun e29 h31 h32 h33 => sN (cT h33 rfl (sq (Rg (kx (mvO rfl) (Rn (hV (.bool false) rfl hZ) fun e34 h36 => sN (xx (bR (sR ?_)))))))))))))
   clear h22 h23 h24 h31 h32 h33
   cases h
   exact qR ⟨rfl, h36⟩
  obtain ⟨x37, hx38, h⟩ := bind_some h
  refine kx (guF rfl hb28 (mvO h23)) (kx (guF rfl hb28 (ixPA (c := (cI .i8)) (z := 0) (g := a1) h22 rfl hx38 (fun _ => rfl))) (kx (guF rfl hb28 (ldP rfl rfl)) (kx (guF rfl hb28 (bGtr rfl rfl)) (kx (pkF rfl hb28 rfl) (Rn (hA h22 (hA h23 (hN rfl hZ))) fun e39 h41 h42 h43 => sN ?_)))))
  clear h22 h23 h24
  rcases ite_some h with ⟨hb44, h⟩ | ⟨hb44, h⟩
  ·refine cT h43 hb44 (sq (Rg (kx (mvO rfl) (Rn (hV (.bool false) rfl hZ) fun e45 h47 => sN (xx (bR (sR ?_)))))))
   clear h41 h42 h43
   cases h
   exact qR ⟨rfl, h47⟩
  refine cF h43 hb44 (xx (bN (sN (Rg (kx (mvO h42) (kx (bAdd rfl rfl) (kx (mvO rfl) (Rn (hA h41 (hN rfl hZ)) fun e48 h50 h51 => ?_))))))))
  clear h41 h43
  cases h
  exact qN ⟨h50, h51⟩
 refine cF h24 hb25 (xx (sE ?_))
 cases h
 exact qE ⟨rfl, trivial⟩
noncomputable def spec_l01Grain (a1 : Ar 16 Int) : Option Bool :=
 (Lw (spec_l01Grain_b1 a1) 0).bind fun r => match r with
 | (.inl _) =>
  some false
 | (.inr _) =>
  some true
def spec_l01Grain_enc (r : Bool) : AV := .bool r
theorem spec_l01Grain_ok (a1 : Ar 16 Int) (r : Bool) (h : spec_l01Grain a1 = some r) : Ev (fun k => CN k 92 [.agg (arC (cI .i8) 0 a1)] []) (fun p => rRes p.2 p.1 = spec_l01Grain_enc r) := by
 unfold spec_l01Grain at h
 obtain ⟨r52, hr53, h⟩ := bind_some h
 refine Ev.enter (F := fun k => f92 (CN k) k) (fun k => callN_eq rfl Try.func92 rfl rfl rfl (by decide +kernel) (f92_eq _ _)) (sq (Rg (kx (bxI rfl rfl ⟨rfl, rfl, by decide⟩) (kx (mvO rfl) (Rn (hN rfl hZ) fun e1 h3 => sN (sq (sq (Rg (kx (mvO rfl) (Rn (hA h3 (hV (.int .i64 0) rfl hZ)) fun e4 h6 h7 => sN (bl ?_)))))))))))
 clear h3
 rcases r52 with _ | _
 ·refine Ev.loop (RS := spec_l01Grain_b1_RS a1) (RR := spec_l01Grain_b1_RR a1) (fun s r h e M hs => spec_l01Grain_b1_ok a1 s r h e M hs) hr53 ⟨h6, h7⟩ fun x e55 M56 hq54 => ?_
  obtain ⟨rfl, h57⟩ := hq54
  refine bR (sR ?_)
  cases h
  exact eR (resT h57 res0) rfl
 refine Ev.loop (RS := spec_l01Grain_b1_RS a1) (RR := spec_l01Grain_b1_RR a1) (fun s r h e M hs => spec_l01Grain_b1_ok a1 s r h e M hs) hr53 ⟨h6, h7⟩ fun x e58 M59 hq54 => ?_
 obtain ⟨rfl, _⟩ := hq54
 refine bE (sN (sq (Rg (kx (mvO rfl) (Rn (hV (.bool true) rfl hZ) fun e60 h62 => sN (xx ?_))))))
 cases h
 exact eR (resT h62 res0) rfl
/-! ### loop.example/g01263/spec.l01Notches (f91) -/
def spec_l01Notches_c2_Q (a1 : List Notch) (s1_1 : Int) (x34 : Notch) (i902_1 : Nat) (g : Bool) (q : Out) : Prop := q.1 = .nrm ∧ eget q.2.1 0 = .sl none (a1.map Notch.c) ∧ eget q.2.1 3 = .int .i64 s1_1 ∧ eget q.2.1 4 = .loc i902_1 1 0 0 ∧ eget q.2.1 32 = .bool g ∧ q.2.2[i902_1]? = some (.live ⟨.box, 115, 2, [[.int .i8 x34.Kind, .int .i16 x34.At]]⟩)
abbrev spec_l01Notches_b1_S := Int
abbrev spec_l01Notches_b1_R := Unit ⊕ Unit
def spec_l01Notches_b1_RS (a1 : List Notch) (s : spec_l01Notches_b1_S) (e : Env) (M : Mem) : Prop := eget e 0 = .sl none (a1.map Notch.c) ∧ eget e 3 = .int .i64 s
def spec_l01Notches_b1_RR (a1 : List Notch) (r : spec_l01Notches_b1_R) (x : Ex) (e : Env) (M : Mem) : Prop :=
  match r with
  | (.inl g) => x = .ret ∧ eget e 2 = .bool false
  | (.inr g) => x = .ext 0 ∧ True
noncomputable def spec_l01Notches_b1 (a1 : List Notch) : spec_l01Notches_b1_S → Option (spec_l01Notches_b1_S ⊕ spec_l01Notches_b1_R) := fun s1_1 =>
 if (decide (s1_1 < (a1.length : Int))) = true then
  (rd a1 s1_1).bind fun x34 =>
  ((spec_l01Kind (IntKind.i64.wrap x34.Kind)).bind fun r49 =>
  if r49 = true then
   if (decide (x34.At < 0)) = true then
    some true
   else
    (spec_l01Ends x34).bind fun r59 =>
    some (decide (r59 > 200))
  else
   some true).bind fun y74 =>
  if y74 = true then
   some (.inr (.inl ()))
  else
   if (decide (s1_1 > 0)) = true then
    (rd a1 (IntKind.i64.wrap (s1_1 - 1))).bind fun x85 =>
    if (decide (x34.Kind > x85.Kind)) = true then
     some (.inr (.inl ()))
    else
     (rd a1 (IntKind.i64.wrap (s1_1 - 1))).bind fun x96 =>
     (spec_l01Ends x96).bind fun r99 =>
     if (decide ((IntKind.i64.wrap x34.At) ≤ r99)) = true then
      some (.inr (.inl ()))
     else
      some (.inl (IntKind.i64.wrap (s1_1 + 1)))
   else
    some (.inl (IntKind.i64.wrap (s1_1 + 1)))
 else
  some (.inr (.inr ()))
theorem spec_l01Notches_b1_ok (a1 : List Notch) (s : spec_l01Notches_b1_S) (r : spec_l01Notches_b1_S ⊕ spec_l01Notches_b1_R) (h : spec_l01Notches_b1 a1 s = some r) (e : Env) (M : Mem) (hs : spec_l01Notches_b1_RS a1 s e M) : Ev (fun k => (f91_l4 (CN k) k (prune [0, 3] e) M).bind fun q => some q) (bQ (spec_l01Notches_b1_RS a1) (spec_l01Notches_b1_RR a1) r) := by
 revert h hs
 revert s
 intro s1_1 h hs
 unfold spec_l01Notches_b1 at h
 obtain ⟨h24, h26⟩ := hs
 generalize he23 : prune [0, 3] e = e22
 have h25 := envp he23.symm rfl h24
 have h27 := envp he23.symm rfl h26
 refine sq (sq (Rg (kx (mvO h27) (kx (mvO h25) (kx (lnS Try.underlying32 rfl) (kx (bLss rfl rfl) (Rn (hV (.sl none (a1.map Notch.c)) h25 (hV (.int .i64 s1_1) h27 (hN rfl hZ))) fun e28 h30 h31 h32 => sN ?_)))))))
 clear h25 h27
 rcases ite_some h with ⟨hb33, h⟩ | ⟨hb33, h⟩
 ·obtain ⟨x34, hx35, h⟩ := bind_some h
  refine cT h32 hb33 (xx (sN (sq (bl (sq (Rg (kx (mvO h30) (kx (mvO h31) (kx (ixS rfl rfl hx35 Notch.fl) (kx (ldPA rfl rfl rfl) (ku (alO zero115) fun M37 hM38 => ?_)))))))))))
  have o39 : M37[M.length]? = some (.live ⟨.box, 115, 2, [[.int .i8 0, .int .i16 0]]⟩) := push_new hM38
  refine kw (stO rfl rfl o39 rfl rfl ⟨rfl, ble rfl⟩ rfl rfl) fun M40 hM41 => ?_
  have o42 : M40[M.length]? = some (.live ⟨.box, 115, 2, [[.int .i8 x34.Kind, .int .i16 x34.At]]⟩) := set_same hM41 o39
  obtain ⟨r123, hr124, h⟩ := bind_some h
  refine Rn (hA h30 (hA h31 (hV (.loc M.length 1 0 0) rfl hZ))) fun e43 h45 h46 h47 => sN (sq (sq ?_))
  clear h30 h31 h32
  refine Ev.cut (Q1 := spec_l01Notches_c2_Q a1 s1_1 x34 M.length r123) (by
      have h := hr124
      obtain ⟨r49, hx48, h⟩ := bind_some h
      refine Rg (kx (faO h47 o42 rfl) (kx (ldO rfl o42 rfl rfl rfl) (kx (cvI rfl) (kc (cl (v := .bool r49) rfl (cns rfl rfl) rfl (spec_l01Kind_ok (IntKind.i64.wrap x34.Kind) _ hx48) nm) (kx (uNot rfl) (kx (mvO rfl) ?_))))))
      rcases ite_some h with ⟨hb50, h⟩ | ⟨hb50, h⟩
      ·refine kx (guF rfl (congrArg Bool.not hb50) (faO h47 o42 rfl)) (kx (guF rfl (congrArg Bool.not hb50) (ldO rfl o42 rfl rfl rfl)) (kx (guF rfl (congrArg Bool.not hb50) (bLss rfl rfl)) (kx (pkF rfl (congrArg Bool.not hb50) rfl) (kx (mvO rfl) ?_))))
       rcases ite_some h with ⟨hb51, h⟩ | ⟨hb51, h⟩
       ·refine kx (gsF rfl hb51) (kc (Ev.gsF rfl hb51) (kx (gsF rfl hb51) (kx (pkT rfl hb51 rfl) (Rn (hA h45 (hA h46 (hA h47 (hV (.bool true) rfl hZ)))) fun e52 h54 h55 h56 h57 => ?_))))
        clear h45 h46 h47
        cases h
        exact kd (show spec_l01Notches_c2_Q a1 s1_1 x34 M.length _ _ from ⟨rfl, h54, h55, h56, h57, o42⟩)
       obtain ⟨r59, hx58, h⟩ := bind_some h
       refine kx (guF rfl hb51 (ldOA h47 o42 rfl rfl (ble rfl) rfl)) (kc (Ev.guF rfl hb51 (cl (v := .int .i64 r59) rfl (cns rfl rfl) rfl (spec_l01Ends_ok x34 _ hx58) nm)) (kx (guF rfl hb51 (bGtr rfl rfl)) (kx (pkF rfl hb51 rfl) (Rn (hA h45 (hA h46 (hA h47 (hN rfl hZ)))) fun e60 h62 h63 h64 h65 => ?_))))
       clear h45 h46 h47
       cases h
       exact kd (show spec_l01Notches_c2_Q a1 s1_1 x34 M.length _ _ from ⟨rfl, h62, h63, h64, h65, o42⟩)
      refine kx (gsF rfl (congrArg Bool.not hb50)) (kx (gsF rfl (congrArg Bool.not hb50)) (kx (gsF rfl (congrArg Bool.not hb50)) (kx (pkT rfl (congrArg Bool.not hb50) rfl) (kx (mvO rfl) (kx (gsF rfl rfl) (kc (Ev.gsF rfl rfl) (kx (gsF rfl rfl) (kx (pkT rfl rfl rfl) (Rn (hA h45 (hA h46 (hA h47 (hV (.bool true) rfl hZ)))) fun e66 h68 h69 h70 h71 => ?_)))))))))
      clear h45 h46 h47
      cases h
      exact kd (show spec_l01Notches_c2_Q a1 s1_1 x34 M.length _ _ from ⟨rfl, h68, h69, h70, h71, o42⟩)) ?_
  revert h hr124
  revert r123
  intro y74 hr124 h
  intro x e72 M73 hq122
  obtain ⟨rfl, h75, h76, h77, h78, o79⟩ := hq122
  refine sN ?_
  rcases ite_some h with ⟨hb80, h⟩ | ⟨hb80, h⟩
  ·refine cT h78 hb80 (sq (Rg (kx (mvO rfl) (Rn (hV (.bool false) rfl hZ) fun e81 h83 => sN (xx (sR (bR (sR ?_))))))))
   clear h75 h76 h77 h78
   cases h
   exact qR ⟨rfl, h83⟩
  refine cF h78 hb80 (xx (sN (sq (Rd (kf (mvO h76) (kf (bGtr rfl rfl) (kf (mvO rfl) ?_)))))))
  rcases ite_some h with ⟨hb84, h⟩ | ⟨hb84, h⟩
  ·obtain ⟨x85, hx86, h⟩ := bind_some h
   refine kf (guT rfl hb84 (faO h77 o79 rfl)) (kf (guT rfl hb84 (ldO rfl o79 rfl rfl rfl)) (kf (guT rfl hb84 (mvO h75)) (kf (guT rfl hb84 (mvO h76)) (kf (guT rfl hb84 (bSub rfl rfl)) (kf (guT rfl hb84 (ixS rfl rfl hx86 Notch.fl)) (kf (guT rfl hb84 (faP rfl ⟨ble rfl, blt rfl⟩ rfl)) (kf (guT rfl hb84 (ldP rfl rfl)) (kf (guT rfl hb84 (bGtr rfl rfl)) (kf (guT rfl hb84 (mvO rfl)) ?_)))))))))
   rcases ite_some h with ⟨hb87, h⟩ | ⟨hb87, h⟩
   ·refine kf (gsF rfl hb87) (kf (gsF rfl hb87) (kf (gsF rfl hb87) (kf (gsF rfl hb87) (kf (gsF rfl hb87) (kf (gsF rfl hb87) (kf (gsF rfl hb87) (kf (gsF rfl hb87) (fc (Ev.gsF rfl hb87) (kf (gsF rfl hb87) (kf (guT rfl hb84 (pkT rfl hb87 rfl)) (kf (pkT rfl hb84 rfl) (fZ (Rn (hV (.sl none (a1.map Notch.c)) h75 (hV (.int .i64 s1_1) h76 (hV (.bool true) rfl hZ))) fun e88 h90 h91 h92 => sN (cT h92 rfl (sq (Rg (kx (mvO rfl) (Rn (hV (.bool false) rfl hZ) fun e93 h95 => sN (xx (bR (sR ?_)))))))))))))))))))))
    clear h75 h76 h77 h78 h90 h91 h92
    cases h
    exact qR ⟨rfl, h95⟩
   obtain ⟨x96, hx97, h⟩ := bind_some h
   obtain ⟨r99, hx98, h⟩ := bind_some h
   refine kf (guF rfl hb87 (faO h77 o79 rfl)) (kf (guF rfl hb87 (ldO rfl o79 rfl rfl rfl)) (kf (guF rfl hb87 (cvI rfl)) (kf (guF rfl hb87 (mvO h75)) (kf (guF rfl hb87 (mvO h76)) (kf (guF rfl hb87 (bSub rfl rfl)) (kf (guF rfl hb87 (ixS rfl rfl hx97 Notch.fl)) (kf (guF rfl hb87 (ldPA rfl rfl rfl)) (fc (Ev.guF rfl hb87 (cl (v := .int .i64 r99) rfl (cns rfl rfl) rfl (spec_l01Ends_ok x96 _ hx98) nm)) (kf (guF rfl hb87 (bLeq rfl rfl)) (kf (guT rfl hb84 (pkF rfl hb87 rfl)) (kf (pkT rfl hb84 rfl) (fZ (Rn (hV (.sl none (a1.map Notch.c)) h75 (hV (.int .i64 s1_1) h76 (hN rfl hZ))) fun e100 h102 h103 h104 => sN ?_)))))))))))))
   clear h75 h76 h77 h78
   rcases ite_some h with ⟨hb105, h⟩ | ⟨hb105, h⟩
   ·refine cT h104 hb105 (sq (Rg (kx (mvO rfl) (Rn (hV (.bool false) rfl hZ) fun e106 h108 => sN (xx (bR (sR ?_)))))))
    clear h102 h103 h104
    cases h
    exact qR ⟨rfl, h108⟩
   refine cF h104 hb105 (xx (bN (sN (Rg (kx (mvO h103) (kx (bAdd rfl rfl) (kx (mvO rfl) (Rn (hA h102 (hN rfl hZ)) fun e109 h111 h112 => ?_))))))))
   clear h102 h104
   cases h
   exact qN ⟨h111, h112⟩
  refine kf (gsT rfl hb84) (kf (gsT rfl hb84) (kf (gsT rfl hb84) (kf (gsT rfl hb84) (kf (gsT rfl hb84) (kf (gsT rfl hb84) (kf (gsT rfl hb84) (kf (gsT rfl hb84) (kf (gsT rfl hb84) (kf (gsT rfl hb84) (kf (gsU rfl) (kf (gsU rfl) (kf (gsU rfl) (kf (gsU rfl) (kf (gsU rfl) (kf (gsU rfl) (kf (gsU rfl) (kf (gsU rfl) (fc (Ev.gsU rfl) (kf (gsU rfl) (kf (gsT rfl hb84) (kf (pkF rfl hb84 rfl) (fZ (Rn (hV (.sl none (a1.map Notch.c)) h75 (hV (.int .i64 s1_1) h76 (hV (.bool false) rfl hZ))) fun e113 h115 h116 h117 => sN (cF h117 rfl (xx (bN (sN (Rg (kx (mvO h116) (kx (bAdd rfl rfl) (kx (mvO rfl) (Rn (hA h115 (hN rfl hZ)) fun e118 h120 h121 => ?_))))))))))))))))))))))))))))))))
  clear h75 h76 h77 h78 h115 h117
  cases h
  exact qN ⟨h120, h121⟩
 refine cF h32 hb33 (xx (sE ?_))
 cases h
 exact qE ⟨rfl, trivial⟩
noncomputable def spec_l01Notches (a1 : List Notch) : Option Bool :=
 if (decide ((a1.length : Int) > 60)) = true then
  some false
 else
  (Lw (spec_l01Notches_b1 a1) 0).bind fun r => match r with
  | (.inl _) =>
   some false
  | (.inr _) =>
   some true
def spec_l01Notches_enc (r : Bool) : AV := .bool r
theorem spec_l01Notches_ok (a1 : List Notch) (r : Bool) (h : spec_l01Notches a1 = some r) : Ev (fun k => CN k 91 [.sl none (a1.map Notch.c)] []) (fun p => rRes p.2 p.1 = spec_l01Notches_enc r) := by
 unfold spec_l01Notches at h
 refine Ev.enter (F := fun k => f91 (CN k) k) (fun k => callN_eq rfl Try.func91 rfl rfl rfl (by decide +kernel) (f91_eq _ _)) (sq (Rg (kx (mvO rfl) (Rn (hN rfl hZ) fun e1 h3 => sN (sq (sq (Rg (kx (mvO h3) (kx (lnS Try.underlying32 rfl) (kx (bGtr rfl rfl) (Rn (hA h3 (hN rfl hZ)) fun e4 h6 h7 => sN ?_)))))))))))
 clear h3
 rcases ite_some h with ⟨hb8, h⟩ | ⟨hb8, h⟩
 ·refine cT h7 hb8 (sq (Rg (kx (mvO rfl) (Rn (hV (.bool false) rfl hZ) fun e9 h11 => sN (xx (sR ?_))))))
  clear h6 h7
  cases h
  exact eR (resT h11 res0) rfl
 obtain ⟨r125, hr126, h⟩ := bind_some h
 refine cF h7 hb8 (xx (sN (sq (sq (Rg (kx (mvO rfl) (Rn (hA h6 (hV (.int .i64 0) rfl hZ)) fun e12 h14 h15 => sN (bl ?_))))))))
 clear h6 h7
 rcases r125 with _ | _
 ·refine Ev.loop (RS := spec_l01Notches_b1_RS a1) (RR := spec_l01Notches_b1_RR a1) (fun s r h e M hs => spec_l01Notches_b1_ok a1 s r h e M hs) hr126 ⟨h14, h15⟩ fun x e128 M129 hq127 => ?_
  obtain ⟨rfl, h130⟩ := hq127
  refine bR (sR ?_)
  cases h
  exact eR (resT h130 res0) rfl
 refine Ev.loop (RS := spec_l01Notches_b1_RS a1) (RR := spec_l01Notches_b1_RR a1) (fun s r h e M hs => spec_l01Notches_b1_ok a1 s r h e M hs) hr126 ⟨h14, h15⟩ fun x e131 M132 hq127 => ?_
 obtain ⟨rfl, _⟩ := hq127
 refine bE (sN (sq (Rg (kx (mvO rfl) (Rn (hV (.bool true) rfl hZ) fun e133 h135 => sN (xx ?_))))))
 cases h
 exact eR (resT h135 res0) rfl
/-! ### loop.example/g01263/laws.eqNotch (f90) -/
noncomputable def laws_eqNotch (a1 : Notch) (a2 : Notch) : Option Bool :=
 if (a1.Kind != a2.Kind) = true then
  some false
 else
  if (a1.At != a2.At) = true then
   some false
  else
   some true
def laws_eqNotch_enc (r : Bool) : AV := .bool r
theorem laws_eqNotch_ok (a1 : Notch) (a2 : Notch) (r : Bool) (h : laws_eqNotch a1 a2 = some r) : Ev (fun k => CN k 90 [.agg [.int .i8 a1.Kind, .int .i16 a1.At], .agg [.int .i8 a2.Kind, .int .i16 a2.At]] []) (fun p => rRes p.2 p.1 = laws_eqNotch_enc r) := by
 unfold laws_eqNotch at h
 refine Ev.enter (F := fun k => f90 (CN k) k) (fun k => callN_eq rfl Try.func90 rfl rfl rfl (by decide +kernel) (f90_eq _ _)) (sq (Rg (kx (bxI rfl rfl ⟨rfl, rfl, by decide⟩) (kx (bxI rfl rfl ⟨rfl, rfl, by decide⟩) (kx (mvO rfl) (Rn (hN rfl (hN rfl hZ)) fun e1 h3 h4 => sN (sq (sq (Rg (kx (faP h3 ⟨ble rfl, blt rfl⟩ rfl) (kx (ldP rfl rfl) (kx (faP h4 ⟨ble rfl, blt rfl⟩ rfl) (kx (ldP rfl rfl) (kx (bNeq rfl rfl) (Rn (hA h3 (hA h4 (hN rfl hZ))) fun e5 h7 h8 h9 => sN ?_)))))))))))))))
 clear h3 h4
 rcases ite_some h with ⟨hb10, h⟩ | ⟨hb10, h⟩
 ·refine cT h9 hb10 (sq (Rg (kx (mvO rfl) (Rn (hV (.bool false) rfl hZ) fun e11 h13 => sN (xx (sR ?_))))))
  clear h7 h8 h9
  cases h
  exact eR (resT h13 res0) rfl
 refine cF h9 hb10 (xx (sN (sq (sq (Rg (kx (faP h7 ⟨ble rfl, blt rfl⟩ rfl) (kx (ldP rfl rfl) (kx (faP h8 ⟨ble rfl, blt rfl⟩ rfl) (kx (ldP rfl rfl) (kx (bNeq rfl rfl) (Rn (hN rfl hZ) fun e14 h16 => sN ?_)))))))))))
 clear h7 h8 h9
 rcases ite_some h with ⟨hb17, h⟩ | ⟨hb17, h⟩
 ·refine cT h16 hb17 (sq (Rg (kx (mvO rfl) (Rn (hV (.bool false) rfl hZ) fun e18 h20 => sN (xx (sR ?_))))))
  clear h16
  cases h
  exact eR (resT h20 res0) rfl
 refine cF h16 hb17 (xx (sN (sq (Rg (kx (mvO rfl) (Rn (hV (.bool true) rfl hZ) fun e21 h23 => sN (xx ?_)))))))
 clear h16
 cases h
 exact eR (resT h23 res0) rfl
/-! ### loop.example/g01263/laws.toNotch (f89) -/
noncomputable def laws_toNotch (a1 : Notch) : Option (Int × Int) :=
 some (a1.Kind, a1.At)
def laws_toNotch_enc (r : Int × Int) : AV := .agg [.int .i8 r.1, .int .i16 r.2]
theorem laws_toNotch_ok (a1 : Notch) (r : Int × Int) (h : laws_toNotch a1 = some r) : Ev (fun k => CN k 89 [.agg [.int .i8 a1.Kind, .int .i16 a1.At]] []) (fun p => rRes p.2 p.1 = laws_toNotch_enc r) := by
 unfold laws_toNotch at h
 refine Ev.enter (F := fun k => f89 (CN k) k) (fun k => callN_eq rfl Try.func89 rfl rfl rfl (by decide +kernel) (f89_eq _ _)) (sq (Rg (kx (bxI rfl rfl ⟨rfl, rfl, by decide⟩) (ku (alO zero115) fun M2 hM3 => ?_))))
 have o4 : M2[([] : Mem).length]? = some (.live ⟨.box, 115, 2, [[.int .i8 0, .int .i16 0]]⟩) := push_new hM3
 refine Rn (hN rfl (hV (.loc ([] : Mem).length 1 0 0) rfl hZ)) fun e5 h7 h8 => sN (sq (Rg (ku (alO zero115) fun M10 hM11 => ?_)))
 have o12 := push_old hM11 o4
 have ne13 := ne_new o4
 have o14 : M10[M2.length]? = some (.live ⟨.box, 115, 2, [[.int .i8 0, .int .i16 0]]⟩) := push_new hM11
 refine Rn (hA h7 (hA h8 (hV (.loc M2.length 1 0 0) rfl hZ))) fun e15 h17 h18 h19 => sN (sq (Rg (kx (faP h17 ⟨ble rfl, blt rfl⟩ rfl) (kx (ldP rfl rfl) (kx (faO h19 o14 rfl) (kw (stO rfl rfl o14 rfl rfl ⟨rfl, ble rfl⟩ rfl rfl) fun M20 hM21 => ?_))))))
 clear h7 h8
 have o22 := set_ne hM21 ne13 o12
 have o23 : M20[M2.length]? = some (.live ⟨.box, 115, 2, [[.int .i8 a1.Kind, .int .i16 0]]⟩) := set_same hM21 o14
 refine Rn (hA h17 (hA h18 (hA h19 hZ))) fun e24 h26 h27 h28 => sN (sq (Rg (kx (faP h26 ⟨ble rfl, blt rfl⟩ rfl) (kx (ldP rfl rfl) (kx (faO h28 o23 rfl) (kw (stO rfl rfl o23 rfl rfl ⟨rfl, ble rfl⟩ rfl rfl) fun M29 hM30 => ?_))))))
 clear h17 h18 h19
 have o31 := set_ne hM30 ne13 o22
 have o32 : M29[M2.length]? = some (.live ⟨.box, 115, 2, [[.int .i8 a1.Kind, .int .i16 a1.At]]⟩) := set_same hM30 o23
 refine Rn (hA h27 (hA h28 hZ)) fun e33 h35 h36 => sN (sq (Rg (kx (ldOA h36 o32 rfl rfl (ble rfl) rfl) (kw (stO h35 rfl o31 rfl rfl ⟨rfl, ble rfl⟩ rfl rfl) fun M37 hM38 => ?_))))
 clear h26 h27 h28
 have o39 : M37[([] : Mem).length]? = some (.live ⟨.box, 115, 2, [[.int .i8 a1.Kind, .int .i16 a1.At]]⟩) := set_same hM38 o31
 have o40 := set_ne hM38 (Ne.symm ne13) o32
 refine Rn (hA h35 hZ) fun e41 h43 => sN (xx ?_)
 clear h35 h36
 cases h
 exact eR (resC (ag := true) (sz := 2) ⟨by kernel_rfl, by kernel_rfl, by kernel_rfl⟩ (ldOA h43 o39 rfl rfl (ble rfl) rfl) res0) rfl
/-! ### (loop.example/g01263/impl.Notch).end (f77) -/
noncomputable def impl_Notch_end (a1 : Notch) : Option Int :=
 (impl_width (IntKind.i64.wrap a1.Kind)).bind fun r5 =>
 some (IntKind.i64.wrap ((IntKind.i64.wrap a1.At) + r5))
def impl_Notch_end_enc (r : Int) : AV := .int .i64 r
theorem impl_Notch_end_ok (a1 : Notch) (r : Int) (h : impl_Notch_end a1 = some r) : Ev (fun k => CN k 77 [.agg [.int .i8 a1.Kind, .int .i16 a1.At]] []) (fun p => rRes p.2 p.1 = impl_Notch_end_enc r) := by
 unfold impl_Notch_end at h
 obtain ⟨r5, hx4, h⟩ := bind_some h
 refine Ev.enter (F := fun k => f77 (CN k) k) (fun k => callN_eq rfl Try.func77 rfl rfl rfl (by decide +kernel) (f77_eq _ _)) (sq (Rg (kx (bxI rfl rfl ⟨rfl, rfl, by decide⟩) (kx (mvO rfl) (Rn (hN rfl hZ) fun e1 h3 => sN (sq (Rd (kf (faP h3 ⟨ble rfl, blt rfl⟩ rfl) (kf (ldP rfl rfl) (kf (cvI rfl) (kf (faP h3 ⟨ble rfl, blt rfl⟩ rfl) (kf (ldP rfl rfl) (kf (cvI rfl) (fc (cl (v := .int .i64 r5) rfl (cns rfl rfl) rfl (impl_width_ok (IntKind.i64.wrap a1.Kind) _ hx4) nm) (kf (bAdd rfl rfl) (kf (mvO rfl) (fZ (Rn (hN rfl hZ) fun e6 h8 => sN (xx ?_)))))))))))))))))))
 clear h3
 cases h
 exact eR (resT h8 res0) rfl
/-! ### loop.example/g01263/impl.isKind (f76) -/
noncomputable def impl_isKind (a1 : Int) : Option Bool :=
 if (decide (a1 ≥ 0)) = true then
  some (decide (a1 ≤ 5))
 else
  some false
def impl_isKind_enc (r : Bool) : AV := .bool r
theorem impl_isKind_ok (a1 : Int) (r : Bool) (h : impl_isKind a1 = some r) : Ev (fun k => CN k 76 [.int .i64 a1] []) (fun p => rRes p.2 p.1 = impl_isKind_enc r) := by
 unfold impl_isKind at h
 refine Ev.enter (F := fun k => f76 (CN k) k) (fun k => callN_eq rfl Try.func76 rfl rfl rfl (by decide +kernel) (f76_eq _ _)) (sq (Rg (kx (mvO rfl) (Rn (hN rfl hZ) fun e1 h3 => sN (sq (Rg (kx (mvO h3) (kx (bGeq rfl rfl) (kx (mvO rfl) ?_)))))))))
 rcases ite_some h with ⟨hb4, h⟩ | ⟨hb4, h⟩
 ·refine kx (guT rfl hb4 (mvO h3)) (kx (guT rfl hb4 (bLeq rfl rfl)) (kx (pkT rfl hb4 rfl) (kx (mvO rfl) (Rn (hN rfl hZ) fun e5 h7 => sN (xx ?_)))))
  clear h3
  cases h
  exact eR (resT h7 res0) rfl
 refine kx (gsT rfl hb4) (kx (gsT rfl hb4) (kx (pkF rfl hb4 rfl) (kx (mvO rfl) (Rn (hV (.bool false) rfl hZ) fun e8 h10 => sN (xx ?_)))))
 clear h3
 cases h
 exact eR (resT h10 res0) rfl
/-! ### loop.example/g01263/impl.ValidGrain (f75) -/
abbrev impl_ValidGrain_b1_S := Int
abbrev impl_ValidGrain_b1_R := Unit ⊕ Unit
def impl_ValidGrain_b1_RS (a1 : Ar 16 Int) (s : impl_ValidGrain_b1_S) (e : Env) (M : Mem) : Prop := eget e 5 = .agg (arC (cI .i8) 0 a1) ∧ eget e 6 = .int .i64 s
def impl_ValidGrain_b1_RR (a1 : Ar 16 Int) (r : impl_ValidGrain_b1_R) (x : Ex) (e : Env) (M : Mem) : Prop :=
  match r with
  | (.inl g) => x = .ret ∧ eget e 2 = .bool false
  | (.inr g) => x = .ext 0 ∧ True
noncomputable def impl_ValidGrain_b1 (a1 : Ar 16 Int) : impl_ValidGrain_b1_S → Option (impl_ValidGrain_b1_S ⊕ impl_ValidGrain_b1_R) := fun s1_1 =>
 if (decide (s1_1 < 16)) = true then
  (rdA a1 s1_1).bind fun x26 =>
  if (decide (x26 < (-3))) = true then
   some (.inr (.inl ()))
  else
   if (decide (x26 > 3)) = true then
    some (.inr (.inl ()))
   else
    some (.inl (IntKind.i64.wrap (s1_1 + 1)))
 else
  some (.inr (.inr ()))
theorem impl_ValidGrain_b1_ok (a1 : Ar 16 Int) (s : impl_ValidGrain_b1_S) (r : impl_ValidGrain_b1_S ⊕ impl_ValidGrain_b1_R) (h : impl_ValidGrain_b1 a1 s = some r) (e : Env) (M : Mem) (hs : impl_ValidGrain_b1_RS a1 s e M) : Ev (fun k => (f75_l2 (CN k) k (prune [5, 6] e) M).bind fun q => some q) (bQ (impl_ValidGrain_b1_RS a1) (impl_ValidGrain_b1_RR a1) r) := by
 revert h hs
 revert s
 intro s1_1 h hs
 unfold impl_ValidGrain_b1 at h
 obtain ⟨h16, h18⟩ := hs
 generalize he15 : prune [5, 6] e = e14
 have h17 := envp he15.symm rfl h16
 have h19 := envp he15.symm rfl h18
 refine sq (Rg (kx (bLss h19 rfl) (Rn (hV (.agg (arC (cI .i8) 0 a1)) h17 (hV (.int .i64 s1_1) h19 (hN rfl hZ))) fun e20 h22 h23 h24 => sN (sq ?_))))
 clear h17 h19
 rcases ite_some h with ⟨hb25, h⟩ | ⟨hb25, h⟩
 ·obtain ⟨x26, hx27, h⟩ := bind_some h
  refine cT h24 hb25 (xx (sN (sq (bl (sq (Rg (kx (ixA1 (K := AV.int .i8) (c := (cI .i8)) (z := 0) (g := a1) h22 h23 hx27 (fun _ => rfl)) (kx (mvO rfl) (Rn (hN rfl (hA h22 (hA h23 hZ))) fun e28 h30 h31 h32 => sN (sq (Rg (kx (mvO h30) (kx (bLss rfl rfl) (kx (mvO rfl) ?_))))))))))))))
  clear h22 h23 h24
  rcases ite_some h with ⟨hb33, h⟩ | ⟨hb33, h⟩
  ·refine kx (gsF rfl hb33) (kx (gsF rfl hb33) (kx (pkT rfl hb33 rfl) (Rn (hA h31 (hA h32 (hV (.bool true) rfl hZ))) fun e34 h36 h37 h38 => sN (cT h38 rfl (sq (Rg (kx (mvO rfl) (Rn (hV (.bool false) rfl hZ) fun e39 h41 => sN (xx (bR (sR ?_)))))))))))
   clear h30 h31 h32 h36 h37 h38
   cases h
   exact qR ⟨rfl, h41⟩
  refine kx (guF rfl hb33 (mvO h30)) (kx (guF rfl hb33 (bGtr rfl rfl)) (kx (pkF rfl hb33 rfl) (Rn (hA h31 (hA h32 (hN rfl hZ))) fun e42 h44 h45 h46 => sN ?_)))
  clear h30 h31 h32
  rcases ite_some h with ⟨hb47, h⟩ | ⟨hb47, h⟩
  ·refine cT h46 hb47 (sq (Rg (kx (mvO rfl) (Rn (hV (.bool false) rfl hZ) fun e48 h50 => sN (xx (bR (sR ?_)))))))
   clear h44 h45 h46
   cases h
   exact qR ⟨rfl, h50⟩
  refine cF h46 hb47 (xx (bN (sN (Rg (kx (bAdd h45 rfl) (kx (mvO rfl) (Rn (hA h44 (hN rfl hZ)) fun e51 h53 h54 => ?_)))))))
  clear h44 h46
  cases h
  exact qN ⟨h53, h54⟩
 refine cF h24 hb25 (xx (sE ?_))
 cases h
 exact qE ⟨rfl, trivial⟩
noncomputable def impl_ValidGrain (a1 : Ar 16 Int) : Option Bool :=
 (Lw (impl_ValidGrain_b1 a1) 0).bind fun r => match r with
 | (.inl _) =>
  some false
 | (.inr _) =>
  some true
def impl_ValidGrain_enc (r : Bool) : AV := .bool r
theorem impl_ValidGrain_ok (a1 : Ar 16 Int) (r : Bool) (h : impl_ValidGrain a1 = some r) : Ev (fun k => CN k 75 [.agg (arC (cI .i8) 0 a1)] []) (fun p => rRes p.2 p.1 = impl_ValidGrain_enc r) := by
 unfold impl_ValidGrain at h
 obtain ⟨r55, hr56, h⟩ := bind_some h
 refine Ev.enter (F := fun k => f75 (CN k) k) (fun k => callN_eq rfl Try.func75 rfl rfl rfl (by decide +kernel) (f75_eq _ _)) (sq (Rg (kx (bxI rfl rfl ⟨rfl, rfl, by decide⟩) (kx (mvO rfl) (Rn (hN rfl hZ) fun e1 h3 => sN (sq (sq (Rg (kx (ldPA h3 rfl rfl) (kx (mvO rfl) (Rn (hN rfl (hV (.int .i64 0) rfl hZ)) fun e4 h6 h7 => sN (bl ?_))))))))))))
 clear h3
 rcases r55 with _ | _
 ·refine Ev.loop (RS := impl_ValidGrain_b1_RS a1) (RR := impl_ValidGrain_b1_RR a1) (fun s r h e M hs => impl_ValidGrain_b1_ok a1 s r h e M hs) hr56 ⟨h6, h7⟩ fun x e58 M59 hq57 => ?_
  obtain ⟨rfl, h60⟩ := hq57
  refine bR (sR ?_)
  cases h
  exact eR (resT h60 res0) rfl
 refine Ev.loop (RS := impl_ValidGrain_b1_RS a1) (RR := impl_ValidGrain_b1_RR a1) (fun s r h e M hs => impl_ValidGrain_b1_ok a1 s r h e M hs) hr56 ⟨h6, h7⟩ fun x e61 M62 hq57 => ?_
 obtain ⟨rfl, _⟩ := hq57
 refine bE (sN (sq (Rg (kx (mvO rfl) (Rn (hV (.bool true) rfl hZ) fun e63 h65 => sN (xx ?_))))))
 cases h
 exact eR (resT h65 res0) rfl
/-! ### loop.example/g01263/impl.isLetters (f74) -/
abbrev impl_isLetters_b1_S := Int
abbrev impl_isLetters_b1_R := Unit ⊕ Unit
def impl_isLetters_b1_RS (a1 : List UInt8) (a2 : Int) (s : impl_isLetters_b1_S) (e : Env) (M : Mem) : Prop := eget e 0 = .str a1 ∧ eget e 1 = .int .i64 a2 ∧ eget e 7 = .int .i64 (a1.length : Int) ∧ eget e 8 = .int .i64 s
def impl_isLetters_b1_RR (a1 : List UInt8) (a2 : Int) (r : impl_isLetters_b1_R) (x : Ex) (e : Env) (M : Mem) : Prop :=
  match r with
  | (.inl g) => x = .ret ∧ eget e 4 = .bool false
  | (.inr g) => x = .ext 0 ∧ eget e 0 = .str a1 ∧ eget e 1 = .int .i64 a2
noncomputable def impl_isLetters_b1 (a1 : List UInt8) : impl_isLetters_b1_S → Option (impl_isLetters_b1_S ⊕ impl_isLetters_b1_R) := fun s1_1 =>
 if (decide (s1_1 < (a1.length : Int))) = true then
  (rd a1 s1_1).bind fun x46 =>
  if (decide ((x46.toNat : Int) < 97)) = true then
   some (.inr (.inl ()))
  else
   (rd a1 s1_1).bind fun x59 =>
   if (decide ((x59.toNat : Int) > 122)) = true then
    some (.inr (.inl ()))
   else
    some (.inl (IntKind.i64.wrap (s1_1 + 1)))
 else
  some (.inr (.inr ()))
theorem impl_isLetters_b1_ok (a1 : List UInt8) (a2 : Int) (s : impl_isLetters_b1_S) (r : impl_isLetters_b1_S ⊕ impl_isLetters_b1_R) (h : impl_isLetters_b1 a1 s = some r) (e : Env) (M : Mem) (hs : impl_isLetters_b1_RS a1 a2 s e M) : Ev (fun k => (f74_l2 (CN k) k (prune [0, 1, 7, 8] e) M).bind fun q => some q) (bQ (impl_isLetters_b1_RS a1 a2) (impl_isLetters_b1_RR a1 a2) r) := by
 revert h hs
 revert s
 intro s1_1 h hs
 unfold impl_isLetters_b1 at h
 obtain ⟨h23, h25, h27, h29⟩ := hs
 generalize he22 : prune [0, 1, 7, 8] e = e21
 have h24 := envp he22.symm rfl h23
 have h26 := envp he22.symm rfl h25
 have h28 := envp he22.symm rfl h27
 have h30 := envp he22.symm rfl h29
 refine sq (Rg (kx (bLss h30 h28) (Rn (hV (.str a1) h24 (hV (.int .i64 a2) h26 (hV (.int .i64 (a1.length : Int)) h28 (hV (.int .i64 s1_1) h30 (hN rfl hZ))))) fun e31 h33 h34 h35 h36 h37 => sN (sq ?_))))
 clear h24 h26 h28 h30
 rcases ite_some h with ⟨hb38, h⟩ | ⟨hb38, h⟩
 ·obtain ⟨x46, hx47, h⟩ := bind_some h
  refine cT h37 hb38 (xx (sN (sq (bl (sq (Rg (kx (mvO h36) (kx (mvO rfl) (Rn (hA h33 (hA h34 (hN rfl (hA h35 (hA h36 hZ))))) fun e39 h41 h42 h43 h44 h45 => sN (sq (Rg (kx (mvO h41) (kx (mvO h43) (kx (ixB rfl rfl hx47) (kx (bLss rfl rfl) (kx (mvO rfl) ?_))))))))))))))))
  clear h33 h34 h35 h36 h37
  rcases ite_some h with ⟨hb48, h⟩ | ⟨hb48, h⟩
  ·refine kx (gsF rfl hb48) (kx (gsF rfl hb48) (kx (gsF rfl hb48) (kx (gsF rfl hb48) (kx (pkT rfl hb48 rfl) (Rn (hA h41 (hA h42 (hA h44 (hA h45 (hV (.bool true) rfl hZ))))) fun e49 h51 h52 h53 h54 h55 => sN (cT h55 rfl (sq (Rg (kx (mvO rfl) (Rn (hV (.bool false) rfl hZ) fun e56 h58 => sN (xx (bR (sR ?_)))))))))))))
   clear h41 h42 h43 h44 h45 h51 h52 h53 h54 h55
   cases h
   exact qR ⟨rfl, h58⟩
  obtain ⟨x59, hx60, h⟩ := bind_some h
  refine kx (guF rfl hb48 (mvO h41)) (kx (guF rfl hb48 (mvO h43)) (kx (guF rfl hb48 (ixB rfl rfl hx60)) (kx (guF rfl hb48 (bGtr rfl rfl)) (kx (pkF rfl hb48 rfl) (Rn (hA h41 (hA h42 (hA h44 (hA h45 (hN rfl hZ))))) fun e61 h63 h64 h65 h66 h67 => sN ?_)))))
  clear h41 h42 h43 h44 h45
  rcases ite_some h with ⟨hb68, h⟩ | ⟨hb68, h⟩
  ·refine cT h67 hb68 (sq (Rg (kx (mvO rfl) (Rn (hV (.bool false) rfl hZ) fun e69 h71 => sN (xx (bR (sR ?_)))))))
   clear h63 h64 h65 h66 h67
   cases h
   exact qR ⟨rfl, h71⟩
  refine cF h67 hb68 (xx (bN (sN (Rg (kx (bAdd h66 rfl) (kx (mvO rfl) (Rn (hA h63 (hA h64 (hA h65 (hN rfl hZ)))) fun e72 h74 h75 h76 h77 => ?_)))))))
  clear h63 h64 h65 h67
  cases h
  exact qN ⟨h74, h75, h76, h77⟩
 refine cF h37 hb38 (xx (sE ?_))
 cases h
 exact qE ⟨rfl, h33, h34⟩
noncomputable def impl_isLetters (a1 : List UInt8) (a2 : Int) : Option Bool :=
 (Lw (impl_isLetters_b1 a1) 0).bind fun r => match r with
 | (.inl _) =>
  some false
 | (.inr _) =>
  if (decide ((a1.length : Int) ≥ 1)) = true then
   some (decide ((a1.length : Int) ≤ a2))
  else
   some false
def impl_isLetters_enc (r : Bool) : AV := .bool r
theorem impl_isLetters_ok (a1 : List UInt8) (a2 : Int) (r : Bool) (h : impl_isLetters a1 a2 = some r) : Ev (fun k => CN k 74 [.str a1, .int .i64 a2] []) (fun p => rRes p.2 p.1 = impl_isLetters_enc r) := by
 unfold impl_isLetters at h
 obtain ⟨r78, hr79, h⟩ := bind_some h
 refine Ev.enter (F := fun k => f74 (CN k) k) (fun k => callN_eq rfl Try.func74 rfl rfl rfl (by decide +kernel) (f74_eq _ _)) (sq (Rg (kx (mvO rfl) (Rn (hN rfl (hN rfl hZ)) fun e1 h3 h4 => sN (sq (sq (Rg (kx (mvO h3) (kx (lnB Try.underlying9 rfl) (kx (mvO rfl) (Rn (hA h3 (hA h4 (hN rfl (hV (.int .i64 0) rfl hZ)))) fun e5 h7 h8 h9 h10 => sN (bl ?_))))))))))))
 clear h3 h4
 rcases r78 with _ | _
 ·refine Ev.loop (RS := impl_isLetters_b1_RS a1 a2) (RR := impl_isLetters_b1_RR a1 a2) (fun s r h e M hs => impl_isLetters_b1_ok a1 a2 s r h e M hs) hr79 ⟨h7, h8, h9, h10⟩ fun x e81 M82 hq80 => ?_
  obtain ⟨rfl, h83⟩ := hq80
  refine bR (sR ?_)
  cases h
  exact eR (resT h83 res0) rfl
 refine Ev.loop (RS := impl_isLetters_b1_RS a1 a2) (RR := impl_isLetters_b1_RR a1 a2) (fun s r h e M hs => impl_isLetters_b1_ok a1 a2 s r h e M hs) hr79 ⟨h7, h8, h9, h10⟩ fun x e84 M85 hq80 => ?_
 obtain ⟨rfl, h86, h87⟩ := hq80
 refine bE (sN (sq (Rg (kx (mvO h86) (kx (lnB Try.underlying9 rfl) (kx (bGeq rfl rfl) (kx (mvO rfl) ?_)))))))
 rcases ite_some h with ⟨hb88, h⟩ | ⟨hb88, h⟩
 ·refine kx (guT rfl hb88 (mvO h86)) (kx (guT rfl hb88 (lnB Try.underlying9 rfl)) (kx (guT rfl hb88 (mvO h87)) (kx (guT rfl hb88 (bLeq rfl rfl)) (kx (pkT rfl hb88 rfl) (kx (mvO rfl) (Rn (hN rfl hZ) fun e89 h91 => sN (xx ?_)))))))
  clear h86 h87
  cases h
  exact eR (resT h91 res0) rfl
 refine kx (gsT rfl hb88) (kx (gsT rfl hb88) (kx (gsT rfl hb88) (kx (gsT rfl hb88) (kx (pkF rfl hb88 rfl) (kx (mvO rfl) (Rn (hV (.bool false) rfl hZ) fun e92 h94 => sN (xx ?_)))))))
 clear h86 h87
 cases h
 exact eR (resT h94 res0) rfl
/-! ### loop.example/g01263/spec.l01Ok (f72) -/
noncomputable def spec_l01Ok (a1 : Half) : Option Bool :=
 (spec_l01Notches a1.Notches).bind fun r5 =>
 if r5 = true then
  (spec_l01Grain a1.Grain).bind fun r8 =>
  some r8
 else
  some false
def spec_l01Ok_enc (r : Bool) : AV := .bool r
theorem spec_l01Ok_ok (a1 : Half) (r : Bool) (h : spec_l01Ok a1 = some r) : Ev (fun k => CN k 72 [.pt none (.bool a1.Stock :: (.sl none (a1.Notches.map Notch.c) :: ((arC (cI .i8) 0 a1.Grain) ++ ([] : List AV))))] []) (fun p => rRes p.2 p.1 = spec_l01Ok_enc r) := by
 unfold spec_l01Ok at h
 obtain ⟨r5, hx4, h⟩ := bind_some h
 refine Ev.enter (F := fun k => f72 (CN k) k) (fun k => callN_eq rfl Try.func72 rfl rfl rfl (by decide +kernel) (f72_eq _ _)) (sq (Rg (kx (mvO rfl) (Rn (hN rfl hZ) fun e1 h3 => sN (sq (Rg (kx (mvO h3) (kx (ncP rfl) (kx (faP rfl ⟨ble rfl, blt rfl⟩ rfl) (kx (ldP rfl rfl) (kc (cl (v := .bool r5) rfl (cns rfl rfl) rfl (spec_l01Notches_ok a1.Notches _ hx4) nm) (kx (mvO rfl) ?_))))))))))))
 rcases ite_some h with ⟨hb6, h⟩ | ⟨hb6, h⟩
 ·obtain ⟨r8, hx7, h⟩ := bind_some h
  refine kx (guT rfl hb6 (mvO h3)) (kx (guT rfl hb6 (ncP rfl)) (kx (guT rfl hb6 (faP rfl ⟨ble rfl, blt rfl⟩ rfl)) (kx (guT rfl hb6 (ldPA rfl rfl rfl)) (kc (Ev.guT rfl hb6 (cl (v := .bool r8) rfl (cns rfl rfl) rfl (spec_l01Grain_ok a1.Grain _ hx7) nm)) (kx (pkT rfl hb6 rfl) (kx (mvO rfl) (Rn (hN rfl hZ) fun e9 h11 => sN (xx ?_))))))))
  clear h3
  cases h
  exact eR (resT h11 res0) rfl
 refine kx (gsT rfl hb6) (kx (gsT rfl hb6) (kx (gsT rfl hb6) (kx (gsT rfl hb6) (kc (Ev.gsT rfl hb6) (kx (pkF rfl hb6 rfl) (kx (mvO rfl) (Rn (hV (.bool false) rfl hZ) fun e12 h14 => sN (xx ?_))))))))
 clear h3
 cases h
 exact eR (resT h14 res0) rfl
/-! ### loop.example/g01263/spec.l06Name (f71) -/
abbrev spec_l06Name_b1_S := Int
abbrev spec_l06Name_b1_R := Unit ⊕ Unit
def spec_l06Name_b1_RS (a1 : List UInt8) (s : spec_l06Name_b1_S) (e : Env) (M : Mem) : Prop := eget e 0 = .str a1 ∧ eget e 3 = .int .i64 s
def spec_l06Name_b1_RR (a1 : List UInt8) (r : spec_l06Name_b1_R) (x : Ex) (e : Env) (M : Mem) : Prop :=
  match r with
  | (.inl g) => x = .ret ∧ eget e 2 = .bool false
  | (.inr g) => x = .ext 0 ∧ eget e 0 = .str a1
noncomputable def spec_l06Name_b1 (a1 : List UInt8) : spec_l06Name_b1_S → Option (spec_l06Name_b1_S ⊕ spec_l06Name_b1_R) := fun s1_1 =>
 if (decide (s1_1 < (a1.length : Int))) = true then
  (rd a1 s1_1).bind fun x26 =>
  if (decide ((x26.toNat : Int) < 97)) = true then
   some (.inr (.inl ()))
  else
   (rd a1 s1_1).bind fun x37 =>
   if (decide ((x37.toNat : Int) > 122)) = true then
    some (.inr (.inl ()))
   else
    some (.inl (IntKind.i64.wrap (s1_1 + 1)))
 else
  some (.inr (.inr ()))
theorem spec_l06Name_b1_ok (a1 : List UInt8) (s : spec_l06Name_b1_S) (r : spec_l06Name_b1_S ⊕ spec_l06Name_b1_R) (h : spec_l06Name_b1 a1 s = some r) (e : Env) (M : Mem) (hs : spec_l06Name_b1_RS a1 s e M) : Ev (fun k => (f71_l2 (CN k) k (prune [0, 3] e) M).bind fun q => some q) (bQ (spec_l06Name_b1_RS a1) (spec_l06Name_b1_RR a1) r) := by
 revert h hs
 revert s
 intro s1_1 h hs
 unfold spec_l06Name_b1 at h
 obtain ⟨h16, h18⟩ := hs
 generalize he15 : prune [0, 3] e = e14
 have h17 := envp he15.symm rfl h16
 have h19 := envp he15.symm rfl h18
 refine sq (sq (Rg (kx (mvO h19) (kx (mvO h17) (kx (lnB Try.underlying9 rfl) (kx (bLss rfl rfl) (Rn (hV (.str a1) h17 (hV (.int .i64 s1_1) h19 (hN rfl hZ))) fun e20 h22 h23 h24 => sN ?_)))))))
 clear h17 h19
 rcases ite_some h with ⟨hb25, h⟩ | ⟨hb25, h⟩
 ·obtain ⟨x26, hx27, h⟩ := bind_some h
  refine cT h24 hb25 (xx (sN (sq (bl (sq (Rg (kx (mvO h22) (kx (mvO h23) (kx (ixB rfl rfl hx27) (kx (bLss rfl rfl) (kx (mvO rfl) ?_)))))))))))
  rcases ite_some h with ⟨hb28, h⟩ | ⟨hb28, h⟩
  ·refine kx (gsF rfl hb28) (kx (gsF rfl hb28) (kx (gsF rfl hb28) (kx (gsF rfl hb28) (kx (pkT rfl hb28 rfl) (Rn (hA h22 (hA h23 (hV (.bool true) rfl hZ))) fun e29 h31 h32 h33 => sN (cT h33 rfl (sq (Rg (kx (mvO rfl) (Rn (hV (.bool false) rfl hZ) fun e34 h36 => sN (xx (bR (sR ?_)))))))))))))
   clear h22 h23 h24 h31 h32 h33
   cases h
   exact qR ⟨rfl, h36⟩
  obtain ⟨x37, hx38, h⟩ := bind_some h
  refine kx (guF rfl hb28 (mvO h22)) (kx (guF rfl hb28 (mvO h23)) (kx (guF rfl hb28 (ixB rfl rfl hx38)) (kx (guF rfl hb28 (bGtr rfl rfl)) (kx (pkF rfl hb28 rfl) (Rn (hA h22 (hA h23 (hN rfl hZ))) fun e39 h41 h42 h43 => sN ?_)))))
  clear h22 h23 h24
  rcases ite_some h with ⟨hb44, h⟩ | ⟨hb44, h⟩
  ·refine cT h43 hb44 (sq (Rg (kx (mvO rfl) (Rn (hV (.bool false) rfl hZ) fun e45 h47 => sN (xx (bR (sR ?_)))))))
   clear h41 h42 h43
   cases h
   exact qR ⟨rfl, h47⟩
  refine cF h43 hb44 (xx (bN (sN (Rg (kx (mvO h42) (kx (bAdd rfl rfl) (kx (mvO rfl) (Rn (hA h41 (hN rfl hZ)) fun e48 h50 h51 => ?_))))))))
  clear h41 h43
  cases h
  exact qN ⟨h50, h51⟩
 refine cF h24 hb25 (xx (sE ?_))
 cases h
 exact qE ⟨rfl, h22⟩
noncomputable def spec_l06Name (a1 : List UInt8) : Option Bool :=
 (Lw (spec_l06Name_b1 a1) 0).bind fun r => match r with
 | (.inl _) =>
  some false
 | (.inr _) =>
  if (a1 == ([] : List UInt8)) = true then
   some false
  else
   some (decide ((a1.length : Int) ≤ 12))
def spec_l06Name_enc (r : Bool) : AV := .bool r
theorem spec_l06Name_ok (a1 : List UInt8) (r : Bool) (h : spec_l06Name a1 = some r) : Ev (fun k => CN k 71 [.str a1] []) (fun p => rRes p.2 p.1 = spec_l06Name_enc r) := by
 unfold spec_l06Name at h
 obtain ⟨r52, hr53, h⟩ := bind_some h
 refine Ev.enter (F := fun k => f71 (CN k) k) (fun k => callN_eq rfl Try.func71 rfl rfl rfl (by decide +kernel) (f71_eq _ _)) (sq (Rg (kx (mvO rfl) (Rn (hN rfl hZ) fun e1 h3 => sN (sq (sq (Rg (kx (mvO rfl) (Rn (hA h3 (hV (.int .i64 0) rfl hZ)) fun e4 h6 h7 => sN (bl ?_))))))))))
 clear h3
 rcases r52 with _ | _
 ·refine Ev.loop (RS := spec_l06Name_b1_RS a1) (RR := spec_l06Name_b1_RR a1) (fun s r h e M hs => spec_l06Name_b1_ok a1 s r h e M hs) hr53 ⟨h6, h7⟩ fun x e55 M56 hq54 => ?_
  obtain ⟨rfl, h57⟩ := hq54
  refine bR (sR ?_)
  cases h
  exact eR (resT h57 res0) rfl
 refine Ev.loop (RS := spec_l06Name_b1_RS a1) (RR := spec_l06Name_b1_RR a1) (fun s r h e M hs => spec_l06Name_b1_ok a1 s r h e M hs) hr53 ⟨h6, h7⟩ fun x e58 M59 hq54 => ?_
 obtain ⟨rfl, h60⟩ := hq54
 refine bE (sN (sq (Rg (kx (mvO h60) (kx (sNeq rfl rfl) (kx (mvO rfl) ?_))))))
 rcases ite_some h with ⟨hb61, h⟩ | ⟨hb61, h⟩
 ·refine kx (gsT rfl (congrArg Bool.not hb61)) (kx (gsT rfl (congrArg Bool.not hb61)) (kx (gsT rfl (congrArg Bool.not hb61)) (kx (pkF rfl (congrArg Bool.not hb61) rfl) (kx (mvO rfl) (Rn (hV (.bool false) rfl hZ) fun e62 h64 => sN (xx ?_))))))
  clear h60
  cases h
  exact eR (resT h64 res0) rfl
 refine kx (guT rfl (congrArg Bool.not hb61) (mvO h60)) (kx (guT rfl (congrArg Bool.not hb61) (lnB Try.underlying9 rfl)) (kx (guT rfl (congrArg Bool.not hb61) (bLeq rfl rfl)) (kx (pkT rfl (congrArg Bool.not hb61) rfl) (kx (mvO rfl) (Rn (hN rfl hZ) fun e65 h67 => sN (xx ?_))))))
 clear h60
 cases h
 exact eR (resT h67 res0) rfl
/-! ### loop.example/g01263/laws.eqMark (f70) -/
noncomputable def laws_eqMark (a1 : Mark) (a2 : Mark) : Option Bool :=
 if (a1.Holder == a2.Holder) = true then
  if (a1.Seal != a2.Seal) = true then
   some false
  else
   some true
 else
  some false
def laws_eqMark_enc (r : Bool) : AV := .bool r
theorem laws_eqMark_ok (a1 : Mark) (a2 : Mark) (r : Bool) (h : laws_eqMark a1 a2 = some r) : Ev (fun k => CN k 70 [.agg [.str a1.Holder, .int .u32 a1.Seal], .agg [.str a2.Holder, .int .u32 a2.Seal]] []) (fun p => rRes p.2 p.1 = laws_eqMark_enc r) := by
 unfold laws_eqMark at h
 refine Ev.enter (F := fun k => f70 (CN k) k) (fun k => callN_eq rfl Try.func70 rfl rfl rfl (by decide +kernel) (f70_eq _ _)) (sq (Rg (kx (bxI rfl rfl ⟨rfl, rfl, by decide⟩) (kx (bxI rfl rfl ⟨rfl, rfl, by decide⟩) (kx (mvO rfl) (Rn (hN rfl (hN rfl hZ)) fun e1 h3 h4 => sN (sq (sq (Rg (kx (faP h3 ⟨ble rfl, blt rfl⟩ rfl) (kx (ldP rfl rfl) (kx (faP h4 ⟨ble rfl, blt rfl⟩ rfl) (kx (ldP rfl rfl) (kx (sNeq rfl rfl) (Rn (hA h3 (hA h4 (hN rfl hZ))) fun e5 h7 h8 h9 => sN ?_)))))))))))))))
 clear h3 h4
 rcases ite_some h with ⟨hb10, h⟩ | ⟨hb10, h⟩
 ·refine cF h9 (congrArg Bool.not hb10) (xx (sN (sq (sq (Rg (kx (faP h7 ⟨ble rfl, blt rfl⟩ rfl) (kx (ldP rfl rfl) (kx (faP h8 ⟨ble rfl, blt rfl⟩ rfl) (kx (ldP rfl rfl) (kx (bNeq rfl rfl) (Rn (hN rfl hZ) fun e11 h13 => sN ?_)))))))))))
  clear h7 h8 h9
  rcases ite_some h with ⟨hb14, h⟩ | ⟨hb14, h⟩
  ·refine cT h13 hb14 (sq (Rg (kx (mvO rfl) (Rn (hV (.bool false) rfl hZ) fun e15 h17 => sN (xx (sR ?_))))))
   clear h13
   cases h
   exact eR (resT h17 res0) rfl
  refine cF h13 hb14 (xx (sN (sq (Rg (kx (mvO rfl) (Rn (hV (.bool true) rfl hZ) fun e18 h20 => sN (xx ?_)))))))
  clear h13
  cases h
  exact eR (resT h20 res0) rfl
 refine cT h9 (congrArg Bool.not hb10) (sq (Rg (kx (mvO rfl) (Rn (hV (.bool false) rfl hZ) fun e21 h23 => sN (xx (sR ?_))))))
 clear h7 h8 h9
 cases h
 exact eR (resT h23 res0) rfl
/-! ### loop.example/g01263/laws.eqGrain (f69) -/
abbrev laws_eqGrain_b1_S := Int
abbrev laws_eqGrain_b1_R := Unit ⊕ Unit
def laws_eqGrain_b1_RS (a1 : Ar 16 Int) (a2 : Ar 16 Int) (s : laws_eqGrain_b1_S) (e : Env) (M : Mem) : Prop := eget e 2 = .pt none (arC (cI .i8) 0 a1) ∧ eget e 3 = .pt none (arC (cI .i8) 0 a2) ∧ eget e 5 = .int .i64 s
def laws_eqGrain_b1_RR (a1 : Ar 16 Int) (a2 : Ar 16 Int) (r : laws_eqGrain_b1_R) (x : Ex) (e : Env) (M : Mem) : Prop :=
  match r with
  | (.inl g) => x = .ret ∧ eget e 4 = .bool false
  | (.inr g) => x = .ext 0 ∧ True
noncomputable def laws_eqGrain_b1 (a1 : Ar 16 Int) (a2 : Ar 16 Int) : laws_eqGrain_b1_S → Option (laws_eqGrain_b1_S ⊕ laws_eqGrain_b1_R) := fun s1_1 =>
 if (decide (s1_1 < 16)) = true then
  (rdA a1 s1_1).bind fun x33 =>
  (rdA a2 s1_1).bind fun x35 =>
  if (x33 != x35) = true then
   some (.inr (.inl ()))
  else
   some (.inl (IntKind.i64.wrap (s1_1 + 1)))
 else
  some (.inr (.inr ()))
theorem laws_eqGrain_b1_ok (a1 : Ar 16 Int) (a2 : Ar 16 Int) (s : laws_eqGrain_b1_S) (r : laws_eqGrain_b1_S ⊕ laws_eqGrain_b1_R) (h : laws_eqGrain_b1 a1 a2 s = some r) (e : Env) (M : Mem) (hs : laws_eqGrain_b1_RS a1 a2 s e M) : Ev (fun k => (f69_l2 (CN k) k (prune [2, 3, 5] e) M).bind fun q => some q) (bQ (laws_eqGrain_b1_RS a1 a2) (laws_eqGrain_b1_RR a1 a2) r) := by
 revert h hs
 revert s
 intro s1_1 h hs
 unfold laws_eqGrain_b1 at h
 obtain ⟨h20, h22, h24⟩ := hs
 generalize he19 : prune [2, 3, 5] e = e18
 have h21 := envp he19.symm rfl h20
 have h23 := envp he19.symm rfl h22
 have h25 := envp he19.symm rfl h24
 refine sq (sq (Rg (kx (mvO h25) (kx (bLss rfl rfl) (Rn (hV (.pt none (arC (cI .i8) 0 a1)) h21 (hV (.pt none (arC (cI .i8) 0 a2)) h23 (hV (.int .i64 s1_1) h25 (hN rfl hZ)))) fun e26 h28 h29 h30 h31 => sN ?_)))))
 clear h21 h23 h25
 rcases ite_some h with ⟨hb32, h⟩ | ⟨hb32, h⟩
 ·obtain ⟨x33, hx34, h⟩ := bind_some h
  obtain ⟨x35, hx36, h⟩ := bind_some h
  refine cT h31 hb32 (xx (sN (sq (bl (sq (Rd (kf (mvO h30) (kf (ixPA (c := (cI .i8)) (z := 0) (g := a1) h28 rfl hx34 (fun _ => rfl)) (kf (ldP rfl rfl) (kf (mvO h30) (kf (ixPA (c := (cI .i8)) (z := 0) (g := a2) h29 rfl hx36 (fun _ => rfl)) (kf (ldP rfl rfl) (kf (bNeq rfl rfl) (fZ (Rn (hA h28 (hA h29 (hA h30 (hN rfl hZ)))) fun e37 h39 h40 h41 h42 => sN ?_)))))))))))))))
  clear h28 h29 h30 h31
  rcases ite_some h with ⟨hb43, h⟩ | ⟨hb43, h⟩
  ·refine cT h42 hb43 (sq (Rg (kx (mvO rfl) (Rn (hV (.bool false) rfl hZ) fun e44 h46 => sN (xx (bR (sR ?_)))))))
   clear h39 h40 h41 h42
   cases h
   exact qR ⟨rfl, h46⟩
  refine cF h42 hb43 (xx (bN (sN (Rg (kx (mvO h41) (kx (bAdd rfl rfl) (kx (mvO rfl) (Rn (hA h39 (hA h40 (hN rfl hZ))) fun e47 h49 h50 h51 => ?_))))))))
  clear h39 h40 h42
  cases h
  exact qN ⟨h49, h50, h51⟩
 refine cF h31 hb32 (xx (sE ?_))
 cases h
 exact qE ⟨rfl, trivial⟩
noncomputable def laws_eqGrain (a1 : Ar 16 Int) (a2 : Ar 16 Int) : Option Bool :=
 (Lw (laws_eqGrain_b1 a1 a2) 0).bind fun r => match r with
 | (.inl _) =>
  some false
 | (.inr _) =>
  some true
def laws_eqGrain_enc (r : Bool) : AV := .bool r
theorem laws_eqGrain_ok (a1 : Ar 16 Int) (a2 : Ar 16 Int) (r : Bool) (h : laws_eqGrain a1 a2 = some r) : Ev (fun k => CN k 69 [.agg (arC (cI .i8) 0 a1), .agg (arC (cI .i8) 0 a2)] []) (fun p => rRes p.2 p.1 = laws_eqGrain_enc r) := by
 unfold laws_eqGrain at h
 obtain ⟨r52, hr53, h⟩ := bind_some h
 refine Ev.enter (F := fun k => f69 (CN k) k) (fun k => callN_eq rfl Try.func69 rfl rfl rfl (by decide +kernel) (f69_eq _ _)) (sq (Rg (kx (bxI rfl rfl ⟨rfl, rfl, by decide⟩) (kx (bxI rfl rfl ⟨rfl, rfl, by decide⟩) (kx (mvO rfl) (Rn (hN rfl (hN rfl hZ)) fun e1 h3 h4 => sN (sq (sq (Rg (kx (mvO rfl) (Rn (hA h3 (hA h4 (hV (.int .i64 0) rfl hZ))) fun e5 h7 h8 h9 => sN (bl ?_))))))))))))
 clear h3 h4
 rcases r52 with _ | _
 ·refine Ev.loop (RS := laws_eqGrain_b1_RS a1 a2) (RR := laws_eqGrain_b1_RR a1 a2) (fun s r h e M hs => laws_eqGrain_b1_ok a1 a2 s r h e M hs) hr53 ⟨h7, h8, h9⟩ fun x e55 M56 hq54 => ?_
  obtain ⟨rfl, h57⟩ := hq54
  refine bR (sR ?_)
  cases h
  exact eR (resT h57 res0) rfl
 refine Ev.loop (RS := laws_eqGrain_b1_RS a1 a2) (RR := laws_eqGrain_b1_RR a1 a2) (fun s r h e M hs => laws_eqGrain_b1_ok a1 a2 s r h e M hs) hr53 ⟨h7, h8, h9⟩ fun x e58 M59 hq54 => ?_
 obtain ⟨rfl, _⟩ := hq54
 refine bE (sN (sq (Rg (kx (mvO rfl) (Rn (hV (.bool true) rfl hZ) fun e60 h62 => sN (xx ?_))))))
 cases h
 exact eR (resT h62 res0) rfl
/-! ### loop.example/g01263/laws.eqNotchS (f68) -/
abbrev laws_eqNotchS_b1_S := Int
abbrev laws_eqNotchS_b1_R := Unit ⊕ Unit
def laws_eqNotchS_b1_RS (a1 : List Notch) (a2 : List Notch) (s : laws_eqNotchS_b1_S) (e : Env) (M : Mem) : Prop := eget e 0 = .sl none (a1.map Notch.c) ∧ eget e 1 = .sl none (a2.map Notch.c) ∧ eget e 5 = .int .i64 s
def laws_eqNotchS_b1_RR (a1 : List Notch) (a2 : List Notch) (r : laws_eqNotchS_b1_R) (x : Ex) (e : Env) (M : Mem) : Prop :=
  match r with
  | (.inl g) => x = .ret ∧ eget e 4 = .bool false
  | (.inr g) => x = .ext 0 ∧ True
noncomputable def laws_eqNotchS_b1 (a1 : List Notch) (a2 : List Notch) : laws_eqNotchS_b1_S → Option (laws_eqNotchS_b1_S ⊕ laws_eqNotchS_b1_R) := fun s1_1 =>
 if (decide (s1_1 < (a1.length : Int))) = true then
  (rd a1 s1_1).bind fun x42 =>
  (rd a2 s1_1).bind fun x44 =>
  (laws_eqNotch x42 x44).bind fun r47 =>
  if r47 = true then
   some (.inl (IntKind.i64.wrap (s1_1 + 1)))
  else
   some (.inr (.inl ()))
 else
  some (.inr (.inr ()))
theorem laws_eqNotchS_b1_ok (a1 : List Notch) (a2 : List Notch) (s : laws_eqNotchS_b1_S) (r : laws_eqNotchS_b1_S ⊕ laws_eqNotchS_b1_R) (h : laws_eqNotchS_b1 a1 a2 s = some r) (e : Env) (M : Mem) (hs : laws_eqNotchS_b1_RS a1 a2 s e M) : Ev (fun k => (f68_l4 (CN k) k (prune [0, 1, 5] e) M).bind fun q => some q) (bQ (laws_eqNotchS_b1_RS a1 a2) (laws_eqNotchS_b1_RR a1 a2) r) := by
 revert h hs
 revert s
 intro s1_1 h hs
 unfold laws_eqNotchS_b1 at h
 obtain ⟨h29, h31, h33⟩ := hs
 generalize he28 : prune [0, 1, 5] e = e27
 have h30 := envp he28.symm rfl h29
 have h32 := envp he28.symm rfl h31
 have h34 := envp he28.symm rfl h33
 refine sq (sq (Rg (kx (mvO h34) (kx (mvO h30) (kx (lnS Try.underlying32 rfl) (kx (bLss rfl rfl) (Rn (hV (.sl none (a1.map Notch.c)) h30 (hV (.sl none (a2.map Notch.c)) h32 (hV (.int .i64 s1_1) h34 (hN rfl hZ)))) fun e35 h37 h38 h39 h40 => sN ?_)))))))
 clear h30 h32 h34
 rcases ite_some h with ⟨hb41, h⟩ | ⟨hb41, h⟩
 ·obtain ⟨x42, hx43, h⟩ := bind_some h
  obtain ⟨x44, hx45, h⟩ := bind_some h
  obtain ⟨r47, hx46, h⟩ := bind_some h
  refine cT h40 hb41 (xx (sN (sq (bl (sq (Rd (kf (mvO h37) (kf (mvO h39) (kf (ixS rfl rfl hx43 Notch.fl) (kf (ldPA rfl rfl rfl) (kf (mvO h38) (kf (mvO h39) (kf (ixS rfl rfl hx45 Notch.fl) (kf (ldPA rfl rfl rfl) (fc (cl (v := .bool r47) rfl (cns rfl (cns rfl rfl)) rfl (laws_eqNotch_ok x42 x44 _ hx46) nm) (kf (uNot rfl) (fZ (Rn (hA h37 (hA h38 (hA h39 (hN rfl hZ)))) fun e48 h50 h51 h52 h53 => sN ?_))))))))))))))))))
  clear h37 h38 h39 h40
  rcases ite_some h with ⟨hb54, h⟩ | ⟨hb54, h⟩
  ·refine cF h53 (congrArg Bool.not hb54) (xx (bN (sN (Rg (kx (mvO h52) (kx (bAdd rfl rfl) (kx (mvO rfl) (Rn (hA h50 (hA h51 (hN rfl hZ))) fun e55 h57 h58 h59 => ?_))))))))
   clear h50 h51 h53
   cases h
   exact qN ⟨h57, h58, h59⟩
  refine cT h53 (congrArg Bool.not hb54) (sq (Rg (kx (mvO rfl) (Rn (hV (.bool false) rfl hZ) fun e60 h62 => sN (xx (bR (sR ?_)))))))
  clear h50 h51 h52 h53
  cases h
  exact qR ⟨rfl, h62⟩
 refine cF h40 hb41 (xx (sE ?_))
 cases h
 exact qE ⟨rfl, trivial⟩
noncomputable def laws_eqNotchS (a1 : List Notch) (a2 : List Notch) : Option Bool :=
 if ((a1.length : Int) != (a2.length : Int)) = true then
  some false
 else
  (Lw (laws_eqNotchS_b1 a1 a2) 0).bind fun r => match r with
  | (.inl _) =>
   some false
  | (.inr _) =>
   some true
def laws_eqNotchS_enc (r : Bool) : AV := .bool r
theorem laws_eqNotchS_ok (a1 : List Notch) (a2 : List Notch) (r : Bool) (h : laws_eqNotchS a1 a2 = some r) : Ev (fun k => CN k 68 [.sl none (a1.map Notch.c), .sl none (a2.map Notch.c)] []) (fun p => rRes p.2 p.1 = laws_eqNotchS_enc r) := by
 unfold laws_eqNotchS at h
 refine Ev.enter (F := fun k => f68 (CN k) k) (fun k => callN_eq rfl Try.func68 rfl rfl rfl (by decide +kernel) (f68_eq _ _)) (sq (Rg (kx (mvO rfl) (Rn (hN rfl (hN rfl hZ)) fun e1 h3 h4 => sN (sq (sq (Rg (kx (mvO h3) (kx (lnS Try.underlying32 rfl) (kx (mvO h4) (kx (lnS Try.underlying32 rfl) (kx (bNeq rfl rfl) (Rn (hA h3 (hA h4 (hN rfl hZ))) fun e5 h7 h8 h9 => sN ?_)))))))))))))
 clear h3 h4
 rcases ite_some h with ⟨hb10, h⟩ | ⟨hb10, h⟩
 ·refine cT h9 hb10 (sq (Rg (kx (mvO rfl) (Rn (hV (.bool false) rfl hZ) fun e11 h13 => sN (xx (sR ?_))))))
  clear h7 h8 h9
  cases h
  exact eR (resT h13 res0) rfl
 obtain ⟨r63, hr64, h⟩ := bind_some h
 refine cF h9 hb10 (xx (sN (sq (sq (Rg (kx (mvO rfl) (Rn (hA h7 (hA h8 (hV (.int .i64 0) rfl hZ))) fun e14 h16 h17 h18 => sN (bl ?_))))))))
 clear h7 h8 h9
 rcases r63 with _ | _
 ·refine Ev.loop (RS := laws_eqNotchS_b1_RS a1 a2) (RR := laws_eqNotchS_b1_RR a1 a2) (fun s r h e M hs => laws_eqNotchS_b1_ok a1 a2 s r h e M hs) hr64 ⟨h16, h17, h18⟩ fun x e66 M67 hq65 => ?_
  obtain ⟨rfl, h68⟩ := hq65
  refine bR (sR ?_)
  cases h
  exact eR (resT h68 res0) rfl
 refine Ev.loop (RS := laws_eqNotchS_b1_RS a1 a2) (RR := laws_eqNotchS_b1_RR a1 a2) (fun s r h e M hs => laws_eqNotchS_b1_ok a1 a2 s r h e M hs) hr64 ⟨h16, h17, h18⟩ fun x e69 M70 hq65 => ?_
 obtain ⟨rfl, _⟩ := hq65
 refine bE (sN (sq (Rg (kx (mvO rfl) (Rn (hV (.bool true) rfl hZ) fun e71 h73 => sN (xx ?_))))))
 cases h
 exact eR (resT h73 res0) rfl
/-! ### slices.Equal[[]loop.example/g01263/impl.Notch,loop.example/g01263/impl.Notch] (f67) -/
abbrev slices_Equal_Notch_b1_S := Int
abbrev slices_Equal_Notch_b1_R := Unit ⊕ Unit
def slices_Equal_Notch_b1_RS (a1 : List Notch) (a2 : List Notch) (s : slices_Equal_Notch_b1_S) (e : Env) (M : Mem) : Prop := eget e 0 = .sl none (a1.map Notch.c) ∧ eget e 1 = .sl none (a2.map Notch.c) ∧ eget e 12 = .int .i64 (a1.length : Int) ∧ eget e 13 = .int .i64 s
def slices_Equal_Notch_b1_RR (a1 : List Notch) (a2 : List Notch) (r : slices_Equal_Notch_b1_R) (x : Ex) (e : Env) (M : Mem) : Prop :=
  match r with
  | (.inl g) => x = .ret ∧ eget e 4 = .bool false
  | (.inr g) => x = .ext 0 ∧ True
noncomputable def slices_Equal_Notch_b1 (a1 : List Notch) (a2 : List Notch) : slices_Equal_Notch_b1_S → Option (slices_Equal_Notch_b1_S ⊕ slices_Equal_Notch_b1_R) := fun s1_1 =>
 if (decide (s1_1 < (a1.length : Int))) = true then
  (rd a1 s1_1).bind fun x55 =>
  (rd a2 s1_1).bind fun x57 =>
  if ((x55.Kind == x57.Kind) && ((x55.At == x57.At) && true)) = true then
   some (.inl (IntKind.i64.wrap (s1_1 + 1)))
  else
   some (.inr (.inl ()))
 else
  some (.inr (.inr ()))
theorem slices_Equal_Notch_b1_ok (a1 : List Notch) (a2 : List Notch) (s : slices_Equal_Notch_b1_S) (r : slices_Equal_Notch_b1_S ⊕ slices_Equal_Notch_b1_R) (h : slices_Equal_Notch_b1 a1 a2 s = some r) (e : Env) (M : Mem) (hs : slices_Equal_Notch_b1_RS a1 a2 s e M) : Ev (fun k => (f67_l4 (CN k) k (prune [0, 1, 12, 13] e) M).bind fun q => some q) (bQ (slices_Equal_Notch_b1_RS a1 a2) (slices_Equal_Notch_b1_RR a1 a2) r) := by
 revert h hs
 revert s
 intro s1_1 h hs
 unfold slices_Equal_Notch_b1 at h
 obtain ⟨h32, h34, h36, h38⟩ := hs
 generalize he31 : prune [0, 1, 12, 13] e = e30
 have h33 := envp he31.symm rfl h32
 have h35 := envp he31.symm rfl h34
 have h37 := envp he31.symm rfl h36
 have h39 := envp he31.symm rfl h38
 refine sq (Rg (kx (bLss h39 h37) (Rn (hV (.sl none (a1.map Notch.c)) h33 (hV (.sl none (a2.map Notch.c)) h35 (hV (.int .i64 (a1.length : Int)) h37 (hV (.int .i64 s1_1) h39 (hN rfl hZ))))) fun e40 h42 h43 h44 h45 h46 => sN (sq ?_))))
 clear h33 h35 h37 h39
 rcases ite_some h with ⟨hb47, h⟩ | ⟨hb47, h⟩
 ·obtain ⟨x55, hx56, h⟩ := bind_some h
  obtain ⟨x57, hx58, h⟩ := bind_some h
  refine cT h46 hb47 (xx (sN (sq (bl (sq (Rg (kx (mvO h45) (kx (mvO rfl) (Rn (hA h42 (hA h43 (hN rfl (hA h44 (hA h45 hZ))))) fun e48 h50 h51 h52 h53 h54 => sN (sq (Rd (kf (mvO h50) (kf (mvO h52) (kf (ixS rfl rfl hx56 Notch.fl) (kf (ldPA rfl rfl rfl) (kf (mvO h51) (kf (mvO h52) (kf (ixS rfl rfl hx58 Notch.fl) (kf (ldPA rfl rfl rfl) (kf (gNeq rfl rfl (by kernel_rfl) rfl) (fZ (Rn (hA h50 (hA h51 (hA h53 (hA h54 (hN rfl hZ))))) fun e59 h61 h62 h63 h64 h65 => sN ?_))))))))))))))))))))))
  clear h42 h43 h44 h45 h46 h50 h51 h52 h53 h54
  rcases ite_some h with ⟨hb66, h⟩ | ⟨hb66, h⟩
  ·refine cF h65 (congrArg Bool.not hb66) (xx (bN (sN (Rg (kx (bAdd h64 rfl) (kx (mvO rfl) (Rn (hA h61 (hA h62 (hA h63 (hN rfl hZ)))) fun e67 h69 h70 h71 h72 => ?_)))))))
   clear h61 h62 h63 h65
   cases h
   exact qN ⟨h69, h70, h71, h72⟩
  refine cT h65 (congrArg Bool.not hb66) (sq (Rg (kx (mvO rfl) (Rn (hV (.bool false) rfl hZ) fun e73 h75 => sN (xx (bR (sR ?_)))))))
  clear h61 h62 h63 h64 h65
  cases h
  exact qR ⟨rfl, h75⟩
 refine cF h46 hb47 (xx (sE ?_))
 cases h
 exact qE ⟨rfl, trivial⟩
noncomputable def slices_Equal_Notch (a1 : List Notch) (a2 : List Notch) : Option Bool :=
 if ((a1.length : Int) != (a2.length : Int)) = true then
  some false
 else
  (Lw (slices_Equal_Notch_b1 a1 a2) 0).bind fun r => match r with
  | (.inl _) =>
   some false
  | (.inr _) =>
   some true
def slices_Equal_Notch_enc (r : Bool) : AV := .bool r
theorem slices_Equal_Notch_ok (a1 : List Notch) (a2 : List Notch) (r : Bool) (h : slices_Equal_Notch a1 a2 = some r) : Ev (fun k => CN k 67 [.sl none (a1.map Notch.c), .sl none (a2.map Notch.c)] []) (fun p => rRes p.2 p.1 = slices_Equal_Notch_enc r) := by
 unfold slices_Equal_Notch at h
 refine Ev.enter (F := fun k => f67 (CN k) k) (fun k => callN_eq rfl Try.func67 rfl rfl rfl (by decide +kernel) (f67_eq _ _)) (sq (Rg (kx (mvO rfl) (Rn (hN rfl (hN rfl hZ)) fun e1 h3 h4 => sN (sq (sq (Rg (kx (mvO h3) (kx (lnS Try.underlying32 rfl) (kx (mvO h4) (kx (lnS Try.underlying32 rfl) (kx (bNeq rfl rfl) (Rn (hA h3 (hA h4 (hN rfl hZ))) fun e5 h7 h8 h9 => sN ?_)))))))))))))
 clear h3 h4
 rcases ite_some h with ⟨hb10, h⟩ | ⟨hb10, h⟩
 ·refine cT h9 hb10 (sq (Rg (kx (mvO rfl) (Rn (hV (.bool false) rfl hZ) fun e11 h13 => sN (xx (sR ?_))))))
  clear h7 h8 h9
  cases h
  exact eR (resT h13 res0) rfl
 obtain ⟨r76, hr77, h⟩ := bind_some h
 refine cF h9 hb10 (xx (sN (sq (sq (Rg (kx (mvO h7) (kx (lnS Try.underlying32 rfl) (kx (mvO rfl) (Rn (hA h7 (hA h8 (hN rfl (hV (.int .i64 0) rfl hZ)))) fun e14 h16 h17 h18 h19 => sN (bl ?_))))))))))
 clear h7 h8 h9
 rcases r76 with _ | _
 ·refine Ev.loop (RS := slices_Equal_Notch_b1_RS a1 a2) (RR := slices_Equal_Notch_b1_RR a1 a2) (fun s r h e M hs => slices_Equal_Notch_b1_ok a1 a2 s r h e M hs) hr77 ⟨h16, h17, h18, h19⟩ fun x e79 M80 hq78 => ?_
  obtain ⟨rfl, h81⟩ := hq78
  refine bR (sR ?_)
  cases h
  exact eR (resT h81 res0) rfl
 refine Ev.loop (RS := slices_Equal_Notch_b1_RS a1 a2) (RR := slices_Equal_Notch_b1_RR a1 a2) (fun s r h e M hs => slices_Equal_Notch_b1_ok a1 a2 s r h e M hs) hr77 ⟨h16, h17, h18, h19⟩ fun x e82 M83 hq78 => ?_
 obtain ⟨rfl, _⟩ := hq78
 refine bE (sN (sq (Rg (kx (mvO rfl) (Rn (hV (.bool true) rfl hZ) fun e84 h86 => sN (xx ?_))))))
 cases h
 exact eR (resT h86 res0) rfl
/-! ### loop.example/g01263/laws.toMark (f66) -/
noncomputable def laws_toMark (a1 : Mark) : Option ((List UInt8) × Int) :=
 some (a1.Holder, a1.Seal)
def laws_toMark_enc (r : (List UInt8) × Int) : AV := .agg [.str r.1, .int .u32 r.2]
theorem laws_toMark_ok (a1 : Mark) (r : (List UInt8) × Int) (h : laws_toMark a1 = some r) : Ev (fun k => CN k 66 [.agg [.str a1.Holder, .int .u32 a1.Seal]] []) (fun p => rRes p.2 p.1 = laws_toMark_enc r) := by
 unfold laws_toMark at h
 refine Ev.enter (F := fun k => f66 (CN k) k) (fun k => callN_eq rfl Try.func66 rfl rfl rfl (by decide +kernel) (f66_eq _ _)) (sq (Rg (kx (bxI rfl rfl ⟨rfl, rfl, by decide⟩) (ku (alO zero72) fun M2 hM3 => ?_))))
 have o4 : M2[([] : Mem).length]? = some (.live ⟨.box, 72, 2, [[.str ([] : List UInt8), .int .u32 0]]⟩) := push_new hM3
 refine Rn (hN rfl (hV (.loc ([] : Mem).length 1 0 0) rfl hZ)) fun e5 h7 h8 => sN (sq (Rg (ku (alO zero72) fun M10 hM11 => ?_)))
 have o12 := push_old hM11 o4
 have ne13 := ne_new o4
 have o14 : M10[M2.length]? = some (.live ⟨.box, 72, 2, [[.str ([] : List UInt8), .int .u32 0]]⟩) := push_new hM11
 refine Rn (hA h7 (hA h8 (hV (.loc M2.length 1 0 0) rfl hZ))) fun e15 h17 h18 h19 => sN (sq (Rg (kx (faP h17 ⟨ble rfl, blt rfl⟩ rfl) (kx (ldP rfl rfl) (kx (faO h19 o14 rfl) (kw (stO rfl rfl o14 rfl rfl ⟨rfl, ble rfl⟩ rfl rfl) fun M20 hM21 => ?_))))))
 clear h7 h8
 have o22 := set_ne hM21 ne13 o12
 have o23 : M20[M2.length]? = some (.live ⟨.box, 72, 2, [[.str a1.Holder, .int .u32 0]]⟩) := set_same hM21 o14
 refine Rn (hA h17 (hA h18 (hA h19 hZ))) fun e24 h26 h27 h28 => sN (sq (Rg (kx (faP h26 ⟨ble rfl, blt rfl⟩ rfl) (kx (ldP rfl rfl) (kx (faO h28 o23 rfl) (kw (stO rfl rfl o23 rfl rfl ⟨rfl, ble rfl⟩ rfl rfl) fun M29 hM30 => ?_))))))
 clear h17 h18 h19
 have o31 := set_ne hM30 ne13 o22
 have o32 : M29[M2.length]? = some (.live ⟨.box, 72, 2, [[.str a1.Holder, .int .u32 a1.Seal]]⟩) := set_same hM30 o23
 refine Rn (hA h27 (hA h28 hZ)) fun e33 h35 h36 => sN (sq (Rg (kx (ldOA h36 o32 rfl rfl (ble rfl) rfl) (kw (stO h35 rfl o31 rfl rfl ⟨rfl, ble rfl⟩ rfl rfl) fun M37 hM38 => ?_))))
 clear h26 h27 h28
 have o39 : M37[([] : Mem).length]? = some (.live ⟨.box, 72, 2, [[.str a1.Holder, .int .u32 a1.Seal]]⟩) := set_same hM38 o31
 have o40 := set_ne hM38 (Ne.symm ne13) o32
 refine Rn (hA h35 hZ) fun e41 h43 => sN (xx ?_)
 clear h35 h36
 cases h
 exact eR (resC (ag := true) (sz := 2) ⟨by kernel_rfl, by kernel_rfl, by kernel_rfl⟩ (ldOA h43 o39 rfl rfl (ble rfl) rfl) res0) rfl
/-! ### loop.example/g01263/laws.toGrain (f65) -/
abbrev laws_toGrain_b1_S := Int × (Ar 16 Int)
abbrev laws_toGrain_b1_R := (Ar 16 Int)
def laws_toGrain_b1_RS (a1 : Ar 16 Int) (i1_1 : Nat) (i1_2 : Nat) (s : laws_toGrain_b1_S) (e : Env) (M : Mem) : Prop := eget e 1 = .pt none (arC (cI .i8) 0 a1) ∧ eget e 2 = .loc i1_1 1 0 0 ∧ eget e 3 = .loc i1_2 1 0 0 ∧ eget e 4 = .int .i64 s.1 ∧ M[i1_1]? = some (.live ⟨.box, 33, 16, [(arC (cI .i8) 0 (Ar.rep 16 0))]⟩) ∧ M[i1_2]? = some (.live ⟨.box, 33, 16, [(arC (cI .i8) 0 s.2)]⟩)
def laws_toGrain_b1_RR (a1 : Ar 16 Int) (i1_1 : Nat) (i1_2 : Nat) (g : laws_toGrain_b1_R) (x : Ex) (e : Env) (M : Mem) : Prop := x = .ext 0 ∧ eget e 2 = .loc i1_1 1 0 0 ∧ eget e 3 = .loc i1_2 1 0 0 ∧ M[i1_1]? = some (.live ⟨.box, 33, 16, [(arC (cI .i8) 0 (Ar.rep 16 0))]⟩) ∧ M[i1_2]? = some (.live ⟨.box, 33, 16, [(arC (cI .i8) 0 g)]⟩)
noncomputable def laws_toGrain_b1 (a1 : Ar 16 Int) : laws_toGrain_b1_S → Option (laws_toGrain_b1_S ⊕ laws_toGrain_b1_R) := fun (s1_1, s1_2) =>
 if (decide (s1_1 < 16)) = true then
  (rdA a1 s1_1).bind fun x58 =>
  (rdA s1_2 s1_1).bind fun x60 =>
  some (.inl ((IntKind.i64.wrap (s1_1 + 1)), (s1_2.set s1_1.toNat x58)))
 else
  some (.inr s1_2)
theorem laws_toGrain_b1_ok (a1 : Ar 16 Int) (i1_1 : Nat) (i1_2 : Nat) (ne13 : i1_1 ≠ i1_2) (s : laws_toGrain_b1_S) (r : laws_toGrain_b1_S ⊕ laws_toGrain_b1_R) (h : laws_toGrain_b1 a1 s = some r) (e : Env) (M : Mem) (hs : laws_toGrain_b1_RS a1 i1_1 i1_2 s e M) : Ev (fun k => (f65_l3 (CN k) k (prune [1, 2, 3, 4] e) M).bind fun q => some q) (bQ (laws_toGrain_b1_RS a1 i1_1 i1_2) (laws_toGrain_b1_RR a1 i1_1 i1_2) r) := by
 obtain ⟨s1_1, s1_2⟩ := s
 unfold laws_toGrain_b1 at h
 obtain ⟨h40, h42, h44, h46, o48, o49⟩ := hs
 generalize he39 : prune [1, 2, 3, 4] e = e38
 have h41 := envp he39.symm rfl h40
 have h43 := envp he39.symm rfl h42
 have h45 := envp he39.symm rfl h44
 have h47 := envp he39.symm rfl h46
 refine sq (sq (Rg (kx (mvO h47) (kx (bLss rfl rfl) (Rn (hV (.pt none (arC (cI .i8) 0 a1)) h41 (hV (.loc i1_1 1 0 0) h43 (hV (.loc i1_2 1 0 0) h45 (hV (.int .i64 s1_1) h47 (hN rfl hZ))))) fun e50 h52 h53 h54 h55 h56 => sN ?_)))))
 clear h41 h43 h45 h47
 rcases ite_some h with ⟨hb57, h⟩ | ⟨hb57, h⟩
 ·obtain ⟨x58, hx59, h⟩ := bind_some h
  obtain ⟨x60, hx61, h⟩ := bind_some h
  refine cT h56 hb57 (xx (sN (sq (bl (Rg (kx (mvO h55) (kx (mvO h55) (kx (ixPA (c := (cI .i8)) (z := 0) (g := a1) h52 rfl hx59 (fun _ => rfl)) (kx (ldP rfl rfl) (kx (ixLA h54 o49 rfl rfl hx61) (kw (stLA (c := (cI .i8)) (z := 0) (g := s1_2) (pre := []) (post := []) (u' := x58) rfl rfl o49 rfl rfl rfl rfl (fun _ => rfl) rfl rfl hx61) fun M62 hM63 => ?_)))))))))))
  have o64 := set_ne hM63 ne13 o48
  have o65 : M62[i1_2]? = some (.live ⟨.box, 33, 16, [(arC (cI .i8) 0 (s1_2.set s1_1.toNat x58))]⟩) := set_same hM63 o49
  refine Rn (hA h52 (hA h53 (hA h54 (hA h55 hZ)))) fun e66 h68 h69 h70 h71 => bN (sN (Rg (kx (mvO h71) (kx (bAdd rfl rfl) (kx (mvO rfl) (Rn (hA h68 (hA h69 (hA h70 (hN rfl hZ)))) fun e72 h74 h75 h76 h77 => ?_))))))
  clear h52 h53 h54 h55 h56 h68 h69 h70
  cases h
  exact qN ⟨h74, h75, h76, h77, o64, o65⟩
 refine cF h56 hb57 (xx (sE ?_))
 cases h
 exact qE ⟨rfl, h53, h54, o48, o49⟩
noncomputable def laws_toGrain (a1 : Ar 16 Int) : Option ((Ar 16 Int)) :=
 (Lw (laws_toGrain_b1 a1) (0, (Ar.rep 16 0))).bind fun y83 =>
 some y83
def laws_toGrain_enc (r : (Ar 16 Int)) : AV := .agg (arC (cI .i8) 0 r)
theorem laws_toGrain_ok (a1 : Ar 16 Int) (r : (Ar 16 Int)) (h : laws_toGrain a1 = some r) : Ev (fun k => CN k 65 [.agg (arC (cI .i8) 0 a1)] []) (fun p => rRes p.2 p.1 = laws_toGrain_enc r) := by
 unfold laws_toGrain at h
 refine Ev.enter (F := fun k => f65 (CN k) k) (fun k => callN_eq rfl Try.func65 rfl rfl rfl (by decide +kernel) (f65_eq _ _)) (sq (Rg (kx (bxI rfl rfl ⟨rfl, rfl, by decide⟩) (ku (alO zero33) fun M2 hM3 => ?_))))
 have o4 : M2[([] : Mem).length]? = some (.live ⟨.box, 33, 16, [(arC (cI .i8) 0 (Ar.rep 16 0))]⟩) := push_new hM3
 refine Rn (hN rfl (hV (.loc ([] : Mem).length 1 0 0) rfl hZ)) fun e5 h7 h8 => sN (sq (Rg (ku (alO zero33) fun M10 hM11 => ?_)))
 have o12 := push_old hM11 o4
 have ne13 := ne_new o4
 have o14 : M10[M2.length]? = some (.live ⟨.box, 33, 16, [(arC (cI .i8) 0 (Ar.rep 16 0))]⟩) := push_new hM11
 obtain ⟨y83, hr79, h⟩ := bind_some h
 refine Rn (hA h7 (hA h8 (hV (.loc M2.length 1 0 0) rfl hZ))) fun e15 h17 h18 h19 => sN (sq (sq (Rg (kx (mvO rfl) (Rn (hA h17 (hA h18 (hA h19 (hV (.int .i64 0) rfl hZ)))) fun e20 h22 h23 h24 h25 => sN (bl (Ev.loop (RS := laws_toGrain_b1_RS a1 (([] : Mem).length) M2.length) (RR := laws_toGrain_b1_RR a1 (([] : Mem).length) M2.length) (fun s r h e M hs => laws_toGrain_b1_ok a1 (([] : Mem).length) M2.length ne13 s r h e M hs) hr79 ⟨h22, h23, h24, h25, o12, o14⟩ fun x e81 M82 hq80 => ?_)))))))
 clear h7 h8 h17 h18 h19
 obtain ⟨rfl, h84, h85, o86, o87⟩ := hq80
 refine bE (sN (sq (Rg (kx (ldOA h85 o87 rfl rfl (ble rfl) rfl) (kw (stO h84 rfl o86 rfl rfl ⟨rfl, ble rfl⟩ rfl rfl) fun M88 hM89 => ?_)))))
 have o90 : M88[([] : Mem).length]? = some (.live ⟨.box, 33, 16, [(arC (cI .i8) 0 y83)]⟩) := set_same hM89 o86
 have o91 := set_ne hM89 (Ne.symm ne13) o87
 refine Rn (hV (.loc ([] : Mem).length 1 0 0) h84 hZ) fun e92 h94 => sN (xx ?_)
 clear h84 h85
 cases h
 exact eR (resC (ag := true) (sz := 16) ⟨by kernel_rfl, by kernel_rfl, by kernel_rfl⟩ (ldOA h94 o90 rfl rfl (ble rfl) rfl) res0) rfl
/-! ### loop.example/g01263/laws.toNotchS (f64) -/
abbrev laws_toNotchS_b1_S := Int × (List Notch)
abbrev laws_toNotchS_b1_R := (List Notch)
def laws_toNotchS_b1_RS (a1 : List Notch) (x4 : List Notch) (i1_1 : Nat) (s : laws_toNotchS_b1_S) (e : Env) (M : Mem) : Prop := eget e 0 = .sl none (a1.map Notch.c) ∧ eget e 3 = .lsl i1_1 s.2.length 0 s.2.length ∧ eget e 4 = .int .i64 s.1 ∧ M[i1_1]? = some (.live ⟨.grow, 115, 2, s.2.map Notch.c⟩) ∧ s.2.length = x4.length
def laws_toNotchS_b1_RR (a1 : List Notch) (x4 : List Notch) (i1_1 : Nat) (g : laws_toNotchS_b1_R) (x : Ex) (e : Env) (M : Mem) : Prop := x = .ext 0 ∧ eget e 3 = .lsl i1_1 g.length 0 g.length ∧ M[i1_1]? = some (.live ⟨.grow, 115, 2, g.map Notch.c⟩) ∧ g.length = x4.length
noncomputable def laws_toNotchS_b1 (a1 : List Notch) : laws_toNotchS_b1_S → Option (laws_toNotchS_b1_S ⊕ laws_toNotchS_b1_R) := fun (s1_1, s1_2) =>
 if (decide (s1_1 < (a1.length : Int))) = true then
  (rd a1 s1_1).bind fun x45 =>
  (laws_toNotch x45).bind fun (r48, r49) =>
  (rd s1_2 s1_1).bind fun x50 =>
  some (.inl ((IntKind.i64.wrap (s1_1 + 1)), (s1_2.set s1_1.toNat (Notch.mk r48 r49))))
 else
  some (.inr s1_2)
theorem laws_toNotchS_b1_ok (a1 : List Notch) (x4 : List Notch) (i1_1 : Nat) (s : laws_toNotchS_b1_S) (r : laws_toNotchS_b1_S ⊕ laws_toNotchS_b1_R) (h : laws_toNotchS_b1 a1 s = some r) (e : Env) (M : Mem) (hs : laws_toNotchS_b1_RS a1 x4 i1_1 s e M) : Ev (fun k => (f64_l3 (CN k) k (prune [0, 3, 4] e) M).bind fun q => some q) (bQ (laws_toNotchS_b1_RS a1 x4 i1_1) (laws_toNotchS_b1_RR a1 x4 i1_1) r) := by
 obtain ⟨s1_1, s1_2⟩ := s
 unfold laws_toNotchS_b1 at h
 obtain ⟨h30, h32, h34, o36, hl37⟩ := hs
 generalize he29 : prune [0, 3, 4] e = e28
 have h31 := envp he29.symm rfl h30
 have h33 := envp he29.symm rfl h32
 have h35 := envp he29.symm rfl h34
 refine sq (sq (Rg (kx (mvO h35) (kx (mvO h31) (kx (lnS Try.underlying22 rfl) (kx (bLss rfl rfl) (Rn (hV (.sl none (a1.map Notch.c)) h31 (hV (.lsl i1_1 s1_2.length 0 s1_2.length) h33 (hV (.int .i64 s1_1) h35 (hN rfl hZ)))) fun e38 h40 h41 h42 h43 => sN ?_)))))))
 clear h31 h33 h35
 rcases ite_some h with ⟨hb44, h⟩ | ⟨hb44, h⟩
 ·obtain ⟨x45, hx46, h⟩ := bind_some h
  obtain ⟨⟨r48, r49⟩, hx47, h⟩ := bind_some h
  obtain ⟨x50, hx51, h⟩ := bind_some h
  refine cT h43 hb44 (xx (sN (sq (bl (Rg (kx (mvO h41) (kx (mvO h42) (kx (mvO h40) (kx (mvO h42) (kx (ixS rfl rfl hx46 Notch.fl) (kx (ldPA rfl rfl rfl) (kc (cl (v := .agg [.int .i8 r48, .int .i16 r49]) rfl (cns rfl rfl) rfl (laws_toNotch_ok x45 _ hx47) nm) (kx (ixO rfl o36 rfl rfl (rd_get hx51).1 (rd_lt hx51).2) (kw (stR (u := x50) (u' := (Notch.mk r48 r49)) rfl rfl o36 rfl (by rw [Nat.zero_add]; exact (rd_get hx51).2) ⟨rfl, ble rfl⟩ rfl rfl) fun M52 hM53 => ?_))))))))))))))
  rw [Nat.zero_add] at hM53
  have o54 : M52[i1_1]? = some (.live ⟨.grow, 115, 2, (s1_2.set s1_1.toNat (Notch.mk r48 r49)).map Notch.c⟩) := set_same hM53 o36
  have hx55 := rd_set (u' := (Notch.mk r48 r49)) hx51
  refine Rn (hA h40 (hA h41 (hA h42 hZ))) fun e56 h58 h59 h60 => bN (sN (Rg (kx (mvO h60) (kx (bAdd rfl rfl) (kx (mvO rfl) (Rn (hA h58 (hA h59 (hN rfl hZ))) fun e61 h63 h64 h65 => ?_))))))
  clear h40 h41 h42 h43 h58 h59
  cases h
  exact qN ⟨h63, (lslL (L' := (s1_2.set s1_1.toNat (Notch.mk r48 r49)).length) h64 (by simp [hl37])), h65, o54, (by first | rfl | simp [hl37])⟩
 refine cF h43 hb44 (xx (sE ?_))
 cases h
 exact qE ⟨rfl, h41, o36, (by first | rfl | simp [hl37])⟩
noncomputable def laws_toNotchS (a1 : List Notch) : Option ((List Notch)) :=
 (mkS 4 (Notch.mk 0 0) (a1.length : Int)).bind fun x4 =>
 (Lw (laws_toNotchS_b1 a1) (0, x4)).bind fun y71 =>
 some y71
def laws_toNotchS_enc (r : (List Notch)) : AV := .sl (some 115) (r.map Notch.c)
theorem laws_toNotchS_ok (a1 : List Notch) (r : (List Notch)) (h : laws_toNotchS a1 = some r) : Ev (fun k => CN k 64 [.sl none (a1.map Notch.c)] []) (fun p => rRes p.2 p.1 = laws_toNotchS_enc r) := by
 unfold laws_toNotchS at h
 obtain ⟨x4, hx5, h⟩ := bind_some h
 refine Ev.enter (F := fun k => f64 (CN k) k) (fun k => callN_eq rfl Try.func64 rfl rfl rfl (by decide +kernel) (f64_eq _ _)) (sq (Rg (kx (mvO rfl) (Rn (hN rfl hZ) fun e1 h3 => sN (sq (Rg (kx (mvO h3) (kx (lnS Try.underlying22 rfl) (ku (mkO rfl rfl hx5 (c := Notch.c) zero115 Notch.fl (by decide)) fun M7 hM8 => ?_)))))))))
 have o9 : M7[([] : Mem).length]? = some (.live ⟨.grow, 115, 2, x4.map Notch.c⟩) := push_new hM8
 obtain ⟨y71, hr67, h⟩ := bind_some h
 refine kx (mvO rfl) (Rn (hA h3 (hV (.lsl ([] : Mem).length x4.length 0 x4.length) rfl hZ)) fun e10 h12 h13 => sN (sq (sq (Rg (kx (mvO rfl) (Rn (hA h12 (hA h13 (hV (.int .i64 0) rfl hZ))) fun e14 h16 h17 h18 => sN (bl (Ev.loop (RS := laws_toNotchS_b1_RS a1 x4 (([] : Mem).length)) (RR := laws_toNotchS_b1_RR a1 x4 (([] : Mem).length)) (fun s r h e M hs => laws_toNotchS_b1_ok a1 x4 (([] : Mem).length) s r h e M hs) hr67 ⟨h16, h17, h18, o9, rfl⟩ fun x e69 M70 hq68 => ?_))))))))
 clear h3 h12 h13
 obtain ⟨rfl, h72, o73, hl74⟩ := hq68
 refine bE (sN (sq (Rg (kx (mvO h72) (kx (mvO rfl) (Rn (hV (.lsl ([] : Mem).length y71.length 0 y71.length) rfl hZ) fun e75 h77 => sN (xx ?_)))))))
 clear h72
 cases h
 exact eR (resT h77 res0) (rr_row o73 rfl Notch.fl)
/-! ### loop.example/g01263/spec.l01SameNotches (f63) -/
abbrev spec_l01SameNotches_b1_S := Int
abbrev spec_l01SameNotches_b1_R := Unit ⊕ Unit
def spec_l01SameNotches_b1_RS (a1 : List Notch) (a2 : List Notch) (s : spec_l01SameNotches_b1_S) (e : Env) (M : Mem) : Prop := eget e 0 = .sl none (a1.map Notch.c) ∧ eget e 1 = .sl none (a2.map Notch.c) ∧ eget e 5 = .int .i64 s
def spec_l01SameNotches_b1_RR (a1 : List Notch) (a2 : List Notch) (r : spec_l01SameNotches_b1_R) (x : Ex) (e : Env) (M : Mem) : Prop :=
  match r with
  | (.inl g) => x = .ret ∧ eget e 4 = .bool false
  | (.inr g) => x = .ext 0 ∧ True
noncomputable def spec_l01SameNotches_b1 (a1 : List Notch) (a2 : List Notch) : spec_l01SameNotches_b1_S → Option (spec_l01SameNotches_b1_S ⊕ spec_l01SameNotches_b1_R) := fun s1_1 =>
 if (decide (s1_1 < (a1.length : Int))) = true then
  (rd a1 s1_1).bind fun x42 =>
  (rd a2 s1_1).bind fun x44 =>
  if ((x42.Kind == x44.Kind) && ((x42.At == x44.At) && true)) = true then
   some (.inl (IntKind.i64.wrap (s1_1 + 1)))
  else
   some (.inr (.inl ()))
 else
  some (.inr (.inr ()))
theorem spec_l01SameNotches_b1_ok (a1 : List Notch) (a2 : List Notch) (s : spec_l01SameNotches_b1_S) (r : spec_l01SameNotches_b1_S ⊕ spec_l01SameNotches_b1_R) (h : spec_l01SameNotches_b1 a1 a2 s = some r) (e : Env) (M : Mem) (hs : spec_l01SameNotches_b1_RS a1 a2 s e M) : Ev (fun k => (f63_l4 (CN k) k (prune [0, 1, 5] e) M).bind fun q => some q) (bQ (spec_l01SameNotches_b1_RS a1 a2) (spec_l01SameNotches_b1_RR a1 a2) r) := by
 revert h hs
 revert s
 intro s1_1 h hs
 unfold spec_l01SameNotches_b1 at h
 obtain ⟨h29, h31, h33⟩ := hs
 generalize he28 : prune [0, 1, 5] e = e27
 have h30 := envp he28.symm rfl h29
 have h32 := envp he28.symm rfl h31
 have h34 := envp he28.symm rfl h33
 refine sq (sq (Rg (kx (mvO h34) (kx (mvO h30) (kx (lnS Try.underlying32 rfl) (kx (bLss rfl rfl) (Rn (hV (.sl none (a1.map Notch.c)) h30 (hV (.sl none (a2.map Notch.c)) h32 (hV (.int .i64 s1_1) h34 (hN rfl hZ)))) fun e35 h37 h38 h39 h40 => sN ?_)))))))
 clear h30 h32 h34
 rcases ite_some h with ⟨hb41, h⟩ | ⟨hb41, h⟩
 ·obtain ⟨x42, hx43, h⟩ := bind_some h
  obtain ⟨x44, hx45, h⟩ := bind_some h
  refine cT h40 hb41 (xx (sN (sq (bl (sq (Rd (kf (mvO h37) (kf (mvO h39) (kf (ixS rfl rfl hx43 Notch.fl) (kf (ldPA rfl rfl rfl) (kf (mvO h38) (kf (mvO h39) (kf (ixS rfl rfl hx45 Notch.fl) (kf (ldPA rfl rfl rfl) (kf (gNeq rfl rfl (by kernel_rfl) rfl) (fZ (Rn (hA h37 (hA h38 (hA h39 (hN rfl hZ)))) fun e46 h48 h49 h50 h51 => sN ?_)))))))))))))))))
  clear h37 h38 h39 h40
  rcases ite_some h with ⟨hb52, h⟩ | ⟨hb52, h⟩
  ·refine cF h51 (congrArg Bool.not hb52) (xx (bN (sN (Rg (kx (mvO h50) (kx (bAdd rfl rfl) (kx (mvO rfl) (Rn (hA h48 (hA h49 (hN rfl hZ))) fun e53 h55 h56 h57 => ?_))))))))
   clear h48 h49 h51
   cases h
   exact qN ⟨h55, h56, h57⟩
  refine cT h51 (congrArg Bool.not hb52) (sq (Rg (kx (mvO rfl) (Rn (hV (.bool false) rfl hZ) fun e58 h60 => sN (xx (bR (sR ?_)))))))
  clear h48 h49 h50 h51
  cases h
  exact qR ⟨rfl, h60⟩
 refine cF h40 hb41 (xx (sE ?_))
 cases h
 exact qE ⟨rfl, trivial⟩
noncomputable def spec_l01SameNotches (a1 : List Notch) (a2 : List Notch) : Option Bool :=
 if ((a1.length : Int) != (a2.length : Int)) = true then
  some false
 else
  (Lw (spec_l01SameNotches_b1 a1 a2) 0).bind fun r => match r with
  | (.inl _) =>
   some false
  | (.inr _) =>
   some true
def spec_l01SameNotches_enc (r : Bool) : AV := .bool r
theorem spec_l01SameNotches_ok (a1 : List Notch) (a2 : List Notch) (r : Bool) (h : spec_l01SameNotches a1 a2 = some r) : Ev (fun k => CN k 63 [.sl none (a1.map Notch.c), .sl none (a2.map Notch.c)] []) (fun p => rRes p.2 p.1 = spec_l01SameNotches_enc r) := by
 unfold spec_l01SameNotches at h
 refine Ev.enter (F := fun k => f63 (CN k) k) (fun k => callN_eq rfl Try.func63 rfl rfl rfl (by decide +kernel) (f63_eq _ _)) (sq (Rg (kx (mvO rfl) (Rn (hN rfl (hN rfl hZ)) fun e1 h3 h4 => sN (sq (sq (Rg (kx (mvO h3) (kx (lnS Try.underlying32 rfl) (kx (mvO h4) (kx (lnS Try.underlying32 rfl) (kx (bNeq rfl rfl) (Rn (hA h3 (hA h4 (hN rfl hZ))) fun e5 h7 h8 h9 => sN ?_)))))))))))))
 clear h3 h4
 rcases ite_some h with ⟨hb10, h⟩ | ⟨hb10, h⟩
 ·refine cT h9 hb10 (sq (Rg (kx (mvO rfl) (Rn (hV (.bool false) rfl hZ) fun e11 h13 => sN (xx (sR ?_))))))
  clear h7 h8 h9
  cases h
  exact eR (resT h13 res0) rfl
 obtain ⟨r61, hr62, h⟩ := bind_some h
 refine cF h9 hb10 (xx (sN (sq (sq (Rg (kx (mvO rfl) (Rn (hA h7 (hA h8 (hV (.int .i64 0) rfl hZ))) fun e14 h16 h17 h18 => sN (bl ?_))))))))
 clear h7 h8 h9
 rcases r61 with _ | _
 ·refine Ev.loop (RS := spec_l01SameNotches_b1_RS a1 a2) (RR := spec_l01SameNotches_b1_RR a1 a2) (fun s r h e M hs => spec_l01SameNotches_b1_ok a1 a2 s r h e M hs) hr62 ⟨h16, h17, h18⟩ fun x e64 M65 hq63 => ?_
  obtain ⟨rfl, h66⟩ := hq63
  refine bR (sR ?_)
  cases h
  exact eR (resT h66 res0) rfl
 refine Ev.loop (RS := spec_l01SameNotches_b1_RS a1 a2) (RR := spec_l01SameNotches_b1_RR a1 a2) (fun s r h e M hs => spec_l01SameNotches_b1_ok a1 a2 s r h e M hs) hr62 ⟨h16, h17, h18⟩ fun x e67 M68 hq63 => ?_
 obtain ⟨rfl, _⟩ := hq63
 refine bE (sN (sq (Rg (kx (mvO rfl) (Rn (hV (.bool true) rfl hZ) fun e69 h71 => sN (xx ?_))))))
 cases h
 exact eR (resT h71 res0) rfl
/-! ### loop.example/g01263/laws.szMark (f62) -/
noncomputable def laws_szMark (a1 : Mark) (a2 : Int) : Option Int :=
 if (decide ((IntKind.i64.wrap (a2 - (a1.Holder.length : Int))) < 0)) = true then
  some (-1)
 else
  some (IntKind.i64.wrap (a2 - (a1.Holder.length : Int)))
def laws_szMark_enc (r : Int) : AV := .int .i64 r
theorem laws_szMark_ok (a1 : Mark) (a2 : Int) (r : Int) (h : laws_szMark a1 a2 = some r) : Ev (fun k => CN k 62 [.agg [.str a1.Holder, .int .u32 a1.Seal], .int .i64 a2] []) (fun p => rRes p.2 p.1 = laws_szMark_enc r) := by
 unfold laws_szMark at h
 refine Ev.enter (F := fun k => f62 (CN k) k) (fun k => callN_eq rfl Try.func62 rfl rfl rfl (by decide +kernel) (f62_eq _ _)) (sq (Rg (kx (bxI rfl rfl ⟨rfl, rfl, by decide⟩) (kx (mvO rfl) (Rn (hN rfl (hN rfl hZ)) fun e1 h3 h4 => sN (sq (Rg (kx (mvO h3) (kx (faP h4 ⟨ble rfl, blt rfl⟩ rfl) (kx (ldP rfl rfl) (kx (lnB Try.underlying9 rfl) (kx (bSub rfl rfl) (kx (mvO rfl) (Rn (hN rfl hZ) fun e5 h7 => sN (sq (sq (Rg (kx (mvO h7) (kx (bLss rfl rfl) (Rn (hA h7 (hN rfl hZ)) fun e8 h10 h11 => sN ?_))))))))))))))))))))
 clear h4 h7
 rcases ite_some h with ⟨hb12, h⟩ | ⟨hb12, h⟩
 ·refine cT h11 hb12 (sq (Rg (kx (mvO rfl) (Rn (hV (.int .i64 (-1)) rfl hZ) fun e13 h15 => sN (xx (sR ?_))))))
  clear h10 h11
  cases h
  exact eR (resT h15 res0) rfl
 refine cF h11 hb12 (xx (sN (sq (Rg (kx (mvO h10) (kx (mvO rfl) (Rn (hN rfl hZ) fun e16 h18 => sN (xx ?_))))))))
 clear h10 h11
 cases h
 exact eR (resT h18 res0) rfl
/-! ### loop.example/g01263/laws.szNotchS (f61) -/
noncomputable def laws_szNotchS (a1 : List Notch) (a2 : Int) : Option Int :=
 if (decide ((IntKind.i64.wrap (a2 - (a1.length : Int))) < 0)) = true then
  some (-1)
 else
  some (IntKind.i64.wrap (a2 - (a1.length : Int)))
def laws_szNotchS_enc (r : Int) : AV := .int .i64 r
theorem laws_szNotchS_ok (a1 : List Notch) (a2 : Int) (r : Int) (h : laws_szNotchS a1 a2 = some r) : Ev (fun k => CN k 61 [.sl none (a1.map Notch.c), .int .i64 a2] []) (fun p => rRes p.2 p.1 = laws_szNotchS_enc r) := by
 unfold laws_szNotchS at h
 refine Ev.enter (F := fun k => f61 (CN k) k) (fun k => callN_eq rfl Try.func61 rfl rfl rfl (by decide +kernel) (f61_eq _ _)) (sq (Rg (kx (mvO rfl) (Rn (hN rfl (hN rfl hZ)) fun e1 h3 h4 => sN (sq (Rg (kx (mvO h4) (kx (mvO h3) (kx (lnS Try.underlying22 rfl) (kx (bSub rfl rfl) (kx (mvO rfl) (Rn (hN rfl hZ) fun e5 h7 => sN (sq (sq (Rg (kx (mvO h7) (kx (bLss rfl rfl) (Rn (hA h7 (hN rfl hZ)) fun e8 h10 h11 => sN ?_))))))))))))))))))
 clear h3 h7
 rcases ite_some h with ⟨hb12, h⟩ | ⟨hb12, h⟩
 ·refine cT h11 hb12 (sq (Rg (kx (mvO rfl) (Rn (hV (.int .i64 (-1)) rfl hZ) fun e13 h15 => sN (xx (sR ?_))))))
  clear h10 h11
  cases h
  exact eR (resT h15 res0) rfl
 refine cF h11 hb12 (xx (sN (sq (Rg (kx (mvO h10) (kx (mvO rfl) (Rn (hN rfl hZ) fun e16 h18 => sN (xx ?_))))))))
 clear h10 h11
 cases h
 exact eR (resT h18 res0) rfl
/-! ### loop.example/g01263/impl.common (f46) -/
abbrev impl_common_b1_S := Int
abbrev impl_common_b1_R := Int
def impl_common_b1_RS (a1 : Chain) (a2 : Chain) (s : impl_common_b1_S) (e : Env) (M : Mem) : Prop := eget e 2 = .pt none (.str a1.Debtor :: (.bool a1.Stock.Stock :: (.sl none (a1.Stock.Notches.map Notch.c) :: ((arC (cI .i8) 0 a1.Stock.Grain) ++ ((.sl none (a1.Marks.map Mark.c) :: []) : List AV))))) ∧ eget e 3 = .pt none (.str a2.Debtor :: (.bool a2.Stock.Stock :: (.sl none (a2.Stock.Notches.map Notch.c) :: ((arC (cI .i8) 0 a2.Stock.Grain) ++ ((.sl none (a2.Marks.map Mark.c) :: []) : List AV))))) ∧ eget e 5 = .int .i64 s
def impl_common_b1_RR (a1 : Chain) (a2 : Chain) (g : impl_common_b1_R) (x : Ex) (e : Env) (M : Mem) : Prop := x = .ext 0 ∧ eget e 5 = .int .i64 g
noncomputable def impl_common_b1 (a1 : Chain) (a2 : Chain) : impl_common_b1_S → Option (impl_common_b1_S ⊕ impl_common_b1_R) := fun s1_1 =>
 if (decide (s1_1 < (a1.Marks.length : Int))) = true then
  if (decide (s1_1 < (a2.Marks.length : Int))) = true then
   (rd a1.Marks s1_1).bind fun x28 =>
   (rd a2.Marks s1_1).bind fun x30 =>
   if ((x28.Holder == x30.Holder) && ((x28.Seal == x30.Seal) && true)) = true then
    some (.inl (IntKind.i64.wrap (s1_1 + 1)))
   else
    some (.inr s1_1)
  else
   some (.inr s1_1)
 else
  some (.inr s1_1)
theorem impl_common_b1_ok (a1 : Chain) (a2 : Chain) (s : impl_common_b1_S) (r : impl_common_b1_S ⊕ impl_common_b1_R) (h : impl_common_b1 a1 a2 s = some r) (e : Env) (M : Mem) (hs : impl_common_b1_RS a1 a2 s e M) : Ev (fun k => (f46_l2 (CN k) k (prune [2, 3, 5] e) M).bind fun q => some q) (bQ (impl_common_b1_RS a1 a2) (impl_common_b1_RR a1 a2) r) := by
 revert h hs
 revert s
 intro s1_1 h hs
 unfold impl_common_b1 at h
 obtain ⟨h20, h22, h24⟩ := hs
 generalize he19 : prune [2, 3, 5] e = e18
 have h21 := envp he19.symm rfl h20
 have h23 := envp he19.symm rfl h22
 have h25 := envp he19.symm rfl h24
 refine sq (sq (Rd (kf (mvO h25) (kf (faP h21 ⟨ble rfl, blt rfl⟩ rfl) (kf (ldP rfl rfl) (kf (lnS Try.underlying36 rfl) (kf (bLss rfl rfl) (kf (mvO rfl) ?_))))))))
 rcases ite_some h with ⟨hb26, h⟩ | ⟨hb26, h⟩
 ·refine kf (guT rfl hb26 (mvO h25)) (kf (guT rfl hb26 (faP h23 ⟨ble rfl, blt rfl⟩ rfl)) (kf (guT rfl hb26 (ldP rfl rfl)) (kf (guT rfl hb26 (lnS Try.underlying36 rfl)) (kf (guT rfl hb26 (bLss rfl rfl)) (kf (pkT rfl hb26 rfl) (kf (mvO rfl) ?_))))))
  rcases ite_some h with ⟨hb27, h⟩ | ⟨hb27, h⟩
  ·obtain ⟨x28, hx29, h⟩ := bind_some h
   obtain ⟨x30, hx31, h⟩ := bind_some h
   refine kf (guT rfl hb27 (faP h21 ⟨ble rfl, blt rfl⟩ rfl)) (kf (guT rfl hb27 (ldP rfl rfl)) (kf (guT rfl hb27 (mvO h25)) (kf (guT rfl hb27 (ixS rfl rfl hx29 Mark.fl)) (kf (guT rfl hb27 (ldPA rfl rfl rfl)) (kf (guT rfl hb27 (faP h23 ⟨ble rfl, blt rfl⟩ rfl)) (kf (guT rfl hb27 (ldP rfl rfl)) (kf (guT rfl hb27 (mvO h25)) (kf (guT rfl hb27 (ixS rfl rfl hx31 Mark.fl)) (kf (guT rfl hb27 (ldPA rfl rfl rfl)) (kf (guT rfl hb27 (gEql rfl rfl (by kernel_rfl) rfl)) (kf (pkT rfl hb27 rfl) (fZ (Rn (hV (.pt none (.str a1.Debtor :: (.bool a1.Stock.Stock :: (.sl none (a1.Stock.Notches.map Notch.c) :: ((arC (cI .i8) 0 a1.Stock.Grain) ++ ((.sl none (a1.Marks.map Mark.c) :: []) : List AV)))))) h21 (hV (.pt none (.str a2.Debtor :: (.bool a2.Stock.Stock :: (.sl none (a2.Stock.Notches.map Notch.c) :: ((arC (cI .i8) 0 a2.Stock.Grain) ++ ((.sl none (a2.Marks.map Mark.c) :: []) : List AV)))))) h23 (hV (.int .i64 s1_1) h25 (hN rfl hZ)))) fun e32 h34 h35 h36 h37 => sN ?_)))))))))))))
   clear h21 h23 h25
   rcases ite_some h with ⟨hb38, h⟩ | ⟨hb38, h⟩
   ·refine cT h37 hb38 (xx (sN (bl (Rg (kx (mvO h36) (kx (bAdd rfl rfl) (kx (mvO rfl) (Rn (hA h34 (hA h35 (hN rfl hZ))) fun e39 h41 h42 h43 => bN ?_))))))))
    clear h34 h35 h37
    cases h
    exact qN ⟨h41, h42, h43⟩
   refine cF h37 hb38 (xx (sE ?_))
   cases h
   exact qE ⟨rfl, h36⟩
  refine kf (gsT rfl hb27) (kf (gsT rfl hb27) (kf (gsT rfl hb27) (kf (gsT rfl hb27) (kf (gsT rfl hb27) (kf (gsT rfl hb27) (kf (gsT rfl hb27) (kf (gsT rfl hb27) (kf (gsT rfl hb27) (kf (gsT rfl hb27) (kf (gsT rfl hb27) (kf (pkF rfl hb27 rfl) (fZ (Rn (hV (.pt none (.str a1.Debtor :: (.bool a1.Stock.Stock :: (.sl none (a1.Stock.Notches.map Notch.c) :: ((arC (cI .i8) 0 a1.Stock.Grain) ++ ((.sl none (a1.Marks.map Mark.c) :: []) : List AV)))))) h21 (hV (.pt none (.str a2.Debtor :: (.bool a2.Stock.Stock :: (.sl none (a2.Stock.Notches.map Notch.c) :: ((arC (cI .i8) 0 a2.Stock.Grain) ++ ((.sl none (a2.Marks.map Mark.c) :: []) : List AV)))))) h23 (hV (.int .i64 s1_1) h25 (hV (.bool false) rfl hZ)))) fun e44 h46 h47 h48 h49 => sN (cF h49 rfl (xx (sE ?_))))))))))))))))
  clear h21 h23 h25
  cases h
  exact qE ⟨rfl, h48⟩
 refine kf (gsT rfl hb26) (kf (gsT rfl hb26) (kf (gsT rfl hb26) (kf (gsT rfl hb26) (kf (gsT rfl hb26) (kf (pkF rfl hb26 rfl) (kf (mvO rfl) (kf (gsT rfl rfl) (kf (gsT rfl rfl) (kf (gsT rfl rfl) (kf (gsT rfl rfl) (kf (gsT rfl rfl) (kf (gsT rfl rfl) (kf (gsT rfl rfl) (kf (gsT rfl rfl) (kf (gsT rfl rfl) (kf (gsT rfl rfl) (kf (gsT rfl rfl) (kf (pkF rfl rfl rfl) (fZ (Rn (hV (.pt none (.str a1.Debtor :: (.bool a1.Stock.Stock :: (.sl none (a1.Stock.Notches.map Notch.c) :: ((arC (cI .i8) 0 a1.Stock.Grain) ++ ((.sl none (a1.Marks.map Mark.c) :: []) : List AV)))))) h21 (hV (.pt none (.str a2.Debtor :: (.bool a2.Stock.Stock :: (.sl none (a2.Stock.Notches.map Notch.c) :: ((arC (cI .i8) 0 a2.Stock.Grain) ++ ((.sl none (a2.Marks.map Mark.c) :: []) : List AV)))))) h23 (hV (.int .i64 s1_1) h25 (hV (.bool false) rfl hZ)))) fun e50 h52 h53 h54 h55 => sN (cF h55 rfl (xx (sE ?_)))))))))))))))))))))))
 clear h21 h23 h25
 cases h
 exact qE ⟨rfl, h54⟩
noncomputable def impl_common (a1 : Chain) (a2 : Chain) : Option Int :=
 (Lw (impl_common_b1 a1 a2) 0).bind fun y61 =>
 some y61
def impl_common_enc (r : Int) : AV := .int .i64 r
theorem impl_common_ok (a1 : Chain) (a2 : Chain) (r : Int) (h : impl_common a1 a2 = some r) : Ev (fun k => CN k 46 [.agg (.str a1.Debtor :: (.bool a1.Stock.Stock :: (.sl none (a1.Stock.Notches.map Notch.c) :: ((arC (cI .i8) 0 a1.Stock.Grain) ++ ((.sl none (a1.Marks.map Mark.c) :: []) : List AV))))), .agg (.str a2.Debtor :: (.bool a2.Stock.Stock :: (.sl none (a2.Stock.Notches.map Notch.c) :: ((arC (cI .i8) 0 a2.Stock.Grain) ++ ((.sl none (a2.Marks.map Mark.c) :: []) : List AV)))))] []) (fun p => rRes p.2 p.1 = impl_common_enc r) := by
 unfold impl_common at h
 obtain ⟨y61, hr57, h⟩ := bind_some h
 refine Ev.enter (F := fun k => f46 (CN k) k) (fun k => callN_eq rfl Try.func46 rfl rfl rfl (by decide +kernel) (f46_eq _ _)) (sq (Rg (kx (bxI rfl rfl ⟨rfl, rfl, by decide⟩) (kx (bxI rfl rfl ⟨rfl, rfl, by decide⟩) (kx (mvO rfl) (Rn (hN rfl (hN rfl hZ)) fun e1 h3 h4 => sN (sq (Rg (kx (mvO rfl) (Rn (hA h3 (hA h4 (hV (.int .i64 0) rfl hZ))) fun e5 h7 h8 h9 => sN (sq (bl (Ev.loop (RS := impl_common_b1_RS a1 a2) (RR := impl_common_b1_RR a1 a2) (fun s r h e M hs => impl_common_b1_ok a1 a2 s r h e M hs) hr57 ⟨h7, h8, h9⟩ fun x e59 M60 hq58 => ?_)))))))))))))
 clear h3 h4
 obtain ⟨rfl, h62⟩ := hq58
 refine bE (sN (sq (Rg (kx (mvO h62) (kx (mvO rfl) (Rn (hN rfl hZ) fun e63 h65 => sN (xx ?_)))))))
 clear h62
 cases h
 exact eR (resT h65 res0) rfl
/-! ### loop.example/g01263/spec.l06Ok (f40) -/
def spec_l06Ok_c1_Q (a1 : Chain) (g : Bool) (q : Out) : Prop := q.1 = .nrm ∧ eget q.2.1 0 = .pt none (.str a1.Debtor :: (.bool a1.Stock.Stock :: (.sl none (a1.Stock.Notches.map Notch.c) :: ((arC (cI .i8) 0 a1.Stock.Grain) ++ ((.sl none (a1.Marks.map Mark.c) :: []) : List AV))))) ∧ eget q.2.1 34 = .bool g
abbrev spec_l06Ok_b1_S := (List UInt8) × Int
abbrev spec_l06Ok_b1_R := Unit ⊕ Unit
def spec_l06Ok_b1_RS (a1 : Chain) (s : spec_l06Ok_b1_S) (e : Env) (M : Mem) : Prop := eget e 0 = .pt none (.str a1.Debtor :: (.bool a1.Stock.Stock :: (.sl none (a1.Stock.Notches.map Notch.c) :: ((arC (cI .i8) 0 a1.Stock.Grain) ++ ((.sl none (a1.Marks.map Mark.c) :: []) : List AV))))) ∧ eget e 3 = .str s.1 ∧ eget e 4 = .int .i64 s.2
def spec_l06Ok_b1_RR (a1 : Chain) (r : spec_l06Ok_b1_R) (x : Ex) (e : Env) (M : Mem) : Prop :=
  match r with
  | (.inl g) => x = .ret ∧ eget e 2 = .bool false
  | (.inr g) => x = .ext 0 ∧ True
noncomputable def spec_l06Ok_b1 (a1 : Chain) : spec_l06Ok_b1_S → Option (spec_l06Ok_b1_S ⊕ spec_l06Ok_b1_R) := fun (s1_1, s1_2) =>
 if (decide (s1_2 < (a1.Marks.length : Int))) = true then
  (rd a1.Marks s1_2).bind fun x70 =>
  (spec_l06Name x70.Holder).bind fun r73 =>
  if r73 = true then
   (rd a1.Marks s1_2).bind fun x75 =>
   if (x75.Holder == s1_1) = true then
    some (.inr (.inl ()))
   else
    (rd a1.Marks s1_2).bind fun x86 =>
    some (.inl (x86.Holder, (IntKind.i64.wrap (s1_2 + 1))))
  else
   some (.inr (.inl ()))
 else
  some (.inr (.inr ()))
theorem spec_l06Ok_b1_ok (a1 : Chain) (s : spec_l06Ok_b1_S) (r : spec_l06Ok_b1_S ⊕ spec_l06Ok_b1_R) (h : spec_l06Ok_b1 a1 s = some r) (e : Env) (M : Mem) (hs : spec_l06Ok_b1_RS a1 s e M) : Ev (fun k => (f40_l5 (CN k) k (prune [0, 3, 4] e) M).bind fun q => some q) (bQ (spec_l06Ok_b1_RS a1) (spec_l06Ok_b1_RR a1) r) := by
 obtain ⟨s1_1, s1_2⟩ := s
 unfold spec_l06Ok_b1 at h
 obtain ⟨h57, h59, h61⟩ := hs
 generalize he56 : prune [0, 3, 4] e = e55
 have h58 := envp he56.symm rfl h57
 have h60 := envp he56.symm rfl h59
 have h62 := envp he56.symm rfl h61
 refine sq (sq (Rg (kx (mvO h62) (kx (mvO h58) (kx (ncP rfl) (kx (faP rfl ⟨ble rfl, blt rfl⟩ rfl) (kx (ldP rfl rfl) (kx (lnS Try.underlying36 rfl) (kx (bLss rfl rfl) (Rn (hV (.pt none (.str a1.Debtor :: (.bool a1.Stock.Stock :: (.sl none (a1.Stock.Notches.map Notch.c) :: ((arC (cI .i8) 0 a1.Stock.Grain) ++ ((.sl none (a1.Marks.map Mark.c) :: []) : List AV)))))) h58 (hV (.str s1_1) h60 (hV (.int .i64 s1_2) h62 (hN rfl hZ)))) fun e63 h65 h66 h67 h68 => sN ?_))))))))))
 clear h58 h60 h62
 rcases ite_some h with ⟨hb69, h⟩ | ⟨hb69, h⟩
 ·obtain ⟨x70, hx71, h⟩ := bind_some h
  obtain ⟨r73, hx72, h⟩ := bind_some h
  refine cT h68 hb69 (xx (sN (sq (bl (sq (sq (Rg (kx (mvO h65) (kx (ncP rfl) (kx (faP rfl ⟨ble rfl, blt rfl⟩ rfl) (kx (ldP rfl rfl) (kx (mvO h67) (kx (ixS rfl rfl hx71 Mark.fl) (kx (faP rfl ⟨ble rfl, blt rfl⟩ rfl) (kx (ldP rfl rfl) (kc (cl (v := .bool r73) rfl (cns rfl rfl) rfl (spec_l06Name_ok x70.Holder _ hx72) nm) (kx (uNot rfl) (kx (mvO rfl) ?_))))))))))))))))))
  rcases ite_some h with ⟨hb74, h⟩ | ⟨hb74, h⟩
  ·obtain ⟨x75, hx76, h⟩ := bind_some h
   refine kx (guF rfl (congrArg Bool.not hb74) (mvO h65)) (kx (guF rfl (congrArg Bool.not hb74) (ncP rfl)) (kx (guF rfl (congrArg Bool.not hb74) (faP rfl ⟨ble rfl, blt rfl⟩ rfl)) (kx (guF rfl (congrArg Bool.not hb74) (ldP rfl rfl)) (kx (guF rfl (congrArg Bool.not hb74) (mvO h67)) (kx (guF rfl (congrArg Bool.not hb74) (ixS rfl rfl hx76 Mark.fl)) (kx (guF rfl (congrArg Bool.not hb74) (faP rfl ⟨ble rfl, blt rfl⟩ rfl)) (kx (guF rfl (congrArg Bool.not hb74) (ldP rfl rfl)) (kx (guF rfl (congrArg Bool.not hb74) (mvO h66)) (kx (guF rfl (congrArg Bool.not hb74) (sEql rfl rfl)) (kx (pkF rfl (congrArg Bool.not hb74) rfl) (Rn (hA h65 (hA h67 (hN rfl hZ))) fun e77 h79 h80 h81 => sN ?_)))))))))))
   clear h65 h66 h67 h68
   rcases ite_some h with ⟨hb82, h⟩ | ⟨hb82, h⟩
   ·refine cT h81 hb82 (sq (Rg (kx (mvO rfl) (Rn (hV (.bool false) rfl hZ) fun e83 h85 => sN (xx (sR (bR (sR ?_))))))))
    clear h79 h80 h81
    cases h
    exact qR ⟨rfl, h85⟩
   obtain ⟨x86, hx87, h⟩ := bind_some h
   refine cF h81 hb82 (xx (sN (Rg (kx (mvO h79) (kx (ncP rfl) (kx (faP rfl ⟨ble rfl, blt rfl⟩ rfl) (kx (ldP rfl rfl) (kx (mvO h80) (kx (ixS rfl rfl hx87 Mark.fl) (kx (faP rfl ⟨ble rfl, blt rfl⟩ rfl) (kx (ldP rfl rfl) (kx (mvO rfl) (Rn (hA h79 (hN rfl (hA h80 hZ))) fun e88 h90 h91 h92 => bN (sN (Rg (kx (mvO h92) (kx (bAdd rfl rfl) (kx (mvO rfl) (Rn (hA h90 (hA h91 (hN rfl hZ))) fun e93 h95 h96 h97 => ?_)))))))))))))))))))
   clear h79 h80 h81 h90 h91
   cases h
   exact qN ⟨h95, h96, h97⟩
  refine kx (gsF rfl (congrArg Bool.not hb74)) (kx (gsF rfl (congrArg Bool.not hb74)) (kx (gsF rfl (congrArg Bool.not hb74)) (kx (gsF rfl (congrArg Bool.not hb74)) (kx (gsF rfl (congrArg Bool.not hb74)) (kx (gsF rfl (congrArg Bool.not hb74)) (kx (gsF rfl (congrArg Bool.not hb74)) (kx (gsF rfl (congrArg Bool.not hb74)) (kx (gsF rfl (congrArg Bool.not hb74)) (kx (gsF rfl (congrArg Bool.not hb74)) (kx (pkT rfl (congrArg Bool.not hb74) rfl) (Rn (hA h65 (hA h67 (hV (.bool true) rfl hZ))) fun e98 h100 h101 h102 => sN (cT h102 rfl (sq (Rg (kx (mvO rfl) (Rn (hV (.bool false) rfl hZ) fun e103 h105 => sN (xx (sR (bR (sR ?_))))))))))))))))))))
  clear h65 h66 h67 h68 h100 h101 h102
  cases h
  exact qR ⟨rfl, h105⟩
 refine cF h68 hb69 (xx (sE ?_))
 cases h
 exact qE ⟨rfl, trivial⟩
noncomputable def spec_l06Ok (a1 : Chain) : Option Bool :=
 ((spec_l06Name a1.Debtor).bind fun r5 =>
 if r5 = true then
  (spec_l01Ok a1.Stock).bind fun r8 =>
  if r8 = true then
   if a1.Stock.Stock = true then
    (spec_l00In (a1.Marks.length : Int) 1 30).bind fun r12 =>
    some (!r12)
   else
    some true
  else
   some true
 else
  some true).bind fun y31 =>
 if y31 = true then
  some false
 else
  (Lw (spec_l06Ok_b1 a1) (a1.Debtor, 0)).bind fun r => match r with
  | (.inl _) =>
   some false
  | (.inr _) =>
   some true
def spec_l06Ok_enc (r : Bool) : AV := .bool r
theorem spec_l06Ok_ok (a1 : Chain) (r : Bool) (h : spec_l06Ok a1 = some r) : Ev (fun k => CN k 40 [.pt none (.str a1.Debtor :: (.bool a1.Stock.Stock :: (.sl none (a1.Stock.Notches.map Notch.c) :: ((arC (cI .i8) 0 a1.Stock.Grain) ++ ((.sl none (a1.Marks.map Mark.c) :: []) : List AV)))))] []) (fun p => rRes p.2 p.1 = spec_l06Ok_enc r) := by
 unfold spec_l06Ok at h
 obtain ⟨r118, hr119, h⟩ := bind_some h
 refine Ev.enter (F := fun k => f40 (CN k) k) (fun k => callN_eq rfl Try.func40 rfl rfl rfl (by decide +kernel) (f40_eq _ _)) (sq (Rg (kx (mvO rfl) (Rn (hN rfl hZ) fun e1 h3 => sN (sq (sq ?_))))))
 refine Ev.cut (Q1 := spec_l06Ok_c1_Q a1 r118) (by
     have h := hr119
     obtain ⟨r5, hx4, h⟩ := bind_some h
     refine Rg (kx (mvO h3) (kx (ncP rfl) (kx (faP rfl ⟨ble rfl, blt rfl⟩ rfl) (kx (ldP rfl rfl) (kc (cl (v := .bool r5) rfl (cns rfl rfl) rfl (spec_l06Name_ok a1.Debtor _ hx4) nm) (kx (uNot rfl) (kx (mvO rfl) ?_)))))))
     rcases ite_some h with ⟨hb6, h⟩ | ⟨hb6, h⟩
     ·obtain ⟨r8, hx7, h⟩ := bind_some h
      refine kx (guF rfl (congrArg Bool.not hb6) (mvO h3)) (kx (guF rfl (congrArg Bool.not hb6) (ncP rfl)) (kx (guF rfl (congrArg Bool.not hb6) (faP rfl ⟨ble rfl, blt rfl⟩ rfl)) (kc (Ev.guF rfl (congrArg Bool.not hb6) (cl (v := .bool r8) rfl (cns rfl rfl) rfl (spec_l01Ok_ok a1.Stock _ hx7) nm)) (kx (guF rfl (congrArg Bool.not hb6) (uNot rfl)) (kx (pkF rfl (congrArg Bool.not hb6) rfl) (kx (mvO rfl) ?_))))))
      rcases ite_some h with ⟨hb9, h⟩ | ⟨hb9, h⟩
      ·refine kx (guF rfl (congrArg Bool.not hb9) (mvO h3)) (kx (guF rfl (congrArg Bool.not hb9) (ncP rfl)) (kx (guF rfl (congrArg Bool.not hb9) (faP rfl ⟨ble rfl, blt rfl⟩ rfl)) (kx (guF rfl (congrArg Bool.not hb9) (faP rfl ⟨ble rfl, blt rfl⟩ rfl)) (kx (guF rfl (congrArg Bool.not hb9) (ldP rfl rfl)) (kx (guF rfl (congrArg Bool.not hb9) (uNot rfl)) (kx (pkF rfl (congrArg Bool.not hb9) rfl) (kx (mvO rfl) ?_)))))))
       rcases ite_some h with ⟨hb10, h⟩ | ⟨hb10, h⟩
       ·obtain ⟨r12, hx11, h⟩ := bind_some h
        refine kx (guF rfl (congrArg Bool.not hb10) (mvO h3)) (kx (guF rfl (congrArg Bool.not hb10) (ncP rfl)) (kx (guF rfl (congrArg Bool.not hb10) (faP rfl ⟨ble rfl, blt rfl⟩ rfl)) (kx (guF rfl (congrArg Bool.not hb10) (ldP rfl rfl)) (kx (guF rfl (congrArg Bool.not hb10) (lnS Try.underlying36 rfl)) (kc (Ev.guF rfl (congrArg Bool.not hb10) (cl (v := .bool r12) rfl (cns rfl (cns rfl (cns rfl rfl))) rfl (spec_l00In_ok (a1.Marks.length : Int) 1 30 _ hx11) nm)) (kx (guF rfl (congrArg Bool.not hb10) (uNot rfl)) (kx (pkF rfl (congrArg Bool.not hb10) rfl) (Rn (hA h3 (hN rfl hZ)) fun e13 h15 h16 => ?_))))))))
        clear h3
        cases h
        exact kd (show spec_l06Ok_c1_Q a1 _ _ from ⟨rfl, h15, h16⟩)
       refine kx (gsF rfl (congrArg Bool.not hb10)) (kx (gsF rfl (congrArg Bool.not hb10)) (kx (gsF rfl (congrArg Bool.not hb10)) (kx (gsF rfl (congrArg Bool.not hb10)) (kx (gsF rfl (congrArg Bool.not hb10)) (kc (Ev.gsF rfl (congrArg Bool.not hb10)) (kx (gsF rfl (congrArg Bool.not hb10)) (kx (pkT rfl (congrArg Bool.not hb10) rfl) (Rn (hA h3 (hV (.bool true) rfl hZ)) fun e17 h19 h20 => ?_))))))))
       clear h3
       cases h
       exact kd (show spec_l06Ok_c1_Q a1 _ _ from ⟨rfl, h19, h20⟩)
      refine kx (gsF rfl (congrArg Bool.not hb9)) (kx (gsF rfl (congrArg Bool.not hb9)) (kx (gsF rfl (congrArg Bool.not hb9)) (kx (gsF rfl (congrArg Bool.not hb9)) (kx (gsF rfl (congrArg Bool.not hb9)) (kx (gsF rfl (congrArg Bool.not hb9)) (kx (pkT rfl (congrArg Bool.not hb9) rfl) (kx (mvO rfl) (kx (gsF rfl rfl) (kx (gsF rfl rfl) (kx (gsF rfl rfl) (kx (gsF rfl rfl) (kx (gsF rfl rfl) (kc (Ev.gsF rfl rfl) (kx (gsF rfl rfl) (kx (pkT rfl rfl rfl) (Rn (hA h3 (hV (.bool true) rfl hZ)) fun e21 h23 h24 => ?_))))))))))))))))
      clear h3
      cases h
      exact kd (show spec_l06Ok_c1_Q a1 _ _ from ⟨rfl, h23, h24⟩)
     refine kx (gsF rfl (congrArg Bool.not hb6)) (kx (gsF rfl (congrArg Bool.not hb6)) (kx (gsF rfl (congrArg Bool.not hb6)) (kc (Ev.gsF rfl (congrArg Bool.not hb6)) (kx (gsF rfl (congrArg Bool.not hb6)) (kx (pkT rfl (congrArg Bool.not hb6) rfl) (kx (mvO rfl) (kx (gsF rfl rfl) (kx (gsF rfl rfl) (kx (gsF rfl rfl) (kx (gsF rfl rfl) (kx (gsF rfl rfl) (kx (gsF rfl rfl) (kx (pkT rfl rfl rfl) (kx (mvO rfl) (kx (gsF rfl rfl) (kx (gsF rfl rfl) (kx (gsF rfl rfl) (kx (gsF rfl rfl) (kx (gsF rfl rfl) (kc (Ev.gsF rfl rfl) (kx (gsF rfl rfl) (kx (pkT rfl rfl rfl) (Rn (hA h3 (hV (.bool true) rfl hZ)) fun e25 h27 h28 => ?_)))))))))))))))))))))))
     clear h3
     cases h
     exact kd (show spec_l06Ok_c1_Q a1 _ _ from ⟨rfl, h27, h28⟩)) ?_
 revert h hr119
 revert r118
 intro y31 hr119 h
 intro x e29 M30 hq117
 obtain ⟨rfl, h32, h33⟩ := hq117
 refine sN ?_
 rcases ite_some h with ⟨hb34, h⟩ | ⟨hb34, h⟩
 ·refine cT h33 hb34 (sq (Rg (kx (mvO rfl) (Rn (hV (.bool false) rfl hZ) fun e35 h37 => sN (xx (sR ?_))))))
  clear h32 h33
  cases h
  exact eR (resT h37 res0) rfl
 obtain ⟨r106, hr107, h⟩ := bind_some h
 refine cF h33 hb34 (xx (sN (sq (Rg (kx (mvO h32) (kx (ncP rfl) (kx (faP rfl ⟨ble rfl, blt rfl⟩ rfl) (kx (ldP rfl rfl) (kx (mvO rfl) (Rn (hV (.pt none (.str a1.Debtor :: (.bool a1.Stock.Stock :: (.sl none (a1.Stock.Notches.map Notch.c) :: ((arC (cI .i8) 0 a1.Stock.Grain) ++ ((.sl none (a1.Marks.map Mark.c) :: []) : List AV)))))) h32 (hN rfl hZ)) fun e38 h40 h41 => sN (sq (sq (Rg (kx (mvO rfl) (Rn (hA h40 (hA h41 (hV (.int .i64 0) rfl hZ))) fun e42 h44 h45 h46 => sN (bl ?_))))))))))))))))
 clear h32 h33 h40 h41
 rcases r106 with _ | _
 ·refine Ev.loop (RS := spec_l06Ok_b1_RS a1) (RR := spec_l06Ok_b1_RR a1) (fun s r h e M hs => spec_l06Ok_b1_ok a1 s r h e M hs) hr107 ⟨h44, h45, h46⟩ fun x e109 M110 hq108 => ?_
  obtain ⟨rfl, h111⟩ := hq108
  refine bR (sR ?_)
  cases h
  exact eR (resT h111 res0) rfl
 refine Ev.loop (RS := spec_l06Ok_b1_RS a1) (RR := spec_l06Ok_b1_RR a1) (fun s r h e M hs => spec_l06Ok_b1_ok a1 s r h e M hs) hr107 ⟨h44, h45, h46⟩ fun x e112 M113 hq108 => ?_
 obtain ⟨rfl, _⟩ := hq108
 refine bE (sN (sq (Rg (kx (mvO rfl) (Rn (hV (.bool true) rfl hZ) fun e114 h116 => sN (xx ?_))))))
 cases h
 exact eR (resT h116 res0) rfl
/-! ### loop.example/g01263/spec.l01Same (f33) -/
noncomputable def spec_l01Same (a1 : Half) (a2 : Half) : Option Bool :=
 if (a1.Stock == a2.Stock) = true then
  if (arB 16 (fun j => a1.Grain.get 0 j == a2.Grain.get 0 j) true) = true then
   (spec_l01SameNotches a1.Notches a2.Notches).bind fun r8 =>
   some r8
  else
   some false
 else
  some false
def spec_l01Same_enc (r : Bool) : AV := .bool r
theorem spec_l01Same_ok (a1 : Half) (a2 : Half) (r : Bool) (h : spec_l01Same a1 a2 = some r) : Ev (fun k => CN k 33 [.pt none (.bool a1.Stock :: (.sl none (a1.Notches.map Notch.c) :: ((arC (cI .i8) 0 a1.Grain) ++ ([] : List AV)))), .pt none (.bool a2.Stock :: (.sl none (a2.Notches.map Notch.c) :: ((arC (cI .i8) 0 a2.Grain) ++ ([] : List AV))))] []) (fun p => rRes p.2 p.1 = spec_l01Same_enc r) := by
 unfold spec_l01Same at h
 refine Ev.enter (F := fun k => f33 (CN k) k) (fun k => callN_eq rfl Try.func33 rfl rfl rfl (by decide +kernel) (f33_eq _ _)) (sq (Rg (kx (mvO rfl) (Rn (hN rfl (hN rfl hZ)) fun e1 h3 h4 => sN (sq (Rd (kf (mvO h3) (kf (ncP rfl) (kf (faP rfl ⟨ble rfl, blt rfl⟩ rfl) (kf (ldP rfl rfl) (kf (mvO h4) (kf (ncP rfl) (kf (faP rfl ⟨ble rfl, blt rfl⟩ rfl) (kf (ldP rfl rfl) (kf (oEql (by kernel_rfl) rfl rfl) (kf (mvO rfl) ?_))))))))))))))))
 rcases ite_some h with ⟨hb5, h⟩ | ⟨hb5, h⟩
 ·refine kf (guT rfl hb5 (mvO h3)) (kf (guT rfl hb5 (ncP rfl)) (kf (guT rfl hb5 (faP rfl ⟨ble rfl, blt rfl⟩ rfl)) (kf (guT rfl hb5 (ldPA rfl rfl rfl)) (kf (guT rfl hb5 (mvO h4)) (kf (guT rfl hb5 (ncP rfl)) (kf (guT rfl hb5 (faP rfl ⟨ble rfl, blt rfl⟩ rfl)) (kf (guT rfl hb5 (ldPA rfl rfl rfl)) (kf (guT rfl hb5 (gEql rfl rfl (by kernel_rfl) rfl)) (kf (pkT rfl hb5 rfl) (kf (mvO rfl) ?_))))))))))
  rcases ite_some h with ⟨hb6, h⟩ | ⟨hb6, h⟩
  ·obtain ⟨r8, hx7, h⟩ := bind_some h
   refine kf (guT rfl hb6 (mvO h3)) (kf (guT rfl hb6 (ncP rfl)) (kf (guT rfl hb6 (faP rfl ⟨ble rfl, blt rfl⟩ rfl)) (kf (guT rfl hb6 (ldP rfl rfl)) (kf (guT rfl hb6 (mvO h4)) (kf (guT rfl hb6 (ncP rfl)) (kf (guT rfl hb6 (faP rfl ⟨ble rfl, blt rfl⟩ rfl)) (kf (guT rfl hb6 (ldP rfl rfl)) (fc (Ev.guT rfl hb6 (cl (v := .bool r8) rfl (cns rfl (cns rfl rfl)) rfl (spec_l01SameNotches_ok a1.Notches a2.Notches _ hx7) nm)) (kf (pkT rfl hb6 rfl) (kf (mvO rfl) (fZ (Rn (hN rfl hZ) fun e9 h11 => sN (xx ?_)))))))))))))
   clear h3 h4
   cases h
   exact eR (resT h11 res0) rfl
  refine kf (gsT rfl hb6) (kf (gsT rfl hb6) (kf (gsT rfl hb6) (kf (gsT rfl hb6) (kf (gsT rfl hb6) (kf (gsT rfl hb6) (kf (gsT rfl hb6) (kf (gsT rfl hb6) (fc (Ev.gsT rfl hb6) (kf (pkF rfl hb6 rfl) (kf (mvO rfl) (fZ (Rn (hV (.bool false) rfl hZ) fun e12 h14 => sN (xx ?_)))))))))))))
  clear h3 h4
  cases h
  exact eR (resT h14 res0) rfl
 refine kf (gsT rfl hb5) (kf (gsT rfl hb5) (kf (gsT rfl hb5) (kf (gsT rfl hb5) (kf (gsT rfl hb5) (kf (gsT rfl hb5) (kf (gsT rfl hb5) (kf (gsT rfl hb5) (kf (gsT rfl hb5) (kf (pkF rfl hb5 rfl) (kf (mvO rfl) (kf (gsT rfl rfl) (kf (gsT rfl rfl) (kf (gsT rfl rfl) (kf (gsT rfl rfl) (kf (gsT rfl rfl) (kf (gsT rfl rfl) (kf (gsT rfl rfl) (kf (gsT rfl rfl) (fc (Ev.gsT rfl rfl) (kf (pkF rfl rfl rfl) (kf (mvO rfl) (fZ (Rn (hV (.bool false) rfl hZ) fun e15 h17 => sN (xx ?_))))))))))))))))))))))))
 clear h3 h4
 cases h
 exact eR (resT h17 res0) rfl
/-! ### loop.example/g01263/spec.l06Common (f45) -/
def spec_l06Common_c1_Q (a1 : Chain) (a2 : Chain) (g : Bool) (q : Out) : Prop := q.1 = .nrm ∧ eget q.2.1 0 = .pt none (.str a1.Debtor :: (.bool a1.Stock.Stock :: (.sl none (a1.Stock.Notches.map Notch.c) :: ((arC (cI .i8) 0 a1.Stock.Grain) ++ ((.sl none (a1.Marks.map Mark.c) :: []) : List AV))))) ∧ eget q.2.1 1 = .pt none (.str a2.Debtor :: (.bool a2.Stock.Stock :: (.sl none (a2.Stock.Notches.map Notch.c) :: ((arC (cI .i8) 0 a2.Stock.Grain) ++ ((.sl none (a2.Marks.map Mark.c) :: []) : List AV))))) ∧ eget q.2.1 14 = .bool g
def spec_l06Common_c2_Q (a1 : Chain) (a2 : Chain) (g : Bool) (q : Out) : Prop := q.1 = .nrm ∧ eget q.2.1 0 = .pt none (.str a1.Debtor :: (.bool a1.Stock.Stock :: (.sl none (a1.Stock.Notches.map Notch.c) :: ((arC (cI .i8) 0 a1.Stock.Grain) ++ ((.sl none (a1.Marks.map Mark.c) :: []) : List AV))))) ∧ eget q.2.1 1 = .pt none (.str a2.Debtor :: (.bool a2.Stock.Stock :: (.sl none (a2.Stock.Notches.map Notch.c) :: ((arC (cI .i8) 0 a2.Stock.Grain) ++ ((.sl none (a2.Marks.map Mark.c) :: []) : List AV))))) ∧ eget q.2.1 33 = .bool g
abbrev spec_l06Common_b1_S := Int
abbrev spec_l06Common_b1_R := Int
def spec_l06Common_b1_RS (a1 : Chain) (a2 : Chain) (s : spec_l06Common_b1_S) (e : Env) (M : Mem) : Prop := eget e 0 = .pt none (.str a1.Debtor :: (.bool a1.Stock.Stock :: (.sl none (a1.Stock.Notches.map Notch.c) :: ((arC (cI .i8) 0 a1.Stock.Grain) ++ ((.sl none (a1.Marks.map Mark.c) :: []) : List AV))))) ∧ eget e 1 = .pt none (.str a2.Debtor :: (.bool a2.Stock.Stock :: (.sl none (a2.Stock.Notches.map Notch.c) :: ((arC (cI .i8) 0 a2.Stock.Grain) ++ ((.sl none (a2.Marks.map Mark.c) :: []) : List AV))))) ∧ eget e 6 = .int .i64 s
def spec_l06Common_b1_RR (a1 : Chain) (a2 : Chain) (g : spec_l06Common_b1_R) (x : Ex) (e : Env) (M : Mem) : Prop := x = .ext 0 ∧ eget e 6 = .int .i64 g
noncomputable def spec_l06Common_b1 (a1 : Chain) (a2 : Chain) : spec_l06Common_b1_S → Option (spec_l06Common_b1_S ⊕ spec_l06Common_b1_R) := fun s1_1 =>
 if (decide (s1_1 < (a1.Marks.length : Int))) = true then
  if (decide (s1_1 < (a2.Marks.length : Int))) = true then
   (rd a1.Marks s1_1).bind fun x78 =>
   (rd a2.Marks s1_1).bind fun x80 =>
   if ((x78.Holder == x80.Holder) && ((x78.Seal == x80.Seal) && true)) = true then
    some (.inl (IntKind.i64.wrap (s1_1 + 1)))
   else
    some (.inr s1_1)
  else
   some (.inr s1_1)
 else
  some (.inr s1_1)
theorem spec_l06Common_b1_ok (a1 : Chain) (a2 : Chain) (s : spec_l06Common_b1_S) (r : spec_l06Common_b1_S ⊕ spec_l06Common_b1_R) (h : spec_l06Common_b1 a1 a2 s = some r) (e : Env) (M : Mem) (hs : spec_l06Common_b1_RS a1 a2 s e M) : Ev (fun k => (f45_l6 (CN k) k (prune [0, 1, 6] e) M).bind fun q => some q) (bQ (spec_l06Common_b1_RS a1 a2) (spec_l06Common_b1_RR a1 a2) r) := by
 revert h hs
 revert s
 intro s1_1 h hs
 unfold spec_l06Common_b1 at h
 obtain ⟨h70, h72, h74⟩ := hs
 generalize he69 : prune [0, 1, 6] e = e68
 have h71 := envp he69.symm rfl h70
 have h73 := envp he69.symm rfl h72
 have h75 := envp he69.symm rfl h74
 refine sq (sq (Rd (kf (mvO h75) (kf (mvO h71) (kf (ncP rfl) (kf (faP rfl ⟨ble rfl, blt rfl⟩ rfl) (kf (ldP rfl rfl) (kf (lnS Try.underlying36 rfl) (kf (bLss rfl rfl) (kf (mvO rfl) ?_))))))))))
 rcases ite_some h with ⟨hb76, h⟩ | ⟨hb76, h⟩
 ·refine kf (guT rfl hb76 (mvO h75)) (kf (guT rfl hb76 (mvO h73)) (kf (guT rfl hb76 (ncP rfl)) (kf (guT rfl hb76 (faP rfl ⟨ble rfl, blt rfl⟩ rfl)) (kf (guT rfl hb76 (ldP rfl rfl)) (kf (guT rfl hb76 (lnS Try.underlying36 rfl)) (kf (guT rfl hb76 (bLss rfl rfl)) (kf (pkT rfl hb76 rfl) (kf (mvO rfl) ?_))))))))
  rcases ite_some h with ⟨hb77, h⟩ | ⟨hb77, h⟩
  ·obtain ⟨x78, hx79, h⟩ := bind_some h
   obtain ⟨x80, hx81, h⟩ := bind_some h
   refine kf (guT rfl hb77 (mvO h71)) (kf (guT rfl hb77 (ncP rfl)) (kf (guT rfl hb77 (faP rfl ⟨ble rfl, blt rfl⟩ rfl)) (kf (guT rfl hb77 (ldP rfl rfl)) (kf (guT rfl hb77 (mvO h75)) (kf (guT rfl hb77 (ixS rfl rfl hx79 Mark.fl)) (kf (guT rfl hb77 (ldPA rfl rfl rfl)) (kf (guT rfl hb77 (mvO h73)) (kf (guT rfl hb77 (ncP rfl)) (kf (guT rfl hb77 (faP rfl ⟨ble rfl, blt rfl⟩ rfl)) (kf (guT rfl hb77 (ldP rfl rfl)) (kf (guT rfl hb77 (mvO h75)) (kf (guT rfl hb77 (ixS rfl rfl hx81 Mark.fl)) (kf (guT rfl hb77 (ldPA rfl rfl rfl)) (kf (guT rfl hb77 (gEql rfl rfl (by kernel_rfl) rfl)) (kf (pkT rfl hb77 rfl) (fZ (Rn (hA h71 (hV (.pt none (.str a2.Debtor :: (.bool a2.Stock.Stock :: (.sl none (a2.Stock.Notches.map Notch.c) :: ((arC (cI .i8) 0 a2.Stock.Grain) ++ ((.sl none (a2.Marks.map Mark.c) :: []) : List AV)))))) h73 (hV (.int .i64 s1_1) h75 (hN rfl hZ)))) fun e82 h84 h85 h86 h87 => sN ?_)))))))))))))))))
   clear h71 h73 h75
   rcases ite_some h with ⟨hb88, h⟩ | ⟨hb88, h⟩
   ·refine cT h87 hb88 (xx (sN (bl (Rg (kx (mvO h86) (kx (bAdd rfl rfl) (kx (mvO rfl) (Rn (hA h84 (hA h85 (hN rfl hZ))) fun e89 h91 h92 h93 => bN ?_))))))))
    clear h84 h85 h87
    cases h
    exact qN ⟨h91, h92, h93⟩
   refine cF h87 hb88 (xx (sE ?_))
   cases h
   exact qE ⟨rfl, h86⟩
  refine kf (gsT rfl hb77) (kf (gsT rfl hb77) (kf (gsT rfl hb77) (kf (gsT rfl hb77) (kf (gsT rfl hb77) (kf (gsT rfl hb77) (kf (gsT rfl hb77) (kf (gsT rfl hb77) (kf (gsT rfl hb77) (kf (gsT rfl hb77) (kf (gsT rfl hb77) (kf (gsT rfl hb77) (kf (gsT rfl hb77) (kf (gsT rfl hb77) (kf (gsT rfl hb77) (kf (pkF rfl hb77 rfl) (fZ (Rn (hA h71 (hV (.pt none (.str a2.Debtor :: (.bool a2.Stock.Stock :: (.sl none (a2.Stock.Notches.map Notch.c) :: ((arC (cI .i8) 0 a2.Stock.Grain) ++ ((.sl none (a2.Marks.map Mark.c) :: []) : List AV)))))) h73 (hV (.int .i64 s1_1) h75 (hV (.bool false) rfl hZ)))) fun e94 h96 h97 h98 h99 => sN (cF h99 rfl (xx (sE ?_))))))))))))))))))))
  clear h71 h73 h75
  cases h
  exact qE ⟨rfl, h98⟩
 refine kf (gsT rfl hb76) (kf (gsT rfl hb76) (kf (gsT rfl hb76) (kf (gsT rfl hb76) (kf (gsT rfl hb76) (kf (gsT rfl hb76) (kf (gsT rfl hb76) (kf (pkF rfl hb76 rfl) (kf (mvO rfl) (kf (gsT rfl rfl) (kf (gsT rfl rfl) (kf (gsT rfl rfl) (kf (gsT rfl rfl) (kf (gsT rfl rfl) (kf (gsT rfl rfl) (kf (gsT rfl rfl) (kf (gsT rfl rfl) (kf (gsT rfl rfl) (kf (gsT rfl rfl) (kf (gsT rfl rfl) (kf (gsT rfl rfl) (kf (gsT rfl rfl) (kf (gsT rfl rfl) (kf (gsT rfl rfl) (kf (pkF rfl rfl rfl) (fZ (Rn (hA h71 (hV (.pt none (.str a2.Debtor :: (.bool a2.Stock.Stock :: (.sl none (a2.Stock.Notches.map Notch.c) :: ((arC (cI .i8) 0 a2.Stock.Grain) ++ ((.sl none (a2.Marks.map Mark.c) :: []) : List AV)))))) h73 (hV (.int .i64 s1_1) h75 (hV (.bool false) rfl hZ)))) fun e100 h102 h103 h104 h105 => sN (cF h105 rfl (xx (sE ?_)))))))))))))))))))))))))))))
 clear h71 h73 h75
 cases h
 exact qE ⟨rfl, h104⟩
noncomputable def spec_l06Common (a1 : Chain) (a2 : Chain) : Option (Int × Int) :=
 ((spec_l06Ok a1).bind fun r6 =>
 if r6 = true then
  (spec_l06Ok a2).bind fun r9 =>
  some (!r9)
 else
  some true).bind fun y22 =>
 if y22 = true then
  some (0, 1)
 else
  (if (a1.Debtor == a2.Debtor) = true then
   (spec_l01Same a1.Stock a2.Stock).bind fun r33 =>
   some (!r33)
  else
   some true).bind fun y46 =>
  if y46 = true then
   some (0, 4)
  else
   (Lw (spec_l06Common_b1 a1 a2) 0).bind fun y111 =>
   some (y111, 0)
def spec_l06Common_enc (r : Int × Int) : AV := .tup [.int .i64 r.1, .int .i64 r.2]
theorem spec_l06Common_ok (a1 : Chain) (a2 : Chain) (r : Int × Int) (h : spec_l06Common a1 a2 = some r) : Ev (fun k => CN k 45 [.pt none (.str a1.Debtor :: (.bool a1.Stock.Stock :: (.sl none (a1.Stock.Notches.map Notch.c) :: ((arC (cI .i8) 0 a1.Stock.Grain) ++ ((.sl none (a1.Marks.map Mark.c) :: []) : List AV))))), .pt none (.str a2.Debtor :: (.bool a2.Stock.Stock :: (.sl none (a2.Stock.Notches.map Notch.c) :: ((arC (cI .i8) 0 a2.Stock.Grain) ++ ((.sl none (a2.Marks.map Mark.c) :: []) : List AV)))))] []) (fun p => rRes p.2 p.1 = spec_l06Common_enc r) := by
 unfold spec_l06Common at h
 obtain ⟨r121, hr122, h⟩ := bind_some h
 refine Ev.enter (F := fun k => f45 (CN k) k) (fun k => callN_eq rfl Try.func45 rfl rfl rfl (by decide +kernel) (f45_eq _ _)) (sq (Rg (kx (mvO rfl) (kx (mvO rfl) (Rn (hN rfl (hN rfl hZ)) fun e1 h3 h4 => sN (sq (sq ?_)))))))
 refine Ev.cut (Q1 := spec_l06Common_c1_Q a1 a2 r121) (by
     have h := hr122
     obtain ⟨r6, hx5, h⟩ := bind_some h
     refine Rg (kx (mvO h3) (kc (cl (v := .bool r6) rfl (cns rfl rfl) rfl (spec_l06Ok_ok a1 _ hx5) nm) (kx (uNot rfl) (kx (mvO rfl) ?_))))
     rcases ite_some h with ⟨hb7, h⟩ | ⟨hb7, h⟩
     ·obtain ⟨r9, hx8, h⟩ := bind_some h
      refine kx (guF rfl (congrArg Bool.not hb7) (mvO h4)) (kc (Ev.guF rfl (congrArg Bool.not hb7) (cl (v := .bool r9) rfl (cns rfl rfl) rfl (spec_l06Ok_ok a2 _ hx8) nm)) (kx (guF rfl (congrArg Bool.not hb7) (uNot rfl)) (kx (pkF rfl (congrArg Bool.not hb7) rfl) (Rn (hA h3 (hA h4 (hN rfl hZ))) fun e10 h12 h13 h14 => ?_))))
      clear h3 h4
      cases h
      exact kd (show spec_l06Common_c1_Q a1 a2 _ _ from ⟨rfl, h12, h13, h14⟩)
     refine kx (gsF rfl (congrArg Bool.not hb7)) (kc (Ev.gsF rfl (congrArg Bool.not hb7)) (kx (gsF rfl (congrArg Bool.not hb7)) (kx (pkT rfl (congrArg Bool.not hb7) rfl) (Rn (hA h3 (hA h4 (hV (.bool true) rfl hZ))) fun e15 h17 h18 h19 => ?_))))
     clear h3 h4
     cases h
     exact kd (show spec_l06Common_c1_Q a1 a2 _ _ from ⟨rfl, h17, h18, h19⟩)) ?_
 revert h hr122
 revert r121
 intro y22 hr122 h
 intro x e20 M21 hq120
 obtain ⟨rfl, h23, h24, h25⟩ := hq120
 refine sN ?_
 rcases ite_some h with ⟨hb26, h⟩ | ⟨hb26, h⟩
 ·refine cT h25 hb26 (sq (Rg (kx (mvO rfl) (kx (mvO rfl) (Rn (hV (.int .i64 0) rfl (hV (.int .i64 1) rfl hZ)) fun e27 h29 h30 => sN (xx (sR ?_)))))))
  clear h23 h24 h25
  cases h
  exact eR (resT h29 (resT h30 res0)) rfl
 obtain ⟨r118, hr119, h⟩ := bind_some h
 refine cF h25 hb26 (xx (sN (sq (sq ?_))))
 refine Ev.cut (Q1 := spec_l06Common_c2_Q a1 a2 r118) (by
     have h := hr119
     refine Rd (kf (mvO h23) (kf (ncP rfl) (kf (faP rfl ⟨ble rfl, blt rfl⟩ rfl) (kf (ldP rfl rfl) (kf (mvO h24) (kf (ncP rfl) (kf (faP rfl ⟨ble rfl, blt rfl⟩ rfl) (kf (ldP rfl rfl) (kf (sNeq rfl rfl) (kf (mvO rfl) ?_))))))))))
     rcases ite_some h with ⟨hb31, h⟩ | ⟨hb31, h⟩
     ·obtain ⟨r33, hx32, h⟩ := bind_some h
      refine kf (guF rfl (congrArg Bool.not hb31) (mvO h23)) (kf (guF rfl (congrArg Bool.not hb31) (ncP rfl)) (kf (guF rfl (congrArg Bool.not hb31) (faP rfl ⟨ble rfl, blt rfl⟩ rfl)) (kf (guF rfl (congrArg Bool.not hb31) (mvO h24)) (kf (guF rfl (congrArg Bool.not hb31) (ncP rfl)) (kf (guF rfl (congrArg Bool.not hb31) (faP rfl ⟨ble rfl, blt rfl⟩ rfl)) (fc (Ev.guF rfl (congrArg Bool.not hb31) (cl (v := .bool r33) rfl (cns rfl (cns rfl rfl)) rfl (spec_l01Same_ok a1.Stock a2.Stock _ hx32) nm)) (kf (guF rfl (congrArg Bool.not hb31) (uNot rfl)) (kf (pkF rfl (congrArg Bool.not hb31) rfl) (fZ (Rn (hV (.pt none (.str a1.Debtor :: (.bool a1.Stock.Stock :: (.sl none (a1.Stock.Notches.map Notch.c) :: ((arC (cI .i8) 0 a1.Stock.Grain) ++ ((.sl none (a1.Marks.map Mark.c) :: []) : List AV)))))) h23 (hV (.pt none (.str a2.Debtor :: (.bool a2.Stock.Stock :: (.sl none (a2.Stock.Notches.map Notch.c) :: ((arC (cI .i8) 0 a2.Stock.Grain) ++ ((.sl none (a2.Marks.map Mark.c) :: []) : List AV)))))) h24 (hN rfl hZ))) fun e34 h36 h37 h38 => ?_))))))))))
      clear h23 h24 h25
      cases h
      exact kd (show spec_l06Common_c2_Q a1 a2 _ _ from ⟨rfl, h36, h37, h38⟩)
     refine kf (gsF rfl (congrArg Bool.not hb31)) (kf (gsF rfl (congrArg Bool.not hb31)) (kf (gsF rfl (congrArg Bool.not hb31)) (kf (gsF rfl (congrArg Bool.not hb31)) (kf (gsF rfl (congrArg Bool.not hb31)) (kf (gsF rfl (congrArg Bool.not hb31)) (fc (Ev.gsF rfl (congrArg Bool.not hb31)) (kf (gsF rfl (congrArg Bool.not hb31)) (kf (pkT rfl (congrArg Bool.not hb31) rfl) (fZ (Rn (hV (.pt none (.str a1.Debtor :: (.bool a1.Stock.Stock :: (.sl none (a1.Stock.Notches.map Notch.c) :: ((arC (cI .i8) 0 a1.Stock.Grain) ++ ((.sl none (a1.Marks.map Mark.c) :: []) : List AV)))))) h23 (hV (.pt none (.str a2.Debtor :: (.bool a2.Stock.Stock :: (.sl none (a2.Stock.Notches.map Notch.c) :: ((arC (cI .i8) 0 a2.Stock.Grain) ++ ((.sl none (a2.Marks.map Mark.c) :: []) : List AV)))))) h24 (hV (.bool true) rfl hZ))) fun e39 h41 h42 h43 => ?_))))))))))
     clear h23 h24 h25
     cases h
     exact kd (show spec_l06Common_c2_Q a1 a2 _ _ from ⟨rfl, h41, h42, h43⟩)) ?_
 revert h hr119
 revert r118
 intro y46 hr119 h
 intro x e44 M45 hq117
 obtain ⟨rfl, h47, h48, h49⟩ := hq117
 refine sN ?_
 rcases ite_some h with ⟨hb50, h⟩ | ⟨hb50, h⟩
 ·refine cT h49 hb50 (sq (Rg (kx (mvO rfl) (kx (mvO rfl) (Rn (hV (.int .i64 0) rfl (hV (.int .i64 4) rfl hZ)) fun e51 h53 h54 => sN (xx (sR ?_)))))))
  clear h47 h48 h49
  cases h
  exact eR (resT h53 (resT h54 res0)) rfl
 obtain ⟨y111, hr107, h⟩ := bind_some h
 refine cF h49 hb50 (xx (sN (sq (Rg (kx (mvO rfl) (Rn (hV (.pt none (.str a1.Debtor :: (.bool a1.Stock.Stock :: (.sl none (a1.Stock.Notches.map Notch.c) :: ((arC (cI .i8) 0 a1.Stock.Grain) ++ ((.sl none (a1.Marks.map Mark.c) :: []) : List AV)))))) h47 (hV (.pt none (.str a2.Debtor :: (.bool a2.Stock.Stock :: (.sl none (a2.Stock.Notches.map Notch.c) :: ((arC (cI .i8) 0 a2.Stock.Grain) ++ ((.sl none (a2.Marks.map Mark.c) :: []) : List AV)))))) h48 (hV (.int .i64 0) rfl hZ))) fun e55 h57 h58 h59 => sN (sq (bl (Ev.loop (RS := spec_l06Common_b1_RS a1 a2) (RR := spec_l06Common_b1_RR a1 a2) (fun s r h e M hs => spec_l06Common_b1_ok a1 a2 s r h e M hs) hr107 ⟨h57, h58, h59⟩ fun x e109 M110 hq108 => ?_)))))))))
 clear h47 h48 h49
 obtain ⟨rfl, h112⟩ := hq108
 refine bE (sN (sq (Rg (kx (mvO h112) (kx (mvO rfl) (kx (mvO rfl) (Rn (hN rfl (hV (.int .i64 0) rfl hZ)) fun e113 h115 h116 => sN (xx ?_))))))))
 clear h112
 cases h
 exact eR (resT h115 (resT h116 res0)) rfl
/-! ### loop.example/g01263/impl.ValidHalf (f42) -/
def impl_ValidHalf_c1_Q (a1 : Half) (g : Bool) (q : Out) : Prop := q.1 = .nrm ∧ eget q.2.1 1 = .pt none (.bool a1.Stock :: (.sl none (a1.Notches.map Notch.c) :: ((arC (cI .i8) 0 a1.Grain) ++ ([] : List AV)))) ∧ eget q.2.1 14 = .bool g
def impl_ValidHalf_c3_Q (a1 : Half) (s1_1 : Int) (x58 : Notch) (i903_1 : Nat) (g : Bool) (q : Out) : Prop := q.1 = .nrm ∧ eget q.2.1 1 = .pt none (.bool a1.Stock :: (.sl none (a1.Notches.map Notch.c) :: ((arC (cI .i8) 0 a1.Grain) ++ ([] : List AV)))) ∧ eget q.2.1 3 = .int .i64 s1_1 ∧ eget q.2.1 4 = .loc i903_1 1 0 0 ∧ eget q.2.1 16 = .sl none (a1.Notches.map Notch.c) ∧ eget q.2.1 17 = .int .i64 (a1.Notches.length : Int) ∧ eget q.2.1 18 = .int .i64 s1_1 ∧ eget q.2.1 37 = .bool g ∧ q.2.2[i903_1]? = some (.live ⟨.box, 115, 2, [[.int .i8 x58.Kind, .int .i16 x58.At]]⟩)
abbrev impl_ValidHalf_b1_S := Int
abbrev impl_ValidHalf_b1_R := Unit ⊕ Unit
def impl_ValidHalf_b1_RS (a1 : Half) (s : impl_ValidHalf_b1_S) (e : Env) (M : Mem) : Prop := eget e 1 = .pt none (.bool a1.Stock :: (.sl none (a1.Notches.map Notch.c) :: ((arC (cI .i8) 0 a1.Grain) ++ ([] : List AV)))) ∧ eget e 16 = .sl none (a1.Notches.map Notch.c) ∧ eget e 17 = .int .i64 (a1.Notches.length : Int) ∧ eget e 18 = .int .i64 s
def impl_ValidHalf_b1_RR (a1 : Half) (r : impl_ValidHalf_b1_R) (x : Ex) (e : Env) (M : Mem) : Prop :=
  match r with
  | (.inl g) => x = .ret ∧ eget e 2 = .bool false
  | (.inr g) => x = .ext 0 ∧ True
noncomputable def impl_ValidHalf_b1 (a1 : Half) : impl_ValidHalf_b1_S → Option (impl_ValidHalf_b1_S ⊕ impl_ValidHalf_b1_R) := fun s1_1 =>
 if (decide (s1_1 < (a1.Notches.length : Int))) = true then
  (rd a1.Notches s1_1).bind fun x58 =>
  ((impl_isKind (IntKind.i64.wrap x58.Kind)).bind fun r76 =>
  if r76 = true then
   if (decide (x58.At < 0)) = true then
    some true
   else
    (impl_Notch_end x58).bind fun r89 =>
    some (decide (r89 > 200))
  else
   some true).bind fun y110 =>
  if y110 = true then
   some (.inr (.inl ()))
  else
   if (decide (s1_1 > 0)) = true then
    (rd a1.Notches (IntKind.i64.wrap (s1_1 - 1))).bind fun x124 =>
    (impl_Notch_end x124).bind fun r127 =>
    if (decide ((IntKind.i64.wrap x58.At) ≤ r127)) = true then
     some (.inr (.inl ()))
    else
     (rd a1.Notches (IntKind.i64.wrap (s1_1 - 1))).bind fun x139 =>
     if (decide (x58.Kind > x139.Kind)) = true then
      some (.inr (.inl ()))
     else
      some (.inl (IntKind.i64.wrap (s1_1 + 1)))
   else
    some (.inl (IntKind.i64.wrap (s1_1 + 1)))
 else
  some (.inr (.inr ()))
theorem impl_ValidHalf_b1_ok (a1 : Half) (s : impl_ValidHalf_b1_S) (r : impl_ValidHalf_b1_S ⊕ impl_ValidHalf_b1_R) (h : impl_ValidHalf_b1 a1 s = some r) (e : Env) (M : Mem) (hs : impl_ValidHalf_b1_RS a1 s e M) : Ev (fun k => (f42_l4 (CN k) k (prune [1, 16, 17, 18] e) M).bind fun q => some q) (bQ (impl_ValidHalf_b1_RS a1) (impl_ValidHalf_b1_RR a1) r) := by
 revert h hs
 revert s
 intro s1_1 h hs
 unfold impl_ValidHalf_b1 at h
 obtain ⟨h42, h44, h46, h48⟩ := hs
 generalize he41 : prune [1, 16, 17, 18] e = e40
 have h43 := envp he41.symm rfl h42
 have h45 := envp he41.symm rfl h44
 have h47 := envp he41.symm rfl h46
 have h49 := envp he41.symm rfl h48
 refine sq (Rg (kx (bLss h49 h47) (Rn (hV (.pt none (.bool a1.Stock :: (.sl none (a1.Notches.map Notch.c) :: ((arC (cI .i8) 0 a1.Grain) ++ ([] : List AV))))) h43 (hV (.sl none (a1.Notches.map Notch.c)) h45 (hV (.int .i64 (a1.Notches.length : Int)) h47 (hV (.int .i64 s1_1) h49 (hN rfl hZ))))) fun e50 h52 h53 h54 h55 h56 => sN (sq ?_))))
 clear h43 h45 h47 h49
 rcases ite_some h with ⟨hb57, h⟩ | ⟨hb57, h⟩
 ·obtain ⟨x58, hx59, h⟩ := bind_some h
  refine cT h56 hb57 (xx (sN (sq (bl (sq (Rg (kx (mvO h55) (kx (ixS h53 h55 hx59 Notch.fl) (kx (ldPA rfl rfl rfl) (ku (alO zero115) fun M61 hM62 => ?_))))))))))
  have o63 : M61[M.length]? = some (.live ⟨.box, 115, 2, [[.int .i8 0, .int .i16 0]]⟩) := push_new hM62
  refine kx (mvO rfl) (kw (stO rfl rfl o63 rfl rfl ⟨rfl, ble rfl⟩ rfl rfl) fun M64 hM65 => ?_)
  have o66 : M64[M.length]? = some (.live ⟨.box, 115, 2, [[.int .i8 x58.Kind, .int .i16 x58.At]]⟩) := set_same hM65 o63
  obtain ⟨r172, hr173, h⟩ := bind_some h
  refine Rn (hA h52 (hN rfl (hV (.loc M.length 1 0 0) rfl (hA h53 (hA h54 (hA h55 hZ)))))) fun e67 h69 h70 h71 h72 h73 h74 => sN (sq (sq ?_))
  clear h52 h53 h54 h55 h56
  refine Ev.cut (Q1 := impl_ValidHalf_c3_Q a1 s1_1 x58 M.length r172) (by
      have h := hr173
      obtain ⟨r76, hx75, h⟩ := bind_some h
      refine Rg (kx (faO h71 o66 rfl) (kx (ldO rfl o66 rfl rfl rfl) (kx (cvI rfl) (kc (cl (v := .bool r76) rfl (cns rfl rfl) rfl (impl_isKind_ok (IntKind.i64.wrap x58.Kind) _ hx75) nm) (kx (uNot rfl) (kx (mvO rfl) ?_))))))
      rcases ite_some h with ⟨hb77, h⟩ | ⟨hb77, h⟩
      ·refine kx (guF rfl (congrArg Bool.not hb77) (faO h71 o66 rfl)) (kx (guF rfl (congrArg Bool.not hb77) (ldO rfl o66 rfl rfl rfl)) (kx (guF rfl (congrArg Bool.not hb77) (bLss rfl rfl)) (kx (pkF rfl (congrArg Bool.not hb77) rfl) (kx (mvO rfl) ?_))))
       rcases ite_some h with ⟨hb78, h⟩ | ⟨hb78, h⟩
       ·refine kx (gsF rfl hb78) (kc (Ev.gsF rfl hb78) (kx (gsF rfl hb78) (kx (pkT rfl hb78 rfl) (Rn (hA h69 (hA h70 (hA h71 (hA h72 (hA h73 (hA h74 (hV (.bool true) rfl hZ))))))) fun e79 h81 h82 h83 h84 h85 h86 h87 => ?_))))
        clear h69 h70 h71 h72 h73 h74
        cases h
        exact kd (show impl_ValidHalf_c3_Q a1 s1_1 x58 M.length _ _ from ⟨rfl, h81, h82, h83, h84, h85, h86, h87, o66⟩)
       obtain ⟨r89, hx88, h⟩ := bind_some h
       refine kx (guF rfl hb78 (ldOA h71 o66 rfl rfl (ble rfl) rfl)) (kc (Ev.guF rfl hb78 (cl (v := .int .i64 r89) rfl (cns rfl rfl) rfl (impl_Notch_end_ok x58 _ hx88) nm)) (kx (guF rfl hb78 (bGtr rfl rfl)) (kx (pkF rfl hb78 rfl) (Rn (hA h69 (hA h70 (hA h71 (hA h72 (hA h73 (hA h74 (hN rfl hZ))))))) fun e90 h92 h93 h94 h95 h96 h97 h98 => ?_))))
       clear h69 h70 h71 h72 h73 h74
       cases h
       exact kd (show impl_ValidHalf_c3_Q a1 s1_1 x58 M.length _ _ from ⟨rfl, h92, h93, h94, h95, h96, h97, h98, o66⟩)
      refine kx (gsF rfl (congrArg Bool.not hb77)) (kx (gsF rfl (congrArg Bool.not hb77)) (kx (gsF rfl (congrArg Bool.not hb77)) (kx (pkT rfl (congrArg Bool.not hb77) rfl) (kx (mvO rfl) (kx (gsF rfl rfl) (kc (Ev.gsF rfl rfl) (kx (gsF rfl rfl) (kx (pkT rfl rfl rfl) (Rn (hA h69 (hA h70 (hA h71 (hA h72 (hA h73 (hA h74 (hV (.bool true) rfl hZ))))))) fun e99 h101 h102 h103 h104 h105 h106 h107 => ?_)))))))))
      clear h69 h70 h71 h72 h73 h74
      cases h
      exact kd (show impl_ValidHalf_c3_Q a1 s1_1 x58 M.length _ _ from ⟨rfl, h101, h102, h103, h104, h105, h106, h107, o66⟩)) ?_
  revert h hr173
  revert r172
  intro y110 hr173 h
  intro x e108 M109 hq171
  obtain ⟨rfl, h111, h112, h113, h114, h115, h116, h117, o118⟩ := hq171
  refine sN ?_
  rcases ite_some h with ⟨hb119, h⟩ | ⟨hb119, h⟩
  ·refine cT h117 hb119 (sq (Rg (kx (mvO rfl) (Rn (hV (.bool false) rfl hZ) fun e120 h122 => sN (xx (sR (bR (sR ?_))))))))
   clear h111 h112 h113 h114 h115 h116 h117
   cases h
   exact qR ⟨rfl, h122⟩
  refine cF h117 hb119 (xx (sN (sq (Rd (kf (mvO h112) (kf (bGtr rfl rfl) (kf (mvO rfl) ?_)))))))
  rcases ite_some h with ⟨hb123, h⟩ | ⟨hb123, h⟩
  ·obtain ⟨x124, hx125, h⟩ := bind_some h
   obtain ⟨r127, hx126, h⟩ := bind_some h
   refine kf (guT rfl hb123 (faO h113 o118 rfl)) (kf (guT rfl hb123 (ldO rfl o118 rfl rfl rfl)) (kf (guT rfl hb123 (cvI rfl)) (kf (guT rfl hb123 (faP h111 ⟨ble rfl, blt rfl⟩ rfl)) (kf (guT rfl hb123 (ldP rfl rfl)) (kf (guT rfl hb123 (mvO h112)) (kf (guT rfl hb123 (bSub rfl rfl)) (kf (guT rfl hb123 (ixS rfl rfl hx125 Notch.fl)) (kf (guT rfl hb123 (ldPA rfl rfl rfl)) (fc (Ev.guT rfl hb123 (cl (v := .int .i64 r127) rfl (cns rfl rfl) rfl (impl_Notch_end_ok x124 _ hx126) nm)) (kf (guT rfl hb123 (bLeq rfl rfl)) (kf (guT rfl hb123 (mvO rfl)) ?_)))))))))))
   rcases ite_some h with ⟨hb128, h⟩ | ⟨hb128, h⟩
   ·refine kf (gsF rfl hb128) (kf (gsF rfl hb128) (kf (gsF rfl hb128) (kf (gsF rfl hb128) (kf (gsF rfl hb128) (kf (gsF rfl hb128) (kf (gsF rfl hb128) (kf (gsF rfl hb128) (kf (gsF rfl hb128) (kf (gsF rfl hb128) (kf (guT rfl hb123 (pkT rfl hb128 rfl)) (kf (pkT rfl hb123 rfl) (fZ (Rn (hV (.pt none (.bool a1.Stock :: (.sl none (a1.Notches.map Notch.c) :: ((arC (cI .i8) 0 a1.Grain) ++ ([] : List AV))))) h111 (hV (.sl none (a1.Notches.map Notch.c)) h114 (hV (.int .i64 (a1.Notches.length : Int)) h115 (hV (.int .i64 s1_1) h116 (hV (.bool true) rfl hZ))))) fun e129 h131 h132 h133 h134 h135 => sN (cT h135 rfl (sq (Rg (kx (mvO rfl) (Rn (hV (.bool false) rfl hZ) fun e136 h138 => sN (xx (bR (sR ?_)))))))))))))))))))))
    clear h111 h112 h113 h114 h115 h116 h117 h131 h132 h133 h134 h135
    cases h
    exact qR ⟨rfl, h138⟩
   obtain ⟨x139, hx140, h⟩ := bind_some h
   refine kf (guF rfl hb128 (faO h113 o118 rfl)) (kf (guF rfl hb128 (ldO rfl o118 rfl rfl rfl)) (kf (guF rfl hb128 (faP h111 ⟨ble rfl, blt rfl⟩ rfl)) (kf (guF rfl hb128 (ldP rfl rfl)) (kf (guF rfl hb128 (mvO h112)) (kf (guF rfl hb128 (bSub rfl rfl)) (kf (guF rfl hb128 (ixS rfl rfl hx140 Notch.fl)) (kf (guF rfl hb128 (faP rfl ⟨ble rfl, blt rfl⟩ rfl)) (kf (guF rfl hb128 (ldP rfl rfl)) (kf (guF rfl hb128 (bGtr rfl rfl)) (kf (guT rfl hb123 (pkF rfl hb128 rfl)) (kf (pkT rfl hb123 rfl) (fZ (Rn (hV (.pt none (.bool a1.Stock :: (.sl none (a1.Notches.map Notch.c) :: ((arC (cI .i8) 0 a1.Grain) ++ ([] : List AV))))) h111 (hV (.sl none (a1.Notches.map Notch.c)) h114 (hV (.int .i64 (a1.Notches.length : Int)) h115 (hV (.int .i64 s1_1) h116 (hN rfl hZ))))) fun e141 h143 h144 h145 h146 h147 => sN ?_)))))))))))))
   clear h111 h112 h113 h114 h115 h116 h117
   rcases ite_some h with ⟨hb148, h⟩ | ⟨hb148, h⟩
   ·refine cT h147 hb148 (sq (Rg (kx (mvO rfl) (Rn (hV (.bool false) rfl hZ) fun e149 h151 => sN (xx (bR (sR ?_)))))))
    clear h143 h144 h145 h146 h147
    cases h
    exact qR ⟨rfl, h151⟩
   refine cF h147 hb148 (xx (bN (sN (Rg (kx (bAdd h146 rfl) (kx (mvO rfl) (Rn (hA h143 (hA h144 (hA h145 (hN rfl hZ)))) fun e152 h154 h155 h156 h157 => ?_)))))))
   clear h143 h144 h145 h147
   cases h
   exact qN ⟨h154, h155, h156, h157⟩
  refine kf (gsT rfl hb123) (kf (gsT rfl hb123) (kf (gsT rfl hb123) (kf (gsT rfl hb123) (kf (gsT rfl hb123) (kf (gsT rfl hb123) (kf (gsT rfl hb123) (kf (gsT rfl hb123) (kf (gsT rfl hb123) (fc (Ev.gsT rfl hb123) (kf (gsT rfl hb123) (kf (gsT rfl hb123) (kf (gsU rfl) (kf (gsU rfl) (kf (gsU rfl) (kf (gsU rfl) (kf (gsU rfl) (kf (gsU rfl) (kf (gsU rfl) (kf (gsU rfl) (kf (gsU rfl) (kf (gsU rfl) (kf (gsT rfl hb123) (kf (pkF rfl hb123 rfl) (fZ (Rn (hV (.pt none (.bool a1.Stock :: (.sl none (a1.Notches.map Notch.c) :: ((arC (cI .i8) 0 a1.Grain) ++ ([] : List AV))))) h111 (hV (.sl none (a1.Notches.map Notch.c)) h114 (hV (.int .i64 (a1.Notches.length : Int)) h115 (hV (.int .i64 s1_1) h116 (hV (.bool false) rfl hZ))))) fun e158 h160 h161 h162 h163 h164 => sN (cF h164 rfl (xx (bN (sN (Rg (kx (bAdd h163 rfl) (kx (mvO rfl) (Rn (hA h160 (hA h161 (hA h162 (hN rfl hZ)))) fun e165 h167 h168 h169 h170 => ?_)))))))))))))))))))))))))))))))))
  clear h111 h112 h113 h114 h115 h116 h117 h160 h161 h162 h164
  cases h
  exact qN ⟨h167, h168, h169, h170⟩
 refine cF h56 hb57 (xx (sE ?_))
 cases h
 exact qE ⟨rfl, trivial⟩
noncomputable def impl_ValidHalf (a1 : Half) : Option Bool :=
 (if (decide ((a1.Notches.length : Int) > 60)) = true then
  some true
 else
  (impl_ValidGrain a1.Grain).bind fun r10 =>
  some (!r10)).bind fun y17 =>
 if y17 = true then
  some false
 else
  (Lw (impl_ValidHalf_b1 a1) 0).bind fun r => match r with
  | (.inl _) =>
   some false
  | (.inr _) =>
   some true
def impl_ValidHalf_enc (r : Bool) : AV := .bool r
theorem impl_ValidHalf_ok (a1 : Half) (r : Bool) (h : impl_ValidHalf a1 = some r) : Ev (fun k => CN k 42 [.agg (.bool a1.Stock :: (.sl none (a1.Notches.map Notch.c) :: ((arC (cI .i8) 0 a1.Grain) ++ ([] : List AV))))] []) (fun p => rRes p.2 p.1 = impl_ValidHalf_enc r) := by
 unfold impl_ValidHalf at h
 obtain ⟨r186, hr187, h⟩ := bind_some h
 refine Ev.enter (F := fun k => f42 (CN k) k) (fun k => callN_eq rfl Try.func42 rfl rfl rfl (by decide +kernel) (f42_eq _ _)) (sq (Rg (kx (bxI rfl rfl ⟨rfl, rfl, by decide⟩) (kx (mvO rfl) (Rn (hN rfl hZ) fun e1 h3 => sN (sq (sq ?_)))))))
 refine Ev.cut (Q1 := impl_ValidHalf_c1_Q a1 r186) (by
     have h := hr187
     refine Rg (kx (faP h3 ⟨ble rfl, blt rfl⟩ rfl) (kx (ldP rfl rfl) (kx (lnS Try.underlying32 rfl) (kx (bGtr rfl rfl) (kx (mvO rfl) ?_)))))
     rcases ite_some h with ⟨hb4, h⟩ | ⟨hb4, h⟩
     ·refine kx (gsF rfl hb4) (kx (gsF rfl hb4) (kc (Ev.gsF rfl hb4) (kx (gsF rfl hb4) (kx (pkT rfl hb4 rfl) (Rn (hA h3 (hV (.bool true) rfl hZ)) fun e5 h7 h8 => ?_)))))
      clear h3
      cases h
      exact kd (show impl_ValidHalf_c1_Q a1 _ _ from ⟨rfl, h7, h8⟩)
     obtain ⟨r10, hx9, h⟩ := bind_some h
     refine kx (guF rfl hb4 (faP h3 ⟨ble rfl, blt rfl⟩ rfl)) (kx (guF rfl hb4 (ldPA rfl rfl rfl)) (kc (Ev.guF rfl hb4 (cl (v := .bool r10) rfl (cns rfl rfl) rfl (impl_ValidGrain_ok a1.Grain _ hx9) nm)) (kx (guF rfl hb4 (uNot rfl)) (kx (pkF rfl hb4 rfl) (Rn (hA h3 (hN rfl hZ)) fun e11 h13 h14 => ?_)))))
     clear h3
     cases h
     exact kd (show impl_ValidHalf_c1_Q a1 _ _ from ⟨rfl, h13, h14⟩)) ?_
 revert h hr187
 revert r186
 intro y17 hr187 h
 intro x e15 M16 hq185
 obtain ⟨rfl, h18, h19⟩ := hq185
 refine sN ?_
 rcases ite_some h with ⟨hb20, h⟩ | ⟨hb20, h⟩
 ·refine cT h19 hb20 (sq (Rg (kx (mvO rfl) (Rn (hV (.bool false) rfl hZ) fun e21 h23 => sN (xx (sR ?_))))))
  clear h18 h19
  cases h
  exact eR (resT h23 res0) rfl
 obtain ⟨r174, hr175, h⟩ := bind_some h
 refine cF h19 hb20 (xx (sN (sq (sq (Rg (kx (faP h18 ⟨ble rfl, blt rfl⟩ rfl) (kx (ldP rfl rfl) (kx (lnS Try.underlying32 rfl) (kx (mvO rfl) (Rn (hV (.pt none (.bool a1.Stock :: (.sl none (a1.Notches.map Notch.c) :: ((arC (cI .i8) 0 a1.Grain) ++ ([] : List AV))))) h18 (hN rfl (hN rfl (hV (.int .i64 0) rfl hZ)))) fun e24 h26 h27 h28 h29 => sN (bl ?_)))))))))))
 clear h18 h19
 rcases r174 with _ | _
 ·refine Ev.loop (RS := impl_ValidHalf_b1_RS a1) (RR := impl_ValidHalf_b1_RR a1) (fun s r h e M hs => impl_ValidHalf_b1_ok a1 s r h e M hs) hr175 ⟨h26, h27, h28, h29⟩ fun x e177 M178 hq176 => ?_
  obtain ⟨rfl, h179⟩ := hq176
  refine bR (sR ?_)
  cases h
  exact eR (resT h179 res0) rfl
 refine Ev.loop (RS := impl_ValidHalf_b1_RS a1) (RR := impl_ValidHalf_b1_RR a1) (fun s r h e M hs => impl_ValidHalf_b1_ok a1 s r h e M hs) hr175 ⟨h26, h27, h28, h29⟩ fun x e180 M181 hq176 => ?_
 obtain ⟨rfl, _⟩ := hq176
 refine bE (sN (sq (Rg (kx (mvO rfl) (Rn (hV (.bool true) rfl hZ) fun e182 h184 => sN (xx ?_))))))
 cases h
 exact eR (resT h184 res0) rfl
/-! ### loop.example/g01263/impl.isName (f41) -/
noncomputable def impl_isName (a1 : List UInt8) : Option Bool :=
 (impl_isLetters a1 12).bind fun r5 =>
 some r5
def impl_isName_enc (r : Bool) : AV := .bool r
theorem impl_isName_ok (a1 : List UInt8) (r : Bool) (h : impl_isName a1 = some r) : Ev (fun k => CN k 41 [.str a1] []) (fun p => rRes p.2 p.1 = impl_isName_enc r) := by
 unfold impl_isName at h
 obtain ⟨r5, hx4, h⟩ := bind_some h
 refine Ev.enter (F := fun k => f41 (CN k) k) (fun k => callN_eq rfl Try.func41 rfl rfl rfl (by decide +kernel) (f41_eq _ _)) (sq (Rg (kx (mvO rfl) (Rn (hN rfl hZ) fun e1 h3 => sN (sq (Rg (kx (mvO h3) (kc (cl (v := .bool r5) rfl (cns rfl (cns rfl rfl)) rfl (impl_isLetters_ok a1 12 _ hx4) nm) (kx (mvO rfl) (Rn (hN rfl hZ) fun e6 h8 => sN (xx ?_)))))))))))
 clear h3
 cases h
 exact eR (resT h8 res0) rfl
/-! ### loop.example/g01263/laws.eqMarkS (f39) -/
abbrev laws_eqMarkS_b1_S := Int
abbrev laws_eqMarkS_b1_R := Unit ⊕ Unit
def laws_eqMarkS_b1_RS (a1 : List Mark) (a2 : List Mark) (s : laws_eqMarkS_b1_S) (e : Env) (M : Mem) : Prop := eget e 0 = .sl none (a1.map Mark.c) ∧ eget e 1 = .sl none (a2.map Mark.c) ∧ eget e 5 = .int .i64 s
def laws_eqMarkS_b1_RR (a1 : List Mark) (a2 : List Mark) (r : laws_eqMarkS_b1_R) (x : Ex) (e : Env) (M : Mem) : Prop :=
  match r with
  | (.inl g) => x = .ret ∧ eget e 4 = .bool false
  | (.inr g) => x = .ext 0 ∧ True
noncomputable def laws_eqMarkS_b1 (a1 : List Mark) (a2 : List Mark) : laws_eqMarkS_b1_S → Option (laws_eqMarkS_b1_S ⊕ laws_eqMarkS_b1_R) := fun s1_1 =>
 if (decide (s1_1 < (a1.length : Int))) = true then
  (rd a1 s1_1).bind fun x42 =>
  (rd a2 s1_1).bind fun x44 =>
  (laws_eqMark x42 x44).bind fun r47 =>
  if r47 = true then
   some (.inl (IntKind.i64.wrap (s1_1 + 1)))
  else
   some (.inr (.inl ()))
 else
  some (.inr (.inr ()))
theorem laws_eqMarkS_b1_ok (a1 : List Mark) (a2 : List Mark) (s : laws_eqMarkS_b1_S) (r : laws_eqMarkS_b1_S ⊕ laws_eqMarkS_b1_R) (h : laws_eqMarkS_b1 a1 a2 s = some r) (e : Env) (M : Mem) (hs : laws_eqMarkS_b1_RS a1 a2 s e M) : Ev (fun k => (f39_l4 (CN k) k (prune [0, 1, 5] e) M).bind fun q => some q) (bQ (laws_eqMarkS_b1_RS a1 a2) (laws_eqMarkS_b1_RR a1 a2) r) := by
 revert h hs
 revert s
 intro s1_1 h hs
 unfold laws_eqMarkS_b1 at h
 obtain ⟨h29, h31, h33⟩ := hs
 generalize he28 : prune [0, 1, 5] e = e27
 have h30 := envp he28.symm rfl h29
 have h32 := envp he28.symm rfl h31
 have h34 := envp he28.symm rfl h33
 refine sq (sq (Rg (kx (mvO h34) (kx (mvO h30) (kx (lnS Try.underlying36 rfl) (kx (bLss rfl rfl) (Rn (hV (.sl none (a1.map Mark.c)) h30 (hV (.sl none (a2.map Mark.c)) h32 (hV (.int .i64 s1_1) h34 (hN rfl hZ)))) fun e35 h37 h38 h39 h40 => sN ?_)))))))
 clear h30 h32 h34
 rcases ite_some h with ⟨hb41, h⟩ | ⟨hb41, h⟩
 ·obtain ⟨x42, hx43, h⟩ := bind_some h
  obtain ⟨x44, hx45, h⟩ := bind_some h
  obtain ⟨r47, hx46, h⟩ := bind_some h
  refine cT h40 hb41 (xx (sN (sq (bl (sq (Rd (kf (mvO h37) (kf (mvO h39) (kf (ixS rfl rfl hx43 Mark.fl) (kf (ldPA rfl rfl rfl) (kf (mvO h38) (kf (mvO h39) (kf (ixS rfl rfl hx45 Mark.fl) (kf (ldPA rfl rfl rfl) (fc (cl (v := .bool r47) rfl (cns rfl (cns rfl rfl)) rfl (laws_eqMark_ok x42 x44 _ hx46) nm) (kf (uNot rfl) (fZ (Rn (hA h37 (hA h38 (hA h39 (hN rfl hZ)))) fun e48 h50 h51 h52 h53 => sN ?_))))))))))))))))))
  clear h37 h38 h39 h40
  rcases ite_some h with ⟨hb54, h⟩ | ⟨hb54, h⟩
  ·refine cF h53 (congrArg Bool.not hb54) (xx (bN (sN (Rg (kx (mvO h52) (kx (bAdd rfl rfl) (kx (mvO rfl) (Rn (hA h50 (hA h51 (hN rfl hZ))) fun e55 h57 h58 h59 => ?_))))))))
   clear h50 h51 h53
   cases h
   exact qN ⟨h57, h58, h59⟩
  refine cT h53 (congrArg Bool.not hb54) (sq (Rg (kx (mvO rfl) (Rn (hV (.bool false) rfl hZ) fun e60 h62 => sN (xx (bR (sR ?_)))))))
  clear h50 h51 h52 h53
  cases h
  exact qR ⟨rfl, h62⟩
 refine cF h40 hb41 (xx (sE ?_))
 cases h
 exact qE ⟨rfl, trivial⟩
noncomputable def laws_eqMarkS (a1 : List Mark) (a2 : List Mark) : Option Bool :=
 if ((a1.length : Int) != (a2.length : Int)) = true then
  some false
 else
  (Lw (laws_eqMarkS_b1 a1 a2) 0).bind fun r => match r with
  | (.inl _) =>
   some false
  | (.inr _) =>
   some true
def laws_eqMarkS_enc (r : Bool) : AV := .bool r
theorem laws_eqMarkS_ok (a1 : List Mark) (a2 : List Mark) (r : Bool) (h : laws_eqMarkS a1 a2 = some r) : Ev (fun k => CN k 39 [.sl none (a1.map Mark.c), .sl none (a2.map Mark.c)] []) (fun p => rRes p.2 p.1 = laws_eqMarkS_enc r) := by
 unfold laws_eqMarkS at h
 refine Ev.enter (F := fun k => f39 (CN k) k) (fun k => callN_eq rfl Try.func39 rfl rfl rfl (by decide +kernel) (f39_eq _ _)) (sq (Rg (kx (mvO rfl) (Rn (hN rfl (hN rfl hZ)) fun e1 h3 h4 => sN (sq (sq (Rg (kx (mvO h3) (kx (lnS Try.underlying36 rfl) (kx (mvO h4) (kx (lnS Try.underlying36 rfl) (kx (bNeq rfl rfl) (Rn (hA h3 (hA h4 (hN rfl hZ))) fun e5 h7 h8 h9 => sN ?_)))))))))))))
 clear h3 h4
 rcases ite_some h with ⟨hb10, h⟩ | ⟨hb10, h⟩
 ·refine cT h9 hb10 (sq (Rg (kx (mvO rfl) (Rn (hV (.bool false) rfl hZ) fun e11 h13 => sN (xx (sR ?_))))))
  clear h7 h8 h9
  cases h
  exact eR (resT h13 res0) rfl
 obtain ⟨r63, hr64, h⟩ := bind_some h
 refine cF h9 hb10 (xx (sN (sq (sq (Rg (kx (mvO rfl) (Rn (hA h7 (hA h8 (hV (.int .i64 0) rfl hZ))) fun e14 h16 h17 h18 => sN (bl ?_))))))))
 clear h7 h8 h9
 rcases r63 with _ | _
 ·refine Ev.loop (RS := laws_eqMarkS_b1_RS a1 a2) (RR := laws_eqMarkS_b1_RR a1 a2) (fun s r h e M hs => laws_eqMarkS_b1_ok a1 a2 s r h e M hs) hr64 ⟨h16, h17, h18⟩ fun x e66 M67 hq65 => ?_
  obtain ⟨rfl, h68⟩ := hq65
  refine bR (sR ?_)
  cases h
  exact eR (resT h68 res0) rfl
 refine Ev.loop (RS := laws_eqMarkS_b1_RS a1 a2) (RR := laws_eqMarkS_b1_RR a1 a2) (fun s r h e M hs => laws_eqMarkS_b1_ok a1 a2 s r h e M hs) hr64 ⟨h16, h17, h18⟩ fun x e69 M70 hq65 => ?_
 obtain ⟨rfl, _⟩ := hq65
 refine bE (sN (sq (Rg (kx (mvO rfl) (Rn (hV (.bool true) rfl hZ) fun e71 h73 => sN (xx ?_))))))
 cases h
 exact eR (resT h73 res0) rfl
/-! ### loop.example/g01263/laws.eqHalf (f38) -/
noncomputable def laws_eqHalf (a1 : Half) (a2 : Half) : Option Bool :=
 if (a1.Stock == a2.Stock) = true then
  (laws_eqNotchS a1.Notches a2.Notches).bind fun r12 =>
  if r12 = true then
   (laws_eqGrain a1.Grain a2.Grain).bind fun r20 =>
   if r20 = true then
    some true
   else
    some false
  else
   some false
 else
  some false
def laws_eqHalf_enc (r : Bool) : AV := .bool r
theorem laws_eqHalf_ok (a1 : Half) (a2 : Half) (r : Bool) (h : laws_eqHalf a1 a2 = some r) : Ev (fun k => CN k 38 [.agg (.bool a1.Stock :: (.sl none (a1.Notches.map Notch.c) :: ((arC (cI .i8) 0 a1.Grain) ++ ([] : List AV)))), .agg (.bool a2.Stock :: (.sl none (a2.Notches.map Notch.c) :: ((arC (cI .i8) 0 a2.Grain) ++ ([] : List AV))))] []) (fun p => rRes p.2 p.1 = laws_eqHalf_enc r) := by
 unfold laws_eqHalf at h
 refine Ev.enter (F := fun k => f38 (CN k) k) (fun k => callN_eq rfl Try.func38 rfl rfl rfl (by decide +kernel) (f38_eq _ _)) (sq (Rg (kx (bxI rfl rfl ⟨rfl, rfl, by decide⟩) (kx (bxI rfl rfl ⟨rfl, rfl, by decide⟩) (kx (mvO rfl) (Rn (hN rfl (hN rfl hZ)) fun e1 h3 h4 => sN (sq (sq (Rg (kx (faP h3 ⟨ble rfl, blt rfl⟩ rfl) (kx (ldP rfl rfl) (kx (faP h4 ⟨ble rfl, blt rfl⟩ rfl) (kx (ldP rfl rfl) (kx (oNeq (by kernel_rfl) rfl rfl) (Rn (hA h3 (hA h4 (hN rfl hZ))) fun e5 h7 h8 h9 => sN ?_)))))))))))))))
 clear h3 h4
 rcases ite_some h with ⟨hb10, h⟩ | ⟨hb10, h⟩
 ·obtain ⟨r12, hx11, h⟩ := bind_some h
  refine cF h9 (congrArg Bool.not hb10) (xx (sN (sq (sq (Rg (kx (faP h7 ⟨ble rfl, blt rfl⟩ rfl) (kx (ldP rfl rfl) (kx (faP h8 ⟨ble rfl, blt rfl⟩ rfl) (kx (ldP rfl rfl) (kc (cl (v := .bool r12) rfl (cns rfl (cns rfl rfl)) rfl (laws_eqNotchS_ok a1.Notches a2.Notches _ hx11) nm) (kx (uNot rfl) (Rn (hA h7 (hA h8 (hN rfl hZ))) fun e13 h15 h16 h17 => sN ?_))))))))))))
  clear h7 h8 h9
  rcases ite_some h with ⟨hb18, h⟩ | ⟨hb18, h⟩
  ·obtain ⟨r20, hx19, h⟩ := bind_some h
   refine cF h17 (congrArg Bool.not hb18) (xx (sN (sq (sq (Rg (kx (faP h15 ⟨ble rfl, blt rfl⟩ rfl) (kx (ldPA rfl rfl rfl) (kx (faP h16 ⟨ble rfl, blt rfl⟩ rfl) (kx (ldPA rfl rfl rfl) (kc (cl (v := .bool r20) rfl (cns rfl (cns rfl rfl)) rfl (laws_eqGrain_ok a1.Grain a2.Grain _ hx19) nm) (kx (uNot rfl) (Rn (hN rfl hZ) fun e21 h23 => sN ?_))))))))))))
   clear h15 h16 h17
   rcases ite_some h with ⟨hb24, h⟩ | ⟨hb24, h⟩
   ·refine cF h23 (congrArg Bool.not hb24) (xx (sN (sq (Rg (kx (mvO rfl) (Rn (hV (.bool true) rfl hZ) fun e25 h27 => sN (xx ?_)))))))
    clear h23
    cases h
    exact eR (resT h27 res0) rfl
   refine cT h23 (congrArg Bool.not hb24) (sq (Rg (kx (mvO rfl) (Rn (hV (.bool false) rfl hZ) fun e28 h30 => sN (xx (sR ?_))))))
   clear h23
   cases h
   exact eR (resT h30 res0) rfl
  refine cT h17 (congrArg Bool.not hb18) (sq (Rg (kx (mvO rfl) (Rn (hV (.bool false) rfl hZ) fun e31 h33 => sN (xx (sR ?_))))))
  clear h15 h16 h17
  cases h
  exact eR (resT h33 res0) rfl
 refine cT h9 (congrArg Bool.not hb10) (sq (Rg (kx (mvO rfl) (Rn (hV (.bool false) rfl hZ) fun e34 h36 => sN (xx (sR ?_))))))
 clear h7 h8 h9
 cases h
 exact eR (resT h36 res0) rfl
/-! ### loop.example/g01263/impl.SameHalf (f36) -/
noncomputable def impl_SameHalf (a1 : Half) (a2 : Half) : Option Bool :=
 if (a1.Stock == a2.Stock) = true then
  if (arB 16 (fun j => a1.Grain.get 0 j == a2.Grain.get 0 j) true) = true then
   (slices_Equal_Notch a1.Notches a2.Notches).bind fun r8 =>
   some r8
  else
   some false
 else
  some false
def impl_SameHalf_enc (r : Bool) : AV := .bool r
theorem impl_SameHalf_ok (a1 : Half) (a2 : Half) (r : Bool) (h : impl_SameHalf a1 a2 = some r) : Ev (fun k => CN k 36 [.agg (.bool a1.Stock :: (.sl none (a1.Notches.map Notch.c) :: ((arC (cI .i8) 0 a1.Grain) ++ ([] : List AV)))), .agg (.bool a2.Stock :: (.sl none (a2.Notches.map Notch.c) :: ((arC (cI .i8) 0 a2.Grain) ++ ([] : List AV))))] []) (fun p => rRes p.2 p.1 = impl_SameHalf_enc r) := by
 unfold impl_SameHalf at h
 refine Ev.enter (F := fun k => f36 (CN k) k) (fun k => callN_eq rfl Try.func36 rfl rfl rfl (by decide +kernel) (f36_eq _ _)) (sq (Rg (kx (bxI rfl rfl ⟨rfl, rfl, by decide⟩) (kx (bxI rfl rfl ⟨rfl, rfl, by decide⟩) (kx (mvO rfl) (Rn (hN rfl (hN rfl hZ)) fun e1 h3 h4 => sN (sq (Rg (kx (faP h3 ⟨ble rfl, blt rfl⟩ rfl) (kx (ldP rfl rfl) (kx (faP h4 ⟨ble rfl, blt rfl⟩ rfl) (kx (ldP rfl rfl) (kx (oEql (by kernel_rfl) rfl rfl) (kx (mvO rfl) ?_))))))))))))))
 rcases ite_some h with ⟨hb5, h⟩ | ⟨hb5, h⟩
 ·refine kx (guT rfl hb5 (faP h3 ⟨ble rfl, blt rfl⟩ rfl)) (kx (guT rfl hb5 (ldPA rfl rfl rfl)) (kx (guT rfl hb5 (faP h4 ⟨ble rfl, blt rfl⟩ rfl)) (kx (guT rfl hb5 (ldPA rfl rfl rfl)) (kx (guT rfl hb5 (gEql rfl rfl (by kernel_rfl) rfl)) (kx (pkT rfl hb5 rfl) (kx (mvO rfl) ?_))))))
  rcases ite_some h with ⟨hb6, h⟩ | ⟨hb6, h⟩
  ·obtain ⟨r8, hx7, h⟩ := bind_some h
   refine kx (guT rfl hb6 (faP h3 ⟨ble rfl, blt rfl⟩ rfl)) (kx (guT rfl hb6 (ldP rfl rfl)) (kx (guT rfl hb6 (faP h4 ⟨ble rfl, blt rfl⟩ rfl)) (kx (guT rfl hb6 (ldP rfl rfl)) (kc (Ev.guT rfl hb6 (cl (v := .bool r8) rfl (cns rfl (cns rfl rfl)) rfl (slices_Equal_Notch_ok a1.Notches a2.Notches _ hx7) nm)) (kx (pkT rfl hb6 rfl) (kx (mvO rfl) (Rn (hN rfl hZ) fun e9 h11 => sN (xx ?_))))))))
   clear h3 h4
   cases h
   exact eR (resT h11 res0) rfl
  refine kx (gsT rfl hb6) (kx (gsT rfl hb6) (kx (gsT rfl hb6) (kx (gsT rfl hb6) (kc (Ev.gsT rfl hb6) (kx (pkF rfl hb6 rfl) (kx (mvO rfl) (Rn (hV (.bool false) rfl hZ) fun e12 h14 => sN (xx ?_))))))))
  clear h3 h4
  cases h
  exact eR (resT h14 res0) rfl
 refine kx (gsT rfl hb5) (kx (gsT rfl hb5) (kx (gsT rfl hb5) (kx (gsT rfl hb5) (kx (gsT rfl hb5) (kx (pkF rfl hb5 rfl) (kx (mvO rfl) (kx (gsT rfl rfl) (kx (gsT rfl rfl) (kx (gsT rfl rfl) (kx (gsT rfl rfl) (kc (Ev.gsT rfl rfl) (kx (pkF rfl rfl rfl) (kx (mvO rfl) (Rn (hV (.bool false) rfl hZ) fun e15 h17 => sN (xx ?_)))))))))))))))
 clear h3 h4
 cases h
 exact eR (resT h17 res0) rfl
/-! ### loop.example/g01263/laws.toMarkS (f35) -/
abbrev laws_toMarkS_b1_S := Int × (List Mark)
abbrev laws_toMarkS_b1_R := (List Mark)
def laws_toMarkS_b1_RS (a1 : List Mark) (x4 : List Mark) (i1_1 : Nat) (s : laws_toMarkS_b1_S) (e : Env) (M : Mem) : Prop := eget e 0 = .sl none (a1.map Mark.c) ∧ eget e 3 = .lsl i1_1 s.2.length 0 s.2.length ∧ eget e 4 = .int .i64 s.1 ∧ M[i1_1]? = some (.live ⟨.grow, 72, 2, s.2.map Mark.c⟩) ∧ s.2.length = x4.length
def laws_toMarkS_b1_RR (a1 : List Mark) (x4 : List Mark) (i1_1 : Nat) (g : laws_toMarkS_b1_R) (x : Ex) (e : Env) (M : Mem) : Prop := x = .ext 0 ∧ eget e 3 = .lsl i1_1 g.length 0 g.length ∧ M[i1_1]? = some (.live ⟨.grow, 72, 2, g.map Mark.c⟩) ∧ g.length = x4.length
noncomputable def laws_toMarkS_b1 (a1 : List Mark) : laws_toMarkS_b1_S → Option (laws_toMarkS_b1_S ⊕ laws_toMarkS_b1_R) := fun (s1_1, s1_2) =>
 if (decide (s1_1 < (a1.length : Int))) = true then
  (rd a1 s1_1).bind fun x45 =>
  (laws_toMark x45).bind fun (r48, r49) =>
  (rd s1_2 s1_1).bind fun x50 =>
  some (.inl ((IntKind.i64.wrap (s1_1 + 1)), (s1_2.set s1_1.toNat (Mark.mk r48 r49))))
 else
  some (.inr s1_2)
theorem laws_toMarkS_b1_ok (a1 : List Mark) (x4 : List Mark) (i1_1 : Nat) (s : laws_toMarkS_b1_S) (r : laws_toMarkS_b1_S ⊕ laws_toMarkS_b1_R) (h : laws_toMarkS_b1 a1 s = some r) (e : Env) (M : Mem) (hs : laws_toMarkS_b1_RS a1 x4 i1_1 s e M) : Ev (fun k => (f35_l3 (CN k) k (prune [0, 3, 4] e) M).bind fun q => some q) (bQ (laws_toMarkS_b1_RS a1 x4 i1_1) (laws_toMarkS_b1_RR a1 x4 i1_1) r) := by
 obtain ⟨s1_1, s1_2⟩ := s
 unfold laws_toMarkS_b1 at h
 obtain ⟨h30, h32, h34, o36, hl37⟩ := hs
 generalize he29 : prune [0, 3, 4] e = e28
 have h31 := envp he29.symm rfl h30
 have h33 := envp he29.symm rfl h32
 have h35 := envp he29.symm rfl h34
 refine sq (sq (Rg (kx (mvO h35) (kx (mvO h31) (kx (lnS Try.underlying27 rfl) (kx (bLss rfl rfl) (Rn (hV (.sl none (a1.map Mark.c)) h31 (hV (.lsl i1_1 s1_2.length 0 s1_2.length) h33 (hV (.int .i64 s1_1) h35 (hN rfl hZ)))) fun e38 h40 h41 h42 h43 => sN ?_)))))))
 clear h31 h33 h35
 rcases ite_some h with ⟨hb44, h⟩ | ⟨hb44, h⟩
 ·obtain ⟨x45, hx46, h⟩ := bind_some h
  obtain ⟨⟨r48, r49⟩, hx47, h⟩ := bind_some h
  obtain ⟨x50, hx51, h⟩ := bind_some h
  refine cT h43 hb44 (xx (sN (sq (bl (Rg (kx (mvO h41) (kx (mvO h42) (kx (mvO h40) (kx (mvO h42) (kx (ixS rfl rfl hx46 Mark.fl) (kx (ldPA rfl rfl rfl) (kc (cl (v := .agg [.str r48, .int .u32 r49]) rfl (cns rfl rfl) rfl (laws_toMark_ok x45 _ hx47) nm) (kx (ixO rfl o36 rfl rfl (rd_get hx51).1 (rd_lt hx51).2) (kw (stR (u := x50) (u' := (Mark.mk r48 r49)) rfl rfl o36 rfl (by rw [Nat.zero_add]; exact (rd_get hx51).2) ⟨rfl, ble rfl⟩ rfl rfl) fun M52 hM53 => ?_))))))))))))))
  rw [Nat.zero_add] at hM53
  have o54 : M52[i1_1]? = some (.live ⟨.grow, 72, 2, (s1_2.set s1_1.toNat (Mark.mk r48 r49)).map Mark.c⟩) := set_same hM53 o36
  have hx55 := rd_set (u' := (Mark.mk r48 r49)) hx51
  refine Rn (hA h40 (hA h41 (hA h42 hZ))) fun e56 h58 h59 h60 => bN (sN (Rg (kx (mvO h60) (kx (bAdd rfl rfl) (kx (mvO rfl) (Rn (hA h58 (hA h59 (hN rfl hZ))) fun e61 h63 h64 h65 => ?_))))))
  clear h40 h41 h42 h43 h58 h59
  cases h
  exact qN ⟨h63, (lslL (L' := (s1_2.set s1_1.toNat (Mark.mk r48 r49)).length) h64 (by simp [hl37])), h65, o54, (by first | rfl | simp [hl37])⟩
 refine cF h43 hb44 (xx (sE ?_))
 cases h
 exact qE ⟨rfl, h41, o36, (by first | rfl | simp [hl37])⟩
noncomputable def laws_toMarkS (a1 : List Mark) : Option ((List Mark)) :=
 (mkS 24 (Mark.mk ([] : List UInt8) 0) (a1.length : Int)).bind fun x4 =>
 (Lw (laws_toMarkS_b1 a1) (0, x4)).bind fun y71 =>
 some y71
def laws_toMarkS_enc (r : (List Mark)) : AV := .sl (some 72) (r.map Mark.c)
theorem laws_toMarkS_ok (a1 : List Mark) (r : (List Mark)) (h : laws_toMarkS a1 = some r) : Ev (fun k => CN k 35 [.sl none (a1.map Mark.c)] []) (fun p => rRes p.2 p.1 = laws_toMarkS_enc r) := by
 unfold laws_toMarkS at h
 obtain ⟨x4, hx5, h⟩ := bind_some h
 refine Ev.enter (F := fun k => f35 (CN k) k) (fun k => callN_eq rfl Try.func35 rfl rfl rfl (by decide +kernel) (f35_eq _ _)) (sq (Rg (kx (mvO rfl) (Rn (hN rfl hZ) fun e1 h3 => sN (sq (Rg (kx (mvO h3) (kx (lnS Try.underlying27 rfl) (ku (mkO rfl rfl hx5 (c := Mark.c) zero72 Mark.fl (by decide)) fun M7 hM8 => ?_)))))))))
 have o9 : M7[([] : Mem).length]? = some (.live ⟨.grow, 72, 2, x4.map Mark.c⟩) := push_new hM8
 obtain ⟨y71, hr67, h⟩ := bind_some h
 refine kx (mvO rfl) (Rn (hA h3 (hV (.lsl ([] : Mem).length x4.length 0 x4.length) rfl hZ)) fun e10 h12 h13 => sN (sq (sq (Rg (kx (mvO rfl) (Rn (hA h12 (hA h13 (hV (.int .i64 0) rfl hZ))) fun e14 h16 h17 h18 => sN (bl (Ev.loop (RS := laws_toMarkS_b1_RS a1 x4 (([] : Mem).length)) (RR := laws_toMarkS_b1_RR a1 x4 (([] : Mem).length)) (fun s r h e M hs => laws_toMarkS_b1_ok a1 x4 (([] : Mem).length) s r h e M hs) hr67 ⟨h16, h17, h18, o9, rfl⟩ fun x e69 M70 hq68 => ?_))))))))
 clear h3 h12 h13
 obtain ⟨rfl, h72, o73, hl74⟩ := hq68
 refine bE (sN (sq (Rg (kx (mvO h72) (kx (mvO rfl) (Rn (hV (.lsl ([] : Mem).length y71.length 0 y71.length) rfl hZ) fun e75 h77 => sN (xx ?_)))))))
 clear h72
 cases h
 exact eR (resT h77 res0) (rr_row o73 rfl Mark.fl)
/-! ### loop.example/g01263/laws.toHalf (f34) -/
noncomputable def laws_toHalf (a1 : Half) : Option (Bool × (List Notch) × (Ar 16 Int)) :=
 (laws_toNotchS a1.Notches).bind fun r30 =>
 (laws_toGrain a1.Grain).bind fun r41 =>
 some (a1.Stock, r30, r41)
def laws_toHalf_enc (r : Bool × (List Notch) × (Ar 16 Int)) : AV := .agg (.bool r.1 :: (.sl none (r.2.1.map Notch.c) :: ((arC (cI .i8) 0 r.2.2) ++ ([] : List AV))))
theorem laws_toHalf_ok (a1 : Half) (r : Bool × (List Notch) × (Ar 16 Int)) (h : laws_toHalf a1 = some r) : Ev (fun k => CN k 34 [.agg (.bool a1.Stock :: (.sl none (a1.Notches.map Notch.c) :: ((arC (cI .i8) 0 a1.Grain) ++ ([] : List AV))))] []) (fun p => rRes p.2 p.1 = laws_toHalf_enc r) := by
 unfold laws_toHalf at h
 refine Ev.enter (F := fun k => f34 (CN k) k) (fun k => callN_eq rfl Try.func34 rfl rfl rfl (by decide +kernel) (f34_eq _ _)) (sq (Rg (kx (bxI rfl rfl ⟨rfl, rfl, by decide⟩) (ku (alO zero35) fun M2 hM3 => ?_))))
 have o4 : M2[([] : Mem).length]? = some (.live ⟨.box, 35, 18, [(.bool false :: (.nils :: ((arC (cI .i8) 0 (Ar.rep 16 0)) ++ ([] : List AV))))]⟩) := push_new hM3
 refine Rn (hN rfl (hV (.loc ([] : Mem).length 1 0 0) rfl hZ)) fun e5 h7 h8 => sN (sq (Rg (ku (alO zero35) fun M10 hM11 => ?_)))
 have o12 := push_old hM11 o4
 have ne13 := ne_new o4
 have o14 : M10[M2.length]? = some (.live ⟨.box, 35, 18, [(.bool false :: (.nils :: ((arC (cI .i8) 0 (Ar.rep 16 0)) ++ ([] : List AV))))]⟩) := push_new hM11
 refine Rn (hA h7 (hA h8 (hV (.loc M2.length 1 0 0) rfl hZ))) fun e15 h17 h18 h19 => sN (sq (Rg (kx (faP h17 ⟨ble rfl, blt rfl⟩ rfl) (kx (ldP rfl rfl) (kx (faO h19 o14 rfl) (kw (stO rfl rfl o14 rfl rfl ⟨rfl, ble rfl⟩ rfl rfl) fun M20 hM21 => ?_))))))
 clear h7 h8
 have o22 := set_ne hM21 ne13 o12
 have o23 : M20[M2.length]? = some (.live ⟨.box, 35, 18, [(.bool a1.Stock :: (.nils :: ((arC (cI .i8) 0 (Ar.rep 16 0)) ++ ([] : List AV))))]⟩) := set_same hM21 o14
 obtain ⟨r30, hx29, h⟩ := bind_some h
 refine Rn (hA h17 (hA h18 (hA h19 hZ))) fun e24 h26 h27 h28 => sN (sq (Rg (kx (faP h26 ⟨ble rfl, blt rfl⟩ rfl) (kx (ldP rfl rfl) (kc (cl (v := .sl (some 115) (r30.map Notch.c)) rfl (cns rfl rfl) rfl (laws_toNotchS_ok a1.Notches _ hx29) nm) (kx (faO h28 o23 rfl) (kw (stO rfl rfl o23 rfl rfl ⟨rfl, ble rfl⟩ rfl rfl) fun M31 hM32 => ?_)))))))
 clear h17 h18 h19
 have o33 := set_ne hM32 ne13 o22
 have o34 : M31[M2.length]? = some (.live ⟨.box, 35, 18, [(.bool a1.Stock :: (.sl none (r30.map Notch.c) :: ((arC (cI .i8) 0 (Ar.rep 16 0)) ++ ([] : List AV))))]⟩) := set_same hM32 o23
 obtain ⟨r41, hx40, h⟩ := bind_some h
 refine Rn (hA h26 (hA h27 (hA h28 hZ))) fun e35 h37 h38 h39 => sN (sq (Rg (kx (faP h37 ⟨ble rfl, blt rfl⟩ rfl) (kx (ldPA rfl rfl rfl) (kc (cl (v := .agg (arC (cI .i8) 0 r41)) rfl (cns rfl rfl) rfl (laws_toGrain_ok a1.Grain _ hx40) nm) (kx (faO h39 o34 rfl) (kw (stO rfl rfl o34 rfl rfl ⟨rfl, ble rfl⟩ rfl rfl) fun M42 hM43 => ?_)))))))
 clear h26 h27 h28
 have o44 := set_ne hM43 ne13 o33
 have o45 : M42[M2.length]? = some (.live ⟨.box, 35, 18, [(.bool a1.Stock :: (.sl none (r30.map Notch.c) :: ((arC (cI .i8) 0 r41) ++ ([] : List AV))))]⟩) := set_same hM43 o34
 refine Rn (hA h38 (hA h39 hZ)) fun e46 h48 h49 => sN (sq (Rg (kx (ldOA h49 o45 rfl rfl (ble rfl) rfl) (kw (stO h48 rfl o44 rfl rfl ⟨rfl, ble rfl⟩ rfl rfl) fun M50 hM51 => ?_))))
 clear h37 h38 h39
 have o52 : M50[([] : Mem).length]? = some (.live ⟨.box, 35, 18, [(.bool a1.Stock :: (.sl none (r30.map Notch.c) :: ((arC (cI .i8) 0 r41) ++ ([] : List AV))))]⟩) := set_same hM51 o44
 have o53 := set_ne hM51 (Ne.symm ne13) o45
 refine Rn (hA h48 hZ) fun e54 h56 => sN (xx ?_)
 clear h48 h49
 cases h
 exact eR (resC (ag := true) (sz := 18) ⟨by kernel_rfl, by kernel_rfl, by kernel_rfl⟩ (ldOA h56 o52 rfl rfl (ble rfl) rfl) res0) rfl
/-! ### loop.example/g01263/laws.szMarkS (f32) -/
abbrev laws_szMarkS_b1_S := Int × Int
abbrev laws_szMarkS_b1_R := Unit ⊕ Int
def laws_szMarkS_b1_RS (a1 : List Mark) (s : laws_szMarkS_b1_S) (e : Env) (M : Mem) : Prop := eget e 0 = .sl none (a1.map Mark.c) ∧ eget e 1 = .int .i64 s.1 ∧ eget e 5 = .int .i64 s.2
def laws_szMarkS_b1_RR (a1 : List Mark) (r : laws_szMarkS_b1_R) (x : Ex) (e : Env) (M : Mem) : Prop :=
  match r with
  | (.inl g) => x = .ret ∧ eget e 4 = .int .i64 (-1)
  | (.inr g) => x = .ext 0 ∧ eget e 1 = .int .i64 g
noncomputable def laws_szMarkS_b1 (a1 : List Mark) : laws_szMarkS_b1_S → Option (laws_szMarkS_b1_S ⊕ laws_szMarkS_b1_R) := fun (s1_1, s1_2) =>
 if (decide (s1_2 < (a1.length : Int))) = true then
  (rd a1 s1_2).bind fun x46 =>
  (laws_szMark x46 s1_1).bind fun r49 =>
  if (decide (r49 < 0)) = true then
   some (.inr (.inl ()))
  else
   some (.inl (r49, (IntKind.i64.wrap (s1_2 + 1))))
 else
  some (.inr (.inr s1_1))
theorem laws_szMarkS_b1_ok (a1 : List Mark) (s : laws_szMarkS_b1_S) (r : laws_szMarkS_b1_S ⊕ laws_szMarkS_b1_R) (h : laws_szMarkS_b1 a1 s = some r) (e : Env) (M : Mem) (hs : laws_szMarkS_b1_RS a1 s e M) : Ev (fun k => (f32_l5 (CN k) k (prune [0, 1, 5] e) M).bind fun q => some q) (bQ (laws_szMarkS_b1_RS a1) (laws_szMarkS_b1_RR a1) r) := by
 obtain ⟨s1_1, s1_2⟩ := s
 unfold laws_szMarkS_b1 at h
 obtain ⟨h33, h35, h37⟩ := hs
 generalize he32 : prune [0, 1, 5] e = e31
 have h34 := envp he32.symm rfl h33
 have h36 := envp he32.symm rfl h35
 have h38 := envp he32.symm rfl h37
 refine sq (sq (Rg (kx (mvO h38) (kx (mvO h34) (kx (lnS Try.underlying27 rfl) (kx (bLss rfl rfl) (Rn (hV (.sl none (a1.map Mark.c)) h34 (hV (.int .i64 s1_1) h36 (hV (.int .i64 s1_2) h38 (hN rfl hZ)))) fun e39 h41 h42 h43 h44 => sN ?_)))))))
 clear h34 h36 h38
 rcases ite_some h with ⟨hb45, h⟩ | ⟨hb45, h⟩
 ·obtain ⟨x46, hx47, h⟩ := bind_some h
  obtain ⟨r49, hx48, h⟩ := bind_some h
  refine cT h44 hb45 (xx (sN (sq (bl (sq (Rg (kx (mvO h41) (kx (mvO h43) (kx (ixS rfl rfl hx47 Mark.fl) (kx (ldPA rfl rfl rfl) (kx (mvO h42) (kc (cl (v := .int .i64 r49) rfl (cns rfl (cns rfl rfl)) rfl (laws_szMark_ok x46 s1_1 _ hx48) nm) (kx (mvO rfl) (Rn (hA h41 (hN rfl (hA h43 hZ))) fun e50 h52 h53 h54 => sN (sq (Rg (kx (mvO h53) (kx (bLss rfl rfl) (Rn (hA h52 (hA h53 (hA h54 (hN rfl hZ)))) fun e55 h57 h58 h59 h60 => sN ?_)))))))))))))))))))
  clear h41 h43 h44 h52 h53 h54
  rcases ite_some h with ⟨hb61, h⟩ | ⟨hb61, h⟩
  ·refine cT h60 hb61 (sq (Rg (kx (mvO rfl) (Rn (hV (.int .i64 (-1)) rfl hZ) fun e62 h64 => sN (xx (bR (sR ?_)))))))
   clear h57 h58 h59 h60
   cases h
   exact qR ⟨rfl, h64⟩
  refine cF h60 hb61 (xx (bN (sN (Rg (kx (mvO h59) (kx (bAdd rfl rfl) (kx (mvO rfl) (Rn (hA h57 (hA h58 (hN rfl hZ))) fun e65 h67 h68 h69 => ?_))))))))
  clear h57 h58 h60
  cases h
  exact qN ⟨h67, h68, h69⟩
 refine cF h44 hb45 (xx (sE ?_))
 cases h
 exact qE ⟨rfl, h42⟩
noncomputable def laws_szMarkS (a1 : List Mark) (a2 : Int) : Option Int :=
 if (decide ((IntKind.i64.wrap (a2 - (a1.length : Int))) < 0)) = true then
  some (-1)
 else
  (Lw (laws_szMarkS_b1 a1) ((IntKind.i64.wrap (a2 - (a1.length : Int))), 0)).bind fun r => match r with
  | (.inl _) =>
   some (-1)
  | (.inr y78) =>
   some y78
def laws_szMarkS_enc (r : Int) : AV := .int .i64 r
theorem laws_szMarkS_ok (a1 : List Mark) (a2 : Int) (r : Int) (h : laws_szMarkS a1 a2 = some r) : Ev (fun k => CN k 32 [.sl none (a1.map Mark.c), .int .i64 a2] []) (fun p => rRes p.2 p.1 = laws_szMarkS_enc r) := by
 unfold laws_szMarkS at h
 refine Ev.enter (F := fun k => f32 (CN k) k) (fun k => callN_eq rfl Try.func32 rfl rfl rfl (by decide +kernel) (f32_eq _ _)) (sq (Rg (kx (mvO rfl) (Rn (hN rfl (hN rfl hZ)) fun e1 h3 h4 => sN (sq (Rg (kx (mvO h4) (kx (mvO h3) (kx (lnS Try.underlying27 rfl) (kx (bSub rfl rfl) (kx (mvO rfl) (Rn (hA h3 (hN rfl hZ)) fun e5 h7 h8 => sN (sq (sq (Rg (kx (mvO h8) (kx (bLss rfl rfl) (Rn (hA h7 (hA h8 (hN rfl hZ))) fun e9 h11 h12 h13 => sN ?_))))))))))))))))))
 clear h3 h7 h8
 rcases ite_some h with ⟨hb14, h⟩ | ⟨hb14, h⟩
 ·refine cT h13 hb14 (sq (Rg (kx (mvO rfl) (Rn (hV (.int .i64 (-1)) rfl hZ) fun e15 h17 => sN (xx (sR ?_))))))
  clear h11 h12 h13
  cases h
  exact eR (resT h17 res0) rfl
 obtain ⟨r70, hr71, h⟩ := bind_some h
 refine cF h13 hb14 (xx (sN (sq (sq (Rg (kx (mvO rfl) (Rn (hA h11 (hA h12 (hV (.int .i64 0) rfl hZ))) fun e18 h20 h21 h22 => sN (bl ?_))))))))
 clear h11 h12 h13
 rcases r70 with _ | y78
 ·refine Ev.loop (RS := laws_szMarkS_b1_RS a1) (RR := laws_szMarkS_b1_RR a1) (fun s r h e M hs => laws_szMarkS_b1_ok a1 s r h e M hs) hr71 ⟨h20, h21, h22⟩ fun x e73 M74 hq72 => ?_
  obtain ⟨rfl, h75⟩ := hq72
  refine bR (sR ?_)
  cases h
  exact eR (resT h75 res0) rfl
 refine Ev.loop (RS := laws_szMarkS_b1_RS a1) (RR := laws_szMarkS_b1_RR a1) (fun s r h e M hs => laws_szMarkS_b1_ok a1 s r h e M hs) hr71 ⟨h20, h21, h22⟩ fun x e76 M77 hq72 => ?_
 obtain ⟨rfl, h79⟩ := hq72
 refine bE (sN (sq (Rg (kx (mvO h79) (kx (mvO rfl) (Rn (hN rfl hZ) fun e80 h82 => sN (xx ?_)))))))
 clear h79
 cases h
 exact eR (resT h82 res0) rfl
/-! ### loop.example/g01263/laws.szHalf (f31) -/
noncomputable def laws_szHalf (a1 : Half) (a2 : Int) : Option Int :=
 (laws_szNotchS a1.Notches a2).bind fun r6 =>
 if (decide (r6 < 0)) = true then
  some (-1)
 else
  some r6
def laws_szHalf_enc (r : Int) : AV := .int .i64 r
theorem laws_szHalf_ok (a1 : Half) (a2 : Int) (r : Int) (h : laws_szHalf a1 a2 = some r) : Ev (fun k => CN k 31 [.agg (.bool a1.Stock :: (.sl none (a1.Notches.map Notch.c) :: ((arC (cI .i8) 0 a1.Grain) ++ ([] : List AV)))), .int .i64 a2] []) (fun p => rRes p.2 p.1 = laws_szHalf_enc r) := by
 unfold laws_szHalf at h
 obtain ⟨r6, hx5, h⟩ := bind_some h
 refine Ev.enter (F := fun k => f31 (CN k) k) (fun k => callN_eq rfl Try.func31 rfl rfl rfl (by decide +kernel) (f31_eq _ _)) (sq (Rg (kx (bxI rfl rfl ⟨rfl, rfl, by decide⟩) (kx (mvO rfl) (Rn (hN rfl (hN rfl hZ)) fun e1 h3 h4 => sN (sq (Rg (kx (faP h4 ⟨ble rfl, blt rfl⟩ rfl) (kx (ldP rfl rfl) (kx (mvO h3) (kc (cl (v := .int .i64 r6) rfl (cns rfl (cns rfl rfl)) rfl (laws_szNotchS_ok a1.Notches a2 _ hx5) nm) (kx (mvO rfl) (Rn (hN rfl hZ) fun e7 h9 => sN (sq (sq (Rg (kx (mvO h9) (kx (bLss rfl rfl) (Rn (hA h9 (hN rfl hZ)) fun e10 h12 h13 => sN ?_)))))))))))))))))))
 clear h4 h9
 rcases ite_some h with ⟨hb14, h⟩ | ⟨hb14, h⟩
 ·refine cT h13 hb14 (sq (Rg (kx (mvO rfl) (Rn (hV (.int .i64 (-1)) rfl hZ) fun e15 h17 => sN (xx (sR ?_))))))
  clear h12 h13
  cases h
  exact eR (resT h17 res0) rfl
 refine cF h13 hb14 (xx (sN (sq (Rg (kx (mvO h12) (kx (mvO rfl) (Rn (hN rfl hZ) fun e18 h20 => sN (xx ?_))))))))
 clear h12 h13
 cases h
 exact eR (resT h20 res0) rfl
/-! ### loop.example/g01263/impl.ValidChain (f15) -/
def impl_ValidChain_c1_Q (a1 : Chain) (g : Bool) (q : Out) : Prop := q.1 = .nrm ∧ eget q.2.1 1 = .pt none (.str a1.Debtor :: (.bool a1.Stock.Stock :: (.sl none (a1.Stock.Notches.map Notch.c) :: ((arC (cI .i8) 0 a1.Stock.Grain) ++ ((.sl none (a1.Marks.map Mark.c) :: []) : List AV))))) ∧ eget q.2.1 33 = .bool g
abbrev impl_ValidChain_b1_S := (List UInt8) × Int
abbrev impl_ValidChain_b1_R := Unit ⊕ Unit
def impl_ValidChain_b1_RS (a1 : Chain) (s : impl_ValidChain_b1_S) (e : Env) (M : Mem) : Prop := eget e 3 = .str s.1 ∧ eget e 37 = .sl none (a1.Marks.map Mark.c) ∧ eget e 38 = .int .i64 (a1.Marks.length : Int) ∧ eget e 39 = .int .i64 s.2
def impl_ValidChain_b1_RR (a1 : Chain) (r : impl_ValidChain_b1_R) (x : Ex) (e : Env) (M : Mem) : Prop :=
  match r with
  | (.inl g) => x = .ret ∧ eget e 2 = .bool false
  | (.inr g) => x = .ext 0 ∧ True
noncomputable def impl_ValidChain_b1 (a1 : Chain) : impl_ValidChain_b1_S → Option (impl_ValidChain_b1_S ⊕ impl_ValidChain_b1_R) := fun (s1_1, s1_2) =>
 if (decide (s1_2 < (a1.Marks.length : Int))) = true then
  (rd a1.Marks s1_2).bind fun x79 =>
  (impl_isName x79.Holder).bind fun r96 =>
  if r96 = true then
   if (x79.Holder == s1_1) = true then
    some (.inr (.inl ()))
   else
    some (.inl (x79.Holder, (IntKind.i64.wrap (s1_2 + 1))))
  else
   some (.inr (.inl ()))
 else
  some (.inr (.inr ()))
theorem impl_ValidChain_b1_ok (a1 : Chain) (s : impl_ValidChain_b1_S) (r : impl_ValidChain_b1_S ⊕ impl_ValidChain_b1_R) (h : impl_ValidChain_b1 a1 s = some r) (e : Env) (M : Mem) (hs : impl_ValidChain_b1_RS a1 s e M) : Ev (fun k => (f15_l5 (CN k) k (prune [3, 37, 38, 39] e) M).bind fun q => some q) (bQ (impl_ValidChain_b1_RS a1) (impl_ValidChain_b1_RR a1) r) := by
 obtain ⟨s1_1, s1_2⟩ := s
 unfold impl_ValidChain_b1 at h
 obtain ⟨h63, h65, h67, h69⟩ := hs
 generalize he62 : prune [3, 37, 38, 39] e = e61
 have h64 := envp he62.symm rfl h63
 have h66 := envp he62.symm rfl h65
 have h68 := envp he62.symm rfl h67
 have h70 := envp he62.symm rfl h69
 refine sq (Rg (kx (bLss h70 h68) (Rn (hV (.str s1_1) h64 (hV (.sl none (a1.Marks.map Mark.c)) h66 (hV (.int .i64 (a1.Marks.length : Int)) h68 (hV (.int .i64 s1_2) h70 (hN rfl hZ))))) fun e71 h73 h74 h75 h76 h77 => sN (sq ?_))))
 clear h64 h66 h68 h70
 rcases ite_some h with ⟨hb78, h⟩ | ⟨hb78, h⟩
 ·obtain ⟨x79, hx80, h⟩ := bind_some h
  refine cT h77 hb78 (xx (sN (sq (bl (sq (Rg (kx (ixS h74 h76 hx80 Mark.fl) (kx (ldPA rfl rfl rfl) (ku (alO zero72) fun M82 hM83 => ?_)))))))))
  have o84 : M82[M.length]? = some (.live ⟨.box, 72, 2, [[.str ([] : List UInt8), .int .u32 0]]⟩) := push_new hM83
  refine kw (stO rfl rfl o84 rfl rfl ⟨rfl, ble rfl⟩ rfl rfl) fun M85 hM86 => ?_
  have o87 : M85[M.length]? = some (.live ⟨.box, 72, 2, [[.str x79.Holder, .int .u32 x79.Seal]]⟩) := set_same hM86 o84
  obtain ⟨r96, hx95, h⟩ := bind_some h
  refine Rn (hA h73 (hV (.loc M.length 1 0 0) rfl (hA h74 (hA h75 (hA h76 hZ))))) fun e88 h90 h91 h92 h93 h94 => sN (sq (sq (Rg (kx (faO h91 o87 rfl) (kx (ldO rfl o87 rfl rfl rfl) (kc (cl (v := .bool r96) rfl (cns rfl rfl) rfl (impl_isName_ok x79.Holder _ hx95) nm) (kx (uNot rfl) (kx (mvO rfl) ?_))))))))
  clear h73 h74 h75 h76 h77
  rcases ite_some h with ⟨hb97, h⟩ | ⟨hb97, h⟩
  ·refine kx (guF rfl (congrArg Bool.not hb97) (faO h91 o87 rfl)) (kx (guF rfl (congrArg Bool.not hb97) (ldO rfl o87 rfl rfl rfl)) (kx (guF rfl (congrArg Bool.not hb97) (mvO h90)) (kx (guF rfl (congrArg Bool.not hb97) (sEql rfl rfl)) (kx (pkF rfl (congrArg Bool.not hb97) rfl) (Rn (hA h91 (hA h92 (hA h93 (hA h94 (hN rfl hZ))))) fun e98 h100 h101 h102 h103 h104 => sN ?_)))))
   clear h90 h91 h92 h93 h94
   rcases ite_some h with ⟨hb105, h⟩ | ⟨hb105, h⟩
   ·refine cT h104 hb105 (sq (Rg (kx (mvO rfl) (Rn (hV (.bool false) rfl hZ) fun e106 h108 => sN (xx (sR (bR (sR ?_))))))))
    clear h100 h101 h102 h103 h104
    cases h
    exact qR ⟨rfl, h108⟩
   refine cF h104 hb105 (xx (sN (Rg (kx (faO h100 o87 rfl) (kx (ldO rfl o87 rfl rfl rfl) (kx (mvO rfl) (Rn (hN rfl (hA h101 (hA h102 (hA h103 hZ)))) fun e109 h111 h112 h113 h114 => bN (sN (Rg (kx (bAdd h114 rfl) (kx (mvO rfl) (Rn (hA h111 (hA h112 (hA h113 (hN rfl hZ)))) fun e115 h117 h118 h119 h120 => ?_))))))))))))
   clear h100 h101 h102 h103 h104 h111 h112 h113
   cases h
   exact qN ⟨h117, h118, h119, h120⟩
  refine kx (gsF rfl (congrArg Bool.not hb97)) (kx (gsF rfl (congrArg Bool.not hb97)) (kx (gsF rfl (congrArg Bool.not hb97)) (kx (gsF rfl (congrArg Bool.not hb97)) (kx (pkT rfl (congrArg Bool.not hb97) rfl) (Rn (hA h91 (hA h92 (hA h93 (hA h94 (hV (.bool true) rfl hZ))))) fun e121 h123 h124 h125 h126 h127 => sN (cT h127 rfl (sq (Rg (kx (mvO rfl) (Rn (hV (.bool false) rfl hZ) fun e128 h130 => sN (xx (sR (bR (sR ?_))))))))))))))
  clear h90 h91 h92 h93 h94 h123 h124 h125 h126 h127
  cases h
  exact qR ⟨rfl, h130⟩
 refine cF h77 hb78 (xx (sE ?_))
 cases h
 exact qE ⟨rfl, trivial⟩
noncomputable def impl_ValidChain (a1 : Chain) : Option Bool :=
 ((impl_isName a1.Debtor).bind fun r5 =>
 if r5 = true then
  (impl_ValidHalf a1.Stock).bind fun r8 =>
  if r8 = true then
   if a1.Stock.Stock = true then
    if (decide ((a1.Marks.length : Int) < 1)) = true then
     some true
    else
     some (decide ((a1.Marks.length : Int) > 30))
   else
    some true
  else
   some true
 else
  some true).bind fun y34 =>
 if y34 = true then
  some false
 else
  (Lw (impl_ValidChain_b1 a1) (a1.Debtor, 0)).bind fun r => match r with
  | (.inl _) =>
   some false
  | (.inr _) =>
   some true
def impl_ValidChain_enc (r : Bool) : AV := .bool r
theorem impl_ValidChain_ok (a1 : Chain) (r : Bool) (h : impl_ValidChain a1 = some r) : Ev (fun k => CN k 15 [.agg (.str a1.Debtor :: (.bool a1.Stock.Stock :: (.sl none (a1.Stock.Notches.map Notch.c) :: ((arC (cI .i8) 0 a1.Stock.Grain) ++ ((.sl none (a1.Marks.map Mark.c) :: []) : List AV)))))] []) (fun p => rRes p.2 p.1 = impl_ValidChain_enc r) := by
 unfold impl_ValidChain at h
 obtain ⟨r143, hr144, h⟩ := bind_some h
 refine Ev.enter (F := fun k => f15 (CN k) k) (fun k => callN_eq rfl Try.func15 rfl rfl rfl (by decide +kernel) (f15_eq _ _)) (sq (Rg (kx (bxI rfl rfl ⟨rfl, rfl, by decide⟩) (kx (mvO rfl) (Rn (hN rfl hZ) fun e1 h3 => sN (sq (sq ?_)))))))
 refine Ev.cut (Q1 := impl_ValidChain_c1_Q a1 r143) (by
     have h := hr144
     obtain ⟨r5, hx4, h⟩ := bind_some h
     refine Rg (kx (faP h3 ⟨ble rfl, blt rfl⟩ rfl) (kx (ldP rfl rfl) (kc (cl (v := .bool r5) rfl (cns rfl rfl) rfl (impl_isName_ok a1.Debtor _ hx4) nm) (kx (uNot rfl) (kx (mvO rfl) ?_)))))
     rcases ite_some h with ⟨hb6, h⟩ | ⟨hb6, h⟩
     ·obtain ⟨r8, hx7, h⟩ := bind_some h
      refine kx (guF rfl (congrArg Bool.not hb6) (faP h3 ⟨ble rfl, blt rfl⟩ rfl)) (kx (guF rfl (congrArg Bool.not hb6) (ldPA rfl rfl rfl)) (kc (Ev.guF rfl (congrArg Bool.not hb6) (cl (v := .bool r8) rfl (cns rfl rfl) rfl (impl_ValidHalf_ok a1.Stock _ hx7) nm)) (kx (guF rfl (congrArg Bool.not hb6) (uNot rfl)) (kx (pkF rfl (congrArg Bool.not hb6) rfl) (kx (mvO rfl) ?_)))))
      rcases ite_some h with ⟨hb9, h⟩ | ⟨hb9, h⟩
      ·refine kx (guF rfl (congrArg Bool.not hb9) (faP h3 ⟨ble rfl, blt rfl⟩ rfl)) (kx (guF rfl (congrArg Bool.not hb9) (faP rfl ⟨ble rfl, blt rfl⟩ rfl)) (kx (guF rfl (congrArg Bool.not hb9) (ldP rfl rfl)) (kx (guF rfl (congrArg Bool.not hb9) (uNot rfl)) (kx (pkF rfl (congrArg Bool.not hb9) rfl) (kx (mvO rfl) ?_)))))
       rcases ite_some h with ⟨hb10, h⟩ | ⟨hb10, h⟩
       ·refine kx (guF rfl (congrArg Bool.not hb10) (faP h3 ⟨ble rfl, blt rfl⟩ rfl)) (kx (guF rfl (congrArg Bool.not hb10) (ldP rfl rfl)) (kx (guF rfl (congrArg Bool.not hb10) (lnS Try.underlying36 rfl)) (kx (guF rfl (congrArg Bool.not hb10) (bLss rfl rfl)) (kx (pkF rfl (congrArg Bool.not hb10) rfl) (kx (mvO rfl) ?_)))))
        rcases ite_some h with ⟨hb11, h⟩ | ⟨hb11, h⟩
        ·refine kx (gsF rfl hb11) (kx (gsF rfl hb11) (kx (gsF rfl hb11) (kx (gsF rfl hb11) (kx (pkT rfl hb11 rfl) (Rn (hA h3 (hV (.bool true) rfl hZ)) fun e12 h14 h15 => ?_)))))
         clear h3
         cases h
         exact kd (show impl_ValidChain_c1_Q a1 _ _ from ⟨rfl, h14, h15⟩)
        refine kx (guF rfl hb11 (faP h3 ⟨ble rfl, blt rfl⟩ rfl)) (kx (guF rfl hb11 (ldP rfl rfl)) (kx (guF rfl hb11 (lnS Try.underlying36 rfl)) (kx (guF rfl hb11 (bGtr rfl rfl)) (kx (pkF rfl hb11 rfl) (Rn (hA h3 (hN rfl hZ)) fun e16 h18 h19 => ?_)))))
        clear h3
        cases h
        exact kd (show impl_ValidChain_c1_Q a1 _ _ from ⟨rfl, h18, h19⟩)
       refine kx (gsF rfl (congrArg Bool.not hb10)) (kx (gsF rfl (congrArg Bool.not hb10)) (kx (gsF rfl (congrArg Bool.not hb10)) (kx (gsF rfl (congrArg Bool.not hb10)) (kx (pkT rfl (congrArg Bool.not hb10) rfl) (kx (mvO rfl) (kx (gsF rfl rfl) (kx (gsF rfl rfl) (kx (gsF rfl rfl) (kx (gsF rfl rfl) (kx (pkT rfl rfl rfl) (Rn (hA h3 (hV (.bool true) rfl hZ)) fun e20 h22 h23 => ?_)))))))))))
       clear h3
       cases h
       exact kd (show impl_ValidChain_c1_Q a1 _ _ from ⟨rfl, h22, h23⟩)
      refine kx (gsF rfl (congrArg Bool.not hb9)) (kx (gsF rfl (congrArg Bool.not hb9)) (kx (gsF rfl (congrArg Bool.not hb9)) (kx (gsF rfl (congrArg Bool.not hb9)) (kx (pkT rfl (congrArg Bool.not hb9) rfl) (kx (mvO rfl) (kx (gsF rfl rfl) (kx (gsF rfl rfl) (kx (gsF rfl rfl) (kx (gsF rfl rfl) (kx (pkT rfl rfl rfl) (kx (mvO rfl) (kx (gsF rfl rfl) (kx (gsF rfl rfl) (kx (gsF rfl rfl) (kx (gsF rfl rfl) (kx (pkT rfl rfl rfl) (Rn (hA h3 (hV (.bool true) rfl hZ)) fun e24 h26 h27 => ?_)))))))))))))))))
      clear h3
      cases h
      exact kd (show impl_ValidChain_c1_Q a1 _ _ from ⟨rfl, h26, h27⟩)
     refine kx (gsF rfl (congrArg Bool.not hb6)) (kx (gsF rfl (congrArg Bool.not hb6)) (kc (Ev.gsF rfl (congrArg Bool.not hb6)) (kx (gsF rfl (congrArg Bool.not hb6)) (kx (pkT rfl (congrArg Bool.not hb6) rfl) (kx (mvO rfl) (kx (gsF rfl rfl) (kx (gsF rfl rfl) (kx (gsF rfl rfl) (kx (gsF rfl rfl) (kx (pkT rfl rfl rfl) (kx (mvO rfl) (kx (gsF rfl rfl) (kx (gsF rfl rfl) (kx (gsF rfl rfl) (kx (gsF rfl rfl) (kx (pkT rfl rfl rfl) (kx (mvO rfl) (kx (gsF rfl rfl) (kx (gsF rfl rfl) (kx (gsF rfl rfl) (kx (gsF rfl rfl) (kx (pkT rfl rfl rfl) (Rn (hA h3 (hV (.bool true) rfl hZ)) fun e28 h30 h31 => ?_)))))))))))))))))))))))
     clear h3
     cases h
     exact kd (show impl_ValidChain_c1_Q a1 _ _ from ⟨rfl, h30, h31⟩)) ?_
 revert h hr144
 revert r143
 intro y34 hr144 h
 intro x e32 M33 hq142
 obtain ⟨rfl, h35, h36⟩ := hq142
 refine sN ?_
 rcases ite_some h with ⟨hb37, h⟩ | ⟨hb37, h⟩
 ·refine cT h36 hb37 (sq (Rg (kx (mvO rfl) (Rn (hV (.bool false) rfl hZ) fun e38 h40 => sN (xx (sR ?_))))))
  clear h35 h36
  cases h
  exact eR (resT h40 res0) rfl
 obtain ⟨r131, hr132, h⟩ := bind_some h
 refine cF h36 hb37 (xx (sN (sq (Rg (kx (faP h35 ⟨ble rfl, blt rfl⟩ rfl) (kx (ldP rfl rfl) (kx (mvO rfl) (Rn (hV (.pt none (.str a1.Debtor :: (.bool a1.Stock.Stock :: (.sl none (a1.Stock.Notches.map Notch.c) :: ((arC (cI .i8) 0 a1.Stock.Grain) ++ ((.sl none (a1.Marks.map Mark.c) :: []) : List AV)))))) h35 (hN rfl hZ)) fun e41 h43 h44 => sN (sq (sq (Rg (kx (faP h43 ⟨ble rfl, blt rfl⟩ rfl) (kx (ldP rfl rfl) (kx (lnS Try.underlying36 rfl) (kx (mvO rfl) (Rn (hA h44 (hN rfl (hN rfl (hV (.int .i64 0) rfl hZ)))) fun e45 h47 h48 h49 h50 => sN (bl ?_)))))))))))))))))
 clear h35 h36 h43 h44
 rcases r131 with _ | _
 ·refine Ev.loop (RS := impl_ValidChain_b1_RS a1) (RR := impl_ValidChain_b1_RR a1) (fun s r h e M hs => impl_ValidChain_b1_ok a1 s r h e M hs) hr132 ⟨h47, h48, h49, h50⟩ fun x e134 M135 hq133 => ?_
  obtain ⟨rfl, h136⟩ := hq133
  refine bR (sR ?_)
  cases h
  exact eR (resT h136 res0) rfl
 refine Ev.loop (RS := impl_ValidChain_b1_RS a1) (RR := impl_ValidChain_b1_RR a1) (fun s r h e M hs => impl_ValidChain_b1_ok a1 s r h e M hs) hr132 ⟨h47, h48, h49, h50⟩ fun x e137 M138 hq133 => ?_
 obtain ⟨rfl, _⟩ := hq133
 refine bE (sN (sq (Rg (kx (mvO rfl) (Rn (hV (.bool true) rfl hZ) fun e139 h141 => sN (xx ?_))))))
 cases h
 exact eR (resT h141 res0) rfl
/-! ### loop.example/g01263/impl.CommonMarks (f21) -/
def impl_CommonMarks_c1_Q (a1 : Chain) (a2 : Chain) (g : Bool) (q : Out) : Prop := q.1 = .nrm ∧ eget q.2.1 2 = .pt none (.str a1.Debtor :: (.bool a1.Stock.Stock :: (.sl none (a1.Stock.Notches.map Notch.c) :: ((arC (cI .i8) 0 a1.Stock.Grain) ++ ((.sl none (a1.Marks.map Mark.c) :: []) : List AV))))) ∧ eget q.2.1 3 = .pt none (.str a2.Debtor :: (.bool a2.Stock.Stock :: (.sl none (a2.Stock.Notches.map Notch.c) :: ((arC (cI .i8) 0 a2.Stock.Grain) ++ ((.sl none (a2.Marks.map Mark.c) :: []) : List AV))))) ∧ eget q.2.1 6 = .bool g
noncomputable def impl_CommonMarks (a1 : Chain) (a2 : Chain) : Option (Int × Int) :=
 ((impl_ValidChain a1).bind fun r6 =>
 if r6 = true then
  (impl_ValidChain a2).bind fun r9 =>
  some (!r9)
 else
  some true).bind fun y22 =>
 if y22 = true then
  some (0, 1)
 else
  if (a1.Debtor == a2.Debtor) = true then
   (impl_SameHalf a1.Stock a2.Stock).bind fun r33 =>
   if r33 = true then
    (impl_common a1 a2).bind fun r41 =>
    some (r41, 0)
   else
    some (0, 4)
  else
   some (0, 4)
def impl_CommonMarks_enc (r : Int × Int) : AV := .tup [.int .i64 r.1, .int .i64 r.2]
theorem impl_CommonMarks_ok (a1 : Chain) (a2 : Chain) (r : Int × Int) (h : impl_CommonMarks a1 a2 = some r) : Ev (fun k => CN k 21 [.agg (.str a1.Debtor :: (.bool a1.Stock.Stock :: (.sl none (a1.Stock.Notches.map Notch.c) :: ((arC (cI .i8) 0 a1.Stock.Grain) ++ ((.sl none (a1.Marks.map Mark.c) :: []) : List AV))))), .agg (.str a2.Debtor :: (.bool a2.Stock.Stock :: (.sl none (a2.Stock.Notches.map Notch.c) :: ((arC (cI .i8) 0 a2.Stock.Grain) ++ ((.sl none (a2.Marks.map Mark.c) :: []) : List AV)))))] []) (fun p => rRes p.2 p.1 = impl_CommonMarks_enc r) := by
 unfold impl_CommonMarks at h
 obtain ⟨r60, hr61, h⟩ := bind_some h
 refine Ev.enter (F := fun k => f21 (CN k) k) (fun k => callN_eq rfl Try.func21 rfl rfl rfl (by decide +kernel) (f21_eq _ _)) (sq (Rg (kx (bxI rfl rfl ⟨rfl, rfl, by decide⟩) (kx (bxI rfl rfl ⟨rfl, rfl, by decide⟩) (kx (mvO rfl) (kx (mvO rfl) (Rn (hN rfl (hN rfl hZ)) fun e1 h3 h4 => sN (sq (bl (sq ?_))))))))))
 refine Ev.cut (Q1 := impl_CommonMarks_c1_Q a1 a2 r60) (by
     have h := hr61
     obtain ⟨r6, hx5, h⟩ := bind_some h
     refine Rg (kx (ldPA h3 rfl rfl) (kc (cl (v := .bool r6) rfl (cns rfl rfl) rfl (impl_ValidChain_ok a1 _ hx5) nm) (kx (uNot rfl) (kx (mvO rfl) ?_))))
     rcases ite_some h with ⟨hb7, h⟩ | ⟨hb7, h⟩
     ·obtain ⟨r9, hx8, h⟩ := bind_some h
      refine kx (guF rfl (congrArg Bool.not hb7) (ldPA h4 rfl rfl)) (kc (Ev.guF rfl (congrArg Bool.not hb7) (cl (v := .bool r9) rfl (cns rfl rfl) rfl (impl_ValidChain_ok a2 _ hx8) nm)) (kx (guF rfl (congrArg Bool.not hb7) (uNot rfl)) (kx (pkF rfl (congrArg Bool.not hb7) rfl) (kx (mvO rfl) (Rn (hA h3 (hA h4 (hN rfl hZ))) fun e10 h12 h13 h14 => ?_)))))
      clear h3 h4
      cases h
      exact kd (show impl_CommonMarks_c1_Q a1 a2 _ _ from ⟨rfl, h12, h13, h14⟩)
     refine kx (gsF rfl (congrArg Bool.not hb7)) (kc (Ev.gsF rfl (congrArg Bool.not hb7)) (kx (gsF rfl (congrArg Bool.not hb7)) (kx (pkT rfl (congrArg Bool.not hb7) rfl) (kx (mvO rfl) (Rn (hA h3 (hA h4 (hV (.bool true) rfl hZ))) fun e15 h17 h18 h19 => ?_)))))
     clear h3 h4
     cases h
     exact kd (show impl_CommonMarks_c1_Q a1 a2 _ _ from ⟨rfl, h17, h18, h19⟩)) ?_
 revert h hr61
 revert r60
 intro y22 hr61 h
 intro x e20 M21 hq59
 obtain ⟨rfl, h23, h24, h25⟩ := hq59
 refine sN ?_
 rcases ite_some h with ⟨hb26, h⟩ | ⟨hb26, h⟩
 ·refine cT h25 hb26 (sq (Rg (kx (mvO rfl) (kx (mvO rfl) (Rn (hV (.int .i64 0) rfl (hV (.int .i64 1) rfl hZ)) fun e27 h29 h30 => sN (xx (bR (sR ?_))))))))
  clear h23 h24 h25
  cases h
  exact eR (resT h29 (resT h30 res0)) rfl
 refine cF h25 hb26 (sq (Rg (kx (faP h23 ⟨ble rfl, blt rfl⟩ rfl) (kx (ldP rfl rfl) (kx (faP h24 ⟨ble rfl, blt rfl⟩ rfl) (kx (ldP rfl rfl) (kx (sNeq rfl rfl) (kx (mvO rfl) ?_))))))))
 rcases ite_some h with ⟨hb31, h⟩ | ⟨hb31, h⟩
 ·obtain ⟨r33, hx32, h⟩ := bind_some h
  refine kx (guF rfl (congrArg Bool.not hb31) (faP h23 ⟨ble rfl, blt rfl⟩ rfl)) (kx (guF rfl (congrArg Bool.not hb31) (ldPA rfl rfl rfl)) (kx (guF rfl (congrArg Bool.not hb31) (faP h24 ⟨ble rfl, blt rfl⟩ rfl)) (kx (guF rfl (congrArg Bool.not hb31) (ldPA rfl rfl rfl)) (kc (Ev.guF rfl (congrArg Bool.not hb31) (cl (v := .bool r33) rfl (cns rfl (cns rfl rfl)) rfl (impl_SameHalf_ok a1.Stock a2.Stock _ hx32) nm)) (kx (guF rfl (congrArg Bool.not hb31) (uNot rfl)) (kx (pkF rfl (congrArg Bool.not hb31) rfl) (kx (mvO rfl) (Rn (hV (.pt none (.str a1.Debtor :: (.bool a1.Stock.Stock :: (.sl none (a1.Stock.Notches.map Notch.c) :: ((arC (cI .i8) 0 a1.Stock.Grain) ++ ((.sl none (a1.Marks.map Mark.c) :: []) : List AV)))))) h23 (hV (.pt none (.str a2.Debtor :: (.bool a2.Stock.Stock :: (.sl none (a2.Stock.Notches.map Notch.c) :: ((arC (cI .i8) 0 a2.Stock.Grain) ++ ((.sl none (a2.Marks.map Mark.c) :: []) : List AV)))))) h24 (hN rfl hZ))) fun e34 h36 h37 h38 => sN ?_))))))))
  clear h23 h24 h25
  rcases ite_some h with ⟨hb39, h⟩ | ⟨hb39, h⟩
  ·obtain ⟨r41, hx40, h⟩ := bind_some h
   refine cF h38 (congrArg Bool.not hb39) (xx (bN (sN (sq (Rg (kx (ldPA h36 rfl rfl) (kx (ldPA h37 rfl rfl) (kc (cl (v := .int .i64 r41) rfl (cns rfl (cns rfl rfl)) rfl (impl_common_ok a1 a2 _ hx40) nm) (kx (mvO rfl) (kx (mvO rfl) (Rn (hN rfl (hV (.int .i64 0) rfl hZ)) fun e42 h44 h45 => sN (xx ?_))))))))))))
   clear h36 h37 h38
   cases h
   exact eR (resT h44 (resT h45 res0)) rfl
  refine cT h38 (congrArg Bool.not hb39) (sq (Rg (kx (mvO rfl) (kx (mvO rfl) (Rn (hV (.int .i64 0) rfl (hV (.int .i64 4) rfl hZ)) fun e46 h48 h49 => sN (xx (bR (sR ?_))))))))
  clear h36 h37 h38
  cases h
  exact eR (resT h48 (resT h49 res0)) rfl
 refine kx (gsF rfl (congrArg Bool.not hb31)) (kx (gsF rfl (congrArg Bool.not hb31)) (kx (gsF rfl (congrArg Bool.not hb31)) (kx (gsF rfl (congrArg Bool.not hb31)) (kc (Ev.gsF rfl (congrArg Bool.not hb31)) (kx (gsF rfl (congrArg Bool.not hb31)) (kx (pkT rfl (congrArg Bool.not hb31) rfl) (kx (mvO rfl) (Rn (hV (.pt none (.str a1.Debtor :: (.bool a1.Stock.Stock :: (.sl none (a1.Stock.Notches.map Notch.c) :: ((arC (cI .i8) 0 a1.Stock.Grain) ++ ((.sl none (a1.Marks.map Mark.c) :: []) : List AV)))))) h23 (hV (.pt none (.str a2.Debtor :: (.bool a2.Stock.Stock :: (.sl none (a2.Stock.Notches.map Notch.c) :: ((arC (cI .i8) 0 a2.Stock.Grain) ++ ((.sl none (a2.Marks.map Mark.c) :: []) : List AV)))))) h24 (hV (.bool true) rfl hZ))) fun e50 h52 h53 h54 => sN (cT h54 rfl (sq (Rg (kx (mvO rfl) (kx (mvO rfl) (Rn (hV (.int .i64 0) rfl (hV (.int .i64 4) rfl hZ)) fun e55 h57 h58 => sN (xx (bR (sR ?_)))))))))))))))))
 clear h23 h24 h25 h52 h53 h54
 cases h
 exact eR (resT h57 (resT h58 res0)) rfl
/-! ### loop.example/g01263/spec.CommonMarks (f20) -/
noncomputable def spec_CommonMarks (a1 : Chain) (a2 : Chain) : Option (Int × Int) :=
 (spec_l06Common a1 a2).bind fun (r6, r7) =>
 some (r6, r7)
def spec_CommonMarks_enc (r : Int × Int) : AV := .tup [.int .i64 r.1, .int .i64 r.2]
theorem spec_CommonMarks_ok (a1 : Chain) (a2 : Chain) (r : Int × Int) (h : spec_CommonMarks a1 a2 = some r) : Ev (fun k => CN k 20 [.agg (.str a1.Debtor :: (.bool a1.Stock.Stock :: (.sl none (a1.Stock.Notches.map Notch.c) :: ((arC (cI .i8) 0 a1.Stock.Grain) ++ ((.sl none (a1.Marks.map Mark.c) :: []) : List AV))))), .agg (.str a2.Debtor :: (.bool a2.Stock.Stock :: (.sl none (a2.Stock.Notches.map Notch.c) :: ((arC (cI .i8) 0 a2.Stock.Grain) ++ ((.sl none (a2.Marks.map Mark.c) :: []) : List AV)))))] []) (fun p => rRes p.2 p.1 = spec_CommonMarks_enc r) := by
 unfold spec_CommonMarks at h
 obtain ⟨⟨r6, r7⟩, hx5, h⟩ := bind_some h
 refine Ev.enter (F := fun k => f20 (CN k) k) (fun k => callN_eq rfl Try.func20 rfl rfl rfl (by decide +kernel) (f20_eq _ _)) (sq (Rg (kx (bxI rfl rfl ⟨rfl, rfl, by decide⟩) (kx (bxI rfl rfl ⟨rfl, rfl, by decide⟩) (kx (mvO rfl) (kx (mvO rfl) (Rn (hN rfl (hN rfl hZ)) fun e1 h3 h4 => sN (sq (Rg (kc (cl (v := .tup [.int .i64 r6, .int .i64 r7]) rfl (cns h3 (cns h4 rfl)) rfl (spec_l06Common_ok a1 a2 _ hx5) nm) (kx (mvO rfl) (kx (exT rfl rfl) (kx (exT rfl rfl) (kx (mvO rfl) (kx (mvO rfl) (Rn (hN rfl (hN rfl hZ)) fun e8 h10 h11 => sN (sq (Rg (kx (mvO h10) (kx (mvO h11) (kx (mvO rfl) (kx (mvO rfl) (Rn (hN rfl (hN rfl hZ)) fun e12 h14 h15 => sN (xx ?_))))))))))))))))))))))))
 clear h3 h4 h10 h11
 cases h
 exact eR (resT h14 (resT h15 res0)) rfl
/-! ### loop.example/g01263/laws.eqChain (f13) -/
noncomputable def laws_eqChain (a1 : Chain) (a2 : Chain) : Option Bool :=
 if (a1.Debtor == a2.Debtor) = true then
  (laws_eqHalf a1.Stock a2.Stock).bind fun r12 =>
  if r12 = true then
   (laws_eqMarkS a1.Marks a2.Marks).bind fun r20 =>
   if r20 = true then
    some true
   else
    some false
  else
   some false
 else
  some false
def laws_eqChain_enc (r : Bool) : AV := .bool r
theorem laws_eqChain_ok (a1 : Chain) (a2 : Chain) (r : Bool) (h : laws_eqChain a1 a2 = some r) : Ev (fun k => CN k 13 [.agg (.str a1.Debtor :: (.bool a1.Stock.Stock :: (.sl none (a1.Stock.Notches.map Notch.c) :: ((arC (cI .i8) 0 a1.Stock.Grain) ++ ((.sl none (a1.Marks.map Mark.c) :: []) : List AV))))), .agg (.str a2.Debtor :: (.bool a2.Stock.Stock :: (.sl none (a2.Stock.Notches.map Notch.c) :: ((arC (cI .i8) 0 a2.Stock.Grain) ++ ((.sl none (a2.Marks.map Mark.c) :: []) : List AV)))))] []) (fun p => rRes p.2 p.1 = laws_eqChain_enc r) := by
 unfold laws_eqChain at h
 refine Ev.enter (F := fun k => f13 (CN k) k) (fun k => callN_eq rfl Try.func13 rfl rfl rfl (by decide +kernel) (f13_eq _ _)) (sq (Rg (kx (bxI rfl rfl ⟨rfl, rfl, by decide⟩) (kx (bxI rfl rfl ⟨rfl, rfl, by decide⟩) (kx (mvO rfl) (Rn (hN rfl (hN rfl hZ)) fun e1 h3 h4 => sN (sq (sq (Rg (kx (faP h3 ⟨ble rfl, blt rfl⟩ rfl) (kx (ldP rfl rfl) (kx (faP h4 ⟨ble rfl, blt rfl⟩ rfl) (kx (ldP rfl rfl) (kx (sNeq rfl rfl) (Rn (hA h3 (hA h4 (hN rfl hZ))) fun e5 h7 h8 h9 => sN ?_)))))))))))))))
 clear h3 h4
 rcases ite_some h with ⟨hb10, h⟩ | ⟨hb10, h⟩
 ·obtain ⟨r12, hx11, h⟩ := bind_some h
  refine cF h9 (congrArg Bool.not hb10) (xx (sN (sq (sq (Rg (kx (faP h7 ⟨ble rfl, blt rfl⟩ rfl) (kx (ldPA rfl rfl rfl) (kx (faP h8 ⟨ble rfl, blt rfl⟩ rfl) (kx (ldPA rfl rfl rfl) (kc (cl (v := .bool r12) rfl (cns rfl (cns rfl rfl)) rfl (laws_eqHalf_ok a1.Stock a2.Stock _ hx11) nm) (kx (uNot rfl) (Rn (hA h7 (hA h8 (hN rfl hZ))) fun e13 h15 h16 h17 => sN ?_))))))))))))
  clear h7 h8 h9
  rcases ite_some h with ⟨hb18, h⟩ | ⟨hb18, h⟩
  ·obtain ⟨r20, hx19, h⟩ := bind_some h
   refine cF h17 (congrArg Bool.not hb18) (xx (sN (sq (sq (Rg (kx (faP h15 ⟨ble rfl, blt rfl⟩ rfl) (kx (ldP rfl rfl) (kx (faP h16 ⟨ble rfl, blt rfl⟩ rfl) (kx (ldP rfl rfl) (kc (cl (v := .bool r20) rfl (cns rfl (cns rfl rfl)) rfl (laws_eqMarkS_ok a1.Marks a2.Marks _ hx19) nm) (kx (uNot rfl) (Rn (hN rfl hZ) fun e21 h23 => sN ?_))))))))))))
   clear h15 h16 h17
   rcases ite_some h with ⟨hb24, h⟩ | ⟨hb24, h⟩
   ·refine cF h23 (congrArg Bool.not hb24) (xx (sN (sq (Rg (kx (mvO rfl) (Rn (hV (.bool true) rfl hZ) fun e25 h27 => sN (xx ?_)))))))
    clear h23
    cases h
    exact eR (resT h27 res0) rfl
   refine cT h23 (congrArg Bool.not hb24) (sq (Rg (kx (mvO rfl) (Rn (hV (.bool false) rfl hZ) fun e28 h30 => sN (xx (sR ?_))))))
   clear h23
   cases h
   exact eR (resT h30 res0) rfl
  refine cT h17 (congrArg Bool.not hb18) (sq (Rg (kx (mvO rfl) (Rn (hV (.bool false) rfl hZ) fun e31 h33 => sN (xx (sR ?_))))))
  clear h15 h16 h17
  cases h
  exact eR (resT h33 res0) rfl
 refine cT h9 (congrArg Bool.not hb10) (sq (Rg (kx (mvO rfl) (Rn (hV (.bool false) rfl hZ) fun e34 h36 => sN (xx (sR ?_))))))
 clear h7 h8 h9
 cases h
 exact eR (resT h36 res0) rfl
/-! ### loop.example/g01263/laws.toChain (f11) -/
noncomputable def laws_toChain (a1 : Chain) : Option ((List UInt8) × Bool × (List Notch) × (Ar 16 Int) × (List Mark)) :=
 (laws_toHalf a1.Stock).bind fun (r30, r31, r32) =>
 (laws_toMarkS a1.Marks).bind fun r43 =>
 some (a1.Debtor, r30, r31, r32, r43)
def laws_toChain_enc (r : (List UInt8) × Bool × (List Notch) × (Ar 16 Int) × (List Mark)) : AV := .agg (.str r.1 :: (.bool r.2.1 :: (.sl none (r.2.2.1.map Notch.c) :: ((arC (cI .i8) 0 r.2.2.2.1) ++ ((.sl none (r.2.2.2.2.map Mark.c) :: []) : List AV)))))
theorem laws_toChain_ok (a1 : Chain) (r : (List UInt8) × Bool × (List Notch) × (Ar 16 Int) × (List Mark)) (h : laws_toChain a1 = some r) : Ev (fun k => CN k 11 [.agg (.str a1.Debtor :: (.bool a1.Stock.Stock :: (.sl none (a1.Stock.Notches.map Notch.c) :: ((arC (cI .i8) 0 a1.Stock.Grain) ++ ((.sl none (a1.Marks.map Mark.c) :: []) : List AV)))))] []) (fun p => rRes p.2 p.1 = laws_toChain_enc r) := by
 unfold laws_toChain at h
 refine Ev.enter (F := fun k => f11 (CN k) k) (fun k => callN_eq rfl Try.func11 rfl rfl rfl (by decide +kernel) (f11_eq _ _)) (sq (Rg (kx (bxI rfl rfl ⟨rfl, rfl, by decide⟩) (ku (alO zero38) fun M2 hM3 => ?_))))
 have o4 : M2[([] : Mem).length]? = some (.live ⟨.box, 38, 20, [(.str ([] : List UInt8) :: (.bool false :: (.nils :: ((arC (cI .i8) 0 (Ar.rep 16 0)) ++ ((.nils :: []) : List AV)))))]⟩) := push_new hM3
 refine Rn (hN rfl (hV (.loc ([] : Mem).length 1 0 0) rfl hZ)) fun e5 h7 h8 => sN (sq (Rg (ku (alO zero38) fun M10 hM11 => ?_)))
 have o12 := push_old hM11 o4
 have ne13 := ne_new o4
 have o14 : M10[M2.length]? = some (.live ⟨.box, 38, 20, [(.str ([] : List UInt8) :: (.bool false :: (.nils :: ((arC (cI .i8) 0 (Ar.rep 16 0)) ++ ((.nils :: []) : List AV)))))]⟩) := push_new hM11
 refine Rn (hA h7 (hA h8 (hV (.loc M2.length 1 0 0) rfl hZ))) fun e15 h17 h18 h19 => sN (sq (Rg (kx (faP h17 ⟨ble rfl, blt rfl⟩ rfl) (kx (ldP rfl rfl) (kx (faO h19 o14 rfl) (kw (stO rfl rfl o14 rfl rfl ⟨rfl, ble rfl⟩ rfl rfl) fun M20 hM21 => ?_))))))
 clear h7 h8
 have o22 := set_ne hM21 ne13 o12
 have o23 : M20[M2.length]? = some (.live ⟨.box, 38, 20, [(.str a1.Debtor :: (.bool false :: (.nils :: ((arC (cI .i8) 0 (Ar.rep 16 0)) ++ ((.nils :: []) : List AV)))))]⟩) := set_same hM21 o14
 obtain ⟨⟨r30, r31, r32⟩, hx29, h⟩ := bind_some h
 refine Rn (hA h17 (hA h18 (hA h19 hZ))) fun e24 h26 h27 h28 => sN (sq (Rg (kx (faP h26 ⟨ble rfl, blt rfl⟩ rfl) (kx (ldPA rfl rfl rfl) (kc (cl (v := .agg (.bool r30 :: (.sl none (r31.map Notch.c) :: ((arC (cI .i8) 0 r32) ++ ([] : List AV))))) rfl (cns rfl rfl) rfl (laws_toHalf_ok a1.Stock _ hx29) nm) (kx (faO h28 o23 rfl) (kw (stO rfl rfl o23 rfl rfl ⟨rfl, ble rfl⟩ rfl rfl) fun M33 hM34 => ?_)))))))
 clear h17 h18 h19
 have o35 := set_ne hM34 ne13 o22
 have o36 : M33[M2.length]? = some (.live ⟨.box, 38, 20, [(.str a1.Debtor :: (.bool r30 :: (.sl none (r31.map Notch.c) :: ((arC (cI .i8) 0 r32) ++ ((.nils :: []) : List AV)))))]⟩) := set_same hM34 o23
 obtain ⟨r43, hx42, h⟩ := bind_some h
 refine Rn (hA h26 (hA h27 (hA h28 hZ))) fun e37 h39 h40 h41 => sN (sq (Rg (kx (faP h39 ⟨ble rfl, blt rfl⟩ rfl) (kx (ldP rfl rfl) (kc (cl (v := .sl (some 72) (r43.map Mark.c)) rfl (cns rfl rfl) rfl (laws_toMarkS_ok a1.Marks _ hx42) nm) (kx (faO h41 o36 rfl) (kw (stO rfl rfl o36 rfl rfl ⟨rfl, ble rfl⟩ rfl rfl) fun M44 hM45 => ?_)))))))
 clear h26 h27 h28
 have o46 := set_ne hM45 ne13 o35
 have o47 : M44[M2.length]? = some (.live ⟨.box, 38, 20, [(.str a1.Debtor :: (.bool r30 :: (.sl none (r31.map Notch.c) :: ((arC (cI .i8) 0 r32) ++ ((.sl none (r43.map Mark.c) :: []) : List AV)))))]⟩) := set_same hM45 o36
 refine Rn (hA h40 (hA h41 hZ)) fun e48 h50 h51 => sN (sq (Rg (kx (ldOA h51 o47 rfl rfl (ble rfl) rfl) (kw (stO h50 rfl o46 rfl rfl ⟨rfl, ble rfl⟩ rfl rfl) fun M52 hM53 => ?_))))
 clear h39 h40 h41
 have o54 : M52[([] : Mem).length]? = some (.live ⟨.box, 38, 20, [(.str a1.Debtor :: (.bool r30 :: (.sl none (r31.map Notch.c) :: ((arC (cI .i8) 0 r32) ++ ((.sl none (r43.map Mark.c) :: []) : List AV)))))]⟩) := set_same hM53 o46
 have o55 := set_ne hM53 (Ne.symm ne13) o47
 refine Rn (hA h50 hZ) fun e56 h58 => sN (xx ?_)
 clear h50 h51
 cases h
 exact eR (resC (ag := true) (sz := 20) ⟨by kernel_rfl, by kernel_rfl, by kernel_rfl⟩ (ldOA h58 o54 rfl rfl (ble rfl) rfl) res0) rfl
/-! ### loop.example/g01263/laws.szChain (f9) -/
noncomputable def laws_szChain (a1 : Chain) (a2 : Int) : Option Int :=
 if (decide ((IntKind.i64.wrap (a2 - (a1.Debtor.length : Int))) < 0)) = true then
  some (-1)
 else
  (laws_szHalf a1.Stock (IntKind.i64.wrap (a2 - (a1.Debtor.length : Int)))).bind fun r19 =>
  if (decide (r19 < 0)) = true then
   some (-1)
  else
   (laws_szMarkS a1.Marks r19).bind fun r34 =>
   if (decide (r34 < 0)) = true then
    some (-1)
   else
    some r34
def laws_szChain_enc (r : Int) : AV := .int .i64 r
theorem laws_szChain_ok (a1 : Chain) (a2 : Int) (r : Int) (h : laws_szChain a1 a2 = some r) : Ev (fun k => CN k 9 [.agg (.str a1.Debtor :: (.bool a1.Stock.Stock :: (.sl none (a1.Stock.Notches.map Notch.c) :: ((arC (cI .i8) 0 a1.Stock.Grain) ++ ((.sl none (a1.Marks.map Mark.c) :: []) : List AV))))), .int .i64 a2] []) (fun p => rRes p.2 p.1 = laws_szChain_enc r) := by
 unfold laws_szChain at h
 refine Ev.enter (F := fun k => f9 (CN k) k) (fun k => callN_eq rfl Try.func9 rfl rfl rfl (by decide +kernel) (f9_eq _ _)) (sq (Rg (kx (bxI rfl rfl ⟨rfl, rfl, by decide⟩) (kx (mvO rfl) (Rn (hN rfl (hN rfl hZ)) fun e1 h3 h4 => sN (sq (Rg (kx (mvO h3) (kx (faP h4 ⟨ble rfl, blt rfl⟩ rfl) (kx (ldP rfl rfl) (kx (lnB Try.underlying9 rfl) (kx (bSub rfl rfl) (kx (mvO rfl) (Rn (hN rfl (hA h4 hZ)) fun e5 h7 h8 => sN (sq (sq (Rg (kx (mvO h7) (kx (bLss rfl rfl) (Rn (hA h7 (hA h8 (hN rfl hZ))) fun e9 h11 h12 h13 => sN ?_))))))))))))))))))))
 clear h4 h7 h8
 rcases ite_some h with ⟨hb14, h⟩ | ⟨hb14, h⟩
 ·refine cT h13 hb14 (sq (Rg (kx (mvO rfl) (Rn (hV (.int .i64 (-1)) rfl hZ) fun e15 h17 => sN (xx (sR ?_))))))
  clear h11 h12 h13
  cases h
  exact eR (resT h17 res0) rfl
 obtain ⟨r19, hx18, h⟩ := bind_some h
 refine cF h13 hb14 (xx (sN (sq (Rg (kx (faP h12 ⟨ble rfl, blt rfl⟩ rfl) (kx (ldPA rfl rfl rfl) (kx (mvO h11) (kc (cl (v := .int .i64 r19) rfl (cns rfl (cns rfl rfl)) rfl (laws_szHalf_ok a1.Stock (IntKind.i64.wrap (a2 - (a1.Debtor.length : Int))) _ hx18) nm) (kx (mvO rfl) (Rn (hN rfl (hA h12 hZ)) fun e20 h22 h23 => sN (sq (sq (Rg (kx (mvO h22) (kx (bLss rfl rfl) (Rn (hA h22 (hA h23 (hN rfl hZ))) fun e24 h26 h27 h28 => sN ?_))))))))))))))))
 clear h12 h13 h22 h23
 rcases ite_some h with ⟨hb29, h⟩ | ⟨hb29, h⟩
 ·refine cT h28 hb29 (sq (Rg (kx (mvO rfl) (Rn (hV (.int .i64 (-1)) rfl hZ) fun e30 h32 => sN (xx (sR ?_))))))
  clear h26 h27 h28
  cases h
  exact eR (resT h32 res0) rfl
 obtain ⟨r34, hx33, h⟩ := bind_some h
 refine cF h28 hb29 (xx (sN (sq (Rg (kx (faP h27 ⟨ble rfl, blt rfl⟩ rfl) (kx (ldP rfl rfl) (kx (mvO h26) (kc (cl (v := .int .i64 r34) rfl (cns rfl (cns rfl rfl)) rfl (laws_szMarkS_ok a1.Marks r19 _ hx33) nm) (kx (mvO rfl) (Rn (hN rfl hZ) fun e35 h37 => sN (sq (sq (Rg (kx (mvO h37) (kx (bLss rfl rfl) (Rn (hA h37 (hN rfl hZ)) fun e38 h40 h41 => sN ?_))))))))))))))))
 clear h27 h28 h37
 rcases ite_some h with ⟨hb42, h⟩ | ⟨hb42, h⟩
 ·refine cT h41 hb42 (sq (Rg (kx (mvO rfl) (Rn (hV (.int .i64 (-1)) rfl hZ) fun e43 h45 => sN (xx (sR ?_))))))
  clear h40 h41
  cases h
  exact eR (resT h45 res0) rfl
 refine cF h41 hb42 (xx (sN (sq (Rg (kx (mvO h40) (kx (mvO rfl) (Rn (hN rfl hZ) fun e46 h48 => sN (xx ?_))))))))
 clear h40 h41
 cases h
 exact eR (resT h48 res0) rfl
/-! ### loop.example/g01263/laws.FnExactCommonMarks (f7) -/
def laws_FnExactCommonMarks_c1_Q (a1 : Chain) (a2 : Chain) (r65 : List UInt8) (r66 : Bool) (r67 : List Notch) (r68 : Ar 16 Int) (r69 : List Mark) (r85 : List UInt8) (r86 : Bool) (r87 : List Notch) (r88 : Ar 16 Int) (r89 : List Mark) (i901_1 : Nat) (i901_2 : Nat) (g : Bool) (q : Out) : Prop := q.1 = .nrm ∧ eget q.2.1 2 = .pt none (.str a1.Debtor :: (.bool a1.Stock.Stock :: (.sl none (a1.Stock.Notches.map Notch.c) :: ((arC (cI .i8) 0 a1.Stock.Grain) ++ ((.sl none (a1.Marks.map Mark.c) :: []) : List AV))))) ∧ eget q.2.1 3 = .pt none (.str a2.Debtor :: (.bool a2.Stock.Stock :: (.sl none (a2.Stock.Notches.map Notch.c) :: ((arC (cI .i8) 0 a2.Stock.Grain) ++ ((.sl none (a2.Marks.map Mark.c) :: []) : List AV))))) ∧ eget q.2.1 8 = .loc i901_1 1 0 0 ∧ eget q.2.1 9 = .loc i901_2 1 0 0 ∧ eget q.2.1 47 = .bool g ∧ q.2.2[i901_1]? = some (.live ⟨.box, 38, 20, [(.str r65 :: (.bool r66 :: (.sl none (r67.map Notch.c) :: ((arC (cI .i8) 0 r68) ++ ((.sl none (r69.map Mark.c) :: []) : List AV)))))]⟩) ∧ q.2.2[i901_2]? = some (.live ⟨.box, 38, 20, [(.str r85 :: (.bool r86 :: (.sl none (r87.map Notch.c) :: ((arC (cI .i8) 0 r88) ++ ((.sl none (r89.map Mark.c) :: []) : List AV)))))]⟩)
noncomputable def laws_FnExactCommonMarks (a1 : Chain) (a2 : Chain) : Option Bool :=
 (laws_szChain a1 1048576).bind fun r11 =>
 if (decide (r11 < 0)) = true then
  some true
 else
  (laws_szChain a2 r11).bind fun r28 =>
  if (decide (r28 < 0)) = true then
   some true
  else
   (laws_toChain a1).bind fun (r44, r45, r46, r47, r48) =>
   (laws_toChain a2).bind fun (r50, r51, r52, r53, r54) =>
   (spec_CommonMarks (Chain.mk r44 (Half.mk r45 r46 r47) r48) (Chain.mk r50 (Half.mk r51 r52 r53) r54)).bind fun (r56, r57) =>
   (laws_toChain a1).bind fun (r65, r66, r67, r68, r69) =>
   (laws_toChain a2).bind fun (r85, r86, r87, r88, r89) =>
   (impl_CommonMarks (Chain.mk r65 (Half.mk r66 r67 r68) r69) (Chain.mk r85 (Half.mk r86 r87 r88) r89)).bind fun (r109, r110) =>
   (if (r109 != r56) = true then
    some true
   else
    some (r110 != r57)).bind fun y138 =>
   if y138 = true then
    some false
   else
    (laws_toChain a1).bind fun (r151, r152, r153, r154, r155) =>
    (laws_eqChain (Chain.mk r65 (Half.mk r66 r67 r68) r69) (Chain.mk r151 (Half.mk r152 r153 r154) r155)).bind fun r157 =>
    if r157 = true then
     (laws_toChain a2).bind fun (r165, r166, r167, r168, r169) =>
     (laws_eqChain (Chain.mk r85 (Half.mk r86 r87 r88) r89) (Chain.mk r165 (Half.mk r166 r167 r168) r169)).bind fun r171 =>
     if r171 = true then
      some true
     else
      some false
    else
     some false
def laws_FnExactCommonMarks_enc (r : Bool) : AV := .bool r
theorem laws_FnExactCommonMarks_ok (a1 : Chain) (a2 : Chain) (r : Bool) (h : laws_FnExactCommonMarks a1 a2 = some r) : Ev (fun k => CN k 7 [.agg (.str a1.Debtor :: (.bool a1.Stock.Stock :: (.sl none (a1.Stock.Notches.map Notch.c) :: ((arC (cI .i8) 0 a1.Stock.Grain) ++ ((.sl none (a1.Marks.map Mark.c) :: []) : List AV))))), .agg (.str a2.Debtor :: (.bool a2.Stock.Stock :: (.sl none (a2.Stock.Notches.map Notch.c) :: ((arC (cI .i8) 0 a2.Stock.Grain) ++ ((.sl none (a2.Marks.map Mark.c) :: []) : List AV)))))] []) (fun p => rRes p.2 p.1 = laws_FnExactCommonMarks_enc r) := by
 unfold laws_FnExactCommonMarks at h
 obtain ⟨r11, hx10, h⟩ := bind_some h
 refine Ev.enter (F := fun k => f7 (CN k) k) (fun k => callN_eq rfl Try.func7 rfl rfl rfl (by decide +kernel) (f7_eq _ _)) (sq (Rg (kx (bxI rfl rfl ⟨rfl, rfl, by decide⟩) (kx (bxI rfl rfl ⟨rfl, rfl, by decide⟩) (kx (mvO rfl) (Rn (hN rfl (hN rfl hZ)) fun e1 h3 h4 => sN (sq (Rg (kx (mvO rfl) (Rn (hA h3 (hA h4 (hV (.int .i64 1048576) rfl hZ))) fun e5 h7 h8 h9 => sN (sq (Rg (kx (ldPA h7 rfl rfl) (kx (mvO h9) (kc (cl (v := .int .i64 r11) rfl (cns rfl (cns rfl rfl)) rfl (laws_szChain_ok a1 1048576 _ hx10) nm) (kx (mvO rfl) (Rn (hA h7 (hA h8 (hN rfl hZ))) fun e12 h14 h15 h16 => sN (sq (sq (Rg (kx (mvO h16) (kx (bLss rfl rfl) (Rn (hA h14 (hA h15 (hA h16 (hN rfl hZ)))) fun e17 h19 h20 h21 h22 => sN ?_)))))))))))))))))))))))
 clear h3 h4 h7 h8 h14 h15 h16
 rcases ite_some h with ⟨hb23, h⟩ | ⟨hb23, h⟩
 ·refine cT h22 hb23 (sq (Rg (kx (mvO rfl) (Rn (hV (.bool true) rfl hZ) fun e24 h26 => sN (xx (sR ?_))))))
  clear h19 h20 h21 h22
  cases h
  exact eR (resT h26 res0) rfl
 obtain ⟨r28, hx27, h⟩ := bind_some h
 refine cF h22 hb23 (xx (sN (sq (Rg (kx (ldPA h20 rfl rfl) (kx (mvO h21) (kc (cl (v := .int .i64 r28) rfl (cns rfl (cns rfl rfl)) rfl (laws_szChain_ok a2 r11 _ hx27) nm) (kx (mvO rfl) (Rn (hA h19 (hA h20 (hN rfl hZ))) fun e29 h31 h32 h33 => sN (sq (sq (Rg (kx (mvO h33) (kx (bLss rfl rfl) (Rn (hA h31 (hA h32 (hN rfl hZ))) fun e34 h36 h37 h38 => sN ?_)))))))))))))))
 clear h19 h20 h22 h31 h32 h33
 rcases ite_some h with ⟨hb39, h⟩ | ⟨hb39, h⟩
 ·refine cT h38 hb39 (sq (Rg (kx (mvO rfl) (Rn (hV (.bool true) rfl hZ) fun e40 h42 => sN (xx (sR ?_))))))
  clear h36 h37 h38
  cases h
  exact eR (resT h42 res0) rfl
 obtain ⟨⟨r44, r45, r46, r47, r48⟩, hx43, h⟩ := bind_some h
 obtain ⟨⟨r50, r51, r52, r53, r54⟩, hx49, h⟩ := bind_some h
 obtain ⟨⟨r56, r57⟩, hx55, h⟩ := bind_some h
 obtain ⟨⟨r65, r66, r67, r68, r69⟩, hx64, h⟩ := bind_some h
 refine cF h38 hb39 (xx (sN (sq (Rd (kf (ldPA h36 rfl rfl) (fc (cl (v := .agg (.str r44 :: (.bool r45 :: (.sl none (r46.map Notch.c) :: ((arC (cI .i8) 0 r47) ++ ((.sl none (r48.map Mark.c) :: []) : List AV)))))) rfl (cns rfl rfl) rfl (laws_toChain_ok a1 _ hx43) nm) (kf (ldPA h37 rfl rfl) (fc (cl (v := .agg (.str r50 :: (.bool r51 :: (.sl none (r52.map Notch.c) :: ((arC (cI .i8) 0 r53) ++ ((.sl none (r54.map Mark.c) :: []) : List AV)))))) rfl (cns rfl rfl) rfl (laws_toChain_ok a2 _ hx49) nm) (fc (cl (v := .tup [.int .i64 r56, .int .i64 r57]) rfl (cns rfl (cns rfl rfl)) rfl (spec_CommonMarks_ok (Chain.mk r44 (Half.mk r45 r46 r47) r48) (Chain.mk r50 (Half.mk r51 r52 r53) r54) _ hx55) nm) (kf (mvO rfl) (kf (exT rfl rfl) (kf (exT rfl rfl) (kf (mvO rfl) (kf (mvO rfl) (fZ (Rn (hA h36 (hA h37 (hN rfl (hN rfl hZ)))) fun e58 h60 h61 h62 h63 => sN (sq (Rg (kx (ldPA h60 rfl rfl) (kc (cl (v := .agg (.str r65 :: (.bool r66 :: (.sl none (r67.map Notch.c) :: ((arC (cI .i8) 0 r68) ++ ((.sl none (r69.map Mark.c) :: []) : List AV)))))) rfl (cns rfl rfl) rfl (laws_toChain_ok a1 _ hx64) nm) (ku (alO zero38) fun M71 hM72 => ?_)))))))))))))))))))))
 clear h36 h37 h38
 have o73 : M71[([] : Mem).length]? = some (.live ⟨.box, 38, 20, [(.str ([] : List UInt8) :: (.bool false :: (.nils :: ((arC (cI .i8) 0 (Ar.rep 16 0)) ++ ((.nils :: []) : List AV)))))]⟩) := push_new hM72
 refine kw (stO rfl rfl o73 rfl rfl ⟨rfl, ble rfl⟩ rfl rfl) fun M74 hM75 => ?_
 have o76 : M74[([] : Mem).length]? = some (.live ⟨.box, 38, 20, [(.str r65 :: (.bool r66 :: (.sl none (r67.map Notch.c) :: ((arC (cI .i8) 0 r68) ++ ((.sl none (r69.map Mark.c) :: []) : List AV)))))]⟩) := set_same hM75 o73
 obtain ⟨⟨r85, r86, r87, r88, r89⟩, hx84, h⟩ := bind_some h
 refine Rn (hA h60 (hA h61 (hA h62 (hA h63 (hV (.loc ([] : Mem).length 1 0 0) rfl hZ))))) fun e77 h79 h80 h81 h82 h83 => sN (sq (Rg (kx (ldPA h80 rfl rfl) (kc (cl (v := .agg (.str r85 :: (.bool r86 :: (.sl none (r87.map Notch.c) :: ((arC (cI .i8) 0 r88) ++ ((.sl none (r89.map Mark.c) :: []) : List AV)))))) rfl (cns rfl rfl) rfl (laws_toChain_ok a2 _ hx84) nm) (ku (alO zero38) fun M91 hM92 => ?_)))))
 clear h60 h61 h62 h63
 have o93 := push_old hM92 o76
 have ne94 := ne_new o76
 have o95 : M91[M74.length]? = some (.live ⟨.box, 38, 20, [(.str ([] : List UInt8) :: (.bool false :: (.nils :: ((arC (cI .i8) 0 (Ar.rep 16 0)) ++ ((.nils :: []) : List AV)))))]⟩) := push_new hM92
 refine kw (stO rfl rfl o95 rfl rfl ⟨rfl, ble rfl⟩ rfl rfl) fun M96 hM97 => ?_
 have o98 := set_ne hM97 ne94 o93
 have o99 : M96[M74.length]? = some (.live ⟨.box, 38, 20, [(.str r85 :: (.bool r86 :: (.sl none (r87.map Notch.c) :: ((arC (cI .i8) 0 r88) ++ ((.sl none (r89.map Mark.c) :: []) : List AV)))))]⟩) := set_same hM97 o95
 obtain ⟨⟨r109, r110⟩, hx108, h⟩ := bind_some h
 obtain ⟨r186, hr187, h⟩ := bind_some h
 refine Rn (hA h79 (hA h80 (hA h81 (hA h82 (hA h83 (hV (.loc M74.length 1 0 0) rfl hZ)))))) fun e100 h102 h103 h104 h105 h106 h107 => sN (sq (Rg (kx (ldOA h106 o98 rfl rfl (ble rfl) rfl) (kx (ldOA h107 o99 rfl rfl (ble rfl) rfl) (kc (cl (v := .tup [.int .i64 r109, .int .i64 r110]) rfl (cns rfl (cns rfl rfl)) rfl (impl_CommonMarks_ok (Chain.mk r65 (Half.mk r66 r67 r68) r69) (Chain.mk r85 (Half.mk r86 r87 r88) r89) _ hx108) nm) (kx (mvO rfl) (kx (exT rfl rfl) (kx (exT rfl rfl) (kx (mvO rfl) (kx (mvO rfl) (Rn (hA h102 (hA h103 (hA h104 (hA h105 (hA h106 (hA h107 (hN rfl (hN rfl hZ)))))))) fun e111 h113 h114 h115 h116 h117 h118 h119 h120 => sN (sq (sq ?_)))))))))))))
 clear h79 h80 h81 h82 h83 h102 h103 h104 h105 h106 h107
 refine Ev.cut (Q1 := laws_FnExactCommonMarks_c1_Q a1 a2 r65 r66 r67 r68 r69 r85 r86 r87 r88 r89 (([] : Mem).length) M74.length r186) (by
     have h := hr187
     refine Rg (kx (mvO h119) (kx (mvO h115) (kx (bNeq rfl rfl) (kx (mvO rfl) ?_))))
     rcases ite_some h with ⟨hb121, h⟩ | ⟨hb121, h⟩
     ·refine kx (gsF rfl hb121) (kx (gsF rfl hb121) (kx (gsF rfl hb121) (kx (pkT rfl hb121 rfl) (Rn (hA h113 (hA h114 (hA h117 (hA h118 (hV (.bool true) rfl hZ))))) fun e122 h124 h125 h126 h127 h128 => ?_))))
      clear h113 h114 h115 h116 h117 h118 h119 h120
      cases h
      exact kd (show laws_FnExactCommonMarks_c1_Q a1 a2 r65 r66 r67 r68 r69 r85 r86 r87 r88 r89 (([] : Mem).length) M74.length _ _ from ⟨rfl, h124, h125, h126, h127, h128, o98, o99⟩)
     refine kx (guF rfl hb121 (mvO h120)) (kx (guF rfl hb121 (mvO h116)) (kx (guF rfl hb121 (bNeq rfl rfl)) (kx (pkF rfl hb121 rfl) (Rn (hA h113 (hA h114 (hA h117 (hA h118 (hN rfl hZ))))) fun e129 h131 h132 h133 h134 h135 => ?_))))
     clear h113 h114 h115 h116 h117 h118 h119 h120
     cases h
     exact kd (show laws_FnExactCommonMarks_c1_Q a1 a2 r65 r66 r67 r68 r69 r85 r86 r87 r88 r89 (([] : Mem).length) M74.length _ _ from ⟨rfl, h131, h132, h133, h134, h135, o98, o99⟩)) ?_
 revert h hr187
 revert r186
 intro y138 hr187 h
 intro x e136 M137 hq185
 obtain ⟨rfl, h139, h140, h141, h142, h143, o144, o145⟩ := hq185
 refine sN ?_
 rcases ite_some h with ⟨hb146, h⟩ | ⟨hb146, h⟩
 ·refine cT h143 hb146 (sq (Rg (kx (mvO rfl) (Rn (hV (.bool false) rfl hZ) fun e147 h149 => sN (xx (sR ?_))))))
  clear h139 h140 h141 h142 h143
  cases h
  exact eR (resT h149 res0) rfl
 obtain ⟨⟨r151, r152, r153, r154, r155⟩, hx150, h⟩ := bind_some h
 obtain ⟨r157, hx156, h⟩ := bind_some h
 refine cF h143 hb146 (xx (sN (sq (sq (Rd (kf (ldOA h141 o144 rfl rfl (ble rfl) rfl) (kf (ldPA h139 rfl rfl) (fc (cl (v := .agg (.str r151 :: (.bool r152 :: (.sl none (r153.map Notch.c) :: ((arC (cI .i8) 0 r154) ++ ((.sl none (r155.map Mark.c) :: []) : List AV)))))) rfl (cns rfl rfl) rfl (laws_toChain_ok a1 _ hx150) nm) (fc (cl (v := .bool r157) rfl (cns rfl (cns rfl rfl)) rfl (laws_eqChain_ok (Chain.mk r65 (Half.mk r66 r67 r68) r69) (Chain.mk r151 (Half.mk r152 r153 r154) r155) _ hx156) nm) (kf (uNot rfl) (fZ (Rn (hV (.pt none (.str a2.Debtor :: (.bool a2.Stock.Stock :: (.sl none (a2.Stock.Notches.map Notch.c) :: ((arC (cI .i8) 0 a2.Stock.Grain) ++ ((.sl none (a2.Marks.map Mark.c) :: []) : List AV)))))) h140 (hV (.loc M74.length 1 0 0) h142 (hN rfl hZ))) fun e158 h160 h161 h162 => sN ?_))))))))))))
 clear h139 h140 h141 h142 h143
 rcases ite_some h with ⟨hb163, h⟩ | ⟨hb163, h⟩
 ·obtain ⟨⟨r165, r166, r167, r168, r169⟩, hx164, h⟩ := bind_some h
  obtain ⟨r171, hx170, h⟩ := bind_some h
  refine cF h162 (congrArg Bool.not hb163) (xx (sN (sq (sq (Rd (kf (ldOA h161 o145 rfl rfl (ble rfl) rfl) (kf (ldPA h160 rfl rfl) (fc (cl (v := .agg (.str r165 :: (.bool r166 :: (.sl none (r167.map Notch.c) :: ((arC (cI .i8) 0 r168) ++ ((.sl none (r169.map Mark.c) :: []) : List AV)))))) rfl (cns rfl rfl) rfl (laws_toChain_ok a2 _ hx164) nm) (fc (cl (v := .bool r171) rfl (cns rfl (cns rfl rfl)) rfl (laws_eqChain_ok (Chain.mk r85 (Half.mk r86 r87 r88) r89) (Chain.mk r165 (Half.mk r166 r167 r168) r169) _ hx170) nm) (kf (uNot rfl) (fZ (Rn (hN rfl hZ) fun e172 h174 => sN ?_))))))))))))
  clear h160 h161 h162
  rcases ite_some h with ⟨hb175, h⟩ | ⟨hb175, h⟩
  ·refine cF h174 (congrArg Bool.not hb175) (xx (sN (sq (Rg (kx (mvO rfl) (Rn (hV (.bool true) rfl hZ) fun e176 h178 => sN (xx ?_)))))))
   clear h174
   cases h
   exact eR (resT h178 res0) rfl
  refine cT h174 (congrArg Bool.not hb175) (sq (Rg (kx (mvO rfl) (Rn (hV (.bool false) rfl hZ) fun e179 h181 => sN (xx (sR ?_))))))
  clear h174
  cases h
  exact eR (resT h181 res0) rfl
 refine cT h162 (congrArg Bool.not hb163) (sq (Rg (kx (mvO rfl) (Rn (hV (.bool false) rfl hZ) fun e182 h184 => sN (xx (sR ?_))))))
 clear h160 h161 h162
 cases h
 exact eR (resT h184 res0) rfl
end Go.Proofs.Ythkbjnbbahmpkaa

/- Printed by a program of ours (ext.py). -/
import Derived.Test.YtjlalepbhcekoaaLnkBooksx0
set_option linter.unusedVariables false
set_option linter.unusedSimpArgs false
set_option maxRecDepth 100000
set_option maxHeartbeats 2000000
namespace Go.Proofs.Ytjlalepbhcekoaa
open Go Go.Ab
def impl_do_c1_Q (a1 : Book) (a2 : Deal) (r33 : Bool) (r34 : Bool) (i901_1 : Nat) (i901_2 : Nat) (r : Unit ⊕ Bool) (q : Out) : Prop :=
  match r with
  | (.inl g) => q.1 = .ret ∧ eget q.2.1 4 = .loc i901_2 1 0 0 ∧ eget q.2.1 5 = .int .i64 2 ∧ q.2.2[i901_2]? = some (.live ⟨.box, 27, 3, [[.int .i64 0, .nils, .nils]]⟩)
  | (.inr g) => q.1 = .nrm ∧ eget q.2.1 2 = .loc i901_1 1 0 0 ∧ eget q.2.1 3 = .pt none [.int .i64 a2.Day, .int .i8 a2.Kind, .int .i64 a2.Tally, .int .i64 a2.From, .int .i64 a2.To, .int .i64 a2.Amount] ∧ eget q.2.1 4 = .loc i901_2 1 0 0 ∧ eget q.2.1 7 = .bool r33 ∧ eget q.2.1 8 = .bool r34 ∧ eget q.2.1 55 = .bool g ∧ q.2.2[i901_1]? = some (.live ⟨.box, 27, 3, [[.int .i64 a1.Day, .sl none (a1.Cash.map (cI .i64)), .sl none (a1.Tallies.map Tally.c)]]⟩) ∧ q.2.2[i901_2]? = some (.live ⟨.box, 27, 3, [[.int .i64 0, .nils, .nils]]⟩)
def impl_do_c2_Q (a1 : Book) (a2 : Deal) (r33 : Bool) (i902_1 : Nat) (i902_2 : Nat) (r : Unit ⊕ Bool) (q : Out) : Prop :=
  match r with
  | (.inl g) => q.1 = .ret ∧ eget q.2.1 4 = .loc i902_2 1 0 0 ∧ eget q.2.1 5 = .int .i64 4 ∧ q.2.2[i902_2]? = some (.live ⟨.box, 27, 3, [[.int .i64 0, .nils, .nils]]⟩)
  | (.inr g) => q.1 = .nrm ∧ eget q.2.1 2 = .loc i902_1 1 0 0 ∧ eget q.2.1 3 = .pt none [.int .i64 a2.Day, .int .i8 a2.Kind, .int .i64 a2.Tally, .int .i64 a2.From, .int .i64 a2.To, .int .i64 a2.Amount] ∧ eget q.2.1 4 = .loc i902_2 1 0 0 ∧ eget q.2.1 7 = .bool r33 ∧ eget q.2.1 67 = .bool g ∧ q.2.2[i902_1]? = some (.live ⟨.box, 27, 3, [[.int .i64 a1.Day, .sl none (a1.Cash.map (cI .i64)), .sl none (a1.Tallies.map Tally.c)]]⟩) ∧ q.2.2[i902_2]? = some (.live ⟨.box, 27, 3, [[.int .i64 0, .nils, .nils]]⟩)
def impl_do_c3_Q (a2 : Deal) (r278 : List Int) (r279 : List Tally) (i903_1 : Nat) (i903_2 : Nat) (i903_3 : Nat) (i903_4 : Nat) (r : Unit ⊕ Bool) (q : Out) : Prop :=
  match r with
  | (.inl g) => q.1 = .ret ∧ eget q.2.1 4 = .loc i903_2 1 0 0 ∧ eget q.2.1 5 = .int .i64 4 ∧ q.2.2[i903_2]? = some (.live ⟨.box, 27, 3, [[.int .i64 0, .nils, .nils]]⟩)
  | (.inr g) => q.1 = .nrm ∧ eget q.2.1 2 = .loc i903_1 1 0 0 ∧ eget q.2.1 3 = .pt none [.int .i64 a2.Day, .int .i8 a2.Kind, .int .i64 a2.Tally, .int .i64 a2.From, .int .i64 a2.To, .int .i64 a2.Amount] ∧ eget q.2.1 4 = .loc i903_2 1 0 0 ∧ eget q.2.1 11 = .loc (i903_3 + 1) r279.length (0 + a2.Tally.toNat) 0 ∧ eget q.2.1 134 = .bool g ∧ q.2.2[i903_1]? = some (.live ⟨.box, 27, 3, [[.int .i64 a2.Day, .lsl i903_3 r278.length 0 r278.length, .lsl (i903_3 + 1) r279.length 0 r279.length]]⟩) ∧ q.2.2[i903_3]? = some (.live ⟨.grow, 2, 1, r278.map (cI .i64)⟩) ∧ q.2.2[(i903_3 + 1)]? = some (.live ⟨.grow, 49, 5, r279.map Tally.c⟩) ∧ q.2.2[i903_2]? = some (.live ⟨.box, 27, 3, [[.int .i64 0, .nils, .nils]]⟩)
noncomputable def impl_do (a1 : Book) (a2 : Deal) : Option (Int ⊕ (Int × (List Int) × (List Tally))) :=
 if (decide (a2.Day < a1.Day)) = true then
  some (.inl 4)
 else
  (impl_uses a2.Kind).bind fun (r32, r33, r34, r35) =>
  ((if r33 = true then
   if (decide (a2.From ≥ (a1.Cash.length : Int))) = true then
    some (.inl ())
   else
    if r34 = true then
     if (decide (a2.To ≥ (a1.Cash.length : Int))) = true then
      some (.inl ())
     else
      if r32 = true then
       if (decide (a2.Tally ≥ (a1.Tallies.length : Int))) = true then
        some (.inl ())
       else
        some (.inr (decide (a2.Tally ≥ (a1.Tallies.length : Int))))
      else
       some (.inr false)
    else
     if r32 = true then
      if (decide (a2.Tally ≥ (a1.Tallies.length : Int))) = true then
       some (.inl ())
      else
       some (.inr (decide (a2.Tally ≥ (a1.Tallies.length : Int))))
     else
      some (.inr false)
  else
   if r34 = true then
    if (decide (a2.To ≥ (a1.Cash.length : Int))) = true then
     some (.inl ())
    else
     if r32 = true then
      if (decide (a2.Tally ≥ (a1.Tallies.length : Int))) = true then
       some (.inl ())
      else
       some (.inr (decide (a2.Tally ≥ (a1.Tallies.length : Int))))
     else
      some (.inr false)
   else
    if r32 = true then
     if (decide (a2.Tally ≥ (a1.Tallies.length : Int))) = true then
      some (.inl ())
     else
      some (.inr (decide (a2.Tally ≥ (a1.Tallies.length : Int))))
    else
     some (.inr false) : Option (Unit ⊕ Bool))).bind fun r => match r with
  | (.inl _) =>
   some (.inl 2)
  | (.inr y219) =>
   ((if r33 = true then
    if r34 = true then
     if (a2.From == a2.To) = true then
      some (.inl ())
     else
      some (.inr (a2.From == a2.To))
    else
     some (.inr false)
   else
    some (.inr false) : Option (Unit ⊕ Bool))).bind fun r => match r with
   | (.inl _) =>
    some (.inl 4)
   | (.inr y268) =>
    (impl_ownBook a1).bind fun (r277, r278, r279) =>
    if (a2.Kind == 1) = true then
     if ((r279.length : Int) == 40) = true then
      some (.inl 3)
     else
      (app 40 r279 [(Tally.mk a2.From a2.To a2.Day a2.Amount a2.Amount)]).bind fun x342 =>
      some (.inr (a2.Day, r278, x342))
    else
     (rd r279 a2.Tally).bind fun x370 =>
     ((if r33 = true then
      if (a2.From != x370.Holder) = true then
       some (.inl ())
      else
       if (x370.Left == 0) = true then
        some (.inl ())
       else
        if (a2.Kind == 3) = true then
         if (decide (a2.Amount > x370.Left)) = true then
          some (.inl ())
         else
          some (.inr (decide (a2.Amount > x370.Left)))
        else
         some (.inr false)
     else
      if (x370.Left == 0) = true then
       some (.inl ())
      else
       if (a2.Kind == 3) = true then
        if (decide (a2.Amount > x370.Left)) = true then
         some (.inl ())
        else
         some (.inr (decide (a2.Amount > x370.Left)))
       else
        some (.inr false) : Option (Unit ⊕ Bool))).bind fun r => match r with
     | (.inl _) =>
      some (.inl 4)
     | (.inr y494) =>
      if (a2.Kind == 2) = true then
       if (a2.To == ((Tally.mk x370.Debtor a2.To x370.Cut x370.Amount x370.Left)).Debtor) = true then
        some (.inr (a2.Day, r278, ((r279.set a2.Tally.toNat (Tally.mk x370.Debtor a2.To x370.Cut x370.Amount x370.Left)).set a2.Tally.toNat (Tally.mk ((Tally.mk x370.Debtor a2.To x370.Cut x370.Amount x370.Left)).Debtor ((Tally.mk x370.Debtor a2.To x370.Cut x370.Amount x370.Left)).Holder ((Tally.mk x370.Debtor a2.To x370.Cut x370.Amount x370.Left)).Cut ((Tally.mk x370.Debtor a2.To x370.Cut x370.Amount x370.Left)).Amount 0))))
       else
        some (.inr (a2.Day, r278, (r279.set a2.Tally.toNat (Tally.mk x370.Debtor a2.To x370.Cut x370.Amount x370.Left))))
      else
       if (a2.Kind == 3) = true then
        (rd r278 x370.Debtor).bind fun x580 =>
        if (decide (x580 < a2.Amount)) = true then
         some (.inl 8)
        else
         (rd r278 x370.Debtor).bind fun x600 =>
         (rd r278 x370.Debtor).bind fun x602 =>
         (rd (r278.set x370.Debtor.toNat (IntKind.i64.wrap (x600 - a2.Amount))) x370.Holder).bind fun x617 =>
         (rd (r278.set x370.Debtor.toNat (IntKind.i64.wrap (x600 - a2.Amount))) x370.Holder).bind fun x619 =>
         (rd ((r278.set x370.Debtor.toNat (IntKind.i64.wrap (x600 - a2.Amount))).set x370.Holder.toNat (IntKind.i64.wrap (x617 + a2.Amount))) (((Tally.mk x370.Debtor x370.Holder x370.Cut x370.Amount (IntKind.i64.wrap (x370.Left - a2.Amount)))).Holder)).bind fun x646 =>
         if (decide (x646 > 100000000)) = true then
          some (.inl 3)
         else
          some (.inr (a2.Day, ((r278.set x370.Debtor.toNat (IntKind.i64.wrap (x600 - a2.Amount))).set x370.Holder.toNat (IntKind.i64.wrap (x617 + a2.Amount))), (r279.set a2.Tally.toNat (Tally.mk x370.Debtor x370.Holder x370.Cut x370.Amount (IntKind.i64.wrap (x370.Left - a2.Amount))))))
       else
        if (a2.Kind == 4) = true then
         some (.inr (a2.Day, r278, (r279.set a2.Tally.toNat (Tally.mk x370.Debtor x370.Holder x370.Cut x370.Amount 0))))
        else
         some (.inr (a2.Day, r278, r279))
def impl_do_enc (r : Int ⊕ (Int × (List Int) × (List Tally))) : AV :=
  match r with
  | (.inl g) => .tup [.agg [.int .i64 0, .nils, .nils], .int .i64 g]
  | (.inr g) => .tup [.agg [.int .i64 g.1, .sl (some 2) (g.2.1.map (cI .i64)), .sl (some 49) (g.2.2.map Tally.c)], .int .i64 0]
theorem impl_do_ok (a1 : Book) (a2 : Deal) (r : Int ⊕ (Int × (List Int) × (List Tally))) (h : impl_do a1 a2 = some r) : Ev (fun k => CN k 75 [.agg [.int .i64 a1.Day, .sl none (a1.Cash.map (cI .i64)), .sl none (a1.Tallies.map Tally.c)], .agg [.int .i64 a2.Day, .int .i8 a2.Kind, .int .i64 a2.Tally, .int .i64 a2.From, .int .i64 a2.To, .int .i64 a2.Amount]] []) (fun p => rRes p.2 p.1 = impl_do_enc r) := by
 unfold impl_do at h
 refine Ev.enter (F := fun k => f75 (CN k) k) (fun k => callN_eq rfl Try.func75 rfl rfl rfl (by decide +kernel) (f75_eq _ _)) (sq (Rg (ku (bxO rfl rfl ⟨rfl, rfl, by decide⟩) fun M2 hM3 => ?_)))
 have o4 : M2[([] : Mem).length]? = some (.live ⟨.box, 27, 3, [[.int .i64 a1.Day, .sl none (a1.Cash.map (cI .i64)), .sl none (a1.Tallies.map Tally.c)]]⟩) := push_new hM3
 refine kx (bxI rfl rfl ⟨rfl, rfl, by decide⟩) (ku (alO zero27) fun M6 hM7 => ?_)
 have o8 := push_old hM7 o4
 have ne9 := ne_new o4
 have o10 : M6[M2.length]? = some (.live ⟨.box, 27, 3, [[.int .i64 0, .nils, .nils]]⟩) := push_new hM7
 refine kx (mvO rfl) (Rn (hV (.loc ([] : Mem).length 1 0 0) rfl (hN rfl (hV (.loc M2.length 1 0 0) rfl hZ))) fun e11 h13 h14 h15 => sN (sq (sq (Rg (kx (faP h14 ⟨ble rfl, blt rfl⟩ rfl) (kx (ldP rfl rfl) (kx (faO h13 o8 rfl) (kx (ldO rfl o8 rfl rfl rfl) (kx (bLss rfl rfl) (Rn (hA h13 (hA h14 (hA h15 (hN rfl hZ)))) fun e16 h18 h19 h20 h21 => sN ?_))))))))))
 clear h13 h14 h15
 rcases ite_some h with ⟨hb22, h⟩ | ⟨hb22, h⟩
 ·refine cT h21 hb22 (sq (Rg (kx (bldT zero27 rfl (fill0 rfl)) (kw (stO h20 rfl o10 rfl rfl ⟨rfl, ble rfl⟩ rfl rfl) fun M23 hM24 => ?_))))
  have o25 := set_ne hM24 ne9 o8
  have o26 : M23[M2.length]? = some (.live ⟨.box, 27, 3, [[.int .i64 0, .nils, .nils]]⟩) := set_same hM24 o10
  refine kx (mvO rfl) (Rn (hA h20 (hV (.int .i64 4) rfl hZ)) fun e27 h29 h30 => sN (xx (sR ?_)))
  clear h18 h19 h20 h21
  obtain rfl := si h
  exact eR (resC (ag := true) (sz := 3) ⟨by kernel_rfl, by kernel_rfl, by kernel_rfl⟩ (ldOA h29 o26 rfl rfl (ble rfl) rfl) (resT h30 res0)) rfl
 obtain ⟨⟨r32, r33, r34, r35⟩, hx31, h⟩ := bind_some h
 obtain ⟨r719, hr720, h⟩ := bind_some h
 refine cF h21 hb22 (xx (sN (sq (Rg (kx (faP h19 ⟨ble rfl, blt rfl⟩ rfl) (kx (ldP rfl rfl) (kc (cl (v := .tup [.bool r32, .bool r33, .bool r34, .bool r35]) rfl rfl (cns rfl rfl) rfl (impl_uses_ok a2.Kind _ hx31) nm) (kx (mvO rfl) (kx (exT rfl rfl) (kx (exT rfl rfl) (kx (exT rfl rfl) (kx (exT rfl rfl) (kx (mvO rfl) (kx (mvO rfl) (kx (mvO rfl) (kx (mvO rfl) (Rn (hA h18 (hA h19 (hA h20 (hN rfl (hN rfl (hN rfl hZ)))))) fun e36 h38 h39 h40 h41 h42 h43 => sN (sq (Rg (kx (faO h38 o8 rfl) (kx (ldO rfl o8 rfl rfl rfl) (kx (lnS Try.underlying24 rfl) (kx (mvO rfl) (Rn (hA h38 (hA h39 (hA h40 (hA h41 (hA h42 (hA h43 (hN rfl hZ))))))) fun e44 h46 h47 h48 h49 h50 h51 h52 => sN (sq ?_)))))))))))))))))))))))))
 clear h18 h19 h20 h21 h38 h39 h40 h41 h42 h43
 refine Ev.cut (Q1 := impl_do_c1_Q a1 a2 r33 r34 (([] : Mem).length) M2.length r719) (by
     have h := hr720
     refine sq (Rg (kx (mvO h50) (kx (mvO rfl) ?_)))
     rcases ite_some h with ⟨hb53, h⟩ | ⟨hb53, h⟩
     ·refine kx (guT rfl hb53 (faP h47 ⟨ble rfl, blt rfl⟩ rfl)) (kx (guT rfl hb53 (ldP rfl rfl)) (kx (guT rfl hb53 (mvO h52)) (kx (guT rfl hb53 (bGeq rfl rfl)) (kx (pkT rfl hb53 rfl) (kx (mvO rfl) ?_)))))
      rcases ite_some h with ⟨hb54, h⟩ | ⟨hb54, h⟩
      ·refine kx (gsF rfl hb54) (kx (gsF rfl hb54) (kx (gsU rfl) (kx (gsU rfl) (kx (gsU rfl) (kx (gsU rfl) (kx (gsF rfl hb54) (kx (pkT rfl hb54 rfl) (kx (mvO rfl) (kx (gsF rfl rfl) (kx (gsF rfl rfl) (kx (gsU rfl) (kx (gsU rfl) (kx (gsU rfl) (kx (gsU rfl) (kx (gsU rfl) (kx (gsU rfl) (kx (gsF rfl rfl) (kx (pkT rfl rfl rfl) (Rn (hA h46 (hA h47 (hA h48 (hA h50 (hA h51 (hV (.bool true) rfl hZ)))))) fun e55 h57 h58 h59 h60 h61 h62 => sN (cT h62 rfl (sq (Rg (kx (bldT zero27 rfl (fill0 rfl)) (kw (stO h59 rfl o10 rfl rfl ⟨rfl, ble rfl⟩ rfl rfl) fun M63 hM64 => ?_))))))))))))))))))))))))
       clear h46 h47 h48 h49 h50 h51 h52
       have o65 := set_ne hM64 ne9 o8
       have o66 : M63[M2.length]? = some (.live ⟨.box, 27, 3, [[.int .i64 0, .nils, .nils]]⟩) := set_same hM64 o10
       refine kx (mvO rfl) (Rn (hA h59 (hV (.int .i64 2) rfl hZ)) fun e67 h69 h70 => sN (xx ?_))
       clear h57 h58 h59 h60 h61 h62
       obtain rfl := si h
       exact kd (show impl_do_c1_Q a1 a2 r33 r34 (([] : Mem).length) M2.length _ _ from ⟨rfl, h69, h70, o66⟩)
      refine kx (guF rfl hb54 (mvO h51)) (kx (guF rfl hb54 (mvO rfl)) ?_)
      rcases ite_some h with ⟨hb71, h⟩ | ⟨hb71, h⟩
      ·refine kx (guT rfl hb71 (faP h47 ⟨ble rfl, blt rfl⟩ rfl)) (kx (guT rfl hb71 (ldP rfl rfl)) (kx (guT rfl hb71 (mvO h52)) (kx (guT rfl hb71 (bGeq rfl rfl)) (kx (guF rfl hb54 (pkT rfl hb71 rfl)) (kx (pkF rfl hb54 rfl) (kx (mvO rfl) ?_))))))
       rcases ite_some h with ⟨hb72, h⟩ | ⟨hb72, h⟩
       ·refine kx (gsF rfl hb72) (kx (gsF rfl hb72) (kx (gsU rfl) (kx (gsU rfl) (kx (gsU rfl) (kx (gsU rfl) (kx (gsU rfl) (kx (gsU rfl) (kx (gsF rfl hb72) (kx (pkT rfl hb72 rfl) (Rn (hA h46 (hA h47 (hA h48 (hA h50 (hA h51 (hV (.bool true) rfl hZ)))))) fun e73 h75 h76 h77 h78 h79 h80 => sN (cT h80 rfl (sq (Rg (kx (bldT zero27 rfl (fill0 rfl)) (kw (stO h77 rfl o10 rfl rfl ⟨rfl, ble rfl⟩ rfl rfl) fun M81 hM82 => ?_)))))))))))))))
        clear h46 h47 h48 h49 h50 h51 h52
        have o83 := set_ne hM82 ne9 o8
        have o84 : M81[M2.length]? = some (.live ⟨.box, 27, 3, [[.int .i64 0, .nils, .nils]]⟩) := set_same hM82 o10
        refine kx (mvO rfl) (Rn (hA h77 (hV (.int .i64 2) rfl hZ)) fun e85 h87 h88 => sN (xx ?_))
        clear h75 h76 h77 h78 h79 h80
        obtain rfl := si h
        exact kd (show impl_do_c1_Q a1 a2 r33 r34 (([] : Mem).length) M2.length _ _ from ⟨rfl, h87, h88, o84⟩)
       refine kx (guF rfl hb72 (mvO h49)) (kx (guF rfl hb72 (mvO rfl)) ?_)
       rcases ite_some h with ⟨hb89, h⟩ | ⟨hb89, h⟩
       ·refine kx (guT rfl hb89 (faP h47 ⟨ble rfl, blt rfl⟩ rfl)) (kx (guT rfl hb89 (ldP rfl rfl)) (kx (guT rfl hb89 (faO h46 o8 rfl)) (kx (guT rfl hb89 (ldO rfl o8 rfl rfl rfl)) (kx (guT rfl hb89 (lnS Try.underlying25 rfl)) (kx (guT rfl hb89 (bGeq rfl rfl)) (kx (guF rfl hb72 (pkT rfl hb89 rfl)) (kx (pkF rfl hb72 rfl) (Rn (hA h46 (hA h47 (hA h48 (hA h50 (hA h51 (hN rfl hZ)))))) fun e90 h92 h93 h94 h95 h96 h97 => sN ?_))))))))
        clear h46 h47 h48 h49 h50 h51 h52
        rcases ite_some h with ⟨hb98, h⟩ | ⟨hb98, h⟩
        ·refine cT h97 hb98 (sq (Rg (kx (bldT zero27 rfl (fill0 rfl)) (kw (stO h94 rfl o10 rfl rfl ⟨rfl, ble rfl⟩ rfl rfl) fun M99 hM100 => ?_))))
         have o101 := set_ne hM100 ne9 o8
         have o102 : M99[M2.length]? = some (.live ⟨.box, 27, 3, [[.int .i64 0, .nils, .nils]]⟩) := set_same hM100 o10
         refine kx (mvO rfl) (Rn (hA h94 (hV (.int .i64 2) rfl hZ)) fun e103 h105 h106 => sN (xx ?_))
         clear h92 h93 h94 h95 h96 h97
         obtain rfl := si h
         exact kd (show impl_do_c1_Q a1 a2 r33 r34 (([] : Mem).length) M2.length _ _ from ⟨rfl, h105, h106, o102⟩)
        refine cF h97 hb98 (xx ?_)
        obtain rfl := si h
        exact kd (show impl_do_c1_Q a1 a2 r33 r34 (([] : Mem).length) M2.length _ _ from ⟨rfl, h92, h93, h94, h95, h96, h97, o8, o10⟩)
       refine kx (gsT rfl hb89) (kx (gsT rfl hb89) (kx (gsT rfl hb89) (kx (gsT rfl hb89) (kx (gsT rfl hb89) (kx (gsT rfl hb89) (kx (guF rfl hb72 (pkF rfl hb89 rfl)) (kx (pkF rfl hb72 rfl) (Rn (hA h46 (hA h47 (hA h48 (hA h50 (hA h51 (hV (.bool false) rfl hZ)))))) fun e107 h109 h110 h111 h112 h113 h114 => sN (cF h114 rfl (xx ?_))))))))))
       clear h46 h47 h48 h49 h50 h51 h52
       obtain rfl := si h
       exact kd (show impl_do_c1_Q a1 a2 r33 r34 (([] : Mem).length) M2.length _ _ from ⟨rfl, h109, h110, h111, h112, h113, h114, o8, o10⟩)
      refine kx (gsT rfl hb71) (kx (gsT rfl hb71) (kx (gsT rfl hb71) (kx (gsT rfl hb71) (kx (guF rfl hb54 (pkF rfl hb71 rfl)) (kx (pkF rfl hb54 rfl) (kx (mvO rfl) (kx (guF rfl rfl (mvO h49)) (kx (guF rfl rfl (mvO rfl)) ?_))))))))
      rcases ite_some h with ⟨hb115, h⟩ | ⟨hb115, h⟩
      ·refine kx (guT rfl hb115 (faP h47 ⟨ble rfl, blt rfl⟩ rfl)) (kx (guT rfl hb115 (ldP rfl rfl)) (kx (guT rfl hb115 (faO h46 o8 rfl)) (kx (guT rfl hb115 (ldO rfl o8 rfl rfl rfl)) (kx (guT rfl hb115 (lnS Try.underlying25 rfl)) (kx (guT rfl hb115 (bGeq rfl rfl)) (kx (guF rfl rfl (pkT rfl hb115 rfl)) (kx (pkF rfl rfl rfl) (Rn (hA h46 (hA h47 (hA h48 (hA h50 (hA h51 (hN rfl hZ)))))) fun e116 h118 h119 h120 h121 h122 h123 => sN ?_))))))))
       clear h46 h47 h48 h49 h50 h51 h52
       rcases ite_some h with ⟨hb124, h⟩ | ⟨hb124, h⟩
       ·refine cT h123 hb124 (sq (Rg (kx (bldT zero27 rfl (fill0 rfl)) (kw (stO h120 rfl o10 rfl rfl ⟨rfl, ble rfl⟩ rfl rfl) fun M125 hM126 => ?_))))
        have o127 := set_ne hM126 ne9 o8
        have o128 : M125[M2.length]? = some (.live ⟨.box, 27, 3, [[.int .i64 0, .nils, .nils]]⟩) := set_same hM126 o10
        refine kx (mvO rfl) (Rn (hA h120 (hV (.int .i64 2) rfl hZ)) fun e129 h131 h132 => sN (xx ?_))
        clear h118 h119 h120 h121 h122 h123
        obtain rfl := si h
        exact kd (show impl_do_c1_Q a1 a2 r33 r34 (([] : Mem).length) M2.length _ _ from ⟨rfl, h131, h132, o128⟩)
       refine cF h123 hb124 (xx ?_)
       obtain rfl := si h
       exact kd (show impl_do_c1_Q a1 a2 r33 r34 (([] : Mem).length) M2.length _ _ from ⟨rfl, h118, h119, h120, h121, h122, h123, o8, o10⟩)
      refine kx (gsT rfl hb115) (kx (gsT rfl hb115) (kx (gsT rfl hb115) (kx (gsT rfl hb115) (kx (gsT rfl hb115) (kx (gsT rfl hb115) (kx (guF rfl rfl (pkF rfl hb115 rfl)) (kx (pkF rfl rfl rfl) (Rn (hA h46 (hA h47 (hA h48 (hA h50 (hA h51 (hV (.bool false) rfl hZ)))))) fun e133 h135 h136 h137 h138 h139 h140 => sN (cF h140 rfl (xx ?_))))))))))
      clear h46 h47 h48 h49 h50 h51 h52
      obtain rfl := si h
      exact kd (show impl_do_c1_Q a1 a2 r33 r34 (([] : Mem).length) M2.length _ _ from ⟨rfl, h135, h136, h137, h138, h139, h140, o8, o10⟩)
     refine kx (gsT rfl hb53) (kx (gsT rfl hb53) (kx (gsT rfl hb53) (kx (gsT rfl hb53) (kx (pkF rfl hb53 rfl) (kx (mvO rfl) (kx (guF rfl rfl (mvO h51)) (kx (guF rfl rfl (mvO rfl)) ?_)))))))
     rcases ite_some h with ⟨hb141, h⟩ | ⟨hb141, h⟩
     ·refine kx (guT rfl hb141 (faP h47 ⟨ble rfl, blt rfl⟩ rfl)) (kx (guT rfl hb141 (ldP rfl rfl)) (kx (guT rfl hb141 (mvO h52)) (kx (guT rfl hb141 (bGeq rfl rfl)) (kx (guF rfl rfl (pkT rfl hb141 rfl)) (kx (pkF rfl rfl rfl) (kx (mvO rfl) ?_))))))
      rcases ite_some h with ⟨hb142, h⟩ | ⟨hb142, h⟩
      ·refine kx (gsF rfl hb142) (kx (gsF rfl hb142) (kx (gsU rfl) (kx (gsU rfl) (kx (gsU rfl) (kx (gsU rfl) (kx (gsU rfl) (kx (gsU rfl) (kx (gsF rfl hb142) (kx (pkT rfl hb142 rfl) (Rn (hA h46 (hA h47 (hA h48 (hA h50 (hA h51 (hV (.bool true) rfl hZ)))))) fun e143 h145 h146 h147 h148 h149 h150 => sN (cT h150 rfl (sq (Rg (kx (bldT zero27 rfl (fill0 rfl)) (kw (stO h147 rfl o10 rfl rfl ⟨rfl, ble rfl⟩ rfl rfl) fun M151 hM152 => ?_)))))))))))))))
       clear h46 h47 h48 h49 h50 h51 h52
       have o153 := set_ne hM152 ne9 o8
       have o154 : M151[M2.length]? = some (.live ⟨.box, 27, 3, [[.int .i64 0, .nils, .nils]]⟩) := set_same hM152 o10
       refine kx (mvO rfl) (Rn (hA h147 (hV (.int .i64 2) rfl hZ)) fun e155 h157 h158 => sN (xx ?_))
       clear h145 h146 h147 h148 h149 h150
       obtain rfl := si h
       exact kd (show impl_do_c1_Q a1 a2 r33 r34 (([] : Mem).length) M2.length _ _ from ⟨rfl, h157, h158, o154⟩)
      refine kx (guF rfl hb142 (mvO h49)) (kx (guF rfl hb142 (mvO rfl)) ?_)
      rcases ite_some h with ⟨hb159, h⟩ | ⟨hb159, h⟩
      ·refine kx (guT rfl hb159 (faP h47 ⟨ble rfl, blt rfl⟩ rfl)) (kx (guT rfl hb159 (ldP rfl rfl)) (kx (guT rfl hb159 (faO h46 o8 rfl)) (kx (guT rfl hb159 (ldO rfl o8 rfl rfl rfl)) (kx (guT rfl hb159 (lnS Try.underlying25 rfl)) (kx (guT rfl hb159 (bGeq rfl rfl)) (kx (guF rfl hb142 (pkT rfl hb159 rfl)) (kx (pkF rfl hb142 rfl) (Rn (hA h46 (hA h47 (hA h48 (hA h50 (hA h51 (hN rfl hZ)))))) fun e160 h162 h163 h164 h165 h166 h167 => sN ?_))))))))
       clear h46 h47 h48 h49 h50 h51 h52
       rcases ite_some h with ⟨hb168, h⟩ | ⟨hb168, h⟩
       ·refine cT h167 hb168 (sq (Rg (kx (bldT zero27 rfl (fill0 rfl)) (kw (stO h164 rfl o10 rfl rfl ⟨rfl, ble rfl⟩ rfl rfl) fun M169 hM170 => ?_))))
        have o171 := set_ne hM170 ne9 o8
        have o172 : M169[M2.length]? = some (.live ⟨.box, 27, 3, [[.int .i64 0, .nils, .nils]]⟩) := set_same hM170 o10
        refine kx (mvO rfl) (Rn (hA h164 (hV (.int .i64 2) rfl hZ)) fun e173 h175 h176 => sN (xx ?_))
        clear h162 h163 h164 h165 h166 h167
        obtain rfl := si h
        exact kd (show impl_do_c1_Q a1 a2 r33 r34 (([] : Mem).length) M2.length _ _ from ⟨rfl, h175, h176, o172⟩)
       refine cF h167 hb168 (xx ?_)
       obtain rfl := si h
       exact kd (show impl_do_c1_Q a1 a2 r33 r34 (([] : Mem).length) M2.length _ _ from ⟨rfl, h162, h163, h164, h165, h166, h167, o8, o10⟩)
      refine kx (gsT rfl hb159) (kx (gsT rfl hb159) (kx (gsT rfl hb159) (kx (gsT rfl hb159) (kx (gsT rfl hb159) (kx (gsT rfl hb159) (kx (guF rfl hb142 (pkF rfl hb159 rfl)) (kx (pkF rfl hb142 rfl) (Rn (hA h46 (hA h47 (hA h48 (hA h50 (hA h51 (hV (.bool false) rfl hZ)))))) fun e177 h179 h180 h181 h182 h183 h184 => sN (cF h184 rfl (xx ?_))))))))))
      clear h46 h47 h48 h49 h50 h51 h52
      obtain rfl := si h
      exact kd (show impl_do_c1_Q a1 a2 r33 r34 (([] : Mem).length) M2.length _ _ from ⟨rfl, h179, h180, h181, h182, h183, h184, o8, o10⟩)
     refine kx (gsT rfl hb141) (kx (gsT rfl hb141) (kx (gsT rfl hb141) (kx (gsT rfl hb141) (kx (guF rfl rfl (pkF rfl hb141 rfl)) (kx (pkF rfl rfl rfl) (kx (mvO rfl) (kx (guF rfl rfl (mvO h49)) (kx (guF rfl rfl (mvO rfl)) ?_))))))))
     rcases ite_some h with ⟨hb185, h⟩ | ⟨hb185, h⟩
     ·refine kx (guT rfl hb185 (faP h47 ⟨ble rfl, blt rfl⟩ rfl)) (kx (guT rfl hb185 (ldP rfl rfl)) (kx (guT rfl hb185 (faO h46 o8 rfl)) (kx (guT rfl hb185 (ldO rfl o8 rfl rfl rfl)) (kx (guT rfl hb185 (lnS Try.underlying25 rfl)) (kx (guT rfl hb185 (bGeq rfl rfl)) (kx (guF rfl rfl (pkT rfl hb185 rfl)) (kx (pkF rfl rfl rfl) (Rn (hA h46 (hA h47 (hA h48 (hA h50 (hA h51 (hN rfl hZ)))))) fun e186 h188 h189 h190 h191 h192 h193 => sN ?_))))))))
      clear h46 h47 h48 h49 h50 h51 h52
      rcases ite_some h with ⟨hb194, h⟩ | ⟨hb194, h⟩
      ·refine cT h193 hb194 (sq (Rg (kx (bldT zero27 rfl (fill0 rfl)) (kw (stO h190 rfl o10 rfl rfl ⟨rfl, ble rfl⟩ rfl rfl) fun M195 hM196 => ?_))))
       have o197 := set_ne hM196 ne9 o8
       have o198 : M195[M2.length]? = some (.live ⟨.box, 27, 3, [[.int .i64 0, .nils, .nils]]⟩) := set_same hM196 o10
       refine kx (mvO rfl) (Rn (hA h190 (hV (.int .i64 2) rfl hZ)) fun e199 h201 h202 => sN (xx ?_))
       clear h188 h189 h190 h191 h192 h193
       obtain rfl := si h
       exact kd (show impl_do_c1_Q a1 a2 r33 r34 (([] : Mem).length) M2.length _ _ from ⟨rfl, h201, h202, o198⟩)
      refine cF h193 hb194 (xx ?_)
      obtain rfl := si h
      exact kd (show impl_do_c1_Q a1 a2 r33 r34 (([] : Mem).length) M2.length _ _ from ⟨rfl, h188, h189, h190, h191, h192, h193, o8, o10⟩)
     refine kx (gsT rfl hb185) (kx (gsT rfl hb185) (kx (gsT rfl hb185) (kx (gsT rfl hb185) (kx (gsT rfl hb185) (kx (gsT rfl hb185) (kx (guF rfl rfl (pkF rfl hb185 rfl)) (kx (pkF rfl rfl rfl) (Rn (hA h46 (hA h47 (hA h48 (hA h50 (hA h51 (hV (.bool false) rfl hZ)))))) fun e203 h205 h206 h207 h208 h209 h210 => sN (cF h210 rfl (xx ?_))))))))))
     clear h46 h47 h48 h49 h50 h51 h52
     obtain rfl := si h
     exact kd (show impl_do_c1_Q a1 a2 r33 r34 (([] : Mem).length) M2.length _ _ from ⟨rfl, h205, h206, h207, h208, h209, h210, o8, o10⟩)) ?_
 rcases r719 with _ | y219
 ·intro x e211 M212 hq216
  obtain ⟨rfl, h213, h214, o215⟩ := hq216
  refine sR ?_
  obtain rfl := si h
  exact eR (resC (ag := true) (sz := 3) ⟨by kernel_rfl, by kernel_rfl, by kernel_rfl⟩ (ldOA h213 o215 rfl rfl (ble rfl) rfl) (resT h214 res0)) rfl
 intro x e217 M218 hq718
 obtain ⟨rfl, h220, h221, h222, h223, h224, h225, o226, o227⟩ := hq718
 obtain ⟨r716, hr717, h⟩ := bind_some h
 refine sN (sq ?_)
 refine Ev.cut (Q1 := impl_do_c2_Q a1 a2 r33 (([] : Mem).length) M2.length r716) (by
     have h := hr717
     refine sq (Rg (kx (mvO h223) (kx (mvO rfl) ?_)))
     rcases ite_some h with ⟨hb228, h⟩ | ⟨hb228, h⟩
     ·refine kx (guT rfl hb228 (mvO h224)) (kx (pkT rfl hb228 rfl) (kx (mvO rfl) ?_))
      rcases ite_some h with ⟨hb229, h⟩ | ⟨hb229, h⟩
      ·refine kx (guT rfl hb229 (faP h221 ⟨ble rfl, blt rfl⟩ rfl)) (kx (guT rfl hb229 (ldP rfl rfl)) (kx (guT rfl hb229 (faP h221 ⟨ble rfl, blt rfl⟩ rfl)) (kx (guT rfl hb229 (ldP rfl rfl)) (kx (guT rfl hb229 (bEql rfl rfl)) (kx (pkT rfl hb229 rfl) (Rn (hV (.loc ([] : Mem).length 1 0 0) h220 (hV (.pt none [.int .i64 a2.Day, .int .i8 a2.Kind, .int .i64 a2.Tally, .int .i64 a2.From, .int .i64 a2.To, .int .i64 a2.Amount]) h221 (hV (.loc M2.length 1 0 0) h222 (hV (.bool r33) h223 (hN rfl hZ))))) fun e230 h232 h233 h234 h235 h236 => sN ?_))))))
       clear h220 h221 h222 h223 h224 h225
       rcases ite_some h with ⟨hb237, h⟩ | ⟨hb237, h⟩
       ·refine cT h236 hb237 (sq (Rg (kx (bldT zero27 rfl (fill0 rfl)) (kw (stO h234 rfl o227 rfl rfl ⟨rfl, ble rfl⟩ rfl rfl) fun M238 hM239 => ?_))))
        have o240 := set_ne hM239 ne9 o226
        have o241 : M238[M2.length]? = some (.live ⟨.box, 27, 3, [[.int .i64 0, .nils, .nils]]⟩) := set_same hM239 o227
        refine kx (mvO rfl) (Rn (hA h234 (hV (.int .i64 4) rfl hZ)) fun e242 h244 h245 => sN (xx ?_))
        clear h232 h233 h234 h235 h236
        obtain rfl := si h
        exact kd (show impl_do_c2_Q a1 a2 r33 (([] : Mem).length) M2.length _ _ from ⟨rfl, h244, h245, o241⟩)
       refine cF h236 hb237 (xx ?_)
       obtain rfl := si h
       exact kd (show impl_do_c2_Q a1 a2 r33 (([] : Mem).length) M2.length _ _ from ⟨rfl, h232, h233, h234, h235, h236, o226, o227⟩)
      refine kx (gsT rfl hb229) (kx (gsT rfl hb229) (kx (gsT rfl hb229) (kx (gsT rfl hb229) (kx (gsT rfl hb229) (kx (pkF rfl hb229 rfl) (Rn (hV (.loc ([] : Mem).length 1 0 0) h220 (hV (.pt none [.int .i64 a2.Day, .int .i8 a2.Kind, .int .i64 a2.Tally, .int .i64 a2.From, .int .i64 a2.To, .int .i64 a2.Amount]) h221 (hV (.loc M2.length 1 0 0) h222 (hV (.bool r33) h223 (hV (.bool false) rfl hZ))))) fun e246 h248 h249 h250 h251 h252 => sN (cF h252 rfl (xx ?_))))))))
      clear h220 h221 h222 h223 h224 h225
      obtain rfl := si h
      exact kd (show impl_do_c2_Q a1 a2 r33 (([] : Mem).length) M2.length _ _ from ⟨rfl, h248, h249, h250, h251, h252, o226, o227⟩)
     refine kx (gsT rfl hb228) (kx (pkF rfl hb228 rfl) (kx (mvO rfl) (kx (gsT rfl rfl) (kx (gsT rfl rfl) (kx (gsT rfl rfl) (kx (gsT rfl rfl) (kx (gsT rfl rfl) (kx (pkF rfl rfl rfl) (Rn (hV (.loc ([] : Mem).length 1 0 0) h220 (hV (.pt none [.int .i64 a2.Day, .int .i8 a2.Kind, .int .i64 a2.Tally, .int .i64 a2.From, .int .i64 a2.To, .int .i64 a2.Amount]) h221 (hV (.loc M2.length 1 0 0) h222 (hV (.bool r33) h223 (hV (.bool false) rfl hZ))))) fun e253 h255 h256 h257 h258 h259 => sN (cF h259 rfl (xx ?_)))))))))))
     clear h220 h221 h222 h223 h224 h225
     obtain rfl := si h
     exact kd (show impl_do_c2_Q a1 a2 r33 (([] : Mem).length) M2.length _ _ from ⟨rfl, h255, h256, h257, h258, h259, o226, o227⟩)) ?_
 rcases r716 with _ | y268
 ·intro x e260 M261 hq265
  obtain ⟨rfl, h262, h263, o264⟩ := hq265
  refine sR ?_
  obtain rfl := si h
  exact eR (resC (ag := true) (sz := 3) ⟨by kernel_rfl, by kernel_rfl, by kernel_rfl⟩ (ldOA h262 o264 rfl rfl (ble rfl) rfl) (resT h263 res0)) rfl
 intro x e266 M267 hq715
 obtain ⟨rfl, h269, h270, h271, h272, h273, o274, o275⟩ := hq715
 obtain ⟨⟨r277, r278, r279⟩, hx276, h⟩ := bind_some h
 refine sN (sq (Rg (kx (ldOA h269 o274 rfl rfl (ble rfl) rfl) (Ev.nxcp (Ev.callT (v := .agg [.int .i64 r277, .sl (some 2) (r278.map (cI .i64)), .sl (some 49) (r279.map Tally.c)]) rfl (cns rfl rfl) rfl (impl_ownBook_ok a1 _ hx276) (th_gen (v' := .agg [.int .i64 r277, .lsl M267.length r278.length 0 r278.length, .lsl (M267.length + 1) r279.length 0 r279.length]) (l := [⟨.grow, 2, 1, r278.map (cI .i64)⟩, ⟨.grow, 49, 5, r279.map Tally.c⟩]) (own_agg (oa1 rfl (oa1 (own1_row' (c := (cI .i64)) (fun _ => rfl)) (oa1 (own1_row' (c := Tally.c) Tally.flF) oa0)))) (by simp [thaw, thaw2, thaw1, thawL, co2, co49]) rfl rfl)) fun M282 hM283 => ?_))))
 have o284 := push_old hM283 o274
 have o285 := push_old hM283 o275
 have ne286 : ([] : Mem).length ≠ M267.length := by have := lt_of_get (M := M267) o274; omega
 have ne287 : M2.length ≠ M267.length := by have := lt_of_get (M := M267) o275; omega
 have o288 : M282[M267.length]? = some (.live ⟨.grow, 2, 1, r278.map (cI .i64)⟩) := push_at hM283 0 rfl
 have ne289 : ([] : Mem).length ≠ (M267.length + 1) := by have := lt_of_get (M := M267) o274; omega
 have ne290 : M2.length ≠ (M267.length + 1) := by have := lt_of_get (M := M267) o275; omega
 have ne291 : M267.length ≠ (M267.length + 1) := by omega
 have o292 : M282[(M267.length + 1)]? = some (.live ⟨.grow, 49, 5, r279.map Tally.c⟩) := push_at hM283 1 rfl
 refine kw (stO h269 rfl o284 rfl rfl ⟨rfl, ble rfl⟩ (all1 rfl (all1 (okL o288 (by simp)) (all1 (okL o292 (by simp)) all0))) rfl) fun M293 hM294 => ?_
 have o295 : M293[([] : Mem).length]? = some (.live ⟨.box, 27, 3, [[.int .i64 r277, .lsl M267.length r278.length 0 r278.length, .lsl (M267.length + 1) r279.length 0 r279.length]]⟩) := set_same hM294 o284
 have o296 := set_ne hM294 (Ne.symm ne9) o285
 have o297 := set_ne hM294 (Ne.symm ne286) o288
 have o298 := set_ne hM294 (Ne.symm ne289) o292
 refine Rn (hV (.loc ([] : Mem).length 1 0 0) h269 (hV (.pt none [.int .i64 a2.Day, .int .i8 a2.Kind, .int .i64 a2.Tally, .int .i64 a2.From, .int .i64 a2.To, .int .i64 a2.Amount]) h270 (hV (.loc M2.length 1 0 0) h271 (hV (.bool r33) h272 hZ)))) fun e299 h301 h302 h303 h304 => sN (sq (Rg (kx (faP h302 ⟨ble rfl, blt rfl⟩ rfl) (kx (ldP rfl rfl) (kx (faO h301 o295 rfl) (kw (stO rfl rfl o295 rfl rfl ⟨rfl, ble rfl⟩ rfl rfl) fun M305 hM306 => ?_))))))
 clear h269 h270 h271 h272 h273
 have o307 : M305[([] : Mem).length]? = some (.live ⟨.box, 27, 3, [[.int .i64 a2.Day, .lsl M267.length r278.length 0 r278.length, .lsl (M267.length + 1) r279.length 0 r279.length]]⟩) := set_same hM306 o295
 have o308 := set_ne hM306 (Ne.symm ne9) o296
 have o309 := set_ne hM306 (Ne.symm ne286) o297
 have o310 := set_ne hM306 (Ne.symm ne289) o298
 refine Rn (hA h301 (hA h302 (hA h303 (hA h304 hZ)))) fun e311 h313 h314 h315 h316 => sN (sq (sq (Rg (kx (faP h314 ⟨ble rfl, blt rfl⟩ rfl) (kx (ldP rfl rfl) (kx (bEql rfl rfl) (Rn (hA h313 (hA h314 (hA h315 (hA h316 (hN rfl hZ))))) fun e317 h319 h320 h321 h322 h323 => sN ?_)))))))
 clear h301 h302 h303 h304 h313 h314 h315 h316
 rcases ite_some h with ⟨hb324, h⟩ | ⟨hb324, h⟩
 ·refine cT h323 hb324 (sq (sq (Rg (kx (faO h319 o307 rfl) (kx (ldO rfl o307 rfl rfl rfl) (kx (lnL Try.underlying25 rfl o310 (by simp)) (kx (bEql rfl rfl) (Rn (hA h319 (hA h320 (hA h321 (hN rfl hZ)))) fun e325 h327 h328 h329 h330 => sN ?_))))))))
  clear h319 h320 h321 h322 h323
  rcases ite_some h with ⟨hb331, h⟩ | ⟨hb331, h⟩
  ·refine cT h330 hb331 (sq (Rg (kx (bldT zero27 rfl (fill0 rfl)) (kw (stO h329 rfl o308 rfl rfl ⟨rfl, ble rfl⟩ rfl rfl) fun M332 hM333 => ?_))))
   have o334 := set_ne hM333 ne9 o307
   have o335 : M332[M2.length]? = some (.live ⟨.box, 27, 3, [[.int .i64 0, .nils, .nils]]⟩) := set_same hM333 o308
   have o336 := set_ne hM333 (Ne.symm ne287) o309
   have o337 := set_ne hM333 (Ne.symm ne290) o310
   refine kx (mvO rfl) (Rn (hA h329 (hV (.int .i64 3) rfl hZ)) fun e338 h340 h341 => sN (xx (sR (sR ?_))))
   clear h327 h328 h329 h330
   obtain rfl := si h
   exact eR (resC (ag := true) (sz := 3) ⟨by kernel_rfl, by kernel_rfl, by kernel_rfl⟩ (ldOA h340 o335 rfl rfl (ble rfl) rfl) (resT h341 res0)) rfl
  obtain ⟨x342, hx343, h⟩ := bind_some h
  refine cF h330 hb331 (xx (sN (sq (Rg (kx (faO h327 o307 rfl) (kx (ldO rfl o307 rfl rfl rfl) (kx (faP h328 ⟨ble rfl, blt rfl⟩ rfl) (kx (ldP rfl rfl) (kx (faP h328 ⟨ble rfl, blt rfl⟩ rfl) (kx (ldP rfl rfl) (kx (faP h328 ⟨ble rfl, blt rfl⟩ rfl) (kx (ldP rfl rfl) (kx (faP h328 ⟨ble rfl, blt rfl⟩ rfl) (kx (ldP rfl rfl) (kx (faP h328 ⟨ble rfl, blt rfl⟩ rfl) (kx (ldP rfl rfl) (kx (bldT zero49 (cns (pr3 rfl) (cns (pr3 rfl) (cns (pr3 rfl) (cns (pr3 rfl) (cns (pr3 rfl) rfl))))) (fill1 ⟨rfl, ble rfl⟩ rfl rfl (fill1 ⟨rfl, ble rfl⟩ rfl rfl (fill1 ⟨rfl, ble rfl⟩ rfl rfl (fill1 ⟨rfl, ble rfl⟩ rfl rfl (fill1 ⟨rfl, ble rfl⟩ rfl rfl (fill0 rfl))))))) (kx (litI (cns rfl rfl) rfl ⟨rfl, by decide⟩) (kw (apO rfl o310 rfl (elT (c := Tally.c) (xs := [(Tally.mk a2.From a2.To a2.Day a2.Amount a2.Amount)]) rfl) hx343 Tally.fl (by decide)) fun M344 hM345 => ?_)))))))))))))))))))
  have o346 := set_ne hM345 ne289 o307
  have o347 := set_ne hM345 ne290 o308
  have o348 := set_ne hM345 ne291 o309
  have o349 : M344[(M267.length + 1)]? = some (.live ⟨.grow, 49, 5, x342.map Tally.c⟩) := set_same hM345 o310
  refine kx (faO h327 o346 rfl) (kw (stO rfl rfl o346 rfl rfl ⟨rfl, ble rfl⟩ (all1 (okL o349 (by simp)) all0) rfl) fun M350 hM351 => ?_)
  have o352 : M350[([] : Mem).length]? = some (.live ⟨.box, 27, 3, [[.int .i64 a2.Day, .lsl M267.length r278.length 0 r278.length, .lsl (M267.length + 1) x342.length 0 x342.length]]⟩) := set_same hM351 o346
  have o353 := set_ne hM351 (Ne.symm ne9) o347
  have o354 := set_ne hM351 (Ne.symm ne286) o348
  have o355 := set_ne hM351 (Ne.symm ne289) o349
  refine Rn (hA h327 (hA h329 hZ)) fun e356 h358 h359 => sN (sq (Rg (kx (ldOA h358 o352 rfl rfl (ble rfl) rfl) (kw (stO h359 rfl o353 rfl rfl ⟨rfl, ble rfl⟩ (all1 rfl (all1 (okL o354 (by simp)) (all1 (okL o355 (by simp)) all0))) rfl) fun M360 hM361 => ?_))))
  clear h327 h328 h329 h330
  have o362 := set_ne hM361 ne9 o352
  have o363 : M360[M2.length]? = some (.live ⟨.box, 27, 3, [[.int .i64 a2.Day, .lsl M267.length r278.length 0 r278.length, .lsl (M267.length + 1) x342.length 0 x342.length]]⟩) := set_same hM361 o353
  have o364 := set_ne hM361 (Ne.symm ne287) o354
  have o365 := set_ne hM361 (Ne.symm ne290) o355
  refine kx (mvO rfl) (Rn (hA h359 (hV (.int .i64 0) rfl hZ)) fun e366 h368 h369 => sN (xx (sR ?_)))
  clear h358 h359
  obtain rfl := si h
  exact eR (resC (ag := true) (sz := 3) ⟨by kernel_rfl, by kernel_rfl, by kernel_rfl⟩ (ldOA h368 o363 rfl rfl (ble rfl) rfl) (resT h369 res0)) (rr_tup (mp1 (rr_agg (mp1 rfl (mp1 (rr_row o364 rfl (cI_fl _)) (mp1 (rr_row o365 rfl Tally.fl) mp0)))) (mp1 rfl mp0)))
 obtain ⟨x370, hx371, h⟩ := bind_some h
 obtain ⟨r713, hr714, h⟩ := bind_some h
 refine cF h323 hb324 (xx (sN (sq (Rg (kx (faO h319 o307 rfl) (kx (ldO rfl o307 rfl rfl rfl) (kx (faP h320 ⟨ble rfl, blt rfl⟩ rfl) (kx (ldP rfl rfl) (kx (ixO rfl o310 rfl rfl (rd_get hx371).1 (rd_lt hx371).2) (kx (mvO rfl) (Rn (hA h319 (hA h320 (hA h321 (hA h322 (hV (.loc (M267.length + 1) r279.length (0 + a2.Tally.toNat) 0) rfl hZ))))) fun e372 h374 h375 h376 h377 h378 => sN (sq ?_))))))))))))
 clear h319 h320 h321 h322 h323
 refine Ev.cut (Q1 := impl_do_c3_Q a2 r278 r279 (([] : Mem).length) M2.length M267.length (M267.length + 1) r713) (by
     have h := hr714
     refine sq (Rd (kf (mvO h377) (kf (mvO rfl) ?_)))
     rcases ite_some h with ⟨hb379, h⟩ | ⟨hb379, h⟩
     ·refine kf (guT rfl hb379 (faP h375 ⟨ble rfl, blt rfl⟩ rfl)) (kf (guT rfl hb379 (ldP rfl rfl)) (kf (guT rfl hb379 (mvO h378)) (kf (guT rfl hb379 (ncO rfl o310 (by simp))) (kf (guT rfl hb379 (faO rfl o310 (by simp))) (kf (guT rfl hb379 (ldO rfl o310 (by simp) (rz hx371) rfl)) (kf (guT rfl hb379 (bNeq rfl rfl)) (kf (pkT rfl hb379 rfl) (kf (mvO rfl) ?_))))))))
      rcases ite_some h with ⟨hb380, h⟩ | ⟨hb380, h⟩
      ·refine kf (gsF rfl hb380) (kf (gsF rfl hb380) (kf (gsF rfl hb380) (kf (gsF rfl hb380) (kf (gsF rfl hb380) (kf (pkT rfl hb380 rfl) (kf (mvO rfl) (kf (gsF rfl rfl) (kf (gsF rfl rfl) (kf (gsF rfl rfl) (kf (gsF rfl rfl) (kf (gsU rfl) (kf (gsU rfl) (kf (gsU rfl) (kf (gsU rfl) (kf (gsU rfl) (kf (gsU rfl) (kf (gsU rfl) (kf (gsF rfl rfl) (kf (pkT rfl rfl rfl) (fZ (Rn (hA h374 (hA h375 (hA h376 (hA h378 (hV (.bool true) rfl hZ))))) fun e381 h383 h384 h385 h386 h387 => sN (cT h387 rfl (sq (Rg (kx (bldT zero27 rfl (fill0 rfl)) (kw (stO h385 rfl o308 rfl rfl ⟨rfl, ble rfl⟩ rfl rfl) fun M388 hM389 => ?_))))))))))))))))))))))))))
       clear h374 h375 h376 h377 h378
       have o390 := set_ne hM389 ne9 o307
       have o391 : M388[M2.length]? = some (.live ⟨.box, 27, 3, [[.int .i64 0, .nils, .nils]]⟩) := set_same hM389 o308
       have o392 := set_ne hM389 (Ne.symm ne287) o309
       have o393 := set_ne hM389 (Ne.symm ne290) o310
       refine kx (mvO rfl) (Rn (hA h385 (hV (.int .i64 4) rfl hZ)) fun e394 h396 h397 => sN (xx ?_))
       clear h383 h384 h385 h386 h387
       obtain rfl := si h
       exact kd (show impl_do_c3_Q a2 r278 r279 (([] : Mem).length) M2.length M267.length (M267.length + 1) _ _ from ⟨rfl, h396, h397, o391⟩)
      refine kf (guF rfl hb380 (mvO h378)) (kf (guF rfl hb380 (ncO rfl o310 (by simp))) (kf (guF rfl hb380 (faO rfl o310 (by simp))) (kf (guF rfl hb380 (ldO rfl o310 (by simp) (rz hx371) rfl)) (kf (guF rfl hb380 (bEql rfl rfl)) (kf (pkF rfl hb380 rfl) (kf (mvO rfl) ?_))))))
      rcases ite_some h with ⟨hb398, h⟩ | ⟨hb398, h⟩
      ·refine kf (gsF rfl hb398) (kf (gsF rfl hb398) (kf (gsF rfl hb398) (kf (gsF rfl hb398) (kf (gsU rfl) (kf (gsU rfl) (kf (gsU rfl) (kf (gsU rfl) (kf (gsU rfl) (kf (gsU rfl) (kf (gsU rfl) (kf (gsF rfl hb398) (kf (pkT rfl hb398 rfl) (fZ (Rn (hA h374 (hA h375 (hA h376 (hA h378 (hV (.bool true) rfl hZ))))) fun e399 h401 h402 h403 h404 h405 => sN (cT h405 rfl (sq (Rg (kx (bldT zero27 rfl (fill0 rfl)) (kw (stO h403 rfl o308 rfl rfl ⟨rfl, ble rfl⟩ rfl rfl) fun M406 hM407 => ?_)))))))))))))))))))
       clear h374 h375 h376 h377 h378
       have o408 := set_ne hM407 ne9 o307
       have o409 : M406[M2.length]? = some (.live ⟨.box, 27, 3, [[.int .i64 0, .nils, .nils]]⟩) := set_same hM407 o308
       have o410 := set_ne hM407 (Ne.symm ne287) o309
       have o411 := set_ne hM407 (Ne.symm ne290) o310
       refine kx (mvO rfl) (Rn (hA h403 (hV (.int .i64 4) rfl hZ)) fun e412 h414 h415 => sN (xx ?_))
       clear h401 h402 h403 h404 h405
       obtain rfl := si h
       exact kd (show impl_do_c3_Q a2 r278 r279 (([] : Mem).length) M2.length M267.length (M267.length + 1) _ _ from ⟨rfl, h414, h415, o409⟩)
      refine kf (guF rfl hb398 (faP h375 ⟨ble rfl, blt rfl⟩ rfl)) (kf (guF rfl hb398 (ldP rfl rfl)) (kf (guF rfl hb398 (bEql rfl rfl)) (kf (guF rfl hb398 (mvO rfl)) ?_)))
      rcases ite_some h with ⟨hb416, h⟩ | ⟨hb416, h⟩
      ·refine kf (guT rfl hb416 (faP h375 ⟨ble rfl, blt rfl⟩ rfl)) (kf (guT rfl hb416 (ldP rfl rfl)) (kf (guT rfl hb416 (mvO h378)) (kf (guT rfl hb416 (ncO rfl o310 (by simp))) (kf (guT rfl hb416 (faO rfl o310 (by simp))) (kf (guT rfl hb416 (ldO rfl o310 (by simp) (rz hx371) rfl)) (kf (guT rfl hb416 (bGtr rfl rfl)) (kf (guF rfl hb398 (pkT rfl hb416 rfl)) (kf (pkF rfl hb398 rfl) (fZ (Rn (hA h374 (hA h375 (hA h376 (hA h378 (hN rfl hZ))))) fun e417 h419 h420 h421 h422 h423 => sN ?_))))))))))
       clear h374 h375 h376 h377 h378
       rcases ite_some h with ⟨hb424, h⟩ | ⟨hb424, h⟩
       ·refine cT h423 hb424 (sq (Rg (kx (bldT zero27 rfl (fill0 rfl)) (kw (stO h421 rfl o308 rfl rfl ⟨rfl, ble rfl⟩ rfl rfl) fun M425 hM426 => ?_))))
        have o427 := set_ne hM426 ne9 o307
        have o428 : M425[M2.length]? = some (.live ⟨.box, 27, 3, [[.int .i64 0, .nils, .nils]]⟩) := set_same hM426 o308
        have o429 := set_ne hM426 (Ne.symm ne287) o309
        have o430 := set_ne hM426 (Ne.symm ne290) o310
        refine kx (mvO rfl) (Rn (hA h421 (hV (.int .i64 4) rfl hZ)) fun e431 h433 h434 => sN (xx ?_))
        clear h419 h420 h421 h422 h423
        obtain rfl := si h
        exact kd (show impl_do_c3_Q a2 r278 r279 (([] : Mem).length) M2.length M267.length (M267.length + 1) _ _ from ⟨rfl, h433, h434, o428⟩)
       refine cF h423 hb424 (xx ?_)
       obtain rfl := si h
       exact kd (show impl_do_c3_Q a2 r278 r279 (([] : Mem).length) M2.length M267.length (M267.length + 1) _ _ from ⟨rfl, h419, h420, h421, h422, h423, o307, o309, o310, o308⟩)
      refine kf (gsT rfl hb416) (kf (gsT rfl hb416) (kf (gsT rfl hb416) (kf (gsT rfl hb416) (kf (gsT rfl hb416) (kf (gsT rfl hb416) (kf (gsT rfl hb416) (kf (guF rfl hb398 (pkF rfl hb416 rfl)) (kf (pkF rfl hb398 rfl) (fZ (Rn (hA h374 (hA h375 (hA h376 (hA h378 (hV (.bool false) rfl hZ))))) fun e435 h437 h438 h439 h440 h441 => sN (cF h441 rfl (xx ?_))))))))))))
      clear h374 h375 h376 h377 h378
      obtain rfl := si h
      exact kd (show impl_do_c3_Q a2 r278 r279 (([] : Mem).length) M2.length M267.length (M267.length + 1) _ _ from ⟨rfl, h437, h438, h439, h440, h441, o307, o309, o310, o308⟩)
     refine kf (gsT rfl hb379) (kf (gsT rfl hb379) (kf (gsT rfl hb379) (kf (gsT rfl hb379) (kf (gsT rfl hb379) (kf (gsT rfl hb379) (kf (gsT rfl hb379) (kf (pkF rfl hb379 rfl) (kf (mvO rfl) (kf (guF rfl rfl (mvO h378)) (kf (guF rfl rfl (ncO rfl o310 (by simp))) (kf (guF rfl rfl (faO rfl o310 (by simp))) (kf (guF rfl rfl (ldO rfl o310 (by simp) (rz hx371) rfl)) (kf (guF rfl rfl (bEql rfl rfl)) (kf (pkF rfl rfl rfl) (kf (mvO rfl) ?_)))))))))))))))
     rcases ite_some h with ⟨hb442, h⟩ | ⟨hb442, h⟩
     ·refine kf (gsF rfl hb442) (kf (gsF rfl hb442) (kf (gsF rfl hb442) (kf (gsF rfl hb442) (kf (gsU rfl) (kf (gsU rfl) (kf (gsU rfl) (kf (gsU rfl) (kf (gsU rfl) (kf (gsU rfl) (kf (gsU rfl) (kf (gsF rfl hb442) (kf (pkT rfl hb442 rfl) (fZ (Rn (hA h374 (hA h375 (hA h376 (hA h378 (hV (.bool true) rfl hZ))))) fun e443 h445 h446 h447 h448 h449 => sN (cT h449 rfl (sq (Rg (kx (bldT zero27 rfl (fill0 rfl)) (kw (stO h447 rfl o308 rfl rfl ⟨rfl, ble rfl⟩ rfl rfl) fun M450 hM451 => ?_)))))))))))))))))))
      clear h374 h375 h376 h377 h378
      have o452 := set_ne hM451 ne9 o307
      have o453 : M450[M2.length]? = some (.live ⟨.box, 27, 3, [[.int .i64 0, .nils, .nils]]⟩) := set_same hM451 o308
      have o454 := set_ne hM451 (Ne.symm ne287) o309
      have o455 := set_ne hM451 (Ne.symm ne290) o310
      refine kx (mvO rfl) (Rn (hA h447 (hV (.int .i64 4) rfl hZ)) fun e456 h458 h459 => sN (xx ?_))
      clear h445 h446 h447 h448 h449
      obtain rfl := si h
      exact kd (show impl_do_c3_Q a2 r278 r279 (([] : Mem).length) M2.length M267.length (M267.length + 1) _ _ from ⟨rfl, h458, h459, o453⟩)
     refine kf (guF rfl hb442 (faP h375 ⟨ble rfl, blt rfl⟩ rfl)) (kf (guF rfl hb442 (ldP rfl rfl)) (kf (guF rfl hb442 (bEql rfl rfl)) (kf (guF rfl hb442 (mvO rfl)) ?_)))
     rcases ite_some h with ⟨hb460, h⟩ | ⟨hb460, h⟩
     ·refine kf (guT rfl hb460 (faP h375 ⟨ble rfl, blt rfl⟩ rfl)) (kf (guT rfl hb460 (ldP rfl rfl)) (kf (guT rfl hb460 (mvO h378)) (kf (guT rfl hb460 (ncO rfl o310 (by simp))) (kf (guT rfl hb460 (faO rfl o310 (by simp))) (kf (guT rfl hb460 (ldO rfl o310 (by simp) (rz hx371) rfl)) (kf (guT rfl hb460 (bGtr rfl rfl)) (kf (guF rfl hb442 (pkT rfl hb460 rfl)) (kf (pkF rfl hb442 rfl) (fZ (Rn (hA h374 (hA h375 (hA h376 (hA h378 (hN rfl hZ))))) fun e461 h463 h464 h465 h466 h467 => sN ?_))))))))))
      clear h374 h375 h376 h377 h378
      rcases ite_some h with ⟨hb468, h⟩ | ⟨hb468, h⟩
      ·refine cT h467 hb468 (sq (Rg (kx (bldT zero27 rfl (fill0 rfl)) (kw (stO h465 rfl o308 rfl rfl ⟨rfl, ble rfl⟩ rfl rfl) fun M469 hM470 => ?_))))
       have o471 := set_ne hM470 ne9 o307
       have o472 : M469[M2.length]? = some (.live ⟨.box, 27, 3, [[.int .i64 0, .nils, .nils]]⟩) := set_same hM470 o308
       have o473 := set_ne hM470 (Ne.symm ne287) o309
       have o474 := set_ne hM470 (Ne.symm ne290) o310
       refine kx (mvO rfl) (Rn (hA h465 (hV (.int .i64 4) rfl hZ)) fun e475 h477 h478 => sN (xx ?_))
       clear h463 h464 h465 h466 h467
       obtain rfl := si h
       exact kd (show impl_do_c3_Q a2 r278 r279 (([] : Mem).length) M2.length M267.length (M267.length + 1) _ _ from ⟨rfl, h477, h478, o472⟩)
      refine cF h467 hb468 (xx ?_)
      obtain rfl := si h
      exact kd (show impl_do_c3_Q a2 r278 r279 (([] : Mem).length) M2.length M267.length (M267.length + 1) _ _ from ⟨rfl, h463, h464, h465, h466, h467, o307, o309, o310, o308⟩)
     refine kf (gsT rfl hb460) (kf (gsT rfl hb460) (kf (gsT rfl hb460) (kf (gsT rfl hb460) (kf (gsT rfl hb460) (kf (gsT rfl hb460) (kf (gsT rfl hb460) (kf (guF rfl hb442 (pkF rfl hb460 rfl)) (kf (pkF rfl hb442 rfl) (fZ (Rn (hA h374 (hA h375 (hA h376 (hA h378 (hV (.bool false) rfl hZ))))) fun e479 h481 h482 h483 h484 h485 => sN (cF h485 rfl (xx ?_))))))))))))
     clear h374 h375 h376 h377 h378
     obtain rfl := si h
     exact kd (show impl_do_c3_Q a2 r278 r279 (([] : Mem).length) M2.length M267.length (M267.length + 1) _ _ from ⟨rfl, h481, h482, h483, h484, h485, o307, o309, o310, o308⟩)) ?_
 rcases r713 with _ | y494
 ·intro x e486 M487 hq491
  obtain ⟨rfl, h488, h489, o490⟩ := hq491
  refine sR ?_
  obtain rfl := si h
  exact eR (resC (ag := true) (sz := 3) ⟨by kernel_rfl, by kernel_rfl, by kernel_rfl⟩ (ldOA h488 o490 rfl rfl (ble rfl) rfl) (resT h489 res0)) rfl
 intro x e492 M493 hq712
 obtain ⟨rfl, h495, h496, h497, h498, h499, o500, o501, o502, o503⟩ := hq712
 refine sN (sq (sq (Rg (kx (faP h496 ⟨ble rfl, blt rfl⟩ rfl) (kx (ldP rfl rfl) (Rn (hV (.loc ([] : Mem).length 1 0 0) h495 (hV (.pt none [.int .i64 a2.Day, .int .i8 a2.Kind, .int .i64 a2.Tally, .int .i64 a2.From, .int .i64 a2.To, .int .i64 a2.Amount]) h496 (hV (.loc M2.length 1 0 0) h497 (hV (.loc (M267.length + 1) r279.length (0 + a2.Tally.toNat) 0) h498 (hN rfl hZ))))) fun e504 h506 h507 h508 h509 h510 => sN (bl (sq (Rg (kx (bEql h510 rfl) (kx (mvO rfl) (Rn (hA h506 (hA h507 (hA h508 (hA h509 (hA h510 (hN rfl hZ)))))) fun e511 h513 h514 h515 h516 h517 h518 => sN ?_))))))))))))
 clear h495 h496 h497 h498 h499 h506 h507 h508 h509 h510
 rcases ite_some h with ⟨hb519, h⟩ | ⟨hb519, h⟩
 ·refine cT h518 hb519 (sq (Rg (kx (mvO h516) (kx (faP h514 ⟨ble rfl, blt rfl⟩ rfl) (kx (ldP rfl rfl) (kx (ncO rfl o502 (by simp)) (kx (faO rfl o502 (by simp)) (kw (stR (u := x370) (u' := (Tally.mk x370.Debtor a2.To x370.Cut x370.Amount x370.Left)) rfl rfl o502 rfl (rz2 hx371) ⟨rfl, ble rfl⟩ rfl rfl) fun M520 hM521 => ?_))))))))
  rw [Nat.zero_add] at hM521
  have o522 := set_ne hM521 ne289 o500
  have o523 := set_ne hM521 ne291 o501
  have o524 : M520[(M267.length + 1)]? = some (.live ⟨.grow, 49, 5, (r279.set a2.Tally.toNat (Tally.mk x370.Debtor a2.To x370.Cut x370.Amount x370.Left)).map Tally.c⟩) := set_same hM521 o502
  have o525 := set_ne hM521 ne290 o503
  have hx526 := rd_set (u' := (Tally.mk x370.Debtor a2.To x370.Cut x370.Amount x370.Left)) hx371
  refine Rn (hA h513 (hA h514 (hA h515 (hA h516 hZ)))) fun e527 h529 h530 h531 h532 => sN (sq (Rd (kf (faP h530 ⟨ble rfl, blt rfl⟩ rfl) (kf (ldP rfl rfl) (kf (mvO h532) (kf (ncO rfl o524 (by simp)) (kf (faO rfl o524 (by simp)) (kf (ldO rfl o524 (by simp) (rz hx526) rfl) (kf (bEql rfl rfl) (fZ (Rn (hA h529 (hA h531 (hA h532 (hN rfl hZ)))) fun e533 h535 h536 h537 h538 => sN ?_)))))))))))
  clear h513 h514 h515 h516 h517 h518 h529 h530 h531 h532
  rcases ite_some h with ⟨hb539, h⟩ | ⟨hb539, h⟩
  ·refine cT h538 hb539 (Rg (kx (mvO h537) (kx (ncO rfl o524 (by simp)) (kx (faO rfl o524 (by simp)) (kw (stR (u := (Tally.mk x370.Debtor a2.To x370.Cut x370.Amount x370.Left)) (u' := (Tally.mk ((Tally.mk x370.Debtor a2.To x370.Cut x370.Amount x370.Left)).Debtor ((Tally.mk x370.Debtor a2.To x370.Cut x370.Amount x370.Left)).Holder ((Tally.mk x370.Debtor a2.To x370.Cut x370.Amount x370.Left)).Cut ((Tally.mk x370.Debtor a2.To x370.Cut x370.Amount x370.Left)).Amount 0)) rfl rfl o524 (by simp) (rz2 hx526) ⟨rfl, ble rfl⟩ rfl rfl) fun M540 hM541 => ?_)))))
   rw [Nat.zero_add] at hM541
   have o542 := set_ne hM541 ne289 o522
   have o543 := set_ne hM541 ne291 o523
   have o544 : M540[(M267.length + 1)]? = some (.live ⟨.grow, 49, 5, ((r279.set a2.Tally.toNat (Tally.mk x370.Debtor a2.To x370.Cut x370.Amount x370.Left)).set a2.Tally.toNat (Tally.mk ((Tally.mk x370.Debtor a2.To x370.Cut x370.Amount x370.Left)).Debtor ((Tally.mk x370.Debtor a2.To x370.Cut x370.Amount x370.Left)).Holder ((Tally.mk x370.Debtor a2.To x370.Cut x370.Amount x370.Left)).Cut ((Tally.mk x370.Debtor a2.To x370.Cut x370.Amount x370.Left)).Amount 0)).map Tally.c⟩) := set_same hM541 o524
   have o545 := set_ne hM541 ne290 o525
   have hx546 := rd_set (u' := (Tally.mk ((Tally.mk x370.Debtor a2.To x370.Cut x370.Amount x370.Left)).Debtor ((Tally.mk x370.Debtor a2.To x370.Cut x370.Amount x370.Left)).Holder ((Tally.mk x370.Debtor a2.To x370.Cut x370.Amount x370.Left)).Cut ((Tally.mk x370.Debtor a2.To x370.Cut x370.Amount x370.Left)).Amount 0)) hx526
   refine Rn (hA h535 (hA h536 hZ)) fun e547 h549 h550 => bN (sN (sq (Rg (kx (ldOA h549 o542 rfl rfl (ble rfl) rfl) (kw (stO h550 rfl o545 rfl rfl ⟨rfl, ble rfl⟩ (all1 rfl (all1 (okL o543 (by simp)) (all1 (okL o544 (by simp)) all0))) rfl) fun M551 hM552 => ?_)))))
   clear h535 h536 h537 h538
   have o553 := set_ne hM552 ne9 o542
   have o554 := set_ne hM552 (Ne.symm ne287) o543
   have o555 := set_ne hM552 (Ne.symm ne290) o544
   have o556 : M551[M2.length]? = some (.live ⟨.box, 27, 3, [[.int .i64 a2.Day, .lsl M267.length r278.length 0 r278.length, .lsl (M267.length + 1) r279.length 0 r279.length]]⟩) := set_same hM552 o545
   refine kx (mvO rfl) (Rn (hA h550 (hV (.int .i64 0) rfl hZ)) fun e557 h559 h560 => sN (xx ?_))
   clear h549 h550
   obtain rfl := si h
   exact eR (resC (ag := true) (sz := 3) ⟨by kernel_rfl, by kernel_rfl, by kernel_rfl⟩ (ldOA h559 o556 rfl rfl (ble rfl) rfl) (resT h560 res0)) (rr_tup (mp1 (rr_agg (mp1 rfl (mp1 (rr_row o554 rfl (cI_fl _)) (mp1 (rr_row o555 (by simp) Tally.fl) mp0)))) (mp1 rfl mp0)))
  refine cF h538 hb539 (xx (bN (sN (sq (Rg (kx (ldOA h535 o522 rfl rfl (ble rfl) rfl) (kw (stO h536 rfl o525 rfl rfl ⟨rfl, ble rfl⟩ (all1 rfl (all1 (okL o523 (by simp)) (all1 (okL o524 (by simp)) all0))) rfl) fun M561 hM562 => ?_)))))))
  have o563 := set_ne hM562 ne9 o522
  have o564 := set_ne hM562 (Ne.symm ne287) o523
  have o565 := set_ne hM562 (Ne.symm ne290) o524
  have o566 : M561[M2.length]? = some (.live ⟨.box, 27, 3, [[.int .i64 a2.Day, .lsl M267.length r278.length 0 r278.length, .lsl (M267.length + 1) r279.length 0 r279.length]]⟩) := set_same hM562 o525
  refine kx (mvO rfl) (Rn (hA h536 (hV (.int .i64 0) rfl hZ)) fun e567 h569 h570 => sN (xx ?_))
  clear h535 h536 h537 h538
  obtain rfl := si h
  exact eR (resC (ag := true) (sz := 3) ⟨by kernel_rfl, by kernel_rfl, by kernel_rfl⟩ (ldOA h569 o566 rfl rfl (ble rfl) rfl) (resT h570 res0)) (rr_tup (mp1 (rr_agg (mp1 rfl (mp1 (rr_row o564 rfl (cI_fl _)) (mp1 (rr_row o565 (by simp) Tally.fl) mp0)))) (mp1 rfl mp0)))
 refine cF h518 hb519 (sq (Rg (kx (bEql h517 rfl) (kx (mvO rfl) (Rn (hA h513 (hA h514 (hA h515 (hA h516 (hA h517 (hN rfl hZ)))))) fun e571 h573 h574 h575 h576 h577 h578 => sN ?_)))))
 clear h513 h514 h515 h516 h517 h518
 rcases ite_some h with ⟨hb579, h⟩ | ⟨hb579, h⟩
 ·obtain ⟨x580, hx581, h⟩ := bind_some h
  refine cT h578 hb579 (sq (sq (Rd (kf (faO h573 o500 rfl) (kf (ldO rfl o500 rfl rfl rfl) (kf (mvO h576) (kf (ncO rfl o502 (by simp)) (kf (faO rfl o502 (by simp)) (kf (ldO rfl o502 (by simp) (rz hx371) rfl) (kf (ixO rfl o501 rfl rfl (rd_get hx581).1 (rd_lt hx581).2) (kf (ldO rfl o501 (by simp) (rz hx581) rfl) (kf (faP h574 ⟨ble rfl, blt rfl⟩ rfl) (kf (ldP rfl rfl) (kf (bLss rfl rfl) (fZ (Rn (hA h573 (hA h574 (hA h575 (hA h576 (hN rfl hZ))))) fun e582 h584 h585 h586 h587 h588 => sN ?_))))))))))))))))
  clear h573 h574 h575 h576 h577 h578
  rcases ite_some h with ⟨hb589, h⟩ | ⟨hb589, h⟩
  ·refine cT h588 hb589 (sq (Rg (kx (bldT zero27 rfl (fill0 rfl)) (kw (stO h586 rfl o503 rfl rfl ⟨rfl, ble rfl⟩ rfl rfl) fun M590 hM591 => ?_))))
   have o592 := set_ne hM591 ne9 o500
   have o593 := set_ne hM591 (Ne.symm ne287) o501
   have o594 := set_ne hM591 (Ne.symm ne290) o502
   have o595 : M590[M2.length]? = some (.live ⟨.box, 27, 3, [[.int .i64 0, .nils, .nils]]⟩) := set_same hM591 o503
   refine kx (mvO rfl) (Rn (hA h586 (hV (.int .i64 8) rfl hZ)) fun e596 h598 h599 => sN (xx (sR (bR (sR ?_)))))
   clear h584 h585 h586 h587 h588
   obtain rfl := si h
   exact eR (resC (ag := true) (sz := 3) ⟨by kernel_rfl, by kernel_rfl, by kernel_rfl⟩ (ldOA h598 o595 rfl rfl (ble rfl) rfl) (resT h599 res0)) rfl
  obtain ⟨x600, hx601, h⟩ := bind_some h
  obtain ⟨x602, hx603, h⟩ := bind_some h
  refine cF h588 hb589 (xx (sN (sq (Rd (kf (faO h584 o500 rfl) (kf (ldO rfl o500 rfl rfl rfl) (kf (mvO h587) (kf (ncO rfl o502 (by simp)) (kf (faO rfl o502 (by simp)) (kf (ldO rfl o502 (by simp) (rz hx371) rfl) (kf (ixO rfl o501 rfl rfl (rd_get hx601).1 (rd_lt hx601).2) (kf (ldO rfl o501 (by simp) (rz hx601) rfl) (kf (faP h585 ⟨ble rfl, blt rfl⟩ rfl) (kf (ldP rfl rfl) (kf (bSub rfl rfl) (kf (ixO rfl o501 rfl rfl (rd_get hx603).1 (rd_lt hx603).2) (fZ (kw (stR (u := x602) (u' := (IntKind.i64.wrap (x600 - a2.Amount))) rfl rfl o501 rfl (rz2 hx603) ⟨rfl, ble rfl⟩ rfl rfl) fun M604 hM605 => ?_))))))))))))))))))
  rw [Nat.zero_add] at hM605
  have o606 := set_ne hM605 ne286 o500
  have o607 : M604[M267.length]? = some (.live ⟨.grow, 2, 1, (r278.set x370.Debtor.toNat (IntKind.i64.wrap (x600 - a2.Amount))).map (cI .i64)⟩) := set_same hM605 o501
  have o608 := set_ne hM605 (Ne.symm ne291) o502
  have o609 := set_ne hM605 ne287 o503
  have hx610 := rd_set (u' := (IntKind.i64.wrap (x600 - a2.Amount))) hx603
  obtain ⟨x617, hx618, h⟩ := bind_some h
  obtain ⟨x619, hx620, h⟩ := bind_some h
  refine Rn (hA h584 (hA h585 (hA h586 (hA h587 hZ)))) fun e611 h613 h614 h615 h616 => sN (sq (Rd (kf (faO h613 o606 rfl) (kf (ldO rfl o606 rfl rfl rfl) (kf (mvO h616) (kf (ncO rfl o608 (by simp)) (kf (faO rfl o608 (by simp)) (kf (ldO rfl o608 (by simp) (rz hx371) rfl) (kf (ixO (lslL (L' := (r278.set x370.Debtor.toNat (IntKind.i64.wrap (x600 - a2.Amount))).length) rfl (by simp)) o607 rfl rfl (rd_get hx618).1 (rd_lt hx618).2) (kf (ldO rfl o607 (by simp) (rz hx618) rfl) (kf (faP h614 ⟨ble rfl, blt rfl⟩ rfl) (kf (ldP rfl rfl) (kf (bAdd rfl rfl) (kf (ixO (lslL (L' := (r278.set x370.Debtor.toNat (IntKind.i64.wrap (x600 - a2.Amount))).length) rfl (by simp)) o607 rfl rfl (rd_get hx620).1 (rd_lt hx620).2) (fZ (kw (stR (u := x619) (u' := (IntKind.i64.wrap (x617 + a2.Amount))) rfl rfl o607 rfl (rz2 hx620) ⟨rfl, ble rfl⟩ rfl rfl) fun M621 hM622 => ?_))))))))))))))))
  clear h584 h585 h586 h587 h588
  rw [Nat.zero_add] at hM622
  have o623 := set_ne hM622 ne286 o606
  have o624 : M621[M267.length]? = some (.live ⟨.grow, 2, 1, ((r278.set x370.Debtor.toNat (IntKind.i64.wrap (x600 - a2.Amount))).set x370.Holder.toNat (IntKind.i64.wrap (x617 + a2.Amount))).map (cI .i64)⟩) := set_same hM622 o607
  have o625 := set_ne hM622 (Ne.symm ne291) o608
  have o626 := set_ne hM622 ne287 o609
  have hx627 := rd_set (u' := (IntKind.i64.wrap (x617 + a2.Amount))) hx620
  refine Rn (hA h613 (hA h614 (hA h615 (hA h616 hZ)))) fun e628 h630 h631 h632 h633 => sN (sq (Rd (kf (mvO h633) (kf (ncO rfl o625 (by simp)) (kf (faO rfl o625 (by simp)) (kf (ldO rfl o625 (by simp) (rz hx371) rfl) (kf (faP h631 ⟨ble rfl, blt rfl⟩ rfl) (kf (ldP rfl rfl) (kf (bSub rfl rfl) (kf (ncO rfl o625 (by simp)) (kf (faO rfl o625 (by simp)) (fZ (kw (stR (u := x370) (u' := (Tally.mk x370.Debtor x370.Holder x370.Cut x370.Amount (IntKind.i64.wrap (x370.Left - a2.Amount)))) rfl rfl o625 rfl (rz2 hx371) ⟨rfl, ble rfl⟩ rfl rfl) fun M634 hM635 => ?_)))))))))))))
  clear h613 h614 h615 h616
  rw [Nat.zero_add] at hM635
  have o636 := set_ne hM635 ne289 o623
  have o637 := set_ne hM635 ne291 o624
  have o638 : M634[(M267.length + 1)]? = some (.live ⟨.grow, 49, 5, (r279.set a2.Tally.toNat (Tally.mk x370.Debtor x370.Holder x370.Cut x370.Amount (IntKind.i64.wrap (x370.Left - a2.Amount)))).map Tally.c⟩) := set_same hM635 o625
  have o639 := set_ne hM635 ne290 o626
  have hx640 := rd_set (u' := (Tally.mk x370.Debtor x370.Holder x370.Cut x370.Amount (IntKind.i64.wrap (x370.Left - a2.Amount)))) hx371
  obtain ⟨x646, hx647, h⟩ := bind_some h
  refine Rn (hA h630 (hA h632 (hA h633 hZ))) fun e641 h643 h644 h645 => sN (sq (Rd (kf (faO h643 o636 rfl) (kf (ldO rfl o636 rfl rfl rfl) (kf (mvO h645) (kf (ncO rfl o638 (by simp)) (kf (faO rfl o638 (by simp)) (kf (ldO rfl o638 (by simp) (rz hx640) rfl) (kf (ixO (lslL (L' := ((r278.set x370.Debtor.toNat (IntKind.i64.wrap (x600 - a2.Amount))).set x370.Holder.toNat (IntKind.i64.wrap (x617 + a2.Amount))).length) rfl (by simp)) o637 rfl rfl (rd_get hx647).1 (rd_lt hx647).2) (kf (ldO rfl o637 (by simp) (rz hx647) rfl) (kf (bGtr rfl rfl) (fZ (Rn (hA h643 (hA h644 (hN rfl hZ))) fun e648 h650 h651 h652 => sN ?_)))))))))))))
  clear h630 h631 h632 h633 h643 h644 h645
  rcases ite_some h with ⟨hb653, h⟩ | ⟨hb653, h⟩
  ·refine cT h652 hb653 (sq (Rg (kx (bldT zero27 rfl (fill0 rfl)) (kw (stO h651 rfl o639 rfl rfl ⟨rfl, ble rfl⟩ rfl rfl) fun M654 hM655 => ?_))))
   have o656 := set_ne hM655 ne9 o636
   have o657 := set_ne hM655 (Ne.symm ne287) o637
   have o658 := set_ne hM655 (Ne.symm ne290) o638
   have o659 : M654[M2.length]? = some (.live ⟨.box, 27, 3, [[.int .i64 0, .nils, .nils]]⟩) := set_same hM655 o639
   refine kx (mvO rfl) (Rn (hA h651 (hV (.int .i64 3) rfl hZ)) fun e660 h662 h663 => sN (xx (bR (sR ?_))))
   clear h650 h651 h652
   obtain rfl := si h
   exact eR (resC (ag := true) (sz := 3) ⟨by kernel_rfl, by kernel_rfl, by kernel_rfl⟩ (ldOA h662 o659 rfl rfl (ble rfl) rfl) (resT h663 res0)) rfl
  refine cF h652 hb653 (xx (bN (sN (sq (Rg (kx (ldOA h650 o636 rfl rfl (ble rfl) rfl) (kw (stO h651 rfl o639 rfl rfl ⟨rfl, ble rfl⟩ (all1 rfl (all1 (okL o637 (by simp)) (all1 (okL o638 (by simp)) all0))) rfl) fun M664 hM665 => ?_)))))))
  have o666 := set_ne hM665 ne9 o636
  have o667 := set_ne hM665 (Ne.symm ne287) o637
  have o668 := set_ne hM665 (Ne.symm ne290) o638
  have o669 : M664[M2.length]? = some (.live ⟨.box, 27, 3, [[.int .i64 a2.Day, .lsl M267.length r278.length 0 r278.length, .lsl (M267.length + 1) r279.length 0 r279.length]]⟩) := set_same hM665 o639
  refine kx (mvO rfl) (Rn (hA h651 (hV (.int .i64 0) rfl hZ)) fun e670 h672 h673 => sN (xx ?_))
  clear h650 h651 h652
  obtain rfl := si h
  exact eR (resC (ag := true) (sz := 3) ⟨by kernel_rfl, by kernel_rfl, by kernel_rfl⟩ (ldOA h672 o669 rfl rfl (ble rfl) rfl) (resT h673 res0)) (rr_tup (mp1 (rr_agg (mp1 rfl (mp1 (rr_row o667 (by simp) (cI_fl _)) (mp1 (rr_row o668 (by simp) Tally.fl) mp0)))) (mp1 rfl mp0)))
 refine cF h578 hb579 (sq (Rg (kx (bEql h577 rfl) (kx (mvO rfl) (Rn (hA h573 (hA h575 (hA h576 (hN rfl hZ)))) fun e674 h676 h677 h678 h679 => sN ?_)))))
 clear h573 h574 h575 h576 h577 h578
 rcases ite_some h with ⟨hb680, h⟩ | ⟨hb680, h⟩
 ·refine cT h679 hb680 (Rg (kx (mvO h678) (kx (ncO rfl o502 (by simp)) (kx (faO rfl o502 (by simp)) (kw (stR (u := x370) (u' := (Tally.mk x370.Debtor x370.Holder x370.Cut x370.Amount 0)) rfl rfl o502 rfl (rz2 hx371) ⟨rfl, ble rfl⟩ rfl rfl) fun M681 hM682 => ?_)))))
  rw [Nat.zero_add] at hM682
  have o683 := set_ne hM682 ne289 o500
  have o684 := set_ne hM682 ne291 o501
  have o685 : M681[(M267.length + 1)]? = some (.live ⟨.grow, 49, 5, (r279.set a2.Tally.toNat (Tally.mk x370.Debtor x370.Holder x370.Cut x370.Amount 0)).map Tally.c⟩) := set_same hM682 o502
  have o686 := set_ne hM682 ne290 o503
  have hx687 := rd_set (u' := (Tally.mk x370.Debtor x370.Holder x370.Cut x370.Amount 0)) hx371
  refine Rn (hA h676 (hA h677 hZ)) fun e688 h690 h691 => bN (sN (sq (Rg (kx (ldOA h690 o683 rfl rfl (ble rfl) rfl) (kw (stO h691 rfl o686 rfl rfl ⟨rfl, ble rfl⟩ (all1 rfl (all1 (okL o684 (by simp)) (all1 (okL o685 (by simp)) all0))) rfl) fun M692 hM693 => ?_)))))
  clear h676 h677 h678 h679
  have o694 := set_ne hM693 ne9 o683
  have o695 := set_ne hM693 (Ne.symm ne287) o684
  have o696 := set_ne hM693 (Ne.symm ne290) o685
  have o697 : M692[M2.length]? = some (.live ⟨.box, 27, 3, [[.int .i64 a2.Day, .lsl M267.length r278.length 0 r278.length, .lsl (M267.length + 1) r279.length 0 r279.length]]⟩) := set_same hM693 o686
  refine kx (mvO rfl) (Rn (hA h691 (hV (.int .i64 0) rfl hZ)) fun e698 h700 h701 => sN (xx ?_))
  clear h690 h691
  obtain rfl := si h
  exact eR (resC (ag := true) (sz := 3) ⟨by kernel_rfl, by kernel_rfl, by kernel_rfl⟩ (ldOA h700 o697 rfl rfl (ble rfl) rfl) (resT h701 res0)) (rr_tup (mp1 (rr_agg (mp1 rfl (mp1 (rr_row o695 rfl (cI_fl _)) (mp1 (rr_row o696 (by simp) Tally.fl) mp0)))) (mp1 rfl mp0)))
 refine cF h679 hb680 (xx (bN (sN (sq (Rg (kx (ldOA h676 o500 rfl rfl (ble rfl) rfl) (kw (stO h677 rfl o503 rfl rfl ⟨rfl, ble rfl⟩ (all1 rfl (all1 (okL o501 (by simp)) (all1 (okL o502 (by simp)) all0))) rfl) fun M702 hM703 => ?_)))))))
 have o704 := set_ne hM703 ne9 o500
 have o705 := set_ne hM703 (Ne.symm ne287) o501
 have o706 := set_ne hM703 (Ne.symm ne290) o502
 have o707 : M702[M2.length]? = some (.live ⟨.box, 27, 3, [[.int .i64 a2.Day, .lsl M267.length r278.length 0 r278.length, .lsl (M267.length + 1) r279.length 0 r279.length]]⟩) := set_same hM703 o503
 refine kx (mvO rfl) (Rn (hA h677 (hV (.int .i64 0) rfl hZ)) fun e708 h710 h711 => sN (xx ?_))
 clear h676 h677 h678 h679
 obtain rfl := si h
 exact eR (resC (ag := true) (sz := 3) ⟨by kernel_rfl, by kernel_rfl, by kernel_rfl⟩ (ldOA h710 o707 rfl rfl (ble rfl) rfl) (resT h711 res0)) (rr_tup (mp1 (rr_agg (mp1 rfl (mp1 (rr_row o705 rfl (cI_fl _)) (mp1 (rr_row o706 rfl Tally.fl) mp0)))) (mp1 rfl mp0)))
noncomputable def impl_isAmount (a1 : Int) : Option Bool :=
 if (decide (a1 ≥ 0)) = true then
  some (decide (a1 ≤ 100000000))
 else
  some false
def impl_isAmount_enc (r : Bool) : AV := .bool r
theorem impl_isAmount_ok (a1 : Int) (r : Bool) (h : impl_isAmount a1 = some r) : Ev (fun k => CN k 74 [.int .i64 a1] []) (fun p => rRes p.2 p.1 = impl_isAmount_enc r) := by
 unfold impl_isAmount at h
 refine Ev.enter (F := fun k => f74 (CN k) k) (fun k => callN_eq rfl Try.func74 rfl rfl rfl (by decide +kernel) (f74_eq _ _)) (sq (Rg (kx (mvO rfl) (Rn (hN rfl hZ) fun e1 h3 => sN (sq (Rg (kx (mvO h3) (kx (bGeq rfl rfl) (kx (mvO rfl) ?_)))))))))
 rcases ite_some h with ⟨hb4, h⟩ | ⟨hb4, h⟩
 ·refine kx (guT rfl hb4 (mvO h3)) (kx (guT rfl hb4 (bLeq rfl rfl)) (kx (pkT rfl hb4 rfl) (kx (mvO rfl) (Rn (hN rfl hZ) fun e5 h7 => sN (xx ?_)))))
  clear h3
  obtain rfl := si h
  exact eR (resT h7 res0) rfl
 refine kx (gsT rfl hb4) (kx (gsT rfl hb4) (kx (pkF rfl hb4 rfl) (kx (mvO rfl) (Rn (hV (.bool false) rfl hZ) fun e8 h10 => sN (xx ?_)))))
 clear h3
 obtain rfl := si h
 exact eR (resT h10 res0) rfl
abbrev slices_Equal_Tally_b1_S := Int
abbrev slices_Equal_Tally_b1_R := Unit ⊕ Unit
def slices_Equal_Tally_b1_RS (a1 : List Tally) (a2 : List Tally) (s : slices_Equal_Tally_b1_S) (e : Env) (M : Mem) : Prop := eget e 0 = .sl none (a1.map Tally.c) ∧ eget e 1 = .sl none (a2.map Tally.c) ∧ eget e 12 = .int .i64 (a1.length : Int) ∧ eget e 13 = .int .i64 s
def slices_Equal_Tally_b1_RR (a1 : List Tally) (a2 : List Tally) (r : slices_Equal_Tally_b1_R) (x : Ex) (e : Env) (M : Mem) : Prop :=
  match r with
  | (.inl g) => x = .ret ∧ eget e 4 = .bool false
  | (.inr g) => x = .ext 0 ∧ True
noncomputable def slices_Equal_Tally_b1 (a1 : List Tally) (a2 : List Tally) : slices_Equal_Tally_b1_S → Option (slices_Equal_Tally_b1_S ⊕ slices_Equal_Tally_b1_R) := fun s1_1 =>
 if (decide (s1_1 < (a1.length : Int))) = true then
  (rd a1 s1_1).bind fun x55 =>
  (rd a2 s1_1).bind fun x57 =>
  if ((x55.Debtor == x57.Debtor) && ((x55.Holder == x57.Holder) && ((x55.Cut == x57.Cut) && ((x55.Amount == x57.Amount) && ((x55.Left == x57.Left) && true))))) = true then
   some (.inl (IntKind.i64.wrap (s1_1 + 1)))
  else
   some (.inr (.inl ()))
 else
  some (.inr (.inr ()))
theorem slices_Equal_Tally_b1_ok (a1 : List Tally) (a2 : List Tally) (s : slices_Equal_Tally_b1_S) (r : slices_Equal_Tally_b1_S ⊕ slices_Equal_Tally_b1_R) (h : slices_Equal_Tally_b1 a1 a2 s = some r) (e : Env) (M : Mem) (hs : slices_Equal_Tally_b1_RS a1 a2 s e M) : Ev (fun k => (f73_l4 (CN k) k (prune [0, 1, 12, 13] e) M).bind fun q => some q) (bQ (slices_Equal_Tally_b1_RS a1 a2) (slices_Equal_Tally_b1_RR a1 a2) r) := by
 revert h hs
 revert s
 intro s1_1 h hs
 unfold slices_Equal_Tally_b1 at h
 obtain ⟨h32, h34, h36, h38⟩ := hs
 generalize he31 : prune [0, 1, 12, 13] e = e30
 have h33 := envp he31.symm rfl h32
 have h35 := envp he31.symm rfl h34
 have h37 := envp he31.symm rfl h36
 have h39 := envp he31.symm rfl h38
 refine sq (Rg (kx (bLss h39 h37) (Rn (hV (.sl none (a1.map Tally.c)) h33 (hV (.sl none (a2.map Tally.c)) h35 (hV (.int .i64 (a1.length : Int)) h37 (hV (.int .i64 s1_1) h39 (hN rfl hZ))))) fun e40 h42 h43 h44 h45 h46 => sN (sq ?_))))
 clear h33 h35 h37 h39
 rcases ite_some h with ⟨hb47, h⟩ | ⟨hb47, h⟩
 ·obtain ⟨x55, hx56, h⟩ := bind_some h
  obtain ⟨x57, hx58, h⟩ := bind_some h
  refine cT h46 hb47 (xx (sN (sq (bl (sq (Rg (kx (mvO h45) (kx (mvO rfl) (Rn (hA h42 (hA h43 (hN rfl (hA h44 (hA h45 hZ))))) fun e48 h50 h51 h52 h53 h54 => sN (sq (Rd (kf (mvO h50) (kf (mvO h52) (kf (ixS rfl rfl hx56 Tally.fl) (kf (ldPA rfl rfl rfl) (kf (mvO h51) (kf (mvO h52) (kf (ixS rfl rfl hx58 Tally.fl) (kf (ldPA rfl rfl rfl) (kf (gNeq rfl rfl (by kernel_rfl) rfl) (fZ (Rn (hA h50 (hA h51 (hA h53 (hA h54 (hN rfl hZ))))) fun e59 h61 h62 h63 h64 h65 => sN ?_))))))))))))))))))))))
  clear h42 h43 h44 h45 h46 h50 h51 h52 h53 h54
  rcases ite_some h with ⟨hb66, h⟩ | ⟨hb66, h⟩
  ·refine cF h65 (congrArg Bool.not hb66) (xx (bN (sN (Rg (kx (bAdd h64 rfl) (kx (mvO rfl) (Rn (hA h61 (hA h62 (hA h63 (hN rfl hZ)))) fun e67 h69 h70 h71 h72 => ?_)))))))
   clear h61 h62 h63 h65
   obtain rfl := si h
   exact qN ⟨h69, h70, h71, h72⟩
  refine cT h65 (congrArg Bool.not hb66) (sq (Rg (kx (mvO rfl) (Rn (hV (.bool false) rfl hZ) fun e73 h75 => sN (xx (bR (sR ?_)))))))
  clear h61 h62 h63 h64 h65
  obtain rfl := si h
  exact qR ⟨rfl, h75⟩
 refine cF h46 hb47 (xx (sE ?_))
 obtain rfl := si h
 exact qE ⟨rfl, trivial⟩
noncomputable def slices_Equal_Tally (a1 : List Tally) (a2 : List Tally) : Option Bool :=
 if ((a1.length : Int) != (a2.length : Int)) = true then
  some false
 else
  (Lw (slices_Equal_Tally_b1 a1 a2) 0).bind fun r => match r with
  | (.inl _) =>
   some false
  | (.inr _) =>
   some true
def slices_Equal_Tally_enc (r : Bool) : AV := .bool r
theorem slices_Equal_Tally_ok (a1 : List Tally) (a2 : List Tally) (r : Bool) (h : slices_Equal_Tally a1 a2 = some r) : Ev (fun k => CN k 73 [.sl none (a1.map Tally.c), .sl none (a2.map Tally.c)] []) (fun p => rRes p.2 p.1 = slices_Equal_Tally_enc r) := by
 unfold slices_Equal_Tally at h
 refine Ev.enter (F := fun k => f73 (CN k) k) (fun k => callN_eq rfl Try.func73 rfl rfl rfl (by decide +kernel) (f73_eq _ _)) (sq (Rg (kx (mvO rfl) (Rn (hN rfl (hN rfl hZ)) fun e1 h3 h4 => sN (sq (sq (Rg (kx (mvO h3) (kx (lnS Try.underlying25 rfl) (kx (mvO h4) (kx (lnS Try.underlying25 rfl) (kx (bNeq rfl rfl) (Rn (hA h3 (hA h4 (hN rfl hZ))) fun e5 h7 h8 h9 => sN ?_)))))))))))))
 clear h3 h4
 rcases ite_some h with ⟨hb10, h⟩ | ⟨hb10, h⟩
 ·refine cT h9 hb10 (sq (Rg (kx (mvO rfl) (Rn (hV (.bool false) rfl hZ) fun e11 h13 => sN (xx (sR ?_))))))
  clear h7 h8 h9
  obtain rfl := si h
  exact eR (resT h13 res0) rfl
 obtain ⟨r76, hr77, h⟩ := bind_some h
 refine cF h9 hb10 (xx (sN (sq (sq (Rg (kx (mvO h7) (kx (lnS Try.underlying25 rfl) (kx (mvO rfl) (Rn (hA h7 (hA h8 (hN rfl (hV (.int .i64 0) rfl hZ)))) fun e14 h16 h17 h18 h19 => sN (bl ?_))))))))))
 clear h7 h8 h9
 rcases r76 with _ | _
 ·refine Ev.loop (RS := slices_Equal_Tally_b1_RS a1 a2) (RR := slices_Equal_Tally_b1_RR a1 a2) (fun s r h e M hs => slices_Equal_Tally_b1_ok a1 a2 s r h e M hs) hr77 ⟨h16, h17, h18, h19⟩ fun x e79 M80 hq78 => ?_
  obtain ⟨rfl, h81⟩ := hq78
  refine bR (sR ?_)
  obtain rfl := si h
  exact eR (resT h81 res0) rfl
 refine Ev.loop (RS := slices_Equal_Tally_b1_RS a1 a2) (RR := slices_Equal_Tally_b1_RR a1 a2) (fun s r h e M hs => slices_Equal_Tally_b1_ok a1 a2 s r h e M hs) hr77 ⟨h16, h17, h18, h19⟩ fun x e82 M83 hq78 => ?_
 obtain ⟨rfl, _⟩ := hq78
 refine bE (sN (sq (Rg (kx (mvO rfl) (Rn (hV (.bool true) rfl hZ) fun e84 h86 => sN (xx ?_))))))
 obtain rfl := si h
 exact eR (resT h86 res0) rfl
abbrev slices_Equal_int64_b1_S := Int
abbrev slices_Equal_int64_b1_R := Unit ⊕ Unit
def slices_Equal_int64_b1_RS (a1 : List Int) (a2 : List Int) (s : slices_Equal_int64_b1_S) (e : Env) (M : Mem) : Prop := eget e 0 = .sl none (a1.map (cI .i64)) ∧ eget e 1 = .sl none (a2.map (cI .i64)) ∧ eget e 12 = .int .i64 (a1.length : Int) ∧ eget e 13 = .int .i64 s
def slices_Equal_int64_b1_RR (a1 : List Int) (a2 : List Int) (r : slices_Equal_int64_b1_R) (x : Ex) (e : Env) (M : Mem) : Prop :=
  match r with
  | (.inl g) => x = .ret ∧ eget e 4 = .bool false
  | (.inr g) => x = .ext 0 ∧ True
noncomputable def slices_Equal_int64_b1 (a1 : List Int) (a2 : List Int) : slices_Equal_int64_b1_S → Option (slices_Equal_int64_b1_S ⊕ slices_Equal_int64_b1_R) := fun s1_1 =>
 if (decide (s1_1 < (a1.length : Int))) = true then
  (rd a1 s1_1).bind fun x55 =>
  (rd a2 s1_1).bind fun x57 =>
  if (x55 != x57) = true then
   some (.inr (.inl ()))
  else
   some (.inl (IntKind.i64.wrap (s1_1 + 1)))
 else
  some (.inr (.inr ()))
theorem slices_Equal_int64_b1_ok (a1 : List Int) (a2 : List Int) (s : slices_Equal_int64_b1_S) (r : slices_Equal_int64_b1_S ⊕ slices_Equal_int64_b1_R) (h : slices_Equal_int64_b1 a1 a2 s = some r) (e : Env) (M : Mem) (hs : slices_Equal_int64_b1_RS a1 a2 s e M) : Ev (fun k => (f72_l4 (CN k) k (prune [0, 1, 12, 13] e) M).bind fun q => some q) (bQ (slices_Equal_int64_b1_RS a1 a2) (slices_Equal_int64_b1_RR a1 a2) r) := by
 revert h hs
 revert s
 intro s1_1 h hs
 unfold slices_Equal_int64_b1 at h
 obtain ⟨h32, h34, h36, h38⟩ := hs
 generalize he31 : prune [0, 1, 12, 13] e = e30
 have h33 := envp he31.symm rfl h32
 have h35 := envp he31.symm rfl h34
 have h37 := envp he31.symm rfl h36
 have h39 := envp he31.symm rfl h38
 refine sq (Rg (kx (bLss h39 h37) (Rn (hV (.sl none (a1.map (cI .i64))) h33 (hV (.sl none (a2.map (cI .i64))) h35 (hV (.int .i64 (a1.length : Int)) h37 (hV (.int .i64 s1_1) h39 (hN rfl hZ))))) fun e40 h42 h43 h44 h45 h46 => sN (sq ?_))))
 clear h33 h35 h37 h39
 rcases ite_some h with ⟨hb47, h⟩ | ⟨hb47, h⟩
 ·obtain ⟨x55, hx56, h⟩ := bind_some h
  obtain ⟨x57, hx58, h⟩ := bind_some h
  refine cT h46 hb47 (xx (sN (sq (bl (sq (Rg (kx (mvO h45) (kx (mvO rfl) (Rn (hA h42 (hA h43 (hN rfl (hA h44 (hA h45 hZ))))) fun e48 h50 h51 h52 h53 h54 => sN (sq (Rd (kf (mvO h50) (kf (mvO h52) (kf (ixS rfl rfl hx56 (cI_fl _)) (kf (ldP rfl rfl) (kf (mvO h51) (kf (mvO h52) (kf (ixS rfl rfl hx58 (cI_fl _)) (kf (ldP rfl rfl) (kf (bNeq rfl rfl) (fZ (Rn (hA h50 (hA h51 (hA h53 (hA h54 (hN rfl hZ))))) fun e59 h61 h62 h63 h64 h65 => sN ?_))))))))))))))))))))))
  clear h42 h43 h44 h45 h46 h50 h51 h52 h53 h54
  rcases ite_some h with ⟨hb66, h⟩ | ⟨hb66, h⟩
  ·refine cT h65 hb66 (sq (Rg (kx (mvO rfl) (Rn (hV (.bool false) rfl hZ) fun e67 h69 => sN (xx (bR (sR ?_)))))))
   clear h61 h62 h63 h64 h65
   obtain rfl := si h
   exact qR ⟨rfl, h69⟩
  refine cF h65 hb66 (xx (bN (sN (Rg (kx (bAdd h64 rfl) (kx (mvO rfl) (Rn (hA h61 (hA h62 (hA h63 (hN rfl hZ)))) fun e70 h72 h73 h74 h75 => ?_)))))))
  clear h61 h62 h63 h65
  obtain rfl := si h
  exact qN ⟨h72, h73, h74, h75⟩
 refine cF h46 hb47 (xx (sE ?_))
 obtain rfl := si h
 exact qE ⟨rfl, trivial⟩
noncomputable def slices_Equal_int64 (a1 : List Int) (a2 : List Int) : Option Bool :=
 if ((a1.length : Int) != (a2.length : Int)) = true then
  some false
 else
  (Lw (slices_Equal_int64_b1 a1 a2) 0).bind fun r => match r with
  | (.inl _) =>
   some false
  | (.inr _) =>
   some true
def slices_Equal_int64_enc (r : Bool) : AV := .bool r
theorem slices_Equal_int64_ok (a1 : List Int) (a2 : List Int) (r : Bool) (h : slices_Equal_int64 a1 a2 = some r) : Ev (fun k => CN k 72 [.sl none (a1.map (cI .i64)), .sl none (a2.map (cI .i64))] []) (fun p => rRes p.2 p.1 = slices_Equal_int64_enc r) := by
 unfold slices_Equal_int64 at h
 refine Ev.enter (F := fun k => f72 (CN k) k) (fun k => callN_eq rfl Try.func72 rfl rfl rfl (by decide +kernel) (f72_eq _ _)) (sq (Rg (kx (mvO rfl) (Rn (hN rfl (hN rfl hZ)) fun e1 h3 h4 => sN (sq (sq (Rg (kx (mvO h3) (kx (lnS Try.underlying24 rfl) (kx (mvO h4) (kx (lnS Try.underlying24 rfl) (kx (bNeq rfl rfl) (Rn (hA h3 (hA h4 (hN rfl hZ))) fun e5 h7 h8 h9 => sN ?_)))))))))))))
 clear h3 h4
 rcases ite_some h with ⟨hb10, h⟩ | ⟨hb10, h⟩
 ·refine cT h9 hb10 (sq (Rg (kx (mvO rfl) (Rn (hV (.bool false) rfl hZ) fun e11 h13 => sN (xx (sR ?_))))))
  clear h7 h8 h9
  obtain rfl := si h
  exact eR (resT h13 res0) rfl
 obtain ⟨r76, hr77, h⟩ := bind_some h
 refine cF h9 hb10 (xx (sN (sq (sq (Rg (kx (mvO h7) (kx (lnS Try.underlying24 rfl) (kx (mvO rfl) (Rn (hA h7 (hA h8 (hN rfl (hV (.int .i64 0) rfl hZ)))) fun e14 h16 h17 h18 h19 => sN (bl ?_))))))))))
 clear h7 h8 h9
 rcases r76 with _ | _
 ·refine Ev.loop (RS := slices_Equal_int64_b1_RS a1 a2) (RR := slices_Equal_int64_b1_RR a1 a2) (fun s r h e M hs => slices_Equal_int64_b1_ok a1 a2 s r h e M hs) hr77 ⟨h16, h17, h18, h19⟩ fun x e79 M80 hq78 => ?_
  obtain ⟨rfl, h81⟩ := hq78
  refine bR (sR ?_)
  obtain rfl := si h
  exact eR (resT h81 res0) rfl
 refine Ev.loop (RS := slices_Equal_int64_b1_RS a1 a2) (RR := slices_Equal_int64_b1_RR a1 a2) (fun s r h e M hs => slices_Equal_int64_b1_ok a1 a2 s r h e M hs) hr77 ⟨h16, h17, h18, h19⟩ fun x e82 M83 hq78 => ?_
 obtain ⟨rfl, _⟩ := hq78
 refine bE (sN (sq (Rg (kx (mvO rfl) (Rn (hV (.bool true) rfl hZ) fun e84 h86 => sN (xx ?_))))))
 obtain rfl := si h
 exact eR (resT h86 res0) rfl
abbrev impl_books_b1_S := Int × Int × (List Int) × (List Tally) × (List Book)
abbrev impl_books_b1_R := (Int × (List Book)) ⊕ (Int × (List Int) × (List Tally) × (List Book))
def impl_books_b1_RS (a2 : List Deal) (i1_1 : Nat) (i1_2 : Nat) (s : impl_books_b1_S) (e : Env) (M : Mem) : Prop := eget e 2 = .loc i1_1 1 0 0 ∧ eget e 6 = .lsl i1_2 s.2.2.2.2.length 0 s.2.2.2.2.length ∧ eget e 12 = .sl none (a2.map Deal.c) ∧ eget e 13 = .int .i64 (a2.length : Int) ∧ eget e 14 = .int .i64 s.1 ∧ M[i1_1]? = some (.live ⟨.box, 27, 3, [[.int .i64 s.2.1, .sl none (s.2.2.1.map (cI .i64)), .sl none (s.2.2.2.1.map Tally.c)]]⟩) ∧ M[i1_2]? = some (.live ⟨.grow, 27, 3, s.2.2.2.2.map Book.c⟩)
def impl_books_b1_RR (a2 : List Deal) (i1_1 : Nat) (i1_2 : Nat) (r : impl_books_b1_R) (x : Ex) (e : Env) (M : Mem) : Prop :=
  match r with
  | (.inl g) => x = .ret ∧ eget e 4 = .lsl i1_2 g.2.length 0 g.2.length ∧ eget e 5 = .int .i64 g.1 ∧ M[i1_2]? = some (.live ⟨.grow, 27, 3, g.2.map Book.c⟩)
  | (.inr g) => x = .ext 0 ∧ eget e 6 = .lsl i1_2 g.2.2.2.length 0 g.2.2.2.length ∧ M[i1_1]? = some (.live ⟨.box, 27, 3, [[.int .i64 g.1, .sl none (g.2.1.map (cI .i64)), .sl none (g.2.2.1.map Tally.c)]]⟩) ∧ M[i1_2]? = some (.live ⟨.grow, 27, 3, g.2.2.2.map Book.c⟩)
noncomputable def impl_books_b1 (a2 : List Deal) : impl_books_b1_S → Option (impl_books_b1_S ⊕ impl_books_b1_R) := fun (s1_1, s1_2, s1_3, s1_4, s1_5) =>
 if (decide (s1_1 < (a2.length : Int))) = true then
  (rd a2 s1_1).bind fun x64 =>
  (impl_do (Book.mk s1_2 s1_3 s1_4) x64).bind fun r => match r with
  | (.inl r88) =>
   if (r88 != 0) = true then
    some (.inr (.inl (r88, s1_5)))
   else
    none
  | (.inr (r141, r142, r143)) =>
   (app 56 s1_5 [(Book.mk r141 r142 r143)]).bind fun x191 =>
   some (.inl ((IntKind.i64.wrap (s1_1 + 1)), r141, r142, r143, x191))
 else
  some (.inr (.inr (s1_2, s1_3, s1_4, s1_5)))
theorem impl_books_b1_ok (a2 : List Deal) (i1_1 : Nat) (i1_2 : Nat) (ne13 : i1_1 ≠ i1_2) (s : impl_books_b1_S) (r : impl_books_b1_S ⊕ impl_books_b1_R) (h : impl_books_b1 a2 s = some r) (e : Env) (M : Mem) (hs : impl_books_b1_RS a2 i1_1 i1_2 s e M) : Ev (fun k => (f71_l3 (CN k) k (prune [2, 6, 12, 13, 14] e) M).bind fun q => some q) (bQ (impl_books_b1_RS a2 i1_1 i1_2) (impl_books_b1_RR a2 i1_1 i1_2) r) := by
 obtain ⟨s1_1, s1_2, s1_3, s1_4, s1_5⟩ := s
 unfold impl_books_b1 at h
 obtain ⟨h43, h45, h47, h49, h51, o53, o54⟩ := hs
 generalize he42 : prune [2, 6, 12, 13, 14] e = e41
 have h44 := envp he42.symm rfl h43
 have h46 := envp he42.symm rfl h45
 have h48 := envp he42.symm rfl h47
 have h50 := envp he42.symm rfl h49
 have h52 := envp he42.symm rfl h51
 refine sq (Rg (kx (bLss h52 h50) (Rn (hV (.loc i1_1 1 0 0) h44 (hV (.lsl i1_2 s1_5.length 0 s1_5.length) h46 (hV (.sl none (a2.map Deal.c)) h48 (hV (.int .i64 (a2.length : Int)) h50 (hV (.int .i64 s1_1) h52 (hN rfl hZ)))))) fun e55 h57 h58 h59 h60 h61 h62 => sN (sq ?_))))
 clear h44 h46 h48 h50 h52
 rcases ite_some h with ⟨hb63, h⟩ | ⟨hb63, h⟩
 ·obtain ⟨x64, hx65, h⟩ := bind_some h
  refine cT h62 hb63 (xx (sN (sq (bl (sq (Rg (kx (ixS h59 h61 hx65 Deal.fl) (kx (ldPA rfl rfl rfl) (ku (alO zero36) fun M67 hM68 => ?_)))))))))
  have o69 := push_old hM68 o53
  have ne70 := ne_new o53
  have o71 := push_old hM68 o54
  have ne72 := ne_new o54
  have o73 : M67[M.length]? = some (.live ⟨.box, 36, 6, [[.int .i64 0, .int .i8 0, .int .i64 0, .int .i64 0, .int .i64 0, .int .i64 0]]⟩) := push_new hM68
  refine kw (stO rfl rfl o73 rfl rfl ⟨rfl, ble rfl⟩ rfl rfl) fun M74 hM75 => ?_
  have o76 := set_ne hM75 ne70 o69
  have o77 := set_ne hM75 ne72 o71
  have o78 : M74[M.length]? = some (.live ⟨.box, 36, 6, [[.int .i64 x64.Day, .int .i8 x64.Kind, .int .i64 x64.Tally, .int .i64 x64.From, .int .i64 x64.To, .int .i64 x64.Amount]]⟩) := set_same hM75 o73
  obtain ⟨q211, hx87, h⟩ := bind_some h
  refine Rn (hA h57 (hA h58 (hV (.loc M.length 1 0 0) rfl (hA h59 (hA h60 (hA h61 hZ)))))) fun e79 h81 h82 h83 h84 h85 h86 => sN (sq (Rg (kx (ldOA h81 o76 rfl rfl (ble rfl) rfl) (kx (ldOA h83 o78 rfl rfl (ble rfl) rfl) ?_))))
  clear h57 h58 h59 h60 h61 h62
  rcases q211 with r88 | ⟨r141, r142, r143⟩
  ·refine kc (cl (v := .tup [.agg [.int .i64 0, .nils, .nils], .int .i64 r88]) rfl rfl (cns rfl (cns rfl rfl)) rfl (impl_do_ok (Book.mk s1_2 s1_3 s1_4) x64 _ hx87) nm) (kx (mvO rfl) (kx (exT rfl rfl) (kx (exT rfl rfl) (ku (alO zero27) fun M90 hM91 => ?_))))
   have o92 := push_old hM91 o76
   have ne93 := ne_new o76
   have o94 := push_old hM91 o77
   have ne95 := ne_new o77
   have o96 := push_old hM91 o78
   have ne97 := ne_new o78
   have o98 : M90[M74.length]? = some (.live ⟨.box, 27, 3, [[.int .i64 0, .nils, .nils]]⟩) := push_new hM91
   refine kw (stO rfl rfl o98 rfl rfl ⟨rfl, ble rfl⟩ rfl rfl) fun M99 hM100 => ?_
   have o101 := set_ne hM100 ne93 o92
   have o102 := set_ne hM100 ne95 o94
   have o103 := set_ne hM100 ne97 o96
   have o104 : M99[M74.length]? = some (.live ⟨.box, 27, 3, [[.int .i64 0, .nils, .nils]]⟩) := set_same hM100 o98
   refine kx (mvO rfl) (Rn (hA h81 (hA h82 (hV (.loc M74.length 1 0 0) rfl (hN rfl (hA h84 (hA h85 (hA h86 hZ))))))) fun e105 h107 h108 h109 h110 h111 h112 h113 => sN (sq (sq (Rg (kx (mvO h110) (kx (bNeq rfl rfl) (Rn (hA h107 (hA h108 (hA h109 (hA h110 (hA h111 (hA h112 (hA h113 (hN rfl hZ)))))))) fun e114 h116 h117 h118 h119 h120 h121 h122 h123 => sN ?_)))))))
   clear h81 h82 h83 h84 h85 h86 h107 h108 h109 h110 h111 h112 h113
   rcases ite_some h with ⟨hb124, h⟩ | ⟨hb124, h⟩
   ·refine cT h123 hb124 (sq (Rg (kx (mvO h117) (kx (mvO h119) (kx (mvO rfl) (kx (mvO rfl) (Rn (hV (.lsl i1_2 s1_5.length 0 s1_5.length) rfl (hN rfl hZ)) fun e125 h127 h128 => sN (xx (sR (bR (sR ?_)))))))))))
    clear h116 h117 h118 h119 h120 h121 h122 h123
    obtain rfl := si h
    exact qR ⟨rfl, h127, h128, o102⟩
   refine cF h123 hb124 (xx (sN (sq (Rg (kx (ldOA h118 o104 rfl rfl (ble rfl) rfl) (kw (stO h116 rfl o101 rfl rfl ⟨rfl, ble rfl⟩ rfl rfl) fun M129 hM130 => ?_))))))
   have o131 : M129[i1_1]? = some (.live ⟨.box, 27, 3, [[.int .i64 0, .nils, .nils]]⟩) := set_same hM130 o101
   have o132 := set_ne hM130 (Ne.symm ne13) o102
   have o133 := set_ne hM130 (Ne.symm ne93) o104
   refine Rn (hA h116 (hA h117 (hA h120 (hA h121 (hA h122 hZ))))) fun e134 h136 h137 h138 h139 h140 => sN (Rg (kx (mvO h137) (kx (ldOA h136 o131 rfl rfl (ble rfl) rfl) ?_)))
   clear h116 h117 h118 h119 h120 h121 h122 h123
   cases h
  refine kc (cl (v := .tup [.agg [.int .i64 r141, .sl (some 2) (r142.map (cI .i64)), .sl (some 49) (r143.map Tally.c)], .int .i64 0]) rfl rfl (cns rfl (cns rfl rfl)) rfl (impl_do_ok (Book.mk s1_2 s1_3 s1_4) x64 _ hx87) nm) (kx (mvO rfl) (kx (exT rfl rfl) (kx (exT rfl rfl) (ku (alO zero27) fun M145 hM146 => ?_))))
  have o147 := push_old hM146 o76
  have ne148 := ne_new o76
  have o149 := push_old hM146 o77
  have ne150 := ne_new o77
  have o151 := push_old hM146 o78
  have ne152 := ne_new o78
  have o153 : M145[M74.length]? = some (.live ⟨.box, 27, 3, [[.int .i64 0, .nils, .nils]]⟩) := push_new hM146
  refine kw (stO rfl rfl o153 rfl rfl ⟨rfl, ble rfl⟩ rfl rfl) fun M154 hM155 => ?_
  have o156 := set_ne hM155 ne148 o147
  have o157 := set_ne hM155 ne150 o149
  have o158 := set_ne hM155 ne152 o151
  have o159 : M154[M74.length]? = some (.live ⟨.box, 27, 3, [[.int .i64 r141, .sl none (r142.map (cI .i64)), .sl none (r143.map Tally.c)]]⟩) := set_same hM155 o153
  refine kx (mvO rfl) (Rn (hA h81 (hA h82 (hV (.loc M74.length 1 0 0) rfl (hV (.int .i64 0) rfl (hA h84 (hA h85 (hA h86 hZ))))))) fun e160 h162 h163 h164 h165 h166 h167 h168 => sN (sq (sq (Rg (kx (mvO h165) (kx (bNeq rfl rfl) (Rn (hA h162 (hA h163 (hA h164 (hA h165 (hA h166 (hA h167 (hA h168 (hV (.bool false) rfl hZ)))))))) fun e169 h171 h172 h173 h174 h175 h176 h177 h178 => sN (cF h178 rfl (xx (sN (sq (Rg (kx (ldOA h173 o159 rfl rfl (ble rfl) rfl) (kw (stO h171 rfl o156 rfl rfl ⟨rfl, ble rfl⟩ rfl rfl) fun M179 hM180 => ?_))))))))))))))
  clear h81 h82 h83 h84 h85 h86 h162 h163 h164 h165 h166 h167 h168
  have o181 : M179[i1_1]? = some (.live ⟨.box, 27, 3, [[.int .i64 r141, .sl none (r142.map (cI .i64)), .sl none (r143.map Tally.c)]]⟩) := set_same hM180 o156
  have o182 := set_ne hM180 (Ne.symm ne13) o157
  have o183 := set_ne hM180 (Ne.symm ne148) o159
  obtain ⟨x191, hx192, h⟩ := bind_some h
  refine Rn (hA h171 (hA h172 (hA h175 (hA h176 (hA h177 hZ))))) fun e184 h186 h187 h188 h189 h190 => sN (Rg (kx (mvO h187) (kx (ldOA h186 o181 rfl rfl (ble rfl) rfl) (kx (litI (cns rfl rfl) rfl ⟨rfl, by decide⟩) (kw (apO rfl o182 rfl (elT (c := Book.c) (xs := [(Book.mk r141 r142 r143)]) rfl) hx192 Book.fl (by decide)) fun M193 hM194 => ?_)))))
  clear h171 h172 h173 h174 h175 h176 h177 h178
  have o195 := set_ne hM194 ne13 o181
  have o196 : M193[i1_2]? = some (.live ⟨.grow, 27, 3, x191.map Book.c⟩) := set_same hM194 o182
  refine kx (mvO rfl) (Rn (hA h186 (hV (.lsl i1_2 x191.length 0 x191.length) rfl (hA h188 (hA h189 (hA h190 hZ))))) fun e197 h199 h200 h201 h202 h203 => bN (sN (Rg (kx (bAdd h203 rfl) (kx (mvO rfl) (Rn (hA h199 (hA h200 (hA h201 (hA h202 (hN rfl hZ))))) fun e204 h206 h207 h208 h209 h210 => ?_))))))
  clear h186 h188 h189 h190 h199 h200 h201 h202
  obtain rfl := si h
  exact qN ⟨h206, h207, h208, h209, h210, o195, o196⟩
 refine cF h62 hb63 (xx (sE ?_))
 obtain rfl := si h
 exact qE ⟨rfl, h58, o53, o54⟩
noncomputable def impl_books (a1 : Book) (a2 : List Deal) : Option ((List Book) × Int) :=
 (Lw (impl_books_b1 a2) (0, a1.Day, a1.Cash, a1.Tallies, ([] : List Book))).bind fun r => match r with
 | (.inl (y217, y218)) =>
  some (y218, y217)
 | (.inr (y224, y225, y226, y227)) =>
  some (y227, 0)
def impl_books_enc (r : (List Book) × Int) : AV := .tup [.sl (some 27) (r.1.map Book.c), .int .i64 r.2]
theorem impl_books_ok (a1 : Book) (a2 : List Deal) (r : (List Book) × Int) (h : impl_books a1 a2 = some r) : Ev (fun k => CN k 71 [.agg [.int .i64 a1.Day, .sl none (a1.Cash.map (cI .i64)), .sl none (a1.Tallies.map Tally.c)], .sl none (a2.map Deal.c)] []) (fun p => rRes p.2 p.1 = impl_books_enc r) := by
 unfold impl_books at h
 refine Ev.enter (F := fun k => f71 (CN k) k) (fun k => callN_eq rfl Try.func71 rfl rfl rfl (by decide +kernel) (f71_eq _ _)) (sq (Rg (ku (bxO rfl rfl ⟨rfl, rfl, by decide⟩) fun M2 hM3 => ?_)))
 have o4 : M2[([] : Mem).length]? = some (.live ⟨.box, 27, 3, [[.int .i64 a1.Day, .sl none (a1.Cash.map (cI .i64)), .sl none (a1.Tallies.map Tally.c)]]⟩) := push_new hM3
 refine kx (mvO rfl) (kx (mvO rfl) (Rn (hN rfl (hV (.loc ([] : Mem).length 1 0 0) rfl hZ)) fun e5 h7 h8 => sN (sq (Rg (ku (litO (xs := ([] : List Book)) (c := Book.c) rfl rfl (by decide)) fun M10 hM11 => ?_)))))
 have o12 := push_old hM11 o4
 have ne13 := ne_new o4
 have o14 : M10[M2.length]? = some (.live ⟨.grow, 27, 3, ([] : List Book).map Book.c⟩) := push_new hM11
 obtain ⟨r212, hr213, h⟩ := bind_some h
 refine kx (mvO rfl) (Rn (hA h7 (hA h8 (hV (.lsl M2.length ([] : List Book).length 0 ([] : List Book).length) rfl hZ))) fun e15 h17 h18 h19 => sN (sq (sq (Rg (kx (mvO h17) (kx (lnS Try.underlying28 rfl) (kx (mvO rfl) (Rn (hA h18 (hA h19 (hN rfl (hN rfl (hV (.int .i64 0) rfl hZ))))) fun e20 h22 h23 h24 h25 h26 => sN (bl ?_)))))))))
 clear h7 h8 h17 h18 h19
 rcases r212 with ⟨y217, y218⟩ | ⟨y224, y225, y226, y227⟩
 ·refine Ev.loop (RS := impl_books_b1_RS a2 (([] : Mem).length) M2.length) (RR := impl_books_b1_RR a2 (([] : Mem).length) M2.length) (fun s r h e M hs => impl_books_b1_ok a2 (([] : Mem).length) M2.length ne13 s r h e M hs) hr213 ⟨h22, h23, h24, h25, h26, o12, o14⟩ fun x e215 M216 hq214 => ?_
  obtain ⟨rfl, h219, h220, o221⟩ := hq214
  refine bR (sR ?_)
  obtain rfl := si h
  exact eR (resT h219 (resT h220 res0)) (rr_tup (mp1 (rr_row o221 rfl Book.fl) (mp1 rfl mp0)))
 refine Ev.loop (RS := impl_books_b1_RS a2 (([] : Mem).length) M2.length) (RR := impl_books_b1_RR a2 (([] : Mem).length) M2.length) (fun s r h e M hs => impl_books_b1_ok a2 (([] : Mem).length) M2.length ne13 s r h e M hs) hr213 ⟨h22, h23, h24, h25, h26, o12, o14⟩ fun x e222 M223 hq214 => ?_
 obtain ⟨rfl, h228, o229, o230⟩ := hq214
 refine bE (sN (sq (Rg (kx (mvO h228) (kx (mvO rfl) (kx (mvO rfl) (Rn (hV (.lsl M2.length y227.length 0 y227.length) rfl (hV (.int .i64 0) rfl hZ)) fun e231 h233 h234 => sN (xx ?_))))))))
 clear h228
 obtain rfl := si h
 exact eR (resT h233 (resT h234 res0)) (rr_tup (mp1 (rr_row o230 rfl Book.fl) (mp1 rfl mp0)))
abbrev spec_l07All_b1_S := Int × Int × (List Int) × (List Tally) × (List Book)
abbrev spec_l07All_b1_R := (Int × Int) ⊕ (Int × (List Int) × (List Tally) × (List Book))
def spec_l07All_b1_RS (a2 : List Deal) (i1_1 : Nat) (i1_2 : Nat) (s : spec_l07All_b1_S) (e : Env) (M : Mem) : Prop := eget e 1 = .sl none (a2.map Deal.c) ∧ eget e 7 = .lsl i1_1 s.2.2.2.2.length 0 s.2.2.2.2.length ∧ eget e 8 = .loc i1_2 1 0 0 ∧ eget e 9 = .int .i64 s.1 ∧ M[i1_2]? = some (.live ⟨.box, 27, 3, [[.int .i64 s.2.1, .sl none (s.2.2.1.map (cI .i64)), .sl none (s.2.2.2.1.map Tally.c)]]⟩) ∧ M[i1_1]? = some (.live ⟨.grow, 27, 3, s.2.2.2.2.map Book.c⟩)
def spec_l07All_b1_RR (a2 : List Deal) (i1_1 : Nat) (i1_2 : Nat) (r : spec_l07All_b1_R) (x : Ex) (e : Env) (M : Mem) : Prop :=
  match r with
  | (.inl g) => x = .ret ∧ eget e 4 = .lit 27 (([] : List Book).map Book.c) ∧ eget e 5 = .int .i64 g.1 ∧ eget e 6 = .int .i64 g.2
  | (.inr g) => x = .ext 0 ∧ eget e 7 = .lsl i1_1 g.2.2.2.length 0 g.2.2.2.length ∧ M[i1_2]? = some (.live ⟨.box, 27, 3, [[.int .i64 g.1, .sl none (g.2.1.map (cI .i64)), .sl none (g.2.2.1.map Tally.c)]]⟩) ∧ M[i1_1]? = some (.live ⟨.grow, 27, 3, g.2.2.2.map Book.c⟩)
noncomputable def spec_l07All_b1 (a2 : List Deal) : spec_l07All_b1_S → Option (spec_l07All_b1_S ⊕ spec_l07All_b1_R) := fun (s1_1, s1_2, s1_3, s1_4, s1_5) =>
 if (decide (s1_1 < (a2.length : Int))) = true then
  (rd a2 s1_1).bind fun x71 =>
  (spec_l07Do (Book.mk s1_2 s1_3 s1_4) x71).bind fun r => match r with
  | (.inl r74) =>
   if (r74 != 0) = true then
    some (.inr (.inl (r74, s1_1)))
   else
    none
  | (.inr (r122, r123, r124)) =>
   (app 56 s1_5 [(Book.mk r122 r123 r124)]).bind fun x166 =>
   some (.inl ((IntKind.i64.wrap (s1_1 + 1)), r122, r123, r124, x166))
 else
  some (.inr (.inr (s1_2, s1_3, s1_4, s1_5)))
theorem spec_l07All_b1_ok (a2 : List Deal) (i1_1 : Nat) (i1_2 : Nat) (ne22 : i1_1 ≠ i1_2) (s : spec_l07All_b1_S) (r : spec_l07All_b1_S ⊕ spec_l07All_b1_R) (h : spec_l07All_b1 a2 s = some r) (e : Env) (M : Mem) (hs : spec_l07All_b1_RS a2 i1_1 i1_2 s e M) : Ev (fun k => (f64_l4 (CN k) k (prune [1, 7, 8, 9] e) M).bind fun q => some q) (bQ (spec_l07All_b1_RS a2 i1_1 i1_2) (spec_l07All_b1_RR a2 i1_1 i1_2) r) := by
 obtain ⟨s1_1, s1_2, s1_3, s1_4, s1_5⟩ := s
 unfold spec_l07All_b1 at h
 obtain ⟨h53, h55, h57, h59, o62, o61⟩ := hs
 generalize he52 : prune [1, 7, 8, 9] e = e51
 have h54 := envp he52.symm rfl h53
 have h56 := envp he52.symm rfl h55
 have h58 := envp he52.symm rfl h57
 have h60 := envp he52.symm rfl h59
 refine sq (sq (Rg (kx (mvO h60) (kx (mvO h54) (kx (lnS Try.underlying28 rfl) (kx (bLss rfl rfl) (Rn (hV (.sl none (a2.map Deal.c)) h54 (hV (.lsl i1_1 s1_5.length 0 s1_5.length) h56 (hV (.loc i1_2 1 0 0) h58 (hV (.int .i64 s1_1) h60 (hN rfl hZ))))) fun e63 h65 h66 h67 h68 h69 => sN ?_)))))))
 clear h54 h56 h58 h60
 rcases ite_some h with ⟨hb70, h⟩ | ⟨hb70, h⟩
 ·obtain ⟨x71, hx72, h⟩ := bind_some h
  obtain ⟨q184, hx73, h⟩ := bind_some h
  refine cT h69 hb70 (xx (sN (sq (bl (sq (Rg (kx (mvO h65) (kx (mvO h68) (kx (ixS rfl rfl hx72 Deal.fl) ?_)))))))))
  rcases q184 with r74 | ⟨r122, r123, r124⟩
  ·refine kc (cl (v := .tup [.agg [.int .i64 0, .nils, .nils], .int .i64 r74]) rfl rfl (cns h67 (cns rfl rfl)) (ra1 (ra1_loc o62 rfl rfl rfl ⟨rfl, blt rfl⟩) (ra1 rfl ra0)) (spec_l07Do_ok (Book.mk s1_2 s1_3 s1_4) x71 _ hx73) (fun _ => (own_tup (oa1 (own2_agg (oa1 rfl (oa1 rfl (oa1 rfl oa0)))) (oa1 rfl oa0))))) (kx (mvO rfl) (kx (exT rfl rfl) (kx (exT rfl rfl) (ku (alO zero27) fun M76 hM77 => ?_))))
   have o78 := push_old hM77 o61
   have ne79 := ne_new o61
   have o80 := push_old hM77 o62
   have ne81 := ne_new o62
   have o82 : M76[M.length]? = some (.live ⟨.box, 27, 3, [[.int .i64 0, .nils, .nils]]⟩) := push_new hM77
   refine kw (stO rfl rfl o82 rfl rfl ⟨rfl, ble rfl⟩ rfl rfl) fun M83 hM84 => ?_
   have o85 := set_ne hM84 ne79 o78
   have o86 := set_ne hM84 ne81 o80
   have o87 : M83[M.length]? = some (.live ⟨.box, 27, 3, [[.int .i64 0, .nils, .nils]]⟩) := set_same hM84 o82
   refine kx (mvO rfl) (Rn (hA h65 (hA h66 (hA h67 (hA h68 (hV (.loc M.length 1 0 0) rfl (hN rfl hZ)))))) fun e88 h90 h91 h92 h93 h94 h95 => sN (sq (sq (Rg (kx (mvO h95) (kx (bNeq rfl rfl) (Rn (hA h90 (hA h91 (hA h92 (hA h93 (hA h94 (hA h95 (hN rfl hZ))))))) fun e96 h98 h99 h100 h101 h102 h103 h104 => sN ?_)))))))
   clear h65 h66 h67 h68 h69 h90 h91 h92 h93 h94 h95
   rcases ite_some h with ⟨hb105, h⟩ | ⟨hb105, h⟩
   ·refine cT h104 hb105 (sq (Rg (kx (litI rfl rfl ⟨rfl, by decide⟩) (kx (mvO h103) (kx (mvO h101) (kx (mvO rfl) (kx (mvO rfl) (kx (mvO rfl) (Rn (hN rfl (hN rfl (hN rfl hZ))) fun e106 h108 h109 h110 => sN (xx (sR (bR (sR ?_)))))))))))))
    clear h100 h101 h102 h103 h104 h98 h99
    obtain rfl := si h
    exact qR ⟨rfl, h108, h109, h110⟩
   refine cF h104 hb105 (xx (sN (sq (Rg (kx (ldOA h102 o87 rfl rfl (ble rfl) rfl) (kw (stO h100 rfl o86 rfl rfl ⟨rfl, ble rfl⟩ rfl rfl) fun M111 hM112 => ?_))))))
   have o113 := set_ne hM112 ne22 o85
   have o114 : M111[i1_2]? = some (.live ⟨.box, 27, 3, [[.int .i64 0, .nils, .nils]]⟩) := set_same hM112 o86
   have o115 := set_ne hM112 (Ne.symm ne81) o87
   refine Rn (hA h98 (hA h99 (hA h100 (hA h101 hZ)))) fun e116 h118 h119 h120 h121 => sN (Rg (kx (mvO h119) (kx (ldOA h120 o114 rfl rfl (ble rfl) rfl) ?_)))
   clear h100 h101 h102 h103 h104 h98 h99
   cases h
  refine kc (cl (v := .tup [.agg [.int .i64 r122, .sl (some 2) (r123.map (cI .i64)), .sl (some 49) (r124.map Tally.c)], .int .i64 0]) rfl rfl (cns h67 (cns rfl rfl)) (ra1 (ra1_loc o62 rfl rfl rfl ⟨rfl, blt rfl⟩) (ra1 rfl ra0)) (spec_l07Do_ok (Book.mk s1_2 s1_3 s1_4) x71 _ hx73) (fun _ => (own_tup (oa1 (own2_agg (oa1 rfl (oa1 (own1_row' (c := (cI .i64)) (fun _ => rfl)) (oa1 (own1_row' (c := Tally.c) Tally.flF) oa0)))) (oa1 rfl oa0))))) (kx (mvO rfl) (kx (exT rfl rfl) (kx (exT rfl rfl) (ku (alO zero27) fun M126 hM127 => ?_))))
  have o128 := push_old hM127 o61
  have ne129 := ne_new o61
  have o130 := push_old hM127 o62
  have ne131 := ne_new o62
  have o132 : M126[M.length]? = some (.live ⟨.box, 27, 3, [[.int .i64 0, .nils, .nils]]⟩) := push_new hM127
  refine kw (stO rfl rfl o132 rfl rfl ⟨rfl, ble rfl⟩ rfl rfl) fun M133 hM134 => ?_
  have o135 := set_ne hM134 ne129 o128
  have o136 := set_ne hM134 ne131 o130
  have o137 : M133[M.length]? = some (.live ⟨.box, 27, 3, [[.int .i64 r122, .sl none (r123.map (cI .i64)), .sl none (r124.map Tally.c)]]⟩) := set_same hM134 o132
  refine kx (mvO rfl) (Rn (hA h65 (hA h66 (hA h67 (hA h68 (hV (.loc M.length 1 0 0) rfl (hV (.int .i64 0) rfl hZ)))))) fun e138 h140 h141 h142 h143 h144 h145 => sN (sq (sq (Rg (kx (mvO h145) (kx (bNeq rfl rfl) (Rn (hA h140 (hA h141 (hA h142 (hA h143 (hA h144 (hA h145 (hV (.bool false) rfl hZ))))))) fun e146 h148 h149 h150 h151 h152 h153 h154 => sN (cF h154 rfl (xx (sN (sq (Rg (kx (ldOA h152 o137 rfl rfl (ble rfl) rfl) (kw (stO h150 rfl o136 rfl rfl ⟨rfl, ble rfl⟩ rfl rfl) fun M155 hM156 => ?_))))))))))))))
  clear h65 h66 h67 h68 h69 h140 h141 h142 h143 h144 h145
  have o157 := set_ne hM156 ne22 o135
  have o158 : M155[i1_2]? = some (.live ⟨.box, 27, 3, [[.int .i64 r122, .sl none (r123.map (cI .i64)), .sl none (r124.map Tally.c)]]⟩) := set_same hM156 o136
  have o159 := set_ne hM156 (Ne.symm ne131) o137
  obtain ⟨x166, hx167, h⟩ := bind_some h
  refine Rn (hA h148 (hA h149 (hA h150 (hA h151 hZ)))) fun e160 h162 h163 h164 h165 => sN (Rg (kx (mvO h163) (kx (ldOA h164 o158 rfl rfl (ble rfl) rfl) (kx (litI (cns rfl rfl) rfl ⟨rfl, by decide⟩) (kw (apO rfl o157 rfl (elT (c := Book.c) (xs := [(Book.mk r122 r123 r124)]) rfl) hx167 Book.fl (by decide)) fun M168 hM169 => ?_)))))
  clear h148 h149 h150 h151 h152 h153 h154
  have o170 : M168[i1_1]? = some (.live ⟨.grow, 27, 3, x166.map Book.c⟩) := set_same hM169 o157
  have o171 := set_ne hM169 (Ne.symm ne22) o158
  refine kx (mvO rfl) (Rn (hA h162 (hV (.lsl i1_1 x166.length 0 x166.length) rfl (hA h164 (hA h165 hZ)))) fun e172 h174 h175 h176 h177 => bN (sN (Rg (kx (mvO h177) (kx (bAdd rfl rfl) (kx (mvO rfl) (Rn (hA h174 (hA h175 (hA h176 (hN rfl hZ)))) fun e178 h180 h181 h182 h183 => ?_)))))))
  clear h162 h164 h165 h174 h175 h176
  obtain rfl := si h
  exact qN ⟨h180, h181, h182, h183, o171, o170⟩
 refine cF h69 hb70 (xx (sE ?_))
 obtain rfl := si h
 exact qE ⟨rfl, h66, o62, o61⟩
noncomputable def spec_l07All (a1 : Book) (a2 : List Deal) : Option ((List Book) × Int × Int) :=
 (spec_l07Copy a1).bind fun (r15, r16, r17) =>
 (Lw (spec_l07All_b1 a2) (0, r15, r16, r17, ([] : List Book))).bind fun r => match r with
 | (.inl (y190, y191)) =>
  some (([] : List Book), y190, y191)
 | (.inr (y197, y198, y199, y200)) =>
  some (y200, 0, 0)
def spec_l07All_enc (r : (List Book) × Int × Int) : AV := .tup [.sl (some 27) (r.1.map Book.c), .int .i64 r.2.1, .int .i64 r.2.2]
theorem spec_l07All_ok (a1 : Book) (a2 : List Deal) (r : (List Book) × Int × Int) (h : spec_l07All a1 a2 = some r) : Ev (fun k => CN k 64 [.pt none [.int .i64 a1.Day, .sl none (a1.Cash.map (cI .i64)), .sl none (a1.Tallies.map Tally.c)], .sl none (a2.map Deal.c)] []) (fun p => rRes p.2 p.1 = spec_l07All_enc r) := by
 unfold spec_l07All at h
 refine Ev.enter (F := fun k => f64 (CN k) k) (fun k => callN_eq rfl Try.func64 rfl rfl rfl (by decide +kernel) (f64_eq _ _)) (sq (Rg (kx (mvO rfl) (kx (mvO rfl) (kx (mvO rfl) (Rn (hN rfl (hN rfl hZ)) fun e1 h3 h4 => sN (sq (Rg (ku (litO (xs := ([] : List Book)) (c := Book.c) rfl rfl (by decide)) fun M6 hM7 => ?_)))))))))
 have o8 : M6[([] : Mem).length]? = some (.live ⟨.grow, 27, 3, ([] : List Book).map Book.c⟩) := push_new hM7
 obtain ⟨⟨r15, r16, r17⟩, hx14, h⟩ := bind_some h
 refine kx (mvO rfl) (Rn (hA h3 (hA h4 (hV (.lsl ([] : Mem).length ([] : List Book).length 0 ([] : List Book).length) rfl hZ))) fun e9 h11 h12 h13 => sN (sq (Rg (kx (mvO h11) (kc (cl (v := .agg [.int .i64 r15, .sl (some 2) (r16.map (cI .i64)), .sl (some 49) (r17.map Tally.c)]) rfl rfl (cns rfl rfl) rfl (spec_l07Copy_ok a1 _ hx14) nm) (ku (alO zero27) fun M19 hM20 => ?_))))))
 clear h3 h4
 have o21 := push_old hM20 o8
 have ne22 := ne_new o8
 have o23 : M19[M6.length]? = some (.live ⟨.box, 27, 3, [[.int .i64 0, .nils, .nils]]⟩) := push_new hM20
 refine kw (stO rfl rfl o23 rfl rfl ⟨rfl, ble rfl⟩ rfl rfl) fun M24 hM25 => ?_
 have o26 := set_ne hM25 ne22 o21
 have o27 : M24[M6.length]? = some (.live ⟨.box, 27, 3, [[.int .i64 r15, .sl none (r16.map (cI .i64)), .sl none (r17.map Tally.c)]]⟩) := set_same hM25 o23
 obtain ⟨r185, hr186, h⟩ := bind_some h
 refine Rn (hA h12 (hA h13 (hV (.loc M6.length 1 0 0) rfl hZ))) fun e28 h30 h31 h32 => sN (sq (sq (Rg (kx (mvO rfl) (Rn (hA h30 (hA h31 (hA h32 (hV (.int .i64 0) rfl hZ)))) fun e33 h35 h36 h37 h38 => sN (bl ?_))))))
 clear h11 h12 h13 h30 h31 h32
 rcases r185 with ⟨y190, y191⟩ | ⟨y197, y198, y199, y200⟩
 ·refine Ev.loop (RS := spec_l07All_b1_RS a2 (([] : Mem).length) M6.length) (RR := spec_l07All_b1_RR a2 (([] : Mem).length) M6.length) (fun s r h e M hs => spec_l07All_b1_ok a2 (([] : Mem).length) M6.length ne22 s r h e M hs) hr186 ⟨h35, h36, h37, h38, o27, o26⟩ fun x e188 M189 hq187 => ?_
  obtain ⟨rfl, h192, h193, h194⟩ := hq187
  refine bR (sR ?_)
  obtain rfl := si h
  exact eR (resT h192 (resT h193 (resT h194 res0))) rfl
 refine Ev.loop (RS := spec_l07All_b1_RS a2 (([] : Mem).length) M6.length) (RR := spec_l07All_b1_RR a2 (([] : Mem).length) M6.length) (fun s r h e M hs => spec_l07All_b1_ok a2 (([] : Mem).length) M6.length ne22 s r h e M hs) hr186 ⟨h35, h36, h37, h38, o27, o26⟩ fun x e195 M196 hq187 => ?_
 obtain ⟨rfl, h201, o202, o203⟩ := hq187
 refine bE (sN (sq (Rg (kx (mvO h201) (kx (mvO rfl) (kx (mvO rfl) (kx (mvO rfl) (Rn (hV (.lsl ([] : Mem).length y200.length 0 y200.length) rfl (hV (.int .i64 0) rfl (hV (.int .i64 0) rfl hZ))) fun e204 h206 h207 h208 => sN (xx ?_)))))))))
 clear h201
 obtain rfl := si h
 exact eR (resT h206 (resT h207 (resT h208 res0))) (rr_tup (mp1 (rr_row o203 rfl Book.fl) (mp1 rfl (mp1 rfl mp0))))
abbrev impl_arePeople_b1_S := Int
abbrev impl_arePeople_b1_R := Unit ⊕ Unit
def impl_arePeople_b1_RS (a1 : Int) (a2 : List Int) (s : impl_arePeople_b1_S) (e : Env) (M : Mem) : Prop := eget e 0 = .int .i64 a1 ∧ eget e 7 = .sl none (a2.map (cI .i64)) ∧ eget e 8 = .int .i64 (a2.length : Int) ∧ eget e 9 = .int .i64 s
def impl_arePeople_b1_RR (a1 : Int) (a2 : List Int) (r : impl_arePeople_b1_R) (x : Ex) (e : Env) (M : Mem) : Prop :=
  match r with
  | (.inl g) => x = .ret ∧ eget e 4 = .bool false
  | (.inr g) => x = .ext 0 ∧ True
noncomputable def impl_arePeople_b1 (a1 : Int) (a2 : List Int) : impl_arePeople_b1_S → Option (impl_arePeople_b1_S ⊕ impl_arePeople_b1_R) := fun s1_1 =>
 if (decide (s1_1 < (a2.length : Int))) = true then
  (rd a2 s1_1).bind fun x39 =>
  if (decide (x39 < 0)) = true then
   some (.inr (.inl ()))
  else
   if (decide (x39 ≥ a1)) = true then
    some (.inr (.inl ()))
   else
    some (.inl (IntKind.i64.wrap (s1_1 + 1)))
 else
  some (.inr (.inr ()))
theorem impl_arePeople_b1_ok (a1 : Int) (a2 : List Int) (s : impl_arePeople_b1_S) (r : impl_arePeople_b1_S ⊕ impl_arePeople_b1_R) (h : impl_arePeople_b1 a1 a2 s = some r) (e : Env) (M : Mem) (hs : impl_arePeople_b1_RS a1 a2 s e M) : Ev (fun k => (f61_l2 (CN k) k (prune [0, 7, 8, 9] e) M).bind fun q => some q) (bQ (impl_arePeople_b1_RS a1 a2) (impl_arePeople_b1_RR a1 a2) r) := by
 revert h hs
 revert s
 intro s1_1 h hs
 unfold impl_arePeople_b1 at h
 obtain ⟨h23, h25, h27, h29⟩ := hs
 generalize he22 : prune [0, 7, 8, 9] e = e21
 have h24 := envp he22.symm rfl h23
 have h26 := envp he22.symm rfl h25
 have h28 := envp he22.symm rfl h27
 have h30 := envp he22.symm rfl h29
 refine sq (Rg (kx (bLss h30 h28) (Rn (hV (.int .i64 a1) h24 (hV (.sl none (a2.map (cI .i64))) h26 (hV (.int .i64 (a2.length : Int)) h28 (hV (.int .i64 s1_1) h30 (hN rfl hZ))))) fun e31 h33 h34 h35 h36 h37 => sN (sq ?_))))
 clear h24 h26 h28 h30
 rcases ite_some h with ⟨hb38, h⟩ | ⟨hb38, h⟩
 ·obtain ⟨x39, hx40, h⟩ := bind_some h
  refine cT h37 hb38 (xx (sN (sq (bl (sq (Rg (kx (ixS h34 h36 hx40 (cI_fl _)) (kx (ldP rfl rfl) (kx (mvO rfl) (Rn (hA h33 (hN rfl (hA h34 (hA h35 (hA h36 hZ))))) fun e41 h43 h44 h45 h46 h47 => sN (sq (Rg (kx (mvO h44) (kx (bLss rfl rfl) (kx (mvO rfl) ?_)))))))))))))))
  clear h33 h34 h35 h36 h37
  rcases ite_some h with ⟨hb48, h⟩ | ⟨hb48, h⟩
  ·refine kx (gsF rfl hb48) (kx (gsF rfl hb48) (kx (gsF rfl hb48) (kx (pkT rfl hb48 rfl) (Rn (hA h43 (hA h45 (hA h46 (hA h47 (hV (.bool true) rfl hZ))))) fun e49 h51 h52 h53 h54 h55 => sN (cT h55 rfl (sq (Rg (kx (mvO rfl) (Rn (hV (.bool false) rfl hZ) fun e56 h58 => sN (xx (bR (sR ?_))))))))))))
   clear h43 h44 h45 h46 h47 h51 h52 h53 h54 h55
   obtain rfl := si h
   exact qR ⟨rfl, h58⟩
  refine kx (guF rfl hb48 (mvO h44)) (kx (guF rfl hb48 (mvO h43)) (kx (guF rfl hb48 (bGeq rfl rfl)) (kx (pkF rfl hb48 rfl) (Rn (hA h43 (hA h45 (hA h46 (hA h47 (hN rfl hZ))))) fun e59 h61 h62 h63 h64 h65 => sN ?_))))
  clear h43 h44 h45 h46 h47
  rcases ite_some h with ⟨hb66, h⟩ | ⟨hb66, h⟩
  ·refine cT h65 hb66 (sq (Rg (kx (mvO rfl) (Rn (hV (.bool false) rfl hZ) fun e67 h69 => sN (xx (bR (sR ?_)))))))
   clear h61 h62 h63 h64 h65
   obtain rfl := si h
   exact qR ⟨rfl, h69⟩
  refine cF h65 hb66 (xx (bN (sN (Rg (kx (bAdd h64 rfl) (kx (mvO rfl) (Rn (hA h61 (hA h62 (hA h63 (hN rfl hZ)))) fun e70 h72 h73 h74 h75 => ?_)))))))
  clear h61 h62 h63 h65
  obtain rfl := si h
  exact qN ⟨h72, h73, h74, h75⟩
 refine cF h37 hb38 (xx (sE ?_))
 obtain rfl := si h
 exact qE ⟨rfl, trivial⟩
noncomputable def impl_arePeople (a1 : Int) (a2 : List Int) : Option Bool :=
 (Lw (impl_arePeople_b1 a1 a2) 0).bind fun r => match r with
 | (.inl _) =>
  some false
 | (.inr _) =>
  some true
def impl_arePeople_enc (r : Bool) : AV := .bool r
theorem impl_arePeople_ok (a1 : Int) (a2 : List Int) (r : Bool) (h : impl_arePeople a1 a2 = some r) : Ev (fun k => CN k 61 [.int .i64 a1, .sl none (a2.map (cI .i64))] []) (fun p => rRes p.2 p.1 = impl_arePeople_enc r) := by
 unfold impl_arePeople at h
 obtain ⟨r76, hr77, h⟩ := bind_some h
 refine Ev.enter (F := fun k => f61 (CN k) k) (fun k => callN_eq rfl Try.func61 rfl rfl rfl (by decide +kernel) (f61_eq _ _)) (sq (Rg (kx (mvO rfl) (Rn (hN rfl (hN rfl hZ)) fun e1 h3 h4 => sN (sq (sq (Rg (kx (mvO h4) (kx (lnS Try.underlying24 rfl) (kx (mvO rfl) (Rn (hA h3 (hN rfl (hN rfl (hV (.int .i64 0) rfl hZ)))) fun e5 h7 h8 h9 h10 => sN (bl ?_))))))))))))
 clear h3 h4
 rcases r76 with _ | _
 ·refine Ev.loop (RS := impl_arePeople_b1_RS a1 a2) (RR := impl_arePeople_b1_RR a1 a2) (fun s r h e M hs => impl_arePeople_b1_ok a1 a2 s r h e M hs) hr77 ⟨h7, h8, h9, h10⟩ fun x e79 M80 hq78 => ?_
  obtain ⟨rfl, h81⟩ := hq78
  refine bR (sR ?_)
  obtain rfl := si h
  exact eR (resT h81 res0) rfl
 refine Ev.loop (RS := impl_arePeople_b1_RS a1 a2) (RR := impl_arePeople_b1_RR a1 a2) (fun s r h e M hs => impl_arePeople_b1_ok a1 a2 s r h e M hs) hr77 ⟨h7, h8, h9, h10⟩ fun x e82 M83 hq78 => ?_
 obtain ⟨rfl, _⟩ := hq78
 refine bE (sN (sq (Rg (kx (mvO rfl) (Rn (hV (.bool true) rfl hZ) fun e84 h86 => sN (xx ?_))))))
 obtain rfl := si h
 exact eR (resT h86 res0) rfl
def impl_ValidBook_c1_Q (a1 : Book) (g : Bool) (q : Out) : Prop := q.1 = .nrm ∧ eget q.2.1 1 = .pt none [.int .i64 a1.Day, .sl none (a1.Cash.map (cI .i64)), .sl none (a1.Tallies.map Tally.c)] ∧ eget q.2.1 3 = .int .i64 (a1.Cash.length : Int) ∧ eget q.2.1 29 = .bool g
abbrev impl_ValidBook_b1_S := Int
abbrev impl_ValidBook_b1_R := Unit ⊕ Unit
def impl_ValidBook_b1_RS (a1 : Book) (s : impl_ValidBook_b1_S) (e : Env) (M : Mem) : Prop := eget e 1 = .pt none [.int .i64 a1.Day, .sl none (a1.Cash.map (cI .i64)), .sl none (a1.Tallies.map Tally.c)] ∧ eget e 3 = .int .i64 (a1.Cash.length : Int) ∧ eget e 31 = .sl none (a1.Cash.map (cI .i64)) ∧ eget e 32 = .int .i64 (a1.Cash.length : Int) ∧ eget e 33 = .int .i64 s
def impl_ValidBook_b1_RR (a1 : Book) (r : impl_ValidBook_b1_R) (x : Ex) (e : Env) (M : Mem) : Prop :=
  match r with
  | (.inl g) => x = .ret ∧ eget e 2 = .bool false
  | (.inr g) => x = .ext 0 ∧ eget e 1 = .pt none [.int .i64 a1.Day, .sl none (a1.Cash.map (cI .i64)), .sl none (a1.Tallies.map Tally.c)] ∧ eget e 3 = .int .i64 (a1.Cash.length : Int)
noncomputable def impl_ValidBook_b1 (a1 : Book) : impl_ValidBook_b1_S → Option (impl_ValidBook_b1_S ⊕ impl_ValidBook_b1_R) := fun s1_1 =>
 if (decide (s1_1 < (a1.Cash.length : Int))) = true then
  (rd a1.Cash s1_1).bind fun x83 =>
  (impl_isAmount x83).bind fun r94 =>
  if r94 = true then
   some (.inl (IntKind.i64.wrap (s1_1 + 1)))
  else
   some (.inr (.inl ()))
 else
  some (.inr (.inr ()))
theorem impl_ValidBook_b1_ok (a1 : Book) (s : impl_ValidBook_b1_S) (r : impl_ValidBook_b1_S ⊕ impl_ValidBook_b1_R) (h : impl_ValidBook_b1 a1 s = some r) (e : Env) (M : Mem) (hs : impl_ValidBook_b1_RS a1 s e M) : Ev (fun k => (f26_l5 (CN k) k (prune [1, 3, 31, 32, 33] e) M).bind fun q => some q) (bQ (impl_ValidBook_b1_RS a1) (impl_ValidBook_b1_RR a1) r) := by
 revert h hs
 revert s
 intro s1_1 h hs
 unfold impl_ValidBook_b1 at h
 obtain ⟨h64, h66, h68, h70, h72⟩ := hs
 generalize he63 : prune [1, 3, 31, 32, 33] e = e62
 have h65 := envp he63.symm rfl h64
 have h67 := envp he63.symm rfl h66
 have h69 := envp he63.symm rfl h68
 have h71 := envp he63.symm rfl h70
 have h73 := envp he63.symm rfl h72
 refine sq (Rg (kx (bLss h73 h71) (Rn (hV (.pt none [.int .i64 a1.Day, .sl none (a1.Cash.map (cI .i64)), .sl none (a1.Tallies.map Tally.c)]) h65 (hV (.int .i64 (a1.Cash.length : Int)) h67 (hV (.sl none (a1.Cash.map (cI .i64))) h69 (hV (.int .i64 (a1.Cash.length : Int)) h71 (hV (.int .i64 s1_1) h73 (hN rfl hZ)))))) fun e74 h76 h77 h78 h79 h80 h81 => sN (sq ?_))))
 clear h65 h67 h69 h71 h73
 rcases ite_some h with ⟨hb82, h⟩ | ⟨hb82, h⟩
 ·obtain ⟨x83, hx84, h⟩ := bind_some h
  obtain ⟨r94, hx93, h⟩ := bind_some h
  refine cT h81 hb82 (xx (sN (sq (bl (sq (Rg (kx (ixS h78 h80 hx84 (cI_fl _)) (kx (ldP rfl rfl) (kx (mvO rfl) (Rn (hA h76 (hA h77 (hN rfl (hA h78 (hA h79 (hA h80 hZ)))))) fun e85 h87 h88 h89 h90 h91 h92 => sN (sq (Rg (kx (mvO h89) (kc (cl (v := .bool r94) rfl rfl (cns rfl rfl) rfl (impl_isAmount_ok x83 _ hx93) nm) (kx (uNot rfl) (Rn (hA h87 (hA h88 (hA h90 (hA h91 (hA h92 (hN rfl hZ)))))) fun e95 h97 h98 h99 h100 h101 h102 => sN ?_))))))))))))))))
  clear h76 h77 h78 h79 h80 h81 h87 h88 h89 h90 h91 h92
  rcases ite_some h with ⟨hb103, h⟩ | ⟨hb103, h⟩
  ·refine cF h102 (congrArg Bool.not hb103) (xx (bN (sN (Rg (kx (bAdd h101 rfl) (kx (mvO rfl) (Rn (hA h97 (hA h98 (hA h99 (hA h100 (hN rfl hZ))))) fun e104 h106 h107 h108 h109 h110 => ?_)))))))
   clear h100 h102 h97 h98 h99
   obtain rfl := si h
   exact qN ⟨h106, h107, h108, h109, h110⟩
  refine cT h102 (congrArg Bool.not hb103) (sq (Rg (kx (mvO rfl) (Rn (hV (.bool false) rfl hZ) fun e111 h113 => sN (xx (bR (sR ?_)))))))
  clear h100 h101 h102 h97 h98 h99
  obtain rfl := si h
  exact qR ⟨rfl, h113⟩
 refine cF h81 hb82 (xx (sE ?_))
 obtain rfl := si h
 exact qE ⟨rfl, h76, h77⟩
abbrev impl_ValidBook_b2_S := Int × Int
abbrev impl_ValidBook_b2_R := Unit ⊕ Unit
def impl_ValidBook_b2_RS (a1 : Book) (s : impl_ValidBook_b2_S) (e : Env) (M : Mem) : Prop := eget e 1 = .pt none [.int .i64 a1.Day, .sl none (a1.Cash.map (cI .i64)), .sl none (a1.Tallies.map Tally.c)] ∧ eget e 3 = .int .i64 (a1.Cash.length : Int) ∧ eget e 6 = .int .i64 s.1 ∧ eget e 42 = .sl none (a1.Tallies.map Tally.c) ∧ eget e 43 = .int .i64 (a1.Tallies.length : Int) ∧ eget e 44 = .int .i64 s.2
def impl_ValidBook_b2_RR (a1 : Book) (r : impl_ValidBook_b2_R) (x : Ex) (e : Env) (M : Mem) : Prop :=
  match r with
  | (.inl g) => x = .ret ∧ eget e 2 = .bool false
  | (.inr g) => x = .ext 2 ∧ True
noncomputable def impl_ValidBook_b2 (a1 : Book) : impl_ValidBook_b2_S → Option (impl_ValidBook_b2_S ⊕ impl_ValidBook_b2_R) := fun (s2_1, s2_2) =>
 if (decide (s2_2 < (a1.Tallies.length : Int))) = true then
  (rd a1.Tallies s2_2).bind fun x175 =>
  (impl_arePeople (a1.Cash.length : Int) [x175.Debtor, x175.Holder]).bind fun r194 =>
  if r194 = true then
   if (decide (x175.Cut < s2_1)) = true then
    some (.inr (.inl ()))
   else
    if (decide (x175.Cut > a1.Day)) = true then
     some (.inr (.inl ()))
    else
     if (decide (x175.Amount < 1)) = true then
      some (.inr (.inl ()))
     else
      if (decide (x175.Amount > 100000000)) = true then
       some (.inr (.inl ()))
      else
       if (decide (x175.Left < 0)) = true then
        some (.inr (.inl ()))
       else
        if (decide (x175.Left > x175.Amount)) = true then
         some (.inr (.inl ()))
        else
         if (x175.Debtor == x175.Holder) = true then
          if (x175.Left != 0) = true then
           some (.inr (.inl ()))
          else
           some (.inl (x175.Cut, (IntKind.i64.wrap (s2_2 + 1))))
         else
          some (.inl (x175.Cut, (IntKind.i64.wrap (s2_2 + 1))))
  else
   some (.inr (.inl ()))
 else
  some (.inr (.inr ()))
theorem impl_ValidBook_b2_ok (a1 : Book) (s : impl_ValidBook_b2_S) (r : impl_ValidBook_b2_S ⊕ impl_ValidBook_b2_R) (h : impl_ValidBook_b2 a1 s = some r) (e : Env) (M : Mem) (hs : impl_ValidBook_b2_RS a1 s e M) : Ev (fun k => (f26_l12 (CN k) k (prune [1, 3, 6, 42, 43, 44] e) M).bind fun q => some q) (bQ (impl_ValidBook_b2_RS a1) (impl_ValidBook_b2_RR a1) r) := by
 obtain ⟨s2_1, s2_2⟩ := s
 unfold impl_ValidBook_b2 at h
 obtain ⟨h153, h155, h157, h159, h161, h163⟩ := hs
 generalize he152 : prune [1, 3, 6, 42, 43, 44] e = e151
 have h154 := envp he152.symm rfl h153
 have h156 := envp he152.symm rfl h155
 have h158 := envp he152.symm rfl h157
 have h160 := envp he152.symm rfl h159
 have h162 := envp he152.symm rfl h161
 have h164 := envp he152.symm rfl h163
 refine sq (Rg (kx (bLss h164 h162) (Rn (hV (.pt none [.int .i64 a1.Day, .sl none (a1.Cash.map (cI .i64)), .sl none (a1.Tallies.map Tally.c)]) h154 (hV (.int .i64 (a1.Cash.length : Int)) h156 (hV (.int .i64 s2_1) h158 (hV (.sl none (a1.Tallies.map Tally.c)) h160 (hV (.int .i64 (a1.Tallies.length : Int)) h162 (hV (.int .i64 s2_2) h164 (hN rfl hZ))))))) fun e165 h167 h168 h169 h170 h171 h172 h173 => sN (sq ?_))))
 clear h154 h156 h158 h160 h162 h164
 rcases ite_some h with ⟨hb174, h⟩ | ⟨hb174, h⟩
 ·obtain ⟨x175, hx176, h⟩ := bind_some h
  refine cT h173 hb174 (xx (sN (sq (bl (sq (Rg (kx (ixS h170 h172 hx176 Tally.fl) (kx (ldPA rfl rfl rfl) (ku (alO zero49) fun M178 hM179 => ?_)))))))))
  have o180 : M178[M.length]? = some (.live ⟨.box, 49, 5, [[.int .i64 0, .int .i64 0, .int .i64 0, .int .i64 0, .int .i64 0]]⟩) := push_new hM179
  refine kw (stO rfl rfl o180 rfl rfl ⟨rfl, ble rfl⟩ rfl rfl) fun M181 hM182 => ?_
  have o183 : M181[M.length]? = some (.live ⟨.box, 49, 5, [[.int .i64 x175.Debtor, .int .i64 x175.Holder, .int .i64 x175.Cut, .int .i64 x175.Amount, .int .i64 x175.Left]]⟩) := set_same hM182 o180
  obtain ⟨r194, hx193, h⟩ := bind_some h
  refine Rn (hA h167 (hA h168 (hA h169 (hV (.loc M.length 1 0 0) rfl (hA h170 (hA h171 (hA h172 hZ))))))) fun e184 h186 h187 h188 h189 h190 h191 h192 => sN (sq (sq (Rg (kx (mvO h187) (kx (faO h189 o183 rfl) (kx (ldO rfl o183 rfl rfl rfl) (kx (faO h189 o183 rfl) (kx (ldO rfl o183 rfl rfl rfl) (kx (litI (cns rfl (cns rfl rfl)) rfl ⟨rfl, by decide⟩) (kc (cl (v := .bool r194) rfl rfl (cns rfl (cns rfl rfl)) rfl (impl_arePeople_ok (a1.Cash.length : Int) [x175.Debtor, x175.Holder] _ hx193) nm) (kx (uNot rfl) (kx (mvO rfl) ?_))))))))))))
  clear h167 h168 h169 h170 h171 h172 h173
  rcases ite_some h with ⟨hb195, h⟩ | ⟨hb195, h⟩
  ·refine kx (guF rfl (congrArg Bool.not hb195) (faO h189 o183 rfl)) (kx (guF rfl (congrArg Bool.not hb195) (ldO rfl o183 rfl rfl rfl)) (kx (guF rfl (congrArg Bool.not hb195) (mvO h188)) (kx (guF rfl (congrArg Bool.not hb195) (bLss rfl rfl)) (kx (pkF rfl (congrArg Bool.not hb195) rfl) (kx (mvO rfl) ?_)))))
   rcases ite_some h with ⟨hb196, h⟩ | ⟨hb196, h⟩
   ·refine kx (gsF rfl hb196) (kx (gsF rfl hb196) (kx (gsF rfl hb196) (kx (gsF rfl hb196) (kx (gsF rfl hb196) (kx (pkT rfl hb196 rfl) (kx (mvO rfl) (kx (gsF rfl rfl) (kx (gsF rfl rfl) (kx (gsF rfl rfl) (kx (pkT rfl rfl rfl) (kx (mvO rfl) (kx (gsF rfl rfl) (kx (gsF rfl rfl) (kx (gsF rfl rfl) (kx (pkT rfl rfl rfl) (kx (mvO rfl) (kx (gsF rfl rfl) (kx (gsF rfl rfl) (kx (gsF rfl rfl) (kx (pkT rfl rfl rfl) (kx (mvO rfl) (kx (gsF rfl rfl) (kx (gsF rfl rfl) (kx (gsF rfl rfl) (kx (gsF rfl rfl) (kx (gsF rfl rfl) (kx (pkT rfl rfl rfl) (kx (mvO rfl) (kx (gsF rfl rfl) (kx (gsF rfl rfl) (kx (gsF rfl rfl) (kx (gsF rfl rfl) (kx (gsF rfl rfl) (kx (gsF rfl rfl) (kx (gsU rfl) (kx (gsU rfl) (kx (gsU rfl) (kx (gsF rfl rfl) (kx (pkT rfl rfl rfl) (Rn (hA h186 (hA h187 (hA h189 (hA h190 (hA h191 (hA h192 (hV (.bool true) rfl hZ))))))) fun e197 h199 h200 h201 h202 h203 h204 h205 => sN (cT h205 rfl (sq (Rg (kx (mvO rfl) (Rn (hV (.bool false) rfl hZ) fun e206 h208 => sN (xx (sR (bR (sR ?_)))))))))))))))))))))))))))))))))))))))))))))))))
    clear h186 h187 h188 h189 h190 h191 h192 h199 h200 h201 h202 h203 h204 h205
    obtain rfl := si h
    exact qR ⟨rfl, h208⟩
   refine kx (guF rfl hb196 (faO h189 o183 rfl)) (kx (guF rfl hb196 (ldO rfl o183 rfl rfl rfl)) (kx (guF rfl hb196 (faP h186 ⟨ble rfl, blt rfl⟩ rfl)) (kx (guF rfl hb196 (ldP rfl rfl)) (kx (guF rfl hb196 (bGtr rfl rfl)) (kx (pkF rfl hb196 rfl) (kx (mvO rfl) ?_))))))
   rcases ite_some h with ⟨hb209, h⟩ | ⟨hb209, h⟩
   ·refine kx (gsF rfl hb209) (kx (gsF rfl hb209) (kx (gsF rfl hb209) (kx (pkT rfl hb209 rfl) (kx (mvO rfl) (kx (gsF rfl rfl) (kx (gsF rfl rfl) (kx (gsF rfl rfl) (kx (pkT rfl rfl rfl) (kx (mvO rfl) (kx (gsF rfl rfl) (kx (gsF rfl rfl) (kx (gsF rfl rfl) (kx (pkT rfl rfl rfl) (kx (mvO rfl) (kx (gsF rfl rfl) (kx (gsF rfl rfl) (kx (gsF rfl rfl) (kx (gsF rfl rfl) (kx (gsF rfl rfl) (kx (pkT rfl rfl rfl) (kx (mvO rfl) (kx (gsF rfl rfl) (kx (gsF rfl rfl) (kx (gsF rfl rfl) (kx (gsF rfl rfl) (kx (gsF rfl rfl) (kx (gsF rfl rfl) (kx (gsU rfl) (kx (gsU rfl) (kx (gsU rfl) (kx (gsF rfl rfl) (kx (pkT rfl rfl rfl) (Rn (hA h186 (hA h187 (hA h189 (hA h190 (hA h191 (hA h192 (hV (.bool true) rfl hZ))))))) fun e210 h212 h213 h214 h215 h216 h217 h218 => sN (cT h218 rfl (sq (Rg (kx (mvO rfl) (Rn (hV (.bool false) rfl hZ) fun e219 h221 => sN (xx (sR (bR (sR ?_))))))))))))))))))))))))))))))))))))))))))
    clear h186 h187 h188 h189 h190 h191 h192 h212 h213 h214 h215 h216 h217 h218
    obtain rfl := si h
    exact qR ⟨rfl, h221⟩
   refine kx (guF rfl hb209 (faO h189 o183 rfl)) (kx (guF rfl hb209 (ldO rfl o183 rfl rfl rfl)) (kx (guF rfl hb209 (bLss rfl rfl)) (kx (pkF rfl hb209 rfl) (kx (mvO rfl) ?_))))
   rcases ite_some h with ⟨hb222, h⟩ | ⟨hb222, h⟩
   ·refine kx (gsF rfl hb222) (kx (gsF rfl hb222) (kx (gsF rfl hb222) (kx (pkT rfl hb222 rfl) (kx (mvO rfl) (kx (gsF rfl rfl) (kx (gsF rfl rfl) (kx (gsF rfl rfl) (kx (pkT rfl rfl rfl) (kx (mvO rfl) (kx (gsF rfl rfl) (kx (gsF rfl rfl) (kx (gsF rfl rfl) (kx (gsF rfl rfl) (kx (gsF rfl rfl) (kx (pkT rfl rfl rfl) (kx (mvO rfl) (kx (gsF rfl rfl) (kx (gsF rfl rfl) (kx (gsF rfl rfl) (kx (gsF rfl rfl) (kx (gsF rfl rfl) (kx (gsF rfl rfl) (kx (gsU rfl) (kx (gsU rfl) (kx (gsU rfl) (kx (gsF rfl rfl) (kx (pkT rfl rfl rfl) (Rn (hA h186 (hA h187 (hA h189 (hA h190 (hA h191 (hA h192 (hV (.bool true) rfl hZ))))))) fun e223 h225 h226 h227 h228 h229 h230 h231 => sN (cT h231 rfl (sq (Rg (kx (mvO rfl) (Rn (hV (.bool false) rfl hZ) fun e232 h234 => sN (xx (sR (bR (sR ?_)))))))))))))))))))))))))))))))))))))
    clear h186 h187 h188 h189 h190 h191 h192 h225 h226 h227 h228 h229 h230 h231
    obtain rfl := si h
    exact qR ⟨rfl, h234⟩
   refine kx (guF rfl hb222 (faO h189 o183 rfl)) (kx (guF rfl hb222 (ldO rfl o183 rfl rfl rfl)) (kx (guF rfl hb222 (bGtr rfl rfl)) (kx (pkF rfl hb222 rfl) (kx (mvO rfl) ?_))))
   rcases ite_some h with ⟨hb235, h⟩ | ⟨hb235, h⟩
   ·refine kx (gsF rfl hb235) (kx (gsF rfl hb235) (kx (gsF rfl hb235) (kx (pkT rfl hb235 rfl) (kx (mvO rfl) (kx (gsF rfl rfl) (kx (gsF rfl rfl) (kx (gsF rfl rfl) (kx (gsF rfl rfl) (kx (gsF rfl rfl) (kx (pkT rfl rfl rfl) (kx (mvO rfl) (kx (gsF rfl rfl) (kx (gsF rfl rfl) (kx (gsF rfl rfl) (kx (gsF rfl rfl) (kx (gsF rfl rfl) (kx (gsF rfl rfl) (kx (gsU rfl) (kx (gsU rfl) (kx (gsU rfl) (kx (gsF rfl rfl) (kx (pkT rfl rfl rfl) (Rn (hA h186 (hA h187 (hA h189 (hA h190 (hA h191 (hA h192 (hV (.bool true) rfl hZ))))))) fun e236 h238 h239 h240 h241 h242 h243 h244 => sN (cT h244 rfl (sq (Rg (kx (mvO rfl) (Rn (hV (.bool false) rfl hZ) fun e245 h247 => sN (xx (sR (bR (sR ?_))))))))))))))))))))))))))))))))
    clear h186 h187 h188 h189 h190 h191 h192 h238 h239 h240 h241 h242 h243 h244
    obtain rfl := si h
    exact qR ⟨rfl, h247⟩
   refine kx (guF rfl hb235 (faO h189 o183 rfl)) (kx (guF rfl hb235 (ldO rfl o183 rfl rfl rfl)) (kx (guF rfl hb235 (bLss rfl rfl)) (kx (pkF rfl hb235 rfl) (kx (mvO rfl) ?_))))
   rcases ite_some h with ⟨hb248, h⟩ | ⟨hb248, h⟩
   ·refine kx (gsF rfl hb248) (kx (gsF rfl hb248) (kx (gsF rfl hb248) (kx (gsF rfl hb248) (kx (gsF rfl hb248) (kx (pkT rfl hb248 rfl) (kx (mvO rfl) (kx (gsF rfl rfl) (kx (gsF rfl rfl) (kx (gsF rfl rfl) (kx (gsF rfl rfl) (kx (gsF rfl rfl) (kx (gsF rfl rfl) (kx (gsU rfl) (kx (gsU rfl) (kx (gsU rfl) (kx (gsF rfl rfl) (kx (pkT rfl rfl rfl) (Rn (hA h186 (hA h187 (hA h189 (hA h190 (hA h191 (hA h192 (hV (.bool true) rfl hZ))))))) fun e249 h251 h252 h253 h254 h255 h256 h257 => sN (cT h257 rfl (sq (Rg (kx (mvO rfl) (Rn (hV (.bool false) rfl hZ) fun e258 h260 => sN (xx (sR (bR (sR ?_)))))))))))))))))))))))))))
    clear h186 h187 h188 h189 h190 h191 h192 h251 h252 h253 h254 h255 h256 h257
    obtain rfl := si h
    exact qR ⟨rfl, h260⟩
   refine kx (guF rfl hb248 (faO h189 o183 rfl)) (kx (guF rfl hb248 (ldO rfl o183 rfl rfl rfl)) (kx (guF rfl hb248 (faO h189 o183 rfl)) (kx (guF rfl hb248 (ldO rfl o183 rfl rfl rfl)) (kx (guF rfl hb248 (bGtr rfl rfl)) (kx (pkF rfl hb248 rfl) (kx (mvO rfl) ?_))))))
   rcases ite_some h with ⟨hb261, h⟩ | ⟨hb261, h⟩
   ·refine kx (gsF rfl hb261) (kx (gsF rfl hb261) (kx (gsF rfl hb261) (kx (gsF rfl hb261) (kx (gsF rfl hb261) (kx (gsF rfl hb261) (kx (gsU rfl) (kx (gsU rfl) (kx (gsU rfl) (kx (gsF rfl hb261) (kx (pkT rfl hb261 rfl) (Rn (hA h186 (hA h187 (hA h189 (hA h190 (hA h191 (hA h192 (hV (.bool true) rfl hZ))))))) fun e262 h264 h265 h266 h267 h268 h269 h270 => sN (cT h270 rfl (sq (Rg (kx (mvO rfl) (Rn (hV (.bool false) rfl hZ) fun e271 h273 => sN (xx (sR (bR (sR ?_))))))))))))))))))))
    clear h186 h187 h188 h189 h190 h191 h192 h264 h265 h266 h267 h268 h269 h270
    obtain rfl := si h
    exact qR ⟨rfl, h273⟩
   refine kx (guF rfl hb261 (faO h189 o183 rfl)) (kx (guF rfl hb261 (ldO rfl o183 rfl rfl rfl)) (kx (guF rfl hb261 (faO h189 o183 rfl)) (kx (guF rfl hb261 (ldO rfl o183 rfl rfl rfl)) (kx (guF rfl hb261 (bEql rfl rfl)) (kx (guF rfl hb261 (mvO rfl)) ?_)))))
   rcases ite_some h with ⟨hb274, h⟩ | ⟨hb274, h⟩
   ·refine kx (guT rfl hb274 (faO h189 o183 rfl)) (kx (guT rfl hb274 (ldO rfl o183 rfl rfl rfl)) (kx (guT rfl hb274 (bNeq rfl rfl)) (kx (guF rfl hb261 (pkT rfl hb274 rfl)) (kx (pkF rfl hb261 rfl) (Rn (hA h186 (hA h187 (hA h189 (hA h190 (hA h191 (hA h192 (hN rfl hZ))))))) fun e275 h277 h278 h279 h280 h281 h282 h283 => sN ?_)))))
    clear h186 h187 h188 h189 h190 h191 h192
    rcases ite_some h with ⟨hb284, h⟩ | ⟨hb284, h⟩
    ·refine cT h283 hb284 (sq (Rg (kx (mvO rfl) (Rn (hV (.bool false) rfl hZ) fun e285 h287 => sN (xx (sR (bR (sR ?_))))))))
     clear h277 h278 h279 h280 h281 h282 h283
     obtain rfl := si h
     exact qR ⟨rfl, h287⟩
    refine cF h283 hb284 (xx (sN (Rg (kx (faO h279 o183 rfl) (kx (ldO rfl o183 rfl rfl rfl) (kx (mvO rfl) (Rn (hA h277 (hA h278 (hN rfl (hA h280 (hA h281 (hA h282 hZ)))))) fun e288 h290 h291 h292 h293 h294 h295 => bN (sN (Rg (kx (bAdd h295 rfl) (kx (mvO rfl) (Rn (hA h290 (hA h291 (hA h292 (hA h293 (hA h294 (hN rfl hZ)))))) fun e296 h298 h299 h300 h301 h302 h303 => ?_))))))))))))
    clear h277 h278 h279 h280 h281 h282 h283 h290 h291 h292 h293 h294
    obtain rfl := si h
    exact qN ⟨h298, h299, h300, h301, h302, h303⟩
   refine kx (gsT rfl hb274) (kx (gsT rfl hb274) (kx (gsT rfl hb274) (kx (guF rfl hb261 (pkF rfl hb274 rfl)) (kx (pkF rfl hb261 rfl) (Rn (hA h186 (hA h187 (hA h189 (hA h190 (hA h191 (hA h192 (hV (.bool false) rfl hZ))))))) fun e304 h306 h307 h308 h309 h310 h311 h312 => sN (cF h312 rfl (xx (sN (Rg (kx (faO h308 o183 rfl) (kx (ldO rfl o183 rfl rfl rfl) (kx (mvO rfl) (Rn (hA h306 (hA h307 (hN rfl (hA h309 (hA h310 (hA h311 hZ)))))) fun e313 h315 h316 h317 h318 h319 h320 => bN (sN (Rg (kx (bAdd h320 rfl) (kx (mvO rfl) (Rn (hA h315 (hA h316 (hA h317 (hA h318 (hA h319 (hN rfl hZ)))))) fun e321 h323 h324 h325 h326 h327 h328 => ?_))))))))))))))))))
   clear h186 h187 h188 h189 h190 h191 h192 h306 h307 h308 h309 h310 h311 h312 h315 h316 h317 h318 h319
   obtain rfl := si h
   exact qN ⟨h323, h324, h325, h326, h327, h328⟩
  refine kx (gsF rfl (congrArg Bool.not hb195)) (kx (gsF rfl (congrArg Bool.not hb195)) (kx (gsF rfl (congrArg Bool.not hb195)) (kx (gsF rfl (congrArg Bool.not hb195)) (kx (pkT rfl (congrArg Bool.not hb195) rfl) (kx (mvO rfl) (kx (gsF rfl rfl) (kx (gsF rfl rfl) (kx (gsF rfl rfl) (kx (gsF rfl rfl) (kx (gsF rfl rfl) (kx (pkT rfl rfl rfl) (kx (mvO rfl) (kx (gsF rfl rfl) (kx (gsF rfl rfl) (kx (gsF rfl rfl) (kx (pkT rfl rfl rfl) (kx (mvO rfl) (kx (gsF rfl rfl) (kx (gsF rfl rfl) (kx (gsF rfl rfl) (kx (pkT rfl rfl rfl) (kx (mvO rfl) (kx (gsF rfl rfl) (kx (gsF rfl rfl) (kx (gsF rfl rfl) (kx (pkT rfl rfl rfl) (kx (mvO rfl) (kx (gsF rfl rfl) (kx (gsF rfl rfl) (kx (gsF rfl rfl) (kx (gsF rfl rfl) (kx (gsF rfl rfl) (kx (pkT rfl rfl rfl) (kx (mvO rfl) (kx (gsF rfl rfl) (kx (gsF rfl rfl) (kx (gsF rfl rfl) (kx (gsF rfl rfl) (kx (gsF rfl rfl) (kx (gsF rfl rfl) (kx (gsU rfl) (kx (gsU rfl) (kx (gsU rfl) (kx (gsF rfl rfl) (kx (pkT rfl rfl rfl) (Rn (hA h186 (hA h187 (hA h189 (hA h190 (hA h191 (hA h192 (hV (.bool true) rfl hZ))))))) fun e329 h331 h332 h333 h334 h335 h336 h337 => sN (cT h337 rfl (sq (Rg (kx (mvO rfl) (Rn (hV (.bool false) rfl hZ) fun e338 h340 => sN (xx (sR (bR (sR ?_)))))))))))))))))))))))))))))))))))))))))))))))))))))))
  clear h186 h187 h188 h189 h190 h191 h192 h331 h332 h333 h334 h335 h336 h337
  obtain rfl := si h
  exact qR ⟨rfl, h340⟩
 refine cF h173 hb174 (xx (sE ?_))
 obtain rfl := si h
 exact qE ⟨rfl, trivial⟩
noncomputable def impl_ValidBook (a1 : Book) : Option Bool :=
 ((impl_isBookDay a1.Day).bind fun r9 =>
 if r9 = true then
  if (decide ((a1.Cash.length : Int) < 1)) = true then
   some true
  else
   if (decide ((a1.Cash.length : Int) > 16)) = true then
    some true
   else
    some (decide ((a1.Tallies.length : Int) > 40))
 else
  some true).bind fun y35 =>
 if y35 = true then
  some false
 else
  (Lw (impl_ValidBook_b1 a1) 0).bind fun r => match r with
  | (.inl _) =>
   some false
  | (.inr _) =>
   (Lw (impl_ValidBook_b2 a1) (0, 0)).bind fun r => match r with
   | (.inl _) =>
    some false
   | (.inr _) =>
    some true
def impl_ValidBook_enc (r : Bool) : AV := .bool r
theorem impl_ValidBook_ok (a1 : Book) (r : Bool) (h : impl_ValidBook a1 = some r) : Ev (fun k => CN k 26 [.agg [.int .i64 a1.Day, .sl none (a1.Cash.map (cI .i64)), .sl none (a1.Tallies.map Tally.c)]] []) (fun p => rRes p.2 p.1 = impl_ValidBook_enc r) := by
 unfold impl_ValidBook at h
 obtain ⟨r353, hr354, h⟩ := bind_some h
 refine Ev.enter (F := fun k => f26 (CN k) k) (fun k => callN_eq rfl Try.func26 rfl rfl rfl (by decide +kernel) (f26_eq _ _)) (sq (Rg (kx (bxI rfl rfl ⟨rfl, rfl, by decide⟩) (kx (mvO rfl) (Rn (hN rfl hZ) fun e1 h3 => sN (sq (Rg (kx (faP h3 ⟨ble rfl, blt rfl⟩ rfl) (kx (ldP rfl rfl) (kx (lnS Try.underlying24 rfl) (kx (mvO rfl) (Rn (hA h3 (hN rfl hZ)) fun e4 h6 h7 => sN (sq (sq ?_))))))))))))))
 clear h3
 refine Ev.cut (Q1 := impl_ValidBook_c1_Q a1 r353) (by
     have h := hr354
     obtain ⟨r9, hx8, h⟩ := bind_some h
     refine Rg (kx (faP h6 ⟨ble rfl, blt rfl⟩ rfl) (kx (ldP rfl rfl) (kc (cl (v := .bool r9) rfl rfl (cns rfl rfl) rfl (impl_isBookDay_ok a1.Day _ hx8) nm) (kx (uNot rfl) (kx (mvO rfl) ?_)))))
     rcases ite_some h with ⟨hb10, h⟩ | ⟨hb10, h⟩
     ·refine kx (guF rfl (congrArg Bool.not hb10) (mvO h7)) (kx (guF rfl (congrArg Bool.not hb10) (bLss rfl rfl)) (kx (pkF rfl (congrArg Bool.not hb10) rfl) (kx (mvO rfl) ?_)))
      rcases ite_some h with ⟨hb11, h⟩ | ⟨hb11, h⟩
      ·refine kx (gsF rfl hb11) (kx (gsF rfl hb11) (kx (pkT rfl hb11 rfl) (kx (mvO rfl) (kx (gsF rfl rfl) (kx (gsF rfl rfl) (kx (gsF rfl rfl) (kx (gsF rfl rfl) (kx (pkT rfl rfl rfl) (Rn (hA h6 (hA h7 (hV (.bool true) rfl hZ))) fun e12 h14 h15 h16 => ?_)))))))))
       clear h6 h7
       obtain rfl := si h
       exact kd (show impl_ValidBook_c1_Q a1 _ _ from ⟨rfl, h14, h15, h16⟩)
      refine kx (guF rfl hb11 (mvO h7)) (kx (guF rfl hb11 (bGtr rfl rfl)) (kx (pkF rfl hb11 rfl) (kx (mvO rfl) ?_)))
      rcases ite_some h with ⟨hb17, h⟩ | ⟨hb17, h⟩
      ·refine kx (gsF rfl hb17) (kx (gsF rfl hb17) (kx (gsF rfl hb17) (kx (gsF rfl hb17) (kx (pkT rfl hb17 rfl) (Rn (hA h6 (hA h7 (hV (.bool true) rfl hZ))) fun e18 h20 h21 h22 => ?_)))))
       clear h6 h7
       obtain rfl := si h
       exact kd (show impl_ValidBook_c1_Q a1 _ _ from ⟨rfl, h20, h21, h22⟩)
      refine kx (guF rfl hb17 (faP h6 ⟨ble rfl, blt rfl⟩ rfl)) (kx (guF rfl hb17 (ldP rfl rfl)) (kx (guF rfl hb17 (lnS Try.underlying25 rfl)) (kx (guF rfl hb17 (bGtr rfl rfl)) (kx (pkF rfl hb17 rfl) (Rn (hA h6 (hA h7 (hN rfl hZ))) fun e23 h25 h26 h27 => ?_)))))
      clear h6 h7
      obtain rfl := si h
      exact kd (show impl_ValidBook_c1_Q a1 _ _ from ⟨rfl, h25, h26, h27⟩)
     refine kx (gsF rfl (congrArg Bool.not hb10)) (kx (gsF rfl (congrArg Bool.not hb10)) (kx (pkT rfl (congrArg Bool.not hb10) rfl) (kx (mvO rfl) (kx (gsF rfl rfl) (kx (gsF rfl rfl) (kx (pkT rfl rfl rfl) (kx (mvO rfl) (kx (gsF rfl rfl) (kx (gsF rfl rfl) (kx (gsF rfl rfl) (kx (gsF rfl rfl) (kx (pkT rfl rfl rfl) (Rn (hA h6 (hA h7 (hV (.bool true) rfl hZ))) fun e28 h30 h31 h32 => ?_)))))))))))))
     clear h6 h7
     obtain rfl := si h
     exact kd (show impl_ValidBook_c1_Q a1 _ _ from ⟨rfl, h30, h31, h32⟩)) ?_
 revert h hr354
 revert r353
 intro y35 hr354 h
 intro x e33 M34 hq352
 obtain ⟨rfl, h36, h37, h38⟩ := hq352
 refine sN ?_
 rcases ite_some h with ⟨hb39, h⟩ | ⟨hb39, h⟩
 ·refine cT h38 hb39 (sq (Rg (kx (mvO rfl) (Rn (hV (.bool false) rfl hZ) fun e40 h42 => sN (xx (sR ?_))))))
  clear h36 h37 h38
  obtain rfl := si h
  exact eR (resT h42 res0) rfl
 obtain ⟨r114, hr115, h⟩ := bind_some h
 refine cF h38 hb39 (xx (sN (sq (sq (Rg (kx (faP h36 ⟨ble rfl, blt rfl⟩ rfl) (kx (ldP rfl rfl) (kx (lnS Try.underlying24 rfl) (kx (mvO rfl) (Rn (hV (.pt none [.int .i64 a1.Day, .sl none (a1.Cash.map (cI .i64)), .sl none (a1.Tallies.map Tally.c)]) h36 (hV (.int .i64 (a1.Cash.length : Int)) h37 (hN rfl (hN rfl (hV (.int .i64 0) rfl hZ))))) fun e43 h45 h46 h47 h48 h49 => sN (bl ?_)))))))))))
 clear h36 h37 h38
 rcases r114 with _ | _
 ·refine Ev.loop (RS := impl_ValidBook_b1_RS a1) (RR := impl_ValidBook_b1_RR a1) (fun s r h e M hs => impl_ValidBook_b1_ok a1 s r h e M hs) hr115 ⟨h45, h46, h47, h48, h49⟩ fun x e117 M118 hq116 => ?_
  obtain ⟨rfl, h119⟩ := hq116
  refine bR (sR ?_)
  obtain rfl := si h
  exact eR (resT h119 res0) rfl
 refine Ev.loop (RS := impl_ValidBook_b1_RS a1) (RR := impl_ValidBook_b1_RR a1) (fun s r h e M hs => impl_ValidBook_b1_ok a1 s r h e M hs) hr115 ⟨h45, h46, h47, h48, h49⟩ fun x e120 M121 hq116 => ?_
 obtain ⟨rfl, h122, h123⟩ := hq116
 obtain ⟨r341, hr342, h⟩ := bind_some h
 refine bE (sN (sq (Rg (kx (mvO rfl) (Rn (hV (.pt none [.int .i64 a1.Day, .sl none (a1.Cash.map (cI .i64)), .sl none (a1.Tallies.map Tally.c)]) h122 (hV (.int .i64 (a1.Cash.length : Int)) h123 (hV (.int .i64 0) rfl hZ))) fun e124 h126 h127 h128 => sN (sq (sq (Rg (kx (faP h126 ⟨ble rfl, blt rfl⟩ rfl) (kx (ldP rfl rfl) (kx (lnS Try.underlying25 rfl) (kx (mvO rfl) (Rn (hA h126 (hA h127 (hA h128 (hN rfl (hN rfl (hV (.int .i64 0) rfl hZ)))))) fun e129 h131 h132 h133 h134 h135 h136 => sN (bl ?_))))))))))))))
 clear h122 h123 h126 h127 h128
 rcases r341 with _ | _
 ·refine Ev.loop (RS := impl_ValidBook_b2_RS a1) (RR := impl_ValidBook_b2_RR a1) (fun s r h e M hs => impl_ValidBook_b2_ok a1 s r h e M hs) hr342 ⟨h131, h132, h133, h134, h135, h136⟩ fun x e344 M345 hq343 => ?_
  obtain ⟨rfl, h346⟩ := hq343
  refine bR (sR ?_)
  obtain rfl := si h
  exact eR (resT h346 res0) rfl
 refine Ev.loop (RS := impl_ValidBook_b2_RS a1) (RR := impl_ValidBook_b2_RR a1) (fun s r h e M hs => impl_ValidBook_b2_ok a1 s r h e M hs) hr342 ⟨h131, h132, h133, h134, h135, h136⟩ fun x e347 M348 hq343 => ?_
 obtain ⟨rfl, _⟩ := hq343
 refine bE (sN (sq (Rg (kx (mvO rfl) (Rn (hV (.bool true) rfl hZ) fun e349 h351 => sN (xx ?_))))))
 obtain rfl := si h
 exact eR (resT h351 res0) rfl
noncomputable def impl_personCode (a1 : Book) (a2 : Int) : Option Int :=
 (impl_ValidBook a1).bind fun r6 =>
 if r6 = true then
  (impl_arePeople (a1.Cash.length : Int) [a2]).bind fun r14 =>
  if r14 = true then
   some 0
  else
   some 2
 else
  some 1
def impl_personCode_enc (r : Int) : AV := .int .i64 r
theorem impl_personCode_ok (a1 : Book) (a2 : Int) (r : Int) (h : impl_personCode a1 a2 = some r) : Ev (fun k => CN k 63 [.agg [.int .i64 a1.Day, .sl none (a1.Cash.map (cI .i64)), .sl none (a1.Tallies.map Tally.c)], .int .i64 a2] []) (fun p => rRes p.2 p.1 = impl_personCode_enc r) := by
 unfold impl_personCode at h
 obtain ⟨r6, hx5, h⟩ := bind_some h
 refine Ev.enter (F := fun k => f63 (CN k) k) (fun k => callN_eq rfl Try.func63 rfl rfl rfl (by decide +kernel) (f63_eq _ _)) (sq (Rg (kx (bxI rfl rfl ⟨rfl, rfl, by decide⟩) (kx (mvO rfl) (Rn (hN rfl (hN rfl hZ)) fun e1 h3 h4 => sN (sq (bl (sq (Rg (kx (ldPA h4 rfl rfl) (kc (cl (v := .bool r6) rfl rfl (cns rfl rfl) rfl (impl_ValidBook_ok a1 _ hx5) nm) (kx (uNot rfl) (kx (mvO rfl) (Rn (hA h3 (hA h4 (hN rfl hZ))) fun e7 h9 h10 h11 => sN ?_))))))))))))))
 clear h3 h4
 rcases ite_some h with ⟨hb12, h⟩ | ⟨hb12, h⟩
 ·obtain ⟨r14, hx13, h⟩ := bind_some h
  refine cF h11 (congrArg Bool.not hb12) (sq (Rg (kx (faP h10 ⟨ble rfl, blt rfl⟩ rfl) (kx (ldP rfl rfl) (kx (lnS Try.underlying24 rfl) (kx (mvO h9) (kx (litI (cns rfl rfl) rfl ⟨rfl, by decide⟩) (kc (cl (v := .bool r14) rfl rfl (cns rfl (cns rfl rfl)) rfl (impl_arePeople_ok (a1.Cash.length : Int) [a2] _ hx13) nm) (kx (uNot rfl) (kx (mvO rfl) (Rn (hN rfl hZ) fun e15 h17 => sN ?_)))))))))))
  clear h10 h11 h9
  rcases ite_some h with ⟨hb18, h⟩ | ⟨hb18, h⟩
  ·refine cF h17 (congrArg Bool.not hb18) (xx (bN (sN (sq (Rg (kx (mvO rfl) (Rn (hV (.int .i64 0) rfl hZ) fun e19 h21 => sN (xx ?_))))))))
   clear h17
   obtain rfl := si h
   exact eR (resT h21 res0) rfl
  refine cT h17 (congrArg Bool.not hb18) (sq (Rg (kx (mvO rfl) (Rn (hV (.int .i64 2) rfl hZ) fun e22 h24 => sN (xx (bR (sR ?_)))))))
  clear h17
  obtain rfl := si h
  exact eR (resT h24 res0) rfl
 refine cT h11 (congrArg Bool.not hb12) (sq (Rg (kx (mvO rfl) (Rn (hV (.int .i64 1) rfl hZ) fun e25 h27 => sN (xx (bR (sR ?_)))))))
 clear h10 h11 h9
 obtain rfl := si h
 exact eR (resT h27 res0) rfl
noncomputable def impl_worthOf (a1 : Book) (a2 : Int) : Option Int :=
 (impl_getsAndOwes a1 a2).bind fun (r6, r7) =>
 (rd a1.Cash a2).bind fun x14 =>
 some (IntKind.i64.wrap ((IntKind.i64.wrap (x14 + r6)) - r7))
def impl_worthOf_enc (r : Int) : AV := .int .i64 r
theorem impl_worthOf_ok (a1 : Book) (a2 : Int) (r : Int) (h : impl_worthOf a1 a2 = some r) : Ev (fun k => CN k 62 [.agg [.int .i64 a1.Day, .sl none (a1.Cash.map (cI .i64)), .sl none (a1.Tallies.map Tally.c)], .int .i64 a2] []) (fun p => rRes p.2 p.1 = impl_worthOf_enc r) := by
 unfold impl_worthOf at h
 obtain ⟨⟨r6, r7⟩, hx5, h⟩ := bind_some h
 obtain ⟨x14, hx15, h⟩ := bind_some h
 refine Ev.enter (F := fun k => f62 (CN k) k) (fun k => callN_eq rfl Try.func62 rfl rfl rfl (by decide +kernel) (f62_eq _ _)) (sq (Rg (kx (bxI rfl rfl ⟨rfl, rfl, by decide⟩) (kx (mvO rfl) (Rn (hN rfl (hN rfl hZ)) fun e1 h3 h4 => sN (sq (Rg (kx (ldPA h4 rfl rfl) (kx (mvO h3) (kc (cl (v := .tup [.int .i64 r6, .int .i64 r7]) rfl rfl (cns rfl (cns rfl rfl)) rfl (impl_getsAndOwes_ok a1 a2 _ hx5) nm) (kx (mvO rfl) (kx (exT rfl rfl) (kx (exT rfl rfl) (kx (mvO rfl) (kx (mvO rfl) (Rn (hA h3 (hA h4 (hN rfl (hN rfl hZ)))) fun e8 h10 h11 h12 h13 => sN (sq (Rg (kx (faP h11 ⟨ble rfl, blt rfl⟩ rfl) (kx (ldP rfl rfl) (kx (mvO h10) (kx (ixS rfl rfl hx15 (cI_fl _)) (kx (ldP rfl rfl) (kx (mvO h12) (kx (bAdd rfl rfl) (kx (mvO h13) (kx (bSub rfl rfl) (kx (mvO rfl) (Rn (hN rfl hZ) fun e16 h18 => sN (xx ?_))))))))))))))))))))))))))))))
 clear h3 h4 h10 h11 h12 h13
 obtain rfl := si h
 exact eR (resT h18 res0) rfl
abbrev spec_l00Same_b1_S := Int
abbrev spec_l00Same_b1_R := Unit ⊕ Unit
def spec_l00Same_b1_RS (a1 : List Int) (a2 : List Int) (s : spec_l00Same_b1_S) (e : Env) (M : Mem) : Prop := eget e 0 = .sl none (a1.map (cI .i64)) ∧ eget e 1 = .sl none (a2.map (cI .i64)) ∧ eget e 5 = .int .i64 s
def spec_l00Same_b1_RR (a1 : List Int) (a2 : List Int) (r : spec_l00Same_b1_R) (x : Ex) (e : Env) (M : Mem) : Prop :=
  match r with
  | (.inl g) => x = .ret ∧ eget e 4 = .bool false
  | (.inr g) => x = .ext 0 ∧ True
noncomputable def spec_l00Same_b1 (a1 : List Int) (a2 : List Int) : spec_l00Same_b1_S → Option (spec_l00Same_b1_S ⊕ spec_l00Same_b1_R) := fun s1_1 =>
 if (decide (s1_1 < (a1.length : Int))) = true then
  (rd a1 s1_1).bind fun x42 =>
  (rd a2 s1_1).bind fun x44 =>
  if (x42 != x44) = true then
   some (.inr (.inl ()))
  else
   some (.inl (IntKind.i64.wrap (s1_1 + 1)))
 else
  some (.inr (.inr ()))
theorem spec_l00Same_b1_ok (a1 : List Int) (a2 : List Int) (s : spec_l00Same_b1_S) (r : spec_l00Same_b1_S ⊕ spec_l00Same_b1_R) (h : spec_l00Same_b1 a1 a2 s = some r) (e : Env) (M : Mem) (hs : spec_l00Same_b1_RS a1 a2 s e M) : Ev (fun k => (f60_l4 (CN k) k (prune [0, 1, 5] e) M).bind fun q => some q) (bQ (spec_l00Same_b1_RS a1 a2) (spec_l00Same_b1_RR a1 a2) r) := by
 revert h hs
 revert s
 intro s1_1 h hs
 unfold spec_l00Same_b1 at h
 obtain ⟨h29, h31, h33⟩ := hs
 generalize he28 : prune [0, 1, 5] e = e27
 have h30 := envp he28.symm rfl h29
 have h32 := envp he28.symm rfl h31
 have h34 := envp he28.symm rfl h33
 refine sq (sq (Rg (kx (mvO h34) (kx (mvO h30) (kx (lnS Try.underlying24 rfl) (kx (bLss rfl rfl) (Rn (hV (.sl none (a1.map (cI .i64))) h30 (hV (.sl none (a2.map (cI .i64))) h32 (hV (.int .i64 s1_1) h34 (hN rfl hZ)))) fun e35 h37 h38 h39 h40 => sN ?_)))))))
 clear h30 h32 h34
 rcases ite_some h with ⟨hb41, h⟩ | ⟨hb41, h⟩
 ·obtain ⟨x42, hx43, h⟩ := bind_some h
  obtain ⟨x44, hx45, h⟩ := bind_some h
  refine cT h40 hb41 (xx (sN (sq (bl (sq (Rd (kf (mvO h37) (kf (mvO h39) (kf (ixS rfl rfl hx43 (cI_fl _)) (kf (ldP rfl rfl) (kf (mvO h38) (kf (mvO h39) (kf (ixS rfl rfl hx45 (cI_fl _)) (kf (ldP rfl rfl) (kf (bNeq rfl rfl) (fZ (Rn (hA h37 (hA h38 (hA h39 (hN rfl hZ)))) fun e46 h48 h49 h50 h51 => sN ?_)))))))))))))))))
  clear h37 h38 h39 h40
  rcases ite_some h with ⟨hb52, h⟩ | ⟨hb52, h⟩
  ·refine cT h51 hb52 (sq (Rg (kx (mvO rfl) (Rn (hV (.bool false) rfl hZ) fun e53 h55 => sN (xx (bR (sR ?_)))))))
   clear h48 h49 h50 h51
   obtain rfl := si h
   exact qR ⟨rfl, h55⟩
  refine cF h51 hb52 (xx (bN (sN (Rg (kx (mvO h50) (kx (bAdd rfl rfl) (kx (mvO rfl) (Rn (hA h48 (hA h49 (hN rfl hZ))) fun e56 h58 h59 h60 => ?_))))))))
  clear h48 h49 h51
  obtain rfl := si h
  exact qN ⟨h58, h59, h60⟩
 refine cF h40 hb41 (xx (sE ?_))
 obtain rfl := si h
 exact qE ⟨rfl, trivial⟩
noncomputable def spec_l00Same (a1 : List Int) (a2 : List Int) : Option Bool :=
 if ((a1.length : Int) != (a2.length : Int)) = true then
  some false
 else
  (Lw (spec_l00Same_b1 a1 a2) 0).bind fun r => match r with
  | (.inl _) =>
   some false
  | (.inr _) =>
   some true
def spec_l00Same_enc (r : Bool) : AV := .bool r
theorem spec_l00Same_ok (a1 : List Int) (a2 : List Int) (r : Bool) (h : spec_l00Same a1 a2 = some r) : Ev (fun k => CN k 60 [.sl none (a1.map (cI .i64)), .sl none (a2.map (cI .i64))] []) (fun p => rRes p.2 p.1 = spec_l00Same_enc r) := by
 unfold spec_l00Same at h
 refine Ev.enter (F := fun k => f60 (CN k) k) (fun k => callN_eq rfl Try.func60 rfl rfl rfl (by decide +kernel) (f60_eq _ _)) (sq (Rg (kx (mvO rfl) (Rn (hN rfl (hN rfl hZ)) fun e1 h3 h4 => sN (sq (sq (Rg (kx (mvO h3) (kx (lnS Try.underlying24 rfl) (kx (mvO h4) (kx (lnS Try.underlying24 rfl) (kx (bNeq rfl rfl) (Rn (hA h3 (hA h4 (hN rfl hZ))) fun e5 h7 h8 h9 => sN ?_)))))))))))))
 clear h3 h4
 rcases ite_some h with ⟨hb10, h⟩ | ⟨hb10, h⟩
 ·refine cT h9 hb10 (sq (Rg (kx (mvO rfl) (Rn (hV (.bool false) rfl hZ) fun e11 h13 => sN (xx (sR ?_))))))
  clear h7 h8 h9
  obtain rfl := si h
  exact eR (resT h13 res0) rfl
 obtain ⟨r61, hr62, h⟩ := bind_some h
 refine cF h9 hb10 (xx (sN (sq (sq (Rg (kx (mvO rfl) (Rn (hA h7 (hA h8 (hV (.int .i64 0) rfl hZ))) fun e14 h16 h17 h18 => sN (bl ?_))))))))
 clear h7 h8 h9
 rcases r61 with _ | _
 ·refine Ev.loop (RS := spec_l00Same_b1_RS a1 a2) (RR := spec_l00Same_b1_RR a1 a2) (fun s r h e M hs => spec_l00Same_b1_ok a1 a2 s r h e M hs) hr62 ⟨h16, h17, h18⟩ fun x e64 M65 hq63 => ?_
  obtain ⟨rfl, h66⟩ := hq63
  refine bR (sR ?_)
  obtain rfl := si h
  exact eR (resT h66 res0) rfl
 refine Ev.loop (RS := spec_l00Same_b1_RS a1 a2) (RR := spec_l00Same_b1_RR a1 a2) (fun s r h e M hs => spec_l00Same_b1_ok a1 a2 s r h e M hs) hr62 ⟨h16, h17, h18⟩ fun x e67 M68 hq63 => ?_
 obtain ⟨rfl, _⟩ := hq63
 refine bE (sN (sq (Rg (kx (mvO rfl) (Rn (hV (.bool true) rfl hZ) fun e69 h71 => sN (xx ?_))))))
 obtain rfl := si h
 exact eR (resT h71 res0) rfl
def spec_l07Same_c1_Q (a1 : Book) (a2 : Book) (g : Bool) (q : Out) : Prop := q.1 = .nrm ∧ eget q.2.1 0 = .pt none [.int .i64 a1.Day, .sl none (a1.Cash.map (cI .i64)), .sl none (a1.Tallies.map Tally.c)] ∧ eget q.2.1 1 = .pt none [.int .i64 a2.Day, .sl none (a2.Cash.map (cI .i64)), .sl none (a2.Tallies.map Tally.c)] ∧ eget q.2.1 39 = .bool g
abbrev spec_l07Same_b1_S := Int
abbrev spec_l07Same_b1_R := Unit ⊕ Unit
def spec_l07Same_b1_RS (a1 : Book) (a2 : Book) (s : spec_l07Same_b1_S) (e : Env) (M : Mem) : Prop := eget e 0 = .pt none [.int .i64 a1.Day, .sl none (a1.Cash.map (cI .i64)), .sl none (a1.Tallies.map Tally.c)] ∧ eget e 1 = .pt none [.int .i64 a2.Day, .sl none (a2.Cash.map (cI .i64)), .sl none (a2.Tallies.map Tally.c)] ∧ eget e 5 = .int .i64 s
def spec_l07Same_b1_RR (a1 : Book) (a2 : Book) (r : spec_l07Same_b1_R) (x : Ex) (e : Env) (M : Mem) : Prop :=
  match r with
  | (.inl g) => x = .ret ∧ eget e 4 = .bool false
  | (.inr g) => x = .ext 0 ∧ True
noncomputable def spec_l07Same_b1 (a1 : Book) (a2 : Book) : spec_l07Same_b1_S → Option (spec_l07Same_b1_S ⊕ spec_l07Same_b1_R) := fun s1_1 =>
 if (decide (s1_1 < (a1.Tallies.length : Int))) = true then
  (rd a1.Tallies s1_1).bind fun x62 =>
  (rd a2.Tallies s1_1).bind fun x64 =>
  if ((x62.Debtor == x64.Debtor) && ((x62.Holder == x64.Holder) && ((x62.Cut == x64.Cut) && ((x62.Amount == x64.Amount) && ((x62.Left == x64.Left) && true))))) = true then
   some (.inl (IntKind.i64.wrap (s1_1 + 1)))
  else
   some (.inr (.inl ()))
 else
  some (.inr (.inr ()))
theorem spec_l07Same_b1_ok (a1 : Book) (a2 : Book) (s : spec_l07Same_b1_S) (r : spec_l07Same_b1_S ⊕ spec_l07Same_b1_R) (h : spec_l07Same_b1 a1 a2 s = some r) (e : Env) (M : Mem) (hs : spec_l07Same_b1_RS a1 a2 s e M) : Ev (fun k => (f59_l4 (CN k) k (prune [0, 1, 5] e) M).bind fun q => some q) (bQ (spec_l07Same_b1_RS a1 a2) (spec_l07Same_b1_RR a1 a2) r) := by
 revert h hs
 revert s
 intro s1_1 h hs
 unfold spec_l07Same_b1 at h
 obtain ⟨h49, h51, h53⟩ := hs
 generalize he48 : prune [0, 1, 5] e = e47
 have h50 := envp he48.symm rfl h49
 have h52 := envp he48.symm rfl h51
 have h54 := envp he48.symm rfl h53
 refine sq (sq (Rg (kx (mvO h54) (kx (mvO h50) (kx (ncP rfl) (kx (faP rfl ⟨ble rfl, blt rfl⟩ rfl) (kx (ldP rfl rfl) (kx (lnS Try.underlying25 rfl) (kx (bLss rfl rfl) (Rn (hV (.pt none [.int .i64 a1.Day, .sl none (a1.Cash.map (cI .i64)), .sl none (a1.Tallies.map Tally.c)]) h50 (hV (.pt none [.int .i64 a2.Day, .sl none (a2.Cash.map (cI .i64)), .sl none (a2.Tallies.map Tally.c)]) h52 (hV (.int .i64 s1_1) h54 (hN rfl hZ)))) fun e55 h57 h58 h59 h60 => sN ?_))))))))))
 clear h50 h52 h54
 rcases ite_some h with ⟨hb61, h⟩ | ⟨hb61, h⟩
 ·obtain ⟨x62, hx63, h⟩ := bind_some h
  obtain ⟨x64, hx65, h⟩ := bind_some h
  refine cT h60 hb61 (xx (sN (sq (bl (sq (Rd (kf (mvO h57) (kf (ncP rfl) (kf (faP rfl ⟨ble rfl, blt rfl⟩ rfl) (kf (ldP rfl rfl) (kf (mvO h59) (kf (ixS rfl rfl hx63 Tally.fl) (kf (ldPA rfl rfl rfl) (kf (mvO h58) (kf (ncP rfl) (kf (faP rfl ⟨ble rfl, blt rfl⟩ rfl) (kf (ldP rfl rfl) (kf (mvO h59) (kf (ixS rfl rfl hx65 Tally.fl) (kf (ldPA rfl rfl rfl) (kf (gNeq rfl rfl (by kernel_rfl) rfl) (fZ (Rn (hA h57 (hA h58 (hA h59 (hN rfl hZ)))) fun e66 h68 h69 h70 h71 => sN ?_)))))))))))))))))))))))
  clear h57 h58 h59 h60
  rcases ite_some h with ⟨hb72, h⟩ | ⟨hb72, h⟩
  ·refine cF h71 (congrArg Bool.not hb72) (xx (bN (sN (Rg (kx (mvO h70) (kx (bAdd rfl rfl) (kx (mvO rfl) (Rn (hA h68 (hA h69 (hN rfl hZ))) fun e73 h75 h76 h77 => ?_))))))))
   clear h68 h69 h71
   obtain rfl := si h
   exact qN ⟨h75, h76, h77⟩
  refine cT h71 (congrArg Bool.not hb72) (sq (Rg (kx (mvO rfl) (Rn (hV (.bool false) rfl hZ) fun e78 h80 => sN (xx (bR (sR ?_)))))))
  clear h68 h69 h70 h71
  obtain rfl := si h
  exact qR ⟨rfl, h80⟩
 refine cF h60 hb61 (xx (sE ?_))
 obtain rfl := si h
 exact qE ⟨rfl, trivial⟩
noncomputable def spec_l07Same (a1 : Book) (a2 : Book) : Option Bool :=
 (if (a1.Day != a2.Day) = true then
  some true
 else
  (spec_l00Same a1.Cash a2.Cash).bind fun r12 =>
  if r12 = true then
   some ((a1.Tallies.length : Int) != (a2.Tallies.length : Int))
  else
   some true).bind fun y26 =>
 if y26 = true then
  some false
 else
  (Lw (spec_l07Same_b1 a1 a2) 0).bind fun r => match r with
  | (.inl _) =>
   some false
  | (.inr _) =>
   some true
def spec_l07Same_enc (r : Bool) : AV := .bool r
theorem spec_l07Same_ok (a1 : Book) (a2 : Book) (r : Bool) (h : spec_l07Same a1 a2 = some r) : Ev (fun k => CN k 59 [.pt none [.int .i64 a1.Day, .sl none (a1.Cash.map (cI .i64)), .sl none (a1.Tallies.map Tally.c)], .pt none [.int .i64 a2.Day, .sl none (a2.Cash.map (cI .i64)), .sl none (a2.Tallies.map Tally.c)]] []) (fun p => rRes p.2 p.1 = spec_l07Same_enc r) := by
 unfold spec_l07Same at h
 obtain ⟨r93, hr94, h⟩ := bind_some h
 refine Ev.enter (F := fun k => f59 (CN k) k) (fun k => callN_eq rfl Try.func59 rfl rfl rfl (by decide +kernel) (f59_eq _ _)) (sq (Rg (kx (mvO rfl) (Rn (hN rfl (hN rfl hZ)) fun e1 h3 h4 => sN (sq (sq ?_))))))
 refine Ev.cut (Q1 := spec_l07Same_c1_Q a1 a2 r93) (by
     have h := hr94
     refine Rd (kf (mvO h3) (kf (ncP rfl) (kf (faP rfl ⟨ble rfl, blt rfl⟩ rfl) (kf (ldP rfl rfl) (kf (mvO h4) (kf (ncP rfl) (kf (faP rfl ⟨ble rfl, blt rfl⟩ rfl) (kf (ldP rfl rfl) (kf (bNeq rfl rfl) (kf (mvO rfl) ?_))))))))))
     rcases ite_some h with ⟨hb5, h⟩ | ⟨hb5, h⟩
     ·refine kf (gsF rfl hb5) (kf (gsF rfl hb5) (kf (gsF rfl hb5) (kf (gsF rfl hb5) (kf (gsF rfl hb5) (kf (gsF rfl hb5) (kf (gsF rfl hb5) (kf (gsF rfl hb5) (fc (Ev.gsF rfl hb5) (kf (gsF rfl hb5) (kf (pkT rfl hb5 rfl) (kf (mvO rfl) (kf (gsF rfl rfl) (kf (gsF rfl rfl) (kf (gsF rfl rfl) (kf (gsF rfl rfl) (kf (gsF rfl rfl) (kf (gsF rfl rfl) (kf (gsF rfl rfl) (kf (gsF rfl rfl) (kf (gsF rfl rfl) (kf (gsF rfl rfl) (kf (gsF rfl rfl) (kf (pkT rfl rfl rfl) (fZ (Rn (hA h3 (hA h4 (hV (.bool true) rfl hZ))) fun e6 h8 h9 h10 => ?_)))))))))))))))))))))))))
      clear h3 h4
      obtain rfl := si h
      exact kd (show spec_l07Same_c1_Q a1 a2 _ _ from ⟨rfl, h8, h9, h10⟩)
     obtain ⟨r12, hx11, h⟩ := bind_some h
     refine kf (guF rfl hb5 (mvO h3)) (kf (guF rfl hb5 (ncP rfl)) (kf (guF rfl hb5 (faP rfl ⟨ble rfl, blt rfl⟩ rfl)) (kf (guF rfl hb5 (ldP rfl rfl)) (kf (guF rfl hb5 (mvO h4)) (kf (guF rfl hb5 (ncP rfl)) (kf (guF rfl hb5 (faP rfl ⟨ble rfl, blt rfl⟩ rfl)) (kf (guF rfl hb5 (ldP rfl rfl)) (fc (Ev.guF rfl hb5 (cl (v := .bool r12) rfl rfl (cns rfl (cns rfl rfl)) rfl (spec_l00Same_ok a1.Cash a2.Cash _ hx11) nm)) (kf (guF rfl hb5 (uNot rfl)) (kf (pkF rfl hb5 rfl) (kf (mvO rfl) ?_)))))))))))
     rcases ite_some h with ⟨hb13, h⟩ | ⟨hb13, h⟩
     ·refine kf (guF rfl (congrArg Bool.not hb13) (mvO h3)) (kf (guF rfl (congrArg Bool.not hb13) (ncP rfl)) (kf (guF rfl (congrArg Bool.not hb13) (faP rfl ⟨ble rfl, blt rfl⟩ rfl)) (kf (guF rfl (congrArg Bool.not hb13) (ldP rfl rfl)) (kf (guF rfl (congrArg Bool.not hb13) (lnS Try.underlying25 rfl)) (kf (guF rfl (congrArg Bool.not hb13) (mvO h4)) (kf (guF rfl (congrArg Bool.not hb13) (ncP rfl)) (kf (guF rfl (congrArg Bool.not hb13) (faP rfl ⟨ble rfl, blt rfl⟩ rfl)) (kf (guF rfl (congrArg Bool.not hb13) (ldP rfl rfl)) (kf (guF rfl (congrArg Bool.not hb13) (lnS Try.underlying25 rfl)) (kf (guF rfl (congrArg Bool.not hb13) (bNeq rfl rfl)) (kf (pkF rfl (congrArg Bool.not hb13) rfl) (fZ (Rn (hA h3 (hA h4 (hN rfl hZ))) fun e14 h16 h17 h18 => ?_)))))))))))))
      clear h3 h4
      obtain rfl := si h
      exact kd (show spec_l07Same_c1_Q a1 a2 _ _ from ⟨rfl, h16, h17, h18⟩)
     refine kf (gsF rfl (congrArg Bool.not hb13)) (kf (gsF rfl (congrArg Bool.not hb13)) (kf (gsF rfl (congrArg Bool.not hb13)) (kf (gsF rfl (congrArg Bool.not hb13)) (kf (gsF rfl (congrArg Bool.not hb13)) (kf (gsF rfl (congrArg Bool.not hb13)) (kf (gsF rfl (congrArg Bool.not hb13)) (kf (gsF rfl (congrArg Bool.not hb13)) (kf (gsF rfl (congrArg Bool.not hb13)) (kf (gsF rfl (congrArg Bool.not hb13)) (kf (gsF rfl (congrArg Bool.not hb13)) (kf (pkT rfl (congrArg Bool.not hb13) rfl) (fZ (Rn (hA h3 (hA h4 (hV (.bool true) rfl hZ))) fun e19 h21 h22 h23 => ?_)))))))))))))
     clear h3 h4
     obtain rfl := si h
     exact kd (show spec_l07Same_c1_Q a1 a2 _ _ from ⟨rfl, h21, h22, h23⟩)) ?_
 revert h hr94
 revert r93
 intro y26 hr94 h
 intro x e24 M25 hq92
 obtain ⟨rfl, h27, h28, h29⟩ := hq92
 refine sN ?_
 rcases ite_some h with ⟨hb30, h⟩ | ⟨hb30, h⟩
 ·refine cT h29 hb30 (sq (Rg (kx (mvO rfl) (Rn (hV (.bool false) rfl hZ) fun e31 h33 => sN (xx (sR ?_))))))
  clear h27 h28 h29
  obtain rfl := si h
  exact eR (resT h33 res0) rfl
 obtain ⟨r81, hr82, h⟩ := bind_some h
 refine cF h29 hb30 (xx (sN (sq (sq (Rg (kx (mvO rfl) (Rn (hV (.pt none [.int .i64 a1.Day, .sl none (a1.Cash.map (cI .i64)), .sl none (a1.Tallies.map Tally.c)]) h27 (hV (.pt none [.int .i64 a2.Day, .sl none (a2.Cash.map (cI .i64)), .sl none (a2.Tallies.map Tally.c)]) h28 (hV (.int .i64 0) rfl hZ))) fun e34 h36 h37 h38 => sN (bl ?_))))))))
 clear h27 h28 h29
 rcases r81 with _ | _
 ·refine Ev.loop (RS := spec_l07Same_b1_RS a1 a2) (RR := spec_l07Same_b1_RR a1 a2) (fun s r h e M hs => spec_l07Same_b1_ok a1 a2 s r h e M hs) hr82 ⟨h36, h37, h38⟩ fun x e84 M85 hq83 => ?_
  obtain ⟨rfl, h86⟩ := hq83
  refine bR (sR ?_)
  obtain rfl := si h
  exact eR (resT h86 res0) rfl
 refine Ev.loop (RS := spec_l07Same_b1_RS a1 a2) (RR := spec_l07Same_b1_RR a1 a2) (fun s r h e M hs => spec_l07Same_b1_ok a1 a2 s r h e M hs) hr82 ⟨h36, h37, h38⟩ fun x e87 M88 hq83 => ?_
 obtain ⟨rfl, _⟩ := hq83
 refine bE (sN (sq (Rg (kx (mvO rfl) (Rn (hV (.bool true) rfl hZ) fun e89 h91 => sN (xx ?_))))))
 obtain rfl := si h
 exact eR (resT h91 res0) rfl
noncomputable def impl_behind (a1 : Book) (a2 : List Deal) : Option (Int ⊕ (Int × (List Int) × (List Tally))) :=
 (impl_books a1 a2).bind fun (r11, r12) =>
 if (r12 != 0) = true then
  some (.inl r12)
 else
  if ((r11.length : Int) == 0) = true then
   (impl_ownBook a1).bind fun (r42, r43, r44) =>
   some (.inr (r42, r43, r44))
  else
   (rd r11 (IntKind.i64.wrap ((r11.length : Int) - 1))).bind fun x52 =>
   some (.inr (x52.Day, x52.Cash, x52.Tallies))
def impl_behind_enc (r : Int ⊕ (Int × (List Int) × (List Tally))) : AV :=
  match r with
  | (.inl g) => .tup [.agg [.int .i64 0, .nils, .nils], .int .i64 g]
  | (.inr g) => .tup [.agg [.int .i64 g.1, .sl none (g.2.1.map (cI .i64)), .sl none (g.2.2.map Tally.c)], .int .i64 0]
theorem impl_behind_ok (a1 : Book) (a2 : List Deal) (r : Int ⊕ (Int × (List Int) × (List Tally))) (h : impl_behind a1 a2 = some r) : Ev (fun k => CN k 58 [.agg [.int .i64 a1.Day, .sl none (a1.Cash.map (cI .i64)), .sl none (a1.Tallies.map Tally.c)], .sl none (a2.map Deal.c)] []) (fun p => rRes p.2 p.1 = impl_behind_enc r) := by
 unfold impl_behind at h
 refine Ev.enter (F := fun k => f58 (CN k) k) (fun k => callN_eq rfl Try.func58 rfl rfl rfl (by decide +kernel) (f58_eq _ _)) (sq (Rg (kx (bxI rfl rfl ⟨rfl, rfl, by decide⟩) (ku (alO zero27) fun M2 hM3 => ?_))))
 have o4 : M2[([] : Mem).length]? = some (.live ⟨.box, 27, 3, [[.int .i64 0, .nils, .nils]]⟩) := push_new hM3
 obtain ⟨⟨r11, r12⟩, hx10, h⟩ := bind_some h
 refine kx (mvO rfl) (Rn (hN rfl (hN rfl (hV (.loc ([] : Mem).length 1 0 0) rfl hZ))) fun e5 h7 h8 h9 => sN (sq (Rg (kx (ldPA h8 rfl rfl) (kx (mvO h7) (kc (cl (v := .tup [.sl (some 27) (r11.map Book.c), .int .i64 r12]) rfl rfl (cns rfl (cns rfl rfl)) rfl (impl_books_ok a1 a2 _ hx10) nm) (kx (mvO rfl) (kx (exT rfl rfl) (kx (exT rfl rfl) (kx (mvO rfl) (kx (mvO rfl) (Rn (hA h8 (hA h9 (hN rfl (hN rfl hZ)))) fun e13 h15 h16 h17 h18 => sN (sq (bl (sq (Rg (kx (mvO h18) (kx (bNeq rfl rfl) (kx (mvO rfl) (Rn (hA h15 (hA h16 (hA h17 (hA h18 (hN rfl hZ))))) fun e19 h21 h22 h23 h24 h25 => sN ?_))))))))))))))))))))
 clear h7 h8 h9 h15 h16 h17 h18
 rcases ite_some h with ⟨hb26, h⟩ | ⟨hb26, h⟩
 ·refine cT h25 hb26 (sq (Rg (kx (bldT zero27 rfl (fill0 rfl)) (kx (mvO h24) (kw (stO h22 rfl o4 rfl rfl ⟨rfl, ble rfl⟩ rfl rfl) fun M27 hM28 => ?_)))))
  have o29 : M27[([] : Mem).length]? = some (.live ⟨.box, 27, 3, [[.int .i64 0, .nils, .nils]]⟩) := set_same hM28 o4
  refine kx (mvO rfl) (Rn (hA h22 (hN rfl hZ)) fun e30 h32 h33 => sN (xx (bR (sR ?_))))
  clear h21 h22 h23 h24 h25
  obtain rfl := si h
  exact eR (resC (ag := true) (sz := 3) ⟨by kernel_rfl, by kernel_rfl, by kernel_rfl⟩ (ldOA h32 o29 rfl rfl (ble rfl) rfl) (resT h33 res0)) rfl
 refine cF h25 hb26 (sq (Rg (kx (mvO h23) (kx (lnS Try.underlying94 rfl) (kx (bEql rfl rfl) (kx (mvO rfl) (Rn (hA h21 (hA h22 (hA h23 (hN rfl hZ)))) fun e34 h36 h37 h38 h39 => sN ?_)))))))
 clear h21 h22 h23 h24 h25
 rcases ite_some h with ⟨hb40, h⟩ | ⟨hb40, h⟩
 ·obtain ⟨⟨r42, r43, r44⟩, hx41, h⟩ := bind_some h
  refine cT h39 hb40 (sq (Rg (kx (ldPA h36 rfl rfl) (kc (cl (v := .agg [.int .i64 r42, .sl (some 2) (r43.map (cI .i64)), .sl (some 49) (r44.map Tally.c)]) rfl rfl (cns rfl rfl) rfl (impl_ownBook_ok a1 _ hx41) nm) (kw (stO h37 rfl o4 rfl rfl ⟨rfl, ble rfl⟩ rfl rfl) fun M45 hM46 => ?_)))))
  have o47 : M45[([] : Mem).length]? = some (.live ⟨.box, 27, 3, [[.int .i64 r42, .sl none (r43.map (cI .i64)), .sl none (r44.map Tally.c)]]⟩) := set_same hM46 o4
  refine kx (mvO rfl) (Rn (hA h37 (hV (.int .i64 0) rfl hZ)) fun e48 h50 h51 => sN (xx (bR (sR ?_))))
  clear h36 h37 h38 h39
  obtain rfl := si h
  exact eR (resC (ag := true) (sz := 3) ⟨by kernel_rfl, by kernel_rfl, by kernel_rfl⟩ (ldOA h50 o47 rfl rfl (ble rfl) rfl) (resT h51 res0)) rfl
 obtain ⟨x52, hx53, h⟩ := bind_some h
 refine cF h39 hb40 (xx (bN (sN (sq (Rg (kx (mvO h38) (kx (mvO h38) (kx (lnS Try.underlying94 rfl) (kx (bSub rfl rfl) (kx (ixS rfl rfl hx53 Book.fl) (kx (ldPA rfl rfl rfl) (kw (stO h37 rfl o4 rfl rfl ⟨rfl, ble rfl⟩ rfl rfl) fun M54 hM55 => ?_))))))))))))
 have o56 : M54[([] : Mem).length]? = some (.live ⟨.box, 27, 3, [[.int .i64 x52.Day, .sl none (x52.Cash.map (cI .i64)), .sl none (x52.Tallies.map Tally.c)]]⟩) := set_same hM55 o4
 refine kx (mvO rfl) (Rn (hA h37 (hV (.int .i64 0) rfl hZ)) fun e57 h59 h60 => sN (xx ?_))
 clear h36 h37 h38 h39
 obtain rfl := si h
 exact eR (resC (ag := true) (sz := 3) ⟨by kernel_rfl, by kernel_rfl, by kernel_rfl⟩ (ldOA h59 o56 rfl rfl (ble rfl) rfl) (resT h60 res0)) rfl
def spec_l07Asked_c1_Q (a2 : List Deal) (g : Bool) (q : Out) : Prop := q.1 = .nrm ∧ eget q.2.1 1 = .sl none (a2.map Deal.c) ∧ eget q.2.1 12 = .bool g
noncomputable def spec_l07Asked (a1 : Book) (a2 : List Deal) : Option Int :=
 ((spec_l07Ok a1).bind fun r6 =>
 if r6 = true then
  (spec_l07Deals a2).bind fun r9 =>
  some (!r9)
 else
  some true).bind fun y20 =>
 if y20 = true then
  some 1
 else
  if (decide ((a2.length : Int) > 80)) = true then
   some 3
  else
   some 0
def spec_l07Asked_enc (r : Int) : AV := .int .i64 r
theorem spec_l07Asked_ok (a1 : Book) (a2 : List Deal) (r : Int) (h : spec_l07Asked a1 a2 = some r) : Ev (fun k => CN k 55 [.pt none [.int .i64 a1.Day, .sl none (a1.Cash.map (cI .i64)), .sl none (a1.Tallies.map Tally.c)], .sl none (a2.map Deal.c)] []) (fun p => rRes p.2 p.1 = spec_l07Asked_enc r) := by
 unfold spec_l07Asked at h
 obtain ⟨r38, hr39, h⟩ := bind_some h
 refine Ev.enter (F := fun k => f55 (CN k) k) (fun k => callN_eq rfl Try.func55 rfl rfl rfl (by decide +kernel) (f55_eq _ _)) (sq (Rg (kx (mvO rfl) (Rn (hN rfl (hN rfl hZ)) fun e1 h3 h4 => sN (sq (sq ?_))))))
 refine Ev.cut (Q1 := spec_l07Asked_c1_Q a2 r38) (by
     have h := hr39
     obtain ⟨r6, hx5, h⟩ := bind_some h
     refine Rg (kx (mvO h3) (kc (cl (v := .bool r6) rfl rfl (cns rfl rfl) rfl (spec_l07Ok_ok a1 _ hx5) nm) (kx (uNot rfl) (kx (mvO rfl) ?_))))
     rcases ite_some h with ⟨hb7, h⟩ | ⟨hb7, h⟩
     ·obtain ⟨r9, hx8, h⟩ := bind_some h
      refine kx (guF rfl (congrArg Bool.not hb7) (mvO h4)) (kc (Ev.guF rfl (congrArg Bool.not hb7) (cl (v := .bool r9) rfl rfl (cns rfl rfl) rfl (spec_l07Deals_ok a2 _ hx8) nm)) (kx (guF rfl (congrArg Bool.not hb7) (uNot rfl)) (kx (pkF rfl (congrArg Bool.not hb7) rfl) (Rn (hA h4 (hN rfl hZ)) fun e10 h12 h13 => ?_))))
      clear h3 h4
      obtain rfl := si h
      exact kd (show spec_l07Asked_c1_Q a2 _ _ from ⟨rfl, h12, h13⟩)
     refine kx (gsF rfl (congrArg Bool.not hb7)) (kc (Ev.gsF rfl (congrArg Bool.not hb7)) (kx (gsF rfl (congrArg Bool.not hb7)) (kx (pkT rfl (congrArg Bool.not hb7) rfl) (Rn (hA h4 (hV (.bool true) rfl hZ)) fun e14 h16 h17 => ?_))))
     clear h3 h4
     obtain rfl := si h
     exact kd (show spec_l07Asked_c1_Q a2 _ _ from ⟨rfl, h16, h17⟩)) ?_
 revert h hr39
 revert r38
 intro y20 hr39 h
 intro x e18 M19 hq37
 obtain ⟨rfl, h21, h22⟩ := hq37
 refine sN ?_
 rcases ite_some h with ⟨hb23, h⟩ | ⟨hb23, h⟩
 ·refine cT h22 hb23 (sq (Rg (kx (mvO rfl) (Rn (hV (.int .i64 1) rfl hZ) fun e24 h26 => sN (xx (sR ?_))))))
  clear h21 h22
  obtain rfl := si h
  exact eR (resT h26 res0) rfl
 refine cF h22 hb23 (xx (sN (sq (sq (Rg (kx (mvO h21) (kx (lnS Try.underlying28 rfl) (kx (bGtr rfl rfl) (Rn (hN rfl hZ) fun e27 h29 => sN ?_)))))))))
 clear h21 h22
 rcases ite_some h with ⟨hb30, h⟩ | ⟨hb30, h⟩
 ·refine cT h29 hb30 (sq (Rg (kx (mvO rfl) (Rn (hV (.int .i64 3) rfl hZ) fun e31 h33 => sN (xx (sR ?_))))))
  clear h29
  obtain rfl := si h
  exact eR (resT h33 res0) rfl
 refine cF h29 hb30 (xx (sN (sq (Rg (kx (mvO rfl) (Rn (hV (.int .i64 0) rfl hZ) fun e34 h36 => sN (xx ?_)))))))
 clear h29
 obtain rfl := si h
 exact eR (resT h36 res0) rfl
def impl_dealsCode_c1_Q (a2 : List Deal) (g : Bool) (q : Out) : Prop := q.1 = .nrm ∧ eget q.2.1 1 = .sl none (a2.map Deal.c) ∧ eget q.2.1 5 = .bool g
noncomputable def impl_dealsCode (a1 : Book) (a2 : List Deal) : Option Int :=
 ((impl_ValidBook a1).bind fun r6 =>
 if r6 = true then
  (impl_areDeals a2).bind fun r9 =>
  some (!r9)
 else
  some true).bind fun y20 =>
 if y20 = true then
  some 1
 else
  if (decide ((a2.length : Int) > 80)) = true then
   some 3
  else
   some 0
def impl_dealsCode_enc (r : Int) : AV := .int .i64 r
theorem impl_dealsCode_ok (a1 : Book) (a2 : List Deal) (r : Int) (h : impl_dealsCode a1 a2 = some r) : Ev (fun k => CN k 52 [.agg [.int .i64 a1.Day, .sl none (a1.Cash.map (cI .i64)), .sl none (a1.Tallies.map Tally.c)], .sl none (a2.map Deal.c)] []) (fun p => rRes p.2 p.1 = impl_dealsCode_enc r) := by
 unfold impl_dealsCode at h
 obtain ⟨r38, hr39, h⟩ := bind_some h
 refine Ev.enter (F := fun k => f52 (CN k) k) (fun k => callN_eq rfl Try.func52 rfl rfl rfl (by decide +kernel) (f52_eq _ _)) (sq (Rg (kx (bxI rfl rfl ⟨rfl, rfl, by decide⟩) (kx (mvO rfl) (Rn (hN rfl (hN rfl hZ)) fun e1 h3 h4 => sN (sq (bl (sq ?_))))))))
 refine Ev.cut (Q1 := impl_dealsCode_c1_Q a2 r38) (by
     have h := hr39
     obtain ⟨r6, hx5, h⟩ := bind_some h
     refine Rg (kx (ldPA h4 rfl rfl) (kc (cl (v := .bool r6) rfl rfl (cns rfl rfl) rfl (impl_ValidBook_ok a1 _ hx5) nm) (kx (uNot rfl) (kx (mvO rfl) ?_))))
     rcases ite_some h with ⟨hb7, h⟩ | ⟨hb7, h⟩
     ·obtain ⟨r9, hx8, h⟩ := bind_some h
      refine kx (guF rfl (congrArg Bool.not hb7) (mvO h3)) (kc (Ev.guF rfl (congrArg Bool.not hb7) (cl (v := .bool r9) rfl rfl (cns rfl rfl) rfl (impl_areDeals_ok a2 _ hx8) nm)) (kx (guF rfl (congrArg Bool.not hb7) (uNot rfl)) (kx (pkF rfl (congrArg Bool.not hb7) rfl) (kx (mvO rfl) (Rn (hA h3 (hN rfl hZ)) fun e10 h12 h13 => ?_)))))
      clear h3 h4
      obtain rfl := si h
      exact kd (show impl_dealsCode_c1_Q a2 _ _ from ⟨rfl, h12, h13⟩)
     refine kx (gsF rfl (congrArg Bool.not hb7)) (kc (Ev.gsF rfl (congrArg Bool.not hb7)) (kx (gsF rfl (congrArg Bool.not hb7)) (kx (pkT rfl (congrArg Bool.not hb7) rfl) (kx (mvO rfl) (Rn (hA h3 (hV (.bool true) rfl hZ)) fun e14 h16 h17 => ?_)))))
     clear h3 h4
     obtain rfl := si h
     exact kd (show impl_dealsCode_c1_Q a2 _ _ from ⟨rfl, h16, h17⟩)) ?_
 revert h hr39
 revert r38
 intro y20 hr39 h
 intro x e18 M19 hq37
 obtain ⟨rfl, h21, h22⟩ := hq37
 refine sN ?_
 rcases ite_some h with ⟨hb23, h⟩ | ⟨hb23, h⟩
 ·refine cT h22 hb23 (sq (Rg (kx (mvO rfl) (Rn (hV (.int .i64 1) rfl hZ) fun e24 h26 => sN (xx (bR (sR ?_)))))))
  clear h21 h22
  obtain rfl := si h
  exact eR (resT h26 res0) rfl
 refine cF h22 hb23 (sq (Rg (kx (mvO h21) (kx (lnS Try.underlying28 rfl) (kx (bGtr rfl rfl) (kx (mvO rfl) (Rn (hN rfl hZ) fun e27 h29 => sN ?_)))))))
 clear h21 h22
 rcases ite_some h with ⟨hb30, h⟩ | ⟨hb30, h⟩
 ·refine cT h29 hb30 (sq (Rg (kx (mvO rfl) (Rn (hV (.int .i64 3) rfl hZ) fun e31 h33 => sN (xx (bR (sR ?_)))))))
  clear h29
  obtain rfl := si h
  exact eR (resT h33 res0) rfl
 refine cF h29 hb30 (xx (bN (sN (sq (Rg (kx (mvO rfl) (Rn (hV (.int .i64 0) rfl hZ) fun e34 h36 => sN (xx ?_))))))))
 clear h29
 obtain rfl := si h
 exact eR (resT h36 res0) rfl
noncomputable def impl_OwesInAll (a1 : Book) (a2 : Int) : Option (Int × Int) :=
 (impl_personCode a1 a2).bind fun r6 =>
 if (r6 != 0) = true then
  some (0, r6)
 else
  (impl_getsAndOwes a1 a2).bind fun (r24, r25) =>
  some (r25, 0)
def impl_OwesInAll_enc (r : Int × Int) : AV := .tup [.int .i64 r.1, .int .i64 r.2]
theorem impl_OwesInAll_ok (a1 : Book) (a2 : Int) (r : Int × Int) (h : impl_OwesInAll a1 a2 = some r) : Ev (fun k => CN k 36 [.agg [.int .i64 a1.Day, .sl none (a1.Cash.map (cI .i64)), .sl none (a1.Tallies.map Tally.c)], .int .i64 a2] []) (fun p => rRes p.2 p.1 = impl_OwesInAll_enc r) := by
 unfold impl_OwesInAll at h
 obtain ⟨r6, hx5, h⟩ := bind_some h
 refine Ev.enter (F := fun k => f36 (CN k) k) (fun k => callN_eq rfl Try.func36 rfl rfl rfl (by decide +kernel) (f36_eq _ _)) (sq (Rg (kx (bxI rfl rfl ⟨rfl, rfl, by decide⟩) (kx (mvO rfl) (kx (mvO rfl) (Rn (hN rfl (hN rfl hZ)) fun e1 h3 h4 => sN (sq (sq (Rg (kx (ldPA h4 rfl rfl) (kx (mvO h3) (kc (cl (v := .int .i64 r6) rfl rfl (cns rfl (cns rfl rfl)) rfl (impl_personCode_ok a1 a2 _ hx5) nm) (kx (mvO rfl) (Rn (hA h3 (hA h4 (hN rfl hZ))) fun e7 h9 h10 h11 => sN (sq (Rg (kx (mvO h11) (kx (bNeq rfl rfl) (Rn (hA h9 (hA h10 (hA h11 (hN rfl hZ)))) fun e12 h14 h15 h16 h17 => sN ?_)))))))))))))))))))
 clear h3 h4 h10 h11 h9
 rcases ite_some h with ⟨hb18, h⟩ | ⟨hb18, h⟩
 ·refine cT h17 hb18 (sq (Rg (kx (mvO h16) (kx (mvO rfl) (kx (mvO rfl) (Rn (hV (.int .i64 0) rfl (hN rfl hZ)) fun e19 h21 h22 => sN (xx (sR ?_))))))))
  clear h14 h15 h16 h17
  obtain rfl := si h
  exact eR (resT h21 (resT h22 res0)) rfl
 obtain ⟨⟨r24, r25⟩, hx23, h⟩ := bind_some h
 refine cF h17 hb18 (xx (sN (sq (Rg (kx (ldPA h15 rfl rfl) (kx (mvO h14) (kc (cl (v := .tup [.int .i64 r24, .int .i64 r25]) rfl rfl (cns rfl (cns rfl rfl)) rfl (impl_getsAndOwes_ok a1 a2 _ hx23) nm) (kx (mvO rfl) (kx (exT rfl rfl) (kx (exT rfl rfl) (kx (mvO rfl) (kx (mvO rfl) (Rn (hN rfl hZ) fun e26 h28 => sN (sq (Rg (kx (mvO h28) (kx (mvO rfl) (kx (mvO rfl) (Rn (hN rfl (hV (.int .i64 0) rfl hZ)) fun e29 h31 h32 => sN (xx ?_))))))))))))))))))))
 clear h14 h15 h16 h17 h28
 obtain rfl := si h
 exact eR (resT h31 (resT h32 res0)) rfl
noncomputable def impl_GetsInAll (a1 : Book) (a2 : Int) : Option (Int × Int) :=
 (impl_personCode a1 a2).bind fun r6 =>
 if (r6 != 0) = true then
  some (0, r6)
 else
  (impl_getsAndOwes a1 a2).bind fun (r24, r25) =>
  some (r24, 0)
def impl_GetsInAll_enc (r : Int × Int) : AV := .tup [.int .i64 r.1, .int .i64 r.2]
theorem impl_GetsInAll_ok (a1 : Book) (a2 : Int) (r : Int × Int) (h : impl_GetsInAll a1 a2 = some r) : Ev (fun k => CN k 35 [.agg [.int .i64 a1.Day, .sl none (a1.Cash.map (cI .i64)), .sl none (a1.Tallies.map Tally.c)], .int .i64 a2] []) (fun p => rRes p.2 p.1 = impl_GetsInAll_enc r) := by
 unfold impl_GetsInAll at h
 obtain ⟨r6, hx5, h⟩ := bind_some h
 refine Ev.enter (F := fun k => f35 (CN k) k) (fun k => callN_eq rfl Try.func35 rfl rfl rfl (by decide +kernel) (f35_eq _ _)) (sq (Rg (kx (bxI rfl rfl ⟨rfl, rfl, by decide⟩) (kx (mvO rfl) (kx (mvO rfl) (Rn (hN rfl (hN rfl hZ)) fun e1 h3 h4 => sN (sq (sq (Rg (kx (ldPA h4 rfl rfl) (kx (mvO h3) (kc (cl (v := .int .i64 r6) rfl rfl (cns rfl (cns rfl rfl)) rfl (impl_personCode_ok a1 a2 _ hx5) nm) (kx (mvO rfl) (Rn (hA h3 (hA h4 (hN rfl hZ))) fun e7 h9 h10 h11 => sN (sq (Rg (kx (mvO h11) (kx (bNeq rfl rfl) (Rn (hA h9 (hA h10 (hA h11 (hN rfl hZ)))) fun e12 h14 h15 h16 h17 => sN ?_)))))))))))))))))))
 clear h3 h4 h10 h11 h9
 rcases ite_some h with ⟨hb18, h⟩ | ⟨hb18, h⟩
 ·refine cT h17 hb18 (sq (Rg (kx (mvO h16) (kx (mvO rfl) (kx (mvO rfl) (Rn (hV (.int .i64 0) rfl (hN rfl hZ)) fun e19 h21 h22 => sN (xx (sR ?_))))))))
  clear h14 h15 h16 h17
  obtain rfl := si h
  exact eR (resT h21 (resT h22 res0)) rfl
 obtain ⟨⟨r24, r25⟩, hx23, h⟩ := bind_some h
 refine cF h17 hb18 (xx (sN (sq (Rg (kx (ldPA h15 rfl rfl) (kx (mvO h14) (kc (cl (v := .tup [.int .i64 r24, .int .i64 r25]) rfl rfl (cns rfl (cns rfl rfl)) rfl (impl_getsAndOwes_ok a1 a2 _ hx23) nm) (kx (mvO rfl) (kx (exT rfl rfl) (kx (exT rfl rfl) (kx (mvO rfl) (kx (mvO rfl) (Rn (hN rfl hZ) fun e26 h28 => sN (sq (Rg (kx (mvO h28) (kx (mvO rfl) (kx (mvO rfl) (Rn (hN rfl (hV (.int .i64 0) rfl hZ)) fun e29 h31 h32 => sN (xx ?_))))))))))))))))))))
 clear h14 h15 h16 h17 h28
 obtain rfl := si h
 exact eR (resT h31 (resT h32 res0)) rfl
noncomputable def spec_NetsOf (a1 : Int) (a2 : List Debt) : Option ((List Int) × Int) :=
 (spec_l02Ok a1 a2).bind fun r6 =>
 if r6 = true then
  (spec_l02Nets a1 a2).bind fun r14 =>
  some (r14, 0)
 else
  some (([] : List Int), 1)
def spec_NetsOf_enc (r : (List Int) × Int) : AV := .tup [.sl (some 2) (r.1.map (cI .i64)), .int .i64 r.2]
theorem spec_NetsOf_ok (a1 : Int) (a2 : List Debt) (r : (List Int) × Int) (h : spec_NetsOf a1 a2 = some r) : Ev (fun k => CN k 34 [.int .i64 a1, .sl none (a2.map Debt.c)] []) (fun p => rRes p.2 p.1 = spec_NetsOf_enc r) := by
 unfold spec_NetsOf at h
 obtain ⟨r6, hx5, h⟩ := bind_some h
 refine Ev.enter (F := fun k => f34 (CN k) k) (fun k => callN_eq rfl Try.func34 rfl rfl rfl (by decide +kernel) (f34_eq _ _)) (sq (Rg (kx (mvO rfl) (kx (mvO rfl) (Rn (hN rfl (hN rfl hZ)) fun e1 h3 h4 => sN (sq (sq (Rg (kx (mvO h3) (kx (mvO h4) (kc (cl (v := .bool r6) rfl rfl (cns rfl (cns rfl rfl)) rfl (spec_l02Ok_ok a1 a2 _ hx5) nm) (kx (uNot rfl) (Rn (hA h3 (hA h4 (hN rfl hZ))) fun e7 h9 h10 h11 => sN ?_)))))))))))))
 clear h3 h4
 rcases ite_some h with ⟨hb12, h⟩ | ⟨hb12, h⟩
 ·obtain ⟨r14, hx13, h⟩ := bind_some h
  refine cF h11 (congrArg Bool.not hb12) (xx (sN (sq (Rg (kx (mvO h9) (kx (mvO h10) (kc (cl (v := .sl (some 2) (r14.map (cI .i64))) rfl rfl (cns rfl (cns rfl rfl)) rfl (spec_l02Nets_ok a1 a2 _ hx13) nm) (kx (mvO rfl) (kx (mvO rfl) (Rn (hN rfl (hV (.int .i64 0) rfl hZ)) fun e15 h17 h18 => sN (xx ?_)))))))))))
  clear h10 h11 h9
  obtain rfl := si h
  exact eR (resT h17 (resT h18 res0)) rfl
 refine cT h11 (congrArg Bool.not hb12) (sq (Rg (kx (litI rfl rfl ⟨rfl, by decide⟩) (kx (mvO rfl) (kx (mvO rfl) (Rn (hN rfl (hV (.int .i64 1) rfl hZ)) fun e19 h21 h22 => sN (xx (sR ?_))))))))
 clear h10 h11 h9
 obtain rfl := si h
 exact eR (resT h21 (resT h22 res0)) rfl
noncomputable def spec_SameDebts (a1 : List Debt) (a2 : List Debt) : Option Bool :=
 (spec_l02Same a1 a2).bind fun r6 =>
 some r6
def spec_SameDebts_enc (r : Bool) : AV := .bool r
theorem spec_SameDebts_ok (a1 : List Debt) (a2 : List Debt) (r : Bool) (h : spec_SameDebts a1 a2 = some r) : Ev (fun k => CN k 33 [.sl none (a1.map Debt.c), .sl none (a2.map Debt.c)] []) (fun p => rRes p.2 p.1 = spec_SameDebts_enc r) := by
 unfold spec_SameDebts at h
 obtain ⟨r6, hx5, h⟩ := bind_some h
 refine Ev.enter (F := fun k => f33 (CN k) k) (fun k => callN_eq rfl Try.func33 rfl rfl rfl (by decide +kernel) (f33_eq _ _)) (sq (Rg (kx (mvO rfl) (Rn (hN rfl (hN rfl hZ)) fun e1 h3 h4 => sN (sq (Rg (kx (mvO h3) (kx (mvO h4) (kc (cl (v := .bool r6) rfl rfl (cns rfl (cns rfl rfl)) rfl (spec_l02Same_ok a1 a2 _ hx5) nm) (kx (mvO rfl) (Rn (hN rfl hZ) fun e7 h9 => sN (xx ?_))))))))))))
 clear h3 h4
 obtain rfl := si h
 exact eR (resT h9 res0) rfl
abbrev spec_DebtsIn_b1_S := Int × (List Debt)
abbrev spec_DebtsIn_b1_R := (List Debt)
def spec_DebtsIn_b1_RS (a1 : Book) (i1_1 : Nat) (s : spec_DebtsIn_b1_S) (e : Env) (M : Mem) : Prop := eget e 1 = .pt none [.int .i64 a1.Day, .sl none (a1.Cash.map (cI .i64)), .sl none (a1.Tallies.map Tally.c)] ∧ eget e 4 = .lsl i1_1 s.2.length 0 s.2.length ∧ eget e 5 = .int .i64 s.1 ∧ M[i1_1]? = some (.live ⟨.grow, 114, 3, s.2.map Debt.c⟩)
def spec_DebtsIn_b1_RR (a1 : Book) (i1_1 : Nat) (g : spec_DebtsIn_b1_R) (x : Ex) (e : Env) (M : Mem) : Prop := x = .ext 0 ∧ eget e 4 = .lsl i1_1 g.length 0 g.length ∧ M[i1_1]? = some (.live ⟨.grow, 114, 3, g.map Debt.c⟩)
noncomputable def spec_DebtsIn_b1 (a1 : Book) : spec_DebtsIn_b1_S → Option (spec_DebtsIn_b1_S ⊕ spec_DebtsIn_b1_R) := fun (s1_1, s1_2) =>
 if (decide (s1_1 < (a1.Tallies.length : Int))) = true then
  (rd a1.Tallies s1_1).bind fun x49 =>
  if (decide (x49.Left > 0)) = true then
   (app 24 s1_2 [(Debt.mk x49.Debtor x49.Holder x49.Left)]).bind fun x65 =>
   some (.inl ((IntKind.i64.wrap (s1_1 + 1)), x65))
  else
   some (.inl ((IntKind.i64.wrap (s1_1 + 1)), s1_2))
 else
  some (.inr s1_2)
theorem spec_DebtsIn_b1_ok (a1 : Book) (i1_1 : Nat) (s : spec_DebtsIn_b1_S) (r : spec_DebtsIn_b1_S ⊕ spec_DebtsIn_b1_R) (h : spec_DebtsIn_b1 a1 s = some r) (e : Env) (M : Mem) (hs : spec_DebtsIn_b1_RS a1 i1_1 s e M) : Ev (fun k => (f32_l5 (CN k) k (prune [1, 4, 5] e) M).bind fun q => some q) (bQ (spec_DebtsIn_b1_RS a1 i1_1) (spec_DebtsIn_b1_RR a1 i1_1) r) := by
 obtain ⟨s1_1, s1_2⟩ := s
 unfold spec_DebtsIn_b1 at h
 obtain ⟨h35, h37, h39, o41⟩ := hs
 generalize he34 : prune [1, 4, 5] e = e33
 have h36 := envp he34.symm rfl h35
 have h38 := envp he34.symm rfl h37
 have h40 := envp he34.symm rfl h39
 refine sq (sq (Rg (kx (mvO h40) (kx (faP h36 ⟨ble rfl, blt rfl⟩ rfl) (kx (ldP rfl rfl) (kx (lnS Try.underlying25 rfl) (kx (bLss rfl rfl) (Rn (hV (.pt none [.int .i64 a1.Day, .sl none (a1.Cash.map (cI .i64)), .sl none (a1.Tallies.map Tally.c)]) h36 (hV (.lsl i1_1 s1_2.length 0 s1_2.length) h38 (hV (.int .i64 s1_1) h40 (hN rfl hZ)))) fun e42 h44 h45 h46 h47 => sN ?_))))))))
 clear h36 h38 h40
 rcases ite_some h with ⟨hb48, h⟩ | ⟨hb48, h⟩
 ·obtain ⟨x49, hx50, h⟩ := bind_some h
  refine cT h47 hb48 (xx (sN (sq (bl (sq (Rg (kx (faP h44 ⟨ble rfl, blt rfl⟩ rfl) (kx (ldP rfl rfl) (kx (mvO h46) (kx (ixS rfl rfl hx50 Tally.fl) (kx (mvO rfl) (Rn (hA h44 (hA h45 (hA h46 (hN rfl hZ)))) fun e51 h53 h54 h55 h56 => sN (sq (Rg (kx (mvO h56) (kx (ncP rfl) (kx (faP rfl ⟨ble rfl, blt rfl⟩ rfl) (kx (ldP rfl rfl) (kx (bGtr rfl rfl) (Rn (hA h53 (hA h54 (hA h55 (hA h56 (hN rfl hZ))))) fun e57 h59 h60 h61 h62 h63 => sN ?_))))))))))))))))))))
  clear h44 h45 h46 h47 h53 h54 h55 h56
  rcases ite_some h with ⟨hb64, h⟩ | ⟨hb64, h⟩
  ·obtain ⟨x65, hx66, h⟩ := bind_some h
   refine cT h63 hb64 (Rd (kf (mvO h60) (kf (mvO h62) (kf (ncP rfl) (kf (faP rfl ⟨ble rfl, blt rfl⟩ rfl) (kf (ldP rfl rfl) (kf (mvO h62) (kf (ncP rfl) (kf (faP rfl ⟨ble rfl, blt rfl⟩ rfl) (kf (ldP rfl rfl) (kf (mvO h62) (kf (ncP rfl) (kf (faP rfl ⟨ble rfl, blt rfl⟩ rfl) (kf (ldP rfl rfl) (kf (bldT zero114 (cns (pr3 rfl) (cns (pr3 rfl) (cns (pr3 rfl) rfl))) (fill1 ⟨rfl, ble rfl⟩ rfl rfl (fill1 ⟨rfl, ble rfl⟩ rfl rfl (fill1 ⟨rfl, ble rfl⟩ rfl rfl (fill0 rfl))))) (kf (litI (cns rfl rfl) rfl ⟨rfl, by decide⟩) (fZ (kw (apO rfl o41 rfl (elT (c := Debt.c) (xs := [(Debt.mk x49.Debtor x49.Holder x49.Left)]) rfl) hx66 Debt.fl (by decide)) fun M67 hM68 => ?_))))))))))))))))))
   have o69 : M67[i1_1]? = some (.live ⟨.grow, 114, 3, x65.map Debt.c⟩) := set_same hM68 o41
   refine kx (mvO rfl) (Rn (hA h59 (hV (.lsl i1_1 x65.length 0 x65.length) rfl (hA h61 hZ))) fun e70 h72 h73 h74 => bN (sN (Rg (kx (mvO h74) (kx (bAdd rfl rfl) (kx (mvO rfl) (Rn (hA h72 (hA h73 (hN rfl hZ))) fun e75 h77 h78 h79 => ?_)))))))
   clear h59 h61 h62 h63 h72 h73
   obtain rfl := si h
   exact qN ⟨h77, h78, h79, o69⟩
  refine cF h63 hb64 (xx (bN (sN (Rg (kx (mvO h61) (kx (bAdd rfl rfl) (kx (mvO rfl) (Rn (hA h59 (hA h60 (hN rfl hZ))) fun e80 h82 h83 h84 => ?_))))))))
  clear h59 h60 h62 h63
  obtain rfl := si h
  exact qN ⟨h82, h83, h84, o41⟩
 refine cF h47 hb48 (xx (sE ?_))
 obtain rfl := si h
 exact qE ⟨rfl, h45, o41⟩
noncomputable def spec_DebtsIn (a1 : Book) : Option ((List Debt) × Int) :=
 (spec_l07Ok a1).bind fun r5 =>
 if r5 = true then
  (Lw (spec_DebtsIn_b1 a1) (0, ([] : List Debt))).bind fun y90 =>
  (spec_l02Sums y90).bind fun r94 =>
  (spec_l02List r94).bind fun (r96, r97) =>
  some (r96, r97)
 else
  some (([] : List Debt), 1)
def spec_DebtsIn_enc (r : (List Debt) × Int) : AV := .tup [.sl (some 114) (r.1.map Debt.c), .int .i64 r.2]
theorem spec_DebtsIn_ok (a1 : Book) (r : (List Debt) × Int) (h : spec_DebtsIn a1 = some r) : Ev (fun k => CN k 32 [.agg [.int .i64 a1.Day, .sl none (a1.Cash.map (cI .i64)), .sl none (a1.Tallies.map Tally.c)]] []) (fun p => rRes p.2 p.1 = spec_DebtsIn_enc r) := by
 unfold spec_DebtsIn at h
 obtain ⟨r5, hx4, h⟩ := bind_some h
 refine Ev.enter (F := fun k => f32 (CN k) k) (fun k => callN_eq rfl Try.func32 rfl rfl rfl (by decide +kernel) (f32_eq _ _)) (sq (Rg (kx (bxI rfl rfl ⟨rfl, rfl, by decide⟩) (kx (mvO rfl) (kx (mvO rfl) (Rn (hN rfl hZ) fun e1 h3 => sN (sq (sq (Rg (kc (cl (v := .bool r5) rfl rfl (cns h3 rfl) rfl (spec_l07Ok_ok a1 _ hx4) nm) (kx (uNot rfl) (Rn (hA h3 (hN rfl hZ)) fun e6 h8 h9 => sN ?_))))))))))))
 clear h3
 rcases ite_some h with ⟨hb10, h⟩ | ⟨hb10, h⟩
 ·refine cF h9 (congrArg Bool.not hb10) (xx (sN (sq (Rg (ku (litO (xs := ([] : List Debt)) (c := Debt.c) rfl rfl (by decide)) fun M12 hM13 => ?_)))))
  have o14 : M12[([] : Mem).length]? = some (.live ⟨.grow, 114, 3, ([] : List Debt).map Debt.c⟩) := push_new hM13
  obtain ⟨y90, hr86, h⟩ := bind_some h
  refine kx (mvO rfl) (Rn (hA h8 (hV (.lsl ([] : Mem).length ([] : List Debt).length 0 ([] : List Debt).length) rfl hZ)) fun e15 h17 h18 => sN (sq (sq (Rg (kx (mvO rfl) (Rn (hA h17 (hA h18 (hV (.int .i64 0) rfl hZ))) fun e19 h21 h22 h23 => sN (bl (Ev.loop (RS := spec_DebtsIn_b1_RS a1 (([] : Mem).length)) (RR := spec_DebtsIn_b1_RR a1 (([] : Mem).length)) (fun s r h e M hs => spec_DebtsIn_b1_ok a1 (([] : Mem).length) s r h e M hs) hr86 ⟨h21, h22, h23, o14⟩ fun x e88 M89 hq87 => ?_))))))))
  clear h8 h9 h17 h18
  obtain ⟨rfl, h91, o92⟩ := hq87
  obtain ⟨r94, hx93, h⟩ := bind_some h
  obtain ⟨⟨r96, r97⟩, hx95, h⟩ := bind_some h
  refine bE (sN (sq (Rg (kx (mvO h91) (kc (cl (v := .pt (some 154) (arC (arC (n := 16) (cI .i64) 0) (Ar.rep 16 0) r94)) rfl rfl (cns rfl rfl) (ra1 (ra1_row o92 rfl Debt.fl) ra0) (spec_l02Sums_ok y90 _ hx93) (fun _ => rfl)) (kc (cl (v := .tup [.sl (some 114) (r96.map Debt.c), .int .i64 r97]) rfl rfl (cns rfl rfl) rfl (spec_l02List_ok r94 _ hx95) nm) (kx (exT rfl rfl) (kx (exT rfl rfl) (kx (mvO rfl) (kx (mvO rfl) (Rn (hN rfl (hN rfl hZ)) fun e98 h100 h101 => sN (xx ?_))))))))))))
  clear h91
  obtain rfl := si h
  exact eR (resT h100 (resT h101 res0)) rfl
 refine cT h9 (congrArg Bool.not hb10) (sq (Rg (kx (litI rfl rfl ⟨rfl, by decide⟩) (kx (mvO rfl) (kx (mvO rfl) (Rn (hN rfl (hV (.int .i64 1) rfl hZ)) fun e102 h104 h105 => sN (xx (sR ?_))))))))
 clear h8 h9
 obtain rfl := si h
 exact eR (resT h104 (resT h105 res0)) rfl
abbrev impl_DebtsIn_b1_S := Int × (List Debt)
abbrev impl_DebtsIn_b1_R := (List Debt)
def impl_DebtsIn_b1_RS (a1 : Book) (i1_1 : Nat) (s : impl_DebtsIn_b1_S) (e : Env) (M : Mem) : Prop := eget e 1 = .pt none [.int .i64 a1.Day, .sl none (a1.Cash.map (cI .i64)), .sl none (a1.Tallies.map Tally.c)] ∧ eget e 4 = .lsl i1_1 s.2.length 0 s.2.length ∧ eget e 12 = .sl none (a1.Tallies.map Tally.c) ∧ eget e 13 = .int .i64 (a1.Tallies.length : Int) ∧ eget e 14 = .int .i64 s.1 ∧ M[i1_1]? = some (.live ⟨.grow, 114, 3, s.2.map Debt.c⟩)
def impl_DebtsIn_b1_RR (a1 : Book) (i1_1 : Nat) (g : impl_DebtsIn_b1_R) (x : Ex) (e : Env) (M : Mem) : Prop := x = .ext 0 ∧ eget e 1 = .pt none [.int .i64 a1.Day, .sl none (a1.Cash.map (cI .i64)), .sl none (a1.Tallies.map Tally.c)] ∧ eget e 4 = .lsl i1_1 g.length 0 g.length ∧ M[i1_1]? = some (.live ⟨.grow, 114, 3, g.map Debt.c⟩)
noncomputable def impl_DebtsIn_b1 (a1 : Book) : impl_DebtsIn_b1_S → Option (impl_DebtsIn_b1_S ⊕ impl_DebtsIn_b1_R) := fun (s1_1, s1_2) =>
 if (decide (s1_1 < (a1.Tallies.length : Int))) = true then
  (rd a1.Tallies s1_1).bind fun x61 =>
  if (decide (x61.Left > 0)) = true then
   (app 24 s1_2 [(Debt.mk x61.Debtor x61.Holder x61.Left)]).bind fun x91 =>
   some (.inl ((IntKind.i64.wrap (s1_1 + 1)), x91))
  else
   some (.inl ((IntKind.i64.wrap (s1_1 + 1)), s1_2))
 else
  some (.inr s1_2)
theorem impl_DebtsIn_b1_ok (a1 : Book) (i1_1 : Nat) (s : impl_DebtsIn_b1_S) (r : impl_DebtsIn_b1_S ⊕ impl_DebtsIn_b1_R) (h : impl_DebtsIn_b1 a1 s = some r) (e : Env) (M : Mem) (hs : impl_DebtsIn_b1_RS a1 i1_1 s e M) : Ev (fun k => (f31_l5 (CN k) k (prune [1, 4, 12, 13, 14] e) M).bind fun q => some q) (bQ (impl_DebtsIn_b1_RS a1 i1_1) (impl_DebtsIn_b1_RR a1 i1_1) r) := by
 obtain ⟨s1_1, s1_2⟩ := s
 unfold impl_DebtsIn_b1 at h
 obtain ⟨h41, h43, h45, h47, h49, o51⟩ := hs
 generalize he40 : prune [1, 4, 12, 13, 14] e = e39
 have h42 := envp he40.symm rfl h41
 have h44 := envp he40.symm rfl h43
 have h46 := envp he40.symm rfl h45
 have h48 := envp he40.symm rfl h47
 have h50 := envp he40.symm rfl h49
 refine sq (Rg (kx (bLss h50 h48) (Rn (hV (.pt none [.int .i64 a1.Day, .sl none (a1.Cash.map (cI .i64)), .sl none (a1.Tallies.map Tally.c)]) h42 (hV (.lsl i1_1 s1_2.length 0 s1_2.length) h44 (hV (.sl none (a1.Tallies.map Tally.c)) h46 (hV (.int .i64 (a1.Tallies.length : Int)) h48 (hV (.int .i64 s1_1) h50 (hN rfl hZ)))))) fun e52 h54 h55 h56 h57 h58 h59 => sN (sq ?_))))
 clear h42 h44 h46 h48 h50
 rcases ite_some h with ⟨hb60, h⟩ | ⟨hb60, h⟩
 ·obtain ⟨x61, hx62, h⟩ := bind_some h
  refine cT h59 hb60 (xx (sN (sq (bl (sq (Rg (kx (ixS h56 h58 hx62 Tally.fl) (kx (ldPA rfl rfl rfl) (ku (alO zero49) fun M64 hM65 => ?_)))))))))
  have o66 := push_old hM65 o51
  have ne67 := ne_new o51
  have o68 : M64[M.length]? = some (.live ⟨.box, 49, 5, [[.int .i64 0, .int .i64 0, .int .i64 0, .int .i64 0, .int .i64 0]]⟩) := push_new hM65
  refine kw (stO rfl rfl o68 rfl rfl ⟨rfl, ble rfl⟩ rfl rfl) fun M69 hM70 => ?_
  have o71 := set_ne hM70 ne67 o66
  have o72 : M69[M.length]? = some (.live ⟨.box, 49, 5, [[.int .i64 x61.Debtor, .int .i64 x61.Holder, .int .i64 x61.Cut, .int .i64 x61.Amount, .int .i64 x61.Left]]⟩) := set_same hM70 o68
  refine Rn (hA h54 (hA h55 (hV (.loc M.length 1 0 0) rfl (hA h56 (hA h57 (hA h58 hZ)))))) fun e73 h75 h76 h77 h78 h79 h80 => sN (sq (Rg (kx (faO h77 o72 rfl) (kx (ldO rfl o72 rfl rfl rfl) (kx (bGtr rfl rfl) (Rn (hA h75 (hA h76 (hA h77 (hA h78 (hA h79 (hA h80 (hN rfl hZ))))))) fun e81 h83 h84 h85 h86 h87 h88 h89 => sN ?_))))))
  clear h54 h55 h56 h57 h58 h59 h75 h76 h77 h78 h79 h80
  rcases ite_some h with ⟨hb90, h⟩ | ⟨hb90, h⟩
  ·obtain ⟨x91, hx92, h⟩ := bind_some h
   refine cT h89 hb90 (Rg (kx (mvO h84) (kx (faO h85 o72 rfl) (kx (ldO rfl o72 rfl rfl rfl) (kx (faO h85 o72 rfl) (kx (ldO rfl o72 rfl rfl rfl) (kx (faO h85 o72 rfl) (kx (ldO rfl o72 rfl rfl rfl) (kx (bldT zero114 (cns (pr3 rfl) (cns (pr3 rfl) (cns (pr3 rfl) rfl))) (fill1 ⟨rfl, ble rfl⟩ rfl rfl (fill1 ⟨rfl, ble rfl⟩ rfl rfl (fill1 ⟨rfl, ble rfl⟩ rfl rfl (fill0 rfl))))) (kx (litI (cns rfl rfl) rfl ⟨rfl, by decide⟩) (kw (apO rfl o71 rfl (elT (c := Debt.c) (xs := [(Debt.mk x61.Debtor x61.Holder x61.Left)]) rfl) hx92 Debt.fl (by decide)) fun M93 hM94 => ?_)))))))))))
   have o95 : M93[i1_1]? = some (.live ⟨.grow, 114, 3, x91.map Debt.c⟩) := set_same hM94 o71
   have o96 := set_ne hM94 (Ne.symm ne67) o72
   refine kx (mvO rfl) (Rn (hA h83 (hV (.lsl i1_1 x91.length 0 x91.length) rfl (hA h86 (hA h87 (hA h88 hZ))))) fun e97 h99 h100 h101 h102 h103 => bN (sN (Rg (kx (bAdd h103 rfl) (kx (mvO rfl) (Rn (hA h99 (hA h100 (hA h101 (hA h102 (hN rfl hZ))))) fun e104 h106 h107 h108 h109 h110 => ?_))))))
   clear h83 h85 h86 h87 h88 h89 h100 h101 h102 h99
   obtain rfl := si h
   exact qN ⟨h106, h107, h108, h109, h110, o95⟩
  refine cF h89 hb90 (xx (bN (sN (Rg (kx (bAdd h88 rfl) (kx (mvO rfl) (Rn (hA h83 (hA h84 (hA h86 (hA h87 (hN rfl hZ))))) fun e111 h113 h114 h115 h116 h117 => ?_)))))))
  clear h83 h84 h85 h86 h87 h89
  obtain rfl := si h
  exact qN ⟨h113, h114, h115, h116, h117, o71⟩
 refine cF h59 hb60 (xx (sE ?_))
 obtain rfl := si h
 exact qE ⟨rfl, h54, h55, o51⟩
noncomputable def impl_DebtsIn (a1 : Book) : Option ((List Debt) × Int) :=
 (impl_ValidBook a1).bind fun r5 =>
 if r5 = true then
  (Lw (impl_DebtsIn_b1 a1) (0, ([] : List Debt))).bind fun y123 =>
  (impl_JoinDebts (a1.Cash.length : Int) y123).bind fun r => match r with
  | (.inl r128) =>
   some (([] : List Debt), r128)
  | (.inr r133) =>
   some (r133, 0)
 else
  some (([] : List Debt), 1)
def impl_DebtsIn_enc (r : (List Debt) × Int) : AV := .tup [.sl none (r.1.map Debt.c), .int .i64 r.2]
theorem impl_DebtsIn_ok (a1 : Book) (r : (List Debt) × Int) (h : impl_DebtsIn a1 = some r) : Ev (fun k => CN k 31 [.agg [.int .i64 a1.Day, .sl none (a1.Cash.map (cI .i64)), .sl none (a1.Tallies.map Tally.c)]] []) (fun p => wkR (rRes p.2 p.1) = impl_DebtsIn_enc r ∧ ownAll (rRes p.2 p.1) = true) := by
 unfold impl_DebtsIn at h
 obtain ⟨r5, hx4, h⟩ := bind_some h
 refine Ev.enter (F := fun k => f31 (CN k) k) (fun k => callN_eq rfl Try.func31 rfl rfl rfl (by decide +kernel) (f31_eq _ _)) (sq (Rg (kx (bxI rfl rfl ⟨rfl, rfl, by decide⟩) (kx (mvO rfl) (kx (mvO rfl) (Rn (hN rfl hZ) fun e1 h3 => sN (sq (sq (Rg (kx (ldPA h3 rfl rfl) (kc (cl (v := .bool r5) rfl rfl (cns rfl rfl) rfl (impl_ValidBook_ok a1 _ hx4) nm) (kx (uNot rfl) (Rn (hA h3 (hN rfl hZ)) fun e6 h8 h9 => sN ?_)))))))))))))
 clear h3
 rcases ite_some h with ⟨hb10, h⟩ | ⟨hb10, h⟩
 ·refine cF h9 (congrArg Bool.not hb10) (xx (sN (sq (Rg (ku (litO (xs := ([] : List Debt)) (c := Debt.c) rfl rfl (by decide)) fun M12 hM13 => ?_)))))
  have o14 : M12[([] : Mem).length]? = some (.live ⟨.grow, 114, 3, ([] : List Debt).map Debt.c⟩) := push_new hM13
  obtain ⟨y123, hr119, h⟩ := bind_some h
  refine kx (mvO rfl) (Rn (hA h8 (hV (.lsl ([] : Mem).length ([] : List Debt).length 0 ([] : List Debt).length) rfl hZ)) fun e15 h17 h18 => sN (sq (sq (Rg (kx (faP h17 ⟨ble rfl, blt rfl⟩ rfl) (kx (ldP rfl rfl) (kx (lnS Try.underlying25 rfl) (kx (mvO rfl) (Rn (hA h17 (hA h18 (hN rfl (hN rfl (hV (.int .i64 0) rfl hZ))))) fun e19 h21 h22 h23 h24 h25 => sN (bl (Ev.loop (RS := impl_DebtsIn_b1_RS a1 (([] : Mem).length)) (RR := impl_DebtsIn_b1_RR a1 (([] : Mem).length)) (fun s r h e M hs => impl_DebtsIn_b1_ok a1 (([] : Mem).length) s r h e M hs) hr119 ⟨h21, h22, h23, h24, h25, o14⟩ fun x e121 M122 hq120 => ?_)))))))))))
  clear h8 h9 h17 h18
  obtain ⟨rfl, h124, h125, o126⟩ := hq120
  obtain ⟨q138, hx127, h⟩ := bind_some h
  refine bE (sN (sq (Rg (kx (faP h124 ⟨ble rfl, blt rfl⟩ rfl) (kx (ldP rfl rfl) (kx (lnS Try.underlying24 rfl) (kx (mvO h125) ?_)))))))
  rcases q138 with r128 | r133
  ·refine kc (cl (v := .tup [.nils, .int .i64 r128]) rfl rfl (cns rfl (cns rfl rfl)) (ra1 rfl (ra1 (ra1_row o126 rfl Debt.fl) ra0)) (impl_JoinDebts_ok (a1.Cash.length : Int) y123 _ hx127) (fun _ => (own_tup (oa1 rfl (oa1 rfl oa0))))) (kx (exT rfl rfl) (kx (exT rfl rfl) (kx (mvO rfl) (kx (mvO rfl) (Rn (hV .nils rfl (hN rfl hZ)) fun e129 h131 h132 => sN (xx ?_))))))
   clear h124 h125
   obtain rfl := si h
   exact eR (resT h131 (resT h132 res0)) (wkO (y := .tup [.nils, .int .i64 r128]) rfl rfl (own_tup (oa1 rfl (oa1 rfl oa0))))
  refine kc (cl (v := .tup [.sl (some 114) (r133.map Debt.c), .int .i64 0]) rfl rfl (cns rfl (cns rfl rfl)) (ra1 rfl (ra1 (ra1_row o126 rfl Debt.fl) ra0)) (impl_JoinDebts_ok (a1.Cash.length : Int) y123 _ hx127) (fun _ => (own_tup (oa1 (own2_row (c := Debt.c) Debt.flF) (oa1 rfl oa0))))) (kx (exT rfl rfl) (kx (exT rfl rfl) (kx (mvO rfl) (kx (mvO rfl) (Rn (hN rfl (hV (.int .i64 0) rfl hZ)) fun e134 h136 h137 => sN (xx ?_))))))
  clear h124 h125
  obtain rfl := si h
  exact eR (resT h136 (resT h137 res0)) (wkO (y := .tup [.sl (some 114) (r133.map Debt.c), .int .i64 0]) rfl rfl (own_tup (oa1 (own2_row (c := Debt.c) Debt.flF) (oa1 rfl oa0))))
 refine cT h9 (congrArg Bool.not hb10) (sq (Rg (kx (mvO rfl) (kx (mvO rfl) (Rn (hV .nils rfl (hV (.int .i64 1) rfl hZ)) fun e139 h141 h142 => sN (xx (sR ?_)))))))
 clear h8 h9
 obtain rfl := si h
 exact eR (resT h141 (resT h142 res0)) (wkO (y := .tup [.nils, .int .i64 1]) rfl rfl (own_tup (oa1 rfl (oa1 rfl oa0))))
noncomputable def spec_DoDeal (a1 : Book) (a2 : Deal) : Option (Int × (List Int) × (List Tally) × Int) :=
 (spec_l07Ok a1).bind fun r11 =>
 if r11 = true then
  (spec_l07Deal a2).bind fun r14 =>
  if r14 = true then
   (spec_l07Do a1 a2).bind fun r => match r with
   | (.inl r23) =>
    some (0, ([] : List Int), ([] : List Tally), r23)
   | (.inr (r31, r32, r33)) =>
    some (r31, r32, r33, 0)
  else
   some (0, ([] : List Int), ([] : List Tally), 1)
 else
  some (0, ([] : List Int), ([] : List Tally), 1)
def spec_DoDeal_enc (r : Int × (List Int) × (List Tally) × Int) : AV := .tup [.agg [.int .i64 r.1, .sl none (r.2.1.map (cI .i64)), .sl none (r.2.2.1.map Tally.c)], .int .i64 r.2.2.2]
theorem spec_DoDeal_ok (a1 : Book) (a2 : Deal) (r : Int × (List Int) × (List Tally) × Int) (h : spec_DoDeal a1 a2 = some r) : Ev (fun k => CN k 29 [.agg [.int .i64 a1.Day, .sl none (a1.Cash.map (cI .i64)), .sl none (a1.Tallies.map Tally.c)], .agg [.int .i64 a2.Day, .int .i8 a2.Kind, .int .i64 a2.Tally, .int .i64 a2.From, .int .i64 a2.To, .int .i64 a2.Amount]] []) (fun p => wkR (rRes p.2 p.1) = spec_DoDeal_enc r) := by
 unfold spec_DoDeal at h
 refine Ev.enter (F := fun k => f29 (CN k) k) (fun k => callN_eq rfl Try.func29 rfl rfl rfl (by decide +kernel) (f29_eq _ _)) (sq (Rg (kx (bxI rfl rfl ⟨rfl, rfl, by decide⟩) (kx (bxI rfl rfl ⟨rfl, rfl, by decide⟩) (ku (alO zero27) fun M2 hM3 => ?_)))))
 have o4 : M2[([] : Mem).length]? = some (.live ⟨.box, 27, 3, [[.int .i64 0, .nils, .nils]]⟩) := push_new hM3
 obtain ⟨r11, hx10, h⟩ := bind_some h
 refine kx (mvO rfl) (Rn (hN rfl (hN rfl (hV (.loc ([] : Mem).length 1 0 0) rfl hZ))) fun e5 h7 h8 h9 => sN (sq (sq (Rg (kc (cl (v := .bool r11) rfl rfl (cns h7 rfl) rfl (spec_l07Ok_ok a1 _ hx10) nm) (kx (uNot rfl) (kx (mvO rfl) ?_)))))))
 rcases ite_some h with ⟨hb12, h⟩ | ⟨hb12, h⟩
 ·obtain ⟨r14, hx13, h⟩ := bind_some h
  refine kc (Ev.guF rfl (congrArg Bool.not hb12) (cl (v := .bool r14) rfl rfl (cns h8 rfl) rfl (spec_l07Deal_ok a2 _ hx13) nm)) (kx (guF rfl (congrArg Bool.not hb12) (uNot rfl)) (kx (pkF rfl (congrArg Bool.not hb12) rfl) (Rn (hA h7 (hA h8 (hA h9 (hN rfl hZ)))) fun e15 h17 h18 h19 h20 => sN ?_)))
  clear h7 h8 h9
  rcases ite_some h with ⟨hb21, h⟩ | ⟨hb21, h⟩
  ·obtain ⟨q41, hx22, h⟩ := bind_some h
   refine cF h20 (congrArg Bool.not hb21) (xx (sN (sq (Rg ?_))))
   rcases q41 with r23 | ⟨r31, r32, r33⟩
   ·refine kc (cl (v := .tup [.agg [.int .i64 0, .nils, .nils], .int .i64 r23]) rfl rfl (cns h17 (cns h18 rfl)) rfl (spec_l07Do_ok a1 a2 _ hx22) nm) (kx (exT rfl rfl) (kx (exT rfl rfl) (kw (stO h19 rfl o4 rfl rfl ⟨rfl, ble rfl⟩ rfl rfl) fun M24 hM25 => ?_)))
    have o26 : M24[([] : Mem).length]? = some (.live ⟨.box, 27, 3, [[.int .i64 0, .nils, .nils]]⟩) := set_same hM25 o4
    refine kx (mvO rfl) (Rn (hA h19 (hN rfl hZ)) fun e27 h29 h30 => sN (xx ?_))
    clear h17 h18 h19 h20
    obtain rfl := si h
    exact eR (resC (ag := true) (sz := 3) ⟨by kernel_rfl, by kernel_rfl, by kernel_rfl⟩ (ldOA h29 o26 rfl rfl (ble rfl) rfl) (resT h30 res0)) (wkH (y := .tup [.agg [.int .i64 0, .nils, .nils], .int .i64 r23]) rfl rfl)
   refine kc (cl (v := .tup [.agg [.int .i64 r31, .sl (some 2) (r32.map (cI .i64)), .sl (some 49) (r33.map Tally.c)], .int .i64 0]) rfl rfl (cns h17 (cns h18 rfl)) rfl (spec_l07Do_ok a1 a2 _ hx22) nm) (kx (exT rfl rfl) (kx (exT rfl rfl) (kw (stO h19 rfl o4 rfl rfl ⟨rfl, ble rfl⟩ rfl rfl) fun M34 hM35 => ?_)))
   have o36 : M34[([] : Mem).length]? = some (.live ⟨.box, 27, 3, [[.int .i64 r31, .sl none (r32.map (cI .i64)), .sl none (r33.map Tally.c)]]⟩) := set_same hM35 o4
   refine kx (mvO rfl) (Rn (hA h19 (hV (.int .i64 0) rfl hZ)) fun e37 h39 h40 => sN (xx ?_))
   clear h17 h18 h19 h20
   obtain rfl := si h
   exact eR (resC (ag := true) (sz := 3) ⟨by kernel_rfl, by kernel_rfl, by kernel_rfl⟩ (ldOA h39 o36 rfl rfl (ble rfl) rfl) (resT h40 res0)) (wkH (y := .tup [.agg [.int .i64 r31, .sl none (r32.map (cI .i64)), .sl none (r33.map Tally.c)], .int .i64 0]) rfl rfl)
  refine cT h20 (congrArg Bool.not hb21) (sq (Rg (kx (bldT zero27 rfl (fill0 rfl)) (kw (stO h19 rfl o4 rfl rfl ⟨rfl, ble rfl⟩ rfl rfl) fun M42 hM43 => ?_))))
  have o44 : M42[([] : Mem).length]? = some (.live ⟨.box, 27, 3, [[.int .i64 0, .nils, .nils]]⟩) := set_same hM43 o4
  refine kx (mvO rfl) (Rn (hA h19 (hV (.int .i64 1) rfl hZ)) fun e45 h47 h48 => sN (xx (sR ?_)))
  clear h17 h18 h19 h20
  obtain rfl := si h
  exact eR (resC (ag := true) (sz := 3) ⟨by kernel_rfl, by kernel_rfl, by kernel_rfl⟩ (ldOA h47 o44 rfl rfl (ble rfl) rfl) (resT h48 res0)) (wkH (y := .tup [.agg [.int .i64 0, .nils, .nils], .int .i64 1]) rfl rfl)
 refine kc (Ev.gsF rfl (congrArg Bool.not hb12)) (kx (gsF rfl (congrArg Bool.not hb12)) (kx (pkT rfl (congrArg Bool.not hb12) rfl) (Rn (hA h7 (hA h8 (hA h9 (hV (.bool true) rfl hZ)))) fun e49 h51 h52 h53 h54 => sN (cT h54 rfl (sq (Rg (kx (bldT zero27 rfl (fill0 rfl)) (kw (stO h53 rfl o4 rfl rfl ⟨rfl, ble rfl⟩ rfl rfl) fun M55 hM56 => ?_))))))))
 clear h7 h8 h9
 have o57 : M55[([] : Mem).length]? = some (.live ⟨.box, 27, 3, [[.int .i64 0, .nils, .nils]]⟩) := set_same hM56 o4
 refine kx (mvO rfl) (Rn (hA h53 (hV (.int .i64 1) rfl hZ)) fun e58 h60 h61 => sN (xx (sR ?_)))
 clear h51 h52 h53 h54
 obtain rfl := si h
 exact eR (resC (ag := true) (sz := 3) ⟨by kernel_rfl, by kernel_rfl, by kernel_rfl⟩ (ldOA h60 o57 rfl rfl (ble rfl) rfl) (resT h61 res0)) (wkH (y := .tup [.agg [.int .i64 0, .nils, .nils], .int .i64 1]) rfl rfl)
noncomputable def impl_DoDeal (a1 : Book) (a2 : Deal) : Option (Int × (List Int) × (List Tally) × Int) :=
 (impl_ValidBook a1).bind fun r11 =>
 if r11 = true then
  (impl_ValidDeal a2).bind fun r14 =>
  if r14 = true then
   (impl_do a1 a2).bind fun r => match r with
   | (.inl r23) =>
    some (0, ([] : List Int), ([] : List Tally), r23)
   | (.inr (r31, r32, r33)) =>
    some (r31, r32, r33, 0)
  else
   some (0, ([] : List Int), ([] : List Tally), 1)
 else
  some (0, ([] : List Int), ([] : List Tally), 1)
def impl_DoDeal_enc (r : Int × (List Int) × (List Tally) × Int) : AV := .tup [.agg [.int .i64 r.1, .sl none (r.2.1.map (cI .i64)), .sl none (r.2.2.1.map Tally.c)], .int .i64 r.2.2.2]
theorem impl_DoDeal_ok (a1 : Book) (a2 : Deal) (r : Int × (List Int) × (List Tally) × Int) (h : impl_DoDeal a1 a2 = some r) : Ev (fun k => CN k 28 [.agg [.int .i64 a1.Day, .sl none (a1.Cash.map (cI .i64)), .sl none (a1.Tallies.map Tally.c)], .agg [.int .i64 a2.Day, .int .i8 a2.Kind, .int .i64 a2.Tally, .int .i64 a2.From, .int .i64 a2.To, .int .i64 a2.Amount]] []) (fun p => wkR (rRes p.2 p.1) = impl_DoDeal_enc r) := by
 unfold impl_DoDeal at h
 refine Ev.enter (F := fun k => f28 (CN k) k) (fun k => callN_eq rfl Try.func28 rfl rfl rfl (by decide +kernel) (f28_eq _ _)) (sq (Rg (kx (bxI rfl rfl ⟨rfl, rfl, by decide⟩) (kx (bxI rfl rfl ⟨rfl, rfl, by decide⟩) (ku (alO zero27) fun M2 hM3 => ?_)))))
 have o4 : M2[([] : Mem).length]? = some (.live ⟨.box, 27, 3, [[.int .i64 0, .nils, .nils]]⟩) := push_new hM3
 obtain ⟨r11, hx10, h⟩ := bind_some h
 refine kx (mvO rfl) (Rn (hN rfl (hN rfl (hV (.loc ([] : Mem).length 1 0 0) rfl hZ))) fun e5 h7 h8 h9 => sN (sq (sq (Rg (kx (ldPA h7 rfl rfl) (kc (cl (v := .bool r11) rfl rfl (cns rfl rfl) rfl (impl_ValidBook_ok a1 _ hx10) nm) (kx (uNot rfl) (kx (mvO rfl) ?_))))))))
 rcases ite_some h with ⟨hb12, h⟩ | ⟨hb12, h⟩
 ·obtain ⟨r14, hx13, h⟩ := bind_some h
  refine kx (guF rfl (congrArg Bool.not hb12) (ldPA h8 rfl rfl)) (kc (Ev.guF rfl (congrArg Bool.not hb12) (cl (v := .bool r14) rfl rfl (cns rfl rfl) rfl (impl_ValidDeal_ok a2 _ hx13) nm)) (kx (guF rfl (congrArg Bool.not hb12) (uNot rfl)) (kx (pkF rfl (congrArg Bool.not hb12) rfl) (Rn (hA h7 (hA h8 (hA h9 (hN rfl hZ)))) fun e15 h17 h18 h19 h20 => sN ?_))))
  clear h7 h8 h9
  rcases ite_some h with ⟨hb21, h⟩ | ⟨hb21, h⟩
  ·obtain ⟨q41, hx22, h⟩ := bind_some h
   refine cF h20 (congrArg Bool.not hb21) (xx (sN (sq (Rg (kx (ldPA h17 rfl rfl) (kx (ldPA h18 rfl rfl) ?_))))))
   rcases q41 with r23 | ⟨r31, r32, r33⟩
   ·refine kc (cl (v := .tup [.agg [.int .i64 0, .nils, .nils], .int .i64 r23]) rfl rfl (cns rfl (cns rfl rfl)) rfl (impl_do_ok a1 a2 _ hx22) nm) (kx (exT rfl rfl) (kx (exT rfl rfl) (kw (stO h19 rfl o4 rfl rfl ⟨rfl, ble rfl⟩ rfl rfl) fun M24 hM25 => ?_)))
    have o26 : M24[([] : Mem).length]? = some (.live ⟨.box, 27, 3, [[.int .i64 0, .nils, .nils]]⟩) := set_same hM25 o4
    refine kx (mvO rfl) (Rn (hA h19 (hN rfl hZ)) fun e27 h29 h30 => sN (xx ?_))
    clear h17 h18 h19 h20
    obtain rfl := si h
    exact eR (resC (ag := true) (sz := 3) ⟨by kernel_rfl, by kernel_rfl, by kernel_rfl⟩ (ldOA h29 o26 rfl rfl (ble rfl) rfl) (resT h30 res0)) (wkH (y := .tup [.agg [.int .i64 0, .nils, .nils], .int .i64 r23]) rfl rfl)
   refine kc (cl (v := .tup [.agg [.int .i64 r31, .sl (some 2) (r32.map (cI .i64)), .sl (some 49) (r33.map Tally.c)], .int .i64 0]) rfl rfl (cns rfl (cns rfl rfl)) rfl (impl_do_ok a1 a2 _ hx22) nm) (kx (exT rfl rfl) (kx (exT rfl rfl) (kw (stO h19 rfl o4 rfl rfl ⟨rfl, ble rfl⟩ rfl rfl) fun M34 hM35 => ?_)))
   have o36 : M34[([] : Mem).length]? = some (.live ⟨.box, 27, 3, [[.int .i64 r31, .sl none (r32.map (cI .i64)), .sl none (r33.map Tally.c)]]⟩) := set_same hM35 o4
   refine kx (mvO rfl) (Rn (hA h19 (hV (.int .i64 0) rfl hZ)) fun e37 h39 h40 => sN (xx ?_))
   clear h17 h18 h19 h20
   obtain rfl := si h
   exact eR (resC (ag := true) (sz := 3) ⟨by kernel_rfl, by kernel_rfl, by kernel_rfl⟩ (ldOA h39 o36 rfl rfl (ble rfl) rfl) (resT h40 res0)) (wkH (y := .tup [.agg [.int .i64 r31, .sl none (r32.map (cI .i64)), .sl none (r33.map Tally.c)], .int .i64 0]) rfl rfl)
  refine cT h20 (congrArg Bool.not hb21) (sq (Rg (kx (bldT zero27 rfl (fill0 rfl)) (kw (stO h19 rfl o4 rfl rfl ⟨rfl, ble rfl⟩ rfl rfl) fun M42 hM43 => ?_))))
  have o44 : M42[([] : Mem).length]? = some (.live ⟨.box, 27, 3, [[.int .i64 0, .nils, .nils]]⟩) := set_same hM43 o4
  refine kx (mvO rfl) (Rn (hA h19 (hV (.int .i64 1) rfl hZ)) fun e45 h47 h48 => sN (xx (sR ?_)))
  clear h17 h18 h19 h20
  obtain rfl := si h
  exact eR (resC (ag := true) (sz := 3) ⟨by kernel_rfl, by kernel_rfl, by kernel_rfl⟩ (ldOA h47 o44 rfl rfl (ble rfl) rfl) (resT h48 res0)) (wkH (y := .tup [.agg [.int .i64 0, .nils, .nils], .int .i64 1]) rfl rfl)
 refine kx (gsF rfl (congrArg Bool.not hb12)) (kc (Ev.gsF rfl (congrArg Bool.not hb12)) (kx (gsF rfl (congrArg Bool.not hb12)) (kx (pkT rfl (congrArg Bool.not hb12) rfl) (Rn (hA h7 (hA h8 (hA h9 (hV (.bool true) rfl hZ)))) fun e49 h51 h52 h53 h54 => sN (cT h54 rfl (sq (Rg (kx (bldT zero27 rfl (fill0 rfl)) (kw (stO h53 rfl o4 rfl rfl ⟨rfl, ble rfl⟩ rfl rfl) fun M55 hM56 => ?_)))))))))
 clear h7 h8 h9
 have o57 : M55[([] : Mem).length]? = some (.live ⟨.box, 27, 3, [[.int .i64 0, .nils, .nils]]⟩) := set_same hM56 o4
 refine kx (mvO rfl) (Rn (hA h53 (hV (.int .i64 1) rfl hZ)) fun e58 h60 h61 => sN (xx (sR ?_)))
 clear h51 h52 h53 h54
 obtain rfl := si h
 exact eR (resC (ag := true) (sz := 3) ⟨by kernel_rfl, by kernel_rfl, by kernel_rfl⟩ (ldOA h60 o57 rfl rfl (ble rfl) rfl) (resT h61 res0)) (wkH (y := .tup [.agg [.int .i64 0, .nils, .nils], .int .i64 1]) rfl rfl)
abbrev spec_A2Sum_b1_S := Int × Int
abbrev spec_A2Sum_b1_R := Int
def spec_A2Sum_b1_RS (a1 : List Int) (s : spec_A2Sum_b1_S) (e : Env) (M : Mem) : Prop := eget e 0 = .sl none (a1.map (cI .i64)) ∧ eget e 3 = .int .i64 s.1 ∧ eget e 4 = .int .i64 s.2
def spec_A2Sum_b1_RR (a1 : List Int) (g : spec_A2Sum_b1_R) (x : Ex) (e : Env) (M : Mem) : Prop := x = .ext 0 ∧ eget e 3 = .int .i64 g
noncomputable def spec_A2Sum_b1 (a1 : List Int) : spec_A2Sum_b1_S → Option (spec_A2Sum_b1_S ⊕ spec_A2Sum_b1_R) := fun (s1_1, s1_2) =>
 if (decide (s1_2 < (a1.length : Int))) = true then
  (rd a1 s1_2).bind fun x36 =>
  some (.inl ((IntKind.i64.wrap (s1_1 + x36)), (IntKind.i64.wrap (s1_2 + 1))))
 else
  some (.inr s1_1)
theorem spec_A2Sum_b1_ok (a1 : List Int) (s : spec_A2Sum_b1_S) (r : spec_A2Sum_b1_S ⊕ spec_A2Sum_b1_R) (h : spec_A2Sum_b1 a1 s = some r) (e : Env) (M : Mem) (hs : spec_A2Sum_b1_RS a1 s e M) : Ev (fun k => (f27_l3 (CN k) k (prune [0, 3, 4] e) M).bind fun q => some q) (bQ (spec_A2Sum_b1_RS a1) (spec_A2Sum_b1_RR a1) r) := by
 obtain ⟨s1_1, s1_2⟩ := s
 unfold spec_A2Sum_b1 at h
 obtain ⟨h23, h25, h27⟩ := hs
 generalize he22 : prune [0, 3, 4] e = e21
 have h24 := envp he22.symm rfl h23
 have h26 := envp he22.symm rfl h25
 have h28 := envp he22.symm rfl h27
 refine sq (sq (Rg (kx (mvO h28) (kx (mvO h24) (kx (lnS Try.underlying24 rfl) (kx (bLss rfl rfl) (Rn (hV (.sl none (a1.map (cI .i64))) h24 (hV (.int .i64 s1_1) h26 (hV (.int .i64 s1_2) h28 (hN rfl hZ)))) fun e29 h31 h32 h33 h34 => sN ?_)))))))
 clear h24 h26 h28
 rcases ite_some h with ⟨hb35, h⟩ | ⟨hb35, h⟩
 ·obtain ⟨x36, hx37, h⟩ := bind_some h
  refine cT h34 hb35 (xx (sN (sq (bl (Rg (kx (mvO h32) (kx (mvO h31) (kx (mvO h33) (kx (ixS rfl rfl hx37 (cI_fl _)) (kx (ldP rfl rfl) (kx (bAdd rfl rfl) (kx (mvO rfl) (Rn (hA h31 (hN rfl (hA h33 hZ))) fun e38 h40 h41 h42 => bN (sN (Rg (kx (mvO h42) (kx (bAdd rfl rfl) (kx (mvO rfl) (Rn (hA h40 (hA h41 (hN rfl hZ))) fun e43 h45 h46 h47 => ?_)))))))))))))))))))
  clear h31 h33 h34 h40 h41
  obtain rfl := si h
  exact qN ⟨h45, h46, h47⟩
 refine cF h34 hb35 (xx (sE ?_))
 obtain rfl := si h
 exact qE ⟨rfl, h32⟩
noncomputable def spec_A2Sum (a1 : List Int) : Option Int :=
 (Lw (spec_A2Sum_b1 a1) (0, 0)).bind fun y53 =>
 some y53
def spec_A2Sum_enc (r : Int) : AV := .int .i64 r
theorem spec_A2Sum_ok (a1 : List Int) (r : Int) (h : spec_A2Sum a1 = some r) : Ev (fun k => CN k 27 [.sl none (a1.map (cI .i64))] []) (fun p => rRes p.2 p.1 = spec_A2Sum_enc r) := by
 unfold spec_A2Sum at h
 obtain ⟨y53, hr49, h⟩ := bind_some h
 refine Ev.enter (F := fun k => f27 (CN k) k) (fun k => callN_eq rfl Try.func27 rfl rfl rfl (by decide +kernel) (f27_eq _ _)) (sq (Rg (kx (mvO rfl) (Rn (hN rfl hZ) fun e1 h3 => sN (sq (Rg (kx (mvO rfl) (Rn (hA h3 (hV (.int .i64 0) rfl hZ)) fun e4 h6 h7 => sN (sq (sq (Rg (kx (mvO rfl) (Rn (hA h6 (hA h7 (hV (.int .i64 0) rfl hZ))) fun e8 h10 h11 h12 => sN (bl (Ev.loop (RS := spec_A2Sum_b1_RS a1) (RR := spec_A2Sum_b1_RR a1) (fun s r h e M hs => spec_A2Sum_b1_ok a1 s r h e M hs) hr49 ⟨h10, h11, h12⟩ fun x e51 M52 hq50 => ?_)))))))))))))))
 clear h3 h6 h7
 obtain ⟨rfl, h54⟩ := hq50
 refine bE (sN (sq (Rg (kx (mvO h54) (kx (mvO rfl) (Rn (hN rfl hZ) fun e55 h57 => sN (xx ?_)))))))
 clear h54
 obtain rfl := si h
 exact eR (resT h57 res0) rfl
noncomputable def impl_SameBook (a1 : Book) (a2 : Book) : Option Bool :=
 if (a1.Day == a2.Day) = true then
  (slices_Equal_int64 a1.Cash a2.Cash).bind fun r7 =>
  if r7 = true then
   (slices_Equal_Tally a1.Tallies a2.Tallies).bind fun r10 =>
   some r10
  else
   some false
 else
  some false
def impl_SameBook_enc (r : Bool) : AV := .bool r
theorem impl_SameBook_ok (a1 : Book) (a2 : Book) (r : Bool) (h : impl_SameBook a1 a2 = some r) : Ev (fun k => CN k 25 [.agg [.int .i64 a1.Day, .sl none (a1.Cash.map (cI .i64)), .sl none (a1.Tallies.map Tally.c)], .agg [.int .i64 a2.Day, .sl none (a2.Cash.map (cI .i64)), .sl none (a2.Tallies.map Tally.c)]] []) (fun p => rRes p.2 p.1 = impl_SameBook_enc r) := by
 unfold impl_SameBook at h
 refine Ev.enter (F := fun k => f25 (CN k) k) (fun k => callN_eq rfl Try.func25 rfl rfl rfl (by decide +kernel) (f25_eq _ _)) (sq (Rg (kx (bxI rfl rfl ⟨rfl, rfl, by decide⟩) (kx (bxI rfl rfl ⟨rfl, rfl, by decide⟩) (kx (mvO rfl) (Rn (hN rfl (hN rfl hZ)) fun e1 h3 h4 => sN (sq (Rg (kx (faP h3 ⟨ble rfl, blt rfl⟩ rfl) (kx (ldP rfl rfl) (kx (faP h4 ⟨ble rfl, blt rfl⟩ rfl) (kx (ldP rfl rfl) (kx (bEql rfl rfl) (kx (mvO rfl) ?_))))))))))))))
 rcases ite_some h with ⟨hb5, h⟩ | ⟨hb5, h⟩
 ·obtain ⟨r7, hx6, h⟩ := bind_some h
  refine kx (guT rfl hb5 (faP h3 ⟨ble rfl, blt rfl⟩ rfl)) (kx (guT rfl hb5 (ldP rfl rfl)) (kx (guT rfl hb5 (faP h4 ⟨ble rfl, blt rfl⟩ rfl)) (kx (guT rfl hb5 (ldP rfl rfl)) (kc (Ev.guT rfl hb5 (cl (v := .bool r7) rfl rfl (cns rfl (cns rfl rfl)) rfl (slices_Equal_int64_ok a1.Cash a2.Cash _ hx6) nm)) (kx (pkT rfl hb5 rfl) (kx (mvO rfl) ?_))))))
  rcases ite_some h with ⟨hb8, h⟩ | ⟨hb8, h⟩
  ·obtain ⟨r10, hx9, h⟩ := bind_some h
   refine kx (guT rfl hb8 (faP h3 ⟨ble rfl, blt rfl⟩ rfl)) (kx (guT rfl hb8 (ldP rfl rfl)) (kx (guT rfl hb8 (faP h4 ⟨ble rfl, blt rfl⟩ rfl)) (kx (guT rfl hb8 (ldP rfl rfl)) (kc (Ev.guT rfl hb8 (cl (v := .bool r10) rfl rfl (cns rfl (cns rfl rfl)) rfl (slices_Equal_Tally_ok a1.Tallies a2.Tallies _ hx9) nm)) (kx (pkT rfl hb8 rfl) (kx (mvO rfl) (Rn (hN rfl hZ) fun e11 h13 => sN (xx ?_))))))))
   clear h3 h4
   obtain rfl := si h
   exact eR (resT h13 res0) rfl
  refine kx (gsT rfl hb8) (kx (gsT rfl hb8) (kx (gsT rfl hb8) (kx (gsT rfl hb8) (kc (Ev.gsT rfl hb8) (kx (pkF rfl hb8 rfl) (kx (mvO rfl) (Rn (hV (.bool false) rfl hZ) fun e14 h16 => sN (xx ?_))))))))
  clear h3 h4
  obtain rfl := si h
  exact eR (resT h16 res0) rfl
 refine kx (gsT rfl hb5) (kx (gsT rfl hb5) (kx (gsT rfl hb5) (kx (gsT rfl hb5) (kc (Ev.gsT rfl hb5) (kx (pkF rfl hb5 rfl) (kx (mvO rfl) (kx (gsT rfl rfl) (kx (gsT rfl rfl) (kx (gsT rfl rfl) (kx (gsT rfl rfl) (kc (Ev.gsT rfl rfl) (kx (pkF rfl rfl rfl) (kx (mvO rfl) (Rn (hV (.bool false) rfl hZ) fun e17 h19 => sN (xx ?_)))))))))))))))
 clear h3 h4
 obtain rfl := si h
 exact eR (resT h19 res0) rfl
noncomputable def impl_FirstRefused (a1 : Book) (a2 : List Deal) : Option (Int × Int × Int) :=
 (impl_dealsCode a1 a2).bind fun r6 =>
 if (r6 != 0) = true then
  some (0, 0, r6)
 else
  (impl_books a1 a2).bind fun (r25, r26) =>
  if (r26 == 0) = true then
   some (0, 0, 6)
  else
   some ((r25.length : Int), r26, 0)
def impl_FirstRefused_enc (r : Int × Int × Int) : AV := .tup [.int .i64 r.1, .int .i64 r.2.1, .int .i64 r.2.2]
theorem impl_FirstRefused_ok (a1 : Book) (a2 : List Deal) (r : Int × Int × Int) (h : impl_FirstRefused a1 a2 = some r) : Ev (fun k => CN k 24 [.agg [.int .i64 a1.Day, .sl none (a1.Cash.map (cI .i64)), .sl none (a1.Tallies.map Tally.c)], .sl none (a2.map Deal.c)] []) (fun p => rRes p.2 p.1 = impl_FirstRefused_enc r) := by
 unfold impl_FirstRefused at h
 obtain ⟨r6, hx5, h⟩ := bind_some h
 refine Ev.enter (F := fun k => f24 (CN k) k) (fun k => callN_eq rfl Try.func24 rfl rfl rfl (by decide +kernel) (f24_eq _ _)) (sq (Rg (kx (bxI rfl rfl ⟨rfl, rfl, by decide⟩) (kx (mvO rfl) (kx (mvO rfl) (kx (mvO rfl) (Rn (hN rfl (hN rfl hZ)) fun e1 h3 h4 => sN (sq (sq (Rg (kx (ldPA h4 rfl rfl) (kx (mvO h3) (kc (cl (v := .int .i64 r6) rfl rfl (cns rfl (cns rfl rfl)) rfl (impl_dealsCode_ok a1 a2 _ hx5) nm) (kx (mvO rfl) (Rn (hA h3 (hA h4 (hN rfl hZ))) fun e7 h9 h10 h11 => sN (sq (Rg (kx (mvO h11) (kx (bNeq rfl rfl) (Rn (hA h9 (hA h10 (hA h11 (hN rfl hZ)))) fun e12 h14 h15 h16 h17 => sN ?_))))))))))))))))))))
 clear h3 h4 h10 h11 h9
 rcases ite_some h with ⟨hb18, h⟩ | ⟨hb18, h⟩
 ·refine cT h17 hb18 (sq (Rg (kx (mvO h16) (kx (mvO rfl) (kx (mvO rfl) (kx (mvO rfl) (Rn (hV (.int .i64 0) rfl (hV (.int .i64 0) rfl (hN rfl hZ))) fun e19 h21 h22 h23 => sN (xx (sR ?_)))))))))
  clear h14 h15 h16 h17
  obtain rfl := si h
  exact eR (resT h21 (resT h22 (resT h23 res0))) rfl
 obtain ⟨⟨r25, r26⟩, hx24, h⟩ := bind_some h
 refine cF h17 hb18 (xx (sN (sq (Rg (kx (ldPA h15 rfl rfl) (kx (mvO h14) (kc (cl (v := .tup [.sl (some 27) (r25.map Book.c), .int .i64 r26]) rfl rfl (cns rfl (cns rfl rfl)) rfl (impl_books_ok a1 a2 _ hx24) nm) (kx (mvO rfl) (kx (exT rfl rfl) (kx (exT rfl rfl) (kx (mvO rfl) (kx (mvO rfl) (Rn (hN rfl (hN rfl hZ)) fun e27 h29 h30 => sN (sq (sq (Rg (kx (mvO h30) (kx (bEql rfl rfl) (Rn (hA h29 (hA h30 (hN rfl hZ))) fun e31 h33 h34 h35 => sN ?_)))))))))))))))))))
 clear h14 h15 h16 h17 h29 h30
 rcases ite_some h with ⟨hb36, h⟩ | ⟨hb36, h⟩
 ·refine cT h35 hb36 (sq (Rg (kx (mvO rfl) (kx (mvO rfl) (kx (mvO rfl) (Rn (hV (.int .i64 0) rfl (hV (.int .i64 0) rfl (hV (.int .i64 6) rfl hZ))) fun e37 h39 h40 h41 => sN (xx (sR ?_))))))))
  clear h33 h34 h35
  obtain rfl := si h
  exact eR (resT h39 (resT h40 (resT h41 res0))) rfl
 refine cF h35 hb36 (xx (sN (sq (Rg (kx (mvO h33) (kx (lnS Try.underlying94 rfl) (kx (mvO h34) (kx (mvO rfl) (kx (mvO rfl) (kx (mvO rfl) (Rn (hN rfl (hN rfl (hV (.int .i64 0) rfl hZ))) fun e42 h44 h45 h46 => sN (xx ?_))))))))))))
 clear h33 h34 h35
 obtain rfl := si h
 exact eR (resT h44 (resT h45 (resT h46 res0))) rfl
noncomputable def spec_DoDeals (a1 : Book) (a2 : List Deal) : Option (Int × (List Int) × (List Tally) × Int) :=
 (spec_l07Asked a1 a2).bind fun r11 =>
 if (r11 != 0) = true then
  some (0, ([] : List Int), ([] : List Tally), r11)
 else
  (spec_l07All a1 a2).bind fun (r34, r35, r36) =>
  if (r35 != 0) = true then
   some (0, ([] : List Int), ([] : List Tally), r35)
  else
   if ((r34.length : Int) == 0) = true then
    (spec_l07Copy a1).bind fun (r66, r67, r68) =>
    some (r66, r67, r68, 0)
   else
    (rd r34 (IntKind.i64.wrap ((r34.length : Int) - 1))).bind fun x76 =>
    (spec_l07Copy x76).bind fun (r79, r80, r81) =>
    some (r79, r80, r81, 0)
def spec_DoDeals_enc (r : Int × (List Int) × (List Tally) × Int) : AV := .tup [.agg [.int .i64 r.1, .sl none (r.2.1.map (cI .i64)), .sl none (r.2.2.1.map Tally.c)], .int .i64 r.2.2.2]
theorem spec_DoDeals_ok (a1 : Book) (a2 : List Deal) (r : Int × (List Int) × (List Tally) × Int) (h : spec_DoDeals a1 a2 = some r) : Ev (fun k => CN k 16 [.agg [.int .i64 a1.Day, .sl none (a1.Cash.map (cI .i64)), .sl none (a1.Tallies.map Tally.c)], .sl none (a2.map Deal.c)] []) (fun p => wkR (rRes p.2 p.1) = spec_DoDeals_enc r) := by
 unfold spec_DoDeals at h
 refine Ev.enter (F := fun k => f16 (CN k) k) (fun k => callN_eq rfl Try.func16 rfl rfl rfl (by decide +kernel) (f16_eq _ _)) (sq (Rg (kx (bxI rfl rfl ⟨rfl, rfl, by decide⟩) (ku (alO zero27) fun M2 hM3 => ?_))))
 have o4 : M2[([] : Mem).length]? = some (.live ⟨.box, 27, 3, [[.int .i64 0, .nils, .nils]]⟩) := push_new hM3
 obtain ⟨r11, hx10, h⟩ := bind_some h
 refine kx (mvO rfl) (Rn (hN rfl (hN rfl (hV (.loc ([] : Mem).length 1 0 0) rfl hZ))) fun e5 h7 h8 h9 => sN (sq (sq (Rg (kx (mvO h7) (kc (cl (v := .int .i64 r11) rfl rfl (cns h8 (cns rfl rfl)) rfl (spec_l07Asked_ok a1 a2 _ hx10) nm) (kx (mvO rfl) (Rn (hA h7 (hA h8 (hA h9 (hN rfl hZ)))) fun e12 h14 h15 h16 h17 => sN (sq (Rg (kx (mvO h17) (kx (bNeq rfl rfl) (Rn (hA h14 (hA h15 (hA h16 (hA h17 (hN rfl hZ))))) fun e18 h20 h21 h22 h23 h24 => sN ?_)))))))))))))
 clear h7 h8 h9 h14 h15 h16 h17
 rcases ite_some h with ⟨hb25, h⟩ | ⟨hb25, h⟩
 ·refine cT h24 hb25 (sq (Rg (kx (bldT zero27 rfl (fill0 rfl)) (kx (mvO h23) (kw (stO h22 rfl o4 rfl rfl ⟨rfl, ble rfl⟩ rfl rfl) fun M26 hM27 => ?_)))))
  have o28 : M26[([] : Mem).length]? = some (.live ⟨.box, 27, 3, [[.int .i64 0, .nils, .nils]]⟩) := set_same hM27 o4
  refine kx (mvO rfl) (Rn (hA h22 (hN rfl hZ)) fun e29 h31 h32 => sN (xx (sR ?_)))
  clear h20 h21 h22 h23 h24
  obtain rfl := si h
  exact eR (resC (ag := true) (sz := 3) ⟨by kernel_rfl, by kernel_rfl, by kernel_rfl⟩ (ldOA h31 o28 rfl rfl (ble rfl) rfl) (resT h32 res0)) (wkH (y := .tup [.agg [.int .i64 0, .nils, .nils], .int .i64 r11]) rfl rfl)
 obtain ⟨⟨r34, r35, r36⟩, hx33, h⟩ := bind_some h
 refine cF h24 hb25 (xx (sN (sq (Rg (kx (mvO h20) (kc (cl (v := .tup [.sl (some 27) (r34.map Book.c), .int .i64 r35, .int .i64 r36]) rfl rfl (cns h21 (cns rfl rfl)) rfl (spec_l07All_ok a1 a2 _ hx33) nm) (kx (mvO rfl) (kx (exT rfl rfl) (kx (exT rfl rfl) (kx (exT rfl rfl) (kx (mvO rfl) (kx (mvO rfl) (kx (mvO rfl) (Rn (hA h21 (hA h22 (hN rfl (hN rfl hZ)))) fun e37 h39 h40 h41 h42 => sN (sq (sq (Rg (kx (mvO h42) (kx (bNeq rfl rfl) (Rn (hA h39 (hA h40 (hA h41 (hA h42 (hN rfl hZ))))) fun e43 h45 h46 h47 h48 h49 => sN ?_))))))))))))))))))))
 clear h20 h21 h22 h23 h24 h39 h40 h41 h42
 rcases ite_some h with ⟨hb50, h⟩ | ⟨hb50, h⟩
 ·refine cT h49 hb50 (sq (Rg (kx (bldT zero27 rfl (fill0 rfl)) (kx (mvO h48) (kw (stO h46 rfl o4 rfl rfl ⟨rfl, ble rfl⟩ rfl rfl) fun M51 hM52 => ?_)))))
  have o53 : M51[([] : Mem).length]? = some (.live ⟨.box, 27, 3, [[.int .i64 0, .nils, .nils]]⟩) := set_same hM52 o4
  refine kx (mvO rfl) (Rn (hA h46 (hN rfl hZ)) fun e54 h56 h57 => sN (xx (sR ?_)))
  clear h45 h46 h47 h48 h49
  obtain rfl := si h
  exact eR (resC (ag := true) (sz := 3) ⟨by kernel_rfl, by kernel_rfl, by kernel_rfl⟩ (ldOA h56 o53 rfl rfl (ble rfl) rfl) (resT h57 res0)) (wkH (y := .tup [.agg [.int .i64 0, .nils, .nils], .int .i64 r35]) rfl rfl)
 refine cF h49 hb50 (xx (sN (sq (sq (Rg (kx (mvO h47) (kx (lnS Try.underlying94 rfl) (kx (bEql rfl rfl) (Rn (hA h45 (hA h46 (hA h47 (hN rfl hZ)))) fun e58 h60 h61 h62 h63 => sN ?_)))))))))
 clear h45 h46 h47 h48 h49
 rcases ite_some h with ⟨hb64, h⟩ | ⟨hb64, h⟩
 ·obtain ⟨⟨r66, r67, r68⟩, hx65, h⟩ := bind_some h
  refine cT h63 hb64 (sq (Rg (kc (cl (v := .agg [.int .i64 r66, .sl (some 2) (r67.map (cI .i64)), .sl (some 49) (r68.map Tally.c)]) rfl rfl (cns h60 rfl) rfl (spec_l07Copy_ok a1 _ hx65) nm) (kw (stO h61 rfl o4 rfl rfl ⟨rfl, ble rfl⟩ rfl rfl) fun M69 hM70 => ?_))))
  have o71 : M69[([] : Mem).length]? = some (.live ⟨.box, 27, 3, [[.int .i64 r66, .sl none (r67.map (cI .i64)), .sl none (r68.map Tally.c)]]⟩) := set_same hM70 o4
  refine kx (mvO rfl) (Rn (hA h61 (hV (.int .i64 0) rfl hZ)) fun e72 h74 h75 => sN (xx (sR ?_)))
  clear h60 h61 h62 h63
  obtain rfl := si h
  exact eR (resC (ag := true) (sz := 3) ⟨by kernel_rfl, by kernel_rfl, by kernel_rfl⟩ (ldOA h74 o71 rfl rfl (ble rfl) rfl) (resT h75 res0)) (wkH (y := .tup [.agg [.int .i64 r66, .sl none (r67.map (cI .i64)), .sl none (r68.map Tally.c)], .int .i64 0]) rfl rfl)
 obtain ⟨x76, hx77, h⟩ := bind_some h
 obtain ⟨⟨r79, r80, r81⟩, hx78, h⟩ := bind_some h
 refine cF h63 hb64 (xx (sN (sq (Rg (kx (mvO h62) (kx (mvO h62) (kx (lnS Try.underlying94 rfl) (kx (bSub rfl rfl) (kx (ixS rfl rfl hx77 Book.fl) (kc (cl (v := .agg [.int .i64 r79, .sl (some 2) (r80.map (cI .i64)), .sl (some 49) (r81.map Tally.c)]) rfl rfl (cns rfl rfl) rfl (spec_l07Copy_ok x76 _ hx78) nm) (kw (stO h61 rfl o4 rfl rfl ⟨rfl, ble rfl⟩ rfl rfl) fun M82 hM83 => ?_)))))))))))
 have o84 : M82[([] : Mem).length]? = some (.live ⟨.box, 27, 3, [[.int .i64 r79, .sl none (r80.map (cI .i64)), .sl none (r81.map Tally.c)]]⟩) := set_same hM83 o4
 refine kx (mvO rfl) (Rn (hA h61 (hV (.int .i64 0) rfl hZ)) fun e85 h87 h88 => sN (xx ?_))
 clear h60 h61 h62 h63
 obtain rfl := si h
 exact eR (resC (ag := true) (sz := 3) ⟨by kernel_rfl, by kernel_rfl, by kernel_rfl⟩ (ldOA h87 o84 rfl rfl (ble rfl) rfl) (resT h88 res0)) (wkH (y := .tup [.agg [.int .i64 r79, .sl none (r80.map (cI .i64)), .sl none (r81.map Tally.c)], .int .i64 0]) rfl rfl)
noncomputable def impl_WorthOfPerson (a1 : Book) (a2 : Int) : Option (Int × Int) :=
 (impl_personCode a1 a2).bind fun r6 =>
 if (r6 != 0) = true then
  some (0, r6)
 else
  (impl_worthOf a1 a2).bind fun r24 =>
  some (r24, 0)
def impl_WorthOfPerson_enc (r : Int × Int) : AV := .tup [.int .i64 r.1, .int .i64 r.2]
theorem impl_WorthOfPerson_ok (a1 : Book) (a2 : Int) (r : Int × Int) (h : impl_WorthOfPerson a1 a2 = some r) : Ev (fun k => CN k 15 [.agg [.int .i64 a1.Day, .sl none (a1.Cash.map (cI .i64)), .sl none (a1.Tallies.map Tally.c)], .int .i64 a2] []) (fun p => rRes p.2 p.1 = impl_WorthOfPerson_enc r) := by
 unfold impl_WorthOfPerson at h
 obtain ⟨r6, hx5, h⟩ := bind_some h
 refine Ev.enter (F := fun k => f15 (CN k) k) (fun k => callN_eq rfl Try.func15 rfl rfl rfl (by decide +kernel) (f15_eq _ _)) (sq (Rg (kx (bxI rfl rfl ⟨rfl, rfl, by decide⟩) (kx (mvO rfl) (kx (mvO rfl) (Rn (hN rfl (hN rfl hZ)) fun e1 h3 h4 => sN (sq (sq (Rg (kx (ldPA h4 rfl rfl) (kx (mvO h3) (kc (cl (v := .int .i64 r6) rfl rfl (cns rfl (cns rfl rfl)) rfl (impl_personCode_ok a1 a2 _ hx5) nm) (kx (mvO rfl) (Rn (hA h3 (hA h4 (hN rfl hZ))) fun e7 h9 h10 h11 => sN (sq (Rg (kx (mvO h11) (kx (bNeq rfl rfl) (Rn (hA h9 (hA h10 (hA h11 (hN rfl hZ)))) fun e12 h14 h15 h16 h17 => sN ?_)))))))))))))))))))
 clear h3 h4 h10 h11 h9
 rcases ite_some h with ⟨hb18, h⟩ | ⟨hb18, h⟩
 ·refine cT h17 hb18 (sq (Rg (kx (mvO h16) (kx (mvO rfl) (kx (mvO rfl) (Rn (hV (.int .i64 0) rfl (hN rfl hZ)) fun e19 h21 h22 => sN (xx (sR ?_))))))))
  clear h14 h15 h16 h17
  obtain rfl := si h
  exact eR (resT h21 (resT h22 res0)) rfl
 obtain ⟨r24, hx23, h⟩ := bind_some h
 refine cF h17 hb18 (xx (sN (sq (Rg (kx (ldPA h15 rfl rfl) (kx (mvO h14) (kc (cl (v := .int .i64 r24) rfl rfl (cns rfl (cns rfl rfl)) rfl (impl_worthOf_ok a1 a2 _ hx23) nm) (kx (mvO rfl) (kx (mvO rfl) (Rn (hN rfl (hV (.int .i64 0) rfl hZ)) fun e25 h27 h28 => sN (xx ?_)))))))))))
 clear h14 h15 h16 h17
 obtain rfl := si h
 exact eR (resT h27 (resT h28 res0)) rfl
noncomputable def spec_SameBook (a1 : Book) (a2 : Book) : Option Bool :=
 (spec_l07Same a1 a2).bind fun r6 =>
 some r6
def spec_SameBook_enc (r : Bool) : AV := .bool r
theorem spec_SameBook_ok (a1 : Book) (a2 : Book) (r : Bool) (h : spec_SameBook a1 a2 = some r) : Ev (fun k => CN k 12 [.agg [.int .i64 a1.Day, .sl none (a1.Cash.map (cI .i64)), .sl none (a1.Tallies.map Tally.c)], .agg [.int .i64 a2.Day, .sl none (a2.Cash.map (cI .i64)), .sl none (a2.Tallies.map Tally.c)]] []) (fun p => rRes p.2 p.1 = spec_SameBook_enc r) := by
 unfold spec_SameBook at h
 obtain ⟨r6, hx5, h⟩ := bind_some h
 refine Ev.enter (F := fun k => f12 (CN k) k) (fun k => callN_eq rfl Try.func12 rfl rfl rfl (by decide +kernel) (f12_eq _ _)) (sq (Rg (kx (bxI rfl rfl ⟨rfl, rfl, by decide⟩) (kx (bxI rfl rfl ⟨rfl, rfl, by decide⟩) (kx (mvO rfl) (Rn (hN rfl (hN rfl hZ)) fun e1 h3 h4 => sN (sq (Rg (kc (cl (v := .bool r6) rfl rfl (cns h3 (cns h4 rfl)) rfl (spec_l07Same_ok a1 a2 _ hx5) nm) (kx (mvO rfl) (Rn (hN rfl hZ) fun e7 h9 => sN (xx ?_))))))))))))
 clear h3 h4
 obtain rfl := si h
 exact eR (resT h9 res0) rfl
noncomputable def impl_DoDeals (a1 : Book) (a2 : List Deal) : Option (Int × (List Int) × (List Tally) × Int) :=
 (impl_dealsCode a1 a2).bind fun r11 =>
 if (r11 != 0) = true then
  some (0, ([] : List Int), ([] : List Tally), r11)
 else
  (impl_behind a1 a2).bind fun r => match r with
  | (.inl r34) =>
   some (0, ([] : List Int), ([] : List Tally), r34)
  | (.inr (r42, r43, r44)) =>
   some (r42, r43, r44, 0)
def impl_DoDeals_enc (r : Int × (List Int) × (List Tally) × Int) : AV := .tup [.agg [.int .i64 r.1, .sl none (r.2.1.map (cI .i64)), .sl none (r.2.2.1.map Tally.c)], .int .i64 r.2.2.2]
theorem impl_DoDeals_ok (a1 : Book) (a2 : List Deal) (r : Int × (List Int) × (List Tally) × Int) (h : impl_DoDeals a1 a2 = some r) : Ev (fun k => CN k 11 [.agg [.int .i64 a1.Day, .sl none (a1.Cash.map (cI .i64)), .sl none (a1.Tallies.map Tally.c)], .sl none (a2.map Deal.c)] []) (fun p => wkR (rRes p.2 p.1) = impl_DoDeals_enc r) := by
 unfold impl_DoDeals at h
 refine Ev.enter (F := fun k => f11 (CN k) k) (fun k => callN_eq rfl Try.func11 rfl rfl rfl (by decide +kernel) (f11_eq _ _)) (sq (Rg (kx (bxI rfl rfl ⟨rfl, rfl, by decide⟩) (ku (alO zero27) fun M2 hM3 => ?_))))
 have o4 : M2[([] : Mem).length]? = some (.live ⟨.box, 27, 3, [[.int .i64 0, .nils, .nils]]⟩) := push_new hM3
 obtain ⟨r11, hx10, h⟩ := bind_some h
 refine kx (mvO rfl) (Rn (hN rfl (hN rfl (hV (.loc ([] : Mem).length 1 0 0) rfl hZ))) fun e5 h7 h8 h9 => sN (sq (sq (Rg (kx (ldPA h8 rfl rfl) (kx (mvO h7) (kc (cl (v := .int .i64 r11) rfl rfl (cns rfl (cns rfl rfl)) rfl (impl_dealsCode_ok a1 a2 _ hx10) nm) (kx (mvO rfl) (Rn (hA h7 (hA h8 (hA h9 (hN rfl hZ)))) fun e12 h14 h15 h16 h17 => sN (sq (Rg (kx (mvO h17) (kx (bNeq rfl rfl) (Rn (hA h14 (hA h15 (hA h16 (hA h17 (hN rfl hZ))))) fun e18 h20 h21 h22 h23 h24 => sN ?_))))))))))))))
 clear h7 h8 h9 h14 h15 h16 h17
 rcases ite_some h with ⟨hb25, h⟩ | ⟨hb25, h⟩
 ·refine cT h24 hb25 (sq (Rg (kx (bldT zero27 rfl (fill0 rfl)) (kx (mvO h23) (kw (stO h22 rfl o4 rfl rfl ⟨rfl, ble rfl⟩ rfl rfl) fun M26 hM27 => ?_)))))
  have o28 : M26[([] : Mem).length]? = some (.live ⟨.box, 27, 3, [[.int .i64 0, .nils, .nils]]⟩) := set_same hM27 o4
  refine kx (mvO rfl) (Rn (hA h22 (hN rfl hZ)) fun e29 h31 h32 => sN (xx (sR ?_)))
  clear h20 h21 h22 h23 h24
  obtain rfl := si h
  exact eR (resC (ag := true) (sz := 3) ⟨by kernel_rfl, by kernel_rfl, by kernel_rfl⟩ (ldOA h31 o28 rfl rfl (ble rfl) rfl) (resT h32 res0)) (wkH (y := .tup [.agg [.int .i64 0, .nils, .nils], .int .i64 r11]) rfl rfl)
 obtain ⟨q52, hx33, h⟩ := bind_some h
 refine cF h24 hb25 (xx (sN (sq (Rg (kx (ldPA h21 rfl rfl) (kx (mvO h20) ?_))))))
 rcases q52 with r34 | ⟨r42, r43, r44⟩
 ·refine kc (cl (v := .tup [.agg [.int .i64 0, .nils, .nils], .int .i64 r34]) rfl rfl (cns rfl (cns rfl rfl)) rfl (impl_behind_ok a1 a2 _ hx33) nm) (kx (exT rfl rfl) (kx (exT rfl rfl) (kw (stO h22 rfl o4 rfl rfl ⟨rfl, ble rfl⟩ rfl rfl) fun M35 hM36 => ?_)))
  have o37 : M35[([] : Mem).length]? = some (.live ⟨.box, 27, 3, [[.int .i64 0, .nils, .nils]]⟩) := set_same hM36 o4
  refine kx (mvO rfl) (Rn (hA h22 (hN rfl hZ)) fun e38 h40 h41 => sN (xx ?_))
  clear h20 h21 h22 h23 h24
  obtain rfl := si h
  exact eR (resC (ag := true) (sz := 3) ⟨by kernel_rfl, by kernel_rfl, by kernel_rfl⟩ (ldOA h40 o37 rfl rfl (ble rfl) rfl) (resT h41 res0)) (wkH (y := .tup [.agg [.int .i64 0, .nils, .nils], .int .i64 r34]) rfl rfl)
 refine kc (cl (v := .tup [.agg [.int .i64 r42, .sl none (r43.map (cI .i64)), .sl none (r44.map Tally.c)], .int .i64 0]) rfl rfl (cns rfl (cns rfl rfl)) rfl (impl_behind_ok a1 a2 _ hx33) nm) (kx (exT rfl rfl) (kx (exT rfl rfl) (kw (stO h22 rfl o4 rfl rfl ⟨rfl, ble rfl⟩ rfl rfl) fun M45 hM46 => ?_)))
 have o47 : M45[([] : Mem).length]? = some (.live ⟨.box, 27, 3, [[.int .i64 r42, .sl none (r43.map (cI .i64)), .sl none (r44.map Tally.c)]]⟩) := set_same hM46 o4
 refine kx (mvO rfl) (Rn (hA h22 (hV (.int .i64 0) rfl hZ)) fun e48 h50 h51 => sN (xx ?_))
 clear h20 h21 h22 h23 h24
 obtain rfl := si h
 exact eR (resC (ag := true) (sz := 3) ⟨by kernel_rfl, by kernel_rfl, by kernel_rfl⟩ (ldOA h50 o47 rfl rfl (ble rfl) rfl) (resT h51 res0)) (wkH (y := .tup [.agg [.int .i64 r42, .sl none (r43.map (cI .i64)), .sl none (r44.map Tally.c)], .int .i64 0]) rfl rfl)
noncomputable def spec_l00From (a1 : List Int) : Option L00Src :=
 some (L00Src.mk a1 0 0)
def spec_l00From_Q (a1 : List Int) (M0 : Mem) (r : L00Src) (p : AV × Mem) : Prop := p.1 = .loc M0.length 1 0 0 ∧ p.2[M0.length]? = some (.live ⟨.box, 142, 3, [[.sl none (r.Code.map (cI .u8)), .int .i64 r.At, .int .u64 r.Seed]]⟩) ∧ Fr [] M0 p.2
theorem spec_l00From_ok (a1 : List Int) (M0 : Mem) (r : L00Src) (h : spec_l00From a1 = some r) : Ev (fun k => CN k 51 [.sl none (a1.map (cI .u8))] M0) (spec_l00From_Q a1 M0 r) := by
 unfold spec_l00From at h
 have fr0 : Fr [] M0 M0 := Fr.refl
 refine Ev.enter (F := fun k => f51 (CN k) k) (fun k => callN_eq rfl Try.func51 rfl rfl rfl (by decide +kernel) (f51_eq _ _)) (sq (Rg (kx (mvO rfl) (Rn (hN rfl hZ) fun e1 h3 => sN (sq (Rg (kx (mvO h3) (kx (bldT zero142 (cns (pr3 rfl) rfl) (fill1 ⟨rfl, ble rfl⟩ rfl rfl (fill0 rfl))) (ku (bxO rfl rfl ⟨rfl, rfl, by decide⟩) fun M5 hM6 => ?_)))))))))
 have nf7 := Nf.mk fr0
 have fr8 := Fr.push fr0 hM6
 have o9 : M5[M0.length]? = some (.live ⟨.box, 142, 3, [[.sl none (a1.map (cI .u8)), .int .i64 0, .int .u64 0]]⟩) := push_new hM6
 refine kx (mvO rfl) (Rn (hV (.loc M0.length 1 0 0) rfl hZ) fun e10 h12 => sN (xx ?_))
 clear h3
 obtain rfl := si h
 exact eR (resT h12 res0) ⟨rfl, o9, fr8⟩
noncomputable def spec_l00Src_next_p (a1 : List Int) (a2 : Int) (a3 : Int) : Option (Int × (List Int) × Int × Int) :=
 if (decide (a2 < (a1.length : Int))) = true then
  (rd a1 a2).bind fun x14 =>
  if (decide ((IntKind.i64.wrap (a2 + 1)) ≤ (a1.length : Int))) = true then
   some ((IntKind.i64.wrap x14), a1, (IntKind.i64.wrap (a2 + 1)), (IntKind.u64.wrap ((IntKind.u64.wrap ((IntKind.u64.wrap (a3 * 6364136223846793005)) + (IntKind.u64.wrap (IntKind.i64.wrap x14)))) + 1442695040888963407)))
  else
   (shr .u64 (IntKind.u64.wrap ((IntKind.u64.wrap ((IntKind.u64.wrap (a3 * 6364136223846793005)) + (IntKind.u64.wrap (IntKind.i64.wrap x14)))) + 1442695040888963407)) 40).bind fun n45 =>
   some ((IntKind.i64.wrap (iand .u64 n45 255)), a1, (IntKind.i64.wrap (a2 + 1)), (IntKind.u64.wrap ((IntKind.u64.wrap ((IntKind.u64.wrap (a3 * 6364136223846793005)) + (IntKind.u64.wrap (IntKind.i64.wrap x14)))) + 1442695040888963407)))
 else
  if (decide ((IntKind.i64.wrap (a2 + 1)) ≤ (a1.length : Int))) = true then
   some (0, a1, (IntKind.i64.wrap (a2 + 1)), (IntKind.u64.wrap ((IntKind.u64.wrap ((IntKind.u64.wrap (a3 * 6364136223846793005)) + 0)) + 1442695040888963407)))
  else
   (shr .u64 (IntKind.u64.wrap ((IntKind.u64.wrap ((IntKind.u64.wrap (a3 * 6364136223846793005)) + 0)) + 1442695040888963407)) 40).bind fun n75 =>
   some ((IntKind.i64.wrap (iand .u64 n75 255)), a1, (IntKind.i64.wrap (a2 + 1)), (IntKind.u64.wrap ((IntKind.u64.wrap ((IntKind.u64.wrap (a3 * 6364136223846793005)) + 0)) + 1442695040888963407)))
def spec_l00Src_next_p_Q (a1 : List Int) (a2 : Int) (a3 : Int) (j1 : Nat) (M0 : Mem) (r : Int × (List Int) × Int × Int) (p : AV × Mem) : Prop := p.1 = .int .i64 r.1 ∧ p.2[j1]? = some (.live ⟨.box, 142, 3, [[.sl none (r.2.1.map (cI .u8)), .int .i64 r.2.2.1, .int .u64 r.2.2.2]]⟩) ∧ Fr [j1] M0 p.2
theorem spec_l00Src_next_p_ok (a1 : List Int) (a2 : Int) (a3 : Int) (j1 : Nat) (M0 : Mem) (oP1 : M0[j1]? = some (.live ⟨.box, 142, 3, [[.sl none (a1.map (cI .u8)), .int .i64 a2, .int .u64 a3]]⟩)) (r : Int × (List Int) × Int × Int) (h : spec_l00Src_next_p a1 a2 a3 = some r) : Ev (fun k => CN k 117 [.loc j1 1 0 0] M0) (spec_l00Src_next_p_Q a1 a2 a3 j1 M0 r) := by
 unfold spec_l00Src_next_p at h
 have fr0 : Fr [j1] M0 M0 := Fr.refl
 refine Ev.enter (F := fun k => f117 (CN k) k) (fun k => callN_eq rfl Try.func117 rfl rfl rfl (by decide +kernel) (f117_eq _ _)) (sq (Rg (kx (mvO rfl) (Rn (hV (.loc j1 1 0 0) rfl hZ) fun e1 h3 => sN (sq (Rg (kx (mvO rfl) (Rn (hA h3 (hV (.int .i64 0) rfl hZ)) fun e4 h6 h7 => sN (sq (sq (Rd (kf (mvO h6) (kf (ncO rfl oP1 rfl) (kf (faO rfl oP1 rfl) (kf (ldO rfl oP1 rfl rfl rfl) (kf (mvO h6) (kf (ncO rfl oP1 rfl) (kf (faO rfl oP1 rfl) (kf (ldO rfl oP1 rfl rfl rfl) (kf (lnS Try.underlying22 rfl) (kf (bLss rfl rfl) (fZ (Rn (hA h6 (hA h7 (hN rfl hZ))) fun e8 h10 h11 h12 => sN ?_)))))))))))))))))))))))
 clear h3 h6 h7
 rcases ite_some h with ⟨hb13, h⟩ | ⟨hb13, h⟩
 ·obtain ⟨x14, hx15, h⟩ := bind_some h
  refine cT h12 hb13 (Rd (kf (mvO h10) (kf (ncO rfl oP1 rfl) (kf (faO rfl oP1 rfl) (kf (ldO rfl oP1 rfl rfl rfl) (kf (mvO h10) (kf (ncO rfl oP1 rfl) (kf (faO rfl oP1 rfl) (kf (ldO rfl oP1 rfl rfl rfl) (kf (ixS rfl rfl hx15 (cI_fl _)) (kf (ldP rfl rfl) (kf (cvI rfl) (kf (mvO rfl) (fZ (Rn (hA h10 (hN rfl hZ)) fun e16 h18 h19 => sN (sq (Rg (kx (mvO h18) (kx (ncO rfl oP1 rfl) (kx (faO rfl oP1 rfl) (kx (ldO rfl oP1 rfl rfl rfl) (kx (bAdd rfl rfl) (kx (ncO rfl oP1 rfl) (kx (faO rfl oP1 rfl) (kw (stO rfl rfl oP1 rfl rfl ⟨rfl, ble rfl⟩ rfl rfl) fun M20 hM21 => ?_)))))))))))))))))))))))))
  clear h10 h12
  have o22 : M20[j1]? = some (.live ⟨.box, 142, 3, [[.sl none (a1.map (cI .u8)), .int .i64 (IntKind.i64.wrap (a2 + 1)), .int .u64 a3]]⟩) := set_same hM21 oP1
  have fr23 := Fr.setIn fr0 hM21 (by simp)
  refine Rn (hA h18 (hA h19 hZ)) fun e24 h26 h27 => sN (sq (Rg (kx (mvO h26) (kx (mvO h26) (kx (ncO rfl o22 rfl) (kx (faO rfl o22 rfl) (kx (ldO rfl o22 rfl rfl rfl) (kx (bMul rfl rfl) (kx (mvO h27) (kx (cvI rfl) (kx (bAdd rfl rfl) (kx (bAdd rfl rfl) (kx (ncO rfl o22 rfl) (kx (faO rfl o22 rfl) (kw (stO rfl rfl o22 rfl rfl ⟨rfl, ble rfl⟩ rfl rfl) fun M28 hM29 => ?_)))))))))))))))
  clear h18 h19
  have o30 : M28[j1]? = some (.live ⟨.box, 142, 3, [[.sl none (a1.map (cI .u8)), .int .i64 (IntKind.i64.wrap (a2 + 1)), .int .u64 (IntKind.u64.wrap ((IntKind.u64.wrap ((IntKind.u64.wrap (a3 * 6364136223846793005)) + (IntKind.u64.wrap (IntKind.i64.wrap x14)))) + 1442695040888963407))]]⟩) := set_same hM29 o22
  have fr31 := Fr.setIn fr23 hM29 (by simp)
  refine Rn (hA h26 (hA h27 hZ)) fun e32 h34 h35 => sN (sq (sq (Rd (kf (mvO h34) (kf (ncO rfl o30 rfl) (kf (faO rfl o30 rfl) (kf (ldO rfl o30 rfl rfl rfl) (kf (mvO h34) (kf (ncO rfl o30 rfl) (kf (faO rfl o30 rfl) (kf (ldO rfl o30 rfl rfl rfl) (kf (lnS Try.underlying22 rfl) (kf (bLeq rfl rfl) (fZ (Rn (hA h34 (hA h35 (hN rfl hZ))) fun e36 h38 h39 h40 => sN ?_)))))))))))))))
  clear h26 h27 h34 h35
  rcases ite_some h with ⟨hb41, h⟩ | ⟨hb41, h⟩
  ·refine cT h40 hb41 (sq (Rg (kx (mvO h39) (kx (mvO rfl) (Rn (hN rfl hZ) fun e42 h44 => sN (xx (sR ?_)))))))
   clear h38 h39 h40
   obtain rfl := si h
   exact eR (resT h44 res0) ⟨rfl, o30, fr31⟩
  obtain ⟨n45, hx46, h⟩ := bind_some h
  refine cF h40 hb41 (xx (sN (sq (Rg (kx (mvO h38) (kx (ncO rfl o30 rfl) (kx (faO rfl o30 rfl) (kx (ldO rfl o30 rfl rfl rfl) (kx (bShr rfl rfl hx46) (kx (bAnd rfl rfl) (kx (cvI rfl) (kx (mvO rfl) (Rn (hN rfl hZ) fun e47 h49 => sN (xx ?_))))))))))))))
  clear h38 h39 h40
  obtain rfl := si h
  exact eR (resT h49 res0) ⟨rfl, o30, fr31⟩
 refine cF h12 hb13 (xx (sN (sq (Rg (kx (mvO h10) (kx (ncO rfl oP1 rfl) (kx (faO rfl oP1 rfl) (kx (ldO rfl oP1 rfl rfl rfl) (kx (bAdd rfl rfl) (kx (ncO rfl oP1 rfl) (kx (faO rfl oP1 rfl) (kw (stO rfl rfl oP1 rfl rfl ⟨rfl, ble rfl⟩ rfl rfl) fun M50 hM51 => ?_))))))))))))
 have o52 : M50[j1]? = some (.live ⟨.box, 142, 3, [[.sl none (a1.map (cI .u8)), .int .i64 (IntKind.i64.wrap (a2 + 1)), .int .u64 a3]]⟩) := set_same hM51 oP1
 have fr53 := Fr.setIn fr0 hM51 (by simp)
 refine Rn (hA h10 (hA h11 hZ)) fun e54 h56 h57 => sN (sq (Rg (kx (mvO h56) (kx (mvO h56) (kx (ncO rfl o52 rfl) (kx (faO rfl o52 rfl) (kx (ldO rfl o52 rfl rfl rfl) (kx (bMul rfl rfl) (kx (mvO h57) (kx (cvI rfl) (kx (bAdd rfl rfl) (kx (bAdd rfl rfl) (kx (ncO rfl o52 rfl) (kx (faO rfl o52 rfl) (kw (stO rfl rfl o52 rfl rfl ⟨rfl, ble rfl⟩ rfl rfl) fun M58 hM59 => ?_)))))))))))))))
 clear h10 h11 h12
 have o60 : M58[j1]? = some (.live ⟨.box, 142, 3, [[.sl none (a1.map (cI .u8)), .int .i64 (IntKind.i64.wrap (a2 + 1)), .int .u64 (IntKind.u64.wrap ((IntKind.u64.wrap ((IntKind.u64.wrap (a3 * 6364136223846793005)) + 0)) + 1442695040888963407))]]⟩) := set_same hM59 o52
 have fr61 := Fr.setIn fr53 hM59 (by simp)
 refine Rn (hA h56 (hA h57 hZ)) fun e62 h64 h65 => sN (sq (sq (Rd (kf (mvO h64) (kf (ncO rfl o60 rfl) (kf (faO rfl o60 rfl) (kf (ldO rfl o60 rfl rfl rfl) (kf (mvO h64) (kf (ncO rfl o60 rfl) (kf (faO rfl o60 rfl) (kf (ldO rfl o60 rfl rfl rfl) (kf (lnS Try.underlying22 rfl) (kf (bLeq rfl rfl) (fZ (Rn (hA h64 (hA h65 (hN rfl hZ))) fun e66 h68 h69 h70 => sN ?_)))))))))))))))
 clear h56 h57 h64 h65
 rcases ite_some h with ⟨hb71, h⟩ | ⟨hb71, h⟩
 ·refine cT h70 hb71 (sq (Rg (kx (mvO h69) (kx (mvO rfl) (Rn (hV (.int .i64 0) rfl hZ) fun e72 h74 => sN (xx (sR ?_)))))))
  clear h68 h69 h70
  obtain rfl := si h
  exact eR (resT h74 res0) ⟨rfl, o60, fr61⟩
 obtain ⟨n75, hx76, h⟩ := bind_some h
 refine cF h70 hb71 (xx (sN (sq (Rg (kx (mvO h68) (kx (ncO rfl o60 rfl) (kx (faO rfl o60 rfl) (kx (ldO rfl o60 rfl rfl rfl) (kx (bShr rfl rfl hx76) (kx (bAnd rfl rfl) (kx (cvI rfl) (kx (mvO rfl) (Rn (hN rfl hZ) fun e77 h79 => sN (xx ?_))))))))))))))
 clear h68 h69 h70
 obtain rfl := si h
 exact eR (resT h79 res0) ⟨rfl, o60, fr61⟩
noncomputable def spec_l00Src_pick_p (a1 : List Int) (a2 : Int) (a3 : Int) (a4 : Int) : Option (Int × (List Int) × Int × Int) :=
 if (decide (a4 ≤ 1)) = true then
  some (0, a1, a2, a3)
 else
  (spec_l00Src_next_p a1 a2 a3).bind fun (r15, r16, r17, r18) =>
  if (decide (a4 > 200)) = true then
   (spec_l00Src_next_p r16 r17 r18).bind fun (r39, r40, r41, r42) =>
   (rem .i64 (IntKind.i64.wrap ((IntKind.i64.wrap (r15 * 256)) + r39)) a4).bind fun n54 =>
   some (n54, r40, r41, r42)
  else
   (rem .i64 r15 a4).bind fun n59 =>
   some (n59, r16, r17, r18)
def spec_l00Src_pick_p_Q (a1 : List Int) (a2 : Int) (a3 : Int) (a4 : Int) (j1 : Nat) (M0 : Mem) (r : Int × (List Int) × Int × Int) (p : AV × Mem) : Prop := p.1 = .int .i64 r.1 ∧ p.2[j1]? = some (.live ⟨.box, 142, 3, [[.sl none (r.2.1.map (cI .u8)), .int .i64 r.2.2.1, .int .u64 r.2.2.2]]⟩) ∧ Fr [j1] M0 p.2
theorem spec_l00Src_pick_p_ok (a1 : List Int) (a2 : Int) (a3 : Int) (a4 : Int) (j1 : Nat) (M0 : Mem) (oP1 : M0[j1]? = some (.live ⟨.box, 142, 3, [[.sl none (a1.map (cI .u8)), .int .i64 a2, .int .u64 a3]]⟩)) (r : Int × (List Int) × Int × Int) (h : spec_l00Src_pick_p a1 a2 a3 a4 = some r) : Ev (fun k => CN k 88 [.loc j1 1 0 0, .int .i64 a4] M0) (spec_l00Src_pick_p_Q a1 a2 a3 a4 j1 M0 r) := by
 unfold spec_l00Src_pick_p at h
 have fr0 : Fr [j1] M0 M0 := Fr.refl
 refine Ev.enter (F := fun k => f88 (CN k) k) (fun k => callN_eq rfl Try.func88 rfl rfl rfl (by decide +kernel) (f88_eq _ _)) (sq (Rg (kx (mvO rfl) (Rn (hV (.loc j1 1 0 0) rfl (hN rfl hZ)) fun e1 h3 h4 => sN (sq (sq (Rg (kx (mvO h4) (kx (bLeq rfl rfl) (Rn (hA h3 (hA h4 (hN rfl hZ))) fun e5 h7 h8 h9 => sN ?_))))))))))
 clear h3 h4
 rcases ite_some h with ⟨hb10, h⟩ | ⟨hb10, h⟩
 ·refine cT h9 hb10 (sq (Rg (kx (mvO rfl) (Rn (hV (.int .i64 0) rfl hZ) fun e11 h13 => sN (xx (sR ?_))))))
  clear h7 h8 h9
  obtain rfl := si h
  exact eR (resT h13 res0) ⟨rfl, oP1, fr0⟩
 obtain ⟨⟨r15, r16, r17, r18⟩, hx14, h⟩ := bind_some h
 refine cF h9 hb10 (xx (sN (sq (Rg (kx (mvO h7) (Ev.nxw (Ev.callW rfl (cns rfl rfl) (spec_l00Src_next_p_ok a1 a2 a3 j1 M0 oP1 _ hx14)) fun v21 M19 hq20 => ?_))))))
 obtain ⟨hv21, o22, fr23⟩ := hq20
 have hv21 : v21 = .int .i64 r15 := hv21
 subst hv21
 have o24 : M19[j1]? = some (.live ⟨.box, 142, 3, [[.sl none (r16.map (cI .u8)), .int .i64 r17, .int .u64 r18]]⟩) := o22
 have fr25 : Fr [j1] M0 M19 := Fr.call fr0 fr23 (fwI (by simp) fwN)
 refine kx (mvO rfl) (Rn (hA h7 (hA h8 (hN rfl hZ))) fun e26 h28 h29 h30 => sN (sq (sq (Rg (kx (mvO h29) (kx (bGtr rfl rfl) (Rn (hA h28 (hA h29 (hA h30 (hN rfl hZ)))) fun e31 h33 h34 h35 h36 => sN ?_)))))))
 clear h7 h8 h9 h28 h29 h30
 rcases ite_some h with ⟨hb37, h⟩ | ⟨hb37, h⟩
 ·obtain ⟨⟨r39, r40, r41, r42⟩, hx38, h⟩ := bind_some h
  refine cT h36 hb37 (Rg (kx (mvO h35) (kx (bMul rfl rfl) (kx (mvO h33) (Ev.nxw (Ev.callW rfl (cns rfl rfl) (spec_l00Src_next_p_ok r16 r17 r18 j1 M19 o24 _ hx38)) fun v45 M43 hq44 => ?_)))))
  obtain ⟨hv45, o46, fr47⟩ := hq44
  have hv45 : v45 = .int .i64 r39 := hv45
  subst hv45
  have o48 : M43[j1]? = some (.live ⟨.box, 142, 3, [[.sl none (r40.map (cI .u8)), .int .i64 r41, .int .u64 r42]]⟩) := o46
  have fr49 : Fr [j1] M0 M43 := Fr.call fr25 fr47 (fwI (by simp) fwN)
  obtain ⟨n54, hx55, h⟩ := bind_some h
  refine kx (bAdd rfl rfl) (kx (mvO rfl) (Rn (hA h34 (hN rfl hZ)) fun e50 h52 h53 => sN (sq (Rg (kx (mvO h53) (kx (mvO h52) (kx (bRem rfl rfl hx55) (kx (mvO rfl) (Rn (hN rfl hZ) fun e56 h58 => sN (xx ?_))))))))))
  clear h33 h34 h36 h52 h53
  obtain rfl := si h
  exact eR (resT h58 res0) ⟨rfl, o48, fr49⟩
 obtain ⟨n59, hx60, h⟩ := bind_some h
 refine cF h36 hb37 (xx (sN (sq (Rg (kx (mvO h35) (kx (mvO h34) (kx (bRem rfl rfl hx60) (kx (mvO rfl) (Rn (hN rfl hZ) fun e61 h63 => sN (xx ?_))))))))))
 clear h33 h34 h35 h36
 obtain rfl := si h
 exact eR (resT h63 res0) ⟨rfl, o24, fr25⟩
noncomputable def spec_l00Src_one_p (a1 : List Int) (a2 : Int) (a3 : Int) (a4 : Int) : Option (Bool × (List Int) × Int × Int) :=
 (spec_l00Src_pick_p a1 a2 a3 a4).bind fun (r6, r7, r8, r9) =>
 some ((r6 == 0), r7, r8, r9)
def spec_l00Src_one_p_Q (a1 : List Int) (a2 : Int) (a3 : Int) (a4 : Int) (j1 : Nat) (M0 : Mem) (r : Bool × (List Int) × Int × Int) (p : AV × Mem) : Prop := p.1 = .bool r.1 ∧ p.2[j1]? = some (.live ⟨.box, 142, 3, [[.sl none (r.2.1.map (cI .u8)), .int .i64 r.2.2.1, .int .u64 r.2.2.2]]⟩) ∧ Fr [j1] M0 p.2
theorem spec_l00Src_one_p_ok (a1 : List Int) (a2 : Int) (a3 : Int) (a4 : Int) (j1 : Nat) (M0 : Mem) (oP1 : M0[j1]? = some (.live ⟨.box, 142, 3, [[.sl none (a1.map (cI .u8)), .int .i64 a2, .int .u64 a3]]⟩)) (r : Bool × (List Int) × Int × Int) (h : spec_l00Src_one_p a1 a2 a3 a4 = some r) : Ev (fun k => CN k 141 [.loc j1 1 0 0, .int .i64 a4] M0) (spec_l00Src_one_p_Q a1 a2 a3 a4 j1 M0 r) := by
 unfold spec_l00Src_one_p at h
 have fr0 : Fr [j1] M0 M0 := Fr.refl
 obtain ⟨⟨r6, r7, r8, r9⟩, hx5, h⟩ := bind_some h
 refine Ev.enter (F := fun k => f141 (CN k) k) (fun k => callN_eq rfl Try.func141 rfl rfl rfl (by decide +kernel) (f141_eq _ _)) (sq (Rg (kx (mvO rfl) (Rn (hV (.loc j1 1 0 0) rfl (hN rfl hZ)) fun e1 h3 h4 => sN (sq (Rg (kx (mvO h3) (kx (mvO h4) (Ev.nxw (Ev.callW rfl (cns rfl (cns rfl rfl)) (spec_l00Src_pick_p_ok a1 a2 a3 a4 j1 M0 oP1 _ hx5)) fun v12 M10 hq11 => ?_)))))))))
 obtain ⟨hv12, o13, fr14⟩ := hq11
 have hv12 : v12 = .int .i64 r6 := hv12
 subst hv12
 have o15 : M10[j1]? = some (.live ⟨.box, 142, 3, [[.sl none (r7.map (cI .u8)), .int .i64 r8, .int .u64 r9]]⟩) := o13
 have fr16 : Fr [j1] M0 M10 := Fr.call fr0 fr14 (fwI (by simp) fwN)
 refine kx (bEql rfl rfl) (kx (mvO rfl) (Rn (hN rfl hZ) fun e17 h19 => sN (xx ?_)))
 clear h3 h4
 obtain rfl := si h
 exact eR (resT h19 res0) ⟨rfl, o15, fr16⟩
end Go.Proofs.Ytjlalepbhcekoaa

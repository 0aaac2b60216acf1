/- Printed by a program of ours (ext.py). -/
import Derived.Test.YtjlalepbhcekoaaLnkBooksx1
set_option linter.unusedVariables false
set_option linter.unusedSimpArgs false
set_option maxRecDepth 100000
set_option maxHeartbeats 2000000
namespace Go.Proofs.Ytjlalepbhcekoaa
open Go Go.Ab
def spec_l07NextDeal_pp_c1_Q (a4 : Int) (a5 : List Int) (a6 : List Tally) (r35 : Int) (j1 : Nat) (j2 : Nat) (i901_3 : Nat) (i901_4 : Nat) (M0 : Mem) (g : Bool × (List Int) × Int × Int) (q : Out) : Prop := q.1 = .nrm ∧ eget q.2.1 0 = .loc j1 1 0 0 ∧ eget q.2.1 1 = .loc j2 1 0 0 ∧ eget q.2.1 4 = .loc i901_3 1 0 0 ∧ eget q.2.1 5 = .int .i64 (a5.length : Int) ∧ eget q.2.1 6 = .loc i901_4 1 0 0 ∧ eget q.2.1 30 = .bool g.1 ∧ q.2.2[i901_3]? = some (.live ⟨.box, 36, 6, [[.int .i64 0, .int .i8 0, .int .i64 0, .int .i64 0, .int .i64 0, .int .i64 0]]⟩) ∧ q.2.2[i901_4]? = some (.live ⟨.box, 36, 6, [[.int .i64 (IntKind.i64.wrap (a4 + r35)), .int .i8 0, .int .i64 0, .int .i64 0, .int .i64 0, .int .i64 0]]⟩) ∧ q.2.2[j1]? = some (.live ⟨.box, 142, 3, [[.sl none (g.2.1.map (cI .u8)), .int .i64 g.2.2.1, .int .u64 g.2.2.2]]⟩) ∧ q.2.2[j2]? = some (.live ⟨.box, 27, 3, [[.int .i64 a4, .sl none (a5.map (cI .i64)), .sl none (a6.map Tally.c)]]⟩) ∧ Fr [j1, j2] M0 q.2.2
def spec_l07NextDeal_pp_c2_Q (a4 : Int) (a5 : List Int) (a6 : List Tally) (r35 : Int) (r220 : Int) (x248 : Tally) (r259 : Int) (r260 : List Int) (r261 : Int) (r262 : Int) (i902_1 : Nat) (i902_2 : Nat) (j1 : Nat) (j2 : Nat) (M0 : Mem) (g : Bool) (q : Out) : Prop := q.1 = .nrm ∧ eget q.2.1 0 = .loc j1 1 0 0 ∧ eget q.2.1 1 = .loc j2 1 0 0 ∧ eget q.2.1 4 = .loc i902_1 1 0 0 ∧ eget q.2.1 5 = .int .i64 (a5.length : Int) ∧ eget q.2.1 6 = .loc i902_2 1 0 0 ∧ eget q.2.1 7 = .pt none [.int .i64 x248.Debtor, .int .i64 x248.Holder, .int .i64 x248.Cut, .int .i64 x248.Amount, .int .i64 x248.Left] ∧ eget q.2.1 68 = .int .i64 r259 ∧ eget q.2.1 90 = .bool g ∧ q.2.2[i902_1]? = some (.live ⟨.box, 36, 6, [[.int .i64 0, .int .i8 0, .int .i64 0, .int .i64 0, .int .i64 0, .int .i64 0]]⟩) ∧ q.2.2[i902_2]? = some (.live ⟨.box, 36, 6, [[.int .i64 (IntKind.i64.wrap (a4 + r35)), .int .i8 0, .int .i64 r220, .int .i64 0, .int .i64 0, .int .i64 0]]⟩) ∧ q.2.2[j1]? = some (.live ⟨.box, 142, 3, [[.sl none (r260.map (cI .u8)), .int .i64 r261, .int .u64 r262]]⟩) ∧ q.2.2[j2]? = some (.live ⟨.box, 27, 3, [[.int .i64 a4, .sl none (a5.map (cI .i64)), .sl none (a6.map Tally.c)]]⟩) ∧ Fr [j1, j2] M0 q.2.2
noncomputable def spec_l07NextDeal_pp (a1 : List Int) (a2 : Int) (a3 : Int) (a4 : Int) (a5 : List Int) (a6 : List Tally) : Option (Int × Int × Int × Int × Int × Int × (List Int) × Int × Int) :=
 (spec_l00Src_pick_p a1 a2 a3 4).bind fun (r35, r36, r37, r38) =>
 (if ((a6.length : Int) == 0) = true then
  some (true, r36, r37, r38)
 else
  (spec_l00Src_one_p r36 r37 r38 3).bind fun (r73, r74, r75, r76) =>
  some (r73, r74, r75, r76)).bind fun (y97, y98, y99, y100) =>
 if y97 = true then
  (spec_l00Src_pick_p y98 y99 y100 (a5.length : Int)).bind fun (r127, r128, r129, r130) =>
  (spec_l00Src_pick_p r128 r129 r130 (IntKind.i64.wrap ((a5.length : Int) - 1))).bind fun (r155, r156, r157, r158) =>
  (rem .i64 (IntKind.i64.wrap ((IntKind.i64.wrap (r127 + 1)) + r155)) (a5.length : Int)).bind fun n169 =>
  (spec_l00Src_pick_p r156 r157 r158 60).bind fun (r184, r185, r186, r187) =>
  some ((IntKind.i64.wrap (a4 + r35)), 1, 0, r127, n169, (IntKind.i64.wrap (1 + r184)), r185, r186, r187)
 else
  (spec_l00Src_pick_p y98 y99 y100 (a6.length : Int)).bind fun (r220, r221, r222, r223) =>
  (rd a6 r220).bind fun x248 =>
  (spec_l00Src_pick_p r221 r222 r223 5).bind fun (r259, r260, r261, r262) =>
  (if (r259 == 0) = true then
   some (r259 == 0)
  else
   some (r259 == 1)).bind fun y305 =>
  if y305 = true then
   (spec_l00Src_pick_p r260 r261 r262 (IntKind.i64.wrap ((a5.length : Int) - 1))).bind fun (r348, r349, r350, r351) =>
   (rem .i64 (IntKind.i64.wrap ((IntKind.i64.wrap (x248.Holder + 1)) + r348)) (a5.length : Int)).bind fun n362 =>
   some ((IntKind.i64.wrap (a4 + r35)), 2, r220, x248.Holder, n362, 0, r349, r350, r351)
  else
   if (r259 == 2) = true then
    some ((IntKind.i64.wrap (a4 + r35)), 4, r220, x248.Holder, 0, 0, r260, r261, r262)
   else
    (rd a5 x248.Debtor).bind fun x441 =>
    (spec_l00Min x248.Left x441).bind fun r444 =>
    (spec_l00Max r444 1).bind fun r446 =>
    (spec_l00Src_pick_p r260 r261 r262 r446).bind fun (r448, r449, r450, r451) =>
    some ((IntKind.i64.wrap (a4 + r35)), 3, r220, 0, 0, (IntKind.i64.wrap (1 + r448)), r449, r450, r451)
def spec_l07NextDeal_pp_Q (a1 : List Int) (a2 : Int) (a3 : Int) (a4 : Int) (a5 : List Int) (a6 : List Tally) (j1 : Nat) (j2 : Nat) (M0 : Mem) (r : Int × Int × Int × Int × Int × Int × (List Int) × Int × Int) (p : AV × Mem) : Prop := p.1 = .agg [.int .i64 r.1, .int .i8 r.2.1, .int .i64 r.2.2.1, .int .i64 r.2.2.2.1, .int .i64 r.2.2.2.2.1, .int .i64 r.2.2.2.2.2.1] ∧ p.2[j1]? = some (.live ⟨.box, 142, 3, [[.sl none (r.2.2.2.2.2.2.1.map (cI .u8)), .int .i64 r.2.2.2.2.2.2.2.1, .int .u64 r.2.2.2.2.2.2.2.2]]⟩) ∧ p.2[j2]? = some (.live ⟨.box, 27, 3, [[.int .i64 a4, .sl none (a5.map (cI .i64)), .sl none (a6.map Tally.c)]]⟩) ∧ Fr [j1, j2] M0 p.2
theorem spec_l07NextDeal_pp_ok (a1 : List Int) (a2 : Int) (a3 : Int) (a4 : Int) (a5 : List Int) (a6 : List Tally) (j1 : Nat) (j2 : Nat) (ne01 : j1 ≠ j2) (M0 : Mem) (oP1 : M0[j1]? = some (.live ⟨.box, 142, 3, [[.sl none (a1.map (cI .u8)), .int .i64 a2, .int .u64 a3]]⟩)) (oP2 : M0[j2]? = some (.live ⟨.box, 27, 3, [[.int .i64 a4, .sl none (a5.map (cI .i64)), .sl none (a6.map Tally.c)]]⟩)) (r : Int × Int × Int × Int × Int × Int × (List Int) × Int × Int) (h : spec_l07NextDeal_pp a1 a2 a3 a4 a5 a6 = some r) : Ev (fun k => CN k 105 [.loc j1 1 0 0, .loc j2 1 0 0] M0) (spec_l07NextDeal_pp_Q a1 a2 a3 a4 a5 a6 j1 j2 M0 r) := by
 unfold spec_l07NextDeal_pp at h
 have fr0 : Fr [j1, j2] M0 M0 := Fr.refl
 refine Ev.enter (F := fun k => f105 (CN k) k) (fun k => callN_eq rfl Try.func105 rfl rfl rfl (by decide +kernel) (f105_eq _ _)) (sq (Rg (ku (alO zero36) fun M2 hM3 => ?_)))
 have nf4 := Nf.mk fr0
 have fr5 := Fr.push fr0 hM3
 have o6 := push_old hM3 oP1
 have ne7 := ne_new oP1
 have o8 := push_old hM3 oP2
 have ne9 := ne_new oP2
 have o10 : M2[M0.length]? = some (.live ⟨.box, 36, 6, [[.int .i64 0, .int .i8 0, .int .i64 0, .int .i64 0, .int .i64 0, .int .i64 0]]⟩) := push_new hM3
 refine Rn (hV (.loc j1 1 0 0) rfl (hV (.loc j2 1 0 0) rfl (hV (.loc M0.length 1 0 0) rfl hZ))) fun e11 h13 h14 h15 => sN (sq (Rg (kx (mvO h14) (kx (ncO rfl o8 rfl) (kx (faO rfl o8 rfl) (kx (ldO rfl o8 rfl rfl rfl) (kx (lnS Try.underlying24 rfl) (kx (mvO rfl) (Rn (hA h13 (hA h14 (hA h15 (hN rfl hZ)))) fun e16 h18 h19 h20 h21 => sN (sq (RdS (kfS (mvO h19) (kgS (ncO rfl o8 rfl) (kgS (faO rfl o8 rfl) (kgS (ldO rfl o8 rfl rfl rfl) (kfS (mvO h18) (klS (alO zero36) (feS fun M23 hM24 => ?_))))))))))))))))))
 clear h13 h14 h15
 have hM24 := fendM hM24 [⟨.box, 36, 6, [[.int .i64 0, .int .i8 0, .int .i64 0, .int .i64 0, .int .i64 0, .int .i64 0]]⟩] rfl
 have o25 := push_old hM24 o6
 have o26 := push_old hM24 o8
 have o27 := push_old hM24 o10
 have ne28 : j1 ≠ M2.length := by have := lt_of_get (M := M2) o6; omega
 have ne29 : j2 ≠ M2.length := by have := lt_of_get (M := M2) o8; omega
 have ne30 : M0.length ≠ M2.length := by have := lt_of_get (M := M2) o10; omega
 have o31 : M23[M2.length]? = some (.live ⟨.box, 36, 6, [[.int .i64 0, .int .i8 0, .int .i64 0, .int .i64 0, .int .i64 0, .int .i64 0]]⟩) := push_at hM24 0 rfl
 have nf32 := Nf.mk fr5
 have fr33 := Fr.push fr5 hM24
 obtain ⟨⟨r35, r36, r37, r38⟩, hx34, h⟩ := bind_some h
 refine Ev.nxw (Ev.callW rfl (cns rfl (cns rfl rfl)) (spec_l00Src_pick_p_ok a1 a2 a3 4 j1 M23 o25 _ hx34)) fun v41 M39 hq40 => ?_
 obtain ⟨hv41, o42, fr43⟩ := hq40
 have hv41 : v41 = .int .i64 r35 := hv41
 subst hv41
 have o44 : M39[j1]? = some (.live ⟨.box, 142, 3, [[.sl none (r36.map (cI .u8)), .int .i64 r37, .int .u64 r38]]⟩) := o42
 have fr43 : Fr [j1] M23 M39 := fr43
 have o45 := fr43 _ _ (niC (Ne.symm ne01) niN) o26
 have o46 := fr43 _ _ (niC (Ne.symm ne7) niN) o27
 have o47 := fr43 _ _ (niC (Ne.symm ne28) niN) o31
 have fr48 : Fr [j1, j2] M0 M39 := Fr.call fr33 fr43 (fwI (by simp) fwN)
 refine ck (ckL o47 (ckP (ldO rfl o45 rfl rfl rfl) (ckP (faO rfl o45 rfl) (ckP (ncO rfl o45 rfl) ck0)))) (kx (bAdd rfl rfl) (ck (ckL o47 (ckD rfl (ckD rfl (ckD rfl ck0)))) (kx (bldT zero36 (cns (pr3 rfl) rfl) (fill1 ⟨rfl, ble rfl⟩ rfl rfl (fill0 rfl))) (ck (ckL o47 (ckD rfl (ckD rfl (ckD rfl ck0)))) (kw (stO rfl rfl o47 rfl rfl ⟨rfl, ble rfl⟩ rfl rfl) fun M49 hM50 => ?_)))))
 have o51 := set_ne hM50 ne28 o44
 have o52 := set_ne hM50 ne29 o45
 have o53 := set_ne hM50 ne30 o46
 have o54 : M49[M2.length]? = some (.live ⟨.box, 36, 6, [[.int .i64 (IntKind.i64.wrap (a4 + r35)), .int .i8 0, .int .i64 0, .int .i64 0, .int .i64 0, .int .i64 0]]⟩) := set_same hM50 o47
 have fr55 := Fr.setNew fr48 hM50 nf32
 obtain ⟨r487, hr488, h⟩ := bind_some h
 refine ck (ckD rfl (ckD rfl (ckD rfl (ckD rfl ck0)))) (Rn (hA h18 (hA h19 (hA h20 (hA h21 (hV (.loc M2.length 1 0 0) rfl hZ))))) fun e56 h58 h59 h60 h61 h62 => sN (sq (sq ?_)))
 clear h18 h19 h20 h21
 refine Ev.cut (Q1 := spec_l07NextDeal_pp_c1_Q a4 a5 a6 r35 j1 j2 M0.length M2.length M0 r487) (by
     have h := hr488
     refine Rg (kx (mvO h59) (kx (ncO rfl o52 rfl) (kx (faO rfl o52 rfl) (kx (ldO rfl o52 rfl rfl rfl) (kx (lnS Try.underlying25 rfl) (kx (bEql rfl rfl) (kx (mvO rfl) ?_)))))))
     rcases ite_some h with ⟨hb63, h⟩ | ⟨hb63, h⟩
     ·refine kx (gsF rfl hb63) (kc (Ev.gsF rfl hb63) (kx (pkT rfl hb63 rfl) (Rn (hA h58 (hA h59 (hA h60 (hA h61 (hA h62 (hV (.bool true) rfl hZ)))))) fun e64 h66 h67 h68 h69 h70 h71 => ?_)))
      clear h58 h59 h60 h61 h62
      obtain rfl := si h
      exact kd (show spec_l07NextDeal_pp_c1_Q a4 a5 a6 r35 j1 j2 M0.length M2.length M0 _ _ from ⟨rfl, h66, h67, h68, h69, h70, h71, o53, o54, o51, o52, fr55⟩)
     obtain ⟨⟨r73, r74, r75, r76⟩, hx72, h⟩ := bind_some h
     refine kx (guF rfl hb63 (mvO h58)) (Ev.nxw (Ev.guF rfl hb63 (Ev.callW rfl (cns rfl (cns rfl rfl)) (spec_l00Src_one_p_ok r36 r37 r38 3 j1 M49 o51 _ hx72))) fun v79 M77 hq78 => ?_)
     obtain ⟨hv79, o80, fr81⟩ := hq78
     have hv79 : v79 = .bool r73 := hv79
     subst hv79
     have o82 : M77[j1]? = some (.live ⟨.box, 142, 3, [[.sl none (r74.map (cI .u8)), .int .i64 r75, .int .u64 r76]]⟩) := o80
     have fr81 : Fr [j1] M49 M77 := fr81
     have o83 := fr81 _ _ (niC (Ne.symm ne01) niN) o52
     have o84 := fr81 _ _ (niC (Ne.symm ne7) niN) o53
     have o85 := fr81 _ _ (niC (Ne.symm ne28) niN) o54
     have fr86 : Fr [j1, j2] M0 M77 := Fr.call fr55 fr81 (fwI (by simp) fwN)
     refine kx (pkF rfl hb63 rfl) (Rn (hA h58 (hA h59 (hA h60 (hA h61 (hA h62 (hN rfl hZ)))))) fun e87 h89 h90 h91 h92 h93 h94 => ?_)
     clear h58 h59 h60 h61 h62
     obtain rfl := si h
     exact kd (show spec_l07NextDeal_pp_c1_Q a4 a5 a6 r35 j1 j2 M0.length M2.length M0 _ _ from ⟨rfl, h89, h90, h91, h92, h93, h94, o84, o85, o82, o83, fr86⟩)) ?_
 obtain ⟨y97, y98, y99, y100⟩ := r487
 intro x e95 M96 hq486
 obtain ⟨rfl, h101, h102, h103, h104, h105, h106, o107, o108, o109, o110, fr111⟩ := hq486
 refine sN ?_
 rcases ite_some h with ⟨hb112, h⟩ | ⟨hb112, h⟩
 ·refine cT h106 hb112 (sq (Rg (kx (faO h105 o108 rfl) (kw (stO rfl rfl o108 rfl rfl ⟨rfl, ble rfl⟩ rfl rfl) fun M113 hM114 => ?_))))
  have o115 := set_ne hM114 ne30 o107
  have o116 : M113[M2.length]? = some (.live ⟨.box, 36, 6, [[.int .i64 (IntKind.i64.wrap (a4 + r35)), .int .i8 1, .int .i64 0, .int .i64 0, .int .i64 0, .int .i64 0]]⟩) := set_same hM114 o108
  have o117 := set_ne hM114 ne28 o109
  have o118 := set_ne hM114 ne29 o110
  have fr119 := Fr.setNew fr111 hM114 nf32
  obtain ⟨⟨r127, r128, r129, r130⟩, hx126, h⟩ := bind_some h
  refine Rn (hV (.loc j1 1 0 0) h101 (hV (.loc M0.length 1 0 0) h103 (hV (.int .i64 (a5.length : Int)) h104 (hV (.loc M2.length 1 0 0) h105 hZ)))) fun e120 h122 h123 h124 h125 => sN (sq (Rg (kx (mvO h122) (kx (mvO h124) (Ev.nxw (Ev.callW rfl (cns rfl (cns rfl rfl)) (spec_l00Src_pick_p_ok y98 y99 y100 (a5.length : Int) j1 M113 o117 _ hx126)) fun v133 M131 hq132 => ?_)))))
  clear h101 h102 h103 h104 h105 h106
  obtain ⟨hv133, o134, fr135⟩ := hq132
  have hv133 : v133 = .int .i64 r127 := hv133
  subst hv133
  have o136 : M131[j1]? = some (.live ⟨.box, 142, 3, [[.sl none (r128.map (cI .u8)), .int .i64 r129, .int .u64 r130]]⟩) := o134
  have fr135 : Fr [j1] M113 M131 := fr135
  have o137 := fr135 _ _ (niC (Ne.symm ne7) niN) o115
  have o138 := fr135 _ _ (niC (Ne.symm ne28) niN) o116
  have o139 := fr135 _ _ (niC (Ne.symm ne01) niN) o118
  have fr140 : Fr [j1, j2] M0 M131 := Fr.call fr119 fr135 (fwI (by simp) fwN)
  refine kx (faO h125 o138 rfl) (kw (stO rfl rfl o138 rfl rfl ⟨rfl, ble rfl⟩ rfl rfl) fun M141 hM142 => ?_)
  have o143 := set_ne hM142 ne30 o137
  have o144 : M141[M2.length]? = some (.live ⟨.box, 36, 6, [[.int .i64 (IntKind.i64.wrap (a4 + r35)), .int .i8 1, .int .i64 0, .int .i64 r127, .int .i64 0, .int .i64 0]]⟩) := set_same hM142 o138
  have o145 := set_ne hM142 ne28 o136
  have o146 := set_ne hM142 ne29 o139
  have fr147 := Fr.setNew fr140 hM142 nf32
  obtain ⟨⟨r155, r156, r157, r158⟩, hx154, h⟩ := bind_some h
  refine Rn (hA h122 (hA h123 (hA h124 (hA h125 hZ)))) fun e148 h150 h151 h152 h153 => sN (sq (RdS (kgS (faO h153 o144 rfl) (kgS (ldO rfl o144 rfl rfl rfl) (kfS (bAdd rfl rfl) (kfS (mvO h150) (kfS (mvO h152) (kfS (bSub rfl rfl) (kfS (mvO h152) (fZS (Ev.nxw (Ev.callW rfl (cns rfl (cns rfl rfl)) (spec_l00Src_pick_p_ok r128 r129 r130 (IntKind.i64.wrap ((a5.length : Int) - 1)) j1 M141 o145 _ hx154)) fun v161 M159 hq160 => ?_)))))))))))
  clear h122 h123 h124 h125
  obtain ⟨hv161, o162, fr163⟩ := hq160
  have hv161 : v161 = .int .i64 r155 := hv161
  subst hv161
  have o164 : M159[j1]? = some (.live ⟨.box, 142, 3, [[.sl none (r156.map (cI .u8)), .int .i64 r157, .int .u64 r158]]⟩) := o162
  have fr163 : Fr [j1] M141 M159 := fr163
  have o165 := fr163 _ _ (niC (Ne.symm ne7) niN) o143
  have o166 := fr163 _ _ (niC (Ne.symm ne28) niN) o144
  have o167 := fr163 _ _ (niC (Ne.symm ne01) niN) o146
  have fr168 : Fr [j1, j2] M0 M159 := Fr.call fr147 fr163 (fwI (by simp) fwN)
  obtain ⟨n169, hx170, h⟩ := bind_some h
  refine ck (ckP (ldO rfl o166 rfl rfl rfl) (ckP (faO h153 o166 rfl) ck0)) (kx (bAdd rfl rfl) (ck (ckD rfl (ckD rfl ck0)) (kx (bRem rfl rfl hx170) (ck (ckD rfl (ckD rfl ck0)) (kx (faO h153 o166 rfl) (ck (ckD rfl (ckD rfl ck0)) (kw (stO rfl rfl o166 rfl rfl ⟨rfl, ble rfl⟩ rfl rfl) fun M171 hM172 => ?_)))))))
  have o173 := set_ne hM172 ne30 o165
  have o174 : M171[M2.length]? = some (.live ⟨.box, 36, 6, [[.int .i64 (IntKind.i64.wrap (a4 + r35)), .int .i8 1, .int .i64 0, .int .i64 r127, .int .i64 n169, .int .i64 0]]⟩) := set_same hM172 o166
  have o175 := set_ne hM172 ne28 o164
  have o176 := set_ne hM172 ne29 o167
  have fr177 := Fr.setNew fr168 hM172 nf32
  obtain ⟨⟨r184, r185, r186, r187⟩, hx183, h⟩ := bind_some h
  refine ck (ckD rfl (ckD rfl ck0)) (Rn (hA h150 (hA h151 (hA h153 hZ))) fun e178 h180 h181 h182 => sN (sq (Rg (kx (mvO h180) (Ev.nxw (Ev.callW rfl (cns rfl (cns rfl rfl)) (spec_l00Src_pick_p_ok r156 r157 r158 60 j1 M171 o175 _ hx183)) fun v190 M188 hq189 => ?_)))))
  clear h150 h151 h152 h153
  obtain ⟨hv190, o191, fr192⟩ := hq189
  have hv190 : v190 = .int .i64 r184 := hv190
  subst hv190
  have o193 : M188[j1]? = some (.live ⟨.box, 142, 3, [[.sl none (r185.map (cI .u8)), .int .i64 r186, .int .u64 r187]]⟩) := o191
  have fr192 : Fr [j1] M171 M188 := fr192
  have o194 := fr192 _ _ (niC (Ne.symm ne7) niN) o173
  have o195 := fr192 _ _ (niC (Ne.symm ne28) niN) o174
  have o196 := fr192 _ _ (niC (Ne.symm ne01) niN) o176
  have fr197 : Fr [j1, j2] M0 M188 := Fr.call fr177 fr192 (fwI (by simp) fwN)
  refine kx (bAdd rfl rfl) (kx (faO h182 o195 rfl) (kw (stO rfl rfl o195 rfl rfl ⟨rfl, ble rfl⟩ rfl rfl) fun M198 hM199 => ?_))
  have o200 := set_ne hM199 ne30 o194
  have o201 : M198[M2.length]? = some (.live ⟨.box, 36, 6, [[.int .i64 (IntKind.i64.wrap (a4 + r35)), .int .i8 1, .int .i64 0, .int .i64 r127, .int .i64 n169, .int .i64 (IntKind.i64.wrap (1 + r184))]]⟩) := set_same hM199 o195
  have o202 := set_ne hM199 ne28 o193
  have o203 := set_ne hM199 ne29 o196
  have fr204 := Fr.setNew fr197 hM199 nf32
  refine Rn (hA h181 (hA h182 hZ)) fun e205 h207 h208 => sN (sq (Rg (kx (ldOA h208 o201 rfl rfl (ble rfl) rfl) (kw (stO h207 rfl o200 rfl rfl ⟨rfl, ble rfl⟩ rfl rfl) fun M209 hM210 => ?_))))
  clear h180 h181 h182
  have o211 : M209[M0.length]? = some (.live ⟨.box, 36, 6, [[.int .i64 (IntKind.i64.wrap (a4 + r35)), .int .i8 1, .int .i64 0, .int .i64 r127, .int .i64 n169, .int .i64 (IntKind.i64.wrap (1 + r184))]]⟩) := set_same hM210 o200
  have o212 := set_ne hM210 (Ne.symm ne30) o201
  have o213 := set_ne hM210 ne7 o202
  have o214 := set_ne hM210 ne9 o203
  have fr215 := Fr.setNew fr204 hM210 nf4
  refine Rn (hA h207 hZ) fun e216 h218 => sN (xx (sR ?_))
  clear h207 h208
  obtain rfl := si h
  exact eR (resC (ag := true) (sz := 6) ⟨by kernel_rfl, by kernel_rfl, by kernel_rfl⟩ (ldOA h218 o211 rfl rfl (ble rfl) rfl) res0) ⟨rfl, o213, o214, fr215⟩
 obtain ⟨⟨r220, r221, r222, r223⟩, hx219, h⟩ := bind_some h
 refine cF h106 hb112 (xx (sN (sq (Rg (kx (mvO h101) (kx (mvO h102) (kx (ncO rfl o110 rfl) (kx (faO rfl o110 rfl) (kx (ldO rfl o110 rfl rfl rfl) (kx (lnS Try.underlying25 rfl) (Ev.nxw (Ev.callW rfl (cns rfl (cns rfl rfl)) (spec_l00Src_pick_p_ok y98 y99 y100 (a6.length : Int) j1 M96 o109 _ hx219)) fun v226 M224 hq225 => ?_)))))))))))
 obtain ⟨hv226, o227, fr228⟩ := hq225
 have hv226 : v226 = .int .i64 r220 := hv226
 subst hv226
 have o229 : M224[j1]? = some (.live ⟨.box, 142, 3, [[.sl none (r221.map (cI .u8)), .int .i64 r222, .int .u64 r223]]⟩) := o227
 have fr228 : Fr [j1] M96 M224 := fr228
 have o230 := fr228 _ _ (niC (Ne.symm ne7) niN) o107
 have o231 := fr228 _ _ (niC (Ne.symm ne28) niN) o108
 have o232 := fr228 _ _ (niC (Ne.symm ne01) niN) o110
 have fr233 : Fr [j1, j2] M0 M224 := Fr.call fr111 fr228 (fwI (by simp) fwN)
 refine kx (faO h105 o231 rfl) (kw (stO rfl rfl o231 rfl rfl ⟨rfl, ble rfl⟩ rfl rfl) fun M234 hM235 => ?_)
 have o236 := set_ne hM235 ne30 o230
 have o237 : M234[M2.length]? = some (.live ⟨.box, 36, 6, [[.int .i64 (IntKind.i64.wrap (a4 + r35)), .int .i8 0, .int .i64 r220, .int .i64 0, .int .i64 0, .int .i64 0]]⟩) := set_same hM235 o231
 have o238 := set_ne hM235 ne28 o229
 have o239 := set_ne hM235 ne29 o232
 have fr240 := Fr.setNew fr233 hM235 nf32
 obtain ⟨x248, hx249, h⟩ := bind_some h
 obtain ⟨⟨r259, r260, r261, r262⟩, hx258, h⟩ := bind_some h
 refine Rn (hV (.loc j1 1 0 0) h101 (hV (.loc j2 1 0 0) h102 (hV (.loc M0.length 1 0 0) h103 (hV (.int .i64 (a5.length : Int)) h104 (hV (.loc M2.length 1 0 0) h105 hZ))))) fun e241 h243 h244 h245 h246 h247 => sN (sq (Rd (kf (mvO h244) (kf (ncO rfl o239 rfl) (kf (faO rfl o239 rfl) (kf (ldO rfl o239 rfl rfl rfl) (kf (faO h247 o237 rfl) (kf (ldO rfl o237 rfl rfl rfl) (kf (ixS rfl rfl hx249 Tally.fl) (kf (mvO rfl) (fZ (Rn (hA h243 (hA h244 (hA h245 (hA h246 (hA h247 (hN rfl hZ)))))) fun e250 h252 h253 h254 h255 h256 h257 => sN (sq (sq (Rg (kx (mvO h252) (Ev.nxw (Ev.callW rfl (cns rfl (cns rfl rfl)) (spec_l00Src_pick_p_ok r221 r222 r223 5 j1 M234 o238 _ hx258)) fun v265 M263 hq264 => ?_)))))))))))))))))
 clear h101 h102 h103 h104 h105 h106 h243 h244 h245 h246 h247
 obtain ⟨hv265, o266, fr267⟩ := hq264
 have hv265 : v265 = .int .i64 r259 := hv265
 subst hv265
 have o268 : M263[j1]? = some (.live ⟨.box, 142, 3, [[.sl none (r260.map (cI .u8)), .int .i64 r261, .int .u64 r262]]⟩) := o266
 have fr267 : Fr [j1] M234 M263 := fr267
 have o269 := fr267 _ _ (niC (Ne.symm ne7) niN) o236
 have o270 := fr267 _ _ (niC (Ne.symm ne28) niN) o237
 have o271 := fr267 _ _ (niC (Ne.symm ne01) niN) o239
 have fr272 : Fr [j1, j2] M0 M263 := Fr.call fr240 fr267 (fwI (by simp) fwN)
 obtain ⟨r484, hr485, h⟩ := bind_some h
 refine Rn (hA h252 (hA h253 (hA h254 (hA h255 (hA h256 (hA h257 (hN rfl hZ))))))) fun e273 h275 h276 h277 h278 h279 h280 h281 => sN (bl (sq ?_))
 clear h252 h253 h254 h255 h256 h257
 refine Ev.cut (Q1 := spec_l07NextDeal_pp_c2_Q a4 a5 a6 r35 r220 x248 r259 r260 r261 r262 M0.length M2.length j1 j2 M0 r484) (by
     have h := hr485
     refine sq (Rg (kx (bEql h281 rfl) (kx (mvO rfl) (Rn (hA h275 (hA h276 (hA h277 (hA h278 (hA h279 (hA h280 (hA h281 (hN rfl hZ)))))))) fun e282 h284 h285 h286 h287 h288 h289 h290 h291 => sN ?_))))
     clear h275 h276 h277 h278 h279 h280 h281
     rcases ite_some h with ⟨hb292, h⟩ | ⟨hb292, h⟩
     ·refine cT h291 hb292 (xx ?_)
      obtain rfl := si h
      exact kd (show spec_l07NextDeal_pp_c2_Q a4 a5 a6 r35 r220 x248 r259 r260 r261 r262 M0.length M2.length j1 j2 M0 _ _ from ⟨rfl, h284, h285, h286, h287, h288, h289, h290, h291, o269, o270, o268, o271, fr272⟩)
     refine cF h291 hb292 (Rg (kx (bEql h290 rfl) (kx (mvO rfl) (Rn (hA h284 (hA h285 (hA h286 (hA h287 (hA h288 (hA h289 (hA h290 (hN rfl hZ)))))))) fun e293 h295 h296 h297 h298 h299 h300 h301 h302 => ?_))))
     clear h284 h285 h286 h287 h288 h289 h290
     obtain rfl := si h
     exact kd (show spec_l07NextDeal_pp_c2_Q a4 a5 a6 r35 r220 x248 r259 r260 r261 r262 M0.length M2.length j1 j2 M0 _ _ from ⟨rfl, h295, h296, h297, h298, h299, h300, h301, h302, o269, o270, o268, o271, fr272⟩)) ?_
 revert h hr485
 revert r484
 intro y305 hr485 h
 intro x e303 M304 hq483
 obtain ⟨rfl, h306, h307, h308, h309, h310, h311, h312, h313, o314, o315, o316, o317, fr318⟩ := hq483
 refine sN ?_
 rcases ite_some h with ⟨hb319, h⟩ | ⟨hb319, h⟩
 ·refine cT h313 hb319 (sq (Rg (kx (faO h310 o315 rfl) (kw (stO rfl rfl o315 rfl rfl ⟨rfl, ble rfl⟩ rfl rfl) fun M320 hM321 => ?_))))
  have o322 := set_ne hM321 ne30 o314
  have o323 : M320[M2.length]? = some (.live ⟨.box, 36, 6, [[.int .i64 (IntKind.i64.wrap (a4 + r35)), .int .i8 2, .int .i64 r220, .int .i64 0, .int .i64 0, .int .i64 0]]⟩) := set_same hM321 o315
  have o324 := set_ne hM321 ne28 o316
  have o325 := set_ne hM321 ne29 o317
  have fr326 := Fr.setNew fr318 hM321 nf32
  refine Rn (hV (.loc j1 1 0 0) h306 (hV (.loc M0.length 1 0 0) h308 (hV (.int .i64 (a5.length : Int)) h309 (hV (.loc M2.length 1 0 0) h310 (hV (.pt none [.int .i64 x248.Debtor, .int .i64 x248.Holder, .int .i64 x248.Cut, .int .i64 x248.Amount, .int .i64 x248.Left]) h311 hZ))))) fun e327 h329 h330 h331 h332 h333 => sN (sq (Rg (kx (mvO h333) (kx (ncP rfl) (kx (faP rfl ⟨ble rfl, blt rfl⟩ rfl) (kx (ldP rfl rfl) (kx (faO h332 o323 rfl) (kw (stO rfl rfl o323 rfl rfl ⟨rfl, ble rfl⟩ rfl rfl) fun M334 hM335 => ?_))))))))
  clear h306 h307 h308 h309 h310 h311 h312 h313
  have o336 := set_ne hM335 ne30 o322
  have o337 : M334[M2.length]? = some (.live ⟨.box, 36, 6, [[.int .i64 (IntKind.i64.wrap (a4 + r35)), .int .i8 2, .int .i64 r220, .int .i64 x248.Holder, .int .i64 0, .int .i64 0]]⟩) := set_same hM335 o323
  have o338 := set_ne hM335 ne28 o324
  have o339 := set_ne hM335 ne29 o325
  have fr340 := Fr.setNew fr326 hM335 nf32
  obtain ⟨⟨r348, r349, r350, r351⟩, hx347, h⟩ := bind_some h
  refine Rn (hA h329 (hA h330 (hA h331 (hA h332 hZ)))) fun e341 h343 h344 h345 h346 => sN (RdS (kgS (faO h346 o337 rfl) (kgS (ldO rfl o337 rfl rfl rfl) (kfS (bAdd rfl rfl) (kfS (mvO h343) (kfS (mvO h345) (kfS (bSub rfl rfl) (kfS (mvO h345) (fZS (Ev.nxw (Ev.callW rfl (cns rfl (cns rfl rfl)) (spec_l00Src_pick_p_ok r260 r261 r262 (IntKind.i64.wrap ((a5.length : Int) - 1)) j1 M334 o338 _ hx347)) fun v354 M352 hq353 => ?_))))))))))
  clear h329 h330 h331 h332 h333
  obtain ⟨hv354, o355, fr356⟩ := hq353
  have hv354 : v354 = .int .i64 r348 := hv354
  subst hv354
  have o357 : M352[j1]? = some (.live ⟨.box, 142, 3, [[.sl none (r349.map (cI .u8)), .int .i64 r350, .int .u64 r351]]⟩) := o355
  have fr356 : Fr [j1] M334 M352 := fr356
  have o358 := fr356 _ _ (niC (Ne.symm ne7) niN) o336
  have o359 := fr356 _ _ (niC (Ne.symm ne28) niN) o337
  have o360 := fr356 _ _ (niC (Ne.symm ne01) niN) o339
  have fr361 : Fr [j1, j2] M0 M352 := Fr.call fr340 fr356 (fwI (by simp) fwN)
  obtain ⟨n362, hx363, h⟩ := bind_some h
  refine ck (ckP (ldO rfl o359 rfl rfl rfl) (ckP (faO h346 o359 rfl) ck0)) (kx (bAdd rfl rfl) (ck (ckD rfl (ckD rfl ck0)) (kx (bRem rfl rfl hx363) (ck (ckD rfl (ckD rfl ck0)) (kx (faO h346 o359 rfl) (ck (ckD rfl (ckD rfl ck0)) (kw (stO rfl rfl o359 rfl rfl ⟨rfl, ble rfl⟩ rfl rfl) fun M364 hM365 => ?_)))))))
  have o366 := set_ne hM365 ne30 o358
  have o367 : M364[M2.length]? = some (.live ⟨.box, 36, 6, [[.int .i64 (IntKind.i64.wrap (a4 + r35)), .int .i8 2, .int .i64 r220, .int .i64 x248.Holder, .int .i64 n362, .int .i64 0]]⟩) := set_same hM365 o359
  have o368 := set_ne hM365 ne28 o357
  have o369 := set_ne hM365 ne29 o360
  have fr370 := Fr.setNew fr361 hM365 nf32
  refine ck (ckD rfl (ckD rfl ck0)) (Rn (hA h344 (hA h346 hZ)) fun e371 h373 h374 => bN (sN (sq (Rg (kx (ldOA h374 o367 rfl rfl (ble rfl) rfl) (kw (stO h373 rfl o366 rfl rfl ⟨rfl, ble rfl⟩ rfl rfl) fun M375 hM376 => ?_))))))
  clear h343 h344 h345 h346
  have o377 : M375[M0.length]? = some (.live ⟨.box, 36, 6, [[.int .i64 (IntKind.i64.wrap (a4 + r35)), .int .i8 2, .int .i64 r220, .int .i64 x248.Holder, .int .i64 n362, .int .i64 0]]⟩) := set_same hM376 o366
  have o378 := set_ne hM376 (Ne.symm ne30) o367
  have o379 := set_ne hM376 ne7 o368
  have o380 := set_ne hM376 ne9 o369
  have fr381 := Fr.setNew fr370 hM376 nf4
  refine Rn (hA h373 hZ) fun e382 h384 => sN (xx ?_)
  clear h373 h374
  obtain rfl := si h
  exact eR (resC (ag := true) (sz := 6) ⟨by kernel_rfl, by kernel_rfl, by kernel_rfl⟩ (ldOA h384 o377 rfl rfl (ble rfl) rfl) res0) ⟨rfl, o379, o380, fr381⟩
 refine cF h313 hb319 (sq (Rg (kx (bEql h312 rfl) (kx (mvO rfl) (Rn (hV (.loc j1 1 0 0) h306 (hV (.loc j2 1 0 0) h307 (hV (.loc M0.length 1 0 0) h308 (hV (.loc M2.length 1 0 0) h310 (hV (.pt none [.int .i64 x248.Debtor, .int .i64 x248.Holder, .int .i64 x248.Cut, .int .i64 x248.Amount, .int .i64 x248.Left]) h311 (hN rfl hZ)))))) fun e385 h387 h388 h389 h390 h391 h392 => sN ?_)))))
 clear h306 h307 h308 h309 h310 h311 h312 h313
 rcases ite_some h with ⟨hb393, h⟩ | ⟨hb393, h⟩
 ·refine cT h392 hb393 (sq (Rg (kx (faO h390 o315 rfl) (kw (stO rfl rfl o315 rfl rfl ⟨rfl, ble rfl⟩ rfl rfl) fun M394 hM395 => ?_))))
  have o396 := set_ne hM395 ne30 o314
  have o397 : M394[M2.length]? = some (.live ⟨.box, 36, 6, [[.int .i64 (IntKind.i64.wrap (a4 + r35)), .int .i8 4, .int .i64 r220, .int .i64 0, .int .i64 0, .int .i64 0]]⟩) := set_same hM395 o315
  have o398 := set_ne hM395 ne28 o316
  have o399 := set_ne hM395 ne29 o317
  have fr400 := Fr.setNew fr318 hM395 nf32
  refine Rn (hA h389 (hA h390 (hA h391 hZ))) fun e401 h403 h404 h405 => sN (Rg (kx (mvO h405) (kx (ncP rfl) (kx (faP rfl ⟨ble rfl, blt rfl⟩ rfl) (kx (ldP rfl rfl) (kx (faO h404 o397 rfl) (kw (stO rfl rfl o397 rfl rfl ⟨rfl, ble rfl⟩ rfl rfl) fun M406 hM407 => ?_)))))))
  clear h387 h388 h389 h390 h391 h392
  have o408 := set_ne hM407 ne30 o396
  have o409 : M406[M2.length]? = some (.live ⟨.box, 36, 6, [[.int .i64 (IntKind.i64.wrap (a4 + r35)), .int .i8 4, .int .i64 r220, .int .i64 x248.Holder, .int .i64 0, .int .i64 0]]⟩) := set_same hM407 o397
  have o410 := set_ne hM407 ne28 o398
  have o411 := set_ne hM407 ne29 o399
  have fr412 := Fr.setNew fr400 hM407 nf32
  refine Rn (hA h403 (hA h404 hZ)) fun e413 h415 h416 => bN (sN (sq (Rg (kx (ldOA h416 o409 rfl rfl (ble rfl) rfl) (kw (stO h415 rfl o408 rfl rfl ⟨rfl, ble rfl⟩ rfl rfl) fun M417 hM418 => ?_)))))
  clear h403 h404 h405
  have o419 : M417[M0.length]? = some (.live ⟨.box, 36, 6, [[.int .i64 (IntKind.i64.wrap (a4 + r35)), .int .i8 4, .int .i64 r220, .int .i64 x248.Holder, .int .i64 0, .int .i64 0]]⟩) := set_same hM418 o408
  have o420 := set_ne hM418 (Ne.symm ne30) o409
  have o421 := set_ne hM418 ne7 o410
  have o422 := set_ne hM418 ne9 o411
  have fr423 := Fr.setNew fr412 hM418 nf4
  refine Rn (hA h415 hZ) fun e424 h426 => sN (xx ?_)
  clear h415 h416
  obtain rfl := si h
  exact eR (resC (ag := true) (sz := 6) ⟨by kernel_rfl, by kernel_rfl, by kernel_rfl⟩ (ldOA h426 o419 rfl rfl (ble rfl) rfl) res0) ⟨rfl, o421, o422, fr423⟩
 refine cF h392 hb393 (sq (Rg (kx (faO h390 o315 rfl) (kw (stO rfl rfl o315 rfl rfl ⟨rfl, ble rfl⟩ rfl rfl) fun M427 hM428 => ?_))))
 have o429 := set_ne hM428 ne30 o314
 have o430 : M427[M2.length]? = some (.live ⟨.box, 36, 6, [[.int .i64 (IntKind.i64.wrap (a4 + r35)), .int .i8 3, .int .i64 r220, .int .i64 0, .int .i64 0, .int .i64 0]]⟩) := set_same hM428 o315
 have o431 := set_ne hM428 ne28 o316
 have o432 := set_ne hM428 ne29 o317
 have fr433 := Fr.setNew fr318 hM428 nf32
 obtain ⟨x441, hx442, h⟩ := bind_some h
 obtain ⟨r444, hx443, h⟩ := bind_some h
 obtain ⟨r446, hx445, h⟩ := bind_some h
 obtain ⟨⟨r448, r449, r450, r451⟩, hx447, h⟩ := bind_some h
 refine Rn (hA h387 (hA h388 (hA h389 (hA h390 (hA h391 hZ))))) fun e434 h436 h437 h438 h439 h440 => sN (Rd (kf (mvO h436) (kf (mvO h440) (kf (ncP rfl) (kf (faP rfl ⟨ble rfl, blt rfl⟩ rfl) (kf (ldP rfl rfl) (kf (mvO h437) (kf (ncO rfl o432 rfl) (kf (faO rfl o432 rfl) (kf (ldO rfl o432 rfl rfl rfl) (kf (mvO h440) (kf (ncP rfl) (kf (faP rfl ⟨ble rfl, blt rfl⟩ rfl) (kf (ldP rfl rfl) (kf (ixS rfl rfl hx442 (cI_fl _)) (kf (ldP rfl rfl) (fc (cl (v := .int .i64 r444) rfl rfl (cns rfl (cns rfl rfl)) rfl (spec_l00Min_ok x248.Left x441 _ hx443) nm) (fc (cl (v := .int .i64 r446) rfl rfl (cns rfl (cns rfl rfl)) rfl (spec_l00Max_ok r444 1 _ hx445) nm) (fZ (Ev.nxw (Ev.callW rfl (cns rfl (cns rfl rfl)) (spec_l00Src_pick_p_ok r260 r261 r262 r446 j1 M427 o431 _ hx447)) fun v454 M452 hq453 => ?_))))))))))))))))))))
 clear h387 h388 h389 h390 h391 h392
 obtain ⟨hv454, o455, fr456⟩ := hq453
 have hv454 : v454 = .int .i64 r448 := hv454
 subst hv454
 have o457 : M452[j1]? = some (.live ⟨.box, 142, 3, [[.sl none (r449.map (cI .u8)), .int .i64 r450, .int .u64 r451]]⟩) := o455
 have fr456 : Fr [j1] M427 M452 := fr456
 have o458 := fr456 _ _ (niC (Ne.symm ne7) niN) o429
 have o459 := fr456 _ _ (niC (Ne.symm ne28) niN) o430
 have o460 := fr456 _ _ (niC (Ne.symm ne01) niN) o432
 have fr461 : Fr [j1, j2] M0 M452 := Fr.call fr433 fr456 (fwI (by simp) fwN)
 refine kx (bAdd rfl rfl) (kx (faO h439 o459 rfl) (kw (stO rfl rfl o459 rfl rfl ⟨rfl, ble rfl⟩ rfl rfl) fun M462 hM463 => ?_))
 have o464 := set_ne hM463 ne30 o458
 have o465 : M462[M2.length]? = some (.live ⟨.box, 36, 6, [[.int .i64 (IntKind.i64.wrap (a4 + r35)), .int .i8 3, .int .i64 r220, .int .i64 0, .int .i64 0, .int .i64 (IntKind.i64.wrap (1 + r448))]]⟩) := set_same hM463 o459
 have o466 := set_ne hM463 ne28 o457
 have o467 := set_ne hM463 ne29 o460
 have fr468 := Fr.setNew fr461 hM463 nf32
 refine Rn (hA h438 (hA h439 hZ)) fun e469 h471 h472 => bN (sN (sq (Rg (kx (ldOA h472 o465 rfl rfl (ble rfl) rfl) (kw (stO h471 rfl o464 rfl rfl ⟨rfl, ble rfl⟩ rfl rfl) fun M473 hM474 => ?_)))))
 clear h436 h437 h438 h439 h440
 have o475 : M473[M0.length]? = some (.live ⟨.box, 36, 6, [[.int .i64 (IntKind.i64.wrap (a4 + r35)), .int .i8 3, .int .i64 r220, .int .i64 0, .int .i64 0, .int .i64 (IntKind.i64.wrap (1 + r448))]]⟩) := set_same hM474 o464
 have o476 := set_ne hM474 (Ne.symm ne30) o465
 have o477 := set_ne hM474 ne7 o466
 have o478 := set_ne hM474 ne9 o467
 have fr479 := Fr.setNew fr468 hM474 nf4
 refine Rn (hA h471 hZ) fun e480 h482 => sN (xx ?_)
 clear h471 h472
 obtain rfl := si h
 exact eR (resC (ag := true) (sz := 6) ⟨by kernel_rfl, by kernel_rfl, by kernel_rfl⟩ (ldOA h482 o475 rfl rfl (ble rfl) rfl) res0) ⟨rfl, o477, o478, fr479⟩
abbrev spec_l07Drawn_p_b1_S := Int × Int × (List Int) × (List Int) × Int × Int
abbrev spec_l07Drawn_p_b1_R := Int × (List Int) × (List Int) × Int × Int
def spec_l07Drawn_p_b1_RS (i1_1 : Nat) (i1_2 : Nat) (i1_3 : Nat) (i1_4 : Nat) (j1 : Nat) (M0 : Mem) (s : spec_l07Drawn_p_b1_S) (e : Env) (M : Mem) : Prop := eget e 0 = .loc j1 1 0 0 ∧ eget e 2 = .loc i1_2 1 0 0 ∧ eget e 4 = .loc i1_4 1 0 0 ∧ eget e 5 = .int .i64 s.1 ∧ M[i1_2]? = some (.live ⟨.box, 27, 3, [[.int .i64 0, .nils, .nils]]⟩) ∧ M[i1_4]? = some (.live ⟨.box, 27, 3, [[.int .i64 s.2.1, .lsl i1_3 s.2.2.1.length 0 s.2.2.1.length, .lsl i1_1 ([] : List Tally).length 0 ([] : List Tally).length]]⟩) ∧ M[i1_3]? = some (.live ⟨.grow, 2, 1, s.2.2.1.map (cI .i64)⟩) ∧ M[i1_1]? = some (.live ⟨.grow, 49, 5, ([] : List Tally).map Tally.c⟩) ∧ M[j1]? = some (.live ⟨.box, 142, 3, [[.sl none (s.2.2.2.1.map (cI .u8)), .int .i64 s.2.2.2.2.1, .int .u64 s.2.2.2.2.2]]⟩) ∧ Fr [j1] M0 M
def spec_l07Drawn_p_b1_RR (i1_1 : Nat) (i1_2 : Nat) (i1_3 : Nat) (i1_4 : Nat) (j1 : Nat) (M0 : Mem) (g : spec_l07Drawn_p_b1_R) (x : Ex) (e : Env) (M : Mem) : Prop := x = .ext 0 ∧ eget e 0 = .loc j1 1 0 0 ∧ eget e 2 = .loc i1_2 1 0 0 ∧ eget e 4 = .loc i1_4 1 0 0 ∧ M[i1_2]? = some (.live ⟨.box, 27, 3, [[.int .i64 0, .nils, .nils]]⟩) ∧ M[i1_4]? = some (.live ⟨.box, 27, 3, [[.int .i64 g.1, .lsl i1_3 g.2.1.length 0 g.2.1.length, .lsl i1_1 ([] : List Tally).length 0 ([] : List Tally).length]]⟩) ∧ M[i1_3]? = some (.live ⟨.grow, 2, 1, g.2.1.map (cI .i64)⟩) ∧ M[i1_1]? = some (.live ⟨.grow, 49, 5, ([] : List Tally).map Tally.c⟩) ∧ M[j1]? = some (.live ⟨.box, 142, 3, [[.sl none (g.2.2.1.map (cI .u8)), .int .i64 g.2.2.2.1, .int .u64 g.2.2.2.2]]⟩) ∧ Fr [j1] M0 M
noncomputable def spec_l07Drawn_p_b1 : spec_l07Drawn_p_b1_S → Option (spec_l07Drawn_p_b1_S ⊕ spec_l07Drawn_p_b1_R) := fun (s1_1, s1_2, s1_3, s1_4, s1_5, s1_6) =>
 if (decide (s1_1 > 0)) = true then
  (spec_l00Src_pick_p s1_4 s1_5 s1_6 100).bind fun (r139, r140, r141, r142) =>
  (app 8 s1_3 [r139]).bind fun x154 =>
  some (.inl ((IntKind.i64.wrap (s1_1 - 1)), s1_2, x154, r140, r141, r142))
 else
  some (.inr (s1_2, s1_3, s1_4, s1_5, s1_6))
theorem spec_l07Drawn_p_b1_ok (i1_1 : Nat) (i1_2 : Nat) (i1_3 : Nat) (i1_4 : Nat) (j1 : Nat) (M0 : Mem) (ne21 : i1_2 ≠ i1_4) (ne46 : i1_2 ≠ i1_3) (ne52 : i1_2 ≠ i1_1) (ne47 : i1_4 ≠ i1_3) (ne53 : i1_4 ≠ i1_1) (ne56 : i1_3 ≠ i1_1) (ne7 : j1 ≠ i1_2) (ne20 : j1 ≠ i1_4) (ne45 : j1 ≠ i1_3) (ne51 : j1 ≠ i1_1) (nf4 : Nf [j1] M0 i1_2) (nf32 : Nf [j1] M0 i1_4) (nf58 : Nf [j1] M0 i1_3) (nf59 : Nf [j1] M0 i1_1) (s : spec_l07Drawn_p_b1_S) (r : spec_l07Drawn_p_b1_S ⊕ spec_l07Drawn_p_b1_R) (h : spec_l07Drawn_p_b1 s = some r) (e : Env) (M : Mem) (hs : spec_l07Drawn_p_b1_RS i1_1 i1_2 i1_3 i1_4 j1 M0 s e M) : Ev (fun k => (f50_l3 (CN k) k (prune [0, 2, 4, 5] e) M).bind fun q => some q) (bQ (spec_l07Drawn_p_b1_RS i1_1 i1_2 i1_3 i1_4 j1 M0) (spec_l07Drawn_p_b1_RR i1_1 i1_2 i1_3 i1_4 j1 M0) r) := by
 obtain ⟨s1_1, s1_2, s1_3, s1_4, s1_5, s1_6⟩ := s
 unfold spec_l07Drawn_p_b1 at h
 obtain ⟨h116, h118, h120, h122, o125, o126, o127, o128, o124, fr129⟩ := hs
 generalize he115 : prune [0, 2, 4, 5] e = e114
 have h117 := envp he115.symm rfl h116
 have h119 := envp he115.symm rfl h118
 have h121 := envp he115.symm rfl h120
 have h123 := envp he115.symm rfl h122
 refine sq (sq (Rg (kx (mvO h123) (kx (bGtr rfl rfl) (Rn (hV (.loc j1 1 0 0) h117 (hV (.loc i1_2 1 0 0) h119 (hV (.loc i1_4 1 0 0) h121 (hV (.int .i64 s1_1) h123 (hN rfl hZ))))) fun e130 h132 h133 h134 h135 h136 => sN ?_)))))
 clear h117 h119 h121 h123
 rcases ite_some h with ⟨hb137, h⟩ | ⟨hb137, h⟩
 ·obtain ⟨⟨r139, r140, r141, r142⟩, hx138, h⟩ := bind_some h
  refine cT h136 hb137 (xx (sN (sq (bl (RdS (kgS (faO h134 o126 rfl) (kgS (ldO rfl o126 rfl rfl rfl) (kfS (mvO h132) (fZS (Ev.nxw (Ev.callW rfl (cns rfl (cns rfl rfl)) (spec_l00Src_pick_p_ok s1_4 s1_5 s1_6 100 j1 M o124 _ hx138)) fun v145 M143 hq144 => ?_))))))))))
  obtain ⟨hv145, o146, fr147⟩ := hq144
  have hv145 : v145 = .int .i64 r139 := hv145
  subst hv145
  have o148 : M143[j1]? = some (.live ⟨.box, 142, 3, [[.sl none (r140.map (cI .u8)), .int .i64 r141, .int .u64 r142]]⟩) := o146
  have fr147 : Fr [j1] M M143 := fr147
  have o149 := fr147 _ _ (niC (Ne.symm ne7) niN) o125
  have o150 := fr147 _ _ (niC (Ne.symm ne20) niN) o126
  have o151 := fr147 _ _ (niC (Ne.symm ne45) niN) o127
  have o152 := fr147 _ _ (niC (Ne.symm ne51) niN) o128
  have fr153 : Fr [j1] M0 M143 := Fr.call fr129 fr147 (fwI (by simp) fwN)
  obtain ⟨x154, hx155, h⟩ := bind_some h
  refine ck (ckP (ldO rfl o150 rfl rfl rfl) (ckP (faO h134 o150 rfl) ck0)) (kx (litI (cns rfl rfl) rfl ⟨rfl, by decide⟩) (ck (ckP (ldO rfl o150 rfl rfl rfl) (ckP (faO h134 o150 rfl) ck0)) (kw (apO rfl o151 rfl (elT (c := (cI .i64)) (xs := [r139]) rfl) hx155 (cI_fl _) (by decide)) fun M156 hM157 => ?_)))
  have o158 := set_ne hM157 ne45 o148
  have o159 := set_ne hM157 ne46 o149
  have o160 := set_ne hM157 ne47 o150
  have o161 : M156[i1_3]? = some (.live ⟨.grow, 2, 1, x154.map (cI .i64)⟩) := set_same hM157 o151
  have o162 := set_ne hM157 (Ne.symm ne56) o152
  have fr163 := Fr.setNew fr153 hM157 nf58
  refine ck (ckD rfl (ckD rfl ck0)) (kx (faO h134 o160 rfl) (ck (ckD rfl (ckD rfl ck0)) (kw (stO rfl rfl o160 rfl rfl ⟨rfl, ble rfl⟩ (all1 (okL o161 (by simp)) all0) rfl) fun M164 hM165 => ?_)))
  have o166 := set_ne hM165 ne20 o158
  have o167 := set_ne hM165 ne21 o159
  have o168 : M164[i1_4]? = some (.live ⟨.box, 27, 3, [[.int .i64 s1_2, .lsl i1_3 x154.length 0 x154.length, .lsl i1_1 ([] : List Tally).length 0 ([] : List Tally).length]]⟩) := set_same hM165 o160
  have o169 := set_ne hM165 (Ne.symm ne47) o161
  have o170 := set_ne hM165 (Ne.symm ne53) o162
  have fr171 := Fr.setNew fr163 hM165 nf32
  refine ck (ckD rfl (ckD rfl ck0)) (Rn (hA h132 (hA h133 (hA h134 (hA h135 hZ)))) fun e172 h174 h175 h176 h177 => bN (sN (Rg (kx (mvO h177) (kx (bSub rfl rfl) (kx (mvO rfl) (Rn (hA h174 (hA h175 (hA h176 (hN rfl hZ)))) fun e178 h180 h181 h182 h183 => ?_)))))))
  clear h132 h133 h134 h135 h136 h174 h175 h176
  obtain rfl := si h
  exact qN ⟨h180, h181, h182, h183, o167, (by simpa using o168), o169, o170, o166, fr171⟩
 refine cF h136 hb137 (xx (sE ?_))
 obtain rfl := si h
 exact qE ⟨rfl, h132, h133, h134, o125, (by simpa using o126), o127, o128, o124, fr129⟩
abbrev spec_l07Drawn_p_b2_S := Int × Int × (List Int) × (List Tally) × (List Int) × Int × Int
abbrev spec_l07Drawn_p_b2_R := Int × (List Int) × (List Tally) × (List Int) × Int × Int
def spec_l07Drawn_p_b2_RS (i2_1 : Nat) (i2_2 : Nat) (j1 : Nat) (M0 : Mem) (s : spec_l07Drawn_p_b2_S) (e : Env) (M : Mem) : Prop := eget e 0 = .loc j1 1 0 0 ∧ eget e 2 = .loc i2_1 1 0 0 ∧ eget e 4 = .loc i2_2 1 0 0 ∧ eget e 6 = .int .i64 s.1 ∧ M[i2_1]? = some (.live ⟨.box, 27, 3, [[.int .i64 0, .nils, .nils]]⟩) ∧ M[i2_2]? = some (.live ⟨.box, 27, 3, [[.int .i64 s.2.1, .sl none (s.2.2.1.map (cI .i64)), .sl none (s.2.2.2.1.map Tally.c)]]⟩) ∧ M[j1]? = some (.live ⟨.box, 142, 3, [[.sl none (s.2.2.2.2.1.map (cI .u8)), .int .i64 s.2.2.2.2.2.1, .int .u64 s.2.2.2.2.2.2]]⟩) ∧ Fr [j1] M0 M
def spec_l07Drawn_p_b2_RR (i2_1 : Nat) (i2_2 : Nat) (j1 : Nat) (M0 : Mem) (g : spec_l07Drawn_p_b2_R) (x : Ex) (e : Env) (M : Mem) : Prop := x = .ext 2 ∧ eget e 0 = .loc j1 1 0 0 ∧ eget e 2 = .loc i2_1 1 0 0 ∧ eget e 4 = .loc i2_2 1 0 0 ∧ M[i2_1]? = some (.live ⟨.box, 27, 3, [[.int .i64 0, .nils, .nils]]⟩) ∧ M[i2_2]? = some (.live ⟨.box, 27, 3, [[.int .i64 g.1, .sl none (g.2.1.map (cI .i64)), .sl none (g.2.2.1.map Tally.c)]]⟩) ∧ M[j1]? = some (.live ⟨.box, 142, 3, [[.sl none (g.2.2.2.1.map (cI .u8)), .int .i64 g.2.2.2.2.1, .int .u64 g.2.2.2.2.2]]⟩) ∧ Fr [j1] M0 M
noncomputable def spec_l07Drawn_p_b2 : spec_l07Drawn_p_b2_S → Option (spec_l07Drawn_p_b2_S ⊕ spec_l07Drawn_p_b2_R) := fun (s2_1, s2_2, s2_3, s2_4, s2_5, s2_6, s2_7) =>
 if (decide (s2_1 > 0)) = true then
  (spec_l07NextDeal_pp s2_5 s2_6 s2_7 s2_2 s2_3 s2_4).bind fun (r281, r282, r283, r284, r285, r286, r287, r288, r289) =>
  (spec_l07Do (Book.mk s2_2 s2_3 s2_4) (Deal.mk r281 r282 r283 r284 r285 r286)).bind fun r => match r with
  | (.inl r327) =>
   if (r327 == 0) = true then
    none
   else
    some (.inl ((IntKind.i64.wrap (s2_1 - 1)), s2_2, s2_3, s2_4, r287, r288, r289))
  | (.inr (r392, r393, r394)) =>
   some (.inl ((IntKind.i64.wrap (s2_1 - 1)), r392, r393, r394, r287, r288, r289))
 else
  some (.inr (s2_2, s2_3, s2_4, s2_5, s2_6, s2_7))
theorem spec_l07Drawn_p_b2_ok (i2_1 : Nat) (i2_2 : Nat) (j1 : Nat) (M0 : Mem) (ne21 : i2_1 ≠ i2_2) (ne7 : j1 ≠ i2_1) (ne20 : j1 ≠ i2_2) (nf4 : Nf [j1] M0 i2_1) (nf32 : Nf [j1] M0 i2_2) (s : spec_l07Drawn_p_b2_S) (r : spec_l07Drawn_p_b2_S ⊕ spec_l07Drawn_p_b2_R) (h : spec_l07Drawn_p_b2 s = some r) (e : Env) (M : Mem) (hs : spec_l07Drawn_p_b2_RS i2_1 i2_2 j1 M0 s e M) : Ev (fun k => (f50_l7 (CN k) k (prune [0, 2, 4, 6] e) M).bind fun q => some q) (bQ (spec_l07Drawn_p_b2_RS i2_1 i2_2 j1 M0) (spec_l07Drawn_p_b2_RR i2_1 i2_2 j1 M0) r) := by
 obtain ⟨s2_1, s2_2, s2_3, s2_4, s2_5, s2_6, s2_7⟩ := s
 unfold spec_l07Drawn_p_b2 at h
 obtain ⟨h260, h262, h264, h266, o268, o269, o270, fr271⟩ := hs
 generalize he259 : prune [0, 2, 4, 6] e = e258
 have h261 := envp he259.symm rfl h260
 have h263 := envp he259.symm rfl h262
 have h265 := envp he259.symm rfl h264
 have h267 := envp he259.symm rfl h266
 refine sq (sq (Rg (kx (mvO h267) (kx (bGtr rfl rfl) (Rn (hV (.loc j1 1 0 0) h261 (hV (.loc i2_1 1 0 0) h263 (hV (.loc i2_2 1 0 0) h265 (hV (.int .i64 s2_1) h267 (hN rfl hZ))))) fun e272 h274 h275 h276 h277 h278 => sN ?_)))))
 clear h261 h263 h265 h267
 rcases ite_some h with ⟨hb279, h⟩ | ⟨hb279, h⟩
 ·obtain ⟨⟨r281, r282, r283, r284, r285, r286, r287, r288, r289⟩, hx280, h⟩ := bind_some h
  refine cT h278 hb279 (xx (sN (sq (bl (sq (Rg (kx (mvO h274) (Ev.nxw (Ev.callW rfl (cns rfl (cns h276 rfl)) (spec_l07NextDeal_pp_ok s2_5 s2_6 s2_7 s2_2 s2_3 s2_4 j1 i2_2 ne20 M o270 o269 _ hx280)) fun v292 M290 hq291 => ?_))))))))
  obtain ⟨hv292, o293, o294, fr295⟩ := hq291
  have hv292 : v292 = .agg [.int .i64 r281, .int .i8 r282, .int .i64 r283, .int .i64 r284, .int .i64 r285, .int .i64 r286] := hv292
  subst hv292
  have o296 : M290[j1]? = some (.live ⟨.box, 142, 3, [[.sl none (r287.map (cI .u8)), .int .i64 r288, .int .u64 r289]]⟩) := o293
  have o297 : M290[i2_2]? = some (.live ⟨.box, 27, 3, [[.int .i64 s2_2, .sl none (s2_3.map (cI .i64)), .sl none (s2_4.map Tally.c)]]⟩) := o294
  have fr295 : Fr [j1, i2_2] M M290 := fr295
  have o298 := fr295 _ _ (niC (Ne.symm ne7) (niC ne21 niN)) o268
  have fr299 : Fr [j1] M0 M290 := Fr.call fr271 fr295 (fwI (by simp) (fwO nf32 fwN))
  refine ku (alO zero36) fun M301 hM302 => ?_
  have nf303 := Nf.mk fr299
  have fr304 := Fr.push fr299 hM302
  have o305 := push_old hM302 o298
  have ne306 := ne_new o298
  have o307 := push_old hM302 o297
  have ne308 := ne_new o297
  have o309 := push_old hM302 o296
  have ne310 := ne_new o296
  have o311 : M301[M290.length]? = some (.live ⟨.box, 36, 6, [[.int .i64 0, .int .i8 0, .int .i64 0, .int .i64 0, .int .i64 0, .int .i64 0]]⟩) := push_new hM302
  refine kw (stO rfl rfl o311 rfl rfl ⟨rfl, ble rfl⟩ rfl rfl) fun M312 hM313 => ?_
  have o314 := set_ne hM313 ne306 o305
  have o315 := set_ne hM313 ne308 o307
  have o316 := set_ne hM313 ne310 o309
  have o317 : M312[M290.length]? = some (.live ⟨.box, 36, 6, [[.int .i64 r281, .int .i8 r282, .int .i64 r283, .int .i64 r284, .int .i64 r285, .int .i64 r286]]⟩) := set_same hM313 o311
  have fr318 := Fr.setNew fr304 hM313 nf303
  obtain ⟨q452, hx326, h⟩ := bind_some h
  refine Rn (hA h274 (hA h275 (hA h276 (hA h277 (hV (.loc M290.length 1 0 0) rfl hZ))))) fun e319 h321 h322 h323 h324 h325 => sN (sq (Rg ?_))
  clear h274 h275 h276 h277 h278
  rcases q452 with r327 | ⟨r392, r393, r394⟩
  ·refine kc (cl (v := .tup [.agg [.int .i64 0, .nils, .nils], .int .i64 r327]) rfl rfl (cns h323 (cns h325 rfl)) (ra1 (ra1_loc o315 rfl rfl rfl ⟨rfl, blt rfl⟩) (ra1 (ra1_loc o317 rfl rfl rfl ⟨rfl, blt rfl⟩) ra0)) (spec_l07Do_ok (Book.mk s2_2 s2_3 s2_4) (Deal.mk r281 r282 r283 r284 r285 r286) _ hx326) (fun _ => (own_tup (oa1 (own2_agg (oa1 rfl (oa1 rfl (oa1 rfl oa0)))) (oa1 rfl oa0))))) (kx (mvO rfl) (kx (exT rfl rfl) (kx (exT rfl rfl) (ku (alO zero27) fun M329 hM330 => ?_))))
   have nf331 := Nf.mk fr318
   have fr332 := Fr.push fr318 hM330
   have o333 := push_old hM330 o314
   have ne334 := ne_new o314
   have o335 := push_old hM330 o315
   have ne336 := ne_new o315
   have o337 := push_old hM330 o316
   have ne338 := ne_new o316
   have o339 := push_old hM330 o317
   have ne340 := ne_new o317
   have o341 : M329[M312.length]? = some (.live ⟨.box, 27, 3, [[.int .i64 0, .nils, .nils]]⟩) := push_new hM330
   refine kw (stO rfl rfl o341 rfl rfl ⟨rfl, ble rfl⟩ rfl rfl) fun M342 hM343 => ?_
   have o344 := set_ne hM343 ne334 o333
   have o345 := set_ne hM343 ne336 o335
   have o346 := set_ne hM343 ne338 o337
   have o347 := set_ne hM343 ne340 o339
   have o348 : M342[M312.length]? = some (.live ⟨.box, 27, 3, [[.int .i64 0, .nils, .nils]]⟩) := set_same hM343 o341
   have fr349 := Fr.setNew fr332 hM343 nf331
   refine kx (mvO rfl) (Rn (hA h321 (hA h322 (hA h323 (hA h324 (hV (.loc M312.length 1 0 0) rfl (hN rfl hZ)))))) fun e350 h352 h353 h354 h355 h356 h357 => sN (sq (Rg (kx (mvO h357) (kx (bEql rfl rfl) (Rn (hA h352 (hA h353 (hA h354 (hA h355 (hA h356 (hN rfl hZ)))))) fun e358 h360 h361 h362 h363 h364 h365 => sN ?_))))))
   clear h321 h322 h323 h324 h325 h352 h353 h354 h355 h356 h357
   rcases ite_some h with ⟨hb366, h⟩ | ⟨hb366, h⟩
   ·refine cT h365 hb366 (Rg (kx (ldOA h364 o348 rfl rfl (ble rfl) rfl) (kw (stO h362 rfl o345 rfl rfl ⟨rfl, ble rfl⟩ rfl rfl) fun M367 hM368 => ?_)))
    have o369 := set_ne hM368 ne21 o344
    have o370 : M367[i2_2]? = some (.live ⟨.box, 27, 3, [[.int .i64 0, .nils, .nils]]⟩) := set_same hM368 o345
    have o371 := set_ne hM368 ne20 o346
    have o372 := set_ne hM368 (Ne.symm ne336) o348
    have fr373 := Fr.setNew fr349 hM368 nf32
    refine Rn (hA h360 (hA h361 (hA h362 (hA h363 hZ)))) fun e374 h376 h377 h378 h379 => bN (sN (Rg (kx (mvO h379) (kx (bSub rfl rfl) (kx (mvO rfl) (Rn (hA h376 (hA h377 (hA h378 (hN rfl hZ)))) fun e380 h382 h383 h384 h385 => ?_))))))
    clear h360 h361 h362 h363 h364 h365 h376 h377 h378
    cases h
   refine cF h365 hb366 (xx (bN (sN (Rg (kx (mvO h363) (kx (bSub rfl rfl) (kx (mvO rfl) (Rn (hA h360 (hA h361 (hA h362 (hN rfl hZ)))) fun e386 h388 h389 h390 h391 => ?_))))))))
   clear h360 h361 h362 h364 h365
   obtain rfl := si h
   exact qN ⟨h388, h389, h390, h391, o344, o345, o346, fr349⟩
  refine kc (cl (v := .tup [.agg [.int .i64 r392, .sl (some 2) (r393.map (cI .i64)), .sl (some 49) (r394.map Tally.c)], .int .i64 0]) rfl rfl (cns h323 (cns h325 rfl)) (ra1 (ra1_loc o315 rfl rfl rfl ⟨rfl, blt rfl⟩) (ra1 (ra1_loc o317 rfl rfl rfl ⟨rfl, blt rfl⟩) ra0)) (spec_l07Do_ok (Book.mk s2_2 s2_3 s2_4) (Deal.mk r281 r282 r283 r284 r285 r286) _ hx326) (fun _ => (own_tup (oa1 (own2_agg (oa1 rfl (oa1 (own1_row' (c := (cI .i64)) (fun _ => rfl)) (oa1 (own1_row' (c := Tally.c) Tally.flF) oa0)))) (oa1 rfl oa0))))) (kx (mvO rfl) (kx (exT rfl rfl) (kx (exT rfl rfl) (ku (alO zero27) fun M396 hM397 => ?_))))
  have nf398 := Nf.mk fr318
  have fr399 := Fr.push fr318 hM397
  have o400 := push_old hM397 o314
  have ne401 := ne_new o314
  have o402 := push_old hM397 o315
  have ne403 := ne_new o315
  have o404 := push_old hM397 o316
  have ne405 := ne_new o316
  have o406 := push_old hM397 o317
  have ne407 := ne_new o317
  have o408 : M396[M312.length]? = some (.live ⟨.box, 27, 3, [[.int .i64 0, .nils, .nils]]⟩) := push_new hM397
  refine kw (stO rfl rfl o408 rfl rfl ⟨rfl, ble rfl⟩ rfl rfl) fun M409 hM410 => ?_
  have o411 := set_ne hM410 ne401 o400
  have o412 := set_ne hM410 ne403 o402
  have o413 := set_ne hM410 ne405 o404
  have o414 := set_ne hM410 ne407 o406
  have o415 : M409[M312.length]? = some (.live ⟨.box, 27, 3, [[.int .i64 r392, .sl none (r393.map (cI .i64)), .sl none (r394.map Tally.c)]]⟩) := set_same hM410 o408
  have fr416 := Fr.setNew fr399 hM410 nf398
  refine kx (mvO rfl) (Rn (hA h321 (hA h322 (hA h323 (hA h324 (hV (.loc M312.length 1 0 0) rfl (hV (.int .i64 0) rfl hZ)))))) fun e417 h419 h420 h421 h422 h423 h424 => sN (sq (Rg (kx (mvO h424) (kx (bEql rfl rfl) (Rn (hA h419 (hA h420 (hA h421 (hA h422 (hA h423 (hV (.bool true) rfl hZ)))))) fun e425 h427 h428 h429 h430 h431 h432 => sN (cT h432 rfl (Rg (kx (ldOA h431 o415 rfl rfl (ble rfl) rfl) (kw (stO h429 rfl o412 rfl rfl ⟨rfl, ble rfl⟩ rfl rfl) fun M433 hM434 => ?_))))))))))
  clear h321 h322 h323 h324 h325 h419 h420 h421 h422 h423 h424
  have o435 := set_ne hM434 ne21 o411
  have o436 : M433[i2_2]? = some (.live ⟨.box, 27, 3, [[.int .i64 r392, .sl none (r393.map (cI .i64)), .sl none (r394.map Tally.c)]]⟩) := set_same hM434 o412
  have o437 := set_ne hM434 ne20 o413
  have o438 := set_ne hM434 (Ne.symm ne403) o415
  have fr439 := Fr.setNew fr416 hM434 nf32
  refine Rn (hA h427 (hA h428 (hA h429 (hA h430 hZ)))) fun e440 h442 h443 h444 h445 => bN (sN (Rg (kx (mvO h445) (kx (bSub rfl rfl) (kx (mvO rfl) (Rn (hA h442 (hA h443 (hA h444 (hN rfl hZ)))) fun e446 h448 h449 h450 h451 => ?_))))))
  clear h427 h428 h429 h430 h431 h432 h442 h443 h444
  obtain rfl := si h
  exact qN ⟨h448, h449, h450, h451, o435, o436, o437, fr439⟩
 refine cF h278 hb279 (xx (sE ?_))
 obtain rfl := si h
 exact qE ⟨rfl, h274, h275, h276, o268, o269, o270, fr271⟩
abbrev spec_l07Drawn_p_b3_S := Int × (List Deal) × Int × (List Int) × (List Tally) × (List Int) × Int × Int
abbrev spec_l07Drawn_p_b3_R := (List Deal) × Int × (List Int) × (List Tally) × (List Int) × Int × Int
def spec_l07Drawn_p_b3_RS (y458 : Int) (y459 : List Int) (y460 : List Tally) (i3_1 : Nat) (i3_2 : Nat) (i3_3 : Nat) (i3_4 : Nat) (j1 : Nat) (M0 : Mem) (s : spec_l07Drawn_p_b3_S) (e : Env) (M : Mem) : Prop := eget e 0 = .loc j1 1 0 0 ∧ eget e 2 = .loc i3_1 1 0 0 ∧ eget e 4 = .loc i3_2 1 0 0 ∧ eget e 10 = .lsl i3_3 s.2.1.length 0 s.2.1.length ∧ eget e 11 = .loc i3_4 1 0 0 ∧ eget e 12 = .int .i64 s.1 ∧ M[i3_1]? = some (.live ⟨.box, 27, 3, [[.int .i64 0, .nils, .nils]]⟩) ∧ M[i3_2]? = some (.live ⟨.box, 27, 3, [[.int .i64 y458, .sl none (y459.map (cI .i64)), .sl none (y460.map Tally.c)]]⟩) ∧ M[i3_3]? = some (.live ⟨.grow, 36, 6, s.2.1.map Deal.c⟩) ∧ M[i3_4]? = some (.live ⟨.box, 27, 3, [[.int .i64 s.2.2.1, .sl none (s.2.2.2.1.map (cI .i64)), .sl none (s.2.2.2.2.1.map Tally.c)]]⟩) ∧ M[j1]? = some (.live ⟨.box, 142, 3, [[.sl none (s.2.2.2.2.2.1.map (cI .u8)), .int .i64 s.2.2.2.2.2.2.1, .int .u64 s.2.2.2.2.2.2.2]]⟩) ∧ Fr [j1] M0 M
def spec_l07Drawn_p_b3_RR (y458 : Int) (y459 : List Int) (y460 : List Tally) (i3_1 : Nat) (i3_2 : Nat) (i3_3 : Nat) (i3_4 : Nat) (j1 : Nat) (M0 : Mem) (g : spec_l07Drawn_p_b3_R) (x : Ex) (e : Env) (M : Mem) : Prop := x = .ext 4 ∧ eget e 2 = .loc i3_1 1 0 0 ∧ eget e 4 = .loc i3_2 1 0 0 ∧ eget e 10 = .lsl i3_3 g.1.length 0 g.1.length ∧ M[i3_1]? = some (.live ⟨.box, 27, 3, [[.int .i64 0, .nils, .nils]]⟩) ∧ M[i3_2]? = some (.live ⟨.box, 27, 3, [[.int .i64 y458, .sl none (y459.map (cI .i64)), .sl none (y460.map Tally.c)]]⟩) ∧ M[i3_3]? = some (.live ⟨.grow, 36, 6, g.1.map Deal.c⟩) ∧ M[i3_4]? = some (.live ⟨.box, 27, 3, [[.int .i64 g.2.1, .sl none (g.2.2.1.map (cI .i64)), .sl none (g.2.2.2.1.map Tally.c)]]⟩) ∧ M[j1]? = some (.live ⟨.box, 142, 3, [[.sl none (g.2.2.2.2.1.map (cI .u8)), .int .i64 g.2.2.2.2.2.1, .int .u64 g.2.2.2.2.2.2]]⟩) ∧ Fr [j1] M0 M
noncomputable def spec_l07Drawn_p_b3 : spec_l07Drawn_p_b3_S → Option (spec_l07Drawn_p_b3_S ⊕ spec_l07Drawn_p_b3_R) := fun (s3_1, s3_2, s3_3, s3_4, s3_5, s3_6, s3_7, s3_8) =>
 if (decide (s3_1 > 0)) = true then
  (spec_l07NextDeal_pp s3_6 s3_7 s3_8 s3_3 s3_4 s3_5).bind fun (r597, r598, r599, r600, r601, r602, r603, r604, r605) =>
  (spec_l07Do (Book.mk s3_3 s3_4 s3_5) (Deal.mk r597 r598 r599 r600 r601 r602)).bind fun r => match r with
  | (.inl r653) =>
   if (r653 == 0) = true then
    (app 48 s3_2 [(Deal.mk r597 r598 r599 r600 r601 r602)]).bind fun x724 =>
    none
   else
    some (.inl ((IntKind.i64.wrap (s3_1 - 1)), s3_2, s3_3, s3_4, s3_5, r603, r604, r605))
  | (.inr (r759, r760, r761)) =>
   (app 48 s3_2 [(Deal.mk r597 r598 r599 r600 r601 r602)]).bind fun x831 =>
   some (.inl ((IntKind.i64.wrap (s3_1 - 1)), x831, r759, r760, r761, r603, r604, r605))
 else
  some (.inr (s3_2, s3_3, s3_4, s3_5, s3_6, s3_7, s3_8))
theorem spec_l07Drawn_p_b3_ok (y458 : Int) (y459 : List Int) (y460 : List Tally) (i3_1 : Nat) (i3_2 : Nat) (i3_3 : Nat) (i3_4 : Nat) (j1 : Nat) (M0 : Mem) (ne21 : i3_1 ≠ i3_2) (ne477 : i3_1 ≠ i3_3) (ne499 : i3_1 ≠ i3_4) (ne479 : i3_2 ≠ i3_3) (ne501 : i3_2 ≠ i3_4) (ne505 : i3_3 ≠ i3_4) (ne7 : j1 ≠ i3_1) (ne20 : j1 ≠ i3_2) (ne481 : j1 ≠ i3_3) (ne503 : j1 ≠ i3_4) (nf4 : Nf [j1] M0 i3_1) (nf32 : Nf [j1] M0 i3_2) (nf474 : Nf [j1] M0 i3_3) (nf496 : Nf [j1] M0 i3_4) (s : spec_l07Drawn_p_b3_S) (r : spec_l07Drawn_p_b3_S ⊕ spec_l07Drawn_p_b3_R) (h : spec_l07Drawn_p_b3 s = some r) (e : Env) (M : Mem) (hs : spec_l07Drawn_p_b3_RS y458 y459 y460 i3_1 i3_2 i3_3 i3_4 j1 M0 s e M) : Ev (fun k => (f50_l16 (CN k) k (prune [0, 2, 4, 10, 11, 12] e) M).bind fun q => some q) (bQ (spec_l07Drawn_p_b3_RS y458 y459 y460 i3_1 i3_2 i3_3 i3_4 j1 M0) (spec_l07Drawn_p_b3_RR y458 y459 y460 i3_1 i3_2 i3_3 i3_4 j1 M0) r) := by
 obtain ⟨s3_1, s3_2, s3_3, s3_4, s3_5, s3_6, s3_7, s3_8⟩ := s
 unfold spec_l07Drawn_p_b3 at h
 obtain ⟨h568, h570, h572, h574, h576, h578, o580, o581, o583, o584, o582, fr585⟩ := hs
 generalize he567 : prune [0, 2, 4, 10, 11, 12] e = e566
 have h569 := envp he567.symm rfl h568
 have h571 := envp he567.symm rfl h570
 have h573 := envp he567.symm rfl h572
 have h575 := envp he567.symm rfl h574
 have h577 := envp he567.symm rfl h576
 have h579 := envp he567.symm rfl h578
 refine sq (sq (Rg (kx (mvO h579) (kx (bGtr rfl rfl) (Rn (hV (.loc j1 1 0 0) h569 (hV (.loc i3_1 1 0 0) h571 (hV (.loc i3_2 1 0 0) h573 (hV (.lsl i3_3 s3_2.length 0 s3_2.length) h575 (hV (.loc i3_4 1 0 0) h577 (hV (.int .i64 s3_1) h579 (hN rfl hZ))))))) fun e586 h588 h589 h590 h591 h592 h593 h594 => sN ?_)))))
 clear h569 h571 h573 h575 h577 h579
 rcases ite_some h with ⟨hb595, h⟩ | ⟨hb595, h⟩
 ·obtain ⟨⟨r597, r598, r599, r600, r601, r602, r603, r604, r605⟩, hx596, h⟩ := bind_some h
  refine cT h594 hb595 (xx (sN (sq (bl (sq (Rg (kx (mvO h588) (Ev.nxw (Ev.callW rfl (cns rfl (cns h592 rfl)) (spec_l07NextDeal_pp_ok s3_6 s3_7 s3_8 s3_3 s3_4 s3_5 j1 i3_4 ne503 M o582 o584 _ hx596)) fun v608 M606 hq607 => ?_))))))))
  obtain ⟨hv608, o609, o610, fr611⟩ := hq607
  have hv608 : v608 = .agg [.int .i64 r597, .int .i8 r598, .int .i64 r599, .int .i64 r600, .int .i64 r601, .int .i64 r602] := hv608
  subst hv608
  have o612 : M606[j1]? = some (.live ⟨.box, 142, 3, [[.sl none (r603.map (cI .u8)), .int .i64 r604, .int .u64 r605]]⟩) := o609
  have o613 : M606[i3_4]? = some (.live ⟨.box, 27, 3, [[.int .i64 s3_3, .sl none (s3_4.map (cI .i64)), .sl none (s3_5.map Tally.c)]]⟩) := o610
  have fr611 : Fr [j1, i3_4] M M606 := fr611
  have o614 := fr611 _ _ (niC (Ne.symm ne7) (niC ne499 niN)) o580
  have o615 := fr611 _ _ (niC (Ne.symm ne20) (niC ne501 niN)) o581
  have o616 := fr611 _ _ (niC (Ne.symm ne481) (niC ne505 niN)) o583
  have fr617 : Fr [j1] M0 M606 := Fr.call fr585 fr611 (fwI (by simp) (fwO nf496 fwN))
  refine ku (alO zero36) fun M619 hM620 => ?_
  have nf621 := Nf.mk fr617
  have fr622 := Fr.push fr617 hM620
  have o623 := push_old hM620 o614
  have ne624 := ne_new o614
  have o625 := push_old hM620 o615
  have ne626 := ne_new o615
  have o627 := push_old hM620 o612
  have ne628 := ne_new o612
  have o629 := push_old hM620 o616
  have ne630 := ne_new o616
  have o631 := push_old hM620 o613
  have ne632 := ne_new o613
  have o633 : M619[M606.length]? = some (.live ⟨.box, 36, 6, [[.int .i64 0, .int .i8 0, .int .i64 0, .int .i64 0, .int .i64 0, .int .i64 0]]⟩) := push_new hM620
  refine kw (stO rfl rfl o633 rfl rfl ⟨rfl, ble rfl⟩ rfl rfl) fun M634 hM635 => ?_
  have o636 := set_ne hM635 ne624 o623
  have o637 := set_ne hM635 ne626 o625
  have o638 := set_ne hM635 ne628 o627
  have o639 := set_ne hM635 ne630 o629
  have o640 := set_ne hM635 ne632 o631
  have o641 : M634[M606.length]? = some (.live ⟨.box, 36, 6, [[.int .i64 r597, .int .i8 r598, .int .i64 r599, .int .i64 r600, .int .i64 r601, .int .i64 r602]]⟩) := set_same hM635 o633
  have fr642 := Fr.setNew fr622 hM635 nf621
  obtain ⟨q858, hx652, h⟩ := bind_some h
  refine Rn (hA h588 (hA h589 (hA h590 (hA h591 (hA h592 (hA h593 (hV (.loc M606.length 1 0 0) rfl hZ))))))) fun e643 h645 h646 h647 h648 h649 h650 h651 => sN (sq (Rg ?_))
  clear h588 h589 h590 h591 h592 h593 h594
  rcases q858 with r653 | ⟨r759, r760, r761⟩
  ·refine kc (cl (v := .tup [.agg [.int .i64 0, .nils, .nils], .int .i64 r653]) rfl rfl (cns h649 (cns h651 rfl)) (ra1 (ra1_loc o640 rfl rfl rfl ⟨rfl, blt rfl⟩) (ra1 (ra1_loc o641 rfl rfl rfl ⟨rfl, blt rfl⟩) ra0)) (spec_l07Do_ok (Book.mk s3_3 s3_4 s3_5) (Deal.mk r597 r598 r599 r600 r601 r602) _ hx652) (fun _ => (own_tup (oa1 (own2_agg (oa1 rfl (oa1 rfl (oa1 rfl oa0)))) (oa1 rfl oa0))))) (kx (mvO rfl) (kx (exT rfl rfl) (kx (exT rfl rfl) (ku (alO zero27) fun M655 hM656 => ?_))))
   have nf657 := Nf.mk fr642
   have fr658 := Fr.push fr642 hM656
   have o659 := push_old hM656 o636
   have ne660 := ne_new o636
   have o661 := push_old hM656 o637
   have ne662 := ne_new o637
   have o663 := push_old hM656 o638
   have ne664 := ne_new o638
   have o665 := push_old hM656 o639
   have ne666 := ne_new o639
   have o667 := push_old hM656 o640
   have ne668 := ne_new o640
   have o669 := push_old hM656 o641
   have ne670 := ne_new o641
   have o671 : M655[M634.length]? = some (.live ⟨.box, 27, 3, [[.int .i64 0, .nils, .nils]]⟩) := push_new hM656
   refine kw (stO rfl rfl o671 rfl rfl ⟨rfl, ble rfl⟩ rfl rfl) fun M672 hM673 => ?_
   have o674 := set_ne hM673 ne660 o659
   have o675 := set_ne hM673 ne662 o661
   have o676 := set_ne hM673 ne664 o663
   have o677 := set_ne hM673 ne666 o665
   have o678 := set_ne hM673 ne668 o667
   have o679 := set_ne hM673 ne670 o669
   have o680 : M672[M634.length]? = some (.live ⟨.box, 27, 3, [[.int .i64 0, .nils, .nils]]⟩) := set_same hM673 o671
   have fr681 := Fr.setNew fr658 hM673 nf657
   refine kx (mvO rfl) (Rn (hA h645 (hA h646 (hA h647 (hA h648 (hA h649 (hA h650 (hA h651 (hV (.loc M634.length 1 0 0) rfl (hN rfl hZ))))))))) fun e682 h684 h685 h686 h687 h688 h689 h690 h691 h692 => sN (sq (Rg (kx (mvO h692) (kx (bEql rfl rfl) (Rn (hA h684 (hA h685 (hA h686 (hA h687 (hA h688 (hA h689 (hA h690 (hA h691 (hN rfl hZ))))))))) fun e693 h695 h696 h697 h698 h699 h700 h701 h702 h703 => sN ?_))))))
   clear h645 h646 h647 h648 h649 h650 h651 h684 h685 h686 h687 h688 h689 h690 h691 h692
   rcases ite_some h with ⟨hb704, h⟩ | ⟨hb704, h⟩
   ·refine cT h703 hb704 (sq (Rg (kx (ldOA h702 o680 rfl rfl (ble rfl) rfl) (kw (stO h699 rfl o678 rfl rfl ⟨rfl, ble rfl⟩ rfl rfl) fun M705 hM706 => ?_))))
    have o707 := set_ne hM706 ne499 o674
    have o708 := set_ne hM706 ne501 o675
    have o709 := set_ne hM706 ne503 o676
    have o710 := set_ne hM706 ne505 o677
    have o711 : M705[i3_4]? = some (.live ⟨.box, 27, 3, [[.int .i64 0, .nils, .nils]]⟩) := set_same hM706 o678
    have o712 := set_ne hM706 (Ne.symm ne632) o679
    have o713 := set_ne hM706 (Ne.symm ne668) o680
    have fr714 := Fr.setNew fr681 hM706 nf496
    obtain ⟨x724, hx725, h⟩ := bind_some h
    refine Rn (hA h695 (hA h696 (hA h697 (hA h698 (hA h699 (hA h700 (hA h701 hZ))))))) fun e715 h717 h718 h719 h720 h721 h722 h723 => sN (Rg (kx (mvO h720) (kx (ldOA h723 o712 rfl rfl (ble rfl) rfl) (kx (litI (cns rfl rfl) rfl ⟨rfl, by decide⟩) (kw (apO rfl o710 rfl (elT (c := Deal.c) (xs := [(Deal.mk r597 r598 r599 r600 r601 r602)]) rfl) hx725 Deal.fl (by decide)) fun M726 hM727 => ?_)))))
    clear h695 h696 h697 h698 h699 h700 h701 h702 h703
    have o728 := set_ne hM727 ne477 o707
    have o729 := set_ne hM727 ne479 o708
    have o730 := set_ne hM727 ne481 o709
    have o731 : M726[i3_3]? = some (.live ⟨.grow, 36, 6, x724.map Deal.c⟩) := set_same hM727 o710
    have o732 := set_ne hM727 (Ne.symm ne505) o711
    have o733 := set_ne hM727 (Ne.symm ne630) o712
    have fr734 := Fr.setNew fr714 hM727 nf474
    refine kx (mvO rfl) (Rn (hA h717 (hA h718 (hA h719 (hV (.lsl i3_3 x724.length 0 x724.length) rfl (hA h721 (hA h722 hZ)))))) fun e735 h737 h738 h739 h740 h741 h742 => bN (sN (Rg (kx (mvO h742) (kx (bSub rfl rfl) (kx (mvO rfl) (Rn (hA h737 (hA h738 (hA h739 (hA h740 (hA h741 (hN rfl hZ)))))) fun e743 h745 h746 h747 h748 h749 h750 => ?_)))))))
    clear h717 h718 h719 h721 h722 h723 h737 h738 h739 h740 h741
    cases h
   refine cF h703 hb704 (xx (bN (sN (Rg (kx (mvO h700) (kx (bSub rfl rfl) (kx (mvO rfl) (Rn (hA h695 (hA h696 (hA h697 (hA h698 (hA h699 (hN rfl hZ)))))) fun e751 h753 h754 h755 h756 h757 h758 => ?_))))))))
   clear h695 h696 h697 h698 h699 h701 h702 h703
   obtain rfl := si h
   exact qN ⟨h753, h754, h755, h756, h757, h758, o674, o675, o677, o678, o676, fr681⟩
  refine kc (cl (v := .tup [.agg [.int .i64 r759, .sl (some 2) (r760.map (cI .i64)), .sl (some 49) (r761.map Tally.c)], .int .i64 0]) rfl rfl (cns h649 (cns h651 rfl)) (ra1 (ra1_loc o640 rfl rfl rfl ⟨rfl, blt rfl⟩) (ra1 (ra1_loc o641 rfl rfl rfl ⟨rfl, blt rfl⟩) ra0)) (spec_l07Do_ok (Book.mk s3_3 s3_4 s3_5) (Deal.mk r597 r598 r599 r600 r601 r602) _ hx652) (fun _ => (own_tup (oa1 (own2_agg (oa1 rfl (oa1 (own1_row' (c := (cI .i64)) (fun _ => rfl)) (oa1 (own1_row' (c := Tally.c) Tally.flF) oa0)))) (oa1 rfl oa0))))) (kx (mvO rfl) (kx (exT rfl rfl) (kx (exT rfl rfl) (ku (alO zero27) fun M763 hM764 => ?_))))
  have nf765 := Nf.mk fr642
  have fr766 := Fr.push fr642 hM764
  have o767 := push_old hM764 o636
  have ne768 := ne_new o636
  have o769 := push_old hM764 o637
  have ne770 := ne_new o637
  have o771 := push_old hM764 o638
  have ne772 := ne_new o638
  have o773 := push_old hM764 o639
  have ne774 := ne_new o639
  have o775 := push_old hM764 o640
  have ne776 := ne_new o640
  have o777 := push_old hM764 o641
  have ne778 := ne_new o641
  have o779 : M763[M634.length]? = some (.live ⟨.box, 27, 3, [[.int .i64 0, .nils, .nils]]⟩) := push_new hM764
  refine kw (stO rfl rfl o779 rfl rfl ⟨rfl, ble rfl⟩ rfl rfl) fun M780 hM781 => ?_
  have o782 := set_ne hM781 ne768 o767
  have o783 := set_ne hM781 ne770 o769
  have o784 := set_ne hM781 ne772 o771
  have o785 := set_ne hM781 ne774 o773
  have o786 := set_ne hM781 ne776 o775
  have o787 := set_ne hM781 ne778 o777
  have o788 : M780[M634.length]? = some (.live ⟨.box, 27, 3, [[.int .i64 r759, .sl none (r760.map (cI .i64)), .sl none (r761.map Tally.c)]]⟩) := set_same hM781 o779
  have fr789 := Fr.setNew fr766 hM781 nf765
  refine kx (mvO rfl) (Rn (hA h645 (hA h646 (hA h647 (hA h648 (hA h649 (hA h650 (hA h651 (hV (.loc M634.length 1 0 0) rfl (hV (.int .i64 0) rfl hZ))))))))) fun e790 h792 h793 h794 h795 h796 h797 h798 h799 h800 => sN (sq (Rg (kx (mvO h800) (kx (bEql rfl rfl) (Rn (hA h792 (hA h793 (hA h794 (hA h795 (hA h796 (hA h797 (hA h798 (hA h799 (hV (.bool true) rfl hZ))))))))) fun e801 h803 h804 h805 h806 h807 h808 h809 h810 h811 => sN (cT h811 rfl (sq (Rg (kx (ldOA h810 o788 rfl rfl (ble rfl) rfl) (kw (stO h807 rfl o786 rfl rfl ⟨rfl, ble rfl⟩ rfl rfl) fun M812 hM813 => ?_)))))))))))
  clear h645 h646 h647 h648 h649 h650 h651 h792 h793 h794 h795 h796 h797 h798 h799 h800
  have o814 := set_ne hM813 ne499 o782
  have o815 := set_ne hM813 ne501 o783
  have o816 := set_ne hM813 ne503 o784
  have o817 := set_ne hM813 ne505 o785
  have o818 : M812[i3_4]? = some (.live ⟨.box, 27, 3, [[.int .i64 r759, .sl none (r760.map (cI .i64)), .sl none (r761.map Tally.c)]]⟩) := set_same hM813 o786
  have o819 := set_ne hM813 (Ne.symm ne632) o787
  have o820 := set_ne hM813 (Ne.symm ne776) o788
  have fr821 := Fr.setNew fr789 hM813 nf496
  obtain ⟨x831, hx832, h⟩ := bind_some h
  refine Rn (hA h803 (hA h804 (hA h805 (hA h806 (hA h807 (hA h808 (hA h809 hZ))))))) fun e822 h824 h825 h826 h827 h828 h829 h830 => sN (Rg (kx (mvO h827) (kx (ldOA h830 o819 rfl rfl (ble rfl) rfl) (kx (litI (cns rfl rfl) rfl ⟨rfl, by decide⟩) (kw (apO rfl o817 rfl (elT (c := Deal.c) (xs := [(Deal.mk r597 r598 r599 r600 r601 r602)]) rfl) hx832 Deal.fl (by decide)) fun M833 hM834 => ?_)))))
  clear h803 h804 h805 h806 h807 h808 h809 h810 h811
  have o835 := set_ne hM834 ne477 o814
  have o836 := set_ne hM834 ne479 o815
  have o837 := set_ne hM834 ne481 o816
  have o838 : M833[i3_3]? = some (.live ⟨.grow, 36, 6, x831.map Deal.c⟩) := set_same hM834 o817
  have o839 := set_ne hM834 (Ne.symm ne505) o818
  have o840 := set_ne hM834 (Ne.symm ne630) o819
  have fr841 := Fr.setNew fr821 hM834 nf474
  refine kx (mvO rfl) (Rn (hA h824 (hA h825 (hA h826 (hV (.lsl i3_3 x831.length 0 x831.length) rfl (hA h828 (hA h829 hZ)))))) fun e842 h844 h845 h846 h847 h848 h849 => bN (sN (Rg (kx (mvO h849) (kx (bSub rfl rfl) (kx (mvO rfl) (Rn (hA h844 (hA h845 (hA h846 (hA h847 (hA h848 (hN rfl hZ)))))) fun e850 h852 h853 h854 h855 h856 h857 => ?_)))))))
  clear h824 h825 h826 h828 h829 h830 h844 h845 h846 h847 h848
  obtain rfl := si h
  exact qN ⟨h852, h853, h854, h855, h856, h857, o835, o836, o838, o839, o837, fr841⟩
 refine cF h594 hb595 (xx (sE ?_))
 obtain rfl := si h
 exact qE ⟨rfl, h589, h590, h591, o580, o581, o583, o584, o582, fr585⟩
noncomputable def spec_l07Drawn_p (a1 : List Int) (a2 : Int) (a3 : Int) : Option (Int × (List Int) × (List Tally) × (List Int) × Int × Int × (List Deal)) :=
 (spec_l00Src_pick_p a1 a2 a3 3).bind fun (r77, r78, r79, r80) =>
 (Lw (spec_l07Drawn_p_b1) ((IntKind.i64.wrap (2 + r77)), 0, ([] : List Int), r78, r79, r80)).bind fun (y189, y190, y191, y192, y193) =>
 (spec_l00Src_pick_p y191 y192 y193 4).bind fun (r225, r226, r227, r228) =>
 (Lw (spec_l07Drawn_p_b2) (r225, y189, y190, ([] : List Tally), r226, r227, r228)).bind fun (y458, y459, y460, y461, y462, y463) =>
 (spec_l07Copy (Book.mk y458 y459 y460)).bind fun (r490, r491, r492) =>
 (spec_l00Src_pick_p y461 y462 y463 9).bind fun (r523, r524, r525, r526) =>
 (Lw (spec_l07Drawn_p_b3) (r523, ([] : List Deal), r490, r491, r492, r524, r525, r526)).bind fun (y864, y865, y866, y867, y868, y869, y870) =>
 some (y458, y459, y460, y868, y869, y870, y864)
def spec_l07Drawn_p_Q (a1 : List Int) (a2 : Int) (a3 : Int) (j1 : Nat) (M0 : Mem) (r : Int × (List Int) × (List Tally) × (List Int) × Int × Int × (List Deal)) (p : AV × Mem) : Prop := (∃ n1 : Nat, p.1 = .tup [.agg [.int .i64 r.1, .sl none (r.2.1.map (cI .i64)), .sl none (r.2.2.1.map Tally.c)], .lsl n1 r.2.2.2.2.2.2.length 0 r.2.2.2.2.2.2.length] ∧ p.2[n1]? = some (.live ⟨.grow, 36, 6, r.2.2.2.2.2.2.map Deal.c⟩) ∧ p.2[j1]? = some (.live ⟨.box, 142, 3, [[.sl none (r.2.2.2.1.map (cI .u8)), .int .i64 r.2.2.2.2.1, .int .u64 r.2.2.2.2.2.1]]⟩) ∧ Fr [j1] M0 p.2 ∧ Nf [j1] M0 n1 ∧ j1 ≠ n1)
theorem spec_l07Drawn_p_ok (a1 : List Int) (a2 : Int) (a3 : Int) (j1 : Nat) (M0 : Mem) (oP1 : M0[j1]? = some (.live ⟨.box, 142, 3, [[.sl none (a1.map (cI .u8)), .int .i64 a2, .int .u64 a3]]⟩)) (r : Int × (List Int) × (List Tally) × (List Int) × Int × Int × (List Deal)) (h : spec_l07Drawn_p a1 a2 a3 = some r) : Ev (fun k => CN k 50 [.loc j1 1 0 0] M0) (spec_l07Drawn_p_Q a1 a2 a3 j1 M0 r) := by
 unfold spec_l07Drawn_p at h
 have fr0 : Fr [j1] M0 M0 := Fr.refl
 refine Ev.enter (F := fun k => f50 (CN k) k) (fun k => callN_eq rfl Try.func50 rfl rfl rfl (by decide +kernel) (f50_eq _ _)) (sq (Rg (ku (alO zero27) fun M2 hM3 => ?_)))
 have nf4 := Nf.mk fr0
 have fr5 := Fr.push fr0 hM3
 have o6 := push_old hM3 oP1
 have ne7 := ne_new oP1
 have o8 : M2[M0.length]? = some (.live ⟨.box, 27, 3, [[.int .i64 0, .nils, .nils]]⟩) := push_new hM3
 refine kx (mvO rfl) (Rn (hV (.loc j1 1 0 0) rfl (hV (.loc M0.length 1 0 0) rfl hZ)) fun e9 h11 h12 => sN (sq (Rg (kx (bldT zero27 rfl (fill0 rfl)) (Ev.nxpushL (gho_one (alO zero27) nty27 (ghc rfl (ghn (ghn ghz co49) co2)) (by decide)) fun M16 hM17 => ?_)))))
 have o18 := push_old hM17 o6
 have o19 := push_old hM17 o8
 have ne20 : j1 ≠ M2.length := by have := lt_of_get (M := M2) o6; omega
 have ne21 : M0.length ≠ M2.length := by have := lt_of_get (M := M2) o8; omega
 have o22 : M16[M2.length]? = some (.live ⟨.box, 27, 3, [[.int .i64 0, .lsl (M2.length + 1) ([] : List Int).length 0 ([] : List Int).length, .lsl (M2.length + 2) ([] : List Tally).length 0 ([] : List Tally).length]]⟩) := push_at hM17 0 rfl
 have ne23 : j1 ≠ (M2.length + 1) := by have := lt_of_get (M := M2) o6; omega
 have ne24 : M0.length ≠ (M2.length + 1) := by have := lt_of_get (M := M2) o8; omega
 have ne25 : M2.length ≠ (M2.length + 1) := by omega
 have o26 : M16[(M2.length + 1)]? = some (.live ⟨.grow, 2, 1, ([] : List Int).map (cI .i64)⟩) := push_at hM17 1 rfl
 have ne27 : j1 ≠ (M2.length + 2) := by have := lt_of_get (M := M2) o6; omega
 have ne28 : M0.length ≠ (M2.length + 2) := by have := lt_of_get (M := M2) o8; omega
 have ne29 : M2.length ≠ (M2.length + 2) := by omega
 have ne30 : (M2.length + 1) ≠ (M2.length + 2) := by omega
 have o31 : M16[(M2.length + 2)]? = some (.live ⟨.grow, 49, 5, ([] : List Tally).map Tally.c⟩) := push_at hM17 2 rfl
 have nf32 := Nf.mk fr5
 have nf33 := Nf.mkAt fr5 1
 have nf34 := Nf.mkAt fr5 2
 have fr35 := Fr.push fr5 hM17
 obtain ⟨M36, hM37⟩ : ∃ x, x = M16 ++ ([⟨.grow, 2, 1, ([] : List Int).map (cI .i64)⟩, ⟨.grow, 49, 5, ([] : List Tally).map Tally.c⟩] : List Ob).map Ent.live := ⟨_, rfl⟩
 have o40 := push_old hM37 o18
 have o41 := push_old hM37 o19
 have o42 := push_old hM37 o22
 have o43 := push_old hM37 o26
 have o44 := push_old hM37 o31
 have ne45 : j1 ≠ M16.length := by have := lt_of_get (M := M16) o18; omega
 have ne46 : M0.length ≠ M16.length := by have := lt_of_get (M := M16) o19; omega
 have ne47 : M2.length ≠ M16.length := by have := lt_of_get (M := M16) o22; omega
 have ne48 : (M2.length + 1) ≠ M16.length := by have := lt_of_get (M := M16) o26; omega
 have ne49 : (M2.length + 2) ≠ M16.length := by have := lt_of_get (M := M16) o31; omega
 have o50 : M36[M16.length]? = some (.live ⟨.grow, 2, 1, ([] : List Int).map (cI .i64)⟩) := push_at hM37 0 rfl
 have ne51 : j1 ≠ (M16.length + 1) := by have := lt_of_get (M := M16) o18; omega
 have ne52 : M0.length ≠ (M16.length + 1) := by have := lt_of_get (M := M16) o19; omega
 have ne53 : M2.length ≠ (M16.length + 1) := by have := lt_of_get (M := M16) o22; omega
 have ne54 : (M2.length + 1) ≠ (M16.length + 1) := by have := lt_of_get (M := M16) o26; omega
 have ne55 : (M2.length + 2) ≠ (M16.length + 1) := by have := lt_of_get (M := M16) o31; omega
 have ne56 : M16.length ≠ (M16.length + 1) := by omega
 have o57 : M36[(M16.length + 1)]? = some (.live ⟨.grow, 49, 5, ([] : List Tally).map Tally.c⟩) := push_at hM37 1 rfl
 have nf58 := Nf.mk fr35
 have nf59 := Nf.mkAt fr35 1
 have fr60 := Fr.push fr35 hM37
 refine kw (stG (kp := false) hM37 rfl nty27 (ghc rfl (ghn (ghn ghz co49) co2)) (by decide) (stO rfl rfl o42 rfl rfl ⟨rfl, ble rfl⟩ (all1 rfl (all1 (okL o50 (by simp)) (all1 (okL o57 (by simp)) all0))) rfl)) fun M61 hM62 => ?_
 have o63 := set_ne hM62 ne20 o40
 have o64 := set_ne hM62 ne21 o41
 have o65 : M61[M2.length]? = some (.live ⟨.box, 27, 3, [[.int .i64 0, .lsl M16.length ([] : List Int).length 0 ([] : List Int).length, .lsl (M16.length + 1) ([] : List Tally).length 0 ([] : List Tally).length]]⟩) := set_same hM62 o42
 have o66 := set_ne hM62 (Ne.symm ne25) o43
 have o67 := set_ne hM62 (Ne.symm ne29) o44
 have o68 := set_ne hM62 (Ne.symm ne47) o50
 have o69 := set_ne hM62 (Ne.symm ne53) o57
 have fr70 := Fr.setNew fr60 hM62 nf32
 obtain ⟨⟨r77, r78, r79, r80⟩, hx76, h⟩ := bind_some h
 refine Rn (hA h11 (hA h12 (hV (.loc M2.length 1 0 0) rfl hZ))) fun e71 h73 h74 h75 => sN (sq (sq (Rg (kx (mvO h73) (Ev.nxw (Ev.callW rfl (cns rfl (cns rfl rfl)) (spec_l00Src_pick_p_ok a1 a2 a3 3 j1 M61 o63 _ hx76)) fun v83 M81 hq82 => ?_)))))
 clear h11 h12
 obtain ⟨hv83, o84, fr85⟩ := hq82
 have hv83 : v83 = .int .i64 r77 := hv83
 subst hv83
 have o86 : M81[j1]? = some (.live ⟨.box, 142, 3, [[.sl none (r78.map (cI .u8)), .int .i64 r79, .int .u64 r80]]⟩) := o84
 have fr85 : Fr [j1] M61 M81 := fr85
 have o87 := fr85 _ _ (niC (Ne.symm ne7) niN) o64
 have o88 := fr85 _ _ (niC (Ne.symm ne20) niN) o65
 have o89 := fr85 _ _ (niC (Ne.symm ne45) niN) o68
 have o90 := fr85 _ _ (niC (Ne.symm ne51) niN) o69
 have fr91 : Fr [j1] M0 M81 := Fr.call fr70 fr85 (fwI (by simp) fwN)
 obtain ⟨⟨y189, y190, y191, y192, y193⟩, hr185, h⟩ := bind_some h
 refine kx (bAdd rfl rfl) (kx (mvO rfl) (Rn (hA h73 (hA h74 (hA h75 (hN rfl hZ)))) fun e92 h94 h95 h96 h97 => sN (bl (Ev.loop (RS := spec_l07Drawn_p_b1_RS (M16.length + 1) M0.length M16.length M2.length j1 M0) (RR := spec_l07Drawn_p_b1_RR (M16.length + 1) M0.length M16.length M2.length j1 M0) (fun s r h e M hs => spec_l07Drawn_p_b1_ok (M16.length + 1) M0.length M16.length M2.length j1 M0 ne21 ne46 ne52 ne47 ne53 ne56 ne7 ne20 ne45 ne51 nf4 nf32 nf58 nf59 s r h e M hs) hr185 ⟨h94, h95, h96, h97, o87, o88, o89, o90, o86, fr91⟩ fun x e187 M188 hq186 => ?_))))
 clear h73 h74 h75
 obtain ⟨rfl, h194, h195, h196, o197, o198, o199, o200, o201, fr202⟩ := hq186
 refine bE (sN (sq (sq ?_)))
 obtain ⟨M203, hM204⟩ : ∃ x, x = frzAll e187 [4] M188 := ⟨_, rfl⟩
 refine RFz hM204.symm ?_
 obtain ⟨M205, hM206⟩ : ∃ x, x = M188.set M16.length .dead := ⟨_, rfl⟩
 obtain ⟨M207, hM208⟩ : ∃ x, x = M205.set (M16.length + 1) .dead := ⟨_, rfl⟩
 have hz209 : frzL frz1 [.int .i64 y189, .lsl M16.length y190.length 0 y190.length, .lsl (M16.length + 1) ([] : List Tally).length 0 ([] : List Tally).length] M188 = ([.int .i64 y189, .sl (some 2) (y190.map (cI .i64)), .sl (some 49) (([] : List Tally).map Tally.c)], M207) := by
   subst hM208
   subst hM206
   exact (fz1 rfl (fz1 (frz1_row o199 rfl (cI_fl _)) (fz1 (frz1_row (set_ne rfl (Ne.symm ne56) o200) rfl Tally.fl) fz0)))
 have hM210 := hM204.trans (frz_one h196 o198 hz209)
 have o211 := set_ne hM206 ne46 o197
 have o212 := set_ne hM206 ne47 o198
 have o213 := set_ne hM206 (Ne.symm ne56) o200
 have o214 := set_ne hM206 ne45 o201
 have fr215 := Fr.setNew fr202 hM206 nf58
 have o216 := set_ne hM208 ne52 o211
 have o217 := set_ne hM208 ne53 o212
 have o218 := set_ne hM208 ne51 o214
 have fr219 := Fr.setNew fr215 hM208 nf59
 have o220 := set_ne hM210 ne21 o216
 have o221 : M203[M2.length]? = some (.live ⟨.box, 27, 3, [[.int .i64 y189, .sl none (y190.map (cI .i64)), .sl none (([] : List Tally).map Tally.c)]]⟩) := set_same hM210 o217
 have o222 := set_ne hM210 ne20 o218
 have fr223 := Fr.setNew fr219 hM210 nf32
 obtain ⟨⟨r225, r226, r227, r228⟩, hx224, h⟩ := bind_some h
 refine Rg (kx (mvO h194) (Ev.nxw (Ev.callW rfl (cns rfl (cns rfl rfl)) (spec_l00Src_pick_p_ok y191 y192 y193 4 j1 M203 o222 _ hx224)) fun v231 M229 hq230 => ?_))
 obtain ⟨hv231, o232, fr233⟩ := hq230
 have hv231 : v231 = .int .i64 r225 := hv231
 subst hv231
 have o234 : M229[j1]? = some (.live ⟨.box, 142, 3, [[.sl none (r226.map (cI .u8)), .int .i64 r227, .int .u64 r228]]⟩) := o232
 have fr233 : Fr [j1] M203 M229 := fr233
 have o235 := fr233 _ _ (niC (Ne.symm ne7) niN) o220
 have o236 := fr233 _ _ (niC (Ne.symm ne20) niN) o221
 have fr237 : Fr [j1] M0 M229 := Fr.call fr223 fr233 (fwI (by simp) fwN)
 obtain ⟨⟨y458, y459, y460, y461, y462, y463⟩, hr454, h⟩ := bind_some h
 refine kx (mvO rfl) (Rn (hV (.loc j1 1 0 0) h194 (hV (.loc M0.length 1 0 0) h195 (hV (.loc M2.length 1 0 0) h196 (hN rfl hZ)))) fun e238 h240 h241 h242 h243 => sN (bl (Ev.loop (RS := spec_l07Drawn_p_b2_RS M0.length M2.length j1 M0) (RR := spec_l07Drawn_p_b2_RR M0.length M2.length j1 M0) (fun s r h e M hs => spec_l07Drawn_p_b2_ok M0.length M2.length j1 M0 ne21 ne7 ne20 nf4 nf32 s r h e M hs) hr454 ⟨h240, h241, h242, h243, o235, o236, o234, fr237⟩ fun x e456 M457 hq455 => ?_)))
 clear h194 h195 h196
 obtain ⟨rfl, h464, h465, h466, o467, o468, o469, fr470⟩ := hq455
 refine bE (sN (sq (Rg (ku (litO (xs := ([] : List Deal)) (c := Deal.c) rfl rfl (by decide)) fun M472 hM473 => ?_))))
 have nf474 := Nf.mk fr470
 have fr475 := Fr.push fr470 hM473
 have o476 := push_old hM473 o467
 have ne477 := ne_new o467
 have o478 := push_old hM473 o468
 have ne479 := ne_new o468
 have o480 := push_old hM473 o469
 have ne481 := ne_new o469
 have o482 : M472[M457.length]? = some (.live ⟨.grow, 36, 6, ([] : List Deal).map Deal.c⟩) := push_new hM473
 obtain ⟨⟨r490, r491, r492⟩, hx489, h⟩ := bind_some h
 refine kx (mvO rfl) (Rn (hV (.loc j1 1 0 0) h464 (hV (.loc M0.length 1 0 0) h465 (hV (.loc M2.length 1 0 0) h466 (hV (.lsl M457.length ([] : List Deal).length 0 ([] : List Deal).length) rfl hZ)))) fun e483 h485 h486 h487 h488 => sN (sq (Rg (kc (cl (v := .agg [.int .i64 r490, .sl (some 2) (r491.map (cI .i64)), .sl (some 49) (r492.map Tally.c)]) rfl rfl (cns h487 rfl) (ra1 (ra1_loc o478 rfl rfl rfl ⟨rfl, blt rfl⟩) ra0) (spec_l07Copy_ok (Book.mk y458 y459 y460) _ hx489) (fun _ => (own_agg (oa1 rfl (oa1 (own1_row' (c := (cI .i64)) (fun _ => rfl)) (oa1 (own1_row' (c := Tally.c) Tally.flF) oa0)))))) (ku (alO zero27) fun M494 hM495 => ?_)))))
 clear h464 h465 h466
 have nf496 := Nf.mk fr475
 have fr497 := Fr.push fr475 hM495
 have o498 := push_old hM495 o476
 have ne499 := ne_new o476
 have o500 := push_old hM495 o478
 have ne501 := ne_new o478
 have o502 := push_old hM495 o480
 have ne503 := ne_new o480
 have o504 := push_old hM495 o482
 have ne505 := ne_new o482
 have o506 : M494[M472.length]? = some (.live ⟨.box, 27, 3, [[.int .i64 0, .nils, .nils]]⟩) := push_new hM495
 refine kw (stO rfl rfl o506 rfl rfl ⟨rfl, ble rfl⟩ rfl rfl) fun M507 hM508 => ?_
 have o509 := set_ne hM508 ne499 o498
 have o510 := set_ne hM508 ne501 o500
 have o511 := set_ne hM508 ne503 o502
 have o512 := set_ne hM508 ne505 o504
 have o513 : M507[M472.length]? = some (.live ⟨.box, 27, 3, [[.int .i64 r490, .sl none (r491.map (cI .i64)), .sl none (r492.map Tally.c)]]⟩) := set_same hM508 o506
 have fr514 := Fr.setNew fr497 hM508 nf496
 obtain ⟨⟨r523, r524, r525, r526⟩, hx522, h⟩ := bind_some h
 refine Rn (hA h485 (hA h486 (hA h487 (hA h488 (hV (.loc M472.length 1 0 0) rfl hZ))))) fun e515 h517 h518 h519 h520 h521 => sN (sq (sq (Rg (kx (mvO h517) (Ev.nxw (Ev.callW rfl (cns rfl (cns rfl rfl)) (spec_l00Src_pick_p_ok y461 y462 y463 9 j1 M507 o511 _ hx522)) fun v529 M527 hq528 => ?_)))))
 clear h485 h486 h487 h488
 obtain ⟨hv529, o530, fr531⟩ := hq528
 have hv529 : v529 = .int .i64 r523 := hv529
 subst hv529
 have o532 : M527[j1]? = some (.live ⟨.box, 142, 3, [[.sl none (r524.map (cI .u8)), .int .i64 r525, .int .u64 r526]]⟩) := o530
 have fr531 : Fr [j1] M507 M527 := fr531
 have o533 := fr531 _ _ (niC (Ne.symm ne7) niN) o509
 have o534 := fr531 _ _ (niC (Ne.symm ne20) niN) o510
 have o535 := fr531 _ _ (niC (Ne.symm ne481) niN) o512
 have o536 := fr531 _ _ (niC (Ne.symm ne503) niN) o513
 have fr537 : Fr [j1] M0 M527 := Fr.call fr514 fr531 (fwI (by simp) fwN)
 obtain ⟨⟨y864, y865, y866, y867, y868, y869, y870⟩, hr860, h⟩ := bind_some h
 refine kx (mvO rfl) (Rn (hA h517 (hA h518 (hA h519 (hA h520 (hA h521 (hN rfl hZ)))))) fun e538 h540 h541 h542 h543 h544 h545 => sN (bl (Ev.loop (RS := spec_l07Drawn_p_b3_RS y458 y459 y460 M0.length M2.length M457.length M472.length j1 M0) (RR := spec_l07Drawn_p_b3_RR y458 y459 y460 M0.length M2.length M457.length M472.length j1 M0) (fun s r h e M hs => spec_l07Drawn_p_b3_ok y458 y459 y460 M0.length M2.length M457.length M472.length j1 M0 ne21 ne477 ne499 ne479 ne501 ne505 ne7 ne20 ne481 ne503 nf4 nf32 nf474 nf496 s r h e M hs) hr860 ⟨h540, h541, h542, h543, h544, h545, o533, o534, o535, o536, o532, fr537⟩ fun x e862 M863 hq861 => ?_)))
 clear h517 h518 h519 h520 h521
 obtain ⟨rfl, h871, h872, h873, o874, o875, o876, o877, o878, fr879⟩ := hq861
 refine bE (sN (sq (Rg (kx (ldOA h872 o875 rfl rfl (ble rfl) rfl) (kx (mvO h873) (kw (stO h871 rfl o874 rfl rfl ⟨rfl, ble rfl⟩ rfl rfl) fun M880 hM881 => ?_))))))
 have o882 : M880[M0.length]? = some (.live ⟨.box, 27, 3, [[.int .i64 y458, .sl none (y459.map (cI .i64)), .sl none (y460.map Tally.c)]]⟩) := set_same hM881 o874
 have o883 := set_ne hM881 (Ne.symm ne21) o875
 have o884 := set_ne hM881 (Ne.symm ne477) o876
 have o885 := set_ne hM881 (Ne.symm ne499) o877
 have o886 := set_ne hM881 ne7 o878
 have fr887 := Fr.setNew fr879 hM881 nf4
 refine kx (mvO rfl) (Rn (hV (.loc M0.length 1 0 0) h871 (hV (.lsl M457.length y864.length 0 y864.length) rfl hZ)) fun e888 h890 h891 => sN (xx ?_))
 clear h871 h872 h873
 obtain rfl := si h
 exact eR (resC (ag := true) (sz := 3) ⟨by kernel_rfl, by kernel_rfl, by kernel_rfl⟩ (ldOA h890 o882 rfl rfl (ble rfl) rfl) (resT h891 res0)) ⟨M457.length, rfl, o884, o886, fr887, nf474, ne481⟩
noncomputable def spec_A2Days (a1 : List Int) : Option (Int × (List Int) × (List Tally) × (List Deal)) :=
 (spec_l00From a1).bind fun r10 =>
 (spec_l07Drawn_p r10.Code r10.At r10.Seed).bind fun (r20, r21, r22, r23, r24, r25, r26) =>
 some (r20, r21, r22, r26)
def spec_A2Days_enc (r : Int × (List Int) × (List Tally) × (List Deal)) : AV := .tup [.agg [.int .i64 r.1, .sl none (r.2.1.map (cI .i64)), .sl none (r.2.2.1.map Tally.c)], .sl (some 36) (r.2.2.2.map Deal.c)]
theorem spec_A2Days_ok (a1 : List Int) (r : Int × (List Int) × (List Tally) × (List Deal)) (h : spec_A2Days a1 = some r) : Ev (fun k => CN k 7 [.sl none (a1.map (cI .u8))] []) (fun p => rRes p.2 p.1 = spec_A2Days_enc r) := by
 unfold spec_A2Days at h
 refine Ev.enter (F := fun k => f7 (CN k) k) (fun k => callN_eq rfl Try.func7 rfl rfl rfl (by decide +kernel) (f7_eq _ _)) (sq (Rg (ku (alO zero27) fun M2 hM3 => ?_)))
 have o4 : M2[([] : Mem).length]? = some (.live ⟨.box, 27, 3, [[.int .i64 0, .nils, .nils]]⟩) := push_new hM3
 obtain ⟨r10, hx9, h⟩ := bind_some h
 refine kx (mvO rfl) (Rn (hN rfl (hV (.loc ([] : Mem).length 1 0 0) rfl hZ)) fun e5 h7 h8 => sN (sq (Rg (kx (mvO h7) (Ev.nxw (Ev.callW rfl (cns rfl rfl) (spec_l00From_ok a1 M2 _ hx9)) fun v14 M12 hq13 => ?_)))))
 obtain ⟨hv14, o16, fr15⟩ := hq13
 have hv14 : v14 = .loc M2.length 1 0 0 := hv14
 subst hv14
 have ne17 := ne_new o4
 have fr15 : Fr [] M2 M12 := fr15
 have o18 := fr15 _ _ niN o4
 obtain ⟨⟨r20, r21, r22, r23, r24, r25, r26⟩, hx19, h⟩ := bind_some h
 refine Ev.nxw (Ev.callW rfl (cns rfl rfl) (spec_l07Drawn_p_ok r10.Code r10.At r10.Seed M2.length M12 o16 _ hx19)) fun v31 M29 hq30 => ?_
 obtain ⟨id27, hv31, o34, o32, fr33, nf35, ne36⟩ := hq30
 have hv31 : v31 = .tup [.agg [.int .i64 r20, .sl none (r21.map (cI .i64)), .sl none (r22.map Tally.c)], .lsl id27 r26.length 0 r26.length] := hv31
 subst hv31
 have o37 : M29[M2.length]? = some (.live ⟨.box, 142, 3, [[.sl none (r23.map (cI .u8)), .int .i64 r24, .int .u64 r25]]⟩) := o32
 have ne38 := nf35 _ _ (niC ne17 niN) o18
 have fr33 : Fr [M2.length] M12 M29 := fr33
 have o39 := fr33 _ _ (niC ne17 niN) o18
 refine kx (exT rfl rfl) (kx (exT rfl rfl) (kw (stO h8 rfl o39 rfl rfl ⟨rfl, ble rfl⟩ rfl rfl) fun M40 hM41 => ?_))
 have o42 : M40[([] : Mem).length]? = some (.live ⟨.box, 27, 3, [[.int .i64 r20, .sl none (r21.map (cI .i64)), .sl none (r22.map Tally.c)]]⟩) := set_same hM41 o39
 have o43 := set_ne hM41 (Ne.symm ne17) o37
 have o44 := set_ne hM41 (Ne.symm ne38) o34
 refine kx (mvO rfl) (Rn (hA h8 (hV (.lsl id27 r26.length 0 r26.length) rfl hZ)) fun e45 h47 h48 => sN (xx ?_))
 clear h7 h8
 obtain rfl := si h
 exact eR (resC (ag := true) (sz := 3) ⟨by kernel_rfl, by kernel_rfl, by kernel_rfl⟩ (ldOA h47 o42 rfl rfl (ble rfl) rfl) (resT h48 res0)) (rr_tup (mp1 rfl (mp1 (rr_row o44 rfl Deal.fl) mp0)))
noncomputable def laws_a2Long (a1 : List Int) (a2 : List Int) : Option Bool :=
 if (decide ((a1.length : Int) > 3000)) = true then
  some true
 else
  some (decide ((a2.length : Int) > 3000))
def laws_a2Long_enc (r : Bool) : AV := .bool r
theorem laws_a2Long_ok (a1 : List Int) (a2 : List Int) (r : Bool) (h : laws_a2Long a1 a2 = some r) : Ev (fun k => CN k 6 [.sl none (a1.map (cI .u8)), .sl none (a2.map (cI .u8))] []) (fun p => rRes p.2 p.1 = laws_a2Long_enc r) := by
 unfold laws_a2Long at h
 refine Ev.enter (F := fun k => f6 (CN k) k) (fun k => callN_eq rfl Try.func6 rfl rfl rfl (by decide +kernel) (f6_eq _ _)) (sq (Rg (kx (mvO rfl) (Rn (hN rfl (hN rfl hZ)) fun e1 h3 h4 => sN (sq (Rg (kx (mvO h3) (kx (lnS Try.underlying22 rfl) (kx (bGtr rfl rfl) (kx (mvO rfl) ?_))))))))))
 rcases ite_some h with ⟨hb5, h⟩ | ⟨hb5, h⟩
 ·refine kx (gsF rfl hb5) (kx (gsF rfl hb5) (kx (gsF rfl hb5) (kx (pkT rfl hb5 rfl) (kx (mvO rfl) (Rn (hV (.bool true) rfl hZ) fun e6 h8 => sN (xx ?_))))))
  clear h3 h4
  obtain rfl := si h
  exact eR (resT h8 res0) rfl
 refine kx (guF rfl hb5 (mvO h4)) (kx (guF rfl hb5 (lnS Try.underlying22 rfl)) (kx (guF rfl hb5 (bGtr rfl rfl)) (kx (pkF rfl hb5 rfl) (kx (mvO rfl) (Rn (hN rfl hZ) fun e9 h11 => sN (xx ?_))))))
 clear h3 h4
 obtain rfl := si h
 exact eR (resT h11 res0) rfl
def laws_FnBooks_c1_Q (r15 : Int) (r16 : List Int) (r17 : List Tally) (r18 : List Deal) (r52 : Int) (r53 : List Int) (r54 : List Tally) (i901_1 : Nat) (i901_2 : Nat) (i901_3 : Nat) (g : Bool) (q : Out) : Prop := q.1 = .nrm ∧ eget q.2.1 3 = .loc i901_1 1 0 0 ∧ eget q.2.1 4 = .sl (some 36) (r18.map Deal.c) ∧ eget q.2.1 7 = .loc i901_3 1 0 0 ∧ eget q.2.1 109 = .bool g ∧ q.2.2[i901_1]? = some (.live ⟨.box, 27, 3, [[.int .i64 r15, .sl none (r16.map (cI .i64)), .sl none (r17.map Tally.c)]]⟩) ∧ q.2.2[i901_3]? = some (.live ⟨.box, 27, 3, [[.int .i64 r52, .sl none (r53.map (cI .i64)), .sl none (r54.map Tally.c)]]⟩)
abbrev laws_FnBooks_b1_S := Int × Int × (List Int) × (List Tally)
abbrev laws_FnBooks_b1_R := Unit ⊕ (Int × (List Int) × (List Tally))
def laws_FnBooks_b1_RS (r15 : Int) (r16 : List Int) (r17 : List Tally) (r18 : List Deal) (r52 : Int) (r53 : List Int) (r54 : List Tally) (i1_1 : Nat) (i1_2 : Nat) (i1_3 : Nat) (s : laws_FnBooks_b1_S) (e : Env) (M : Mem) : Prop := eget e 3 = .loc i1_1 1 0 0 ∧ eget e 4 = .sl (some 36) (r18.map Deal.c) ∧ eget e 7 = .loc i1_3 1 0 0 ∧ eget e 12 = .loc i1_2 1 0 0 ∧ eget e 13 = .int .i64 s.1 ∧ M[i1_2]? = some (.live ⟨.box, 27, 3, [[.int .i64 s.2.1, .sl none (s.2.2.1.map (cI .i64)), .sl none (s.2.2.2.map Tally.c)]]⟩) ∧ M[i1_1]? = some (.live ⟨.box, 27, 3, [[.int .i64 r15, .sl none (r16.map (cI .i64)), .sl none (r17.map Tally.c)]]⟩) ∧ M[i1_3]? = some (.live ⟨.box, 27, 3, [[.int .i64 r52, .sl none (r53.map (cI .i64)), .sl none (r54.map Tally.c)]]⟩)
def laws_FnBooks_b1_RR (r15 : Int) (r16 : List Int) (r17 : List Tally) (r18 : List Deal) (r52 : Int) (r53 : List Int) (r54 : List Tally) (i1_1 : Nat) (i1_2 : Nat) (i1_3 : Nat) (r : laws_FnBooks_b1_R) (x : Ex) (e : Env) (M : Mem) : Prop :=
  match r with
  | (.inl g) => x = .ret ∧ eget e 2 = .bool false
  | (.inr g) => x = .ext 0 ∧ eget e 3 = .loc i1_1 1 0 0 ∧ eget e 7 = .loc i1_3 1 0 0 ∧ eget e 12 = .loc i1_2 1 0 0 ∧ M[i1_2]? = some (.live ⟨.box, 27, 3, [[.int .i64 g.1, .sl none (g.2.1.map (cI .i64)), .sl none (g.2.2.map Tally.c)]]⟩) ∧ M[i1_1]? = some (.live ⟨.box, 27, 3, [[.int .i64 r15, .sl none (r16.map (cI .i64)), .sl none (r17.map Tally.c)]]⟩) ∧ M[i1_3]? = some (.live ⟨.box, 27, 3, [[.int .i64 r52, .sl none (r53.map (cI .i64)), .sl none (r54.map Tally.c)]]⟩)
noncomputable def laws_FnBooks_b1 (r18 : List Deal) : laws_FnBooks_b1_S → Option (laws_FnBooks_b1_S ⊕ laws_FnBooks_b1_R) := fun (s1_1, s1_2, s1_3, s1_4) =>
 if (decide (s1_1 < (r18.length : Int))) = true then
  (rd r18 s1_1).bind fun x242 =>
  (impl_DoDeal (Book.mk s1_2 s1_3 s1_4) x242).bind fun (r245, r246, r247, r248) =>
  (rd r18 s1_1).bind fun x274 =>
  (spec_DoDeal (Book.mk s1_2 s1_3 s1_4) x274).bind fun (r277, r278, r279, r280) =>
  if (r248 != r280) = true then
   some (.inr (.inl ()))
  else
   if (r248 != 0) = true then
    some (.inr (.inl ()))
   else
    (spec_SameBook (Book.mk r245 r246 r247) (Book.mk r277 r278 r279)).bind fun r338 =>
    if r338 = true then
     (rd r18 s1_1).bind fun x340 =>
     (impl_ValidDeal x340).bind fun r343 =>
     if r343 = true then
      (rd r18 s1_1).bind fun x345 =>
      if (r277 != x345.Day) = true then
       some (.inr (.inl ()))
      else
       some (.inl ((IntKind.i64.wrap (s1_1 + 1)), r277, r278, r279))
     else
      some (.inr (.inl ()))
    else
     some (.inr (.inl ()))
 else
  some (.inr (.inr (s1_2, s1_3, s1_4)))
theorem laws_FnBooks_b1_ok (r15 : Int) (r16 : List Int) (r17 : List Tally) (r18 : List Deal) (r52 : Int) (r53 : List Int) (r54 : List Tally) (i1_1 : Nat) (i1_2 : Nat) (i1_3 : Nat) (ne181 : i1_1 ≠ i1_2) (ne60 : i1_1 ≠ i1_3) (ne183 : i1_3 ≠ i1_2) (s : laws_FnBooks_b1_S) (r : laws_FnBooks_b1_S ⊕ laws_FnBooks_b1_R) (h : laws_FnBooks_b1 r18 s = some r) (e : Env) (M : Mem) (hs : laws_FnBooks_b1_RS r15 r16 r17 r18 r52 r53 r54 i1_1 i1_2 i1_3 s e M) : Ev (fun k => (f4_l11 (CN k) k (prune [3, 4, 7, 12, 13] e) M).bind fun q => some q) (bQ (laws_FnBooks_b1_RS r15 r16 r17 r18 r52 r53 r54 i1_1 i1_2 i1_3) (laws_FnBooks_b1_RR r15 r16 r17 r18 r52 r53 r54 i1_1 i1_2 i1_3) r) := by
 obtain ⟨s1_1, s1_2, s1_3, s1_4⟩ := s
 unfold laws_FnBooks_b1 at h
 obtain ⟨h220, h222, h224, h226, h228, o232, o230, o231⟩ := hs
 generalize he219 : prune [3, 4, 7, 12, 13] e = e218
 have h221 := envp he219.symm rfl h220
 have h223 := envp he219.symm rfl h222
 have h225 := envp he219.symm rfl h224
 have h227 := envp he219.symm rfl h226
 have h229 := envp he219.symm rfl h228
 refine sq (sq (Rg (kx (mvO h229) (kx (mvO h223) (kx (lnS Try.underlying28 rfl) (kx (bLss rfl rfl) (Rn (hV (.loc i1_1 1 0 0) h221 (hV (.sl (some 36) (r18.map Deal.c)) h223 (hV (.loc i1_3 1 0 0) h225 (hV (.loc i1_2 1 0 0) h227 (hV (.int .i64 s1_1) h229 (hN rfl hZ)))))) fun e233 h235 h236 h237 h238 h239 h240 => sN ?_)))))))
 clear h221 h223 h225 h227 h229
 rcases ite_some h with ⟨hb241, h⟩ | ⟨hb241, h⟩
 ·obtain ⟨x242, hx243, h⟩ := bind_some h
  obtain ⟨⟨r245, r246, r247, r248⟩, hx244, h⟩ := bind_some h
  refine cT h240 hb241 (xx (sN (sq (bl (sq (Rd (kf (ldOA h238 o232 rfl rfl (ble rfl) rfl) (kf (mvO h236) (kf (mvO h239) (kf (ixS rfl rfl hx243 Deal.fl) (kf (ldPA rfl rfl rfl) (fc (clW (v := .tup [.agg [.int .i64 r245, .sl none (r246.map (cI .i64)), .sl none (r247.map Tally.c)], .int .i64 r248]) rfl rfl (cns rfl (cns rfl rfl)) rfl (impl_DoDeal_ok (Book.mk s1_2 s1_3 s1_4) x242 _ hx244) rfl) (kf (mvO rfl) (kf (exT rfl rfl) (kf (exT rfl rfl) (Ev.nfpushE (alO zero27) (Ev.fend1 fun M250 hM251 => ?_)))))))))))))))))
  have hM251 := fendM hM251 [⟨.box, 27, 3, [[.int .i64 0, .nils, .nils]]⟩] rfl
  have o252 := push_old hM251 o230
  have o253 := push_old hM251 o231
  have o254 := push_old hM251 o232
  have ne255 : i1_1 ≠ M.length := by have := lt_of_get (M := M) o230; omega
  have ne256 : i1_3 ≠ M.length := by have := lt_of_get (M := M) o231; omega
  have ne257 : i1_2 ≠ M.length := by have := lt_of_get (M := M) o232; omega
  have o258 : M250[M.length]? = some (.live ⟨.box, 27, 3, [[.int .i64 0, .nils, .nils]]⟩) := push_at hM251 0 rfl
  refine kw (stO rfl rfl o258 rfl rfl ⟨rfl, ble rfl⟩ rfl rfl) fun M259 hM260 => ?_
  have o261 := set_ne hM260 ne255 o252
  have o262 := set_ne hM260 ne256 o253
  have o263 := set_ne hM260 ne257 o254
  have o264 : M259[M.length]? = some (.live ⟨.box, 27, 3, [[.int .i64 r245, .sl none (r246.map (cI .i64)), .sl none (r247.map Tally.c)]]⟩) := set_same hM260 o258
  obtain ⟨x274, hx275, h⟩ := bind_some h
  obtain ⟨⟨r277, r278, r279, r280⟩, hx276, h⟩ := bind_some h
  refine kx (mvO rfl) (Rn (hA h235 (hA h236 (hA h237 (hA h238 (hA h239 (hV (.loc M.length 1 0 0) rfl (hN rfl hZ))))))) fun e265 h267 h268 h269 h270 h271 h272 h273 => sN (sq (Rd (kf (ldOA h270 o263 rfl rfl (ble rfl) rfl) (kf (mvO h268) (kf (mvO h271) (kf (ixS rfl rfl hx275 Deal.fl) (kf (ldPA rfl rfl rfl) (fc (clW (v := .tup [.agg [.int .i64 r277, .sl none (r278.map (cI .i64)), .sl none (r279.map Tally.c)], .int .i64 r280]) rfl rfl (cns rfl (cns rfl rfl)) rfl (spec_DoDeal_ok (Book.mk s1_2 s1_3 s1_4) x274 _ hx276) rfl) (kf (mvO rfl) (kf (exT rfl rfl) (kf (exT rfl rfl) (Ev.nfpushE (alO zero27) (Ev.fend1 fun M282 hM283 => ?_))))))))))))))
  clear h235 h236 h237 h238 h239 h240
  have hM283 := fendM hM283 [⟨.box, 27, 3, [[.int .i64 0, .nils, .nils]]⟩] rfl
  have o284 := push_old hM283 o261
  have o285 := push_old hM283 o262
  have o286 := push_old hM283 o263
  have o287 := push_old hM283 o264
  have ne288 : i1_1 ≠ M259.length := by have := lt_of_get (M := M259) o261; omega
  have ne289 : i1_3 ≠ M259.length := by have := lt_of_get (M := M259) o262; omega
  have ne290 : i1_2 ≠ M259.length := by have := lt_of_get (M := M259) o263; omega
  have ne291 : M.length ≠ M259.length := by have := lt_of_get (M := M259) o264; omega
  have o292 : M282[M259.length]? = some (.live ⟨.box, 27, 3, [[.int .i64 0, .nils, .nils]]⟩) := push_at hM283 0 rfl
  refine kw (stO rfl rfl o292 rfl rfl ⟨rfl, ble rfl⟩ rfl rfl) fun M293 hM294 => ?_
  have o295 := set_ne hM294 ne288 o284
  have o296 := set_ne hM294 ne289 o285
  have o297 := set_ne hM294 ne290 o286
  have o298 := set_ne hM294 ne291 o287
  have o299 : M293[M259.length]? = some (.live ⟨.box, 27, 3, [[.int .i64 r277, .sl none (r278.map (cI .i64)), .sl none (r279.map Tally.c)]]⟩) := set_same hM294 o292
  refine kx (mvO rfl) (Rn (hA h267 (hA h268 (hA h269 (hA h270 (hA h271 (hA h272 (hA h273 (hV (.loc M259.length 1 0 0) rfl (hN rfl hZ))))))))) fun e300 h302 h303 h304 h305 h306 h307 h308 h309 h310 => sN (sq (sq (Rd (kf (mvO h308) (kf (mvO h310) (kf (bNeq rfl rfl) (kf (mvO rfl) ?_))))))))
  clear h267 h268 h269 h270 h271 h272 h273
  rcases ite_some h with ⟨hb311, h⟩ | ⟨hb311, h⟩
  ·refine kf (gsF rfl hb311) (kf (gsF rfl hb311) (kf (pkT rfl hb311 rfl) (kf (mvO rfl) (kf (gsF rfl rfl) (kf (gsF rfl rfl) (fc (Ev.gsF rfl rfl) (kf (gsF rfl rfl) (kf (pkT rfl rfl rfl) (kf (mvO rfl) (kf (gsF rfl rfl) (kf (gsF rfl rfl) (kf (gsF rfl rfl) (kf (gsF rfl rfl) (fc (Ev.gsF rfl rfl) (kf (gsF rfl rfl) (kf (pkT rfl rfl rfl) (kf (mvO rfl) (kf (gsF rfl rfl) (kf (gsF rfl rfl) (kf (gsF rfl rfl) (kf (gsF rfl rfl) (kf (gsF rfl rfl) (kf (gsF rfl rfl) (kf (gsF rfl rfl) (kf (gsF rfl rfl) (kf (pkT rfl rfl rfl) (fZ (Rn (hA h302 (hA h303 (hA h304 (hA h305 (hA h306 (hA h309 (hV (.bool true) rfl hZ))))))) fun e312 h314 h315 h316 h317 h318 h319 h320 => sN (cT h320 rfl (sq (Rg (kx (mvO rfl) (Rn (hV (.bool false) rfl hZ) fun e321 h323 => sN (xx (sR (bR (sR ?_)))))))))))))))))))))))))))))))))))))
   clear h302 h303 h304 h305 h306 h307 h308 h309 h310 h314 h315 h316 h317 h318 h319 h320
   obtain rfl := si h
   exact qR ⟨rfl, h323⟩
  refine kf (guF rfl hb311 (mvO h308)) (kf (guF rfl hb311 (bNeq rfl rfl)) (kf (pkF rfl hb311 rfl) (kf (mvO rfl) ?_)))
  rcases ite_some h with ⟨hb324, h⟩ | ⟨hb324, h⟩
  ·refine kf (gsF rfl hb324) (kf (gsF rfl hb324) (fc (Ev.gsF rfl hb324) (kf (gsF rfl hb324) (kf (pkT rfl hb324 rfl) (kf (mvO rfl) (kf (gsF rfl rfl) (kf (gsF rfl rfl) (kf (gsF rfl rfl) (kf (gsF rfl rfl) (fc (Ev.gsF rfl rfl) (kf (gsF rfl rfl) (kf (pkT rfl rfl rfl) (kf (mvO rfl) (kf (gsF rfl rfl) (kf (gsF rfl rfl) (kf (gsF rfl rfl) (kf (gsF rfl rfl) (kf (gsF rfl rfl) (kf (gsF rfl rfl) (kf (gsF rfl rfl) (kf (gsF rfl rfl) (kf (pkT rfl rfl rfl) (fZ (Rn (hA h302 (hA h303 (hA h304 (hA h305 (hA h306 (hA h309 (hV (.bool true) rfl hZ))))))) fun e325 h327 h328 h329 h330 h331 h332 h333 => sN (cT h333 rfl (sq (Rg (kx (mvO rfl) (Rn (hV (.bool false) rfl hZ) fun e334 h336 => sN (xx (sR (bR (sR ?_)))))))))))))))))))))))))))))))))
   clear h302 h303 h304 h305 h306 h307 h308 h309 h310 h327 h328 h329 h330 h331 h332 h333
   obtain rfl := si h
   exact qR ⟨rfl, h336⟩
  obtain ⟨r338, hx337, h⟩ := bind_some h
  refine kf (guF rfl hb324 (ldOA h307 o298 rfl rfl (ble rfl) rfl)) (kf (guF rfl hb324 (ldOA h309 o299 rfl rfl (ble rfl) rfl)) (fc (Ev.guF rfl hb324 (cl (v := .bool r338) rfl rfl (cns rfl (cns rfl rfl)) rfl (spec_SameBook_ok (Book.mk r245 r246 r247) (Book.mk r277 r278 r279) _ hx337) nm)) (kf (guF rfl hb324 (uNot rfl)) (kf (pkF rfl hb324 rfl) (kf (mvO rfl) ?_)))))
  rcases ite_some h with ⟨hb339, h⟩ | ⟨hb339, h⟩
  ·obtain ⟨x340, hx341, h⟩ := bind_some h
   obtain ⟨r343, hx342, h⟩ := bind_some h
   refine kf (guF rfl (congrArg Bool.not hb339) (mvO h303)) (kf (guF rfl (congrArg Bool.not hb339) (mvO h306)) (kf (guF rfl (congrArg Bool.not hb339) (ixS rfl rfl hx341 Deal.fl)) (kf (guF rfl (congrArg Bool.not hb339) (ldPA rfl rfl rfl)) (fc (Ev.guF rfl (congrArg Bool.not hb339) (cl (v := .bool r343) rfl rfl (cns rfl rfl) rfl (impl_ValidDeal_ok x340 _ hx342) nm)) (kf (guF rfl (congrArg Bool.not hb339) (uNot rfl)) (kf (pkF rfl (congrArg Bool.not hb339) rfl) (kf (mvO rfl) ?_)))))))
   rcases ite_some h with ⟨hb344, h⟩ | ⟨hb344, h⟩
   ·obtain ⟨x345, hx346, h⟩ := bind_some h
    refine kf (guF rfl (congrArg Bool.not hb344) (faO h309 o299 rfl)) (kf (guF rfl (congrArg Bool.not hb344) (ldO rfl o299 rfl rfl rfl)) (kf (guF rfl (congrArg Bool.not hb344) (mvO h303)) (kf (guF rfl (congrArg Bool.not hb344) (mvO h306)) (kf (guF rfl (congrArg Bool.not hb344) (ixS rfl rfl hx346 Deal.fl)) (kf (guF rfl (congrArg Bool.not hb344) (faP rfl ⟨ble rfl, blt rfl⟩ rfl)) (kf (guF rfl (congrArg Bool.not hb344) (ldP rfl rfl)) (kf (guF rfl (congrArg Bool.not hb344) (bNeq rfl rfl)) (kf (pkF rfl (congrArg Bool.not hb344) rfl) (fZ (Rn (hA h302 (hA h303 (hA h304 (hA h305 (hA h306 (hA h309 (hN rfl hZ))))))) fun e347 h349 h350 h351 h352 h353 h354 h355 => sN ?_))))))))))
    clear h302 h303 h304 h305 h306 h307 h308 h309 h310
    rcases ite_some h with ⟨hb356, h⟩ | ⟨hb356, h⟩
    ·refine cT h355 hb356 (sq (Rg (kx (mvO rfl) (Rn (hV (.bool false) rfl hZ) fun e357 h359 => sN (xx (sR (bR (sR ?_))))))))
     clear h349 h350 h351 h352 h353 h354 h355
     obtain rfl := si h
     exact qR ⟨rfl, h359⟩
    refine cF h355 hb356 (xx (sN (Rg (kx (ldOA h354 o299 rfl rfl (ble rfl) rfl) (kw (stO h352 rfl o297 rfl rfl ⟨rfl, ble rfl⟩ rfl rfl) fun M360 hM361 => ?_)))))
    have o362 := set_ne hM361 ne181 o295
    have o363 := set_ne hM361 ne183 o296
    have o364 : M360[i1_2]? = some (.live ⟨.box, 27, 3, [[.int .i64 r277, .sl none (r278.map (cI .i64)), .sl none (r279.map Tally.c)]]⟩) := set_same hM361 o297
    have o365 := set_ne hM361 (Ne.symm ne290) o299
    refine Rn (hA h349 (hA h350 (hA h351 (hA h352 (hA h353 hZ))))) fun e366 h368 h369 h370 h371 h372 => bN (sN (Rg (kx (mvO h372) (kx (bAdd rfl rfl) (kx (mvO rfl) (Rn (hA h368 (hA h369 (hA h370 (hA h371 (hN rfl hZ))))) fun e373 h375 h376 h377 h378 h379 => ?_))))))
    clear h349 h350 h351 h352 h353 h354 h355 h368 h369 h370 h371
    obtain rfl := si h
    exact qN ⟨h375, h376, h377, h378, h379, o364, o362, o363⟩
   refine kf (gsF rfl (congrArg Bool.not hb344)) (kf (gsF rfl (congrArg Bool.not hb344)) (kf (gsF rfl (congrArg Bool.not hb344)) (kf (gsF rfl (congrArg Bool.not hb344)) (kf (gsF rfl (congrArg Bool.not hb344)) (kf (gsF rfl (congrArg Bool.not hb344)) (kf (gsF rfl (congrArg Bool.not hb344)) (kf (gsF rfl (congrArg Bool.not hb344)) (kf (pkT rfl (congrArg Bool.not hb344) rfl) (fZ (Rn (hA h302 (hA h303 (hA h304 (hA h305 (hA h306 (hA h309 (hV (.bool true) rfl hZ))))))) fun e380 h382 h383 h384 h385 h386 h387 h388 => sN (cT h388 rfl (sq (Rg (kx (mvO rfl) (Rn (hV (.bool false) rfl hZ) fun e389 h391 => sN (xx (sR (bR (sR ?_)))))))))))))))))))
   clear h302 h303 h304 h305 h306 h307 h308 h309 h310 h382 h383 h384 h385 h386 h387 h388
   obtain rfl := si h
   exact qR ⟨rfl, h391⟩
  refine kf (gsF rfl (congrArg Bool.not hb339)) (kf (gsF rfl (congrArg Bool.not hb339)) (kf (gsF rfl (congrArg Bool.not hb339)) (kf (gsF rfl (congrArg Bool.not hb339)) (fc (Ev.gsF rfl (congrArg Bool.not hb339)) (kf (gsF rfl (congrArg Bool.not hb339)) (kf (pkT rfl (congrArg Bool.not hb339) rfl) (kf (mvO rfl) (kf (gsF rfl rfl) (kf (gsF rfl rfl) (kf (gsF rfl rfl) (kf (gsF rfl rfl) (kf (gsF rfl rfl) (kf (gsF rfl rfl) (kf (gsF rfl rfl) (kf (gsF rfl rfl) (kf (pkT rfl rfl rfl) (fZ (Rn (hA h302 (hA h303 (hA h304 (hA h305 (hA h306 (hA h309 (hV (.bool true) rfl hZ))))))) fun e392 h394 h395 h396 h397 h398 h399 h400 => sN (cT h400 rfl (sq (Rg (kx (mvO rfl) (Rn (hV (.bool false) rfl hZ) fun e401 h403 => sN (xx (sR (bR (sR ?_)))))))))))))))))))))))))))
  clear h302 h303 h304 h305 h306 h307 h308 h309 h310 h394 h395 h396 h397 h398 h399 h400
  obtain rfl := si h
  exact qR ⟨rfl, h403⟩
 refine cF h240 hb241 (xx (sE ?_))
 obtain rfl := si h
 exact qE ⟨rfl, h235, h237, h238, o232, o230, o231⟩
def laws_FnBooks_c2_Q (r15 : Int) (r16 : List Int) (r17 : List Tally) (r52 : Int) (r53 : List Int) (r54 : List Tally) (r432 : List Debt) (i902_1 : Nat) (i902_2 : Nat) (i902_3 : Nat) (g : Bool) (q : Out) : Prop := q.1 = .nrm ∧ eget q.2.1 3 = .loc i902_2 1 0 0 ∧ eget q.2.1 7 = .loc i902_3 1 0 0 ∧ eget q.2.1 20 = .sl (some 114) (r432.map Debt.c) ∧ eget q.2.1 195 = .bool g ∧ q.2.2[i902_2]? = some (.live ⟨.box, 27, 3, [[.int .i64 r15, .sl none (r16.map (cI .i64)), .sl none (r17.map Tally.c)]]⟩) ∧ q.2.2[i902_3]? = some (.live ⟨.box, 27, 3, [[.int .i64 r52, .sl none (r53.map (cI .i64)), .sl none (r54.map Tally.c)]]⟩)
abbrev laws_FnBooks_b2_S := Int × Int
abbrev laws_FnBooks_b2_R := Unit ⊕ Int
def laws_FnBooks_b2_RS (r15 : Int) (r16 : List Int) (r17 : List Tally) (r52 : Int) (r53 : List Int) (r54 : List Tally) (r494 : List Int) (i2_1 : Nat) (i2_2 : Nat) (s : laws_FnBooks_b2_S) (e : Env) (M : Mem) : Prop := eget e 3 = .loc i2_1 1 0 0 ∧ eget e 7 = .loc i2_2 1 0 0 ∧ eget e 22 = .int .i64 s.1 ∧ eget e 23 = .sl (some 2) (r494.map (cI .i64)) ∧ eget e 25 = .int .i64 s.2 ∧ M[i2_1]? = some (.live ⟨.box, 27, 3, [[.int .i64 r15, .sl none (r16.map (cI .i64)), .sl none (r17.map Tally.c)]]⟩) ∧ M[i2_2]? = some (.live ⟨.box, 27, 3, [[.int .i64 r52, .sl none (r53.map (cI .i64)), .sl none (r54.map Tally.c)]]⟩)
def laws_FnBooks_b2_RR (r15 : Int) (r16 : List Int) (r17 : List Tally) (r52 : Int) (r53 : List Int) (r54 : List Tally) (r494 : List Int) (i2_1 : Nat) (i2_2 : Nat) (r : laws_FnBooks_b2_R) (x : Ex) (e : Env) (M : Mem) : Prop :=
  match r with
  | (.inl g) => x = .ret ∧ eget e 2 = .bool false
  | (.inr g) => x = .ext 2 ∧ eget e 3 = .loc i2_1 1 0 0 ∧ eget e 22 = .int .i64 g ∧ M[i2_1]? = some (.live ⟨.box, 27, 3, [[.int .i64 r15, .sl none (r16.map (cI .i64)), .sl none (r17.map Tally.c)]]⟩) ∧ M[i2_2]? = some (.live ⟨.box, 27, 3, [[.int .i64 r52, .sl none (r53.map (cI .i64)), .sl none (r54.map Tally.c)]]⟩)
noncomputable def laws_FnBooks_b2 (r52 : Int) (r53 : List Int) (r54 : List Tally) (r494 : List Int) : laws_FnBooks_b2_S → Option (laws_FnBooks_b2_S ⊕ laws_FnBooks_b2_R) := fun (s2_1, s2_2) =>
 if (decide (s2_2 < (r53.length : Int))) = true then
  (impl_WorthOfPerson (Book.mk r52 r53 r54) s2_2).bind fun (r559, r560) =>
  (impl_GetsInAll (Book.mk r52 r53 r54) s2_2).bind fun (r571, r572) =>
  (impl_OwesInAll (Book.mk r52 r53 r54) s2_2).bind fun (r585, r586) =>
  if (r560 != 0) = true then
   some (.inr (.inl ()))
  else
   if (r572 != 0) = true then
    some (.inr (.inl ()))
   else
    if (r586 != 0) = true then
     some (.inr (.inl ()))
    else
     (rd r53 s2_2).bind fun x639 =>
     if (r559 != (IntKind.i64.wrap ((IntKind.i64.wrap (x639 + r571)) - r585))) = true then
      some (.inr (.inl ()))
     else
      (rd r53 s2_2).bind fun x654 =>
      (rd r494 s2_2).bind fun x656 =>
      if (r559 != (IntKind.i64.wrap (x654 + x656))) = true then
       some (.inr (.inl ()))
      else
       some (.inl ((IntKind.i64.wrap (s2_1 + r559)), (IntKind.i64.wrap (s2_2 + 1))))
 else
  some (.inr (.inr s2_1))
theorem laws_FnBooks_b2_ok (r15 : Int) (r16 : List Int) (r17 : List Tally) (r52 : Int) (r53 : List Int) (r54 : List Tally) (r494 : List Int) (i2_1 : Nat) (i2_2 : Nat) (ne60 : i2_1 ≠ i2_2) (s : laws_FnBooks_b2_S) (r : laws_FnBooks_b2_S ⊕ laws_FnBooks_b2_R) (h : laws_FnBooks_b2 r52 r53 r54 r494 s = some r) (e : Env) (M : Mem) (hs : laws_FnBooks_b2_RS r15 r16 r17 r52 r53 r54 r494 i2_1 i2_2 s e M) : Ev (fun k => (f4_l27 (CN k) k (prune [3, 7, 22, 23, 25] e) M).bind fun q => some q) (bQ (laws_FnBooks_b2_RS r15 r16 r17 r52 r53 r54 r494 i2_1 i2_2) (laws_FnBooks_b2_RR r15 r16 r17 r52 r53 r54 r494 i2_1 i2_2) r) := by
 obtain ⟨s2_1, s2_2⟩ := s
 unfold laws_FnBooks_b2 at h
 obtain ⟨h537, h539, h541, h543, h545, o547, o548⟩ := hs
 generalize he536 : prune [3, 7, 22, 23, 25] e = e535
 have h538 := envp he536.symm rfl h537
 have h540 := envp he536.symm rfl h539
 have h542 := envp he536.symm rfl h541
 have h544 := envp he536.symm rfl h543
 have h546 := envp he536.symm rfl h545
 refine sq (sq (Rg (kx (mvO h546) (kx (faO h540 o548 rfl) (kx (ldO rfl o548 rfl rfl rfl) (kx (lnS Try.underlying24 rfl) (kx (bLss rfl rfl) (Rn (hV (.loc i2_1 1 0 0) h538 (hV (.loc i2_2 1 0 0) h540 (hV (.int .i64 s2_1) h542 (hV (.sl (some 2) (r494.map (cI .i64))) h544 (hV (.int .i64 s2_2) h546 (hN rfl hZ)))))) fun e549 h551 h552 h553 h554 h555 h556 => sN ?_))))))))
 clear h538 h540 h542 h544 h546
 rcases ite_some h with ⟨hb557, h⟩ | ⟨hb557, h⟩
 ·obtain ⟨⟨r559, r560⟩, hx558, h⟩ := bind_some h
  obtain ⟨⟨r571, r572⟩, hx570, h⟩ := bind_some h
  obtain ⟨⟨r585, r586⟩, hx584, h⟩ := bind_some h
  refine cT h556 hb557 (xx (sN (sq (bl (sq (Rg (kx (ldOA h552 o548 rfl rfl (ble rfl) rfl) (kx (mvO h555) (kc (cl (v := .tup [.int .i64 r559, .int .i64 r560]) rfl rfl (cns rfl (cns rfl rfl)) rfl (impl_WorthOfPerson_ok (Book.mk r52 r53 r54) s2_2 _ hx558) nm) (kx (mvO rfl) (kx (exT rfl rfl) (kx (exT rfl rfl) (kx (mvO rfl) (kx (mvO rfl) (Rn (hA h551 (hA h552 (hA h553 (hA h554 (hA h555 (hN rfl (hN rfl hZ))))))) fun e561 h563 h564 h565 h566 h567 h568 h569 => sN (sq (Rg (kx (ldOA h564 o548 rfl rfl (ble rfl) rfl) (kx (mvO h567) (kc (cl (v := .tup [.int .i64 r571, .int .i64 r572]) rfl rfl (cns rfl (cns rfl rfl)) rfl (impl_GetsInAll_ok (Book.mk r52 r53 r54) s2_2 _ hx570) nm) (kx (mvO rfl) (kx (exT rfl rfl) (kx (exT rfl rfl) (kx (mvO rfl) (kx (mvO rfl) (Rn (hA h563 (hA h564 (hA h565 (hA h566 (hA h567 (hA h568 (hA h569 (hN rfl (hN rfl hZ))))))))) fun e573 h575 h576 h577 h578 h579 h580 h581 h582 h583 => sN (sq (Rg (kx (ldOA h576 o548 rfl rfl (ble rfl) rfl) (kx (mvO h579) (kc (cl (v := .tup [.int .i64 r585, .int .i64 r586]) rfl rfl (cns rfl (cns rfl rfl)) rfl (impl_OwesInAll_ok (Book.mk r52 r53 r54) s2_2 _ hx584) nm) (kx (mvO rfl) (kx (exT rfl rfl) (kx (exT rfl rfl) (kx (mvO rfl) (kx (mvO rfl) (Rn (hA h575 (hA h576 (hA h577 (hA h578 (hA h579 (hA h580 (hA h581 (hA h582 (hA h583 (hN rfl (hN rfl hZ))))))))))) fun e587 h589 h590 h591 h592 h593 h594 h595 h596 h597 h598 h599 => sN (sq (sq (Rd (kf (mvO h595) (kf (bNeq rfl rfl) (kf (mvO rfl) ?_)))))))))))))))))))))))))))))))))))))))))))
  clear h551 h552 h553 h554 h555 h556 h563 h564 h565 h566 h567 h568 h569 h575 h576 h577 h578 h579 h580 h581 h582 h583
  rcases ite_some h with ⟨hb600, h⟩ | ⟨hb600, h⟩
  ·refine kf (gsF rfl hb600) (kf (gsF rfl hb600) (kf (pkT rfl hb600 rfl) (kf (mvO rfl) (kf (gsF rfl rfl) (kf (gsF rfl rfl) (kf (pkT rfl rfl rfl) (kf (mvO rfl) (kf (gsF rfl rfl) (kf (gsF rfl rfl) (kf (gsF rfl rfl) (kf (gsF rfl rfl) (kf (gsF rfl rfl) (kf (gsF rfl rfl) (kf (gsF rfl rfl) (kf (gsF rfl rfl) (kf (gsF rfl rfl) (kf (gsF rfl rfl) (kf (gsF rfl rfl) (kf (pkT rfl rfl rfl) (kf (mvO rfl) (kf (gsF rfl rfl) (kf (gsF rfl rfl) (kf (gsF rfl rfl) (kf (gsF rfl rfl) (kf (gsF rfl rfl) (kf (gsF rfl rfl) (kf (gsF rfl rfl) (kf (gsF rfl rfl) (kf (gsF rfl rfl) (kf (gsF rfl rfl) (kf (gsF rfl rfl) (kf (gsF rfl rfl) (kf (pkT rfl rfl rfl) (fZ (Rn (hA h589 (hA h590 (hA h591 (hA h592 (hA h593 (hA h594 (hV (.bool true) rfl hZ))))))) fun e601 h603 h604 h605 h606 h607 h608 h609 => sN (cT h609 rfl (sq (Rg (kx (mvO rfl) (Rn (hV (.bool false) rfl hZ) fun e610 h612 => sN (xx (sR (bR (sR ?_))))))))))))))))))))))))))))))))))))))))))))
   clear h589 h590 h591 h592 h593 h594 h595 h596 h597 h598 h599 h603 h604 h605 h606 h607 h608 h609
   obtain rfl := si h
   exact qR ⟨rfl, h612⟩
  refine kf (guF rfl hb600 (mvO h597)) (kf (guF rfl hb600 (bNeq rfl rfl)) (kf (pkF rfl hb600 rfl) (kf (mvO rfl) ?_)))
  rcases ite_some h with ⟨hb613, h⟩ | ⟨hb613, h⟩
  ·refine kf (gsF rfl hb613) (kf (gsF rfl hb613) (kf (pkT rfl hb613 rfl) (kf (mvO rfl) (kf (gsF rfl rfl) (kf (gsF rfl rfl) (kf (gsF rfl rfl) (kf (gsF rfl rfl) (kf (gsF rfl rfl) (kf (gsF rfl rfl) (kf (gsF rfl rfl) (kf (gsF rfl rfl) (kf (gsF rfl rfl) (kf (gsF rfl rfl) (kf (gsF rfl rfl) (kf (pkT rfl rfl rfl) (kf (mvO rfl) (kf (gsF rfl rfl) (kf (gsF rfl rfl) (kf (gsF rfl rfl) (kf (gsF rfl rfl) (kf (gsF rfl rfl) (kf (gsF rfl rfl) (kf (gsF rfl rfl) (kf (gsF rfl rfl) (kf (gsF rfl rfl) (kf (gsF rfl rfl) (kf (gsF rfl rfl) (kf (gsF rfl rfl) (kf (pkT rfl rfl rfl) (fZ (Rn (hA h589 (hA h590 (hA h591 (hA h592 (hA h593 (hA h594 (hV (.bool true) rfl hZ))))))) fun e614 h616 h617 h618 h619 h620 h621 h622 => sN (cT h622 rfl (sq (Rg (kx (mvO rfl) (Rn (hV (.bool false) rfl hZ) fun e623 h625 => sN (xx (sR (bR (sR ?_))))))))))))))))))))))))))))))))))))))))
   clear h589 h590 h591 h592 h593 h594 h595 h596 h597 h598 h599 h616 h617 h618 h619 h620 h621 h622
   obtain rfl := si h
   exact qR ⟨rfl, h625⟩
  refine kf (guF rfl hb613 (mvO h599)) (kf (guF rfl hb613 (bNeq rfl rfl)) (kf (pkF rfl hb613 rfl) (kf (mvO rfl) ?_)))
  rcases ite_some h with ⟨hb626, h⟩ | ⟨hb626, h⟩
  ·refine kf (gsF rfl hb626) (kf (gsF rfl hb626) (kf (gsF rfl hb626) (kf (gsF rfl hb626) (kf (gsF rfl hb626) (kf (gsF rfl hb626) (kf (gsF rfl hb626) (kf (gsF rfl hb626) (kf (gsF rfl hb626) (kf (gsF rfl hb626) (kf (gsF rfl hb626) (kf (pkT rfl hb626 rfl) (kf (mvO rfl) (kf (gsF rfl rfl) (kf (gsF rfl rfl) (kf (gsF rfl rfl) (kf (gsF rfl rfl) (kf (gsF rfl rfl) (kf (gsF rfl rfl) (kf (gsF rfl rfl) (kf (gsF rfl rfl) (kf (gsF rfl rfl) (kf (gsF rfl rfl) (kf (gsF rfl rfl) (kf (gsF rfl rfl) (kf (pkT rfl rfl rfl) (fZ (Rn (hA h589 (hA h590 (hA h591 (hA h592 (hA h593 (hA h594 (hV (.bool true) rfl hZ))))))) fun e627 h629 h630 h631 h632 h633 h634 h635 => sN (cT h635 rfl (sq (Rg (kx (mvO rfl) (Rn (hV (.bool false) rfl hZ) fun e636 h638 => sN (xx (sR (bR (sR ?_))))))))))))))))))))))))))))))))))))
   clear h589 h590 h591 h592 h593 h594 h595 h596 h597 h598 h599 h629 h630 h631 h632 h633 h634 h635
   obtain rfl := si h
   exact qR ⟨rfl, h638⟩
  obtain ⟨x639, hx640, h⟩ := bind_some h
  refine kf (guF rfl hb626 (mvO h594)) (kf (guF rfl hb626 (faO h590 o548 rfl)) (kf (guF rfl hb626 (ldO rfl o548 rfl rfl rfl)) (kf (guF rfl hb626 (mvO h593)) (kf (guF rfl hb626 (ixS rfl rfl hx640 (cI_fl _))) (kf (guF rfl hb626 (ldP rfl rfl)) (kf (guF rfl hb626 (mvO h596)) (kf (guF rfl hb626 (bAdd rfl rfl)) (kf (guF rfl hb626 (mvO h598)) (kf (guF rfl hb626 (bSub rfl rfl)) (kf (guF rfl hb626 (bNeq rfl rfl)) (kf (pkF rfl hb626 rfl) (kf (mvO rfl) ?_))))))))))))
  rcases ite_some h with ⟨hb641, h⟩ | ⟨hb641, h⟩
  ·refine kf (gsF rfl hb641) (kf (gsF rfl hb641) (kf (gsF rfl hb641) (kf (gsF rfl hb641) (kf (gsF rfl hb641) (kf (gsF rfl hb641) (kf (gsF rfl hb641) (kf (gsF rfl hb641) (kf (gsF rfl hb641) (kf (gsF rfl hb641) (kf (gsF rfl hb641) (kf (gsF rfl hb641) (kf (pkT rfl hb641 rfl) (fZ (Rn (hA h589 (hA h590 (hA h591 (hA h592 (hA h593 (hA h594 (hV (.bool true) rfl hZ))))))) fun e642 h644 h645 h646 h647 h648 h649 h650 => sN (cT h650 rfl (sq (Rg (kx (mvO rfl) (Rn (hV (.bool false) rfl hZ) fun e651 h653 => sN (xx (sR (bR (sR ?_)))))))))))))))))))))))
   clear h589 h590 h591 h592 h593 h594 h595 h596 h597 h598 h599 h644 h645 h646 h647 h648 h649 h650
   obtain rfl := si h
   exact qR ⟨rfl, h653⟩
  obtain ⟨x654, hx655, h⟩ := bind_some h
  obtain ⟨x656, hx657, h⟩ := bind_some h
  refine kf (guF rfl hb641 (mvO h594)) (kf (guF rfl hb641 (faO h590 o548 rfl)) (kf (guF rfl hb641 (ldO rfl o548 rfl rfl rfl)) (kf (guF rfl hb641 (mvO h593)) (kf (guF rfl hb641 (ixS rfl rfl hx655 (cI_fl _))) (kf (guF rfl hb641 (ldP rfl rfl)) (kf (guF rfl hb641 (mvO h592)) (kf (guF rfl hb641 (mvO h593)) (kf (guF rfl hb641 (ixS rfl rfl hx657 (cI_fl _))) (kf (guF rfl hb641 (ldP rfl rfl)) (kf (guF rfl hb641 (bAdd rfl rfl)) (kf (guF rfl hb641 (bNeq rfl rfl)) (kf (pkF rfl hb641 rfl) (fZ (Rn (hA h589 (hA h590 (hA h591 (hA h592 (hA h593 (hA h594 (hN rfl hZ))))))) fun e658 h660 h661 h662 h663 h664 h665 h666 => sN ?_))))))))))))))
  clear h589 h590 h591 h592 h593 h594 h595 h596 h597 h598 h599
  rcases ite_some h with ⟨hb667, h⟩ | ⟨hb667, h⟩
  ·refine cT h666 hb667 (sq (Rg (kx (mvO rfl) (Rn (hV (.bool false) rfl hZ) fun e668 h670 => sN (xx (sR (bR (sR ?_))))))))
   clear h660 h661 h662 h663 h664 h665 h666
   obtain rfl := si h
   exact qR ⟨rfl, h670⟩
  refine cF h666 hb667 (xx (sN (Rg (kx (mvO h662) (kx (mvO h665) (kx (bAdd rfl rfl) (kx (mvO rfl) (Rn (hA h660 (hA h661 (hN rfl (hA h663 (hA h664 hZ))))) fun e671 h673 h674 h675 h676 h677 => bN (sN (Rg (kx (mvO h677) (kx (bAdd rfl rfl) (kx (mvO rfl) (Rn (hA h673 (hA h674 (hA h675 (hA h676 (hN rfl hZ))))) fun e678 h680 h681 h682 h683 h684 => ?_))))))))))))))
  clear h660 h661 h663 h664 h665 h666 h673 h674 h675 h676
  obtain rfl := si h
  exact qN ⟨h680, h681, h682, h683, h684, o547, o548⟩
 refine cF h556 hb557 (xx (sE ?_))
 obtain rfl := si h
 exact qE ⟨rfl, h551, h553, o547, o548⟩
noncomputable def laws_FnBooks (a1 : List Int) : Option Bool :=
 (laws_a2Long a1 a1).bind fun r5 =>
 if r5 = true then
  some true
 else
  (spec_A2Days a1).bind fun (r15, r16, r17, r18) =>
  (impl_DoDeals (Book.mk r15 r16 r17) r18).bind fun (r31, r32, r33, r34) =>
  (spec_DoDeals (Book.mk r15 r16 r17) r18).bind fun (r52, r53, r54, r55) =>
  (impl_FirstRefused (Book.mk r15 r16 r17) r18).bind fun (r78, r79, r80) =>
  (if (r34 != r55) = true then
   some true
  else
   if (r34 != 0) = true then
    some true
   else
    (spec_SameBook (Book.mk r31 r32 r33) (Book.mk r52 r53 r54)).bind fun r105 =>
    if r105 = true then
     (impl_SameBook (Book.mk r31 r32 r33) (Book.mk r52 r53 r54)).bind fun r108 =>
     if r108 = true then
      if (r80 != 6) = true then
       some true
      else
       (impl_ValidBook (Book.mk r15 r16 r17)).bind fun r118 =>
       if r118 = true then
        (impl_ValidBook (Book.mk r52 r53 r54)).bind fun r121 =>
        if r121 = true then
         (spec_A2Sum r53).bind fun r124 =>
         (spec_A2Sum r16).bind fun r126 =>
         if (r124 != r126) = true then
          some true
         else
          some ((r53.length : Int) != (r16.length : Int))
        else
         some true
       else
        some true
     else
      some true
    else
     some true).bind fun y166 =>
  if y166 = true then
   some false
  else
   (Lw (laws_FnBooks_b1 r18) (0, r15, r16, r17)).bind fun r => match r with
   | (.inl _) =>
    some false
   | (.inr (y412, y413, y414)) =>
    (impl_DebtsIn (Book.mk r52 r53 r54)).bind fun (r422, r423) =>
    (spec_DebtsIn (Book.mk r52 r53 r54)).bind fun (r432, r433) =>
    ((spec_SameBook (Book.mk y412 y413 y414) (Book.mk r52 r53 r54)).bind fun r444 =>
    if r444 = true then
     if (r423 != r433) = true then
      some true
     else
      if (r423 != 0) = true then
       some true
      else
       (spec_SameDebts r422 r432).bind fun r461 =>
       some (!r461)
    else
     some true).bind fun y476 =>
    if y476 = true then
     some false
    else
     (spec_NetsOf (r53.length : Int) r432).bind fun (r494, r495) =>
     if (r495 != 0) = true then
      some false
     else
      (Lw (laws_FnBooks_b2 r52 r53 r54 r494) (0, 0)).bind fun r => match r with
      | (.inl _) =>
       some false
      | (.inr y693) =>
       (spec_A2Sum r16).bind fun r699 =>
       some (y693 == r699)
def laws_FnBooks_enc (r : Bool) : AV := .bool r
theorem laws_FnBooks_ok (a1 : List Int) (r : Bool) (h : laws_FnBooks a1 = some r) : Ev (fun k => CN k 4 [.sl none (a1.map (cI .u8))] []) (fun p => rRes p.2 p.1 = laws_FnBooks_enc r) := by
 unfold laws_FnBooks at h
 obtain ⟨r5, hx4, h⟩ := bind_some h
 refine Ev.enter (F := fun k => f4 (CN k) k) (fun k => callN_eq rfl Try.func4 rfl rfl rfl (by decide +kernel) (f4_eq _ _)) (sq (Rg (kx (mvO rfl) (Rn (hN rfl hZ) fun e1 h3 => sN (sq (sq (Rg (kx (mvO h3) (kx (mvO h3) (kc (cl (v := .bool r5) rfl rfl (cns rfl (cns rfl rfl)) rfl (laws_a2Long_ok a1 a1 _ hx4) nm) (Rn (hA h3 (hN rfl hZ)) fun e6 h8 h9 => sN ?_)))))))))))
 clear h3
 rcases ite_some h with ⟨hb10, h⟩ | ⟨hb10, h⟩
 ·refine cT h9 hb10 (sq (Rg (kx (mvO rfl) (Rn (hV (.bool true) rfl hZ) fun e11 h13 => sN (xx (sR ?_))))))
  clear h8 h9
  obtain rfl := si h
  exact eR (resT h13 res0) rfl
 obtain ⟨⟨r15, r16, r17, r18⟩, hx14, h⟩ := bind_some h
 refine cF h9 hb10 (xx (sN (sq (Rg (kx (mvO h8) (kc (cl (v := .tup [.agg [.int .i64 r15, .sl none (r16.map (cI .i64)), .sl none (r17.map Tally.c)], .sl (some 36) (r18.map Deal.c)]) rfl rfl (cns rfl rfl) rfl (spec_A2Days_ok a1 _ hx14) nm) (kx (mvO rfl) (kx (exT rfl rfl) (kx (exT rfl rfl) (ku (alO zero27) fun M20 hM21 => ?_))))))))))
 have o22 : M20[([] : Mem).length]? = some (.live ⟨.box, 27, 3, [[.int .i64 0, .nils, .nils]]⟩) := push_new hM21
 refine kw (stO rfl rfl o22 rfl rfl ⟨rfl, ble rfl⟩ rfl rfl) fun M23 hM24 => ?_
 have o25 : M23[([] : Mem).length]? = some (.live ⟨.box, 27, 3, [[.int .i64 r15, .sl none (r16.map (cI .i64)), .sl none (r17.map Tally.c)]]⟩) := set_same hM24 o22
 obtain ⟨⟨r31, r32, r33, r34⟩, hx30, h⟩ := bind_some h
 refine kx (mvO rfl) (Rn (hV (.loc ([] : Mem).length 1 0 0) rfl (hN rfl hZ)) fun e26 h28 h29 => sN (sq (Rg (kx (ldOA h28 o25 rfl rfl (ble rfl) rfl) (kx (mvO h29) (kc (clW (v := .tup [.agg [.int .i64 r31, .sl none (r32.map (cI .i64)), .sl none (r33.map Tally.c)], .int .i64 r34]) rfl rfl (cns rfl (cns rfl rfl)) rfl (impl_DoDeals_ok (Book.mk r15 r16 r17) r18 _ hx30) rfl) (kx (mvO rfl) (kx (exT rfl rfl) (kx (exT rfl rfl) (ku (alO zero27) fun M36 hM37 => ?_))))))))))
 clear h8 h9
 have o38 := push_old hM37 o25
 have ne39 := ne_new o25
 have o40 : M36[M23.length]? = some (.live ⟨.box, 27, 3, [[.int .i64 0, .nils, .nils]]⟩) := push_new hM37
 refine kw (stO rfl rfl o40 rfl rfl ⟨rfl, ble rfl⟩ rfl rfl) fun M41 hM42 => ?_
 have o43 := set_ne hM42 ne39 o38
 have o44 : M41[M23.length]? = some (.live ⟨.box, 27, 3, [[.int .i64 r31, .sl none (r32.map (cI .i64)), .sl none (r33.map Tally.c)]]⟩) := set_same hM42 o40
 obtain ⟨⟨r52, r53, r54, r55⟩, hx51, h⟩ := bind_some h
 refine kx (mvO rfl) (Rn (hA h28 (hA h29 (hV (.loc M23.length 1 0 0) rfl (hN rfl hZ)))) fun e45 h47 h48 h49 h50 => sN (sq (Rg (kx (ldOA h47 o43 rfl rfl (ble rfl) rfl) (kx (mvO h48) (kc (clW (v := .tup [.agg [.int .i64 r52, .sl none (r53.map (cI .i64)), .sl none (r54.map Tally.c)], .int .i64 r55]) rfl rfl (cns rfl (cns rfl rfl)) rfl (spec_DoDeals_ok (Book.mk r15 r16 r17) r18 _ hx51) rfl) (kx (mvO rfl) (kx (exT rfl rfl) (kx (exT rfl rfl) (ku (alO zero27) fun M57 hM58 => ?_))))))))))
 clear h28 h29
 have o59 := push_old hM58 o43
 have ne60 := ne_new o43
 have o61 := push_old hM58 o44
 have ne62 := ne_new o44
 have o63 : M57[M41.length]? = some (.live ⟨.box, 27, 3, [[.int .i64 0, .nils, .nils]]⟩) := push_new hM58
 refine kw (stO rfl rfl o63 rfl rfl ⟨rfl, ble rfl⟩ rfl rfl) fun M64 hM65 => ?_
 have o66 := set_ne hM65 ne60 o59
 have o67 := set_ne hM65 ne62 o61
 have o68 : M64[M41.length]? = some (.live ⟨.box, 27, 3, [[.int .i64 r52, .sl none (r53.map (cI .i64)), .sl none (r54.map Tally.c)]]⟩) := set_same hM65 o63
 obtain ⟨⟨r78, r79, r80⟩, hx77, h⟩ := bind_some h
 obtain ⟨r707, hr708, h⟩ := bind_some h
 refine kx (mvO rfl) (Rn (hA h47 (hA h48 (hA h49 (hA h50 (hV (.loc M41.length 1 0 0) rfl (hN rfl hZ)))))) fun e69 h71 h72 h73 h74 h75 h76 => sN (sq (Rg (kx (ldOA h71 o66 rfl rfl (ble rfl) rfl) (kx (mvO h72) (kc (cl (v := .tup [.int .i64 r78, .int .i64 r79, .int .i64 r80]) rfl rfl (cns rfl (cns rfl rfl)) rfl (impl_FirstRefused_ok (Book.mk r15 r16 r17) r18 _ hx77) nm) (kx (mvO rfl) (kx (exT rfl rfl) (kx (exT rfl rfl) (kx (exT rfl rfl) (kx (mvO rfl) (kx (mvO rfl) (kx (mvO rfl) (Rn (hA h71 (hA h72 (hA h73 (hA h74 (hA h75 (hA h76 (hN rfl hZ))))))) fun e81 h83 h84 h85 h86 h87 h88 h89 => sN (sq (sq ?_))))))))))))))))
 clear h47 h48 h49 h50 h71 h72 h73 h74 h75 h76
 refine Ev.cut (Q1 := laws_FnBooks_c1_Q r15 r16 r17 r18 r52 r53 r54 (([] : Mem).length) M23.length M41.length r707) (by
     have h := hr708
     refine Rd (kf (mvO h86) (kf (mvO h88) (kf (bNeq rfl rfl) (kf (mvO rfl) ?_))))
     rcases ite_some h with ⟨hb90, h⟩ | ⟨hb90, h⟩
     ·refine kf (gsF rfl hb90) (kf (gsF rfl hb90) (kf (pkT rfl hb90 rfl) (kf (mvO rfl) (kf (gsF rfl rfl) (kf (gsF rfl rfl) (fc (Ev.gsF rfl rfl) (kf (gsF rfl rfl) (kf (pkT rfl rfl rfl) (kf (mvO rfl) (kf (gsF rfl rfl) (kf (gsF rfl rfl) (fc (Ev.gsF rfl rfl) (kf (gsF rfl rfl) (kf (pkT rfl rfl rfl) (kf (mvO rfl) (kf (gsF rfl rfl) (kf (gsF rfl rfl) (kf (pkT rfl rfl rfl) (kf (mvO rfl) (kf (gsF rfl rfl) (fc (Ev.gsF rfl rfl) (kf (gsF rfl rfl) (kf (pkT rfl rfl rfl) (kf (mvO rfl) (kf (gsF rfl rfl) (fc (Ev.gsF rfl rfl) (kf (gsF rfl rfl) (kf (pkT rfl rfl rfl) (kf (mvO rfl) (kf (gsF rfl rfl) (kf (gsF rfl rfl) (fc (Ev.gsF rfl rfl) (kf (gsF rfl rfl) (kf (gsF rfl rfl) (fc (Ev.gsF rfl rfl) (kf (gsF rfl rfl) (kf (pkT rfl rfl rfl) (kf (mvO rfl) (kf (gsF rfl rfl) (kf (gsF rfl rfl) (kf (gsF rfl rfl) (kf (gsF rfl rfl) (kf (gsF rfl rfl) (kf (gsF rfl rfl) (kf (gsF rfl rfl) (kf (pkT rfl rfl rfl) (fZ (Rn (hA h83 (hA h84 (hA h87 (hV (.bool true) rfl hZ)))) fun e91 h93 h94 h95 h96 => ?_))))))))))))))))))))))))))))))))))))))))))))))))
      clear h83 h84 h85 h86 h87 h88 h89
      obtain rfl := si h
      exact kd (show laws_FnBooks_c1_Q r15 r16 r17 r18 r52 r53 r54 (([] : Mem).length) M23.length M41.length _ _ from ⟨rfl, h93, h94, h95, h96, o66, o68⟩)
     refine kf (guF rfl hb90 (mvO h86)) (kf (guF rfl hb90 (bNeq rfl rfl)) (kf (pkF rfl hb90 rfl) (kf (mvO rfl) ?_)))
     rcases ite_some h with ⟨hb97, h⟩ | ⟨hb97, h⟩
     ·refine kf (gsF rfl hb97) (kf (gsF rfl hb97) (fc (Ev.gsF rfl hb97) (kf (gsF rfl hb97) (kf (pkT rfl hb97 rfl) (kf (mvO rfl) (kf (gsF rfl rfl) (kf (gsF rfl rfl) (fc (Ev.gsF rfl rfl) (kf (gsF rfl rfl) (kf (pkT rfl rfl rfl) (kf (mvO rfl) (kf (gsF rfl rfl) (kf (gsF rfl rfl) (kf (pkT rfl rfl rfl) (kf (mvO rfl) (kf (gsF rfl rfl) (fc (Ev.gsF rfl rfl) (kf (gsF rfl rfl) (kf (pkT rfl rfl rfl) (kf (mvO rfl) (kf (gsF rfl rfl) (fc (Ev.gsF rfl rfl) (kf (gsF rfl rfl) (kf (pkT rfl rfl rfl) (kf (mvO rfl) (kf (gsF rfl rfl) (kf (gsF rfl rfl) (fc (Ev.gsF rfl rfl) (kf (gsF rfl rfl) (kf (gsF rfl rfl) (fc (Ev.gsF rfl rfl) (kf (gsF rfl rfl) (kf (pkT rfl rfl rfl) (kf (mvO rfl) (kf (gsF rfl rfl) (kf (gsF rfl rfl) (kf (gsF rfl rfl) (kf (gsF rfl rfl) (kf (gsF rfl rfl) (kf (gsF rfl rfl) (kf (gsF rfl rfl) (kf (pkT rfl rfl rfl) (fZ (Rn (hA h83 (hA h84 (hA h87 (hV (.bool true) rfl hZ)))) fun e98 h100 h101 h102 h103 => ?_))))))))))))))))))))))))))))))))))))))))))))
      clear h83 h84 h85 h86 h87 h88 h89
      obtain rfl := si h
      exact kd (show laws_FnBooks_c1_Q r15 r16 r17 r18 r52 r53 r54 (([] : Mem).length) M23.length M41.length _ _ from ⟨rfl, h100, h101, h102, h103, o66, o68⟩)
     obtain ⟨r105, hx104, h⟩ := bind_some h
     refine kf (guF rfl hb97 (ldOA h85 o67 rfl rfl (ble rfl) rfl)) (kf (guF rfl hb97 (ldOA h87 o68 rfl rfl (ble rfl) rfl)) (fc (Ev.guF rfl hb97 (cl (v := .bool r105) rfl rfl (cns rfl (cns rfl rfl)) rfl (spec_SameBook_ok (Book.mk r31 r32 r33) (Book.mk r52 r53 r54) _ hx104) nm)) (kf (guF rfl hb97 (uNot rfl)) (kf (pkF rfl hb97 rfl) (kf (mvO rfl) ?_)))))
     rcases ite_some h with ⟨hb106, h⟩ | ⟨hb106, h⟩
     ·obtain ⟨r108, hx107, h⟩ := bind_some h
      refine kf (guF rfl (congrArg Bool.not hb106) (ldOA h85 o67 rfl rfl (ble rfl) rfl)) (kf (guF rfl (congrArg Bool.not hb106) (ldOA h87 o68 rfl rfl (ble rfl) rfl)) (fc (Ev.guF rfl (congrArg Bool.not hb106) (cl (v := .bool r108) rfl rfl (cns rfl (cns rfl rfl)) rfl (impl_SameBook_ok (Book.mk r31 r32 r33) (Book.mk r52 r53 r54) _ hx107) nm)) (kf (guF rfl (congrArg Bool.not hb106) (uNot rfl)) (kf (pkF rfl (congrArg Bool.not hb106) rfl) (kf (mvO rfl) ?_)))))
      rcases ite_some h with ⟨hb109, h⟩ | ⟨hb109, h⟩
      ·refine kf (guF rfl (congrArg Bool.not hb109) (mvO h89)) (kf (guF rfl (congrArg Bool.not hb109) (bNeq rfl rfl)) (kf (pkF rfl (congrArg Bool.not hb109) rfl) (kf (mvO rfl) ?_)))
       rcases ite_some h with ⟨hb110, h⟩ | ⟨hb110, h⟩
       ·refine kf (gsF rfl hb110) (fc (Ev.gsF rfl hb110) (kf (gsF rfl hb110) (kf (pkT rfl hb110 rfl) (kf (mvO rfl) (kf (gsF rfl rfl) (fc (Ev.gsF rfl rfl) (kf (gsF rfl rfl) (kf (pkT rfl rfl rfl) (kf (mvO rfl) (kf (gsF rfl rfl) (kf (gsF rfl rfl) (fc (Ev.gsF rfl rfl) (kf (gsF rfl rfl) (kf (gsF rfl rfl) (fc (Ev.gsF rfl rfl) (kf (gsF rfl rfl) (kf (pkT rfl rfl rfl) (kf (mvO rfl) (kf (gsF rfl rfl) (kf (gsF rfl rfl) (kf (gsF rfl rfl) (kf (gsF rfl rfl) (kf (gsF rfl rfl) (kf (gsF rfl rfl) (kf (gsF rfl rfl) (kf (pkT rfl rfl rfl) (fZ (Rn (hA h83 (hA h84 (hA h87 (hV (.bool true) rfl hZ)))) fun e111 h113 h114 h115 h116 => ?_))))))))))))))))))))))))))))
        clear h83 h84 h85 h86 h87 h88 h89
        obtain rfl := si h
        exact kd (show laws_FnBooks_c1_Q r15 r16 r17 r18 r52 r53 r54 (([] : Mem).length) M23.length M41.length _ _ from ⟨rfl, h113, h114, h115, h116, o66, o68⟩)
       obtain ⟨r118, hx117, h⟩ := bind_some h
       refine kf (guF rfl hb110 (ldOA h83 o66 rfl rfl (ble rfl) rfl)) (fc (Ev.guF rfl hb110 (cl (v := .bool r118) rfl rfl (cns rfl rfl) rfl (impl_ValidBook_ok (Book.mk r15 r16 r17) _ hx117) nm)) (kf (guF rfl hb110 (uNot rfl)) (kf (pkF rfl hb110 rfl) (kf (mvO rfl) ?_))))
       rcases ite_some h with ⟨hb119, h⟩ | ⟨hb119, h⟩
       ·obtain ⟨r121, hx120, h⟩ := bind_some h
        refine kf (guF rfl (congrArg Bool.not hb119) (ldOA h87 o68 rfl rfl (ble rfl) rfl)) (fc (Ev.guF rfl (congrArg Bool.not hb119) (cl (v := .bool r121) rfl rfl (cns rfl rfl) rfl (impl_ValidBook_ok (Book.mk r52 r53 r54) _ hx120) nm)) (kf (guF rfl (congrArg Bool.not hb119) (uNot rfl)) (kf (pkF rfl (congrArg Bool.not hb119) rfl) (kf (mvO rfl) ?_))))
        rcases ite_some h with ⟨hb122, h⟩ | ⟨hb122, h⟩
        ·obtain ⟨r124, hx123, h⟩ := bind_some h
         obtain ⟨r126, hx125, h⟩ := bind_some h
         refine kf (guF rfl (congrArg Bool.not hb122) (faO h87 o68 rfl)) (kf (guF rfl (congrArg Bool.not hb122) (ldO rfl o68 rfl rfl rfl)) (fc (Ev.guF rfl (congrArg Bool.not hb122) (cl (v := .int .i64 r124) rfl rfl (cns rfl rfl) rfl (spec_A2Sum_ok r53 _ hx123) nm)) (kf (guF rfl (congrArg Bool.not hb122) (faO h83 o66 rfl)) (kf (guF rfl (congrArg Bool.not hb122) (ldO rfl o66 rfl rfl rfl)) (fc (Ev.guF rfl (congrArg Bool.not hb122) (cl (v := .int .i64 r126) rfl rfl (cns rfl rfl) rfl (spec_A2Sum_ok r16 _ hx125) nm)) (kf (guF rfl (congrArg Bool.not hb122) (bNeq rfl rfl)) (kf (pkF rfl (congrArg Bool.not hb122) rfl) (kf (mvO rfl) ?_))))))))
         rcases ite_some h with ⟨hb127, h⟩ | ⟨hb127, h⟩
         ·refine kf (gsF rfl hb127) (kf (gsF rfl hb127) (kf (gsF rfl hb127) (kf (gsF rfl hb127) (kf (gsF rfl hb127) (kf (gsF rfl hb127) (kf (gsF rfl hb127) (kf (pkT rfl hb127 rfl) (fZ (Rn (hA h83 (hA h84 (hA h87 (hV (.bool true) rfl hZ)))) fun e128 h130 h131 h132 h133 => ?_)))))))))
          clear h83 h84 h85 h86 h87 h88 h89
          obtain rfl := si h
          exact kd (show laws_FnBooks_c1_Q r15 r16 r17 r18 r52 r53 r54 (([] : Mem).length) M23.length M41.length _ _ from ⟨rfl, h130, h131, h132, h133, o66, o68⟩)
         refine kf (guF rfl hb127 (faO h87 o68 rfl)) (kf (guF rfl hb127 (ldO rfl o68 rfl rfl rfl)) (kf (guF rfl hb127 (lnS Try.underlying24 rfl)) (kf (guF rfl hb127 (faO h83 o66 rfl)) (kf (guF rfl hb127 (ldO rfl o66 rfl rfl rfl)) (kf (guF rfl hb127 (lnS Try.underlying24 rfl)) (kf (guF rfl hb127 (bNeq rfl rfl)) (kf (pkF rfl hb127 rfl) (fZ (Rn (hA h83 (hA h84 (hA h87 (hN rfl hZ)))) fun e134 h136 h137 h138 h139 => ?_)))))))))
         clear h83 h84 h85 h86 h87 h88 h89
         obtain rfl := si h
         exact kd (show laws_FnBooks_c1_Q r15 r16 r17 r18 r52 r53 r54 (([] : Mem).length) M23.length M41.length _ _ from ⟨rfl, h136, h137, h138, h139, o66, o68⟩)
        refine kf (gsF rfl (congrArg Bool.not hb122)) (kf (gsF rfl (congrArg Bool.not hb122)) (fc (Ev.gsF rfl (congrArg Bool.not hb122)) (kf (gsF rfl (congrArg Bool.not hb122)) (kf (gsF rfl (congrArg Bool.not hb122)) (fc (Ev.gsF rfl (congrArg Bool.not hb122)) (kf (gsF rfl (congrArg Bool.not hb122)) (kf (pkT rfl (congrArg Bool.not hb122) rfl) (kf (mvO rfl) (kf (gsF rfl rfl) (kf (gsF rfl rfl) (kf (gsF rfl rfl) (kf (gsF rfl rfl) (kf (gsF rfl rfl) (kf (gsF rfl rfl) (kf (gsF rfl rfl) (kf (pkT rfl rfl rfl) (fZ (Rn (hA h83 (hA h84 (hA h87 (hV (.bool true) rfl hZ)))) fun e140 h142 h143 h144 h145 => ?_))))))))))))))))))
        clear h83 h84 h85 h86 h87 h88 h89
        obtain rfl := si h
        exact kd (show laws_FnBooks_c1_Q r15 r16 r17 r18 r52 r53 r54 (([] : Mem).length) M23.length M41.length _ _ from ⟨rfl, h142, h143, h144, h145, o66, o68⟩)
       refine kf (gsF rfl (congrArg Bool.not hb119)) (fc (Ev.gsF rfl (congrArg Bool.not hb119)) (kf (gsF rfl (congrArg Bool.not hb119)) (kf (pkT rfl (congrArg Bool.not hb119) rfl) (kf (mvO rfl) (kf (gsF rfl rfl) (kf (gsF rfl rfl) (fc (Ev.gsF rfl rfl) (kf (gsF rfl rfl) (kf (gsF rfl rfl) (fc (Ev.gsF rfl rfl) (kf (gsF rfl rfl) (kf (pkT rfl rfl rfl) (kf (mvO rfl) (kf (gsF rfl rfl) (kf (gsF rfl rfl) (kf (gsF rfl rfl) (kf (gsF rfl rfl) (kf (gsF rfl rfl) (kf (gsF rfl rfl) (kf (gsF rfl rfl) (kf (pkT rfl rfl rfl) (fZ (Rn (hA h83 (hA h84 (hA h87 (hV (.bool true) rfl hZ)))) fun e146 h148 h149 h150 h151 => ?_)))))))))))))))))))))))
       clear h83 h84 h85 h86 h87 h88 h89
       obtain rfl := si h
       exact kd (show laws_FnBooks_c1_Q r15 r16 r17 r18 r52 r53 r54 (([] : Mem).length) M23.length M41.length _ _ from ⟨rfl, h148, h149, h150, h151, o66, o68⟩)
      refine kf (gsF rfl (congrArg Bool.not hb109)) (kf (gsF rfl (congrArg Bool.not hb109)) (kf (pkT rfl (congrArg Bool.not hb109) rfl) (kf (mvO rfl) (kf (gsF rfl rfl) (fc (Ev.gsF rfl rfl) (kf (gsF rfl rfl) (kf (pkT rfl rfl rfl) (kf (mvO rfl) (kf (gsF rfl rfl) (fc (Ev.gsF rfl rfl) (kf (gsF rfl rfl) (kf (pkT rfl rfl rfl) (kf (mvO rfl) (kf (gsF rfl rfl) (kf (gsF rfl rfl) (fc (Ev.gsF rfl rfl) (kf (gsF rfl rfl) (kf (gsF rfl rfl) (fc (Ev.gsF rfl rfl) (kf (gsF rfl rfl) (kf (pkT rfl rfl rfl) (kf (mvO rfl) (kf (gsF rfl rfl) (kf (gsF rfl rfl) (kf (gsF rfl rfl) (kf (gsF rfl rfl) (kf (gsF rfl rfl) (kf (gsF rfl rfl) (kf (gsF rfl rfl) (kf (pkT rfl rfl rfl) (fZ (Rn (hA h83 (hA h84 (hA h87 (hV (.bool true) rfl hZ)))) fun e152 h154 h155 h156 h157 => ?_))))))))))))))))))))))))))))))))
      clear h83 h84 h85 h86 h87 h88 h89
      obtain rfl := si h
      exact kd (show laws_FnBooks_c1_Q r15 r16 r17 r18 r52 r53 r54 (([] : Mem).length) M23.length M41.length _ _ from ⟨rfl, h154, h155, h156, h157, o66, o68⟩)
     refine kf (gsF rfl (congrArg Bool.not hb106)) (kf (gsF rfl (congrArg Bool.not hb106)) (fc (Ev.gsF rfl (congrArg Bool.not hb106)) (kf (gsF rfl (congrArg Bool.not hb106)) (kf (pkT rfl (congrArg Bool.not hb106) rfl) (kf (mvO rfl) (kf (gsF rfl rfl) (kf (gsF rfl rfl) (kf (pkT rfl rfl rfl) (kf (mvO rfl) (kf (gsF rfl rfl) (fc (Ev.gsF rfl rfl) (kf (gsF rfl rfl) (kf (pkT rfl rfl rfl) (kf (mvO rfl) (kf (gsF rfl rfl) (fc (Ev.gsF rfl rfl) (kf (gsF rfl rfl) (kf (pkT rfl rfl rfl) (kf (mvO rfl) (kf (gsF rfl rfl) (kf (gsF rfl rfl) (fc (Ev.gsF rfl rfl) (kf (gsF rfl rfl) (kf (gsF rfl rfl) (fc (Ev.gsF rfl rfl) (kf (gsF rfl rfl) (kf (pkT rfl rfl rfl) (kf (mvO rfl) (kf (gsF rfl rfl) (kf (gsF rfl rfl) (kf (gsF rfl rfl) (kf (gsF rfl rfl) (kf (gsF rfl rfl) (kf (gsF rfl rfl) (kf (gsF rfl rfl) (kf (pkT rfl rfl rfl) (fZ (Rn (hA h83 (hA h84 (hA h87 (hV (.bool true) rfl hZ)))) fun e158 h160 h161 h162 h163 => ?_))))))))))))))))))))))))))))))))))))))
     clear h83 h84 h85 h86 h87 h88 h89
     obtain rfl := si h
     exact kd (show laws_FnBooks_c1_Q r15 r16 r17 r18 r52 r53 r54 (([] : Mem).length) M23.length M41.length _ _ from ⟨rfl, h160, h161, h162, h163, o66, o68⟩)) ?_
 revert h hr708
 revert r707
 intro y166 hr708 h
 intro x e164 M165 hq706
 obtain ⟨rfl, h167, h168, h169, h170, o171, o172⟩ := hq706
 refine sN ?_
 rcases ite_some h with ⟨hb173, h⟩ | ⟨hb173, h⟩
 ·refine cT h170 hb173 (sq (Rg (kx (mvO rfl) (Rn (hV (.bool false) rfl hZ) fun e174 h176 => sN (xx (sR ?_))))))
  clear h167 h168 h169 h170
  obtain rfl := si h
  exact eR (resT h176 res0) rfl
 refine cF h170 hb173 (xx (sN (sq (Rg (kx (ldOA h167 o171 rfl rfl (ble rfl) rfl) (ku (alO zero27) fun M178 hM179 => ?_))))))
 have o180 := push_old hM179 o171
 have ne181 := ne_new o171
 have o182 := push_old hM179 o172
 have ne183 := ne_new o172
 have o184 : M178[M165.length]? = some (.live ⟨.box, 27, 3, [[.int .i64 0, .nils, .nils]]⟩) := push_new hM179
 refine kw (stO rfl rfl o184 rfl rfl ⟨rfl, ble rfl⟩ rfl rfl) fun M185 hM186 => ?_
 have o187 := set_ne hM186 ne181 o180
 have o188 := set_ne hM186 ne183 o182
 have o189 : M185[M165.length]? = some (.live ⟨.box, 27, 3, [[.int .i64 r15, .sl none (r16.map (cI .i64)), .sl none (r17.map Tally.c)]]⟩) := set_same hM186 o184
 obtain ⟨r404, hr405, h⟩ := bind_some h
 refine Rn (hA h167 (hA h168 (hA h169 (hV (.loc M165.length 1 0 0) rfl hZ)))) fun e190 h192 h193 h194 h195 => sN (sq (sq (Rg (kx (mvO rfl) (Rn (hA h192 (hA h193 (hA h194 (hA h195 (hV (.int .i64 0) rfl hZ))))) fun e196 h198 h199 h200 h201 h202 => sN (bl ?_))))))
 clear h167 h168 h169 h170 h192 h193 h194 h195
 rcases r404 with _ | ⟨y412, y413, y414⟩
 ·refine Ev.loop (RS := laws_FnBooks_b1_RS r15 r16 r17 r18 r52 r53 r54 (([] : Mem).length) M165.length M41.length) (RR := laws_FnBooks_b1_RR r15 r16 r17 r18 r52 r53 r54 (([] : Mem).length) M165.length M41.length) (fun s r h e M hs => laws_FnBooks_b1_ok r15 r16 r17 r18 r52 r53 r54 (([] : Mem).length) M165.length M41.length ne181 ne60 ne183 s r h e M hs) hr405 ⟨h198, h199, h200, h201, h202, o189, o187, o188⟩ fun x e407 M408 hq406 => ?_
  obtain ⟨rfl, h409⟩ := hq406
  refine bR (sR ?_)
  obtain rfl := si h
  exact eR (resT h409 res0) rfl
 refine Ev.loop (RS := laws_FnBooks_b1_RS r15 r16 r17 r18 r52 r53 r54 (([] : Mem).length) M165.length M41.length) (RR := laws_FnBooks_b1_RR r15 r16 r17 r18 r52 r53 r54 (([] : Mem).length) M165.length M41.length) (fun s r h e M hs => laws_FnBooks_b1_ok r15 r16 r17 r18 r52 r53 r54 (([] : Mem).length) M165.length M41.length ne181 ne60 ne183 s r h e M hs) hr405 ⟨h198, h199, h200, h201, h202, o189, o187, o188⟩ fun x e410 M411 hq406 => ?_
 obtain ⟨rfl, h415, h416, h417, o418, o419, o420⟩ := hq406
 obtain ⟨⟨r422, r423⟩, hx421, h⟩ := bind_some h
 obtain ⟨⟨r432, r433⟩, hx431, h⟩ := bind_some h
 obtain ⟨r704, hr705, h⟩ := bind_some h
 refine bE (sN (sq (Rg (kx (ldOA h416 o420 rfl rfl (ble rfl) rfl) (kc (clO (v := .tup [.sl none (r422.map Debt.c), .int .i64 r423]) rfl rfl (cns rfl rfl) rfl (impl_DebtsIn_ok (Book.mk r52 r53 r54) _ hx421)) (kx (mvO rfl) (kx (exT rfl rfl) (kx (exT rfl rfl) (kx (mvO rfl) (kx (mvO rfl) (Rn (hV (.loc ([] : Mem).length 1 0 0) h415 (hV (.loc M41.length 1 0 0) h416 (hV (.loc M165.length 1 0 0) h417 (hN rfl (hN rfl hZ))))) fun e424 h426 h427 h428 h429 h430 => sN (sq (Rg (kx (ldOA h427 o420 rfl rfl (ble rfl) rfl) (kc (cl (v := .tup [.sl (some 114) (r432.map Debt.c), .int .i64 r433]) rfl rfl (cns rfl rfl) rfl (spec_DebtsIn_ok (Book.mk r52 r53 r54) _ hx431) nm) (kx (mvO rfl) (kx (exT rfl rfl) (kx (exT rfl rfl) (kx (mvO rfl) (kx (mvO rfl) (Rn (hA h426 (hA h427 (hA h428 (hA h429 (hA h430 (hN rfl (hN rfl hZ))))))) fun e434 h436 h437 h438 h439 h440 h441 h442 => sN (sq (sq ?_)))))))))))))))))))))))
 clear h415 h416 h417 h426 h427 h428 h429 h430
 refine Ev.cut (Q1 := laws_FnBooks_c2_Q r15 r16 r17 r52 r53 r54 r432 M165.length (([] : Mem).length) M41.length r704) (by
     have h := hr705
     obtain ⟨r444, hx443, h⟩ := bind_some h
     refine Rg (kx (ldOA h438 o418 rfl rfl (ble rfl) rfl) (kx (ldOA h437 o420 rfl rfl (ble rfl) rfl) (kc (cl (v := .bool r444) rfl rfl (cns rfl (cns rfl rfl)) rfl (spec_SameBook_ok (Book.mk y412 y413 y414) (Book.mk r52 r53 r54) _ hx443) nm) (kx (uNot rfl) (kx (mvO rfl) ?_)))))
     rcases ite_some h with ⟨hb445, h⟩ | ⟨hb445, h⟩
     ·refine kx (guF rfl (congrArg Bool.not hb445) (mvO h440)) (kx (guF rfl (congrArg Bool.not hb445) (mvO h442)) (kx (guF rfl (congrArg Bool.not hb445) (bNeq rfl rfl)) (kx (pkF rfl (congrArg Bool.not hb445) rfl) (kx (mvO rfl) ?_))))
      rcases ite_some h with ⟨hb446, h⟩ | ⟨hb446, h⟩
      ·refine kx (gsF rfl hb446) (kx (gsF rfl hb446) (kx (pkT rfl hb446 rfl) (kx (mvO rfl) (kx (gsF rfl rfl) (kx (gsF rfl rfl) (kc (Ev.gsF rfl rfl) (kx (gsF rfl rfl) (kx (pkT rfl rfl rfl) (Rn (hA h436 (hA h437 (hA h441 (hV (.bool true) rfl hZ)))) fun e447 h449 h450 h451 h452 => ?_)))))))))
       clear h436 h437 h438 h439 h440 h441 h442
       obtain rfl := si h
       exact kd (show laws_FnBooks_c2_Q r15 r16 r17 r52 r53 r54 r432 M165.length (([] : Mem).length) M41.length _ _ from ⟨rfl, h449, h450, h451, h452, o419, o420⟩)
      refine kx (guF rfl hb446 (mvO h440)) (kx (guF rfl hb446 (bNeq rfl rfl)) (kx (pkF rfl hb446 rfl) (kx (mvO rfl) ?_)))
      rcases ite_some h with ⟨hb453, h⟩ | ⟨hb453, h⟩
      ·refine kx (gsF rfl hb453) (kx (gsF rfl hb453) (kc (Ev.gsF rfl hb453) (kx (gsF rfl hb453) (kx (pkT rfl hb453 rfl) (Rn (hA h436 (hA h437 (hA h441 (hV (.bool true) rfl hZ)))) fun e454 h456 h457 h458 h459 => ?_)))))
       clear h436 h437 h438 h439 h440 h441 h442
       obtain rfl := si h
       exact kd (show laws_FnBooks_c2_Q r15 r16 r17 r52 r53 r54 r432 M165.length (([] : Mem).length) M41.length _ _ from ⟨rfl, h456, h457, h458, h459, o419, o420⟩)
      obtain ⟨r461, hx460, h⟩ := bind_some h
      refine kx (guF rfl hb453 (mvO h439)) (kx (guF rfl hb453 (mvO h441)) (kc (Ev.guF rfl hb453 (cl (v := .bool r461) rfl rfl (cns rfl (cns rfl rfl)) rfl (spec_SameDebts_ok r422 r432 _ hx460) nm)) (kx (guF rfl hb453 (uNot rfl)) (kx (pkF rfl hb453 rfl) (Rn (hA h436 (hA h437 (hA h441 (hN rfl hZ)))) fun e462 h464 h465 h466 h467 => ?_)))))
      clear h436 h437 h438 h439 h440 h441 h442
      obtain rfl := si h
      exact kd (show laws_FnBooks_c2_Q r15 r16 r17 r52 r53 r54 r432 M165.length (([] : Mem).length) M41.length _ _ from ⟨rfl, h464, h465, h466, h467, o419, o420⟩)
     refine kx (gsF rfl (congrArg Bool.not hb445)) (kx (gsF rfl (congrArg Bool.not hb445)) (kx (gsF rfl (congrArg Bool.not hb445)) (kx (pkT rfl (congrArg Bool.not hb445) rfl) (kx (mvO rfl) (kx (gsF rfl rfl) (kx (gsF rfl rfl) (kx (pkT rfl rfl rfl) (kx (mvO rfl) (kx (gsF rfl rfl) (kx (gsF rfl rfl) (kc (Ev.gsF rfl rfl) (kx (gsF rfl rfl) (kx (pkT rfl rfl rfl) (Rn (hA h436 (hA h437 (hA h441 (hV (.bool true) rfl hZ)))) fun e468 h470 h471 h472 h473 => ?_))))))))))))))
     clear h436 h437 h438 h439 h440 h441 h442
     obtain rfl := si h
     exact kd (show laws_FnBooks_c2_Q r15 r16 r17 r52 r53 r54 r432 M165.length (([] : Mem).length) M41.length _ _ from ⟨rfl, h470, h471, h472, h473, o419, o420⟩)) ?_
 revert h hr705
 revert r704
 intro y476 hr705 h
 intro x e474 M475 hq703
 obtain ⟨rfl, h477, h478, h479, h480, o481, o482⟩ := hq703
 refine sN ?_
 rcases ite_some h with ⟨hb483, h⟩ | ⟨hb483, h⟩
 ·refine cT h480 hb483 (sq (Rg (kx (mvO rfl) (Rn (hV (.bool false) rfl hZ) fun e484 h486 => sN (xx (sR ?_))))))
  clear h477 h478 h479 h480
  obtain rfl := si h
  exact eR (resT h486 res0) rfl
 obtain ⟨⟨r494, r495⟩, hx493, h⟩ := bind_some h
 refine cF h480 hb483 (xx (sN (sq (Rg (kx (mvO rfl) (Rn (hV (.loc ([] : Mem).length 1 0 0) h477 (hV (.loc M41.length 1 0 0) h478 (hV (.sl (some 114) (r432.map Debt.c)) h479 (hV (.int .i64 0) rfl hZ)))) fun e487 h489 h490 h491 h492 => sN (sq (Rg (kx (faO h490 o482 rfl) (kx (ldO rfl o482 rfl rfl rfl) (kx (lnS Try.underlying24 rfl) (kx (mvO h491) (kc (cl (v := .tup [.sl (some 2) (r494.map (cI .i64)), .int .i64 r495]) rfl rfl (cns rfl (cns rfl rfl)) rfl (spec_NetsOf_ok (r53.length : Int) r432 _ hx493) nm) (kx (mvO rfl) (kx (exT rfl rfl) (kx (exT rfl rfl) (kx (mvO rfl) (kx (mvO rfl) (Rn (hA h489 (hA h490 (hA h492 (hN rfl (hN rfl hZ))))) fun e496 h498 h499 h500 h501 h502 => sN (sq (sq (Rg (kx (mvO h502) (kx (bNeq rfl rfl) (Rn (hA h498 (hA h499 (hA h500 (hA h501 (hN rfl hZ))))) fun e503 h505 h506 h507 h508 h509 => sN ?_)))))))))))))))))))))))))
 clear h477 h478 h479 h480 h489 h490 h491 h492 h498 h499 h500 h501 h502
 rcases ite_some h with ⟨hb510, h⟩ | ⟨hb510, h⟩
 ·refine cT h509 hb510 (sq (Rg (kx (mvO rfl) (Rn (hV (.bool false) rfl hZ) fun e511 h513 => sN (xx (sR ?_))))))
  clear h505 h506 h507 h508 h509
  obtain rfl := si h
  exact eR (resT h513 res0) rfl
 obtain ⟨r685, hr686, h⟩ := bind_some h
 refine cF h509 hb510 (xx (sN (sq (sq (Rg (kx (mvO rfl) (Rn (hA h505 (hA h506 (hA h507 (hA h508 (hV (.int .i64 0) rfl hZ))))) fun e514 h516 h517 h518 h519 h520 => sN (bl ?_))))))))
 clear h505 h506 h507 h508 h509
 rcases r685 with _ | y693
 ·refine Ev.loop (RS := laws_FnBooks_b2_RS r15 r16 r17 r52 r53 r54 r494 (([] : Mem).length) M41.length) (RR := laws_FnBooks_b2_RR r15 r16 r17 r52 r53 r54 r494 (([] : Mem).length) M41.length) (fun s r h e M hs => laws_FnBooks_b2_ok r15 r16 r17 r52 r53 r54 r494 (([] : Mem).length) M41.length ne60 s r h e M hs) hr686 ⟨h516, h517, h518, h519, h520, o481, o482⟩ fun x e688 M689 hq687 => ?_
  obtain ⟨rfl, h690⟩ := hq687
  refine bR (sR ?_)
  obtain rfl := si h
  exact eR (resT h690 res0) rfl
 refine Ev.loop (RS := laws_FnBooks_b2_RS r15 r16 r17 r52 r53 r54 r494 (([] : Mem).length) M41.length) (RR := laws_FnBooks_b2_RR r15 r16 r17 r52 r53 r54 r494 (([] : Mem).length) M41.length) (fun s r h e M hs => laws_FnBooks_b2_ok r15 r16 r17 r52 r53 r54 r494 (([] : Mem).length) M41.length ne60 s r h e M hs) hr686 ⟨h516, h517, h518, h519, h520, o481, o482⟩ fun x e691 M692 hq687 => ?_
 obtain ⟨rfl, h694, h695, o696, o697⟩ := hq687
 obtain ⟨r699, hx698, h⟩ := bind_some h
 refine bE (sN (sq (Rg (kx (mvO h695) (kx (faO h694 o696 rfl) (kx (ldO rfl o696 rfl rfl rfl) (kc (cl (v := .int .i64 r699) rfl rfl (cns rfl rfl) rfl (spec_A2Sum_ok r16 _ hx698) nm) (kx (bEql rfl rfl) (kx (mvO rfl) (Rn (hN rfl hZ) fun e700 h702 => sN (xx ?_)))))))))))
 clear h694 h695
 obtain rfl := si h
 exact eR (resT h702 res0) rfl
end Go.Proofs.Ytjlalepbhcekoaa

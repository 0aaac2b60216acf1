/- Printed by a program of ours (ext.py). -/
import Derived.Test.YtjlalepbhcekoaaDoorLnkRollsx0
set_option linter.unusedVariables false
set_option linter.unusedSimpArgs false
set_option maxRecDepth 100000
set_option maxHeartbeats 2000000
namespace Go.Proofs.YtjlalepbhcekoaaDoor
open Go Go.Ab
/-! ### loop.example/g01263/impl.MakeRoll (f32) -/
abbrev impl_MakeRoll_l_b1_S := Int × (List Account) × Int
abbrev impl_MakeRoll_l_b1_R := ((List Account) × Int) ⊕ ((List Account) × Int)
def impl_MakeRoll_l_b1_RS (a1 : List Account) (i1_2 : Nat) (j1 : Nat) (M0 : Mem) (s : impl_MakeRoll_l_b1_S) (e : Env) (M : Mem) : Prop := ∃ i1_1 : Nat, eget e 0 = .lsl j1 a1.length 0 a1.length ∧ eget e 2 = .loc i1_2 1 0 0 ∧ eget e 9 = .lsl j1 a1.length 0 a1.length ∧ eget e 10 = .int .i64 (a1.length : Int) ∧ eget e 11 = .int .i64 s.1 ∧ M[i1_1]? = some (.live ⟨.grow, 27, 3, s.2.1.map Account.c⟩) ∧ M[i1_2]? = some (.live ⟨.box, 74, 2, [[.lsl i1_1 s.2.1.length 0 s.2.1.length, .int .i64 s.2.2]]⟩) ∧ M[j1]? = some (.live ⟨.grow, 27, 3, a1.map Account.c⟩) ∧ Fr [j1] M0 M ∧ i1_1 ≠ i1_2 ∧ i1_1 ≠ j1 ∧ Nf [j1] M0 i1_1
def impl_MakeRoll_l_b1_RR (a1 : List Account) (i1_2 : Nat) (j1 : Nat) (M0 : Mem) (r : impl_MakeRoll_l_b1_R) (x : Ex) (e : Env) (M : Mem) : Prop :=
  match r with
  | (.inl g) => x = .ret ∧ ∃ i1_1 : Nat, eget e 2 = .loc i1_2 1 0 0 ∧ eget e 3 = .int .i64 1 ∧ M[i1_1]? = some (.live ⟨.grow, 27, 3, g.1.map Account.c⟩) ∧ M[i1_2]? = some (.live ⟨.box, 74, 2, [[.lsl i1_1 g.1.length 0 g.1.length, .int .i64 g.2]]⟩) ∧ M[j1]? = some (.live ⟨.grow, 27, 3, a1.map Account.c⟩) ∧ Fr [j1] M0 M ∧ i1_1 ≠ i1_2 ∧ i1_1 ≠ j1 ∧ Nf [j1] M0 i1_1
  | (.inr g) => x = .ext 0 ∧ ∃ i1_1 : Nat, eget e 0 = .lsl j1 a1.length 0 a1.length ∧ eget e 2 = .loc i1_2 1 0 0 ∧ M[i1_1]? = some (.live ⟨.grow, 27, 3, g.1.map Account.c⟩) ∧ M[i1_2]? = some (.live ⟨.box, 74, 2, [[.lsl i1_1 g.1.length 0 g.1.length, .int .i64 g.2]]⟩) ∧ M[j1]? = some (.live ⟨.grow, 27, 3, a1.map Account.c⟩) ∧ Fr [j1] M0 M ∧ i1_1 ≠ i1_2 ∧ i1_1 ≠ j1 ∧ Nf [j1] M0 i1_1
noncomputable def impl_MakeRoll_l_b1 (a1 : List Account) : impl_MakeRoll_l_b1_S → Option (impl_MakeRoll_l_b1_S ⊕ impl_MakeRoll_l_b1_R) := fun (s1_1, s1_2, s1_3) =>
 if (decide (s1_1 < (a1.length : Int))) = true then
  (rd a1 s1_1).bind fun x69 =>
  (impl_CheckAccount x69).bind fun r115 =>
  if r115 = true then
   some (.inl ((IntKind.i64.wrap (s1_1 + 1)), s1_2, s1_3))
  else
   some (.inr (.inl (([] : List Account), 0)))
 else
  some (.inr (.inr (s1_2, s1_3)))
theorem impl_MakeRoll_l_b1_ok (a1 : List Account) (i1_2 : Nat) (j1 : Nat) (M0 : Mem) (ne6 : j1 ≠ i1_2) (nf11 : Nf [j1] M0 i1_2) (s : impl_MakeRoll_l_b1_S) (r : impl_MakeRoll_l_b1_S ⊕ impl_MakeRoll_l_b1_R) (h : impl_MakeRoll_l_b1 a1 s = some r) (e : Env) (M : Mem) (hs : impl_MakeRoll_l_b1_RS a1 i1_2 j1 M0 s e M) : Ev (fun k => (f32_l2 (CN k) k (prune [0, 2, 9, 10, 11] e) M).bind fun q => some q) (bQ (impl_MakeRoll_l_b1_RS a1 i1_2 j1 M0) (impl_MakeRoll_l_b1_RR a1 i1_2 j1 M0) r) := by
 obtain ⟨s1_1, s1_2, s1_3⟩ := s
 unfold impl_MakeRoll_l_b1 at h
 obtain ⟨i1_1, h46, h48, h50, h52, h54, o58, o57, o56, fr59, ne41, ne42, nf43⟩ := hs
 generalize he45 : prune [0, 2, 9, 10, 11] e = e44
 have h47 := envp he45.symm rfl h46
 have h49 := envp he45.symm rfl h48
 have h51 := envp he45.symm rfl h50
 have h53 := envp he45.symm rfl h52
 have h55 := envp he45.symm rfl h54
 refine sq (Rg (kx (bLss h55 h53) (Rn (hV (.lsl j1 a1.length 0 a1.length) h47 (hV (.loc i1_2 1 0 0) h49 (hV (.lsl j1 a1.length 0 a1.length) h51 (hV (.int .i64 (a1.length : Int)) h53 (hV (.int .i64 s1_1) h55 (hN rfl hZ)))))) fun e60 h62 h63 h64 h65 h66 h67 => sN (sq ?_))))
 clear h47 h49 h51 h53 h55
 rcases ite_some h with ⟨hb68, h⟩ | ⟨hb68, h⟩
 ·obtain ⟨x69, hx70, h⟩ := bind_some h
  refine cT h67 hb68 (xx (sN (sq (bl (sq (Rg (kx (ixO h64 o56 rfl h66 (rd_get hx70).1 (rd_lt hx70).2) (kx (ldOA rfl o56 (by simp) (rz hx70) (ble rfl) rfl) (Ev.nxpushL (gho_one (alO zero27) nty27 (ghc rfl (ghn (ghc rfl ghz) co42)) (by decide)) fun M73 hM74 => ?_)))))))))
  have o75 := push_old hM74 o56
  have o76 := push_old hM74 o57
  have o77 := push_old hM74 o58
  have ne78 : j1 ≠ M.length := by have := lt_of_get (M := M) o56; omega
  have ne79 : i1_2 ≠ M.length := by have := lt_of_get (M := M) o57; omega
  have ne80 : i1_1 ≠ M.length := by have := lt_of_get (M := M) o58; omega
  have o81 : M73[M.length]? = some (.live ⟨.box, 27, 3, [[.str ([] : List UInt8), .lsl (M.length + 1) ([] : List Item).length 0 ([] : List Item).length, .int .i64 0]]⟩) := push_at hM74 0 rfl
  have ne82 : j1 ≠ (M.length + 1) := by have := lt_of_get (M := M) o56; omega
  have ne83 : i1_2 ≠ (M.length + 1) := by have := lt_of_get (M := M) o57; omega
  have ne84 : i1_1 ≠ (M.length + 1) := by have := lt_of_get (M := M) o58; omega
  have ne85 : M.length ≠ (M.length + 1) := by omega
  have o86 : M73[(M.length + 1)]? = some (.live ⟨.grow, 42, 2, ([] : List Item).map Item.c⟩) := push_at hM74 1 rfl
  have nf87 := Nf.mk fr59
  have nf88 := Nf.mkAt fr59 1
  have fr89 := Fr.push fr59 hM74
  obtain ⟨M90, hM91⟩ : ∃ x, x = M73 ++ ([] : List Ob).map Ent.live := ⟨_, rfl⟩
  have o92 := push_old hM91 o75
  have o93 := push_old hM91 o76
  have o94 := push_old hM91 o77
  have o95 := push_old hM91 o81
  have o96 := push_old hM91 o86
  have fr97 := Fr.push fr89 hM91
  refine kw (stG (kp := false) hM91 rfl nty27 (ghc rfl (ghc rfl (ghc rfl ghz))) (by decide) (stO rfl rfl o95 rfl rfl ⟨rfl, ble rfl⟩ rfl rfl)) fun M98 hM99 => ?_
  have o100 := set_ne hM99 ne78 o92
  have o101 := set_ne hM99 ne79 o93
  have o102 := set_ne hM99 ne80 o94
  have o103 : M98[M.length]? = some (.live ⟨.box, 27, 3, [[.str x69.Title, .sl none (x69.Items.map Item.c), .int .i64 x69.Balance]]⟩) := set_same hM99 o95
  have o104 := set_ne hM99 (Ne.symm ne85) o96
  have fr105 := Fr.setNew fr97 hM99 nf87
  obtain ⟨r115, hx114, h⟩ := bind_some h
  refine Rn (hA h62 (hA h63 (hV (.loc M.length 1 0 0) rfl (hA h64 (hA h65 (hA h66 hZ)))))) fun e106 h108 h109 h110 h111 h112 h113 => sN (sq (Rg (kx (ldOA h110 o103 rfl rfl (ble rfl) rfl) (kc (cl (v := .bool r115) rfl rfl (cns rfl rfl) rfl (impl_CheckAccount_ok x69 _ hx114) nm) (kx (uNot rfl) (Rn (hA h108 (hA h109 (hA h111 (hA h112 (hA h113 (hN rfl hZ)))))) fun e116 h118 h119 h120 h121 h122 h123 => sN ?_))))))
  clear h62 h63 h64 h65 h66 h67 h108 h109 h110 h111 h112 h113
  rcases ite_some h with ⟨hb124, h⟩ | ⟨hb124, h⟩
  ·refine cF h123 (congrArg Bool.not hb124) (xx (bN (sN (Rg (kx (bAdd h122 rfl) (kx (mvO rfl) (Rn (hA h118 (hA h119 (hA h120 (hA h121 (hN rfl hZ))))) fun e125 h127 h128 h129 h130 h131 => ?_)))))))
   clear h118 h119 h120 h121 h123
   obtain rfl := si h
   exact qN ⟨i1_1, h127, h128, h129, h130, h131, o102, o101, o100, fr105, ne41, ne42, nf43⟩
  refine cT h123 (congrArg Bool.not hb124) (sq (Rg (kx (bldT zero74 rfl (fill0 rfl)) ?_)))
  obtain ⟨M132, hM133⟩ : ∃ x, x = M98 ++ ([⟨.grow, 27, 3, ([] : List Account).map Account.c⟩] : List Ob).map Ent.live := ⟨_, rfl⟩
  have o135 := push_old hM133 o100
  have o136 := push_old hM133 o101
  have o137 := push_old hM133 o102
  have ne138 : j1 ≠ M98.length := by have := lt_of_get (M := M98) o100; omega
  have ne139 : i1_2 ≠ M98.length := by have := lt_of_get (M := M98) o101; omega
  have ne140 : i1_1 ≠ M98.length := by have := lt_of_get (M := M98) o102; omega
  have o141 : M132[M98.length]? = some (.live ⟨.grow, 27, 3, ([] : List Account).map Account.c⟩) := push_at hM133 0 rfl
  have nf142 := Nf.mk fr105
  have fr143 := Fr.push fr105 hM133
  refine kw (stG (kp := false) hM133 rfl nty74 (ghn (ghc rfl ghz) co27) (by decide) (stO h119 rfl o136 rfl rfl ⟨rfl, ble rfl⟩ (all1 (okL o141 (by simp)) (all1 rfl all0)) rfl)) fun M144 hM145 => ?_
  have o146 := set_ne hM145 ne6 o135
  have o147 : M144[i1_2]? = some (.live ⟨.box, 74, 2, [[.lsl M98.length ([] : List Account).length 0 ([] : List Account).length, .int .i64 0]]⟩) := set_same hM145 o136
  have o148 := set_ne hM145 ne41 o137
  have o149 := set_ne hM145 (Ne.symm ne139) o141
  have fr150 := Fr.setNew fr143 hM145 nf11
  refine kx (mvO rfl) (Rn (hA h119 (hV (.int .i64 1) rfl hZ)) fun e151 h153 h154 => sN (xx (bR (sR ?_))))
  clear h118 h119 h120 h121 h122 h123
  obtain rfl := si h
  exact qR ⟨rfl, M98.length, h153, h154, o149, (by simpa using o147), o146, fr150, (Ne.symm ne139), (Ne.symm ne138), nf142⟩
 refine cF h67 hb68 (xx (sE ?_))
 obtain rfl := si h
 exact qE ⟨rfl, i1_1, h62, h63, o58, (by simpa using o57), o56, fr59, ne41, ne42, nf43⟩
abbrev impl_MakeRoll_l_b2_S := Int × (List Account) × Int × Int × (List Account)
abbrev impl_MakeRoll_l_b2_R := ((List Account) × Int) ⊕ ((List Account) × Int × Int × (List Account))
def impl_MakeRoll_l_b2_RS (a1 : List Account) (i2_1 : Nat) (i2_2 : Nat) (i2_3 : Nat) (j1 : Nat) (M0 : Mem) (s : impl_MakeRoll_l_b2_S) (e : Env) (M : Mem) : Prop := ∃ i2_5 : Nat, eget e 0 = .lsl j1 a1.length 0 a1.length ∧ eget e 2 = .loc i2_1 1 0 0 ∧ eget e 6 = .loc i2_2 1 0 0 ∧ eget e 27 = .lsl j1 a1.length 0 a1.length ∧ eget e 28 = .int .i64 (a1.length : Int) ∧ eget e 29 = .int .i64 s.1 ∧ M[i2_5]? = some (.live ⟨.grow, 27, 3, s.2.1.map Account.c⟩) ∧ M[i2_1]? = some (.live ⟨.box, 74, 2, [[.lsl i2_5 s.2.1.length 0 s.2.1.length, .int .i64 s.2.2.1]]⟩) ∧ M[i2_2]? = some (.live ⟨.box, 74, 2, [[.lsl i2_3 s.2.2.2.2.length 0 s.2.2.2.2.length, .int .i64 s.2.2.2.1]]⟩) ∧ M[i2_3]? = some (.live ⟨.grow, 27, 3, s.2.2.2.2.map Account.c⟩) ∧ M[j1]? = some (.live ⟨.grow, 27, 3, a1.map Account.c⟩) ∧ Fr [j1] M0 M ∧ i2_5 ≠ i2_1 ∧ i2_5 ≠ i2_2 ∧ i2_5 ≠ i2_3 ∧ i2_5 ≠ j1 ∧ Nf [j1] M0 i2_5
def impl_MakeRoll_l_b2_RR (a1 : List Account) (i2_1 : Nat) (i2_2 : Nat) (i2_3 : Nat) (j1 : Nat) (M0 : Mem) (r : impl_MakeRoll_l_b2_R) (x : Ex) (e : Env) (M : Mem) : Prop :=
  match r with
  | (.inl g) => x = .ret ∧ ∃ i2_5 : Nat, eget e 2 = .loc i2_1 1 0 0 ∧ eget e 3 = .int .i64 4 ∧ M[i2_5]? = some (.live ⟨.grow, 27, 3, g.1.map Account.c⟩) ∧ M[i2_1]? = some (.live ⟨.box, 74, 2, [[.lsl i2_5 g.1.length 0 g.1.length, .int .i64 g.2]]⟩) ∧ M[j1]? = some (.live ⟨.grow, 27, 3, a1.map Account.c⟩) ∧ Fr [j1] M0 M ∧ i2_5 ≠ i2_1 ∧ i2_5 ≠ j1 ∧ Nf [j1] M0 i2_5
  | (.inr g) => x = .ext 2 ∧ ∃ i2_5 : Nat, eget e 2 = .loc i2_1 1 0 0 ∧ eget e 6 = .loc i2_2 1 0 0 ∧ M[i2_5]? = some (.live ⟨.grow, 27, 3, g.1.map Account.c⟩) ∧ M[i2_1]? = some (.live ⟨.box, 74, 2, [[.lsl i2_5 g.1.length 0 g.1.length, .int .i64 g.2.1]]⟩) ∧ M[i2_2]? = some (.live ⟨.box, 74, 2, [[.lsl i2_3 g.2.2.2.length 0 g.2.2.2.length, .int .i64 g.2.2.1]]⟩) ∧ M[i2_3]? = some (.live ⟨.grow, 27, 3, g.2.2.2.map Account.c⟩) ∧ M[j1]? = some (.live ⟨.grow, 27, 3, a1.map Account.c⟩) ∧ Fr [j1] M0 M ∧ i2_5 ≠ i2_1 ∧ i2_5 ≠ i2_2 ∧ i2_5 ≠ i2_3 ∧ i2_5 ≠ j1 ∧ Nf [j1] M0 i2_5
noncomputable def impl_MakeRoll_l_b2 (a1 : List Account) : impl_MakeRoll_l_b2_S → Option (impl_MakeRoll_l_b2_S ⊕ impl_MakeRoll_l_b2_R) := fun (s2_1, s2_2, s2_3, s2_4, s2_5) =>
 if (decide (s2_1 < (a1.length : Int))) = true then
  (rd a1 s2_1).bind fun x329 =>
  if (s2_1 == 0) = true then
   (impl_hasTitle ([] : List Account) x329.Title).bind fun r388 =>
   if r388 = true then
    some (.inr (.inl (([] : List Account), 0)))
   else
    (impl_ownAccount x329).bind fun (r433, r434, r435) =>
    (app 48 s2_5 [(Account.mk r433 r434 r435)]).bind fun x436 =>
    some (.inl ((IntKind.i64.wrap (s2_1 + 1)), s2_2, s2_3, s2_4, x436))
  else
   (slw a1.length s2_1).bind fun x472 =>
   (impl_hasTitle (a1.take x472) x329.Title).bind fun r475 =>
   if r475 = true then
    some (.inr (.inl (([] : List Account), 0)))
   else
    (impl_ownAccount x329).bind fun (r520, r521, r522) =>
    (app 48 s2_5 [(Account.mk r520 r521 r522)]).bind fun x523 =>
    some (.inl ((IntKind.i64.wrap (s2_1 + 1)), s2_2, s2_3, s2_4, x523))
 else
  some (.inr (.inr (s2_2, s2_3, s2_4, s2_5)))
theorem impl_MakeRoll_l_b2_ok (a1 : List Account) (i2_1 : Nat) (i2_2 : Nat) (i2_3 : Nat) (j1 : Nat) (M0 : Mem) (ne225 : i2_1 ≠ i2_2) (ne245 : i2_1 ≠ i2_3) (ne247 : i2_2 ≠ i2_3) (ne6 : j1 ≠ i2_1) (ne226 : j1 ≠ i2_2) (ne246 : j1 ≠ i2_3) (nf11 : Nf [j1] M0 i2_1) (nf233 : Nf [j1] M0 i2_2) (nf250 : Nf [j1] M0 i2_3) (s : impl_MakeRoll_l_b2_S) (r : impl_MakeRoll_l_b2_S ⊕ impl_MakeRoll_l_b2_R) (h : impl_MakeRoll_l_b2 a1 s = some r) (e : Env) (M : Mem) (hs : impl_MakeRoll_l_b2_RS a1 i2_1 i2_2 i2_3 j1 M0 s e M) : Ev (fun k => (f32_l11 (CN k) k (prune [0, 2, 6, 27, 28, 29] e) M).bind fun q => some q) (bQ (impl_MakeRoll_l_b2_RS a1 i2_1 i2_2 i2_3 j1 M0) (impl_MakeRoll_l_b2_RR a1 i2_1 i2_2 i2_3 j1 M0) r) := by
 obtain ⟨s2_1, s2_2, s2_3, s2_4, s2_5⟩ := s
 unfold impl_MakeRoll_l_b2 at h
 obtain ⟨i2_5, h301, h303, h305, h307, h309, h311, o313, o314, o316, o317, o315, fr318, ne294, ne295, ne296, ne297, nf298⟩ := hs
 generalize he300 : prune [0, 2, 6, 27, 28, 29] e = e299
 have h302 := envp he300.symm rfl h301
 have h304 := envp he300.symm rfl h303
 have h306 := envp he300.symm rfl h305
 have h308 := envp he300.symm rfl h307
 have h310 := envp he300.symm rfl h309
 have h312 := envp he300.symm rfl h311
 refine sq (Rg (kx (bLss h312 h310) (Rn (hV (.lsl j1 a1.length 0 a1.length) h302 (hV (.loc i2_1 1 0 0) h304 (hV (.loc i2_2 1 0 0) h306 (hV (.lsl j1 a1.length 0 a1.length) h308 (hV (.int .i64 (a1.length : Int)) h310 (hV (.int .i64 s2_1) h312 (hN rfl hZ))))))) fun e319 h321 h322 h323 h324 h325 h326 h327 => sN (sq ?_))))
 clear h302 h304 h306 h308 h310 h312
 rcases ite_some h with ⟨hb328, h⟩ | ⟨hb328, h⟩
 ·obtain ⟨x329, hx330, h⟩ := bind_some h
  refine cT h327 hb328 (xx (sN (sq (bl (sq (Rg (kx (mvO h326) (kx (ixO h324 o315 rfl h326 (rd_get hx330).1 (rd_lt hx330).2) (kx (ldOA rfl o315 (by simp) (rz hx330) (ble rfl) rfl) (Ev.nxpushL (gho_one (alO zero27) nty27 (ghc rfl (ghn (ghc rfl ghz) co42)) (by decide)) fun M333 hM334 => ?_))))))))))
  have o335 := push_old hM334 o313
  have o336 := push_old hM334 o314
  have o337 := push_old hM334 o315
  have o338 := push_old hM334 o316
  have o339 := push_old hM334 o317
  have ne340 : i2_5 ≠ M.length := by have := lt_of_get (M := M) o313; omega
  have ne341 : i2_1 ≠ M.length := by have := lt_of_get (M := M) o314; omega
  have ne342 : j1 ≠ M.length := by have := lt_of_get (M := M) o315; omega
  have ne343 : i2_2 ≠ M.length := by have := lt_of_get (M := M) o316; omega
  have ne344 : i2_3 ≠ M.length := by have := lt_of_get (M := M) o317; omega
  have o345 : M333[M.length]? = some (.live ⟨.box, 27, 3, [[.str ([] : List UInt8), .lsl (M.length + 1) ([] : List Item).length 0 ([] : List Item).length, .int .i64 0]]⟩) := push_at hM334 0 rfl
  have ne346 : i2_5 ≠ (M.length + 1) := by have := lt_of_get (M := M) o313; omega
  have ne347 : i2_1 ≠ (M.length + 1) := by have := lt_of_get (M := M) o314; omega
  have ne348 : j1 ≠ (M.length + 1) := by have := lt_of_get (M := M) o315; omega
  have ne349 : i2_2 ≠ (M.length + 1) := by have := lt_of_get (M := M) o316; omega
  have ne350 : i2_3 ≠ (M.length + 1) := by have := lt_of_get (M := M) o317; omega
  have ne351 : M.length ≠ (M.length + 1) := by omega
  have o352 : M333[(M.length + 1)]? = some (.live ⟨.grow, 42, 2, ([] : List Item).map Item.c⟩) := push_at hM334 1 rfl
  have nf353 := Nf.mk fr318
  have nf354 := Nf.mkAt fr318 1
  have fr355 := Fr.push fr318 hM334
  refine kx (mvO rfl) ?_
  obtain ⟨M356, hM357⟩ : ∃ x, x = M333 ++ ([] : List Ob).map Ent.live := ⟨_, rfl⟩
  have o358 := push_old hM357 o335
  have o359 := push_old hM357 o336
  have o360 := push_old hM357 o337
  have o361 := push_old hM357 o338
  have o362 := push_old hM357 o339
  have o363 := push_old hM357 o345
  have o364 := push_old hM357 o352
  have fr365 := Fr.push fr355 hM357
  refine kw (stG (kp := false) hM357 rfl nty27 (ghc rfl (ghc rfl (ghc rfl ghz))) (by decide) (stO rfl rfl o363 rfl rfl ⟨rfl, ble rfl⟩ rfl rfl)) fun M366 hM367 => ?_
  have o368 := set_ne hM367 ne340 o358
  have o369 := set_ne hM367 ne341 o359
  have o370 := set_ne hM367 ne342 o360
  have o371 := set_ne hM367 ne343 o361
  have o372 := set_ne hM367 ne344 o362
  have o373 : M366[M.length]? = some (.live ⟨.box, 27, 3, [[.str x329.Title, .sl none (x329.Items.map Item.c), .int .i64 x329.Balance]]⟩) := set_same hM367 o363
  have o374 := set_ne hM367 (Ne.symm ne351) o364
  have fr375 := Fr.setNew fr365 hM367 nf353
  refine Rn (hA h321 (hA h322 (hA h323 (hN rfl (hV (.loc M.length 1 0 0) rfl (hA h324 (hA h325 (hA h326 hZ)))))))) fun e376 h378 h379 h380 h381 h382 h383 h384 h385 => sN (sq (sq (Rd (kf (mvO h378) (kf (mvO h381) ?_)))))
  clear h321 h322 h323 h324 h325 h326 h327
  rcases ite_some h with ⟨hb386, h⟩ | ⟨hb386, h⟩
  ·obtain ⟨r388, hx387, h⟩ := bind_some h
   refine kf (slW0 rfl o370 rfl rfl hb386) (kf (faO h382 o373 rfl) (kf (ldO rfl o373 rfl rfl rfl) (fc (cl (v := .bool r388) rfl rfl (cns rfl (cns rfl rfl)) rfl (impl_hasTitle_ok ([] : List Account) x329.Title _ hx387) nm) (fZ (Rn (hA h378 (hA h379 (hA h380 (hA h382 (hA h383 (hA h384 (hA h385 (hN rfl hZ)))))))) fun e389 h391 h392 h393 h394 h395 h396 h397 h398 => sN ?_)))))
   clear h378 h379 h380 h381 h382 h383 h384 h385
   rcases ite_some h with ⟨hb399, h⟩ | ⟨hb399, h⟩
   ·refine cT h398 hb399 (sq (Rg (kx (bldT zero74 rfl (fill0 rfl)) ?_)))
    obtain ⟨M400, hM401⟩ : ∃ x, x = M366 ++ ([⟨.grow, 27, 3, ([] : List Account).map Account.c⟩] : List Ob).map Ent.live := ⟨_, rfl⟩
    have o403 := push_old hM401 o368
    have o404 := push_old hM401 o369
    have o405 := push_old hM401 o370
    have o406 := push_old hM401 o371
    have o407 := push_old hM401 o372
    have o408 := push_old hM401 o373
    have ne409 : i2_5 ≠ M366.length := by have := lt_of_get (M := M366) o368; omega
    have ne410 : i2_1 ≠ M366.length := by have := lt_of_get (M := M366) o369; omega
    have ne411 : j1 ≠ M366.length := by have := lt_of_get (M := M366) o370; omega
    have ne412 : i2_2 ≠ M366.length := by have := lt_of_get (M := M366) o371; omega
    have ne413 : i2_3 ≠ M366.length := by have := lt_of_get (M := M366) o372; omega
    have ne414 : M.length ≠ M366.length := by have := lt_of_get (M := M366) o373; omega
    have o415 : M400[M366.length]? = some (.live ⟨.grow, 27, 3, ([] : List Account).map Account.c⟩) := push_at hM401 0 rfl
    have nf416 := Nf.mk fr375
    have fr417 := Fr.push fr375 hM401
    refine kw (stG (kp := false) hM401 rfl nty74 (ghn (ghc rfl ghz) co27) (by decide) (stO h392 rfl o404 rfl rfl ⟨rfl, ble rfl⟩ (all1 (okL o415 (by simp)) (all1 rfl all0)) rfl)) fun M418 hM419 => ?_
    have o420 := set_ne hM419 ne294 o403
    have o421 : M418[i2_1]? = some (.live ⟨.box, 74, 2, [[.lsl M366.length ([] : List Account).length 0 ([] : List Account).length, .int .i64 0]]⟩) := set_same hM419 o404
    have o422 := set_ne hM419 ne6 o405
    have o423 := set_ne hM419 (Ne.symm ne225) o406
    have o424 := set_ne hM419 (Ne.symm ne245) o407
    have o425 := set_ne hM419 (Ne.symm ne341) o408
    have o426 := set_ne hM419 (Ne.symm ne410) o415
    have fr427 := Fr.setNew fr417 hM419 nf11
    refine kx (mvO rfl) (Rn (hA h392 (hV (.int .i64 4) rfl hZ)) fun e428 h430 h431 => sN (xx (sR (bR (sR ?_)))))
    clear h391 h392 h393 h394 h395 h396 h397 h398
    obtain rfl := si h
    exact qR ⟨rfl, M366.length, h430, h431, o426, (by simpa using o421), o422, fr427, (Ne.symm ne410), (Ne.symm ne411), nf416⟩
   obtain ⟨⟨r433, r434, r435⟩, hx432, h⟩ := bind_some h
   obtain ⟨x436, hx437, h⟩ := bind_some h
   refine cF h398 hb399 (xx (sN (Rd (kf (faO h393 o371 rfl) (kf (ldO rfl o371 rfl rfl rfl) (kf (ldOA h394 o373 rfl rfl (ble rfl) rfl) (fc (cl (v := .agg [.str r433, .sl none (r434.map Item.c), .int .i64 r435]) rfl rfl (cns rfl rfl) rfl (impl_ownAccount_ok x329 _ hx432) nm) (kf (litI (cns rfl rfl) rfl ⟨rfl, by decide⟩) (fZ (kw (apO rfl o372 rfl (elT (c := Account.c) (xs := [(Account.mk r433 r434 r435)]) rfl) hx437 Account.fl (by decide)) fun M438 hM439 => ?_))))))))))
   have o440 := set_ne hM439 ne296 o368
   have o441 := set_ne hM439 ne245 o369
   have o442 := set_ne hM439 ne246 o370
   have o443 := set_ne hM439 ne247 o371
   have o444 : M438[i2_3]? = some (.live ⟨.grow, 27, 3, x436.map Account.c⟩) := set_same hM439 o372
   have o445 := set_ne hM439 (Ne.symm ne344) o373
   have fr446 := Fr.setNew fr375 hM439 nf250
   refine kx (faO h393 o443 rfl) (kw (stO rfl rfl o443 rfl rfl ⟨rfl, ble rfl⟩ (all1 (okL o444 (by simp)) all0) rfl) fun M447 hM448 => ?_)
   have o449 := set_ne hM448 ne295 o440
   have o450 := set_ne hM448 ne225 o441
   have o451 := set_ne hM448 ne226 o442
   have o452 : M447[i2_2]? = some (.live ⟨.box, 74, 2, [[.lsl i2_3 x436.length 0 x436.length, .int .i64 s2_4]]⟩) := set_same hM448 o443
   have o453 := set_ne hM448 (Ne.symm ne247) o444
   have o454 := set_ne hM448 (Ne.symm ne343) o445
   have fr455 := Fr.setNew fr446 hM448 nf233
   refine Rn (hA h391 (hA h392 (hA h393 (hA h395 (hA h396 (hA h397 hZ)))))) fun e456 h458 h459 h460 h461 h462 h463 => bN (sN (Rg (kx (bAdd h463 rfl) (kx (mvO rfl) (Rn (hA h458 (hA h459 (hA h460 (hA h461 (hA h462 (hN rfl hZ)))))) fun e464 h466 h467 h468 h469 h470 h471 => ?_)))))
   clear h391 h392 h393 h394 h395 h396 h397 h398 h458 h459 h460 h461 h462
   obtain rfl := si h
   exact qN ⟨i2_5, h466, h467, h468, h469, h470, h471, o449, o450, (by simpa using o452), o453, o451, fr455, ne294, ne295, ne296, ne297, nf298⟩
  obtain ⟨x472, hx473, h⟩ := bind_some h
  obtain ⟨r475, hx474, h⟩ := bind_some h
  refine kf (slW rfl o370 rfl rfl hx473) (kf (faO h382 o373 rfl) (kf (ldO rfl o373 rfl rfl rfl) (fc (cl (v := .bool r475) rfl rfl (cns rfl (cns rfl rfl)) (ra1 (ra1_win o370 rfl (slw_le hx473 (Nat.le_refl _)) Account.fl) (ra1 rfl ra0)) (impl_hasTitle_ok (a1.take x472) x329.Title _ hx474) (fun _ => rfl)) (fZ (Rn (hA h378 (hA h379 (hA h380 (hA h382 (hA h383 (hA h384 (hA h385 (hN rfl hZ)))))))) fun e476 h478 h479 h480 h481 h482 h483 h484 h485 => sN ?_)))))
  clear h378 h379 h380 h381 h382 h383 h384 h385
  rcases ite_some h with ⟨hb486, h⟩ | ⟨hb486, h⟩
  ·refine cT h485 hb486 (sq (Rg (kx (bldT zero74 rfl (fill0 rfl)) ?_)))
   obtain ⟨M487, hM488⟩ : ∃ x, x = M366 ++ ([⟨.grow, 27, 3, ([] : List Account).map Account.c⟩] : List Ob).map Ent.live := ⟨_, rfl⟩
   have o490 := push_old hM488 o368
   have o491 := push_old hM488 o369
   have o492 := push_old hM488 o370
   have o493 := push_old hM488 o371
   have o494 := push_old hM488 o372
   have o495 := push_old hM488 o373
   have ne496 : i2_5 ≠ M366.length := by have := lt_of_get (M := M366) o368; omega
   have ne497 : i2_1 ≠ M366.length := by have := lt_of_get (M := M366) o369; omega
   have ne498 : j1 ≠ M366.length := by have := lt_of_get (M := M366) o370; omega
   have ne499 : i2_2 ≠ M366.length := by have := lt_of_get (M := M366) o371; omega
   have ne500 : i2_3 ≠ M366.length := by have := lt_of_get (M := M366) o372; omega
   have ne501 : M.length ≠ M366.length := by have := lt_of_get (M := M366) o373; omega
   have o502 : M487[M366.length]? = some (.live ⟨.grow, 27, 3, ([] : List Account).map Account.c⟩) := push_at hM488 0 rfl
   have nf503 := Nf.mk fr375
   have fr504 := Fr.push fr375 hM488
   refine kw (stG (kp := false) hM488 rfl nty74 (ghn (ghc rfl ghz) co27) (by decide) (stO h479 rfl o491 rfl rfl ⟨rfl, ble rfl⟩ (all1 (okL o502 (by simp)) (all1 rfl all0)) rfl)) fun M505 hM506 => ?_
   have o507 := set_ne hM506 ne294 o490
   have o508 : M505[i2_1]? = some (.live ⟨.box, 74, 2, [[.lsl M366.length ([] : List Account).length 0 ([] : List Account).length, .int .i64 0]]⟩) := set_same hM506 o491
   have o509 := set_ne hM506 ne6 o492
   have o510 := set_ne hM506 (Ne.symm ne225) o493
   have o511 := set_ne hM506 (Ne.symm ne245) o494
   have o512 := set_ne hM506 (Ne.symm ne341) o495
   have o513 := set_ne hM506 (Ne.symm ne497) o502
   have fr514 := Fr.setNew fr504 hM506 nf11
   refine kx (mvO rfl) (Rn (hA h479 (hV (.int .i64 4) rfl hZ)) fun e515 h517 h518 => sN (xx (sR (bR (sR ?_)))))
   clear h478 h479 h480 h481 h482 h483 h484 h485
   obtain rfl := si h
   exact qR ⟨rfl, M366.length, h517, h518, o513, (by simpa using o508), o509, fr514, (Ne.symm ne497), (Ne.symm ne498), nf503⟩
  obtain ⟨⟨r520, r521, r522⟩, hx519, h⟩ := bind_some h
  obtain ⟨x523, hx524, h⟩ := bind_some h
  refine cF h485 hb486 (xx (sN (Rd (kf (faO h480 o371 rfl) (kf (ldO rfl o371 rfl rfl rfl) (kf (ldOA h481 o373 rfl rfl (ble rfl) rfl) (fc (cl (v := .agg [.str r520, .sl none (r521.map Item.c), .int .i64 r522]) rfl rfl (cns rfl rfl) rfl (impl_ownAccount_ok x329 _ hx519) nm) (kf (litI (cns rfl rfl) rfl ⟨rfl, by decide⟩) (fZ (kw (apO rfl o372 rfl (elT (c := Account.c) (xs := [(Account.mk r520 r521 r522)]) rfl) hx524 Account.fl (by decide)) fun M525 hM526 => ?_))))))))))
  have o527 := set_ne hM526 ne296 o368
  have o528 := set_ne hM526 ne245 o369
  have o529 := set_ne hM526 ne246 o370
  have o530 := set_ne hM526 ne247 o371
  have o531 : M525[i2_3]? = some (.live ⟨.grow, 27, 3, x523.map Account.c⟩) := set_same hM526 o372
  have o532 := set_ne hM526 (Ne.symm ne344) o373
  have fr533 := Fr.setNew fr375 hM526 nf250
  refine kx (faO h480 o530 rfl) (kw (stO rfl rfl o530 rfl rfl ⟨rfl, ble rfl⟩ (all1 (okL o531 (by simp)) all0) rfl) fun M534 hM535 => ?_)
  have o536 := set_ne hM535 ne295 o527
  have o537 := set_ne hM535 ne225 o528
  have o538 := set_ne hM535 ne226 o529
  have o539 : M534[i2_2]? = some (.live ⟨.box, 74, 2, [[.lsl i2_3 x523.length 0 x523.length, .int .i64 s2_4]]⟩) := set_same hM535 o530
  have o540 := set_ne hM535 (Ne.symm ne247) o531
  have o541 := set_ne hM535 (Ne.symm ne343) o532
  have fr542 := Fr.setNew fr533 hM535 nf233
  refine Rn (hA h478 (hA h479 (hA h480 (hA h482 (hA h483 (hA h484 hZ)))))) fun e543 h545 h546 h547 h548 h549 h550 => bN (sN (Rg (kx (bAdd h550 rfl) (kx (mvO rfl) (Rn (hA h545 (hA h546 (hA h547 (hA h548 (hA h549 (hN rfl hZ)))))) fun e551 h553 h554 h555 h556 h557 h558 => ?_)))))
  clear h478 h479 h480 h481 h482 h483 h484 h485 h545 h546 h547 h548 h549
  obtain rfl := si h
  exact qN ⟨i2_5, h553, h554, h555, h556, h557, h558, o536, o537, (by simpa using o539), o540, o538, fr542, ne294, ne295, ne296, ne297, nf298⟩
 refine cF h327 hb328 (xx (sE ?_))
 obtain rfl := si h
 exact qE ⟨rfl, i2_5, h322, h323, o313, (by simpa using o314), (by simpa using o316), o317, o315, fr318, ne294, ne295, ne296, ne297, nf298⟩
noncomputable def impl_MakeRoll_l (a1 : List Account) : Option (Int × Int × (List Account)) :=
 (Lw (impl_MakeRoll_l_b1 a1) (0, ([] : List Account), 0)).bind fun r => match r with
 | (.inl (y160, y161)) =>
  some (y161, 1, y160)
 | (.inr (y174, y175)) =>
  if (decide ((a1.length : Int) > 20)) = true then
   some (0, 3, ([] : List Account))
  else
   (impl_owed a1).bind fun r216 =>
   (Lw (impl_MakeRoll_l_b2 a1) (0, y174, y175, r216, ([] : List Account))).bind fun r => match r with
   | (.inl (y564, y565)) =>
    some (y565, 4, y564)
   | (.inr (y578, y579, y580, y581)) =>
    some (y580, 0, y581)
def impl_MakeRoll_l_Q (a1 : List Account) (j1 : Nat) (M0 : Mem) (r : Int × Int × (List Account)) (p : AV × Mem) : Prop := (∃ n1 : Nat, p.1 = .tup [.agg [.lsl n1 r.2.2.length 0 r.2.2.length, .int .i64 r.1], .int .i64 r.2.1] ∧ p.2[n1]? = some (.live ⟨.grow, 27, 3, r.2.2.map Account.c⟩) ∧ p.2[j1]? = some (.live ⟨.grow, 27, 3, a1.map Account.c⟩) ∧ Fr [j1] M0 p.2 ∧ Nf [j1] M0 n1 ∧ j1 ≠ n1 ∧ a1.length = a1.length)
theorem impl_MakeRoll_l_ok (a1 : List Account) (j1 : Nat) (M0 : Mem) (oP1 : M0[j1]? = some (.live ⟨.grow, 27, 3, a1.map Account.c⟩)) (r : Int × Int × (List Account)) (h : impl_MakeRoll_l a1 = some r) : Ev (fun k => CN k 32 [.lsl j1 a1.length 0 a1.length] M0) (impl_MakeRoll_l_Q a1 j1 M0 r) := by
 unfold impl_MakeRoll_l at h
 have fr0 : Fr [j1] M0 M0 := Fr.refl
 refine Ev.enter (F := fun k => f32 (CN k) k) (fun k => callN_eq rfl Tryd.func32 rfl rfl rfl (by decide +kernel) (f32_eq _ _)) (sq (Rg (Ev.nxpushL (gho_one (alO zero74) nty74 (ghn (ghc rfl ghz) co27) (by decide)) fun M3 hM4 => ?_)))
 have o5 := push_old hM4 oP1
 have ne6 : j1 ≠ M0.length := by have := lt_of_get (M := M0) oP1; omega
 have o7 : M3[M0.length]? = some (.live ⟨.box, 74, 2, [[.lsl (M0.length + 1) ([] : List Account).length 0 ([] : List Account).length, .int .i64 0]]⟩) := push_at hM4 0 rfl
 have ne8 : j1 ≠ (M0.length + 1) := by have := lt_of_get (M := M0) oP1; omega
 have ne9 : M0.length ≠ (M0.length + 1) := by omega
 have o10 : M3[(M0.length + 1)]? = some (.live ⟨.grow, 27, 3, ([] : List Account).map Account.c⟩) := push_at hM4 1 rfl
 have nf11 := Nf.mk fr0
 have nf12 := Nf.mkAt fr0 1
 have fr13 := Fr.push fr0 hM4
 obtain ⟨r155, hr156, h⟩ := bind_some h
 refine kx (mvO rfl) (Rn (hV (.lsl j1 a1.length 0 a1.length) rfl (hV (.loc M0.length 1 0 0) rfl hZ)) fun e14 h16 h17 => sN (sq (sq (Rg (kx (mvO h16) (kx (lnL Tryd.underlying72 rfl o5 (by simp)) (kx (mvO rfl) (Rn (hA h16 (hA h17 (hV (.lsl j1 a1.length 0 a1.length) rfl (hN rfl (hV (.int .i64 0) rfl hZ))))) fun e18 h20 h21 h22 h23 h24 => sN (bl ?_)))))))))
 clear h16 h17
 rcases r155 with ⟨y160, y161⟩ | ⟨y174, y175⟩
 ·refine Ev.loop (RS := impl_MakeRoll_l_b1_RS a1 M0.length j1 M0) (RR := impl_MakeRoll_l_b1_RR a1 M0.length j1 M0) (fun s r h e M hs => impl_MakeRoll_l_b1_ok a1 M0.length j1 M0 ne6 nf11 s r h e M hs) hr156 ⟨(M0.length + 1), h20, h21, h22, h23, h24, o10, o7, o5, fr13, (Ne.symm ne9), (Ne.symm ne8), nf12⟩ fun x e158 M159 hq157 => ?_
  obtain ⟨rfl, m162, h163, h164, o165, o166, o167, fr168, ne169, ne170, nf171⟩ := hq157
  refine bR (sR ?_)
  obtain rfl := si h
  exact eR (resC (ag := true) (sz := 2) ⟨by kernel_rfl, by kernel_rfl, by kernel_rfl⟩ (ldOA h163 o166 rfl rfl (ble rfl) rfl) (resT h164 res0)) ⟨m162, rfl, o165, o167, fr168, nf171, (Ne.symm ne170), (by first | rfl | simp)⟩
 refine Ev.loop (RS := impl_MakeRoll_l_b1_RS a1 M0.length j1 M0) (RR := impl_MakeRoll_l_b1_RR a1 M0.length j1 M0) (fun s r h e M hs => impl_MakeRoll_l_b1_ok a1 M0.length j1 M0 ne6 nf11 s r h e M hs) hr156 ⟨(M0.length + 1), h20, h21, h22, h23, h24, o10, o7, o5, fr13, (Ne.symm ne9), (Ne.symm ne8), nf12⟩ fun x e172 M173 hq157 => ?_
 obtain ⟨rfl, m176, h177, h178, o179, o180, o181, fr182, ne183, ne184, nf185⟩ := hq157
 refine bE (sN (sq (sq (Rg (kx (mvO h177) (kx (lnL Tryd.underlying72 rfl o181 (by simp)) (kx (bGtr rfl rfl) (Rn (hV (.lsl j1 a1.length 0 a1.length) h177 (hV (.loc M0.length 1 0 0) h178 (hN rfl hZ))) fun e186 h188 h189 h190 => sN ?_))))))))
 clear h177 h178
 rcases ite_some h with ⟨hb191, h⟩ | ⟨hb191, h⟩
 ·refine cT h190 hb191 (sq (Rg (kx (bldT zero74 rfl (fill0 rfl)) ?_)))
  obtain ⟨M192, hM193⟩ : ∃ x, x = M173 ++ ([⟨.grow, 27, 3, ([] : List Account).map Account.c⟩] : List Ob).map Ent.live := ⟨_, rfl⟩
  have o195 := push_old hM193 o179
  have o196 := push_old hM193 o180
  have o197 := push_old hM193 o181
  have ne198 : m176 ≠ M173.length := by have := lt_of_get (M := M173) o179; omega
  have ne199 : M0.length ≠ M173.length := by have := lt_of_get (M := M173) o180; omega
  have ne200 : j1 ≠ M173.length := by have := lt_of_get (M := M173) o181; omega
  have o201 : M192[M173.length]? = some (.live ⟨.grow, 27, 3, ([] : List Account).map Account.c⟩) := push_at hM193 0 rfl
  have nf202 := Nf.mk fr182
  have fr203 := Fr.push fr182 hM193
  refine kw (stG (kp := false) hM193 rfl nty74 (ghn (ghc rfl ghz) co27) (by decide) (stO h189 rfl o196 rfl rfl ⟨rfl, ble rfl⟩ (all1 (okL o201 (by simp)) (all1 rfl all0)) rfl)) fun M204 hM205 => ?_
  have o206 := set_ne hM205 ne183 o195
  have o207 : M204[M0.length]? = some (.live ⟨.box, 74, 2, [[.lsl M173.length ([] : List Account).length 0 ([] : List Account).length, .int .i64 0]]⟩) := set_same hM205 o196
  have o208 := set_ne hM205 ne6 o197
  have o209 := set_ne hM205 (Ne.symm ne199) o201
  have fr210 := Fr.setNew fr203 hM205 nf11
  refine kx (mvO rfl) (Rn (hA h189 (hV (.int .i64 3) rfl hZ)) fun e211 h213 h214 => sN (xx (sR ?_)))
  clear h188 h189 h190
  obtain rfl := si h
  exact eR (resC (ag := true) (sz := 2) ⟨by kernel_rfl, by kernel_rfl, by kernel_rfl⟩ (ldOA h213 o207 rfl rfl (ble rfl) rfl) (resT h214 res0)) ⟨M173.length, rfl, o209, o208, fr210, nf202, ne200, (by first | rfl | simp)⟩
 obtain ⟨r216, hx215, h⟩ := bind_some h
 refine cF h190 hb191 (xx (sN (sq (Rg (kx (mvO h188) (kc (cl (v := .int .i64 r216) rfl rfl (cns rfl rfl) (ra1 (ra1_row o181 rfl Account.fl) ra0) (impl_owed_ok a1 _ hx215) (fun _ => rfl)) (kx (bldT zero74 (cns (pr3 rfl) rfl) (fill1 ⟨rfl, ble rfl⟩ rfl rfl (fill0 rfl))) (Ev.nxpushL (gho_one (alO zero74) nty74 (ghn (ghc rfl ghz) co27) (by decide)) fun M219 hM220 => ?_))))))))
 have o221 := push_old hM220 o179
 have o222 := push_old hM220 o180
 have o223 := push_old hM220 o181
 have ne224 : m176 ≠ M173.length := by have := lt_of_get (M := M173) o179; omega
 have ne225 : M0.length ≠ M173.length := by have := lt_of_get (M := M173) o180; omega
 have ne226 : j1 ≠ M173.length := by have := lt_of_get (M := M173) o181; omega
 have o227 : M219[M173.length]? = some (.live ⟨.box, 74, 2, [[.lsl (M173.length + 1) ([] : List Account).length 0 ([] : List Account).length, .int .i64 0]]⟩) := push_at hM220 0 rfl
 have ne228 : m176 ≠ (M173.length + 1) := by have := lt_of_get (M := M173) o179; omega
 have ne229 : M0.length ≠ (M173.length + 1) := by have := lt_of_get (M := M173) o180; omega
 have ne230 : j1 ≠ (M173.length + 1) := by have := lt_of_get (M := M173) o181; omega
 have ne231 : M173.length ≠ (M173.length + 1) := by omega
 have o232 : M219[(M173.length + 1)]? = some (.live ⟨.grow, 27, 3, ([] : List Account).map Account.c⟩) := push_at hM220 1 rfl
 have nf233 := Nf.mk fr182
 have nf234 := Nf.mkAt fr182 1
 have fr235 := Fr.push fr182 hM220
 obtain ⟨M236, hM237⟩ : ∃ x, x = M219 ++ ([⟨.grow, 27, 3, ([] : List Account).map Account.c⟩] : List Ob).map Ent.live := ⟨_, rfl⟩
 have o239 := push_old hM237 o221
 have o240 := push_old hM237 o222
 have o241 := push_old hM237 o223
 have o242 := push_old hM237 o227
 have o243 := push_old hM237 o232
 have ne244 : m176 ≠ M219.length := by have := lt_of_get (M := M219) o221; omega
 have ne245 : M0.length ≠ M219.length := by have := lt_of_get (M := M219) o222; omega
 have ne246 : j1 ≠ M219.length := by have := lt_of_get (M := M219) o223; omega
 have ne247 : M173.length ≠ M219.length := by have := lt_of_get (M := M219) o227; omega
 have ne248 : (M173.length + 1) ≠ M219.length := by have := lt_of_get (M := M219) o232; omega
 have o249 : M236[M219.length]? = some (.live ⟨.grow, 27, 3, ([] : List Account).map Account.c⟩) := push_at hM237 0 rfl
 have nf250 := Nf.mk fr235
 have fr251 := Fr.push fr235 hM237
 refine kw (stG (kp := false) hM237 rfl nty74 (ghn (ghc rfl ghz) co27) (by decide) (stO rfl rfl o242 rfl rfl ⟨rfl, ble rfl⟩ (all1 (okL o249 (by simp)) (all1 rfl all0)) rfl)) fun M252 hM253 => ?_
 have o254 := set_ne hM253 ne224 o239
 have o255 := set_ne hM253 ne225 o240
 have o256 := set_ne hM253 ne226 o241
 have o257 : M252[M173.length]? = some (.live ⟨.box, 74, 2, [[.lsl M219.length ([] : List Account).length 0 ([] : List Account).length, .int .i64 r216]]⟩) := set_same hM253 o242
 have o258 := set_ne hM253 (Ne.symm ne231) o243
 have o259 := set_ne hM253 (Ne.symm ne247) o249
 have fr260 := Fr.setNew fr251 hM253 nf233
 obtain ⟨r559, hr560, h⟩ := bind_some h
 refine Rn (hA h188 (hA h189 (hV (.loc M173.length 1 0 0) rfl hZ))) fun e261 h263 h264 h265 => sN (sq (sq (Rg (kx (mvO h263) (kx (lnL Tryd.underlying72 rfl o256 (by simp)) (kx (mvO rfl) (Rn (hA h263 (hA h264 (hA h265 (hV (.lsl j1 a1.length 0 a1.length) rfl (hN rfl (hV (.int .i64 0) rfl hZ)))))) fun e266 h268 h269 h270 h271 h272 h273 => sN (bl ?_))))))))
 clear h188 h189 h190 h263 h264 h265
 rcases r559 with ⟨y564, y565⟩ | ⟨y578, y579, y580, y581⟩
 ·refine Ev.loop (RS := impl_MakeRoll_l_b2_RS a1 M0.length M173.length M219.length j1 M0) (RR := impl_MakeRoll_l_b2_RR a1 M0.length M173.length M219.length j1 M0) (fun s r h e M hs => impl_MakeRoll_l_b2_ok a1 M0.length M173.length M219.length j1 M0 ne225 ne245 ne247 ne6 ne226 ne246 nf11 nf233 nf250 s r h e M hs) hr560 ⟨m176, h268, h269, h270, h271, h272, h273, o254, o255, o257, o259, o256, fr260, ne183, ne224, ne244, ne184, nf185⟩ fun x e562 M563 hq561 => ?_
  obtain ⟨rfl, m566, h567, h568, o569, o570, o571, fr572, ne573, ne574, nf575⟩ := hq561
  refine bR (sR ?_)
  obtain rfl := si h
  exact eR (resC (ag := true) (sz := 2) ⟨by kernel_rfl, by kernel_rfl, by kernel_rfl⟩ (ldOA h567 o570 rfl rfl (ble rfl) rfl) (resT h568 res0)) ⟨m566, rfl, o569, o571, fr572, nf575, (Ne.symm ne574), (by first | rfl | simp)⟩
 refine Ev.loop (RS := impl_MakeRoll_l_b2_RS a1 M0.length M173.length M219.length j1 M0) (RR := impl_MakeRoll_l_b2_RR a1 M0.length M173.length M219.length j1 M0) (fun s r h e M hs => impl_MakeRoll_l_b2_ok a1 M0.length M173.length M219.length j1 M0 ne225 ne245 ne247 ne6 ne226 ne246 nf11 nf233 nf250 s r h e M hs) hr560 ⟨m176, h268, h269, h270, h271, h272, h273, o254, o255, o257, o259, o256, fr260, ne183, ne224, ne244, ne184, nf185⟩ fun x e576 M577 hq561 => ?_
 obtain ⟨rfl, m582, h583, h584, o585, o586, o587, o588, o589, fr590, ne591, ne592, ne593, ne594, nf595⟩ := hq561
 refine bE (sN (sq (Rg (kx (ldOA h584 o587 rfl rfl (ble rfl) rfl) ?_))))
 obtain ⟨M596, hM597⟩ : ∃ x, x = M577 ++ ([] : List Ob).map Ent.live := ⟨_, rfl⟩
 have o598 := push_old hM597 o585
 have o599 := push_old hM597 o586
 have o600 := push_old hM597 o587
 have o601 := push_old hM597 o588
 have o602 := push_old hM597 o589
 have fr603 := Fr.push fr590 hM597
 refine kw (stG (kp := false) hM597 rfl nty74 (ghc rfl (ghc rfl ghz)) (by decide) (stO h583 rfl o599 rfl rfl ⟨rfl, ble rfl⟩ (all1 (okL o601 (by simp)) (all1 rfl all0)) rfl)) fun M604 hM605 => ?_
 have o606 := set_ne hM605 ne591 o598
 have o607 : M604[M0.length]? = some (.live ⟨.box, 74, 2, [[.lsl M219.length y581.length 0 y581.length, .int .i64 y580]]⟩) := set_same hM605 o599
 have o608 := set_ne hM605 (Ne.symm ne225) o600
 have o609 := set_ne hM605 (Ne.symm ne245) o601
 have o610 := set_ne hM605 ne6 o602
 have fr611 := Fr.setNew fr603 hM605 nf11
 refine kx (mvO rfl) (Rn (hV (.loc M0.length 1 0 0) h583 (hV (.int .i64 0) rfl hZ)) fun e612 h614 h615 => sN (xx ?_))
 clear h583 h584
 obtain rfl := si h
 exact eR (resC (ag := true) (sz := 2) ⟨by kernel_rfl, by kernel_rfl, by kernel_rfl⟩ (ldOA h614 o607 rfl rfl (ble rfl) rfl) (resT h615 res0)) ⟨M219.length, rfl, o609, o610, fr611, nf250, ne246, (by first | rfl | simp)⟩
/-! ### loop.example/g01263/impl.ReadRoll (f35) -/
abbrev impl_ReadRoll_b1_S := Unit
abbrev impl_ReadRoll_b1_R := Unit
def impl_ReadRoll_b1_RS (a1 : List UInt8) (i1_1 : Nat) (i1_2 : Nat) (s : impl_ReadRoll_b1_S) (e : Env) (M : Mem) : Prop := eget e 0 = .str a1 ∧ eget e 2 = .loc i1_1 1 0 0 ∧ eget e 4 = .nils ∧ eget e 6 = .lsl i1_2 ([] : List Account).length 0 ([] : List Account).length ∧ M[i1_1]? = some (.live ⟨.box, 74, 2, [[.nils, .int .i64 0]]⟩) ∧ M[i1_2]? = some (.live ⟨.grow, 27, 3, ([] : List Account).map Account.c⟩)
def impl_ReadRoll_b1_RR (a1 : List UInt8) (i1_1 : Nat) (i1_2 : Nat) (g : impl_ReadRoll_b1_R) (x : Ex) (e : Env) (M : Mem) : Prop := x = .ext 0 ∧ eget e 0 = .str a1 ∧ eget e 2 = .loc i1_1 1 0 0 ∧ eget e 6 = .lsl i1_2 ([] : List Account).length 0 ([] : List Account).length ∧ M[i1_1]? = some (.live ⟨.box, 74, 2, [[.nils, .int .i64 0]]⟩) ∧ M[i1_2]? = some (.live ⟨.grow, 27, 3, ([] : List Account).map Account.c⟩)
noncomputable def impl_ReadRoll_b1 : impl_ReadRoll_b1_S → Option (impl_ReadRoll_b1_S ⊕ impl_ReadRoll_b1_R) := fun _ =>
 some (.inr ())
theorem impl_ReadRoll_b1_ok (a1 : List UInt8) (i1_1 : Nat) (i1_2 : Nat) (ne26 : i1_1 ≠ i1_2) (s : impl_ReadRoll_b1_S) (r : impl_ReadRoll_b1_S ⊕ impl_ReadRoll_b1_R) (h : impl_ReadRoll_b1 s = some r) (e : Env) (M : Mem) (hs : impl_ReadRoll_b1_RS a1 i1_1 i1_2 s e M) : Ev (fun k => (f35_l5 (CN k) k (prune [0, 2, 4, 6] e) M).bind fun q => some q) (bQ (impl_ReadRoll_b1_RS a1 i1_1 i1_2) (impl_ReadRoll_b1_RR a1 i1_1 i1_2) r) := by
 unfold impl_ReadRoll_b1 at h
 obtain ⟨h48, h50, h52, h54, o56, o57⟩ := hs
 generalize he47 : prune [0, 2, 4, 6] e = e46
 have h49 := envp he47.symm rfl h48
 have h51 := envp he47.symm rfl h50
 have h53 := envp he47.symm rfl h52
 have h55 := envp he47.symm rfl h54
 refine sq (sq (Rg (kx (mvO h53) (kx (lnN Tryd.underlying71 rfl) (kx (bGtr rfl rfl) (Rn (hV (.str a1) h49 (hV (.loc i1_1 1 0 0) h51 (hV .nils h53 (hV (.lsl i1_2 ([] : List Account).length 0 ([] : List Account).length) h55 (hV (.bool false) rfl hZ))))) fun e58 h60 h61 h62 h63 h64 => sN (cF h64 rfl (xx (sE ?_)))))))))
 clear h49 h51 h53 h55
 obtain rfl := si h
 exact qE ⟨rfl, h60, h61, h63, o56, o57⟩
abbrev impl_ReadRoll_b2_S := (List (List UInt8)) × (List Account)
abbrev impl_ReadRoll_b2_R := Unit ⊕ ((List Account))
def impl_ReadRoll_b2_RS (a1 : List UInt8) (i2_1 : Nat) (i2_2 : Nat) (s : impl_ReadRoll_b2_S) (e : Env) (M : Mem) : Prop := eget e 0 = .str a1 ∧ eget e 2 = .loc i2_1 1 0 0 ∧ eget e 4 = .sl none (s.1.map cS) ∧ eget e 6 = .lsl i2_2 s.2.length 0 s.2.length ∧ M[i2_1]? = some (.live ⟨.box, 74, 2, [[.nils, .int .i64 0]]⟩) ∧ M[i2_2]? = some (.live ⟨.grow, 27, 3, s.2.map Account.c⟩)
def impl_ReadRoll_b2_RR (a1 : List UInt8) (i2_1 : Nat) (i2_2 : Nat) (r : impl_ReadRoll_b2_R) (x : Ex) (e : Env) (M : Mem) : Prop :=
  match r with
  | (.inl g) => x = .ret ∧ eget e 2 = .loc i2_1 1 0 0 ∧ eget e 3 = .int .i64 5 ∧ M[i2_1]? = some (.live ⟨.box, 74, 2, [[.nils, .int .i64 0]]⟩)
  | (.inr g) => x = .ext 0 ∧ eget e 0 = .str a1 ∧ eget e 2 = .loc i2_1 1 0 0 ∧ eget e 6 = .lsl i2_2 g.length 0 g.length ∧ M[i2_1]? = some (.live ⟨.box, 74, 2, [[.nils, .int .i64 0]]⟩) ∧ M[i2_2]? = some (.live ⟨.grow, 27, 3, g.map Account.c⟩)
noncomputable def impl_ReadRoll_b2 : impl_ReadRoll_b2_S → Option (impl_ReadRoll_b2_S ⊕ impl_ReadRoll_b2_R) := fun (s2_1, s2_2) =>
 if (decide ((s2_1.length : Int) > 1)) = true then
  (impl_readAccount s2_1).bind fun (r231, r232, r233, r234, r235) =>
  if r235 = true then
   if ((s2_2.length : Int) == 20) = true then
    some (.inr (.inl ()))
   else
    (app 48 s2_2 [(Account.mk r231 r232 r233)]).bind fun x278 =>
    (slc s2_1 r234 (s2_1.length : Int)).bind fun x292 =>
    some (.inl (x292, x278))
  else
   some (.inr (.inl ()))
 else
  some (.inr (.inr s2_2))
theorem impl_ReadRoll_b2_ok (a1 : List UInt8) (i2_1 : Nat) (i2_2 : Nat) (ne190 : i2_1 ≠ i2_2) (s : impl_ReadRoll_b2_S) (r : impl_ReadRoll_b2_S ⊕ impl_ReadRoll_b2_R) (h : impl_ReadRoll_b2 s = some r) (e : Env) (M : Mem) (hs : impl_ReadRoll_b2_RS a1 i2_1 i2_2 s e M) : Ev (fun k => (f35_l5 (CN k) k (prune [0, 2, 4, 6] e) M).bind fun q => some q) (bQ (impl_ReadRoll_b2_RS a1 i2_1 i2_2) (impl_ReadRoll_b2_RR a1 i2_1 i2_2) r) := by
 obtain ⟨s2_1, s2_2⟩ := s
 unfold impl_ReadRoll_b2 at h
 obtain ⟨h212, h214, h216, h218, o220, o221⟩ := hs
 generalize he211 : prune [0, 2, 4, 6] e = e210
 have h213 := envp he211.symm rfl h212
 have h215 := envp he211.symm rfl h214
 have h217 := envp he211.symm rfl h216
 have h219 := envp he211.symm rfl h218
 refine sq (sq (Rg (kx (mvO h217) (kx (lnS Tryd.underlying71 rfl) (kx (bGtr rfl rfl) (Rn (hV (.str a1) h213 (hV (.loc i2_1 1 0 0) h215 (hV (.sl none (s2_1.map cS)) h217 (hV (.lsl i2_2 s2_2.length 0 s2_2.length) h219 (hN rfl hZ))))) fun e222 h224 h225 h226 h227 h228 => sN ?_))))))
 clear h213 h215 h217 h219
 rcases ite_some h with ⟨hb229, h⟩ | ⟨hb229, h⟩
 ·obtain ⟨⟨r231, r232, r233, r234, r235⟩, hx230, h⟩ := bind_some h
  refine cT h228 hb229 (xx (sN (bl (sq (Rg (kx (mvO h226) (kc (clW (v := .tup [.agg [.str r231, .sl none (r232.map Item.c), .int .i64 r233], .int .i64 r234, .bool r235]) rfl rfl (cns rfl rfl) rfl (impl_readAccount_ok s2_1 _ hx230) rfl) (kx (mvO rfl) (kx (exT rfl rfl) (kx (exT rfl rfl) (kx (exT rfl rfl) (ku (alO zero27) fun M237 hM238 => ?_))))))))))))
  have o239 := push_old hM238 o220
  have ne240 := ne_new o220
  have o241 := push_old hM238 o221
  have ne242 := ne_new o221
  have o243 : M237[M.length]? = some (.live ⟨.box, 27, 3, [[.str ([] : List UInt8), .nils, .int .i64 0]]⟩) := push_new hM238
  refine kw (stO rfl rfl o243 rfl rfl ⟨rfl, ble rfl⟩ rfl rfl) fun M244 hM245 => ?_
  have o246 := set_ne hM245 ne240 o239
  have o247 := set_ne hM245 ne242 o241
  have o248 : M244[M.length]? = some (.live ⟨.box, 27, 3, [[.str r231, .sl none (r232.map Item.c), .int .i64 r233]]⟩) := set_same hM245 o243
  refine kx (mvO rfl) (kx (mvO rfl) (Rn (hA h224 (hA h225 (hA h226 (hA h227 (hV (.loc M.length 1 0 0) rfl (hN rfl (hN rfl hZ))))))) fun e249 h251 h252 h253 h254 h255 h256 h257 => sN (sq (sq (Rg (kx (mvO h257) (kx (uNot rfl) (kx (mvO rfl) ?_))))))))
  clear h224 h225 h226 h227 h228
  rcases ite_some h with ⟨hb258, h⟩ | ⟨hb258, h⟩
  ·refine kx (guF rfl (congrArg Bool.not hb258) (mvO h254)) (kx (guF rfl (congrArg Bool.not hb258) (lnL Tryd.underlying72 rfl o247 (by simp))) (kx (guF rfl (congrArg Bool.not hb258) (bEql rfl rfl)) (kx (pkF rfl (congrArg Bool.not hb258) rfl) (Rn (hA h251 (hA h252 (hA h253 (hA h254 (hA h255 (hA h256 (hN rfl hZ))))))) fun e259 h261 h262 h263 h264 h265 h266 h267 => sN ?_))))
   clear h251 h252 h253 h254 h255 h256 h257
   rcases ite_some h with ⟨hb268, h⟩ | ⟨hb268, h⟩
   ·refine cT h267 hb268 (sq (Rg (kx (bldT zero74 rfl (fill0 rfl)) (kw (stO h262 rfl o246 rfl rfl ⟨rfl, ble rfl⟩ rfl rfl) fun M269 hM270 => ?_))))
    have o271 : M269[i2_1]? = some (.live ⟨.box, 74, 2, [[.nils, .int .i64 0]]⟩) := set_same hM270 o246
    have o272 := set_ne hM270 (Ne.symm ne190) o247
    have o273 := set_ne hM270 (Ne.symm ne240) o248
    refine kx (mvO rfl) (Rn (hA h262 (hV (.int .i64 5) rfl hZ)) fun e274 h276 h277 => sN (xx (sR (bR ?_))))
    clear h261 h262 h263 h264 h265 h266 h267
    obtain rfl := si h
    exact qR ⟨rfl, h276, h277, o271⟩
   obtain ⟨x278, hx279, h⟩ := bind_some h
   refine cF h267 hb268 (xx (sN (sq (Rg (kx (mvO h264) (kx (ldOA h265 o248 rfl rfl (ble rfl) rfl) (kx (litI (cns rfl rfl) rfl ⟨rfl, by decide⟩) (kw (apO rfl o247 rfl (elT (c := Account.c) (xs := [(Account.mk r231 r232 r233)]) rfl) hx279 Account.fl (by decide)) fun M280 hM281 => ?_))))))))
   have o282 := set_ne hM281 ne190 o246
   have o283 : M280[i2_2]? = some (.live ⟨.grow, 27, 3, x278.map Account.c⟩) := set_same hM281 o247
   have o284 := set_ne hM281 (Ne.symm ne242) o248
   obtain ⟨x292, hx293, h⟩ := bind_some h
   refine kx (mvO rfl) (Rn (hA h261 (hA h262 (hA h263 (hV (.lsl i2_2 x278.length 0 x278.length) rfl (hA h266 hZ))))) fun e285 h287 h288 h289 h290 h291 => sN (Rg (kx (mvO h289) (kx (mvO h291) (kx (slS rfl (bnd1 rfl) rfl hx293 cS_fl) (kx (mvO rfl) (Rn (hA h287 (hA h288 (hN rfl (hA h290 hZ)))) fun e294 h296 h297 h298 h299 => bN ?_)))))))
   clear h261 h262 h263 h265 h266 h267 h287 h288 h290 h291
   obtain rfl := si h
   exact qN ⟨h296, h297, h298, h299, o282, o283⟩
  refine kx (gsF rfl (congrArg Bool.not hb258)) (kx (gsF rfl (congrArg Bool.not hb258)) (kx (gsF rfl (congrArg Bool.not hb258)) (kx (pkT rfl (congrArg Bool.not hb258) rfl) (Rn (hA h251 (hA h252 (hA h253 (hA h254 (hA h255 (hA h256 (hV (.bool true) rfl hZ))))))) fun e300 h302 h303 h304 h305 h306 h307 h308 => sN (cT h308 rfl (sq (Rg (kx (bldT zero74 rfl (fill0 rfl)) (kw (stO h303 rfl o246 rfl rfl ⟨rfl, ble rfl⟩ rfl rfl) fun M309 hM310 => ?_)))))))))
  clear h251 h252 h253 h254 h255 h256 h257
  have o311 : M309[i2_1]? = some (.live ⟨.box, 74, 2, [[.nils, .int .i64 0]]⟩) := set_same hM310 o246
  have o312 := set_ne hM310 (Ne.symm ne190) o247
  have o313 := set_ne hM310 (Ne.symm ne240) o248
  refine kx (mvO rfl) (Rn (hA h303 (hV (.int .i64 5) rfl hZ)) fun e314 h316 h317 => sN (xx (sR (bR ?_))))
  clear h302 h303 h304 h305 h306 h307 h308
  obtain rfl := si h
  exact qR ⟨rfl, h316, h317, o311⟩
 refine cF h228 hb229 (xx (sE ?_))
 obtain rfl := si h
 exact qE ⟨rfl, h224, h225, h227, o220, o221⟩
noncomputable def impl_ReadRoll (a1 : List UInt8) : Option (Unit ⊕ ((List Account) × Int)) :=
 (impl_linesOf a1).bind fun r => match r with
 | (.inl _) =>
  (Lw (impl_ReadRoll_b1) ()).bind fun _ =>
  (impl_MakeRoll_l ([] : List Account)).bind fun (r76, r77, r78) =>
  if (r77 != 0) = true then
   some (.inl ())
  else
   (impl_RollText (Roll.mk r78 r76)).bind fun r134 =>
   if (r134 == a1) = true then
    if (a1 == ([] : List UInt8)) = true then
     some (.inl ())
    else
     some (.inr (r78, r76))
   else
    some (.inl ())
 | (.inr (r171, r172)) =>
  if r172 = true then
   (Lw (impl_ReadRoll_b2) (r171, ([] : List Account))).bind fun r => match r with
   | (.inl _) =>
    some (.inl ())
   | (.inr y328) =>
    (impl_MakeRoll_l y328).bind fun (r335, r336, r337) =>
    if (r336 != 0) = true then
     some (.inl ())
    else
     (impl_RollText (Roll.mk r337 r335)).bind fun r393 =>
     if (r393 == a1) = true then
      if (a1 == ([] : List UInt8)) = true then
       some (.inl ())
      else
       some (.inr (r337, r335))
     else
      some (.inl ())
  else
   some (.inl ())
def impl_ReadRoll_enc (r : Unit ⊕ ((List Account) × Int)) : AV :=
  match r with
  | (.inl g) => .tup [.agg [.nils, .int .i64 0], .int .i64 5]
  | (.inr g) => .tup [.agg [.sl none (g.1.map Account.c), .int .i64 g.2], .int .i64 0]
theorem impl_ReadRoll_ok (a1 : List UInt8) (r : Unit ⊕ ((List Account) × Int)) (h : impl_ReadRoll a1 = some r) : Ev (fun k => CN k 35 [.str a1] []) (fun p => rRes p.2 p.1 = impl_ReadRoll_enc r) := by
 unfold impl_ReadRoll at h
 refine Ev.enter (F := fun k => f35 (CN k) k) (fun k => callN_eq rfl Tryd.func35 rfl rfl rfl (by decide +kernel) (f35_eq _ _)) (sq (Rg (ku (alO zero74) fun M2 hM3 => ?_)))
 have o4 : M2[([] : Mem).length]? = some (.live ⟨.box, 74, 2, [[.nils, .int .i64 0]]⟩) := push_new hM3
 obtain ⟨q437, hx9, h⟩ := bind_some h
 refine kx (mvO rfl) (Rn (hN rfl (hV (.loc ([] : Mem).length 1 0 0) rfl hZ)) fun e5 h7 h8 => sN (sq (Rg (kx (mvO h7) ?_))))
 rcases q437 with _ | ⟨r171, r172⟩
 ·refine kc (cl (v := .tup [.nils, .bool true]) rfl rfl (cns rfl rfl) rfl (impl_linesOf_ok a1 _ hx9) nm) (kx (mvO rfl) (kx (exT rfl rfl) (kx (exT rfl rfl) (kx (mvO rfl) (kx (mvO rfl) (Rn (hA h7 (hA h8 (hV .nils rfl (hV (.bool true) rfl hZ)))) fun e10 h12 h13 h14 h15 => sN (sq (sq (Rg (kx (mvO h15) (kx (uNot rfl) (Rn (hA h12 (hA h13 (hA h14 (hV (.bool false) rfl hZ)))) fun e16 h18 h19 h20 h21 => sN (cF h21 rfl (xx (sN (sq (Rg (ku (litO (xs := ([] : List Account)) (c := Account.c) rfl rfl (by decide)) fun M23 hM24 => ?_))))))))))))))))))
  clear h7 h8 h12 h13 h14 h15
  have o25 := push_old hM24 o4
  have ne26 := ne_new o4
  have o27 : M23[M2.length]? = some (.live ⟨.grow, 27, 3, ([] : List Account).map Account.c⟩) := push_new hM24
  obtain ⟨r65, hr66, h⟩ := bind_some h
  refine kx (mvO rfl) (Rn (hA h18 (hA h19 (hA h20 (hV (.lsl M2.length ([] : List Account).length 0 ([] : List Account).length) rfl hZ)))) fun e28 h30 h31 h32 h33 => sN (sq (bl (Ev.loop (RS := impl_ReadRoll_b1_RS a1 (([] : Mem).length) M2.length) (RR := impl_ReadRoll_b1_RR a1 (([] : Mem).length) M2.length) (fun s r h e M hs => impl_ReadRoll_b1_ok a1 (([] : Mem).length) M2.length ne26 s r h e M hs) hr66 ⟨h30, h31, h32, h33, o25, o27⟩ fun x e68 M69 hq67 => ?_))))
  clear h18 h19 h20 h21
  obtain ⟨rfl, h70, h71, h72, o73, o74⟩ := hq67
  obtain ⟨⟨r76, r77, r78⟩, hx75, h⟩ := bind_some h
  refine bE (sN (sq (Rg (kx (mvO h72) (Ev.nxw (Ev.callF rfl (cns rfl rfl) (impl_MakeRoll_l_ok ([] : List Account) M2.length M69 o74 _ hx75)) fun v90 M91 hq82 => ?_)))))
  obtain ⟨⟨v83, M81⟩, hq82, hf92⟩ := hq82
  obtain ⟨id79, hv83, o87, o84, fr85, nf88, ne89, hl86⟩ := hq82
  have hv83 : v83 = .tup [.agg [.lsl id79 r78.length 0 r78.length, .int .i64 r76], .int .i64 r77] := hv83
  subst hv83
  have o93 : M81[M2.length]? = some (.live ⟨.grow, 27, 3, ([] : List Account).map Account.c⟩) := o84
  have hl86 : ([] : List Account).length = ([] : List Account).length := hl86
  have ne94 := nf88 _ _ (niC ne26 niN) o73
  have fr85 : Fr [M2.length] M69 M81 := fr85
  have o95 := fr85 _ _ (niC ne26 niN) o73
  obtain ⟨e96, hM97⟩ := Prod.mk.inj ((show frz (.tup [.agg [.lsl id79 r78.length 0 r78.length, .int .i64 r76], .int .i64 r77]) M81 = (.tup [.agg [.sl (some 27) (r78.map Account.c), .int .i64 r76], .int .i64 r77], (M81.set id79 .dead)) from (fzT (fz1 (fzA (fz1 (frz1_row o87 rfl Account.fl) (fz1 rfl fz0))) (fz1 rfl fz0)))).symm.trans hf92)
  subst e96
  have o98 := set_ne hM97.symm ne94 o95
  have o99 := set_ne hM97.symm ne89 o93
  refine kx (mvO rfl) (kx (exT rfl rfl) (kx (exT rfl rfl) (ku (alO zero74) fun M101 hM102 => ?_)))
  have o103 := push_old hM102 o98
  have ne104 := ne_new o98
  have o105 := push_old hM102 o99
  have ne106 := ne_new o99
  have o107 : M101[M91.length]? = some (.live ⟨.box, 74, 2, [[.nils, .int .i64 0]]⟩) := push_new hM102
  refine kw (stO rfl rfl o107 rfl rfl ⟨rfl, ble rfl⟩ rfl rfl) fun M108 hM109 => ?_
  have o110 := set_ne hM109 ne104 o103
  have o111 := set_ne hM109 ne106 o105
  have o112 : M108[M91.length]? = some (.live ⟨.box, 74, 2, [[.sl none (r78.map Account.c), .int .i64 r76]]⟩) := set_same hM109 o107
  refine kx (mvO rfl) (Rn (hV (.str a1) h70 (hV (.loc ([] : Mem).length 1 0 0) h71 (hV (.loc M91.length 1 0 0) rfl (hN rfl hZ)))) fun e113 h115 h116 h117 h118 => sN (sq (sq (Rg (kx (mvO h118) (kx (bNeq rfl rfl) (kx (mvO rfl) ?_)))))))
  clear h70 h71 h72
  rcases ite_some h with ⟨hb119, h⟩ | ⟨hb119, h⟩
  ·refine kx (gsF rfl hb119) (kc (Ev.gsF rfl hb119) (kx (gsF rfl hb119) (kx (gsF rfl hb119) (kx (pkT rfl hb119 rfl) (kx (mvO rfl) (kx (gsF rfl rfl) (kx (gsF rfl rfl) (kx (pkT rfl rfl rfl) (Rn (hA h116 (hA h117 (hV (.bool true) rfl hZ))) fun e120 h122 h123 h124 => sN (cT h124 rfl (sq (Rg (kx (bldT zero74 rfl (fill0 rfl)) (kw (stO h122 rfl o110 rfl rfl ⟨rfl, ble rfl⟩ rfl rfl) fun M125 hM126 => ?_))))))))))))))
   clear h115 h116 h117 h118
   have o127 : M125[([] : Mem).length]? = some (.live ⟨.box, 74, 2, [[.nils, .int .i64 0]]⟩) := set_same hM126 o110
   have o128 := set_ne hM126 (Ne.symm ne104) o112
   refine kx (mvO rfl) (Rn (hA h122 (hV (.int .i64 5) rfl hZ)) fun e129 h131 h132 => sN (xx (sR ?_)))
   clear h122 h123 h124
   obtain rfl := si h
   exact eR (resC (ag := true) (sz := 2) ⟨by kernel_rfl, by kernel_rfl, by kernel_rfl⟩ (ldOA h131 o127 rfl rfl (ble rfl) rfl) (resT h132 res0)) rfl
  obtain ⟨r134, hx133, h⟩ := bind_some h
  refine kx (guF rfl hb119 (ldOA h117 o112 rfl rfl (ble rfl) rfl)) (kc (Ev.guF rfl hb119 (cl (v := .str r134) rfl rfl (cns rfl rfl) rfl (impl_RollText_ok (Roll.mk r78 r76) _ hx133) nm)) (kx (guF rfl hb119 (mvO h115)) (kx (guF rfl hb119 (sNeq rfl rfl)) (kx (pkF rfl hb119 rfl) (kx (mvO rfl) ?_)))))
  rcases ite_some h with ⟨hb135, h⟩ | ⟨hb135, h⟩
  ·refine kx (guF rfl (congrArg Bool.not hb135) (mvO h115)) (kx (guF rfl (congrArg Bool.not hb135) (sEql rfl rfl)) (kx (pkF rfl (congrArg Bool.not hb135) rfl) (Rn (hA h116 (hA h117 (hN rfl hZ))) fun e136 h138 h139 h140 => sN ?_)))
   clear h115 h116 h117 h118
   rcases ite_some h with ⟨hb141, h⟩ | ⟨hb141, h⟩
   ·refine cT h140 hb141 (sq (Rg (kx (bldT zero74 rfl (fill0 rfl)) (kw (stO h138 rfl o110 rfl rfl ⟨rfl, ble rfl⟩ rfl rfl) fun M142 hM143 => ?_))))
    have o144 : M142[([] : Mem).length]? = some (.live ⟨.box, 74, 2, [[.nils, .int .i64 0]]⟩) := set_same hM143 o110
    have o145 := set_ne hM143 (Ne.symm ne104) o112
    refine kx (mvO rfl) (Rn (hA h138 (hV (.int .i64 5) rfl hZ)) fun e146 h148 h149 => sN (xx (sR ?_)))
    clear h138 h139 h140
    obtain rfl := si h
    exact eR (resC (ag := true) (sz := 2) ⟨by kernel_rfl, by kernel_rfl, by kernel_rfl⟩ (ldOA h148 o144 rfl rfl (ble rfl) rfl) (resT h149 res0)) rfl
   refine cF h140 hb141 (xx (sN (sq (Rg (kx (ldOA h139 o112 rfl rfl (ble rfl) rfl) (kw (stO h138 rfl o110 rfl rfl ⟨rfl, ble rfl⟩ rfl rfl) fun M150 hM151 => ?_))))))
   have o152 : M150[([] : Mem).length]? = some (.live ⟨.box, 74, 2, [[.sl none (r78.map Account.c), .int .i64 r76]]⟩) := set_same hM151 o110
   have o153 := set_ne hM151 (Ne.symm ne104) o112
   refine kx (mvO rfl) (Rn (hA h138 (hV (.int .i64 0) rfl hZ)) fun e154 h156 h157 => sN (xx ?_))
   clear h138 h139 h140
   obtain rfl := si h
   exact eR (resC (ag := true) (sz := 2) ⟨by kernel_rfl, by kernel_rfl, by kernel_rfl⟩ (ldOA h156 o152 rfl rfl (ble rfl) rfl) (resT h157 res0)) rfl
  refine kx (gsF rfl (congrArg Bool.not hb135)) (kx (gsF rfl (congrArg Bool.not hb135)) (kx (pkT rfl (congrArg Bool.not hb135) rfl) (Rn (hA h116 (hA h117 (hV (.bool true) rfl hZ))) fun e158 h160 h161 h162 => sN (cT h162 rfl (sq (Rg (kx (bldT zero74 rfl (fill0 rfl)) (kw (stO h160 rfl o110 rfl rfl ⟨rfl, ble rfl⟩ rfl rfl) fun M163 hM164 => ?_))))))))
  clear h115 h116 h117 h118
  have o165 : M163[([] : Mem).length]? = some (.live ⟨.box, 74, 2, [[.nils, .int .i64 0]]⟩) := set_same hM164 o110
  have o166 := set_ne hM164 (Ne.symm ne104) o112
  refine kx (mvO rfl) (Rn (hA h160 (hV (.int .i64 5) rfl hZ)) fun e167 h169 h170 => sN (xx (sR ?_)))
  clear h160 h161 h162
  obtain rfl := si h
  exact eR (resC (ag := true) (sz := 2) ⟨by kernel_rfl, by kernel_rfl, by kernel_rfl⟩ (ldOA h169 o165 rfl rfl (ble rfl) rfl) (resT h170 res0)) rfl
 refine kc (cl (v := .tup [.sl none (r171.map cS), .bool r172]) rfl rfl (cns rfl rfl) rfl (impl_linesOf_ok a1 _ hx9) nm) (kx (mvO rfl) (kx (exT rfl rfl) (kx (exT rfl rfl) (kx (mvO rfl) (kx (mvO rfl) (Rn (hA h7 (hA h8 (hN rfl (hN rfl hZ)))) fun e173 h175 h176 h177 h178 => sN (sq (sq (Rg (kx (mvO h178) (kx (uNot rfl) (Rn (hA h175 (hA h176 (hA h177 (hN rfl hZ)))) fun e179 h181 h182 h183 h184 => sN ?_))))))))))))
 clear h7 h8 h175 h176 h177 h178
 rcases ite_some h with ⟨hb185, h⟩ | ⟨hb185, h⟩
 ·refine cF h184 (congrArg Bool.not hb185) (xx (sN (sq (Rg (ku (litO (xs := ([] : List Account)) (c := Account.c) rfl rfl (by decide)) fun M187 hM188 => ?_)))))
  have o189 := push_old hM188 o4
  have ne190 := ne_new o4
  have o191 : M187[M2.length]? = some (.live ⟨.grow, 27, 3, ([] : List Account).map Account.c⟩) := push_new hM188
  obtain ⟨r318, hr319, h⟩ := bind_some h
  refine kx (mvO rfl) (Rn (hA h181 (hA h182 (hA h183 (hV (.lsl M2.length ([] : List Account).length 0 ([] : List Account).length) rfl hZ)))) fun e192 h194 h195 h196 h197 => sN (sq (bl ?_)))
  clear h181 h182 h183 h184
  rcases r318 with _ | y328
  ·refine Ev.loop (RS := impl_ReadRoll_b2_RS a1 (([] : Mem).length) M2.length) (RR := impl_ReadRoll_b2_RR a1 (([] : Mem).length) M2.length) (fun s r h e M hs => impl_ReadRoll_b2_ok a1 (([] : Mem).length) M2.length ne190 s r h e M hs) hr319 ⟨h194, h195, h196, h197, o189, o191⟩ fun x e321 M322 hq320 => ?_
   obtain ⟨rfl, h323, h324, o325⟩ := hq320
   refine bR (sR ?_)
   obtain rfl := si h
   exact eR (resC (ag := true) (sz := 2) ⟨by kernel_rfl, by kernel_rfl, by kernel_rfl⟩ (ldOA h323 o325 rfl rfl (ble rfl) rfl) (resT h324 res0)) rfl
  refine Ev.loop (RS := impl_ReadRoll_b2_RS a1 (([] : Mem).length) M2.length) (RR := impl_ReadRoll_b2_RR a1 (([] : Mem).length) M2.length) (fun s r h e M hs => impl_ReadRoll_b2_ok a1 (([] : Mem).length) M2.length ne190 s r h e M hs) hr319 ⟨h194, h195, h196, h197, o189, o191⟩ fun x e326 M327 hq320 => ?_
  obtain ⟨rfl, h329, h330, h331, o332, o333⟩ := hq320
  obtain ⟨⟨r335, r336, r337⟩, hx334, h⟩ := bind_some h
  refine bE (sN (sq (Rg (kx (mvO h331) (Ev.nxw (Ev.callF rfl (cns rfl rfl) (impl_MakeRoll_l_ok y328 M2.length M327 o333 _ hx334)) fun v349 M350 hq341 => ?_)))))
  obtain ⟨⟨v342, M340⟩, hq341, hf351⟩ := hq341
  obtain ⟨id338, hv342, o346, o343, fr344, nf347, ne348, hl345⟩ := hq341
  have hv342 : v342 = .tup [.agg [.lsl id338 r337.length 0 r337.length, .int .i64 r335], .int .i64 r336] := hv342
  subst hv342
  have o352 : M340[M2.length]? = some (.live ⟨.grow, 27, 3, y328.map Account.c⟩) := o343
  have hl345 : y328.length = y328.length := hl345
  have ne353 := nf347 _ _ (niC ne190 niN) o332
  have fr344 : Fr [M2.length] M327 M340 := fr344
  have o354 := fr344 _ _ (niC ne190 niN) o332
  obtain ⟨e355, hM356⟩ := Prod.mk.inj ((show frz (.tup [.agg [.lsl id338 r337.length 0 r337.length, .int .i64 r335], .int .i64 r336]) M340 = (.tup [.agg [.sl (some 27) (r337.map Account.c), .int .i64 r335], .int .i64 r336], (M340.set id338 .dead)) from (fzT (fz1 (fzA (fz1 (frz1_row o346 rfl Account.fl) (fz1 rfl fz0))) (fz1 rfl fz0)))).symm.trans hf351)
  subst e355
  have o357 := set_ne hM356.symm ne353 o354
  have o358 := set_ne hM356.symm ne348 o352
  refine kx (mvO rfl) (kx (exT rfl rfl) (kx (exT rfl rfl) (ku (alO zero74) fun M360 hM361 => ?_)))
  have o362 := push_old hM361 o357
  have ne363 := ne_new o357
  have o364 := push_old hM361 o358
  have ne365 := ne_new o358
  have o366 : M360[M350.length]? = some (.live ⟨.box, 74, 2, [[.nils, .int .i64 0]]⟩) := push_new hM361
  refine kw (stO rfl rfl o366 rfl rfl ⟨rfl, ble rfl⟩ rfl rfl) fun M367 hM368 => ?_
  have o369 := set_ne hM368 ne363 o362
  have o370 := set_ne hM368 ne365 o364
  have o371 : M367[M350.length]? = some (.live ⟨.box, 74, 2, [[.sl none (r337.map Account.c), .int .i64 r335]]⟩) := set_same hM368 o366
  refine kx (mvO rfl) (Rn (hV (.str a1) h329 (hV (.loc ([] : Mem).length 1 0 0) h330 (hV (.loc M350.length 1 0 0) rfl (hN rfl hZ)))) fun e372 h374 h375 h376 h377 => sN (sq (sq (Rg (kx (mvO h377) (kx (bNeq rfl rfl) (kx (mvO rfl) ?_)))))))
  clear h329 h330 h331
  rcases ite_some h with ⟨hb378, h⟩ | ⟨hb378, h⟩
  ·refine kx (gsF rfl hb378) (kc (Ev.gsF rfl hb378) (kx (gsF rfl hb378) (kx (gsF rfl hb378) (kx (pkT rfl hb378 rfl) (kx (mvO rfl) (kx (gsF rfl rfl) (kx (gsF rfl rfl) (kx (pkT rfl rfl rfl) (Rn (hA h375 (hA h376 (hV (.bool true) rfl hZ))) fun e379 h381 h382 h383 => sN (cT h383 rfl (sq (Rg (kx (bldT zero74 rfl (fill0 rfl)) (kw (stO h381 rfl o369 rfl rfl ⟨rfl, ble rfl⟩ rfl rfl) fun M384 hM385 => ?_))))))))))))))
   clear h374 h375 h376 h377
   have o386 : M384[([] : Mem).length]? = some (.live ⟨.box, 74, 2, [[.nils, .int .i64 0]]⟩) := set_same hM385 o369
   have o387 := set_ne hM385 (Ne.symm ne363) o371
   refine kx (mvO rfl) (Rn (hA h381 (hV (.int .i64 5) rfl hZ)) fun e388 h390 h391 => sN (xx (sR ?_)))
   clear h381 h382 h383
   obtain rfl := si h
   exact eR (resC (ag := true) (sz := 2) ⟨by kernel_rfl, by kernel_rfl, by kernel_rfl⟩ (ldOA h390 o386 rfl rfl (ble rfl) rfl) (resT h391 res0)) rfl
  obtain ⟨r393, hx392, h⟩ := bind_some h
  refine kx (guF rfl hb378 (ldOA h376 o371 rfl rfl (ble rfl) rfl)) (kc (Ev.guF rfl hb378 (cl (v := .str r393) rfl rfl (cns rfl rfl) rfl (impl_RollText_ok (Roll.mk r337 r335) _ hx392) nm)) (kx (guF rfl hb378 (mvO h374)) (kx (guF rfl hb378 (sNeq rfl rfl)) (kx (pkF rfl hb378 rfl) (kx (mvO rfl) ?_)))))
  rcases ite_some h with ⟨hb394, h⟩ | ⟨hb394, h⟩
  ·refine kx (guF rfl (congrArg Bool.not hb394) (mvO h374)) (kx (guF rfl (congrArg Bool.not hb394) (sEql rfl rfl)) (kx (pkF rfl (congrArg Bool.not hb394) rfl) (Rn (hA h375 (hA h376 (hN rfl hZ))) fun e395 h397 h398 h399 => sN ?_)))
   clear h374 h375 h376 h377
   rcases ite_some h with ⟨hb400, h⟩ | ⟨hb400, h⟩
   ·refine cT h399 hb400 (sq (Rg (kx (bldT zero74 rfl (fill0 rfl)) (kw (stO h397 rfl o369 rfl rfl ⟨rfl, ble rfl⟩ rfl rfl) fun M401 hM402 => ?_))))
    have o403 : M401[([] : Mem).length]? = some (.live ⟨.box, 74, 2, [[.nils, .int .i64 0]]⟩) := set_same hM402 o369
    have o404 := set_ne hM402 (Ne.symm ne363) o371
    refine kx (mvO rfl) (Rn (hA h397 (hV (.int .i64 5) rfl hZ)) fun e405 h407 h408 => sN (xx (sR ?_)))
    clear h397 h398 h399
    obtain rfl := si h
    exact eR (resC (ag := true) (sz := 2) ⟨by kernel_rfl, by kernel_rfl, by kernel_rfl⟩ (ldOA h407 o403 rfl rfl (ble rfl) rfl) (resT h408 res0)) rfl
   refine cF h399 hb400 (xx (sN (sq (Rg (kx (ldOA h398 o371 rfl rfl (ble rfl) rfl) (kw (stO h397 rfl o369 rfl rfl ⟨rfl, ble rfl⟩ rfl rfl) fun M409 hM410 => ?_))))))
   have o411 : M409[([] : Mem).length]? = some (.live ⟨.box, 74, 2, [[.sl none (r337.map Account.c), .int .i64 r335]]⟩) := set_same hM410 o369
   have o412 := set_ne hM410 (Ne.symm ne363) o371
   refine kx (mvO rfl) (Rn (hA h397 (hV (.int .i64 0) rfl hZ)) fun e413 h415 h416 => sN (xx ?_))
   clear h397 h398 h399
   obtain rfl := si h
   exact eR (resC (ag := true) (sz := 2) ⟨by kernel_rfl, by kernel_rfl, by kernel_rfl⟩ (ldOA h415 o411 rfl rfl (ble rfl) rfl) (resT h416 res0)) rfl
  refine kx (gsF rfl (congrArg Bool.not hb394)) (kx (gsF rfl (congrArg Bool.not hb394)) (kx (pkT rfl (congrArg Bool.not hb394) rfl) (Rn (hA h375 (hA h376 (hV (.bool true) rfl hZ))) fun e417 h419 h420 h421 => sN (cT h421 rfl (sq (Rg (kx (bldT zero74 rfl (fill0 rfl)) (kw (stO h419 rfl o369 rfl rfl ⟨rfl, ble rfl⟩ rfl rfl) fun M422 hM423 => ?_))))))))
  clear h374 h375 h376 h377
  have o424 : M422[([] : Mem).length]? = some (.live ⟨.box, 74, 2, [[.nils, .int .i64 0]]⟩) := set_same hM423 o369
  have o425 := set_ne hM423 (Ne.symm ne363) o371
  refine kx (mvO rfl) (Rn (hA h419 (hV (.int .i64 5) rfl hZ)) fun e426 h428 h429 => sN (xx (sR ?_)))
  clear h419 h420 h421
  obtain rfl := si h
  exact eR (resC (ag := true) (sz := 2) ⟨by kernel_rfl, by kernel_rfl, by kernel_rfl⟩ (ldOA h428 o424 rfl rfl (ble rfl) rfl) (resT h429 res0)) rfl
 refine cT h184 (congrArg Bool.not hb185) (sq (Rg (kx (bldT zero74 rfl (fill0 rfl)) (kw (stO h182 rfl o4 rfl rfl ⟨rfl, ble rfl⟩ rfl rfl) fun M430 hM431 => ?_))))
 have o432 : M430[([] : Mem).length]? = some (.live ⟨.box, 74, 2, [[.nils, .int .i64 0]]⟩) := set_same hM431 o4
 refine kx (mvO rfl) (Rn (hA h182 (hV (.int .i64 5) rfl hZ)) fun e433 h435 h436 => sN (xx (sR ?_)))
 clear h181 h182 h183 h184
 obtain rfl := si h
 exact eR (resC (ag := true) (sz := 2) ⟨by kernel_rfl, by kernel_rfl, by kernel_rfl⟩ (ldOA h435 o432 rfl rfl (ble rfl) rfl) (resT h436 res0)) rfl
/-! ### loop.example/g01263/laws.a2At (f16) -/
noncomputable def laws_a2At (a1 : List Int) (a2 : Int) (a3 : Int) : Option Int :=
 if (decide (a2 ≥ (a1.length : Int))) = true then
  some 0
 else
  if (decide (a3 < 1)) = true then
   some 0
  else
   (rd a1 a2).bind fun x26 =>
   (rem .i64 (IntKind.i64.wrap x26) a3).bind fun n28 =>
   some n28
def laws_a2At_enc (r : Int) : AV := .int .i64 r
theorem laws_a2At_ok (a1 : List Int) (a2 : Int) (a3 : Int) (r : Int) (h : laws_a2At a1 a2 a3 = some r) : Ev (fun k => CN k 16 [.sl none (a1.map (cI .u8)), .int .i64 a2, .int .i64 a3] []) (fun p => rRes p.2 p.1 = laws_a2At_enc r) := by
 unfold laws_a2At at h
 refine Ev.enter (F := fun k => f16 (CN k) k) (fun k => callN_eq rfl Tryd.func16 rfl rfl rfl (by decide +kernel) (f16_eq _ _)) (sq (Rg (kx (mvO rfl) (Rn (hN rfl (hN rfl (hN rfl hZ))) fun e1 h3 h4 h5 => sN (sq (sq (Rg (kx (mvO h4) (kx (mvO h3) (kx (lnS Tryd.underlying22 rfl) (kx (bGeq rfl rfl) (kx (mvO rfl) ?_))))))))))))
 rcases ite_some h with ⟨hb6, h⟩ | ⟨hb6, h⟩
 ·refine kx (gsF rfl hb6) (kx (gsF rfl hb6) (kx (pkT rfl hb6 rfl) (Rn (hA h3 (hA h4 (hA h5 (hV (.bool true) rfl hZ)))) fun e7 h9 h10 h11 h12 => sN (cT h12 rfl (sq (Rg (kx (mvO rfl) (Rn (hV (.int .i64 0) rfl hZ) fun e13 h15 => sN (xx (sR ?_))))))))))
  clear h3 h4 h5 h10 h11 h12 h9
  obtain rfl := si h
  exact eR (resT h15 res0) rfl
 refine kx (guF rfl hb6 (mvO h5)) (kx (guF rfl hb6 (bLss rfl rfl)) (kx (pkF rfl hb6 rfl) (Rn (hA h3 (hA h4 (hA h5 (hN rfl hZ)))) fun e16 h18 h19 h20 h21 => sN ?_)))
 clear h3 h4 h5
 rcases ite_some h with ⟨hb22, h⟩ | ⟨hb22, h⟩
 ·refine cT h21 hb22 (sq (Rg (kx (mvO rfl) (Rn (hV (.int .i64 0) rfl hZ) fun e23 h25 => sN (xx (sR ?_))))))
  clear h18 h19 h20 h21
  obtain rfl := si h
  exact eR (resT h25 res0) rfl
 obtain ⟨x26, hx27, h⟩ := bind_some h
 obtain ⟨n28, hx29, h⟩ := bind_some h
 refine cF h21 hb22 (xx (sN (sq (Rg (kx (mvO h18) (kx (mvO h19) (kx (ixS rfl rfl hx27 (cI_fl _)) (kx (ldP rfl rfl) (kx (cvI rfl) (kx (mvO h20) (kx (bRem rfl rfl hx29) (kx (mvO rfl) (Rn (hN rfl hZ) fun e30 h32 => sN (xx ?_))))))))))))))
 clear h18 h19 h20 h21
 obtain rfl := si h
 exact eR (resT h32 res0) rfl
/-! ### loop.example/g01263/spec.A2SameAccount (f13) -/
def spec_A2SameAccount_c1_Q (a1 : Account) (a2 : Account) (g : Bool) (q : Out) : Prop := q.1 = .nrm ∧ eget q.2.1 2 = .pt none [.str a1.Title, .sl none (a1.Items.map Item.c), .int .i64 a1.Balance] ∧ eget q.2.1 3 = .pt none [.str a2.Title, .sl none (a2.Items.map Item.c), .int .i64 a2.Balance] ∧ eget q.2.1 26 = .bool g
abbrev spec_A2SameAccount_b1_S := Int
abbrev spec_A2SameAccount_b1_R := Unit ⊕ Unit
def spec_A2SameAccount_b1_RS (a1 : Account) (a2 : Account) (s : spec_A2SameAccount_b1_S) (e : Env) (M : Mem) : Prop := eget e 2 = .pt none [.str a1.Title, .sl none (a1.Items.map Item.c), .int .i64 a1.Balance] ∧ eget e 3 = .pt none [.str a2.Title, .sl none (a2.Items.map Item.c), .int .i64 a2.Balance] ∧ eget e 5 = .int .i64 s
def spec_A2SameAccount_b1_RR (a1 : Account) (a2 : Account) (r : spec_A2SameAccount_b1_R) (x : Ex) (e : Env) (M : Mem) : Prop :=
  match r with
  | (.inl g) => x = .ret ∧ eget e 4 = .bool false
  | (.inr g) => x = .ext 0 ∧ True
noncomputable def spec_A2SameAccount_b1 (a1 : Account) (a2 : Account) : spec_A2SameAccount_b1_S → Option (spec_A2SameAccount_b1_S ⊕ spec_A2SameAccount_b1_R) := fun s1_1 =>
 if (decide (s1_1 < (a1.Items.length : Int))) = true then
  (rd a1.Items s1_1).bind fun x60 =>
  (rd a2.Items s1_1).bind fun x62 =>
  if ((x60.Kind == x62.Kind) && ((x60.Amount == x62.Amount) && true)) = true then
   some (.inl (IntKind.i64.wrap (s1_1 + 1)))
  else
   some (.inr (.inl ()))
 else
  some (.inr (.inr ()))
theorem spec_A2SameAccount_b1_ok (a1 : Account) (a2 : Account) (s : spec_A2SameAccount_b1_S) (r : spec_A2SameAccount_b1_S ⊕ spec_A2SameAccount_b1_R) (h : spec_A2SameAccount_b1 a1 a2 s = some r) (e : Env) (M : Mem) (hs : spec_A2SameAccount_b1_RS a1 a2 s e M) : Ev (fun k => (f13_l4 (CN k) k (prune [2, 3, 5] e) M).bind fun q => some q) (bQ (spec_A2SameAccount_b1_RS a1 a2) (spec_A2SameAccount_b1_RR a1 a2) r) := by
 revert h hs
 revert s
 intro s1_1 h hs
 unfold spec_A2SameAccount_b1 at h
 obtain ⟨h47, h49, h51⟩ := hs
 generalize he46 : prune [2, 3, 5] e = e45
 have h48 := envp he46.symm rfl h47
 have h50 := envp he46.symm rfl h49
 have h52 := envp he46.symm rfl h51
 refine sq (sq (Rg (kx (mvO h52) (kx (faP h48 ⟨ble rfl, blt rfl⟩ rfl) (kx (ldP rfl rfl) (kx (lnS Tryd.underlying24 rfl) (kx (bLss rfl rfl) (Rn (hV (.pt none [.str a1.Title, .sl none (a1.Items.map Item.c), .int .i64 a1.Balance]) h48 (hV (.pt none [.str a2.Title, .sl none (a2.Items.map Item.c), .int .i64 a2.Balance]) h50 (hV (.int .i64 s1_1) h52 (hN rfl hZ)))) fun e53 h55 h56 h57 h58 => sN ?_))))))))
 clear h48 h50 h52
 rcases ite_some h with ⟨hb59, h⟩ | ⟨hb59, h⟩
 ·obtain ⟨x60, hx61, h⟩ := bind_some h
  obtain ⟨x62, hx63, h⟩ := bind_some h
  refine cT h58 hb59 (xx (sN (sq (bl (sq (Rd (kf (faP h55 ⟨ble rfl, blt rfl⟩ rfl) (kf (ldP rfl rfl) (kf (mvO h57) (kf (ixS rfl rfl hx61 Item.fl) (kf (ldPA rfl rfl rfl) (kf (faP h56 ⟨ble rfl, blt rfl⟩ rfl) (kf (ldP rfl rfl) (kf (mvO h57) (kf (ixS rfl rfl hx63 Item.fl) (kf (ldPA rfl rfl rfl) (kf (gNeq rfl rfl (by kernel_rfl) rfl) (fZ (Rn (hA h55 (hA h56 (hA h57 (hN rfl hZ)))) fun e64 h66 h67 h68 h69 => sN ?_)))))))))))))))))))
  clear h55 h56 h57 h58
  rcases ite_some h with ⟨hb70, h⟩ | ⟨hb70, h⟩
  ·refine cF h69 (congrArg Bool.not hb70) (xx (bN (sN (Rg (kx (mvO h68) (kx (bAdd rfl rfl) (kx (mvO rfl) (Rn (hA h66 (hA h67 (hN rfl hZ))) fun e71 h73 h74 h75 => ?_))))))))
   clear h66 h67 h69
   obtain rfl := si h
   exact qN ⟨h73, h74, h75⟩
  refine cT h69 (congrArg Bool.not hb70) (sq (Rg (kx (mvO rfl) (Rn (hV (.bool false) rfl hZ) fun e76 h78 => sN (xx (bR (sR ?_)))))))
  clear h66 h67 h68 h69
  obtain rfl := si h
  exact qR ⟨rfl, h78⟩
 refine cF h58 hb59 (xx (sE ?_))
 obtain rfl := si h
 exact qE ⟨rfl, trivial⟩
noncomputable def spec_A2SameAccount (a1 : Account) (a2 : Account) : Option Bool :=
 (if (a1.Title == a2.Title) = true then
  if (a1.Balance != a2.Balance) = true then
   some true
  else
   some ((a1.Items.length : Int) != (a2.Items.length : Int))
 else
  some true).bind fun y24 =>
 if y24 = true then
  some false
 else
  (Lw (spec_A2SameAccount_b1 a1 a2) 0).bind fun r => match r with
  | (.inl _) =>
   some false
  | (.inr _) =>
   some true
def spec_A2SameAccount_enc (r : Bool) : AV := .bool r
theorem spec_A2SameAccount_ok (a1 : Account) (a2 : Account) (r : Bool) (h : spec_A2SameAccount a1 a2 = some r) : Ev (fun k => CN k 13 [.agg [.str a1.Title, .sl none (a1.Items.map Item.c), .int .i64 a1.Balance], .agg [.str a2.Title, .sl none (a2.Items.map Item.c), .int .i64 a2.Balance]] []) (fun p => rRes p.2 p.1 = spec_A2SameAccount_enc r) := by
 unfold spec_A2SameAccount at h
 obtain ⟨r91, hr92, h⟩ := bind_some h
 refine Ev.enter (F := fun k => f13 (CN k) k) (fun k => callN_eq rfl Tryd.func13 rfl rfl rfl (by decide +kernel) (f13_eq _ _)) (sq (Rg (kx (bxI rfl rfl ⟨rfl, rfl, by decide⟩) (kx (bxI rfl rfl ⟨rfl, rfl, by decide⟩) (kx (mvO rfl) (Rn (hN rfl (hN rfl hZ)) fun e1 h3 h4 => sN (sq (sq ?_))))))))
 refine Ev.cut (Q1 := spec_A2SameAccount_c1_Q a1 a2 r91) (by
     have h := hr92
     refine Rg (kx (faP h3 ⟨ble rfl, blt rfl⟩ rfl) (kx (ldP rfl rfl) (kx (faP h4 ⟨ble rfl, blt rfl⟩ rfl) (kx (ldP rfl rfl) (kx (sNeq rfl rfl) (kx (mvO rfl) ?_))))))
     rcases ite_some h with ⟨hb5, h⟩ | ⟨hb5, h⟩
     ·refine kx (guF rfl (congrArg Bool.not hb5) (faP h3 ⟨ble rfl, blt rfl⟩ rfl)) (kx (guF rfl (congrArg Bool.not hb5) (ldP rfl rfl)) (kx (guF rfl (congrArg Bool.not hb5) (faP h4 ⟨ble rfl, blt rfl⟩ rfl)) (kx (guF rfl (congrArg Bool.not hb5) (ldP rfl rfl)) (kx (guF rfl (congrArg Bool.not hb5) (bNeq rfl rfl)) (kx (pkF rfl (congrArg Bool.not hb5) rfl) (kx (mvO rfl) ?_))))))
      rcases ite_some h with ⟨hb6, h⟩ | ⟨hb6, h⟩
      ·refine kx (gsF rfl hb6) (kx (gsF rfl hb6) (kx (gsF rfl hb6) (kx (gsF rfl hb6) (kx (gsF rfl hb6) (kx (gsF rfl hb6) (kx (gsF rfl hb6) (kx (pkT rfl hb6 rfl) (Rn (hA h3 (hA h4 (hV (.bool true) rfl hZ))) fun e7 h9 h10 h11 => ?_))))))))
       clear h3 h4
       obtain rfl := si h
       exact kd (show spec_A2SameAccount_c1_Q a1 a2 _ _ from ⟨rfl, h9, h10, h11⟩)
      refine kx (guF rfl hb6 (faP h3 ⟨ble rfl, blt rfl⟩ rfl)) (kx (guF rfl hb6 (ldP rfl rfl)) (kx (guF rfl hb6 (lnS Tryd.underlying24 rfl)) (kx (guF rfl hb6 (faP h4 ⟨ble rfl, blt rfl⟩ rfl)) (kx (guF rfl hb6 (ldP rfl rfl)) (kx (guF rfl hb6 (lnS Tryd.underlying24 rfl)) (kx (guF rfl hb6 (bNeq rfl rfl)) (kx (pkF rfl hb6 rfl) (Rn (hA h3 (hA h4 (hN rfl hZ))) fun e12 h14 h15 h16 => ?_))))))))
      clear h3 h4
      obtain rfl := si h
      exact kd (show spec_A2SameAccount_c1_Q a1 a2 _ _ from ⟨rfl, h14, h15, h16⟩)
     refine kx (gsF rfl (congrArg Bool.not hb5)) (kx (gsF rfl (congrArg Bool.not hb5)) (kx (gsF rfl (congrArg Bool.not hb5)) (kx (gsF rfl (congrArg Bool.not hb5)) (kx (gsF rfl (congrArg Bool.not hb5)) (kx (pkT rfl (congrArg Bool.not hb5) rfl) (kx (mvO rfl) (kx (gsF rfl rfl) (kx (gsF rfl rfl) (kx (gsF rfl rfl) (kx (gsF rfl rfl) (kx (gsF rfl rfl) (kx (gsF rfl rfl) (kx (gsF rfl rfl) (kx (pkT rfl rfl rfl) (Rn (hA h3 (hA h4 (hV (.bool true) rfl hZ))) fun e17 h19 h20 h21 => ?_)))))))))))))))
     clear h3 h4
     obtain rfl := si h
     exact kd (show spec_A2SameAccount_c1_Q a1 a2 _ _ from ⟨rfl, h19, h20, h21⟩)) ?_
 revert h hr92
 revert r91
 intro y24 hr92 h
 intro x e22 M23 hq90
 obtain ⟨rfl, h25, h26, h27⟩ := hq90
 refine sN ?_
 rcases ite_some h with ⟨hb28, h⟩ | ⟨hb28, h⟩
 ·refine cT h27 hb28 (sq (Rg (kx (mvO rfl) (Rn (hV (.bool false) rfl hZ) fun e29 h31 => sN (xx (sR ?_))))))
  clear h25 h26 h27
  obtain rfl := si h
  exact eR (resT h31 res0) rfl
 obtain ⟨r79, hr80, h⟩ := bind_some h
 refine cF h27 hb28 (xx (sN (sq (sq (Rg (kx (mvO rfl) (Rn (hV (.pt none [.str a1.Title, .sl none (a1.Items.map Item.c), .int .i64 a1.Balance]) h25 (hV (.pt none [.str a2.Title, .sl none (a2.Items.map Item.c), .int .i64 a2.Balance]) h26 (hV (.int .i64 0) rfl hZ))) fun e32 h34 h35 h36 => sN (bl ?_))))))))
 clear h25 h26 h27
 rcases r79 with _ | _
 ·refine Ev.loop (RS := spec_A2SameAccount_b1_RS a1 a2) (RR := spec_A2SameAccount_b1_RR a1 a2) (fun s r h e M hs => spec_A2SameAccount_b1_ok a1 a2 s r h e M hs) hr80 ⟨h34, h35, h36⟩ fun x e82 M83 hq81 => ?_
  obtain ⟨rfl, h84⟩ := hq81
  refine bR (sR ?_)
  obtain rfl := si h
  exact eR (resT h84 res0) rfl
 refine Ev.loop (RS := spec_A2SameAccount_b1_RS a1 a2) (RR := spec_A2SameAccount_b1_RR a1 a2) (fun s r h e M hs => spec_A2SameAccount_b1_ok a1 a2 s r h e M hs) hr80 ⟨h34, h35, h36⟩ fun x e85 M86 hq81 => ?_
 obtain ⟨rfl, _⟩ := hq81
 refine bE (sN (sq (Rg (kx (mvO rfl) (Rn (hV (.bool true) rfl hZ) fun e87 h89 => sN (xx ?_))))))
 obtain rfl := si h
 exact eR (resT h89 res0) rfl
/-! ### loop.example/g01263/spec.MakeAccount (f9) -/
noncomputable def spec_MakeAccount (a1 : List UInt8) (a2 : List Item) : Option (((List UInt8) × (List Item) × Int) ⊕ Int) :=
 (spec_l05Items a2).bind fun r11 =>
 if r11 = true then
  (spec_l05Title a1).bind fun r20 =>
  if r20 = true then
   (spec_l05Account a1 a2).bind fun (r29, r30, r31) =>
   some (.inl (r29, r30, r31))
  else
   some (.inr 2)
 else
  some (.inr 1)
def spec_MakeAccount_enc (r : ((List UInt8) × (List Item) × Int) ⊕ Int) : AV :=
  match r with
  | (.inl g) => .tup [.agg [.str g.1, .sl (some 42) (g.2.1.map Item.c), .int .i64 g.2.2], .int .i64 0]
  | (.inr g) => .tup [.agg [.str ([] : List UInt8), .nils, .int .i64 0], .int .i64 g]
theorem spec_MakeAccount_ok (a1 : List UInt8) (a2 : List Item) (r : ((List UInt8) × (List Item) × Int) ⊕ Int) (h : spec_MakeAccount a1 a2 = some r) : Ev (fun k => CN k 9 [.str a1, .sl none (a2.map Item.c)] []) (fun p => rRes p.2 p.1 = spec_MakeAccount_enc r) := by
 unfold spec_MakeAccount at h
 refine Ev.enter (F := fun k => f9 (CN k) k) (fun k => callN_eq rfl Tryd.func9 rfl rfl rfl (by decide +kernel) (f9_eq _ _)) (sq (Rg (ku (alO zero27) fun M2 hM3 => ?_)))
 have o4 : M2[([] : Mem).length]? = some (.live ⟨.box, 27, 3, [[.str ([] : List UInt8), .nils, .int .i64 0]]⟩) := push_new hM3
 obtain ⟨r11, hx10, h⟩ := bind_some h
 refine kx (mvO rfl) (Rn (hN rfl (hN rfl (hV (.loc ([] : Mem).length 1 0 0) rfl hZ))) fun e5 h7 h8 h9 => sN (sq (sq (Rg (kx (mvO h8) (kc (cl (v := .bool r11) rfl rfl (cns rfl rfl) rfl (spec_l05Items_ok a2 _ hx10) nm) (kx (uNot rfl) (Rn (hA h7 (hA h8 (hA h9 (hN rfl hZ)))) fun e12 h14 h15 h16 h17 => sN ?_))))))))
 clear h7 h8 h9
 rcases ite_some h with ⟨hb18, h⟩ | ⟨hb18, h⟩
 ·obtain ⟨r20, hx19, h⟩ := bind_some h
  refine cF h17 (congrArg Bool.not hb18) (xx (sN (sq (sq (Rg (kx (mvO h14) (kc (cl (v := .bool r20) rfl rfl (cns rfl rfl) rfl (spec_l05Title_ok a1 _ hx19) nm) (kx (uNot rfl) (Rn (hA h14 (hA h15 (hA h16 (hN rfl hZ)))) fun e21 h23 h24 h25 h26 => sN ?_)))))))))
  clear h14 h15 h16 h17
  rcases ite_some h with ⟨hb27, h⟩ | ⟨hb27, h⟩
  ·obtain ⟨⟨r29, r30, r31⟩, hx28, h⟩ := bind_some h
   refine cF h26 (congrArg Bool.not hb27) (xx (sN (sq (Rg (kx (mvO h23) (kx (mvO h24) (kc (cl (v := .agg [.str r29, .sl (some 42) (r30.map Item.c), .int .i64 r31]) rfl rfl (cns rfl (cns rfl rfl)) rfl (spec_l05Account_ok a1 a2 _ hx28) nm) (kw (stOK h25 rfl o4 rfl rfl ⟨rfl, ble rfl⟩ rfl rfl) fun M32 hM33 => ?_))))))))
   have o34 : M32[([] : Mem).length]? = some (.live ⟨.box, 27, 3, [[.str r29, .sl (some 42) (r30.map Item.c), .int .i64 r31]]⟩) := set_same hM33 o4
   refine kx (mvO rfl) (Rn (hA h25 (hV (.int .i64 0) rfl hZ)) fun e35 h37 h38 => sN (xx ?_))
   clear h23 h24 h25 h26
   obtain rfl := si h
   exact eR (resC (ag := true) (sz := 3) ⟨by kernel_rfl, by kernel_rfl, by kernel_rfl⟩ (ldOA h37 o34 rfl rfl (ble rfl) rfl) (resT h38 res0)) rfl
  refine cT h26 (congrArg Bool.not hb27) (sq (Rg (kx (bldT zero27 rfl (fill0 rfl)) (kw (stOK h25 rfl o4 rfl rfl ⟨rfl, ble rfl⟩ rfl rfl) fun M39 hM40 => ?_))))
  have o41 : M39[([] : Mem).length]? = some (.live ⟨.box, 27, 3, [[.str ([] : List UInt8), .nils, .int .i64 0]]⟩) := set_same hM40 o4
  refine kx (mvO rfl) (Rn (hA h25 (hV (.int .i64 2) rfl hZ)) fun e42 h44 h45 => sN (xx (sR ?_)))
  clear h23 h24 h25 h26
  obtain rfl := si h
  exact eR (resC (ag := true) (sz := 3) ⟨by kernel_rfl, by kernel_rfl, by kernel_rfl⟩ (ldOA h44 o41 rfl rfl (ble rfl) rfl) (resT h45 res0)) rfl
 refine cT h17 (congrArg Bool.not hb18) (sq (Rg (kx (bldT zero27 rfl (fill0 rfl)) (kw (stOK h16 rfl o4 rfl rfl ⟨rfl, ble rfl⟩ rfl rfl) fun M46 hM47 => ?_))))
 have o48 : M46[([] : Mem).length]? = some (.live ⟨.box, 27, 3, [[.str ([] : List UInt8), .nils, .int .i64 0]]⟩) := set_same hM47 o4
 refine kx (mvO rfl) (Rn (hA h16 (hV (.int .i64 1) rfl hZ)) fun e49 h51 h52 => sN (xx (sR ?_)))
 clear h14 h15 h16 h17
 obtain rfl := si h
 exact eR (resC (ag := true) (sz := 3) ⟨by kernel_rfl, by kernel_rfl, by kernel_rfl⟩ (ldOA h51 o48 rfl rfl (ble rfl) rfl) (resT h52 res0)) rfl
/-! ### loop.example/g01263/spec.l00From (f41) -/
noncomputable def spec_l00From (a1 : List Int) : Option L00Src :=
 some (L00Src.mk a1 0 0)
def spec_l00From_Q (a1 : List Int) (M0 : Mem) (r : L00Src) (p : AV × Mem) : Prop := p.1 = .loc M0.length 1 0 0 ∧ p.2[M0.length]? = some (.live ⟨.box, 125, 3, [[.sl none (r.Code.map (cI .u8)), .int .i64 r.At, .int .u64 r.Seed]]⟩) ∧ Fr [] M0 p.2
theorem spec_l00From_ok (a1 : List Int) (M0 : Mem) (r : L00Src) (h : spec_l00From a1 = some r) : Ev (fun k => CN k 41 [.sl none (a1.map (cI .u8))] M0) (spec_l00From_Q a1 M0 r) := by
 unfold spec_l00From at h
 have fr0 : Fr [] M0 M0 := Fr.refl
 refine Ev.enter (F := fun k => f41 (CN k) k) (fun k => callN_eq rfl Tryd.func41 rfl rfl rfl (by decide +kernel) (f41_eq _ _)) (sq (Rg (kx (mvO rfl) (Rn (hN rfl hZ) fun e1 h3 => sN (sq (Rg (kx (mvO h3) (kx (bldT zero125 (cns (pr3 rfl) rfl) (fill1 ⟨rfl, ble rfl⟩ rfl rfl (fill0 rfl))) (ku (bxO rfl rfl ⟨rfl, rfl, by decide⟩) fun M5 hM6 => ?_)))))))))
 have nf7 := Nf.mk fr0
 have fr8 := Fr.push fr0 hM6
 have o9 : M5[M0.length]? = some (.live ⟨.box, 125, 3, [[.sl none (a1.map (cI .u8)), .int .i64 0, .int .u64 0]]⟩) := push_new hM6
 refine kx (mvO rfl) (Rn (hV (.loc M0.length 1 0 0) rfl hZ) fun e10 h12 => sN (xx ?_))
 clear h3
 obtain rfl := si h
 exact eR (resT h12 res0) ⟨rfl, o9, fr8⟩
/-! ### (*loop.example/g01263/spec.l00Src).next (f96) -/
noncomputable def spec_l00Src_next_p (a1 : List Int) (a2 : Int) (a3 : Int) : Option (Int × (List Int) × Int × Int) :=
 if (decide (a2 < (a1.length : Int))) = true then
  (rd a1 a2).bind fun x14 =>
  if (decide ((IntKind.i64.wrap (a2 + 1)) ≤ (a1.length : Int))) = true then
   some ((IntKind.i64.wrap x14), a1, (IntKind.i64.wrap (a2 + 1)), (IntKind.u64.wrap ((IntKind.u64.wrap ((IntKind.u64.wrap (a3 * 6364136223846793005)) + (IntKind.u64.wrap (IntKind.i64.wrap x14)))) + 1442695040888963407)))
  else
   (shr .u64 (IntKind.u64.wrap ((IntKind.u64.wrap ((IntKind.u64.wrap (a3 * 6364136223846793005)) + (IntKind.u64.wrap (IntKind.i64.wrap x14)))) + 1442695040888963407)) 40).bind fun n45 =>
   some ((IntKind.i64.wrap (iand .u64 n45 255)), a1, (IntKind.i64.wrap (a2 + 1)), (IntKind.u64.wrap ((IntKind.u64.wrap ((IntKind.u64.wrap (a3 * 6364136223846793005)) + (IntKind.u64.wrap (IntKind.i64.wrap x14)))) + 1442695040888963407)))
 else
  if (decide ((IntKind.i64.wrap (a2 + 1)) ≤ (a1.length : Int))) = true then
   some (0, a1, (IntKind.i64.wrap (a2 + 1)), (IntKind.u64.wrap ((IntKind.u64.wrap ((IntKind.u64.wrap (a3 * 6364136223846793005)) + 0)) + 1442695040888963407)))
  else
   (shr .u64 (IntKind.u64.wrap ((IntKind.u64.wrap ((IntKind.u64.wrap (a3 * 6364136223846793005)) + 0)) + 1442695040888963407)) 40).bind fun n75 =>
   some ((IntKind.i64.wrap (iand .u64 n75 255)), a1, (IntKind.i64.wrap (a2 + 1)), (IntKind.u64.wrap ((IntKind.u64.wrap ((IntKind.u64.wrap (a3 * 6364136223846793005)) + 0)) + 1442695040888963407)))
def spec_l00Src_next_p_Q (a1 : List Int) (a2 : Int) (a3 : Int) (j1 : Nat) (M0 : Mem) (r : Int × (List Int) × Int × Int) (p : AV × Mem) : Prop := p.1 = .int .i64 r.1 ∧ p.2[j1]? = some (.live ⟨.box, 125, 3, [[.sl none (r.2.1.map (cI .u8)), .int .i64 r.2.2.1, .int .u64 r.2.2.2]]⟩) ∧ Fr [j1] M0 p.2
theorem spec_l00Src_next_p_ok (a1 : List Int) (a2 : Int) (a3 : Int) (j1 : Nat) (M0 : Mem) (oP1 : M0[j1]? = some (.live ⟨.box, 125, 3, [[.sl none (a1.map (cI .u8)), .int .i64 a2, .int .u64 a3]]⟩)) (r : Int × (List Int) × Int × Int) (h : spec_l00Src_next_p a1 a2 a3 = some r) : Ev (fun k => CN k 96 [.loc j1 1 0 0] M0) (spec_l00Src_next_p_Q a1 a2 a3 j1 M0 r) := by
 unfold spec_l00Src_next_p at h
 have fr0 : Fr [j1] M0 M0 := Fr.refl
 refine Ev.enter (F := fun k => f96 (CN k) k) (fun k => callN_eq rfl Tryd.func96 rfl rfl rfl (by decide +kernel) (f96_eq _ _)) (sq (Rg (kx (mvO rfl) (Rn (hV (.loc j1 1 0 0) rfl hZ) fun e1 h3 => sN (sq (Rg (kx (mvO rfl) (Rn (hA h3 (hV (.int .i64 0) rfl hZ)) fun e4 h6 h7 => sN (sq (sq (Rd (kf (mvO h6) (kf (ncO rfl oP1 rfl) (kf (faO rfl oP1 rfl) (kf (ldO rfl oP1 rfl rfl rfl) (kf (mvO h6) (kf (ncO rfl oP1 rfl) (kf (faO rfl oP1 rfl) (kf (ldO rfl oP1 rfl rfl rfl) (kf (lnS Tryd.underlying22 rfl) (kf (bLss rfl rfl) (fZ (Rn (hA h6 (hA h7 (hN rfl hZ))) fun e8 h10 h11 h12 => sN ?_)))))))))))))))))))))))
 clear h3 h6 h7
 rcases ite_some h with ⟨hb13, h⟩ | ⟨hb13, h⟩
 ·obtain ⟨x14, hx15, h⟩ := bind_some h
  refine cT h12 hb13 (Rd (kf (mvO h10) (kf (ncO rfl oP1 rfl) (kf (faO rfl oP1 rfl) (kf (ldO rfl oP1 rfl rfl rfl) (kf (mvO h10) (kf (ncO rfl oP1 rfl) (kf (faO rfl oP1 rfl) (kf (ldO rfl oP1 rfl rfl rfl) (kf (ixS rfl rfl hx15 (cI_fl _)) (kf (ldP rfl rfl) (kf (cvI rfl) (kf (mvO rfl) (fZ (Rn (hA h10 (hN rfl hZ)) fun e16 h18 h19 => sN (sq (Rg (kx (mvO h18) (kx (ncO rfl oP1 rfl) (kx (faO rfl oP1 rfl) (kx (ldO rfl oP1 rfl rfl rfl) (kx (bAdd rfl rfl) (kx (ncO rfl oP1 rfl) (kx (faO rfl oP1 rfl) (kw (stO rfl rfl oP1 rfl rfl ⟨rfl, ble rfl⟩ rfl rfl) fun M20 hM21 => ?_)))))))))))))))))))))))))
  clear h10 h12
  have o22 : M20[j1]? = some (.live ⟨.box, 125, 3, [[.sl none (a1.map (cI .u8)), .int .i64 (IntKind.i64.wrap (a2 + 1)), .int .u64 a3]]⟩) := set_same hM21 oP1
  have fr23 := Fr.setIn fr0 hM21 (by simp)
  refine Rn (hA h18 (hA h19 hZ)) fun e24 h26 h27 => sN (sq (Rg (kx (mvO h26) (kx (mvO h26) (kx (ncO rfl o22 rfl) (kx (faO rfl o22 rfl) (kx (ldO rfl o22 rfl rfl rfl) (kx (bMul rfl rfl) (kx (mvO h27) (kx (cvI rfl) (kx (bAdd rfl rfl) (kx (bAdd rfl rfl) (kx (ncO rfl o22 rfl) (kx (faO rfl o22 rfl) (kw (stO rfl rfl o22 rfl rfl ⟨rfl, ble rfl⟩ rfl rfl) fun M28 hM29 => ?_)))))))))))))))
  clear h18 h19
  have o30 : M28[j1]? = some (.live ⟨.box, 125, 3, [[.sl none (a1.map (cI .u8)), .int .i64 (IntKind.i64.wrap (a2 + 1)), .int .u64 (IntKind.u64.wrap ((IntKind.u64.wrap ((IntKind.u64.wrap (a3 * 6364136223846793005)) + (IntKind.u64.wrap (IntKind.i64.wrap x14)))) + 1442695040888963407))]]⟩) := set_same hM29 o22
  have fr31 := Fr.setIn fr23 hM29 (by simp)
  refine Rn (hA h26 (hA h27 hZ)) fun e32 h34 h35 => sN (sq (sq (Rd (kf (mvO h34) (kf (ncO rfl o30 rfl) (kf (faO rfl o30 rfl) (kf (ldO rfl o30 rfl rfl rfl) (kf (mvO h34) (kf (ncO rfl o30 rfl) (kf (faO rfl o30 rfl) (kf (ldO rfl o30 rfl rfl rfl) (kf (lnS Tryd.underlying22 rfl) (kf (bLeq rfl rfl) (fZ (Rn (hA h34 (hA h35 (hN rfl hZ))) fun e36 h38 h39 h40 => sN ?_)))))))))))))))
  clear h26 h27 h34 h35
  rcases ite_some h with ⟨hb41, h⟩ | ⟨hb41, h⟩
  ·refine cT h40 hb41 (sq (Rg (kx (mvO h39) (kx (mvO rfl) (Rn (hN rfl hZ) fun e42 h44 => sN (xx (sR ?_)))))))
   clear h38 h39 h40
   obtain rfl := si h
   exact eR (resT h44 res0) ⟨rfl, o30, fr31⟩
  obtain ⟨n45, hx46, h⟩ := bind_some h
  refine cF h40 hb41 (xx (sN (sq (Rg (kx (mvO h38) (kx (ncO rfl o30 rfl) (kx (faO rfl o30 rfl) (kx (ldO rfl o30 rfl rfl rfl) (kx (bShr rfl rfl hx46) (kx (bAnd rfl rfl) (kx (cvI rfl) (kx (mvO rfl) (Rn (hN rfl hZ) fun e47 h49 => sN (xx ?_))))))))))))))
  clear h38 h39 h40
  obtain rfl := si h
  exact eR (resT h49 res0) ⟨rfl, o30, fr31⟩
 refine cF h12 hb13 (xx (sN (sq (Rg (kx (mvO h10) (kx (ncO rfl oP1 rfl) (kx (faO rfl oP1 rfl) (kx (ldO rfl oP1 rfl rfl rfl) (kx (bAdd rfl rfl) (kx (ncO rfl oP1 rfl) (kx (faO rfl oP1 rfl) (kw (stO rfl rfl oP1 rfl rfl ⟨rfl, ble rfl⟩ rfl rfl) fun M50 hM51 => ?_))))))))))))
 have o52 : M50[j1]? = some (.live ⟨.box, 125, 3, [[.sl none (a1.map (cI .u8)), .int .i64 (IntKind.i64.wrap (a2 + 1)), .int .u64 a3]]⟩) := set_same hM51 oP1
 have fr53 := Fr.setIn fr0 hM51 (by simp)
 refine Rn (hA h10 (hA h11 hZ)) fun e54 h56 h57 => sN (sq (Rg (kx (mvO h56) (kx (mvO h56) (kx (ncO rfl o52 rfl) (kx (faO rfl o52 rfl) (kx (ldO rfl o52 rfl rfl rfl) (kx (bMul rfl rfl) (kx (mvO h57) (kx (cvI rfl) (kx (bAdd rfl rfl) (kx (bAdd rfl rfl) (kx (ncO rfl o52 rfl) (kx (faO rfl o52 rfl) (kw (stO rfl rfl o52 rfl rfl ⟨rfl, ble rfl⟩ rfl rfl) fun M58 hM59 => ?_)))))))))))))))
 clear h10 h11 h12
 have o60 : M58[j1]? = some (.live ⟨.box, 125, 3, [[.sl none (a1.map (cI .u8)), .int .i64 (IntKind.i64.wrap (a2 + 1)), .int .u64 (IntKind.u64.wrap ((IntKind.u64.wrap ((IntKind.u64.wrap (a3 * 6364136223846793005)) + 0)) + 1442695040888963407))]]⟩) := set_same hM59 o52
 have fr61 := Fr.setIn fr53 hM59 (by simp)
 refine Rn (hA h56 (hA h57 hZ)) fun e62 h64 h65 => sN (sq (sq (Rd (kf (mvO h64) (kf (ncO rfl o60 rfl) (kf (faO rfl o60 rfl) (kf (ldO rfl o60 rfl rfl rfl) (kf (mvO h64) (kf (ncO rfl o60 rfl) (kf (faO rfl o60 rfl) (kf (ldO rfl o60 rfl rfl rfl) (kf (lnS Tryd.underlying22 rfl) (kf (bLeq rfl rfl) (fZ (Rn (hA h64 (hA h65 (hN rfl hZ))) fun e66 h68 h69 h70 => sN ?_)))))))))))))))
 clear h56 h57 h64 h65
 rcases ite_some h with ⟨hb71, h⟩ | ⟨hb71, h⟩
 ·refine cT h70 hb71 (sq (Rg (kx (mvO h69) (kx (mvO rfl) (Rn (hV (.int .i64 0) rfl hZ) fun e72 h74 => sN (xx (sR ?_)))))))
  clear h68 h69 h70
  obtain rfl := si h
  exact eR (resT h74 res0) ⟨rfl, o60, fr61⟩
 obtain ⟨n75, hx76, h⟩ := bind_some h
 refine cF h70 hb71 (xx (sN (sq (Rg (kx (mvO h68) (kx (ncO rfl o60 rfl) (kx (faO rfl o60 rfl) (kx (ldO rfl o60 rfl rfl rfl) (kx (bShr rfl rfl hx76) (kx (bAnd rfl rfl) (kx (cvI rfl) (kx (mvO rfl) (Rn (hN rfl hZ) fun e77 h79 => sN (xx ?_))))))))))))))
 clear h68 h69 h70
 obtain rfl := si h
 exact eR (resT h79 res0) ⟨rfl, o60, fr61⟩
/-! ### (*loop.example/g01263/spec.l00Src).pick (f59) -/
noncomputable def spec_l00Src_pick_p (a1 : List Int) (a2 : Int) (a3 : Int) (a4 : Int) : Option (Int × (List Int) × Int × Int) :=
 if (decide (a4 ≤ 1)) = true then
  some (0, a1, a2, a3)
 else
  (spec_l00Src_next_p a1 a2 a3).bind fun (r15, r16, r17, r18) =>
  if (decide (a4 > 200)) = true then
   (spec_l00Src_next_p r16 r17 r18).bind fun (r39, r40, r41, r42) =>
   (rem .i64 (IntKind.i64.wrap ((IntKind.i64.wrap (r15 * 256)) + r39)) a4).bind fun n54 =>
   some (n54, r40, r41, r42)
  else
   (rem .i64 r15 a4).bind fun n59 =>
   some (n59, r16, r17, r18)
def spec_l00Src_pick_p_Q (a1 : List Int) (a2 : Int) (a3 : Int) (a4 : Int) (j1 : Nat) (M0 : Mem) (r : Int × (List Int) × Int × Int) (p : AV × Mem) : Prop := p.1 = .int .i64 r.1 ∧ p.2[j1]? = some (.live ⟨.box, 125, 3, [[.sl none (r.2.1.map (cI .u8)), .int .i64 r.2.2.1, .int .u64 r.2.2.2]]⟩) ∧ Fr [j1] M0 p.2
theorem spec_l00Src_pick_p_ok (a1 : List Int) (a2 : Int) (a3 : Int) (a4 : Int) (j1 : Nat) (M0 : Mem) (oP1 : M0[j1]? = some (.live ⟨.box, 125, 3, [[.sl none (a1.map (cI .u8)), .int .i64 a2, .int .u64 a3]]⟩)) (r : Int × (List Int) × Int × Int) (h : spec_l00Src_pick_p a1 a2 a3 a4 = some r) : Ev (fun k => CN k 59 [.loc j1 1 0 0, .int .i64 a4] M0) (spec_l00Src_pick_p_Q a1 a2 a3 a4 j1 M0 r) := by
 unfold spec_l00Src_pick_p at h
 have fr0 : Fr [j1] M0 M0 := Fr.refl
 refine Ev.enter (F := fun k => f59 (CN k) k) (fun k => callN_eq rfl Tryd.func59 rfl rfl rfl (by decide +kernel) (f59_eq _ _)) (sq (Rg (kx (mvO rfl) (Rn (hV (.loc j1 1 0 0) rfl (hN rfl hZ)) fun e1 h3 h4 => sN (sq (sq (Rg (kx (mvO h4) (kx (bLeq rfl rfl) (Rn (hA h3 (hA h4 (hN rfl hZ))) fun e5 h7 h8 h9 => sN ?_))))))))))
 clear h3 h4
 rcases ite_some h with ⟨hb10, h⟩ | ⟨hb10, h⟩
 ·refine cT h9 hb10 (sq (Rg (kx (mvO rfl) (Rn (hV (.int .i64 0) rfl hZ) fun e11 h13 => sN (xx (sR ?_))))))
  clear h7 h8 h9
  obtain rfl := si h
  exact eR (resT h13 res0) ⟨rfl, oP1, fr0⟩
 obtain ⟨⟨r15, r16, r17, r18⟩, hx14, h⟩ := bind_some h
 refine cF h9 hb10 (xx (sN (sq (Rg (kx (mvO h7) (Ev.nxw (Ev.callW rfl (cns rfl rfl) (spec_l00Src_next_p_ok a1 a2 a3 j1 M0 oP1 _ hx14)) fun v21 M19 hq20 => ?_))))))
 obtain ⟨hv21, o22, fr23⟩ := hq20
 have hv21 : v21 = .int .i64 r15 := hv21
 subst hv21
 have o24 : M19[j1]? = some (.live ⟨.box, 125, 3, [[.sl none (r16.map (cI .u8)), .int .i64 r17, .int .u64 r18]]⟩) := o22
 have fr25 : Fr [j1] M0 M19 := Fr.call fr0 fr23 (fwI (by simp) fwN)
 refine kx (mvO rfl) (Rn (hA h7 (hA h8 (hN rfl hZ))) fun e26 h28 h29 h30 => sN (sq (sq (Rg (kx (mvO h29) (kx (bGtr rfl rfl) (Rn (hA h28 (hA h29 (hA h30 (hN rfl hZ)))) fun e31 h33 h34 h35 h36 => sN ?_)))))))
 clear h7 h8 h9 h28 h29 h30
 rcases ite_some h with ⟨hb37, h⟩ | ⟨hb37, h⟩
 ·obtain ⟨⟨r39, r40, r41, r42⟩, hx38, h⟩ := bind_some h
  refine cT h36 hb37 (Rg (kx (mvO h35) (kx (bMul rfl rfl) (kx (mvO h33) (Ev.nxw (Ev.callW rfl (cns rfl rfl) (spec_l00Src_next_p_ok r16 r17 r18 j1 M19 o24 _ hx38)) fun v45 M43 hq44 => ?_)))))
  obtain ⟨hv45, o46, fr47⟩ := hq44
  have hv45 : v45 = .int .i64 r39 := hv45
  subst hv45
  have o48 : M43[j1]? = some (.live ⟨.box, 125, 3, [[.sl none (r40.map (cI .u8)), .int .i64 r41, .int .u64 r42]]⟩) := o46
  have fr49 : Fr [j1] M0 M43 := Fr.call fr25 fr47 (fwI (by simp) fwN)
  obtain ⟨n54, hx55, h⟩ := bind_some h
  refine kx (bAdd rfl rfl) (kx (mvO rfl) (Rn (hA h34 (hN rfl hZ)) fun e50 h52 h53 => sN (sq (Rg (kx (mvO h53) (kx (mvO h52) (kx (bRem rfl rfl hx55) (kx (mvO rfl) (Rn (hN rfl hZ) fun e56 h58 => sN (xx ?_))))))))))
  clear h33 h34 h36 h52 h53
  obtain rfl := si h
  exact eR (resT h58 res0) ⟨rfl, o48, fr49⟩
 obtain ⟨n59, hx60, h⟩ := bind_some h
 refine cF h36 hb37 (xx (sN (sq (Rg (kx (mvO h35) (kx (mvO h34) (kx (bRem rfl rfl hx60) (kx (mvO rfl) (Rn (hN rfl hZ) fun e61 h63 => sN (xx ?_))))))))))
 clear h33 h34 h35 h36
 obtain rfl := si h
 exact eR (resT h63 res0) ⟨rfl, o24, fr25⟩
/-! ### loop.example/g01263/spec.l05Drawn (f40) -/
abbrev spec_l05Drawn_p_b1_S := Int × (List Item) × (List Int) × Int × Int
abbrev spec_l05Drawn_p_b1_R := (List Item) × (List Int) × Int × Int
def spec_l05Drawn_p_b1_RS (i1_1 : Nat) (j1 : Nat) (M0 : Mem) (s : spec_l05Drawn_p_b1_S) (e : Env) (M : Mem) : Prop := eget e 0 = .loc j1 1 0 0 ∧ eget e 3 = .lsl i1_1 s.2.1.length 0 s.2.1.length ∧ eget e 4 = .int .i64 s.1 ∧ M[i1_1]? = some (.live ⟨.grow, 42, 2, s.2.1.map Item.c⟩) ∧ M[j1]? = some (.live ⟨.box, 125, 3, [[.sl none (s.2.2.1.map (cI .u8)), .int .i64 s.2.2.2.1, .int .u64 s.2.2.2.2]]⟩) ∧ Fr [j1] M0 M
def spec_l05Drawn_p_b1_RR (i1_1 : Nat) (j1 : Nat) (M0 : Mem) (g : spec_l05Drawn_p_b1_R) (x : Ex) (e : Env) (M : Mem) : Prop := x = .ext 0 ∧ eget e 3 = .lsl i1_1 g.1.length 0 g.1.length ∧ M[i1_1]? = some (.live ⟨.grow, 42, 2, g.1.map Item.c⟩) ∧ M[j1]? = some (.live ⟨.box, 125, 3, [[.sl none (g.2.1.map (cI .u8)), .int .i64 g.2.2.1, .int .u64 g.2.2.2]]⟩) ∧ Fr [j1] M0 M
noncomputable def spec_l05Drawn_p_b1 : spec_l05Drawn_p_b1_S → Option (spec_l05Drawn_p_b1_S ⊕ spec_l05Drawn_p_b1_R) := fun (s1_1, s1_2, s1_3, s1_4, s1_5) =>
 if (decide (s1_1 > 0)) = true then
  (spec_l00Src_pick_p s1_3 s1_4 s1_5 4).bind fun (r64, r65, r66, r67) =>
  (spec_l00Src_pick_p r65 r66 r67 500).bind fun (r99, r100, r101, r102) =>
  (app 16 s1_2 [(Item.mk (IntKind.i8.wrap r64) r99)]).bind fun x124 =>
  some (.inl ((IntKind.i64.wrap (s1_1 - 1)), x124, r100, r101, r102))
 else
  some (.inr (s1_2, s1_3, s1_4, s1_5))
theorem spec_l05Drawn_p_b1_ok (i1_1 : Nat) (j1 : Nat) (M0 : Mem) (ne10 : j1 ≠ i1_1) (nf7 : Nf [j1] M0 i1_1) (s : spec_l05Drawn_p_b1_S) (r : spec_l05Drawn_p_b1_S ⊕ spec_l05Drawn_p_b1_R) (h : spec_l05Drawn_p_b1 s = some r) (e : Env) (M : Mem) (hs : spec_l05Drawn_p_b1_RS i1_1 j1 M0 s e M) : Ev (fun k => (f40_l3 (CN k) k (prune [0, 3, 4] e) M).bind fun q => some q) (bQ (spec_l05Drawn_p_b1_RS i1_1 j1 M0) (spec_l05Drawn_p_b1_RR i1_1 j1 M0) r) := by
 obtain ⟨s1_1, s1_2, s1_3, s1_4, s1_5⟩ := s
 unfold spec_l05Drawn_p_b1 at h
 obtain ⟨h47, h49, h51, o54, o53, fr55⟩ := hs
 generalize he46 : prune [0, 3, 4] e = e45
 have h48 := envp he46.symm rfl h47
 have h50 := envp he46.symm rfl h49
 have h52 := envp he46.symm rfl h51
 refine sq (sq (Rg (kx (mvO h52) (kx (bGtr rfl rfl) (Rn (hV (.loc j1 1 0 0) h48 (hV (.lsl i1_1 s1_2.length 0 s1_2.length) h50 (hV (.int .i64 s1_1) h52 (hN rfl hZ)))) fun e56 h58 h59 h60 h61 => sN ?_)))))
 clear h48 h50 h52
 rcases ite_some h with ⟨hb62, h⟩ | ⟨hb62, h⟩
 ·obtain ⟨⟨r64, r65, r66, r67⟩, hx63, h⟩ := bind_some h
  refine cT h61 hb62 (xx (sN (sq (bl (sq (Rg (kx (mvO h58) (Ev.nxw (Ev.callW rfl (cns rfl (cns rfl rfl)) (spec_l00Src_pick_p_ok s1_3 s1_4 s1_5 4 j1 M o53 _ hx63)) fun v70 M68 hq69 => ?_))))))))
  obtain ⟨hv70, o71, fr72⟩ := hq69
  have hv70 : v70 = .int .i64 r64 := hv70
  subst hv70
  have o73 : M68[j1]? = some (.live ⟨.box, 125, 3, [[.sl none (r65.map (cI .u8)), .int .i64 r66, .int .u64 r67]]⟩) := o71
  have fr72 : Fr [j1] M M68 := fr72
  have o74 := fr72 _ _ (niC (Ne.symm ne10) niN) o54
  have fr75 : Fr [j1] M0 M68 := Fr.call fr55 fr72 (fwI (by simp) fwN)
  refine kx (cvI rfl) (kx (bldT zero42 (cns (pr3 rfl) rfl) (fill1 ⟨rfl, ble rfl⟩ rfl rfl (fill0 rfl))) (ku (alO zero42) fun M77 hM78 => ?_))
  have nf79 := Nf.mk fr75
  have fr80 := Fr.push fr75 hM78
  have o81 := push_old hM78 o73
  have ne82 := ne_new o73
  have o83 := push_old hM78 o74
  have ne84 := ne_new o74
  have o85 : M77[M68.length]? = some (.live ⟨.box, 42, 2, [[.int .i8 0, .int .i64 0]]⟩) := push_new hM78
  refine kw (stO rfl rfl o85 rfl rfl ⟨rfl, ble rfl⟩ rfl rfl) fun M86 hM87 => ?_
  have o88 := set_ne hM87 ne82 o81
  have o89 := set_ne hM87 ne84 o83
  have o90 : M86[M68.length]? = some (.live ⟨.box, 42, 2, [[.int .i8 (IntKind.i8.wrap r64), .int .i64 0]]⟩) := set_same hM87 o85
  have fr91 := Fr.setNew fr80 hM87 nf79
  obtain ⟨⟨r99, r100, r101, r102⟩, hx98, h⟩ := bind_some h
  refine Rn (hA h58 (hA h59 (hA h60 (hV (.loc M68.length 1 0 0) rfl hZ)))) fun e92 h94 h95 h96 h97 => sN (sq (Rg (kx (mvO h94) (Ev.nxw (Ev.callW rfl (cns rfl (cns rfl rfl)) (spec_l00Src_pick_p_ok r65 r66 r67 500 j1 M86 o88 _ hx98)) fun v105 M103 hq104 => ?_))))
  clear h58 h59 h60 h61
  obtain ⟨hv105, o106, fr107⟩ := hq104
  have hv105 : v105 = .int .i64 r99 := hv105
  subst hv105
  have o108 : M103[j1]? = some (.live ⟨.box, 125, 3, [[.sl none (r100.map (cI .u8)), .int .i64 r101, .int .u64 r102]]⟩) := o106
  have fr107 : Fr [j1] M86 M103 := fr107
  have o109 := fr107 _ _ (niC (Ne.symm ne10) niN) o89
  have o110 := fr107 _ _ (niC (Ne.symm ne82) niN) o90
  have fr111 : Fr [j1] M0 M103 := Fr.call fr91 fr107 (fwI (by simp) fwN)
  refine kx (faO h97 o110 rfl) (kw (stO rfl rfl o110 rfl rfl ⟨rfl, ble rfl⟩ rfl rfl) fun M112 hM113 => ?_)
  have o114 := set_ne hM113 ne82 o108
  have o115 := set_ne hM113 ne84 o109
  have o116 : M112[M68.length]? = some (.live ⟨.box, 42, 2, [[.int .i8 (IntKind.i8.wrap r64), .int .i64 r99]]⟩) := set_same hM113 o110
  have fr117 := Fr.setNew fr111 hM113 nf79
  obtain ⟨x124, hx125, h⟩ := bind_some h
  refine Rn (hA h94 (hA h95 (hA h96 (hA h97 hZ)))) fun e118 h120 h121 h122 h123 => sN (Rg (kx (mvO h121) (kx (ldOA h123 o116 rfl rfl (ble rfl) rfl) (kx (litI (cns rfl rfl) rfl ⟨rfl, by decide⟩) (kw (apO rfl o115 rfl (elT (c := Item.c) (xs := [(Item.mk (IntKind.i8.wrap r64) r99)]) rfl) hx125 Item.fl (by decide)) fun M126 hM127 => ?_)))))
  clear h94 h95 h96 h97
  have o128 := set_ne hM127 ne10 o114
  have o129 : M126[i1_1]? = some (.live ⟨.grow, 42, 2, x124.map Item.c⟩) := set_same hM127 o115
  have o130 := set_ne hM127 (Ne.symm ne84) o116
  have fr131 := Fr.setNew fr117 hM127 nf7
  refine kx (mvO rfl) (Rn (hA h120 (hV (.lsl i1_1 x124.length 0 x124.length) rfl (hA h122 hZ))) fun e132 h134 h135 h136 => bN (sN (Rg (kx (mvO h136) (kx (bSub rfl rfl) (kx (mvO rfl) (Rn (hA h134 (hA h135 (hN rfl hZ))) fun e137 h139 h140 h141 => ?_)))))))
  clear h120 h122 h123 h134 h135
  obtain rfl := si h
  exact qN ⟨h139, h140, h141, o129, o128, fr131⟩
 refine cF h61 hb62 (xx (sE ?_))
 obtain rfl := si h
 exact qE ⟨rfl, h59, o54, o53, fr55⟩
noncomputable def spec_l05Drawn_p (a1 : List Int) (a2 : Int) (a3 : Int) : Option ((List Int) × Int × Int × (List Item)) :=
 (spec_l00Src_pick_p a1 a2 a3 6).bind fun (r17, r18, r19, r20) =>
 (Lw (spec_l05Drawn_p_b1) (r17, ([] : List Item), r18, r19, r20)).bind fun (y147, y148, y149, y150) =>
 some (y148, y149, y150, y147)
def spec_l05Drawn_p_Q (a1 : List Int) (a2 : Int) (a3 : Int) (j1 : Nat) (M0 : Mem) (r : (List Int) × Int × Int × (List Item)) (p : AV × Mem) : Prop := (∃ n1 : Nat, p.1 = .lsl n1 r.2.2.2.length 0 r.2.2.2.length ∧ p.2[n1]? = some (.live ⟨.grow, 42, 2, r.2.2.2.map Item.c⟩) ∧ p.2[j1]? = some (.live ⟨.box, 125, 3, [[.sl none (r.1.map (cI .u8)), .int .i64 r.2.1, .int .u64 r.2.2.1]]⟩) ∧ Fr [j1] M0 p.2 ∧ Nf [j1] M0 n1 ∧ j1 ≠ n1)
theorem spec_l05Drawn_p_ok (a1 : List Int) (a2 : Int) (a3 : Int) (j1 : Nat) (M0 : Mem) (oP1 : M0[j1]? = some (.live ⟨.box, 125, 3, [[.sl none (a1.map (cI .u8)), .int .i64 a2, .int .u64 a3]]⟩)) (r : (List Int) × Int × Int × (List Item)) (h : spec_l05Drawn_p a1 a2 a3 = some r) : Ev (fun k => CN k 40 [.loc j1 1 0 0] M0) (spec_l05Drawn_p_Q a1 a2 a3 j1 M0 r) := by
 unfold spec_l05Drawn_p at h
 have fr0 : Fr [j1] M0 M0 := Fr.refl
 refine Ev.enter (F := fun k => f40 (CN k) k) (fun k => callN_eq rfl Tryd.func40 rfl rfl rfl (by decide +kernel) (f40_eq _ _)) (sq (Rg (kx (mvO rfl) (Rn (hV (.loc j1 1 0 0) rfl hZ) fun e1 h3 => sN (sq (Rg (ku (litO (xs := ([] : List Item)) (c := Item.c) rfl rfl (by decide)) fun M5 hM6 => ?_)))))))
 have nf7 := Nf.mk fr0
 have fr8 := Fr.push fr0 hM6
 have o9 := push_old hM6 oP1
 have ne10 := ne_new oP1
 have o11 : M5[M0.length]? = some (.live ⟨.grow, 42, 2, ([] : List Item).map Item.c⟩) := push_new hM6
 obtain ⟨⟨r17, r18, r19, r20⟩, hx16, h⟩ := bind_some h
 refine kx (mvO rfl) (Rn (hA h3 (hV (.lsl M0.length ([] : List Item).length 0 ([] : List Item).length) rfl hZ)) fun e12 h14 h15 => sN (sq (sq (Rg (kx (mvO h14) (Ev.nxw (Ev.callW rfl (cns rfl (cns rfl rfl)) (spec_l00Src_pick_p_ok a1 a2 a3 6 j1 M5 o9 _ hx16)) fun v23 M21 hq22 => ?_))))))
 clear h3
 obtain ⟨hv23, o24, fr25⟩ := hq22
 have hv23 : v23 = .int .i64 r17 := hv23
 subst hv23
 have o26 : M21[j1]? = some (.live ⟨.box, 125, 3, [[.sl none (r18.map (cI .u8)), .int .i64 r19, .int .u64 r20]]⟩) := o24
 have fr25 : Fr [j1] M5 M21 := fr25
 have o27 := fr25 _ _ (niC (Ne.symm ne10) niN) o11
 have fr28 : Fr [j1] M0 M21 := Fr.call fr8 fr25 (fwI (by simp) fwN)
 obtain ⟨⟨y147, y148, y149, y150⟩, hr143, h⟩ := bind_some h
 refine kx (mvO rfl) (Rn (hA h14 (hA h15 (hN rfl hZ))) fun e29 h31 h32 h33 => sN (bl (Ev.loop (RS := spec_l05Drawn_p_b1_RS M0.length j1 M0) (RR := spec_l05Drawn_p_b1_RR M0.length j1 M0) (fun s r h e M hs => spec_l05Drawn_p_b1_ok M0.length j1 M0 ne10 nf7 s r h e M hs) hr143 ⟨h31, h32, h33, o27, o26, fr28⟩ fun x e145 M146 hq144 => ?_)))
 clear h14 h15
 obtain ⟨rfl, h151, o152, o153, fr154⟩ := hq144
 refine bE (sN (sq (Rg (kx (mvO h151) (kx (mvO rfl) (Rn (hV (.lsl M0.length y147.length 0 y147.length) rfl hZ) fun e155 h157 => sN (xx ?_)))))))
 clear h151
 obtain rfl := si h
 exact eR (resT h157 res0) ⟨M0.length, rfl, o152, o153, fr154, nf7, ne10⟩
/-! ### loop.example/g01263/spec.A2Items (f7) -/
noncomputable def spec_A2Items (a1 : List Int) : Option ((List Item)) :=
 (spec_l00From a1).bind fun r5 =>
 (spec_l05Drawn_p r5.Code r5.At r5.Seed).bind fun (r13, r14, r15, r16) =>
 some r16
def spec_A2Items_enc (r : (List Item)) : AV := .sl (some 42) (r.map Item.c)
theorem spec_A2Items_ok (a1 : List Int) (r : (List Item)) (h : spec_A2Items a1 = some r) : Ev (fun k => CN k 7 [.sl none (a1.map (cI .u8))] []) (fun p => rRes p.2 p.1 = spec_A2Items_enc r) := by
 unfold spec_A2Items at h
 obtain ⟨r5, hx4, h⟩ := bind_some h
 refine Ev.enter (F := fun k => f7 (CN k) k) (fun k => callN_eq rfl Tryd.func7 rfl rfl rfl (by decide +kernel) (f7_eq _ _)) (sq (Rg (kx (mvO rfl) (Rn (hN rfl hZ) fun e1 h3 => sN (sq (Rg (kx (mvO h3) (Ev.nxw (Ev.callW rfl (cns rfl rfl) (spec_l00From_ok a1 _ _ hx4)) fun v9 M7 hq8 => ?_))))))))
 obtain ⟨hv9, o11, fr10⟩ := hq8
 have hv9 : v9 = .loc ([] : Mem).length 1 0 0 := hv9
 subst hv9
 obtain ⟨⟨r13, r14, r15, r16⟩, hx12, h⟩ := bind_some h
 refine Ev.nxw (Ev.callW rfl (cns rfl rfl) (spec_l05Drawn_p_ok r5.Code r5.At r5.Seed (([] : Mem).length) M7 o11 _ hx12)) fun v21 M19 hq20 => ?_
 obtain ⟨id17, hv21, o24, o22, fr23, nf25, ne26⟩ := hq20
 have hv21 : v21 = .lsl id17 r16.length 0 r16.length := hv21
 subst hv21
 have o27 : M19[([] : Mem).length]? = some (.live ⟨.box, 125, 3, [[.sl none (r13.map (cI .u8)), .int .i64 r14, .int .u64 r15]]⟩) := o22
 refine kx (mvO rfl) (Rn (hV (.lsl id17 r16.length 0 r16.length) rfl hZ) fun e28 h30 => sN (xx ?_))
 clear h3
 obtain rfl := si h
 exact eR (resT h30 res0) (rr_row o24 rfl Item.fl)
/-! ### loop.example/g01263/laws.a2Long (f6) -/
noncomputable def laws_a2Long (a1 : List Int) (a2 : List Int) : Option Bool :=
 if (decide ((a1.length : Int) > 3000)) = true then
  some true
 else
  some (decide ((a2.length : Int) > 3000))
def laws_a2Long_enc (r : Bool) : AV := .bool r
theorem laws_a2Long_ok (a1 : List Int) (a2 : List Int) (r : Bool) (h : laws_a2Long a1 a2 = some r) : Ev (fun k => CN k 6 [.sl none (a1.map (cI .u8)), .sl none (a2.map (cI .u8))] []) (fun p => rRes p.2 p.1 = laws_a2Long_enc r) := by
 unfold laws_a2Long at h
 refine Ev.enter (F := fun k => f6 (CN k) k) (fun k => callN_eq rfl Tryd.func6 rfl rfl rfl (by decide +kernel) (f6_eq _ _)) (sq (Rg (kx (mvO rfl) (Rn (hN rfl (hN rfl hZ)) fun e1 h3 h4 => sN (sq (Rg (kx (mvO h3) (kx (lnS Tryd.underlying22 rfl) (kx (bGtr rfl rfl) (kx (mvO rfl) ?_))))))))))
 rcases ite_some h with ⟨hb5, h⟩ | ⟨hb5, h⟩
 ·refine kx (gsF rfl hb5) (kx (gsF rfl hb5) (kx (gsF rfl hb5) (kx (pkT rfl hb5 rfl) (kx (mvO rfl) (Rn (hV (.bool true) rfl hZ) fun e6 h8 => sN (xx ?_))))))
  clear h3 h4
  obtain rfl := si h
  exact eR (resT h8 res0) rfl
 refine kx (guF rfl hb5 (mvO h4)) (kx (guF rfl hb5 (lnS Tryd.underlying22 rfl)) (kx (guF rfl hb5 (bGtr rfl rfl)) (kx (pkF rfl hb5 rfl) (kx (mvO rfl) (Rn (hN rfl hZ) fun e9 h11 => sN (xx ?_))))))
 clear h3 h4
 obtain rfl := si h
 exact eR (resT h11 res0) rfl
/-! ### loop.example/g01263/spec.MakeRoll (f33) -/
abbrev spec_MakeRoll_l_b1_S := Int × (List Account) × Int
abbrev spec_MakeRoll_l_b1_R := ((List Account) × Int) ⊕ ((List Account) × Int)
def spec_MakeRoll_l_b1_RS (a1 : List Account) (i1_2 : Nat) (j1 : Nat) (M0 : Mem) (s : spec_MakeRoll_l_b1_S) (e : Env) (M : Mem) : Prop := ∃ i1_1 : Nat, eget e 0 = .lsl j1 a1.length 0 a1.length ∧ eget e 2 = .loc i1_2 1 0 0 ∧ eget e 4 = .int .i64 s.1 ∧ M[i1_1]? = some (.live ⟨.grow, 27, 3, s.2.1.map Account.c⟩) ∧ M[i1_2]? = some (.live ⟨.box, 74, 2, [[.lsl i1_1 s.2.1.length 0 s.2.1.length, .int .i64 s.2.2]]⟩) ∧ M[j1]? = some (.live ⟨.grow, 27, 3, a1.map Account.c⟩) ∧ Fr [j1] M0 M ∧ i1_1 ≠ i1_2 ∧ i1_1 ≠ j1 ∧ Nf [j1] M0 i1_1
def spec_MakeRoll_l_b1_RR (a1 : List Account) (i1_2 : Nat) (j1 : Nat) (M0 : Mem) (r : spec_MakeRoll_l_b1_R) (x : Ex) (e : Env) (M : Mem) : Prop :=
  match r with
  | (.inl g) => x = .ret ∧ ∃ i1_1 : Nat, eget e 2 = .loc i1_2 1 0 0 ∧ eget e 3 = .int .i64 1 ∧ M[i1_1]? = some (.live ⟨.grow, 27, 3, g.1.map Account.c⟩) ∧ M[i1_2]? = some (.live ⟨.box, 74, 2, [[.lsl i1_1 g.1.length 0 g.1.length, .int .i64 g.2]]⟩) ∧ M[j1]? = some (.live ⟨.grow, 27, 3, a1.map Account.c⟩) ∧ Fr [j1] M0 M ∧ i1_1 ≠ i1_2 ∧ i1_1 ≠ j1 ∧ Nf [j1] M0 i1_1
  | (.inr g) => x = .ext 0 ∧ ∃ i1_1 : Nat, eget e 0 = .lsl j1 a1.length 0 a1.length ∧ eget e 2 = .loc i1_2 1 0 0 ∧ M[i1_1]? = some (.live ⟨.grow, 27, 3, g.1.map Account.c⟩) ∧ M[i1_2]? = some (.live ⟨.box, 74, 2, [[.lsl i1_1 g.1.length 0 g.1.length, .int .i64 g.2]]⟩) ∧ M[j1]? = some (.live ⟨.grow, 27, 3, a1.map Account.c⟩) ∧ Fr [j1] M0 M ∧ i1_1 ≠ i1_2 ∧ i1_1 ≠ j1 ∧ Nf [j1] M0 i1_1
noncomputable def spec_MakeRoll_l_b1 (a1 : List Account) : spec_MakeRoll_l_b1_S → Option (spec_MakeRoll_l_b1_S ⊕ spec_MakeRoll_l_b1_R) := fun (s1_1, s1_2, s1_3) =>
 if (decide (s1_1 < (a1.length : Int))) = true then
  (rd a1 s1_1).bind fun x57 =>
  (spec_l05Right x57).bind fun r60 =>
  if r60 = true then
   some (.inl ((IntKind.i64.wrap (s1_1 + 1)), s1_2, s1_3))
  else
   some (.inr (.inl (([] : List Account), 0)))
 else
  some (.inr (.inr (s1_2, s1_3)))
theorem spec_MakeRoll_l_b1_ok (a1 : List Account) (i1_2 : Nat) (j1 : Nat) (M0 : Mem) (ne6 : j1 ≠ i1_2) (nf11 : Nf [j1] M0 i1_2) (s : spec_MakeRoll_l_b1_S) (r : spec_MakeRoll_l_b1_S ⊕ spec_MakeRoll_l_b1_R) (h : spec_MakeRoll_l_b1 a1 s = some r) (e : Env) (M : Mem) (hs : spec_MakeRoll_l_b1_RS a1 i1_2 j1 M0 s e M) : Ev (fun k => (f33_l2 (CN k) k (prune [0, 2, 4] e) M).bind fun q => some q) (bQ (spec_MakeRoll_l_b1_RS a1 i1_2 j1 M0) (spec_MakeRoll_l_b1_RR a1 i1_2 j1 M0) r) := by
 obtain ⟨s1_1, s1_2, s1_3⟩ := s
 unfold spec_MakeRoll_l_b1 at h
 obtain ⟨i1_1, h40, h42, h44, o48, o47, o46, fr49, ne35, ne36, nf37⟩ := hs
 generalize he39 : prune [0, 2, 4] e = e38
 have h41 := envp he39.symm rfl h40
 have h43 := envp he39.symm rfl h42
 have h45 := envp he39.symm rfl h44
 refine sq (sq (Rg (kx (mvO h45) (kx (mvO h41) (kx (lnL Tryd.underlying72 rfl o46 (by simp)) (kx (bLss rfl rfl) (Rn (hV (.lsl j1 a1.length 0 a1.length) h41 (hV (.loc i1_2 1 0 0) h43 (hV (.int .i64 s1_1) h45 (hN rfl hZ)))) fun e50 h52 h53 h54 h55 => sN ?_)))))))
 clear h41 h43 h45
 rcases ite_some h with ⟨hb56, h⟩ | ⟨hb56, h⟩
 ·obtain ⟨x57, hx58, h⟩ := bind_some h
  obtain ⟨r60, hx59, h⟩ := bind_some h
  refine cT h55 hb56 (xx (sN (sq (bl (sq (Rg (kx (mvO h52) (kx (mvO h54) (kx (ixO rfl o46 rfl rfl (rd_get hx58).1 (rd_lt hx58).2) (kc (cl (v := .bool r60) rfl rfl (cns rfl rfl) (ra1 (ra1_loc o46 (by simp) (rz hx58) rfl ⟨rfl, blt rfl⟩) ra0) (spec_l05Right_ok x57 _ hx59) (fun _ => rfl)) (kx (uNot rfl) (Rn (hA h52 (hA h53 (hA h54 (hN rfl hZ)))) fun e61 h63 h64 h65 h66 => sN ?_))))))))))))
  clear h52 h53 h54 h55
  rcases ite_some h with ⟨hb67, h⟩ | ⟨hb67, h⟩
  ·refine cF h66 (congrArg Bool.not hb67) (xx (bN (sN (Rg (kx (mvO h65) (kx (bAdd rfl rfl) (kx (mvO rfl) (Rn (hA h63 (hA h64 (hN rfl hZ))) fun e68 h70 h71 h72 => ?_))))))))
   clear h63 h64 h66
   obtain rfl := si h
   exact qN ⟨i1_1, h70, h71, h72, o48, o47, o46, fr49, ne35, ne36, nf37⟩
  refine cT h66 (congrArg Bool.not hb67) (sq (Rg (kx (bldT zero74 rfl (fill0 rfl)) ?_)))
  obtain ⟨M73, hM74⟩ : ∃ x, x = M ++ ([⟨.grow, 27, 3, ([] : List Account).map Account.c⟩] : List Ob).map Ent.live := ⟨_, rfl⟩
  have o76 := push_old hM74 o46
  have o77 := push_old hM74 o47
  have o78 := push_old hM74 o48
  have ne79 : j1 ≠ M.length := by have := lt_of_get (M := M) o46; omega
  have ne80 : i1_2 ≠ M.length := by have := lt_of_get (M := M) o47; omega
  have ne81 : i1_1 ≠ M.length := by have := lt_of_get (M := M) o48; omega
  have o82 : M73[M.length]? = some (.live ⟨.grow, 27, 3, ([] : List Account).map Account.c⟩) := push_at hM74 0 rfl
  have nf83 := Nf.mk fr49
  have fr84 := Fr.push fr49 hM74
  refine kw (stG (kp := false) hM74 rfl nty74 (ghn (ghc rfl ghz) co27) (by decide) (stO h64 rfl o77 rfl rfl ⟨rfl, ble rfl⟩ (all1 (okL o82 (by simp)) (all1 rfl all0)) rfl)) fun M85 hM86 => ?_
  have o87 := set_ne hM86 ne6 o76
  have o88 : M85[i1_2]? = some (.live ⟨.box, 74, 2, [[.lsl M.length ([] : List Account).length 0 ([] : List Account).length, .int .i64 0]]⟩) := set_same hM86 o77
  have o89 := set_ne hM86 ne35 o78
  have o90 := set_ne hM86 (Ne.symm ne80) o82
  have fr91 := Fr.setNew fr84 hM86 nf11
  refine kx (mvO rfl) (Rn (hA h64 (hV (.int .i64 1) rfl hZ)) fun e92 h94 h95 => sN (xx (bR (sR ?_))))
  clear h63 h64 h65 h66
  obtain rfl := si h
  exact qR ⟨rfl, M.length, h94, h95, o90, (by simpa using o88), o87, fr91, (Ne.symm ne80), (Ne.symm ne79), nf83⟩
 refine cF h55 hb56 (xx (sE ?_))
 obtain rfl := si h
 exact qE ⟨rfl, i1_1, h52, h53, o48, (by simpa using o47), o46, fr49, ne35, ne36, nf37⟩
abbrev spec_MakeRoll_l_b2_S := Int × (List Account) × Int × (List Account) × Int
abbrev spec_MakeRoll_l_b2_R := ((List Account) × Int) ⊕ ((List Account) × Int × (List Account) × Int)
def spec_MakeRoll_l_b2_RS (a1 : List Account) (i2_1 : Nat) (i2_2 : Nat) (i2_3 : Nat) (j1 : Nat) (M0 : Mem) (s : spec_MakeRoll_l_b2_S) (e : Env) (M : Mem) : Prop := ∃ i2_5 : Nat, eget e 0 = .lsl j1 a1.length 0 a1.length ∧ eget e 2 = .loc i2_1 1 0 0 ∧ eget e 5 = .loc i2_2 1 0 0 ∧ eget e 6 = .int .i64 s.1 ∧ M[i2_5]? = some (.live ⟨.grow, 27, 3, s.2.1.map Account.c⟩) ∧ M[i2_2]? = some (.live ⟨.box, 74, 2, [[.lsl i2_3 s.2.2.2.1.length 0 s.2.2.2.1.length, .int .i64 s.2.2.1]]⟩) ∧ M[i2_3]? = some (.live ⟨.grow, 27, 3, s.2.2.2.1.map Account.c⟩) ∧ M[i2_1]? = some (.live ⟨.box, 74, 2, [[.lsl i2_5 s.2.1.length 0 s.2.1.length, .int .i64 s.2.2.2.2]]⟩) ∧ M[j1]? = some (.live ⟨.grow, 27, 3, a1.map Account.c⟩) ∧ Fr [j1] M0 M ∧ i2_5 ≠ i2_2 ∧ i2_5 ≠ i2_3 ∧ i2_5 ≠ i2_1 ∧ i2_5 ≠ j1 ∧ Nf [j1] M0 i2_5
def spec_MakeRoll_l_b2_RR (a1 : List Account) (i2_1 : Nat) (i2_2 : Nat) (i2_3 : Nat) (j1 : Nat) (M0 : Mem) (r : spec_MakeRoll_l_b2_R) (x : Ex) (e : Env) (M : Mem) : Prop :=
  match r with
  | (.inl g) => x = .ret ∧ ∃ i2_5 : Nat, eget e 2 = .loc i2_1 1 0 0 ∧ eget e 3 = .int .i64 4 ∧ M[i2_5]? = some (.live ⟨.grow, 27, 3, g.1.map Account.c⟩) ∧ M[i2_1]? = some (.live ⟨.box, 74, 2, [[.lsl i2_5 g.1.length 0 g.1.length, .int .i64 g.2]]⟩) ∧ M[j1]? = some (.live ⟨.grow, 27, 3, a1.map Account.c⟩) ∧ Fr [j1] M0 M ∧ i2_5 ≠ i2_1 ∧ i2_5 ≠ j1 ∧ Nf [j1] M0 i2_5
  | (.inr g) => x = .ext 2 ∧ ∃ i2_5 : Nat, eget e 2 = .loc i2_1 1 0 0 ∧ eget e 5 = .loc i2_2 1 0 0 ∧ M[i2_5]? = some (.live ⟨.grow, 27, 3, g.1.map Account.c⟩) ∧ M[i2_2]? = some (.live ⟨.box, 74, 2, [[.lsl i2_3 g.2.2.1.length 0 g.2.2.1.length, .int .i64 g.2.1]]⟩) ∧ M[i2_3]? = some (.live ⟨.grow, 27, 3, g.2.2.1.map Account.c⟩) ∧ M[i2_1]? = some (.live ⟨.box, 74, 2, [[.lsl i2_5 g.1.length 0 g.1.length, .int .i64 g.2.2.2]]⟩) ∧ M[j1]? = some (.live ⟨.grow, 27, 3, a1.map Account.c⟩) ∧ Fr [j1] M0 M ∧ i2_5 ≠ i2_2 ∧ i2_5 ≠ i2_3 ∧ i2_5 ≠ i2_1 ∧ i2_5 ≠ j1 ∧ Nf [j1] M0 i2_5
noncomputable def spec_MakeRoll_l_b2 (a1 : List Account) : spec_MakeRoll_l_b2_S → Option (spec_MakeRoll_l_b2_S ⊕ spec_MakeRoll_l_b2_R) := fun (s2_1, s2_2, s2_3, s2_4, s2_5) =>
 if (decide (s2_1 < (a1.length : Int))) = true then
  (spec_l05Twin a1 s2_1).bind fun r259 =>
  if r259 = true then
   some (.inr (.inl (([] : List Account), 0)))
  else
   (rd a1 s2_1).bind fun x297 =>
   (rd a1 s2_1).bind fun x299 =>
   (spec_l05Account x297.Title x299.Items).bind fun (r302, r303, r304) =>
   (app 48 s2_4 [(Account.mk r302 r303 r304)]).bind fun x305 =>
   some (.inl ((IntKind.i64.wrap (s2_1 + 1)), s2_2, s2_3, x305, s2_5))
 else
  some (.inr (.inr (s2_2, s2_3, s2_4, s2_5)))
theorem spec_MakeRoll_l_b2_ok (a1 : List Account) (i2_1 : Nat) (i2_2 : Nat) (i2_3 : Nat) (j1 : Nat) (M0 : Mem) (ne188 : i2_2 ≠ i2_3) (ne166 : i2_1 ≠ i2_2) (ne186 : i2_1 ≠ i2_3) (ne167 : j1 ≠ i2_2) (ne187 : j1 ≠ i2_3) (ne6 : j1 ≠ i2_1) (nf174 : Nf [j1] M0 i2_2) (nf191 : Nf [j1] M0 i2_3) (nf11 : Nf [j1] M0 i2_1) (s : spec_MakeRoll_l_b2_S) (r : spec_MakeRoll_l_b2_S ⊕ spec_MakeRoll_l_b2_R) (h : spec_MakeRoll_l_b2 a1 s = some r) (e : Env) (M : Mem) (hs : spec_MakeRoll_l_b2_RS a1 i2_1 i2_2 i2_3 j1 M0 s e M) : Ev (fun k => (f33_l10 (CN k) k (prune [0, 2, 5, 6] e) M).bind fun q => some q) (bQ (spec_MakeRoll_l_b2_RS a1 i2_1 i2_2 i2_3 j1 M0) (spec_MakeRoll_l_b2_RR a1 i2_1 i2_2 i2_3 j1 M0) r) := by
 obtain ⟨s2_1, s2_2, s2_3, s2_4, s2_5⟩ := s
 unfold spec_MakeRoll_l_b2 at h
 obtain ⟨i2_5, h236, h238, h240, h242, o244, o247, o248, o245, o246, fr249, ne229, ne230, ne231, ne232, nf233⟩ := hs
 generalize he235 : prune [0, 2, 5, 6] e = e234
 have h237 := envp he235.symm rfl h236
 have h239 := envp he235.symm rfl h238
 have h241 := envp he235.symm rfl h240
 have h243 := envp he235.symm rfl h242
 refine sq (sq (Rg (kx (mvO h243) (kx (mvO h237) (kx (lnL Tryd.underlying72 rfl o246 (by simp)) (kx (bLss rfl rfl) (Rn (hV (.lsl j1 a1.length 0 a1.length) h237 (hV (.loc i2_1 1 0 0) h239 (hV (.loc i2_2 1 0 0) h241 (hV (.int .i64 s2_1) h243 (hN rfl hZ))))) fun e250 h252 h253 h254 h255 h256 => sN ?_)))))))
 clear h237 h239 h241 h243
 rcases ite_some h with ⟨hb257, h⟩ | ⟨hb257, h⟩
 ·obtain ⟨r259, hx258, h⟩ := bind_some h
  refine cT h256 hb257 (xx (sN (sq (bl (sq (sq (Rg (kx (mvO h252) (kx (mvO h255) (kc (cl (v := .bool r259) rfl rfl (cns rfl (cns rfl rfl)) (ra1 (ra1_row o246 rfl Account.fl) (ra1 rfl ra0)) (spec_l05Twin_ok a1 s2_1 _ hx258) (fun _ => rfl)) (Rn (hA h252 (hA h253 (hA h254 (hA h255 (hN rfl hZ))))) fun e260 h262 h263 h264 h265 h266 => sN ?_)))))))))))
  clear h252 h253 h254 h255 h256
  rcases ite_some h with ⟨hb267, h⟩ | ⟨hb267, h⟩
  ·refine cT h266 hb267 (sq (Rg (kx (bldT zero74 rfl (fill0 rfl)) ?_)))
   obtain ⟨M268, hM269⟩ : ∃ x, x = M ++ ([⟨.grow, 27, 3, ([] : List Account).map Account.c⟩] : List Ob).map Ent.live := ⟨_, rfl⟩
   have o271 := push_old hM269 o244
   have o272 := push_old hM269 o245
   have o273 := push_old hM269 o246
   have o274 := push_old hM269 o247
   have o275 := push_old hM269 o248
   have ne276 : i2_5 ≠ M.length := by have := lt_of_get (M := M) o244; omega
   have ne277 : i2_1 ≠ M.length := by have := lt_of_get (M := M) o245; omega
   have ne278 : j1 ≠ M.length := by have := lt_of_get (M := M) o246; omega
   have ne279 : i2_2 ≠ M.length := by have := lt_of_get (M := M) o247; omega
   have ne280 : i2_3 ≠ M.length := by have := lt_of_get (M := M) o248; omega
   have o281 : M268[M.length]? = some (.live ⟨.grow, 27, 3, ([] : List Account).map Account.c⟩) := push_at hM269 0 rfl
   have nf282 := Nf.mk fr249
   have fr283 := Fr.push fr249 hM269
   refine kw (stG (kp := false) hM269 rfl nty74 (ghn (ghc rfl ghz) co27) (by decide) (stO h263 rfl o272 rfl rfl ⟨rfl, ble rfl⟩ (all1 (okL o281 (by simp)) (all1 rfl all0)) rfl)) fun M284 hM285 => ?_
   have o286 := set_ne hM285 ne231 o271
   have o287 : M284[i2_1]? = some (.live ⟨.box, 74, 2, [[.lsl M.length ([] : List Account).length 0 ([] : List Account).length, .int .i64 0]]⟩) := set_same hM285 o272
   have o288 := set_ne hM285 ne6 o273
   have o289 := set_ne hM285 (Ne.symm ne166) o274
   have o290 := set_ne hM285 (Ne.symm ne186) o275
   have o291 := set_ne hM285 (Ne.symm ne277) o281
   have fr292 := Fr.setNew fr283 hM285 nf11
   refine kx (mvO rfl) (Rn (hA h263 (hV (.int .i64 4) rfl hZ)) fun e293 h295 h296 => sN (xx (sR (bR (sR ?_)))))
   clear h262 h263 h264 h265 h266
   obtain rfl := si h
   exact qR ⟨rfl, M.length, h295, h296, o291, (by simpa using o287), o288, fr292, (Ne.symm ne277), (Ne.symm ne278), nf282⟩
  obtain ⟨x297, hx298, h⟩ := bind_some h
  obtain ⟨x299, hx300, h⟩ := bind_some h
  obtain ⟨⟨r302, r303, r304⟩, hx301, h⟩ := bind_some h
  obtain ⟨x305, hx306, h⟩ := bind_some h
  refine cF h266 hb267 (xx (sN (Rd (kf (faO h264 o247 rfl) (kf (ldO rfl o247 rfl rfl rfl) (kf (mvO h262) (kf (mvO h265) (kf (ixO rfl o246 rfl rfl (rd_get hx298).1 (rd_lt hx298).2) (kf (faO rfl o246 (by simp)) (kf (ldO rfl o246 (by simp) (rz hx298) rfl) (kf (mvO h262) (kf (mvO h265) (kf (ixO rfl o246 rfl rfl (rd_get hx300).1 (rd_lt hx300).2) (kf (faO rfl o246 (by simp)) (kf (ldO rfl o246 (by simp) (rz hx300) rfl) (fc (cl (v := .agg [.str r302, .sl (some 42) (r303.map Item.c), .int .i64 r304]) rfl rfl (cns rfl (cns rfl rfl)) rfl (spec_l05Account_ok x297.Title x299.Items _ hx301) nm) (kf (litI (cns rfl rfl) rfl ⟨rfl, by decide⟩) (fZ (kw (apO rfl o248 rfl (elT (c := Account.c) (xs := [(Account.mk r302 r303 r304)]) rfl) hx306 Account.fl (by decide)) fun M307 hM308 => ?_)))))))))))))))))))
  have o309 := set_ne hM308 ne230 o244
  have o310 := set_ne hM308 ne186 o245
  have o311 := set_ne hM308 ne187 o246
  have o312 := set_ne hM308 ne188 o247
  have o313 : M307[i2_3]? = some (.live ⟨.grow, 27, 3, x305.map Account.c⟩) := set_same hM308 o248
  have fr314 := Fr.setNew fr249 hM308 nf191
  refine kx (faO h264 o312 rfl) (kw (stO rfl rfl o312 rfl rfl ⟨rfl, ble rfl⟩ (all1 (okL o313 (by simp)) all0) rfl) fun M315 hM316 => ?_)
  have o317 := set_ne hM316 ne229 o309
  have o318 := set_ne hM316 ne166 o310
  have o319 := set_ne hM316 ne167 o311
  have o320 : M315[i2_2]? = some (.live ⟨.box, 74, 2, [[.lsl i2_3 x305.length 0 x305.length, .int .i64 s2_3]]⟩) := set_same hM316 o312
  have o321 := set_ne hM316 (Ne.symm ne188) o313
  have fr322 := Fr.setNew fr314 hM316 nf174
  refine Rn (hA h262 (hA h263 (hA h264 (hA h265 hZ)))) fun e323 h325 h326 h327 h328 => bN (sN (Rg (kx (mvO h328) (kx (bAdd rfl rfl) (kx (mvO rfl) (Rn (hA h325 (hA h326 (hA h327 (hN rfl hZ)))) fun e329 h331 h332 h333 h334 => ?_))))))
  clear h262 h263 h264 h265 h266 h325 h326 h327
  obtain rfl := si h
  exact qN ⟨i2_5, h331, h332, h333, h334, o317, (by simpa using o320), o321, o318, o319, fr322, ne229, ne230, ne231, ne232, nf233⟩
 refine cF h256 hb257 (xx (sE ?_))
 obtain rfl := si h
 exact qE ⟨rfl, i2_5, h253, h254, o244, (by simpa using o247), o248, (by simpa using o245), o246, fr249, ne229, ne230, ne231, ne232, nf233⟩
noncomputable def spec_MakeRoll_l (a1 : List Account) : Option (Int × Int × (List Account)) :=
 (Lw (spec_MakeRoll_l_b1 a1) (0, ([] : List Account), 0)).bind fun r => match r with
 | (.inl (y101, y102)) =>
  some (y102, 1, y101)
 | (.inr (y115, y116)) =>
  if (decide ((a1.length : Int) > 20)) = true then
   some (0, 3, ([] : List Account))
  else
   (spec_l05Owed a1).bind fun r157 =>
   (Lw (spec_MakeRoll_l_b2 a1) (0, y115, r157, ([] : List Account), y116)).bind fun r => match r with
   | (.inl (y340, y341)) =>
    some (y341, 4, y340)
   | (.inr (y354, y355, y356, y357)) =>
    some (y355, 0, y356)
def spec_MakeRoll_l_Q (a1 : List Account) (j1 : Nat) (M0 : Mem) (r : Int × Int × (List Account)) (p : AV × Mem) : Prop := (∃ n1 : Nat, p.1 = .tup [.agg [.lsl n1 r.2.2.length 0 r.2.2.length, .int .i64 r.1], .int .i64 r.2.1] ∧ p.2[n1]? = some (.live ⟨.grow, 27, 3, r.2.2.map Account.c⟩) ∧ p.2[j1]? = some (.live ⟨.grow, 27, 3, a1.map Account.c⟩) ∧ Fr [j1] M0 p.2 ∧ Nf [j1] M0 n1 ∧ j1 ≠ n1 ∧ a1.length = a1.length)
theorem spec_MakeRoll_l_ok (a1 : List Account) (j1 : Nat) (M0 : Mem) (oP1 : M0[j1]? = some (.live ⟨.grow, 27, 3, a1.map Account.c⟩)) (r : Int × Int × (List Account)) (h : spec_MakeRoll_l a1 = some r) : Ev (fun k => CN k 33 [.lsl j1 a1.length 0 a1.length] M0) (spec_MakeRoll_l_Q a1 j1 M0 r) := by
 unfold spec_MakeRoll_l at h
 have fr0 : Fr [j1] M0 M0 := Fr.refl
 refine Ev.enter (F := fun k => f33 (CN k) k) (fun k => callN_eq rfl Tryd.func33 rfl rfl rfl (by decide +kernel) (f33_eq _ _)) (sq (Rg (Ev.nxpushL (gho_one (alO zero74) nty74 (ghn (ghc rfl ghz) co27) (by decide)) fun M3 hM4 => ?_)))
 have o5 := push_old hM4 oP1
 have ne6 : j1 ≠ M0.length := by have := lt_of_get (M := M0) oP1; omega
 have o7 : M3[M0.length]? = some (.live ⟨.box, 74, 2, [[.lsl (M0.length + 1) ([] : List Account).length 0 ([] : List Account).length, .int .i64 0]]⟩) := push_at hM4 0 rfl
 have ne8 : j1 ≠ (M0.length + 1) := by have := lt_of_get (M := M0) oP1; omega
 have ne9 : M0.length ≠ (M0.length + 1) := by omega
 have o10 : M3[(M0.length + 1)]? = some (.live ⟨.grow, 27, 3, ([] : List Account).map Account.c⟩) := push_at hM4 1 rfl
 have nf11 := Nf.mk fr0
 have nf12 := Nf.mkAt fr0 1
 have fr13 := Fr.push fr0 hM4
 obtain ⟨r96, hr97, h⟩ := bind_some h
 refine kx (mvO rfl) (Rn (hV (.lsl j1 a1.length 0 a1.length) rfl (hV (.loc M0.length 1 0 0) rfl hZ)) fun e14 h16 h17 => sN (sq (sq (Rg (kx (mvO rfl) (Rn (hA h16 (hA h17 (hV (.int .i64 0) rfl hZ))) fun e18 h20 h21 h22 => sN (bl ?_)))))))
 clear h16 h17
 rcases r96 with ⟨y101, y102⟩ | ⟨y115, y116⟩
 ·refine Ev.loop (RS := spec_MakeRoll_l_b1_RS a1 M0.length j1 M0) (RR := spec_MakeRoll_l_b1_RR a1 M0.length j1 M0) (fun s r h e M hs => spec_MakeRoll_l_b1_ok a1 M0.length j1 M0 ne6 nf11 s r h e M hs) hr97 ⟨(M0.length + 1), h20, h21, h22, o10, o7, o5, fr13, (Ne.symm ne9), (Ne.symm ne8), nf12⟩ fun x e99 M100 hq98 => ?_
  obtain ⟨rfl, m103, h104, h105, o106, o107, o108, fr109, ne110, ne111, nf112⟩ := hq98
  refine bR (sR ?_)
  obtain rfl := si h
  exact eR (resC (ag := true) (sz := 2) ⟨by kernel_rfl, by kernel_rfl, by kernel_rfl⟩ (ldOA h104 o107 rfl rfl (ble rfl) rfl) (resT h105 res0)) ⟨m103, rfl, o106, o108, fr109, nf112, (Ne.symm ne111), (by first | rfl | simp)⟩
 refine Ev.loop (RS := spec_MakeRoll_l_b1_RS a1 M0.length j1 M0) (RR := spec_MakeRoll_l_b1_RR a1 M0.length j1 M0) (fun s r h e M hs => spec_MakeRoll_l_b1_ok a1 M0.length j1 M0 ne6 nf11 s r h e M hs) hr97 ⟨(M0.length + 1), h20, h21, h22, o10, o7, o5, fr13, (Ne.symm ne9), (Ne.symm ne8), nf12⟩ fun x e113 M114 hq98 => ?_
 obtain ⟨rfl, m117, h118, h119, o120, o121, o122, fr123, ne124, ne125, nf126⟩ := hq98
 refine bE (sN (sq (sq (Rg (kx (mvO h118) (kx (lnL Tryd.underlying72 rfl o122 (by simp)) (kx (bGtr rfl rfl) (Rn (hV (.lsl j1 a1.length 0 a1.length) h118 (hV (.loc M0.length 1 0 0) h119 (hN rfl hZ))) fun e127 h129 h130 h131 => sN ?_))))))))
 clear h118 h119
 rcases ite_some h with ⟨hb132, h⟩ | ⟨hb132, h⟩
 ·refine cT h131 hb132 (sq (Rg (kx (bldT zero74 rfl (fill0 rfl)) ?_)))
  obtain ⟨M133, hM134⟩ : ∃ x, x = M114 ++ ([⟨.grow, 27, 3, ([] : List Account).map Account.c⟩] : List Ob).map Ent.live := ⟨_, rfl⟩
  have o136 := push_old hM134 o120
  have o137 := push_old hM134 o121
  have o138 := push_old hM134 o122
  have ne139 : m117 ≠ M114.length := by have := lt_of_get (M := M114) o120; omega
  have ne140 : M0.length ≠ M114.length := by have := lt_of_get (M := M114) o121; omega
  have ne141 : j1 ≠ M114.length := by have := lt_of_get (M := M114) o122; omega
  have o142 : M133[M114.length]? = some (.live ⟨.grow, 27, 3, ([] : List Account).map Account.c⟩) := push_at hM134 0 rfl
  have nf143 := Nf.mk fr123
  have fr144 := Fr.push fr123 hM134
  refine kw (stG (kp := false) hM134 rfl nty74 (ghn (ghc rfl ghz) co27) (by decide) (stO h130 rfl o137 rfl rfl ⟨rfl, ble rfl⟩ (all1 (okL o142 (by simp)) (all1 rfl all0)) rfl)) fun M145 hM146 => ?_
  have o147 := set_ne hM146 ne124 o136
  have o148 : M145[M0.length]? = some (.live ⟨.box, 74, 2, [[.lsl M114.length ([] : List Account).length 0 ([] : List Account).length, .int .i64 0]]⟩) := set_same hM146 o137
  have o149 := set_ne hM146 ne6 o138
  have o150 := set_ne hM146 (Ne.symm ne140) o142
  have fr151 := Fr.setNew fr144 hM146 nf11
  refine kx (mvO rfl) (Rn (hA h130 (hV (.int .i64 3) rfl hZ)) fun e152 h154 h155 => sN (xx (sR ?_)))
  clear h129 h130 h131
  obtain rfl := si h
  exact eR (resC (ag := true) (sz := 2) ⟨by kernel_rfl, by kernel_rfl, by kernel_rfl⟩ (ldOA h154 o148 rfl rfl (ble rfl) rfl) (resT h155 res0)) ⟨M114.length, rfl, o150, o149, fr151, nf143, ne141, (by first | rfl | simp)⟩
 obtain ⟨r157, hx156, h⟩ := bind_some h
 refine cF h131 hb132 (xx (sN (sq (Rg (kx (mvO h129) (kc (cl (v := .int .i64 r157) rfl rfl (cns rfl rfl) (ra1 (ra1_row o122 rfl Account.fl) ra0) (spec_l05Owed_ok a1 _ hx156) (fun _ => rfl)) (kx (bldT zero74 (cns (pr3 rfl) rfl) (fill1 ⟨rfl, ble rfl⟩ rfl rfl (fill0 rfl))) (Ev.nxpushL (gho_one (alO zero74) nty74 (ghn (ghc rfl ghz) co27) (by decide)) fun M160 hM161 => ?_))))))))
 have o162 := push_old hM161 o120
 have o163 := push_old hM161 o121
 have o164 := push_old hM161 o122
 have ne165 : m117 ≠ M114.length := by have := lt_of_get (M := M114) o120; omega
 have ne166 : M0.length ≠ M114.length := by have := lt_of_get (M := M114) o121; omega
 have ne167 : j1 ≠ M114.length := by have := lt_of_get (M := M114) o122; omega
 have o168 : M160[M114.length]? = some (.live ⟨.box, 74, 2, [[.lsl (M114.length + 1) ([] : List Account).length 0 ([] : List Account).length, .int .i64 0]]⟩) := push_at hM161 0 rfl
 have ne169 : m117 ≠ (M114.length + 1) := by have := lt_of_get (M := M114) o120; omega
 have ne170 : M0.length ≠ (M114.length + 1) := by have := lt_of_get (M := M114) o121; omega
 have ne171 : j1 ≠ (M114.length + 1) := by have := lt_of_get (M := M114) o122; omega
 have ne172 : M114.length ≠ (M114.length + 1) := by omega
 have o173 : M160[(M114.length + 1)]? = some (.live ⟨.grow, 27, 3, ([] : List Account).map Account.c⟩) := push_at hM161 1 rfl
 have nf174 := Nf.mk fr123
 have nf175 := Nf.mkAt fr123 1
 have fr176 := Fr.push fr123 hM161
 obtain ⟨M177, hM178⟩ : ∃ x, x = M160 ++ ([⟨.grow, 27, 3, ([] : List Account).map Account.c⟩] : List Ob).map Ent.live := ⟨_, rfl⟩
 have o180 := push_old hM178 o162
 have o181 := push_old hM178 o163
 have o182 := push_old hM178 o164
 have o183 := push_old hM178 o168
 have o184 := push_old hM178 o173
 have ne185 : m117 ≠ M160.length := by have := lt_of_get (M := M160) o162; omega
 have ne186 : M0.length ≠ M160.length := by have := lt_of_get (M := M160) o163; omega
 have ne187 : j1 ≠ M160.length := by have := lt_of_get (M := M160) o164; omega
 have ne188 : M114.length ≠ M160.length := by have := lt_of_get (M := M160) o168; omega
 have ne189 : (M114.length + 1) ≠ M160.length := by have := lt_of_get (M := M160) o173; omega
 have o190 : M177[M160.length]? = some (.live ⟨.grow, 27, 3, ([] : List Account).map Account.c⟩) := push_at hM178 0 rfl
 have nf191 := Nf.mk fr176
 have fr192 := Fr.push fr176 hM178
 refine kw (stG (kp := false) hM178 rfl nty74 (ghn (ghc rfl ghz) co27) (by decide) (stO rfl rfl o183 rfl rfl ⟨rfl, ble rfl⟩ (all1 (okL o190 (by simp)) (all1 rfl all0)) rfl)) fun M193 hM194 => ?_
 have o195 := set_ne hM194 ne165 o180
 have o196 := set_ne hM194 ne166 o181
 have o197 := set_ne hM194 ne167 o182
 have o198 : M193[M114.length]? = some (.live ⟨.box, 74, 2, [[.lsl M160.length ([] : List Account).length 0 ([] : List Account).length, .int .i64 r157]]⟩) := set_same hM194 o183
 have o199 := set_ne hM194 (Ne.symm ne172) o184
 have o200 := set_ne hM194 (Ne.symm ne188) o190
 have fr201 := Fr.setNew fr192 hM194 nf174
 obtain ⟨r335, hr336, h⟩ := bind_some h
 refine Rn (hA h129 (hA h130 (hV (.loc M114.length 1 0 0) rfl hZ))) fun e202 h204 h205 h206 => sN (sq (sq (Rg (kx (mvO rfl) (Rn (hA h204 (hA h205 (hA h206 (hV (.int .i64 0) rfl hZ)))) fun e207 h209 h210 h211 h212 => sN (bl ?_))))))
 clear h129 h130 h131 h204 h205 h206
 rcases r335 with ⟨y340, y341⟩ | ⟨y354, y355, y356, y357⟩
 ·refine Ev.loop (RS := spec_MakeRoll_l_b2_RS a1 M0.length M114.length M160.length j1 M0) (RR := spec_MakeRoll_l_b2_RR a1 M0.length M114.length M160.length j1 M0) (fun s r h e M hs => spec_MakeRoll_l_b2_ok a1 M0.length M114.length M160.length j1 M0 ne188 ne166 ne186 ne167 ne187 ne6 nf174 nf191 nf11 s r h e M hs) hr336 ⟨m117, h209, h210, h211, h212, o195, o198, o200, o196, o197, fr201, ne165, ne185, ne124, ne125, nf126⟩ fun x e338 M339 hq337 => ?_
  obtain ⟨rfl, m342, h343, h344, o345, o346, o347, fr348, ne349, ne350, nf351⟩ := hq337
  refine bR (sR ?_)
  obtain rfl := si h
  exact eR (resC (ag := true) (sz := 2) ⟨by kernel_rfl, by kernel_rfl, by kernel_rfl⟩ (ldOA h343 o346 rfl rfl (ble rfl) rfl) (resT h344 res0)) ⟨m342, rfl, o345, o347, fr348, nf351, (Ne.symm ne350), (by first | rfl | simp)⟩
 refine Ev.loop (RS := spec_MakeRoll_l_b2_RS a1 M0.length M114.length M160.length j1 M0) (RR := spec_MakeRoll_l_b2_RR a1 M0.length M114.length M160.length j1 M0) (fun s r h e M hs => spec_MakeRoll_l_b2_ok a1 M0.length M114.length M160.length j1 M0 ne188 ne166 ne186 ne167 ne187 ne6 nf174 nf191 nf11 s r h e M hs) hr336 ⟨m117, h209, h210, h211, h212, o195, o198, o200, o196, o197, fr201, ne165, ne185, ne124, ne125, nf126⟩ fun x e352 M353 hq337 => ?_
 obtain ⟨rfl, m358, h359, h360, o361, o362, o363, o364, o365, fr366, ne367, ne368, ne369, ne370, nf371⟩ := hq337
 refine bE (sN (sq (Rg (kx (ldOA h360 o362 rfl rfl (ble rfl) rfl) ?_))))
 obtain ⟨M372, hM373⟩ : ∃ x, x = M353 ++ ([] : List Ob).map Ent.live := ⟨_, rfl⟩
 have o374 := push_old hM373 o361
 have o375 := push_old hM373 o362
 have o376 := push_old hM373 o363
 have o377 := push_old hM373 o364
 have o378 := push_old hM373 o365
 have fr379 := Fr.push fr366 hM373
 refine kw (stG (kp := false) hM373 rfl nty74 (ghc rfl (ghc rfl ghz)) (by decide) (stO h359 rfl o377 rfl rfl ⟨rfl, ble rfl⟩ (all1 (okL o376 (by simp)) (all1 rfl all0)) rfl)) fun M380 hM381 => ?_
 have o382 := set_ne hM381 ne369 o374
 have o383 := set_ne hM381 (Ne.symm ne166) o375
 have o384 := set_ne hM381 (Ne.symm ne186) o376
 have o385 : M380[M0.length]? = some (.live ⟨.box, 74, 2, [[.lsl M160.length y356.length 0 y356.length, .int .i64 y355]]⟩) := set_same hM381 o377
 have o386 := set_ne hM381 ne6 o378
 have fr387 := Fr.setNew fr379 hM381 nf11
 refine kx (mvO rfl) (Rn (hV (.loc M0.length 1 0 0) h359 (hV (.int .i64 0) rfl hZ)) fun e388 h390 h391 => sN (xx ?_))
 clear h359 h360
 obtain rfl := si h
 exact eR (resC (ag := true) (sz := 2) ⟨by kernel_rfl, by kernel_rfl, by kernel_rfl⟩ (ldOA h390 o385 rfl rfl (ble rfl) rfl) (resT h391 res0)) ⟨M160.length, rfl, o384, o386, fr387, nf191, ne187, (by first | rfl | simp)⟩
/-! ### loop.example/g01263/laws.FnRolls (f5) -/
abbrev laws_FnRolls_b1_S := Int × (List Account)
abbrev laws_FnRolls_b1_R := Unit ⊕ ((List Account))
def laws_FnRolls_b1_RS (a1 : List Int) (a2 : List Int) (i1_1 : Nat) (s : laws_FnRolls_b1_S) (e : Env) (M : Mem) : Prop := eget e 0 = .sl none (a1.map (cI .u8)) ∧ eget e 1 = .sl none (a2.map (cI .u8)) ∧ eget e 5 = .lit 9 ([([107, 101, 110, 116] : List UInt8), ([101, 115, 115, 101, 120] : List UInt8), ([121, 111, 114, 107] : List UInt8)].map cS) ∧ eget e 6 = .lsl i1_1 s.2.length 0 s.2.length ∧ eget e 7 = .int .i64 s.1 ∧ M[i1_1]? = some (.live ⟨.grow, 27, 3, s.2.map Account.c⟩)
def laws_FnRolls_b1_RR (a1 : List Int) (a2 : List Int) (i1_1 : Nat) (r : laws_FnRolls_b1_R) (x : Ex) (e : Env) (M : Mem) : Prop :=
  match r with
  | (.inl g) => x = .ret ∧ eget e 4 = .bool false
  | (.inr g) => x = .ext 0 ∧ eget e 1 = .sl none (a2.map (cI .u8)) ∧ eget e 5 = .lit 9 ([([107, 101, 110, 116] : List UInt8), ([101, 115, 115, 101, 120] : List UInt8), ([121, 111, 114, 107] : List UInt8)].map cS) ∧ eget e 6 = .lsl i1_1 g.length 0 g.length ∧ M[i1_1]? = some (.live ⟨.grow, 27, 3, g.map Account.c⟩)
noncomputable def laws_FnRolls_b1 (a1 : List Int) (a2 : List Int) : laws_FnRolls_b1_S → Option (laws_FnRolls_b1_S ⊕ laws_FnRolls_b1_R) := fun (s1_1, s1_2) =>
 (laws_a2At a2 0 4).bind fun r65 =>
 if (decide (s1_1 < r65)) = true then
  (rd [([107, 101, 110, 116] : List UInt8), ([101, 115, 115, 101, 120] : List UInt8), ([121, 111, 114, 107] : List UInt8)] s1_1).bind fun x75 =>
  (app 1 [(IntKind.u8.wrap s1_1)] a1).bind fun x77 =>
  (spec_A2Items x77).bind fun r80 =>
  (spec_MakeAccount x75 r80).bind fun r => match r with
  | (.inl (r82, r83, r84)) =>
   (app 48 s1_2 [(Account.mk r82 r83 r84)]).bind fun x113 =>
   some (.inl ((IntKind.i64.wrap (s1_1 + 1)), x113))
  | (.inr r133) =>
   if (r133 != 0) = true then
    some (.inr (.inl ()))
   else
    none
 else
  some (.inr (.inr s1_2))
theorem laws_FnRolls_b1_ok (a1 : List Int) (a2 : List Int) (i1_1 : Nat) (s : laws_FnRolls_b1_S) (r : laws_FnRolls_b1_S ⊕ laws_FnRolls_b1_R) (h : laws_FnRolls_b1 a1 a2 s = some r) (e : Env) (M : Mem) (hs : laws_FnRolls_b1_RS a1 a2 i1_1 s e M) : Ev (fun k => (f5_l6 (CN k) k (prune [0, 1, 5, 6, 7] e) M).bind fun q => some q) (bQ (laws_FnRolls_b1_RS a1 a2 i1_1) (laws_FnRolls_b1_RR a1 a2 i1_1) r) := by
 obtain ⟨s1_1, s1_2⟩ := s
 unfold laws_FnRolls_b1 at h
 obtain ⟨h53, h55, h57, h59, h61, o63⟩ := hs
 generalize he52 : prune [0, 1, 5, 6, 7] e = e51
 have h54 := envp he52.symm rfl h53
 have h56 := envp he52.symm rfl h55
 have h58 := envp he52.symm rfl h57
 have h60 := envp he52.symm rfl h59
 have h62 := envp he52.symm rfl h61
 obtain ⟨r65, hx64, h⟩ := bind_some h
 refine sq (sq (Rg (kx (mvO h62) (kx (mvO h56) (kc (cl (v := .int .i64 r65) rfl rfl (cns rfl (cns rfl (cns rfl rfl))) rfl (laws_a2At_ok a2 0 4 _ hx64) nm) (kx (bLss rfl rfl) (Rn (hV (.sl none (a1.map (cI .u8))) h54 (hA h56 (hV (.lit 9 ([([107, 101, 110, 116] : List UInt8), ([101, 115, 115, 101, 120] : List UInt8), ([121, 111, 114, 107] : List UInt8)].map cS)) h58 (hV (.lsl i1_1 s1_2.length 0 s1_2.length) h60 (hV (.int .i64 s1_1) h62 (hN rfl hZ)))))) fun e66 h68 h69 h70 h71 h72 h73 => sN ?_)))))))
 clear h54 h56 h58 h60 h62
 rcases ite_some h with ⟨hb74, h⟩ | ⟨hb74, h⟩
 ·obtain ⟨x75, hx76, h⟩ := bind_some h
  obtain ⟨x77, hx78, h⟩ := bind_some h
  obtain ⟨r80, hx79, h⟩ := bind_some h
  obtain ⟨q166, hx81, h⟩ := bind_some h
  refine cT h73 hb74 (xx (sN (sq (bl (sq (Rd (kf (mvO h70) (kf (mvO h72) (kf (ixLt rfl rfl hx76 cS_fl) (kf (ldP rfl rfl) (kf (mvO h72) (kf (cvI rfl) (kf (litI (cns rfl rfl) rfl ⟨rfl, by decide⟩) (kf (mvO h68) (kf (aiT (c := (cI .u8)) (xs := [(IntKind.u8.wrap s1_1)]) rfl (elS rfl) hx78 (cI_fl _) (by decide)) (fc (cl (v := .sl (some 42) (r80.map Item.c)) rfl rfl (cns rfl rfl) rfl (spec_A2Items_ok x77 _ hx79) nm) ?_))))))))))))))))
  rcases q166 with ⟨r82, r83, r84⟩ | r133
  ·refine fc (cl (v := .tup [.agg [.str r82, .sl (some 42) (r83.map Item.c), .int .i64 r84], .int .i64 0]) rfl rfl (cns rfl (cns rfl rfl)) rfl (spec_MakeAccount_ok x75 r80 _ hx81) nm) (kf (mvO rfl) (kf (exT rfl rfl) (kf (exT rfl rfl) (Ev.nfpushE (alO zero27) (Ev.fend1 fun M86 hM87 => ?_)))))
   have hM87 := fendM hM87 [⟨.box, 27, 3, [[.str ([] : List UInt8), .nils, .int .i64 0]]⟩] rfl
   have o88 := push_old hM87 o63
   have ne89 : i1_1 ≠ M.length := by have := lt_of_get (M := M) o63; omega
   have o90 : M86[M.length]? = some (.live ⟨.box, 27, 3, [[.str ([] : List UInt8), .nils, .int .i64 0]]⟩) := push_at hM87 0 rfl
   refine kw (stO rfl rfl o90 rfl rfl ⟨rfl, ble rfl⟩ rfl rfl) fun M91 hM92 => ?_
   have o93 := set_ne hM92 ne89 o88
   have o94 : M91[M.length]? = some (.live ⟨.box, 27, 3, [[.str r82, .sl none (r83.map Item.c), .int .i64 r84]]⟩) := set_same hM92 o90
   obtain ⟨x113, hx114, h⟩ := bind_some h
   refine kx (mvO rfl) (Rn (hA h68 (hA h69 (hA h70 (hA h71 (hA h72 (hV (.loc M.length 1 0 0) rfl (hV (.int .i64 0) rfl hZ))))))) fun e95 h97 h98 h99 h100 h101 h102 h103 => sN (sq (sq (Rg (kx (mvO h103) (kx (bNeq rfl rfl) (Rn (hA h97 (hA h98 (hA h99 (hA h100 (hA h101 (hA h102 (hV (.bool false) rfl hZ))))))) fun e104 h106 h107 h108 h109 h110 h111 h112 => sN (cF h112 rfl (xx (sN (Rg (kx (mvO h109) (kx (ldOA h111 o94 rfl rfl (ble rfl) rfl) (kx (litI (cns rfl rfl) rfl ⟨rfl, by decide⟩) (kw (apO rfl o93 rfl (elT (c := Account.c) (xs := [(Account.mk r82 r83 r84)]) rfl) hx114 Account.fl (by decide)) fun M115 hM116 => ?_)))))))))))))))
   clear h68 h69 h70 h71 h72 h73 h100 h101 h102 h103 h97 h98 h99
   have o117 : M115[i1_1]? = some (.live ⟨.grow, 27, 3, x113.map Account.c⟩) := set_same hM116 o93
   have o118 := set_ne hM116 (Ne.symm ne89) o94
   refine kx (mvO rfl) (Rn (hA h106 (hA h107 (hA h108 (hV (.lsl i1_1 x113.length 0 x113.length) rfl (hA h110 hZ))))) fun e119 h121 h122 h123 h124 h125 => bN (sN (Rg (kx (mvO h125) (kx (bAdd rfl rfl) (kx (mvO rfl) (Rn (hA h121 (hA h122 (hA h123 (hA h124 (hN rfl hZ))))) fun e126 h128 h129 h130 h131 h132 => ?_)))))))
   clear h106 h107 h108 h110 h111 h112 h121 h122 h123 h124
   obtain rfl := si h
   exact qN ⟨h128, h129, h130, h131, h132, o117⟩
  refine fc (cl (v := .tup [.agg [.str ([] : List UInt8), .nils, .int .i64 0], .int .i64 r133]) rfl rfl (cns rfl (cns rfl rfl)) rfl (spec_MakeAccount_ok x75 r80 _ hx81) nm) (kf (mvO rfl) (kf (exT rfl rfl) (kf (exT rfl rfl) (Ev.nfpushE (alO zero27) (Ev.fend1 fun M135 hM136 => ?_)))))
  have hM136 := fendM hM136 [⟨.box, 27, 3, [[.str ([] : List UInt8), .nils, .int .i64 0]]⟩] rfl
  have o137 := push_old hM136 o63
  have ne138 : i1_1 ≠ M.length := by have := lt_of_get (M := M) o63; omega
  have o139 : M135[M.length]? = some (.live ⟨.box, 27, 3, [[.str ([] : List UInt8), .nils, .int .i64 0]]⟩) := push_at hM136 0 rfl
  refine kw (stO rfl rfl o139 rfl rfl ⟨rfl, ble rfl⟩ rfl rfl) fun M140 hM141 => ?_
  have o142 := set_ne hM141 ne138 o137
  have o143 : M140[M.length]? = some (.live ⟨.box, 27, 3, [[.str ([] : List UInt8), .nils, .int .i64 0]]⟩) := set_same hM141 o139
  refine kx (mvO rfl) (Rn (hA h68 (hA h69 (hA h70 (hA h71 (hA h72 (hV (.loc M.length 1 0 0) rfl (hN rfl hZ))))))) fun e144 h146 h147 h148 h149 h150 h151 h152 => sN (sq (sq (Rg (kx (mvO h152) (kx (bNeq rfl rfl) (Rn (hA h146 (hA h147 (hA h148 (hA h149 (hA h150 (hA h151 (hN rfl hZ))))))) fun e153 h155 h156 h157 h158 h159 h160 h161 => sN ?_)))))))
  clear h68 h69 h70 h71 h72 h73 h146 h147 h148 h149 h150 h151 h152
  rcases ite_some h with ⟨hb162, h⟩ | ⟨hb162, h⟩
  ·refine cT h161 hb162 (sq (Rg (kx (mvO rfl) (Rn (hV (.bool false) rfl hZ) fun e163 h165 => sN (xx (sR (bR (sR ?_))))))))
   clear h155 h156 h157 h158 h159 h160 h161
   obtain rfl := si h
   exact qR ⟨rfl, h165⟩
  refine cF h161 hb162 (xx (sN (Rg (kx (mvO h158) (kx (ldOA h160 o143 rfl rfl (ble rfl) rfl) ?_)))))
  cases h
 refine cF h73 hb74 (xx (sE ?_))
 obtain rfl := si h
 exact qE ⟨rfl, h69, h70, h71, o63⟩
def laws_FnRolls_c1_Q (a2 : List Int) (y175 : List Account) (r181 : Int) (r183 : List Account) (r220 : Int) (r222 : List Account) (i901_1 : Nat) (i901_2 : Nat) (i901_3 : Nat) (i901_4 : Nat) (g : Unit) (q : Out) : Prop := q.1 = .nrm ∧ eget q.2.1 1 = .sl none (a2.map (cI .u8)) ∧ eget q.2.1 5 = .lit 9 ([([107, 101, 110, 116] : List UInt8), ([101, 115, 115, 101, 120] : List UInt8), ([121, 111, 114, 107] : List UInt8)].map cS) ∧ eget q.2.1 6 = .lsl i901_1 y175.length 0 y175.length ∧ eget q.2.1 10 = .loc i901_2 1 0 0 ∧ eget q.2.1 12 = .loc i901_3 1 0 0 ∧ eget q.2.1 16 = .loc i901_4 1 0 0 ∧ eget q.2.1 132 = .bool true ∧ q.2.2[i901_2]? = some (.live ⟨.box, 74, 2, [[.sl none (r183.map Account.c), .int .i64 r181]]⟩) ∧ q.2.2[i901_1]? = some (.live ⟨.grow, 27, 3, y175.map Account.c⟩) ∧ q.2.2[i901_3]? = some (.live ⟨.box, 74, 2, [[.sl none (r222.map Account.c), .int .i64 r220]]⟩) ∧ q.2.2[i901_4]? = some (.live ⟨.box, 74, 2, [[.nils, .int .i64 0]]⟩)
def laws_FnRolls_c2_Q (a2 : List Int) (y175 : List Account) (r181 : Int) (r183 : List Account) (r220 : Int) (r222 : List Account) (r388 : List Account) (r389 : Int) (i902_1 : Nat) (i902_2 : Nat) (i902_3 : Nat) (i902_4 : Nat) (g : Bool) (q : Out) : Prop := q.1 = .nrm ∧ eget q.2.1 1 = .sl none (a2.map (cI .u8)) ∧ eget q.2.1 5 = .lit 9 ([([107, 101, 110, 116] : List UInt8), ([101, 115, 115, 101, 120] : List UInt8), ([121, 111, 114, 107] : List UInt8)].map cS) ∧ eget q.2.1 6 = .lsl i902_1 y175.length 0 y175.length ∧ eget q.2.1 10 = .loc i902_2 1 0 0 ∧ eget q.2.1 12 = .loc i902_3 1 0 0 ∧ eget q.2.1 16 = .loc i902_4 1 0 0 ∧ eget q.2.1 132 = .bool g ∧ q.2.2[i902_2]? = some (.live ⟨.box, 74, 2, [[.sl none (r183.map Account.c), .int .i64 r181]]⟩) ∧ q.2.2[i902_1]? = some (.live ⟨.grow, 27, 3, y175.map Account.c⟩) ∧ q.2.2[i902_3]? = some (.live ⟨.box, 74, 2, [[.sl none (r222.map Account.c), .int .i64 r220]]⟩) ∧ q.2.2[i902_4]? = some (.live ⟨.box, 74, 2, [[.sl none (r388.map Account.c), .int .i64 r389]]⟩)
def laws_FnRolls_c4_Q (a2 : List Int) (y175 : List Account) (r181 : Int) (r183 : List Account) (r220 : Int) (r222 : List Account) (r388 : List Account) (r389 : Int) (s2_1 : Int) (s2_2 : Int) (s2_3 : Int) (i2_2 : Nat) (i2_1 : Nat) (i2_3 : Nat) (i2_4 : Nat) (g : Bool) (q : Out) : Prop := q.1 = .nrm ∧ eget q.2.1 1 = .sl none (a2.map (cI .u8)) ∧ eget q.2.1 5 = .lit 9 ([([107, 101, 110, 116] : List UInt8), ([101, 115, 115, 101, 120] : List UInt8), ([121, 111, 114, 107] : List UInt8)].map cS) ∧ eget q.2.1 6 = .lsl i2_1 y175.length 0 y175.length ∧ eget q.2.1 10 = .loc i2_2 1 0 0 ∧ eget q.2.1 12 = .loc i2_3 1 0 0 ∧ eget q.2.1 16 = .loc i2_4 1 0 0 ∧ eget q.2.1 18 = .int .i64 s2_1 ∧ eget q.2.1 19 = .int .i64 s2_2 ∧ eget q.2.1 20 = .int .i64 s2_3 ∧ eget q.2.1 180 = .bool g ∧ q.2.2[i2_2]? = some (.live ⟨.box, 74, 2, [[.sl none (r183.map Account.c), .int .i64 r181]]⟩) ∧ q.2.2[i2_1]? = some (.live ⟨.grow, 27, 3, y175.map Account.c⟩) ∧ q.2.2[i2_3]? = some (.live ⟨.box, 74, 2, [[.sl none (r222.map Account.c), .int .i64 r220]]⟩) ∧ q.2.2[i2_4]? = some (.live ⟨.box, 74, 2, [[.sl none (r388.map Account.c), .int .i64 r389]]⟩)
abbrev laws_FnRolls_b2_S := Int × Int × Int
abbrev laws_FnRolls_b2_R := Unit ⊕ (Int × Int)
def laws_FnRolls_b2_RS (a2 : List Int) (y175 : List Account) (r181 : Int) (r183 : List Account) (r220 : Int) (r222 : List Account) (r388 : List Account) (r389 : Int) (i2_1 : Nat) (i2_2 : Nat) (i2_3 : Nat) (i2_4 : Nat) (s : laws_FnRolls_b2_S) (e : Env) (M : Mem) : Prop := eget e 1 = .sl none (a2.map (cI .u8)) ∧ eget e 5 = .lit 9 ([([107, 101, 110, 116] : List UInt8), ([101, 115, 115, 101, 120] : List UInt8), ([121, 111, 114, 107] : List UInt8)].map cS) ∧ eget e 6 = .lsl i2_1 y175.length 0 y175.length ∧ eget e 10 = .loc i2_2 1 0 0 ∧ eget e 12 = .loc i2_3 1 0 0 ∧ eget e 16 = .loc i2_4 1 0 0 ∧ eget e 18 = .int .i64 s.1 ∧ eget e 19 = .int .i64 s.2.1 ∧ eget e 20 = .int .i64 s.2.2 ∧ M[i2_2]? = some (.live ⟨.box, 74, 2, [[.sl none (r183.map Account.c), .int .i64 r181]]⟩) ∧ M[i2_1]? = some (.live ⟨.grow, 27, 3, y175.map Account.c⟩) ∧ M[i2_3]? = some (.live ⟨.box, 74, 2, [[.sl none (r222.map Account.c), .int .i64 r220]]⟩) ∧ M[i2_4]? = some (.live ⟨.box, 74, 2, [[.sl none (r388.map Account.c), .int .i64 r389]]⟩)
def laws_FnRolls_b2_RR (a2 : List Int) (y175 : List Account) (r181 : Int) (r183 : List Account) (r220 : Int) (r222 : List Account) (r388 : List Account) (r389 : Int) (i2_1 : Nat) (i2_2 : Nat) (i2_3 : Nat) (i2_4 : Nat) (r : laws_FnRolls_b2_R) (x : Ex) (e : Env) (M : Mem) : Prop :=
  match r with
  | (.inl g) => x = .ret ∧ eget e 4 = .bool false
  | (.inr g) => x = .ext 2 ∧ eget e 1 = .sl none (a2.map (cI .u8)) ∧ eget e 6 = .lsl i2_1 y175.length 0 y175.length ∧ eget e 12 = .loc i2_3 1 0 0 ∧ eget e 18 = .int .i64 g.1 ∧ eget e 19 = .int .i64 g.2 ∧ M[i2_2]? = some (.live ⟨.box, 74, 2, [[.sl none (r183.map Account.c), .int .i64 r181]]⟩) ∧ M[i2_1]? = some (.live ⟨.grow, 27, 3, y175.map Account.c⟩) ∧ M[i2_3]? = some (.live ⟨.box, 74, 2, [[.sl none (r222.map Account.c), .int .i64 r220]]⟩) ∧ M[i2_4]? = some (.live ⟨.box, 74, 2, [[.sl none (r388.map Account.c), .int .i64 r389]]⟩)
noncomputable def laws_FnRolls_b2 (y175 : List Account) (r183 : List Account) (r220 : Int) (r222 : List Account) (r388 : List Account) : laws_FnRolls_b2_S → Option (laws_FnRolls_b2_S ⊕ laws_FnRolls_b2_R) := fun (s2_1, s2_2, s2_3) =>
 if (decide (s2_3 < (y175.length : Int))) = true then
  (rd [([107, 101, 110, 116] : List UInt8), ([101, 115, 115, 101, 120] : List UInt8), ([121, 111, 114, 107] : List UInt8)] s2_3).bind fun x596 =>
  (impl_FindAccount (Roll.mk r222 r220) x596).bind fun (r599, r600) =>
  ((rd r183 s2_3).bind fun x614 =>
  (rd y175 s2_3).bind fun x616 =>
  (spec_A2SameAccount x614 x616).bind fun r619 =>
  if r619 = true then
   (rd r388 s2_3).bind fun x621 =>
   (rd y175 s2_3).bind fun x623 =>
   (spec_A2SameAccount x621 x623).bind fun r626 =>
   if r626 = true then
    if (r600 != 0) = true then
     some true
    else
     some (r599 != s2_3)
   else
    some true
  else
   some true).bind fun y679 =>
  if y679 = true then
   some (.inr (.inl ()))
  else
   (rd y175 s2_3).bind fun x698 =>
   (rd y175 s2_3).bind fun x711 =>
   some (.inl ((IntKind.i64.wrap (s2_1 + (max x698.Balance 0))), (max s2_2 x711.Balance), (IntKind.i64.wrap (s2_3 + 1))))
 else
  some (.inr (.inr (s2_1, s2_2)))
theorem laws_FnRolls_b2_ok (a2 : List Int) (y175 : List Account) (r181 : Int) (r183 : List Account) (r220 : Int) (r222 : List Account) (r388 : List Account) (r389 : Int) (i2_1 : Nat) (i2_2 : Nat) (i2_3 : Nat) (i2_4 : Nat) (ne250 : i2_2 ≠ i2_3) (ne396 : i2_2 ≠ i2_4) (ne206 : i2_1 ≠ i2_2) (ne248 : i2_1 ≠ i2_3) (ne394 : i2_1 ≠ i2_4) (ne398 : i2_3 ≠ i2_4) (s : laws_FnRolls_b2_S) (r : laws_FnRolls_b2_S ⊕ laws_FnRolls_b2_R) (h : laws_FnRolls_b2 y175 r183 r220 r222 r388 s = some r) (e : Env) (M : Mem) (hs : laws_FnRolls_b2_RS a2 y175 r181 r183 r220 r222 r388 r389 i2_1 i2_2 i2_3 i2_4 s e M) : Ev (fun k => (f5_l21 (CN k) k (prune [1, 5, 6, 10, 12, 16, 18, 19, 20] e) M).bind fun q => some q) (bQ (laws_FnRolls_b2_RS a2 y175 r181 r183 r220 r222 r388 r389 i2_1 i2_2 i2_3 i2_4) (laws_FnRolls_b2_RR a2 y175 r181 r183 r220 r222 r388 r389 i2_1 i2_2 i2_3 i2_4) r) := by
 obtain ⟨s2_1, s2_2, s2_3⟩ := s
 unfold laws_FnRolls_b2 at h
 obtain ⟨h561, h563, h565, h567, h569, h571, h573, h575, h577, o579, o580, o581, o582⟩ := hs
 generalize he560 : prune [1, 5, 6, 10, 12, 16, 18, 19, 20] e = e559
 have h562 := envp he560.symm rfl h561
 have h564 := envp he560.symm rfl h563
 have h566 := envp he560.symm rfl h565
 have h568 := envp he560.symm rfl h567
 have h570 := envp he560.symm rfl h569
 have h572 := envp he560.symm rfl h571
 have h574 := envp he560.symm rfl h573
 have h576 := envp he560.symm rfl h575
 have h578 := envp he560.symm rfl h577
 refine sq (sq (Rg (kx (mvO h578) (kx (mvO h566) (kx (lnL Tryd.underlying72 rfl o580 (by simp)) (kx (bLss rfl rfl) (Rn (hV (.sl none (a2.map (cI .u8))) h562 (hV (.lit 9 ([([107, 101, 110, 116] : List UInt8), ([101, 115, 115, 101, 120] : List UInt8), ([121, 111, 114, 107] : List UInt8)].map cS)) h564 (hV (.lsl i2_1 y175.length 0 y175.length) h566 (hV (.loc i2_2 1 0 0) h568 (hV (.loc i2_3 1 0 0) h570 (hV (.loc i2_4 1 0 0) h572 (hV (.int .i64 s2_1) h574 (hV (.int .i64 s2_2) h576 (hV (.int .i64 s2_3) h578 (hN rfl hZ)))))))))) fun e583 h585 h586 h587 h588 h589 h590 h591 h592 h593 h594 => sN ?_)))))))
 clear h562 h564 h566 h568 h570 h572 h574 h576 h578
 rcases ite_some h with ⟨hb595, h⟩ | ⟨hb595, h⟩
 ·obtain ⟨x596, hx597, h⟩ := bind_some h
  obtain ⟨⟨r599, r600⟩, hx598, h⟩ := bind_some h
  obtain ⟨r736, hr737, h⟩ := bind_some h
  refine cT h594 hb595 (xx (sN (sq (bl (sq (Rd (kf (ldOA h589 o581 rfl rfl (ble rfl) rfl) (kf (mvO h586) (kf (mvO h593) (kf (ixLt rfl rfl hx597 cS_fl) (kf (ldP rfl rfl) (fc (cl (v := .tup [.int .i64 r599, .int .i64 r600]) rfl rfl (cns rfl (cns rfl rfl)) rfl (impl_FindAccount_ok (Roll.mk r222 r220) x596 _ hx598) nm) (kf (mvO rfl) (kf (exT rfl rfl) (kf (exT rfl rfl) (kf (mvO rfl) (kf (mvO rfl) (fZ (Rn (hA h585 (hA h586 (hA h587 (hA h588 (hA h589 (hA h590 (hA h591 (hA h592 (hA h593 (hN rfl (hN rfl hZ))))))))))) fun e601 h603 h604 h605 h606 h607 h608 h609 h610 h611 h612 h613 => sN (sq (sq ?_)))))))))))))))))))))
  clear h585 h586 h587 h588 h589 h590 h591 h592 h593 h594
  refine Ev.cut (Q1 := laws_FnRolls_c4_Q a2 y175 r181 r183 r220 r222 r388 r389 s2_1 s2_2 s2_3 i2_2 i2_1 i2_3 i2_4 r736) (by
      have h := hr737
      obtain ⟨x614, hx615, h⟩ := bind_some h
      obtain ⟨x616, hx617, h⟩ := bind_some h
      obtain ⟨r619, hx618, h⟩ := bind_some h
      refine Rd (kf (faO h606 o579 rfl) (kf (ldO rfl o579 rfl rfl rfl) (kf (mvO h611) (kf (ixS rfl rfl hx615 Account.fl) (kf (ldPA rfl rfl rfl) (kf (mvO h605) (kf (mvO h611) (kf (ixO rfl o580 rfl rfl (rd_get hx617).1 (rd_lt hx617).2) (kf (ldOA rfl o580 (by simp) (rz hx617) (ble rfl) rfl) (fc (cl (v := .bool r619) rfl rfl (cns rfl (cns rfl rfl)) rfl (spec_A2SameAccount_ok x614 x616 _ hx618) nm) (kf (uNot rfl) (kf (mvO rfl) ?_))))))))))))
      rcases ite_some h with ⟨hb620, h⟩ | ⟨hb620, h⟩
      ·obtain ⟨x621, hx622, h⟩ := bind_some h
       obtain ⟨x623, hx624, h⟩ := bind_some h
       obtain ⟨r626, hx625, h⟩ := bind_some h
       refine kf (guF rfl (congrArg Bool.not hb620) (faO h608 o582 rfl)) (kf (guF rfl (congrArg Bool.not hb620) (ldO rfl o582 rfl rfl rfl)) (kf (guF rfl (congrArg Bool.not hb620) (mvO h611)) (kf (guF rfl (congrArg Bool.not hb620) (ixS rfl rfl hx622 Account.fl)) (kf (guF rfl (congrArg Bool.not hb620) (ldPA rfl rfl rfl)) (kf (guF rfl (congrArg Bool.not hb620) (mvO h605)) (kf (guF rfl (congrArg Bool.not hb620) (mvO h611)) (kf (guF rfl (congrArg Bool.not hb620) (ixO rfl o580 rfl rfl (rd_get hx624).1 (rd_lt hx624).2)) (kf (guF rfl (congrArg Bool.not hb620) (ldOA rfl o580 (by simp) (rz hx624) (ble rfl) rfl)) (fc (Ev.guF rfl (congrArg Bool.not hb620) (cl (v := .bool r626) rfl rfl (cns rfl (cns rfl rfl)) rfl (spec_A2SameAccount_ok x621 x623 _ hx625) nm)) (kf (guF rfl (congrArg Bool.not hb620) (uNot rfl)) (kf (pkF rfl (congrArg Bool.not hb620) rfl) (kf (mvO rfl) ?_))))))))))))
       rcases ite_some h with ⟨hb627, h⟩ | ⟨hb627, h⟩
       ·refine kf (guF rfl (congrArg Bool.not hb627) (mvO h613)) (kf (guF rfl (congrArg Bool.not hb627) (bNeq rfl rfl)) (kf (pkF rfl (congrArg Bool.not hb627) rfl) (kf (mvO rfl) ?_)))
        rcases ite_some h with ⟨hb628, h⟩ | ⟨hb628, h⟩
        ·refine kf (gsF rfl hb628) (kf (gsF rfl hb628) (kf (gsF rfl hb628) (kf (pkT rfl hb628 rfl) (fZ (Rn (hA h603 (hA h604 (hA h605 (hA h606 (hA h607 (hA h608 (hA h609 (hA h610 (hA h611 (hV (.bool true) rfl hZ)))))))))) fun e629 h631 h632 h633 h634 h635 h636 h637 h638 h639 h640 => ?_)))))
         clear h603 h604 h605 h606 h607 h608 h609 h610 h611 h612 h613
         obtain rfl := si h
         exact kd (show laws_FnRolls_c4_Q a2 y175 r181 r183 r220 r222 r388 r389 s2_1 s2_2 s2_3 i2_2 i2_1 i2_3 i2_4 _ _ from ⟨rfl, h631, h632, h633, h634, h635, h636, h637, h638, h639, h640, o579, o580, o581, o582⟩)
        refine kf (guF rfl hb628 (mvO h612)) (kf (guF rfl hb628 (mvO h611)) (kf (guF rfl hb628 (bNeq rfl rfl)) (kf (pkF rfl hb628 rfl) (fZ (Rn (hA h603 (hA h604 (hA h605 (hA h606 (hA h607 (hA h608 (hA h609 (hA h610 (hA h611 (hN rfl hZ)))))))))) fun e641 h643 h644 h645 h646 h647 h648 h649 h650 h651 h652 => ?_)))))
        clear h603 h604 h605 h606 h607 h608 h609 h610 h611 h612 h613
        obtain rfl := si h
        exact kd (show laws_FnRolls_c4_Q a2 y175 r181 r183 r220 r222 r388 r389 s2_1 s2_2 s2_3 i2_2 i2_1 i2_3 i2_4 _ _ from ⟨rfl, h643, h644, h645, h646, h647, h648, h649, h650, h651, h652, o579, o580, o581, o582⟩)
       refine kf (gsF rfl (congrArg Bool.not hb627)) (kf (gsF rfl (congrArg Bool.not hb627)) (kf (pkT rfl (congrArg Bool.not hb627) rfl) (kf (mvO rfl) (kf (gsF rfl rfl) (kf (gsF rfl rfl) (kf (gsF rfl rfl) (kf (pkT rfl rfl rfl) (fZ (Rn (hA h603 (hA h604 (hA h605 (hA h606 (hA h607 (hA h608 (hA h609 (hA h610 (hA h611 (hV (.bool true) rfl hZ)))))))))) fun e653 h655 h656 h657 h658 h659 h660 h661 h662 h663 h664 => ?_)))))))))
       clear h603 h604 h605 h606 h607 h608 h609 h610 h611 h612 h613
       obtain rfl := si h
       exact kd (show laws_FnRolls_c4_Q a2 y175 r181 r183 r220 r222 r388 r389 s2_1 s2_2 s2_3 i2_2 i2_1 i2_3 i2_4 _ _ from ⟨rfl, h655, h656, h657, h658, h659, h660, h661, h662, h663, h664, o579, o580, o581, o582⟩)
      refine kf (gsF rfl (congrArg Bool.not hb620)) (kf (gsF rfl (congrArg Bool.not hb620)) (kf (gsF rfl (congrArg Bool.not hb620)) (kf (gsF rfl (congrArg Bool.not hb620)) (kf (gsF rfl (congrArg Bool.not hb620)) (kf (gsF rfl (congrArg Bool.not hb620)) (kf (gsF rfl (congrArg Bool.not hb620)) (kf (gsF rfl (congrArg Bool.not hb620)) (kf (gsF rfl (congrArg Bool.not hb620)) (fc (Ev.gsF rfl (congrArg Bool.not hb620)) (kf (gsF rfl (congrArg Bool.not hb620)) (kf (pkT rfl (congrArg Bool.not hb620) rfl) (kf (mvO rfl) (kf (gsF rfl rfl) (kf (gsF rfl rfl) (kf (pkT rfl rfl rfl) (kf (mvO rfl) (kf (gsF rfl rfl) (kf (gsF rfl rfl) (kf (gsF rfl rfl) (kf (pkT rfl rfl rfl) (fZ (Rn (hA h603 (hA h604 (hA h605 (hA h606 (hA h607 (hA h608 (hA h609 (hA h610 (hA h611 (hV (.bool true) rfl hZ)))))))))) fun e665 h667 h668 h669 h670 h671 h672 h673 h674 h675 h676 => ?_))))))))))))))))))))))
      clear h603 h604 h605 h606 h607 h608 h609 h610 h611 h612 h613
      obtain rfl := si h
      exact kd (show laws_FnRolls_c4_Q a2 y175 r181 r183 r220 r222 r388 r389 s2_1 s2_2 s2_3 i2_2 i2_1 i2_3 i2_4 _ _ from ⟨rfl, h667, h668, h669, h670, h671, h672, h673, h674, h675, h676, o579, o580, o581, o582⟩)) ?_
  revert h hr737
  revert r736
  intro y679 hr737 h
  intro x e677 M678 hq735
  obtain ⟨rfl, h680, h681, h682, h683, h684, h685, h686, h687, h688, h689, o690, o691, o692, o693⟩ := hq735
  refine sN ?_
  rcases ite_some h with ⟨hb694, h⟩ | ⟨hb694, h⟩
  ·refine cT h689 hb694 (sq (Rg (kx (mvO rfl) (Rn (hV (.bool false) rfl hZ) fun e695 h697 => sN (xx (sR (bR (sR ?_))))))))
   clear h680 h681 h682 h683 h684 h685 h686 h687 h688 h689
   obtain rfl := si h
   exact qR ⟨rfl, h697⟩
  obtain ⟨x698, hx699, h⟩ := bind_some h
  obtain ⟨x711, hx712, h⟩ := bind_some h
  refine cF h689 hb694 (xx (sN (sq (Rg (kx (mvO h686) (kx (mvO h682) (kx (mvO h688) (kx (ixO rfl o691 rfl rfl (rd_get hx699).1 (rd_lt hx699).2) (kx (faO rfl o691 (by simp)) (kx (ldO rfl o691 (by simp) (rz hx699) rfl) (kx (bMax rfl rfl) (kx (bAdd rfl rfl) (kx (mvO rfl) (Rn (hV (.sl none (a2.map (cI .u8))) h680 (hV (.lit 9 ([([107, 101, 110, 116] : List UInt8), ([101, 115, 115, 101, 120] : List UInt8), ([121, 111, 114, 107] : List UInt8)].map cS)) h681 (hV (.lsl i2_1 y175.length 0 y175.length) h682 (hV (.loc i2_2 1 0 0) h683 (hV (.loc i2_3 1 0 0) h684 (hV (.loc i2_4 1 0 0) h685 (hN rfl (hV (.int .i64 s2_2) h687 (hV (.int .i64 s2_3) h688 hZ))))))))) fun e700 h702 h703 h704 h705 h706 h707 h708 h709 h710 => sN (Rg (kx (mvO h709) (kx (mvO h704) (kx (mvO h710) (kx (ixO rfl o691 rfl rfl (rd_get hx712).1 (rd_lt hx712).2) (kx (faO rfl o691 (by simp)) (kx (ldO rfl o691 (by simp) (rz hx712) rfl) (kx (bMax rfl rfl) (kx (mvO rfl) (Rn (hA h702 (hA h703 (hA h704 (hA h705 (hA h706 (hA h707 (hA h708 (hN rfl (hA h710 hZ))))))))) fun e713 h715 h716 h717 h718 h719 h720 h721 h722 h723 => bN (sN (Rg (kx (mvO h723) (kx (bAdd rfl rfl) (kx (mvO rfl) (Rn (hA h715 (hA h716 (hA h717 (hA h718 (hA h719 (hA h720 (hA h721 (hA h722 (hN rfl hZ))))))))) fun e724 h726 h727 h728 h729 h730 h731 h732 h733 h734 => ?_))))))))))))))))))))))))))))))
  clear h680 h681 h682 h683 h684 h685 h687 h688 h689 h702 h703 h704 h705 h706 h707 h708 h710 h715 h716 h717 h718 h719 h720 h721 h722
  obtain rfl := si h
  exact qN ⟨h726, h727, h728, h729, h730, h731, h732, h733, h734, o690, o691, o692, o693⟩
 refine cF h594 hb595 (xx (sE ?_))
 obtain rfl := si h
 exact qE ⟨rfl, h585, h587, h589, h591, h592, o579, o580, o581, o582⟩
def laws_FnRolls_c5_Q (a2 : List Int) (y175 : List Account) (r220 : Int) (r222 : List Account) (i905_1 : Nat) (i905_2 : Nat) (r : Unit ⊕ Bool) (q : Out) : Prop :=
  match r with
  | (.inl g) => q.1 = .ret ∧ eget q.2.1 4 = .bool false
  | (.inr g) => q.1 = .nrm ∧ eget q.2.1 1 = .sl none (a2.map (cI .u8)) ∧ eget q.2.1 6 = .lsl i905_1 y175.length 0 y175.length ∧ eget q.2.1 12 = .loc i905_2 1 0 0 ∧ eget q.2.1 240 = .bool g ∧ q.2.2[i905_1]? = some (.live ⟨.grow, 27, 3, y175.map Account.c⟩) ∧ q.2.2[i905_2]? = some (.live ⟨.box, 74, 2, [[.sl none (r222.map Account.c), .int .i64 r220]]⟩)
def laws_FnRolls_c6_Q (a2 : List Int) (y175 : List Account) (r220 : Int) (r222 : List Account) (i906_1 : Nat) (i906_2 : Nat) (g : Bool) (q : Out) : Prop := q.1 = .nrm ∧ eget q.2.1 1 = .sl none (a2.map (cI .u8)) ∧ eget q.2.1 6 = .lsl i906_1 y175.length 0 y175.length ∧ eget q.2.1 12 = .loc i906_2 1 0 0 ∧ eget q.2.1 259 = .bool g ∧ q.2.2[i906_1]? = some (.live ⟨.grow, 27, 3, y175.map Account.c⟩) ∧ q.2.2[i906_2]? = some (.live ⟨.box, 74, 2, [[.sl none (r222.map Account.c), .int .i64 r220]]⟩)
noncomputable def laws_FnRolls (a1 : List Int) (a2 : List Int) : Option Bool :=
 (laws_a2Long a1 a2).bind fun r6 =>
 if r6 = true then
  some true
 else
  (Lw (laws_FnRolls_b1 a1 a2) (0, ([] : List Account))).bind fun r => match r with
  | (.inl _) =>
   some false
  | (.inr y175) =>
   (impl_MakeRoll_l y175).bind fun (r181, r182, r183) =>
   (spec_MakeRoll_l y175).bind fun (r220, r221, r222) =>
   (impl_FirstFault (Roll.mk r222 r220)).bind fun (r267, r268) =>
   (impl_RollText (Roll.mk r222 r220)).bind fun r280 =>
   (impl_ReadRoll r280).bind fun r => match r with
   | (.inl _) =>
    (if (r182 != r221) = true then
     some ()
    else
     if (r182 != 0) = true then
      some ()
     else
      if ((r183.length : Int) != (y175.length : Int)) = true then
       some ()
      else
       if (r181 != r220) = true then
        some ()
       else
        if (r268 != 6) = true then
         some ()
        else
         some ()).bind fun _ =>
    some false
   | (.inr (r388, r389)) =>
    (if (r182 != r221) = true then
     some true
    else
     if (r182 != 0) = true then
      some true
     else
      if ((r183.length : Int) != (y175.length : Int)) = true then
       some true
      else
       if (r181 != r220) = true then
        some true
       else
        if (r268 != 6) = true then
         some true
        else
         if (r389 != r220) = true then
          some true
         else
          some ((r388.length : Int) != (y175.length : Int))).bind fun y489 =>
    if y489 = true then
     some false
    else
     (Lw (laws_FnRolls_b2 y175 r183 r220 r222 r388) (0, 0, 0)).bind fun r => match r with
     | (.inl _) =>
      some false
     | (.inr (y746, y747)) =>
      (impl_WorstDebtor (Roll.mk r222 r220)).bind fun (r758, r759) =>
      (spec_WorstDebtor (Roll.mk r222 r220)).bind fun (r770, r771) =>
      ((if (r220 != y746) = true then
       some (.inl ())
      else
       if (r759 != r771) = true then
        some (.inl ())
       else
        if (r758 != r770) = true then
         some (.inl ())
        else
         if ((r759 == 0) == (decide (y747 > 0))) = true then
          if (r759 == 0) = true then
           (rd r222 r770).bind fun x815 =>
           if (x815.Balance != y747) = true then
            some (.inl ())
           else
            some (.inr (x815.Balance != y747))
          else
           some (.inr false)
         else
          some (.inl ()) : Option (Unit ⊕ Bool))).bind fun r => match r with
      | (.inl _) =>
       some false
      | (.inr y848) =>
       (impl_FirstFault (Roll.mk r222 (IntKind.i64.wrap (r220 + 1)))).bind fun (r875, r876) =>
       (if (r876 != 0) = true then
        some true
       else
        some (r875 != (y175.length : Int))).bind fun y899 =>
       if y899 = true then
        some false
       else
        if ((y175.length : Int) == 0) = true then
         some true
        else
         (app 48 ([] : List Account) r222).bind fun x933 =>
         (laws_a2At a2 1 (y175.length : Int)).bind fun r953 =>
         (rd x933 r953).bind fun x959 =>
         (rd x933 r953).bind fun x961 =>
         (impl_FirstFault (Roll.mk (x933.set r953.toNat (Account.mk x961.Title x961.Items (IntKind.i64.wrap (x959.Balance - 1)))) r220)).bind fun (r975, r976) =>
         (rd y175 0).bind fun x984 =>
         (app 48 ([] : List Account) y175).bind fun x995 =>
         (app 48 x995 [x984]).bind fun x1002 =>
         (impl_MakeRoll_l x1002).bind fun (r1010, r1011, r1012) =>
         if (r976 == 0) = true then
          if (r975 == r953) = true then
           if (r1011 == 4) = true then
            some ((r1012.length : Int) == 0)
           else
            some false
          else
           some false
         else
          some false
def laws_FnRolls_enc (r : Bool) : AV := .bool r
theorem laws_FnRolls_ok (a1 : List Int) (a2 : List Int) (r : Bool) (h : laws_FnRolls a1 a2 = some r) : Ev (fun k => CN k 5 [.sl none (a1.map (cI .u8)), .sl none (a2.map (cI .u8))] []) (fun p => rRes p.2 p.1 = laws_FnRolls_enc r) := by
 unfold laws_FnRolls at h
 obtain ⟨r6, hx5, h⟩ := bind_some h
 refine Ev.enter (F := fun k => f5 (CN k) k) (fun k => callN_eq rfl Tryd.func5 rfl rfl rfl (by decide +kernel) (f5_eq _ _)) (sq (Rg (kx (mvO rfl) (Rn (hN rfl (hN rfl hZ)) fun e1 h3 h4 => sN (sq (sq (Rg (kx (mvO h3) (kx (mvO h4) (kc (cl (v := .bool r6) rfl rfl (cns rfl (cns rfl rfl)) rfl (laws_a2Long_ok a1 a2 _ hx5) nm) (Rn (hA h3 (hA h4 (hN rfl hZ))) fun e7 h9 h10 h11 => sN ?_)))))))))))
 clear h3 h4
 rcases ite_some h with ⟨hb12, h⟩ | ⟨hb12, h⟩
 ·refine cT h11 hb12 (sq (Rg (kx (mvO rfl) (Rn (hV (.bool true) rfl hZ) fun e13 h15 => sN (xx (sR ?_))))))
  clear h10 h11 h9
  obtain rfl := si h
  exact eR (resT h15 res0) rfl
 refine cF h11 hb12 (xx (sN (sq (Rg (kx (litI (cns rfl (cns rfl (cns rfl rfl))) rfl ⟨rfl, by decide⟩) (kx (mvO rfl) (Rn (hA h9 (hA h10 (hN rfl hZ))) fun e16 h18 h19 h20 => sN (sq (Rg (ku (litO (xs := ([] : List Account)) (c := Account.c) rfl rfl (by decide)) fun M22 hM23 => ?_))))))))))
 clear h10 h11 h9
 have o24 : M22[([] : Mem).length]? = some (.live ⟨.grow, 27, 3, ([] : List Account).map Account.c⟩) := push_new hM23
 obtain ⟨r167, hr168, h⟩ := bind_some h
 refine kx (mvO rfl) (Rn (hA h18 (hA h19 (hA h20 (hV (.lsl ([] : Mem).length ([] : List Account).length 0 ([] : List Account).length) rfl hZ)))) fun e25 h27 h28 h29 h30 => sN (sq (sq (Rg (kx (mvO rfl) (Rn (hA h27 (hA h28 (hA h29 (hA h30 (hV (.int .i64 0) rfl hZ))))) fun e31 h33 h34 h35 h36 h37 => sN (bl ?_)))))))
 clear h18 h19 h20 h27 h28 h29 h30
 rcases r167 with _ | y175
 ·refine Ev.loop (RS := laws_FnRolls_b1_RS a1 a2 (([] : Mem).length)) (RR := laws_FnRolls_b1_RR a1 a2 (([] : Mem).length)) (fun s r h e M hs => laws_FnRolls_b1_ok a1 a2 (([] : Mem).length) s r h e M hs) hr168 ⟨h33, h34, h35, h36, h37, o24⟩ fun x e170 M171 hq169 => ?_
  obtain ⟨rfl, h172⟩ := hq169
  refine bR (sR ?_)
  obtain rfl := si h
  exact eR (resT h172 res0) rfl
 refine Ev.loop (RS := laws_FnRolls_b1_RS a1 a2 (([] : Mem).length)) (RR := laws_FnRolls_b1_RR a1 a2 (([] : Mem).length)) (fun s r h e M hs => laws_FnRolls_b1_ok a1 a2 (([] : Mem).length) s r h e M hs) hr168 ⟨h33, h34, h35, h36, h37, o24⟩ fun x e173 M174 hq169 => ?_
 obtain ⟨rfl, h176, h177, h178, o179⟩ := hq169
 obtain ⟨⟨r181, r182, r183⟩, hx180, h⟩ := bind_some h
 refine bE (sN (sq (Rg (kx (mvO h178) (Ev.nxw (Ev.callF rfl (cns rfl rfl) (impl_MakeRoll_l_ok y175 (([] : Mem).length) M174 o179 _ hx180)) fun v195 M196 hq187 => ?_)))))
 obtain ⟨⟨v188, M186⟩, hq187, hf197⟩ := hq187
 obtain ⟨id184, hv188, o192, o189, fr190, nf193, ne194, hl191⟩ := hq187
 have hv188 : v188 = .tup [.agg [.lsl id184 r183.length 0 r183.length, .int .i64 r181], .int .i64 r182] := hv188
 subst hv188
 have o198 : M186[([] : Mem).length]? = some (.live ⟨.grow, 27, 3, y175.map Account.c⟩) := o189
 have hl191 : y175.length = y175.length := hl191
 obtain ⟨e199, hM200⟩ := Prod.mk.inj ((show frz (.tup [.agg [.lsl id184 r183.length 0 r183.length, .int .i64 r181], .int .i64 r182]) M186 = (.tup [.agg [.sl (some 27) (r183.map Account.c), .int .i64 r181], .int .i64 r182], (M186.set id184 .dead)) from (fzT (fz1 (fzA (fz1 (frz1_row o192 rfl Account.fl) (fz1 rfl fz0))) (fz1 rfl fz0)))).symm.trans hf197)
 subst e199
 have o201 := set_ne hM200.symm ne194 o198
 refine kx (mvO rfl) (kx (exT rfl rfl) (kx (exT rfl rfl) (ku (alO zero74) fun M203 hM204 => ?_)))
 have o205 := push_old hM204 o201
 have ne206 := ne_new o201
 have o207 : M203[M196.length]? = some (.live ⟨.box, 74, 2, [[.nils, .int .i64 0]]⟩) := push_new hM204
 refine kw (stO rfl rfl o207 rfl rfl ⟨rfl, ble rfl⟩ rfl rfl) fun M208 hM209 => ?_
 have o210 := set_ne hM209 ne206 o205
 have o211 : M208[M196.length]? = some (.live ⟨.box, 74, 2, [[.sl none (r183.map Account.c), .int .i64 r181]]⟩) := set_same hM209 o207
 obtain ⟨⟨r220, r221, r222⟩, hx219, h⟩ := bind_some h
 refine kx (mvO rfl) (Rn (hV (.sl none (a2.map (cI .u8))) h176 (hV (.lit 9 ([([107, 101, 110, 116] : List UInt8), ([101, 115, 115, 101, 120] : List UInt8), ([121, 111, 114, 107] : List UInt8)].map cS)) h177 (hV (.lsl ([] : Mem).length y175.length 0 y175.length) h178 (hV (.loc M196.length 1 0 0) rfl (hN rfl hZ))))) fun e212 h214 h215 h216 h217 h218 => sN (sq (Rg (kx (mvO h216) (Ev.nxw (Ev.callF rfl (cns rfl rfl) (spec_MakeRoll_l_ok y175 (([] : Mem).length) M208 o210 _ hx219)) fun v234 M235 hq226 => ?_)))))
 clear h176 h177 h178
 obtain ⟨⟨v227, M225⟩, hq226, hf236⟩ := hq226
 obtain ⟨id223, hv227, o231, o228, fr229, nf232, ne233, hl230⟩ := hq226
 have hv227 : v227 = .tup [.agg [.lsl id223 r222.length 0 r222.length, .int .i64 r220], .int .i64 r221] := hv227
 subst hv227
 have o237 : M225[([] : Mem).length]? = some (.live ⟨.grow, 27, 3, y175.map Account.c⟩) := o228
 have hl230 : y175.length = y175.length := hl230
 have ne238 := nf232 _ _ (niC (Ne.symm ne206) niN) o211
 have fr229 : Fr [([] : Mem).length] M208 M225 := fr229
 have o239 := fr229 _ _ (niC (Ne.symm ne206) niN) o211
 obtain ⟨e240, hM241⟩ := Prod.mk.inj ((show frz (.tup [.agg [.lsl id223 r222.length 0 r222.length, .int .i64 r220], .int .i64 r221]) M225 = (.tup [.agg [.sl (some 27) (r222.map Account.c), .int .i64 r220], .int .i64 r221], (M225.set id223 .dead)) from (fzT (fz1 (fzA (fz1 (frz1_row o231 rfl Account.fl) (fz1 rfl fz0))) (fz1 rfl fz0)))).symm.trans hf236)
 subst e240
 have o242 := set_ne hM241.symm ne233 o237
 have o243 := set_ne hM241.symm ne238 o239
 refine kx (mvO rfl) (kx (exT rfl rfl) (kx (exT rfl rfl) (ku (alO zero74) fun M245 hM246 => ?_)))
 have o247 := push_old hM246 o242
 have ne248 := ne_new o242
 have o249 := push_old hM246 o243
 have ne250 := ne_new o243
 have o251 : M245[M235.length]? = some (.live ⟨.box, 74, 2, [[.nils, .int .i64 0]]⟩) := push_new hM246
 refine kw (stO rfl rfl o251 rfl rfl ⟨rfl, ble rfl⟩ rfl rfl) fun M252 hM253 => ?_
 have o254 := set_ne hM253 ne248 o247
 have o255 := set_ne hM253 ne250 o249
 have o256 : M252[M235.length]? = some (.live ⟨.box, 74, 2, [[.sl none (r222.map Account.c), .int .i64 r220]]⟩) := set_same hM253 o251
 obtain ⟨⟨r267, r268⟩, hx266, h⟩ := bind_some h
 obtain ⟨r280, hx279, h⟩ := bind_some h
 obtain ⟨q1073, hx281, h⟩ := bind_some h
 refine kx (mvO rfl) (Rn (hA h214 (hA h215 (hA h216 (hA h217 (hA h218 (hV (.loc M235.length 1 0 0) rfl (hN rfl hZ))))))) fun e257 h259 h260 h261 h262 h263 h264 h265 => sN (sq (Rg (kx (ldOA h264 o256 rfl rfl (ble rfl) rfl) (kc (cl (v := .tup [.int .i64 r267, .int .i64 r268]) rfl rfl (cns rfl rfl) rfl (impl_FirstFault_ok (Roll.mk r222 r220) _ hx266) nm) (kx (mvO rfl) (kx (exT rfl rfl) (kx (exT rfl rfl) (kx (mvO rfl) (kx (mvO rfl) (Rn (hA h259 (hA h260 (hA h261 (hA h262 (hA h263 (hA h264 (hA h265 (hN rfl hZ)))))))) fun e269 h271 h272 h273 h274 h275 h276 h277 h278 => sN (sq (Rg (kx (ldOA h276 o256 rfl rfl (ble rfl) rfl) (kc (cl (v := .str r280) rfl rfl (cns rfl rfl) rfl (impl_RollText_ok (Roll.mk r222 r220) _ hx279) nm) ?_)))))))))))))))
 clear h214 h215 h216 h217 h218 h259 h260 h261 h262 h263 h264 h265
 rcases q1073 with _ | ⟨r388, r389⟩
 ·refine kc (cl (v := .tup [.agg [.nils, .int .i64 0], .int .i64 5]) rfl rfl (cns rfl rfl) rfl (impl_ReadRoll_ok r280 _ hx281) nm) (kx (mvO rfl) (kx (exT rfl rfl) (kx (exT rfl rfl) (ku (alO zero74) fun M283 hM284 => ?_))))
  have o285 := push_old hM284 o254
  have ne286 := ne_new o254
  have o287 := push_old hM284 o255
  have ne288 := ne_new o255
  have o289 := push_old hM284 o256
  have ne290 := ne_new o256
  have o291 : M283[M252.length]? = some (.live ⟨.box, 74, 2, [[.nils, .int .i64 0]]⟩) := push_new hM284
  refine kw (stO rfl rfl o291 rfl rfl ⟨rfl, ble rfl⟩ rfl rfl) fun M292 hM293 => ?_
  have o294 := set_ne hM293 ne286 o285
  have o295 := set_ne hM293 ne288 o287
  have o296 := set_ne hM293 ne290 o289
  have o297 : M292[M252.length]? = some (.live ⟨.box, 74, 2, [[.nils, .int .i64 0]]⟩) := set_same hM293 o291
  obtain ⟨r386, hr387, h⟩ := bind_some h
  refine kx (mvO rfl) (Rn (hA h271 (hA h272 (hA h273 (hA h274 (hA h275 (hA h276 (hA h277 (hA h278 (hV (.loc M252.length 1 0 0) rfl (hV (.int .i64 5) rfl hZ)))))))))) fun e298 h300 h301 h302 h303 h304 h305 h306 h307 h308 h309 => sN (sq (sq ?_)))
  clear h271 h272 h273 h274 h275 h276 h277 h278
  refine Ev.cut (Q1 := laws_FnRolls_c1_Q a2 y175 r181 r183 r220 r222 (([] : Mem).length) M196.length M235.length M252.length r386) (by
      have h := hr387
      refine Rg (kx (mvO h304) (kx (mvO h306) (kx (bNeq rfl rfl) (kx (mvO rfl) ?_))))
      rcases ite_some h with ⟨hb310, h⟩ | ⟨hb310, h⟩
      ·refine kx (gsF rfl hb310) (kx (gsF rfl hb310) (kx (pkT rfl hb310 rfl) (kx (mvO rfl) (kx (gsF rfl rfl) (kx (gsF rfl rfl) (kx (gsF rfl rfl) (kx (gsF rfl rfl) (kx (gsF rfl rfl) (kx (gsF rfl rfl) (kx (pkT rfl rfl rfl) (kx (mvO rfl) (kx (gsF rfl rfl) (kx (gsF rfl rfl) (kx (gsF rfl rfl) (kx (gsF rfl rfl) (kx (gsF rfl rfl) (kx (pkT rfl rfl rfl) (kx (mvO rfl) (kx (gsF rfl rfl) (kx (gsF rfl rfl) (kx (pkT rfl rfl rfl) (kx (mvO rfl) (kx (gsF rfl rfl) (kx (gsF rfl rfl) (kx (pkT rfl rfl rfl) (kx (mvO rfl) (kx (gsF rfl rfl) (kx (gsF rfl rfl) (kx (gsF rfl rfl) (kx (gsF rfl rfl) (kx (gsF rfl rfl) (kx (pkT rfl rfl rfl) (kx (mvO rfl) (kx (gsF rfl rfl) (kx (gsF rfl rfl) (kx (gsF rfl rfl) (kx (gsF rfl rfl) (kx (gsF rfl rfl) (kx (gsF rfl rfl) (kx (pkT rfl rfl rfl) (Rn (hA h300 (hA h301 (hA h302 (hA h303 (hA h305 (hA h308 (hV (.bool true) rfl hZ))))))) fun e311 h313 h314 h315 h316 h317 h318 h319 => ?_)))))))))))))))))))))))))))))))))))))))))
       clear h300 h301 h302 h303 h304 h305 h306 h307 h308 h309
       obtain rfl := si h
       exact kd (show laws_FnRolls_c1_Q a2 y175 r181 r183 r220 r222 (([] : Mem).length) M196.length M235.length M252.length _ _ from ⟨rfl, h313, h314, h315, h316, h317, h318, h319, o295, o294, o296, o297⟩)
      refine kx (guF rfl hb310 (mvO h304)) (kx (guF rfl hb310 (bNeq rfl rfl)) (kx (pkF rfl hb310 rfl) (kx (mvO rfl) ?_)))
      rcases ite_some h with ⟨hb320, h⟩ | ⟨hb320, h⟩
      ·refine kx (gsF rfl hb320) (kx (gsF rfl hb320) (kx (gsF rfl hb320) (kx (gsF rfl hb320) (kx (gsF rfl hb320) (kx (gsF rfl hb320) (kx (pkT rfl hb320 rfl) (kx (mvO rfl) (kx (gsF rfl rfl) (kx (gsF rfl rfl) (kx (gsF rfl rfl) (kx (gsF rfl rfl) (kx (gsF rfl rfl) (kx (pkT rfl rfl rfl) (kx (mvO rfl) (kx (gsF rfl rfl) (kx (gsF rfl rfl) (kx (pkT rfl rfl rfl) (kx (mvO rfl) (kx (gsF rfl rfl) (kx (gsF rfl rfl) (kx (pkT rfl rfl rfl) (kx (mvO rfl) (kx (gsF rfl rfl) (kx (gsF rfl rfl) (kx (gsF rfl rfl) (kx (gsF rfl rfl) (kx (gsF rfl rfl) (kx (pkT rfl rfl rfl) (kx (mvO rfl) (kx (gsF rfl rfl) (kx (gsF rfl rfl) (kx (gsF rfl rfl) (kx (gsF rfl rfl) (kx (gsF rfl rfl) (kx (gsF rfl rfl) (kx (pkT rfl rfl rfl) (Rn (hA h300 (hA h301 (hA h302 (hA h303 (hA h305 (hA h308 (hV (.bool true) rfl hZ))))))) fun e321 h323 h324 h325 h326 h327 h328 h329 => ?_)))))))))))))))))))))))))))))))))))))
       clear h300 h301 h302 h303 h304 h305 h306 h307 h308 h309
       obtain rfl := si h
       exact kd (show laws_FnRolls_c1_Q a2 y175 r181 r183 r220 r222 (([] : Mem).length) M196.length M235.length M252.length _ _ from ⟨rfl, h323, h324, h325, h326, h327, h328, h329, o295, o294, o296, o297⟩)
      refine kx (guF rfl hb320 (faO h303 o295 rfl)) (kx (guF rfl hb320 (ldO rfl o295 rfl rfl rfl)) (kx (guF rfl hb320 (lnS Tryd.underlying72 rfl)) (kx (guF rfl hb320 (mvO h302)) (kx (guF rfl hb320 (lnL Tryd.underlying72 rfl o294 (by simp [hl191, hl230]))) (kx (guF rfl hb320 (bNeq rfl rfl)) (kx (pkF rfl hb320 rfl) (kx (mvO rfl) ?_)))))))
      rcases ite_some h with ⟨hb330, h⟩ | ⟨hb330, h⟩
      ·refine kx (gsF rfl hb330) (kx (gsF rfl hb330) (kx (gsF rfl hb330) (kx (gsF rfl hb330) (kx (gsF rfl hb330) (kx (pkT rfl hb330 rfl) (kx (mvO rfl) (kx (gsF rfl rfl) (kx (gsF rfl rfl) (kx (pkT rfl rfl rfl) (kx (mvO rfl) (kx (gsF rfl rfl) (kx (gsF rfl rfl) (kx (pkT rfl rfl rfl) (kx (mvO rfl) (kx (gsF rfl rfl) (kx (gsF rfl rfl) (kx (gsF rfl rfl) (kx (gsF rfl rfl) (kx (gsF rfl rfl) (kx (pkT rfl rfl rfl) (kx (mvO rfl) (kx (gsF rfl rfl) (kx (gsF rfl rfl) (kx (gsF rfl rfl) (kx (gsF rfl rfl) (kx (gsF rfl rfl) (kx (gsF rfl rfl) (kx (pkT rfl rfl rfl) (Rn (hA h300 (hA h301 (hA h302 (hA h303 (hA h305 (hA h308 (hV (.bool true) rfl hZ))))))) fun e331 h333 h334 h335 h336 h337 h338 h339 => ?_)))))))))))))))))))))))))))))
       clear h300 h301 h302 h303 h304 h305 h306 h307 h308 h309
       obtain rfl := si h
       exact kd (show laws_FnRolls_c1_Q a2 y175 r181 r183 r220 r222 (([] : Mem).length) M196.length M235.length M252.length _ _ from ⟨rfl, h333, h334, h335, h336, h337, h338, h339, o295, o294, o296, o297⟩)
      refine kx (guF rfl hb330 (faO h303 o295 rfl)) (kx (guF rfl hb330 (ldO rfl o295 rfl rfl rfl)) (kx (guF rfl hb330 (faO h305 o296 rfl)) (kx (guF rfl hb330 (ldO rfl o296 rfl rfl rfl)) (kx (guF rfl hb330 (bNeq rfl rfl)) (kx (pkF rfl hb330 rfl) (kx (mvO rfl) ?_))))))
      rcases ite_some h with ⟨hb340, h⟩ | ⟨hb340, h⟩
      ·refine kx (gsF rfl hb340) (kx (gsF rfl hb340) (kx (pkT rfl hb340 rfl) (kx (mvO rfl) (kx (gsF rfl rfl) (kx (gsF rfl rfl) (kx (pkT rfl rfl rfl) (kx (mvO rfl) (kx (gsF rfl rfl) (kx (gsF rfl rfl) (kx (gsF rfl rfl) (kx (gsF rfl rfl) (kx (gsF rfl rfl) (kx (pkT rfl rfl rfl) (kx (mvO rfl) (kx (gsF rfl rfl) (kx (gsF rfl rfl) (kx (gsF rfl rfl) (kx (gsF rfl rfl) (kx (gsF rfl rfl) (kx (gsF rfl rfl) (kx (pkT rfl rfl rfl) (Rn (hA h300 (hA h301 (hA h302 (hA h303 (hA h305 (hA h308 (hV (.bool true) rfl hZ))))))) fun e341 h343 h344 h345 h346 h347 h348 h349 => ?_))))))))))))))))))))))
       clear h300 h301 h302 h303 h304 h305 h306 h307 h308 h309
       obtain rfl := si h
       exact kd (show laws_FnRolls_c1_Q a2 y175 r181 r183 r220 r222 (([] : Mem).length) M196.length M235.length M252.length _ _ from ⟨rfl, h343, h344, h345, h346, h347, h348, h349, o295, o294, o296, o297⟩)
      refine kx (guF rfl hb340 (mvO h307)) (kx (guF rfl hb340 (bNeq rfl rfl)) (kx (pkF rfl hb340 rfl) (kx (mvO rfl) ?_)))
      rcases ite_some h with ⟨hb350, h⟩ | ⟨hb350, h⟩
      ·refine kx (gsF rfl hb350) (kx (gsF rfl hb350) (kx (pkT rfl hb350 rfl) (kx (mvO rfl) (kx (gsF rfl rfl) (kx (gsF rfl rfl) (kx (gsF rfl rfl) (kx (gsF rfl rfl) (kx (gsF rfl rfl) (kx (pkT rfl rfl rfl) (kx (mvO rfl) (kx (gsF rfl rfl) (kx (gsF rfl rfl) (kx (gsF rfl rfl) (kx (gsF rfl rfl) (kx (gsF rfl rfl) (kx (gsF rfl rfl) (kx (pkT rfl rfl rfl) (Rn (hA h300 (hA h301 (hA h302 (hA h303 (hA h305 (hA h308 (hV (.bool true) rfl hZ))))))) fun e351 h353 h354 h355 h356 h357 h358 h359 => ?_))))))))))))))))))
       clear h300 h301 h302 h303 h304 h305 h306 h307 h308 h309
       obtain rfl := si h
       exact kd (show laws_FnRolls_c1_Q a2 y175 r181 r183 r220 r222 (([] : Mem).length) M196.length M235.length M252.length _ _ from ⟨rfl, h353, h354, h355, h356, h357, h358, h359, o295, o294, o296, o297⟩)
      refine kx (guF rfl hb350 (mvO h309)) (kx (guF rfl hb350 (bNeq rfl rfl)) (kx (pkF rfl hb350 rfl) (kx (mvO rfl) (kx (gsF rfl rfl) (kx (gsF rfl rfl) (kx (gsF rfl rfl) (kx (gsF rfl rfl) (kx (gsF rfl rfl) (kx (pkT rfl rfl rfl) (kx (mvO rfl) (kx (gsF rfl rfl) (kx (gsF rfl rfl) (kx (gsF rfl rfl) (kx (gsF rfl rfl) (kx (gsF rfl rfl) (kx (gsF rfl rfl) (kx (pkT rfl rfl rfl) (Rn (hA h300 (hA h301 (hA h302 (hA h303 (hA h305 (hA h308 (hV (.bool true) rfl hZ))))))) fun e360 h362 h363 h364 h365 h366 h367 h368 => ?_))))))))))))))))))
      clear h300 h301 h302 h303 h304 h305 h306 h307 h308 h309
      obtain rfl := si h
      exact kd (show laws_FnRolls_c1_Q a2 y175 r181 r183 r220 r222 (([] : Mem).length) M196.length M235.length M252.length _ _ from ⟨rfl, h362, h363, h364, h365, h366, h367, h368, o295, o294, o296, o297⟩)) ?_
  intro x e369 M370 hq385
  obtain ⟨rfl, h371, h372, h373, h374, h375, h376, h377, o378, o379, o380, o381⟩ := hq385
  refine sN (cT h377 rfl (sq (Rg (kx (mvO rfl) (Rn (hV (.bool false) rfl hZ) fun e382 h384 => sN (xx (sR ?_)))))))
  clear h371 h372 h373 h374 h375 h376 h377
  obtain rfl := si h
  exact eR (resT h384 res0) rfl
 refine kc (cl (v := .tup [.agg [.sl none (r388.map Account.c), .int .i64 r389], .int .i64 0]) rfl rfl (cns rfl rfl) rfl (impl_ReadRoll_ok r280 _ hx281) nm) (kx (mvO rfl) (kx (exT rfl rfl) (kx (exT rfl rfl) (ku (alO zero74) fun M391 hM392 => ?_))))
 have o393 := push_old hM392 o254
 have ne394 := ne_new o254
 have o395 := push_old hM392 o255
 have ne396 := ne_new o255
 have o397 := push_old hM392 o256
 have ne398 := ne_new o256
 have o399 : M391[M252.length]? = some (.live ⟨.box, 74, 2, [[.nils, .int .i64 0]]⟩) := push_new hM392
 refine kw (stO rfl rfl o399 rfl rfl ⟨rfl, ble rfl⟩ rfl rfl) fun M400 hM401 => ?_
 have o402 := set_ne hM401 ne394 o393
 have o403 := set_ne hM401 ne396 o395
 have o404 := set_ne hM401 ne398 o397
 have o405 : M400[M252.length]? = some (.live ⟨.box, 74, 2, [[.sl none (r388.map Account.c), .int .i64 r389]]⟩) := set_same hM401 o399
 obtain ⟨r1071, hr1072, h⟩ := bind_some h
 refine kx (mvO rfl) (Rn (hA h271 (hA h272 (hA h273 (hA h274 (hA h275 (hA h276 (hA h277 (hA h278 (hV (.loc M252.length 1 0 0) rfl (hV (.int .i64 0) rfl hZ)))))))))) fun e406 h408 h409 h410 h411 h412 h413 h414 h415 h416 h417 => sN (sq (sq ?_)))
 clear h271 h272 h273 h274 h275 h276 h277 h278
 refine Ev.cut (Q1 := laws_FnRolls_c2_Q a2 y175 r181 r183 r220 r222 r388 r389 (([] : Mem).length) M196.length M235.length M252.length r1071) (by
     have h := hr1072
     refine Rg (kx (mvO h412) (kx (mvO h414) (kx (bNeq rfl rfl) (kx (mvO rfl) ?_))))
     rcases ite_some h with ⟨hb418, h⟩ | ⟨hb418, h⟩
     ·refine kx (gsF rfl hb418) (kx (gsF rfl hb418) (kx (pkT rfl hb418 rfl) (kx (mvO rfl) (kx (gsF rfl rfl) (kx (gsF rfl rfl) (kx (gsF rfl rfl) (kx (gsF rfl rfl) (kx (gsF rfl rfl) (kx (gsF rfl rfl) (kx (pkT rfl rfl rfl) (kx (mvO rfl) (kx (gsF rfl rfl) (kx (gsF rfl rfl) (kx (gsF rfl rfl) (kx (gsF rfl rfl) (kx (gsF rfl rfl) (kx (pkT rfl rfl rfl) (kx (mvO rfl) (kx (gsF rfl rfl) (kx (gsF rfl rfl) (kx (pkT rfl rfl rfl) (kx (mvO rfl) (kx (gsF rfl rfl) (kx (gsF rfl rfl) (kx (pkT rfl rfl rfl) (kx (mvO rfl) (kx (gsF rfl rfl) (kx (gsF rfl rfl) (kx (gsF rfl rfl) (kx (gsF rfl rfl) (kx (gsF rfl rfl) (kx (pkT rfl rfl rfl) (kx (mvO rfl) (kx (gsF rfl rfl) (kx (gsF rfl rfl) (kx (gsF rfl rfl) (kx (gsF rfl rfl) (kx (gsF rfl rfl) (kx (gsF rfl rfl) (kx (pkT rfl rfl rfl) (Rn (hA h408 (hA h409 (hA h410 (hA h411 (hA h413 (hA h416 (hV (.bool true) rfl hZ))))))) fun e419 h421 h422 h423 h424 h425 h426 h427 => ?_)))))))))))))))))))))))))))))))))))))))))
      clear h408 h409 h410 h411 h412 h413 h414 h415 h416 h417
      obtain rfl := si h
      exact kd (show laws_FnRolls_c2_Q a2 y175 r181 r183 r220 r222 r388 r389 (([] : Mem).length) M196.length M235.length M252.length _ _ from ⟨rfl, h421, h422, h423, h424, h425, h426, h427, o403, o402, o404, o405⟩)
     refine kx (guF rfl hb418 (mvO h412)) (kx (guF rfl hb418 (bNeq rfl rfl)) (kx (pkF rfl hb418 rfl) (kx (mvO rfl) ?_)))
     rcases ite_some h with ⟨hb428, h⟩ | ⟨hb428, h⟩
     ·refine kx (gsF rfl hb428) (kx (gsF rfl hb428) (kx (gsF rfl hb428) (kx (gsF rfl hb428) (kx (gsF rfl hb428) (kx (gsF rfl hb428) (kx (pkT rfl hb428 rfl) (kx (mvO rfl) (kx (gsF rfl rfl) (kx (gsF rfl rfl) (kx (gsF rfl rfl) (kx (gsF rfl rfl) (kx (gsF rfl rfl) (kx (pkT rfl rfl rfl) (kx (mvO rfl) (kx (gsF rfl rfl) (kx (gsF rfl rfl) (kx (pkT rfl rfl rfl) (kx (mvO rfl) (kx (gsF rfl rfl) (kx (gsF rfl rfl) (kx (pkT rfl rfl rfl) (kx (mvO rfl) (kx (gsF rfl rfl) (kx (gsF rfl rfl) (kx (gsF rfl rfl) (kx (gsF rfl rfl) (kx (gsF rfl rfl) (kx (pkT rfl rfl rfl) (kx (mvO rfl) (kx (gsF rfl rfl) (kx (gsF rfl rfl) (kx (gsF rfl rfl) (kx (gsF rfl rfl) (kx (gsF rfl rfl) (kx (gsF rfl rfl) (kx (pkT rfl rfl rfl) (Rn (hA h408 (hA h409 (hA h410 (hA h411 (hA h413 (hA h416 (hV (.bool true) rfl hZ))))))) fun e429 h431 h432 h433 h434 h435 h436 h437 => ?_)))))))))))))))))))))))))))))))))))))
      clear h408 h409 h410 h411 h412 h413 h414 h415 h416 h417
      obtain rfl := si h
      exact kd (show laws_FnRolls_c2_Q a2 y175 r181 r183 r220 r222 r388 r389 (([] : Mem).length) M196.length M235.length M252.length _ _ from ⟨rfl, h431, h432, h433, h434, h435, h436, h437, o403, o402, o404, o405⟩)
     refine kx (guF rfl hb428 (faO h411 o403 rfl)) (kx (guF rfl hb428 (ldO rfl o403 rfl rfl rfl)) (kx (guF rfl hb428 (lnS Tryd.underlying72 rfl)) (kx (guF rfl hb428 (mvO h410)) (kx (guF rfl hb428 (lnL Tryd.underlying72 rfl o402 (by simp [hl191, hl230]))) (kx (guF rfl hb428 (bNeq rfl rfl)) (kx (pkF rfl hb428 rfl) (kx (mvO rfl) ?_)))))))
     rcases ite_some h with ⟨hb438, h⟩ | ⟨hb438, h⟩
     ·refine kx (gsF rfl hb438) (kx (gsF rfl hb438) (kx (gsF rfl hb438) (kx (gsF rfl hb438) (kx (gsF rfl hb438) (kx (pkT rfl hb438 rfl) (kx (mvO rfl) (kx (gsF rfl rfl) (kx (gsF rfl rfl) (kx (pkT rfl rfl rfl) (kx (mvO rfl) (kx (gsF rfl rfl) (kx (gsF rfl rfl) (kx (pkT rfl rfl rfl) (kx (mvO rfl) (kx (gsF rfl rfl) (kx (gsF rfl rfl) (kx (gsF rfl rfl) (kx (gsF rfl rfl) (kx (gsF rfl rfl) (kx (pkT rfl rfl rfl) (kx (mvO rfl) (kx (gsF rfl rfl) (kx (gsF rfl rfl) (kx (gsF rfl rfl) (kx (gsF rfl rfl) (kx (gsF rfl rfl) (kx (gsF rfl rfl) (kx (pkT rfl rfl rfl) (Rn (hA h408 (hA h409 (hA h410 (hA h411 (hA h413 (hA h416 (hV (.bool true) rfl hZ))))))) fun e439 h441 h442 h443 h444 h445 h446 h447 => ?_)))))))))))))))))))))))))))))
      clear h408 h409 h410 h411 h412 h413 h414 h415 h416 h417
      obtain rfl := si h
      exact kd (show laws_FnRolls_c2_Q a2 y175 r181 r183 r220 r222 r388 r389 (([] : Mem).length) M196.length M235.length M252.length _ _ from ⟨rfl, h441, h442, h443, h444, h445, h446, h447, o403, o402, o404, o405⟩)
     refine kx (guF rfl hb438 (faO h411 o403 rfl)) (kx (guF rfl hb438 (ldO rfl o403 rfl rfl rfl)) (kx (guF rfl hb438 (faO h413 o404 rfl)) (kx (guF rfl hb438 (ldO rfl o404 rfl rfl rfl)) (kx (guF rfl hb438 (bNeq rfl rfl)) (kx (pkF rfl hb438 rfl) (kx (mvO rfl) ?_))))))
     rcases ite_some h with ⟨hb448, h⟩ | ⟨hb448, h⟩
     ·refine kx (gsF rfl hb448) (kx (gsF rfl hb448) (kx (pkT rfl hb448 rfl) (kx (mvO rfl) (kx (gsF rfl rfl) (kx (gsF rfl rfl) (kx (pkT rfl rfl rfl) (kx (mvO rfl) (kx (gsF rfl rfl) (kx (gsF rfl rfl) (kx (gsF rfl rfl) (kx (gsF rfl rfl) (kx (gsF rfl rfl) (kx (pkT rfl rfl rfl) (kx (mvO rfl) (kx (gsF rfl rfl) (kx (gsF rfl rfl) (kx (gsF rfl rfl) (kx (gsF rfl rfl) (kx (gsF rfl rfl) (kx (gsF rfl rfl) (kx (pkT rfl rfl rfl) (Rn (hA h408 (hA h409 (hA h410 (hA h411 (hA h413 (hA h416 (hV (.bool true) rfl hZ))))))) fun e449 h451 h452 h453 h454 h455 h456 h457 => ?_))))))))))))))))))))))
      clear h408 h409 h410 h411 h412 h413 h414 h415 h416 h417
      obtain rfl := si h
      exact kd (show laws_FnRolls_c2_Q a2 y175 r181 r183 r220 r222 r388 r389 (([] : Mem).length) M196.length M235.length M252.length _ _ from ⟨rfl, h451, h452, h453, h454, h455, h456, h457, o403, o402, o404, o405⟩)
     refine kx (guF rfl hb448 (mvO h415)) (kx (guF rfl hb448 (bNeq rfl rfl)) (kx (pkF rfl hb448 rfl) (kx (mvO rfl) ?_)))
     rcases ite_some h with ⟨hb458, h⟩ | ⟨hb458, h⟩
     ·refine kx (gsF rfl hb458) (kx (gsF rfl hb458) (kx (pkT rfl hb458 rfl) (kx (mvO rfl) (kx (gsF rfl rfl) (kx (gsF rfl rfl) (kx (gsF rfl rfl) (kx (gsF rfl rfl) (kx (gsF rfl rfl) (kx (pkT rfl rfl rfl) (kx (mvO rfl) (kx (gsF rfl rfl) (kx (gsF rfl rfl) (kx (gsF rfl rfl) (kx (gsF rfl rfl) (kx (gsF rfl rfl) (kx (gsF rfl rfl) (kx (pkT rfl rfl rfl) (Rn (hA h408 (hA h409 (hA h410 (hA h411 (hA h413 (hA h416 (hV (.bool true) rfl hZ))))))) fun e459 h461 h462 h463 h464 h465 h466 h467 => ?_))))))))))))))))))
      clear h408 h409 h410 h411 h412 h413 h414 h415 h416 h417
      obtain rfl := si h
      exact kd (show laws_FnRolls_c2_Q a2 y175 r181 r183 r220 r222 r388 r389 (([] : Mem).length) M196.length M235.length M252.length _ _ from ⟨rfl, h461, h462, h463, h464, h465, h466, h467, o403, o402, o404, o405⟩)
     refine kx (guF rfl hb458 (mvO h417)) (kx (guF rfl hb458 (bNeq rfl rfl)) (kx (pkF rfl hb458 rfl) (kx (mvO rfl) (kx (guF rfl rfl (faO h416 o405 rfl)) (kx (guF rfl rfl (ldO rfl o405 rfl rfl rfl)) (kx (guF rfl rfl (faO h413 o404 rfl)) (kx (guF rfl rfl (ldO rfl o404 rfl rfl rfl)) (kx (guF rfl rfl (bNeq rfl rfl)) (kx (pkF rfl rfl rfl) (kx (mvO rfl) ?_))))))))))
     rcases ite_some h with ⟨hb468, h⟩ | ⟨hb468, h⟩
     ·refine kx (gsF rfl hb468) (kx (gsF rfl hb468) (kx (gsF rfl hb468) (kx (gsF rfl hb468) (kx (gsF rfl hb468) (kx (gsF rfl hb468) (kx (pkT rfl hb468 rfl) (Rn (hA h408 (hA h409 (hA h410 (hA h411 (hA h413 (hA h416 (hV (.bool true) rfl hZ))))))) fun e469 h471 h472 h473 h474 h475 h476 h477 => ?_)))))))
      clear h408 h409 h410 h411 h412 h413 h414 h415 h416 h417
      obtain rfl := si h
      exact kd (show laws_FnRolls_c2_Q a2 y175 r181 r183 r220 r222 r388 r389 (([] : Mem).length) M196.length M235.length M252.length _ _ from ⟨rfl, h471, h472, h473, h474, h475, h476, h477, o403, o402, o404, o405⟩)
     refine kx (guF rfl hb468 (faO h416 o405 rfl)) (kx (guF rfl hb468 (ldO rfl o405 rfl rfl rfl)) (kx (guF rfl hb468 (lnS Tryd.underlying72 rfl)) (kx (guF rfl hb468 (mvO h410)) (kx (guF rfl hb468 (lnL Tryd.underlying72 rfl o402 (by simp [hl191, hl230]))) (kx (guF rfl hb468 (bNeq rfl rfl)) (kx (pkF rfl hb468 rfl) (Rn (hA h408 (hA h409 (hA h410 (hA h411 (hA h413 (hA h416 (hN rfl hZ))))))) fun e478 h480 h481 h482 h483 h484 h485 h486 => ?_)))))))
     clear h408 h409 h410 h411 h412 h413 h414 h415 h416 h417
     obtain rfl := si h
     exact kd (show laws_FnRolls_c2_Q a2 y175 r181 r183 r220 r222 r388 r389 (([] : Mem).length) M196.length M235.length M252.length _ _ from ⟨rfl, h480, h481, h482, h483, h484, h485, h486, o403, o402, o404, o405⟩)) ?_
 revert h hr1072
 revert r1071
 intro y489 hr1072 h
 intro x e487 M488 hq1070
 obtain ⟨rfl, h490, h491, h492, h493, h494, h495, h496, o497, o498, o499, o500⟩ := hq1070
 refine sN ?_
 rcases ite_some h with ⟨hb501, h⟩ | ⟨hb501, h⟩
 ·refine cT h496 hb501 (sq (Rg (kx (mvO rfl) (Rn (hV (.bool false) rfl hZ) fun e502 h504 => sN (xx (sR ?_))))))
  clear h490 h491 h492 h493 h494 h495 h496
  obtain rfl := si h
  exact eR (resT h504 res0) rfl
 obtain ⟨r738, hr739, h⟩ := bind_some h
 refine cF h496 hb501 (xx (sN (sq (Rg (kx (mvO rfl) (Rn (hV (.sl none (a2.map (cI .u8))) h490 (hV (.lit 9 ([([107, 101, 110, 116] : List UInt8), ([101, 115, 115, 101, 120] : List UInt8), ([121, 111, 114, 107] : List UInt8)].map cS)) h491 (hV (.lsl ([] : Mem).length y175.length 0 y175.length) h492 (hV (.loc M196.length 1 0 0) h493 (hV (.loc M235.length 1 0 0) h494 (hV (.loc M252.length 1 0 0) h495 (hV (.int .i64 0) rfl hZ))))))) fun e505 h507 h508 h509 h510 h511 h512 h513 => sN (sq (Rg (kx (mvO rfl) (Rn (hA h507 (hA h508 (hA h509 (hA h510 (hA h511 (hA h512 (hA h513 (hV (.int .i64 0) rfl hZ)))))))) fun e514 h516 h517 h518 h519 h520 h521 h522 h523 => sN (sq (sq (Rg (kx (mvO rfl) (Rn (hA h516 (hA h517 (hA h518 (hA h519 (hA h520 (hA h521 (hA h522 (hA h523 (hV (.int .i64 0) rfl hZ))))))))) fun e524 h526 h527 h528 h529 h530 h531 h532 h533 h534 => sN (bl ?_))))))))))))))))
 clear h490 h491 h492 h493 h494 h495 h496 h507 h508 h509 h510 h511 h512 h513 h516 h517 h518 h519 h520 h521 h522 h523
 rcases r738 with _ | ⟨y746, y747⟩
 ·refine Ev.loop (RS := laws_FnRolls_b2_RS a2 y175 r181 r183 r220 r222 r388 r389 (([] : Mem).length) M196.length M235.length M252.length) (RR := laws_FnRolls_b2_RR a2 y175 r181 r183 r220 r222 r388 r389 (([] : Mem).length) M196.length M235.length M252.length) (fun s r h e M hs => laws_FnRolls_b2_ok a2 y175 r181 r183 r220 r222 r388 r389 (([] : Mem).length) M196.length M235.length M252.length ne250 ne396 ne206 ne248 ne394 ne398 s r h e M hs) hr739 ⟨h526, h527, h528, h529, h530, h531, h532, h533, h534, o497, o498, o499, o500⟩ fun x e741 M742 hq740 => ?_
  obtain ⟨rfl, h743⟩ := hq740
  refine bR (sR ?_)
  obtain rfl := si h
  exact eR (resT h743 res0) rfl
 refine Ev.loop (RS := laws_FnRolls_b2_RS a2 y175 r181 r183 r220 r222 r388 r389 (([] : Mem).length) M196.length M235.length M252.length) (RR := laws_FnRolls_b2_RR a2 y175 r181 r183 r220 r222 r388 r389 (([] : Mem).length) M196.length M235.length M252.length) (fun s r h e M hs => laws_FnRolls_b2_ok a2 y175 r181 r183 r220 r222 r388 r389 (([] : Mem).length) M196.length M235.length M252.length ne250 ne396 ne206 ne248 ne394 ne398 s r h e M hs) hr739 ⟨h526, h527, h528, h529, h530, h531, h532, h533, h534, o497, o498, o499, o500⟩ fun x e744 M745 hq740 => ?_
 obtain ⟨rfl, h748, h749, h750, h751, h752, o753, o754, o755, o756⟩ := hq740
 obtain ⟨⟨r758, r759⟩, hx757, h⟩ := bind_some h
 obtain ⟨⟨r770, r771⟩, hx769, h⟩ := bind_some h
 obtain ⟨r1068, hr1069, h⟩ := bind_some h
 refine bE (sN (sq (Rg (kx (ldOA h750 o755 rfl rfl (ble rfl) rfl) (kc (cl (v := .tup [.int .i64 r758, .int .i64 r759]) rfl rfl (cns rfl rfl) rfl (impl_WorstDebtor_ok (Roll.mk r222 r220) _ hx757) nm) (kx (mvO rfl) (kx (exT rfl rfl) (kx (exT rfl rfl) (kx (mvO rfl) (kx (mvO rfl) (Rn (hV (.sl none (a2.map (cI .u8))) h748 (hV (.lsl ([] : Mem).length y175.length 0 y175.length) h749 (hV (.loc M235.length 1 0 0) h750 (hV (.int .i64 y746) h751 (hV (.int .i64 y747) h752 (hN rfl (hN rfl hZ))))))) fun e760 h762 h763 h764 h765 h766 h767 h768 => sN (sq (Rg (kx (ldOA h764 o755 rfl rfl (ble rfl) rfl) (kc (cl (v := .tup [.int .i64 r770, .int .i64 r771]) rfl rfl (cns rfl rfl) rfl (spec_WorstDebtor_ok (Roll.mk r222 r220) _ hx769) nm) (kx (mvO rfl) (kx (exT rfl rfl) (kx (exT rfl rfl) (kx (mvO rfl) (kx (mvO rfl) (Rn (hA h762 (hA h763 (hA h764 (hA h765 (hA h766 (hA h767 (hA h768 (hN rfl (hN rfl hZ))))))))) fun e772 h774 h775 h776 h777 h778 h779 h780 h781 h782 => sN (sq ?_))))))))))))))))))))))
 clear h748 h749 h750 h751 h752 h762 h763 h764 h765 h766 h767 h768
 refine Ev.cut (Q1 := laws_FnRolls_c5_Q a2 y175 r220 r222 (([] : Mem).length) M235.length r1068) (by
     have h := hr1069
     refine sq (Rg (kx (faO h776 o755 rfl) (kx (ldO rfl o755 rfl rfl rfl) (kx (mvO h777) (kx (bNeq rfl rfl) (kx (mvO rfl) ?_))))))
     rcases ite_some h with ⟨hb783, h⟩ | ⟨hb783, h⟩
     ·refine kx (gsF rfl hb783) (kx (gsF rfl hb783) (kx (gsF rfl hb783) (kx (pkT rfl hb783 rfl) (kx (mvO rfl) (kx (gsF rfl rfl) (kx (gsF rfl rfl) (kx (gsF rfl rfl) (kx (pkT rfl rfl rfl) (kx (mvO rfl) (kx (gsF rfl rfl) (kx (gsF rfl rfl) (kx (gsF rfl rfl) (kx (gsF rfl rfl) (kx (gsF rfl rfl) (kx (pkT rfl rfl rfl) (kx (mvO rfl) (kx (gsF rfl rfl) (kx (gsF rfl rfl) (kx (gsF rfl rfl) (kx (gsU rfl) (kx (gsU rfl) (kx (gsU rfl) (kx (gsU rfl) (kx (gsU rfl) (kx (gsU rfl) (kx (gsU rfl) (kx (gsU rfl) (kx (gsF rfl rfl) (kx (pkT rfl rfl rfl) (Rn (hA h774 (hA h775 (hA h776 (hV (.bool true) rfl hZ)))) fun e784 h786 h787 h788 h789 => sN (cT h789 rfl (sq (Rg (kx (mvO rfl) (Rn (hV (.bool false) rfl hZ) fun e790 h792 => sN (xx ?_))))))))))))))))))))))))))))))))))))
      clear h774 h775 h776 h777 h778 h779 h780 h781 h782 h786 h787 h788 h789
      obtain rfl := si h
      exact kd (show laws_FnRolls_c5_Q a2 y175 r220 r222 (([] : Mem).length) M235.length _ _ from ⟨rfl, h792⟩)
     refine kx (guF rfl hb783 (mvO h780)) (kx (guF rfl hb783 (mvO h782)) (kx (guF rfl hb783 (bNeq rfl rfl)) (kx (pkF rfl hb783 rfl) (kx (mvO rfl) ?_))))
     rcases ite_some h with ⟨hb793, h⟩ | ⟨hb793, h⟩
     ·refine kx (gsF rfl hb793) (kx (gsF rfl hb793) (kx (gsF rfl hb793) (kx (pkT rfl hb793 rfl) (kx (mvO rfl) (kx (gsF rfl rfl) (kx (gsF rfl rfl) (kx (gsF rfl rfl) (kx (gsF rfl rfl) (kx (gsF rfl rfl) (kx (pkT rfl rfl rfl) (kx (mvO rfl) (kx (gsF rfl rfl) (kx (gsF rfl rfl) (kx (gsF rfl rfl) (kx (gsU rfl) (kx (gsU rfl) (kx (gsU rfl) (kx (gsU rfl) (kx (gsU rfl) (kx (gsU rfl) (kx (gsU rfl) (kx (gsU rfl) (kx (gsF rfl rfl) (kx (pkT rfl rfl rfl) (Rn (hA h774 (hA h775 (hA h776 (hV (.bool true) rfl hZ)))) fun e794 h796 h797 h798 h799 => sN (cT h799 rfl (sq (Rg (kx (mvO rfl) (Rn (hV (.bool false) rfl hZ) fun e800 h802 => sN (xx ?_)))))))))))))))))))))))))))))))
      clear h774 h775 h776 h777 h778 h779 h780 h781 h782 h796 h797 h798 h799
      obtain rfl := si h
      exact kd (show laws_FnRolls_c5_Q a2 y175 r220 r222 (([] : Mem).length) M235.length _ _ from ⟨rfl, h802⟩)
     refine kx (guF rfl hb793 (mvO h779)) (kx (guF rfl hb793 (mvO h781)) (kx (guF rfl hb793 (bNeq rfl rfl)) (kx (pkF rfl hb793 rfl) (kx (mvO rfl) ?_))))
     rcases ite_some h with ⟨hb803, h⟩ | ⟨hb803, h⟩
     ·refine kx (gsF rfl hb803) (kx (gsF rfl hb803) (kx (gsF rfl hb803) (kx (gsF rfl hb803) (kx (gsF rfl hb803) (kx (pkT rfl hb803 rfl) (kx (mvO rfl) (kx (gsF rfl rfl) (kx (gsF rfl rfl) (kx (gsF rfl rfl) (kx (gsU rfl) (kx (gsU rfl) (kx (gsU rfl) (kx (gsU rfl) (kx (gsU rfl) (kx (gsU rfl) (kx (gsU rfl) (kx (gsU rfl) (kx (gsF rfl rfl) (kx (pkT rfl rfl rfl) (Rn (hA h774 (hA h775 (hA h776 (hV (.bool true) rfl hZ)))) fun e804 h806 h807 h808 h809 => sN (cT h809 rfl (sq (Rg (kx (mvO rfl) (Rn (hV (.bool false) rfl hZ) fun e810 h812 => sN (xx ?_))))))))))))))))))))))))))
      clear h774 h775 h776 h777 h778 h779 h780 h781 h782 h806 h807 h808 h809
      obtain rfl := si h
      exact kd (show laws_FnRolls_c5_Q a2 y175 r220 r222 (([] : Mem).length) M235.length _ _ from ⟨rfl, h812⟩)
     refine kx (guF rfl hb803 (mvO h780)) (kx (guF rfl hb803 (bEql rfl rfl)) (kx (guF rfl hb803 (mvO h778)) (kx (guF rfl hb803 (bGtr rfl rfl)) (kx (guF rfl hb803 (oNeq (by kernel_rfl) rfl rfl)) (kx (pkF rfl hb803 rfl) (kx (mvO rfl) ?_))))))
     rcases ite_some h with ⟨hb813, h⟩ | ⟨hb813, h⟩
     ·refine kx (guF rfl (congrArg Bool.not hb813) (mvO h780)) (kx (guF rfl (congrArg Bool.not hb813) (bEql rfl rfl)) (kx (guF rfl (congrArg Bool.not hb813) (mvO rfl)) ?_))
      rcases ite_some h with ⟨hb814, h⟩ | ⟨hb814, h⟩
      ·obtain ⟨x815, hx816, h⟩ := bind_some h
       refine kx (guT rfl hb814 (faO h776 o755 rfl)) (kx (guT rfl hb814 (ldO rfl o755 rfl rfl rfl)) (kx (guT rfl hb814 (mvO h781)) (kx (guT rfl hb814 (ixS rfl rfl hx816 Account.fl)) (kx (guT rfl hb814 (faP rfl ⟨ble rfl, blt rfl⟩ rfl)) (kx (guT rfl hb814 (ldP rfl rfl)) (kx (guT rfl hb814 (mvO h778)) (kx (guT rfl hb814 (bNeq rfl rfl)) (kx (guF rfl (congrArg Bool.not hb813) (pkT rfl hb814 rfl)) (kx (pkF rfl (congrArg Bool.not hb813) rfl) (Rn (hA h774 (hA h775 (hA h776 (hN rfl hZ)))) fun e817 h819 h820 h821 h822 => sN ?_))))))))))
       clear h774 h775 h776 h777 h778 h779 h780 h781 h782
       rcases ite_some h with ⟨hb823, h⟩ | ⟨hb823, h⟩
       ·refine cT h822 hb823 (sq (Rg (kx (mvO rfl) (Rn (hV (.bool false) rfl hZ) fun e824 h826 => sN (xx ?_)))))
        clear h819 h820 h821 h822
        obtain rfl := si h
        exact kd (show laws_FnRolls_c5_Q a2 y175 r220 r222 (([] : Mem).length) M235.length _ _ from ⟨rfl, h826⟩)
       refine cF h822 hb823 (xx ?_)
       obtain rfl := si h
       exact kd (show laws_FnRolls_c5_Q a2 y175 r220 r222 (([] : Mem).length) M235.length _ _ from ⟨rfl, h819, h820, h821, h822, o754, o755⟩)
      refine kx (gsT rfl hb814) (kx (gsT rfl hb814) (kx (gsT rfl hb814) (kx (gsT rfl hb814) (kx (gsT rfl hb814) (kx (gsT rfl hb814) (kx (gsT rfl hb814) (kx (gsT rfl hb814) (kx (guF rfl (congrArg Bool.not hb813) (pkF rfl hb814 rfl)) (kx (pkF rfl (congrArg Bool.not hb813) rfl) (Rn (hA h774 (hA h775 (hA h776 (hV (.bool false) rfl hZ)))) fun e827 h829 h830 h831 h832 => sN (cF h832 rfl (xx ?_))))))))))))
      clear h774 h775 h776 h777 h778 h779 h780 h781 h782
      obtain rfl := si h
      exact kd (show laws_FnRolls_c5_Q a2 y175 r220 r222 (([] : Mem).length) M235.length _ _ from ⟨rfl, h829, h830, h831, h832, o754, o755⟩)
     refine kx (gsF rfl (congrArg Bool.not hb813)) (kx (gsF rfl (congrArg Bool.not hb813)) (kx (gsF rfl (congrArg Bool.not hb813)) (kx (gsU rfl) (kx (gsU rfl) (kx (gsU rfl) (kx (gsU rfl) (kx (gsU rfl) (kx (gsU rfl) (kx (gsU rfl) (kx (gsU rfl) (kx (gsF rfl (congrArg Bool.not hb813)) (kx (pkT rfl (congrArg Bool.not hb813) rfl) (Rn (hA h774 (hA h775 (hA h776 (hV (.bool true) rfl hZ)))) fun e833 h835 h836 h837 h838 => sN (cT h838 rfl (sq (Rg (kx (mvO rfl) (Rn (hV (.bool false) rfl hZ) fun e839 h841 => sN (xx ?_)))))))))))))))))))
     clear h774 h775 h776 h777 h778 h779 h780 h781 h782 h835 h836 h837 h838
     obtain rfl := si h
     exact kd (show laws_FnRolls_c5_Q a2 y175 r220 r222 (([] : Mem).length) M235.length _ _ from ⟨rfl, h841⟩)) ?_
 rcases r1068 with _ | y848
 ·intro x e842 M843 hq845
  obtain ⟨rfl, h844⟩ := hq845
  refine sR ?_
  obtain rfl := si h
  exact eR (resT h844 res0) rfl
 intro x e846 M847 hq1067
 obtain ⟨rfl, h849, h850, h851, h852, o853, o854⟩ := hq1067
 refine sN (sq (Rg (kx (faO h851 o854 rfl) (kx (ldO rfl o854 rfl rfl rfl) (kx (faO h851 o854 rfl) (kx (ldO rfl o854 rfl rfl rfl) (kx (bAdd rfl rfl) (kx (bldT zero74 (cns (pr3 rfl) (cns (pr3 rfl) rfl)) (fill1 ⟨rfl, ble rfl⟩ rfl rfl (fill1 ⟨rfl, ble rfl⟩ rfl rfl (fill0 rfl)))) (ku (alO zero74) fun M856 hM857 => ?_)))))))))
 have o858 := push_old hM857 o853
 have ne859 := ne_new o853
 have o860 := push_old hM857 o854
 have ne861 := ne_new o854
 have o862 : M856[M847.length]? = some (.live ⟨.box, 74, 2, [[.nils, .int .i64 0]]⟩) := push_new hM857
 refine kw (stO rfl rfl o862 rfl rfl ⟨rfl, ble rfl⟩ rfl rfl) fun M863 hM864 => ?_
 have o865 := set_ne hM864 ne859 o858
 have o866 := set_ne hM864 ne861 o860
 have o867 : M863[M847.length]? = some (.live ⟨.box, 74, 2, [[.sl none (r222.map Account.c), .int .i64 (IntKind.i64.wrap (r220 + 1))]]⟩) := set_same hM864 o862
 obtain ⟨⟨r875, r876⟩, hx874, h⟩ := bind_some h
 obtain ⟨r1065, hr1066, h⟩ := bind_some h
 refine Rn (hV (.sl none (a2.map (cI .u8))) h849 (hV (.lsl ([] : Mem).length y175.length 0 y175.length) h850 (hV (.loc M235.length 1 0 0) h851 (hV (.loc M847.length 1 0 0) rfl hZ)))) fun e868 h870 h871 h872 h873 => sN (sq (Rg (kx (ldOA h873 o867 rfl rfl (ble rfl) rfl) (kc (cl (v := .tup [.int .i64 r875, .int .i64 r876]) rfl rfl (cns rfl rfl) rfl (impl_FirstFault_ok (Roll.mk r222 (IntKind.i64.wrap (r220 + 1))) _ hx874) nm) (kx (mvO rfl) (kx (exT rfl rfl) (kx (exT rfl rfl) (kx (mvO rfl) (kx (mvO rfl) (Rn (hA h870 (hA h871 (hA h872 (hN rfl (hN rfl hZ))))) fun e877 h879 h880 h881 h882 h883 => sN (sq (sq ?_))))))))))))
 clear h849 h850 h851 h852 h870 h871 h872 h873
 refine Ev.cut (Q1 := laws_FnRolls_c6_Q a2 y175 r220 r222 (([] : Mem).length) M235.length r1065) (by
     have h := hr1066
     refine Rg (kx (mvO h883) (kx (bNeq rfl rfl) (kx (mvO rfl) ?_)))
     rcases ite_some h with ⟨hb884, h⟩ | ⟨hb884, h⟩
     ·refine kx (gsF rfl hb884) (kx (gsF rfl hb884) (kx (gsF rfl hb884) (kx (gsF rfl hb884) (kx (pkT rfl hb884 rfl) (Rn (hA h879 (hA h880 (hA h881 (hV (.bool true) rfl hZ)))) fun e885 h887 h888 h889 h890 => ?_)))))
      clear h879 h880 h881 h882 h883
      obtain rfl := si h
      exact kd (show laws_FnRolls_c6_Q a2 y175 r220 r222 (([] : Mem).length) M235.length _ _ from ⟨rfl, h887, h888, h889, h890, o865, o866⟩)
     refine kx (guF rfl hb884 (mvO h882)) (kx (guF rfl hb884 (mvO h880)) (kx (guF rfl hb884 (lnL Tryd.underlying72 rfl o865 (by simp [hl191, hl230]))) (kx (guF rfl hb884 (bNeq rfl rfl)) (kx (pkF rfl hb884 rfl) (Rn (hA h879 (hA h880 (hA h881 (hN rfl hZ)))) fun e891 h893 h894 h895 h896 => ?_)))))
     clear h879 h880 h881 h882 h883
     obtain rfl := si h
     exact kd (show laws_FnRolls_c6_Q a2 y175 r220 r222 (([] : Mem).length) M235.length _ _ from ⟨rfl, h893, h894, h895, h896, o865, o866⟩)) ?_
 revert h hr1066
 revert r1065
 intro y899 hr1066 h
 intro x e897 M898 hq1064
 obtain ⟨rfl, h900, h901, h902, h903, o904, o905⟩ := hq1064
 refine sN ?_
 rcases ite_some h with ⟨hb906, h⟩ | ⟨hb906, h⟩
 ·refine cT h903 hb906 (sq (Rg (kx (mvO rfl) (Rn (hV (.bool false) rfl hZ) fun e907 h909 => sN (xx (sR ?_))))))
  clear h900 h901 h902 h903
  obtain rfl := si h
  exact eR (resT h909 res0) rfl
 refine cF h903 hb906 (xx (sN (sq (sq (Rg (kx (mvO h901) (kx (lnL Tryd.underlying72 rfl o904 (by simp [hl191, hl230])) (kx (bEql rfl rfl) (Rn (hV (.sl none (a2.map (cI .u8))) h900 (hV (.lsl ([] : Mem).length y175.length 0 y175.length) h901 (hV (.loc M235.length 1 0 0) h902 (hN rfl hZ)))) fun e910 h912 h913 h914 h915 => sN ?_)))))))))
 clear h900 h901 h902 h903
 rcases ite_some h with ⟨hb916, h⟩ | ⟨hb916, h⟩
 ·refine cT h915 hb916 (sq (Rg (kx (mvO rfl) (Rn (hV (.bool true) rfl hZ) fun e917 h919 => sN (xx (sR ?_))))))
  clear h912 h913 h914 h915
  obtain rfl := si h
  exact eR (resT h919 res0) rfl
 refine cF h915 hb916 (xx (sN (sq (RdS (kpS (litO (xs := ([] : List Account)) (c := Account.c) rfl rfl (by decide)) (kfS (faO h914 o905 rfl) (kfS (ldO rfl o905 rfl rfl rfl) (kgS (faO h914 o905 rfl) (kgS (ldO rfl o905 rfl rfl rfl) (klS (alO zero74) (feS fun M922 hM923 => ?_)))))))))))
 have hM923 := fendM hM923 [⟨.grow, 27, 3, ([] : List Account).map Account.c⟩, ⟨.box, 74, 2, [[.nils, .int .i64 0]]⟩] rfl
 have o924 := push_old hM923 o904
 have o925 := push_old hM923 o905
 have ne926 : ([] : Mem).length ≠ M898.length := by have := lt_of_get (M := M898) o904; omega
 have ne927 : M235.length ≠ M898.length := by have := lt_of_get (M := M898) o905; omega
 have o928 : M922[M898.length]? = some (.live ⟨.grow, 27, 3, ([] : List Account).map Account.c⟩) := push_at hM923 0 rfl
 have ne929 : ([] : Mem).length ≠ (M898.length + 1) := by have := lt_of_get (M := M898) o904; omega
 have ne930 : M235.length ≠ (M898.length + 1) := by have := lt_of_get (M := M898) o905; omega
 have ne931 : M898.length ≠ (M898.length + 1) := by omega
 have o932 : M922[(M898.length + 1)]? = some (.live ⟨.box, 74, 2, [[.nils, .int .i64 0]]⟩) := push_at hM923 1 rfl
 obtain ⟨x933, hx934, h⟩ := bind_some h
 refine kw (apO rfl o928 rfl (elS rfl) hx934 Account.fl (by decide)) fun M935 hM936 => ?_
 have o937 := set_ne hM936 ne926 o924
 have o938 := set_ne hM936 ne927 o925
 have o939 : M935[M898.length]? = some (.live ⟨.grow, 27, 3, x933.map Account.c⟩) := set_same hM936 o928
 have o940 := set_ne hM936 (Ne.symm ne931) o932
 refine ck (ckL o940 (ckP (ldO rfl o938 rfl rfl rfl) (ckP (faO h914 o938 rfl) ck0))) (kx (bldT zero74 (cns (pr3 rfl) (cns (pr3 rfl) rfl)) (fill1 ⟨rfl, ble rfl⟩ (all1 (okL o939 (by simp [hl191, hl230])) all0) rfl (fill1 ⟨rfl, ble rfl⟩ rfl rfl (fill0 rfl)))) (ck (ckL o940 (ckD rfl (ckD rfl ck0))) (kw (stO rfl rfl o940 rfl rfl ⟨rfl, ble rfl⟩ (all1 (okL o939 (by simp [hl191, hl230])) (all1 rfl all0)) rfl) fun M941 hM942 => ?_)))
 have o943 := set_ne hM942 ne929 o937
 have o944 := set_ne hM942 ne930 o938
 have o945 := set_ne hM942 ne931 o939
 have o946 : M941[(M898.length + 1)]? = some (.live ⟨.box, 74, 2, [[.lsl M898.length x933.length 0 x933.length, .int .i64 r220]]⟩) := set_same hM942 o940
 obtain ⟨r953, hx952, h⟩ := bind_some h
 obtain ⟨x959, hx960, h⟩ := bind_some h
 obtain ⟨x961, hx962, h⟩ := bind_some h
 refine ck (ckD rfl (ckD rfl (ckD rfl ck0))) (Rn (hA h912 (hA h913 (hV (.loc (M898.length + 1) 1 0 0) rfl hZ))) fun e947 h949 h950 h951 => sN (sq (Rg (kx (mvO h949) (kx (mvO h950) (kx (lnL Tryd.underlying72 rfl o943 (by simp [hl191, hl230])) (kc (cl (v := .int .i64 r953) rfl rfl (cns rfl (cns rfl (cns rfl rfl))) rfl (laws_a2At_ok a2 1 (y175.length : Int) _ hx952) nm) (kx (mvO rfl) (Rn (hA h950 (hA h951 (hN rfl hZ))) fun e954 h956 h957 h958 => sN (sq (Rg (kx (faO h957 o946 rfl) (kx (ldO rfl o946 rfl rfl rfl) (kx (mvO h958) (kx (ixO rfl o945 rfl rfl (rd_get hx960).1 (rd_lt hx960).2) (kx (faO rfl o945 (by simp [hl191, hl230])) (kx (ldO rfl o945 (by simp [hl191, hl230]) (rz hx960) rfl) (kx (bSub rfl rfl) (kx (ixO rfl o945 rfl rfl (rd_get hx962).1 (rd_lt hx962).2) (kx (faO rfl o945 (by simp [hl191, hl230])) (kw (stR (u := x961) (u' := (Account.mk x961.Title x961.Items (IntKind.i64.wrap (x959.Balance - 1)))) rfl rfl o945 rfl (rz2 hx962) ⟨rfl, ble rfl⟩ rfl rfl) fun M963 hM964 => ?_)))))))))))))))))))))
 clear h912 h913 h914 h915 h949 h950 h951
 rw [Nat.zero_add] at hM964
 have o965 := set_ne hM964 ne926 o943
 have o966 : M963[M898.length]? = some (.live ⟨.grow, 27, 3, (x933.set r953.toNat (Account.mk x961.Title x961.Items (IntKind.i64.wrap (x959.Balance - 1)))).map Account.c⟩) := set_same hM964 o945
 have o967 := set_ne hM964 (Ne.symm ne931) o946
 have hx968 := rd_set (u' := (Account.mk x961.Title x961.Items (IntKind.i64.wrap (x959.Balance - 1)))) hx962
 obtain ⟨⟨r975, r976⟩, hx974, h⟩ := bind_some h
 obtain ⟨x984, hx985, h⟩ := bind_some h
 refine Rn (hA h956 (hA h957 (hA h958 hZ))) fun e969 h971 h972 h973 => sN (sq (Rg (kx (ldOA h972 o967 rfl rfl (ble rfl) rfl) (kc (cl (v := .tup [.int .i64 r975, .int .i64 r976]) rfl rfl (cns rfl rfl) (ra1 (ra_agg (mp1 (ra1_row o966 (by simp [hl191, hl230]) Account.fl) (mp1 rfl mp0))) ra0) (impl_FirstFault_ok (Roll.mk (x933.set r953.toNat (Account.mk x961.Title x961.Items (IntKind.i64.wrap (x959.Balance - 1)))) r220) _ hx974) (fun _ => (own_tup (oa1 rfl (oa1 rfl oa0))))) (kx (mvO rfl) (kx (exT rfl rfl) (kx (exT rfl rfl) (kx (mvO rfl) (kx (mvO rfl) (Rn (hA h971 (hA h973 (hN rfl (hN rfl hZ)))) fun e977 h979 h980 h981 h982 => sN (sq (RdS (kpS (litO (xs := ([] : List Account)) (c := Account.c) rfl rfl (by decide)) (kfS (mvO h979) (kfS (mvO h979) (kgS (ixO rfl o965 rfl rfl (rd_get hx985).1 (rd_lt hx985).2) (kgS (ldOA rfl o965 (by simp [hl191, hl230]) (rz hx985) (ble rfl) rfl) (kfS (litI (cns rfl rfl) rfl ⟨rfl, by decide⟩) (klS (alO zero74) (feS fun M987 hM988 => ?_))))))))))))))))))))
 clear h956 h957 h958 h971 h972 h973
 have hM988 := fendM hM988 [⟨.grow, 27, 3, ([] : List Account).map Account.c⟩, ⟨.box, 74, 2, [[.nils, .int .i64 0]]⟩] rfl
 have o989 := push_old hM988 o965
 have ne990 : ([] : Mem).length ≠ M963.length := by have := lt_of_get (M := M963) o965; omega
 have o991 : M987[M963.length]? = some (.live ⟨.grow, 27, 3, ([] : List Account).map Account.c⟩) := push_at hM988 0 rfl
 have ne992 : ([] : Mem).length ≠ (M963.length + 1) := by have := lt_of_get (M := M963) o965; omega
 have ne993 : M963.length ≠ (M963.length + 1) := by omega
 have o994 : M987[(M963.length + 1)]? = some (.live ⟨.box, 74, 2, [[.nils, .int .i64 0]]⟩) := push_at hM988 1 rfl
 obtain ⟨x995, hx996, h⟩ := bind_some h
 refine kw (apO rfl o991 rfl (elL rfl o989 rfl) hx996 Account.fl (by decide)) fun M997 hM998 => ?_
 have o999 := set_ne hM998 ne990 o989
 have o1000 : M997[M963.length]? = some (.live ⟨.grow, 27, 3, x995.map Account.c⟩) := set_same hM998 o991
 have o1001 := set_ne hM998 (Ne.symm ne993) o994
 obtain ⟨x1002, hx1003, h⟩ := bind_some h
 refine ck (ckL o1001 (ckP (ldOA rfl o999 (by simp [hl191, hl230]) (rz hx985) (ble rfl) rfl) (ckP (ixO rfl o999 rfl rfl (rd_get hx985).1 (rd_lt hx985).2) ck0))) (kw (apO rfl o1000 rfl (elT (c := Account.c) (xs := [x984]) rfl) hx1003 Account.fl (by decide)) fun M1004 hM1005 => ?_)
 have o1006 := set_ne hM1005 ne990 o999
 have o1007 : M1004[M963.length]? = some (.live ⟨.grow, 27, 3, x1002.map Account.c⟩) := set_same hM1005 o1000
 have o1008 := set_ne hM1005 (Ne.symm ne993) o1001
 obtain ⟨⟨r1010, r1011, r1012⟩, hx1009, h⟩ := bind_some h
 refine ck (ckL o1008 (ckD rfl (ckD rfl ck0))) (Ev.nxw (Ev.callF rfl (cns rfl rfl) (impl_MakeRoll_l_ok x1002 M963.length M1004 o1007 _ hx1009)) fun v1024 M1025 hq1016 => ?_)
 obtain ⟨⟨v1017, M1015⟩, hq1016, hf1026⟩ := hq1016
 obtain ⟨id1013, hv1017, o1021, o1018, fr1019, nf1022, ne1023, hl1020⟩ := hq1016
 have hv1017 : v1017 = .tup [.agg [.lsl id1013 r1012.length 0 r1012.length, .int .i64 r1010], .int .i64 r1011] := hv1017
 subst hv1017
 have o1027 : M1015[M963.length]? = some (.live ⟨.grow, 27, 3, x1002.map Account.c⟩) := o1018
 have hl1020 : x1002.length = x1002.length := hl1020
 have ne1028 := nf1022 _ _ (niC ne990 niN) o1006
 have ne1029 := nf1022 _ _ (niC (Ne.symm ne993) niN) o1008
 have fr1019 : Fr [M963.length] M1004 M1015 := fr1019
 have o1030 := fr1019 _ _ (niC ne990 niN) o1006
 have o1031 := fr1019 _ _ (niC (Ne.symm ne993) niN) o1008
 obtain ⟨e1032, hM1033⟩ := Prod.mk.inj ((show frz (.tup [.agg [.lsl id1013 r1012.length 0 r1012.length, .int .i64 r1010], .int .i64 r1011]) M1015 = (.tup [.agg [.sl (some 27) (r1012.map Account.c), .int .i64 r1010], .int .i64 r1011], (M1015.set id1013 .dead)) from (fzT (fz1 (fzA (fz1 (frz1_row o1021 rfl Account.fl) (fz1 rfl fz0))) (fz1 rfl fz0)))).symm.trans hf1026)
 subst e1032
 have o1034 := set_ne hM1033.symm ne1028 o1030
 have o1035 := set_ne hM1033.symm ne1023 o1027
 have o1036 := set_ne hM1033.symm ne1029 o1031
 refine ck (ckL o1036 (ckD rfl (ckD rfl ck0))) (kx (mvO rfl) (ck (ckL o1036 (ckD rfl (ckD rfl ck0))) (kx (exT rfl rfl) (ck (ckL o1036 (ckD rfl (ckD rfl ck0))) (kx (exT rfl rfl) (ck (ckL o1036 (ckD rfl (ckD rfl ck0))) (kw (stO rfl rfl o1036 rfl rfl ⟨rfl, ble rfl⟩ rfl rfl) fun M1037 hM1038 => ?_)))))))
 have o1039 := set_ne hM1038 ne992 o1034
 have o1040 := set_ne hM1038 ne993 o1035
 have o1041 : M1037[(M963.length + 1)]? = some (.live ⟨.box, 74, 2, [[.sl none (r1012.map Account.c), .int .i64 r1010]]⟩) := set_same hM1038 o1036
 refine ck (ckD rfl (ckD rfl (ckD rfl ck0))) (kx (mvO rfl) (ck (ckD rfl (ckD rfl (ckD rfl ck0))) (Rn (hA h980 (hA h981 (hA h982 (hV (.loc (M963.length + 1) 1 0 0) rfl (hN rfl hZ))))) fun e1042 h1044 h1045 h1046 h1047 h1048 => sN (sq (Rg (kx (mvO h1046) (kx (bEql rfl rfl) (kx (mvO rfl) ?_))))))))
 clear h979 h980 h981 h982
 rcases ite_some h with ⟨hb1049, h⟩ | ⟨hb1049, h⟩
 ·refine kx (guT rfl hb1049 (mvO h1045)) (kx (guT rfl hb1049 (mvO h1044)) (kx (guT rfl hb1049 (bEql rfl rfl)) (kx (pkT rfl hb1049 rfl) (kx (mvO rfl) ?_))))
  rcases ite_some h with ⟨hb1050, h⟩ | ⟨hb1050, h⟩
  ·refine kx (guT rfl hb1050 (mvO h1048)) (kx (guT rfl hb1050 (bEql rfl rfl)) (kx (pkT rfl hb1050 rfl) (kx (mvO rfl) ?_)))
   rcases ite_some h with ⟨hb1051, h⟩ | ⟨hb1051, h⟩
   ·refine kx (guT rfl hb1051 (faO h1047 o1041 rfl)) (kx (guT rfl hb1051 (ldO rfl o1041 rfl rfl rfl)) (kx (guT rfl hb1051 (lnS Tryd.underlying72 rfl)) (kx (guT rfl hb1051 (bEql rfl rfl)) (kx (pkT rfl hb1051 rfl) (kx (mvO rfl) (Rn (hN rfl hZ) fun e1052 h1054 => sN (xx ?_)))))))
    clear h1044 h1045 h1046 h1047 h1048
    obtain rfl := si h
    exact eR (resT h1054 res0) rfl
   refine kx (gsT rfl hb1051) (kx (gsT rfl hb1051) (kx (gsT rfl hb1051) (kx (gsT rfl hb1051) (kx (pkF rfl hb1051 rfl) (kx (mvO rfl) (Rn (hV (.bool false) rfl hZ) fun e1055 h1057 => sN (xx ?_)))))))
   clear h1044 h1045 h1046 h1047 h1048
   obtain rfl := si h
   exact eR (resT h1057 res0) rfl
  refine kx (gsT rfl hb1050) (kx (gsT rfl hb1050) (kx (pkF rfl hb1050 rfl) (kx (mvO rfl) (kx (gsT rfl rfl) (kx (gsT rfl rfl) (kx (gsT rfl rfl) (kx (gsT rfl rfl) (kx (pkF rfl rfl rfl) (kx (mvO rfl) (Rn (hV (.bool false) rfl hZ) fun e1058 h1060 => sN (xx ?_)))))))))))
  clear h1044 h1045 h1046 h1047 h1048
  obtain rfl := si h
  exact eR (resT h1060 res0) rfl
 refine kx (gsT rfl hb1049) (kx (gsT rfl hb1049) (kx (gsT rfl hb1049) (kx (pkF rfl hb1049 rfl) (kx (mvO rfl) (kx (gsT rfl rfl) (kx (gsT rfl rfl) (kx (pkF rfl rfl rfl) (kx (mvO rfl) (kx (gsT rfl rfl) (kx (gsT rfl rfl) (kx (gsT rfl rfl) (kx (gsT rfl rfl) (kx (pkF rfl rfl rfl) (kx (mvO rfl) (Rn (hV (.bool false) rfl hZ) fun e1061 h1063 => sN (xx ?_))))))))))))))))
 clear h1044 h1045 h1046 h1047 h1048
 obtain rfl := si h
 exact eR (resT h1063 res0) rfl
end Go.Proofs.YtjlalepbhcekoaaDoor

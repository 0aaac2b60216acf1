/- Printed by a program of ours (ext.py). -/
import Derived.Test.YtkkmbehooldmjaaLnkFirstWrongx0
set_option linter.unusedVariables false
set_option linter.unusedSimpArgs false
set_option maxRecDepth 100000
set_option maxHeartbeats 2000000
namespace Go.Proofs.Ytkkmbehooldmjaa
open Go Go.Ab
/-! ### loop.example/g01263/spec.l07Ok (f99) -/
def spec_l07Ok_c1_Q (a1 : Book) (g : Bool) (q : Out) : Prop := q.1 = .nrm ∧ eget q.2.1 0 = .pt none [.int .i64 a1.Day, .sl none (a1.Cash.map (cI .i64)), .sl none (a1.Tallies.map Tally.c)] ∧ eget q.2.1 27 = .bool g
def spec_l07Ok_c3_Q (a1 : Book) (s1_1 : Int) (x63 : Tally) (g : Bool) (q : Out) : Prop := q.1 = .nrm ∧ eget q.2.1 0 = .pt none [.int .i64 a1.Day, .sl none (a1.Cash.map (cI .i64)), .sl none (a1.Tallies.map Tally.c)] ∧ eget q.2.1 3 = .int .i64 (a1.Cash.length : Int) ∧ eget q.2.1 4 = .int .i64 s1_1 ∧ eget q.2.1 5 = .pt none [.int .i64 x63.Debtor, .int .i64 x63.Holder, .int .i64 x63.Cut, .int .i64 x63.Amount, .int .i64 x63.Left] ∧ eget q.2.1 95 = .bool g
abbrev spec_l07Ok_b1_S := Int
abbrev spec_l07Ok_b1_R := Unit ⊕ Unit
def spec_l07Ok_b1_RS (a1 : Book) (s : spec_l07Ok_b1_S) (e : Env) (M : Mem) : Prop := eget e 0 = .pt none [.int .i64 a1.Day, .sl none (a1.Cash.map (cI .i64)), .sl none (a1.Tallies.map Tally.c)] ∧ eget e 3 = .int .i64 (a1.Cash.length : Int) ∧ eget e 4 = .int .i64 s
def spec_l07Ok_b1_RR (a1 : Book) (r : spec_l07Ok_b1_R) (x : Ex) (e : Env) (M : Mem) : Prop :=
  match r with
  | (.inl g) => x = .ret ∧ eget e 2 = .bool false
  | (.inr g) => x = .ext 0 ∧ True
noncomputable def spec_l07Ok_b1 (a1 : Book) : spec_l07Ok_b1_S → Option (spec_l07Ok_b1_S ⊕ spec_l07Ok_b1_R) := fun s1_1 =>
 if (decide (s1_1 < (a1.Tallies.length : Int))) = true then
  (rd a1.Tallies s1_1).bind fun x63 =>
  ((spec_l02Person (a1.Cash.length : Int) x63.Debtor).bind fun r72 =>
  if r72 = true then
   (spec_l02Person (a1.Cash.length : Int) x63.Holder).bind fun r75 =>
   if r75 = true then
    (spec_l00In x63.Cut 0 a1.Day).bind fun r78 =>
    if r78 = true then
     (spec_l00In x63.Amount 1 100000000).bind fun r81 =>
     if r81 = true then
      (spec_l00In x63.Left 0 x63.Amount).bind fun r84 =>
      some (!r84)
     else
      some true
    else
     some true
   else
    some true
  else
   some true).bind fun y122 =>
  if y122 = true then
   some (.inr (.inl ()))
  else
   if (x63.Debtor == x63.Holder) = true then
    if (x63.Left != 0) = true then
     some (.inr (.inl ()))
    else
     if (decide (s1_1 > 0)) = true then
      (rd a1.Tallies (IntKind.i64.wrap (s1_1 - 1))).bind fun x144 =>
      if (decide (x63.Cut < x144.Cut)) = true then
       some (.inr (.inl ()))
      else
       some (.inl (IntKind.i64.wrap (s1_1 + 1)))
     else
      some (.inl (IntKind.i64.wrap (s1_1 + 1)))
   else
    if (decide (s1_1 > 0)) = true then
     (rd a1.Tallies (IntKind.i64.wrap (s1_1 - 1))).bind fun x173 =>
     if (decide (x63.Cut < x173.Cut)) = true then
      some (.inr (.inl ()))
     else
      some (.inl (IntKind.i64.wrap (s1_1 + 1)))
    else
     some (.inl (IntKind.i64.wrap (s1_1 + 1)))
 else
  some (.inr (.inr ()))
theorem spec_l07Ok_b1_ok (a1 : Book) (s : spec_l07Ok_b1_S) (r : spec_l07Ok_b1_S ⊕ spec_l07Ok_b1_R) (h : spec_l07Ok_b1 a1 s = some r) (e : Env) (M : Mem) (hs : spec_l07Ok_b1_RS a1 s e M) : Ev (fun k => (f99_l5 (CN k) k (prune [0, 3, 4] e) M).bind fun q => some q) (bQ (spec_l07Ok_b1_RS a1) (spec_l07Ok_b1_RR a1) r) := by
 revert h hs
 revert s
 intro s1_1 h hs
 unfold spec_l07Ok_b1 at h
 obtain ⟨h50, h52, h54⟩ := hs
 generalize he49 : prune [0, 3, 4] e = e48
 have h51 := envp he49.symm rfl h50
 have h53 := envp he49.symm rfl h52
 have h55 := envp he49.symm rfl h54
 refine sq (sq (Rg (kx (mvO h55) (kx (mvO h51) (kx (ncP rfl) (kx (faP rfl ⟨ble rfl, blt rfl⟩ rfl) (kx (ldP rfl rfl) (kx (lnS Try.underlying75 rfl) (kx (bLss rfl rfl) (Rn (hV (.pt none [.int .i64 a1.Day, .sl none (a1.Cash.map (cI .i64)), .sl none (a1.Tallies.map Tally.c)]) h51 (hV (.int .i64 (a1.Cash.length : Int)) h53 (hV (.int .i64 s1_1) h55 (hN rfl hZ)))) fun e56 h58 h59 h60 h61 => sN ?_))))))))))
 clear h51 h53 h55
 rcases ite_some h with ⟨hb62, h⟩ | ⟨hb62, h⟩
 ·obtain ⟨x63, hx64, h⟩ := bind_some h
  obtain ⟨r202, hr203, h⟩ := bind_some h
  refine cT h61 hb62 (xx (sN (sq (bl (sq (Rg (kx (mvO h58) (kx (ncP rfl) (kx (faP rfl ⟨ble rfl, blt rfl⟩ rfl) (kx (ldP rfl rfl) (kx (mvO h60) (kx (ixS rfl rfl hx64 Tally.fl) (kx (mvO rfl) (Rn (hA h58 (hA h59 (hA h60 (hN rfl hZ)))) fun e65 h67 h68 h69 h70 => sN (sq (sq ?_))))))))))))))))
  clear h58 h59 h60 h61
  refine Ev.cut (Q1 := spec_l07Ok_c3_Q a1 s1_1 x63 r202) (by
      have h := hr203
      obtain ⟨r72, hx71, h⟩ := bind_some h
      refine Rd (kf (mvO h68) (kf (mvO h70) (kf (ncP rfl) (kf (faP rfl ⟨ble rfl, blt rfl⟩ rfl) (kf (ldP rfl rfl) (fc (cl (v := .bool r72) rfl (cns rfl (cns rfl rfl)) rfl (spec_l02Person_ok (a1.Cash.length : Int) x63.Debtor _ hx71) nm) (kf (uNot rfl) (kf (mvO rfl) ?_))))))))
      rcases ite_some h with ⟨hb73, h⟩ | ⟨hb73, h⟩
      ·obtain ⟨r75, hx74, h⟩ := bind_some h
       refine kf (guF rfl (congrArg Bool.not hb73) (mvO h68)) (kf (guF rfl (congrArg Bool.not hb73) (mvO h70)) (kf (guF rfl (congrArg Bool.not hb73) (ncP rfl)) (kf (guF rfl (congrArg Bool.not hb73) (faP rfl ⟨ble rfl, blt rfl⟩ rfl)) (kf (guF rfl (congrArg Bool.not hb73) (ldP rfl rfl)) (fc (Ev.guF rfl (congrArg Bool.not hb73) (cl (v := .bool r75) rfl (cns rfl (cns rfl rfl)) rfl (spec_l02Person_ok (a1.Cash.length : Int) x63.Holder _ hx74) nm)) (kf (guF rfl (congrArg Bool.not hb73) (uNot rfl)) (kf (pkF rfl (congrArg Bool.not hb73) rfl) (kf (mvO rfl) ?_))))))))
       rcases ite_some h with ⟨hb76, h⟩ | ⟨hb76, h⟩
       ·obtain ⟨r78, hx77, h⟩ := bind_some h
        refine kf (guF rfl (congrArg Bool.not hb76) (mvO h70)) (kf (guF rfl (congrArg Bool.not hb76) (ncP rfl)) (kf (guF rfl (congrArg Bool.not hb76) (faP rfl ⟨ble rfl, blt rfl⟩ rfl)) (kf (guF rfl (congrArg Bool.not hb76) (ldP rfl rfl)) (kf (guF rfl (congrArg Bool.not hb76) (mvO h67)) (kf (guF rfl (congrArg Bool.not hb76) (ncP rfl)) (kf (guF rfl (congrArg Bool.not hb76) (faP rfl ⟨ble rfl, blt rfl⟩ rfl)) (kf (guF rfl (congrArg Bool.not hb76) (ldP rfl rfl)) (fc (Ev.guF rfl (congrArg Bool.not hb76) (cl (v := .bool r78) rfl (cns rfl (cns rfl (cns rfl rfl))) rfl (spec_l00In_ok x63.Cut 0 a1.Day _ hx77) nm)) (kf (guF rfl (congrArg Bool.not hb76) (uNot rfl)) (kf (pkF rfl (congrArg Bool.not hb76) rfl) (kf (mvO rfl) ?_)))))))))))
        rcases ite_some h with ⟨hb79, h⟩ | ⟨hb79, h⟩
        ·obtain ⟨r81, hx80, h⟩ := bind_some h
         refine kf (guF rfl (congrArg Bool.not hb79) (mvO h70)) (kf (guF rfl (congrArg Bool.not hb79) (ncP rfl)) (kf (guF rfl (congrArg Bool.not hb79) (faP rfl ⟨ble rfl, blt rfl⟩ rfl)) (kf (guF rfl (congrArg Bool.not hb79) (ldP rfl rfl)) (fc (Ev.guF rfl (congrArg Bool.not hb79) (cl (v := .bool r81) rfl (cns rfl (cns rfl (cns rfl rfl))) rfl (spec_l00In_ok x63.Amount 1 100000000 _ hx80) nm)) (kf (guF rfl (congrArg Bool.not hb79) (uNot rfl)) (kf (pkF rfl (congrArg Bool.not hb79) rfl) (kf (mvO rfl) ?_)))))))
         rcases ite_some h with ⟨hb82, h⟩ | ⟨hb82, h⟩
         ·obtain ⟨r84, hx83, h⟩ := bind_some h
          refine kf (guF rfl (congrArg Bool.not hb82) (mvO h70)) (kf (guF rfl (congrArg Bool.not hb82) (ncP rfl)) (kf (guF rfl (congrArg Bool.not hb82) (faP rfl ⟨ble rfl, blt rfl⟩ rfl)) (kf (guF rfl (congrArg Bool.not hb82) (ldP rfl rfl)) (kf (guF rfl (congrArg Bool.not hb82) (mvO h70)) (kf (guF rfl (congrArg Bool.not hb82) (ncP rfl)) (kf (guF rfl (congrArg Bool.not hb82) (faP rfl ⟨ble rfl, blt rfl⟩ rfl)) (kf (guF rfl (congrArg Bool.not hb82) (ldP rfl rfl)) (fc (Ev.guF rfl (congrArg Bool.not hb82) (cl (v := .bool r84) rfl (cns rfl (cns rfl (cns rfl rfl))) rfl (spec_l00In_ok x63.Left 0 x63.Amount _ hx83) nm)) (kf (guF rfl (congrArg Bool.not hb82) (uNot rfl)) (kf (pkF rfl (congrArg Bool.not hb82) rfl) (fZ (Rn (hA h67 (hA h68 (hA h69 (hA h70 (hN rfl hZ))))) fun e85 h87 h88 h89 h90 h91 => ?_))))))))))))
          clear h67 h68 h69 h70
          cases h
          exact kd (show spec_l07Ok_c3_Q a1 s1_1 x63 _ _ from ⟨rfl, h87, h88, h89, h90, h91⟩)
         refine kf (gsF rfl (congrArg Bool.not hb82)) (kf (gsF rfl (congrArg Bool.not hb82)) (kf (gsF rfl (congrArg Bool.not hb82)) (kf (gsF rfl (congrArg Bool.not hb82)) (kf (gsF rfl (congrArg Bool.not hb82)) (kf (gsF rfl (congrArg Bool.not hb82)) (kf (gsF rfl (congrArg Bool.not hb82)) (kf (gsF rfl (congrArg Bool.not hb82)) (fc (Ev.gsF rfl (congrArg Bool.not hb82)) (kf (gsF rfl (congrArg Bool.not hb82)) (kf (pkT rfl (congrArg Bool.not hb82) rfl) (fZ (Rn (hA h67 (hA h68 (hA h69 (hA h70 (hV (.bool true) rfl hZ))))) fun e92 h94 h95 h96 h97 h98 => ?_))))))))))))
         clear h67 h68 h69 h70
         cases h
         exact kd (show spec_l07Ok_c3_Q a1 s1_1 x63 _ _ from ⟨rfl, h94, h95, h96, h97, h98⟩)
        refine kf (gsF rfl (congrArg Bool.not hb79)) (kf (gsF rfl (congrArg Bool.not hb79)) (kf (gsF rfl (congrArg Bool.not hb79)) (kf (gsF rfl (congrArg Bool.not hb79)) (fc (Ev.gsF rfl (congrArg Bool.not hb79)) (kf (gsF rfl (congrArg Bool.not hb79)) (kf (pkT rfl (congrArg Bool.not hb79) rfl) (kf (mvO rfl) (kf (gsF rfl rfl) (kf (gsF rfl rfl) (kf (gsF rfl rfl) (kf (gsF rfl rfl) (kf (gsF rfl rfl) (kf (gsF rfl rfl) (kf (gsF rfl rfl) (kf (gsF rfl rfl) (fc (Ev.gsF rfl rfl) (kf (gsF rfl rfl) (kf (pkT rfl rfl rfl) (fZ (Rn (hA h67 (hA h68 (hA h69 (hA h70 (hV (.bool true) rfl hZ))))) fun e99 h101 h102 h103 h104 h105 => ?_))))))))))))))))))))
        clear h67 h68 h69 h70
        cases h
        exact kd (show spec_l07Ok_c3_Q a1 s1_1 x63 _ _ from ⟨rfl, h101, h102, h103, h104, h105⟩)
       refine kf (gsF rfl (congrArg Bool.not hb76)) (kf (gsF rfl (congrArg Bool.not hb76)) (kf (gsF rfl (congrArg Bool.not hb76)) (kf (gsF rfl (congrArg Bool.not hb76)) (kf (gsF rfl (congrArg Bool.not hb76)) (kf (gsF rfl (congrArg Bool.not hb76)) (kf (gsF rfl (congrArg Bool.not hb76)) (kf (gsF rfl (congrArg Bool.not hb76)) (fc (Ev.gsF rfl (congrArg Bool.not hb76)) (kf (gsF rfl (congrArg Bool.not hb76)) (kf (pkT rfl (congrArg Bool.not hb76) rfl) (kf (mvO rfl) (kf (gsF rfl rfl) (kf (gsF rfl rfl) (kf (gsF rfl rfl) (kf (gsF rfl rfl) (fc (Ev.gsF rfl rfl) (kf (gsF rfl rfl) (kf (pkT rfl rfl rfl) (kf (mvO rfl) (kf (gsF rfl rfl) (kf (gsF rfl rfl) (kf (gsF rfl rfl) (kf (gsF rfl rfl) (kf (gsF rfl rfl) (kf (gsF rfl rfl) (kf (gsF rfl rfl) (kf (gsF rfl rfl) (fc (Ev.gsF rfl rfl) (kf (gsF rfl rfl) (kf (pkT rfl rfl rfl) (fZ (Rn (hA h67 (hA h68 (hA h69 (hA h70 (hV (.bool true) rfl hZ))))) fun e106 h108 h109 h110 h111 h112 => ?_))))))))))))))))))))))))))))))))
       clear h67 h68 h69 h70
       cases h
       exact kd (show spec_l07Ok_c3_Q a1 s1_1 x63 _ _ from ⟨rfl, h108, h109, h110, h111, h112⟩)
      refine kf (gsF rfl (congrArg Bool.not hb73)) (kf (gsF rfl (congrArg Bool.not hb73)) (kf (gsF rfl (congrArg Bool.not hb73)) (kf (gsF rfl (congrArg Bool.not hb73)) (kf (gsF rfl (congrArg Bool.not hb73)) (fc (Ev.gsF rfl (congrArg Bool.not hb73)) (kf (gsF rfl (congrArg Bool.not hb73)) (kf (pkT rfl (congrArg Bool.not hb73) rfl) (kf (mvO rfl) (kf (gsF rfl rfl) (kf (gsF rfl rfl) (kf (gsF rfl rfl) (kf (gsF rfl rfl) (kf (gsF rfl rfl) (kf (gsF rfl rfl) (kf (gsF rfl rfl) (kf (gsF rfl rfl) (fc (Ev.gsF rfl rfl) (kf (gsF rfl rfl) (kf (pkT rfl rfl rfl) (kf (mvO rfl) (kf (gsF rfl rfl) (kf (gsF rfl rfl) (kf (gsF rfl rfl) (kf (gsF rfl rfl) (fc (Ev.gsF rfl rfl) (kf (gsF rfl rfl) (kf (pkT rfl rfl rfl) (kf (mvO rfl) (kf (gsF rfl rfl) (kf (gsF rfl rfl) (kf (gsF rfl rfl) (kf (gsF rfl rfl) (kf (gsF rfl rfl) (kf (gsF rfl rfl) (kf (gsF rfl rfl) (kf (gsF rfl rfl) (fc (Ev.gsF rfl rfl) (kf (gsF rfl rfl) (kf (pkT rfl rfl rfl) (fZ (Rn (hA h67 (hA h68 (hA h69 (hA h70 (hV (.bool true) rfl hZ))))) fun e113 h115 h116 h117 h118 h119 => ?_)))))))))))))))))))))))))))))))))))))))))
      clear h67 h68 h69 h70
      cases h
      exact kd (show spec_l07Ok_c3_Q a1 s1_1 x63 _ _ from ⟨rfl, h115, h116, h117, h118, h119⟩)) ?_
  revert h hr203
  revert r202
  intro y122 hr203 h
  intro x e120 M121 hq201
  obtain ⟨rfl, h123, h124, h125, h126, h127⟩ := hq201
  refine sN ?_
  rcases ite_some h with ⟨hb128, h⟩ | ⟨hb128, h⟩
  ·refine cT h127 hb128 (sq (Rg (kx (mvO rfl) (Rn (hV (.bool false) rfl hZ) fun e129 h131 => sN (xx (sR (bR (sR ?_))))))))
   clear h123 h124 h125 h126 h127
   cases h
   exact qR ⟨rfl, h131⟩
  refine cF h127 hb128 (xx (sN (sq (Rd (kf (mvO h126) (kf (ncP rfl) (kf (faP rfl ⟨ble rfl, blt rfl⟩ rfl) (kf (ldP rfl rfl) (kf (mvO h126) (kf (ncP rfl) (kf (faP rfl ⟨ble rfl, blt rfl⟩ rfl) (kf (ldP rfl rfl) (kf (bEql rfl rfl) (kf (mvO rfl) ?_))))))))))))))
  rcases ite_some h with ⟨hb132, h⟩ | ⟨hb132, h⟩
  ·refine kf (guT rfl hb132 (mvO h126)) (kf (guT rfl hb132 (ncP rfl)) (kf (guT rfl hb132 (faP rfl ⟨ble rfl, blt rfl⟩ rfl)) (kf (guT rfl hb132 (ldP rfl rfl)) (kf (guT rfl hb132 (bNeq rfl rfl)) (kf (pkT rfl hb132 rfl) (kf (mvO rfl) ?_))))))
   rcases ite_some h with ⟨hb133, h⟩ | ⟨hb133, h⟩
   ·refine kf (gsF rfl hb133) (kf (gsF rfl hb133) (kf (gsF rfl hb133) (kf (gsU rfl) (kf (gsU rfl) (kf (gsU rfl) (kf (gsU rfl) (kf (gsU rfl) (kf (gsU rfl) (kf (gsU rfl) (kf (gsU rfl) (kf (gsU rfl) (kf (gsU rfl) (kf (gsU rfl) (kf (gsU rfl) (kf (gsU rfl) (kf (gsU rfl) (kf (gsF rfl hb133) (kf (pkT rfl hb133 rfl) (fZ (Rn (hV (.pt none [.int .i64 a1.Day, .sl none (a1.Cash.map (cI .i64)), .sl none (a1.Tallies.map Tally.c)]) h123 (hV (.int .i64 (a1.Cash.length : Int)) h124 (hV (.int .i64 s1_1) h125 (hV (.bool true) rfl hZ)))) fun e134 h136 h137 h138 h139 => sN (cT h139 rfl (sq (Rg (kx (mvO rfl) (Rn (hV (.bool false) rfl hZ) fun e140 h142 => sN (xx (bR (sR ?_))))))))))))))))))))))))))))
    clear h123 h124 h125 h126 h127 h136 h137 h138 h139
    cases h
    exact qR ⟨rfl, h142⟩
   refine kf (guF rfl hb133 (mvO h125)) (kf (guF rfl hb133 (bGtr rfl rfl)) (kf (guF rfl hb133 (mvO rfl)) ?_))
   rcases ite_some h with ⟨hb143, h⟩ | ⟨hb143, h⟩
   ·obtain ⟨x144, hx145, h⟩ := bind_some h
    refine kf (guT rfl hb143 (mvO h126)) (kf (guT rfl hb143 (ncP rfl)) (kf (guT rfl hb143 (faP rfl ⟨ble rfl, blt rfl⟩ rfl)) (kf (guT rfl hb143 (ldP rfl rfl)) (kf (guT rfl hb143 (mvO h123)) (kf (guT rfl hb143 (ncP rfl)) (kf (guT rfl hb143 (faP rfl ⟨ble rfl, blt rfl⟩ rfl)) (kf (guT rfl hb143 (ldP rfl rfl)) (kf (guT rfl hb143 (mvO h125)) (kf (guT rfl hb143 (bSub rfl rfl)) (kf (guT rfl hb143 (ixS rfl rfl hx145 Tally.fl)) (kf (guT rfl hb143 (faP rfl ⟨ble rfl, blt rfl⟩ rfl)) (kf (guT rfl hb143 (ldP rfl rfl)) (kf (guT rfl hb143 (bLss rfl rfl)) (kf (guF rfl hb133 (pkT rfl hb143 rfl)) (kf (pkF rfl hb133 rfl) (fZ (Rn (hV (.pt none [.int .i64 a1.Day, .sl none (a1.Cash.map (cI .i64)), .sl none (a1.Tallies.map Tally.c)]) h123 (hV (.int .i64 (a1.Cash.length : Int)) h124 (hV (.int .i64 s1_1) h125 (hN rfl hZ)))) fun e146 h148 h149 h150 h151 => sN ?_)))))))))))))))))
    clear h123 h124 h125 h126 h127
    rcases ite_some h with ⟨hb152, h⟩ | ⟨hb152, h⟩
    ·refine cT h151 hb152 (sq (Rg (kx (mvO rfl) (Rn (hV (.bool false) rfl hZ) fun e153 h155 => sN (xx (bR (sR ?_)))))))
     clear h148 h149 h150 h151
     cases h
     exact qR ⟨rfl, h155⟩
    refine cF h151 hb152 (xx (bN (sN (Rg (kx (mvO h150) (kx (bAdd rfl rfl) (kx (mvO rfl) (Rn (hA h148 (hA h149 (hN rfl hZ))) fun e156 h158 h159 h160 => ?_))))))))
    clear h148 h149 h151
    cases h
    exact qN ⟨h158, h159, h160⟩
   refine kf (gsT rfl hb143) (kf (gsT rfl hb143) (kf (gsT rfl hb143) (kf (gsT rfl hb143) (kf (gsT rfl hb143) (kf (gsT rfl hb143) (kf (gsT rfl hb143) (kf (gsT rfl hb143) (kf (gsT rfl hb143) (kf (gsT rfl hb143) (kf (gsT rfl hb143) (kf (gsT rfl hb143) (kf (gsT rfl hb143) (kf (gsT rfl hb143) (kf (guF rfl hb133 (pkF rfl hb143 rfl)) (kf (pkF rfl hb133 rfl) (fZ (Rn (hV (.pt none [.int .i64 a1.Day, .sl none (a1.Cash.map (cI .i64)), .sl none (a1.Tallies.map Tally.c)]) h123 (hV (.int .i64 (a1.Cash.length : Int)) h124 (hV (.int .i64 s1_1) h125 (hV (.bool false) rfl hZ)))) fun e161 h163 h164 h165 h166 => sN (cF h166 rfl (xx (bN (sN (Rg (kx (mvO h165) (kx (bAdd rfl rfl) (kx (mvO rfl) (Rn (hA h163 (hA h164 (hN rfl hZ))) fun e167 h169 h170 h171 => ?_))))))))))))))))))))))))))
   clear h123 h124 h125 h126 h127 h163 h164 h166
   cases h
   exact qN ⟨h169, h170, h171⟩
  refine kf (gsT rfl hb132) (kf (gsT rfl hb132) (kf (gsT rfl hb132) (kf (gsT rfl hb132) (kf (gsT rfl hb132) (kf (pkF rfl hb132 rfl) (kf (mvO rfl) (kf (guF rfl rfl (mvO h125)) (kf (guF rfl rfl (bGtr rfl rfl)) (kf (guF rfl rfl (mvO rfl)) ?_)))))))))
  rcases ite_some h with ⟨hb172, h⟩ | ⟨hb172, h⟩
  ·obtain ⟨x173, hx174, h⟩ := bind_some h
   refine kf (guT rfl hb172 (mvO h126)) (kf (guT rfl hb172 (ncP rfl)) (kf (guT rfl hb172 (faP rfl ⟨ble rfl, blt rfl⟩ rfl)) (kf (guT rfl hb172 (ldP rfl rfl)) (kf (guT rfl hb172 (mvO h123)) (kf (guT rfl hb172 (ncP rfl)) (kf (guT rfl hb172 (faP rfl ⟨ble rfl, blt rfl⟩ rfl)) (kf (guT rfl hb172 (ldP rfl rfl)) (kf (guT rfl hb172 (mvO h125)) (kf (guT rfl hb172 (bSub rfl rfl)) (kf (guT rfl hb172 (ixS rfl rfl hx174 Tally.fl)) (kf (guT rfl hb172 (faP rfl ⟨ble rfl, blt rfl⟩ rfl)) (kf (guT rfl hb172 (ldP rfl rfl)) (kf (guT rfl hb172 (bLss rfl rfl)) (kf (guF rfl rfl (pkT rfl hb172 rfl)) (kf (pkF rfl rfl rfl) (fZ (Rn (hV (.pt none [.int .i64 a1.Day, .sl none (a1.Cash.map (cI .i64)), .sl none (a1.Tallies.map Tally.c)]) h123 (hV (.int .i64 (a1.Cash.length : Int)) h124 (hV (.int .i64 s1_1) h125 (hN rfl hZ)))) fun e175 h177 h178 h179 h180 => sN ?_)))))))))))))))))
   clear h123 h124 h125 h126 h127
   rcases ite_some h with ⟨hb181, h⟩ | ⟨hb181, h⟩
   ·refine cT h180 hb181 (sq (Rg (kx (mvO rfl) (Rn (hV (.bool false) rfl hZ) fun e182 h184 => sN (xx (bR (sR ?_)))))))
    clear h177 h178 h179 h180
    cases h
    exact qR ⟨rfl, h184⟩
   refine cF h180 hb181 (xx (bN (sN (Rg (kx (mvO h179) (kx (bAdd rfl rfl) (kx (mvO rfl) (Rn (hA h177 (hA h178 (hN rfl hZ))) fun e185 h187 h188 h189 => ?_))))))))
   clear h177 h178 h180
   cases h
   exact qN ⟨h187, h188, h189⟩
  refine kf (gsT rfl hb172) (kf (gsT rfl hb172) (kf (gsT rfl hb172) (kf (gsT rfl hb172) (kf (gsT rfl hb172) (kf (gsT rfl hb172) (kf (gsT rfl hb172) (kf (gsT rfl hb172) (kf (gsT rfl hb172) (kf (gsT rfl hb172) (kf (gsT rfl hb172) (kf (gsT rfl hb172) (kf (gsT rfl hb172) (kf (gsT rfl hb172) (kf (guF rfl rfl (pkF rfl hb172 rfl)) (kf (pkF rfl rfl rfl) (fZ (Rn (hV (.pt none [.int .i64 a1.Day, .sl none (a1.Cash.map (cI .i64)), .sl none (a1.Tallies.map Tally.c)]) h123 (hV (.int .i64 (a1.Cash.length : Int)) h124 (hV (.int .i64 s1_1) h125 (hV (.bool false) rfl hZ)))) fun e190 h192 h193 h194 h195 => sN (cF h195 rfl (xx (bN (sN (Rg (kx (mvO h194) (kx (bAdd rfl rfl) (kx (mvO rfl) (Rn (hA h192 (hA h193 (hN rfl hZ))) fun e196 h198 h199 h200 => ?_))))))))))))))))))))))))))
  clear h123 h124 h125 h126 h127 h192 h193 h195
  cases h
  exact qN ⟨h198, h199, h200⟩
 refine cF h61 hb62 (xx (sE ?_))
 cases h
 exact qE ⟨rfl, trivial⟩
noncomputable def spec_l07Ok (a1 : Book) : Option Bool :=
 ((spec_l07Day a1.Day).bind fun r5 =>
 if r5 = true then
  (spec_l07Cash a1.Cash).bind fun r8 =>
  if r8 = true then
   some (decide ((a1.Tallies.length : Int) > 40))
  else
   some true
 else
  some true).bind fun y24 =>
 if y24 = true then
  some false
 else
  (Lw (spec_l07Ok_b1 a1) 0).bind fun r => match r with
  | (.inl _) =>
   some false
  | (.inr _) =>
   some true
def spec_l07Ok_enc (r : Bool) : AV := .bool r
theorem spec_l07Ok_ok (a1 : Book) (r : Bool) (h : spec_l07Ok a1 = some r) : Ev (fun k => CN k 99 [.pt none [.int .i64 a1.Day, .sl none (a1.Cash.map (cI .i64)), .sl none (a1.Tallies.map Tally.c)]] []) (fun p => rRes p.2 p.1 = spec_l07Ok_enc r) := by
 unfold spec_l07Ok at h
 obtain ⟨r216, hr217, h⟩ := bind_some h
 refine Ev.enter (F := fun k => f99 (CN k) k) (fun k => callN_eq rfl Try.func99 rfl rfl rfl (by decide +kernel) (f99_eq _ _)) (sq (Rg (kx (mvO rfl) (Rn (hN rfl hZ) fun e1 h3 => sN (sq (sq ?_))))))
 refine Ev.cut (Q1 := spec_l07Ok_c1_Q a1 r216) (by
     have h := hr217
     obtain ⟨r5, hx4, h⟩ := bind_some h
     refine Rg (kx (mvO h3) (kx (ncP rfl) (kx (faP rfl ⟨ble rfl, blt rfl⟩ rfl) (kx (ldP rfl rfl) (kc (cl (v := .bool r5) rfl (cns rfl rfl) rfl (spec_l07Day_ok a1.Day _ hx4) nm) (kx (uNot rfl) (kx (mvO rfl) ?_)))))))
     rcases ite_some h with ⟨hb6, h⟩ | ⟨hb6, h⟩
     ·obtain ⟨r8, hx7, h⟩ := bind_some h
      refine kx (guF rfl (congrArg Bool.not hb6) (mvO h3)) (kx (guF rfl (congrArg Bool.not hb6) (ncP rfl)) (kx (guF rfl (congrArg Bool.not hb6) (faP rfl ⟨ble rfl, blt rfl⟩ rfl)) (kx (guF rfl (congrArg Bool.not hb6) (ldP rfl rfl)) (kc (Ev.guF rfl (congrArg Bool.not hb6) (cl (v := .bool r8) rfl (cns rfl rfl) rfl (spec_l07Cash_ok a1.Cash _ hx7) nm)) (kx (guF rfl (congrArg Bool.not hb6) (uNot rfl)) (kx (pkF rfl (congrArg Bool.not hb6) rfl) (kx (mvO rfl) ?_)))))))
      rcases ite_some h with ⟨hb9, h⟩ | ⟨hb9, h⟩
      ·refine kx (guF rfl (congrArg Bool.not hb9) (mvO h3)) (kx (guF rfl (congrArg Bool.not hb9) (ncP rfl)) (kx (guF rfl (congrArg Bool.not hb9) (faP rfl ⟨ble rfl, blt rfl⟩ rfl)) (kx (guF rfl (congrArg Bool.not hb9) (ldP rfl rfl)) (kx (guF rfl (congrArg Bool.not hb9) (lnS Try.underlying75 rfl)) (kx (guF rfl (congrArg Bool.not hb9) (bGtr rfl rfl)) (kx (pkF rfl (congrArg Bool.not hb9) rfl) (Rn (hA h3 (hN rfl hZ)) fun e10 h12 h13 => ?_)))))))
       clear h3
       cases h
       exact kd (show spec_l07Ok_c1_Q a1 _ _ from ⟨rfl, h12, h13⟩)
      refine kx (gsF rfl (congrArg Bool.not hb9)) (kx (gsF rfl (congrArg Bool.not hb9)) (kx (gsF rfl (congrArg Bool.not hb9)) (kx (gsF rfl (congrArg Bool.not hb9)) (kx (gsF rfl (congrArg Bool.not hb9)) (kx (gsF rfl (congrArg Bool.not hb9)) (kx (pkT rfl (congrArg Bool.not hb9) rfl) (Rn (hA h3 (hV (.bool true) rfl hZ)) fun e14 h16 h17 => ?_)))))))
      clear h3
      cases h
      exact kd (show spec_l07Ok_c1_Q a1 _ _ from ⟨rfl, h16, h17⟩)
     refine kx (gsF rfl (congrArg Bool.not hb6)) (kx (gsF rfl (congrArg Bool.not hb6)) (kx (gsF rfl (congrArg Bool.not hb6)) (kx (gsF rfl (congrArg Bool.not hb6)) (kc (Ev.gsF rfl (congrArg Bool.not hb6)) (kx (gsF rfl (congrArg Bool.not hb6)) (kx (pkT rfl (congrArg Bool.not hb6) rfl) (kx (mvO rfl) (kx (gsF rfl rfl) (kx (gsF rfl rfl) (kx (gsF rfl rfl) (kx (gsF rfl rfl) (kx (gsF rfl rfl) (kx (gsF rfl rfl) (kx (pkT rfl rfl rfl) (Rn (hA h3 (hV (.bool true) rfl hZ)) fun e18 h20 h21 => ?_)))))))))))))))
     clear h3
     cases h
     exact kd (show spec_l07Ok_c1_Q a1 _ _ from ⟨rfl, h20, h21⟩)) ?_
 revert h hr217
 revert r216
 intro y24 hr217 h
 intro x e22 M23 hq215
 obtain ⟨rfl, h25, h26⟩ := hq215
 refine sN ?_
 rcases ite_some h with ⟨hb27, h⟩ | ⟨hb27, h⟩
 ·refine cT h26 hb27 (sq (Rg (kx (mvO rfl) (Rn (hV (.bool false) rfl hZ) fun e28 h30 => sN (xx (sR ?_))))))
  clear h25 h26
  cases h
  exact eR (resT h30 res0) rfl
 obtain ⟨r204, hr205, h⟩ := bind_some h
 refine cF h26 hb27 (xx (sN (sq (Rg (kx (mvO h25) (kx (ncP rfl) (kx (faP rfl ⟨ble rfl, blt rfl⟩ rfl) (kx (ldP rfl rfl) (kx (lnS Try.underlying49 rfl) (kx (mvO rfl) (Rn (hV (.pt none [.int .i64 a1.Day, .sl none (a1.Cash.map (cI .i64)), .sl none (a1.Tallies.map Tally.c)]) h25 (hN rfl hZ)) fun e31 h33 h34 => sN (sq (sq (Rg (kx (mvO rfl) (Rn (hA h33 (hA h34 (hV (.int .i64 0) rfl hZ))) fun e35 h37 h38 h39 => sN (bl ?_)))))))))))))))))
 clear h25 h26 h33 h34
 rcases r204 with _ | _
 ·refine Ev.loop (RS := spec_l07Ok_b1_RS a1) (RR := spec_l07Ok_b1_RR a1) (fun s r h e M hs => spec_l07Ok_b1_ok a1 s r h e M hs) hr205 ⟨h37, h38, h39⟩ fun x e207 M208 hq206 => ?_
  obtain ⟨rfl, h209⟩ := hq206
  refine bR (sR ?_)
  cases h
  exact eR (resT h209 res0) rfl
 refine Ev.loop (RS := spec_l07Ok_b1_RS a1) (RR := spec_l07Ok_b1_RR a1) (fun s r h e M hs => spec_l07Ok_b1_ok a1 s r h e M hs) hr205 ⟨h37, h38, h39⟩ fun x e210 M211 hq206 => ?_
 obtain ⟨rfl, _⟩ := hq206
 refine bE (sN (sq (Rg (kx (mvO rfl) (Rn (hV (.bool true) rfl hZ) fun e212 h214 => sN (xx ?_))))))
 cases h
 exact eR (resT h214 res0) rfl
/-! ### loop.example/g01263/laws.eqDeal (f78) -/
noncomputable def laws_eqDeal (a1 : Deal) (a2 : Deal) : Option Bool :=
 if (a1.Day != a2.Day) = true then
  some false
 else
  if (a1.Kind != a2.Kind) = true then
   some false
  else
   if (a1.Tally != a2.Tally) = true then
    some false
   else
    if (a1.From != a2.From) = true then
     some false
    else
     if (a1.To != a2.To) = true then
      some false
     else
      if (a1.Amount != a2.Amount) = true then
       some false
      else
       some true
def laws_eqDeal_enc (r : Bool) : AV := .bool r
theorem laws_eqDeal_ok (a1 : Deal) (a2 : Deal) (r : Bool) (h : laws_eqDeal a1 a2 = some r) : Ev (fun k => CN k 78 [.agg [.int .i64 a1.Day, .int .i8 a1.Kind, .int .i64 a1.Tally, .int .i64 a1.From, .int .i64 a1.To, .int .i64 a1.Amount], .agg [.int .i64 a2.Day, .int .i8 a2.Kind, .int .i64 a2.Tally, .int .i64 a2.From, .int .i64 a2.To, .int .i64 a2.Amount]] []) (fun p => rRes p.2 p.1 = laws_eqDeal_enc r) := by
 unfold laws_eqDeal at h
 refine Ev.enter (F := fun k => f78 (CN k) k) (fun k => callN_eq rfl Try.func78 rfl rfl rfl (by decide +kernel) (f78_eq _ _)) (sq (Rg (kx (bxI rfl rfl ⟨rfl, rfl, by decide⟩) (kx (bxI rfl rfl ⟨rfl, rfl, by decide⟩) (kx (mvO rfl) (Rn (hN rfl (hN rfl hZ)) fun e1 h3 h4 => sN (sq (sq (Rg (kx (faP h3 ⟨ble rfl, blt rfl⟩ rfl) (kx (ldP rfl rfl) (kx (faP h4 ⟨ble rfl, blt rfl⟩ rfl) (kx (ldP rfl rfl) (kx (bNeq rfl rfl) (Rn (hA h3 (hA h4 (hN rfl hZ))) fun e5 h7 h8 h9 => sN ?_)))))))))))))))
 clear h3 h4
 rcases ite_some h with ⟨hb10, h⟩ | ⟨hb10, h⟩
 ·refine cT h9 hb10 (sq (Rg (kx (mvO rfl) (Rn (hV (.bool false) rfl hZ) fun e11 h13 => sN (xx (sR ?_))))))
  clear h7 h8 h9
  cases h
  exact eR (resT h13 res0) rfl
 refine cF h9 hb10 (xx (sN (sq (sq (Rg (kx (faP h7 ⟨ble rfl, blt rfl⟩ rfl) (kx (ldP rfl rfl) (kx (faP h8 ⟨ble rfl, blt rfl⟩ rfl) (kx (ldP rfl rfl) (kx (bNeq rfl rfl) (Rn (hA h7 (hA h8 (hN rfl hZ))) fun e14 h16 h17 h18 => sN ?_)))))))))))
 clear h7 h8 h9
 rcases ite_some h with ⟨hb19, h⟩ | ⟨hb19, h⟩
 ·refine cT h18 hb19 (sq (Rg (kx (mvO rfl) (Rn (hV (.bool false) rfl hZ) fun e20 h22 => sN (xx (sR ?_))))))
  clear h16 h17 h18
  cases h
  exact eR (resT h22 res0) rfl
 refine cF h18 hb19 (xx (sN (sq (sq (Rg (kx (faP h16 ⟨ble rfl, blt rfl⟩ rfl) (kx (ldP rfl rfl) (kx (faP h17 ⟨ble rfl, blt rfl⟩ rfl) (kx (ldP rfl rfl) (kx (bNeq rfl rfl) (Rn (hA h16 (hA h17 (hN rfl hZ))) fun e23 h25 h26 h27 => sN ?_)))))))))))
 clear h16 h17 h18
 rcases ite_some h with ⟨hb28, h⟩ | ⟨hb28, h⟩
 ·refine cT h27 hb28 (sq (Rg (kx (mvO rfl) (Rn (hV (.bool false) rfl hZ) fun e29 h31 => sN (xx (sR ?_))))))
  clear h25 h26 h27
  cases h
  exact eR (resT h31 res0) rfl
 refine cF h27 hb28 (xx (sN (sq (sq (Rg (kx (faP h25 ⟨ble rfl, blt rfl⟩ rfl) (kx (ldP rfl rfl) (kx (faP h26 ⟨ble rfl, blt rfl⟩ rfl) (kx (ldP rfl rfl) (kx (bNeq rfl rfl) (Rn (hA h25 (hA h26 (hN rfl hZ))) fun e32 h34 h35 h36 => sN ?_)))))))))))
 clear h25 h26 h27
 rcases ite_some h with ⟨hb37, h⟩ | ⟨hb37, h⟩
 ·refine cT h36 hb37 (sq (Rg (kx (mvO rfl) (Rn (hV (.bool false) rfl hZ) fun e38 h40 => sN (xx (sR ?_))))))
  clear h34 h35 h36
  cases h
  exact eR (resT h40 res0) rfl
 refine cF h36 hb37 (xx (sN (sq (sq (Rg (kx (faP h34 ⟨ble rfl, blt rfl⟩ rfl) (kx (ldP rfl rfl) (kx (faP h35 ⟨ble rfl, blt rfl⟩ rfl) (kx (ldP rfl rfl) (kx (bNeq rfl rfl) (Rn (hA h34 (hA h35 (hN rfl hZ))) fun e41 h43 h44 h45 => sN ?_)))))))))))
 clear h34 h35 h36
 rcases ite_some h with ⟨hb46, h⟩ | ⟨hb46, h⟩
 ·refine cT h45 hb46 (sq (Rg (kx (mvO rfl) (Rn (hV (.bool false) rfl hZ) fun e47 h49 => sN (xx (sR ?_))))))
  clear h43 h44 h45
  cases h
  exact eR (resT h49 res0) rfl
 refine cF h45 hb46 (xx (sN (sq (sq (Rg (kx (faP h43 ⟨ble rfl, blt rfl⟩ rfl) (kx (ldP rfl rfl) (kx (faP h44 ⟨ble rfl, blt rfl⟩ rfl) (kx (ldP rfl rfl) (kx (bNeq rfl rfl) (Rn (hN rfl hZ) fun e50 h52 => sN ?_)))))))))))
 clear h43 h44 h45
 rcases ite_some h with ⟨hb53, h⟩ | ⟨hb53, h⟩
 ·refine cT h52 hb53 (sq (Rg (kx (mvO rfl) (Rn (hV (.bool false) rfl hZ) fun e54 h56 => sN (xx (sR ?_))))))
  clear h52
  cases h
  exact eR (resT h56 res0) rfl
 refine cF h52 hb53 (xx (sN (sq (Rg (kx (mvO rfl) (Rn (hV (.bool true) rfl hZ) fun e57 h59 => sN (xx ?_)))))))
 clear h52
 cases h
 exact eR (resT h59 res0) rfl
/-! ### loop.example/g01263/laws.eqTallyS (f77) -/
abbrev laws_eqTallyS_b1_S := Int
abbrev laws_eqTallyS_b1_R := Unit ⊕ Unit
def laws_eqTallyS_b1_RS (a1 : List Tally) (a2 : List Tally) (s : laws_eqTallyS_b1_S) (e : Env) (M : Mem) : Prop := eget e 0 = .sl none (a1.map Tally.c) ∧ eget e 1 = .sl none (a2.map Tally.c) ∧ eget e 5 = .int .i64 s
def laws_eqTallyS_b1_RR (a1 : List Tally) (a2 : List Tally) (r : laws_eqTallyS_b1_R) (x : Ex) (e : Env) (M : Mem) : Prop :=
  match r with
  | (.inl g) => x = .ret ∧ eget e 4 = .bool false
  | (.inr g) => x = .ext 0 ∧ True
noncomputable def laws_eqTallyS_b1 (a1 : List Tally) (a2 : List Tally) : laws_eqTallyS_b1_S → Option (laws_eqTallyS_b1_S ⊕ laws_eqTallyS_b1_R) := fun s1_1 =>
 if (decide (s1_1 < (a1.length : Int))) = true then
  (rd a1 s1_1).bind fun x42 =>
  (rd a2 s1_1).bind fun x44 =>
  (laws_eqTally x42 x44).bind fun r47 =>
  if r47 = true then
   some (.inl (IntKind.i64.wrap (s1_1 + 1)))
  else
   some (.inr (.inl ()))
 else
  some (.inr (.inr ()))
theorem laws_eqTallyS_b1_ok (a1 : List Tally) (a2 : List Tally) (s : laws_eqTallyS_b1_S) (r : laws_eqTallyS_b1_S ⊕ laws_eqTallyS_b1_R) (h : laws_eqTallyS_b1 a1 a2 s = some r) (e : Env) (M : Mem) (hs : laws_eqTallyS_b1_RS a1 a2 s e M) : Ev (fun k => (f77_l4 (CN k) k (prune [0, 1, 5] e) M).bind fun q => some q) (bQ (laws_eqTallyS_b1_RS a1 a2) (laws_eqTallyS_b1_RR a1 a2) r) := by
 revert h hs
 revert s
 intro s1_1 h hs
 unfold laws_eqTallyS_b1 at h
 obtain ⟨h29, h31, h33⟩ := hs
 generalize he28 : prune [0, 1, 5] e = e27
 have h30 := envp he28.symm rfl h29
 have h32 := envp he28.symm rfl h31
 have h34 := envp he28.symm rfl h33
 refine sq (sq (Rg (kx (mvO h34) (kx (mvO h30) (kx (lnS Try.underlying75 rfl) (kx (bLss rfl rfl) (Rn (hV (.sl none (a1.map Tally.c)) h30 (hV (.sl none (a2.map Tally.c)) h32 (hV (.int .i64 s1_1) h34 (hN rfl hZ)))) fun e35 h37 h38 h39 h40 => sN ?_)))))))
 clear h30 h32 h34
 rcases ite_some h with ⟨hb41, h⟩ | ⟨hb41, h⟩
 ·obtain ⟨x42, hx43, h⟩ := bind_some h
  obtain ⟨x44, hx45, h⟩ := bind_some h
  obtain ⟨r47, hx46, h⟩ := bind_some h
  refine cT h40 hb41 (xx (sN (sq (bl (sq (Rd (kf (mvO h37) (kf (mvO h39) (kf (ixS rfl rfl hx43 Tally.fl) (kf (ldPA rfl rfl rfl) (kf (mvO h38) (kf (mvO h39) (kf (ixS rfl rfl hx45 Tally.fl) (kf (ldPA rfl rfl rfl) (fc (cl (v := .bool r47) rfl (cns rfl (cns rfl rfl)) rfl (laws_eqTally_ok x42 x44 _ hx46) nm) (kf (uNot rfl) (fZ (Rn (hA h37 (hA h38 (hA h39 (hN rfl hZ)))) fun e48 h50 h51 h52 h53 => sN ?_))))))))))))))))))
  clear h37 h38 h39 h40
  rcases ite_some h with ⟨hb54, h⟩ | ⟨hb54, h⟩
  ·refine cF h53 (congrArg Bool.not hb54) (xx (bN (sN (Rg (kx (mvO h52) (kx (bAdd rfl rfl) (kx (mvO rfl) (Rn (hA h50 (hA h51 (hN rfl hZ))) fun e55 h57 h58 h59 => ?_))))))))
   clear h50 h51 h53
   cases h
   exact qN ⟨h57, h58, h59⟩
  refine cT h53 (congrArg Bool.not hb54) (sq (Rg (kx (mvO rfl) (Rn (hV (.bool false) rfl hZ) fun e60 h62 => sN (xx (bR (sR ?_)))))))
  clear h50 h51 h52 h53
  cases h
  exact qR ⟨rfl, h62⟩
 refine cF h40 hb41 (xx (sE ?_))
 cases h
 exact qE ⟨rfl, trivial⟩
noncomputable def laws_eqTallyS (a1 : List Tally) (a2 : List Tally) : Option Bool :=
 if ((a1.length : Int) != (a2.length : Int)) = true then
  some false
 else
  (Lw (laws_eqTallyS_b1 a1 a2) 0).bind fun r => match r with
  | (.inl _) =>
   some false
  | (.inr _) =>
   some true
def laws_eqTallyS_enc (r : Bool) : AV := .bool r
theorem laws_eqTallyS_ok (a1 : List Tally) (a2 : List Tally) (r : Bool) (h : laws_eqTallyS a1 a2 = some r) : Ev (fun k => CN k 77 [.sl none (a1.map Tally.c), .sl none (a2.map Tally.c)] []) (fun p => rRes p.2 p.1 = laws_eqTallyS_enc r) := by
 unfold laws_eqTallyS at h
 refine Ev.enter (F := fun k => f77 (CN k) k) (fun k => callN_eq rfl Try.func77 rfl rfl rfl (by decide +kernel) (f77_eq _ _)) (sq (Rg (kx (mvO rfl) (Rn (hN rfl (hN rfl hZ)) fun e1 h3 h4 => sN (sq (sq (Rg (kx (mvO h3) (kx (lnS Try.underlying75 rfl) (kx (mvO h4) (kx (lnS Try.underlying75 rfl) (kx (bNeq rfl rfl) (Rn (hA h3 (hA h4 (hN rfl hZ))) fun e5 h7 h8 h9 => sN ?_)))))))))))))
 clear h3 h4
 rcases ite_some h with ⟨hb10, h⟩ | ⟨hb10, h⟩
 ·refine cT h9 hb10 (sq (Rg (kx (mvO rfl) (Rn (hV (.bool false) rfl hZ) fun e11 h13 => sN (xx (sR ?_))))))
  clear h7 h8 h9
  cases h
  exact eR (resT h13 res0) rfl
 obtain ⟨r63, hr64, h⟩ := bind_some h
 refine cF h9 hb10 (xx (sN (sq (sq (Rg (kx (mvO rfl) (Rn (hA h7 (hA h8 (hV (.int .i64 0) rfl hZ))) fun e14 h16 h17 h18 => sN (bl ?_))))))))
 clear h7 h8 h9
 rcases r63 with _ | _
 ·refine Ev.loop (RS := laws_eqTallyS_b1_RS a1 a2) (RR := laws_eqTallyS_b1_RR a1 a2) (fun s r h e M hs => laws_eqTallyS_b1_ok a1 a2 s r h e M hs) hr64 ⟨h16, h17, h18⟩ fun x e66 M67 hq65 => ?_
  obtain ⟨rfl, h68⟩ := hq65
  refine bR (sR ?_)
  cases h
  exact eR (resT h68 res0) rfl
 refine Ev.loop (RS := laws_eqTallyS_b1_RS a1 a2) (RR := laws_eqTallyS_b1_RR a1 a2) (fun s r h e M hs => laws_eqTallyS_b1_ok a1 a2 s r h e M hs) hr64 ⟨h16, h17, h18⟩ fun x e69 M70 hq65 => ?_
 obtain ⟨rfl, _⟩ := hq65
 refine bE (sN (sq (Rg (kx (mvO rfl) (Rn (hV (.bool true) rfl hZ) fun e71 h73 => sN (xx ?_))))))
 cases h
 exact eR (resT h73 res0) rfl
/-! ### loop.example/g01263/impl.SameBook (f76) -/
noncomputable def impl_SameBook (a1 : Book) (a2 : Book) : Option Bool :=
 if (a1.Day == a2.Day) = true then
  (slices_Equal_int64 a1.Cash a2.Cash).bind fun r7 =>
  if r7 = true then
   (slices_Equal_Tally a1.Tallies a2.Tallies).bind fun r10 =>
   some r10
  else
   some false
 else
  some false
def impl_SameBook_enc (r : Bool) : AV := .bool r
theorem impl_SameBook_ok (a1 : Book) (a2 : Book) (r : Bool) (h : impl_SameBook a1 a2 = some r) : Ev (fun k => CN k 76 [.agg [.int .i64 a1.Day, .sl none (a1.Cash.map (cI .i64)), .sl none (a1.Tallies.map Tally.c)], .agg [.int .i64 a2.Day, .sl none (a2.Cash.map (cI .i64)), .sl none (a2.Tallies.map Tally.c)]] []) (fun p => rRes p.2 p.1 = impl_SameBook_enc r) := by
 unfold impl_SameBook at h
 refine Ev.enter (F := fun k => f76 (CN k) k) (fun k => callN_eq rfl Try.func76 rfl rfl rfl (by decide +kernel) (f76_eq _ _)) (sq (Rg (kx (bxI rfl rfl ⟨rfl, rfl, by decide⟩) (kx (bxI rfl rfl ⟨rfl, rfl, by decide⟩) (kx (mvO rfl) (Rn (hN rfl (hN rfl hZ)) fun e1 h3 h4 => sN (sq (Rg (kx (faP h3 ⟨ble rfl, blt rfl⟩ rfl) (kx (ldP rfl rfl) (kx (faP h4 ⟨ble rfl, blt rfl⟩ rfl) (kx (ldP rfl rfl) (kx (bEql rfl rfl) (kx (mvO rfl) ?_))))))))))))))
 rcases ite_some h with ⟨hb5, h⟩ | ⟨hb5, h⟩
 ·obtain ⟨r7, hx6, h⟩ := bind_some h
  refine kx (guT rfl hb5 (faP h3 ⟨ble rfl, blt rfl⟩ rfl)) (kx (guT rfl hb5 (ldP rfl rfl)) (kx (guT rfl hb5 (faP h4 ⟨ble rfl, blt rfl⟩ rfl)) (kx (guT rfl hb5 (ldP rfl rfl)) (kc (Ev.guT rfl hb5 (cl (v := .bool r7) rfl (cns rfl (cns rfl rfl)) rfl (slices_Equal_int64_ok a1.Cash a2.Cash _ hx6) nm)) (kx (pkT rfl hb5 rfl) (kx (mvO rfl) ?_))))))
  rcases ite_some h with ⟨hb8, h⟩ | ⟨hb8, h⟩
  ·obtain ⟨r10, hx9, h⟩ := bind_some h
   refine kx (guT rfl hb8 (faP h3 ⟨ble rfl, blt rfl⟩ rfl)) (kx (guT rfl hb8 (ldP rfl rfl)) (kx (guT rfl hb8 (faP h4 ⟨ble rfl, blt rfl⟩ rfl)) (kx (guT rfl hb8 (ldP rfl rfl)) (kc (Ev.guT rfl hb8 (cl (v := .bool r10) rfl (cns rfl (cns rfl rfl)) rfl (slices_Equal_Tally_ok a1.Tallies a2.Tallies _ hx9) nm)) (kx (pkT rfl hb8 rfl) (kx (mvO rfl) (Rn (hN rfl hZ) fun e11 h13 => sN (xx ?_))))))))
   clear h3 h4
   cases h
   exact eR (resT h13 res0) rfl
  refine kx (gsT rfl hb8) (kx (gsT rfl hb8) (kx (gsT rfl hb8) (kx (gsT rfl hb8) (kc (Ev.gsT rfl hb8) (kx (pkF rfl hb8 rfl) (kx (mvO rfl) (Rn (hV (.bool false) rfl hZ) fun e14 h16 => sN (xx ?_))))))))
  clear h3 h4
  cases h
  exact eR (resT h16 res0) rfl
 refine kx (gsT rfl hb5) (kx (gsT rfl hb5) (kx (gsT rfl hb5) (kx (gsT rfl hb5) (kc (Ev.gsT rfl hb5) (kx (pkF rfl hb5 rfl) (kx (mvO rfl) (kx (gsT rfl rfl) (kx (gsT rfl rfl) (kx (gsT rfl rfl) (kx (gsT rfl rfl) (kc (Ev.gsT rfl rfl) (kx (pkF rfl rfl rfl) (kx (mvO rfl) (Rn (hV (.bool false) rfl hZ) fun e17 h19 => sN (xx ?_)))))))))))))))
 clear h3 h4
 cases h
 exact eR (resT h19 res0) rfl
/-! ### loop.example/g01263/impl.books (f75) -/
abbrev impl_books_b1_S := Int × Int × (List Int) × (List Tally) × (List Book)
abbrev impl_books_b1_R := (Int × (List Book)) ⊕ (Int × (List Int) × (List Tally) × (List Book))
def impl_books_b1_RS (a2 : List Deal) (i1_1 : Nat) (i1_2 : Nat) (s : impl_books_b1_S) (e : Env) (M : Mem) : Prop := eget e 2 = .loc i1_1 1 0 0 ∧ eget e 6 = .lsl i1_2 s.2.2.2.2.length 0 s.2.2.2.2.length ∧ eget e 12 = .sl none (a2.map Deal.c) ∧ eget e 13 = .int .i64 (a2.length : Int) ∧ eget e 14 = .int .i64 s.1 ∧ M[i1_1]? = some (.live ⟨.box, 77, 3, [[.int .i64 s.2.1, .sl none (s.2.2.1.map (cI .i64)), .sl none (s.2.2.2.1.map Tally.c)]]⟩) ∧ M[i1_2]? = some (.live ⟨.grow, 77, 3, s.2.2.2.2.map Book.c⟩)
def impl_books_b1_RR (a2 : List Deal) (i1_1 : Nat) (i1_2 : Nat) (r : impl_books_b1_R) (x : Ex) (e : Env) (M : Mem) : Prop :=
  match r with
  | (.inl g) => x = .ret ∧ eget e 4 = .lsl i1_2 g.2.length 0 g.2.length ∧ eget e 5 = .int .i64 g.1 ∧ M[i1_2]? = some (.live ⟨.grow, 77, 3, g.2.map Book.c⟩)
  | (.inr g) => x = .ext 0 ∧ eget e 6 = .lsl i1_2 g.2.2.2.length 0 g.2.2.2.length ∧ M[i1_1]? = some (.live ⟨.box, 77, 3, [[.int .i64 g.1, .sl none (g.2.1.map (cI .i64)), .sl none (g.2.2.1.map Tally.c)]]⟩) ∧ M[i1_2]? = some (.live ⟨.grow, 77, 3, g.2.2.2.map Book.c⟩)
noncomputable def impl_books_b1 (a2 : List Deal) : impl_books_b1_S → Option (impl_books_b1_S ⊕ impl_books_b1_R) := fun (s1_1, s1_2, s1_3, s1_4, s1_5) =>
 if (decide (s1_1 < (a2.length : Int))) = true then
  (rd a2 s1_1).bind fun x64 =>
  (impl_do (Book.mk s1_2 s1_3 s1_4) x64).bind fun r => match r with
  | (.inl r88) =>
   if (r88 != 0) = true then
    some (.inr (.inl (r88, s1_5)))
   else
    none
  | (.inr (r141, r142, r143)) =>
   (app 56 s1_5 [(Book.mk r141 r142 r143)]).bind fun x191 =>
   some (.inl ((IntKind.i64.wrap (s1_1 + 1)), r141, r142, r143, x191))
 else
  some (.inr (.inr (s1_2, s1_3, s1_4, s1_5)))
theorem impl_books_b1_ok (a2 : List Deal) (i1_1 : Nat) (i1_2 : Nat) (ne13 : i1_1 ≠ i1_2) (s : impl_books_b1_S) (r : impl_books_b1_S ⊕ impl_books_b1_R) (h : impl_books_b1 a2 s = some r) (e : Env) (M : Mem) (hs : impl_books_b1_RS a2 i1_1 i1_2 s e M) : Ev (fun k => (f75_l3 (CN k) k (prune [2, 6, 12, 13, 14] e) M).bind fun q => some q) (bQ (impl_books_b1_RS a2 i1_1 i1_2) (impl_books_b1_RR a2 i1_1 i1_2) r) := by
 obtain ⟨s1_1, s1_2, s1_3, s1_4, s1_5⟩ := s
 unfold impl_books_b1 at h
 obtain ⟨h43, h45, h47, h49, h51, o53, o54⟩ := hs
 generalize he42 : prune [2, 6, 12, 13, 14] e = e41
 have h44 := envp he42.symm rfl h43
 have h46 := envp he42.symm rfl h45
 have h48 := envp he42.symm rfl h47
 have h50 := envp he42.symm rfl h49
 have h52 := envp he42.symm rfl h51
 refine sq (Rg (kx (bLss h52 h50) (Rn (hV (.loc i1_1 1 0 0) h44 (hV (.lsl i1_2 s1_5.length 0 s1_5.length) h46 (hV (.sl none (a2.map Deal.c)) h48 (hV (.int .i64 (a2.length : Int)) h50 (hV (.int .i64 s1_1) h52 (hN rfl hZ)))))) fun e55 h57 h58 h59 h60 h61 h62 => sN (sq ?_))))
 clear h44 h46 h48 h50 h52
 rcases ite_some h with ⟨hb63, h⟩ | ⟨hb63, h⟩
 ·obtain ⟨x64, hx65, h⟩ := bind_some h
  refine cT h62 hb63 (xx (sN (sq (bl (sq (Rg (kx (ixS h59 h61 hx65 Deal.fl) (kx (ldPA rfl rfl rfl) (ku (alO zero125) fun M67 hM68 => ?_)))))))))
  have o69 := push_old hM68 o53
  have ne70 := ne_new o53
  have o71 := push_old hM68 o54
  have ne72 := ne_new o54
  have o73 : M67[M.length]? = some (.live ⟨.box, 125, 6, [[.int .i64 0, .int .i8 0, .int .i64 0, .int .i64 0, .int .i64 0, .int .i64 0]]⟩) := push_new hM68
  refine kw (stO rfl rfl o73 rfl rfl ⟨rfl, ble rfl⟩ rfl rfl) fun M74 hM75 => ?_
  have o76 := set_ne hM75 ne70 o69
  have o77 := set_ne hM75 ne72 o71
  have o78 : M74[M.length]? = some (.live ⟨.box, 125, 6, [[.int .i64 x64.Day, .int .i8 x64.Kind, .int .i64 x64.Tally, .int .i64 x64.From, .int .i64 x64.To, .int .i64 x64.Amount]]⟩) := set_same hM75 o73
  obtain ⟨q211, hx87, h⟩ := bind_some h
  refine Rn (hA h57 (hA h58 (hV (.loc M.length 1 0 0) rfl (hA h59 (hA h60 (hA h61 hZ)))))) fun e79 h81 h82 h83 h84 h85 h86 => sN (sq (Rg (kx (ldOA h81 o76 rfl rfl (ble rfl) rfl) (kx (ldOA h83 o78 rfl rfl (ble rfl) rfl) ?_))))
  clear h57 h58 h59 h60 h61 h62
  rcases q211 with r88 | ⟨r141, r142, r143⟩
  ·refine kc (cl (v := .tup [.agg [.int .i64 0, .nils, .nils], .int .i64 r88]) rfl (cns rfl (cns rfl rfl)) rfl (impl_do_ok (Book.mk s1_2 s1_3 s1_4) x64 _ hx87) nm) (kx (mvO rfl) (kx (exT rfl rfl) (kx (exT rfl rfl) (ku (alO zero77) fun M90 hM91 => ?_))))
   have o92 := push_old hM91 o76
   have ne93 := ne_new o76
   have o94 := push_old hM91 o77
   have ne95 := ne_new o77
   have o96 := push_old hM91 o78
   have ne97 := ne_new o78
   have o98 : M90[M74.length]? = some (.live ⟨.box, 77, 3, [[.int .i64 0, .nils, .nils]]⟩) := push_new hM91
   refine kw (stO rfl rfl o98 rfl rfl ⟨rfl, ble rfl⟩ rfl rfl) fun M99 hM100 => ?_
   have o101 := set_ne hM100 ne93 o92
   have o102 := set_ne hM100 ne95 o94
   have o103 := set_ne hM100 ne97 o96
   have o104 : M99[M74.length]? = some (.live ⟨.box, 77, 3, [[.int .i64 0, .nils, .nils]]⟩) := set_same hM100 o98
   refine kx (mvO rfl) (Rn (hA h81 (hA h82 (hV (.loc M74.length 1 0 0) rfl (hN rfl (hA h84 (hA h85 (hA h86 hZ))))))) fun e105 h107 h108 h109 h110 h111 h112 h113 => sN (sq (sq (Rg (kx (mvO h110) (kx (bNeq rfl rfl) (Rn (hA h107 (hA h108 (hA h109 (hA h110 (hA h111 (hA h112 (hA h113 (hN rfl hZ)))))))) fun e114 h116 h117 h118 h119 h120 h121 h122 h123 => sN ?_)))))))
   clear h81 h82 h83 h84 h85 h86 h107 h108 h109 h110 h111 h112 h113
   rcases ite_some h with ⟨hb124, h⟩ | ⟨hb124, h⟩
   ·refine cT h123 hb124 (sq (Rg (kx (mvO h117) (kx (mvO h119) (kx (mvO rfl) (kx (mvO rfl) (Rn (hV (.lsl i1_2 s1_5.length 0 s1_5.length) rfl (hN rfl hZ)) fun e125 h127 h128 => sN (xx (sR (bR (sR ?_)))))))))))
    clear h116 h117 h118 h119 h120 h121 h122 h123
    cases h
    exact qR ⟨rfl, h127, h128, o102⟩
   refine cF h123 hb124 (xx (sN (sq (Rg (kx (ldOA h118 o104 rfl rfl (ble rfl) rfl) (kw (stO h116 rfl o101 rfl rfl ⟨rfl, ble rfl⟩ rfl rfl) fun M129 hM130 => ?_))))))
   have o131 : M129[i1_1]? = some (.live ⟨.box, 77, 3, [[.int .i64 0, .nils, .nils]]⟩) := set_same hM130 o101
   have o132 := set_ne hM130 (Ne.symm ne13) o102
   have o133 := set_ne hM130 (Ne.symm ne93) o104
   refine Rn (hA h116 (hA h117 (hA h120 (hA h121 (hA h122 hZ))))) fun e134 h136 h137 h138 h139 h140 => sN (Rg (kx (mvO h137) (kx (ldOA h136 o131 rfl rfl (ble rfl) rfl) ?_)))
   clear h116 h117 h118 h119 h120 h121 h122 h123
   cases h
  refine kc (cl (v := .tup [.agg [.int .i64 r141, .sl (some 2) (r142.map (cI .i64)), .sl (some 135) (r143.map Tally.c)], .int .i64 0]) rfl (cns rfl (cns rfl rfl)) rfl (impl_do_ok (Book.mk s1_2 s1_3 s1_4) x64 _ hx87) nm) (kx (mvO rfl) (kx (exT rfl rfl) (kx (exT rfl rfl) (ku (alO zero77) fun M145 hM146 => ?_))))
  have o147 := push_old hM146 o76
  have ne148 := ne_new o76
  have o149 := push_old hM146 o77
  have ne150 := ne_new o77
  have o151 := push_old hM146 o78
  have ne152 := ne_new o78
  have o153 : M145[M74.length]? = some (.live ⟨.box, 77, 3, [[.int .i64 0, .nils, .nils]]⟩) := push_new hM146
  refine kw (stO rfl rfl o153 rfl rfl ⟨rfl, ble rfl⟩ rfl rfl) fun M154 hM155 => ?_
  have o156 := set_ne hM155 ne148 o147
  have o157 := set_ne hM155 ne150 o149
  have o158 := set_ne hM155 ne152 o151
  have o159 : M154[M74.length]? = some (.live ⟨.box, 77, 3, [[.int .i64 r141, .sl none (r142.map (cI .i64)), .sl none (r143.map Tally.c)]]⟩) := set_same hM155 o153
  refine kx (mvO rfl) (Rn (hA h81 (hA h82 (hV (.loc M74.length 1 0 0) rfl (hV (.int .i64 0) rfl (hA h84 (hA h85 (hA h86 hZ))))))) fun e160 h162 h163 h164 h165 h166 h167 h168 => sN (sq (sq (Rg (kx (mvO h165) (kx (bNeq rfl rfl) (Rn (hA h162 (hA h163 (hA h164 (hA h165 (hA h166 (hA h167 (hA h168 (hV (.bool false) rfl hZ)))))))) fun e169 h171 h172 h173 h174 h175 h176 h177 h178 => sN (cF h178 rfl (xx (sN (sq (Rg (kx (ldOA h173 o159 rfl rfl (ble rfl) rfl) (kw (stO h171 rfl o156 rfl rfl ⟨rfl, ble rfl⟩ rfl rfl) fun M179 hM180 => ?_))))))))))))))
  clear h81 h82 h83 h84 h85 h86 h162 h163 h164 h165 h166 h167 h168
  have o181 : M179[i1_1]? = some (.live ⟨.box, 77, 3, [[.int .i64 r141, .sl none (r142.map (cI .i64)), .sl none (r143.map Tally.c)]]⟩) := set_same hM180 o156
  have o182 := set_ne hM180 (Ne.symm ne13) o157
  have o183 := set_ne hM180 (Ne.symm ne148) o159
  obtain ⟨x191, hx192, h⟩ := bind_some h
  refine Rn (hA h171 (hA h172 (hA h175 (hA h176 (hA h177 hZ))))) fun e184 h186 h187 h188 h189 h190 => sN (Rg (kx (mvO h187) (kx (ldOA h186 o181 rfl rfl (ble rfl) rfl) (kx (litI (cns rfl rfl) rfl ⟨rfl, by decide⟩) (kw (apO rfl o182 rfl (elT (c := Book.c) (xs := [(Book.mk r141 r142 r143)]) rfl) hx192 Book.fl (by decide)) fun M193 hM194 => ?_)))))
  clear h171 h172 h173 h174 h175 h176 h177 h178
  have o195 := set_ne hM194 ne13 o181
  have o196 : M193[i1_2]? = some (.live ⟨.grow, 77, 3, x191.map Book.c⟩) := set_same hM194 o182
  refine kx (mvO rfl) (Rn (hA h186 (hV (.lsl i1_2 x191.length 0 x191.length) rfl (hA h188 (hA h189 (hA h190 hZ))))) fun e197 h199 h200 h201 h202 h203 => bN (sN (Rg (kx (bAdd h203 rfl) (kx (mvO rfl) (Rn (hA h199 (hA h200 (hA h201 (hA h202 (hN rfl hZ))))) fun e204 h206 h207 h208 h209 h210 => ?_))))))
  clear h186 h188 h189 h190 h199 h200 h201 h202
  cases h
  exact qN ⟨h206, h207, h208, h209, h210, o195, o196⟩
 refine cF h62 hb63 (xx (sE ?_))
 cases h
 exact qE ⟨rfl, h58, o53, o54⟩
noncomputable def impl_books (a1 : Book) (a2 : List Deal) : Option ((List Book) × Int) :=
 (Lw (impl_books_b1 a2) (0, a1.Day, a1.Cash, a1.Tallies, ([] : List Book))).bind fun r => match r with
 | (.inl (y217, y218)) =>
  some (y218, y217)
 | (.inr (y224, y225, y226, y227)) =>
  some (y227, 0)
def impl_books_enc (r : (List Book) × Int) : AV := .tup [.sl (some 77) (r.1.map Book.c), .int .i64 r.2]
theorem impl_books_ok (a1 : Book) (a2 : List Deal) (r : (List Book) × Int) (h : impl_books a1 a2 = some r) : Ev (fun k => CN k 75 [.agg [.int .i64 a1.Day, .sl none (a1.Cash.map (cI .i64)), .sl none (a1.Tallies.map Tally.c)], .sl none (a2.map Deal.c)] []) (fun p => rRes p.2 p.1 = impl_books_enc r) := by
 unfold impl_books at h
 refine Ev.enter (F := fun k => f75 (CN k) k) (fun k => callN_eq rfl Try.func75 rfl rfl rfl (by decide +kernel) (f75_eq _ _)) (sq (Rg (ku (bxO rfl rfl ⟨rfl, rfl, by decide⟩) fun M2 hM3 => ?_)))
 have o4 : M2[([] : Mem).length]? = some (.live ⟨.box, 77, 3, [[.int .i64 a1.Day, .sl none (a1.Cash.map (cI .i64)), .sl none (a1.Tallies.map Tally.c)]]⟩) := push_new hM3
 refine kx (mvO rfl) (kx (mvO rfl) (Rn (hN rfl (hV (.loc ([] : Mem).length 1 0 0) rfl hZ)) fun e5 h7 h8 => sN (sq (Rg (ku (litO (xs := ([] : List Book)) (c := Book.c) rfl rfl (by decide)) fun M10 hM11 => ?_)))))
 have o12 := push_old hM11 o4
 have ne13 := ne_new o4
 have o14 : M10[M2.length]? = some (.live ⟨.grow, 77, 3, ([] : List Book).map Book.c⟩) := push_new hM11
 obtain ⟨r212, hr213, h⟩ := bind_some h
 refine kx (mvO rfl) (Rn (hA h7 (hA h8 (hV (.lsl M2.length ([] : List Book).length 0 ([] : List Book).length) rfl hZ))) fun e15 h17 h18 h19 => sN (sq (sq (Rg (kx (mvO h17) (kx (lnS Try.underlying79 rfl) (kx (mvO rfl) (Rn (hA h18 (hA h19 (hN rfl (hN rfl (hV (.int .i64 0) rfl hZ))))) fun e20 h22 h23 h24 h25 h26 => sN (bl ?_)))))))))
 clear h7 h8 h17 h18 h19
 rcases r212 with ⟨y217, y218⟩ | ⟨y224, y225, y226, y227⟩
 ·refine Ev.loop (RS := impl_books_b1_RS a2 (([] : Mem).length) M2.length) (RR := impl_books_b1_RR a2 (([] : Mem).length) M2.length) (fun s r h e M hs => impl_books_b1_ok a2 (([] : Mem).length) M2.length ne13 s r h e M hs) hr213 ⟨h22, h23, h24, h25, h26, o12, o14⟩ fun x e215 M216 hq214 => ?_
  obtain ⟨rfl, h219, h220, o221⟩ := hq214
  refine bR (sR ?_)
  cases h
  exact eR (resT h219 (resT h220 res0)) (rr_tup (mp1 (rr_row o221 rfl Book.fl) (mp1 rfl mp0)))
 refine Ev.loop (RS := impl_books_b1_RS a2 (([] : Mem).length) M2.length) (RR := impl_books_b1_RR a2 (([] : Mem).length) M2.length) (fun s r h e M hs => impl_books_b1_ok a2 (([] : Mem).length) M2.length ne13 s r h e M hs) hr213 ⟨h22, h23, h24, h25, h26, o12, o14⟩ fun x e222 M223 hq214 => ?_
 obtain ⟨rfl, h228, o229, o230⟩ := hq214
 refine bE (sN (sq (Rg (kx (mvO h228) (kx (mvO rfl) (kx (mvO rfl) (Rn (hV (.lsl M2.length y227.length 0 y227.length) rfl (hV (.int .i64 0) rfl hZ)) fun e231 h233 h234 => sN (xx ?_))))))))
 clear h228
 cases h
 exact eR (resT h233 (resT h234 res0)) (rr_tup (mp1 (rr_row o230 rfl Book.fl) (mp1 rfl mp0)))
/-! ### loop.example/g01263/impl.dealsCode (f74) -/
def impl_dealsCode_c1_Q (a2 : List Deal) (g : Bool) (q : Out) : Prop := q.1 = .nrm ∧ eget q.2.1 1 = .sl none (a2.map Deal.c) ∧ eget q.2.1 5 = .bool g
noncomputable def impl_dealsCode (a1 : Book) (a2 : List Deal) : Option Int :=
 ((impl_ValidBook a1).bind fun r6 =>
 if r6 = true then
  (impl_areDeals a2).bind fun r9 =>
  some (!r9)
 else
  some true).bind fun y20 =>
 if y20 = true then
  some 1
 else
  if (decide ((a2.length : Int) > 80)) = true then
   some 3
  else
   some 0
def impl_dealsCode_enc (r : Int) : AV := .int .i64 r
theorem impl_dealsCode_ok (a1 : Book) (a2 : List Deal) (r : Int) (h : impl_dealsCode a1 a2 = some r) : Ev (fun k => CN k 74 [.agg [.int .i64 a1.Day, .sl none (a1.Cash.map (cI .i64)), .sl none (a1.Tallies.map Tally.c)], .sl none (a2.map Deal.c)] []) (fun p => rRes p.2 p.1 = impl_dealsCode_enc r) := by
 unfold impl_dealsCode at h
 obtain ⟨r38, hr39, h⟩ := bind_some h
 refine Ev.enter (F := fun k => f74 (CN k) k) (fun k => callN_eq rfl Try.func74 rfl rfl rfl (by decide +kernel) (f74_eq _ _)) (sq (Rg (kx (bxI rfl rfl ⟨rfl, rfl, by decide⟩) (kx (mvO rfl) (Rn (hN rfl (hN rfl hZ)) fun e1 h3 h4 => sN (sq (bl (sq ?_))))))))
 refine Ev.cut (Q1 := impl_dealsCode_c1_Q a2 r38) (by
     have h := hr39
     obtain ⟨r6, hx5, h⟩ := bind_some h
     refine Rg (kx (ldPA h4 rfl rfl) (kc (cl (v := .bool r6) rfl (cns rfl rfl) rfl (impl_ValidBook_ok a1 _ hx5) nm) (kx (uNot rfl) (kx (mvO rfl) ?_))))
     rcases ite_some h with ⟨hb7, h⟩ | ⟨hb7, h⟩
     ·obtain ⟨r9, hx8, h⟩ := bind_some h
      refine kx (guF rfl (congrArg Bool.not hb7) (mvO h3)) (kc (Ev.guF rfl (congrArg Bool.not hb7) (cl (v := .bool r9) rfl (cns rfl rfl) rfl (impl_areDeals_ok a2 _ hx8) nm)) (kx (guF rfl (congrArg Bool.not hb7) (uNot rfl)) (kx (pkF rfl (congrArg Bool.not hb7) rfl) (kx (mvO rfl) (Rn (hA h3 (hN rfl hZ)) fun e10 h12 h13 => ?_)))))
      clear h3 h4
      cases h
      exact kd (show impl_dealsCode_c1_Q a2 _ _ from ⟨rfl, h12, h13⟩)
     refine kx (gsF rfl (congrArg Bool.not hb7)) (kc (Ev.gsF rfl (congrArg Bool.not hb7)) (kx (gsF rfl (congrArg Bool.not hb7)) (kx (pkT rfl (congrArg Bool.not hb7) rfl) (kx (mvO rfl) (Rn (hA h3 (hV (.bool true) rfl hZ)) fun e14 h16 h17 => ?_)))))
     clear h3 h4
     cases h
     exact kd (show impl_dealsCode_c1_Q a2 _ _ from ⟨rfl, h16, h17⟩)) ?_
 revert h hr39
 revert r38
 intro y20 hr39 h
 intro x e18 M19 hq37
 obtain ⟨rfl, h21, h22⟩ := hq37
 refine sN ?_
 rcases ite_some h with ⟨hb23, h⟩ | ⟨hb23, h⟩
 ·refine cT h22 hb23 (sq (Rg (kx (mvO rfl) (Rn (hV (.int .i64 1) rfl hZ) fun e24 h26 => sN (xx (bR (sR ?_)))))))
  clear h21 h22
  cases h
  exact eR (resT h26 res0) rfl
 refine cF h22 hb23 (sq (Rg (kx (mvO h21) (kx (lnS Try.underlying79 rfl) (kx (bGtr rfl rfl) (kx (mvO rfl) (Rn (hN rfl hZ) fun e27 h29 => sN ?_)))))))
 clear h21 h22
 rcases ite_some h with ⟨hb30, h⟩ | ⟨hb30, h⟩
 ·refine cT h29 hb30 (sq (Rg (kx (mvO rfl) (Rn (hV (.int .i64 3) rfl hZ) fun e31 h33 => sN (xx (bR (sR ?_)))))))
  clear h29
  cases h
  exact eR (resT h33 res0) rfl
 refine cF h29 hb30 (xx (bN (sN (sq (Rg (kx (mvO rfl) (Rn (hV (.int .i64 0) rfl hZ) fun e34 h36 => sN (xx ?_))))))))
 clear h29
 cases h
 exact eR (resT h36 res0) rfl
/-! ### loop.example/g01263/laws.toDeal (f73) -/
noncomputable def laws_toDeal (a1 : Deal) : Option (Int × Int × Int × Int × Int × Int) :=
 some (a1.Day, a1.Kind, a1.Tally, a1.From, a1.To, a1.Amount)
def laws_toDeal_enc (r : Int × Int × Int × Int × Int × Int) : AV := .agg [.int .i64 r.1, .int .i8 r.2.1, .int .i64 r.2.2.1, .int .i64 r.2.2.2.1, .int .i64 r.2.2.2.2.1, .int .i64 r.2.2.2.2.2]
theorem laws_toDeal_ok (a1 : Deal) (r : Int × Int × Int × Int × Int × Int) (h : laws_toDeal a1 = some r) : Ev (fun k => CN k 73 [.agg [.int .i64 a1.Day, .int .i8 a1.Kind, .int .i64 a1.Tally, .int .i64 a1.From, .int .i64 a1.To, .int .i64 a1.Amount]] []) (fun p => rRes p.2 p.1 = laws_toDeal_enc r) := by
 unfold laws_toDeal at h
 refine Ev.enter (F := fun k => f73 (CN k) k) (fun k => callN_eq rfl Try.func73 rfl rfl rfl (by decide +kernel) (f73_eq _ _)) (sq (Rg (kx (bxI rfl rfl ⟨rfl, rfl, by decide⟩) (ku (alO zero125) fun M2 hM3 => ?_))))
 have o4 : M2[([] : Mem).length]? = some (.live ⟨.box, 125, 6, [[.int .i64 0, .int .i8 0, .int .i64 0, .int .i64 0, .int .i64 0, .int .i64 0]]⟩) := push_new hM3
 refine Rn (hN rfl (hV (.loc ([] : Mem).length 1 0 0) rfl hZ)) fun e5 h7 h8 => sN (sq (Rg (ku (alO zero125) fun M10 hM11 => ?_)))
 have o12 := push_old hM11 o4
 have ne13 := ne_new o4
 have o14 : M10[M2.length]? = some (.live ⟨.box, 125, 6, [[.int .i64 0, .int .i8 0, .int .i64 0, .int .i64 0, .int .i64 0, .int .i64 0]]⟩) := push_new hM11
 refine Rn (hA h7 (hA h8 (hV (.loc M2.length 1 0 0) rfl hZ))) fun e15 h17 h18 h19 => sN (sq (Rg (kx (faP h17 ⟨ble rfl, blt rfl⟩ rfl) (kx (ldP rfl rfl) (kx (faO h19 o14 rfl) (kw (stO rfl rfl o14 rfl rfl ⟨rfl, ble rfl⟩ rfl rfl) fun M20 hM21 => ?_))))))
 clear h7 h8
 have o22 := set_ne hM21 ne13 o12
 have o23 : M20[M2.length]? = some (.live ⟨.box, 125, 6, [[.int .i64 a1.Day, .int .i8 0, .int .i64 0, .int .i64 0, .int .i64 0, .int .i64 0]]⟩) := set_same hM21 o14
 refine Rn (hA h17 (hA h18 (hA h19 hZ))) fun e24 h26 h27 h28 => sN (sq (Rg (kx (faP h26 ⟨ble rfl, blt rfl⟩ rfl) (kx (ldP rfl rfl) (kx (faO h28 o23 rfl) (kw (stO rfl rfl o23 rfl rfl ⟨rfl, ble rfl⟩ rfl rfl) fun M29 hM30 => ?_))))))
 clear h17 h18 h19
 have o31 := set_ne hM30 ne13 o22
 have o32 : M29[M2.length]? = some (.live ⟨.box, 125, 6, [[.int .i64 a1.Day, .int .i8 a1.Kind, .int .i64 0, .int .i64 0, .int .i64 0, .int .i64 0]]⟩) := set_same hM30 o23
 refine Rn (hA h26 (hA h27 (hA h28 hZ))) fun e33 h35 h36 h37 => sN (sq (Rg (kx (faP h35 ⟨ble rfl, blt rfl⟩ rfl) (kx (ldP rfl rfl) (kx (faO h37 o32 rfl) (kw (stO rfl rfl o32 rfl rfl ⟨rfl, ble rfl⟩ rfl rfl) fun M38 hM39 => ?_))))))
 clear h26 h27 h28
 have o40 := set_ne hM39 ne13 o31
 have o41 : M38[M2.length]? = some (.live ⟨.box, 125, 6, [[.int .i64 a1.Day, .int .i8 a1.Kind, .int .i64 a1.Tally, .int .i64 0, .int .i64 0, .int .i64 0]]⟩) := set_same hM39 o32
 refine Rn (hA h35 (hA h36 (hA h37 hZ))) fun e42 h44 h45 h46 => sN (sq (Rg (kx (faP h44 ⟨ble rfl, blt rfl⟩ rfl) (kx (ldP rfl rfl) (kx (faO h46 o41 rfl) (kw (stO rfl rfl o41 rfl rfl ⟨rfl, ble rfl⟩ rfl rfl) fun M47 hM48 => ?_))))))
 clear h35 h36 h37
 have o49 := set_ne hM48 ne13 o40
 have o50 : M47[M2.length]? = some (.live ⟨.box, 125, 6, [[.int .i64 a1.Day, .int .i8 a1.Kind, .int .i64 a1.Tally, .int .i64 a1.From, .int .i64 0, .int .i64 0]]⟩) := set_same hM48 o41
 refine Rn (hA h44 (hA h45 (hA h46 hZ))) fun e51 h53 h54 h55 => sN (sq (Rg (kx (faP h53 ⟨ble rfl, blt rfl⟩ rfl) (kx (ldP rfl rfl) (kx (faO h55 o50 rfl) (kw (stO rfl rfl o50 rfl rfl ⟨rfl, ble rfl⟩ rfl rfl) fun M56 hM57 => ?_))))))
 clear h44 h45 h46
 have o58 := set_ne hM57 ne13 o49
 have o59 : M56[M2.length]? = some (.live ⟨.box, 125, 6, [[.int .i64 a1.Day, .int .i8 a1.Kind, .int .i64 a1.Tally, .int .i64 a1.From, .int .i64 a1.To, .int .i64 0]]⟩) := set_same hM57 o50
 refine Rn (hA h53 (hA h54 (hA h55 hZ))) fun e60 h62 h63 h64 => sN (sq (Rg (kx (faP h62 ⟨ble rfl, blt rfl⟩ rfl) (kx (ldP rfl rfl) (kx (faO h64 o59 rfl) (kw (stO rfl rfl o59 rfl rfl ⟨rfl, ble rfl⟩ rfl rfl) fun M65 hM66 => ?_))))))
 clear h53 h54 h55
 have o67 := set_ne hM66 ne13 o58
 have o68 : M65[M2.length]? = some (.live ⟨.box, 125, 6, [[.int .i64 a1.Day, .int .i8 a1.Kind, .int .i64 a1.Tally, .int .i64 a1.From, .int .i64 a1.To, .int .i64 a1.Amount]]⟩) := set_same hM66 o59
 refine Rn (hA h63 (hA h64 hZ)) fun e69 h71 h72 => sN (sq (Rg (kx (ldOA h72 o68 rfl rfl (ble rfl) rfl) (kw (stO h71 rfl o67 rfl rfl ⟨rfl, ble rfl⟩ rfl rfl) fun M73 hM74 => ?_))))
 clear h62 h63 h64
 have o75 : M73[([] : Mem).length]? = some (.live ⟨.box, 125, 6, [[.int .i64 a1.Day, .int .i8 a1.Kind, .int .i64 a1.Tally, .int .i64 a1.From, .int .i64 a1.To, .int .i64 a1.Amount]]⟩) := set_same hM74 o67
 have o76 := set_ne hM74 (Ne.symm ne13) o68
 refine Rn (hA h71 hZ) fun e77 h79 => sN (xx ?_)
 clear h71 h72
 cases h
 exact eR (resC (ag := true) (sz := 6) ⟨by kernel_rfl, by kernel_rfl, by kernel_rfl⟩ (ldOA h79 o75 rfl rfl (ble rfl) rfl) res0) rfl
/-! ### loop.example/g01263/laws.toTallyS (f72) -/
abbrev laws_toTallyS_b1_S := Int × (List Tally)
abbrev laws_toTallyS_b1_R := (List Tally)
def laws_toTallyS_b1_RS (a1 : List Tally) (x4 : List Tally) (i1_1 : Nat) (s : laws_toTallyS_b1_S) (e : Env) (M : Mem) : Prop := eget e 0 = .sl none (a1.map Tally.c) ∧ eget e 3 = .lsl i1_1 s.2.length 0 s.2.length ∧ eget e 4 = .int .i64 s.1 ∧ M[i1_1]? = some (.live ⟨.grow, 135, 5, s.2.map Tally.c⟩) ∧ s.2.length = x4.length
def laws_toTallyS_b1_RR (a1 : List Tally) (x4 : List Tally) (i1_1 : Nat) (g : laws_toTallyS_b1_R) (x : Ex) (e : Env) (M : Mem) : Prop := x = .ext 0 ∧ eget e 3 = .lsl i1_1 g.length 0 g.length ∧ M[i1_1]? = some (.live ⟨.grow, 135, 5, g.map Tally.c⟩) ∧ g.length = x4.length
noncomputable def laws_toTallyS_b1 (a1 : List Tally) : laws_toTallyS_b1_S → Option (laws_toTallyS_b1_S ⊕ laws_toTallyS_b1_R) := fun (s1_1, s1_2) =>
 if (decide (s1_1 < (a1.length : Int))) = true then
  (rd a1 s1_1).bind fun x45 =>
  (laws_toTally x45).bind fun (r48, r49, r50, r51, r52) =>
  (rd s1_2 s1_1).bind fun x53 =>
  some (.inl ((IntKind.i64.wrap (s1_1 + 1)), (s1_2.set s1_1.toNat (Tally.mk r48 r49 r50 r51 r52))))
 else
  some (.inr s1_2)
theorem laws_toTallyS_b1_ok (a1 : List Tally) (x4 : List Tally) (i1_1 : Nat) (s : laws_toTallyS_b1_S) (r : laws_toTallyS_b1_S ⊕ laws_toTallyS_b1_R) (h : laws_toTallyS_b1 a1 s = some r) (e : Env) (M : Mem) (hs : laws_toTallyS_b1_RS a1 x4 i1_1 s e M) : Ev (fun k => (f72_l3 (CN k) k (prune [0, 3, 4] e) M).bind fun q => some q) (bQ (laws_toTallyS_b1_RS a1 x4 i1_1) (laws_toTallyS_b1_RR a1 x4 i1_1) r) := by
 obtain ⟨s1_1, s1_2⟩ := s
 unfold laws_toTallyS_b1 at h
 obtain ⟨h30, h32, h34, o36, hl37⟩ := hs
 generalize he29 : prune [0, 3, 4] e = e28
 have h31 := envp he29.symm rfl h30
 have h33 := envp he29.symm rfl h32
 have h35 := envp he29.symm rfl h34
 refine sq (sq (Rg (kx (mvO h35) (kx (mvO h31) (kx (lnS Try.underlying65 rfl) (kx (bLss rfl rfl) (Rn (hV (.sl none (a1.map Tally.c)) h31 (hV (.lsl i1_1 s1_2.length 0 s1_2.length) h33 (hV (.int .i64 s1_1) h35 (hN rfl hZ)))) fun e38 h40 h41 h42 h43 => sN ?_)))))))
 clear h31 h33 h35
 rcases ite_some h with ⟨hb44, h⟩ | ⟨hb44, h⟩
 ·obtain ⟨x45, hx46, h⟩ := bind_some h
  obtain ⟨⟨r48, r49, r50, r51, r52⟩, hx47, h⟩ := bind_some h
  obtain ⟨x53, hx54, h⟩ := bind_some h
  refine cT h43 hb44 (xx (sN (sq (bl (Rg (kx (mvO h41) (kx (mvO h42) (kx (mvO h40) (kx (mvO h42) (kx (ixS rfl rfl hx46 Tally.fl) (kx (ldPA rfl rfl rfl) (kc (cl (v := .agg [.int .i64 r48, .int .i64 r49, .int .i64 r50, .int .i64 r51, .int .i64 r52]) rfl (cns rfl rfl) rfl (laws_toTally_ok x45 _ hx47) nm) (kx (ixO rfl o36 rfl rfl (rd_get hx54).1 (rd_lt hx54).2) (kw (stR (u := x53) (u' := (Tally.mk r48 r49 r50 r51 r52)) rfl rfl o36 rfl (by rw [Nat.zero_add]; exact (rd_get hx54).2) ⟨rfl, ble rfl⟩ rfl rfl) fun M55 hM56 => ?_))))))))))))))
  rw [Nat.zero_add] at hM56
  have o57 : M55[i1_1]? = some (.live ⟨.grow, 135, 5, (s1_2.set s1_1.toNat (Tally.mk r48 r49 r50 r51 r52)).map Tally.c⟩) := set_same hM56 o36
  have hx58 := rd_set (u' := (Tally.mk r48 r49 r50 r51 r52)) hx54
  refine Rn (hA h40 (hA h41 (hA h42 hZ))) fun e59 h61 h62 h63 => bN (sN (Rg (kx (mvO h63) (kx (bAdd rfl rfl) (kx (mvO rfl) (Rn (hA h61 (hA h62 (hN rfl hZ))) fun e64 h66 h67 h68 => ?_))))))
  clear h40 h41 h42 h43 h61 h62
  cases h
  exact qN ⟨h66, (lslL (L' := (s1_2.set s1_1.toNat (Tally.mk r48 r49 r50 r51 r52)).length) h67 (by simp [hl37])), h68, o57, (by first | rfl | simp [hl37])⟩
 refine cF h43 hb44 (xx (sE ?_))
 cases h
 exact qE ⟨rfl, h41, o36, (by first | rfl | simp [hl37])⟩
noncomputable def laws_toTallyS (a1 : List Tally) : Option ((List Tally)) :=
 (mkS 40 (Tally.mk 0 0 0 0 0) (a1.length : Int)).bind fun x4 =>
 (Lw (laws_toTallyS_b1 a1) (0, x4)).bind fun y74 =>
 some y74
def laws_toTallyS_enc (r : (List Tally)) : AV := .sl (some 135) (r.map Tally.c)
theorem laws_toTallyS_ok (a1 : List Tally) (r : (List Tally)) (h : laws_toTallyS a1 = some r) : Ev (fun k => CN k 72 [.sl none (a1.map Tally.c)] []) (fun p => rRes p.2 p.1 = laws_toTallyS_enc r) := by
 unfold laws_toTallyS at h
 obtain ⟨x4, hx5, h⟩ := bind_some h
 refine Ev.enter (F := fun k => f72 (CN k) k) (fun k => callN_eq rfl Try.func72 rfl rfl rfl (by decide +kernel) (f72_eq _ _)) (sq (Rg (kx (mvO rfl) (Rn (hN rfl hZ) fun e1 h3 => sN (sq (Rg (kx (mvO h3) (kx (lnS Try.underlying65 rfl) (ku (mkO rfl rfl hx5 (c := Tally.c) zero135 Tally.fl (by decide)) fun M7 hM8 => ?_)))))))))
 have o9 : M7[([] : Mem).length]? = some (.live ⟨.grow, 135, 5, x4.map Tally.c⟩) := push_new hM8
 obtain ⟨y74, hr70, h⟩ := bind_some h
 refine kx (mvO rfl) (Rn (hA h3 (hV (.lsl ([] : Mem).length x4.length 0 x4.length) rfl hZ)) fun e10 h12 h13 => sN (sq (sq (Rg (kx (mvO rfl) (Rn (hA h12 (hA h13 (hV (.int .i64 0) rfl hZ))) fun e14 h16 h17 h18 => sN (bl (Ev.loop (RS := laws_toTallyS_b1_RS a1 x4 (([] : Mem).length)) (RR := laws_toTallyS_b1_RR a1 x4 (([] : Mem).length)) (fun s r h e M hs => laws_toTallyS_b1_ok a1 x4 (([] : Mem).length) s r h e M hs) hr70 ⟨h16, h17, h18, o9, rfl⟩ fun x e72 M73 hq71 => ?_))))))))
 clear h3 h12 h13
 obtain ⟨rfl, h75, o76, hl77⟩ := hq71
 refine bE (sN (sq (Rg (kx (mvO h75) (kx (mvO rfl) (Rn (hV (.lsl ([] : Mem).length y74.length 0 y74.length) rfl hZ) fun e78 h80 => sN (xx ?_)))))))
 clear h75
 cases h
 exact eR (resT h80 res0) (rr_row o76 rfl Tally.fl)
/-! ### loop.example/g01263/laws.toInt64S (f71) -/
abbrev laws_toInt64S_b1_S := Int × (List Int)
abbrev laws_toInt64S_b1_R := (List Int)
def laws_toInt64S_b1_RS (a1 : List Int) (x4 : List Int) (i1_1 : Nat) (s : laws_toInt64S_b1_S) (e : Env) (M : Mem) : Prop := eget e 0 = .sl none (a1.map (cI .i64)) ∧ eget e 3 = .lsl i1_1 s.2.length 0 s.2.length ∧ eget e 4 = .int .i64 s.1 ∧ M[i1_1]? = some (.live ⟨.grow, 2, 1, s.2.map (cI .i64)⟩) ∧ s.2.length = x4.length
def laws_toInt64S_b1_RR (a1 : List Int) (x4 : List Int) (i1_1 : Nat) (g : laws_toInt64S_b1_R) (x : Ex) (e : Env) (M : Mem) : Prop := x = .ext 0 ∧ eget e 3 = .lsl i1_1 g.length 0 g.length ∧ M[i1_1]? = some (.live ⟨.grow, 2, 1, g.map (cI .i64)⟩) ∧ g.length = x4.length
noncomputable def laws_toInt64S_b1 (a1 : List Int) : laws_toInt64S_b1_S → Option (laws_toInt64S_b1_S ⊕ laws_toInt64S_b1_R) := fun (s1_1, s1_2) =>
 if (decide (s1_1 < (a1.length : Int))) = true then
  (rd a1 s1_1).bind fun x45 =>
  (rd s1_2 s1_1).bind fun x47 =>
  some (.inl ((IntKind.i64.wrap (s1_1 + 1)), (s1_2.set s1_1.toNat x45)))
 else
  some (.inr s1_2)
theorem laws_toInt64S_b1_ok (a1 : List Int) (x4 : List Int) (i1_1 : Nat) (s : laws_toInt64S_b1_S) (r : laws_toInt64S_b1_S ⊕ laws_toInt64S_b1_R) (h : laws_toInt64S_b1 a1 s = some r) (e : Env) (M : Mem) (hs : laws_toInt64S_b1_RS a1 x4 i1_1 s e M) : Ev (fun k => (f71_l3 (CN k) k (prune [0, 3, 4] e) M).bind fun q => some q) (bQ (laws_toInt64S_b1_RS a1 x4 i1_1) (laws_toInt64S_b1_RR a1 x4 i1_1) r) := by
 obtain ⟨s1_1, s1_2⟩ := s
 unfold laws_toInt64S_b1 at h
 obtain ⟨h30, h32, h34, o36, hl37⟩ := hs
 generalize he29 : prune [0, 3, 4] e = e28
 have h31 := envp he29.symm rfl h30
 have h33 := envp he29.symm rfl h32
 have h35 := envp he29.symm rfl h34
 refine sq (sq (Rg (kx (mvO h35) (kx (mvO h31) (kx (lnS Try.underlying49 rfl) (kx (bLss rfl rfl) (Rn (hV (.sl none (a1.map (cI .i64))) h31 (hV (.lsl i1_1 s1_2.length 0 s1_2.length) h33 (hV (.int .i64 s1_1) h35 (hN rfl hZ)))) fun e38 h40 h41 h42 h43 => sN ?_)))))))
 clear h31 h33 h35
 rcases ite_some h with ⟨hb44, h⟩ | ⟨hb44, h⟩
 ·obtain ⟨x45, hx46, h⟩ := bind_some h
  obtain ⟨x47, hx48, h⟩ := bind_some h
  refine cT h43 hb44 (xx (sN (sq (bl (Rg (kx (mvO h41) (kx (mvO h42) (kx (mvO h40) (kx (mvO h42) (kx (ixS rfl rfl hx46 (cI_fl _)) (kx (ldP rfl rfl) (kx (ixO rfl o36 rfl rfl (rd_get hx48).1 (rd_lt hx48).2) (kw (stR (u := x47) (u' := x45) rfl rfl o36 rfl (by rw [Nat.zero_add]; exact (rd_get hx48).2) ⟨rfl, ble rfl⟩ rfl rfl) fun M49 hM50 => ?_)))))))))))))
  rw [Nat.zero_add] at hM50
  have o51 : M49[i1_1]? = some (.live ⟨.grow, 2, 1, (s1_2.set s1_1.toNat x45).map (cI .i64)⟩) := set_same hM50 o36
  have hx52 := rd_set (u' := x45) hx48
  refine Rn (hA h40 (hA h41 (hA h42 hZ))) fun e53 h55 h56 h57 => bN (sN (Rg (kx (mvO h57) (kx (bAdd rfl rfl) (kx (mvO rfl) (Rn (hA h55 (hA h56 (hN rfl hZ))) fun e58 h60 h61 h62 => ?_))))))
  clear h40 h41 h42 h43 h55 h56
  cases h
  exact qN ⟨h60, (lslL (L' := (s1_2.set s1_1.toNat x45).length) h61 (by simp [hl37])), h62, o51, (by first | rfl | simp [hl37])⟩
 refine cF h43 hb44 (xx (sE ?_))
 cases h
 exact qE ⟨rfl, h41, o36, (by first | rfl | simp [hl37])⟩
noncomputable def laws_toInt64S (a1 : List Int) : Option ((List Int)) :=
 (mkS 8 0 (a1.length : Int)).bind fun x4 =>
 (Lw (laws_toInt64S_b1 a1) (0, x4)).bind fun y68 =>
 some y68
def laws_toInt64S_enc (r : (List Int)) : AV := .sl (some 2) (r.map (cI .i64))
theorem laws_toInt64S_ok (a1 : List Int) (r : (List Int)) (h : laws_toInt64S a1 = some r) : Ev (fun k => CN k 71 [.sl none (a1.map (cI .i64))] []) (fun p => rRes p.2 p.1 = laws_toInt64S_enc r) := by
 unfold laws_toInt64S at h
 obtain ⟨x4, hx5, h⟩ := bind_some h
 refine Ev.enter (F := fun k => f71 (CN k) k) (fun k => callN_eq rfl Try.func71 rfl rfl rfl (by decide +kernel) (f71_eq _ _)) (sq (Rg (kx (mvO rfl) (Rn (hN rfl hZ) fun e1 h3 => sN (sq (Rg (kx (mvO h3) (kx (lnS Try.underlying49 rfl) (ku (mkO rfl rfl hx5 (c := (cI .i64)) zero2 (cI_fl _) (by decide)) fun M7 hM8 => ?_)))))))))
 have o9 : M7[([] : Mem).length]? = some (.live ⟨.grow, 2, 1, x4.map (cI .i64)⟩) := push_new hM8
 obtain ⟨y68, hr64, h⟩ := bind_some h
 refine kx (mvO rfl) (Rn (hA h3 (hV (.lsl ([] : Mem).length x4.length 0 x4.length) rfl hZ)) fun e10 h12 h13 => sN (sq (sq (Rg (kx (mvO rfl) (Rn (hA h12 (hA h13 (hV (.int .i64 0) rfl hZ))) fun e14 h16 h17 h18 => sN (bl (Ev.loop (RS := laws_toInt64S_b1_RS a1 x4 (([] : Mem).length)) (RR := laws_toInt64S_b1_RR a1 x4 (([] : Mem).length)) (fun s r h e M hs => laws_toInt64S_b1_ok a1 x4 (([] : Mem).length) s r h e M hs) hr64 ⟨h16, h17, h18, o9, rfl⟩ fun x e66 M67 hq65 => ?_))))))))
 clear h3 h12 h13
 obtain ⟨rfl, h69, o70, hl71⟩ := hq65
 refine bE (sN (sq (Rg (kx (mvO h69) (kx (mvO rfl) (Rn (hV (.lsl ([] : Mem).length y68.length 0 y68.length) rfl hZ) fun e72 h74 => sN (xx ?_)))))))
 clear h69
 cases h
 exact eR (resT h74 res0) (rr_row o70 rfl (cI_fl _))
/-! ### loop.example/g01263/spec.l07Same (f70) -/
def spec_l07Same_c1_Q (a1 : Book) (a2 : Book) (g : Bool) (q : Out) : Prop := q.1 = .nrm ∧ eget q.2.1 0 = .pt none [.int .i64 a1.Day, .sl none (a1.Cash.map (cI .i64)), .sl none (a1.Tallies.map Tally.c)] ∧ eget q.2.1 1 = .pt none [.int .i64 a2.Day, .sl none (a2.Cash.map (cI .i64)), .sl none (a2.Tallies.map Tally.c)] ∧ eget q.2.1 39 = .bool g
abbrev spec_l07Same_b1_S := Int
abbrev spec_l07Same_b1_R := Unit ⊕ Unit
def spec_l07Same_b1_RS (a1 : Book) (a2 : Book) (s : spec_l07Same_b1_S) (e : Env) (M : Mem) : Prop := eget e 0 = .pt none [.int .i64 a1.Day, .sl none (a1.Cash.map (cI .i64)), .sl none (a1.Tallies.map Tally.c)] ∧ eget e 1 = .pt none [.int .i64 a2.Day, .sl none (a2.Cash.map (cI .i64)), .sl none (a2.Tallies.map Tally.c)] ∧ eget e 5 = .int .i64 s
def spec_l07Same_b1_RR (a1 : Book) (a2 : Book) (r : spec_l07Same_b1_R) (x : Ex) (e : Env) (M : Mem) : Prop :=
  match r with
  | (.inl g) => x = .ret ∧ eget e 4 = .bool false
  | (.inr g) => x = .ext 0 ∧ True
noncomputable def spec_l07Same_b1 (a1 : Book) (a2 : Book) : spec_l07Same_b1_S → Option (spec_l07Same_b1_S ⊕ spec_l07Same_b1_R) := fun s1_1 =>
 if (decide (s1_1 < (a1.Tallies.length : Int))) = true then
  (rd a1.Tallies s1_1).bind fun x62 =>
  (rd a2.Tallies s1_1).bind fun x64 =>
  if ((x62.Debtor == x64.Debtor) && ((x62.Holder == x64.Holder) && ((x62.Cut == x64.Cut) && ((x62.Amount == x64.Amount) && ((x62.Left == x64.Left) && true))))) = true then
   some (.inl (IntKind.i64.wrap (s1_1 + 1)))
  else
   some (.inr (.inl ()))
 else
  some (.inr (.inr ()))
theorem spec_l07Same_b1_ok (a1 : Book) (a2 : Book) (s : spec_l07Same_b1_S) (r : spec_l07Same_b1_S ⊕ spec_l07Same_b1_R) (h : spec_l07Same_b1 a1 a2 s = some r) (e : Env) (M : Mem) (hs : spec_l07Same_b1_RS a1 a2 s e M) : Ev (fun k => (f70_l4 (CN k) k (prune [0, 1, 5] e) M).bind fun q => some q) (bQ (spec_l07Same_b1_RS a1 a2) (spec_l07Same_b1_RR a1 a2) r) := by
 revert h hs
 revert s
 intro s1_1 h hs
 unfold spec_l07Same_b1 at h
 obtain ⟨h49, h51, h53⟩ := hs
 generalize he48 : prune [0, 1, 5] e = e47
 have h50 := envp he48.symm rfl h49
 have h52 := envp he48.symm rfl h51
 have h54 := envp he48.symm rfl h53
 refine sq (sq (Rg (kx (mvO h54) (kx (mvO h50) (kx (ncP rfl) (kx (faP rfl ⟨ble rfl, blt rfl⟩ rfl) (kx (ldP rfl rfl) (kx (lnS Try.underlying75 rfl) (kx (bLss rfl rfl) (Rn (hV (.pt none [.int .i64 a1.Day, .sl none (a1.Cash.map (cI .i64)), .sl none (a1.Tallies.map Tally.c)]) h50 (hV (.pt none [.int .i64 a2.Day, .sl none (a2.Cash.map (cI .i64)), .sl none (a2.Tallies.map Tally.c)]) h52 (hV (.int .i64 s1_1) h54 (hN rfl hZ)))) fun e55 h57 h58 h59 h60 => sN ?_))))))))))
 clear h50 h52 h54
 rcases ite_some h with ⟨hb61, h⟩ | ⟨hb61, h⟩
 ·obtain ⟨x62, hx63, h⟩ := bind_some h
  obtain ⟨x64, hx65, h⟩ := bind_some h
  refine cT h60 hb61 (xx (sN (sq (bl (sq (Rd (kf (mvO h57) (kf (ncP rfl) (kf (faP rfl ⟨ble rfl, blt rfl⟩ rfl) (kf (ldP rfl rfl) (kf (mvO h59) (kf (ixS rfl rfl hx63 Tally.fl) (kf (ldPA rfl rfl rfl) (kf (mvO h58) (kf (ncP rfl) (kf (faP rfl ⟨ble rfl, blt rfl⟩ rfl) (kf (ldP rfl rfl) (kf (mvO h59) (kf (ixS rfl rfl hx65 Tally.fl) (kf (ldPA rfl rfl rfl) (kf (gNeq rfl rfl (by kernel_rfl) rfl) (fZ (Rn (hA h57 (hA h58 (hA h59 (hN rfl hZ)))) fun e66 h68 h69 h70 h71 => sN ?_)))))))))))))))))))))))
  clear h57 h58 h59 h60
  rcases ite_some h with ⟨hb72, h⟩ | ⟨hb72, h⟩
  ·refine cF h71 (congrArg Bool.not hb72) (xx (bN (sN (Rg (kx (mvO h70) (kx (bAdd rfl rfl) (kx (mvO rfl) (Rn (hA h68 (hA h69 (hN rfl hZ))) fun e73 h75 h76 h77 => ?_))))))))
   clear h68 h69 h71
   cases h
   exact qN ⟨h75, h76, h77⟩
  refine cT h71 (congrArg Bool.not hb72) (sq (Rg (kx (mvO rfl) (Rn (hV (.bool false) rfl hZ) fun e78 h80 => sN (xx (bR (sR ?_)))))))
  clear h68 h69 h70 h71
  cases h
  exact qR ⟨rfl, h80⟩
 refine cF h60 hb61 (xx (sE ?_))
 cases h
 exact qE ⟨rfl, trivial⟩
noncomputable def spec_l07Same (a1 : Book) (a2 : Book) : Option Bool :=
 (if (a1.Day != a2.Day) = true then
  some true
 else
  (spec_l00Same a1.Cash a2.Cash).bind fun r12 =>
  if r12 = true then
   some ((a1.Tallies.length : Int) != (a2.Tallies.length : Int))
  else
   some true).bind fun y26 =>
 if y26 = true then
  some false
 else
  (Lw (spec_l07Same_b1 a1 a2) 0).bind fun r => match r with
  | (.inl _) =>
   some false
  | (.inr _) =>
   some true
def spec_l07Same_enc (r : Bool) : AV := .bool r
theorem spec_l07Same_ok (a1 : Book) (a2 : Book) (r : Bool) (h : spec_l07Same a1 a2 = some r) : Ev (fun k => CN k 70 [.pt none [.int .i64 a1.Day, .sl none (a1.Cash.map (cI .i64)), .sl none (a1.Tallies.map Tally.c)], .pt none [.int .i64 a2.Day, .sl none (a2.Cash.map (cI .i64)), .sl none (a2.Tallies.map Tally.c)]] []) (fun p => rRes p.2 p.1 = spec_l07Same_enc r) := by
 unfold spec_l07Same at h
 obtain ⟨r93, hr94, h⟩ := bind_some h
 refine Ev.enter (F := fun k => f70 (CN k) k) (fun k => callN_eq rfl Try.func70 rfl rfl rfl (by decide +kernel) (f70_eq _ _)) (sq (Rg (kx (mvO rfl) (Rn (hN rfl (hN rfl hZ)) fun e1 h3 h4 => sN (sq (sq ?_))))))
 refine Ev.cut (Q1 := spec_l07Same_c1_Q a1 a2 r93) (by
     have h := hr94
     refine Rd (kf (mvO h3) (kf (ncP rfl) (kf (faP rfl ⟨ble rfl, blt rfl⟩ rfl) (kf (ldP rfl rfl) (kf (mvO h4) (kf (ncP rfl) (kf (faP rfl ⟨ble rfl, blt rfl⟩ rfl) (kf (ldP rfl rfl) (kf (bNeq rfl rfl) (kf (mvO rfl) ?_))))))))))
     rcases ite_some h with ⟨hb5, h⟩ | ⟨hb5, h⟩
     ·refine kf (gsF rfl hb5) (kf (gsF rfl hb5) (kf (gsF rfl hb5) (kf (gsF rfl hb5) (kf (gsF rfl hb5) (kf (gsF rfl hb5) (kf (gsF rfl hb5) (kf (gsF rfl hb5) (fc (Ev.gsF rfl hb5) (kf (gsF rfl hb5) (kf (pkT rfl hb5 rfl) (kf (mvO rfl) (kf (gsF rfl rfl) (kf (gsF rfl rfl) (kf (gsF rfl rfl) (kf (gsF rfl rfl) (kf (gsF rfl rfl) (kf (gsF rfl rfl) (kf (gsF rfl rfl) (kf (gsF rfl rfl) (kf (gsF rfl rfl) (kf (gsF rfl rfl) (kf (gsF rfl rfl) (kf (pkT rfl rfl rfl) (fZ (Rn (hA h3 (hA h4 (hV (.bool true) rfl hZ))) fun e6 h8 h9 h10 => ?_)))))))))))))))))))))))))
      clear h3 h4
      cases h
      exact kd (show spec_l07Same_c1_Q a1 a2 _ _ from ⟨rfl, h8, h9, h10⟩)
     obtain ⟨r12, hx11, h⟩ := bind_some h
     refine kf (guF rfl hb5 (mvO h3)) (kf (guF rfl hb5 (ncP rfl)) (kf (guF rfl hb5 (faP rfl ⟨ble rfl, blt rfl⟩ rfl)) (kf (guF rfl hb5 (ldP rfl rfl)) (kf (guF rfl hb5 (mvO h4)) (kf (guF rfl hb5 (ncP rfl)) (kf (guF rfl hb5 (faP rfl ⟨ble rfl, blt rfl⟩ rfl)) (kf (guF rfl hb5 (ldP rfl rfl)) (fc (Ev.guF rfl hb5 (cl (v := .bool r12) rfl (cns rfl (cns rfl rfl)) rfl (spec_l00Same_ok a1.Cash a2.Cash _ hx11) nm)) (kf (guF rfl hb5 (uNot rfl)) (kf (pkF rfl hb5 rfl) (kf (mvO rfl) ?_)))))))))))
     rcases ite_some h with ⟨hb13, h⟩ | ⟨hb13, h⟩
     ·refine kf (guF rfl (congrArg Bool.not hb13) (mvO h3)) (kf (guF rfl (congrArg Bool.not hb13) (ncP rfl)) (kf (guF rfl (congrArg Bool.not hb13) (faP rfl ⟨ble rfl, blt rfl⟩ rfl)) (kf (guF rfl (congrArg Bool.not hb13) (ldP rfl rfl)) (kf (guF rfl (congrArg Bool.not hb13) (lnS Try.underlying75 rfl)) (kf (guF rfl (congrArg Bool.not hb13) (mvO h4)) (kf (guF rfl (congrArg Bool.not hb13) (ncP rfl)) (kf (guF rfl (congrArg Bool.not hb13) (faP rfl ⟨ble rfl, blt rfl⟩ rfl)) (kf (guF rfl (congrArg Bool.not hb13) (ldP rfl rfl)) (kf (guF rfl (congrArg Bool.not hb13) (lnS Try.underlying75 rfl)) (kf (guF rfl (congrArg Bool.not hb13) (bNeq rfl rfl)) (kf (pkF rfl (congrArg Bool.not hb13) rfl) (fZ (Rn (hA h3 (hA h4 (hN rfl hZ))) fun e14 h16 h17 h18 => ?_)))))))))))))
      clear h3 h4
      cases h
      exact kd (show spec_l07Same_c1_Q a1 a2 _ _ from ⟨rfl, h16, h17, h18⟩)
     refine kf (gsF rfl (congrArg Bool.not hb13)) (kf (gsF rfl (congrArg Bool.not hb13)) (kf (gsF rfl (congrArg Bool.not hb13)) (kf (gsF rfl (congrArg Bool.not hb13)) (kf (gsF rfl (congrArg Bool.not hb13)) (kf (gsF rfl (congrArg Bool.not hb13)) (kf (gsF rfl (congrArg Bool.not hb13)) (kf (gsF rfl (congrArg Bool.not hb13)) (kf (gsF rfl (congrArg Bool.not hb13)) (kf (gsF rfl (congrArg Bool.not hb13)) (kf (gsF rfl (congrArg Bool.not hb13)) (kf (pkT rfl (congrArg Bool.not hb13) rfl) (fZ (Rn (hA h3 (hA h4 (hV (.bool true) rfl hZ))) fun e19 h21 h22 h23 => ?_)))))))))))))
     clear h3 h4
     cases h
     exact kd (show spec_l07Same_c1_Q a1 a2 _ _ from ⟨rfl, h21, h22, h23⟩)) ?_
 revert h hr94
 revert r93
 intro y26 hr94 h
 intro x e24 M25 hq92
 obtain ⟨rfl, h27, h28, h29⟩ := hq92
 refine sN ?_
 rcases ite_some h with ⟨hb30, h⟩ | ⟨hb30, h⟩
 ·refine cT h29 hb30 (sq (Rg (kx (mvO rfl) (Rn (hV (.bool false) rfl hZ) fun e31 h33 => sN (xx (sR ?_))))))
  clear h27 h28 h29
  cases h
  exact eR (resT h33 res0) rfl
 obtain ⟨r81, hr82, h⟩ := bind_some h
 refine cF h29 hb30 (xx (sN (sq (sq (Rg (kx (mvO rfl) (Rn (hV (.pt none [.int .i64 a1.Day, .sl none (a1.Cash.map (cI .i64)), .sl none (a1.Tallies.map Tally.c)]) h27 (hV (.pt none [.int .i64 a2.Day, .sl none (a2.Cash.map (cI .i64)), .sl none (a2.Tallies.map Tally.c)]) h28 (hV (.int .i64 0) rfl hZ))) fun e34 h36 h37 h38 => sN (bl ?_))))))))
 clear h27 h28 h29
 rcases r81 with _ | _
 ·refine Ev.loop (RS := spec_l07Same_b1_RS a1 a2) (RR := spec_l07Same_b1_RR a1 a2) (fun s r h e M hs => spec_l07Same_b1_ok a1 a2 s r h e M hs) hr82 ⟨h36, h37, h38⟩ fun x e84 M85 hq83 => ?_
  obtain ⟨rfl, h86⟩ := hq83
  refine bR (sR ?_)
  cases h
  exact eR (resT h86 res0) rfl
 refine Ev.loop (RS := spec_l07Same_b1_RS a1 a2) (RR := spec_l07Same_b1_RR a1 a2) (fun s r h e M hs => spec_l07Same_b1_ok a1 a2 s r h e M hs) hr82 ⟨h36, h37, h38⟩ fun x e87 M88 hq83 => ?_
 obtain ⟨rfl, _⟩ := hq83
 refine bE (sN (sq (Rg (kx (mvO rfl) (Rn (hV (.bool true) rfl hZ) fun e89 h91 => sN (xx ?_))))))
 cases h
 exact eR (resT h91 res0) rfl
/-! ### loop.example/g01263/spec.l07All (f69) -/
abbrev spec_l07All_b1_S := Int × Int × (List Int) × (List Tally) × (List Book)
abbrev spec_l07All_b1_R := (Int × Int) ⊕ (Int × (List Int) × (List Tally) × (List Book))
def spec_l07All_b1_RS (a2 : List Deal) (i1_1 : Nat) (i1_2 : Nat) (s : spec_l07All_b1_S) (e : Env) (M : Mem) : Prop := eget e 1 = .sl none (a2.map Deal.c) ∧ eget e 7 = .lsl i1_1 s.2.2.2.2.length 0 s.2.2.2.2.length ∧ eget e 8 = .loc i1_2 1 0 0 ∧ eget e 9 = .int .i64 s.1 ∧ M[i1_2]? = some (.live ⟨.box, 77, 3, [[.int .i64 s.2.1, .sl none (s.2.2.1.map (cI .i64)), .sl none (s.2.2.2.1.map Tally.c)]]⟩) ∧ M[i1_1]? = some (.live ⟨.grow, 77, 3, s.2.2.2.2.map Book.c⟩)
def spec_l07All_b1_RR (a2 : List Deal) (i1_1 : Nat) (i1_2 : Nat) (r : spec_l07All_b1_R) (x : Ex) (e : Env) (M : Mem) : Prop :=
  match r with
  | (.inl g) => x = .ret ∧ eget e 4 = .lit 77 (([] : List Book).map Book.c) ∧ eget e 5 = .int .i64 g.1 ∧ eget e 6 = .int .i64 g.2
  | (.inr g) => x = .ext 0 ∧ eget e 7 = .lsl i1_1 g.2.2.2.length 0 g.2.2.2.length ∧ M[i1_2]? = some (.live ⟨.box, 77, 3, [[.int .i64 g.1, .sl none (g.2.1.map (cI .i64)), .sl none (g.2.2.1.map Tally.c)]]⟩) ∧ M[i1_1]? = some (.live ⟨.grow, 77, 3, g.2.2.2.map Book.c⟩)
noncomputable def spec_l07All_b1 (a2 : List Deal) : spec_l07All_b1_S → Option (spec_l07All_b1_S ⊕ spec_l07All_b1_R) := fun (s1_1, s1_2, s1_3, s1_4, s1_5) =>
 if (decide (s1_1 < (a2.length : Int))) = true then
  (rd a2 s1_1).bind fun x71 =>
  (spec_l07Do (Book.mk s1_2 s1_3 s1_4) x71).bind fun r => match r with
  | (.inl r74) =>
   if (r74 != 0) = true then
    some (.inr (.inl (r74, s1_1)))
   else
    none
  | (.inr (r122, r123, r124)) =>
   (app 56 s1_5 [(Book.mk r122 r123 r124)]).bind fun x166 =>
   some (.inl ((IntKind.i64.wrap (s1_1 + 1)), r122, r123, r124, x166))
 else
  some (.inr (.inr (s1_2, s1_3, s1_4, s1_5)))
theorem spec_l07All_b1_ok (a2 : List Deal) (i1_1 : Nat) (i1_2 : Nat) (ne22 : i1_1 ≠ i1_2) (s : spec_l07All_b1_S) (r : spec_l07All_b1_S ⊕ spec_l07All_b1_R) (h : spec_l07All_b1 a2 s = some r) (e : Env) (M : Mem) (hs : spec_l07All_b1_RS a2 i1_1 i1_2 s e M) : Ev (fun k => (f69_l4 (CN k) k (prune [1, 7, 8, 9] e) M).bind fun q => some q) (bQ (spec_l07All_b1_RS a2 i1_1 i1_2) (spec_l07All_b1_RR a2 i1_1 i1_2) r) := by
 obtain ⟨s1_1, s1_2, s1_3, s1_4, s1_5⟩ := s
 unfold spec_l07All_b1 at h
 obtain ⟨h53, h55, h57, h59, o62, o61⟩ := hs
 generalize he52 : prune [1, 7, 8, 9] e = e51
 have h54 := envp he52.symm rfl h53
 have h56 := envp he52.symm rfl h55
 have h58 := envp he52.symm rfl h57
 have h60 := envp he52.symm rfl h59
 refine sq (sq (Rg (kx (mvO h60) (kx (mvO h54) (kx (lnS Try.underlying79 rfl) (kx (bLss rfl rfl) (Rn (hV (.sl none (a2.map Deal.c)) h54 (hV (.lsl i1_1 s1_5.length 0 s1_5.length) h56 (hV (.loc i1_2 1 0 0) h58 (hV (.int .i64 s1_1) h60 (hN rfl hZ))))) fun e63 h65 h66 h67 h68 h69 => sN ?_)))))))
 clear h54 h56 h58 h60
 rcases ite_some h with ⟨hb70, h⟩ | ⟨hb70, h⟩
 ·obtain ⟨x71, hx72, h⟩ := bind_some h
  obtain ⟨q184, hx73, h⟩ := bind_some h
  refine cT h69 hb70 (xx (sN (sq (bl (sq (Rg (kx (mvO h65) (kx (mvO h68) (kx (ixS rfl rfl hx72 Deal.fl) ?_)))))))))
  rcases q184 with r74 | ⟨r122, r123, r124⟩
  ·refine kc (cl (v := .tup [.agg [.int .i64 0, .nils, .nils], .int .i64 r74]) rfl (cns h67 (cns rfl rfl)) (ra1 (ra1_loc o62 rfl rfl rfl ⟨rfl, blt rfl⟩) (ra1 rfl ra0)) (spec_l07Do_ok (Book.mk s1_2 s1_3 s1_4) x71 _ hx73) (fun _ => (own_tup (oa1 (own2_agg (oa1 rfl (oa1 rfl (oa1 rfl oa0)))) (oa1 rfl oa0))))) (kx (mvO rfl) (kx (exT rfl rfl) (kx (exT rfl rfl) (ku (alO zero77) fun M76 hM77 => ?_))))
   have o78 := push_old hM77 o61
   have ne79 := ne_new o61
   have o80 := push_old hM77 o62
   have ne81 := ne_new o62
   have o82 : M76[M.length]? = some (.live ⟨.box, 77, 3, [[.int .i64 0, .nils, .nils]]⟩) := push_new hM77
   refine kw (stO rfl rfl o82 rfl rfl ⟨rfl, ble rfl⟩ rfl rfl) fun M83 hM84 => ?_
   have o85 := set_ne hM84 ne79 o78
   have o86 := set_ne hM84 ne81 o80
   have o87 : M83[M.length]? = some (.live ⟨.box, 77, 3, [[.int .i64 0, .nils, .nils]]⟩) := set_same hM84 o82
   refine kx (mvO rfl) (Rn (hA h65 (hA h66 (hA h67 (hA h68 (hV (.loc M.length 1 0 0) rfl (hN rfl hZ)))))) fun e88 h90 h91 h92 h93 h94 h95 => sN (sq (sq (Rg (kx (mvO h95) (kx (bNeq rfl rfl) (Rn (hA h90 (hA h91 (hA h92 (hA h93 (hA h94 (hA h95 (hN rfl hZ))))))) fun e96 h98 h99 h100 h101 h102 h103 h104 => sN ?_)))))))
   clear h65 h66 h67 h68 h69 h90 h91 h92 h93 h94 h95
   rcases ite_some h with ⟨hb105, h⟩ | ⟨hb105, h⟩
   ·refine cT h104 hb105 (sq (Rg (kx (litI rfl rfl ⟨rfl, by decide⟩) (kx (mvO h103) (kx (mvO h101) (kx (mvO rfl) (kx (mvO rfl) (kx (mvO rfl) (Rn (hN rfl (hN rfl (hN rfl hZ))) fun e106 h108 h109 h110 => sN (xx (sR (bR (sR ?_)))))))))))))
    clear h100 h101 h102 h103 h104 h98 h99
    cases h
    exact qR ⟨rfl, h108, h109, h110⟩
   refine cF h104 hb105 (xx (sN (sq (Rg (kx (ldOA h102 o87 rfl rfl (ble rfl) rfl) (kw (stO h100 rfl o86 rfl rfl ⟨rfl, ble rfl⟩ rfl rfl) fun M111 hM112 => ?_))))))
   have o113 := set_ne hM112 ne22 o85
   have o114 : M111[i1_2]? = some (.live ⟨.box, 77, 3, [[.int .i64 0, .nils, .nils]]⟩) := set_same hM112 o86
   have o115 := set_ne hM112 (Ne.symm ne81) o87
   refine Rn (hA h98 (hA h99 (hA h100 (hA h101 hZ)))) fun e116 h118 h119 h120 h121 => sN (Rg (kx (mvO h119) (kx (ldOA h120 o114 rfl rfl (ble rfl) rfl) ?_)))
   clear h100 h101 h102 h103 h104 h98 h99
   cases h
  refine kc (cl (v := .tup [.agg [.int .i64 r122, .sl (some 2) (r123.map (cI .i64)), .sl (some 135) (r124.map Tally.c)], .int .i64 0]) rfl (cns h67 (cns rfl rfl)) (ra1 (ra1_loc o62 rfl rfl rfl ⟨rfl, blt rfl⟩) (ra1 rfl ra0)) (spec_l07Do_ok (Book.mk s1_2 s1_3 s1_4) x71 _ hx73) (fun _ => (own_tup (oa1 (own2_agg (oa1 rfl (oa1 (own1_row' (c := (cI .i64)) (fun _ => rfl)) (oa1 (own1_row' (c := Tally.c) Tally.flF) oa0)))) (oa1 rfl oa0))))) (kx (mvO rfl) (kx (exT rfl rfl) (kx (exT rfl rfl) (ku (alO zero77) fun M126 hM127 => ?_))))
  have o128 := push_old hM127 o61
  have ne129 := ne_new o61
  have o130 := push_old hM127 o62
  have ne131 := ne_new o62
  have o132 : M126[M.length]? = some (.live ⟨.box, 77, 3, [[.int .i64 0, .nils, .nils]]⟩) := push_new hM127
  refine kw (stO rfl rfl o132 rfl rfl ⟨rfl, ble rfl⟩ rfl rfl) fun M133 hM134 => ?_
  have o135 := set_ne hM134 ne129 o128
  have o136 := set_ne hM134 ne131 o130
  have o137 : M133[M.length]? = some (.live ⟨.box, 77, 3, [[.int .i64 r122, .sl none (r123.map (cI .i64)), .sl none (r124.map Tally.c)]]⟩) := set_same hM134 o132
  refine kx (mvO rfl) (Rn (hA h65 (hA h66 (hA h67 (hA h68 (hV (.loc M.length 1 0 0) rfl (hV (.int .i64 0) rfl hZ)))))) fun e138 h140 h141 h142 h143 h144 h145 => sN (sq (sq (Rg (kx (mvO h145) (kx (bNeq rfl rfl) (Rn (hA h140 (hA h141 (hA h142 (hA h143 (hA h144 (hA h145 (hV (.bool false) rfl hZ))))))) fun e146 h148 h149 h150 h151 h152 h153 h154 => sN (cF h154 rfl (xx (sN (sq (Rg (kx (ldOA h152 o137 rfl rfl (ble rfl) rfl) (kw (stO h150 rfl o136 rfl rfl ⟨rfl, ble rfl⟩ rfl rfl) fun M155 hM156 => ?_))))))))))))))
  clear h65 h66 h67 h68 h69 h140 h141 h142 h143 h144 h145
  have o157 := set_ne hM156 ne22 o135
  have o158 : M155[i1_2]? = some (.live ⟨.box, 77, 3, [[.int .i64 r122, .sl none (r123.map (cI .i64)), .sl none (r124.map Tally.c)]]⟩) := set_same hM156 o136
  have o159 := set_ne hM156 (Ne.symm ne131) o137
  obtain ⟨x166, hx167, h⟩ := bind_some h
  refine Rn (hA h148 (hA h149 (hA h150 (hA h151 hZ)))) fun e160 h162 h163 h164 h165 => sN (Rg (kx (mvO h163) (kx (ldOA h164 o158 rfl rfl (ble rfl) rfl) (kx (litI (cns rfl rfl) rfl ⟨rfl, by decide⟩) (kw (apO rfl o157 rfl (elT (c := Book.c) (xs := [(Book.mk r122 r123 r124)]) rfl) hx167 Book.fl (by decide)) fun M168 hM169 => ?_)))))
  clear h148 h149 h150 h151 h152 h153 h154
  have o170 : M168[i1_1]? = some (.live ⟨.grow, 77, 3, x166.map Book.c⟩) := set_same hM169 o157
  have o171 := set_ne hM169 (Ne.symm ne22) o158
  refine kx (mvO rfl) (Rn (hA h162 (hV (.lsl i1_1 x166.length 0 x166.length) rfl (hA h164 (hA h165 hZ)))) fun e172 h174 h175 h176 h177 => bN (sN (Rg (kx (mvO h177) (kx (bAdd rfl rfl) (kx (mvO rfl) (Rn (hA h174 (hA h175 (hA h176 (hN rfl hZ)))) fun e178 h180 h181 h182 h183 => ?_)))))))
  clear h162 h164 h165 h174 h175 h176
  cases h
  exact qN ⟨h180, h181, h182, h183, o171, o170⟩
 refine cF h69 hb70 (xx (sE ?_))
 cases h
 exact qE ⟨rfl, h66, o62, o61⟩
noncomputable def spec_l07All (a1 : Book) (a2 : List Deal) : Option ((List Book) × Int × Int) :=
 (spec_l07Copy a1).bind fun (r15, r16, r17) =>
 (Lw (spec_l07All_b1 a2) (0, r15, r16, r17, ([] : List Book))).bind fun r => match r with
 | (.inl (y190, y191)) =>
  some (([] : List Book), y190, y191)
 | (.inr (y197, y198, y199, y200)) =>
  some (y200, 0, 0)
def spec_l07All_enc (r : (List Book) × Int × Int) : AV := .tup [.sl (some 77) (r.1.map Book.c), .int .i64 r.2.1, .int .i64 r.2.2]
theorem spec_l07All_ok (a1 : Book) (a2 : List Deal) (r : (List Book) × Int × Int) (h : spec_l07All a1 a2 = some r) : Ev (fun k => CN k 69 [.pt none [.int .i64 a1.Day, .sl none (a1.Cash.map (cI .i64)), .sl none (a1.Tallies.map Tally.c)], .sl none (a2.map Deal.c)] []) (fun p => rRes p.2 p.1 = spec_l07All_enc r) := by
 unfold spec_l07All at h
 refine Ev.enter (F := fun k => f69 (CN k) k) (fun k => callN_eq rfl Try.func69 rfl rfl rfl (by decide +kernel) (f69_eq _ _)) (sq (Rg (kx (mvO rfl) (kx (mvO rfl) (kx (mvO rfl) (Rn (hN rfl (hN rfl hZ)) fun e1 h3 h4 => sN (sq (Rg (ku (litO (xs := ([] : List Book)) (c := Book.c) rfl rfl (by decide)) fun M6 hM7 => ?_)))))))))
 have o8 : M6[([] : Mem).length]? = some (.live ⟨.grow, 77, 3, ([] : List Book).map Book.c⟩) := push_new hM7
 obtain ⟨⟨r15, r16, r17⟩, hx14, h⟩ := bind_some h
 refine kx (mvO rfl) (Rn (hA h3 (hA h4 (hV (.lsl ([] : Mem).length ([] : List Book).length 0 ([] : List Book).length) rfl hZ))) fun e9 h11 h12 h13 => sN (sq (Rg (kx (mvO h11) (kc (cl (v := .agg [.int .i64 r15, .sl (some 2) (r16.map (cI .i64)), .sl (some 135) (r17.map Tally.c)]) rfl (cns rfl rfl) rfl (spec_l07Copy_ok a1 _ hx14) nm) (ku (alO zero77) fun M19 hM20 => ?_))))))
 clear h3 h4
 have o21 := push_old hM20 o8
 have ne22 := ne_new o8
 have o23 : M19[M6.length]? = some (.live ⟨.box, 77, 3, [[.int .i64 0, .nils, .nils]]⟩) := push_new hM20
 refine kw (stO rfl rfl o23 rfl rfl ⟨rfl, ble rfl⟩ rfl rfl) fun M24 hM25 => ?_
 have o26 := set_ne hM25 ne22 o21
 have o27 : M24[M6.length]? = some (.live ⟨.box, 77, 3, [[.int .i64 r15, .sl none (r16.map (cI .i64)), .sl none (r17.map Tally.c)]]⟩) := set_same hM25 o23
 obtain ⟨r185, hr186, h⟩ := bind_some h
 refine Rn (hA h12 (hA h13 (hV (.loc M6.length 1 0 0) rfl hZ))) fun e28 h30 h31 h32 => sN (sq (sq (Rg (kx (mvO rfl) (Rn (hA h30 (hA h31 (hA h32 (hV (.int .i64 0) rfl hZ)))) fun e33 h35 h36 h37 h38 => sN (bl ?_))))))
 clear h11 h12 h13 h30 h31 h32
 rcases r185 with ⟨y190, y191⟩ | ⟨y197, y198, y199, y200⟩
 ·refine Ev.loop (RS := spec_l07All_b1_RS a2 (([] : Mem).length) M6.length) (RR := spec_l07All_b1_RR a2 (([] : Mem).length) M6.length) (fun s r h e M hs => spec_l07All_b1_ok a2 (([] : Mem).length) M6.length ne22 s r h e M hs) hr186 ⟨h35, h36, h37, h38, o27, o26⟩ fun x e188 M189 hq187 => ?_
  obtain ⟨rfl, h192, h193, h194⟩ := hq187
  refine bR (sR ?_)
  cases h
  exact eR (resT h192 (resT h193 (resT h194 res0))) rfl
 refine Ev.loop (RS := spec_l07All_b1_RS a2 (([] : Mem).length) M6.length) (RR := spec_l07All_b1_RR a2 (([] : Mem).length) M6.length) (fun s r h e M hs => spec_l07All_b1_ok a2 (([] : Mem).length) M6.length ne22 s r h e M hs) hr186 ⟨h35, h36, h37, h38, o27, o26⟩ fun x e195 M196 hq187 => ?_
 obtain ⟨rfl, h201, o202, o203⟩ := hq187
 refine bE (sN (sq (Rg (kx (mvO h201) (kx (mvO rfl) (kx (mvO rfl) (kx (mvO rfl) (Rn (hV (.lsl ([] : Mem).length y200.length 0 y200.length) rfl (hV (.int .i64 0) rfl (hV (.int .i64 0) rfl hZ))) fun e204 h206 h207 h208 => sN (xx ?_)))))))))
 clear h201
 cases h
 exact eR (resT h206 (resT h207 (resT h208 res0))) (rr_tup (mp1 (rr_row o203 rfl Book.fl) (mp1 rfl (mp1 rfl mp0))))
/-! ### loop.example/g01263/spec.l07Asked (f68) -/
def spec_l07Asked_c1_Q (a2 : List Deal) (g : Bool) (q : Out) : Prop := q.1 = .nrm ∧ eget q.2.1 1 = .sl none (a2.map Deal.c) ∧ eget q.2.1 12 = .bool g
noncomputable def spec_l07Asked (a1 : Book) (a2 : List Deal) : Option Int :=
 ((spec_l07Ok a1).bind fun r6 =>
 if r6 = true then
  (spec_l07Deals a2).bind fun r9 =>
  some (!r9)
 else
  some true).bind fun y20 =>
 if y20 = true then
  some 1
 else
  if (decide ((a2.length : Int) > 80)) = true then
   some 3
  else
   some 0
def spec_l07Asked_enc (r : Int) : AV := .int .i64 r
theorem spec_l07Asked_ok (a1 : Book) (a2 : List Deal) (r : Int) (h : spec_l07Asked a1 a2 = some r) : Ev (fun k => CN k 68 [.pt none [.int .i64 a1.Day, .sl none (a1.Cash.map (cI .i64)), .sl none (a1.Tallies.map Tally.c)], .sl none (a2.map Deal.c)] []) (fun p => rRes p.2 p.1 = spec_l07Asked_enc r) := by
 unfold spec_l07Asked at h
 obtain ⟨r38, hr39, h⟩ := bind_some h
 refine Ev.enter (F := fun k => f68 (CN k) k) (fun k => callN_eq rfl Try.func68 rfl rfl rfl (by decide +kernel) (f68_eq _ _)) (sq (Rg (kx (mvO rfl) (Rn (hN rfl (hN rfl hZ)) fun e1 h3 h4 => sN (sq (sq ?_))))))
 refine Ev.cut (Q1 := spec_l07Asked_c1_Q a2 r38) (by
     have h := hr39
     obtain ⟨r6, hx5, h⟩ := bind_some h
     refine Rg (kx (mvO h3) (kc (cl (v := .bool r6) rfl (cns rfl rfl) rfl (spec_l07Ok_ok a1 _ hx5) nm) (kx (uNot rfl) (kx (mvO rfl) ?_))))
     rcases ite_some h with ⟨hb7, h⟩ | ⟨hb7, h⟩
     ·obtain ⟨r9, hx8, h⟩ := bind_some h
      refine kx (guF rfl (congrArg Bool.not hb7) (mvO h4)) (kc (Ev.guF rfl (congrArg Bool.not hb7) (cl (v := .bool r9) rfl (cns rfl rfl) rfl (spec_l07Deals_ok a2 _ hx8) nm)) (kx (guF rfl (congrArg Bool.not hb7) (uNot rfl)) (kx (pkF rfl (congrArg Bool.not hb7) rfl) (Rn (hA h4 (hN rfl hZ)) fun e10 h12 h13 => ?_))))
      clear h3 h4
      cases h
      exact kd (show spec_l07Asked_c1_Q a2 _ _ from ⟨rfl, h12, h13⟩)
     refine kx (gsF rfl (congrArg Bool.not hb7)) (kc (Ev.gsF rfl (congrArg Bool.not hb7)) (kx (gsF rfl (congrArg Bool.not hb7)) (kx (pkT rfl (congrArg Bool.not hb7) rfl) (Rn (hA h4 (hV (.bool true) rfl hZ)) fun e14 h16 h17 => ?_))))
     clear h3 h4
     cases h
     exact kd (show spec_l07Asked_c1_Q a2 _ _ from ⟨rfl, h16, h17⟩)) ?_
 revert h hr39
 revert r38
 intro y20 hr39 h
 intro x e18 M19 hq37
 obtain ⟨rfl, h21, h22⟩ := hq37
 refine sN ?_
 rcases ite_some h with ⟨hb23, h⟩ | ⟨hb23, h⟩
 ·refine cT h22 hb23 (sq (Rg (kx (mvO rfl) (Rn (hV (.int .i64 1) rfl hZ) fun e24 h26 => sN (xx (sR ?_))))))
  clear h21 h22
  cases h
  exact eR (resT h26 res0) rfl
 refine cF h22 hb23 (xx (sN (sq (sq (Rg (kx (mvO h21) (kx (lnS Try.underlying79 rfl) (kx (bGtr rfl rfl) (Rn (hN rfl hZ) fun e27 h29 => sN ?_)))))))))
 clear h21 h22
 rcases ite_some h with ⟨hb30, h⟩ | ⟨hb30, h⟩
 ·refine cT h29 hb30 (sq (Rg (kx (mvO rfl) (Rn (hV (.int .i64 3) rfl hZ) fun e31 h33 => sN (xx (sR ?_))))))
  clear h29
  cases h
  exact eR (resT h33 res0) rfl
 refine cF h29 hb30 (xx (sN (sq (Rg (kx (mvO rfl) (Rn (hV (.int .i64 0) rfl hZ) fun e34 h36 => sN (xx ?_)))))))
 clear h29
 cases h
 exact eR (resT h36 res0) rfl
/-! ### loop.example/g01263/laws.szTallyS (f67) -/
noncomputable def laws_szTallyS (a1 : List Tally) (a2 : Int) : Option Int :=
 if (decide ((IntKind.i64.wrap (a2 - (a1.length : Int))) < 0)) = true then
  some (-1)
 else
  some (IntKind.i64.wrap (a2 - (a1.length : Int)))
def laws_szTallyS_enc (r : Int) : AV := .int .i64 r
theorem laws_szTallyS_ok (a1 : List Tally) (a2 : Int) (r : Int) (h : laws_szTallyS a1 a2 = some r) : Ev (fun k => CN k 67 [.sl none (a1.map Tally.c), .int .i64 a2] []) (fun p => rRes p.2 p.1 = laws_szTallyS_enc r) := by
 unfold laws_szTallyS at h
 refine Ev.enter (F := fun k => f67 (CN k) k) (fun k => callN_eq rfl Try.func67 rfl rfl rfl (by decide +kernel) (f67_eq _ _)) (sq (Rg (kx (mvO rfl) (Rn (hN rfl (hN rfl hZ)) fun e1 h3 h4 => sN (sq (Rg (kx (mvO h4) (kx (mvO h3) (kx (lnS Try.underlying65 rfl) (kx (bSub rfl rfl) (kx (mvO rfl) (Rn (hN rfl hZ) fun e5 h7 => sN (sq (sq (Rg (kx (mvO h7) (kx (bLss rfl rfl) (Rn (hA h7 (hN rfl hZ)) fun e8 h10 h11 => sN ?_))))))))))))))))))
 clear h3 h7
 rcases ite_some h with ⟨hb12, h⟩ | ⟨hb12, h⟩
 ·refine cT h11 hb12 (sq (Rg (kx (mvO rfl) (Rn (hV (.int .i64 (-1)) rfl hZ) fun e13 h15 => sN (xx (sR ?_))))))
  clear h10 h11
  cases h
  exact eR (resT h15 res0) rfl
 refine cF h11 hb12 (xx (sN (sq (Rg (kx (mvO h10) (kx (mvO rfl) (Rn (hN rfl hZ) fun e16 h18 => sN (xx ?_))))))))
 clear h10 h11
 cases h
 exact eR (resT h18 res0) rfl
/-! ### loop.example/g01263/laws.szInt64S (f66) -/
noncomputable def laws_szInt64S (a1 : List Int) (a2 : Int) : Option Int :=
 if (decide ((IntKind.i64.wrap (a2 - (a1.length : Int))) < 0)) = true then
  some (-1)
 else
  some (IntKind.i64.wrap (a2 - (a1.length : Int)))
def laws_szInt64S_enc (r : Int) : AV := .int .i64 r
theorem laws_szInt64S_ok (a1 : List Int) (a2 : Int) (r : Int) (h : laws_szInt64S a1 a2 = some r) : Ev (fun k => CN k 66 [.sl none (a1.map (cI .i64)), .int .i64 a2] []) (fun p => rRes p.2 p.1 = laws_szInt64S_enc r) := by
 unfold laws_szInt64S at h
 refine Ev.enter (F := fun k => f66 (CN k) k) (fun k => callN_eq rfl Try.func66 rfl rfl rfl (by decide +kernel) (f66_eq _ _)) (sq (Rg (kx (mvO rfl) (Rn (hN rfl (hN rfl hZ)) fun e1 h3 h4 => sN (sq (Rg (kx (mvO h4) (kx (mvO h3) (kx (lnS Try.underlying49 rfl) (kx (bSub rfl rfl) (kx (mvO rfl) (Rn (hN rfl hZ) fun e5 h7 => sN (sq (sq (Rg (kx (mvO h7) (kx (bLss rfl rfl) (Rn (hA h7 (hN rfl hZ)) fun e8 h10 h11 => sN ?_))))))))))))))))))
 clear h3 h7
 rcases ite_some h with ⟨hb12, h⟩ | ⟨hb12, h⟩
 ·refine cT h11 hb12 (sq (Rg (kx (mvO rfl) (Rn (hV (.int .i64 (-1)) rfl hZ) fun e13 h15 => sN (xx (sR ?_))))))
  clear h10 h11
  cases h
  exact eR (resT h15 res0) rfl
 refine cF h11 hb12 (xx (sN (sq (Rg (kx (mvO h10) (kx (mvO rfl) (Rn (hN rfl hZ) fun e16 h18 => sN (xx ?_))))))))
 clear h10 h11
 cases h
 exact eR (resT h18 res0) rfl
/-! ### loop.example/g01263/laws.eqInt64S (f21) -/
abbrev laws_eqInt64S_b1_S := Int
abbrev laws_eqInt64S_b1_R := Unit ⊕ Unit
def laws_eqInt64S_b1_RS (a1 : List Int) (a2 : List Int) (s : laws_eqInt64S_b1_S) (e : Env) (M : Mem) : Prop := eget e 0 = .sl none (a1.map (cI .i64)) ∧ eget e 1 = .sl none (a2.map (cI .i64)) ∧ eget e 5 = .int .i64 s
def laws_eqInt64S_b1_RR (a1 : List Int) (a2 : List Int) (r : laws_eqInt64S_b1_R) (x : Ex) (e : Env) (M : Mem) : Prop :=
  match r with
  | (.inl g) => x = .ret ∧ eget e 4 = .bool false
  | (.inr g) => x = .ext 0 ∧ True
noncomputable def laws_eqInt64S_b1 (a1 : List Int) (a2 : List Int) : laws_eqInt64S_b1_S → Option (laws_eqInt64S_b1_S ⊕ laws_eqInt64S_b1_R) := fun s1_1 =>
 if (decide (s1_1 < (a1.length : Int))) = true then
  (rd a1 s1_1).bind fun x42 =>
  (rd a2 s1_1).bind fun x44 =>
  if (x42 != x44) = true then
   some (.inr (.inl ()))
  else
   some (.inl (IntKind.i64.wrap (s1_1 + 1)))
 else
  some (.inr (.inr ()))
theorem laws_eqInt64S_b1_ok (a1 : List Int) (a2 : List Int) (s : laws_eqInt64S_b1_S) (r : laws_eqInt64S_b1_S ⊕ laws_eqInt64S_b1_R) (h : laws_eqInt64S_b1 a1 a2 s = some r) (e : Env) (M : Mem) (hs : laws_eqInt64S_b1_RS a1 a2 s e M) : Ev (fun k => (f21_l4 (CN k) k (prune [0, 1, 5] e) M).bind fun q => some q) (bQ (laws_eqInt64S_b1_RS a1 a2) (laws_eqInt64S_b1_RR a1 a2) r) := by
 revert h hs
 revert s
 intro s1_1 h hs
 unfold laws_eqInt64S_b1 at h
 obtain ⟨h29, h31, h33⟩ := hs
 generalize he28 : prune [0, 1, 5] e = e27
 have h30 := envp he28.symm rfl h29
 have h32 := envp he28.symm rfl h31
 have h34 := envp he28.symm rfl h33
 refine sq (sq (Rg (kx (mvO h34) (kx (mvO h30) (kx (lnS Try.underlying49 rfl) (kx (bLss rfl rfl) (Rn (hV (.sl none (a1.map (cI .i64))) h30 (hV (.sl none (a2.map (cI .i64))) h32 (hV (.int .i64 s1_1) h34 (hN rfl hZ)))) fun e35 h37 h38 h39 h40 => sN ?_)))))))
 clear h30 h32 h34
 rcases ite_some h with ⟨hb41, h⟩ | ⟨hb41, h⟩
 ·obtain ⟨x42, hx43, h⟩ := bind_some h
  obtain ⟨x44, hx45, h⟩ := bind_some h
  refine cT h40 hb41 (xx (sN (sq (bl (sq (Rd (kf (mvO h37) (kf (mvO h39) (kf (ixS rfl rfl hx43 (cI_fl _)) (kf (ldP rfl rfl) (kf (mvO h38) (kf (mvO h39) (kf (ixS rfl rfl hx45 (cI_fl _)) (kf (ldP rfl rfl) (kf (bNeq rfl rfl) (fZ (Rn (hA h37 (hA h38 (hA h39 (hN rfl hZ)))) fun e46 h48 h49 h50 h51 => sN ?_)))))))))))))))))
  clear h37 h38 h39 h40
  rcases ite_some h with ⟨hb52, h⟩ | ⟨hb52, h⟩
  ·refine cT h51 hb52 (sq (Rg (kx (mvO rfl) (Rn (hV (.bool false) rfl hZ) fun e53 h55 => sN (xx (bR (sR ?_)))))))
   clear h48 h49 h50 h51
   cases h
   exact qR ⟨rfl, h55⟩
  refine cF h51 hb52 (xx (bN (sN (Rg (kx (mvO h50) (kx (bAdd rfl rfl) (kx (mvO rfl) (Rn (hA h48 (hA h49 (hN rfl hZ))) fun e56 h58 h59 h60 => ?_))))))))
  clear h48 h49 h51
  cases h
  exact qN ⟨h58, h59, h60⟩
 refine cF h40 hb41 (xx (sE ?_))
 cases h
 exact qE ⟨rfl, trivial⟩
noncomputable def laws_eqInt64S (a1 : List Int) (a2 : List Int) : Option Bool :=
 if ((a1.length : Int) != (a2.length : Int)) = true then
  some false
 else
  (Lw (laws_eqInt64S_b1 a1 a2) 0).bind fun r => match r with
  | (.inl _) =>
   some false
  | (.inr _) =>
   some true
def laws_eqInt64S_enc (r : Bool) : AV := .bool r
theorem laws_eqInt64S_ok (a1 : List Int) (a2 : List Int) (r : Bool) (h : laws_eqInt64S a1 a2 = some r) : Ev (fun k => CN k 21 [.sl none (a1.map (cI .i64)), .sl none (a2.map (cI .i64))] []) (fun p => rRes p.2 p.1 = laws_eqInt64S_enc r) := by
 unfold laws_eqInt64S at h
 refine Ev.enter (F := fun k => f21 (CN k) k) (fun k => callN_eq rfl Try.func21 rfl rfl rfl (by decide +kernel) (f21_eq _ _)) (sq (Rg (kx (mvO rfl) (Rn (hN rfl (hN rfl hZ)) fun e1 h3 h4 => sN (sq (sq (Rg (kx (mvO h3) (kx (lnS Try.underlying49 rfl) (kx (mvO h4) (kx (lnS Try.underlying49 rfl) (kx (bNeq rfl rfl) (Rn (hA h3 (hA h4 (hN rfl hZ))) fun e5 h7 h8 h9 => sN ?_)))))))))))))
 clear h3 h4
 rcases ite_some h with ⟨hb10, h⟩ | ⟨hb10, h⟩
 ·refine cT h9 hb10 (sq (Rg (kx (mvO rfl) (Rn (hV (.bool false) rfl hZ) fun e11 h13 => sN (xx (sR ?_))))))
  clear h7 h8 h9
  cases h
  exact eR (resT h13 res0) rfl
 obtain ⟨r61, hr62, h⟩ := bind_some h
 refine cF h9 hb10 (xx (sN (sq (sq (Rg (kx (mvO rfl) (Rn (hA h7 (hA h8 (hV (.int .i64 0) rfl hZ))) fun e14 h16 h17 h18 => sN (bl ?_))))))))
 clear h7 h8 h9
 rcases r61 with _ | _
 ·refine Ev.loop (RS := laws_eqInt64S_b1_RS a1 a2) (RR := laws_eqInt64S_b1_RR a1 a2) (fun s r h e M hs => laws_eqInt64S_b1_ok a1 a2 s r h e M hs) hr62 ⟨h16, h17, h18⟩ fun x e64 M65 hq63 => ?_
  obtain ⟨rfl, h66⟩ := hq63
  refine bR (sR ?_)
  cases h
  exact eR (resT h66 res0) rfl
 refine Ev.loop (RS := laws_eqInt64S_b1_RS a1 a2) (RR := laws_eqInt64S_b1_RR a1 a2) (fun s r h e M hs => laws_eqInt64S_b1_ok a1 a2 s r h e M hs) hr62 ⟨h16, h17, h18⟩ fun x e67 M68 hq63 => ?_
 obtain ⟨rfl, _⟩ := hq63
 refine bE (sN (sq (Rg (kx (mvO rfl) (Rn (hV (.bool true) rfl hZ) fun e69 h71 => sN (xx ?_))))))
 cases h
 exact eR (resT h71 res0) rfl
/-! ### loop.example/g01263/laws.eqBook (f39) -/
noncomputable def laws_eqBook (a1 : Book) (a2 : Book) : Option Bool :=
 if (a1.Day != a2.Day) = true then
  some false
 else
  (laws_eqInt64S a1.Cash a2.Cash).bind fun r15 =>
  if r15 = true then
   (laws_eqTallyS a1.Tallies a2.Tallies).bind fun r23 =>
   if r23 = true then
    some true
   else
    some false
  else
   some false
def laws_eqBook_enc (r : Bool) : AV := .bool r
theorem laws_eqBook_ok (a1 : Book) (a2 : Book) (r : Bool) (h : laws_eqBook a1 a2 = some r) : Ev (fun k => CN k 39 [.agg [.int .i64 a1.Day, .sl none (a1.Cash.map (cI .i64)), .sl none (a1.Tallies.map Tally.c)], .agg [.int .i64 a2.Day, .sl none (a2.Cash.map (cI .i64)), .sl none (a2.Tallies.map Tally.c)]] []) (fun p => rRes p.2 p.1 = laws_eqBook_enc r) := by
 unfold laws_eqBook at h
 refine Ev.enter (F := fun k => f39 (CN k) k) (fun k => callN_eq rfl Try.func39 rfl rfl rfl (by decide +kernel) (f39_eq _ _)) (sq (Rg (kx (bxI rfl rfl ⟨rfl, rfl, by decide⟩) (kx (bxI rfl rfl ⟨rfl, rfl, by decide⟩) (kx (mvO rfl) (Rn (hN rfl (hN rfl hZ)) fun e1 h3 h4 => sN (sq (sq (Rg (kx (faP h3 ⟨ble rfl, blt rfl⟩ rfl) (kx (ldP rfl rfl) (kx (faP h4 ⟨ble rfl, blt rfl⟩ rfl) (kx (ldP rfl rfl) (kx (bNeq rfl rfl) (Rn (hA h3 (hA h4 (hN rfl hZ))) fun e5 h7 h8 h9 => sN ?_)))))))))))))))
 clear h3 h4
 rcases ite_some h with ⟨hb10, h⟩ | ⟨hb10, h⟩
 ·refine cT h9 hb10 (sq (Rg (kx (mvO rfl) (Rn (hV (.bool false) rfl hZ) fun e11 h13 => sN (xx (sR ?_))))))
  clear h7 h8 h9
  cases h
  exact eR (resT h13 res0) rfl
 obtain ⟨r15, hx14, h⟩ := bind_some h
 refine cF h9 hb10 (xx (sN (sq (sq (Rg (kx (faP h7 ⟨ble rfl, blt rfl⟩ rfl) (kx (ldP rfl rfl) (kx (faP h8 ⟨ble rfl, blt rfl⟩ rfl) (kx (ldP rfl rfl) (kc (cl (v := .bool r15) rfl (cns rfl (cns rfl rfl)) rfl (laws_eqInt64S_ok a1.Cash a2.Cash _ hx14) nm) (kx (uNot rfl) (Rn (hA h7 (hA h8 (hN rfl hZ))) fun e16 h18 h19 h20 => sN ?_))))))))))))
 clear h7 h8 h9
 rcases ite_some h with ⟨hb21, h⟩ | ⟨hb21, h⟩
 ·obtain ⟨r23, hx22, h⟩ := bind_some h
  refine cF h20 (congrArg Bool.not hb21) (xx (sN (sq (sq (Rg (kx (faP h18 ⟨ble rfl, blt rfl⟩ rfl) (kx (ldP rfl rfl) (kx (faP h19 ⟨ble rfl, blt rfl⟩ rfl) (kx (ldP rfl rfl) (kc (cl (v := .bool r23) rfl (cns rfl (cns rfl rfl)) rfl (laws_eqTallyS_ok a1.Tallies a2.Tallies _ hx22) nm) (kx (uNot rfl) (Rn (hN rfl hZ) fun e24 h26 => sN ?_))))))))))))
  clear h18 h19 h20
  rcases ite_some h with ⟨hb27, h⟩ | ⟨hb27, h⟩
  ·refine cF h26 (congrArg Bool.not hb27) (xx (sN (sq (Rg (kx (mvO rfl) (Rn (hV (.bool true) rfl hZ) fun e28 h30 => sN (xx ?_)))))))
   clear h26
   cases h
   exact eR (resT h30 res0) rfl
  refine cT h26 (congrArg Bool.not hb27) (sq (Rg (kx (mvO rfl) (Rn (hV (.bool false) rfl hZ) fun e31 h33 => sN (xx (sR ?_))))))
  clear h26
  cases h
  exact eR (resT h33 res0) rfl
 refine cT h20 (congrArg Bool.not hb21) (sq (Rg (kx (mvO rfl) (Rn (hV (.bool false) rfl hZ) fun e34 h36 => sN (xx (sR ?_))))))
 clear h18 h19 h20
 cases h
 exact eR (resT h36 res0) rfl
/-! ### loop.example/g01263/laws.eqBookS (f41) -/
abbrev laws_eqBookS_b1_S := Int
abbrev laws_eqBookS_b1_R := Unit ⊕ Unit
def laws_eqBookS_b1_RS (a1 : List Book) (a2 : List Book) (s : laws_eqBookS_b1_S) (e : Env) (M : Mem) : Prop := eget e 0 = .sl none (a1.map Book.c) ∧ eget e 1 = .sl none (a2.map Book.c) ∧ eget e 5 = .int .i64 s
def laws_eqBookS_b1_RR (a1 : List Book) (a2 : List Book) (r : laws_eqBookS_b1_R) (x : Ex) (e : Env) (M : Mem) : Prop :=
  match r with
  | (.inl g) => x = .ret ∧ eget e 4 = .bool false
  | (.inr g) => x = .ext 0 ∧ True
noncomputable def laws_eqBookS_b1 (a1 : List Book) (a2 : List Book) : laws_eqBookS_b1_S → Option (laws_eqBookS_b1_S ⊕ laws_eqBookS_b1_R) := fun s1_1 =>
 if (decide (s1_1 < (a1.length : Int))) = true then
  (rd a1 s1_1).bind fun x42 =>
  (rd a2 s1_1).bind fun x44 =>
  (laws_eqBook x42 x44).bind fun r47 =>
  if r47 = true then
   some (.inl (IntKind.i64.wrap (s1_1 + 1)))
  else
   some (.inr (.inl ()))
 else
  some (.inr (.inr ()))
theorem laws_eqBookS_b1_ok (a1 : List Book) (a2 : List Book) (s : laws_eqBookS_b1_S) (r : laws_eqBookS_b1_S ⊕ laws_eqBookS_b1_R) (h : laws_eqBookS_b1 a1 a2 s = some r) (e : Env) (M : Mem) (hs : laws_eqBookS_b1_RS a1 a2 s e M) : Ev (fun k => (f41_l4 (CN k) k (prune [0, 1, 5] e) M).bind fun q => some q) (bQ (laws_eqBookS_b1_RS a1 a2) (laws_eqBookS_b1_RR a1 a2) r) := by
 revert h hs
 revert s
 intro s1_1 h hs
 unfold laws_eqBookS_b1 at h
 obtain ⟨h29, h31, h33⟩ := hs
 generalize he28 : prune [0, 1, 5] e = e27
 have h30 := envp he28.symm rfl h29
 have h32 := envp he28.symm rfl h31
 have h34 := envp he28.symm rfl h33
 refine sq (sq (Rg (kx (mvO h34) (kx (mvO h30) (kx (lnS Try.underlying81 rfl) (kx (bLss rfl rfl) (Rn (hV (.sl none (a1.map Book.c)) h30 (hV (.sl none (a2.map Book.c)) h32 (hV (.int .i64 s1_1) h34 (hN rfl hZ)))) fun e35 h37 h38 h39 h40 => sN ?_)))))))
 clear h30 h32 h34
 rcases ite_some h with ⟨hb41, h⟩ | ⟨hb41, h⟩
 ·obtain ⟨x42, hx43, h⟩ := bind_some h
  obtain ⟨x44, hx45, h⟩ := bind_some h
  obtain ⟨r47, hx46, h⟩ := bind_some h
  refine cT h40 hb41 (xx (sN (sq (bl (sq (Rd (kf (mvO h37) (kf (mvO h39) (kf (ixS rfl rfl hx43 Book.fl) (kf (ldPA rfl rfl rfl) (kf (mvO h38) (kf (mvO h39) (kf (ixS rfl rfl hx45 Book.fl) (kf (ldPA rfl rfl rfl) (fc (cl (v := .bool r47) rfl (cns rfl (cns rfl rfl)) rfl (laws_eqBook_ok x42 x44 _ hx46) nm) (kf (uNot rfl) (fZ (Rn (hA h37 (hA h38 (hA h39 (hN rfl hZ)))) fun e48 h50 h51 h52 h53 => sN ?_))))))))))))))))))
  clear h37 h38 h39 h40
  rcases ite_some h with ⟨hb54, h⟩ | ⟨hb54, h⟩
  ·refine cF h53 (congrArg Bool.not hb54) (xx (bN (sN (Rg (kx (mvO h52) (kx (bAdd rfl rfl) (kx (mvO rfl) (Rn (hA h50 (hA h51 (hN rfl hZ))) fun e55 h57 h58 h59 => ?_))))))))
   clear h50 h51 h53
   cases h
   exact qN ⟨h57, h58, h59⟩
  refine cT h53 (congrArg Bool.not hb54) (sq (Rg (kx (mvO rfl) (Rn (hV (.bool false) rfl hZ) fun e60 h62 => sN (xx (bR (sR ?_)))))))
  clear h50 h51 h52 h53
  cases h
  exact qR ⟨rfl, h62⟩
 refine cF h40 hb41 (xx (sE ?_))
 cases h
 exact qE ⟨rfl, trivial⟩
noncomputable def laws_eqBookS (a1 : List Book) (a2 : List Book) : Option Bool :=
 if ((a1.length : Int) != (a2.length : Int)) = true then
  some false
 else
  (Lw (laws_eqBookS_b1 a1 a2) 0).bind fun r => match r with
  | (.inl _) =>
   some false
  | (.inr _) =>
   some true
def laws_eqBookS_enc (r : Bool) : AV := .bool r
theorem laws_eqBookS_ok (a1 : List Book) (a2 : List Book) (r : Bool) (h : laws_eqBookS a1 a2 = some r) : Ev (fun k => CN k 41 [.sl none (a1.map Book.c), .sl none (a2.map Book.c)] []) (fun p => rRes p.2 p.1 = laws_eqBookS_enc r) := by
 unfold laws_eqBookS at h
 refine Ev.enter (F := fun k => f41 (CN k) k) (fun k => callN_eq rfl Try.func41 rfl rfl rfl (by decide +kernel) (f41_eq _ _)) (sq (Rg (kx (mvO rfl) (Rn (hN rfl (hN rfl hZ)) fun e1 h3 h4 => sN (sq (sq (Rg (kx (mvO h3) (kx (lnS Try.underlying81 rfl) (kx (mvO h4) (kx (lnS Try.underlying81 rfl) (kx (bNeq rfl rfl) (Rn (hA h3 (hA h4 (hN rfl hZ))) fun e5 h7 h8 h9 => sN ?_)))))))))))))
 clear h3 h4
 rcases ite_some h with ⟨hb10, h⟩ | ⟨hb10, h⟩
 ·refine cT h9 hb10 (sq (Rg (kx (mvO rfl) (Rn (hV (.bool false) rfl hZ) fun e11 h13 => sN (xx (sR ?_))))))
  clear h7 h8 h9
  cases h
  exact eR (resT h13 res0) rfl
 obtain ⟨r63, hr64, h⟩ := bind_some h
 refine cF h9 hb10 (xx (sN (sq (sq (Rg (kx (mvO rfl) (Rn (hA h7 (hA h8 (hV (.int .i64 0) rfl hZ))) fun e14 h16 h17 h18 => sN (bl ?_))))))))
 clear h7 h8 h9
 rcases r63 with _ | _
 ·refine Ev.loop (RS := laws_eqBookS_b1_RS a1 a2) (RR := laws_eqBookS_b1_RR a1 a2) (fun s r h e M hs => laws_eqBookS_b1_ok a1 a2 s r h e M hs) hr64 ⟨h16, h17, h18⟩ fun x e66 M67 hq65 => ?_
  obtain ⟨rfl, h68⟩ := hq65
  refine bR (sR ?_)
  cases h
  exact eR (resT h68 res0) rfl
 refine Ev.loop (RS := laws_eqBookS_b1_RS a1 a2) (RR := laws_eqBookS_b1_RR a1 a2) (fun s r h e M hs => laws_eqBookS_b1_ok a1 a2 s r h e M hs) hr64 ⟨h16, h17, h18⟩ fun x e69 M70 hq65 => ?_
 obtain ⟨rfl, _⟩ := hq65
 refine bE (sN (sq (Rg (kx (mvO rfl) (Rn (hV (.bool true) rfl hZ) fun e71 h73 => sN (xx ?_))))))
 cases h
 exact eR (resT h73 res0) rfl
/-! ### loop.example/g01263/laws.eqDealS (f40) -/
abbrev laws_eqDealS_b1_S := Int
abbrev laws_eqDealS_b1_R := Unit ⊕ Unit
def laws_eqDealS_b1_RS (a1 : List Deal) (a2 : List Deal) (s : laws_eqDealS_b1_S) (e : Env) (M : Mem) : Prop := eget e 0 = .sl none (a1.map Deal.c) ∧ eget e 1 = .sl none (a2.map Deal.c) ∧ eget e 5 = .int .i64 s
def laws_eqDealS_b1_RR (a1 : List Deal) (a2 : List Deal) (r : laws_eqDealS_b1_R) (x : Ex) (e : Env) (M : Mem) : Prop :=
  match r with
  | (.inl g) => x = .ret ∧ eget e 4 = .bool false
  | (.inr g) => x = .ext 0 ∧ True
noncomputable def laws_eqDealS_b1 (a1 : List Deal) (a2 : List Deal) : laws_eqDealS_b1_S → Option (laws_eqDealS_b1_S ⊕ laws_eqDealS_b1_R) := fun s1_1 =>
 if (decide (s1_1 < (a1.length : Int))) = true then
  (rd a1 s1_1).bind fun x42 =>
  (rd a2 s1_1).bind fun x44 =>
  (laws_eqDeal x42 x44).bind fun r47 =>
  if r47 = true then
   some (.inl (IntKind.i64.wrap (s1_1 + 1)))
  else
   some (.inr (.inl ()))
 else
  some (.inr (.inr ()))
theorem laws_eqDealS_b1_ok (a1 : List Deal) (a2 : List Deal) (s : laws_eqDealS_b1_S) (r : laws_eqDealS_b1_S ⊕ laws_eqDealS_b1_R) (h : laws_eqDealS_b1 a1 a2 s = some r) (e : Env) (M : Mem) (hs : laws_eqDealS_b1_RS a1 a2 s e M) : Ev (fun k => (f40_l4 (CN k) k (prune [0, 1, 5] e) M).bind fun q => some q) (bQ (laws_eqDealS_b1_RS a1 a2) (laws_eqDealS_b1_RR a1 a2) r) := by
 revert h hs
 revert s
 intro s1_1 h hs
 unfold laws_eqDealS_b1 at h
 obtain ⟨h29, h31, h33⟩ := hs
 generalize he28 : prune [0, 1, 5] e = e27
 have h30 := envp he28.symm rfl h29
 have h32 := envp he28.symm rfl h31
 have h34 := envp he28.symm rfl h33
 refine sq (sq (Rg (kx (mvO h34) (kx (mvO h30) (kx (lnS Try.underlying79 rfl) (kx (bLss rfl rfl) (Rn (hV (.sl none (a1.map Deal.c)) h30 (hV (.sl none (a2.map Deal.c)) h32 (hV (.int .i64 s1_1) h34 (hN rfl hZ)))) fun e35 h37 h38 h39 h40 => sN ?_)))))))
 clear h30 h32 h34
 rcases ite_some h with ⟨hb41, h⟩ | ⟨hb41, h⟩
 ·obtain ⟨x42, hx43, h⟩ := bind_some h
  obtain ⟨x44, hx45, h⟩ := bind_some h
  obtain ⟨r47, hx46, h⟩ := bind_some h
  refine cT h40 hb41 (xx (sN (sq (bl (sq (Rd (kf (mvO h37) (kf (mvO h39) (kf (ixS rfl rfl hx43 Deal.fl) (kf (ldPA rfl rfl rfl) (kf (mvO h38) (kf (mvO h39) (kf (ixS rfl rfl hx45 Deal.fl) (kf (ldPA rfl rfl rfl) (fc (cl (v := .bool r47) rfl (cns rfl (cns rfl rfl)) rfl (laws_eqDeal_ok x42 x44 _ hx46) nm) (kf (uNot rfl) (fZ (Rn (hA h37 (hA h38 (hA h39 (hN rfl hZ)))) fun e48 h50 h51 h52 h53 => sN ?_))))))))))))))))))
  clear h37 h38 h39 h40
  rcases ite_some h with ⟨hb54, h⟩ | ⟨hb54, h⟩
  ·refine cF h53 (congrArg Bool.not hb54) (xx (bN (sN (Rg (kx (mvO h52) (kx (bAdd rfl rfl) (kx (mvO rfl) (Rn (hA h50 (hA h51 (hN rfl hZ))) fun e55 h57 h58 h59 => ?_))))))))
   clear h50 h51 h53
   cases h
   exact qN ⟨h57, h58, h59⟩
  refine cT h53 (congrArg Bool.not hb54) (sq (Rg (kx (mvO rfl) (Rn (hV (.bool false) rfl hZ) fun e60 h62 => sN (xx (bR (sR ?_)))))))
  clear h50 h51 h52 h53
  cases h
  exact qR ⟨rfl, h62⟩
 refine cF h40 hb41 (xx (sE ?_))
 cases h
 exact qE ⟨rfl, trivial⟩
noncomputable def laws_eqDealS (a1 : List Deal) (a2 : List Deal) : Option Bool :=
 if ((a1.length : Int) != (a2.length : Int)) = true then
  some false
 else
  (Lw (laws_eqDealS_b1 a1 a2) 0).bind fun r => match r with
  | (.inl _) =>
   some false
  | (.inr _) =>
   some true
def laws_eqDealS_enc (r : Bool) : AV := .bool r
theorem laws_eqDealS_ok (a1 : List Deal) (a2 : List Deal) (r : Bool) (h : laws_eqDealS a1 a2 = some r) : Ev (fun k => CN k 40 [.sl none (a1.map Deal.c), .sl none (a2.map Deal.c)] []) (fun p => rRes p.2 p.1 = laws_eqDealS_enc r) := by
 unfold laws_eqDealS at h
 refine Ev.enter (F := fun k => f40 (CN k) k) (fun k => callN_eq rfl Try.func40 rfl rfl rfl (by decide +kernel) (f40_eq _ _)) (sq (Rg (kx (mvO rfl) (Rn (hN rfl (hN rfl hZ)) fun e1 h3 h4 => sN (sq (sq (Rg (kx (mvO h3) (kx (lnS Try.underlying79 rfl) (kx (mvO h4) (kx (lnS Try.underlying79 rfl) (kx (bNeq rfl rfl) (Rn (hA h3 (hA h4 (hN rfl hZ))) fun e5 h7 h8 h9 => sN ?_)))))))))))))
 clear h3 h4
 rcases ite_some h with ⟨hb10, h⟩ | ⟨hb10, h⟩
 ·refine cT h9 hb10 (sq (Rg (kx (mvO rfl) (Rn (hV (.bool false) rfl hZ) fun e11 h13 => sN (xx (sR ?_))))))
  clear h7 h8 h9
  cases h
  exact eR (resT h13 res0) rfl
 obtain ⟨r63, hr64, h⟩ := bind_some h
 refine cF h9 hb10 (xx (sN (sq (sq (Rg (kx (mvO rfl) (Rn (hA h7 (hA h8 (hV (.int .i64 0) rfl hZ))) fun e14 h16 h17 h18 => sN (bl ?_))))))))
 clear h7 h8 h9
 rcases r63 with _ | _
 ·refine Ev.loop (RS := laws_eqDealS_b1_RS a1 a2) (RR := laws_eqDealS_b1_RR a1 a2) (fun s r h e M hs => laws_eqDealS_b1_ok a1 a2 s r h e M hs) hr64 ⟨h16, h17, h18⟩ fun x e66 M67 hq65 => ?_
  obtain ⟨rfl, h68⟩ := hq65
  refine bR (sR ?_)
  cases h
  exact eR (resT h68 res0) rfl
 refine Ev.loop (RS := laws_eqDealS_b1_RS a1 a2) (RR := laws_eqDealS_b1_RR a1 a2) (fun s r h e M hs => laws_eqDealS_b1_ok a1 a2 s r h e M hs) hr64 ⟨h16, h17, h18⟩ fun x e69 M70 hq65 => ?_
 obtain ⟨rfl, _⟩ := hq65
 refine bE (sN (sq (Rg (kx (mvO rfl) (Rn (hV (.bool true) rfl hZ) fun e71 h73 => sN (xx ?_))))))
 cases h
 exact eR (resT h73 res0) rfl
/-! ### loop.example/g01263/impl.FirstWrong (f38) -/
abbrev impl_FirstWrong_b1_S := Int
abbrev impl_FirstWrong_b1_R := Int ⊕ Unit
def impl_FirstWrong_b1_RS (a3 : List Book) (r27 : List Book) (s : impl_FirstWrong_b1_S) (e : Env) (M : Mem) : Prop := eget e 9 = .sl (some 77) (r27.map Book.c) ∧ eget e 28 = .sl none (a3.map Book.c) ∧ eget e 29 = .int .i64 (a3.length : Int) ∧ eget e 30 = .int .i64 s
def impl_FirstWrong_b1_RR (a3 : List Book) (r27 : List Book) (r : impl_FirstWrong_b1_R) (x : Ex) (e : Env) (M : Mem) : Prop :=
  match r with
  | (.inl g) => x = .ret ∧ eget e 6 = .int .i64 g ∧ eget e 7 = .int .i64 0
  | (.inr g) => x = .ext 0 ∧ True
noncomputable def impl_FirstWrong_b1 (a3 : List Book) (r27 : List Book) : impl_FirstWrong_b1_S → Option (impl_FirstWrong_b1_S ⊕ impl_FirstWrong_b1_R) := fun s1_1 =>
 if (decide (s1_1 < (a3.length : Int))) = true then
  (rd a3 s1_1).bind fun x79 =>
  if (decide (s1_1 ≥ (r27.length : Int))) = true then
   some (.inr (.inl s1_1))
  else
   (rd r27 s1_1).bind fun x109 =>
   (impl_SameBook x79 x109).bind fun r112 =>
   if r112 = true then
    some (.inl (IntKind.i64.wrap (s1_1 + 1)))
   else
    some (.inr (.inl s1_1))
 else
  some (.inr (.inr ()))
theorem impl_FirstWrong_b1_ok (a3 : List Book) (r27 : List Book) (s : impl_FirstWrong_b1_S) (r : impl_FirstWrong_b1_S ⊕ impl_FirstWrong_b1_R) (h : impl_FirstWrong_b1 a3 r27 s = some r) (e : Env) (M : Mem) (hs : impl_FirstWrong_b1_RS a3 r27 s e M) : Ev (fun k => (f38_l8 (CN k) k (prune [9, 28, 29, 30] e) M).bind fun q => some q) (bQ (impl_FirstWrong_b1_RS a3 r27) (impl_FirstWrong_b1_RR a3 r27) r) := by
 revert h hs
 revert s
 intro s1_1 h hs
 unfold impl_FirstWrong_b1 at h
 obtain ⟨h63, h65, h67, h69⟩ := hs
 generalize he62 : prune [9, 28, 29, 30] e = e61
 have h64 := envp he62.symm rfl h63
 have h66 := envp he62.symm rfl h65
 have h68 := envp he62.symm rfl h67
 have h70 := envp he62.symm rfl h69
 refine sq (Rg (kx (bLss h70 h68) (Rn (hV (.sl (some 77) (r27.map Book.c)) h64 (hV (.sl none (a3.map Book.c)) h66 (hV (.int .i64 (a3.length : Int)) h68 (hV (.int .i64 s1_1) h70 (hN rfl hZ))))) fun e71 h73 h74 h75 h76 h77 => sN (sq ?_))))
 clear h64 h66 h68 h70
 rcases ite_some h with ⟨hb78, h⟩ | ⟨hb78, h⟩
 ·obtain ⟨x79, hx80, h⟩ := bind_some h
  refine cT h77 hb78 (xx (sN (sq (bl (sq (Rg (kx (mvO h76) (kx (ixS h74 h76 hx80 Book.fl) (kx (ldPA rfl rfl rfl) (ku (alO zero77) fun M82 hM83 => ?_))))))))))
  have o84 : M82[M.length]? = some (.live ⟨.box, 77, 3, [[.int .i64 0, .nils, .nils]]⟩) := push_new hM83
  refine kx (mvO rfl) (kw (stO rfl rfl o84 rfl rfl ⟨rfl, ble rfl⟩ rfl rfl) fun M85 hM86 => ?_)
  have o87 : M85[M.length]? = some (.live ⟨.box, 77, 3, [[.int .i64 x79.Day, .sl none (x79.Cash.map (cI .i64)), .sl none (x79.Tallies.map Tally.c)]]⟩) := set_same hM86 o84
  refine Rn (hA h73 (hN rfl (hV (.loc M.length 1 0 0) rfl (hA h74 (hA h75 (hA h76 hZ)))))) fun e88 h90 h91 h92 h93 h94 h95 => sN (sq (Rd (kf (mvO h91) (kf (mvO h90) (kf (lnS Try.underlying81 rfl) (kf (bGeq rfl rfl) (kf (mvO rfl) ?_)))))))
  clear h73 h74 h75 h76 h77
  rcases ite_some h with ⟨hb96, h⟩ | ⟨hb96, h⟩
  ·refine kf (gsF rfl hb96) (kf (gsF rfl hb96) (kf (gsF rfl hb96) (kf (gsF rfl hb96) (kf (gsF rfl hb96) (fc (Ev.gsF rfl hb96) (kf (gsF rfl hb96) (kf (pkT rfl hb96 rfl) (fZ (Rn (hA h90 (hA h91 (hA h93 (hA h94 (hA h95 (hV (.bool true) rfl hZ)))))) fun e97 h99 h100 h101 h102 h103 h104 => sN (cT h104 rfl (sq (Rg (kx (mvO h100) (kx (mvO rfl) (kx (mvO rfl) (Rn (hN rfl (hV (.int .i64 0) rfl hZ)) fun e105 h107 h108 => sN (xx (bR (sR ?_)))))))))))))))))))
   clear h90 h91 h92 h93 h94 h95 h100 h101 h102 h103 h104 h99
   cases h
   exact qR ⟨rfl, h107, h108⟩
  obtain ⟨x109, hx110, h⟩ := bind_some h
  obtain ⟨r112, hx111, h⟩ := bind_some h
  refine kf (guF rfl hb96 (ldOA h92 o87 rfl rfl (ble rfl) rfl)) (kf (guF rfl hb96 (mvO h90)) (kf (guF rfl hb96 (mvO h91)) (kf (guF rfl hb96 (ixS rfl rfl hx110 Book.fl)) (kf (guF rfl hb96 (ldPA rfl rfl rfl)) (fc (Ev.guF rfl hb96 (cl (v := .bool r112) rfl (cns rfl (cns rfl rfl)) rfl (impl_SameBook_ok x79 x109 _ hx111) nm)) (kf (guF rfl hb96 (uNot rfl)) (kf (pkF rfl hb96 rfl) (fZ (Rn (hA h90 (hA h91 (hA h93 (hA h94 (hA h95 (hN rfl hZ)))))) fun e113 h115 h116 h117 h118 h119 h120 => sN ?_)))))))))
  clear h90 h91 h92 h93 h94 h95
  rcases ite_some h with ⟨hb121, h⟩ | ⟨hb121, h⟩
  ·refine cF h120 (congrArg Bool.not hb121) (xx (bN (sN (Rg (kx (bAdd h119 rfl) (kx (mvO rfl) (Rn (hA h115 (hA h117 (hA h118 (hN rfl hZ)))) fun e122 h124 h125 h126 h127 => ?_)))))))
   clear h115 h116 h117 h118 h120
   cases h
   exact qN ⟨h124, h125, h126, h127⟩
  refine cT h120 (congrArg Bool.not hb121) (sq (Rg (kx (mvO h116) (kx (mvO rfl) (kx (mvO rfl) (Rn (hN rfl (hV (.int .i64 0) rfl hZ)) fun e128 h130 h131 => sN (xx (bR (sR ?_)))))))))
  clear h115 h116 h117 h118 h119 h120
  cases h
  exact qR ⟨rfl, h130, h131⟩
 refine cF h77 hb78 (xx (sE ?_))
 cases h
 exact qE ⟨rfl, trivial⟩
noncomputable def impl_FirstWrong (a1 : Book) (a2 : List Deal) (a3 : List Book) : Option (Int × Int) :=
 (impl_dealsCode a1 a2).bind fun r7 =>
 if (r7 != 0) = true then
  some (0, r7)
 else
  (impl_books a1 a2).bind fun (r27, r28) =>
  if (r28 != 0) = true then
   some (0, r28)
  else
   (Lw (impl_FirstWrong_b1 a3 r27) 0).bind fun r => match r with
   | (.inl y137) =>
    some (y137, 0)
   | (.inr _) =>
    some (0, 6)
def impl_FirstWrong_enc (r : Int × Int) : AV := .tup [.int .i64 r.1, .int .i64 r.2]
theorem impl_FirstWrong_ok (a1 : Book) (a2 : List Deal) (a3 : List Book) (r : Int × Int) (h : impl_FirstWrong a1 a2 a3 = some r) : Ev (fun k => CN k 38 [.agg [.int .i64 a1.Day, .sl none (a1.Cash.map (cI .i64)), .sl none (a1.Tallies.map Tally.c)], .sl none (a2.map Deal.c), .sl none (a3.map Book.c)] []) (fun p => rRes p.2 p.1 = impl_FirstWrong_enc r) := by
 unfold impl_FirstWrong at h
 obtain ⟨r7, hx6, h⟩ := bind_some h
 refine Ev.enter (F := fun k => f38 (CN k) k) (fun k => callN_eq rfl Try.func38 rfl rfl rfl (by decide +kernel) (f38_eq _ _)) (sq (Rg (kx (bxI rfl rfl ⟨rfl, rfl, by decide⟩) (kx (mvO rfl) (kx (mvO rfl) (Rn (hN rfl (hN rfl (hN rfl hZ))) fun e1 h3 h4 h5 => sN (sq (sq (Rg (kx (ldPA h5 rfl rfl) (kx (mvO h3) (kc (cl (v := .int .i64 r7) rfl (cns rfl (cns rfl rfl)) rfl (impl_dealsCode_ok a1 a2 _ hx6) nm) (kx (mvO rfl) (Rn (hA h3 (hA h4 (hA h5 (hN rfl hZ)))) fun e8 h10 h11 h12 h13 => sN (sq (Rg (kx (mvO h13) (kx (bNeq rfl rfl) (Rn (hA h10 (hA h11 (hA h12 (hA h13 (hN rfl hZ))))) fun e14 h16 h17 h18 h19 h20 => sN ?_)))))))))))))))))))
 clear h3 h4 h5 h10 h11 h12 h13
 rcases ite_some h with ⟨hb21, h⟩ | ⟨hb21, h⟩
 ·refine cT h20 hb21 (sq (Rg (kx (mvO h19) (kx (mvO rfl) (kx (mvO rfl) (Rn (hV (.int .i64 0) rfl (hN rfl hZ)) fun e22 h24 h25 => sN (xx (sR ?_))))))))
  clear h16 h17 h18 h19 h20
  cases h
  exact eR (resT h24 (resT h25 res0)) rfl
 obtain ⟨⟨r27, r28⟩, hx26, h⟩ := bind_some h
 refine cF h20 hb21 (xx (sN (sq (Rg (kx (ldPA h18 rfl rfl) (kx (mvO h16) (kc (cl (v := .tup [.sl (some 77) (r27.map Book.c), .int .i64 r28]) rfl (cns rfl (cns rfl rfl)) rfl (impl_books_ok a1 a2 _ hx26) nm) (kx (mvO rfl) (kx (exT rfl rfl) (kx (exT rfl rfl) (kx (mvO rfl) (kx (mvO rfl) (Rn (hA h17 (hN rfl (hN rfl hZ))) fun e29 h31 h32 h33 => sN (sq (sq (Rg (kx (mvO h33) (kx (bNeq rfl rfl) (Rn (hA h31 (hA h32 (hA h33 (hN rfl hZ)))) fun e34 h36 h37 h38 h39 => sN ?_)))))))))))))))))))
 clear h16 h17 h18 h19 h20 h31 h32 h33
 rcases ite_some h with ⟨hb40, h⟩ | ⟨hb40, h⟩
 ·refine cT h39 hb40 (sq (Rg (kx (mvO h38) (kx (mvO rfl) (kx (mvO rfl) (Rn (hV (.int .i64 0) rfl (hN rfl hZ)) fun e41 h43 h44 => sN (xx (sR ?_))))))))
  clear h36 h37 h38 h39
  cases h
  exact eR (resT h43 (resT h44 res0)) rfl
 obtain ⟨r132, hr133, h⟩ := bind_some h
 refine cF h39 hb40 (xx (sN (sq (sq (Rg (kx (mvO h36) (kx (lnS Try.underlying81 rfl) (kx (mvO rfl) (Rn (hA h37 (hN rfl (hN rfl (hV (.int .i64 0) rfl hZ)))) fun e45 h47 h48 h49 h50 => sN (bl ?_))))))))))
 clear h36 h37 h38 h39
 rcases r132 with y137 | _
 ·refine Ev.loop (RS := impl_FirstWrong_b1_RS a3 r27) (RR := impl_FirstWrong_b1_RR a3 r27) (fun s r h e M hs => impl_FirstWrong_b1_ok a3 r27 s r h e M hs) hr133 ⟨h47, h48, h49, h50⟩ fun x e135 M136 hq134 => ?_
  obtain ⟨rfl, h138, h139⟩ := hq134
  refine bR (sR ?_)
  cases h
  exact eR (resT h138 (resT h139 res0)) rfl
 refine Ev.loop (RS := impl_FirstWrong_b1_RS a3 r27) (RR := impl_FirstWrong_b1_RR a3 r27) (fun s r h e M hs => impl_FirstWrong_b1_ok a3 r27 s r h e M hs) hr133 ⟨h47, h48, h49, h50⟩ fun x e140 M141 hq134 => ?_
 obtain ⟨rfl, _⟩ := hq134
 refine bE (sN (sq (Rg (kx (mvO rfl) (kx (mvO rfl) (Rn (hV (.int .i64 0) rfl (hV (.int .i64 6) rfl hZ)) fun e142 h144 h145 => sN (xx ?_)))))))
 cases h
 exact eR (resT h144 (resT h145 res0)) rfl
/-! ### loop.example/g01263/laws.toBook (f35) -/
noncomputable def laws_toBook (a1 : Book) : Option (Int × (List Int) × (List Tally)) :=
 (laws_toInt64S a1.Cash).bind fun r30 =>
 (laws_toTallyS a1.Tallies).bind fun r41 =>
 some (a1.Day, r30, r41)
def laws_toBook_enc (r : Int × (List Int) × (List Tally)) : AV := .agg [.int .i64 r.1, .sl none (r.2.1.map (cI .i64)), .sl none (r.2.2.map Tally.c)]
theorem laws_toBook_ok (a1 : Book) (r : Int × (List Int) × (List Tally)) (h : laws_toBook a1 = some r) : Ev (fun k => CN k 35 [.agg [.int .i64 a1.Day, .sl none (a1.Cash.map (cI .i64)), .sl none (a1.Tallies.map Tally.c)]] []) (fun p => rRes p.2 p.1 = laws_toBook_enc r) := by
 unfold laws_toBook at h
 refine Ev.enter (F := fun k => f35 (CN k) k) (fun k => callN_eq rfl Try.func35 rfl rfl rfl (by decide +kernel) (f35_eq _ _)) (sq (Rg (kx (bxI rfl rfl ⟨rfl, rfl, by decide⟩) (ku (alO zero77) fun M2 hM3 => ?_))))
 have o4 : M2[([] : Mem).length]? = some (.live ⟨.box, 77, 3, [[.int .i64 0, .nils, .nils]]⟩) := push_new hM3
 refine Rn (hN rfl (hV (.loc ([] : Mem).length 1 0 0) rfl hZ)) fun e5 h7 h8 => sN (sq (Rg (ku (alO zero77) fun M10 hM11 => ?_)))
 have o12 := push_old hM11 o4
 have ne13 := ne_new o4
 have o14 : M10[M2.length]? = some (.live ⟨.box, 77, 3, [[.int .i64 0, .nils, .nils]]⟩) := push_new hM11
 refine Rn (hA h7 (hA h8 (hV (.loc M2.length 1 0 0) rfl hZ))) fun e15 h17 h18 h19 => sN (sq (Rg (kx (faP h17 ⟨ble rfl, blt rfl⟩ rfl) (kx (ldP rfl rfl) (kx (faO h19 o14 rfl) (kw (stO rfl rfl o14 rfl rfl ⟨rfl, ble rfl⟩ rfl rfl) fun M20 hM21 => ?_))))))
 clear h7 h8
 have o22 := set_ne hM21 ne13 o12
 have o23 : M20[M2.length]? = some (.live ⟨.box, 77, 3, [[.int .i64 a1.Day, .nils, .nils]]⟩) := set_same hM21 o14
 obtain ⟨r30, hx29, h⟩ := bind_some h
 refine Rn (hA h17 (hA h18 (hA h19 hZ))) fun e24 h26 h27 h28 => sN (sq (Rg (kx (faP h26 ⟨ble rfl, blt rfl⟩ rfl) (kx (ldP rfl rfl) (kc (cl (v := .sl (some 2) (r30.map (cI .i64))) rfl (cns rfl rfl) rfl (laws_toInt64S_ok a1.Cash _ hx29) nm) (kx (faO h28 o23 rfl) (kw (stO rfl rfl o23 rfl rfl ⟨rfl, ble rfl⟩ rfl rfl) fun M31 hM32 => ?_)))))))
 clear h17 h18 h19
 have o33 := set_ne hM32 ne13 o22
 have o34 : M31[M2.length]? = some (.live ⟨.box, 77, 3, [[.int .i64 a1.Day, .sl none (r30.map (cI .i64)), .nils]]⟩) := set_same hM32 o23
 obtain ⟨r41, hx40, h⟩ := bind_some h
 refine Rn (hA h26 (hA h27 (hA h28 hZ))) fun e35 h37 h38 h39 => sN (sq (Rg (kx (faP h37 ⟨ble rfl, blt rfl⟩ rfl) (kx (ldP rfl rfl) (kc (cl (v := .sl (some 135) (r41.map Tally.c)) rfl (cns rfl rfl) rfl (laws_toTallyS_ok a1.Tallies _ hx40) nm) (kx (faO h39 o34 rfl) (kw (stO rfl rfl o34 rfl rfl ⟨rfl, ble rfl⟩ rfl rfl) fun M42 hM43 => ?_)))))))
 clear h26 h27 h28
 have o44 := set_ne hM43 ne13 o33
 have o45 : M42[M2.length]? = some (.live ⟨.box, 77, 3, [[.int .i64 a1.Day, .sl none (r30.map (cI .i64)), .sl none (r41.map Tally.c)]]⟩) := set_same hM43 o34
 refine Rn (hA h38 (hA h39 hZ)) fun e46 h48 h49 => sN (sq (Rg (kx (ldOA h49 o45 rfl rfl (ble rfl) rfl) (kw (stO h48 rfl o44 rfl rfl ⟨rfl, ble rfl⟩ rfl rfl) fun M50 hM51 => ?_))))
 clear h37 h38 h39
 have o52 : M50[([] : Mem).length]? = some (.live ⟨.box, 77, 3, [[.int .i64 a1.Day, .sl none (r30.map (cI .i64)), .sl none (r41.map Tally.c)]]⟩) := set_same hM51 o44
 have o53 := set_ne hM51 (Ne.symm ne13) o45
 refine Rn (hA h48 hZ) fun e54 h56 => sN (xx ?_)
 clear h48 h49
 cases h
 exact eR (resC (ag := true) (sz := 3) ⟨by kernel_rfl, by kernel_rfl, by kernel_rfl⟩ (ldOA h56 o52 rfl rfl (ble rfl) rfl) res0) rfl
/-! ### loop.example/g01263/laws.toBookS (f37) -/
abbrev laws_toBookS_b1_S := Int × (List BookN)
abbrev laws_toBookS_b1_R := (List BookN)
def laws_toBookS_b1_RS (a1 : List Book) (x4 : List BookN) (i1_1 : Nat) (s : laws_toBookS_b1_S) (e : Env) (M : Mem) : Prop := eget e 0 = .sl none (a1.map Book.c) ∧ eget e 3 = .lsl i1_1 s.2.length 0 s.2.length ∧ eget e 4 = .int .i64 s.1 ∧ M[i1_1]? = some (.live ⟨.grow, 77, 3, s.2.map BookN.c⟩) ∧ s.2.length = x4.length
def laws_toBookS_b1_RR (a1 : List Book) (x4 : List BookN) (i1_1 : Nat) (g : laws_toBookS_b1_R) (x : Ex) (e : Env) (M : Mem) : Prop := x = .ext 0 ∧ eget e 3 = .lsl i1_1 g.length 0 g.length ∧ M[i1_1]? = some (.live ⟨.grow, 77, 3, g.map BookN.c⟩) ∧ g.length = x4.length
noncomputable def laws_toBookS_b1 (a1 : List Book) : laws_toBookS_b1_S → Option (laws_toBookS_b1_S ⊕ laws_toBookS_b1_R) := fun (s1_1, s1_2) =>
 if (decide (s1_1 < (a1.length : Int))) = true then
  (rd a1 s1_1).bind fun x45 =>
  (laws_toBook x45).bind fun (r48, r49, r50) =>
  (rd s1_2 s1_1).bind fun x51 =>
  some (.inl ((IntKind.i64.wrap (s1_1 + 1)), (s1_2.set s1_1.toNat (BookN.mk r48 (some r49) (some r50)))))
 else
  some (.inr s1_2)
theorem laws_toBookS_b1_ok (a1 : List Book) (x4 : List BookN) (i1_1 : Nat) (s : laws_toBookS_b1_S) (r : laws_toBookS_b1_S ⊕ laws_toBookS_b1_R) (h : laws_toBookS_b1 a1 s = some r) (e : Env) (M : Mem) (hs : laws_toBookS_b1_RS a1 x4 i1_1 s e M) : Ev (fun k => (f37_l3 (CN k) k (prune [0, 3, 4] e) M).bind fun q => some q) (bQ (laws_toBookS_b1_RS a1 x4 i1_1) (laws_toBookS_b1_RR a1 x4 i1_1) r) := by
 obtain ⟨s1_1, s1_2⟩ := s
 unfold laws_toBookS_b1 at h
 obtain ⟨h30, h32, h34, o36, hl37⟩ := hs
 generalize he29 : prune [0, 3, 4] e = e28
 have h31 := envp he29.symm rfl h30
 have h33 := envp he29.symm rfl h32
 have h35 := envp he29.symm rfl h34
 refine sq (sq (Rg (kx (mvO h35) (kx (mvO h31) (kx (lnS Try.underlying69 rfl) (kx (bLss rfl rfl) (Rn (hV (.sl none (a1.map Book.c)) h31 (hV (.lsl i1_1 s1_2.length 0 s1_2.length) h33 (hV (.int .i64 s1_1) h35 (hN rfl hZ)))) fun e38 h40 h41 h42 h43 => sN ?_)))))))
 clear h31 h33 h35
 rcases ite_some h with ⟨hb44, h⟩ | ⟨hb44, h⟩
 ·obtain ⟨x45, hx46, h⟩ := bind_some h
  obtain ⟨⟨r48, r49, r50⟩, hx47, h⟩ := bind_some h
  obtain ⟨x51, hx52, h⟩ := bind_some h
  refine cT h43 hb44 (xx (sN (sq (bl (Rg (kx (mvO h41) (kx (mvO h42) (kx (mvO h40) (kx (mvO h42) (kx (ixS rfl rfl hx46 Book.fl) (kx (ldPA rfl rfl rfl) (kc (cl (v := .agg [.int .i64 r48, .sl none (r49.map (cI .i64)), .sl none (r50.map Tally.c)]) rfl (cns rfl rfl) rfl (laws_toBook_ok x45 _ hx47) nm) (kx (ixO rfl o36 rfl rfl (rd_get hx52).1 (rd_lt hx52).2) (kw (stR (u := x51) (u' := (BookN.mk r48 (some r49) (some r50))) rfl rfl o36 rfl (by rw [Nat.zero_add]; exact (rd_get hx52).2) ⟨rfl, ble rfl⟩ rfl rfl) fun M53 hM54 => ?_))))))))))))))
  rw [Nat.zero_add] at hM54
  have o55 : M53[i1_1]? = some (.live ⟨.grow, 77, 3, (s1_2.set s1_1.toNat (BookN.mk r48 (some r49) (some r50))).map BookN.c⟩) := set_same hM54 o36
  have hx56 := rd_set (u' := (BookN.mk r48 (some r49) (some r50))) hx52
  refine Rn (hA h40 (hA h41 (hA h42 hZ))) fun e57 h59 h60 h61 => bN (sN (Rg (kx (mvO h61) (kx (bAdd rfl rfl) (kx (mvO rfl) (Rn (hA h59 (hA h60 (hN rfl hZ))) fun e62 h64 h65 h66 => ?_))))))
  clear h40 h41 h42 h43 h59 h60
  cases h
  exact qN ⟨h64, (lslL (L' := (s1_2.set s1_1.toNat (BookN.mk r48 (some r49) (some r50))).length) h65 (by simp [hl37])), h66, o55, (by first | rfl | simp [hl37])⟩
 refine cF h43 hb44 (xx (sE ?_))
 cases h
 exact qE ⟨rfl, h41, o36, (by first | rfl | simp [hl37])⟩
noncomputable def laws_toBookS (a1 : List Book) : Option ((List Book)) :=
 (mkS 56 (BookN.mk 0 none none) (a1.length : Int)).bind fun x4 =>
 (Lw (laws_toBookS_b1 a1) (0, x4)).bind fun y72 =>
 (unL BookN.un y72).bind fun x79 =>
 some x79
def laws_toBookS_enc (r : (List Book)) : AV := .sl (some 77) (r.map Book.c)
theorem laws_toBookS_ok (a1 : List Book) (r : (List Book)) (h : laws_toBookS a1 = some r) : Ev (fun k => CN k 37 [.sl none (a1.map Book.c)] []) (fun p => rRes p.2 p.1 = laws_toBookS_enc r) := by
 unfold laws_toBookS at h
 obtain ⟨x4, hx5, h⟩ := bind_some h
 refine Ev.enter (F := fun k => f37 (CN k) k) (fun k => callN_eq rfl Try.func37 rfl rfl rfl (by decide +kernel) (f37_eq _ _)) (sq (Rg (kx (mvO rfl) (Rn (hN rfl hZ) fun e1 h3 => sN (sq (Rg (kx (mvO h3) (kx (lnS Try.underlying69 rfl) (ku (mkO rfl rfl hx5 (c := BookN.c) zero77 BookN.fl (by decide)) fun M7 hM8 => ?_)))))))))
 have o9 : M7[([] : Mem).length]? = some (.live ⟨.grow, 77, 3, x4.map BookN.c⟩) := push_new hM8
 obtain ⟨y72, hr68, h⟩ := bind_some h
 refine kx (mvO rfl) (Rn (hA h3 (hV (.lsl ([] : Mem).length x4.length 0 x4.length) rfl hZ)) fun e10 h12 h13 => sN (sq (sq (Rg (kx (mvO rfl) (Rn (hA h12 (hA h13 (hV (.int .i64 0) rfl hZ))) fun e14 h16 h17 h18 => sN (bl (Ev.loop (RS := laws_toBookS_b1_RS a1 x4 (([] : Mem).length)) (RR := laws_toBookS_b1_RR a1 x4 (([] : Mem).length)) (fun s r h e M hs => laws_toBookS_b1_ok a1 x4 (([] : Mem).length) s r h e M hs) hr68 ⟨h16, h17, h18, o9, rfl⟩ fun x e70 M71 hq69 => ?_))))))))
 clear h3 h12 h13
 obtain ⟨rfl, h73, o74, hl75⟩ := hq69
 obtain ⟨x79, hx80, h⟩ := bind_some h
 refine bE (sN (sq (Rg (kx (mvO h73) (kx (mvO rfl) (Rn (hV (.lsl ([] : Mem).length y72.length 0 y72.length) rfl hZ) fun e76 h78 => sN (xx ?_)))))))
 clear h73
 have o81 := un_obj BookN.unc hx80 o74
 have hl82 := unL_len hx80
 have h83 := lslL (L' := x79.length) h78 hl82.symm
 cases h
 exact eR (resT h83 res0) (rr_row o81 rfl Book.fl)
/-! ### loop.example/g01263/laws.toDealS (f36) -/
abbrev laws_toDealS_b1_S := Int × (List Deal)
abbrev laws_toDealS_b1_R := (List Deal)
def laws_toDealS_b1_RS (a1 : List Deal) (x4 : List Deal) (i1_1 : Nat) (s : laws_toDealS_b1_S) (e : Env) (M : Mem) : Prop := eget e 0 = .sl none (a1.map Deal.c) ∧ eget e 3 = .lsl i1_1 s.2.length 0 s.2.length ∧ eget e 4 = .int .i64 s.1 ∧ M[i1_1]? = some (.live ⟨.grow, 125, 6, s.2.map Deal.c⟩) ∧ s.2.length = x4.length
def laws_toDealS_b1_RR (a1 : List Deal) (x4 : List Deal) (i1_1 : Nat) (g : laws_toDealS_b1_R) (x : Ex) (e : Env) (M : Mem) : Prop := x = .ext 0 ∧ eget e 3 = .lsl i1_1 g.length 0 g.length ∧ M[i1_1]? = some (.live ⟨.grow, 125, 6, g.map Deal.c⟩) ∧ g.length = x4.length
noncomputable def laws_toDealS_b1 (a1 : List Deal) : laws_toDealS_b1_S → Option (laws_toDealS_b1_S ⊕ laws_toDealS_b1_R) := fun (s1_1, s1_2) =>
 if (decide (s1_1 < (a1.length : Int))) = true then
  (rd a1 s1_1).bind fun x45 =>
  (laws_toDeal x45).bind fun (r48, r49, r50, r51, r52, r53) =>
  (rd s1_2 s1_1).bind fun x54 =>
  some (.inl ((IntKind.i64.wrap (s1_1 + 1)), (s1_2.set s1_1.toNat (Deal.mk r48 r49 r50 r51 r52 r53))))
 else
  some (.inr s1_2)
theorem laws_toDealS_b1_ok (a1 : List Deal) (x4 : List Deal) (i1_1 : Nat) (s : laws_toDealS_b1_S) (r : laws_toDealS_b1_S ⊕ laws_toDealS_b1_R) (h : laws_toDealS_b1 a1 s = some r) (e : Env) (M : Mem) (hs : laws_toDealS_b1_RS a1 x4 i1_1 s e M) : Ev (fun k => (f36_l3 (CN k) k (prune [0, 3, 4] e) M).bind fun q => some q) (bQ (laws_toDealS_b1_RS a1 x4 i1_1) (laws_toDealS_b1_RR a1 x4 i1_1) r) := by
 obtain ⟨s1_1, s1_2⟩ := s
 unfold laws_toDealS_b1 at h
 obtain ⟨h30, h32, h34, o36, hl37⟩ := hs
 generalize he29 : prune [0, 3, 4] e = e28
 have h31 := envp he29.symm rfl h30
 have h33 := envp he29.symm rfl h32
 have h35 := envp he29.symm rfl h34
 refine sq (sq (Rg (kx (mvO h35) (kx (mvO h31) (kx (lnS Try.underlying68 rfl) (kx (bLss rfl rfl) (Rn (hV (.sl none (a1.map Deal.c)) h31 (hV (.lsl i1_1 s1_2.length 0 s1_2.length) h33 (hV (.int .i64 s1_1) h35 (hN rfl hZ)))) fun e38 h40 h41 h42 h43 => sN ?_)))))))
 clear h31 h33 h35
 rcases ite_some h with ⟨hb44, h⟩ | ⟨hb44, h⟩
 ·obtain ⟨x45, hx46, h⟩ := bind_some h
  obtain ⟨⟨r48, r49, r50, r51, r52, r53⟩, hx47, h⟩ := bind_some h
  obtain ⟨x54, hx55, h⟩ := bind_some h
  refine cT h43 hb44 (xx (sN (sq (bl (Rg (kx (mvO h41) (kx (mvO h42) (kx (mvO h40) (kx (mvO h42) (kx (ixS rfl rfl hx46 Deal.fl) (kx (ldPA rfl rfl rfl) (kc (cl (v := .agg [.int .i64 r48, .int .i8 r49, .int .i64 r50, .int .i64 r51, .int .i64 r52, .int .i64 r53]) rfl (cns rfl rfl) rfl (laws_toDeal_ok x45 _ hx47) nm) (kx (ixO rfl o36 rfl rfl (rd_get hx55).1 (rd_lt hx55).2) (kw (stR (u := x54) (u' := (Deal.mk r48 r49 r50 r51 r52 r53)) rfl rfl o36 rfl (by rw [Nat.zero_add]; exact (rd_get hx55).2) ⟨rfl, ble rfl⟩ rfl rfl) fun M56 hM57 => ?_))))))))))))))
  rw [Nat.zero_add] at hM57
  have o58 : M56[i1_1]? = some (.live ⟨.grow, 125, 6, (s1_2.set s1_1.toNat (Deal.mk r48 r49 r50 r51 r52 r53)).map Deal.c⟩) := set_same hM57 o36
  have hx59 := rd_set (u' := (Deal.mk r48 r49 r50 r51 r52 r53)) hx55
  refine Rn (hA h40 (hA h41 (hA h42 hZ))) fun e60 h62 h63 h64 => bN (sN (Rg (kx (mvO h64) (kx (bAdd rfl rfl) (kx (mvO rfl) (Rn (hA h62 (hA h63 (hN rfl hZ))) fun e65 h67 h68 h69 => ?_))))))
  clear h40 h41 h42 h43 h62 h63
  cases h
  exact qN ⟨h67, (lslL (L' := (s1_2.set s1_1.toNat (Deal.mk r48 r49 r50 r51 r52 r53)).length) h68 (by simp [hl37])), h69, o58, (by first | rfl | simp [hl37])⟩
 refine cF h43 hb44 (xx (sE ?_))
 cases h
 exact qE ⟨rfl, h41, o36, (by first | rfl | simp [hl37])⟩
noncomputable def laws_toDealS (a1 : List Deal) : Option ((List Deal)) :=
 (mkS 48 (Deal.mk 0 0 0 0 0 0) (a1.length : Int)).bind fun x4 =>
 (Lw (laws_toDealS_b1 a1) (0, x4)).bind fun y75 =>
 some y75
def laws_toDealS_enc (r : (List Deal)) : AV := .sl (some 125) (r.map Deal.c)
theorem laws_toDealS_ok (a1 : List Deal) (r : (List Deal)) (h : laws_toDealS a1 = some r) : Ev (fun k => CN k 36 [.sl none (a1.map Deal.c)] []) (fun p => rRes p.2 p.1 = laws_toDealS_enc r) := by
 unfold laws_toDealS at h
 obtain ⟨x4, hx5, h⟩ := bind_some h
 refine Ev.enter (F := fun k => f36 (CN k) k) (fun k => callN_eq rfl Try.func36 rfl rfl rfl (by decide +kernel) (f36_eq _ _)) (sq (Rg (kx (mvO rfl) (Rn (hN rfl hZ) fun e1 h3 => sN (sq (Rg (kx (mvO h3) (kx (lnS Try.underlying68 rfl) (ku (mkO rfl rfl hx5 (c := Deal.c) zero125 Deal.fl (by decide)) fun M7 hM8 => ?_)))))))))
 have o9 : M7[([] : Mem).length]? = some (.live ⟨.grow, 125, 6, x4.map Deal.c⟩) := push_new hM8
 obtain ⟨y75, hr71, h⟩ := bind_some h
 refine kx (mvO rfl) (Rn (hA h3 (hV (.lsl ([] : Mem).length x4.length 0 x4.length) rfl hZ)) fun e10 h12 h13 => sN (sq (sq (Rg (kx (mvO rfl) (Rn (hA h12 (hA h13 (hV (.int .i64 0) rfl hZ))) fun e14 h16 h17 h18 => sN (bl (Ev.loop (RS := laws_toDealS_b1_RS a1 x4 (([] : Mem).length)) (RR := laws_toDealS_b1_RR a1 x4 (([] : Mem).length)) (fun s r h e M hs => laws_toDealS_b1_ok a1 x4 (([] : Mem).length) s r h e M hs) hr71 ⟨h16, h17, h18, o9, rfl⟩ fun x e73 M74 hq72 => ?_))))))))
 clear h3 h12 h13
 obtain ⟨rfl, h76, o77, hl78⟩ := hq72
 refine bE (sN (sq (Rg (kx (mvO h76) (kx (mvO rfl) (Rn (hV (.lsl ([] : Mem).length y75.length 0 y75.length) rfl hZ) fun e79 h81 => sN (xx ?_)))))))
 clear h76
 cases h
 exact eR (resT h81 res0) (rr_row o77 rfl Deal.fl)
/-! ### loop.example/g01263/spec.FirstWrong (f34) -/
abbrev spec_FirstWrong_b1_S := Int
abbrev spec_FirstWrong_b1_R := Int ⊕ Unit
def spec_FirstWrong_b1_RS (a3 : List Book) (r27 : List Book) (s : spec_FirstWrong_b1_S) (e : Env) (M : Mem) : Prop := eget e 2 = .sl none (a3.map Book.c) ∧ eget e 9 = .sl (some 77) (r27.map Book.c) ∧ eget e 12 = .int .i64 s
def spec_FirstWrong_b1_RR (a3 : List Book) (r27 : List Book) (r : spec_FirstWrong_b1_R) (x : Ex) (e : Env) (M : Mem) : Prop :=
  match r with
  | (.inl g) => x = .ret ∧ eget e 6 = .int .i64 g ∧ eget e 7 = .int .i64 0
  | (.inr g) => x = .ext 0 ∧ True
noncomputable def spec_FirstWrong_b1 (a3 : List Book) (r27 : List Book) : spec_FirstWrong_b1_S → Option (spec_FirstWrong_b1_S ⊕ spec_FirstWrong_b1_R) := fun s1_1 =>
 if (decide (s1_1 < (a3.length : Int))) = true then
  if (decide (s1_1 ≥ (r27.length : Int))) = true then
   some (.inr (.inl s1_1))
  else
   (rd r27 s1_1).bind fun x85 =>
   (rd a3 s1_1).bind fun x87 =>
   (spec_l07Same x85 x87).bind fun r90 =>
   if r90 = true then
    some (.inl (IntKind.i64.wrap (s1_1 + 1)))
   else
    some (.inr (.inl s1_1))
 else
  some (.inr (.inr ()))
theorem spec_FirstWrong_b1_ok (a3 : List Book) (r27 : List Book) (s : spec_FirstWrong_b1_S) (r : spec_FirstWrong_b1_S ⊕ spec_FirstWrong_b1_R) (h : spec_FirstWrong_b1 a3 r27 s = some r) (e : Env) (M : Mem) (hs : spec_FirstWrong_b1_RS a3 r27 s e M) : Ev (fun k => (f34_l8 (CN k) k (prune [2, 9, 12] e) M).bind fun q => some q) (bQ (spec_FirstWrong_b1_RS a3 r27) (spec_FirstWrong_b1_RR a3 r27) r) := by
 revert h hs
 revert s
 intro s1_1 h hs
 unfold spec_FirstWrong_b1 at h
 obtain ⟨h61, h63, h65⟩ := hs
 generalize he60 : prune [2, 9, 12] e = e59
 have h62 := envp he60.symm rfl h61
 have h64 := envp he60.symm rfl h63
 have h66 := envp he60.symm rfl h65
 refine sq (sq (Rg (kx (mvO h66) (kx (mvO h62) (kx (lnS Try.underlying81 rfl) (kx (bLss rfl rfl) (Rn (hV (.sl none (a3.map Book.c)) h62 (hV (.sl (some 77) (r27.map Book.c)) h64 (hV (.int .i64 s1_1) h66 (hN rfl hZ)))) fun e67 h69 h70 h71 h72 => sN ?_)))))))
 clear h62 h64 h66
 rcases ite_some h with ⟨hb73, h⟩ | ⟨hb73, h⟩
 ·refine cT h72 hb73 (xx (sN (sq (bl (sq (Rd (kf (mvO h71) (kf (mvO h70) (kf (lnS Try.underlying81 rfl) (kf (bGeq rfl rfl) (kf (mvO rfl) ?_)))))))))))
  rcases ite_some h with ⟨hb74, h⟩ | ⟨hb74, h⟩
  ·refine kf (gsF rfl hb74) (kf (gsF rfl hb74) (kf (gsF rfl hb74) (kf (gsF rfl hb74) (kf (gsF rfl hb74) (kf (gsF rfl hb74) (fc (Ev.gsF rfl hb74) (kf (gsF rfl hb74) (kf (pkT rfl hb74 rfl) (fZ (Rn (hA h69 (hA h70 (hA h71 (hV (.bool true) rfl hZ)))) fun e75 h77 h78 h79 h80 => sN (cT h80 rfl (sq (Rg (kx (mvO h79) (kx (mvO rfl) (kx (mvO rfl) (Rn (hN rfl (hV (.int .i64 0) rfl hZ)) fun e81 h83 h84 => sN (xx (bR (sR ?_))))))))))))))))))))
   clear h69 h70 h71 h72 h77 h78 h79 h80
   cases h
   exact qR ⟨rfl, h83, h84⟩
  obtain ⟨x85, hx86, h⟩ := bind_some h
  obtain ⟨x87, hx88, h⟩ := bind_some h
  obtain ⟨r90, hx89, h⟩ := bind_some h
  refine kf (guF rfl hb74 (mvO h70)) (kf (guF rfl hb74 (mvO h71)) (kf (guF rfl hb74 (ixS rfl rfl hx86 Book.fl)) (kf (guF rfl hb74 (mvO h69)) (kf (guF rfl hb74 (mvO h71)) (kf (guF rfl hb74 (ixS rfl rfl hx88 Book.fl)) (fc (Ev.guF rfl hb74 (cl (v := .bool r90) rfl (cns rfl (cns rfl rfl)) rfl (spec_l07Same_ok x85 x87 _ hx89) nm)) (kf (guF rfl hb74 (uNot rfl)) (kf (pkF rfl hb74 rfl) (fZ (Rn (hA h69 (hA h70 (hA h71 (hN rfl hZ)))) fun e91 h93 h94 h95 h96 => sN ?_))))))))))
  clear h69 h70 h71 h72
  rcases ite_some h with ⟨hb97, h⟩ | ⟨hb97, h⟩
  ·refine cF h96 (congrArg Bool.not hb97) (xx (bN (sN (Rg (kx (mvO h95) (kx (bAdd rfl rfl) (kx (mvO rfl) (Rn (hA h93 (hA h94 (hN rfl hZ))) fun e98 h100 h101 h102 => ?_))))))))
   clear h93 h94 h96
   cases h
   exact qN ⟨h100, h101, h102⟩
  refine cT h96 (congrArg Bool.not hb97) (sq (Rg (kx (mvO h95) (kx (mvO rfl) (kx (mvO rfl) (Rn (hN rfl (hV (.int .i64 0) rfl hZ)) fun e103 h105 h106 => sN (xx (bR (sR ?_)))))))))
  clear h93 h94 h95 h96
  cases h
  exact qR ⟨rfl, h105, h106⟩
 refine cF h72 hb73 (xx (sE ?_))
 cases h
 exact qE ⟨rfl, trivial⟩
noncomputable def spec_FirstWrong (a1 : Book) (a2 : List Deal) (a3 : List Book) : Option (Int × Int) :=
 (spec_l07Asked a1 a2).bind fun r7 =>
 if (r7 != 0) = true then
  some (0, r7)
 else
  (spec_l07All a1 a2).bind fun (r27, r28, r29) =>
  if (r28 != 0) = true then
   some (0, r28)
  else
   (Lw (spec_FirstWrong_b1 a3 r27) 0).bind fun r => match r with
   | (.inl y112) =>
    some (y112, 0)
   | (.inr _) =>
    some (0, 6)
def spec_FirstWrong_enc (r : Int × Int) : AV := .tup [.int .i64 r.1, .int .i64 r.2]
theorem spec_FirstWrong_ok (a1 : Book) (a2 : List Deal) (a3 : List Book) (r : Int × Int) (h : spec_FirstWrong a1 a2 a3 = some r) : Ev (fun k => CN k 34 [.agg [.int .i64 a1.Day, .sl none (a1.Cash.map (cI .i64)), .sl none (a1.Tallies.map Tally.c)], .sl none (a2.map Deal.c), .sl none (a3.map Book.c)] []) (fun p => rRes p.2 p.1 = spec_FirstWrong_enc r) := by
 unfold spec_FirstWrong at h
 obtain ⟨r7, hx6, h⟩ := bind_some h
 refine Ev.enter (F := fun k => f34 (CN k) k) (fun k => callN_eq rfl Try.func34 rfl rfl rfl (by decide +kernel) (f34_eq _ _)) (sq (Rg (kx (bxI rfl rfl ⟨rfl, rfl, by decide⟩) (kx (mvO rfl) (kx (mvO rfl) (Rn (hN rfl (hN rfl (hN rfl hZ))) fun e1 h3 h4 h5 => sN (sq (sq (Rg (kx (mvO h3) (kc (cl (v := .int .i64 r7) rfl (cns h5 (cns rfl rfl)) rfl (spec_l07Asked_ok a1 a2 _ hx6) nm) (kx (mvO rfl) (Rn (hA h3 (hA h4 (hA h5 (hN rfl hZ)))) fun e8 h10 h11 h12 h13 => sN (sq (Rg (kx (mvO h13) (kx (bNeq rfl rfl) (Rn (hA h10 (hA h11 (hA h12 (hA h13 (hN rfl hZ))))) fun e14 h16 h17 h18 h19 h20 => sN ?_))))))))))))))))))
 clear h3 h4 h5 h10 h11 h12 h13
 rcases ite_some h with ⟨hb21, h⟩ | ⟨hb21, h⟩
 ·refine cT h20 hb21 (sq (Rg (kx (mvO h19) (kx (mvO rfl) (kx (mvO rfl) (Rn (hV (.int .i64 0) rfl (hN rfl hZ)) fun e22 h24 h25 => sN (xx (sR ?_))))))))
  clear h16 h17 h18 h19 h20
  cases h
  exact eR (resT h24 (resT h25 res0)) rfl
 obtain ⟨⟨r27, r28, r29⟩, hx26, h⟩ := bind_some h
 refine cF h20 hb21 (xx (sN (sq (Rg (kx (mvO h16) (kc (cl (v := .tup [.sl (some 77) (r27.map Book.c), .int .i64 r28, .int .i64 r29]) rfl (cns h18 (cns rfl rfl)) rfl (spec_l07All_ok a1 a2 _ hx26) nm) (kx (mvO rfl) (kx (exT rfl rfl) (kx (exT rfl rfl) (kx (exT rfl rfl) (kx (mvO rfl) (kx (mvO rfl) (kx (mvO rfl) (Rn (hA h17 (hN rfl (hN rfl hZ))) fun e30 h32 h33 h34 => sN (sq (sq (Rg (kx (mvO h34) (kx (bNeq rfl rfl) (Rn (hA h32 (hA h33 (hA h34 (hN rfl hZ)))) fun e35 h37 h38 h39 h40 => sN ?_))))))))))))))))))))
 clear h16 h17 h18 h19 h20 h32 h33 h34
 rcases ite_some h with ⟨hb41, h⟩ | ⟨hb41, h⟩
 ·refine cT h40 hb41 (sq (Rg (kx (mvO h39) (kx (mvO rfl) (kx (mvO rfl) (Rn (hV (.int .i64 0) rfl (hN rfl hZ)) fun e42 h44 h45 => sN (xx (sR ?_))))))))
  clear h37 h38 h39 h40
  cases h
  exact eR (resT h44 (resT h45 res0)) rfl
 obtain ⟨r107, hr108, h⟩ := bind_some h
 refine cF h40 hb41 (xx (sN (sq (sq (Rg (kx (mvO rfl) (Rn (hA h37 (hA h38 (hV (.int .i64 0) rfl hZ))) fun e46 h48 h49 h50 => sN (bl ?_))))))))
 clear h37 h38 h39 h40
 rcases r107 with y112 | _
 ·refine Ev.loop (RS := spec_FirstWrong_b1_RS a3 r27) (RR := spec_FirstWrong_b1_RR a3 r27) (fun s r h e M hs => spec_FirstWrong_b1_ok a3 r27 s r h e M hs) hr108 ⟨h48, h49, h50⟩ fun x e110 M111 hq109 => ?_
  obtain ⟨rfl, h113, h114⟩ := hq109
  refine bR (sR ?_)
  cases h
  exact eR (resT h113 (resT h114 res0)) rfl
 refine Ev.loop (RS := spec_FirstWrong_b1_RS a3 r27) (RR := spec_FirstWrong_b1_RR a3 r27) (fun s r h e M hs => spec_FirstWrong_b1_ok a3 r27 s r h e M hs) hr108 ⟨h48, h49, h50⟩ fun x e115 M116 hq109 => ?_
 obtain ⟨rfl, _⟩ := hq109
 refine bE (sN (sq (Rg (kx (mvO rfl) (kx (mvO rfl) (Rn (hV (.int .i64 0) rfl (hV (.int .i64 6) rfl hZ)) fun e117 h119 h120 => sN (xx ?_)))))))
 cases h
 exact eR (resT h119 (resT h120 res0)) rfl
/-! ### loop.example/g01263/laws.szBook (f31) -/
noncomputable def laws_szBook (a1 : Book) (a2 : Int) : Option Int :=
 (laws_szInt64S a1.Cash a2).bind fun r6 =>
 if (decide (r6 < 0)) = true then
  some (-1)
 else
  (laws_szTallyS a1.Tallies r6).bind fun r21 =>
  if (decide (r21 < 0)) = true then
   some (-1)
  else
   some r21
def laws_szBook_enc (r : Int) : AV := .int .i64 r
theorem laws_szBook_ok (a1 : Book) (a2 : Int) (r : Int) (h : laws_szBook a1 a2 = some r) : Ev (fun k => CN k 31 [.agg [.int .i64 a1.Day, .sl none (a1.Cash.map (cI .i64)), .sl none (a1.Tallies.map Tally.c)], .int .i64 a2] []) (fun p => rRes p.2 p.1 = laws_szBook_enc r) := by
 unfold laws_szBook at h
 obtain ⟨r6, hx5, h⟩ := bind_some h
 refine Ev.enter (F := fun k => f31 (CN k) k) (fun k => callN_eq rfl Try.func31 rfl rfl rfl (by decide +kernel) (f31_eq _ _)) (sq (Rg (kx (bxI rfl rfl ⟨rfl, rfl, by decide⟩) (kx (mvO rfl) (Rn (hN rfl (hN rfl hZ)) fun e1 h3 h4 => sN (sq (Rg (kx (faP h4 ⟨ble rfl, blt rfl⟩ rfl) (kx (ldP rfl rfl) (kx (mvO h3) (kc (cl (v := .int .i64 r6) rfl (cns rfl (cns rfl rfl)) rfl (laws_szInt64S_ok a1.Cash a2 _ hx5) nm) (kx (mvO rfl) (Rn (hN rfl (hA h4 hZ)) fun e7 h9 h10 => sN (sq (sq (Rg (kx (mvO h9) (kx (bLss rfl rfl) (Rn (hA h9 (hA h10 (hN rfl hZ))) fun e11 h13 h14 h15 => sN ?_)))))))))))))))))))
 clear h4 h10 h9
 rcases ite_some h with ⟨hb16, h⟩ | ⟨hb16, h⟩
 ·refine cT h15 hb16 (sq (Rg (kx (mvO rfl) (Rn (hV (.int .i64 (-1)) rfl hZ) fun e17 h19 => sN (xx (sR ?_))))))
  clear h13 h14 h15
  cases h
  exact eR (resT h19 res0) rfl
 obtain ⟨r21, hx20, h⟩ := bind_some h
 refine cF h15 hb16 (xx (sN (sq (Rg (kx (faP h14 ⟨ble rfl, blt rfl⟩ rfl) (kx (ldP rfl rfl) (kx (mvO h13) (kc (cl (v := .int .i64 r21) rfl (cns rfl (cns rfl rfl)) rfl (laws_szTallyS_ok a1.Tallies r6 _ hx20) nm) (kx (mvO rfl) (Rn (hN rfl hZ) fun e22 h24 => sN (sq (sq (Rg (kx (mvO h24) (kx (bLss rfl rfl) (Rn (hA h24 (hN rfl hZ)) fun e25 h27 h28 => sN ?_))))))))))))))))
 clear h14 h15 h24
 rcases ite_some h with ⟨hb29, h⟩ | ⟨hb29, h⟩
 ·refine cT h28 hb29 (sq (Rg (kx (mvO rfl) (Rn (hV (.int .i64 (-1)) rfl hZ) fun e30 h32 => sN (xx (sR ?_))))))
  clear h27 h28
  cases h
  exact eR (resT h32 res0) rfl
 refine cF h28 hb29 (xx (sN (sq (Rg (kx (mvO h27) (kx (mvO rfl) (Rn (hN rfl hZ) fun e33 h35 => sN (xx ?_))))))))
 clear h27 h28
 cases h
 exact eR (resT h35 res0) rfl
/-! ### loop.example/g01263/laws.szBookS (f33) -/
abbrev laws_szBookS_b1_S := Int × Int
abbrev laws_szBookS_b1_R := Unit ⊕ Int
def laws_szBookS_b1_RS (a1 : List Book) (s : laws_szBookS_b1_S) (e : Env) (M : Mem) : Prop := eget e 0 = .sl none (a1.map Book.c) ∧ eget e 1 = .int .i64 s.1 ∧ eget e 5 = .int .i64 s.2
def laws_szBookS_b1_RR (a1 : List Book) (r : laws_szBookS_b1_R) (x : Ex) (e : Env) (M : Mem) : Prop :=
  match r with
  | (.inl g) => x = .ret ∧ eget e 4 = .int .i64 (-1)
  | (.inr g) => x = .ext 0 ∧ eget e 1 = .int .i64 g
noncomputable def laws_szBookS_b1 (a1 : List Book) : laws_szBookS_b1_S → Option (laws_szBookS_b1_S ⊕ laws_szBookS_b1_R) := fun (s1_1, s1_2) =>
 if (decide (s1_2 < (a1.length : Int))) = true then
  (rd a1 s1_2).bind fun x46 =>
  (laws_szBook x46 s1_1).bind fun r49 =>
  if (decide (r49 < 0)) = true then
   some (.inr (.inl ()))
  else
   some (.inl (r49, (IntKind.i64.wrap (s1_2 + 1))))
 else
  some (.inr (.inr s1_1))
theorem laws_szBookS_b1_ok (a1 : List Book) (s : laws_szBookS_b1_S) (r : laws_szBookS_b1_S ⊕ laws_szBookS_b1_R) (h : laws_szBookS_b1 a1 s = some r) (e : Env) (M : Mem) (hs : laws_szBookS_b1_RS a1 s e M) : Ev (fun k => (f33_l5 (CN k) k (prune [0, 1, 5] e) M).bind fun q => some q) (bQ (laws_szBookS_b1_RS a1) (laws_szBookS_b1_RR a1) r) := by
 obtain ⟨s1_1, s1_2⟩ := s
 unfold laws_szBookS_b1 at h
 obtain ⟨h33, h35, h37⟩ := hs
 generalize he32 : prune [0, 1, 5] e = e31
 have h34 := envp he32.symm rfl h33
 have h36 := envp he32.symm rfl h35
 have h38 := envp he32.symm rfl h37
 refine sq (sq (Rg (kx (mvO h38) (kx (mvO h34) (kx (lnS Try.underlying69 rfl) (kx (bLss rfl rfl) (Rn (hV (.sl none (a1.map Book.c)) h34 (hV (.int .i64 s1_1) h36 (hV (.int .i64 s1_2) h38 (hN rfl hZ)))) fun e39 h41 h42 h43 h44 => sN ?_)))))))
 clear h34 h36 h38
 rcases ite_some h with ⟨hb45, h⟩ | ⟨hb45, h⟩
 ·obtain ⟨x46, hx47, h⟩ := bind_some h
  obtain ⟨r49, hx48, h⟩ := bind_some h
  refine cT h44 hb45 (xx (sN (sq (bl (sq (Rg (kx (mvO h41) (kx (mvO h43) (kx (ixS rfl rfl hx47 Book.fl) (kx (ldPA rfl rfl rfl) (kx (mvO h42) (kc (cl (v := .int .i64 r49) rfl (cns rfl (cns rfl rfl)) rfl (laws_szBook_ok x46 s1_1 _ hx48) nm) (kx (mvO rfl) (Rn (hA h41 (hN rfl (hA h43 hZ))) fun e50 h52 h53 h54 => sN (sq (Rg (kx (mvO h53) (kx (bLss rfl rfl) (Rn (hA h52 (hA h53 (hA h54 (hN rfl hZ)))) fun e55 h57 h58 h59 h60 => sN ?_)))))))))))))))))))
  clear h41 h43 h44 h52 h53 h54
  rcases ite_some h with ⟨hb61, h⟩ | ⟨hb61, h⟩
  ·refine cT h60 hb61 (sq (Rg (kx (mvO rfl) (Rn (hV (.int .i64 (-1)) rfl hZ) fun e62 h64 => sN (xx (bR (sR ?_)))))))
   clear h57 h58 h59 h60
   cases h
   exact qR ⟨rfl, h64⟩
  refine cF h60 hb61 (xx (bN (sN (Rg (kx (mvO h59) (kx (bAdd rfl rfl) (kx (mvO rfl) (Rn (hA h57 (hA h58 (hN rfl hZ))) fun e65 h67 h68 h69 => ?_))))))))
  clear h57 h58 h60
  cases h
  exact qN ⟨h67, h68, h69⟩
 refine cF h44 hb45 (xx (sE ?_))
 cases h
 exact qE ⟨rfl, h42⟩
noncomputable def laws_szBookS (a1 : List Book) (a2 : Int) : Option Int :=
 if (decide ((IntKind.i64.wrap (a2 - (a1.length : Int))) < 0)) = true then
  some (-1)
 else
  (Lw (laws_szBookS_b1 a1) ((IntKind.i64.wrap (a2 - (a1.length : Int))), 0)).bind fun r => match r with
  | (.inl _) =>
   some (-1)
  | (.inr y78) =>
   some y78
def laws_szBookS_enc (r : Int) : AV := .int .i64 r
theorem laws_szBookS_ok (a1 : List Book) (a2 : Int) (r : Int) (h : laws_szBookS a1 a2 = some r) : Ev (fun k => CN k 33 [.sl none (a1.map Book.c), .int .i64 a2] []) (fun p => rRes p.2 p.1 = laws_szBookS_enc r) := by
 unfold laws_szBookS at h
 refine Ev.enter (F := fun k => f33 (CN k) k) (fun k => callN_eq rfl Try.func33 rfl rfl rfl (by decide +kernel) (f33_eq _ _)) (sq (Rg (kx (mvO rfl) (Rn (hN rfl (hN rfl hZ)) fun e1 h3 h4 => sN (sq (Rg (kx (mvO h4) (kx (mvO h3) (kx (lnS Try.underlying69 rfl) (kx (bSub rfl rfl) (kx (mvO rfl) (Rn (hA h3 (hN rfl hZ)) fun e5 h7 h8 => sN (sq (sq (Rg (kx (mvO h8) (kx (bLss rfl rfl) (Rn (hA h7 (hA h8 (hN rfl hZ))) fun e9 h11 h12 h13 => sN ?_))))))))))))))))))
 clear h3 h7 h8
 rcases ite_some h with ⟨hb14, h⟩ | ⟨hb14, h⟩
 ·refine cT h13 hb14 (sq (Rg (kx (mvO rfl) (Rn (hV (.int .i64 (-1)) rfl hZ) fun e15 h17 => sN (xx (sR ?_))))))
  clear h11 h12 h13
  cases h
  exact eR (resT h17 res0) rfl
 obtain ⟨r70, hr71, h⟩ := bind_some h
 refine cF h13 hb14 (xx (sN (sq (sq (Rg (kx (mvO rfl) (Rn (hA h11 (hA h12 (hV (.int .i64 0) rfl hZ))) fun e18 h20 h21 h22 => sN (bl ?_))))))))
 clear h11 h12 h13
 rcases r70 with _ | y78
 ·refine Ev.loop (RS := laws_szBookS_b1_RS a1) (RR := laws_szBookS_b1_RR a1) (fun s r h e M hs => laws_szBookS_b1_ok a1 s r h e M hs) hr71 ⟨h20, h21, h22⟩ fun x e73 M74 hq72 => ?_
  obtain ⟨rfl, h75⟩ := hq72
  refine bR (sR ?_)
  cases h
  exact eR (resT h75 res0) rfl
 refine Ev.loop (RS := laws_szBookS_b1_RS a1) (RR := laws_szBookS_b1_RR a1) (fun s r h e M hs => laws_szBookS_b1_ok a1 s r h e M hs) hr71 ⟨h20, h21, h22⟩ fun x e76 M77 hq72 => ?_
 obtain ⟨rfl, h79⟩ := hq72
 refine bE (sN (sq (Rg (kx (mvO h79) (kx (mvO rfl) (Rn (hN rfl hZ) fun e80 h82 => sN (xx ?_)))))))
 clear h79
 cases h
 exact eR (resT h82 res0) rfl
/-! ### loop.example/g01263/laws.szDealS (f32) -/
noncomputable def laws_szDealS (a1 : List Deal) (a2 : Int) : Option Int :=
 if (decide ((IntKind.i64.wrap (a2 - (a1.length : Int))) < 0)) = true then
  some (-1)
 else
  some (IntKind.i64.wrap (a2 - (a1.length : Int)))
def laws_szDealS_enc (r : Int) : AV := .int .i64 r
theorem laws_szDealS_ok (a1 : List Deal) (a2 : Int) (r : Int) (h : laws_szDealS a1 a2 = some r) : Ev (fun k => CN k 32 [.sl none (a1.map Deal.c), .int .i64 a2] []) (fun p => rRes p.2 p.1 = laws_szDealS_enc r) := by
 unfold laws_szDealS at h
 refine Ev.enter (F := fun k => f32 (CN k) k) (fun k => callN_eq rfl Try.func32 rfl rfl rfl (by decide +kernel) (f32_eq _ _)) (sq (Rg (kx (mvO rfl) (Rn (hN rfl (hN rfl hZ)) fun e1 h3 h4 => sN (sq (Rg (kx (mvO h4) (kx (mvO h3) (kx (lnS Try.underlying68 rfl) (kx (bSub rfl rfl) (kx (mvO rfl) (Rn (hN rfl hZ) fun e5 h7 => sN (sq (sq (Rg (kx (mvO h7) (kx (bLss rfl rfl) (Rn (hA h7 (hN rfl hZ)) fun e8 h10 h11 => sN ?_))))))))))))))))))
 clear h3 h7
 rcases ite_some h with ⟨hb12, h⟩ | ⟨hb12, h⟩
 ·refine cT h11 hb12 (sq (Rg (kx (mvO rfl) (Rn (hV (.int .i64 (-1)) rfl hZ) fun e13 h15 => sN (xx (sR ?_))))))
  clear h10 h11
  cases h
  exact eR (resT h15 res0) rfl
 refine cF h11 hb12 (xx (sN (sq (Rg (kx (mvO h10) (kx (mvO rfl) (Rn (hN rfl hZ) fun e16 h18 => sN (xx ?_))))))))
 clear h10 h11
 cases h
 exact eR (resT h18 res0) rfl
/-! ### loop.example/g01263/laws.FnExactFirstWrong (f6) -/
def laws_FnExactFirstWrong_c1_Q (a1 : Book) (a2 : List Deal) (a3 : List Book) (r87 : Int) (r88 : List Int) (r89 : List Tally) (r106 : List Deal) (r117 : List Book) (i901_1 : Nat) (g : Bool) (q : Out) : Prop := q.1 = .nrm ∧ eget q.2.1 1 = .sl none (a2.map Deal.c) ∧ eget q.2.1 2 = .sl none (a3.map Book.c) ∧ eget q.2.1 3 = .pt none [.int .i64 a1.Day, .sl none (a1.Cash.map (cI .i64)), .sl none (a1.Tallies.map Tally.c)] ∧ eget q.2.1 10 = .loc i901_1 1 0 0 ∧ eget q.2.1 11 = .sl (some 125) (r106.map Deal.c) ∧ eget q.2.1 12 = .sl (some 77) (r117.map Book.c) ∧ eget q.2.1 60 = .bool g ∧ q.2.2[i901_1]? = some (.live ⟨.box, 77, 3, [[.int .i64 r87, .sl none (r88.map (cI .i64)), .sl none (r89.map Tally.c)]]⟩)
noncomputable def laws_FnExactFirstWrong (a1 : Book) (a2 : List Deal) (a3 : List Book) : Option Bool :=
 (laws_szBook a1 1048576).bind fun r13 =>
 if (decide (r13 < 0)) = true then
  some true
 else
  (laws_szDealS a2 r13).bind fun r32 =>
  if (decide (r32 < 0)) = true then
   some true
  else
   (laws_szBookS a3 r32).bind fun r51 =>
   if (decide (r51 < 0)) = true then
    some true
   else
    (laws_toBook a1).bind fun (r69, r70, r71) =>
    (laws_toDealS a2).bind fun r73 =>
    (laws_toBookS a3).bind fun r75 =>
    (spec_FirstWrong (Book.mk r69 r70 r71) r73 r75).bind fun (r77, r78) =>
    (laws_toBook a1).bind fun (r87, r88, r89) =>
    (laws_toDealS a2).bind fun r106 =>
    (laws_toBookS a3).bind fun r117 =>
    (impl_FirstWrong (Book.mk r87 r88 r89) r106 r117).bind fun (r129, r130) =>
    (if (r129 != r77) = true then
     some true
    else
     some (r130 != r78)).bind fun y164 =>
    if y164 = true then
     some false
    else
     (laws_toBook a1).bind fun (r178, r179, r180) =>
     (laws_eqBook (Book.mk r87 r88 r89) (Book.mk r178 r179 r180)).bind fun r182 =>
     if r182 = true then
      (laws_toDealS a2).bind fun r192 =>
      (laws_eqDealS r106 r192).bind fun r194 =>
      if r194 = true then
       (laws_toBookS a3).bind fun r202 =>
       (laws_eqBookS r117 r202).bind fun r204 =>
       if r204 = true then
        some true
       else
        some false
      else
       some false
     else
      some false
def laws_FnExactFirstWrong_enc (r : Bool) : AV := .bool r
theorem laws_FnExactFirstWrong_ok (a1 : Book) (a2 : List Deal) (a3 : List Book) (r : Bool) (h : laws_FnExactFirstWrong a1 a2 a3 = some r) : Ev (fun k => CN k 6 [.agg [.int .i64 a1.Day, .sl none (a1.Cash.map (cI .i64)), .sl none (a1.Tallies.map Tally.c)], .sl none (a2.map Deal.c), .sl none (a3.map Book.c)] []) (fun p => rRes p.2 p.1 = laws_FnExactFirstWrong_enc r) := by
 unfold laws_FnExactFirstWrong at h
 obtain ⟨r13, hx12, h⟩ := bind_some h
 refine Ev.enter (F := fun k => f6 (CN k) k) (fun k => callN_eq rfl Try.func6 rfl rfl rfl (by decide +kernel) (f6_eq _ _)) (sq (Rg (kx (bxI rfl rfl ⟨rfl, rfl, by decide⟩) (kx (mvO rfl) (Rn (hN rfl (hN rfl (hN rfl hZ))) fun e1 h3 h4 h5 => sN (sq (Rg (kx (mvO rfl) (Rn (hA h3 (hA h4 (hA h5 (hV (.int .i64 1048576) rfl hZ)))) fun e6 h8 h9 h10 h11 => sN (sq (Rg (kx (ldPA h10 rfl rfl) (kx (mvO h11) (kc (cl (v := .int .i64 r13) rfl (cns rfl (cns rfl rfl)) rfl (laws_szBook_ok a1 1048576 _ hx12) nm) (kx (mvO rfl) (Rn (hA h8 (hA h9 (hA h10 (hN rfl hZ)))) fun e14 h16 h17 h18 h19 => sN (sq (sq (Rg (kx (mvO h19) (kx (bLss rfl rfl) (Rn (hA h16 (hA h17 (hA h18 (hA h19 (hN rfl hZ))))) fun e20 h22 h23 h24 h25 h26 => sN ?_))))))))))))))))))))))
 clear h3 h4 h5 h10 h8 h9 h16 h17 h18 h19
 rcases ite_some h with ⟨hb27, h⟩ | ⟨hb27, h⟩
 ·refine cT h26 hb27 (sq (Rg (kx (mvO rfl) (Rn (hV (.bool true) rfl hZ) fun e28 h30 => sN (xx (sR ?_))))))
  clear h22 h23 h24 h25 h26
  cases h
  exact eR (resT h30 res0) rfl
 obtain ⟨r32, hx31, h⟩ := bind_some h
 refine cF h26 hb27 (xx (sN (sq (Rg (kx (mvO h22) (kx (mvO h25) (kc (cl (v := .int .i64 r32) rfl (cns rfl (cns rfl rfl)) rfl (laws_szDealS_ok a2 r13 _ hx31) nm) (kx (mvO rfl) (Rn (hA h22 (hA h23 (hA h24 (hN rfl hZ)))) fun e33 h35 h36 h37 h38 => sN (sq (sq (Rg (kx (mvO h38) (kx (bLss rfl rfl) (Rn (hA h35 (hA h36 (hA h37 (hA h38 (hN rfl hZ))))) fun e39 h41 h42 h43 h44 h45 => sN ?_)))))))))))))))
 clear h22 h23 h24 h26 h35 h36 h37 h38
 rcases ite_some h with ⟨hb46, h⟩ | ⟨hb46, h⟩
 ·refine cT h45 hb46 (sq (Rg (kx (mvO rfl) (Rn (hV (.bool true) rfl hZ) fun e47 h49 => sN (xx (sR ?_))))))
  clear h41 h42 h43 h44 h45
  cases h
  exact eR (resT h49 res0) rfl
 obtain ⟨r51, hx50, h⟩ := bind_some h
 refine cF h45 hb46 (xx (sN (sq (Rg (kx (mvO h42) (kx (mvO h44) (kc (cl (v := .int .i64 r51) rfl (cns rfl (cns rfl rfl)) rfl (laws_szBookS_ok a3 r32 _ hx50) nm) (kx (mvO rfl) (Rn (hA h41 (hA h42 (hA h43 (hN rfl hZ)))) fun e52 h54 h55 h56 h57 => sN (sq (sq (Rg (kx (mvO h57) (kx (bLss rfl rfl) (Rn (hA h54 (hA h55 (hA h56 (hN rfl hZ)))) fun e58 h60 h61 h62 h63 => sN ?_)))))))))))))))
 clear h41 h42 h43 h45 h54 h55 h56 h57
 rcases ite_some h with ⟨hb64, h⟩ | ⟨hb64, h⟩
 ·refine cT h63 hb64 (sq (Rg (kx (mvO rfl) (Rn (hV (.bool true) rfl hZ) fun e65 h67 => sN (xx (sR ?_))))))
  clear h60 h61 h62 h63
  cases h
  exact eR (resT h67 res0) rfl
 obtain ⟨⟨r69, r70, r71⟩, hx68, h⟩ := bind_some h
 obtain ⟨r73, hx72, h⟩ := bind_some h
 obtain ⟨r75, hx74, h⟩ := bind_some h
 obtain ⟨⟨r77, r78⟩, hx76, h⟩ := bind_some h
 obtain ⟨⟨r87, r88, r89⟩, hx86, h⟩ := bind_some h
 refine cF h63 hb64 (xx (sN (sq (Rg (kx (ldPA h62 rfl rfl) (kc (cl (v := .agg [.int .i64 r69, .sl none (r70.map (cI .i64)), .sl none (r71.map Tally.c)]) rfl (cns rfl rfl) rfl (laws_toBook_ok a1 _ hx68) nm) (kx (mvO h60) (kc (cl (v := .sl (some 125) (r73.map Deal.c)) rfl (cns rfl rfl) rfl (laws_toDealS_ok a2 _ hx72) nm) (kx (mvO h61) (kc (cl (v := .sl (some 77) (r75.map Book.c)) rfl (cns rfl rfl) rfl (laws_toBookS_ok a3 _ hx74) nm) (kc (cl (v := .tup [.int .i64 r77, .int .i64 r78]) rfl (cns rfl (cns rfl (cns rfl rfl))) rfl (spec_FirstWrong_ok (Book.mk r69 r70 r71) r73 r75 _ hx76) nm) (kx (mvO rfl) (kx (exT rfl rfl) (kx (exT rfl rfl) (kx (mvO rfl) (kx (mvO rfl) (Rn (hA h60 (hA h61 (hA h62 (hN rfl (hN rfl hZ))))) fun e79 h81 h82 h83 h84 h85 => sN (sq (Rg (kx (ldPA h83 rfl rfl) (kc (cl (v := .agg [.int .i64 r87, .sl none (r88.map (cI .i64)), .sl none (r89.map Tally.c)]) rfl (cns rfl rfl) rfl (laws_toBook_ok a1 _ hx86) nm) (ku (alO zero77) fun M91 hM92 => ?_))))))))))))))))))))))
 clear h60 h61 h62 h63
 have o93 : M91[([] : Mem).length]? = some (.live ⟨.box, 77, 3, [[.int .i64 0, .nils, .nils]]⟩) := push_new hM92
 refine kw (stO rfl rfl o93 rfl rfl ⟨rfl, ble rfl⟩ rfl rfl) fun M94 hM95 => ?_
 have o96 : M94[([] : Mem).length]? = some (.live ⟨.box, 77, 3, [[.int .i64 r87, .sl none (r88.map (cI .i64)), .sl none (r89.map Tally.c)]]⟩) := set_same hM95 o93
 obtain ⟨r106, hx105, h⟩ := bind_some h
 obtain ⟨r117, hx116, h⟩ := bind_some h
 obtain ⟨⟨r129, r130⟩, hx128, h⟩ := bind_some h
 obtain ⟨r222, hr223, h⟩ := bind_some h
 refine Rn (hA h81 (hA h82 (hA h83 (hA h84 (hA h85 (hV (.loc ([] : Mem).length 1 0 0) rfl hZ)))))) fun e97 h99 h100 h101 h102 h103 h104 => sN (sq (Rg (kx (mvO h99) (kc (cl (v := .sl (some 125) (r106.map Deal.c)) rfl (cns rfl rfl) rfl (laws_toDealS_ok a2 _ hx105) nm) (kx (mvO rfl) (Rn (hA h99 (hA h100 (hA h101 (hA h102 (hA h103 (hA h104 (hN rfl hZ))))))) fun e107 h109 h110 h111 h112 h113 h114 h115 => sN (sq (Rg (kx (mvO h110) (kc (cl (v := .sl (some 77) (r117.map Book.c)) rfl (cns rfl rfl) rfl (laws_toBookS_ok a3 _ hx116) nm) (kx (mvO rfl) (Rn (hA h109 (hA h110 (hA h111 (hA h112 (hA h113 (hA h114 (hA h115 (hN rfl hZ)))))))) fun e118 h120 h121 h122 h123 h124 h125 h126 h127 => sN (sq (Rg (kx (ldOA h125 o96 rfl rfl (ble rfl) rfl) (kx (mvO h126) (kx (mvO h127) (kc (cl (v := .tup [.int .i64 r129, .int .i64 r130]) rfl (cns rfl (cns rfl (cns rfl rfl))) rfl (impl_FirstWrong_ok (Book.mk r87 r88 r89) r106 r117 _ hx128) nm) (kx (mvO rfl) (kx (exT rfl rfl) (kx (exT rfl rfl) (kx (mvO rfl) (kx (mvO rfl) (Rn (hA h120 (hA h121 (hA h122 (hA h123 (hA h124 (hA h125 (hA h126 (hA h127 (hN rfl (hN rfl hZ)))))))))) fun e131 h133 h134 h135 h136 h137 h138 h139 h140 h141 h142 => sN (sq (sq ?_))))))))))))))))))))))))))
 clear h81 h82 h83 h84 h85 h100 h101 h102 h103 h104 h99 h109 h110 h111 h112 h113 h114 h115 h120 h121 h122 h123 h124 h125 h126 h127
 refine Ev.cut (Q1 := laws_FnExactFirstWrong_c1_Q a1 a2 a3 r87 r88 r89 r106 r117 (([] : Mem).length) r222) (by
     have h := hr223
     refine Rg (kx (mvO h141) (kx (mvO h136) (kx (bNeq rfl rfl) (kx (mvO rfl) ?_))))
     rcases ite_some h with ⟨hb143, h⟩ | ⟨hb143, h⟩
     ·refine kx (gsF rfl hb143) (kx (gsF rfl hb143) (kx (gsF rfl hb143) (kx (pkT rfl hb143 rfl) (Rn (hA h133 (hA h134 (hA h135 (hA h138 (hA h139 (hA h140 (hV (.bool true) rfl hZ))))))) fun e144 h146 h147 h148 h149 h150 h151 h152 => ?_))))
      clear h133 h134 h135 h136 h137 h138 h139 h140 h141 h142
      cases h
      exact kd (show laws_FnExactFirstWrong_c1_Q a1 a2 a3 r87 r88 r89 r106 r117 (([] : Mem).length) _ _ from ⟨rfl, h146, h147, h148, h149, h150, h151, h152, o96⟩)
     refine kx (guF rfl hb143 (mvO h142)) (kx (guF rfl hb143 (mvO h137)) (kx (guF rfl hb143 (bNeq rfl rfl)) (kx (pkF rfl hb143 rfl) (Rn (hA h133 (hA h134 (hA h135 (hA h138 (hA h139 (hA h140 (hN rfl hZ))))))) fun e153 h155 h156 h157 h158 h159 h160 h161 => ?_))))
     clear h133 h134 h135 h136 h137 h138 h139 h140 h141 h142
     cases h
     exact kd (show laws_FnExactFirstWrong_c1_Q a1 a2 a3 r87 r88 r89 r106 r117 (([] : Mem).length) _ _ from ⟨rfl, h155, h156, h157, h158, h159, h160, h161, o96⟩)) ?_
 revert h hr223
 revert r222
 intro y164 hr223 h
 intro x e162 M163 hq221
 obtain ⟨rfl, h165, h166, h167, h168, h169, h170, h171, o172⟩ := hq221
 refine sN ?_
 rcases ite_some h with ⟨hb173, h⟩ | ⟨hb173, h⟩
 ·refine cT h171 hb173 (sq (Rg (kx (mvO rfl) (Rn (hV (.bool false) rfl hZ) fun e174 h176 => sN (xx (sR ?_))))))
  clear h165 h166 h167 h168 h169 h170 h171
  cases h
  exact eR (resT h176 res0) rfl
 obtain ⟨⟨r178, r179, r180⟩, hx177, h⟩ := bind_some h
 obtain ⟨r182, hx181, h⟩ := bind_some h
 refine cF h171 hb173 (xx (sN (sq (sq (Rd (kf (ldOA h168 o172 rfl rfl (ble rfl) rfl) (kf (ldPA h167 rfl rfl) (fc (cl (v := .agg [.int .i64 r178, .sl none (r179.map (cI .i64)), .sl none (r180.map Tally.c)]) rfl (cns rfl rfl) rfl (laws_toBook_ok a1 _ hx177) nm) (fc (cl (v := .bool r182) rfl (cns rfl (cns rfl rfl)) rfl (laws_eqBook_ok (Book.mk r87 r88 r89) (Book.mk r178 r179 r180) _ hx181) nm) (kf (uNot rfl) (fZ (Rn (hV (.sl none (a2.map Deal.c)) h165 (hV (.sl none (a3.map Book.c)) h166 (hV (.sl (some 125) (r106.map Deal.c)) h169 (hV (.sl (some 77) (r117.map Book.c)) h170 (hN rfl hZ))))) fun e183 h185 h186 h187 h188 h189 => sN ?_))))))))))))
 clear h165 h166 h167 h168 h169 h170 h171
 rcases ite_some h with ⟨hb190, h⟩ | ⟨hb190, h⟩
 ·obtain ⟨r192, hx191, h⟩ := bind_some h
  obtain ⟨r194, hx193, h⟩ := bind_some h
  refine cF h189 (congrArg Bool.not hb190) (xx (sN (sq (sq (Rg (kx (mvO h187) (kx (mvO h185) (kc (cl (v := .sl (some 125) (r192.map Deal.c)) rfl (cns rfl rfl) rfl (laws_toDealS_ok a2 _ hx191) nm) (kc (cl (v := .bool r194) rfl (cns rfl (cns rfl rfl)) rfl (laws_eqDealS_ok r106 r192 _ hx193) nm) (kx (uNot rfl) (Rn (hA h186 (hA h188 (hN rfl hZ))) fun e195 h197 h198 h199 => sN ?_)))))))))))
  clear h185 h186 h187 h188 h189
  rcases ite_some h with ⟨hb200, h⟩ | ⟨hb200, h⟩
  ·obtain ⟨r202, hx201, h⟩ := bind_some h
   obtain ⟨r204, hx203, h⟩ := bind_some h
   refine cF h199 (congrArg Bool.not hb200) (xx (sN (sq (sq (Rg (kx (mvO h198) (kx (mvO h197) (kc (cl (v := .sl (some 77) (r202.map Book.c)) rfl (cns rfl rfl) rfl (laws_toBookS_ok a3 _ hx201) nm) (kc (cl (v := .bool r204) rfl (cns rfl (cns rfl rfl)) rfl (laws_eqBookS_ok r117 r202 _ hx203) nm) (kx (uNot rfl) (Rn (hN rfl hZ) fun e205 h207 => sN ?_)))))))))))
   clear h197 h198 h199
   rcases ite_some h with ⟨hb208, h⟩ | ⟨hb208, h⟩
   ·refine cF h207 (congrArg Bool.not hb208) (xx (sN (sq (Rg (kx (mvO rfl) (Rn (hV (.bool true) rfl hZ) fun e209 h211 => sN (xx ?_)))))))
    clear h207
    cases h
    exact eR (resT h211 res0) rfl
   refine cT h207 (congrArg Bool.not hb208) (sq (Rg (kx (mvO rfl) (Rn (hV (.bool false) rfl hZ) fun e212 h214 => sN (xx (sR ?_))))))
   clear h207
   cases h
   exact eR (resT h214 res0) rfl
  refine cT h199 (congrArg Bool.not hb200) (sq (Rg (kx (mvO rfl) (Rn (hV (.bool false) rfl hZ) fun e215 h217 => sN (xx (sR ?_))))))
  clear h197 h198 h199
  cases h
  exact eR (resT h217 res0) rfl
 refine cT h189 (congrArg Bool.not hb190) (sq (Rg (kx (mvO rfl) (Rn (hV (.bool false) rfl hZ) fun e218 h220 => sN (xx (sR ?_))))))
 clear h185 h186 h187 h188 h189
 cases h
 exact eR (resT h220 res0) rfl
end Go.Proofs.Ytkkmbehooldmjaa

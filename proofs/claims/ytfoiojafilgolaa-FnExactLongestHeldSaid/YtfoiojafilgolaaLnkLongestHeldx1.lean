/- Printed by a program of ours (ext.py). -/
import Derived.Test.YtfoiojafilgolaaLnkLongestHeldx0
set_option linter.unusedVariables false
set_option linter.unusedSimpArgs false
set_option maxRecDepth 100000
set_option maxHeartbeats 2000000
namespace Go.Proofs.Ytfoiojafilgolaa
open Go Go.Ab
/-! ### loop.example/g01263/spec.l07Ok (f117) -/
def spec_l07Ok_c1_Q (a1 : Book) (g : Bool) (q : Out) : Prop := q.1 = .nrm ∧ eget q.2.1 0 = .pt none [.int .i64 a1.Day, .sl none (a1.Cash.map (cI .i64)), .sl none (a1.Tallies.map Tally.c)] ∧ eget q.2.1 27 = .bool g
def spec_l07Ok_c3_Q (a1 : Book) (s1_1 : Int) (x63 : Tally) (g : Bool) (q : Out) : Prop := q.1 = .nrm ∧ eget q.2.1 0 = .pt none [.int .i64 a1.Day, .sl none (a1.Cash.map (cI .i64)), .sl none (a1.Tallies.map Tally.c)] ∧ eget q.2.1 3 = .int .i64 (a1.Cash.length : Int) ∧ eget q.2.1 4 = .int .i64 s1_1 ∧ eget q.2.1 5 = .pt none [.int .i64 x63.Debtor, .int .i64 x63.Holder, .int .i64 x63.Cut, .int .i64 x63.Amount, .int .i64 x63.Left] ∧ eget q.2.1 95 = .bool g
abbrev spec_l07Ok_b1_S := Int
abbrev spec_l07Ok_b1_R := Unit ⊕ Unit
def spec_l07Ok_b1_RS (a1 : Book) (s : spec_l07Ok_b1_S) (e : Env) (M : Mem) : Prop := eget e 0 = .pt none [.int .i64 a1.Day, .sl none (a1.Cash.map (cI .i64)), .sl none (a1.Tallies.map Tally.c)] ∧ eget e 3 = .int .i64 (a1.Cash.length : Int) ∧ eget e 4 = .int .i64 s
def spec_l07Ok_b1_RR (a1 : Book) (r : spec_l07Ok_b1_R) (x : Ex) (e : Env) (M : Mem) : Prop :=
  match r with
  | (.inl g) => x = .ret ∧ eget e 2 = .bool false
  | (.inr g) => x = .ext 0 ∧ True
noncomputable def spec_l07Ok_b1 (a1 : Book) : spec_l07Ok_b1_S → Option (spec_l07Ok_b1_S ⊕ spec_l07Ok_b1_R) := fun s1_1 =>
 if (decide (s1_1 < (a1.Tallies.length : Int))) = true then
  (rd a1.Tallies s1_1).bind fun x63 =>
  ((spec_l02Person (a1.Cash.length : Int) x63.Debtor).bind fun r72 =>
  if r72 = true then
   (spec_l02Person (a1.Cash.length : Int) x63.Holder).bind fun r75 =>
   if r75 = true then
    (spec_l00In x63.Cut 0 a1.Day).bind fun r78 =>
    if r78 = true then
     (spec_l00In x63.Amount 1 100000000).bind fun r81 =>
     if r81 = true then
      (spec_l00In x63.Left 0 x63.Amount).bind fun r84 =>
      some (!r84)
     else
      some true
    else
     some true
   else
    some true
  else
   some true).bind fun y122 =>
  if y122 = true then
   some (.inr (.inl ()))
  else
   if (x63.Debtor == x63.Holder) = true then
    if (x63.Left != 0) = true then
     some (.inr (.inl ()))
    else
     if (decide (s1_1 > 0)) = true then
      (rd a1.Tallies (IntKind.i64.wrap (s1_1 - 1))).bind fun x144 =>
      if (decide (x63.Cut < x144.Cut)) = true then
       some (.inr (.inl ()))
      else
       some (.inl (IntKind.i64.wrap (s1_1 + 1)))
     else
      some (.inl (IntKind.i64.wrap (s1_1 + 1)))
   else
    if (decide (s1_1 > 0)) = true then
     (rd a1.Tallies (IntKind.i64.wrap (s1_1 - 1))).bind fun x173 =>
     if (decide (x63.Cut < x173.Cut)) = true then
      some (.inr (.inl ()))
     else
      some (.inl (IntKind.i64.wrap (s1_1 + 1)))
    else
     some (.inl (IntKind.i64.wrap (s1_1 + 1)))
 else
  some (.inr (.inr ()))
theorem spec_l07Ok_b1_ok (a1 : Book) (s : spec_l07Ok_b1_S) (r : spec_l07Ok_b1_S ⊕ spec_l07Ok_b1_R) (h : spec_l07Ok_b1 a1 s = some r) (e : Env) (M : Mem) (hs : spec_l07Ok_b1_RS a1 s e M) : Ev (fun k => (f117_l5 (CN k) k (prune [0, 3, 4] e) M).bind fun q => some q) (bQ (spec_l07Ok_b1_RS a1) (spec_l07Ok_b1_RR a1) r) := by
 revert h hs
 revert s
 intro s1_1 h hs
 unfold spec_l07Ok_b1 at h
 obtain ⟨h50, h52, h54⟩ := hs
 generalize he49 : prune [0, 3, 4] e = e48
 have h51 := envp he49.symm rfl h50
 have h53 := envp he49.symm rfl h52
 have h55 := envp he49.symm rfl h54
 refine sq (sq (Rg (kx (mvO h55) (kx (mvO h51) (kx (ncP rfl) (kx (faP rfl ⟨ble rfl, blt rfl⟩ rfl) (kx (ldP rfl rfl) (kx (lnS Try.underlying48 rfl) (kx (bLss rfl rfl) (Rn (hV (.pt none [.int .i64 a1.Day, .sl none (a1.Cash.map (cI .i64)), .sl none (a1.Tallies.map Tally.c)]) h51 (hV (.int .i64 (a1.Cash.length : Int)) h53 (hV (.int .i64 s1_1) h55 (hN rfl hZ)))) fun e56 h58 h59 h60 h61 => sN ?_))))))))))
 clear h51 h53 h55
 rcases ite_some h with ⟨hb62, h⟩ | ⟨hb62, h⟩
 ·obtain ⟨x63, hx64, h⟩ := bind_some h
  obtain ⟨r202, hr203, h⟩ := bind_some h
  refine cT h61 hb62 (xx (sN (sq (bl (sq (Rg (kx (mvO h58) (kx (ncP rfl) (kx (faP rfl ⟨ble rfl, blt rfl⟩ rfl) (kx (ldP rfl rfl) (kx (mvO h60) (kx (ixS rfl rfl hx64 Tally.fl) (kx (mvO rfl) (Rn (hA h58 (hA h59 (hA h60 (hN rfl hZ)))) fun e65 h67 h68 h69 h70 => sN (sq (sq ?_))))))))))))))))
  clear h58 h59 h60 h61
  refine Ev.cut (Q1 := spec_l07Ok_c3_Q a1 s1_1 x63 r202) (by
      have h := hr203
      obtain ⟨r72, hx71, h⟩ := bind_some h
      refine Rd (kf (mvO h68) (kf (mvO h70) (kf (ncP rfl) (kf (faP rfl ⟨ble rfl, blt rfl⟩ rfl) (kf (ldP rfl rfl) (fc (cl (v := .bool r72) rfl (cns rfl (cns rfl rfl)) rfl (spec_l02Person_ok (a1.Cash.length : Int) x63.Debtor _ hx71) nm) (kf (uNot rfl) (kf (mvO rfl) ?_))))))))
      rcases ite_some h with ⟨hb73, h⟩ | ⟨hb73, h⟩
      ·obtain ⟨r75, hx74, h⟩ := bind_some h
       refine kf (guF rfl (congrArg Bool.not hb73) (mvO h68)) (kf (guF rfl (congrArg Bool.not hb73) (mvO h70)) (kf (guF rfl (congrArg Bool.not hb73) (ncP rfl)) (kf (guF rfl (congrArg Bool.not hb73) (faP rfl ⟨ble rfl, blt rfl⟩ rfl)) (kf (guF rfl (congrArg Bool.not hb73) (ldP rfl rfl)) (fc (Ev.guF rfl (congrArg Bool.not hb73) (cl (v := .bool r75) rfl (cns rfl (cns rfl rfl)) rfl (spec_l02Person_ok (a1.Cash.length : Int) x63.Holder _ hx74) nm)) (kf (guF rfl (congrArg Bool.not hb73) (uNot rfl)) (kf (pkF rfl (congrArg Bool.not hb73) rfl) (kf (mvO rfl) ?_))))))))
       rcases ite_some h with ⟨hb76, h⟩ | ⟨hb76, h⟩
       ·obtain ⟨r78, hx77, h⟩ := bind_some h
        refine kf (guF rfl (congrArg Bool.not hb76) (mvO h70)) (kf (guF rfl (congrArg Bool.not hb76) (ncP rfl)) (kf (guF rfl (congrArg Bool.not hb76) (faP rfl ⟨ble rfl, blt rfl⟩ rfl)) (kf (guF rfl (congrArg Bool.not hb76) (ldP rfl rfl)) (kf (guF rfl (congrArg Bool.not hb76) (mvO h67)) (kf (guF rfl (congrArg Bool.not hb76) (ncP rfl)) (kf (guF rfl (congrArg Bool.not hb76) (faP rfl ⟨ble rfl, blt rfl⟩ rfl)) (kf (guF rfl (congrArg Bool.not hb76) (ldP rfl rfl)) (fc (Ev.guF rfl (congrArg Bool.not hb76) (cl (v := .bool r78) rfl (cns rfl (cns rfl (cns rfl rfl))) rfl (spec_l00In_ok x63.Cut 0 a1.Day _ hx77) nm)) (kf (guF rfl (congrArg Bool.not hb76) (uNot rfl)) (kf (pkF rfl (congrArg Bool.not hb76) rfl) (kf (mvO rfl) ?_)))))))))))
        rcases ite_some h with ⟨hb79, h⟩ | ⟨hb79, h⟩
        ·obtain ⟨r81, hx80, h⟩ := bind_some h
         refine kf (guF rfl (congrArg Bool.not hb79) (mvO h70)) (kf (guF rfl (congrArg Bool.not hb79) (ncP rfl)) (kf (guF rfl (congrArg Bool.not hb79) (faP rfl ⟨ble rfl, blt rfl⟩ rfl)) (kf (guF rfl (congrArg Bool.not hb79) (ldP rfl rfl)) (fc (Ev.guF rfl (congrArg Bool.not hb79) (cl (v := .bool r81) rfl (cns rfl (cns rfl (cns rfl rfl))) rfl (spec_l00In_ok x63.Amount 1 100000000 _ hx80) nm)) (kf (guF rfl (congrArg Bool.not hb79) (uNot rfl)) (kf (pkF rfl (congrArg Bool.not hb79) rfl) (kf (mvO rfl) ?_)))))))
         rcases ite_some h with ⟨hb82, h⟩ | ⟨hb82, h⟩
         ·obtain ⟨r84, hx83, h⟩ := bind_some h
          refine kf (guF rfl (congrArg Bool.not hb82) (mvO h70)) (kf (guF rfl (congrArg Bool.not hb82) (ncP rfl)) (kf (guF rfl (congrArg Bool.not hb82) (faP rfl ⟨ble rfl, blt rfl⟩ rfl)) (kf (guF rfl (congrArg Bool.not hb82) (ldP rfl rfl)) (kf (guF rfl (congrArg Bool.not hb82) (mvO h70)) (kf (guF rfl (congrArg Bool.not hb82) (ncP rfl)) (kf (guF rfl (congrArg Bool.not hb82) (faP rfl ⟨ble rfl, blt rfl⟩ rfl)) (kf (guF rfl (congrArg Bool.not hb82) (ldP rfl rfl)) (fc (Ev.guF rfl (congrArg Bool.not hb82) (cl (v := .bool r84) rfl (cns rfl (cns rfl (cns rfl rfl))) rfl (spec_l00In_ok x63.Left 0 x63.Amount _ hx83) nm)) (kf (guF rfl (congrArg Bool.not hb82) (uNot rfl)) (kf (pkF rfl (congrArg Bool.not hb82) rfl) (fZ (Rn (hA h67 (hA h68 (hA h69 (hA h70 (hN rfl hZ))))) fun e85 h87 h88 h89 h90 h91 => ?_))))))))))))
          clear h67 h68 h69 h70
          obtain rfl := si h
          exact kd (show spec_l07Ok_c3_Q a1 s1_1 x63 _ _ from ⟨rfl, h87, h88, h89, h90, h91⟩)
         refine kf (gsF rfl (congrArg Bool.not hb82)) (kf (gsF rfl (congrArg Bool.not hb82)) (kf (gsF rfl (congrArg Bool.not hb82)) (kf (gsF rfl (congrArg Bool.not hb82)) (kf (gsF rfl (congrArg Bool.not hb82)) (kf (gsF rfl (congrArg Bool.not hb82)) (kf (gsF rfl (congrArg Bool.not hb82)) (kf (gsF rfl (congrArg Bool.not hb82)) (fc (Ev.gsF rfl (congrArg Bool.not hb82)) (kf (gsF rfl (congrArg Bool.not hb82)) (kf (pkT rfl (congrArg Bool.not hb82) rfl) (fZ (Rn (hA h67 (hA h68 (hA h69 (hA h70 (hV (.bool true) rfl hZ))))) fun e92 h94 h95 h96 h97 h98 => ?_))))))))))))
         clear h67 h68 h69 h70
         obtain rfl := si h
         exact kd (show spec_l07Ok_c3_Q a1 s1_1 x63 _ _ from ⟨rfl, h94, h95, h96, h97, h98⟩)
        refine kf (gsF rfl (congrArg Bool.not hb79)) (kf (gsF rfl (congrArg Bool.not hb79)) (kf (gsF rfl (congrArg Bool.not hb79)) (kf (gsF rfl (congrArg Bool.not hb79)) (fc (Ev.gsF rfl (congrArg Bool.not hb79)) (kf (gsF rfl (congrArg Bool.not hb79)) (kf (pkT rfl (congrArg Bool.not hb79) rfl) (kf (mvO rfl) (kf (gsF rfl rfl) (kf (gsF rfl rfl) (kf (gsF rfl rfl) (kf (gsF rfl rfl) (kf (gsF rfl rfl) (kf (gsF rfl rfl) (kf (gsF rfl rfl) (kf (gsF rfl rfl) (fc (Ev.gsF rfl rfl) (kf (gsF rfl rfl) (kf (pkT rfl rfl rfl) (fZ (Rn (hA h67 (hA h68 (hA h69 (hA h70 (hV (.bool true) rfl hZ))))) fun e99 h101 h102 h103 h104 h105 => ?_))))))))))))))))))))
        clear h67 h68 h69 h70
        obtain rfl := si h
        exact kd (show spec_l07Ok_c3_Q a1 s1_1 x63 _ _ from ⟨rfl, h101, h102, h103, h104, h105⟩)
       refine kf (gsF rfl (congrArg Bool.not hb76)) (kf (gsF rfl (congrArg Bool.not hb76)) (kf (gsF rfl (congrArg Bool.not hb76)) (kf (gsF rfl (congrArg Bool.not hb76)) (kf (gsF rfl (congrArg Bool.not hb76)) (kf (gsF rfl (congrArg Bool.not hb76)) (kf (gsF rfl (congrArg Bool.not hb76)) (kf (gsF rfl (congrArg Bool.not hb76)) (fc (Ev.gsF rfl (congrArg Bool.not hb76)) (kf (gsF rfl (congrArg Bool.not hb76)) (kf (pkT rfl (congrArg Bool.not hb76) rfl) (kf (mvO rfl) (kf (gsF rfl rfl) (kf (gsF rfl rfl) (kf (gsF rfl rfl) (kf (gsF rfl rfl) (fc (Ev.gsF rfl rfl) (kf (gsF rfl rfl) (kf (pkT rfl rfl rfl) (kf (mvO rfl) (kf (gsF rfl rfl) (kf (gsF rfl rfl) (kf (gsF rfl rfl) (kf (gsF rfl rfl) (kf (gsF rfl rfl) (kf (gsF rfl rfl) (kf (gsF rfl rfl) (kf (gsF rfl rfl) (fc (Ev.gsF rfl rfl) (kf (gsF rfl rfl) (kf (pkT rfl rfl rfl) (fZ (Rn (hA h67 (hA h68 (hA h69 (hA h70 (hV (.bool true) rfl hZ))))) fun e106 h108 h109 h110 h111 h112 => ?_))))))))))))))))))))))))))))))))
       clear h67 h68 h69 h70
       obtain rfl := si h
       exact kd (show spec_l07Ok_c3_Q a1 s1_1 x63 _ _ from ⟨rfl, h108, h109, h110, h111, h112⟩)
      refine kf (gsF rfl (congrArg Bool.not hb73)) (kf (gsF rfl (congrArg Bool.not hb73)) (kf (gsF rfl (congrArg Bool.not hb73)) (kf (gsF rfl (congrArg Bool.not hb73)) (kf (gsF rfl (congrArg Bool.not hb73)) (fc (Ev.gsF rfl (congrArg Bool.not hb73)) (kf (gsF rfl (congrArg Bool.not hb73)) (kf (pkT rfl (congrArg Bool.not hb73) rfl) (kf (mvO rfl) (kf (gsF rfl rfl) (kf (gsF rfl rfl) (kf (gsF rfl rfl) (kf (gsF rfl rfl) (kf (gsF rfl rfl) (kf (gsF rfl rfl) (kf (gsF rfl rfl) (kf (gsF rfl rfl) (fc (Ev.gsF rfl rfl) (kf (gsF rfl rfl) (kf (pkT rfl rfl rfl) (kf (mvO rfl) (kf (gsF rfl rfl) (kf (gsF rfl rfl) (kf (gsF rfl rfl) (kf (gsF rfl rfl) (fc (Ev.gsF rfl rfl) (kf (gsF rfl rfl) (kf (pkT rfl rfl rfl) (kf (mvO rfl) (kf (gsF rfl rfl) (kf (gsF rfl rfl) (kf (gsF rfl rfl) (kf (gsF rfl rfl) (kf (gsF rfl rfl) (kf (gsF rfl rfl) (kf (gsF rfl rfl) (kf (gsF rfl rfl) (fc (Ev.gsF rfl rfl) (kf (gsF rfl rfl) (kf (pkT rfl rfl rfl) (fZ (Rn (hA h67 (hA h68 (hA h69 (hA h70 (hV (.bool true) rfl hZ))))) fun e113 h115 h116 h117 h118 h119 => ?_)))))))))))))))))))))))))))))))))))))))))
      clear h67 h68 h69 h70
      obtain rfl := si h
      exact kd (show spec_l07Ok_c3_Q a1 s1_1 x63 _ _ from ⟨rfl, h115, h116, h117, h118, h119⟩)) ?_
  revert h hr203
  revert r202
  intro y122 hr203 h
  intro x e120 M121 hq201
  obtain ⟨rfl, h123, h124, h125, h126, h127⟩ := hq201
  refine sN ?_
  rcases ite_some h with ⟨hb128, h⟩ | ⟨hb128, h⟩
  ·refine cT h127 hb128 (sq (Rg (kx (mvO rfl) (Rn (hV (.bool false) rfl hZ) fun e129 h131 => sN (xx (sR (bR (sR ?_))))))))
   clear h123 h124 h125 h126 h127
   obtain rfl := si h
   exact qR ⟨rfl, h131⟩
  refine cF h127 hb128 (xx (sN (sq (Rd (kf (mvO h126) (kf (ncP rfl) (kf (faP rfl ⟨ble rfl, blt rfl⟩ rfl) (kf (ldP rfl rfl) (kf (mvO h126) (kf (ncP rfl) (kf (faP rfl ⟨ble rfl, blt rfl⟩ rfl) (kf (ldP rfl rfl) (kf (bEql rfl rfl) (kf (mvO rfl) ?_))))))))))))))
  rcases ite_some h with ⟨hb132, h⟩ | ⟨hb132, h⟩
  ·refine kf (guT rfl hb132 (mvO h126)) (kf (guT rfl hb132 (ncP rfl)) (kf (guT rfl hb132 (faP rfl ⟨ble rfl, blt rfl⟩ rfl)) (kf (guT rfl hb132 (ldP rfl rfl)) (kf (guT rfl hb132 (bNeq rfl rfl)) (kf (pkT rfl hb132 rfl) (kf (mvO rfl) ?_))))))
   rcases ite_some h with ⟨hb133, h⟩ | ⟨hb133, h⟩
   ·refine kf (gsF rfl hb133) (kf (gsF rfl hb133) (kf (gsF rfl hb133) (kf (gsU rfl) (kf (gsU rfl) (kf (gsU rfl) (kf (gsU rfl) (kf (gsU rfl) (kf (gsU rfl) (kf (gsU rfl) (kf (gsU rfl) (kf (gsU rfl) (kf (gsU rfl) (kf (gsU rfl) (kf (gsU rfl) (kf (gsU rfl) (kf (gsU rfl) (kf (gsF rfl hb133) (kf (pkT rfl hb133 rfl) (fZ (Rn (hV (.pt none [.int .i64 a1.Day, .sl none (a1.Cash.map (cI .i64)), .sl none (a1.Tallies.map Tally.c)]) h123 (hV (.int .i64 (a1.Cash.length : Int)) h124 (hV (.int .i64 s1_1) h125 (hV (.bool true) rfl hZ)))) fun e134 h136 h137 h138 h139 => sN (cT h139 rfl (sq (Rg (kx (mvO rfl) (Rn (hV (.bool false) rfl hZ) fun e140 h142 => sN (xx (bR (sR ?_))))))))))))))))))))))))))))
    clear h123 h124 h125 h126 h127 h136 h137 h138 h139
    obtain rfl := si h
    exact qR ⟨rfl, h142⟩
   refine kf (guF rfl hb133 (mvO h125)) (kf (guF rfl hb133 (bGtr rfl rfl)) (kf (guF rfl hb133 (mvO rfl)) ?_))
   rcases ite_some h with ⟨hb143, h⟩ | ⟨hb143, h⟩
   ·obtain ⟨x144, hx145, h⟩ := bind_some h
    refine kf (guT rfl hb143 (mvO h126)) (kf (guT rfl hb143 (ncP rfl)) (kf (guT rfl hb143 (faP rfl ⟨ble rfl, blt rfl⟩ rfl)) (kf (guT rfl hb143 (ldP rfl rfl)) (kf (guT rfl hb143 (mvO h123)) (kf (guT rfl hb143 (ncP rfl)) (kf (guT rfl hb143 (faP rfl ⟨ble rfl, blt rfl⟩ rfl)) (kf (guT rfl hb143 (ldP rfl rfl)) (kf (guT rfl hb143 (mvO h125)) (kf (guT rfl hb143 (bSub rfl rfl)) (kf (guT rfl hb143 (ixS rfl rfl hx145 Tally.fl)) (kf (guT rfl hb143 (faP rfl ⟨ble rfl, blt rfl⟩ rfl)) (kf (guT rfl hb143 (ldP rfl rfl)) (kf (guT rfl hb143 (bLss rfl rfl)) (kf (guF rfl hb133 (pkT rfl hb143 rfl)) (kf (pkF rfl hb133 rfl) (fZ (Rn (hV (.pt none [.int .i64 a1.Day, .sl none (a1.Cash.map (cI .i64)), .sl none (a1.Tallies.map Tally.c)]) h123 (hV (.int .i64 (a1.Cash.length : Int)) h124 (hV (.int .i64 s1_1) h125 (hN rfl hZ)))) fun e146 h148 h149 h150 h151 => sN ?_)))))))))))))))))
    clear h123 h124 h125 h126 h127
    rcases ite_some h with ⟨hb152, h⟩ | ⟨hb152, h⟩
    ·refine cT h151 hb152 (sq (Rg (kx (mvO rfl) (Rn (hV (.bool false) rfl hZ) fun e153 h155 => sN (xx (bR (sR ?_)))))))
     clear h148 h149 h150 h151
     obtain rfl := si h
     exact qR ⟨rfl, h155⟩
    refine cF h151 hb152 (xx (bN (sN (Rg (kx (mvO h150) (kx (bAdd rfl rfl) (kx (mvO rfl) (Rn (hA h148 (hA h149 (hN rfl hZ))) fun e156 h158 h159 h160 => ?_))))))))
    clear h148 h149 h151
    obtain rfl := si h
    exact qN ⟨h158, h159, h160⟩
   refine kf (gsT rfl hb143) (kf (gsT rfl hb143) (kf (gsT rfl hb143) (kf (gsT rfl hb143) (kf (gsT rfl hb143) (kf (gsT rfl hb143) (kf (gsT rfl hb143) (kf (gsT rfl hb143) (kf (gsT rfl hb143) (kf (gsT rfl hb143) (kf (gsT rfl hb143) (kf (gsT rfl hb143) (kf (gsT rfl hb143) (kf (gsT rfl hb143) (kf (guF rfl hb133 (pkF rfl hb143 rfl)) (kf (pkF rfl hb133 rfl) (fZ (Rn (hV (.pt none [.int .i64 a1.Day, .sl none (a1.Cash.map (cI .i64)), .sl none (a1.Tallies.map Tally.c)]) h123 (hV (.int .i64 (a1.Cash.length : Int)) h124 (hV (.int .i64 s1_1) h125 (hV (.bool false) rfl hZ)))) fun e161 h163 h164 h165 h166 => sN (cF h166 rfl (xx (bN (sN (Rg (kx (mvO h165) (kx (bAdd rfl rfl) (kx (mvO rfl) (Rn (hA h163 (hA h164 (hN rfl hZ))) fun e167 h169 h170 h171 => ?_))))))))))))))))))))))))))
   clear h123 h124 h125 h126 h127 h163 h164 h166
   obtain rfl := si h
   exact qN ⟨h169, h170, h171⟩
  refine kf (gsT rfl hb132) (kf (gsT rfl hb132) (kf (gsT rfl hb132) (kf (gsT rfl hb132) (kf (gsT rfl hb132) (kf (pkF rfl hb132 rfl) (kf (mvO rfl) (kf (guF rfl rfl (mvO h125)) (kf (guF rfl rfl (bGtr rfl rfl)) (kf (guF rfl rfl (mvO rfl)) ?_)))))))))
  rcases ite_some h with ⟨hb172, h⟩ | ⟨hb172, h⟩
  ·obtain ⟨x173, hx174, h⟩ := bind_some h
   refine kf (guT rfl hb172 (mvO h126)) (kf (guT rfl hb172 (ncP rfl)) (kf (guT rfl hb172 (faP rfl ⟨ble rfl, blt rfl⟩ rfl)) (kf (guT rfl hb172 (ldP rfl rfl)) (kf (guT rfl hb172 (mvO h123)) (kf (guT rfl hb172 (ncP rfl)) (kf (guT rfl hb172 (faP rfl ⟨ble rfl, blt rfl⟩ rfl)) (kf (guT rfl hb172 (ldP rfl rfl)) (kf (guT rfl hb172 (mvO h125)) (kf (guT rfl hb172 (bSub rfl rfl)) (kf (guT rfl hb172 (ixS rfl rfl hx174 Tally.fl)) (kf (guT rfl hb172 (faP rfl ⟨ble rfl, blt rfl⟩ rfl)) (kf (guT rfl hb172 (ldP rfl rfl)) (kf (guT rfl hb172 (bLss rfl rfl)) (kf (guF rfl rfl (pkT rfl hb172 rfl)) (kf (pkF rfl rfl rfl) (fZ (Rn (hV (.pt none [.int .i64 a1.Day, .sl none (a1.Cash.map (cI .i64)), .sl none (a1.Tallies.map Tally.c)]) h123 (hV (.int .i64 (a1.Cash.length : Int)) h124 (hV (.int .i64 s1_1) h125 (hN rfl hZ)))) fun e175 h177 h178 h179 h180 => sN ?_)))))))))))))))))
   clear h123 h124 h125 h126 h127
   rcases ite_some h with ⟨hb181, h⟩ | ⟨hb181, h⟩
   ·refine cT h180 hb181 (sq (Rg (kx (mvO rfl) (Rn (hV (.bool false) rfl hZ) fun e182 h184 => sN (xx (bR (sR ?_)))))))
    clear h177 h178 h179 h180
    obtain rfl := si h
    exact qR ⟨rfl, h184⟩
   refine cF h180 hb181 (xx (bN (sN (Rg (kx (mvO h179) (kx (bAdd rfl rfl) (kx (mvO rfl) (Rn (hA h177 (hA h178 (hN rfl hZ))) fun e185 h187 h188 h189 => ?_))))))))
   clear h177 h178 h180
   obtain rfl := si h
   exact qN ⟨h187, h188, h189⟩
  refine kf (gsT rfl hb172) (kf (gsT rfl hb172) (kf (gsT rfl hb172) (kf (gsT rfl hb172) (kf (gsT rfl hb172) (kf (gsT rfl hb172) (kf (gsT rfl hb172) (kf (gsT rfl hb172) (kf (gsT rfl hb172) (kf (gsT rfl hb172) (kf (gsT rfl hb172) (kf (gsT rfl hb172) (kf (gsT rfl hb172) (kf (gsT rfl hb172) (kf (guF rfl rfl (pkF rfl hb172 rfl)) (kf (pkF rfl rfl rfl) (fZ (Rn (hV (.pt none [.int .i64 a1.Day, .sl none (a1.Cash.map (cI .i64)), .sl none (a1.Tallies.map Tally.c)]) h123 (hV (.int .i64 (a1.Cash.length : Int)) h124 (hV (.int .i64 s1_1) h125 (hV (.bool false) rfl hZ)))) fun e190 h192 h193 h194 h195 => sN (cF h195 rfl (xx (bN (sN (Rg (kx (mvO h194) (kx (bAdd rfl rfl) (kx (mvO rfl) (Rn (hA h192 (hA h193 (hN rfl hZ))) fun e196 h198 h199 h200 => ?_))))))))))))))))))))))))))
  clear h123 h124 h125 h126 h127 h192 h193 h195
  obtain rfl := si h
  exact qN ⟨h198, h199, h200⟩
 refine cF h61 hb62 (xx (sE ?_))
 obtain rfl := si h
 exact qE ⟨rfl, trivial⟩
noncomputable def spec_l07Ok (a1 : Book) : Option Bool :=
 ((spec_l07Day a1.Day).bind fun r5 =>
 if r5 = true then
  (spec_l07Cash a1.Cash).bind fun r8 =>
  if r8 = true then
   some (decide ((a1.Tallies.length : Int) > 40))
  else
   some true
 else
  some true).bind fun y24 =>
 if y24 = true then
  some false
 else
  (Lw (spec_l07Ok_b1 a1) 0).bind fun r => match r with
  | (.inl _) =>
   some false
  | (.inr _) =>
   some true
def spec_l07Ok_enc (r : Bool) : AV := .bool r
theorem spec_l07Ok_ok (a1 : Book) (r : Bool) (h : spec_l07Ok a1 = some r) : Ev (fun k => CN k 117 [.pt none [.int .i64 a1.Day, .sl none (a1.Cash.map (cI .i64)), .sl none (a1.Tallies.map Tally.c)]] []) (fun p => rRes p.2 p.1 = spec_l07Ok_enc r) := by
 unfold spec_l07Ok at h
 obtain ⟨r216, hr217, h⟩ := bind_some h
 refine Ev.enter (F := fun k => f117 (CN k) k) (fun k => callN_eq rfl Try.func117 rfl rfl rfl (by decide +kernel) (f117_eq _ _)) (sq (Rg (kx (mvO rfl) (Rn (hN rfl hZ) fun e1 h3 => sN (sq (sq ?_))))))
 refine Ev.cut (Q1 := spec_l07Ok_c1_Q a1 r216) (by
     have h := hr217
     obtain ⟨r5, hx4, h⟩ := bind_some h
     refine Rg (kx (mvO h3) (kx (ncP rfl) (kx (faP rfl ⟨ble rfl, blt rfl⟩ rfl) (kx (ldP rfl rfl) (kc (cl (v := .bool r5) rfl (cns rfl rfl) rfl (spec_l07Day_ok a1.Day _ hx4) nm) (kx (uNot rfl) (kx (mvO rfl) ?_)))))))
     rcases ite_some h with ⟨hb6, h⟩ | ⟨hb6, h⟩
     ·obtain ⟨r8, hx7, h⟩ := bind_some h
      refine kx (guF rfl (congrArg Bool.not hb6) (mvO h3)) (kx (guF rfl (congrArg Bool.not hb6) (ncP rfl)) (kx (guF rfl (congrArg Bool.not hb6) (faP rfl ⟨ble rfl, blt rfl⟩ rfl)) (kx (guF rfl (congrArg Bool.not hb6) (ldP rfl rfl)) (kc (Ev.guF rfl (congrArg Bool.not hb6) (cl (v := .bool r8) rfl (cns rfl rfl) rfl (spec_l07Cash_ok a1.Cash _ hx7) nm)) (kx (guF rfl (congrArg Bool.not hb6) (uNot rfl)) (kx (pkF rfl (congrArg Bool.not hb6) rfl) (kx (mvO rfl) ?_)))))))
      rcases ite_some h with ⟨hb9, h⟩ | ⟨hb9, h⟩
      ·refine kx (guF rfl (congrArg Bool.not hb9) (mvO h3)) (kx (guF rfl (congrArg Bool.not hb9) (ncP rfl)) (kx (guF rfl (congrArg Bool.not hb9) (faP rfl ⟨ble rfl, blt rfl⟩ rfl)) (kx (guF rfl (congrArg Bool.not hb9) (ldP rfl rfl)) (kx (guF rfl (congrArg Bool.not hb9) (lnS Try.underlying48 rfl)) (kx (guF rfl (congrArg Bool.not hb9) (bGtr rfl rfl)) (kx (pkF rfl (congrArg Bool.not hb9) rfl) (Rn (hA h3 (hN rfl hZ)) fun e10 h12 h13 => ?_)))))))
       clear h3
       obtain rfl := si h
       exact kd (show spec_l07Ok_c1_Q a1 _ _ from ⟨rfl, h12, h13⟩)
      refine kx (gsF rfl (congrArg Bool.not hb9)) (kx (gsF rfl (congrArg Bool.not hb9)) (kx (gsF rfl (congrArg Bool.not hb9)) (kx (gsF rfl (congrArg Bool.not hb9)) (kx (gsF rfl (congrArg Bool.not hb9)) (kx (gsF rfl (congrArg Bool.not hb9)) (kx (pkT rfl (congrArg Bool.not hb9) rfl) (Rn (hA h3 (hV (.bool true) rfl hZ)) fun e14 h16 h17 => ?_)))))))
      clear h3
      obtain rfl := si h
      exact kd (show spec_l07Ok_c1_Q a1 _ _ from ⟨rfl, h16, h17⟩)
     refine kx (gsF rfl (congrArg Bool.not hb6)) (kx (gsF rfl (congrArg Bool.not hb6)) (kx (gsF rfl (congrArg Bool.not hb6)) (kx (gsF rfl (congrArg Bool.not hb6)) (kc (Ev.gsF rfl (congrArg Bool.not hb6)) (kx (gsF rfl (congrArg Bool.not hb6)) (kx (pkT rfl (congrArg Bool.not hb6) rfl) (kx (mvO rfl) (kx (gsF rfl rfl) (kx (gsF rfl rfl) (kx (gsF rfl rfl) (kx (gsF rfl rfl) (kx (gsF rfl rfl) (kx (gsF rfl rfl) (kx (pkT rfl rfl rfl) (Rn (hA h3 (hV (.bool true) rfl hZ)) fun e18 h20 h21 => ?_)))))))))))))))
     clear h3
     obtain rfl := si h
     exact kd (show spec_l07Ok_c1_Q a1 _ _ from ⟨rfl, h20, h21⟩)) ?_
 revert h hr217
 revert r216
 intro y24 hr217 h
 intro x e22 M23 hq215
 obtain ⟨rfl, h25, h26⟩ := hq215
 refine sN ?_
 rcases ite_some h with ⟨hb27, h⟩ | ⟨hb27, h⟩
 ·refine cT h26 hb27 (sq (Rg (kx (mvO rfl) (Rn (hV (.bool false) rfl hZ) fun e28 h30 => sN (xx (sR ?_))))))
  clear h25 h26
  obtain rfl := si h
  exact eR (resT h30 res0) rfl
 obtain ⟨r204, hr205, h⟩ := bind_some h
 refine cF h26 hb27 (xx (sN (sq (Rg (kx (mvO h25) (kx (ncP rfl) (kx (faP rfl ⟨ble rfl, blt rfl⟩ rfl) (kx (ldP rfl rfl) (kx (lnS Try.underlying24 rfl) (kx (mvO rfl) (Rn (hV (.pt none [.int .i64 a1.Day, .sl none (a1.Cash.map (cI .i64)), .sl none (a1.Tallies.map Tally.c)]) h25 (hN rfl hZ)) fun e31 h33 h34 => sN (sq (sq (Rg (kx (mvO rfl) (Rn (hA h33 (hA h34 (hV (.int .i64 0) rfl hZ))) fun e35 h37 h38 h39 => sN (bl ?_)))))))))))))))))
 clear h25 h26 h33 h34
 rcases r204 with _ | _
 ·refine Ev.loop (RS := spec_l07Ok_b1_RS a1) (RR := spec_l07Ok_b1_RR a1) (fun s r h e M hs => spec_l07Ok_b1_ok a1 s r h e M hs) hr205 ⟨h37, h38, h39⟩ fun x e207 M208 hq206 => ?_
  obtain ⟨rfl, h209⟩ := hq206
  refine bR (sR ?_)
  obtain rfl := si h
  exact eR (resT h209 res0) rfl
 refine Ev.loop (RS := spec_l07Ok_b1_RS a1) (RR := spec_l07Ok_b1_RR a1) (fun s r h e M hs => spec_l07Ok_b1_ok a1 s r h e M hs) hr205 ⟨h37, h38, h39⟩ fun x e210 M211 hq206 => ?_
 obtain ⟨rfl, _⟩ := hq206
 refine bE (sN (sq (Rg (kx (mvO rfl) (Rn (hV (.bool true) rfl hZ) fun e212 h214 => sN (xx ?_))))))
 obtain rfl := si h
 exact eR (resT h214 res0) rfl
/-! ### loop.example/g01263/laws.eqTally (f93) -/
noncomputable def laws_eqTally (a1 : Tally) (a2 : Tally) : Option Bool :=
 if (a1.Debtor != a2.Debtor) = true then
  some false
 else
  if (a1.Holder != a2.Holder) = true then
   some false
  else
   if (a1.Cut != a2.Cut) = true then
    some false
   else
    if (a1.Amount != a2.Amount) = true then
     some false
    else
     if (a1.Left != a2.Left) = true then
      some false
     else
      some true
def laws_eqTally_enc (r : Bool) : AV := .bool r
theorem laws_eqTally_ok (a1 : Tally) (a2 : Tally) (r : Bool) (h : laws_eqTally a1 a2 = some r) : Ev (fun k => CN k 93 [.agg [.int .i64 a1.Debtor, .int .i64 a1.Holder, .int .i64 a1.Cut, .int .i64 a1.Amount, .int .i64 a1.Left], .agg [.int .i64 a2.Debtor, .int .i64 a2.Holder, .int .i64 a2.Cut, .int .i64 a2.Amount, .int .i64 a2.Left]] []) (fun p => rRes p.2 p.1 = laws_eqTally_enc r) := by
 unfold laws_eqTally at h
 refine Ev.enter (F := fun k => f93 (CN k) k) (fun k => callN_eq rfl Try.func93 rfl rfl rfl (by decide +kernel) (f93_eq _ _)) (sq (Rg (kx (bxI rfl rfl ⟨rfl, rfl, by decide⟩) (kx (bxI rfl rfl ⟨rfl, rfl, by decide⟩) (kx (mvO rfl) (Rn (hN rfl (hN rfl hZ)) fun e1 h3 h4 => sN (sq (sq (Rg (kx (faP h3 ⟨ble rfl, blt rfl⟩ rfl) (kx (ldP rfl rfl) (kx (faP h4 ⟨ble rfl, blt rfl⟩ rfl) (kx (ldP rfl rfl) (kx (bNeq rfl rfl) (Rn (hA h3 (hA h4 (hN rfl hZ))) fun e5 h7 h8 h9 => sN ?_)))))))))))))))
 clear h3 h4
 rcases ite_some h with ⟨hb10, h⟩ | ⟨hb10, h⟩
 ·refine cT h9 hb10 (sq (Rg (kx (mvO rfl) (Rn (hV (.bool false) rfl hZ) fun e11 h13 => sN (xx (sR ?_))))))
  clear h7 h8 h9
  obtain rfl := si h
  exact eR (resT h13 res0) rfl
 refine cF h9 hb10 (xx (sN (sq (sq (Rg (kx (faP h7 ⟨ble rfl, blt rfl⟩ rfl) (kx (ldP rfl rfl) (kx (faP h8 ⟨ble rfl, blt rfl⟩ rfl) (kx (ldP rfl rfl) (kx (bNeq rfl rfl) (Rn (hA h7 (hA h8 (hN rfl hZ))) fun e14 h16 h17 h18 => sN ?_)))))))))))
 clear h7 h8 h9
 rcases ite_some h with ⟨hb19, h⟩ | ⟨hb19, h⟩
 ·refine cT h18 hb19 (sq (Rg (kx (mvO rfl) (Rn (hV (.bool false) rfl hZ) fun e20 h22 => sN (xx (sR ?_))))))
  clear h16 h17 h18
  obtain rfl := si h
  exact eR (resT h22 res0) rfl
 refine cF h18 hb19 (xx (sN (sq (sq (Rg (kx (faP h16 ⟨ble rfl, blt rfl⟩ rfl) (kx (ldP rfl rfl) (kx (faP h17 ⟨ble rfl, blt rfl⟩ rfl) (kx (ldP rfl rfl) (kx (bNeq rfl rfl) (Rn (hA h16 (hA h17 (hN rfl hZ))) fun e23 h25 h26 h27 => sN ?_)))))))))))
 clear h16 h17 h18
 rcases ite_some h with ⟨hb28, h⟩ | ⟨hb28, h⟩
 ·refine cT h27 hb28 (sq (Rg (kx (mvO rfl) (Rn (hV (.bool false) rfl hZ) fun e29 h31 => sN (xx (sR ?_))))))
  clear h25 h26 h27
  obtain rfl := si h
  exact eR (resT h31 res0) rfl
 refine cF h27 hb28 (xx (sN (sq (sq (Rg (kx (faP h25 ⟨ble rfl, blt rfl⟩ rfl) (kx (ldP rfl rfl) (kx (faP h26 ⟨ble rfl, blt rfl⟩ rfl) (kx (ldP rfl rfl) (kx (bNeq rfl rfl) (Rn (hA h25 (hA h26 (hN rfl hZ))) fun e32 h34 h35 h36 => sN ?_)))))))))))
 clear h25 h26 h27
 rcases ite_some h with ⟨hb37, h⟩ | ⟨hb37, h⟩
 ·refine cT h36 hb37 (sq (Rg (kx (mvO rfl) (Rn (hV (.bool false) rfl hZ) fun e38 h40 => sN (xx (sR ?_))))))
  clear h34 h35 h36
  obtain rfl := si h
  exact eR (resT h40 res0) rfl
 refine cF h36 hb37 (xx (sN (sq (sq (Rg (kx (faP h34 ⟨ble rfl, blt rfl⟩ rfl) (kx (ldP rfl rfl) (kx (faP h35 ⟨ble rfl, blt rfl⟩ rfl) (kx (ldP rfl rfl) (kx (bNeq rfl rfl) (Rn (hN rfl hZ) fun e41 h43 => sN ?_)))))))))))
 clear h34 h35 h36
 rcases ite_some h with ⟨hb44, h⟩ | ⟨hb44, h⟩
 ·refine cT h43 hb44 (sq (Rg (kx (mvO rfl) (Rn (hV (.bool false) rfl hZ) fun e45 h47 => sN (xx (sR ?_))))))
  clear h43
  obtain rfl := si h
  exact eR (resT h47 res0) rfl
 refine cF h43 hb44 (xx (sN (sq (Rg (kx (mvO rfl) (Rn (hV (.bool true) rfl hZ) fun e48 h50 => sN (xx ?_)))))))
 clear h43
 obtain rfl := si h
 exact eR (resT h50 res0) rfl
/-! ### loop.example/g01263/impl.behind (f92) -/
noncomputable def impl_behind (a1 : Book) (a2 : List Deal) : Option (Int ⊕ (Int × (List Int) × (List Tally))) :=
 (impl_books a1 a2).bind fun (r11, r12) =>
 if (r12 != 0) = true then
  some (.inl r12)
 else
  if ((r11.length : Int) == 0) = true then
   (impl_ownBook a1).bind fun (r42, r43, r44) =>
   some (.inr (r42, r43, r44))
  else
   (rd r11 (IntKind.i64.wrap ((r11.length : Int) - 1))).bind fun x52 =>
   some (.inr (x52.Day, x52.Cash, x52.Tallies))
def impl_behind_enc (r : Int ⊕ (Int × (List Int) × (List Tally))) : AV :=
  match r with
  | (.inl g) => .tup [.agg [.int .i64 0, .nils, .nils], .int .i64 g]
  | (.inr g) => .tup [.agg [.int .i64 g.1, .sl none (g.2.1.map (cI .i64)), .sl none (g.2.2.map Tally.c)], .int .i64 0]
theorem impl_behind_ok (a1 : Book) (a2 : List Deal) (r : Int ⊕ (Int × (List Int) × (List Tally))) (h : impl_behind a1 a2 = some r) : Ev (fun k => CN k 92 [.agg [.int .i64 a1.Day, .sl none (a1.Cash.map (cI .i64)), .sl none (a1.Tallies.map Tally.c)], .sl none (a2.map Deal.c)] []) (fun p => rRes p.2 p.1 = impl_behind_enc r) := by
 unfold impl_behind at h
 refine Ev.enter (F := fun k => f92 (CN k) k) (fun k => callN_eq rfl Try.func92 rfl rfl rfl (by decide +kernel) (f92_eq _ _)) (sq (Rg (kx (bxI rfl rfl ⟨rfl, rfl, by decide⟩) (ku (alO zero50) fun M2 hM3 => ?_))))
 have o4 : M2[([] : Mem).length]? = some (.live ⟨.box, 50, 3, [[.int .i64 0, .nils, .nils]]⟩) := push_new hM3
 obtain ⟨⟨r11, r12⟩, hx10, h⟩ := bind_some h
 refine kx (mvO rfl) (Rn (hN rfl (hN rfl (hV (.loc ([] : Mem).length 1 0 0) rfl hZ))) fun e5 h7 h8 h9 => sN (sq (Rg (kx (ldPA h8 rfl rfl) (kx (mvO h7) (kc (cl (v := .tup [(nslV 50 Book.o r11), .int .i64 r12]) rfl (cns rfl (cns rfl rfl)) rfl (impl_books_ok a1 a2 _ hx10) nm) (kx (mvO rfl) (kx (exT rfl rfl) (kx (exT rfl rfl) (kx (mvO rfl) (kx (mvO rfl) (Rn (hA h8 (hA h9 (hV ((nslV 50 Book.o r11)) rfl (hN rfl hZ)))) fun e13 h15 h16 h17 h18 => sN (sq (bl (sq (Rg (kx (mvO h18) (kx (bNeq rfl rfl) (kx (mvO rfl) (Rn (hA h15 (hA h16 (hA h17 (hA h18 (hN rfl hZ))))) fun e19 h21 h22 h23 h24 h25 => sN ?_))))))))))))))))))))
 clear h7 h8 h9 h15 h16 h17 h18
 rcases ite_some h with ⟨hb26, h⟩ | ⟨hb26, h⟩
 ·refine cT h25 hb26 (sq (Rg (kx (bldT zero50 rfl (fill0 rfl)) (kx (mvO h24) (kw (stO h22 rfl o4 rfl rfl ⟨rfl, ble rfl⟩ rfl rfl) fun M27 hM28 => ?_)))))
  have o29 : M27[([] : Mem).length]? = some (.live ⟨.box, 50, 3, [[.int .i64 0, .nils, .nils]]⟩) := set_same hM28 o4
  refine kx (mvO rfl) (Rn (hA h22 (hN rfl hZ)) fun e30 h32 h33 => sN (xx (bR (sR ?_))))
  clear h21 h22 h23 h24 h25
  obtain rfl := si h
  exact eR (resC (ag := true) (sz := 3) ⟨by kernel_rfl, by kernel_rfl, by kernel_rfl⟩ (ldOA h32 o29 rfl rfl (ble rfl) rfl) (resT h33 res0)) rfl
 refine cF h25 hb26 (sq (Rg (kx (mvO h23) (kx (lnV Try.underlying105 rfl) (kx (bEql rfl rfl) (kx (mvO rfl) (Rn (hA h21 (hA h22 (hA h23 (hN rfl hZ)))) fun e34 h36 h37 h38 h39 => sN ?_)))))))
 clear h21 h22 h23 h24 h25
 rcases ite_some h with ⟨hb40, h⟩ | ⟨hb40, h⟩
 ·obtain ⟨⟨r42, r43, r44⟩, hx41, h⟩ := bind_some h
  refine cT h39 hb40 (sq (Rg (kx (ldPA h36 rfl rfl) (kc (cl (v := .agg [.int .i64 r42, .sl (some 2) (r43.map (cI .i64)), .sl (some 110) (r44.map Tally.c)]) rfl (cns rfl rfl) rfl (impl_ownBook_ok a1 _ hx41) nm) (kw (stO h37 rfl o4 rfl rfl ⟨rfl, ble rfl⟩ rfl rfl) fun M45 hM46 => ?_)))))
  have o47 : M45[([] : Mem).length]? = some (.live ⟨.box, 50, 3, [[.int .i64 r42, .sl none (r43.map (cI .i64)), .sl none (r44.map Tally.c)]]⟩) := set_same hM46 o4
  refine kx (mvO rfl) (Rn (hA h37 (hV (.int .i64 0) rfl hZ)) fun e48 h50 h51 => sN (xx (bR (sR ?_))))
  clear h36 h37 h38 h39
  obtain rfl := si h
  exact eR (resC (ag := true) (sz := 3) ⟨by kernel_rfl, by kernel_rfl, by kernel_rfl⟩ (ldOA h50 o47 rfl rfl (ble rfl) rfl) (resT h51 res0)) rfl
 obtain ⟨x52, hx53, h⟩ := bind_some h
 refine cF h39 hb40 (xx (bN (sN (sq (Rg (kx (mvO h38) (kx (mvO h38) (kx (lnV Try.underlying105 rfl) (kx (bSub rfl rfl) (kx (ixV rfl rfl hx53 Book.oc) (kx (ldN (cs' := [.int .i64 x52.Day, .sl (some 2) (x52.Cash.map (cI .i64)), .sl (some 110) (x52.Tallies.map Tally.c)]) rfl rfl rfl) (kw (stO h37 rfl o4 rfl rfl ⟨rfl, ble rfl⟩ rfl rfl) fun M54 hM55 => ?_))))))))))))
 have o56 : M54[([] : Mem).length]? = some (.live ⟨.box, 50, 3, [[.int .i64 x52.Day, .sl none (x52.Cash.map (cI .i64)), .sl none (x52.Tallies.map Tally.c)]]⟩) := set_same hM55 o4
 refine kx (mvO rfl) (Rn (hA h37 (hV (.int .i64 0) rfl hZ)) fun e57 h59 h60 => sN (xx ?_))
 clear h36 h37 h38 h39
 obtain rfl := si h
 exact eR (resC (ag := true) (sz := 3) ⟨by kernel_rfl, by kernel_rfl, by kernel_rfl⟩ (ldOA h59 o56 rfl rfl (ble rfl) rfl) (resT h60 res0)) rfl
/-! ### loop.example/g01263/impl.dealsCode (f91) -/
def impl_dealsCode_c1_Q (a2 : List Deal) (g : Bool) (q : Out) : Prop := q.1 = .nrm ∧ eget q.2.1 1 = .sl none (a2.map Deal.c) ∧ eget q.2.1 5 = .bool g
noncomputable def impl_dealsCode (a1 : Book) (a2 : List Deal) : Option Int :=
 ((impl_ValidBook a1).bind fun r6 =>
 if r6 = true then
  (impl_areDeals a2).bind fun r9 =>
  some (!r9)
 else
  some true).bind fun y20 =>
 if y20 = true then
  some 1
 else
  if (decide ((a2.length : Int) > 80)) = true then
   some 3
  else
   some 0
def impl_dealsCode_enc (r : Int) : AV := .int .i64 r
theorem impl_dealsCode_ok (a1 : Book) (a2 : List Deal) (r : Int) (h : impl_dealsCode a1 a2 = some r) : Ev (fun k => CN k 91 [.agg [.int .i64 a1.Day, .sl none (a1.Cash.map (cI .i64)), .sl none (a1.Tallies.map Tally.c)], .sl none (a2.map Deal.c)] []) (fun p => rRes p.2 p.1 = impl_dealsCode_enc r) := by
 unfold impl_dealsCode at h
 obtain ⟨r38, hr39, h⟩ := bind_some h
 refine Ev.enter (F := fun k => f91 (CN k) k) (fun k => callN_eq rfl Try.func91 rfl rfl rfl (by decide +kernel) (f91_eq _ _)) (sq (Rg (kx (bxI rfl rfl ⟨rfl, rfl, by decide⟩) (kx (mvO rfl) (Rn (hN rfl (hN rfl hZ)) fun e1 h3 h4 => sN (sq (bl (sq ?_))))))))
 refine Ev.cut (Q1 := impl_dealsCode_c1_Q a2 r38) (by
     have h := hr39
     obtain ⟨r6, hx5, h⟩ := bind_some h
     refine Rg (kx (ldPA h4 rfl rfl) (kc (cl (v := .bool r6) rfl (cns rfl rfl) rfl (impl_ValidBook_ok a1 _ hx5) nm) (kx (uNot rfl) (kx (mvO rfl) ?_))))
     rcases ite_some h with ⟨hb7, h⟩ | ⟨hb7, h⟩
     ·obtain ⟨r9, hx8, h⟩ := bind_some h
      refine kx (guF rfl (congrArg Bool.not hb7) (mvO h3)) (kc (Ev.guF rfl (congrArg Bool.not hb7) (cl (v := .bool r9) rfl (cns rfl rfl) rfl (impl_areDeals_ok a2 _ hx8) nm)) (kx (guF rfl (congrArg Bool.not hb7) (uNot rfl)) (kx (pkF rfl (congrArg Bool.not hb7) rfl) (kx (mvO rfl) (Rn (hA h3 (hN rfl hZ)) fun e10 h12 h13 => ?_)))))
      clear h3 h4
      obtain rfl := si h
      exact kd (show impl_dealsCode_c1_Q a2 _ _ from ⟨rfl, h12, h13⟩)
     refine kx (gsF rfl (congrArg Bool.not hb7)) (kc (Ev.gsF rfl (congrArg Bool.not hb7)) (kx (gsF rfl (congrArg Bool.not hb7)) (kx (pkT rfl (congrArg Bool.not hb7) rfl) (kx (mvO rfl) (Rn (hA h3 (hV (.bool true) rfl hZ)) fun e14 h16 h17 => ?_)))))
     clear h3 h4
     obtain rfl := si h
     exact kd (show impl_dealsCode_c1_Q a2 _ _ from ⟨rfl, h16, h17⟩)) ?_
 revert h hr39
 revert r38
 intro y20 hr39 h
 intro x e18 M19 hq37
 obtain ⟨rfl, h21, h22⟩ := hq37
 refine sN ?_
 rcases ite_some h with ⟨hb23, h⟩ | ⟨hb23, h⟩
 ·refine cT h22 hb23 (sq (Rg (kx (mvO rfl) (Rn (hV (.int .i64 1) rfl hZ) fun e24 h26 => sN (xx (bR (sR ?_)))))))
  clear h21 h22
  obtain rfl := si h
  exact eR (resT h26 res0) rfl
 refine cF h22 hb23 (sq (Rg (kx (mvO h21) (kx (lnS Try.underlying52 rfl) (kx (bGtr rfl rfl) (kx (mvO rfl) (Rn (hN rfl hZ) fun e27 h29 => sN ?_)))))))
 clear h21 h22
 rcases ite_some h with ⟨hb30, h⟩ | ⟨hb30, h⟩
 ·refine cT h29 hb30 (sq (Rg (kx (mvO rfl) (Rn (hV (.int .i64 3) rfl hZ) fun e31 h33 => sN (xx (bR (sR ?_)))))))
  clear h29
  obtain rfl := si h
  exact eR (resT h33 res0) rfl
 refine cF h29 hb30 (xx (bN (sN (sq (Rg (kx (mvO rfl) (Rn (hV (.int .i64 0) rfl hZ) fun e34 h36 => sN (xx ?_))))))))
 clear h29
 obtain rfl := si h
 exact eR (resT h36 res0) rfl
/-! ### loop.example/g01263/laws.toTally (f90) -/
noncomputable def laws_toTally (a1 : Tally) : Option (Int × Int × Int × Int × Int) :=
 some (a1.Debtor, a1.Holder, a1.Cut, a1.Amount, a1.Left)
def laws_toTally_enc (r : Int × Int × Int × Int × Int) : AV := .agg [.int .i64 r.1, .int .i64 r.2.1, .int .i64 r.2.2.1, .int .i64 r.2.2.2.1, .int .i64 r.2.2.2.2]
theorem laws_toTally_ok (a1 : Tally) (r : Int × Int × Int × Int × Int) (h : laws_toTally a1 = some r) : Ev (fun k => CN k 90 [.agg [.int .i64 a1.Debtor, .int .i64 a1.Holder, .int .i64 a1.Cut, .int .i64 a1.Amount, .int .i64 a1.Left]] []) (fun p => rRes p.2 p.1 = laws_toTally_enc r) := by
 unfold laws_toTally at h
 refine Ev.enter (F := fun k => f90 (CN k) k) (fun k => callN_eq rfl Try.func90 rfl rfl rfl (by decide +kernel) (f90_eq _ _)) (sq (Rg (kx (bxI rfl rfl ⟨rfl, rfl, by decide⟩) (ku (alO zero110) fun M2 hM3 => ?_))))
 have o4 : M2[([] : Mem).length]? = some (.live ⟨.box, 110, 5, [[.int .i64 0, .int .i64 0, .int .i64 0, .int .i64 0, .int .i64 0]]⟩) := push_new hM3
 refine Rn (hN rfl (hV (.loc ([] : Mem).length 1 0 0) rfl hZ)) fun e5 h7 h8 => sN (sq (Rg (ku (alO zero110) fun M10 hM11 => ?_)))
 have o12 := push_old hM11 o4
 have ne13 := ne_new o4
 have o14 : M10[M2.length]? = some (.live ⟨.box, 110, 5, [[.int .i64 0, .int .i64 0, .int .i64 0, .int .i64 0, .int .i64 0]]⟩) := push_new hM11
 refine Rn (hA h7 (hA h8 (hV (.loc M2.length 1 0 0) rfl hZ))) fun e15 h17 h18 h19 => sN (sq (Rg (kx (faP h17 ⟨ble rfl, blt rfl⟩ rfl) (kx (ldP rfl rfl) (kx (faO h19 o14 rfl) (kw (stO rfl rfl o14 rfl rfl ⟨rfl, ble rfl⟩ rfl rfl) fun M20 hM21 => ?_))))))
 clear h7 h8
 have o22 := set_ne hM21 ne13 o12
 have o23 : M20[M2.length]? = some (.live ⟨.box, 110, 5, [[.int .i64 a1.Debtor, .int .i64 0, .int .i64 0, .int .i64 0, .int .i64 0]]⟩) := set_same hM21 o14
 refine Rn (hA h17 (hA h18 (hA h19 hZ))) fun e24 h26 h27 h28 => sN (sq (Rg (kx (faP h26 ⟨ble rfl, blt rfl⟩ rfl) (kx (ldP rfl rfl) (kx (faO h28 o23 rfl) (kw (stO rfl rfl o23 rfl rfl ⟨rfl, ble rfl⟩ rfl rfl) fun M29 hM30 => ?_))))))
 clear h17 h18 h19
 have o31 := set_ne hM30 ne13 o22
 have o32 : M29[M2.length]? = some (.live ⟨.box, 110, 5, [[.int .i64 a1.Debtor, .int .i64 a1.Holder, .int .i64 0, .int .i64 0, .int .i64 0]]⟩) := set_same hM30 o23
 refine Rn (hA h26 (hA h27 (hA h28 hZ))) fun e33 h35 h36 h37 => sN (sq (Rg (kx (faP h35 ⟨ble rfl, blt rfl⟩ rfl) (kx (ldP rfl rfl) (kx (faO h37 o32 rfl) (kw (stO rfl rfl o32 rfl rfl ⟨rfl, ble rfl⟩ rfl rfl) fun M38 hM39 => ?_))))))
 clear h26 h27 h28
 have o40 := set_ne hM39 ne13 o31
 have o41 : M38[M2.length]? = some (.live ⟨.box, 110, 5, [[.int .i64 a1.Debtor, .int .i64 a1.Holder, .int .i64 a1.Cut, .int .i64 0, .int .i64 0]]⟩) := set_same hM39 o32
 refine Rn (hA h35 (hA h36 (hA h37 hZ))) fun e42 h44 h45 h46 => sN (sq (Rg (kx (faP h44 ⟨ble rfl, blt rfl⟩ rfl) (kx (ldP rfl rfl) (kx (faO h46 o41 rfl) (kw (stO rfl rfl o41 rfl rfl ⟨rfl, ble rfl⟩ rfl rfl) fun M47 hM48 => ?_))))))
 clear h35 h36 h37
 have o49 := set_ne hM48 ne13 o40
 have o50 : M47[M2.length]? = some (.live ⟨.box, 110, 5, [[.int .i64 a1.Debtor, .int .i64 a1.Holder, .int .i64 a1.Cut, .int .i64 a1.Amount, .int .i64 0]]⟩) := set_same hM48 o41
 refine Rn (hA h44 (hA h45 (hA h46 hZ))) fun e51 h53 h54 h55 => sN (sq (Rg (kx (faP h53 ⟨ble rfl, blt rfl⟩ rfl) (kx (ldP rfl rfl) (kx (faO h55 o50 rfl) (kw (stO rfl rfl o50 rfl rfl ⟨rfl, ble rfl⟩ rfl rfl) fun M56 hM57 => ?_))))))
 clear h44 h45 h46
 have o58 := set_ne hM57 ne13 o49
 have o59 : M56[M2.length]? = some (.live ⟨.box, 110, 5, [[.int .i64 a1.Debtor, .int .i64 a1.Holder, .int .i64 a1.Cut, .int .i64 a1.Amount, .int .i64 a1.Left]]⟩) := set_same hM57 o50
 refine Rn (hA h54 (hA h55 hZ)) fun e60 h62 h63 => sN (sq (Rg (kx (ldOA h63 o59 rfl rfl (ble rfl) rfl) (kw (stO h62 rfl o58 rfl rfl ⟨rfl, ble rfl⟩ rfl rfl) fun M64 hM65 => ?_))))
 clear h53 h54 h55
 have o66 : M64[([] : Mem).length]? = some (.live ⟨.box, 110, 5, [[.int .i64 a1.Debtor, .int .i64 a1.Holder, .int .i64 a1.Cut, .int .i64 a1.Amount, .int .i64 a1.Left]]⟩) := set_same hM65 o58
 have o67 := set_ne hM65 (Ne.symm ne13) o59
 refine Rn (hA h62 hZ) fun e68 h70 => sN (xx ?_)
 clear h62 h63
 obtain rfl := si h
 exact eR (resC (ag := true) (sz := 5) ⟨by kernel_rfl, by kernel_rfl, by kernel_rfl⟩ (ldOA h70 o66 rfl rfl (ble rfl) rfl) res0) rfl
/-! ### loop.example/g01263/spec.l07All (f88) -/
abbrev spec_l07All_b1_S := Int × Int × (List Int) × (List Tally) × (List Book)
abbrev spec_l07All_b1_R := (Int × Int) ⊕ (Int × (List Int) × (List Tally) × (List Book))
def spec_l07All_b1_RS (a2 : List Deal) (i1_1 : Nat) (i1_2 : Nat) (s : spec_l07All_b1_S) (e : Env) (M : Mem) : Prop := eget e 1 = .sl none (a2.map Deal.c) ∧ eget e 7 = .lsl i1_1 s.2.2.2.2.length 0 s.2.2.2.2.length ∧ eget e 8 = .loc i1_2 1 0 0 ∧ eget e 9 = .int .i64 s.1 ∧ M[i1_2]? = some (.live ⟨.box, 50, 3, [[.int .i64 s.2.1, .sl none (s.2.2.1.map (cI .i64)), .sl none (s.2.2.2.1.map Tally.c)]]⟩) ∧ M[i1_1]? = some (.live ⟨.grow, 50, 3, s.2.2.2.2.map Book.c⟩)
def spec_l07All_b1_RR (a2 : List Deal) (i1_1 : Nat) (i1_2 : Nat) (r : spec_l07All_b1_R) (x : Ex) (e : Env) (M : Mem) : Prop :=
  match r with
  | (.inl g) => x = .ret ∧ eget e 4 = .lit 50 (([] : List Book).map Book.c) ∧ eget e 5 = .int .i64 g.1 ∧ eget e 6 = .int .i64 g.2
  | (.inr g) => x = .ext 0 ∧ eget e 7 = .lsl i1_1 g.2.2.2.length 0 g.2.2.2.length ∧ M[i1_2]? = some (.live ⟨.box, 50, 3, [[.int .i64 g.1, .sl none (g.2.1.map (cI .i64)), .sl none (g.2.2.1.map Tally.c)]]⟩) ∧ M[i1_1]? = some (.live ⟨.grow, 50, 3, g.2.2.2.map Book.c⟩)
noncomputable def spec_l07All_b1 (a2 : List Deal) : spec_l07All_b1_S → Option (spec_l07All_b1_S ⊕ spec_l07All_b1_R) := fun (s1_1, s1_2, s1_3, s1_4, s1_5) =>
 if (decide (s1_1 < (a2.length : Int))) = true then
  (rd a2 s1_1).bind fun x71 =>
  (spec_l07Do (Book.mk s1_2 s1_3 s1_4) x71).bind fun r => match r with
  | (.inl r74) =>
   if (r74 != 0) = true then
    some (.inr (.inl (r74, s1_1)))
   else
    none
  | (.inr (r122, r123, r124)) =>
   (app 56 s1_5 [(Book.mk r122 r123 r124)]).bind fun x166 =>
   some (.inl ((IntKind.i64.wrap (s1_1 + 1)), r122, r123, r124, x166))
 else
  some (.inr (.inr (s1_2, s1_3, s1_4, s1_5)))
theorem spec_l07All_b1_ok (a2 : List Deal) (i1_1 : Nat) (i1_2 : Nat) (ne22 : i1_1 ≠ i1_2) (s : spec_l07All_b1_S) (r : spec_l07All_b1_S ⊕ spec_l07All_b1_R) (h : spec_l07All_b1 a2 s = some r) (e : Env) (M : Mem) (hs : spec_l07All_b1_RS a2 i1_1 i1_2 s e M) : Ev (fun k => (f88_l4 (CN k) k (prune [1, 7, 8, 9] e) M).bind fun q => some q) (bQ (spec_l07All_b1_RS a2 i1_1 i1_2) (spec_l07All_b1_RR a2 i1_1 i1_2) r) := by
 obtain ⟨s1_1, s1_2, s1_3, s1_4, s1_5⟩ := s
 unfold spec_l07All_b1 at h
 obtain ⟨h53, h55, h57, h59, o62, o61⟩ := hs
 generalize he52 : prune [1, 7, 8, 9] e = e51
 have h54 := envp he52.symm rfl h53
 have h56 := envp he52.symm rfl h55
 have h58 := envp he52.symm rfl h57
 have h60 := envp he52.symm rfl h59
 refine sq (sq (Rg (kx (mvO h60) (kx (mvO h54) (kx (lnS Try.underlying52 rfl) (kx (bLss rfl rfl) (Rn (hV (.sl none (a2.map Deal.c)) h54 (hV (.lsl i1_1 s1_5.length 0 s1_5.length) h56 (hV (.loc i1_2 1 0 0) h58 (hV (.int .i64 s1_1) h60 (hN rfl hZ))))) fun e63 h65 h66 h67 h68 h69 => sN ?_)))))))
 clear h54 h56 h58 h60
 rcases ite_some h with ⟨hb70, h⟩ | ⟨hb70, h⟩
 ·obtain ⟨x71, hx72, h⟩ := bind_some h
  obtain ⟨q184, hx73, h⟩ := bind_some h
  refine cT h69 hb70 (xx (sN (sq (bl (sq (Rg (kx (mvO h65) (kx (mvO h68) (kx (ixS rfl rfl hx72 Deal.fl) ?_)))))))))
  rcases q184 with r74 | ⟨r122, r123, r124⟩
  ·refine kc (cl (v := .tup [.agg [.int .i64 0, .nils, .nils], .int .i64 r74]) rfl (cns h67 (cns rfl rfl)) (ra1 (ra1_loc o62 rfl rfl rfl ⟨rfl, blt rfl⟩) (ra1 rfl ra0)) (spec_l07Do_ok (Book.mk s1_2 s1_3 s1_4) x71 _ hx73) (fun _ => (own_tup (oa1 (own2_agg (oa1 rfl (oa1 rfl (oa1 rfl oa0)))) (oa1 rfl oa0))))) (kx (mvO rfl) (kx (exT rfl rfl) (kx (exT rfl rfl) (ku (alO zero50) fun M76 hM77 => ?_))))
   have o78 := push_old hM77 o61
   have ne79 := ne_new o61
   have o80 := push_old hM77 o62
   have ne81 := ne_new o62
   have o82 : M76[M.length]? = some (.live ⟨.box, 50, 3, [[.int .i64 0, .nils, .nils]]⟩) := push_new hM77
   refine kw (stO rfl rfl o82 rfl rfl ⟨rfl, ble rfl⟩ rfl rfl) fun M83 hM84 => ?_
   have o85 := set_ne hM84 ne79 o78
   have o86 := set_ne hM84 ne81 o80
   have o87 : M83[M.length]? = some (.live ⟨.box, 50, 3, [[.int .i64 0, .nils, .nils]]⟩) := set_same hM84 o82
   refine kx (mvO rfl) (Rn (hA h65 (hA h66 (hA h67 (hA h68 (hV (.loc M.length 1 0 0) rfl (hN rfl hZ)))))) fun e88 h90 h91 h92 h93 h94 h95 => sN (sq (sq (Rg (kx (mvO h95) (kx (bNeq rfl rfl) (Rn (hA h90 (hA h91 (hA h92 (hA h93 (hA h94 (hA h95 (hN rfl hZ))))))) fun e96 h98 h99 h100 h101 h102 h103 h104 => sN ?_)))))))
   clear h65 h66 h67 h68 h69 h90 h91 h92 h93 h94 h95
   rcases ite_some h with ⟨hb105, h⟩ | ⟨hb105, h⟩
   ·refine cT h104 hb105 (sq (Rg (kx (litI rfl rfl ⟨rfl, by decide⟩) (kx (mvO h103) (kx (mvO h101) (kx (mvO rfl) (kx (mvO rfl) (kx (mvO rfl) (Rn (hN rfl (hN rfl (hN rfl hZ))) fun e106 h108 h109 h110 => sN (xx (sR (bR (sR ?_)))))))))))))
    clear h100 h101 h102 h103 h104 h98 h99
    obtain rfl := si h
    exact qR ⟨rfl, h108, h109, h110⟩
   refine cF h104 hb105 (xx (sN (sq (Rg (kx (ldOA h102 o87 rfl rfl (ble rfl) rfl) (kw (stO h100 rfl o86 rfl rfl ⟨rfl, ble rfl⟩ rfl rfl) fun M111 hM112 => ?_))))))
   have o113 := set_ne hM112 ne22 o85
   have o114 : M111[i1_2]? = some (.live ⟨.box, 50, 3, [[.int .i64 0, .nils, .nils]]⟩) := set_same hM112 o86
   have o115 := set_ne hM112 (Ne.symm ne81) o87
   refine Rn (hA h98 (hA h99 (hA h100 (hA h101 hZ)))) fun e116 h118 h119 h120 h121 => sN (Rg (kx (mvO h119) (kx (ldOA h120 o114 rfl rfl (ble rfl) rfl) ?_)))
   clear h100 h101 h102 h103 h104 h98 h99
   cases h
  refine kc (cl (v := .tup [.agg [.int .i64 r122, .sl (some 2) (r123.map (cI .i64)), .sl (some 110) (r124.map Tally.c)], .int .i64 0]) rfl (cns h67 (cns rfl rfl)) (ra1 (ra1_loc o62 rfl rfl rfl ⟨rfl, blt rfl⟩) (ra1 rfl ra0)) (spec_l07Do_ok (Book.mk s1_2 s1_3 s1_4) x71 _ hx73) (fun _ => (own_tup (oa1 (own2_agg (oa1 rfl (oa1 (own1_row' (c := (cI .i64)) (fun _ => rfl)) (oa1 (own1_row' (c := Tally.c) Tally.flF) oa0)))) (oa1 rfl oa0))))) (kx (mvO rfl) (kx (exT rfl rfl) (kx (exT rfl rfl) (ku (alO zero50) fun M126 hM127 => ?_))))
  have o128 := push_old hM127 o61
  have ne129 := ne_new o61
  have o130 := push_old hM127 o62
  have ne131 := ne_new o62
  have o132 : M126[M.length]? = some (.live ⟨.box, 50, 3, [[.int .i64 0, .nils, .nils]]⟩) := push_new hM127
  refine kw (stO rfl rfl o132 rfl rfl ⟨rfl, ble rfl⟩ rfl rfl) fun M133 hM134 => ?_
  have o135 := set_ne hM134 ne129 o128
  have o136 := set_ne hM134 ne131 o130
  have o137 : M133[M.length]? = some (.live ⟨.box, 50, 3, [[.int .i64 r122, .sl none (r123.map (cI .i64)), .sl none (r124.map Tally.c)]]⟩) := set_same hM134 o132
  refine kx (mvO rfl) (Rn (hA h65 (hA h66 (hA h67 (hA h68 (hV (.loc M.length 1 0 0) rfl (hV (.int .i64 0) rfl hZ)))))) fun e138 h140 h141 h142 h143 h144 h145 => sN (sq (sq (Rg (kx (mvO h145) (kx (bNeq rfl rfl) (Rn (hA h140 (hA h141 (hA h142 (hA h143 (hA h144 (hA h145 (hV (.bool false) rfl hZ))))))) fun e146 h148 h149 h150 h151 h152 h153 h154 => sN (cF h154 rfl (xx (sN (sq (Rg (kx (ldOA h152 o137 rfl rfl (ble rfl) rfl) (kw (stO h150 rfl o136 rfl rfl ⟨rfl, ble rfl⟩ rfl rfl) fun M155 hM156 => ?_))))))))))))))
  clear h65 h66 h67 h68 h69 h140 h141 h142 h143 h144 h145
  have o157 := set_ne hM156 ne22 o135
  have o158 : M155[i1_2]? = some (.live ⟨.box, 50, 3, [[.int .i64 r122, .sl none (r123.map (cI .i64)), .sl none (r124.map Tally.c)]]⟩) := set_same hM156 o136
  have o159 := set_ne hM156 (Ne.symm ne131) o137
  obtain ⟨x166, hx167, h⟩ := bind_some h
  refine Rn (hA h148 (hA h149 (hA h150 (hA h151 hZ)))) fun e160 h162 h163 h164 h165 => sN (Rg (kx (mvO h163) (kx (ldOA h164 o158 rfl rfl (ble rfl) rfl) (kx (litI (cns rfl rfl) rfl ⟨rfl, by decide⟩) (kw (apO rfl o157 rfl (elT (c := Book.c) (xs := [(Book.mk r122 r123 r124)]) rfl) hx167 Book.fl (by decide)) fun M168 hM169 => ?_)))))
  clear h148 h149 h150 h151 h152 h153 h154
  have o170 : M168[i1_1]? = some (.live ⟨.grow, 50, 3, x166.map Book.c⟩) := set_same hM169 o157
  have o171 := set_ne hM169 (Ne.symm ne22) o158
  refine kx (mvO rfl) (Rn (hA h162 (hV (.lsl i1_1 x166.length 0 x166.length) rfl (hA h164 (hA h165 hZ)))) fun e172 h174 h175 h176 h177 => bN (sN (Rg (kx (mvO h177) (kx (bAdd rfl rfl) (kx (mvO rfl) (Rn (hA h174 (hA h175 (hA h176 (hN rfl hZ)))) fun e178 h180 h181 h182 h183 => ?_)))))))
  clear h162 h164 h165 h174 h175 h176
  obtain rfl := si h
  exact qN ⟨h180, h181, h182, h183, o171, o170⟩
 refine cF h69 hb70 (xx (sE ?_))
 obtain rfl := si h
 exact qE ⟨rfl, h66, o62, o61⟩
noncomputable def spec_l07All (a1 : Book) (a2 : List Deal) : Option ((List Book) × Int × Int) :=
 (spec_l07Copy a1).bind fun (r15, r16, r17) =>
 (Lw (spec_l07All_b1 a2) (0, r15, r16, r17, ([] : List Book))).bind fun r => match r with
 | (.inl (y190, y191)) =>
  some (([] : List Book), y190, y191)
 | (.inr (y197, y198, y199, y200)) =>
  some (y200, 0, 0)
def spec_l07All_enc (r : (List Book) × Int × Int) : AV := .tup [.sl (some 50) (r.1.map Book.c), .int .i64 r.2.1, .int .i64 r.2.2]
theorem spec_l07All_ok (a1 : Book) (a2 : List Deal) (r : (List Book) × Int × Int) (h : spec_l07All a1 a2 = some r) : Ev (fun k => CN k 88 [.pt none [.int .i64 a1.Day, .sl none (a1.Cash.map (cI .i64)), .sl none (a1.Tallies.map Tally.c)], .sl none (a2.map Deal.c)] []) (fun p => rRes p.2 p.1 = spec_l07All_enc r) := by
 unfold spec_l07All at h
 refine Ev.enter (F := fun k => f88 (CN k) k) (fun k => callN_eq rfl Try.func88 rfl rfl rfl (by decide +kernel) (f88_eq _ _)) (sq (Rg (kx (mvO rfl) (kx (mvO rfl) (kx (mvO rfl) (Rn (hN rfl (hN rfl hZ)) fun e1 h3 h4 => sN (sq (Rg (ku (litO (xs := ([] : List Book)) (c := Book.c) rfl rfl (by decide)) fun M6 hM7 => ?_)))))))))
 have o8 : M6[([] : Mem).length]? = some (.live ⟨.grow, 50, 3, ([] : List Book).map Book.c⟩) := push_new hM7
 obtain ⟨⟨r15, r16, r17⟩, hx14, h⟩ := bind_some h
 refine kx (mvO rfl) (Rn (hA h3 (hA h4 (hV (.lsl ([] : Mem).length ([] : List Book).length 0 ([] : List Book).length) rfl hZ))) fun e9 h11 h12 h13 => sN (sq (Rg (kx (mvO h11) (kc (cl (v := .agg [.int .i64 r15, .sl (some 2) (r16.map (cI .i64)), .sl (some 110) (r17.map Tally.c)]) rfl (cns rfl rfl) rfl (spec_l07Copy_ok a1 _ hx14) nm) (ku (alO zero50) fun M19 hM20 => ?_))))))
 clear h3 h4
 have o21 := push_old hM20 o8
 have ne22 := ne_new o8
 have o23 : M19[M6.length]? = some (.live ⟨.box, 50, 3, [[.int .i64 0, .nils, .nils]]⟩) := push_new hM20
 refine kw (stO rfl rfl o23 rfl rfl ⟨rfl, ble rfl⟩ rfl rfl) fun M24 hM25 => ?_
 have o26 := set_ne hM25 ne22 o21
 have o27 : M24[M6.length]? = some (.live ⟨.box, 50, 3, [[.int .i64 r15, .sl none (r16.map (cI .i64)), .sl none (r17.map Tally.c)]]⟩) := set_same hM25 o23
 obtain ⟨r185, hr186, h⟩ := bind_some h
 refine Rn (hA h12 (hA h13 (hV (.loc M6.length 1 0 0) rfl hZ))) fun e28 h30 h31 h32 => sN (sq (sq (Rg (kx (mvO rfl) (Rn (hA h30 (hA h31 (hA h32 (hV (.int .i64 0) rfl hZ)))) fun e33 h35 h36 h37 h38 => sN (bl ?_))))))
 clear h11 h12 h13 h30 h31 h32
 rcases r185 with ⟨y190, y191⟩ | ⟨y197, y198, y199, y200⟩
 ·refine Ev.loop (RS := spec_l07All_b1_RS a2 (([] : Mem).length) M6.length) (RR := spec_l07All_b1_RR a2 (([] : Mem).length) M6.length) (fun s r h e M hs => spec_l07All_b1_ok a2 (([] : Mem).length) M6.length ne22 s r h e M hs) hr186 ⟨h35, h36, h37, h38, o27, o26⟩ fun x e188 M189 hq187 => ?_
  obtain ⟨rfl, h192, h193, h194⟩ := hq187
  refine bR (sR ?_)
  obtain rfl := si h
  exact eR (resT h192 (resT h193 (resT h194 res0))) rfl
 refine Ev.loop (RS := spec_l07All_b1_RS a2 (([] : Mem).length) M6.length) (RR := spec_l07All_b1_RR a2 (([] : Mem).length) M6.length) (fun s r h e M hs => spec_l07All_b1_ok a2 (([] : Mem).length) M6.length ne22 s r h e M hs) hr186 ⟨h35, h36, h37, h38, o27, o26⟩ fun x e195 M196 hq187 => ?_
 obtain ⟨rfl, h201, o202, o203⟩ := hq187
 refine bE (sN (sq (Rg (kx (mvO h201) (kx (mvO rfl) (kx (mvO rfl) (kx (mvO rfl) (Rn (hV (.lsl ([] : Mem).length y200.length 0 y200.length) rfl (hV (.int .i64 0) rfl (hV (.int .i64 0) rfl hZ))) fun e204 h206 h207 h208 => sN (xx ?_)))))))))
 clear h201
 obtain rfl := si h
 exact eR (resT h206 (resT h207 (resT h208 res0))) (rr_tup (mp1 (rr_row o203 rfl Book.fl) (mp1 rfl (mp1 rfl mp0))))
/-! ### loop.example/g01263/spec.l07Asked (f87) -/
def spec_l07Asked_c1_Q (a2 : List Deal) (g : Bool) (q : Out) : Prop := q.1 = .nrm ∧ eget q.2.1 1 = .sl none (a2.map Deal.c) ∧ eget q.2.1 12 = .bool g
noncomputable def spec_l07Asked (a1 : Book) (a2 : List Deal) : Option Int :=
 ((spec_l07Ok a1).bind fun r6 =>
 if r6 = true then
  (spec_l07Deals a2).bind fun r9 =>
  some (!r9)
 else
  some true).bind fun y20 =>
 if y20 = true then
  some 1
 else
  if (decide ((a2.length : Int) > 80)) = true then
   some 3
  else
   some 0
def spec_l07Asked_enc (r : Int) : AV := .int .i64 r
theorem spec_l07Asked_ok (a1 : Book) (a2 : List Deal) (r : Int) (h : spec_l07Asked a1 a2 = some r) : Ev (fun k => CN k 87 [.pt none [.int .i64 a1.Day, .sl none (a1.Cash.map (cI .i64)), .sl none (a1.Tallies.map Tally.c)], .sl none (a2.map Deal.c)] []) (fun p => rRes p.2 p.1 = spec_l07Asked_enc r) := by
 unfold spec_l07Asked at h
 obtain ⟨r38, hr39, h⟩ := bind_some h
 refine Ev.enter (F := fun k => f87 (CN k) k) (fun k => callN_eq rfl Try.func87 rfl rfl rfl (by decide +kernel) (f87_eq _ _)) (sq (Rg (kx (mvO rfl) (Rn (hN rfl (hN rfl hZ)) fun e1 h3 h4 => sN (sq (sq ?_))))))
 refine Ev.cut (Q1 := spec_l07Asked_c1_Q a2 r38) (by
     have h := hr39
     obtain ⟨r6, hx5, h⟩ := bind_some h
     refine Rg (kx (mvO h3) (kc (cl (v := .bool r6) rfl (cns rfl rfl) rfl (spec_l07Ok_ok a1 _ hx5) nm) (kx (uNot rfl) (kx (mvO rfl) ?_))))
     rcases ite_some h with ⟨hb7, h⟩ | ⟨hb7, h⟩
     ·obtain ⟨r9, hx8, h⟩ := bind_some h
      refine kx (guF rfl (congrArg Bool.not hb7) (mvO h4)) (kc (Ev.guF rfl (congrArg Bool.not hb7) (cl (v := .bool r9) rfl (cns rfl rfl) rfl (spec_l07Deals_ok a2 _ hx8) nm)) (kx (guF rfl (congrArg Bool.not hb7) (uNot rfl)) (kx (pkF rfl (congrArg Bool.not hb7) rfl) (Rn (hA h4 (hN rfl hZ)) fun e10 h12 h13 => ?_))))
      clear h3 h4
      obtain rfl := si h
      exact kd (show spec_l07Asked_c1_Q a2 _ _ from ⟨rfl, h12, h13⟩)
     refine kx (gsF rfl (congrArg Bool.not hb7)) (kc (Ev.gsF rfl (congrArg Bool.not hb7)) (kx (gsF rfl (congrArg Bool.not hb7)) (kx (pkT rfl (congrArg Bool.not hb7) rfl) (Rn (hA h4 (hV (.bool true) rfl hZ)) fun e14 h16 h17 => ?_))))
     clear h3 h4
     obtain rfl := si h
     exact kd (show spec_l07Asked_c1_Q a2 _ _ from ⟨rfl, h16, h17⟩)) ?_
 revert h hr39
 revert r38
 intro y20 hr39 h
 intro x e18 M19 hq37
 obtain ⟨rfl, h21, h22⟩ := hq37
 refine sN ?_
 rcases ite_some h with ⟨hb23, h⟩ | ⟨hb23, h⟩
 ·refine cT h22 hb23 (sq (Rg (kx (mvO rfl) (Rn (hV (.int .i64 1) rfl hZ) fun e24 h26 => sN (xx (sR ?_))))))
  clear h21 h22
  obtain rfl := si h
  exact eR (resT h26 res0) rfl
 refine cF h22 hb23 (xx (sN (sq (sq (Rg (kx (mvO h21) (kx (lnS Try.underlying52 rfl) (kx (bGtr rfl rfl) (Rn (hN rfl hZ) fun e27 h29 => sN ?_)))))))))
 clear h21 h22
 rcases ite_some h with ⟨hb30, h⟩ | ⟨hb30, h⟩
 ·refine cT h29 hb30 (sq (Rg (kx (mvO rfl) (Rn (hV (.int .i64 3) rfl hZ) fun e31 h33 => sN (xx (sR ?_))))))
  clear h29
  obtain rfl := si h
  exact eR (resT h33 res0) rfl
 refine cF h29 hb30 (xx (sN (sq (Rg (kx (mvO rfl) (Rn (hV (.int .i64 0) rfl hZ) fun e34 h36 => sN (xx ?_)))))))
 clear h29
 obtain rfl := si h
 exact eR (resT h36 res0) rfl
/-! ### loop.example/g01263/laws.eqDeal (f65) -/
noncomputable def laws_eqDeal (a1 : Deal) (a2 : Deal) : Option Bool :=
 if (a1.Day != a2.Day) = true then
  some false
 else
  if (a1.Kind != a2.Kind) = true then
   some false
  else
   if (a1.Tally != a2.Tally) = true then
    some false
   else
    if (a1.From != a2.From) = true then
     some false
    else
     if (a1.To != a2.To) = true then
      some false
     else
      if (a1.Amount != a2.Amount) = true then
       some false
      else
       some true
def laws_eqDeal_enc (r : Bool) : AV := .bool r
theorem laws_eqDeal_ok (a1 : Deal) (a2 : Deal) (r : Bool) (h : laws_eqDeal a1 a2 = some r) : Ev (fun k => CN k 65 [.agg [.int .i64 a1.Day, .int .i8 a1.Kind, .int .i64 a1.Tally, .int .i64 a1.From, .int .i64 a1.To, .int .i64 a1.Amount], .agg [.int .i64 a2.Day, .int .i8 a2.Kind, .int .i64 a2.Tally, .int .i64 a2.From, .int .i64 a2.To, .int .i64 a2.Amount]] []) (fun p => rRes p.2 p.1 = laws_eqDeal_enc r) := by
 unfold laws_eqDeal at h
 refine Ev.enter (F := fun k => f65 (CN k) k) (fun k => callN_eq rfl Try.func65 rfl rfl rfl (by decide +kernel) (f65_eq _ _)) (sq (Rg (kx (bxI rfl rfl ⟨rfl, rfl, by decide⟩) (kx (bxI rfl rfl ⟨rfl, rfl, by decide⟩) (kx (mvO rfl) (Rn (hN rfl (hN rfl hZ)) fun e1 h3 h4 => sN (sq (sq (Rg (kx (faP h3 ⟨ble rfl, blt rfl⟩ rfl) (kx (ldP rfl rfl) (kx (faP h4 ⟨ble rfl, blt rfl⟩ rfl) (kx (ldP rfl rfl) (kx (bNeq rfl rfl) (Rn (hA h3 (hA h4 (hN rfl hZ))) fun e5 h7 h8 h9 => sN ?_)))))))))))))))
 clear h3 h4
 rcases ite_some h with ⟨hb10, h⟩ | ⟨hb10, h⟩
 ·refine cT h9 hb10 (sq (Rg (kx (mvO rfl) (Rn (hV (.bool false) rfl hZ) fun e11 h13 => sN (xx (sR ?_))))))
  clear h7 h8 h9
  obtain rfl := si h
  exact eR (resT h13 res0) rfl
 refine cF h9 hb10 (xx (sN (sq (sq (Rg (kx (faP h7 ⟨ble rfl, blt rfl⟩ rfl) (kx (ldP rfl rfl) (kx (faP h8 ⟨ble rfl, blt rfl⟩ rfl) (kx (ldP rfl rfl) (kx (bNeq rfl rfl) (Rn (hA h7 (hA h8 (hN rfl hZ))) fun e14 h16 h17 h18 => sN ?_)))))))))))
 clear h7 h8 h9
 rcases ite_some h with ⟨hb19, h⟩ | ⟨hb19, h⟩
 ·refine cT h18 hb19 (sq (Rg (kx (mvO rfl) (Rn (hV (.bool false) rfl hZ) fun e20 h22 => sN (xx (sR ?_))))))
  clear h16 h17 h18
  obtain rfl := si h
  exact eR (resT h22 res0) rfl
 refine cF h18 hb19 (xx (sN (sq (sq (Rg (kx (faP h16 ⟨ble rfl, blt rfl⟩ rfl) (kx (ldP rfl rfl) (kx (faP h17 ⟨ble rfl, blt rfl⟩ rfl) (kx (ldP rfl rfl) (kx (bNeq rfl rfl) (Rn (hA h16 (hA h17 (hN rfl hZ))) fun e23 h25 h26 h27 => sN ?_)))))))))))
 clear h16 h17 h18
 rcases ite_some h with ⟨hb28, h⟩ | ⟨hb28, h⟩
 ·refine cT h27 hb28 (sq (Rg (kx (mvO rfl) (Rn (hV (.bool false) rfl hZ) fun e29 h31 => sN (xx (sR ?_))))))
  clear h25 h26 h27
  obtain rfl := si h
  exact eR (resT h31 res0) rfl
 refine cF h27 hb28 (xx (sN (sq (sq (Rg (kx (faP h25 ⟨ble rfl, blt rfl⟩ rfl) (kx (ldP rfl rfl) (kx (faP h26 ⟨ble rfl, blt rfl⟩ rfl) (kx (ldP rfl rfl) (kx (bNeq rfl rfl) (Rn (hA h25 (hA h26 (hN rfl hZ))) fun e32 h34 h35 h36 => sN ?_)))))))))))
 clear h25 h26 h27
 rcases ite_some h with ⟨hb37, h⟩ | ⟨hb37, h⟩
 ·refine cT h36 hb37 (sq (Rg (kx (mvO rfl) (Rn (hV (.bool false) rfl hZ) fun e38 h40 => sN (xx (sR ?_))))))
  clear h34 h35 h36
  obtain rfl := si h
  exact eR (resT h40 res0) rfl
 refine cF h36 hb37 (xx (sN (sq (sq (Rg (kx (faP h34 ⟨ble rfl, blt rfl⟩ rfl) (kx (ldP rfl rfl) (kx (faP h35 ⟨ble rfl, blt rfl⟩ rfl) (kx (ldP rfl rfl) (kx (bNeq rfl rfl) (Rn (hA h34 (hA h35 (hN rfl hZ))) fun e41 h43 h44 h45 => sN ?_)))))))))))
 clear h34 h35 h36
 rcases ite_some h with ⟨hb46, h⟩ | ⟨hb46, h⟩
 ·refine cT h45 hb46 (sq (Rg (kx (mvO rfl) (Rn (hV (.bool false) rfl hZ) fun e47 h49 => sN (xx (sR ?_))))))
  clear h43 h44 h45
  obtain rfl := si h
  exact eR (resT h49 res0) rfl
 refine cF h45 hb46 (xx (sN (sq (sq (Rg (kx (faP h43 ⟨ble rfl, blt rfl⟩ rfl) (kx (ldP rfl rfl) (kx (faP h44 ⟨ble rfl, blt rfl⟩ rfl) (kx (ldP rfl rfl) (kx (bNeq rfl rfl) (Rn (hN rfl hZ) fun e50 h52 => sN ?_)))))))))))
 clear h43 h44 h45
 rcases ite_some h with ⟨hb53, h⟩ | ⟨hb53, h⟩
 ·refine cT h52 hb53 (sq (Rg (kx (mvO rfl) (Rn (hV (.bool false) rfl hZ) fun e54 h56 => sN (xx (sR ?_))))))
  clear h52
  obtain rfl := si h
  exact eR (resT h56 res0) rfl
 refine cF h52 hb53 (xx (sN (sq (Rg (kx (mvO rfl) (Rn (hV (.bool true) rfl hZ) fun e57 h59 => sN (xx ?_)))))))
 clear h52
 obtain rfl := si h
 exact eR (resT h59 res0) rfl
/-! ### loop.example/g01263/laws.eqTallyS (f64) -/
abbrev laws_eqTallyS_b1_S := Int
abbrev laws_eqTallyS_b1_R := Unit ⊕ Unit
def laws_eqTallyS_b1_RS (a1 : List Tally) (a2 : List Tally) (s : laws_eqTallyS_b1_S) (e : Env) (M : Mem) : Prop := eget e 0 = .sl none (a1.map Tally.c) ∧ eget e 1 = .sl none (a2.map Tally.c) ∧ eget e 5 = .int .i64 s
def laws_eqTallyS_b1_RR (a1 : List Tally) (a2 : List Tally) (r : laws_eqTallyS_b1_R) (x : Ex) (e : Env) (M : Mem) : Prop :=
  match r with
  | (.inl g) => x = .ret ∧ eget e 4 = .bool false
  | (.inr g) => x = .ext 0 ∧ True
noncomputable def laws_eqTallyS_b1 (a1 : List Tally) (a2 : List Tally) : laws_eqTallyS_b1_S → Option (laws_eqTallyS_b1_S ⊕ laws_eqTallyS_b1_R) := fun s1_1 =>
 if (decide (s1_1 < (a1.length : Int))) = true then
  (rd a1 s1_1).bind fun x42 =>
  (rd a2 s1_1).bind fun x44 =>
  (laws_eqTally x42 x44).bind fun r47 =>
  if r47 = true then
   some (.inl (IntKind.i64.wrap (s1_1 + 1)))
  else
   some (.inr (.inl ()))
 else
  some (.inr (.inr ()))
theorem laws_eqTallyS_b1_ok (a1 : List Tally) (a2 : List Tally) (s : laws_eqTallyS_b1_S) (r : laws_eqTallyS_b1_S ⊕ laws_eqTallyS_b1_R) (h : laws_eqTallyS_b1 a1 a2 s = some r) (e : Env) (M : Mem) (hs : laws_eqTallyS_b1_RS a1 a2 s e M) : Ev (fun k => (f64_l4 (CN k) k (prune [0, 1, 5] e) M).bind fun q => some q) (bQ (laws_eqTallyS_b1_RS a1 a2) (laws_eqTallyS_b1_RR a1 a2) r) := by
 revert h hs
 revert s
 intro s1_1 h hs
 unfold laws_eqTallyS_b1 at h
 obtain ⟨h29, h31, h33⟩ := hs
 generalize he28 : prune [0, 1, 5] e = e27
 have h30 := envp he28.symm rfl h29
 have h32 := envp he28.symm rfl h31
 have h34 := envp he28.symm rfl h33
 refine sq (sq (Rg (kx (mvO h34) (kx (mvO h30) (kx (lnS Try.underlying48 rfl) (kx (bLss rfl rfl) (Rn (hV (.sl none (a1.map Tally.c)) h30 (hV (.sl none (a2.map Tally.c)) h32 (hV (.int .i64 s1_1) h34 (hN rfl hZ)))) fun e35 h37 h38 h39 h40 => sN ?_)))))))
 clear h30 h32 h34
 rcases ite_some h with ⟨hb41, h⟩ | ⟨hb41, h⟩
 ·obtain ⟨x42, hx43, h⟩ := bind_some h
  obtain ⟨x44, hx45, h⟩ := bind_some h
  obtain ⟨r47, hx46, h⟩ := bind_some h
  refine cT h40 hb41 (xx (sN (sq (bl (sq (Rd (kf (mvO h37) (kf (mvO h39) (kf (ixS rfl rfl hx43 Tally.fl) (kf (ldPA rfl rfl rfl) (kf (mvO h38) (kf (mvO h39) (kf (ixS rfl rfl hx45 Tally.fl) (kf (ldPA rfl rfl rfl) (fc (cl (v := .bool r47) rfl (cns rfl (cns rfl rfl)) rfl (laws_eqTally_ok x42 x44 _ hx46) nm) (kf (uNot rfl) (fZ (Rn (hA h37 (hA h38 (hA h39 (hN rfl hZ)))) fun e48 h50 h51 h52 h53 => sN ?_))))))))))))))))))
  clear h37 h38 h39 h40
  rcases ite_some h with ⟨hb54, h⟩ | ⟨hb54, h⟩
  ·refine cF h53 (congrArg Bool.not hb54) (xx (bN (sN (Rg (kx (mvO h52) (kx (bAdd rfl rfl) (kx (mvO rfl) (Rn (hA h50 (hA h51 (hN rfl hZ))) fun e55 h57 h58 h59 => ?_))))))))
   clear h50 h51 h53
   obtain rfl := si h
   exact qN ⟨h57, h58, h59⟩
  refine cT h53 (congrArg Bool.not hb54) (sq (Rg (kx (mvO rfl) (Rn (hV (.bool false) rfl hZ) fun e60 h62 => sN (xx (bR (sR ?_)))))))
  clear h50 h51 h52 h53
  obtain rfl := si h
  exact qR ⟨rfl, h62⟩
 refine cF h40 hb41 (xx (sE ?_))
 obtain rfl := si h
 exact qE ⟨rfl, trivial⟩
noncomputable def laws_eqTallyS (a1 : List Tally) (a2 : List Tally) : Option Bool :=
 if ((a1.length : Int) != (a2.length : Int)) = true then
  some false
 else
  (Lw (laws_eqTallyS_b1 a1 a2) 0).bind fun r => match r with
  | (.inl _) =>
   some false
  | (.inr _) =>
   some true
def laws_eqTallyS_enc (r : Bool) : AV := .bool r
theorem laws_eqTallyS_ok (a1 : List Tally) (a2 : List Tally) (r : Bool) (h : laws_eqTallyS a1 a2 = some r) : Ev (fun k => CN k 64 [.sl none (a1.map Tally.c), .sl none (a2.map Tally.c)] []) (fun p => rRes p.2 p.1 = laws_eqTallyS_enc r) := by
 unfold laws_eqTallyS at h
 refine Ev.enter (F := fun k => f64 (CN k) k) (fun k => callN_eq rfl Try.func64 rfl rfl rfl (by decide +kernel) (f64_eq _ _)) (sq (Rg (kx (mvO rfl) (Rn (hN rfl (hN rfl hZ)) fun e1 h3 h4 => sN (sq (sq (Rg (kx (mvO h3) (kx (lnS Try.underlying48 rfl) (kx (mvO h4) (kx (lnS Try.underlying48 rfl) (kx (bNeq rfl rfl) (Rn (hA h3 (hA h4 (hN rfl hZ))) fun e5 h7 h8 h9 => sN ?_)))))))))))))
 clear h3 h4
 rcases ite_some h with ⟨hb10, h⟩ | ⟨hb10, h⟩
 ·refine cT h9 hb10 (sq (Rg (kx (mvO rfl) (Rn (hV (.bool false) rfl hZ) fun e11 h13 => sN (xx (sR ?_))))))
  clear h7 h8 h9
  obtain rfl := si h
  exact eR (resT h13 res0) rfl
 obtain ⟨r63, hr64, h⟩ := bind_some h
 refine cF h9 hb10 (xx (sN (sq (sq (Rg (kx (mvO rfl) (Rn (hA h7 (hA h8 (hV (.int .i64 0) rfl hZ))) fun e14 h16 h17 h18 => sN (bl ?_))))))))
 clear h7 h8 h9
 rcases r63 with _ | _
 ·refine Ev.loop (RS := laws_eqTallyS_b1_RS a1 a2) (RR := laws_eqTallyS_b1_RR a1 a2) (fun s r h e M hs => laws_eqTallyS_b1_ok a1 a2 s r h e M hs) hr64 ⟨h16, h17, h18⟩ fun x e66 M67 hq65 => ?_
  obtain ⟨rfl, h68⟩ := hq65
  refine bR (sR ?_)
  obtain rfl := si h
  exact eR (resT h68 res0) rfl
 refine Ev.loop (RS := laws_eqTallyS_b1_RS a1 a2) (RR := laws_eqTallyS_b1_RR a1 a2) (fun s r h e M hs => laws_eqTallyS_b1_ok a1 a2 s r h e M hs) hr64 ⟨h16, h17, h18⟩ fun x e69 M70 hq65 => ?_
 obtain ⟨rfl, _⟩ := hq65
 refine bE (sN (sq (Rg (kx (mvO rfl) (Rn (hV (.bool true) rfl hZ) fun e71 h73 => sN (xx ?_))))))
 obtain rfl := si h
 exact eR (resT h73 res0) rfl
/-! ### loop.example/g01263/impl.history (f62) -/
def impl_history_c1_Q (a1 : Book) (a2 : List Deal) (a3 : Int) (i901_1 : Nat) (g : Bool) (q : Out) : Prop := q.1 = .nrm ∧ eget q.2.1 1 = .sl none (a2.map Deal.c) ∧ eget q.2.1 2 = .int .i64 a3 ∧ eget q.2.1 3 = .pt none [.int .i64 a1.Day, .sl none (a1.Cash.map (cI .i64)), .sl none (a1.Tallies.map Tally.c)] ∧ eget q.2.1 38 = .bool g
def impl_history_c4_Q (a2 : List Deal) (a3 : Int) (s1_1 : Int) (s1_2 : Int) (s1_3 : List Int) (x138 : Deal) (i1_1 : Nat) (i904_2 : Nat) (g : Bool) (q : Out) : Prop := q.1 = .nrm ∧ eget q.2.1 2 = .int .i64 a3 ∧ eget q.2.1 11 = .lsl i1_1 s1_3.length 0 s1_3.length ∧ eget q.2.1 12 = .int .i64 s1_1 ∧ eget q.2.1 13 = .int .i64 s1_2 ∧ eget q.2.1 14 = .loc i904_2 1 0 0 ∧ eget q.2.1 43 = .sl none (a2.map Deal.c) ∧ eget q.2.1 44 = .int .i64 (a2.length : Int) ∧ eget q.2.1 45 = .int .i64 s1_2 ∧ eget q.2.1 68 = .bool g ∧ q.2.2[i904_2]? = some (.live ⟨.box, 114, 6, [[.int .i64 x138.Day, .int .i8 x138.Kind, .int .i64 x138.Tally, .int .i64 x138.From, .int .i64 x138.To, .int .i64 x138.Amount]]⟩) ∧ q.2.2[i1_1]? = some (.live ⟨.grow, 2, 1, s1_3.map (cI .i64)⟩)
abbrev impl_history_b1_S := Int × Int × (List Int)
abbrev impl_history_b1_R := (List Int)
def impl_history_b1_RS (a2 : List Deal) (a3 : Int) (i1_1 : Nat) (s : impl_history_b1_S) (e : Env) (M : Mem) : Prop := eget e 2 = .int .i64 a3 ∧ eget e 11 = .lsl i1_1 s.2.2.length 0 s.2.2.length ∧ eget e 12 = .int .i64 s.1 ∧ eget e 43 = .sl none (a2.map Deal.c) ∧ eget e 44 = .int .i64 (a2.length : Int) ∧ eget e 45 = .int .i64 s.2.1 ∧ M[i1_1]? = some (.live ⟨.grow, 2, 1, s.2.2.map (cI .i64)⟩)
def impl_history_b1_RR (a2 : List Deal) (a3 : Int) (i1_1 : Nat) (g : impl_history_b1_R) (x : Ex) (e : Env) (M : Mem) : Prop := x = .ext 0 ∧ eget e 11 = .lsl i1_1 g.length 0 g.length ∧ M[i1_1]? = some (.live ⟨.grow, 2, 1, g.map (cI .i64)⟩)
noncomputable def impl_history_b1 (a2 : List Deal) (a3 : Int) : impl_history_b1_S → Option (impl_history_b1_S ⊕ impl_history_b1_R) := fun (s1_1, s1_2, s1_3) =>
 if (decide (s1_2 < (a2.length : Int))) = true then
  (rd a2 s1_2).bind fun x138 =>
  (if (x138.Kind == 1) = true then
   if (s1_1 == a3) = true then
    some true
   else
    if (x138.Kind != 1) = true then
     some (x138.Tally == a3)
    else
     some false
  else
   if (x138.Kind != 1) = true then
    some (x138.Tally == a3)
   else
    some false).bind fun y221 =>
  if y221 = true then
   (app 8 s1_3 [s1_2]).bind fun x234 =>
   if (x138.Kind == 1) = true then
    some (.inl ((IntKind.i64.wrap (s1_1 + 1)), (IntKind.i64.wrap (s1_2 + 1)), x234))
   else
    some (.inl (s1_1, (IntKind.i64.wrap (s1_2 + 1)), x234))
  else
   if (x138.Kind == 1) = true then
    some (.inl ((IntKind.i64.wrap (s1_1 + 1)), (IntKind.i64.wrap (s1_2 + 1)), s1_3))
   else
    some (.inl (s1_1, (IntKind.i64.wrap (s1_2 + 1)), s1_3))
 else
  some (.inr s1_3)
theorem impl_history_b1_ok (a2 : List Deal) (a3 : Int) (i1_1 : Nat) (s : impl_history_b1_S) (r : impl_history_b1_S ⊕ impl_history_b1_R) (h : impl_history_b1 a2 a3 s = some r) (e : Env) (M : Mem) (hs : impl_history_b1_RS a2 a3 i1_1 s e M) : Ev (fun k => (f62_l11 (CN k) k (prune [2, 11, 12, 43, 44, 45] e) M).bind fun q => some q) (bQ (impl_history_b1_RS a2 a3 i1_1) (impl_history_b1_RR a2 a3 i1_1) r) := by
 obtain ⟨s1_1, s1_2, s1_3⟩ := s
 unfold impl_history_b1 at h
 obtain ⟨h115, h117, h119, h121, h123, h125, o127⟩ := hs
 generalize he114 : prune [2, 11, 12, 43, 44, 45] e = e113
 have h116 := envp he114.symm rfl h115
 have h118 := envp he114.symm rfl h117
 have h120 := envp he114.symm rfl h119
 have h122 := envp he114.symm rfl h121
 have h124 := envp he114.symm rfl h123
 have h126 := envp he114.symm rfl h125
 refine sq (Rg (kx (bLss h126 h124) (Rn (hV (.int .i64 a3) h116 (hV (.lsl i1_1 s1_3.length 0 s1_3.length) h118 (hV (.int .i64 s1_1) h120 (hV (.sl none (a2.map Deal.c)) h122 (hV (.int .i64 (a2.length : Int)) h124 (hV (.int .i64 s1_2) h126 (hN rfl hZ))))))) fun e128 h130 h131 h132 h133 h134 h135 h136 => sN (sq ?_))))
 clear h116 h118 h120 h122 h124 h126
 rcases ite_some h with ⟨hb137, h⟩ | ⟨hb137, h⟩
 ·obtain ⟨x138, hx139, h⟩ := bind_some h
  refine cT h136 hb137 (xx (sN (sq (bl (sq (Rg (kx (mvO h135) (kx (ixS h133 h135 hx139 Deal.fl) (kx (ldPA rfl rfl rfl) (ku (alO zero114) fun M141 hM142 => ?_))))))))))
  have o143 := push_old hM142 o127
  have ne144 := ne_new o127
  have o145 : M141[M.length]? = some (.live ⟨.box, 114, 6, [[.int .i64 0, .int .i8 0, .int .i64 0, .int .i64 0, .int .i64 0, .int .i64 0]]⟩) := push_new hM142
  refine kx (mvO rfl) (kw (stO rfl rfl o145 rfl rfl ⟨rfl, ble rfl⟩ rfl rfl) fun M146 hM147 => ?_)
  have o148 := set_ne hM147 ne144 o143
  have o149 : M146[M.length]? = some (.live ⟨.box, 114, 6, [[.int .i64 x138.Day, .int .i8 x138.Kind, .int .i64 x138.Tally, .int .i64 x138.From, .int .i64 x138.To, .int .i64 x138.Amount]]⟩) := set_same hM147 o145
  obtain ⟨r318, hr319, h⟩ := bind_some h
  refine Rn (hA h130 (hA h131 (hA h132 (hN rfl (hV (.loc M.length 1 0 0) rfl (hA h133 (hA h134 (hA h135 hZ)))))))) fun e150 h152 h153 h154 h155 h156 h157 h158 h159 => sN (sq (sq ?_))
  clear h130 h131 h132 h133 h134 h135 h136
  refine Ev.cut (Q1 := impl_history_c4_Q a2 a3 s1_1 s1_2 s1_3 x138 i1_1 M.length r318) (by
      have h := hr319
      refine Rg (kx (faO h156 o149 rfl) (kx (ldO rfl o149 rfl rfl rfl) (kx (bEql rfl rfl) (kx (mvO rfl) ?_))))
      rcases ite_some h with ⟨hb160, h⟩ | ⟨hb160, h⟩
      ·refine kx (guT rfl hb160 (mvO h154)) (kx (guT rfl hb160 (mvO h152)) (kx (guT rfl hb160 (bEql rfl rfl)) (kx (pkT rfl hb160 rfl) (kx (mvO rfl) ?_))))
       rcases ite_some h with ⟨hb161, h⟩ | ⟨hb161, h⟩
       ·refine kx (gsF rfl hb161) (kx (gsF rfl hb161) (kx (gsF rfl hb161) (kx (gsF rfl hb161) (kx (gsU rfl) (kx (gsU rfl) (kx (gsU rfl) (kx (gsU rfl) (kx (gsF rfl hb161) (kx (pkT rfl hb161 rfl) (Rn (hA h152 (hA h153 (hA h154 (hA h155 (hA h156 (hA h157 (hA h158 (hA h159 (hV (.bool true) rfl hZ))))))))) fun e162 h164 h165 h166 h167 h168 h169 h170 h171 h172 => ?_))))))))))
        clear h152 h153 h154 h155 h156 h157 h158 h159
        obtain rfl := si h
        exact kd (show impl_history_c4_Q a2 a3 s1_1 s1_2 s1_3 x138 i1_1 M.length _ _ from ⟨rfl, h164, h165, h166, h167, h168, h169, h170, h171, h172, o149, o148⟩)
       refine kx (guF rfl hb161 (faO h156 o149 rfl)) (kx (guF rfl hb161 (ldO rfl o149 rfl rfl rfl)) (kx (guF rfl hb161 (bNeq rfl rfl)) (kx (guF rfl hb161 (mvO rfl)) ?_)))
       rcases ite_some h with ⟨hb173, h⟩ | ⟨hb173, h⟩
       ·refine kx (guT rfl hb173 (faO h156 o149 rfl)) (kx (guT rfl hb173 (ldO rfl o149 rfl rfl rfl)) (kx (guT rfl hb173 (mvO h152)) (kx (guT rfl hb173 (bEql rfl rfl)) (kx (guF rfl hb161 (pkT rfl hb173 rfl)) (kx (pkF rfl hb161 rfl) (Rn (hA h152 (hA h153 (hA h154 (hA h155 (hA h156 (hA h157 (hA h158 (hA h159 (hN rfl hZ))))))))) fun e174 h176 h177 h178 h179 h180 h181 h182 h183 h184 => ?_))))))
        clear h152 h153 h154 h155 h156 h157 h158 h159
        obtain rfl := si h
        exact kd (show impl_history_c4_Q a2 a3 s1_1 s1_2 s1_3 x138 i1_1 M.length _ _ from ⟨rfl, h176, h177, h178, h179, h180, h181, h182, h183, h184, o149, o148⟩)
       refine kx (gsT rfl hb173) (kx (gsT rfl hb173) (kx (gsT rfl hb173) (kx (gsT rfl hb173) (kx (guF rfl hb161 (pkF rfl hb173 rfl)) (kx (pkF rfl hb161 rfl) (Rn (hA h152 (hA h153 (hA h154 (hA h155 (hA h156 (hA h157 (hA h158 (hA h159 (hV (.bool false) rfl hZ))))))))) fun e185 h187 h188 h189 h190 h191 h192 h193 h194 h195 => ?_))))))
       clear h152 h153 h154 h155 h156 h157 h158 h159
       obtain rfl := si h
       exact kd (show impl_history_c4_Q a2 a3 s1_1 s1_2 s1_3 x138 i1_1 M.length _ _ from ⟨rfl, h187, h188, h189, h190, h191, h192, h193, h194, h195, o149, o148⟩)
      refine kx (gsT rfl hb160) (kx (gsT rfl hb160) (kx (gsT rfl hb160) (kx (pkF rfl hb160 rfl) (kx (mvO rfl) (kx (guF rfl rfl (faO h156 o149 rfl)) (kx (guF rfl rfl (ldO rfl o149 rfl rfl rfl)) (kx (guF rfl rfl (bNeq rfl rfl)) (kx (guF rfl rfl (mvO rfl)) ?_))))))))
      rcases ite_some h with ⟨hb196, h⟩ | ⟨hb196, h⟩
      ·refine kx (guT rfl hb196 (faO h156 o149 rfl)) (kx (guT rfl hb196 (ldO rfl o149 rfl rfl rfl)) (kx (guT rfl hb196 (mvO h152)) (kx (guT rfl hb196 (bEql rfl rfl)) (kx (guF rfl rfl (pkT rfl hb196 rfl)) (kx (pkF rfl rfl rfl) (Rn (hA h152 (hA h153 (hA h154 (hA h155 (hA h156 (hA h157 (hA h158 (hA h159 (hN rfl hZ))))))))) fun e197 h199 h200 h201 h202 h203 h204 h205 h206 h207 => ?_))))))
       clear h152 h153 h154 h155 h156 h157 h158 h159
       obtain rfl := si h
       exact kd (show impl_history_c4_Q a2 a3 s1_1 s1_2 s1_3 x138 i1_1 M.length _ _ from ⟨rfl, h199, h200, h201, h202, h203, h204, h205, h206, h207, o149, o148⟩)
      refine kx (gsT rfl hb196) (kx (gsT rfl hb196) (kx (gsT rfl hb196) (kx (gsT rfl hb196) (kx (guF rfl rfl (pkF rfl hb196 rfl)) (kx (pkF rfl rfl rfl) (Rn (hA h152 (hA h153 (hA h154 (hA h155 (hA h156 (hA h157 (hA h158 (hA h159 (hV (.bool false) rfl hZ))))))))) fun e208 h210 h211 h212 h213 h214 h215 h216 h217 h218 => ?_))))))
      clear h152 h153 h154 h155 h156 h157 h158 h159
      obtain rfl := si h
      exact kd (show impl_history_c4_Q a2 a3 s1_1 s1_2 s1_3 x138 i1_1 M.length _ _ from ⟨rfl, h210, h211, h212, h213, h214, h215, h216, h217, h218, o149, o148⟩)) ?_
  revert h hr319
  revert r318
  intro y221 hr319 h
  intro x e219 M220 hq317
  obtain ⟨rfl, h222, h223, h224, h225, h226, h227, h228, h229, h230, o231, o232⟩ := hq317
  refine sN ?_
  rcases ite_some h with ⟨hb233, h⟩ | ⟨hb233, h⟩
  ·obtain ⟨x234, hx235, h⟩ := bind_some h
   refine cT h230 hb233 (Rg (kx (mvO h223) (kx (mvO h225) (kx (litI (cns rfl rfl) rfl ⟨rfl, by decide⟩) (kw (apO rfl o232 rfl (elT (c := (cI .i64)) (xs := [s1_2]) rfl) hx235 (cI_fl _) (by decide)) fun M236 hM237 => ?_)))))
   have o238 := set_ne hM237 (Ne.symm ne144) o231
   have o239 : M236[i1_1]? = some (.live ⟨.grow, 2, 1, x234.map (cI .i64)⟩) := set_same hM237 o232
   refine kx (mvO rfl) (Rn (hV (.int .i64 a3) h222 (hV (.lsl i1_1 x234.length 0 x234.length) rfl (hV (.int .i64 s1_1) h224 (hV (.loc M.length 1 0 0) h226 (hV (.sl none (a2.map Deal.c)) h227 (hV (.int .i64 (a2.length : Int)) h228 (hV (.int .i64 s1_2) h229 hZ))))))) fun e240 h242 h243 h244 h245 h246 h247 h248 => sN (sq (Rg (kx (faO h245 o238 rfl) (kx (ldO rfl o238 rfl rfl rfl) (kx (bEql rfl rfl) (Rn (hA h242 (hA h243 (hA h244 (hA h246 (hA h247 (hA h248 (hN rfl hZ))))))) fun e249 h251 h252 h253 h254 h255 h256 h257 => sN ?_)))))))
   clear h222 h224 h225 h226 h227 h228 h229 h230 h242 h243 h244 h245 h246 h247 h248
   rcases ite_some h with ⟨hb258, h⟩ | ⟨hb258, h⟩
   ·refine cT h257 hb258 (Rg (kx (mvO h253) (kx (bAdd rfl rfl) (kx (mvO rfl) (Rn (hA h251 (hA h252 (hN rfl (hA h254 (hA h255 (hA h256 hZ)))))) fun e259 h261 h262 h263 h264 h265 h266 => bN (sN (Rg (kx (bAdd h266 rfl) (kx (mvO rfl) (Rn (hA h261 (hA h262 (hA h263 (hA h264 (hA h265 (hN rfl hZ)))))) fun e267 h269 h270 h271 h272 h273 h274 => ?_))))))))))
    clear h251 h252 h254 h255 h256 h257 h261 h262 h263 h264 h265
    obtain rfl := si h
    exact qN ⟨h269, h270, h271, h272, h273, h274, o239⟩
   refine cF h257 hb258 (xx (bN (sN (Rg (kx (bAdd h256 rfl) (kx (mvO rfl) (Rn (hA h251 (hA h252 (hA h253 (hA h254 (hA h255 (hN rfl hZ)))))) fun e275 h277 h278 h279 h280 h281 h282 => ?_)))))))
   clear h251 h252 h253 h254 h255 h257
   obtain rfl := si h
   exact qN ⟨h277, h278, h279, h280, h281, h282, o239⟩
  refine cF h230 hb233 (xx (sN (sq (Rg (kx (faO h226 o231 rfl) (kx (ldO rfl o231 rfl rfl rfl) (kx (bEql rfl rfl) (Rn (hV (.int .i64 a3) h222 (hV (.lsl i1_1 s1_3.length 0 s1_3.length) h223 (hV (.int .i64 s1_1) h224 (hV (.sl none (a2.map Deal.c)) h227 (hV (.int .i64 (a2.length : Int)) h228 (hV (.int .i64 s1_2) h229 (hN rfl hZ))))))) fun e283 h285 h286 h287 h288 h289 h290 h291 => sN ?_))))))))
  clear h222 h223 h224 h225 h226 h227 h228 h229 h230
  rcases ite_some h with ⟨hb292, h⟩ | ⟨hb292, h⟩
  ·refine cT h291 hb292 (Rg (kx (mvO h287) (kx (bAdd rfl rfl) (kx (mvO rfl) (Rn (hA h285 (hA h286 (hN rfl (hA h288 (hA h289 (hA h290 hZ)))))) fun e293 h295 h296 h297 h298 h299 h300 => bN (sN (Rg (kx (bAdd h300 rfl) (kx (mvO rfl) (Rn (hA h295 (hA h296 (hA h297 (hA h298 (hA h299 (hN rfl hZ)))))) fun e301 h303 h304 h305 h306 h307 h308 => ?_))))))))))
   clear h285 h286 h288 h289 h290 h291 h295 h296 h297 h298 h299
   obtain rfl := si h
   exact qN ⟨h303, h304, h305, h306, h307, h308, o232⟩
  refine cF h291 hb292 (xx (bN (sN (Rg (kx (bAdd h290 rfl) (kx (mvO rfl) (Rn (hA h285 (hA h286 (hA h287 (hA h288 (hA h289 (hN rfl hZ)))))) fun e309 h311 h312 h313 h314 h315 h316 => ?_)))))))
  clear h285 h286 h287 h288 h289 h291
  obtain rfl := si h
  exact qN ⟨h311, h312, h313, h314, h315, h316, o232⟩
 refine cF h136 hb137 (xx (sE ?_))
 obtain rfl := si h
 exact qE ⟨rfl, h131, o127⟩
def impl_history_c5_Q (a1 : Book) (a2 : List Deal) (a3 : Int) (i905_1 : Nat) (g : Bool) (q : Out) : Prop := q.1 = .nrm ∧ eget q.2.1 1 = .sl none (a2.map Deal.c) ∧ eget q.2.1 2 = .int .i64 a3 ∧ eget q.2.1 3 = .pt none [.int .i64 a1.Day, .sl none (a1.Cash.map (cI .i64)), .sl none (a1.Tallies.map Tally.c)] ∧ eget q.2.1 38 = .bool g
def impl_history_c8_Q (a2 : List Deal) (a3 : Int) (s2_1 : Int) (s2_2 : Int) (s2_3 : List Int) (x443 : Deal) (i2_1 : Nat) (i908_2 : Nat) (g : Bool) (q : Out) : Prop := q.1 = .nrm ∧ eget q.2.1 2 = .int .i64 a3 ∧ eget q.2.1 11 = .lsl i2_1 s2_3.length 0 s2_3.length ∧ eget q.2.1 12 = .int .i64 s2_1 ∧ eget q.2.1 13 = .int .i64 s2_2 ∧ eget q.2.1 14 = .loc i908_2 1 0 0 ∧ eget q.2.1 43 = .sl none (a2.map Deal.c) ∧ eget q.2.1 44 = .int .i64 (a2.length : Int) ∧ eget q.2.1 45 = .int .i64 s2_2 ∧ eget q.2.1 68 = .bool g ∧ q.2.2[i2_1]? = some (.live ⟨.grow, 2, 1, s2_3.map (cI .i64)⟩) ∧ q.2.2[i908_2]? = some (.live ⟨.box, 114, 6, [[.int .i64 x443.Day, .int .i8 x443.Kind, .int .i64 x443.Tally, .int .i64 x443.From, .int .i64 x443.To, .int .i64 x443.Amount]]⟩)
abbrev impl_history_b2_S := Int × Int × (List Int)
abbrev impl_history_b2_R := (List Int)
def impl_history_b2_RS (a2 : List Deal) (a3 : Int) (i2_1 : Nat) (s : impl_history_b2_S) (e : Env) (M : Mem) : Prop := eget e 2 = .int .i64 a3 ∧ eget e 11 = .lsl i2_1 s.2.2.length 0 s.2.2.length ∧ eget e 12 = .int .i64 s.1 ∧ eget e 43 = .sl none (a2.map Deal.c) ∧ eget e 44 = .int .i64 (a2.length : Int) ∧ eget e 45 = .int .i64 s.2.1 ∧ M[i2_1]? = some (.live ⟨.grow, 2, 1, s.2.2.map (cI .i64)⟩)
def impl_history_b2_RR (a2 : List Deal) (a3 : Int) (i2_1 : Nat) (g : impl_history_b2_R) (x : Ex) (e : Env) (M : Mem) : Prop := x = .ext 0 ∧ eget e 11 = .lsl i2_1 g.length 0 g.length ∧ M[i2_1]? = some (.live ⟨.grow, 2, 1, g.map (cI .i64)⟩)
noncomputable def impl_history_b2 (a2 : List Deal) (a3 : Int) : impl_history_b2_S → Option (impl_history_b2_S ⊕ impl_history_b2_R) := fun (s2_1, s2_2, s2_3) =>
 if (decide (s2_2 < (a2.length : Int))) = true then
  (rd a2 s2_2).bind fun x443 =>
  (if (x443.Kind == 1) = true then
   if (s2_1 == a3) = true then
    some true
   else
    if (x443.Kind != 1) = true then
     some (x443.Tally == a3)
    else
     some false
  else
   if (x443.Kind != 1) = true then
    some (x443.Tally == a3)
   else
    some false).bind fun y526 =>
  if y526 = true then
   (app 8 s2_3 [s2_2]).bind fun x539 =>
   if (x443.Kind == 1) = true then
    some (.inl ((IntKind.i64.wrap (s2_1 + 1)), (IntKind.i64.wrap (s2_2 + 1)), x539))
   else
    some (.inl (s2_1, (IntKind.i64.wrap (s2_2 + 1)), x539))
  else
   if (x443.Kind == 1) = true then
    some (.inl ((IntKind.i64.wrap (s2_1 + 1)), (IntKind.i64.wrap (s2_2 + 1)), s2_3))
   else
    some (.inl (s2_1, (IntKind.i64.wrap (s2_2 + 1)), s2_3))
 else
  some (.inr s2_3)
theorem impl_history_b2_ok (a2 : List Deal) (a3 : Int) (i2_1 : Nat) (s : impl_history_b2_S) (r : impl_history_b2_S ⊕ impl_history_b2_R) (h : impl_history_b2 a2 a3 s = some r) (e : Env) (M : Mem) (hs : impl_history_b2_RS a2 a3 i2_1 s e M) : Ev (fun k => (f62_l11 (CN k) k (prune [2, 11, 12, 43, 44, 45] e) M).bind fun q => some q) (bQ (impl_history_b2_RS a2 a3 i2_1) (impl_history_b2_RR a2 a3 i2_1) r) := by
 obtain ⟨s2_1, s2_2, s2_3⟩ := s
 unfold impl_history_b2 at h
 obtain ⟨h420, h422, h424, h426, h428, h430, o432⟩ := hs
 generalize he419 : prune [2, 11, 12, 43, 44, 45] e = e418
 have h421 := envp he419.symm rfl h420
 have h423 := envp he419.symm rfl h422
 have h425 := envp he419.symm rfl h424
 have h427 := envp he419.symm rfl h426
 have h429 := envp he419.symm rfl h428
 have h431 := envp he419.symm rfl h430
 refine sq (Rg (kx (bLss h431 h429) (Rn (hV (.int .i64 a3) h421 (hV (.lsl i2_1 s2_3.length 0 s2_3.length) h423 (hV (.int .i64 s2_1) h425 (hV (.sl none (a2.map Deal.c)) h427 (hV (.int .i64 (a2.length : Int)) h429 (hV (.int .i64 s2_2) h431 (hN rfl hZ))))))) fun e433 h435 h436 h437 h438 h439 h440 h441 => sN (sq ?_))))
 clear h421 h423 h425 h427 h429 h431
 rcases ite_some h with ⟨hb442, h⟩ | ⟨hb442, h⟩
 ·obtain ⟨x443, hx444, h⟩ := bind_some h
  refine cT h441 hb442 (xx (sN (sq (bl (sq (Rg (kx (mvO h440) (kx (ixS h438 h440 hx444 Deal.fl) (kx (ldPA rfl rfl rfl) (ku (alO zero114) fun M446 hM447 => ?_))))))))))
  have o448 := push_old hM447 o432
  have ne449 := ne_new o432
  have o450 : M446[M.length]? = some (.live ⟨.box, 114, 6, [[.int .i64 0, .int .i8 0, .int .i64 0, .int .i64 0, .int .i64 0, .int .i64 0]]⟩) := push_new hM447
  refine kx (mvO rfl) (kw (stO rfl rfl o450 rfl rfl ⟨rfl, ble rfl⟩ rfl rfl) fun M451 hM452 => ?_)
  have o453 := set_ne hM452 ne449 o448
  have o454 : M451[M.length]? = some (.live ⟨.box, 114, 6, [[.int .i64 x443.Day, .int .i8 x443.Kind, .int .i64 x443.Tally, .int .i64 x443.From, .int .i64 x443.To, .int .i64 x443.Amount]]⟩) := set_same hM452 o450
  obtain ⟨r623, hr624, h⟩ := bind_some h
  refine Rn (hA h435 (hA h436 (hA h437 (hN rfl (hV (.loc M.length 1 0 0) rfl (hA h438 (hA h439 (hA h440 hZ)))))))) fun e455 h457 h458 h459 h460 h461 h462 h463 h464 => sN (sq (sq ?_))
  clear h435 h436 h437 h438 h439 h440 h441
  refine Ev.cut (Q1 := impl_history_c8_Q a2 a3 s2_1 s2_2 s2_3 x443 i2_1 M.length r623) (by
      have h := hr624
      refine Rg (kx (faO h461 o454 rfl) (kx (ldO rfl o454 rfl rfl rfl) (kx (bEql rfl rfl) (kx (mvO rfl) ?_))))
      rcases ite_some h with ⟨hb465, h⟩ | ⟨hb465, h⟩
      ·refine kx (guT rfl hb465 (mvO h459)) (kx (guT rfl hb465 (mvO h457)) (kx (guT rfl hb465 (bEql rfl rfl)) (kx (pkT rfl hb465 rfl) (kx (mvO rfl) ?_))))
       rcases ite_some h with ⟨hb466, h⟩ | ⟨hb466, h⟩
       ·refine kx (gsF rfl hb466) (kx (gsF rfl hb466) (kx (gsF rfl hb466) (kx (gsF rfl hb466) (kx (gsU rfl) (kx (gsU rfl) (kx (gsU rfl) (kx (gsU rfl) (kx (gsF rfl hb466) (kx (pkT rfl hb466 rfl) (Rn (hA h457 (hA h458 (hA h459 (hA h460 (hA h461 (hA h462 (hA h463 (hA h464 (hV (.bool true) rfl hZ))))))))) fun e467 h469 h470 h471 h472 h473 h474 h475 h476 h477 => ?_))))))))))
        clear h457 h458 h459 h460 h461 h462 h463 h464
        obtain rfl := si h
        exact kd (show impl_history_c8_Q a2 a3 s2_1 s2_2 s2_3 x443 i2_1 M.length _ _ from ⟨rfl, h469, h470, h471, h472, h473, h474, h475, h476, h477, o453, o454⟩)
       refine kx (guF rfl hb466 (faO h461 o454 rfl)) (kx (guF rfl hb466 (ldO rfl o454 rfl rfl rfl)) (kx (guF rfl hb466 (bNeq rfl rfl)) (kx (guF rfl hb466 (mvO rfl)) ?_)))
       rcases ite_some h with ⟨hb478, h⟩ | ⟨hb478, h⟩
       ·refine kx (guT rfl hb478 (faO h461 o454 rfl)) (kx (guT rfl hb478 (ldO rfl o454 rfl rfl rfl)) (kx (guT rfl hb478 (mvO h457)) (kx (guT rfl hb478 (bEql rfl rfl)) (kx (guF rfl hb466 (pkT rfl hb478 rfl)) (kx (pkF rfl hb466 rfl) (Rn (hA h457 (hA h458 (hA h459 (hA h460 (hA h461 (hA h462 (hA h463 (hA h464 (hN rfl hZ))))))))) fun e479 h481 h482 h483 h484 h485 h486 h487 h488 h489 => ?_))))))
        clear h457 h458 h459 h460 h461 h462 h463 h464
        obtain rfl := si h
        exact kd (show impl_history_c8_Q a2 a3 s2_1 s2_2 s2_3 x443 i2_1 M.length _ _ from ⟨rfl, h481, h482, h483, h484, h485, h486, h487, h488, h489, o453, o454⟩)
       refine kx (gsT rfl hb478) (kx (gsT rfl hb478) (kx (gsT rfl hb478) (kx (gsT rfl hb478) (kx (guF rfl hb466 (pkF rfl hb478 rfl)) (kx (pkF rfl hb466 rfl) (Rn (hA h457 (hA h458 (hA h459 (hA h460 (hA h461 (hA h462 (hA h463 (hA h464 (hV (.bool false) rfl hZ))))))))) fun e490 h492 h493 h494 h495 h496 h497 h498 h499 h500 => ?_))))))
       clear h457 h458 h459 h460 h461 h462 h463 h464
       obtain rfl := si h
       exact kd (show impl_history_c8_Q a2 a3 s2_1 s2_2 s2_3 x443 i2_1 M.length _ _ from ⟨rfl, h492, h493, h494, h495, h496, h497, h498, h499, h500, o453, o454⟩)
      refine kx (gsT rfl hb465) (kx (gsT rfl hb465) (kx (gsT rfl hb465) (kx (pkF rfl hb465 rfl) (kx (mvO rfl) (kx (guF rfl rfl (faO h461 o454 rfl)) (kx (guF rfl rfl (ldO rfl o454 rfl rfl rfl)) (kx (guF rfl rfl (bNeq rfl rfl)) (kx (guF rfl rfl (mvO rfl)) ?_))))))))
      rcases ite_some h with ⟨hb501, h⟩ | ⟨hb501, h⟩
      ·refine kx (guT rfl hb501 (faO h461 o454 rfl)) (kx (guT rfl hb501 (ldO rfl o454 rfl rfl rfl)) (kx (guT rfl hb501 (mvO h457)) (kx (guT rfl hb501 (bEql rfl rfl)) (kx (guF rfl rfl (pkT rfl hb501 rfl)) (kx (pkF rfl rfl rfl) (Rn (hA h457 (hA h458 (hA h459 (hA h460 (hA h461 (hA h462 (hA h463 (hA h464 (hN rfl hZ))))))))) fun e502 h504 h505 h506 h507 h508 h509 h510 h511 h512 => ?_))))))
       clear h457 h458 h459 h460 h461 h462 h463 h464
       obtain rfl := si h
       exact kd (show impl_history_c8_Q a2 a3 s2_1 s2_2 s2_3 x443 i2_1 M.length _ _ from ⟨rfl, h504, h505, h506, h507, h508, h509, h510, h511, h512, o453, o454⟩)
      refine kx (gsT rfl hb501) (kx (gsT rfl hb501) (kx (gsT rfl hb501) (kx (gsT rfl hb501) (kx (guF rfl rfl (pkF rfl hb501 rfl)) (kx (pkF rfl rfl rfl) (Rn (hA h457 (hA h458 (hA h459 (hA h460 (hA h461 (hA h462 (hA h463 (hA h464 (hV (.bool false) rfl hZ))))))))) fun e513 h515 h516 h517 h518 h519 h520 h521 h522 h523 => ?_))))))
      clear h457 h458 h459 h460 h461 h462 h463 h464
      obtain rfl := si h
      exact kd (show impl_history_c8_Q a2 a3 s2_1 s2_2 s2_3 x443 i2_1 M.length _ _ from ⟨rfl, h515, h516, h517, h518, h519, h520, h521, h522, h523, o453, o454⟩)) ?_
  revert h hr624
  revert r623
  intro y526 hr624 h
  intro x e524 M525 hq622
  obtain ⟨rfl, h527, h528, h529, h530, h531, h532, h533, h534, h535, o536, o537⟩ := hq622
  refine sN ?_
  rcases ite_some h with ⟨hb538, h⟩ | ⟨hb538, h⟩
  ·obtain ⟨x539, hx540, h⟩ := bind_some h
   refine cT h535 hb538 (Rg (kx (mvO h528) (kx (mvO h530) (kx (litI (cns rfl rfl) rfl ⟨rfl, by decide⟩) (kw (apO rfl o536 rfl (elT (c := (cI .i64)) (xs := [s2_2]) rfl) hx540 (cI_fl _) (by decide)) fun M541 hM542 => ?_)))))
   have o543 : M541[i2_1]? = some (.live ⟨.grow, 2, 1, x539.map (cI .i64)⟩) := set_same hM542 o536
   have o544 := set_ne hM542 (Ne.symm ne449) o537
   refine kx (mvO rfl) (Rn (hV (.int .i64 a3) h527 (hV (.lsl i2_1 x539.length 0 x539.length) rfl (hV (.int .i64 s2_1) h529 (hV (.loc M.length 1 0 0) h531 (hV (.sl none (a2.map Deal.c)) h532 (hV (.int .i64 (a2.length : Int)) h533 (hV (.int .i64 s2_2) h534 hZ))))))) fun e545 h547 h548 h549 h550 h551 h552 h553 => sN (sq (Rg (kx (faO h550 o544 rfl) (kx (ldO rfl o544 rfl rfl rfl) (kx (bEql rfl rfl) (Rn (hA h547 (hA h548 (hA h549 (hA h551 (hA h552 (hA h553 (hN rfl hZ))))))) fun e554 h556 h557 h558 h559 h560 h561 h562 => sN ?_)))))))
   clear h527 h529 h530 h531 h532 h533 h534 h535 h547 h548 h549 h550 h551 h552 h553
   rcases ite_some h with ⟨hb563, h⟩ | ⟨hb563, h⟩
   ·refine cT h562 hb563 (Rg (kx (mvO h558) (kx (bAdd rfl rfl) (kx (mvO rfl) (Rn (hA h556 (hA h557 (hN rfl (hA h559 (hA h560 (hA h561 hZ)))))) fun e564 h566 h567 h568 h569 h570 h571 => bN (sN (Rg (kx (bAdd h571 rfl) (kx (mvO rfl) (Rn (hA h566 (hA h567 (hA h568 (hA h569 (hA h570 (hN rfl hZ)))))) fun e572 h574 h575 h576 h577 h578 h579 => ?_))))))))))
    clear h556 h557 h559 h560 h561 h562 h566 h567 h568 h569 h570
    obtain rfl := si h
    exact qN ⟨h574, h575, h576, h577, h578, h579, o543⟩
   refine cF h562 hb563 (xx (bN (sN (Rg (kx (bAdd h561 rfl) (kx (mvO rfl) (Rn (hA h556 (hA h557 (hA h558 (hA h559 (hA h560 (hN rfl hZ)))))) fun e580 h582 h583 h584 h585 h586 h587 => ?_)))))))
   clear h556 h557 h558 h559 h560 h562
   obtain rfl := si h
   exact qN ⟨h582, h583, h584, h585, h586, h587, o543⟩
  refine cF h535 hb538 (xx (sN (sq (Rg (kx (faO h531 o537 rfl) (kx (ldO rfl o537 rfl rfl rfl) (kx (bEql rfl rfl) (Rn (hV (.int .i64 a3) h527 (hV (.lsl i2_1 s2_3.length 0 s2_3.length) h528 (hV (.int .i64 s2_1) h529 (hV (.sl none (a2.map Deal.c)) h532 (hV (.int .i64 (a2.length : Int)) h533 (hV (.int .i64 s2_2) h534 (hN rfl hZ))))))) fun e588 h590 h591 h592 h593 h594 h595 h596 => sN ?_))))))))
  clear h527 h528 h529 h530 h531 h532 h533 h534 h535
  rcases ite_some h with ⟨hb597, h⟩ | ⟨hb597, h⟩
  ·refine cT h596 hb597 (Rg (kx (mvO h592) (kx (bAdd rfl rfl) (kx (mvO rfl) (Rn (hA h590 (hA h591 (hN rfl (hA h593 (hA h594 (hA h595 hZ)))))) fun e598 h600 h601 h602 h603 h604 h605 => bN (sN (Rg (kx (bAdd h605 rfl) (kx (mvO rfl) (Rn (hA h600 (hA h601 (hA h602 (hA h603 (hA h604 (hN rfl hZ)))))) fun e606 h608 h609 h610 h611 h612 h613 => ?_))))))))))
   clear h590 h591 h593 h594 h595 h596 h600 h601 h602 h603 h604
   obtain rfl := si h
   exact qN ⟨h608, h609, h610, h611, h612, h613, o536⟩
  refine cF h596 hb597 (xx (bN (sN (Rg (kx (bAdd h595 rfl) (kx (mvO rfl) (Rn (hA h590 (hA h591 (hA h592 (hA h593 (hA h594 (hN rfl hZ)))))) fun e614 h616 h617 h618 h619 h620 h621 => ?_)))))))
  clear h590 h591 h592 h593 h594 h596
  obtain rfl := si h
  exact qN ⟨h616, h617, h618, h619, h620, h621, o536⟩
 refine cF h441 hb442 (xx (sE ?_))
 obtain rfl := si h
 exact qE ⟨rfl, h436, o432⟩
noncomputable def impl_history (a1 : Book) (a2 : List Deal) (a3 : Int) : Option (Int ⊕ ((List Int))) :=
 (impl_dealsCode a1 a2).bind fun r7 =>
 if (r7 != 0) = true then
  some (.inl r7)
 else
  (impl_behind a1 a2).bind fun r => match r with
  | (.inl r27) =>
   if (r27 != 0) = true then
    some (.inl r27)
   else
    (if (decide (a3 < 0)) = true then
     some true
    else
     some (decide (a3 ≥ 0))).bind fun y70 =>
    if y70 = true then
     some (.inl 6)
    else
     (Lw (impl_history_b1 a2 a3) ((a1.Tallies.length : Int), 0, ([] : List Int))).bind fun y325 =>
     some (.inr y325)
  | (.inr (r335, r336, r337)) =>
   (if (decide (a3 < 0)) = true then
    some true
   else
    some (decide (a3 ≥ (r337.length : Int)))).bind fun y375 =>
   if y375 = true then
    some (.inl 6)
   else
    (Lw (impl_history_b2 a2 a3) ((a1.Tallies.length : Int), 0, ([] : List Int))).bind fun y630 =>
    some (.inr y630)
def impl_history_enc (r : Int ⊕ ((List Int))) : AV :=
  match r with
  | (.inl g) => .tup [.nils, .int .i64 g]
  | (.inr g) => .tup [.sl (some 2) (g.map (cI .i64)), .int .i64 0]
theorem impl_history_ok (a1 : Book) (a2 : List Deal) (a3 : Int) (r : Int ⊕ ((List Int))) (h : impl_history a1 a2 a3 = some r) : Ev (fun k => CN k 62 [.agg [.int .i64 a1.Day, .sl none (a1.Cash.map (cI .i64)), .sl none (a1.Tallies.map Tally.c)], .sl none (a2.map Deal.c), .int .i64 a3] []) (fun p => rRes p.2 p.1 = impl_history_enc r) := by
 unfold impl_history at h
 obtain ⟨r7, hx6, h⟩ := bind_some h
 refine Ev.enter (F := fun k => f62 (CN k) k) (fun k => callN_eq rfl Try.func62 rfl rfl rfl (by decide +kernel) (f62_eq _ _)) (sq (Rg (kx (bxI rfl rfl ⟨rfl, rfl, by decide⟩) (kx (mvO rfl) (kx (mvO rfl) (Rn (hN rfl (hN rfl (hN rfl hZ))) fun e1 h3 h4 h5 => sN (sq (sq (Rg (kx (ldPA h5 rfl rfl) (kx (mvO h3) (kc (cl (v := .int .i64 r7) rfl (cns rfl (cns rfl rfl)) rfl (impl_dealsCode_ok a1 a2 _ hx6) nm) (kx (mvO rfl) (Rn (hA h3 (hA h4 (hA h5 (hN rfl hZ)))) fun e8 h10 h11 h12 h13 => sN (sq (Rg (kx (mvO h13) (kx (bNeq rfl rfl) (Rn (hA h10 (hA h11 (hA h12 (hA h13 (hN rfl hZ))))) fun e14 h16 h17 h18 h19 h20 => sN ?_)))))))))))))))))))
 clear h3 h4 h5 h10 h11 h12 h13
 rcases ite_some h with ⟨hb21, h⟩ | ⟨hb21, h⟩
 ·refine cT h20 hb21 (sq (Rg (kx (mvO h19) (kx (mvO rfl) (kx (mvO rfl) (Rn (hV .nils rfl (hN rfl hZ)) fun e22 h24 h25 => sN (xx (sR ?_))))))))
  clear h16 h17 h18 h19 h20
  obtain rfl := si h
  exact eR (resT h24 (resT h25 res0)) rfl
 obtain ⟨q640, hx26, h⟩ := bind_some h
 refine cF h20 hb21 (xx (sN (sq (Rg (kx (ldPA h18 rfl rfl) (kx (mvO h16) ?_))))))
 rcases q640 with r27 | ⟨r335, r336, r337⟩
 ·refine kc (cl (v := .tup [.agg [.int .i64 0, .nils, .nils], .int .i64 r27]) rfl (cns rfl (cns rfl rfl)) rfl (impl_behind_ok a1 a2 _ hx26) nm) (kx (mvO rfl) (kx (exT rfl rfl) (kx (exT rfl rfl) (ku (alO zero50) fun M29 hM30 => ?_))))
  have o31 : M29[([] : Mem).length]? = some (.live ⟨.box, 50, 3, [[.int .i64 0, .nils, .nils]]⟩) := push_new hM30
  refine kw (stO rfl rfl o31 rfl rfl ⟨rfl, ble rfl⟩ rfl rfl) fun M32 hM33 => ?_
  have o34 : M32[([] : Mem).length]? = some (.live ⟨.box, 50, 3, [[.int .i64 0, .nils, .nils]]⟩) := set_same hM33 o31
  refine kx (mvO rfl) (Rn (hA h16 (hA h17 (hA h18 (hV (.loc ([] : Mem).length 1 0 0) rfl (hN rfl hZ))))) fun e35 h37 h38 h39 h40 h41 => sN (sq (sq (Rg (kx (mvO h41) (kx (bNeq rfl rfl) (Rn (hA h37 (hA h38 (hA h39 (hA h40 (hA h41 (hN rfl hZ)))))) fun e42 h44 h45 h46 h47 h48 h49 => sN ?_)))))))
  clear h16 h17 h18 h19 h20 h37 h38 h39 h40 h41
  rcases ite_some h with ⟨hb50, h⟩ | ⟨hb50, h⟩
  ·refine cT h49 hb50 (sq (Rg (kx (mvO h48) (kx (mvO rfl) (kx (mvO rfl) (Rn (hV .nils rfl (hN rfl hZ)) fun e51 h53 h54 => sN (xx (sR ?_))))))))
   clear h44 h45 h46 h47 h48 h49
   obtain rfl := si h
   exact eR (resT h53 (resT h54 res0)) rfl
  obtain ⟨r333, hr334, h⟩ := bind_some h
  refine cF h49 hb50 (xx (sN (sq (sq ?_))))
  refine Ev.cut (Q1 := impl_history_c1_Q a1 a2 a3 (([] : Mem).length) r333) (by
      have h := hr334
      refine Rg (kx (mvO h45) (kx (bLss rfl rfl) (kx (mvO rfl) ?_)))
      rcases ite_some h with ⟨hb55, h⟩ | ⟨hb55, h⟩
      ·refine kx (gsF rfl hb55) (kx (gsF rfl hb55) (kx (gsF rfl hb55) (kx (gsF rfl hb55) (kx (gsF rfl hb55) (kx (pkT rfl hb55 rfl) (Rn (hA h44 (hA h45 (hA h46 (hV (.bool true) rfl hZ)))) fun e56 h58 h59 h60 h61 => ?_))))))
       clear h44 h45 h46 h47 h48 h49
       obtain rfl := si h
       exact kd (show impl_history_c1_Q a1 a2 a3 (([] : Mem).length) _ _ from ⟨rfl, h58, h59, h60, h61⟩)
      refine kx (guF rfl hb55 (mvO h45)) (kx (guF rfl hb55 (faO h47 o34 rfl)) (kx (guF rfl hb55 (ldO rfl o34 rfl rfl rfl)) (kx (guF rfl hb55 (lnN Try.underlying48 rfl)) (kx (guF rfl hb55 (bGeq rfl rfl)) (kx (pkF rfl hb55 rfl) (Rn (hA h44 (hA h45 (hA h46 (hN rfl hZ)))) fun e62 h64 h65 h66 h67 => ?_))))))
      clear h44 h45 h46 h47 h48 h49
      obtain rfl := si h
      exact kd (show impl_history_c1_Q a1 a2 a3 (([] : Mem).length) _ _ from ⟨rfl, h64, h65, h66, h67⟩)) ?_
  revert h hr334
  revert r333
  intro y70 hr334 h
  intro x e68 M69 hq332
  obtain ⟨rfl, h71, h72, h73, h74⟩ := hq332
  refine sN ?_
  rcases ite_some h with ⟨hb75, h⟩ | ⟨hb75, h⟩
  ·refine cT h74 hb75 (sq (Rg (kx (mvO rfl) (kx (mvO rfl) (Rn (hV .nils rfl (hV (.int .i64 6) rfl hZ)) fun e76 h78 h79 => sN (xx (sR ?_)))))))
   clear h71 h72 h73 h74
   obtain rfl := si h
   exact eR (resT h78 (resT h79 res0)) rfl
  refine cF h74 hb75 (xx (sN (sq (Rd (Ev.nfpushE (litO (xs := ([] : List Int)) (c := (cI .i64)) rfl rfl (by decide)) (kf (faP h73 ⟨ble rfl, blt rfl⟩ rfl) (kf (ldP rfl rfl) (kf (lnS Try.underlying48 rfl) (kf (mvO rfl) (kf (mvO rfl) (Ev.fend1 fun M81 hM82 => ?_)))))))))))
  have hM82 := fendM hM82 [⟨.grow, 2, 1, ([] : List Int).map (cI .i64)⟩] rfl
  have o83 : M81[M69.length]? = some (.live ⟨.grow, 2, 1, ([] : List Int).map (cI .i64)⟩) := push_at hM82 0 rfl
  obtain ⟨y325, hr321, h⟩ := bind_some h
  refine Rn (hV (.sl none (a2.map Deal.c)) h71 (hV (.int .i64 a3) h72 (hV (.lsl M69.length ([] : List Int).length 0 ([] : List Int).length) rfl (hN rfl hZ)))) fun e84 h86 h87 h88 h89 => sN (sq (sq (Rg (kx (mvO h86) (kx (lnS Try.underlying52 rfl) (kx (mvO rfl) (Rn (hA h87 (hA h88 (hA h89 (hN rfl (hN rfl (hV (.int .i64 0) rfl hZ)))))) fun e90 h92 h93 h94 h95 h96 h97 => sN (bl (Ev.loop (RS := impl_history_b1_RS a2 a3 M69.length) (RR := impl_history_b1_RR a2 a3 M69.length) (fun s r h e M hs => impl_history_b1_ok a2 a3 M69.length s r h e M hs) hr321 ⟨h92, h93, h94, h95, h96, h97, o83⟩ fun x e323 M324 hq322 => ?_)))))))))
  clear h71 h72 h73 h74 h86 h87 h88 h89
  obtain ⟨rfl, h326, o327⟩ := hq322
  refine bE (sN (sq (Rg (kx (mvO h326) (kx (mvO rfl) (kx (mvO rfl) (Rn (hV (.lsl M69.length y325.length 0 y325.length) rfl (hV (.int .i64 0) rfl hZ)) fun e328 h330 h331 => sN (xx ?_))))))))
  clear h326
  obtain rfl := si h
  exact eR (resT h330 (resT h331 res0)) (rr_tup (mp1 (rr_row o327 rfl (cI_fl _)) (mp1 rfl mp0)))
 refine kc (cl (v := .tup [.agg [.int .i64 r335, .sl none (r336.map (cI .i64)), .sl none (r337.map Tally.c)], .int .i64 0]) rfl (cns rfl (cns rfl rfl)) rfl (impl_behind_ok a1 a2 _ hx26) nm) (kx (mvO rfl) (kx (exT rfl rfl) (kx (exT rfl rfl) (ku (alO zero50) fun M339 hM340 => ?_))))
 have o341 : M339[([] : Mem).length]? = some (.live ⟨.box, 50, 3, [[.int .i64 0, .nils, .nils]]⟩) := push_new hM340
 refine kw (stO rfl rfl o341 rfl rfl ⟨rfl, ble rfl⟩ rfl rfl) fun M342 hM343 => ?_
 have o344 : M342[([] : Mem).length]? = some (.live ⟨.box, 50, 3, [[.int .i64 r335, .sl none (r336.map (cI .i64)), .sl none (r337.map Tally.c)]]⟩) := set_same hM343 o341
 obtain ⟨r638, hr639, h⟩ := bind_some h
 refine kx (mvO rfl) (Rn (hA h16 (hA h17 (hA h18 (hV (.loc ([] : Mem).length 1 0 0) rfl (hV (.int .i64 0) rfl hZ))))) fun e345 h347 h348 h349 h350 h351 => sN (sq (sq (Rg (kx (mvO h351) (kx (bNeq rfl rfl) (Rn (hA h347 (hA h348 (hA h349 (hA h350 (hA h351 (hV (.bool false) rfl hZ)))))) fun e352 h354 h355 h356 h357 h358 h359 => sN (cF h359 rfl (xx (sN (sq (sq ?_))))))))))))
 clear h16 h17 h18 h19 h20 h347 h348 h349 h350 h351
 refine Ev.cut (Q1 := impl_history_c5_Q a1 a2 a3 (([] : Mem).length) r638) (by
     have h := hr639
     refine Rg (kx (mvO h355) (kx (bLss rfl rfl) (kx (mvO rfl) ?_)))
     rcases ite_some h with ⟨hb360, h⟩ | ⟨hb360, h⟩
     ·refine kx (gsF rfl hb360) (kx (gsF rfl hb360) (kx (gsF rfl hb360) (kx (gsF rfl hb360) (kx (gsF rfl hb360) (kx (pkT rfl hb360 rfl) (Rn (hA h354 (hA h355 (hA h356 (hV (.bool true) rfl hZ)))) fun e361 h363 h364 h365 h366 => ?_))))))
      clear h354 h355 h356 h357 h358 h359
      obtain rfl := si h
      exact kd (show impl_history_c5_Q a1 a2 a3 (([] : Mem).length) _ _ from ⟨rfl, h363, h364, h365, h366⟩)
     refine kx (guF rfl hb360 (mvO h355)) (kx (guF rfl hb360 (faO h357 o344 rfl)) (kx (guF rfl hb360 (ldO rfl o344 rfl rfl rfl)) (kx (guF rfl hb360 (lnS Try.underlying48 rfl)) (kx (guF rfl hb360 (bGeq rfl rfl)) (kx (pkF rfl hb360 rfl) (Rn (hA h354 (hA h355 (hA h356 (hN rfl hZ)))) fun e367 h369 h370 h371 h372 => ?_))))))
     clear h354 h355 h356 h357 h358 h359
     obtain rfl := si h
     exact kd (show impl_history_c5_Q a1 a2 a3 (([] : Mem).length) _ _ from ⟨rfl, h369, h370, h371, h372⟩)) ?_
 revert h hr639
 revert r638
 intro y375 hr639 h
 intro x e373 M374 hq637
 obtain ⟨rfl, h376, h377, h378, h379⟩ := hq637
 refine sN ?_
 rcases ite_some h with ⟨hb380, h⟩ | ⟨hb380, h⟩
 ·refine cT h379 hb380 (sq (Rg (kx (mvO rfl) (kx (mvO rfl) (Rn (hV .nils rfl (hV (.int .i64 6) rfl hZ)) fun e381 h383 h384 => sN (xx (sR ?_)))))))
  clear h376 h377 h378 h379
  obtain rfl := si h
  exact eR (resT h383 (resT h384 res0)) rfl
 refine cF h379 hb380 (xx (sN (sq (Rd (Ev.nfpushE (litO (xs := ([] : List Int)) (c := (cI .i64)) rfl rfl (by decide)) (kf (faP h378 ⟨ble rfl, blt rfl⟩ rfl) (kf (ldP rfl rfl) (kf (lnS Try.underlying48 rfl) (kf (mvO rfl) (kf (mvO rfl) (Ev.fend1 fun M386 hM387 => ?_)))))))))))
 have hM387 := fendM hM387 [⟨.grow, 2, 1, ([] : List Int).map (cI .i64)⟩] rfl
 have o388 : M386[M374.length]? = some (.live ⟨.grow, 2, 1, ([] : List Int).map (cI .i64)⟩) := push_at hM387 0 rfl
 obtain ⟨y630, hr626, h⟩ := bind_some h
 refine Rn (hV (.sl none (a2.map Deal.c)) h376 (hV (.int .i64 a3) h377 (hV (.lsl M374.length ([] : List Int).length 0 ([] : List Int).length) rfl (hN rfl hZ)))) fun e389 h391 h392 h393 h394 => sN (sq (sq (Rg (kx (mvO h391) (kx (lnS Try.underlying52 rfl) (kx (mvO rfl) (Rn (hA h392 (hA h393 (hA h394 (hN rfl (hN rfl (hV (.int .i64 0) rfl hZ)))))) fun e395 h397 h398 h399 h400 h401 h402 => sN (bl (Ev.loop (RS := impl_history_b2_RS a2 a3 M374.length) (RR := impl_history_b2_RR a2 a3 M374.length) (fun s r h e M hs => impl_history_b2_ok a2 a3 M374.length s r h e M hs) hr626 ⟨h397, h398, h399, h400, h401, h402, o388⟩ fun x e628 M629 hq627 => ?_)))))))))
 clear h376 h377 h378 h379 h391 h392 h393 h394
 obtain ⟨rfl, h631, o632⟩ := hq627
 refine bE (sN (sq (Rg (kx (mvO h631) (kx (mvO rfl) (kx (mvO rfl) (Rn (hV (.lsl M374.length y630.length 0 y630.length) rfl (hV (.int .i64 0) rfl hZ)) fun e633 h635 h636 => sN (xx ?_))))))))
 clear h631
 obtain rfl := si h
 exact eR (resT h635 (resT h636 res0)) (rr_tup (mp1 (rr_row o632 rfl (cI_fl _)) (mp1 rfl mp0)))
/-! ### loop.example/g01263/laws.toDeal (f61) -/
noncomputable def laws_toDeal (a1 : Deal) : Option (Int × Int × Int × Int × Int × Int) :=
 some (a1.Day, a1.Kind, a1.Tally, a1.From, a1.To, a1.Amount)
def laws_toDeal_enc (r : Int × Int × Int × Int × Int × Int) : AV := .agg [.int .i64 r.1, .int .i8 r.2.1, .int .i64 r.2.2.1, .int .i64 r.2.2.2.1, .int .i64 r.2.2.2.2.1, .int .i64 r.2.2.2.2.2]
theorem laws_toDeal_ok (a1 : Deal) (r : Int × Int × Int × Int × Int × Int) (h : laws_toDeal a1 = some r) : Ev (fun k => CN k 61 [.agg [.int .i64 a1.Day, .int .i8 a1.Kind, .int .i64 a1.Tally, .int .i64 a1.From, .int .i64 a1.To, .int .i64 a1.Amount]] []) (fun p => rRes p.2 p.1 = laws_toDeal_enc r) := by
 unfold laws_toDeal at h
 refine Ev.enter (F := fun k => f61 (CN k) k) (fun k => callN_eq rfl Try.func61 rfl rfl rfl (by decide +kernel) (f61_eq _ _)) (sq (Rg (kx (bxI rfl rfl ⟨rfl, rfl, by decide⟩) (ku (alO zero114) fun M2 hM3 => ?_))))
 have o4 : M2[([] : Mem).length]? = some (.live ⟨.box, 114, 6, [[.int .i64 0, .int .i8 0, .int .i64 0, .int .i64 0, .int .i64 0, .int .i64 0]]⟩) := push_new hM3
 refine Rn (hN rfl (hV (.loc ([] : Mem).length 1 0 0) rfl hZ)) fun e5 h7 h8 => sN (sq (Rg (ku (alO zero114) fun M10 hM11 => ?_)))
 have o12 := push_old hM11 o4
 have ne13 := ne_new o4
 have o14 : M10[M2.length]? = some (.live ⟨.box, 114, 6, [[.int .i64 0, .int .i8 0, .int .i64 0, .int .i64 0, .int .i64 0, .int .i64 0]]⟩) := push_new hM11
 refine Rn (hA h7 (hA h8 (hV (.loc M2.length 1 0 0) rfl hZ))) fun e15 h17 h18 h19 => sN (sq (Rg (kx (faP h17 ⟨ble rfl, blt rfl⟩ rfl) (kx (ldP rfl rfl) (kx (faO h19 o14 rfl) (kw (stO rfl rfl o14 rfl rfl ⟨rfl, ble rfl⟩ rfl rfl) fun M20 hM21 => ?_))))))
 clear h7 h8
 have o22 := set_ne hM21 ne13 o12
 have o23 : M20[M2.length]? = some (.live ⟨.box, 114, 6, [[.int .i64 a1.Day, .int .i8 0, .int .i64 0, .int .i64 0, .int .i64 0, .int .i64 0]]⟩) := set_same hM21 o14
 refine Rn (hA h17 (hA h18 (hA h19 hZ))) fun e24 h26 h27 h28 => sN (sq (Rg (kx (faP h26 ⟨ble rfl, blt rfl⟩ rfl) (kx (ldP rfl rfl) (kx (faO h28 o23 rfl) (kw (stO rfl rfl o23 rfl rfl ⟨rfl, ble rfl⟩ rfl rfl) fun M29 hM30 => ?_))))))
 clear h17 h18 h19
 have o31 := set_ne hM30 ne13 o22
 have o32 : M29[M2.length]? = some (.live ⟨.box, 114, 6, [[.int .i64 a1.Day, .int .i8 a1.Kind, .int .i64 0, .int .i64 0, .int .i64 0, .int .i64 0]]⟩) := set_same hM30 o23
 refine Rn (hA h26 (hA h27 (hA h28 hZ))) fun e33 h35 h36 h37 => sN (sq (Rg (kx (faP h35 ⟨ble rfl, blt rfl⟩ rfl) (kx (ldP rfl rfl) (kx (faO h37 o32 rfl) (kw (stO rfl rfl o32 rfl rfl ⟨rfl, ble rfl⟩ rfl rfl) fun M38 hM39 => ?_))))))
 clear h26 h27 h28
 have o40 := set_ne hM39 ne13 o31
 have o41 : M38[M2.length]? = some (.live ⟨.box, 114, 6, [[.int .i64 a1.Day, .int .i8 a1.Kind, .int .i64 a1.Tally, .int .i64 0, .int .i64 0, .int .i64 0]]⟩) := set_same hM39 o32
 refine Rn (hA h35 (hA h36 (hA h37 hZ))) fun e42 h44 h45 h46 => sN (sq (Rg (kx (faP h44 ⟨ble rfl, blt rfl⟩ rfl) (kx (ldP rfl rfl) (kx (faO h46 o41 rfl) (kw (stO rfl rfl o41 rfl rfl ⟨rfl, ble rfl⟩ rfl rfl) fun M47 hM48 => ?_))))))
 clear h35 h36 h37
 have o49 := set_ne hM48 ne13 o40
 have o50 : M47[M2.length]? = some (.live ⟨.box, 114, 6, [[.int .i64 a1.Day, .int .i8 a1.Kind, .int .i64 a1.Tally, .int .i64 a1.From, .int .i64 0, .int .i64 0]]⟩) := set_same hM48 o41
 refine Rn (hA h44 (hA h45 (hA h46 hZ))) fun e51 h53 h54 h55 => sN (sq (Rg (kx (faP h53 ⟨ble rfl, blt rfl⟩ rfl) (kx (ldP rfl rfl) (kx (faO h55 o50 rfl) (kw (stO rfl rfl o50 rfl rfl ⟨rfl, ble rfl⟩ rfl rfl) fun M56 hM57 => ?_))))))
 clear h44 h45 h46
 have o58 := set_ne hM57 ne13 o49
 have o59 : M56[M2.length]? = some (.live ⟨.box, 114, 6, [[.int .i64 a1.Day, .int .i8 a1.Kind, .int .i64 a1.Tally, .int .i64 a1.From, .int .i64 a1.To, .int .i64 0]]⟩) := set_same hM57 o50
 refine Rn (hA h53 (hA h54 (hA h55 hZ))) fun e60 h62 h63 h64 => sN (sq (Rg (kx (faP h62 ⟨ble rfl, blt rfl⟩ rfl) (kx (ldP rfl rfl) (kx (faO h64 o59 rfl) (kw (stO rfl rfl o59 rfl rfl ⟨rfl, ble rfl⟩ rfl rfl) fun M65 hM66 => ?_))))))
 clear h53 h54 h55
 have o67 := set_ne hM66 ne13 o58
 have o68 : M65[M2.length]? = some (.live ⟨.box, 114, 6, [[.int .i64 a1.Day, .int .i8 a1.Kind, .int .i64 a1.Tally, .int .i64 a1.From, .int .i64 a1.To, .int .i64 a1.Amount]]⟩) := set_same hM66 o59
 refine Rn (hA h63 (hA h64 hZ)) fun e69 h71 h72 => sN (sq (Rg (kx (ldOA h72 o68 rfl rfl (ble rfl) rfl) (kw (stO h71 rfl o67 rfl rfl ⟨rfl, ble rfl⟩ rfl rfl) fun M73 hM74 => ?_))))
 clear h62 h63 h64
 have o75 : M73[([] : Mem).length]? = some (.live ⟨.box, 114, 6, [[.int .i64 a1.Day, .int .i8 a1.Kind, .int .i64 a1.Tally, .int .i64 a1.From, .int .i64 a1.To, .int .i64 a1.Amount]]⟩) := set_same hM74 o67
 have o76 := set_ne hM74 (Ne.symm ne13) o68
 refine Rn (hA h71 hZ) fun e77 h79 => sN (xx ?_)
 clear h71 h72
 obtain rfl := si h
 exact eR (resC (ag := true) (sz := 6) ⟨by kernel_rfl, by kernel_rfl, by kernel_rfl⟩ (ldOA h79 o75 rfl rfl (ble rfl) rfl) res0) rfl
/-! ### loop.example/g01263/laws.toTallyS (f60) -/
abbrev laws_toTallyS_b1_S := Int × (List Tally)
abbrev laws_toTallyS_b1_R := (List Tally)
def laws_toTallyS_b1_RS (a1 : List Tally) (x4 : List Tally) (i1_1 : Nat) (s : laws_toTallyS_b1_S) (e : Env) (M : Mem) : Prop := eget e 0 = .sl none (a1.map Tally.c) ∧ eget e 3 = .lsl i1_1 s.2.length 0 s.2.length ∧ eget e 4 = .int .i64 s.1 ∧ M[i1_1]? = some (.live ⟨.grow, 110, 5, s.2.map Tally.c⟩) ∧ s.2.length = x4.length
def laws_toTallyS_b1_RR (a1 : List Tally) (x4 : List Tally) (i1_1 : Nat) (g : laws_toTallyS_b1_R) (x : Ex) (e : Env) (M : Mem) : Prop := x = .ext 0 ∧ eget e 3 = .lsl i1_1 g.length 0 g.length ∧ M[i1_1]? = some (.live ⟨.grow, 110, 5, g.map Tally.c⟩) ∧ g.length = x4.length
noncomputable def laws_toTallyS_b1 (a1 : List Tally) : laws_toTallyS_b1_S → Option (laws_toTallyS_b1_S ⊕ laws_toTallyS_b1_R) := fun (s1_1, s1_2) =>
 if (decide (s1_1 < (a1.length : Int))) = true then
  (rd a1 s1_1).bind fun x45 =>
  (laws_toTally x45).bind fun (r48, r49, r50, r51, r52) =>
  (rd s1_2 s1_1).bind fun x53 =>
  some (.inl ((IntKind.i64.wrap (s1_1 + 1)), (s1_2.set s1_1.toNat (Tally.mk r48 r49 r50 r51 r52))))
 else
  some (.inr s1_2)
theorem laws_toTallyS_b1_ok (a1 : List Tally) (x4 : List Tally) (i1_1 : Nat) (s : laws_toTallyS_b1_S) (r : laws_toTallyS_b1_S ⊕ laws_toTallyS_b1_R) (h : laws_toTallyS_b1 a1 s = some r) (e : Env) (M : Mem) (hs : laws_toTallyS_b1_RS a1 x4 i1_1 s e M) : Ev (fun k => (f60_l3 (CN k) k (prune [0, 3, 4] e) M).bind fun q => some q) (bQ (laws_toTallyS_b1_RS a1 x4 i1_1) (laws_toTallyS_b1_RR a1 x4 i1_1) r) := by
 obtain ⟨s1_1, s1_2⟩ := s
 unfold laws_toTallyS_b1 at h
 obtain ⟨h30, h32, h34, o36, hl37⟩ := hs
 generalize he29 : prune [0, 3, 4] e = e28
 have h31 := envp he29.symm rfl h30
 have h33 := envp he29.symm rfl h32
 have h35 := envp he29.symm rfl h34
 refine sq (sq (Rg (kx (mvO h35) (kx (mvO h31) (kx (lnS Try.underlying40 rfl) (kx (bLss rfl rfl) (Rn (hV (.sl none (a1.map Tally.c)) h31 (hV (.lsl i1_1 s1_2.length 0 s1_2.length) h33 (hV (.int .i64 s1_1) h35 (hN rfl hZ)))) fun e38 h40 h41 h42 h43 => sN ?_)))))))
 clear h31 h33 h35
 rcases ite_some h with ⟨hb44, h⟩ | ⟨hb44, h⟩
 ·obtain ⟨x45, hx46, h⟩ := bind_some h
  obtain ⟨⟨r48, r49, r50, r51, r52⟩, hx47, h⟩ := bind_some h
  obtain ⟨x53, hx54, h⟩ := bind_some h
  refine cT h43 hb44 (xx (sN (sq (bl (Rg (kx (mvO h41) (kx (mvO h42) (kx (mvO h40) (kx (mvO h42) (kx (ixS rfl rfl hx46 Tally.fl) (kx (ldPA rfl rfl rfl) (kc (cl (v := .agg [.int .i64 r48, .int .i64 r49, .int .i64 r50, .int .i64 r51, .int .i64 r52]) rfl (cns rfl rfl) rfl (laws_toTally_ok x45 _ hx47) nm) (kx (ixO rfl o36 rfl rfl (rd_get hx54).1 (rd_lt hx54).2) (kw (stR (u := x53) (u' := (Tally.mk r48 r49 r50 r51 r52)) rfl rfl o36 rfl (rz2 hx54) ⟨rfl, ble rfl⟩ rfl rfl) fun M55 hM56 => ?_))))))))))))))
  rw [Nat.zero_add] at hM56
  have o57 : M55[i1_1]? = some (.live ⟨.grow, 110, 5, (s1_2.set s1_1.toNat (Tally.mk r48 r49 r50 r51 r52)).map Tally.c⟩) := set_same hM56 o36
  have hx58 := rd_set (u' := (Tally.mk r48 r49 r50 r51 r52)) hx54
  refine Rn (hA h40 (hA h41 (hA h42 hZ))) fun e59 h61 h62 h63 => bN (sN (Rg (kx (mvO h63) (kx (bAdd rfl rfl) (kx (mvO rfl) (Rn (hA h61 (hA h62 (hN rfl hZ))) fun e64 h66 h67 h68 => ?_))))))
  clear h40 h41 h42 h43 h61 h62
  obtain rfl := si h
  exact qN ⟨h66, (lslL (L' := (s1_2.set s1_1.toNat (Tally.mk r48 r49 r50 r51 r52)).length) h67 (by simp [hl37])), h68, o57, (by first | rfl | simp [hl37])⟩
 refine cF h43 hb44 (xx (sE ?_))
 obtain rfl := si h
 exact qE ⟨rfl, h41, o36, (by first | rfl | simp [hl37])⟩
noncomputable def laws_toTallyS (a1 : List Tally) : Option ((List Tally)) :=
 (mkS 40 (Tally.mk 0 0 0 0 0) (a1.length : Int)).bind fun x4 =>
 (Lw (laws_toTallyS_b1 a1) (0, x4)).bind fun y74 =>
 some y74
def laws_toTallyS_enc (r : (List Tally)) : AV := .sl (some 110) (r.map Tally.c)
theorem laws_toTallyS_ok (a1 : List Tally) (r : (List Tally)) (h : laws_toTallyS a1 = some r) : Ev (fun k => CN k 60 [.sl none (a1.map Tally.c)] []) (fun p => rRes p.2 p.1 = laws_toTallyS_enc r) := by
 unfold laws_toTallyS at h
 obtain ⟨x4, hx5, h⟩ := bind_some h
 refine Ev.enter (F := fun k => f60 (CN k) k) (fun k => callN_eq rfl Try.func60 rfl rfl rfl (by decide +kernel) (f60_eq _ _)) (sq (Rg (kx (mvO rfl) (Rn (hN rfl hZ) fun e1 h3 => sN (sq (Rg (kx (mvO h3) (kx (lnS Try.underlying40 rfl) (ku (mkO rfl rfl hx5 (c := Tally.c) zero110 Tally.fl (by decide)) fun M7 hM8 => ?_)))))))))
 have o9 : M7[([] : Mem).length]? = some (.live ⟨.grow, 110, 5, x4.map Tally.c⟩) := push_new hM8
 obtain ⟨y74, hr70, h⟩ := bind_some h
 refine kx (mvO rfl) (Rn (hA h3 (hV (.lsl ([] : Mem).length x4.length 0 x4.length) rfl hZ)) fun e10 h12 h13 => sN (sq (sq (Rg (kx (mvO rfl) (Rn (hA h12 (hA h13 (hV (.int .i64 0) rfl hZ))) fun e14 h16 h17 h18 => sN (bl (Ev.loop (RS := laws_toTallyS_b1_RS a1 x4 (([] : Mem).length)) (RR := laws_toTallyS_b1_RR a1 x4 (([] : Mem).length)) (fun s r h e M hs => laws_toTallyS_b1_ok a1 x4 (([] : Mem).length) s r h e M hs) hr70 ⟨h16, h17, h18, o9, rfl⟩ fun x e72 M73 hq71 => ?_))))))))
 clear h3 h12 h13
 obtain ⟨rfl, h75, o76, hl77⟩ := hq71
 refine bE (sN (sq (Rg (kx (mvO h75) (kx (mvO rfl) (Rn (hV (.lsl ([] : Mem).length y74.length 0 y74.length) rfl hZ) fun e78 h80 => sN (xx ?_)))))))
 clear h75
 obtain rfl := si h
 exact eR (resT h80 res0) (rr_row o76 rfl Tally.fl)
/-! ### loop.example/g01263/spec.l07Least (f59) -/
abbrev spec_l07Least_b1_S := Int × Int
abbrev spec_l07Least_b1_R := Int
def spec_l07Least_b1_RS (a1 : List Book) (a2 : Int) (s : spec_l07Least_b1_S) (e : Env) (M : Mem) : Prop := eget e 0 = .sl none (a1.map Book.c) ∧ eget e 1 = .int .i64 a2 ∧ eget e 2 = .int .i64 s.1 ∧ eget e 7 = .int .i64 s.2
def spec_l07Least_b1_RR (a1 : List Book) (a2 : Int) (g : spec_l07Least_b1_R) (x : Ex) (e : Env) (M : Mem) : Prop := x = .ext 0 ∧ eget e 2 = .int .i64 g
noncomputable def spec_l07Least_b1 (a1 : List Book) (a2 : Int) : spec_l07Least_b1_S → Option (spec_l07Least_b1_S ⊕ spec_l07Least_b1_R) := fun (s1_1, s1_2) =>
 if (decide (s1_2 < (a1.length : Int))) = true then
  (rd a1 s1_2).bind fun x40 =>
  if (decide (a2 < (x40.Tallies.length : Int))) = true then
   (rd a1 s1_2).bind fun x43 =>
   (rd x43.Tallies a2).bind fun x45 =>
   if (decide (x45.Holder < s1_1)) = true then
    (rd a1 s1_2).bind fun x55 =>
    (rd x55.Tallies a2).bind fun x57 =>
    some (.inl (x57.Holder, (IntKind.i64.wrap (s1_2 + 1))))
   else
    some (.inl (s1_1, (IntKind.i64.wrap (s1_2 + 1))))
  else
   some (.inl (s1_1, (IntKind.i64.wrap (s1_2 + 1))))
 else
  some (.inr s1_1)
theorem spec_l07Least_b1_ok (a1 : List Book) (a2 : Int) (s : spec_l07Least_b1_S) (r : spec_l07Least_b1_S ⊕ spec_l07Least_b1_R) (h : spec_l07Least_b1 a1 a2 s = some r) (e : Env) (M : Mem) (hs : spec_l07Least_b1_RS a1 a2 s e M) : Ev (fun k => (f59_l2 (CN k) k (prune [0, 1, 2, 7] e) M).bind fun q => some q) (bQ (spec_l07Least_b1_RS a1 a2) (spec_l07Least_b1_RR a1 a2) r) := by
 obtain ⟨s1_1, s1_2⟩ := s
 unfold spec_l07Least_b1 at h
 obtain ⟨h24, h26, h28, h30⟩ := hs
 generalize he23 : prune [0, 1, 2, 7] e = e22
 have h25 := envp he23.symm rfl h24
 have h27 := envp he23.symm rfl h26
 have h29 := envp he23.symm rfl h28
 have h31 := envp he23.symm rfl h30
 refine sq (sq (Rg (kx (mvO h31) (kx (mvO h25) (kx (lnS Try.underlying105 rfl) (kx (bLss rfl rfl) (Rn (hV (.sl none (a1.map Book.c)) h25 (hV (.int .i64 a2) h27 (hV (.int .i64 s1_1) h29 (hV (.int .i64 s1_2) h31 (hN rfl hZ))))) fun e32 h34 h35 h36 h37 h38 => sN ?_)))))))
 clear h25 h27 h29 h31
 rcases ite_some h with ⟨hb39, h⟩ | ⟨hb39, h⟩
 ·obtain ⟨x40, hx41, h⟩ := bind_some h
  refine cT h38 hb39 (xx (sN (sq (bl (sq (Rg (kx (mvO h35) (kx (mvO h34) (kx (mvO h37) (kx (ixS rfl rfl hx41 Book.fl) (kx (faP rfl ⟨ble rfl, blt rfl⟩ rfl) (kx (ldP rfl rfl) (kx (lnS Try.underlying48 rfl) (kx (bLss rfl rfl) (kx (mvO rfl) ?_)))))))))))))))
  rcases ite_some h with ⟨hb42, h⟩ | ⟨hb42, h⟩
  ·obtain ⟨x43, hx44, h⟩ := bind_some h
   obtain ⟨x45, hx46, h⟩ := bind_some h
   refine kx (guT rfl hb42 (mvO h34)) (kx (guT rfl hb42 (mvO h37)) (kx (guT rfl hb42 (ixS rfl rfl hx44 Book.fl)) (kx (guT rfl hb42 (faP rfl ⟨ble rfl, blt rfl⟩ rfl)) (kx (guT rfl hb42 (ldP rfl rfl)) (kx (guT rfl hb42 (mvO h35)) (kx (guT rfl hb42 (ixS rfl rfl hx46 Tally.fl)) (kx (guT rfl hb42 (faP rfl ⟨ble rfl, blt rfl⟩ rfl)) (kx (guT rfl hb42 (ldP rfl rfl)) (kx (guT rfl hb42 (mvO h36)) (kx (guT rfl hb42 (bLss rfl rfl)) (kx (pkT rfl hb42 rfl) (Rn (hA h34 (hA h35 (hA h36 (hA h37 (hN rfl hZ))))) fun e47 h49 h50 h51 h52 h53 => sN ?_))))))))))))
   clear h34 h35 h36 h37 h38
   rcases ite_some h with ⟨hb54, h⟩ | ⟨hb54, h⟩
   ·obtain ⟨x55, hx56, h⟩ := bind_some h
    obtain ⟨x57, hx58, h⟩ := bind_some h
    refine cT h53 hb54 (Rg (kx (mvO h49) (kx (mvO h52) (kx (ixS rfl rfl hx56 Book.fl) (kx (faP rfl ⟨ble rfl, blt rfl⟩ rfl) (kx (ldP rfl rfl) (kx (mvO h50) (kx (ixS rfl rfl hx58 Tally.fl) (kx (faP rfl ⟨ble rfl, blt rfl⟩ rfl) (kx (ldP rfl rfl) (kx (mvO rfl) (Rn (hA h49 (hA h50 (hN rfl (hA h52 hZ)))) fun e59 h61 h62 h63 h64 => bN (sN (Rg (kx (mvO h64) (kx (bAdd rfl rfl) (kx (mvO rfl) (Rn (hA h61 (hA h62 (hA h63 (hN rfl hZ)))) fun e65 h67 h68 h69 h70 => ?_))))))))))))))))))
    clear h49 h50 h52 h53 h61 h62 h63
    obtain rfl := si h
    exact qN ⟨h67, h68, h69, h70⟩
   refine cF h53 hb54 (xx (bN (sN (Rg (kx (mvO h52) (kx (bAdd rfl rfl) (kx (mvO rfl) (Rn (hA h49 (hA h50 (hA h51 (hN rfl hZ)))) fun e71 h73 h74 h75 h76 => ?_))))))))
   clear h49 h50 h51 h53
   obtain rfl := si h
   exact qN ⟨h73, h74, h75, h76⟩
  refine kx (gsT rfl hb42) (kx (gsT rfl hb42) (kx (gsT rfl hb42) (kx (gsT rfl hb42) (kx (gsT rfl hb42) (kx (gsT rfl hb42) (kx (gsT rfl hb42) (kx (gsT rfl hb42) (kx (gsT rfl hb42) (kx (gsT rfl hb42) (kx (gsT rfl hb42) (kx (pkF rfl hb42 rfl) (Rn (hA h34 (hA h35 (hA h36 (hA h37 (hV (.bool false) rfl hZ))))) fun e77 h79 h80 h81 h82 h83 => sN (cF h83 rfl (xx (bN (sN (Rg (kx (mvO h82) (kx (bAdd rfl rfl) (kx (mvO rfl) (Rn (hA h79 (hA h80 (hA h81 (hN rfl hZ)))) fun e84 h86 h87 h88 h89 => ?_)))))))))))))))))))))
  clear h34 h35 h36 h37 h38 h79 h80 h81 h83
  obtain rfl := si h
  exact qN ⟨h86, h87, h88, h89⟩
 refine cF h38 hb39 (xx (sE ?_))
 obtain rfl := si h
 exact qE ⟨rfl, h36⟩
noncomputable def spec_l07Least (a1 : List Book) (a2 : Int) (a3 : Int) : Option Int :=
 (Lw (spec_l07Least_b1 a1 a2) (a3, 0)).bind fun y95 =>
 some y95
def spec_l07Least_enc (r : Int) : AV := .int .i64 r
theorem spec_l07Least_ok (a1 : List Book) (a2 : Int) (a3 : Int) (r : Int) (h : spec_l07Least a1 a2 a3 = some r) : Ev (fun k => CN k 59 [.sl none (a1.map Book.c), .int .i64 a2, .int .i64 a3] []) (fun p => rRes p.2 p.1 = spec_l07Least_enc r) := by
 unfold spec_l07Least at h
 obtain ⟨y95, hr91, h⟩ := bind_some h
 refine Ev.enter (F := fun k => f59 (CN k) k) (fun k => callN_eq rfl Try.func59 rfl rfl rfl (by decide +kernel) (f59_eq _ _)) (sq (Rg (kx (mvO rfl) (Rn (hN rfl (hN rfl (hN rfl hZ))) fun e1 h3 h4 h5 => sN (sq (sq (Rg (kx (mvO rfl) (Rn (hA h3 (hA h4 (hA h5 (hV (.int .i64 0) rfl hZ)))) fun e6 h8 h9 h10 h11 => sN (bl (Ev.loop (RS := spec_l07Least_b1_RS a1 a2) (RR := spec_l07Least_b1_RR a1 a2) (fun s r h e M hs => spec_l07Least_b1_ok a1 a2 s r h e M hs) hr91 ⟨h8, h9, h10, h11⟩ fun x e93 M94 hq92 => ?_)))))))))))
 clear h3 h4 h5
 obtain ⟨rfl, h96⟩ := hq92
 refine bE (sN (sq (Rg (kx (mvO h96) (kx (mvO rfl) (Rn (hN rfl hZ) fun e97 h99 => sN (xx ?_)))))))
 clear h96
 obtain rfl := si h
 exact eR (resT h99 res0) rfl
/-! ### loop.example/g01263/spec.l07Known (f58) -/
noncomputable def spec_l07Known (a1 : Book) (a2 : List Deal) (a3 : Int) : Option ((List Book) × Int) :=
 (spec_l07Asked a1 a2).bind fun r7 =>
 if (r7 != 0) = true then
  some (([] : List Book), r7)
 else
  (spec_l07All a1 a2).bind fun (r27, r28, r29) =>
  if (r28 != 0) = true then
   some (([] : List Book), r28)
  else
   (spec_l07Copy a1).bind fun (r49, r50, r51) =>
   (app 56 [(Book.mk r49 r50 r51)] r27).bind fun x52 =>
   (rd x52 (IntKind.i64.wrap ((x52.length : Int) - 1))).bind fun x58 =>
   (spec_l00In a3 0 (IntKind.i64.wrap ((x58.Tallies.length : Int) - 1))).bind fun r61 =>
   if r61 = true then
    some (x52, 0)
   else
    some (([] : List Book), 6)
def spec_l07Known_enc (r : (List Book) × Int) : AV := .tup [.sl (some 50) (r.1.map Book.c), .int .i64 r.2]
theorem spec_l07Known_ok (a1 : Book) (a2 : List Deal) (a3 : Int) (r : (List Book) × Int) (h : spec_l07Known a1 a2 a3 = some r) : Ev (fun k => CN k 58 [.pt none [.int .i64 a1.Day, .sl none (a1.Cash.map (cI .i64)), .sl none (a1.Tallies.map Tally.c)], .sl none (a2.map Deal.c), .int .i64 a3] []) (fun p => rRes p.2 p.1 = spec_l07Known_enc r) := by
 unfold spec_l07Known at h
 obtain ⟨r7, hx6, h⟩ := bind_some h
 refine Ev.enter (F := fun k => f58 (CN k) k) (fun k => callN_eq rfl Try.func58 rfl rfl rfl (by decide +kernel) (f58_eq _ _)) (sq (Rg (kx (mvO rfl) (kx (mvO rfl) (Rn (hN rfl (hN rfl (hN rfl hZ))) fun e1 h3 h4 h5 => sN (sq (sq (Rg (kx (mvO h3) (kx (mvO h4) (kc (cl (v := .int .i64 r7) rfl (cns rfl (cns rfl rfl)) rfl (spec_l07Asked_ok a1 a2 _ hx6) nm) (kx (mvO rfl) (Rn (hA h3 (hA h4 (hA h5 (hN rfl hZ)))) fun e8 h10 h11 h12 h13 => sN (sq (Rg (kx (mvO h13) (kx (bNeq rfl rfl) (Rn (hA h10 (hA h11 (hA h12 (hA h13 (hN rfl hZ))))) fun e14 h16 h17 h18 h19 h20 => sN ?_))))))))))))))))))
 clear h3 h4 h5 h10 h11 h12 h13
 rcases ite_some h with ⟨hb21, h⟩ | ⟨hb21, h⟩
 ·refine cT h20 hb21 (sq (Rg (kx (litI rfl rfl ⟨rfl, by decide⟩) (kx (mvO h19) (kx (mvO rfl) (kx (mvO rfl) (Rn (hN rfl (hN rfl hZ)) fun e22 h24 h25 => sN (xx (sR ?_)))))))))
  clear h16 h17 h18 h19 h20
  obtain rfl := si h
  exact eR (resT h24 (resT h25 res0)) rfl
 obtain ⟨⟨r27, r28, r29⟩, hx26, h⟩ := bind_some h
 refine cF h20 hb21 (xx (sN (sq (Rg (kx (mvO h16) (kx (mvO h17) (kc (cl (v := .tup [.sl (some 50) (r27.map Book.c), .int .i64 r28, .int .i64 r29]) rfl (cns rfl (cns rfl rfl)) rfl (spec_l07All_ok a1 a2 _ hx26) nm) (kx (mvO rfl) (kx (exT rfl rfl) (kx (exT rfl rfl) (kx (exT rfl rfl) (kx (mvO rfl) (kx (mvO rfl) (kx (mvO rfl) (Rn (hA h16 (hA h18 (hN rfl (hN rfl hZ)))) fun e30 h32 h33 h34 h35 => sN (sq (sq (Rg (kx (mvO h35) (kx (bNeq rfl rfl) (Rn (hA h32 (hA h33 (hA h34 (hA h35 (hN rfl hZ))))) fun e36 h38 h39 h40 h41 h42 => sN ?_)))))))))))))))))))))
 clear h16 h17 h18 h19 h20 h32 h33 h34 h35
 rcases ite_some h with ⟨hb43, h⟩ | ⟨hb43, h⟩
 ·refine cT h42 hb43 (sq (Rg (kx (litI rfl rfl ⟨rfl, by decide⟩) (kx (mvO h41) (kx (mvO rfl) (kx (mvO rfl) (Rn (hN rfl (hN rfl hZ)) fun e44 h46 h47 => sN (xx (sR ?_)))))))))
  clear h38 h39 h40 h41 h42
  obtain rfl := si h
  exact eR (resT h46 (resT h47 res0)) rfl
 obtain ⟨⟨r49, r50, r51⟩, hx48, h⟩ := bind_some h
 obtain ⟨x52, hx53, h⟩ := bind_some h
 obtain ⟨x58, hx59, h⟩ := bind_some h
 obtain ⟨r61, hx60, h⟩ := bind_some h
 refine cF h42 hb43 (xx (sN (sq (Rg (kx (mvO h38) (kc (cl (v := .agg [.int .i64 r49, .sl (some 2) (r50.map (cI .i64)), .sl (some 110) (r51.map Tally.c)]) rfl (cns rfl rfl) rfl (spec_l07Copy_ok a1 _ hx48) nm) (kx (litI (cns rfl rfl) rfl ⟨rfl, by decide⟩) (kx (mvO h40) (kx (aiT (c := Book.c) (xs := [(Book.mk r49 r50 r51)]) rfl (elS rfl) hx53 Book.fl (by decide)) (kx (mvO rfl) (Rn (hA h39 (hN rfl hZ)) fun e54 h56 h57 => sN (sq (sq (Rg (kx (mvO h56) (kx (mvO h57) (kx (mvO h57) (kx (lnS Try.underlying105 rfl) (kx (bSub rfl rfl) (kx (ixS rfl rfl hx59 Book.fl) (kx (faP rfl ⟨ble rfl, blt rfl⟩ rfl) (kx (ldP rfl rfl) (kx (lnS Try.underlying48 rfl) (kx (bSub rfl rfl) (kc (cl (v := .bool r61) rfl (cns rfl (cns rfl (cns rfl rfl))) rfl (spec_l00In_ok a3 0 (IntKind.i64.wrap ((x58.Tallies.length : Int) - 1)) _ hx60) nm) (kx (uNot rfl) (Rn (hA h57 (hN rfl hZ)) fun e62 h64 h65 => sN ?_)))))))))))))))))))))))))))
 clear h38 h39 h41 h42 h56 h57
 rcases ite_some h with ⟨hb66, h⟩ | ⟨hb66, h⟩
 ·refine cF h65 (congrArg Bool.not hb66) (xx (sN (sq (Rg (kx (mvO h64) (kx (mvO rfl) (kx (mvO rfl) (Rn (hN rfl (hV (.int .i64 0) rfl hZ)) fun e67 h69 h70 => sN (xx ?_)))))))))
  clear h64 h65
  obtain rfl := si h
  exact eR (resT h69 (resT h70 res0)) rfl
 refine cT h65 (congrArg Bool.not hb66) (sq (Rg (kx (litI rfl rfl ⟨rfl, by decide⟩) (kx (mvO rfl) (kx (mvO rfl) (Rn (hN rfl (hV (.int .i64 6) rfl hZ)) fun e71 h73 h74 => sN (xx (sR ?_))))))))
 clear h64 h65
 obtain rfl := si h
 exact eR (resT h73 (resT h74 res0)) rfl
/-! ### loop.example/g01263/laws.szTallyS (f57) -/
noncomputable def laws_szTallyS (a1 : List Tally) (a2 : Int) : Option Int :=
 if (decide ((IntKind.i64.wrap (a2 - (a1.length : Int))) < 0)) = true then
  some (-1)
 else
  some (IntKind.i64.wrap (a2 - (a1.length : Int)))
def laws_szTallyS_enc (r : Int) : AV := .int .i64 r
theorem laws_szTallyS_ok (a1 : List Tally) (a2 : Int) (r : Int) (h : laws_szTallyS a1 a2 = some r) : Ev (fun k => CN k 57 [.sl none (a1.map Tally.c), .int .i64 a2] []) (fun p => rRes p.2 p.1 = laws_szTallyS_enc r) := by
 unfold laws_szTallyS at h
 refine Ev.enter (F := fun k => f57 (CN k) k) (fun k => callN_eq rfl Try.func57 rfl rfl rfl (by decide +kernel) (f57_eq _ _)) (sq (Rg (kx (mvO rfl) (Rn (hN rfl (hN rfl hZ)) fun e1 h3 h4 => sN (sq (Rg (kx (mvO h4) (kx (mvO h3) (kx (lnS Try.underlying40 rfl) (kx (bSub rfl rfl) (kx (mvO rfl) (Rn (hN rfl hZ) fun e5 h7 => sN (sq (sq (Rg (kx (mvO h7) (kx (bLss rfl rfl) (Rn (hA h7 (hN rfl hZ)) fun e8 h10 h11 => sN ?_))))))))))))))))))
 clear h3 h7
 rcases ite_some h with ⟨hb12, h⟩ | ⟨hb12, h⟩
 ·refine cT h11 hb12 (sq (Rg (kx (mvO rfl) (Rn (hV (.int .i64 (-1)) rfl hZ) fun e13 h15 => sN (xx (sR ?_))))))
  clear h10 h11
  obtain rfl := si h
  exact eR (resT h15 res0) rfl
 refine cF h11 hb12 (xx (sN (sq (Rg (kx (mvO h10) (kx (mvO rfl) (Rn (hN rfl hZ) fun e16 h18 => sN (xx ?_))))))))
 clear h10 h11
 obtain rfl := si h
 exact eR (resT h18 res0) rfl
/-! ### loop.example/g01263/laws.szInt64S (f56) -/
noncomputable def laws_szInt64S (a1 : List Int) (a2 : Int) : Option Int :=
 if (decide ((IntKind.i64.wrap (a2 - (a1.length : Int))) < 0)) = true then
  some (-1)
 else
  some (IntKind.i64.wrap (a2 - (a1.length : Int)))
def laws_szInt64S_enc (r : Int) : AV := .int .i64 r
theorem laws_szInt64S_ok (a1 : List Int) (a2 : Int) (r : Int) (h : laws_szInt64S a1 a2 = some r) : Ev (fun k => CN k 56 [.sl none (a1.map (cI .i64)), .int .i64 a2] []) (fun p => rRes p.2 p.1 = laws_szInt64S_enc r) := by
 unfold laws_szInt64S at h
 refine Ev.enter (F := fun k => f56 (CN k) k) (fun k => callN_eq rfl Try.func56 rfl rfl rfl (by decide +kernel) (f56_eq _ _)) (sq (Rg (kx (mvO rfl) (Rn (hN rfl (hN rfl hZ)) fun e1 h3 h4 => sN (sq (Rg (kx (mvO h4) (kx (mvO h3) (kx (lnS Try.underlying24 rfl) (kx (bSub rfl rfl) (kx (mvO rfl) (Rn (hN rfl hZ) fun e5 h7 => sN (sq (sq (Rg (kx (mvO h7) (kx (bLss rfl rfl) (Rn (hA h7 (hN rfl hZ)) fun e8 h10 h11 => sN ?_))))))))))))))))))
 clear h3 h7
 rcases ite_some h with ⟨hb12, h⟩ | ⟨hb12, h⟩
 ·refine cT h11 hb12 (sq (Rg (kx (mvO rfl) (Rn (hV (.int .i64 (-1)) rfl hZ) fun e13 h15 => sN (xx (sR ?_))))))
  clear h10 h11
  obtain rfl := si h
  exact eR (resT h15 res0) rfl
 refine cF h11 hb12 (xx (sN (sq (Rg (kx (mvO h10) (kx (mvO rfl) (Rn (hN rfl hZ) fun e16 h18 => sN (xx ?_))))))))
 clear h10 h11
 obtain rfl := si h
 exact eR (resT h18 res0) rfl
/-! ### loop.example/g01263/laws.toInt64S (f33) -/
abbrev laws_toInt64S_b1_S := Int × (List Int)
abbrev laws_toInt64S_b1_R := (List Int)
def laws_toInt64S_b1_RS (a1 : List Int) (x4 : List Int) (i1_1 : Nat) (s : laws_toInt64S_b1_S) (e : Env) (M : Mem) : Prop := eget e 0 = .sl none (a1.map (cI .i64)) ∧ eget e 3 = .lsl i1_1 s.2.length 0 s.2.length ∧ eget e 4 = .int .i64 s.1 ∧ M[i1_1]? = some (.live ⟨.grow, 2, 1, s.2.map (cI .i64)⟩) ∧ s.2.length = x4.length
def laws_toInt64S_b1_RR (a1 : List Int) (x4 : List Int) (i1_1 : Nat) (g : laws_toInt64S_b1_R) (x : Ex) (e : Env) (M : Mem) : Prop := x = .ext 0 ∧ eget e 3 = .lsl i1_1 g.length 0 g.length ∧ M[i1_1]? = some (.live ⟨.grow, 2, 1, g.map (cI .i64)⟩) ∧ g.length = x4.length
noncomputable def laws_toInt64S_b1 (a1 : List Int) : laws_toInt64S_b1_S → Option (laws_toInt64S_b1_S ⊕ laws_toInt64S_b1_R) := fun (s1_1, s1_2) =>
 if (decide (s1_1 < (a1.length : Int))) = true then
  (rd a1 s1_1).bind fun x45 =>
  (rd s1_2 s1_1).bind fun x47 =>
  some (.inl ((IntKind.i64.wrap (s1_1 + 1)), (s1_2.set s1_1.toNat x45)))
 else
  some (.inr s1_2)
theorem laws_toInt64S_b1_ok (a1 : List Int) (x4 : List Int) (i1_1 : Nat) (s : laws_toInt64S_b1_S) (r : laws_toInt64S_b1_S ⊕ laws_toInt64S_b1_R) (h : laws_toInt64S_b1 a1 s = some r) (e : Env) (M : Mem) (hs : laws_toInt64S_b1_RS a1 x4 i1_1 s e M) : Ev (fun k => (f33_l3 (CN k) k (prune [0, 3, 4] e) M).bind fun q => some q) (bQ (laws_toInt64S_b1_RS a1 x4 i1_1) (laws_toInt64S_b1_RR a1 x4 i1_1) r) := by
 obtain ⟨s1_1, s1_2⟩ := s
 unfold laws_toInt64S_b1 at h
 obtain ⟨h30, h32, h34, o36, hl37⟩ := hs
 generalize he29 : prune [0, 3, 4] e = e28
 have h31 := envp he29.symm rfl h30
 have h33 := envp he29.symm rfl h32
 have h35 := envp he29.symm rfl h34
 refine sq (sq (Rg (kx (mvO h35) (kx (mvO h31) (kx (lnS Try.underlying24 rfl) (kx (bLss rfl rfl) (Rn (hV (.sl none (a1.map (cI .i64))) h31 (hV (.lsl i1_1 s1_2.length 0 s1_2.length) h33 (hV (.int .i64 s1_1) h35 (hN rfl hZ)))) fun e38 h40 h41 h42 h43 => sN ?_)))))))
 clear h31 h33 h35
 rcases ite_some h with ⟨hb44, h⟩ | ⟨hb44, h⟩
 ·obtain ⟨x45, hx46, h⟩ := bind_some h
  obtain ⟨x47, hx48, h⟩ := bind_some h
  refine cT h43 hb44 (xx (sN (sq (bl (Rg (kx (mvO h41) (kx (mvO h42) (kx (mvO h40) (kx (mvO h42) (kx (ixS rfl rfl hx46 (cI_fl _)) (kx (ldP rfl rfl) (kx (ixO rfl o36 rfl rfl (rd_get hx48).1 (rd_lt hx48).2) (kw (stR (u := x47) (u' := x45) rfl rfl o36 rfl (rz2 hx48) ⟨rfl, ble rfl⟩ rfl rfl) fun M49 hM50 => ?_)))))))))))))
  rw [Nat.zero_add] at hM50
  have o51 : M49[i1_1]? = some (.live ⟨.grow, 2, 1, (s1_2.set s1_1.toNat x45).map (cI .i64)⟩) := set_same hM50 o36
  have hx52 := rd_set (u' := x45) hx48
  refine Rn (hA h40 (hA h41 (hA h42 hZ))) fun e53 h55 h56 h57 => bN (sN (Rg (kx (mvO h57) (kx (bAdd rfl rfl) (kx (mvO rfl) (Rn (hA h55 (hA h56 (hN rfl hZ))) fun e58 h60 h61 h62 => ?_))))))
  clear h40 h41 h42 h43 h55 h56
  obtain rfl := si h
  exact qN ⟨h60, (lslL (L' := (s1_2.set s1_1.toNat x45).length) h61 (by simp [hl37])), h62, o51, (by first | rfl | simp [hl37])⟩
 refine cF h43 hb44 (xx (sE ?_))
 obtain rfl := si h
 exact qE ⟨rfl, h41, o36, (by first | rfl | simp [hl37])⟩
noncomputable def laws_toInt64S (a1 : List Int) : Option ((List Int)) :=
 (mkS 8 0 (a1.length : Int)).bind fun x4 =>
 (Lw (laws_toInt64S_b1 a1) (0, x4)).bind fun y68 =>
 some y68
def laws_toInt64S_enc (r : (List Int)) : AV := .sl (some 2) (r.map (cI .i64))
theorem laws_toInt64S_ok (a1 : List Int) (r : (List Int)) (h : laws_toInt64S a1 = some r) : Ev (fun k => CN k 33 [.sl none (a1.map (cI .i64))] []) (fun p => rRes p.2 p.1 = laws_toInt64S_enc r) := by
 unfold laws_toInt64S at h
 obtain ⟨x4, hx5, h⟩ := bind_some h
 refine Ev.enter (F := fun k => f33 (CN k) k) (fun k => callN_eq rfl Try.func33 rfl rfl rfl (by decide +kernel) (f33_eq _ _)) (sq (Rg (kx (mvO rfl) (Rn (hN rfl hZ) fun e1 h3 => sN (sq (Rg (kx (mvO h3) (kx (lnS Try.underlying24 rfl) (ku (mkO rfl rfl hx5 (c := (cI .i64)) zero2 (cI_fl _) (by decide)) fun M7 hM8 => ?_)))))))))
 have o9 : M7[([] : Mem).length]? = some (.live ⟨.grow, 2, 1, x4.map (cI .i64)⟩) := push_new hM8
 obtain ⟨y68, hr64, h⟩ := bind_some h
 refine kx (mvO rfl) (Rn (hA h3 (hV (.lsl ([] : Mem).length x4.length 0 x4.length) rfl hZ)) fun e10 h12 h13 => sN (sq (sq (Rg (kx (mvO rfl) (Rn (hA h12 (hA h13 (hV (.int .i64 0) rfl hZ))) fun e14 h16 h17 h18 => sN (bl (Ev.loop (RS := laws_toInt64S_b1_RS a1 x4 (([] : Mem).length)) (RR := laws_toInt64S_b1_RR a1 x4 (([] : Mem).length)) (fun s r h e M hs => laws_toInt64S_b1_ok a1 x4 (([] : Mem).length) s r h e M hs) hr64 ⟨h16, h17, h18, o9, rfl⟩ fun x e66 M67 hq65 => ?_))))))))
 clear h3 h12 h13
 obtain ⟨rfl, h69, o70, hl71⟩ := hq65
 refine bE (sN (sq (Rg (kx (mvO h69) (kx (mvO rfl) (Rn (hV (.lsl ([] : Mem).length y68.length 0 y68.length) rfl hZ) fun e72 h74 => sN (xx ?_)))))))
 clear h69
 obtain rfl := si h
 exact eR (resT h74 res0) (rr_row o70 rfl (cI_fl _))
/-! ### loop.example/g01263/laws.eqDealS (f29) -/
abbrev laws_eqDealS_b1_S := Int
abbrev laws_eqDealS_b1_R := Unit ⊕ Unit
def laws_eqDealS_b1_RS (a1 : List Deal) (a2 : List Deal) (s : laws_eqDealS_b1_S) (e : Env) (M : Mem) : Prop := eget e 0 = .sl none (a1.map Deal.c) ∧ eget e 1 = .sl none (a2.map Deal.c) ∧ eget e 5 = .int .i64 s
def laws_eqDealS_b1_RR (a1 : List Deal) (a2 : List Deal) (r : laws_eqDealS_b1_R) (x : Ex) (e : Env) (M : Mem) : Prop :=
  match r with
  | (.inl g) => x = .ret ∧ eget e 4 = .bool false
  | (.inr g) => x = .ext 0 ∧ True
noncomputable def laws_eqDealS_b1 (a1 : List Deal) (a2 : List Deal) : laws_eqDealS_b1_S → Option (laws_eqDealS_b1_S ⊕ laws_eqDealS_b1_R) := fun s1_1 =>
 if (decide (s1_1 < (a1.length : Int))) = true then
  (rd a1 s1_1).bind fun x42 =>
  (rd a2 s1_1).bind fun x44 =>
  (laws_eqDeal x42 x44).bind fun r47 =>
  if r47 = true then
   some (.inl (IntKind.i64.wrap (s1_1 + 1)))
  else
   some (.inr (.inl ()))
 else
  some (.inr (.inr ()))
theorem laws_eqDealS_b1_ok (a1 : List Deal) (a2 : List Deal) (s : laws_eqDealS_b1_S) (r : laws_eqDealS_b1_S ⊕ laws_eqDealS_b1_R) (h : laws_eqDealS_b1 a1 a2 s = some r) (e : Env) (M : Mem) (hs : laws_eqDealS_b1_RS a1 a2 s e M) : Ev (fun k => (f29_l4 (CN k) k (prune [0, 1, 5] e) M).bind fun q => some q) (bQ (laws_eqDealS_b1_RS a1 a2) (laws_eqDealS_b1_RR a1 a2) r) := by
 revert h hs
 revert s
 intro s1_1 h hs
 unfold laws_eqDealS_b1 at h
 obtain ⟨h29, h31, h33⟩ := hs
 generalize he28 : prune [0, 1, 5] e = e27
 have h30 := envp he28.symm rfl h29
 have h32 := envp he28.symm rfl h31
 have h34 := envp he28.symm rfl h33
 refine sq (sq (Rg (kx (mvO h34) (kx (mvO h30) (kx (lnS Try.underlying52 rfl) (kx (bLss rfl rfl) (Rn (hV (.sl none (a1.map Deal.c)) h30 (hV (.sl none (a2.map Deal.c)) h32 (hV (.int .i64 s1_1) h34 (hN rfl hZ)))) fun e35 h37 h38 h39 h40 => sN ?_)))))))
 clear h30 h32 h34
 rcases ite_some h with ⟨hb41, h⟩ | ⟨hb41, h⟩
 ·obtain ⟨x42, hx43, h⟩ := bind_some h
  obtain ⟨x44, hx45, h⟩ := bind_some h
  obtain ⟨r47, hx46, h⟩ := bind_some h
  refine cT h40 hb41 (xx (sN (sq (bl (sq (Rd (kf (mvO h37) (kf (mvO h39) (kf (ixS rfl rfl hx43 Deal.fl) (kf (ldPA rfl rfl rfl) (kf (mvO h38) (kf (mvO h39) (kf (ixS rfl rfl hx45 Deal.fl) (kf (ldPA rfl rfl rfl) (fc (cl (v := .bool r47) rfl (cns rfl (cns rfl rfl)) rfl (laws_eqDeal_ok x42 x44 _ hx46) nm) (kf (uNot rfl) (fZ (Rn (hA h37 (hA h38 (hA h39 (hN rfl hZ)))) fun e48 h50 h51 h52 h53 => sN ?_))))))))))))))))))
  clear h37 h38 h39 h40
  rcases ite_some h with ⟨hb54, h⟩ | ⟨hb54, h⟩
  ·refine cF h53 (congrArg Bool.not hb54) (xx (bN (sN (Rg (kx (mvO h52) (kx (bAdd rfl rfl) (kx (mvO rfl) (Rn (hA h50 (hA h51 (hN rfl hZ))) fun e55 h57 h58 h59 => ?_))))))))
   clear h50 h51 h53
   obtain rfl := si h
   exact qN ⟨h57, h58, h59⟩
  refine cT h53 (congrArg Bool.not hb54) (sq (Rg (kx (mvO rfl) (Rn (hV (.bool false) rfl hZ) fun e60 h62 => sN (xx (bR (sR ?_)))))))
  clear h50 h51 h52 h53
  obtain rfl := si h
  exact qR ⟨rfl, h62⟩
 refine cF h40 hb41 (xx (sE ?_))
 obtain rfl := si h
 exact qE ⟨rfl, trivial⟩
noncomputable def laws_eqDealS (a1 : List Deal) (a2 : List Deal) : Option Bool :=
 if ((a1.length : Int) != (a2.length : Int)) = true then
  some false
 else
  (Lw (laws_eqDealS_b1 a1 a2) 0).bind fun r => match r with
  | (.inl _) =>
   some false
  | (.inr _) =>
   some true
def laws_eqDealS_enc (r : Bool) : AV := .bool r
theorem laws_eqDealS_ok (a1 : List Deal) (a2 : List Deal) (r : Bool) (h : laws_eqDealS a1 a2 = some r) : Ev (fun k => CN k 29 [.sl none (a1.map Deal.c), .sl none (a2.map Deal.c)] []) (fun p => rRes p.2 p.1 = laws_eqDealS_enc r) := by
 unfold laws_eqDealS at h
 refine Ev.enter (F := fun k => f29 (CN k) k) (fun k => callN_eq rfl Try.func29 rfl rfl rfl (by decide +kernel) (f29_eq _ _)) (sq (Rg (kx (mvO rfl) (Rn (hN rfl (hN rfl hZ)) fun e1 h3 h4 => sN (sq (sq (Rg (kx (mvO h3) (kx (lnS Try.underlying52 rfl) (kx (mvO h4) (kx (lnS Try.underlying52 rfl) (kx (bNeq rfl rfl) (Rn (hA h3 (hA h4 (hN rfl hZ))) fun e5 h7 h8 h9 => sN ?_)))))))))))))
 clear h3 h4
 rcases ite_some h with ⟨hb10, h⟩ | ⟨hb10, h⟩
 ·refine cT h9 hb10 (sq (Rg (kx (mvO rfl) (Rn (hV (.bool false) rfl hZ) fun e11 h13 => sN (xx (sR ?_))))))
  clear h7 h8 h9
  obtain rfl := si h
  exact eR (resT h13 res0) rfl
 obtain ⟨r63, hr64, h⟩ := bind_some h
 refine cF h9 hb10 (xx (sN (sq (sq (Rg (kx (mvO rfl) (Rn (hA h7 (hA h8 (hV (.int .i64 0) rfl hZ))) fun e14 h16 h17 h18 => sN (bl ?_))))))))
 clear h7 h8 h9
 rcases r63 with _ | _
 ·refine Ev.loop (RS := laws_eqDealS_b1_RS a1 a2) (RR := laws_eqDealS_b1_RR a1 a2) (fun s r h e M hs => laws_eqDealS_b1_ok a1 a2 s r h e M hs) hr64 ⟨h16, h17, h18⟩ fun x e66 M67 hq65 => ?_
  obtain ⟨rfl, h68⟩ := hq65
  refine bR (sR ?_)
  obtain rfl := si h
  exact eR (resT h68 res0) rfl
 refine Ev.loop (RS := laws_eqDealS_b1_RS a1 a2) (RR := laws_eqDealS_b1_RR a1 a2) (fun s r h e M hs => laws_eqDealS_b1_ok a1 a2 s r h e M hs) hr64 ⟨h16, h17, h18⟩ fun x e69 M70 hq65 => ?_
 obtain ⟨rfl, _⟩ := hq65
 refine bE (sN (sq (Rg (kx (mvO rfl) (Rn (hV (.bool true) rfl hZ) fun e71 h73 => sN (xx ?_))))))
 obtain rfl := si h
 exact eR (resT h73 res0) rfl
/-! ### loop.example/g01263/laws.eqInt64S (f12) -/
abbrev laws_eqInt64S_b1_S := Int
abbrev laws_eqInt64S_b1_R := Unit ⊕ Unit
def laws_eqInt64S_b1_RS (a1 : List Int) (a2 : List Int) (s : laws_eqInt64S_b1_S) (e : Env) (M : Mem) : Prop := eget e 0 = .sl none (a1.map (cI .i64)) ∧ eget e 1 = .sl none (a2.map (cI .i64)) ∧ eget e 5 = .int .i64 s
def laws_eqInt64S_b1_RR (a1 : List Int) (a2 : List Int) (r : laws_eqInt64S_b1_R) (x : Ex) (e : Env) (M : Mem) : Prop :=
  match r with
  | (.inl g) => x = .ret ∧ eget e 4 = .bool false
  | (.inr g) => x = .ext 0 ∧ True
noncomputable def laws_eqInt64S_b1 (a1 : List Int) (a2 : List Int) : laws_eqInt64S_b1_S → Option (laws_eqInt64S_b1_S ⊕ laws_eqInt64S_b1_R) := fun s1_1 =>
 if (decide (s1_1 < (a1.length : Int))) = true then
  (rd a1 s1_1).bind fun x42 =>
  (rd a2 s1_1).bind fun x44 =>
  if (x42 != x44) = true then
   some (.inr (.inl ()))
  else
   some (.inl (IntKind.i64.wrap (s1_1 + 1)))
 else
  some (.inr (.inr ()))
theorem laws_eqInt64S_b1_ok (a1 : List Int) (a2 : List Int) (s : laws_eqInt64S_b1_S) (r : laws_eqInt64S_b1_S ⊕ laws_eqInt64S_b1_R) (h : laws_eqInt64S_b1 a1 a2 s = some r) (e : Env) (M : Mem) (hs : laws_eqInt64S_b1_RS a1 a2 s e M) : Ev (fun k => (f12_l4 (CN k) k (prune [0, 1, 5] e) M).bind fun q => some q) (bQ (laws_eqInt64S_b1_RS a1 a2) (laws_eqInt64S_b1_RR a1 a2) r) := by
 revert h hs
 revert s
 intro s1_1 h hs
 unfold laws_eqInt64S_b1 at h
 obtain ⟨h29, h31, h33⟩ := hs
 generalize he28 : prune [0, 1, 5] e = e27
 have h30 := envp he28.symm rfl h29
 have h32 := envp he28.symm rfl h31
 have h34 := envp he28.symm rfl h33
 refine sq (sq (Rg (kx (mvO h34) (kx (mvO h30) (kx (lnS Try.underlying24 rfl) (kx (bLss rfl rfl) (Rn (hV (.sl none (a1.map (cI .i64))) h30 (hV (.sl none (a2.map (cI .i64))) h32 (hV (.int .i64 s1_1) h34 (hN rfl hZ)))) fun e35 h37 h38 h39 h40 => sN ?_)))))))
 clear h30 h32 h34
 rcases ite_some h with ⟨hb41, h⟩ | ⟨hb41, h⟩
 ·obtain ⟨x42, hx43, h⟩ := bind_some h
  obtain ⟨x44, hx45, h⟩ := bind_some h
  refine cT h40 hb41 (xx (sN (sq (bl (sq (Rd (kf (mvO h37) (kf (mvO h39) (kf (ixS rfl rfl hx43 (cI_fl _)) (kf (ldP rfl rfl) (kf (mvO h38) (kf (mvO h39) (kf (ixS rfl rfl hx45 (cI_fl _)) (kf (ldP rfl rfl) (kf (bNeq rfl rfl) (fZ (Rn (hA h37 (hA h38 (hA h39 (hN rfl hZ)))) fun e46 h48 h49 h50 h51 => sN ?_)))))))))))))))))
  clear h37 h38 h39 h40
  rcases ite_some h with ⟨hb52, h⟩ | ⟨hb52, h⟩
  ·refine cT h51 hb52 (sq (Rg (kx (mvO rfl) (Rn (hV (.bool false) rfl hZ) fun e53 h55 => sN (xx (bR (sR ?_)))))))
   clear h48 h49 h50 h51
   obtain rfl := si h
   exact qR ⟨rfl, h55⟩
  refine cF h51 hb52 (xx (bN (sN (Rg (kx (mvO h50) (kx (bAdd rfl rfl) (kx (mvO rfl) (Rn (hA h48 (hA h49 (hN rfl hZ))) fun e56 h58 h59 h60 => ?_))))))))
  clear h48 h49 h51
  obtain rfl := si h
  exact qN ⟨h58, h59, h60⟩
 refine cF h40 hb41 (xx (sE ?_))
 obtain rfl := si h
 exact qE ⟨rfl, trivial⟩
noncomputable def laws_eqInt64S (a1 : List Int) (a2 : List Int) : Option Bool :=
 if ((a1.length : Int) != (a2.length : Int)) = true then
  some false
 else
  (Lw (laws_eqInt64S_b1 a1 a2) 0).bind fun r => match r with
  | (.inl _) =>
   some false
  | (.inr _) =>
   some true
def laws_eqInt64S_enc (r : Bool) : AV := .bool r
theorem laws_eqInt64S_ok (a1 : List Int) (a2 : List Int) (r : Bool) (h : laws_eqInt64S a1 a2 = some r) : Ev (fun k => CN k 12 [.sl none (a1.map (cI .i64)), .sl none (a2.map (cI .i64))] []) (fun p => rRes p.2 p.1 = laws_eqInt64S_enc r) := by
 unfold laws_eqInt64S at h
 refine Ev.enter (F := fun k => f12 (CN k) k) (fun k => callN_eq rfl Try.func12 rfl rfl rfl (by decide +kernel) (f12_eq _ _)) (sq (Rg (kx (mvO rfl) (Rn (hN rfl (hN rfl hZ)) fun e1 h3 h4 => sN (sq (sq (Rg (kx (mvO h3) (kx (lnS Try.underlying24 rfl) (kx (mvO h4) (kx (lnS Try.underlying24 rfl) (kx (bNeq rfl rfl) (Rn (hA h3 (hA h4 (hN rfl hZ))) fun e5 h7 h8 h9 => sN ?_)))))))))))))
 clear h3 h4
 rcases ite_some h with ⟨hb10, h⟩ | ⟨hb10, h⟩
 ·refine cT h9 hb10 (sq (Rg (kx (mvO rfl) (Rn (hV (.bool false) rfl hZ) fun e11 h13 => sN (xx (sR ?_))))))
  clear h7 h8 h9
  obtain rfl := si h
  exact eR (resT h13 res0) rfl
 obtain ⟨r61, hr62, h⟩ := bind_some h
 refine cF h9 hb10 (xx (sN (sq (sq (Rg (kx (mvO rfl) (Rn (hA h7 (hA h8 (hV (.int .i64 0) rfl hZ))) fun e14 h16 h17 h18 => sN (bl ?_))))))))
 clear h7 h8 h9
 rcases r61 with _ | _
 ·refine Ev.loop (RS := laws_eqInt64S_b1_RS a1 a2) (RR := laws_eqInt64S_b1_RR a1 a2) (fun s r h e M hs => laws_eqInt64S_b1_ok a1 a2 s r h e M hs) hr62 ⟨h16, h17, h18⟩ fun x e64 M65 hq63 => ?_
  obtain ⟨rfl, h66⟩ := hq63
  refine bR (sR ?_)
  obtain rfl := si h
  exact eR (resT h66 res0) rfl
 refine Ev.loop (RS := laws_eqInt64S_b1_RS a1 a2) (RR := laws_eqInt64S_b1_RR a1 a2) (fun s r h e M hs => laws_eqInt64S_b1_ok a1 a2 s r h e M hs) hr62 ⟨h16, h17, h18⟩ fun x e67 M68 hq63 => ?_
 obtain ⟨rfl, _⟩ := hq63
 refine bE (sN (sq (Rg (kx (mvO rfl) (Rn (hV (.bool true) rfl hZ) fun e69 h71 => sN (xx ?_))))))
 obtain rfl := si h
 exact eR (resT h71 res0) rfl
/-! ### loop.example/g01263/laws.eqBook (f28) -/
noncomputable def laws_eqBook (a1 : Book) (a2 : Book) : Option Bool :=
 if (a1.Day != a2.Day) = true then
  some false
 else
  (laws_eqInt64S a1.Cash a2.Cash).bind fun r15 =>
  if r15 = true then
   (laws_eqTallyS a1.Tallies a2.Tallies).bind fun r23 =>
   if r23 = true then
    some true
   else
    some false
  else
   some false
def laws_eqBook_enc (r : Bool) : AV := .bool r
theorem laws_eqBook_ok (a1 : Book) (a2 : Book) (r : Bool) (h : laws_eqBook a1 a2 = some r) : Ev (fun k => CN k 28 [.agg [.int .i64 a1.Day, .sl none (a1.Cash.map (cI .i64)), .sl none (a1.Tallies.map Tally.c)], .agg [.int .i64 a2.Day, .sl none (a2.Cash.map (cI .i64)), .sl none (a2.Tallies.map Tally.c)]] []) (fun p => rRes p.2 p.1 = laws_eqBook_enc r) := by
 unfold laws_eqBook at h
 refine Ev.enter (F := fun k => f28 (CN k) k) (fun k => callN_eq rfl Try.func28 rfl rfl rfl (by decide +kernel) (f28_eq _ _)) (sq (Rg (kx (bxI rfl rfl ⟨rfl, rfl, by decide⟩) (kx (bxI rfl rfl ⟨rfl, rfl, by decide⟩) (kx (mvO rfl) (Rn (hN rfl (hN rfl hZ)) fun e1 h3 h4 => sN (sq (sq (Rg (kx (faP h3 ⟨ble rfl, blt rfl⟩ rfl) (kx (ldP rfl rfl) (kx (faP h4 ⟨ble rfl, blt rfl⟩ rfl) (kx (ldP rfl rfl) (kx (bNeq rfl rfl) (Rn (hA h3 (hA h4 (hN rfl hZ))) fun e5 h7 h8 h9 => sN ?_)))))))))))))))
 clear h3 h4
 rcases ite_some h with ⟨hb10, h⟩ | ⟨hb10, h⟩
 ·refine cT h9 hb10 (sq (Rg (kx (mvO rfl) (Rn (hV (.bool false) rfl hZ) fun e11 h13 => sN (xx (sR ?_))))))
  clear h7 h8 h9
  obtain rfl := si h
  exact eR (resT h13 res0) rfl
 obtain ⟨r15, hx14, h⟩ := bind_some h
 refine cF h9 hb10 (xx (sN (sq (sq (Rg (kx (faP h7 ⟨ble rfl, blt rfl⟩ rfl) (kx (ldP rfl rfl) (kx (faP h8 ⟨ble rfl, blt rfl⟩ rfl) (kx (ldP rfl rfl) (kc (cl (v := .bool r15) rfl (cns rfl (cns rfl rfl)) rfl (laws_eqInt64S_ok a1.Cash a2.Cash _ hx14) nm) (kx (uNot rfl) (Rn (hA h7 (hA h8 (hN rfl hZ))) fun e16 h18 h19 h20 => sN ?_))))))))))))
 clear h7 h8 h9
 rcases ite_some h with ⟨hb21, h⟩ | ⟨hb21, h⟩
 ·obtain ⟨r23, hx22, h⟩ := bind_some h
  refine cF h20 (congrArg Bool.not hb21) (xx (sN (sq (sq (Rg (kx (faP h18 ⟨ble rfl, blt rfl⟩ rfl) (kx (ldP rfl rfl) (kx (faP h19 ⟨ble rfl, blt rfl⟩ rfl) (kx (ldP rfl rfl) (kc (cl (v := .bool r23) rfl (cns rfl (cns rfl rfl)) rfl (laws_eqTallyS_ok a1.Tallies a2.Tallies _ hx22) nm) (kx (uNot rfl) (Rn (hN rfl hZ) fun e24 h26 => sN ?_))))))))))))
  clear h18 h19 h20
  rcases ite_some h with ⟨hb27, h⟩ | ⟨hb27, h⟩
  ·refine cF h26 (congrArg Bool.not hb27) (xx (sN (sq (Rg (kx (mvO rfl) (Rn (hV (.bool true) rfl hZ) fun e28 h30 => sN (xx ?_)))))))
   clear h26
   obtain rfl := si h
   exact eR (resT h30 res0) rfl
  refine cT h26 (congrArg Bool.not hb27) (sq (Rg (kx (mvO rfl) (Rn (hV (.bool false) rfl hZ) fun e31 h33 => sN (xx (sR ?_))))))
  clear h26
  obtain rfl := si h
  exact eR (resT h33 res0) rfl
 refine cT h20 (congrArg Bool.not hb21) (sq (Rg (kx (mvO rfl) (Rn (hV (.bool false) rfl hZ) fun e34 h36 => sN (xx (sR ?_))))))
 clear h18 h19 h20
 obtain rfl := si h
 exact eR (resT h36 res0) rfl
/-! ### loop.example/g01263/impl.LongestHeld$1 (f63) -/
noncomputable def impl_LongestHeld_1_pppp (a1 : Int) (a2 : Int) (a3 : Int) (a4 : List Int) (a5 : Int) (a6 : List Bool) : Option (Int × (List Int) × Int × (List Bool)) :=
 if (decide (a3 ≥ 0)) = true then
  (rd a4 a3).bind fun x11 =>
  (rd a4 a3).bind fun x13 =>
  (rd a6 a3).bind fun x32 =>
  some (a1, (a4.set a3.toNat (IntKind.i64.wrap (x11 + (IntKind.i64.wrap (a2 - a5))))), a2, (a6.set a3.toNat true))
 else
  some (a1, a4, a2, a6)
def impl_LongestHeld_1_pppp_Q (a1 : Int) (a2 : Int) (a3 : Int) (a4 : List Int) (a5 : Int) (a6 : List Bool) (j1 : Nat) (j2 : Nat) (j3 : Nat) (j4 : Nat) (j5 : Nat) (j6 : Nat) (M0 : Mem) (r : Int × (List Int) × Int × (List Bool)) (p : AV × Mem) : Prop := p.1 = .tup [] ∧ p.2[j1]? = some (.live ⟨.box, 2, 1, [[.int .i64 r.1]]⟩) ∧ p.2[j2]? = some (.live ⟨.box, 24, 1, [[.lsl j3 r.2.1.length 0 r.2.1.length]]⟩) ∧ p.2[j3]? = some (.live ⟨.grow, 2, 1, r.2.1.map (cI .i64)⟩) ∧ p.2[j4]? = some (.live ⟨.box, 2, 1, [[.int .i64 r.2.2.1]]⟩) ∧ p.2[j5]? = some (.live ⟨.box, 100, 1, [[.lsl j6 r.2.2.2.length 0 r.2.2.2.length]]⟩) ∧ p.2[j6]? = some (.live ⟨.grow, 4, 1, r.2.2.2.map cB⟩) ∧ Fr [j1, j2, j3, j4, j5, j6] M0 p.2 ∧ r.2.1.length = a4.length ∧ r.2.2.2.length = a6.length
theorem impl_LongestHeld_1_pppp_ok (a1 : Int) (a2 : Int) (a3 : Int) (a4 : List Int) (a5 : Int) (a6 : List Bool) (j1 : Nat) (j2 : Nat) (j3 : Nat) (j4 : Nat) (j5 : Nat) (j6 : Nat) (ne01 : j1 ≠ j2) (ne02 : j1 ≠ j3) (ne03 : j1 ≠ j4) (ne04 : j1 ≠ j5) (ne05 : j1 ≠ j6) (ne12 : j2 ≠ j3) (ne13 : j2 ≠ j4) (ne14 : j2 ≠ j5) (ne15 : j2 ≠ j6) (ne23 : j3 ≠ j4) (ne24 : j3 ≠ j5) (ne25 : j3 ≠ j6) (ne34 : j4 ≠ j5) (ne35 : j4 ≠ j6) (ne45 : j5 ≠ j6) (M0 : Mem) (oP1 : M0[j1]? = some (.live ⟨.box, 2, 1, [[.int .i64 a3]]⟩)) (oP2 : M0[j2]? = some (.live ⟨.box, 24, 1, [[.lsl j3 a4.length 0 a4.length]]⟩)) (oP3 : M0[j3]? = some (.live ⟨.grow, 2, 1, a4.map (cI .i64)⟩)) (oP4 : M0[j4]? = some (.live ⟨.box, 2, 1, [[.int .i64 a5]]⟩)) (oP5 : M0[j5]? = some (.live ⟨.box, 100, 1, [[.lsl j6 a6.length 0 a6.length]]⟩)) (oP6 : M0[j6]? = some (.live ⟨.grow, 4, 1, a6.map cB⟩)) (r : Int × (List Int) × Int × (List Bool)) (h : impl_LongestHeld_1_pppp a1 a2 a3 a4 a5 a6 = some r) : Ev (fun k => CN k 63 [.int .i64 a1, .int .i64 a2, .loc j1 1 0 0, .loc j2 1 0 0, .loc j4 1 0 0, .loc j5 1 0 0] M0) (impl_LongestHeld_1_pppp_Q a1 a2 a3 a4 a5 a6 j1 j2 j3 j4 j5 j6 M0 r) := by
 unfold impl_LongestHeld_1_pppp at h
 have fr0 : Fr [j1, j2, j3, j4, j5, j6] M0 M0 := Fr.refl
 refine Ev.enter (F := fun k => f63 (CN k) k) (fun k => callN_eq rfl Try.func63 rfl rfl rfl (by decide +kernel) (f63_eq _ _)) (sq (sq (Rg (kx (ldO rfl oP1 rfl rfl rfl) (kx (bGeq rfl rfl) (Rn (hN rfl (hN rfl (hV (.loc j1 1 0 0) rfl (hV (.loc j2 1 0 0) rfl (hV (.loc j4 1 0 0) rfl (hV (.loc j5 1 0 0) rfl (hN rfl hZ))))))) fun e1 h3 h4 h5 h6 h7 h8 h9 => sN ?_))))))
 rcases ite_some h with ⟨hb10, h⟩ | ⟨hb10, h⟩
 ·obtain ⟨x11, hx12, h⟩ := bind_some h
  obtain ⟨x13, hx14, h⟩ := bind_some h
  refine cT h9 hb10 (sq (Rd (kf (ldO h6 oP2 rfl rfl rfl) (kf (ldO h5 oP1 rfl rfl rfl) (kf (ixO rfl oP3 rfl rfl (rd_get hx12).1 (rd_lt hx12).2) (kf (ldO rfl oP3 (by simp) (rz hx12) rfl) (kf (mvO h4) (kf (ldO h7 oP4 rfl rfl rfl) (kf (bSub rfl rfl) (kf (bAdd rfl rfl) (kf (ixO rfl oP3 rfl rfl (rd_get hx14).1 (rd_lt hx14).2) (fZ (kw (stR (u := x13) (u' := (IntKind.i64.wrap (x11 + (IntKind.i64.wrap (a2 - a5))))) rfl rfl oP3 rfl (rz2 hx14) ⟨rfl, ble rfl⟩ rfl rfl) fun M15 hM16 => ?_)))))))))))))
  rw [Nat.zero_add] at hM16
  have o17 := set_ne hM16 ne02 oP1
  have o18 := set_ne hM16 ne12 oP2
  have o19 : M15[j3]? = some (.live ⟨.grow, 2, 1, (a4.set a3.toNat (IntKind.i64.wrap (x11 + (IntKind.i64.wrap (a2 - a5))))).map (cI .i64)⟩) := set_same hM16 oP3
  have o20 := set_ne hM16 (Ne.symm ne23) oP4
  have o21 := set_ne hM16 (Ne.symm ne24) oP5
  have o22 := set_ne hM16 (Ne.symm ne25) oP6
  have fr23 := Fr.setIn fr0 hM16 (by simp)
  have hx24 := rd_set (u' := (IntKind.i64.wrap (x11 + (IntKind.i64.wrap (a2 - a5))))) hx14
  obtain ⟨x32, hx33, h⟩ := bind_some h
  refine Rn (hA h3 (hA h4 (hA h5 (hA h7 (hA h8 hZ))))) fun e25 h27 h28 h29 h30 h31 => sN (Rg (kx (ldO h31 o21 rfl rfl rfl) (kx (ldO h29 o17 rfl rfl rfl) (kx (ixO rfl o22 rfl rfl (rd_get hx33).1 (rd_lt hx33).2) (kw (stR (u := x32) (u' := true) rfl rfl o22 rfl (rz2 hx33) ⟨rfl, ble rfl⟩ rfl rfl) fun M34 hM35 => ?_)))))
  clear h3 h4 h5 h6 h7 h8 h9
  rw [Nat.zero_add] at hM35
  have o36 := set_ne hM35 ne05 o17
  have o37 := set_ne hM35 ne15 o18
  have o38 := set_ne hM35 ne25 o19
  have o39 := set_ne hM35 ne35 o20
  have o40 := set_ne hM35 ne45 o21
  have o41 : M34[j6]? = some (.live ⟨.grow, 4, 1, (a6.set a3.toNat true).map cB⟩) := set_same hM35 o22
  have fr42 := Fr.setIn fr23 hM35 (by simp)
  have hx43 := rd_set (u' := true) hx33
  refine Rn (hA h27 (hA h28 (hA h29 (hA h30 hZ)))) fun e44 h46 h47 h48 h49 => sN (sq (Rg (kx (mvO h46) (kw (stO h48 rfl o36 rfl rfl ⟨rfl, ble rfl⟩ rfl rfl) fun M50 hM51 => ?_))))
  clear h27 h28 h29 h30 h31
  have o52 : M50[j1]? = some (.live ⟨.box, 2, 1, [[.int .i64 a1]]⟩) := set_same hM51 o36
  have o53 := set_ne hM51 (Ne.symm ne01) o37
  have o54 := set_ne hM51 (Ne.symm ne02) o38
  have o55 := set_ne hM51 (Ne.symm ne03) o39
  have o56 := set_ne hM51 (Ne.symm ne04) o40
  have o57 := set_ne hM51 (Ne.symm ne05) o41
  have fr58 := Fr.setIn fr42 hM51 (by simp)
  refine Rn (hA h47 (hA h49 hZ)) fun e59 h61 h62 => sN (Rg (kx (mvO h61) (kw (stO h62 rfl o55 rfl rfl ⟨rfl, ble rfl⟩ rfl rfl) fun M63 hM64 => ?_)))
  clear h46 h47 h48 h49
  have o65 := set_ne hM64 ne03 o52
  have o66 := set_ne hM64 ne13 o53
  have o67 := set_ne hM64 ne23 o54
  have o68 : M63[j4]? = some (.live ⟨.box, 2, 1, [[.int .i64 a2]]⟩) := set_same hM64 o55
  have o69 := set_ne hM64 (Ne.symm ne34) o56
  have o70 := set_ne hM64 (Ne.symm ne35) o57
  have fr71 := Fr.setIn fr58 hM64 (by simp)
  refine Rn hZ fun e72 => ?_
  clear h61 h62
  obtain rfl := si h
  exact eN res0 ⟨rfl, o65, (by simpa using o66), o67, o68, (by simpa using o69), o70, fr71, (by first | rfl | simp), (by first | rfl | simp)⟩
 refine cF h9 hb10 (xx (sN (sq (Rg (kx (mvO h3) (kw (stO h5 rfl oP1 rfl rfl ⟨rfl, ble rfl⟩ rfl rfl) fun M74 hM75 => ?_))))))
 have o76 : M74[j1]? = some (.live ⟨.box, 2, 1, [[.int .i64 a1]]⟩) := set_same hM75 oP1
 have o77 := set_ne hM75 (Ne.symm ne01) oP2
 have o78 := set_ne hM75 (Ne.symm ne02) oP3
 have o79 := set_ne hM75 (Ne.symm ne03) oP4
 have o80 := set_ne hM75 (Ne.symm ne04) oP5
 have o81 := set_ne hM75 (Ne.symm ne05) oP6
 have fr82 := Fr.setIn fr0 hM75 (by simp)
 refine Rn (hA h4 (hA h7 hZ)) fun e83 h85 h86 => sN (Rg (kx (mvO h85) (kw (stO h86 rfl o79 rfl rfl ⟨rfl, ble rfl⟩ rfl rfl) fun M87 hM88 => ?_)))
 clear h3 h4 h5 h6 h7 h8 h9
 have o89 := set_ne hM88 ne03 o76
 have o90 := set_ne hM88 ne13 o77
 have o91 := set_ne hM88 ne23 o78
 have o92 : M87[j4]? = some (.live ⟨.box, 2, 1, [[.int .i64 a2]]⟩) := set_same hM88 o79
 have o93 := set_ne hM88 (Ne.symm ne34) o80
 have o94 := set_ne hM88 (Ne.symm ne35) o81
 have fr95 := Fr.setIn fr82 hM88 (by simp)
 refine Rn hZ fun e96 => ?_
 clear h85 h86
 obtain rfl := si h
 exact eN res0 ⟨rfl, o89, o90, o91, o92, o93, o94, fr95, (by first | rfl | simp), (by first | rfl | simp)⟩
/-! ### loop.example/g01263/impl.LongestHeld (f27) -/
def impl_LongestHeld_c1_Q (a1 : Book) (a2 : List Deal) (a3 : Int) (g : Int) (q : Out) : Prop := q.1 = .nrm ∧ eget q.2.1 1 = .sl none (a2.map Deal.c) ∧ eget q.2.1 2 = .int .i64 a3 ∧ eget q.2.1 3 = .pt none [.int .i64 a1.Day, .sl none (a1.Cash.map (cI .i64)), .sl none (a1.Tallies.map Tally.c)] ∧ eget q.2.1 9 = .nils ∧ eget q.2.1 11 = .int .i64 g
def impl_LongestHeld_c2_Q (a1 : Book) (a2 : List Deal) (y56 : Int) (x62 : List Int) (x86 : List Bool) (i902_1 : Nat) (i902_2 : Nat) (i902_3 : Nat) (i902_4 : Nat) (i902_5 : Nat) (i902_6 : Nat) (g : Int) (q : Out) : Prop := q.1 = .nrm ∧ eget q.2.1 1 = .sl none (a2.map Deal.c) ∧ eget q.2.1 9 = .nils ∧ eget q.2.1 11 = .int .i64 y56 ∧ eget q.2.1 12 = .loc i902_2 1 0 0 ∧ eget q.2.1 13 = .loc i902_4 1 0 0 ∧ eget q.2.1 14 = .loc i902_5 1 0 0 ∧ eget q.2.1 15 = .loc (i902_5 + 1) 1 0 0 ∧ q.2.2[i902_5]? = some (.live ⟨.box, 2, 1, [[.int .i64 g]]⟩) ∧ q.2.2[(i902_5 + 1)]? = some (.live ⟨.box, 2, 1, [[.int .i64 a1.Day]]⟩) ∧ q.2.2[i902_1]? = some (.live ⟨.grow, 2, 1, x62.map (cI .i64)⟩) ∧ q.2.2[i902_2]? = some (.live ⟨.box, 24, 1, [[.lsl i902_1 x62.length 0 x62.length]]⟩) ∧ q.2.2[i902_3]? = some (.live ⟨.grow, 4, 1, x86.map cB⟩) ∧ q.2.2[i902_4]? = some (.live ⟨.box, 100, 1, [[.lsl i902_3 x86.length 0 x86.length]]⟩)
abbrev impl_LongestHeld_b1_S := Int
abbrev impl_LongestHeld_b1_R := Unit
def impl_LongestHeld_b1_RS (a1 : Book) (a2 : List Deal) (y56 : Int) (x62 : List Int) (x86 : List Bool) (y201 : Int) (i1_1 : Nat) (i1_2 : Nat) (i1_3 : Nat) (i1_4 : Nat) (i1_5 : Nat) (i1_6 : Nat) (s : impl_LongestHeld_b1_S) (e : Env) (M : Mem) : Prop := eget e 1 = .sl none (a2.map Deal.c) ∧ eget e 11 = .int .i64 y56 ∧ eget e 12 = .loc i1_4 1 0 0 ∧ eget e 13 = .loc i1_6 1 0 0 ∧ eget e 16 = .fn 63 [.loc i1_2 1 0 0, .loc i1_4 1 0 0, .loc i1_1 1 0 0, .loc i1_6 1 0 0] ∧ eget e 67 = .nils ∧ eget e 68 = .int .i64 0 ∧ eget e 69 = .int .i64 s ∧ M[i1_2]? = some (.live ⟨.box, 2, 1, [[.int .i64 y201]]⟩) ∧ M[i1_1]? = some (.live ⟨.box, 2, 1, [[.int .i64 a1.Day]]⟩) ∧ M[i1_3]? = some (.live ⟨.grow, 2, 1, x62.map (cI .i64)⟩) ∧ M[i1_4]? = some (.live ⟨.box, 24, 1, [[.lsl i1_3 x62.length 0 x62.length]]⟩) ∧ M[i1_5]? = some (.live ⟨.grow, 4, 1, x86.map cB⟩) ∧ M[i1_6]? = some (.live ⟨.box, 100, 1, [[.lsl i1_5 x86.length 0 x86.length]]⟩)
def impl_LongestHeld_b1_RR (a1 : Book) (a2 : List Deal) (y56 : Int) (x62 : List Int) (x86 : List Bool) (y201 : Int) (i1_1 : Nat) (i1_2 : Nat) (i1_3 : Nat) (i1_4 : Nat) (i1_5 : Nat) (i1_6 : Nat) (g : impl_LongestHeld_b1_R) (x : Ex) (e : Env) (M : Mem) : Prop := x = .ext 0 ∧ eget e 11 = .int .i64 y56 ∧ eget e 12 = .loc i1_4 1 0 0 ∧ eget e 13 = .loc i1_6 1 0 0 ∧ eget e 16 = .fn 63 [.loc i1_2 1 0 0, .loc i1_4 1 0 0, .loc i1_1 1 0 0, .loc i1_6 1 0 0] ∧ M[i1_2]? = some (.live ⟨.box, 2, 1, [[.int .i64 y201]]⟩) ∧ M[i1_1]? = some (.live ⟨.box, 2, 1, [[.int .i64 a1.Day]]⟩) ∧ M[i1_3]? = some (.live ⟨.grow, 2, 1, x62.map (cI .i64)⟩) ∧ M[i1_4]? = some (.live ⟨.box, 24, 1, [[.lsl i1_3 x62.length 0 x62.length]]⟩) ∧ M[i1_5]? = some (.live ⟨.grow, 4, 1, x86.map cB⟩) ∧ M[i1_6]? = some (.live ⟨.box, 100, 1, [[.lsl i1_5 x86.length 0 x86.length]]⟩)
noncomputable def impl_LongestHeld_b1 : impl_LongestHeld_b1_S → Option (impl_LongestHeld_b1_S ⊕ impl_LongestHeld_b1_R) := fun s1_1 =>
 if (decide (s1_1 < 0)) = true then
  none
 else
  some (.inr ())
theorem impl_LongestHeld_b1_ok (a1 : Book) (a2 : List Deal) (y56 : Int) (x62 : List Int) (x86 : List Bool) (y201 : Int) (i1_1 : Nat) (i1_2 : Nat) (i1_3 : Nat) (i1_4 : Nat) (i1_5 : Nat) (i1_6 : Nat) (ne138 : i1_2 ≠ i1_1) (ne129 : i1_3 ≠ i1_2) (ne134 : i1_3 ≠ i1_1) (ne72 : i1_3 ≠ i1_4) (ne92 : i1_3 ≠ i1_5) (ne100 : i1_3 ≠ i1_6) (ne130 : i1_4 ≠ i1_2) (ne135 : i1_4 ≠ i1_1) (ne94 : i1_4 ≠ i1_5) (ne102 : i1_4 ≠ i1_6) (ne131 : i1_5 ≠ i1_2) (ne136 : i1_5 ≠ i1_1) (ne104 : i1_5 ≠ i1_6) (ne132 : i1_6 ≠ i1_2) (ne137 : i1_6 ≠ i1_1) (s : impl_LongestHeld_b1_S) (r : impl_LongestHeld_b1_S ⊕ impl_LongestHeld_b1_R) (h : impl_LongestHeld_b1 s = some r) (e : Env) (M : Mem) (hs : impl_LongestHeld_b1_RS a1 a2 y56 x62 x86 y201 i1_1 i1_2 i1_3 i1_4 i1_5 i1_6 s e M) : Ev (fun k => (f27_l14 (CN k) k (prune [1, 11, 12, 13, 16, 67, 68, 69] e) M).bind fun q => some q) (bQ (impl_LongestHeld_b1_RS a1 a2 y56 x62 x86 y201 i1_1 i1_2 i1_3 i1_4 i1_5 i1_6) (impl_LongestHeld_b1_RR a1 a2 y56 x62 x86 y201 i1_1 i1_2 i1_3 i1_4 i1_5 i1_6) r) := by
 revert h hs
 revert s
 intro s1_1 h hs
 unfold impl_LongestHeld_b1 at h
 obtain ⟨h259, h261, h263, h265, h267, h269, h271, h273, o275, o276, o277, o278, o279, o280⟩ := hs
 generalize he258 : prune [1, 11, 12, 13, 16, 67, 68, 69] e = e257
 have h260 := envp he258.symm rfl h259
 have h262 := envp he258.symm rfl h261
 have h264 := envp he258.symm rfl h263
 have h266 := envp he258.symm rfl h265
 have h268 := envp he258.symm rfl h267
 have h270 := envp he258.symm rfl h269
 have h272 := envp he258.symm rfl h271
 have h274 := envp he258.symm rfl h273
 refine sq (Rg (kx (bLss h274 h272) (Rn (hV (.sl none (a2.map Deal.c)) h260 (hV (.int .i64 y56) h262 (hV (.loc i1_4 1 0 0) h264 (hV (.loc i1_6 1 0 0) h266 (hV (.fn 63 [.loc i1_2 1 0 0, .loc i1_4 1 0 0, .loc i1_1 1 0 0, .loc i1_6 1 0 0]) h268 (hV .nils h270 (hV (.int .i64 0) h272 (hV (.int .i64 s1_1) h274 (hN rfl hZ))))))))) fun e281 h283 h284 h285 h286 h287 h288 h289 h290 h291 => sN (sq ?_))))
 clear h260 h262 h264 h266 h268 h270 h272 h274
 rcases ite_some h with ⟨hb292, h⟩ | ⟨hb292, h⟩
 ·refine cT h291 hb292 (xx (sN (sq (bl (sq (Rg ?_))))))
  cases h
 refine cF h291 hb292 (xx (sE ?_))
 obtain rfl := si h
 exact qE ⟨rfl, h284, h285, h286, h287, o275, o276, o277, o278, o279, o280⟩
abbrev impl_LongestHeld_b2_S := Int × Int
abbrev impl_LongestHeld_b2_R := Int
def impl_LongestHeld_b2_RS (r310 : List Int) (r312 : List Bool) (i2_1 : Nat) (i2_2 : Nat) (i2_3 : Nat) (i2_4 : Nat) (s : impl_LongestHeld_b2_S) (e : Env) (M : Mem) : Prop := eget e 12 = .loc i2_2 1 0 0 ∧ eget e 13 = .loc i2_4 1 0 0 ∧ eget e 20 = .int .i64 s.1 ∧ eget e 95 = .lsl i2_1 r310.length 0 r310.length ∧ eget e 96 = .int .i64 (r310.length : Int) ∧ eget e 97 = .int .i64 s.2 ∧ M[i2_1]? = some (.live ⟨.grow, 2, 1, r310.map (cI .i64)⟩) ∧ M[i2_2]? = some (.live ⟨.box, 24, 1, [[.lsl i2_1 r310.length 0 r310.length]]⟩) ∧ M[i2_3]? = some (.live ⟨.grow, 4, 1, r312.map cB⟩) ∧ M[i2_4]? = some (.live ⟨.box, 100, 1, [[.lsl i2_3 r312.length 0 r312.length]]⟩)
def impl_LongestHeld_b2_RR (r310 : List Int) (r312 : List Bool) (i2_1 : Nat) (i2_2 : Nat) (i2_3 : Nat) (i2_4 : Nat) (g : impl_LongestHeld_b2_R) (x : Ex) (e : Env) (M : Mem) : Prop := x = .ext 2 ∧ eget e 12 = .loc i2_2 1 0 0 ∧ eget e 20 = .int .i64 g ∧ M[i2_1]? = some (.live ⟨.grow, 2, 1, r310.map (cI .i64)⟩) ∧ M[i2_2]? = some (.live ⟨.box, 24, 1, [[.lsl i2_1 r310.length 0 r310.length]]⟩) ∧ M[i2_3]? = some (.live ⟨.grow, 4, 1, r312.map cB⟩) ∧ M[i2_4]? = some (.live ⟨.box, 100, 1, [[.lsl i2_3 r312.length 0 r312.length]]⟩)
noncomputable def impl_LongestHeld_b2 (r310 : List Int) (r312 : List Bool) : impl_LongestHeld_b2_S → Option (impl_LongestHeld_b2_S ⊕ impl_LongestHeld_b2_R) := fun (s2_1, s2_2) =>
 if (decide (s2_2 < (r310.length : Int))) = true then
  (rd r310 s2_2).bind fun x394 =>
  (rd r312 s2_2).bind fun x406 =>
  if x406 = true then
   if (decide (s2_1 < 0)) = true then
    some (.inl (s2_2, (IntKind.i64.wrap (s2_2 + 1))))
   else
    (rd r310 s2_1).bind fun x436 =>
    if (decide (x394 > x436)) = true then
     some (.inl (s2_2, (IntKind.i64.wrap (s2_2 + 1))))
    else
     some (.inl (s2_1, (IntKind.i64.wrap (s2_2 + 1))))
  else
   some (.inl (s2_1, (IntKind.i64.wrap (s2_2 + 1))))
 else
  some (.inr s2_1)
theorem impl_LongestHeld_b2_ok (r310 : List Int) (r312 : List Bool) (i2_1 : Nat) (i2_2 : Nat) (i2_3 : Nat) (i2_4 : Nat) (ne72 : i2_1 ≠ i2_2) (ne92 : i2_1 ≠ i2_3) (ne100 : i2_1 ≠ i2_4) (ne94 : i2_2 ≠ i2_3) (ne102 : i2_2 ≠ i2_4) (ne104 : i2_3 ≠ i2_4) (s : impl_LongestHeld_b2_S) (r : impl_LongestHeld_b2_S ⊕ impl_LongestHeld_b2_R) (h : impl_LongestHeld_b2 r310 r312 s = some r) (e : Env) (M : Mem) (hs : impl_LongestHeld_b2_RS r310 r312 i2_1 i2_2 i2_3 i2_4 s e M) : Ev (fun k => (f27_l23 (CN k) k (prune [12, 13, 20, 95, 96, 97] e) M).bind fun q => some q) (bQ (impl_LongestHeld_b2_RS r310 r312 i2_1 i2_2 i2_3 i2_4) (impl_LongestHeld_b2_RR r310 r312 i2_1 i2_2 i2_3 i2_4) r) := by
 obtain ⟨s2_1, s2_2⟩ := s
 unfold impl_LongestHeld_b2 at h
 obtain ⟨h368, h370, h372, h374, h376, h378, o380, o381, o382, o383⟩ := hs
 generalize he367 : prune [12, 13, 20, 95, 96, 97] e = e366
 have h369 := envp he367.symm rfl h368
 have h371 := envp he367.symm rfl h370
 have h373 := envp he367.symm rfl h372
 have h375 := envp he367.symm rfl h374
 have h377 := envp he367.symm rfl h376
 have h379 := envp he367.symm rfl h378
 refine sq (Rg (kx (bLss h379 h377) (Rn (hV (.loc i2_2 1 0 0) h369 (hV (.loc i2_4 1 0 0) h371 (hV (.int .i64 s2_1) h373 (hV (.lsl i2_1 r310.length 0 r310.length) h375 (hV (.int .i64 (r310.length : Int)) h377 (hV (.int .i64 s2_2) h379 (hN rfl hZ))))))) fun e384 h386 h387 h388 h389 h390 h391 h392 => sN (sq ?_))))
 clear h369 h371 h373 h375 h377 h379
 rcases ite_some h with ⟨hb393, h⟩ | ⟨hb393, h⟩
 ·obtain ⟨x394, hx395, h⟩ := bind_some h
  obtain ⟨x406, hx407, h⟩ := bind_some h
  refine cT h392 hb393 (xx (sN (sq (bl (sq (Rg (kx (mvO h391) (kx (ixO h389 o380 rfl h391 (rd_get hx395).1 (rd_lt hx395).2) (kx (ldO rfl o380 (by simp) (rz hx395) rfl) (kx (mvO rfl) (kx (mvO rfl) (Rn (hA h386 (hA h387 (hA h388 (hN rfl (hN rfl (hA h389 (hA h390 (hA h391 hZ)))))))) fun e396 h398 h399 h400 h401 h402 h403 h404 h405 => sN (sq (Rg (kx (ldO h399 o383 rfl rfl rfl) (kx (mvO h401) (kx (ixO rfl o382 rfl rfl (rd_get hx407).1 (rd_lt hx407).2) (kx (ldO rfl o382 (by simp) (rz hx407) rfl) (kx (mvO rfl) ?_)))))))))))))))))))
  clear h386 h387 h388 h389 h390 h391 h392
  rcases ite_some h with ⟨hb408, h⟩ | ⟨hb408, h⟩
  ·refine kx (guT rfl hb408 (mvO h400)) (kx (guT rfl hb408 (bLss rfl rfl)) (kx (guT rfl hb408 (mvO rfl)) ?_))
   rcases ite_some h with ⟨hb409, h⟩ | ⟨hb409, h⟩
   ·refine kx (gsF rfl hb409) (kx (gsF rfl hb409) (kx (gsF rfl hb409) (kx (gsF rfl hb409) (kx (gsF rfl hb409) (kx (gsF rfl hb409) (kx (guT rfl hb408 (pkT rfl hb409 rfl)) (kx (pkT rfl hb408 rfl) (Rn (hA h398 (hA h399 (hA h400 (hA h401 (hA h403 (hA h404 (hA h405 (hV (.bool true) rfl hZ)))))))) fun e410 h412 h413 h414 h415 h416 h417 h418 h419 => sN (cT h419 rfl (Rg (kx (mvO h415) (kx (mvO rfl) (Rn (hA h412 (hA h413 (hN rfl (hA h416 (hA h417 (hA h418 hZ)))))) fun e420 h422 h423 h424 h425 h426 h427 => bN (sN (Rg (kx (bAdd h427 rfl) (kx (mvO rfl) (Rn (hA h422 (hA h423 (hA h424 (hA h425 (hA h426 (hN rfl hZ)))))) fun e428 h430 h431 h432 h433 h434 h435 => ?_))))))))))))))))))
    clear h398 h399 h400 h401 h402 h403 h404 h405 h412 h413 h415 h416 h417 h418 h419 h422 h423 h424 h425 h426
    obtain rfl := si h
    exact qN ⟨h430, h431, h432, h433, h434, h435, o380, o381, o382, o383⟩
   obtain ⟨x436, hx437, h⟩ := bind_some h
   refine kx (guF rfl hb409 (mvO h402)) (kx (guF rfl hb409 (ldO h398 o381 rfl rfl rfl)) (kx (guF rfl hb409 (mvO h400)) (kx (guF rfl hb409 (ixO rfl o380 rfl rfl (rd_get hx437).1 (rd_lt hx437).2)) (kx (guF rfl hb409 (ldO rfl o380 (by simp) (rz hx437) rfl)) (kx (guF rfl hb409 (bGtr rfl rfl)) (kx (guT rfl hb408 (pkF rfl hb409 rfl)) (kx (pkT rfl hb408 rfl) (Rn (hA h398 (hA h399 (hA h400 (hA h401 (hA h403 (hA h404 (hA h405 (hN rfl hZ)))))))) fun e438 h440 h441 h442 h443 h444 h445 h446 h447 => sN ?_))))))))
   clear h398 h399 h400 h401 h402 h403 h404 h405
   rcases ite_some h with ⟨hb448, h⟩ | ⟨hb448, h⟩
   ·refine cT h447 hb448 (Rg (kx (mvO h443) (kx (mvO rfl) (Rn (hA h440 (hA h441 (hN rfl (hA h444 (hA h445 (hA h446 hZ)))))) fun e449 h451 h452 h453 h454 h455 h456 => bN (sN (Rg (kx (bAdd h456 rfl) (kx (mvO rfl) (Rn (hA h451 (hA h452 (hA h453 (hA h454 (hA h455 (hN rfl hZ)))))) fun e457 h459 h460 h461 h462 h463 h464 => ?_)))))))))
    clear h440 h441 h443 h444 h445 h446 h447 h451 h452 h453 h454 h455
    obtain rfl := si h
    exact qN ⟨h459, h460, h461, h462, h463, h464, o380, o381, o382, o383⟩
   refine cF h447 hb448 (xx (bN (sN (Rg (kx (bAdd h446 rfl) (kx (mvO rfl) (Rn (hA h440 (hA h441 (hA h442 (hA h444 (hA h445 (hN rfl hZ)))))) fun e465 h467 h468 h469 h470 h471 h472 => ?_)))))))
   clear h440 h441 h442 h443 h444 h445 h447
   obtain rfl := si h
   exact qN ⟨h467, h468, h469, h470, h471, h472, o380, o381, o382, o383⟩
  refine kx (gsT rfl hb408) (kx (gsT rfl hb408) (kx (gsT rfl hb408) (kx (gsU rfl) (kx (gsU rfl) (kx (gsU rfl) (kx (gsU rfl) (kx (gsU rfl) (kx (gsU rfl) (kx (gsT rfl hb408) (kx (pkF rfl hb408 rfl) (Rn (hA h398 (hA h399 (hA h400 (hA h401 (hA h403 (hA h404 (hA h405 (hV (.bool false) rfl hZ)))))))) fun e473 h475 h476 h477 h478 h479 h480 h481 h482 => sN (cF h482 rfl (xx (bN (sN (Rg (kx (bAdd h481 rfl) (kx (mvO rfl) (Rn (hA h475 (hA h476 (hA h477 (hA h479 (hA h480 (hN rfl hZ)))))) fun e483 h485 h486 h487 h488 h489 h490 => ?_)))))))))))))))))))
  clear h398 h399 h400 h401 h402 h403 h404 h405 h475 h476 h477 h478 h479 h480 h482
  obtain rfl := si h
  exact qN ⟨h485, h486, h487, h488, h489, h490, o380, o381, o382, o383⟩
 refine cF h392 hb393 (xx (sE ?_))
 obtain rfl := si h
 exact qE ⟨rfl, h386, h388, o380, o381, o382, o383⟩
def impl_LongestHeld_c3_Q (a1 : Book) (a2 : List Deal) (a3 : Int) (r516 : List Int) (g : Int) (q : Out) : Prop := q.1 = .nrm ∧ eget q.2.1 1 = .sl none (a2.map Deal.c) ∧ eget q.2.1 2 = .int .i64 a3 ∧ eget q.2.1 3 = .pt none [.int .i64 a1.Day, .sl none (a1.Cash.map (cI .i64)), .sl none (a1.Tallies.map Tally.c)] ∧ eget q.2.1 9 = .sl (some 2) (r516.map (cI .i64)) ∧ eget q.2.1 11 = .int .i64 g
def impl_LongestHeld_c4_Q (a1 : Book) (a2 : List Deal) (r516 : List Int) (y559 : Int) (x565 : List Int) (x589 : List Bool) (i904_1 : Nat) (i904_2 : Nat) (i904_3 : Nat) (i904_4 : Nat) (i904_5 : Nat) (i904_6 : Nat) (g : Int) (q : Out) : Prop := q.1 = .nrm ∧ eget q.2.1 1 = .sl none (a2.map Deal.c) ∧ eget q.2.1 9 = .sl (some 2) (r516.map (cI .i64)) ∧ eget q.2.1 11 = .int .i64 y559 ∧ eget q.2.1 12 = .loc i904_2 1 0 0 ∧ eget q.2.1 13 = .loc i904_4 1 0 0 ∧ eget q.2.1 14 = .loc i904_5 1 0 0 ∧ eget q.2.1 15 = .loc (i904_5 + 1) 1 0 0 ∧ q.2.2[i904_1]? = some (.live ⟨.grow, 2, 1, x565.map (cI .i64)⟩) ∧ q.2.2[i904_2]? = some (.live ⟨.box, 24, 1, [[.lsl i904_1 x565.length 0 x565.length]]⟩) ∧ q.2.2[i904_3]? = some (.live ⟨.grow, 4, 1, x589.map cB⟩) ∧ q.2.2[i904_4]? = some (.live ⟨.box, 100, 1, [[.lsl i904_3 x589.length 0 x589.length]]⟩) ∧ q.2.2[i904_5]? = some (.live ⟨.box, 2, 1, [[.int .i64 g]]⟩) ∧ q.2.2[(i904_5 + 1)]? = some (.live ⟨.box, 2, 1, [[.int .i64 a1.Day]]⟩)
abbrev impl_LongestHeld_b3_S := Int × (List Int) × (List Bool) × Int × Int
abbrev impl_LongestHeld_b3_R := (List Int) × (List Bool) × Int × Int
def impl_LongestHeld_b3_RS (a2 : List Deal) (r516 : List Int) (y559 : Int) (x565 : List Int) (x589 : List Bool) (i3_1 : Nat) (i3_2 : Nat) (i3_3 : Nat) (i3_4 : Nat) (i3_5 : Nat) (i3_6 : Nat) (s : impl_LongestHeld_b3_S) (e : Env) (M : Mem) : Prop := eget e 1 = .sl none (a2.map Deal.c) ∧ eget e 11 = .int .i64 y559 ∧ eget e 12 = .loc i3_3 1 0 0 ∧ eget e 13 = .loc i3_5 1 0 0 ∧ eget e 16 = .fn 63 [.loc i3_6 1 0 0, .loc i3_3 1 0 0, .loc i3_1 1 0 0, .loc i3_5 1 0 0] ∧ eget e 67 = .sl (some 2) (r516.map (cI .i64)) ∧ eget e 68 = .int .i64 (r516.length : Int) ∧ eget e 69 = .int .i64 s.1 ∧ M[i3_2]? = some (.live ⟨.grow, 2, 1, s.2.1.map (cI .i64)⟩) ∧ M[i3_3]? = some (.live ⟨.box, 24, 1, [[.lsl i3_2 x565.length 0 x565.length]]⟩) ∧ M[i3_4]? = some (.live ⟨.grow, 4, 1, s.2.2.1.map cB⟩) ∧ M[i3_5]? = some (.live ⟨.box, 100, 1, [[.lsl i3_4 x589.length 0 x589.length]]⟩) ∧ M[i3_6]? = some (.live ⟨.box, 2, 1, [[.int .i64 s.2.2.2.1]]⟩) ∧ M[i3_1]? = some (.live ⟨.box, 2, 1, [[.int .i64 s.2.2.2.2]]⟩) ∧ s.2.1.length = x565.length ∧ s.2.2.1.length = x589.length
def impl_LongestHeld_b3_RR (a2 : List Deal) (r516 : List Int) (y559 : Int) (x565 : List Int) (x589 : List Bool) (i3_1 : Nat) (i3_2 : Nat) (i3_3 : Nat) (i3_4 : Nat) (i3_5 : Nat) (i3_6 : Nat) (g : impl_LongestHeld_b3_R) (x : Ex) (e : Env) (M : Mem) : Prop := x = .ext 0 ∧ eget e 11 = .int .i64 y559 ∧ eget e 12 = .loc i3_3 1 0 0 ∧ eget e 13 = .loc i3_5 1 0 0 ∧ eget e 16 = .fn 63 [.loc i3_6 1 0 0, .loc i3_3 1 0 0, .loc i3_1 1 0 0, .loc i3_5 1 0 0] ∧ M[i3_2]? = some (.live ⟨.grow, 2, 1, g.1.map (cI .i64)⟩) ∧ M[i3_3]? = some (.live ⟨.box, 24, 1, [[.lsl i3_2 x565.length 0 x565.length]]⟩) ∧ M[i3_4]? = some (.live ⟨.grow, 4, 1, g.2.1.map cB⟩) ∧ M[i3_5]? = some (.live ⟨.box, 100, 1, [[.lsl i3_4 x589.length 0 x589.length]]⟩) ∧ M[i3_6]? = some (.live ⟨.box, 2, 1, [[.int .i64 g.2.2.1]]⟩) ∧ M[i3_1]? = some (.live ⟨.box, 2, 1, [[.int .i64 g.2.2.2]]⟩) ∧ g.1.length = x565.length ∧ g.2.1.length = x589.length
noncomputable def impl_LongestHeld_b3 (a2 : List Deal) (r516 : List Int) : impl_LongestHeld_b3_S → Option (impl_LongestHeld_b3_S ⊕ impl_LongestHeld_b3_R) := fun (s3_1, s3_2, s3_3, s3_4, s3_5) =>
 if (decide (s3_1 < (r516.length : Int))) = true then
  (rd r516 s3_1).bind fun x798 =>
  (rd a2 x798).bind fun x811 =>
  if (x811.Kind == 1) = true then
   (impl_LongestHeld_1_pppp x811.To x811.Day s3_4 s3_2 s3_5 s3_3).bind fun (r865, r866, r867, r868) =>
   some (.inl ((IntKind.i64.wrap (s3_1 + 1)), r866, r868, r865, r867))
  else
   if (x811.Kind == 2) = true then
    (impl_LongestHeld_1_pppp x811.To x811.Day s3_4 s3_2 s3_5 s3_3).bind fun (r924, r925, r926, r927) =>
    some (.inl ((IntKind.i64.wrap (s3_1 + 1)), r925, r927, r924, r926))
   else
    some (.inl ((IntKind.i64.wrap (s3_1 + 1)), s3_2, s3_3, s3_4, s3_5))
 else
  some (.inr (s3_2, s3_3, s3_4, s3_5))
theorem impl_LongestHeld_b3_ok (a2 : List Deal) (r516 : List Int) (y559 : Int) (x565 : List Int) (x589 : List Bool) (i3_1 : Nat) (i3_2 : Nat) (i3_3 : Nat) (i3_4 : Nat) (i3_5 : Nat) (i3_6 : Nat) (ne575 : i3_2 ≠ i3_3) (ne595 : i3_2 ≠ i3_4) (ne603 : i3_2 ≠ i3_5) (ne632 : i3_2 ≠ i3_6) (ne637 : i3_2 ≠ i3_1) (ne597 : i3_3 ≠ i3_4) (ne605 : i3_3 ≠ i3_5) (ne633 : i3_3 ≠ i3_6) (ne638 : i3_3 ≠ i3_1) (ne607 : i3_4 ≠ i3_5) (ne634 : i3_4 ≠ i3_6) (ne639 : i3_4 ≠ i3_1) (ne635 : i3_5 ≠ i3_6) (ne640 : i3_5 ≠ i3_1) (ne641 : i3_6 ≠ i3_1) (s : impl_LongestHeld_b3_S) (r : impl_LongestHeld_b3_S ⊕ impl_LongestHeld_b3_R) (h : impl_LongestHeld_b3 a2 r516 s = some r) (e : Env) (M : Mem) (hs : impl_LongestHeld_b3_RS a2 r516 y559 x565 x589 i3_1 i3_2 i3_3 i3_4 i3_5 i3_6 s e M) : Ev (fun k => (f27_l14 (CN k) k (prune [1, 11, 12, 13, 16, 67, 68, 69] e) M).bind fun q => some q) (bQ (impl_LongestHeld_b3_RS a2 r516 y559 x565 x589 i3_1 i3_2 i3_3 i3_4 i3_5 i3_6) (impl_LongestHeld_b3_RR a2 r516 y559 x565 x589 i3_1 i3_2 i3_3 i3_4 i3_5 i3_6) r) := by
 obtain ⟨s3_1, s3_2, s3_3, s3_4, s3_5⟩ := s
 unfold impl_LongestHeld_b3 at h
 obtain ⟨h762, h764, h766, h768, h770, h772, h774, h776, o778, o779, o780, o781, o782, o783, hl784, hl785⟩ := hs
 generalize he761 : prune [1, 11, 12, 13, 16, 67, 68, 69] e = e760
 have h763 := envp he761.symm rfl h762
 have h765 := envp he761.symm rfl h764
 have h767 := envp he761.symm rfl h766
 have h769 := envp he761.symm rfl h768
 have h771 := envp he761.symm rfl h770
 have h773 := envp he761.symm rfl h772
 have h775 := envp he761.symm rfl h774
 have h777 := envp he761.symm rfl h776
 refine sq (Rg (kx (bLss h777 h775) (Rn (hV (.sl none (a2.map Deal.c)) h763 (hV (.int .i64 y559) h765 (hV (.loc i3_3 1 0 0) h767 (hV (.loc i3_5 1 0 0) h769 (hV (.fn 63 [.loc i3_6 1 0 0, .loc i3_3 1 0 0, .loc i3_1 1 0 0, .loc i3_5 1 0 0]) h771 (hV (.sl (some 2) (r516.map (cI .i64))) h773 (hV (.int .i64 (r516.length : Int)) h775 (hV (.int .i64 s3_1) h777 (hN rfl hZ))))))))) fun e786 h788 h789 h790 h791 h792 h793 h794 h795 h796 => sN (sq ?_))))
 clear h763 h765 h767 h769 h771 h773 h775 h777
 rcases ite_some h with ⟨hb797, h⟩ | ⟨hb797, h⟩
 ·obtain ⟨x798, hx799, h⟩ := bind_some h
  obtain ⟨x811, hx812, h⟩ := bind_some h
  refine cT h796 hb797 (xx (sN (sq (bl (sq (Rg (kx (ixS h793 h795 hx799 (cI_fl _)) (kx (ldP rfl rfl) (kx (mvO rfl) (Rn (hA h788 (hA h789 (hA h790 (hA h791 (hA h792 (hN rfl (hA h793 (hA h794 (hA h795 hZ))))))))) fun e800 h802 h803 h804 h805 h806 h807 h808 h809 h810 => sN (sq (Rg (kx (mvO h802) (kx (mvO h807) (kx (ixS rfl rfl hx812 Deal.fl) (kx (ldPA rfl rfl rfl) (ku (alO zero114) fun M814 hM815 => ?_)))))))))))))))))
  clear h788 h789 h790 h791 h792 h793 h794 h795 h796
  have o816 := push_old hM815 o778
  have ne817 := ne_new o778
  have o818 := push_old hM815 o779
  have ne819 := ne_new o779
  have o820 := push_old hM815 o780
  have ne821 := ne_new o780
  have o822 := push_old hM815 o781
  have ne823 := ne_new o781
  have o824 := push_old hM815 o782
  have ne825 := ne_new o782
  have o826 := push_old hM815 o783
  have ne827 := ne_new o783
  have o828 : M814[M.length]? = some (.live ⟨.box, 114, 6, [[.int .i64 0, .int .i8 0, .int .i64 0, .int .i64 0, .int .i64 0, .int .i64 0]]⟩) := push_new hM815
  refine kw (stO rfl rfl o828 rfl rfl ⟨rfl, ble rfl⟩ rfl rfl) fun M829 hM830 => ?_
  have o831 := set_ne hM830 ne817 o816
  have o832 := set_ne hM830 ne819 o818
  have o833 := set_ne hM830 ne821 o820
  have o834 := set_ne hM830 ne823 o822
  have o835 := set_ne hM830 ne825 o824
  have o836 := set_ne hM830 ne827 o826
  have o837 : M829[M.length]? = some (.live ⟨.box, 114, 6, [[.int .i64 x811.Day, .int .i8 x811.Kind, .int .i64 x811.Tally, .int .i64 x811.From, .int .i64 x811.To, .int .i64 x811.Amount]]⟩) := set_same hM830 o828
  refine Rn (hA h802 (hA h803 (hA h804 (hA h805 (hA h806 (hV (.loc M.length 1 0 0) rfl (hA h808 (hA h809 (hA h810 hZ))))))))) fun e838 h840 h841 h842 h843 h844 h845 h846 h847 h848 => sN (sq (Rg (kx (faO h845 o837 rfl) (kx (ldO rfl o837 rfl rfl rfl) (kx (bEql rfl rfl) (kx (mvO rfl) ?_))))))
  clear h802 h803 h804 h805 h806 h807 h808 h809 h810
  rcases ite_some h with ⟨hb849, h⟩ | ⟨hb849, h⟩
  ·refine kx (gsF rfl hb849) (kx (gsF rfl hb849) (kx (gsF rfl hb849) (kx (pkT rfl hb849 rfl) (Rn (hA h840 (hA h841 (hA h842 (hA h843 (hA h844 (hA h845 (hA h846 (hA h847 (hA h848 (hV (.bool true) rfl hZ)))))))))) fun e850 h852 h853 h854 h855 h856 h857 h858 h859 h860 h861 => sN (cT h861 rfl (Rg (kx (mvO h856) (kx (faO h857 o837 rfl) (kx (ldO rfl o837 rfl rfl rfl) (kx (faO h857 o837 rfl) (kx (ldO rfl o837 rfl rfl rfl) ?_)))))))))))
   clear h840 h841 h842 h843 h844 h845 h846 h847 h848
   have o862 : M829[i3_3]? = some (.live ⟨.box, 24, 1, [[.lsl i3_2 s3_2.length 0 s3_2.length]]⟩) := by simpa [hl784, hl785] using o832
   have o863 : M829[i3_5]? = some (.live ⟨.box, 100, 1, [[.lsl i3_4 s3_3.length 0 s3_3.length]]⟩) := by simpa [hl784, hl785] using o834
   obtain ⟨⟨r865, r866, r867, r868⟩, hx864, h⟩ := bind_some h
   refine Ev.nxw (Ev.callW rfl (cns rfl (cns rfl (cns rfl (cns rfl (cns rfl (cns rfl rfl)))))) (impl_LongestHeld_1_pppp_ok x811.To x811.Day s3_4 s3_2 s3_5 s3_3 i3_6 i3_3 i3_2 i3_1 i3_5 i3_4 (Ne.symm ne633) (Ne.symm ne632) ne641 (Ne.symm ne635) (Ne.symm ne634) (Ne.symm ne575) ne638 ne605 ne597 ne637 ne603 ne595 (Ne.symm ne640) (Ne.symm ne639) (Ne.symm ne607) M829 o835 o862 o831 o836 o863 o833 _ hx864)) fun v871 M869 hq870 => ?_
   obtain ⟨hv871, o872, o873, o874, o875, o876, o877, fr878, hl879, hl880⟩ := hq870
   have hv871 : v871 = .tup [] := hv871
   subst hv871
   have o881 : M869[i3_6]? = some (.live ⟨.box, 2, 1, [[.int .i64 r865]]⟩) := o872
   have o882 : M869[i3_3]? = some (.live ⟨.box, 24, 1, [[.lsl i3_2 r866.length 0 r866.length]]⟩) := o873
   have o883 : M869[i3_2]? = some (.live ⟨.grow, 2, 1, r866.map (cI .i64)⟩) := o874
   have o884 : M869[i3_1]? = some (.live ⟨.box, 2, 1, [[.int .i64 r867]]⟩) := o875
   have o885 : M869[i3_5]? = some (.live ⟨.box, 100, 1, [[.lsl i3_4 r868.length 0 r868.length]]⟩) := o876
   have o886 : M869[i3_4]? = some (.live ⟨.grow, 4, 1, r868.map cB⟩) := o877
   have hl879 : r866.length = s3_2.length := hl879
   have hl880 : r868.length = s3_3.length := hl880
   have o887 : M869[M.length]? = some (.live ⟨.box, 114, 6, [[.int .i64 x811.Day, .int .i8 x811.Kind, .int .i64 x811.Tally, .int .i64 x811.From, .int .i64 x811.To, .int .i64 x811.Amount]]⟩) := fr878 _ _ (niC (Ne.symm ne825) (niC (Ne.symm ne819) (niC (Ne.symm ne817) (niC (Ne.symm ne827) (niC (Ne.symm ne823) (niC (Ne.symm ne821) niN)))))) o837
   refine Rn (hA h852 (hA h853 (hA h854 (hA h855 (hA h856 (hA h858 (hA h859 (hA h860 hZ)))))))) fun e888 h890 h891 h892 h893 h894 h895 h896 h897 => bN (sN (Rg (kx (bAdd h897 rfl) (kx (mvO rfl) (Rn (hA h890 (hA h891 (hA h892 (hA h893 (hA h894 (hA h895 (hA h896 (hN rfl hZ)))))))) fun e898 h900 h901 h902 h903 h904 h905 h906 h907 => ?_)))))
   clear h852 h853 h854 h855 h856 h857 h858 h859 h860 h861 h890 h891 h892 h893 h894 h895 h896
   obtain rfl := si h
   exact qN ⟨h900, h901, h902, h903, h904, h905, h906, h907, o883, (by simpa [hl784, hl785, hl879, hl880] using o882), o886, (by simpa [hl784, hl785, hl879, hl880] using o885), o881, o884, (by first | rfl | simp [hl784, hl785, hl879, hl880]), (by first | rfl | simp [hl784, hl785, hl879, hl880])⟩
  refine kx (guF rfl hb849 (faO h845 o837 rfl)) (kx (guF rfl hb849 (ldO rfl o837 rfl rfl rfl)) (kx (guF rfl hb849 (bEql rfl rfl)) (kx (pkF rfl hb849 rfl) (Rn (hA h840 (hA h841 (hA h842 (hA h843 (hA h844 (hA h845 (hA h846 (hA h847 (hA h848 (hN rfl hZ)))))))))) fun e908 h910 h911 h912 h913 h914 h915 h916 h917 h918 h919 => sN ?_))))
  clear h840 h841 h842 h843 h844 h845 h846 h847 h848
  rcases ite_some h with ⟨hb920, h⟩ | ⟨hb920, h⟩
  ·refine cT h919 hb920 (Rg (kx (mvO h914) (kx (faO h915 o837 rfl) (kx (ldO rfl o837 rfl rfl rfl) (kx (faO h915 o837 rfl) (kx (ldO rfl o837 rfl rfl rfl) ?_))))))
   have o921 : M829[i3_3]? = some (.live ⟨.box, 24, 1, [[.lsl i3_2 s3_2.length 0 s3_2.length]]⟩) := by simpa [hl784, hl785] using o832
   have o922 : M829[i3_5]? = some (.live ⟨.box, 100, 1, [[.lsl i3_4 s3_3.length 0 s3_3.length]]⟩) := by simpa [hl784, hl785] using o834
   obtain ⟨⟨r924, r925, r926, r927⟩, hx923, h⟩ := bind_some h
   refine Ev.nxw (Ev.callW rfl (cns rfl (cns rfl (cns rfl (cns rfl (cns rfl (cns rfl rfl)))))) (impl_LongestHeld_1_pppp_ok x811.To x811.Day s3_4 s3_2 s3_5 s3_3 i3_6 i3_3 i3_2 i3_1 i3_5 i3_4 (Ne.symm ne633) (Ne.symm ne632) ne641 (Ne.symm ne635) (Ne.symm ne634) (Ne.symm ne575) ne638 ne605 ne597 ne637 ne603 ne595 (Ne.symm ne640) (Ne.symm ne639) (Ne.symm ne607) M829 o835 o921 o831 o836 o922 o833 _ hx923)) fun v930 M928 hq929 => ?_
   obtain ⟨hv930, o931, o932, o933, o934, o935, o936, fr937, hl938, hl939⟩ := hq929
   have hv930 : v930 = .tup [] := hv930
   subst hv930
   have o940 : M928[i3_6]? = some (.live ⟨.box, 2, 1, [[.int .i64 r924]]⟩) := o931
   have o941 : M928[i3_3]? = some (.live ⟨.box, 24, 1, [[.lsl i3_2 r925.length 0 r925.length]]⟩) := o932
   have o942 : M928[i3_2]? = some (.live ⟨.grow, 2, 1, r925.map (cI .i64)⟩) := o933
   have o943 : M928[i3_1]? = some (.live ⟨.box, 2, 1, [[.int .i64 r926]]⟩) := o934
   have o944 : M928[i3_5]? = some (.live ⟨.box, 100, 1, [[.lsl i3_4 r927.length 0 r927.length]]⟩) := o935
   have o945 : M928[i3_4]? = some (.live ⟨.grow, 4, 1, r927.map cB⟩) := o936
   have hl938 : r925.length = s3_2.length := hl938
   have hl939 : r927.length = s3_3.length := hl939
   have o946 : M928[M.length]? = some (.live ⟨.box, 114, 6, [[.int .i64 x811.Day, .int .i8 x811.Kind, .int .i64 x811.Tally, .int .i64 x811.From, .int .i64 x811.To, .int .i64 x811.Amount]]⟩) := fr937 _ _ (niC (Ne.symm ne825) (niC (Ne.symm ne819) (niC (Ne.symm ne817) (niC (Ne.symm ne827) (niC (Ne.symm ne823) (niC (Ne.symm ne821) niN)))))) o837
   refine Rn (hA h910 (hA h911 (hA h912 (hA h913 (hA h914 (hA h916 (hA h917 (hA h918 hZ)))))))) fun e947 h949 h950 h951 h952 h953 h954 h955 h956 => bN (sN (Rg (kx (bAdd h956 rfl) (kx (mvO rfl) (Rn (hA h949 (hA h950 (hA h951 (hA h952 (hA h953 (hA h954 (hA h955 (hN rfl hZ)))))))) fun e957 h959 h960 h961 h962 h963 h964 h965 h966 => ?_)))))
   clear h910 h911 h912 h913 h914 h915 h916 h917 h918 h919 h949 h950 h951 h952 h953 h954 h955
   obtain rfl := si h
   exact qN ⟨h959, h960, h961, h962, h963, h964, h965, h966, o942, (by simpa [hl784, hl785, hl938, hl939] using o941), o945, (by simpa [hl784, hl785, hl938, hl939] using o944), o940, o943, (by first | rfl | simp [hl784, hl785, hl938, hl939]), (by first | rfl | simp [hl784, hl785, hl938, hl939])⟩
  refine cF h919 hb920 (xx (bN (sN (Rg (kx (bAdd h918 rfl) (kx (mvO rfl) (Rn (hA h910 (hA h911 (hA h912 (hA h913 (hA h914 (hA h916 (hA h917 (hN rfl hZ)))))))) fun e967 h969 h970 h971 h972 h973 h974 h975 h976 => ?_)))))))
  clear h910 h911 h912 h913 h914 h915 h916 h917 h919
  obtain rfl := si h
  exact qN ⟨h969, h970, h971, h972, h973, h974, h975, h976, o831, o832, o833, o834, o835, o836, (by first | rfl | simp [hl784, hl785]), (by first | rfl | simp [hl784, hl785])⟩
 refine cF h796 hb797 (xx (sE ?_))
 obtain rfl := si h
 exact qE ⟨rfl, h789, h790, h791, h792, o778, o779, o780, o781, o782, o783, (by first | rfl | simp [hl784, hl785]), (by first | rfl | simp [hl784, hl785])⟩
abbrev impl_LongestHeld_b4_S := Int × Int
abbrev impl_LongestHeld_b4_R := Int
def impl_LongestHeld_b4_RS (r1002 : List Int) (r1004 : List Bool) (i4_1 : Nat) (i4_2 : Nat) (i4_3 : Nat) (i4_4 : Nat) (s : impl_LongestHeld_b4_S) (e : Env) (M : Mem) : Prop := eget e 12 = .loc i4_2 1 0 0 ∧ eget e 13 = .loc i4_4 1 0 0 ∧ eget e 20 = .int .i64 s.1 ∧ eget e 95 = .lsl i4_1 r1002.length 0 r1002.length ∧ eget e 96 = .int .i64 (r1002.length : Int) ∧ eget e 97 = .int .i64 s.2 ∧ M[i4_1]? = some (.live ⟨.grow, 2, 1, r1002.map (cI .i64)⟩) ∧ M[i4_2]? = some (.live ⟨.box, 24, 1, [[.lsl i4_1 r1002.length 0 r1002.length]]⟩) ∧ M[i4_3]? = some (.live ⟨.grow, 4, 1, r1004.map cB⟩) ∧ M[i4_4]? = some (.live ⟨.box, 100, 1, [[.lsl i4_3 r1004.length 0 r1004.length]]⟩)
def impl_LongestHeld_b4_RR (r1002 : List Int) (r1004 : List Bool) (i4_1 : Nat) (i4_2 : Nat) (i4_3 : Nat) (i4_4 : Nat) (g : impl_LongestHeld_b4_R) (x : Ex) (e : Env) (M : Mem) : Prop := x = .ext 2 ∧ eget e 12 = .loc i4_2 1 0 0 ∧ eget e 20 = .int .i64 g ∧ M[i4_1]? = some (.live ⟨.grow, 2, 1, r1002.map (cI .i64)⟩) ∧ M[i4_2]? = some (.live ⟨.box, 24, 1, [[.lsl i4_1 r1002.length 0 r1002.length]]⟩) ∧ M[i4_3]? = some (.live ⟨.grow, 4, 1, r1004.map cB⟩) ∧ M[i4_4]? = some (.live ⟨.box, 100, 1, [[.lsl i4_3 r1004.length 0 r1004.length]]⟩)
noncomputable def impl_LongestHeld_b4 (r1002 : List Int) (r1004 : List Bool) : impl_LongestHeld_b4_S → Option (impl_LongestHeld_b4_S ⊕ impl_LongestHeld_b4_R) := fun (s4_1, s4_2) =>
 if (decide (s4_2 < (r1002.length : Int))) = true then
  (rd r1002 s4_2).bind fun x1086 =>
  (rd r1004 s4_2).bind fun x1098 =>
  if x1098 = true then
   if (decide (s4_1 < 0)) = true then
    some (.inl (s4_2, (IntKind.i64.wrap (s4_2 + 1))))
   else
    (rd r1002 s4_1).bind fun x1128 =>
    if (decide (x1086 > x1128)) = true then
     some (.inl (s4_2, (IntKind.i64.wrap (s4_2 + 1))))
    else
     some (.inl (s4_1, (IntKind.i64.wrap (s4_2 + 1))))
  else
   some (.inl (s4_1, (IntKind.i64.wrap (s4_2 + 1))))
 else
  some (.inr s4_1)
theorem impl_LongestHeld_b4_ok (r1002 : List Int) (r1004 : List Bool) (i4_1 : Nat) (i4_2 : Nat) (i4_3 : Nat) (i4_4 : Nat) (ne575 : i4_1 ≠ i4_2) (ne595 : i4_1 ≠ i4_3) (ne603 : i4_1 ≠ i4_4) (ne597 : i4_2 ≠ i4_3) (ne605 : i4_2 ≠ i4_4) (ne607 : i4_3 ≠ i4_4) (s : impl_LongestHeld_b4_S) (r : impl_LongestHeld_b4_S ⊕ impl_LongestHeld_b4_R) (h : impl_LongestHeld_b4 r1002 r1004 s = some r) (e : Env) (M : Mem) (hs : impl_LongestHeld_b4_RS r1002 r1004 i4_1 i4_2 i4_3 i4_4 s e M) : Ev (fun k => (f27_l23 (CN k) k (prune [12, 13, 20, 95, 96, 97] e) M).bind fun q => some q) (bQ (impl_LongestHeld_b4_RS r1002 r1004 i4_1 i4_2 i4_3 i4_4) (impl_LongestHeld_b4_RR r1002 r1004 i4_1 i4_2 i4_3 i4_4) r) := by
 obtain ⟨s4_1, s4_2⟩ := s
 unfold impl_LongestHeld_b4 at h
 obtain ⟨h1060, h1062, h1064, h1066, h1068, h1070, o1072, o1073, o1074, o1075⟩ := hs
 generalize he1059 : prune [12, 13, 20, 95, 96, 97] e = e1058
 have h1061 := envp he1059.symm rfl h1060
 have h1063 := envp he1059.symm rfl h1062
 have h1065 := envp he1059.symm rfl h1064
 have h1067 := envp he1059.symm rfl h1066
 have h1069 := envp he1059.symm rfl h1068
 have h1071 := envp he1059.symm rfl h1070
 refine sq (Rg (kx (bLss h1071 h1069) (Rn (hV (.loc i4_2 1 0 0) h1061 (hV (.loc i4_4 1 0 0) h1063 (hV (.int .i64 s4_1) h1065 (hV (.lsl i4_1 r1002.length 0 r1002.length) h1067 (hV (.int .i64 (r1002.length : Int)) h1069 (hV (.int .i64 s4_2) h1071 (hN rfl hZ))))))) fun e1076 h1078 h1079 h1080 h1081 h1082 h1083 h1084 => sN (sq ?_))))
 clear h1061 h1063 h1065 h1067 h1069 h1071
 rcases ite_some h with ⟨hb1085, h⟩ | ⟨hb1085, h⟩
 ·obtain ⟨x1086, hx1087, h⟩ := bind_some h
  obtain ⟨x1098, hx1099, h⟩ := bind_some h
  refine cT h1084 hb1085 (xx (sN (sq (bl (sq (Rg (kx (mvO h1083) (kx (ixO h1081 o1072 rfl h1083 (rd_get hx1087).1 (rd_lt hx1087).2) (kx (ldO rfl o1072 (by simp) (rz hx1087) rfl) (kx (mvO rfl) (kx (mvO rfl) (Rn (hA h1078 (hA h1079 (hA h1080 (hN rfl (hN rfl (hA h1081 (hA h1082 (hA h1083 hZ)))))))) fun e1088 h1090 h1091 h1092 h1093 h1094 h1095 h1096 h1097 => sN (sq (Rg (kx (ldO h1091 o1075 rfl rfl rfl) (kx (mvO h1093) (kx (ixO rfl o1074 rfl rfl (rd_get hx1099).1 (rd_lt hx1099).2) (kx (ldO rfl o1074 (by simp) (rz hx1099) rfl) (kx (mvO rfl) ?_)))))))))))))))))))
  clear h1078 h1079 h1080 h1081 h1082 h1083 h1084
  rcases ite_some h with ⟨hb1100, h⟩ | ⟨hb1100, h⟩
  ·refine kx (guT rfl hb1100 (mvO h1092)) (kx (guT rfl hb1100 (bLss rfl rfl)) (kx (guT rfl hb1100 (mvO rfl)) ?_))
   rcases ite_some h with ⟨hb1101, h⟩ | ⟨hb1101, h⟩
   ·refine kx (gsF rfl hb1101) (kx (gsF rfl hb1101) (kx (gsF rfl hb1101) (kx (gsF rfl hb1101) (kx (gsF rfl hb1101) (kx (gsF rfl hb1101) (kx (guT rfl hb1100 (pkT rfl hb1101 rfl)) (kx (pkT rfl hb1100 rfl) (Rn (hA h1090 (hA h1091 (hA h1092 (hA h1093 (hA h1095 (hA h1096 (hA h1097 (hV (.bool true) rfl hZ)))))))) fun e1102 h1104 h1105 h1106 h1107 h1108 h1109 h1110 h1111 => sN (cT h1111 rfl (Rg (kx (mvO h1107) (kx (mvO rfl) (Rn (hA h1104 (hA h1105 (hN rfl (hA h1108 (hA h1109 (hA h1110 hZ)))))) fun e1112 h1114 h1115 h1116 h1117 h1118 h1119 => bN (sN (Rg (kx (bAdd h1119 rfl) (kx (mvO rfl) (Rn (hA h1114 (hA h1115 (hA h1116 (hA h1117 (hA h1118 (hN rfl hZ)))))) fun e1120 h1122 h1123 h1124 h1125 h1126 h1127 => ?_))))))))))))))))))
    clear h1090 h1091 h1092 h1093 h1094 h1095 h1096 h1097 h1104 h1105 h1107 h1108 h1109 h1110 h1111 h1114 h1115 h1116 h1117 h1118
    obtain rfl := si h
    exact qN ⟨h1122, h1123, h1124, h1125, h1126, h1127, o1072, o1073, o1074, o1075⟩
   obtain ⟨x1128, hx1129, h⟩ := bind_some h
   refine kx (guF rfl hb1101 (mvO h1094)) (kx (guF rfl hb1101 (ldO h1090 o1073 rfl rfl rfl)) (kx (guF rfl hb1101 (mvO h1092)) (kx (guF rfl hb1101 (ixO rfl o1072 rfl rfl (rd_get hx1129).1 (rd_lt hx1129).2)) (kx (guF rfl hb1101 (ldO rfl o1072 (by simp) (rz hx1129) rfl)) (kx (guF rfl hb1101 (bGtr rfl rfl)) (kx (guT rfl hb1100 (pkF rfl hb1101 rfl)) (kx (pkT rfl hb1100 rfl) (Rn (hA h1090 (hA h1091 (hA h1092 (hA h1093 (hA h1095 (hA h1096 (hA h1097 (hN rfl hZ)))))))) fun e1130 h1132 h1133 h1134 h1135 h1136 h1137 h1138 h1139 => sN ?_))))))))
   clear h1090 h1091 h1092 h1093 h1094 h1095 h1096 h1097
   rcases ite_some h with ⟨hb1140, h⟩ | ⟨hb1140, h⟩
   ·refine cT h1139 hb1140 (Rg (kx (mvO h1135) (kx (mvO rfl) (Rn (hA h1132 (hA h1133 (hN rfl (hA h1136 (hA h1137 (hA h1138 hZ)))))) fun e1141 h1143 h1144 h1145 h1146 h1147 h1148 => bN (sN (Rg (kx (bAdd h1148 rfl) (kx (mvO rfl) (Rn (hA h1143 (hA h1144 (hA h1145 (hA h1146 (hA h1147 (hN rfl hZ)))))) fun e1149 h1151 h1152 h1153 h1154 h1155 h1156 => ?_)))))))))
    clear h1132 h1133 h1135 h1136 h1137 h1138 h1139 h1143 h1144 h1145 h1146 h1147
    obtain rfl := si h
    exact qN ⟨h1151, h1152, h1153, h1154, h1155, h1156, o1072, o1073, o1074, o1075⟩
   refine cF h1139 hb1140 (xx (bN (sN (Rg (kx (bAdd h1138 rfl) (kx (mvO rfl) (Rn (hA h1132 (hA h1133 (hA h1134 (hA h1136 (hA h1137 (hN rfl hZ)))))) fun e1157 h1159 h1160 h1161 h1162 h1163 h1164 => ?_)))))))
   clear h1132 h1133 h1134 h1135 h1136 h1137 h1139
   obtain rfl := si h
   exact qN ⟨h1159, h1160, h1161, h1162, h1163, h1164, o1072, o1073, o1074, o1075⟩
  refine kx (gsT rfl hb1100) (kx (gsT rfl hb1100) (kx (gsT rfl hb1100) (kx (gsU rfl) (kx (gsU rfl) (kx (gsU rfl) (kx (gsU rfl) (kx (gsU rfl) (kx (gsU rfl) (kx (gsT rfl hb1100) (kx (pkF rfl hb1100 rfl) (Rn (hA h1090 (hA h1091 (hA h1092 (hA h1093 (hA h1095 (hA h1096 (hA h1097 (hV (.bool false) rfl hZ)))))))) fun e1165 h1167 h1168 h1169 h1170 h1171 h1172 h1173 h1174 => sN (cF h1174 rfl (xx (bN (sN (Rg (kx (bAdd h1173 rfl) (kx (mvO rfl) (Rn (hA h1167 (hA h1168 (hA h1169 (hA h1171 (hA h1172 (hN rfl hZ)))))) fun e1175 h1177 h1178 h1179 h1180 h1181 h1182 => ?_)))))))))))))))))))
  clear h1090 h1091 h1092 h1093 h1094 h1095 h1096 h1097 h1167 h1168 h1169 h1170 h1171 h1172 h1174
  obtain rfl := si h
  exact qN ⟨h1177, h1178, h1179, h1180, h1181, h1182, o1072, o1073, o1074, o1075⟩
 refine cF h1084 hb1085 (xx (sE ?_))
 obtain rfl := si h
 exact qE ⟨rfl, h1078, h1080, o1072, o1073, o1074, o1075⟩
noncomputable def impl_LongestHeld (a1 : Book) (a2 : List Deal) (a3 : Int) : Option (Int × Int × Int) :=
 (impl_history a1 a2 a3).bind fun r => match r with
 | (.inl r7) =>
  if (r7 != 0) = true then
   some (0, 0, r7)
  else
   (if (decide ((a2.length : Int) > 0)) = true then
    (rd a2 (IntKind.i64.wrap ((a2.length : Int) - 1))).bind fun x45 =>
    some x45.Day
   else
    some a1.Day).bind fun y56 =>
   (mkS 8 0 (a1.Cash.length : Int)).bind fun x62 =>
   (mkS 1 false (a1.Cash.length : Int)).bind fun x86 =>
   (if (decide (a3 < (a1.Tallies.length : Int))) = true then
    (rd a1.Tallies a3).bind fun x180 =>
    some x180.Holder
   else
    some (-1)).bind fun y201 =>
   (Lw (impl_LongestHeld_b1) 0).bind fun _ =>
   (impl_LongestHeld_1_pppp (-1) y56 y201 x62 a1.Day x86).bind fun (r309, r310, r311, r312) =>
   (Lw (impl_LongestHeld_b2 r310 r312) ((-1), 0)).bind fun y496 =>
   (rd r310 y496).bind fun x503 =>
   some (y496, x503, 0)
 | (.inr r516) =>
  (if (decide ((a2.length : Int) > 0)) = true then
   (rd a2 (IntKind.i64.wrap ((a2.length : Int) - 1))).bind fun x548 =>
   some x548.Day
  else
   some a1.Day).bind fun y559 =>
  (mkS 8 0 (a1.Cash.length : Int)).bind fun x565 =>
  (mkS 1 false (a1.Cash.length : Int)).bind fun x589 =>
  (if (decide (a3 < (a1.Tallies.length : Int))) = true then
   (rd a1.Tallies a3).bind fun x683 =>
   some x683.Holder
  else
   some (-1)).bind fun y704 =>
  (Lw (impl_LongestHeld_b3 a2 r516) (0, x565, x589, y704, a1.Day)).bind fun (y982, y983, y984, y985) =>
  (impl_LongestHeld_1_pppp (-1) y559 y984 y982 y985 y983).bind fun (r1001, r1002, r1003, r1004) =>
  (Lw (impl_LongestHeld_b4 r1002 r1004) ((-1), 0)).bind fun y1188 =>
  (rd r1002 y1188).bind fun x1195 =>
  some (y1188, x1195, 0)
def impl_LongestHeld_enc (r : Int × Int × Int) : AV := .tup [.int .i64 r.1, .int .i64 r.2.1, .int .i64 r.2.2]
theorem impl_LongestHeld_ok (a1 : Book) (a2 : List Deal) (a3 : Int) (r : Int × Int × Int) (h : impl_LongestHeld a1 a2 a3 = some r) : Ev (fun k => CN k 27 [.agg [.int .i64 a1.Day, .sl none (a1.Cash.map (cI .i64)), .sl none (a1.Tallies.map Tally.c)], .sl none (a2.map Deal.c), .int .i64 a3] []) (fun p => rRes p.2 p.1 = impl_LongestHeld_enc r) := by
 unfold impl_LongestHeld at h
 obtain ⟨q1208, hx6, h⟩ := bind_some h
 refine Ev.enter (F := fun k => f27 (CN k) k) (fun k => callN_eq rfl Try.func27 rfl rfl rfl (by decide +kernel) (f27_eq _ _)) (sq (Rg (kx (bxI rfl rfl ⟨rfl, rfl, by decide⟩) (kx (mvO rfl) (kx (mvO rfl) (kx (mvO rfl) (Rn (hN rfl (hN rfl (hN rfl hZ))) fun e1 h3 h4 h5 => sN (sq (Rg (kx (ldPA h5 rfl rfl) (kx (mvO h3) (kx (mvO h4) ?_))))))))))))
 rcases q1208 with r7 | r516
 ·refine kc (cl (v := .tup [.nils, .int .i64 r7]) rfl (cns rfl (cns rfl (cns rfl rfl))) rfl (impl_history_ok a1 a2 a3 _ hx6) nm) (kx (mvO rfl) (kx (exT rfl rfl) (kx (exT rfl rfl) (kx (mvO rfl) (kx (mvO rfl) (Rn (hA h3 (hA h4 (hA h5 (hV .nils rfl (hN rfl hZ))))) fun e8 h10 h11 h12 h13 h14 => sN (sq (sq (Rg (kx (mvO h14) (kx (bNeq rfl rfl) (Rn (hA h10 (hA h11 (hA h12 (hA h13 (hA h14 (hN rfl hZ)))))) fun e15 h17 h18 h19 h20 h21 h22 => sN ?_))))))))))))
  clear h3 h4 h5 h10 h11 h12 h13 h14
  rcases ite_some h with ⟨hb23, h⟩ | ⟨hb23, h⟩
  ·refine cT h22 hb23 (sq (Rg (kx (mvO h21) (kx (mvO rfl) (kx (mvO rfl) (kx (mvO rfl) (Rn (hV (.int .i64 0) rfl (hV (.int .i64 0) rfl (hN rfl hZ))) fun e24 h26 h27 h28 => sN (xx (sR ?_)))))))))
   clear h17 h18 h19 h20 h21 h22
   obtain rfl := si h
   exact eR (resT h26 (resT h27 (resT h28 res0))) rfl
  obtain ⟨r514, hr515, h⟩ := bind_some h
  refine cF h22 hb23 (xx (sN (sq (Rg (kx (faP h19 ⟨ble rfl, blt rfl⟩ rfl) (kx (ldP rfl rfl) (kx (mvO rfl) (Rn (hA h17 (hA h18 (hA h19 (hA h20 (hN rfl hZ))))) fun e29 h31 h32 h33 h34 h35 => sN (sq ?_)))))))))
  clear h17 h18 h19 h20 h21 h22
  refine Ev.cut (Q1 := impl_LongestHeld_c1_Q a1 a2 a3 r514) (by
      have h := hr515
      refine sq (Rg (kx (mvO h31) (kx (lnS Try.underlying52 rfl) (kx (bGtr rfl rfl) (Rn (hA h31 (hA h32 (hA h33 (hA h34 (hA h35 (hN rfl hZ)))))) fun e36 h38 h39 h40 h41 h42 h43 => sN ?_)))))
      clear h31 h32 h33 h34 h35
      rcases ite_some h with ⟨hb44, h⟩ | ⟨hb44, h⟩
      ·obtain ⟨x45, hx46, h⟩ := bind_some h
       refine cT h43 hb44 (Rg (kx (mvO h38) (kx (mvO h38) (kx (lnS Try.underlying52 rfl) (kx (bSub rfl rfl) (kx (ixS rfl rfl hx46 Deal.fl) (kx (faP rfl ⟨ble rfl, blt rfl⟩ rfl) (kx (ldP rfl rfl) (kx (mvO rfl) (Rn (hA h38 (hA h39 (hA h40 (hA h41 (hN rfl hZ))))) fun e47 h49 h50 h51 h52 h53 => ?_))))))))))
       clear h38 h39 h40 h41 h43
       obtain rfl := si h
       exact kd (show impl_LongestHeld_c1_Q a1 a2 a3 _ _ from ⟨rfl, h49, h50, h51, h52, h53⟩)
      refine cF h43 hb44 (xx ?_)
      obtain rfl := si h
      exact kd (show impl_LongestHeld_c1_Q a1 a2 a3 _ _ from ⟨rfl, h38, h39, h40, h41, h42⟩)) ?_
  revert h hr515
  revert r514
  intro y56 hr515 h
  intro x e54 M55 hq513
  obtain ⟨rfl, h57, h58, h59, h60, h61⟩ := hq513
  obtain ⟨x62, hx63, h⟩ := bind_some h
  refine sN (sq (Rg (kx (faP h59 ⟨ble rfl, blt rfl⟩ rfl) (kx (ldP rfl rfl) (kx (lnS Try.underlying24 rfl) (ku (mkO rfl rfl hx63 (c := (cI .i64)) zero2 (cI_fl _) (by decide)) fun M65 hM66 => ?_))))))
  have o67 : M65[M55.length]? = some (.live ⟨.grow, 2, 1, x62.map (cI .i64)⟩) := push_new hM66
  refine ku (alO zero24) fun M69 hM70 => ?_
  have o71 := push_old hM70 o67
  have ne72 := ne_new o67
  have o73 : M69[M65.length]? = some (.live ⟨.box, 24, 1, [[.nils]]⟩) := push_new hM70
  refine kw (stO rfl rfl o73 rfl rfl ⟨rfl, ble rfl⟩ (all1 (okL o71 (by simp)) all0) rfl) fun M74 hM75 => ?_
  have o76 := set_ne hM75 ne72 o71
  have o77 : M74[M65.length]? = some (.live ⟨.box, 24, 1, [[.lsl M55.length x62.length 0 x62.length]]⟩) := set_same hM75 o73
  obtain ⟨x86, hx87, h⟩ := bind_some h
  refine Rn (hV (.sl none (a2.map Deal.c)) h57 (hV (.int .i64 a3) h58 (hV (.pt none [.int .i64 a1.Day, .sl none (a1.Cash.map (cI .i64)), .sl none (a1.Tallies.map Tally.c)]) h59 (hV .nils h60 (hV (.int .i64 y56) h61 (hV (.loc M65.length 1 0 0) rfl hZ)))))) fun e78 h80 h81 h82 h83 h84 h85 => sN (sq (Rg (kx (faP h82 ⟨ble rfl, blt rfl⟩ rfl) (kx (ldP rfl rfl) (kx (lnS Try.underlying24 rfl) (ku (mkO rfl rfl hx87 (c := cB) zero4 cB_fl (by decide)) fun M89 hM90 => ?_))))))
  clear h57 h58 h59 h60 h61
  have o91 := push_old hM90 o76
  have ne92 := ne_new o76
  have o93 := push_old hM90 o77
  have ne94 := ne_new o77
  have o95 : M89[M74.length]? = some (.live ⟨.grow, 4, 1, x86.map cB⟩) := push_new hM90
  refine ku (alO zero100) fun M97 hM98 => ?_
  have o99 := push_old hM98 o91
  have ne100 := ne_new o91
  have o101 := push_old hM98 o93
  have ne102 := ne_new o93
  have o103 := push_old hM98 o95
  have ne104 := ne_new o95
  have o105 : M97[M89.length]? = some (.live ⟨.box, 100, 1, [[.nils]]⟩) := push_new hM98
  refine kw (stO rfl rfl o105 rfl rfl ⟨rfl, ble rfl⟩ (all1 (okL o103 (by simp)) all0) rfl) fun M106 hM107 => ?_
  have o108 := set_ne hM107 ne100 o99
  have o109 := set_ne hM107 ne102 o101
  have o110 := set_ne hM107 ne104 o103
  have o111 : M106[M89.length]? = some (.live ⟨.box, 100, 1, [[.lsl M74.length x86.length 0 x86.length]]⟩) := set_same hM107 o105
  refine Rn (hA h80 (hA h81 (hA h82 (hA h83 (hA h84 (hA h85 (hV (.loc M89.length 1 0 0) rfl hZ))))))) fun e112 h114 h115 h116 h117 h118 h119 h120 => sN (sq (Rd (kf (faP h116 ⟨ble rfl, blt rfl⟩ rfl) (kf (ldP rfl rfl) (Ev.nfpushE (alO zero2) (Ev.nfpushE (alO zero2) (Ev.fend1 fun M123 hM124 => ?_)))))))
  clear h80 h81 h82 h83 h84 h85
  have hM124 := fendM hM124 [⟨.box, 2, 1, [[.int .i64 0]]⟩, ⟨.box, 2, 1, [[.int .i64 0]]⟩] rfl
  have o125 := push_old hM124 o108
  have o126 := push_old hM124 o109
  have o127 := push_old hM124 o110
  have o128 := push_old hM124 o111
  have ne129 : M55.length ≠ M106.length := by have := lt_of_get (M := M106) o108; omega
  have ne130 : M65.length ≠ M106.length := by have := lt_of_get (M := M106) o109; omega
  have ne131 : M74.length ≠ M106.length := by have := lt_of_get (M := M106) o110; omega
  have ne132 : M89.length ≠ M106.length := by have := lt_of_get (M := M106) o111; omega
  have o133 : M123[M106.length]? = some (.live ⟨.box, 2, 1, [[.int .i64 0]]⟩) := push_at hM124 0 rfl
  have ne134 : M55.length ≠ (M106.length + 1) := by have := lt_of_get (M := M106) o108; omega
  have ne135 : M65.length ≠ (M106.length + 1) := by have := lt_of_get (M := M106) o109; omega
  have ne136 : M74.length ≠ (M106.length + 1) := by have := lt_of_get (M := M106) o110; omega
  have ne137 : M89.length ≠ (M106.length + 1) := by have := lt_of_get (M := M106) o111; omega
  have ne138 : M106.length ≠ (M106.length + 1) := by omega
  have o139 : M123[(M106.length + 1)]? = some (.live ⟨.box, 2, 1, [[.int .i64 0]]⟩) := push_at hM124 1 rfl
  refine kw (stO rfl rfl o133 rfl rfl ⟨rfl, ble rfl⟩ rfl rfl) fun M140 hM141 => ?_
  have o142 := set_ne hM141 ne129 o125
  have o143 := set_ne hM141 ne130 o126
  have o144 := set_ne hM141 ne131 o127
  have o145 := set_ne hM141 ne132 o128
  have o146 : M140[M106.length]? = some (.live ⟨.box, 2, 1, [[.int .i64 (-1)]]⟩) := set_same hM141 o133
  have o147 := set_ne hM141 (Ne.symm ne138) o139
  refine kw (stO rfl rfl o147 rfl rfl ⟨rfl, ble rfl⟩ rfl rfl) fun M148 hM149 => ?_
  have o150 := set_ne hM149 ne134 o142
  have o151 := set_ne hM149 ne135 o143
  have o152 := set_ne hM149 ne136 o144
  have o153 := set_ne hM149 ne137 o145
  have o154 := set_ne hM149 ne138 o146
  have o155 : M148[(M106.length + 1)]? = some (.live ⟨.box, 2, 1, [[.int .i64 a1.Day]]⟩) := set_same hM149 o147
  obtain ⟨r511, hr512, h⟩ := bind_some h
  refine Rn (hA h114 (hA h115 (hA h116 (hA h117 (hA h118 (hA h119 (hA h120 (hV (.loc M106.length 1 0 0) rfl (hV (.loc (M106.length + 1) 1 0 0) rfl hZ))))))))) fun e156 h158 h159 h160 h161 h162 h163 h164 h165 h166 => sN (sq ?_)
  clear h114 h115 h116 h117 h118 h119 h120
  refine Ev.cut (Q1 := impl_LongestHeld_c2_Q a1 a2 y56 x62 x86 M55.length M65.length M74.length M89.length M106.length (M106.length + 1) r511) (by
      have h := hr512
      refine sq (Rg (kx (mvO h159) (kx (faP h160 ⟨ble rfl, blt rfl⟩ rfl) (kx (ldP rfl rfl) (kx (lnS Try.underlying48 rfl) (kx (bLss rfl rfl) (Rn (hA h158 (hA h159 (hA h160 (hA h161 (hA h162 (hA h163 (hA h164 (hA h165 (hA h166 (hN rfl hZ)))))))))) fun e167 h169 h170 h171 h172 h173 h174 h175 h176 h177 h178 => sN ?_)))))))
      clear h158 h159 h160 h161 h162 h163 h164 h165 h166
      rcases ite_some h with ⟨hb179, h⟩ | ⟨hb179, h⟩
      ·obtain ⟨x180, hx181, h⟩ := bind_some h
       refine cT h178 hb179 (Rg (kx (faP h171 ⟨ble rfl, blt rfl⟩ rfl) (kx (ldP rfl rfl) (kx (mvO h170) (kx (ixS rfl rfl hx181 Tally.fl) (kx (faP rfl ⟨ble rfl, blt rfl⟩ rfl) (kx (ldP rfl rfl) (kw (stO h176 rfl o154 rfl rfl ⟨rfl, ble rfl⟩ rfl rfl) fun M182 hM183 => ?_))))))))
       have o184 := set_ne hM183 ne129 o150
       have o185 := set_ne hM183 ne130 o151
       have o186 := set_ne hM183 ne131 o152
       have o187 := set_ne hM183 ne132 o153
       have o188 : M182[M106.length]? = some (.live ⟨.box, 2, 1, [[.int .i64 x180.Holder]]⟩) := set_same hM183 o154
       have o189 := set_ne hM183 (Ne.symm ne138) o155
       refine Rn (hA h169 (hA h172 (hA h173 (hA h174 (hA h175 (hA h176 (hA h177 hZ))))))) fun e190 h192 h193 h194 h195 h196 h197 h198 => ?_
       clear h169 h170 h171 h172 h173 h174 h175 h176 h177 h178
       obtain rfl := si h
       exact kd (show impl_LongestHeld_c2_Q a1 a2 y56 x62 x86 M55.length M65.length M74.length M89.length M106.length (M106.length + 1) _ _ from ⟨rfl, h192, h193, h194, h195, h196, h197, h198, o188, o189, o184, o185, o186, o187⟩)
      refine cF h178 hb179 (xx ?_)
      obtain rfl := si h
      exact kd (show impl_LongestHeld_c2_Q a1 a2 y56 x62 x86 M55.length M65.length M74.length M89.length M106.length (M106.length + 1) _ _ from ⟨rfl, h169, h172, h173, h174, h175, h176, h177, o154, o155, o150, o151, o152, o153⟩)) ?_
  revert h hr512
  revert r511
  intro y201 hr512 h
  intro x e199 M200 hq510
  obtain ⟨rfl, h202, h203, h204, h205, h206, h207, h208, o209, o210, o211, o212, o213, o214⟩ := hq510
  obtain ⟨r293, hr294, h⟩ := bind_some h
  refine sN (sq (Rg (kx (mvO (congrArg (AV.fn 63) (cns h207 (cns h205 (cns h208 (cns h206 rfl)))))) (kx (mvO rfl) (Rn (hV (.sl none (a2.map Deal.c)) h202 (hV .nils h203 (hV (.int .i64 y56) h204 (hV (.loc M65.length 1 0 0) h205 (hV (.loc M89.length 1 0 0) h206 (hV (.fn 63 [.loc M106.length 1 0 0, .loc M65.length 1 0 0, .loc (M106.length + 1) 1 0 0, .loc M89.length 1 0 0]) rfl hZ)))))) fun e215 h217 h218 h219 h220 h221 h222 => sN (sq (sq (Rg (kx (mvO h218) (kx (lnN Try.underlying24 rfl) (kx (mvO rfl) (Rn (hA h217 (hA h219 (hA h220 (hA h221 (hA h222 (hV .nils rfl (hV (.int .i64 0) rfl (hV (.int .i64 0) rfl hZ)))))))) fun e223 h225 h226 h227 h228 h229 h230 h231 h232 => sN (bl (Ev.loop (RS := impl_LongestHeld_b1_RS a1 a2 y56 x62 x86 y201 (M106.length + 1) M106.length M55.length M65.length M74.length M89.length) (RR := impl_LongestHeld_b1_RR a1 a2 y56 x62 x86 y201 (M106.length + 1) M106.length M55.length M65.length M74.length M89.length) (fun s r h e M hs => impl_LongestHeld_b1_ok a1 a2 y56 x62 x86 y201 (M106.length + 1) M106.length M55.length M65.length M74.length M89.length ne138 ne129 ne134 ne72 ne92 ne100 ne130 ne135 ne94 ne102 ne131 ne136 ne104 ne132 ne137 s r h e M hs) hr294 ⟨h225, h226, h227, h228, h229, h230, h231, h232, o209, o210, o211, o212, o213, o214⟩ fun x e296 M297 hq295 => ?_))))))))))))))
  clear h202 h203 h204 h205 h206 h207 h208 h217 h218 h219 h220 h221 h222
  obtain ⟨rfl, h298, h299, h300, h301, o302, o303, o304, o305, o306, o307⟩ := hq295
  obtain ⟨⟨r309, r310, r311, r312⟩, hx308, h⟩ := bind_some h
  refine bE (sN (sq (Rg (kx (mvO h301) (kx (mvO h298) (Ev.nxw (Ev.callW rfl (cns rfl (cns rfl (cns rfl (cns rfl (cns rfl (cns rfl rfl)))))) (impl_LongestHeld_1_pppp_ok (-1) y56 y201 x62 a1.Day x86 M106.length M65.length M55.length (M106.length + 1) M89.length M74.length (Ne.symm ne130) (Ne.symm ne129) ne138 (Ne.symm ne132) (Ne.symm ne131) (Ne.symm ne72) ne135 ne102 ne94 ne134 ne100 ne92 (Ne.symm ne137) (Ne.symm ne136) (Ne.symm ne104) M297 o302 o305 o304 o303 o307 o306 _ hx308)) fun v315 M313 hq314 => ?_))))))
  obtain ⟨hv315, o316, o317, o318, o319, o320, o321, fr322, hl323, hl324⟩ := hq314
  have hv315 : v315 = .tup [] := hv315
  subst hv315
  have o325 : M313[M106.length]? = some (.live ⟨.box, 2, 1, [[.int .i64 r309]]⟩) := o316
  have o326 : M313[M65.length]? = some (.live ⟨.box, 24, 1, [[.lsl M55.length r310.length 0 r310.length]]⟩) := o317
  have o327 : M313[M55.length]? = some (.live ⟨.grow, 2, 1, r310.map (cI .i64)⟩) := o318
  have o328 : M313[(M106.length + 1)]? = some (.live ⟨.box, 2, 1, [[.int .i64 r311]]⟩) := o319
  have o329 : M313[M89.length]? = some (.live ⟨.box, 100, 1, [[.lsl M74.length r312.length 0 r312.length]]⟩) := o320
  have o330 : M313[M74.length]? = some (.live ⟨.grow, 4, 1, r312.map cB⟩) := o321
  have hl323 : r310.length = x62.length := hl323
  have hl324 : r312.length = x86.length := hl324
  obtain ⟨y496, hr492, h⟩ := bind_some h
  refine Rn (hV (.loc M65.length 1 0 0) h299 (hV (.loc M89.length 1 0 0) h300 hZ)) fun e331 h333 h334 => sN (sq (Rg (kx (mvO rfl) (Rn (hA h333 (hA h334 (hV (.int .i64 (-1)) rfl hZ))) fun e335 h337 h338 h339 => sN (sq (sq (Rg (kx (ldO h337 o326 rfl rfl rfl) (kx (lnL Try.underlying24 rfl o327 (by simp [hl323, hl324])) (kx (mvO rfl) (Rn (hA h337 (hA h338 (hA h339 (hV (.lsl M55.length r310.length 0 r310.length) rfl (hN rfl (hV (.int .i64 0) rfl hZ)))))) fun e340 h342 h343 h344 h345 h346 h347 => sN (bl (Ev.loop (RS := impl_LongestHeld_b2_RS r310 r312 M55.length M65.length M74.length M89.length) (RR := impl_LongestHeld_b2_RR r310 r312 M55.length M65.length M74.length M89.length) (fun s r h e M hs => impl_LongestHeld_b2_ok r310 r312 M55.length M65.length M74.length M89.length ne72 ne92 ne100 ne94 ne102 ne104 s r h e M hs) hr492 ⟨h342, h343, h344, h345, h346, h347, o327, o326, o330, o329⟩ fun x e494 M495 hq493 => ?_)))))))))))))
  clear h298 h299 h300 h301 h333 h334 h337 h338 h339
  obtain ⟨rfl, h497, h498, o499, o500, o501, o502⟩ := hq493
  obtain ⟨x503, hx504, h⟩ := bind_some h
  refine bE (sN (sq (Rd (kf (mvO h498) (kf (ldO h497 o500 rfl rfl rfl) (kf (mvO h498) (kf (ixO rfl o499 rfl rfl (rd_get hx504).1 (rd_lt hx504).2) (kf (ldO rfl o499 (by simp [hl323, hl324]) (rz hx504) rfl) (kf (mvO rfl) (kf (mvO rfl) (kf (mvO rfl) (fZ (Rn (hN rfl (hN rfl (hV (.int .i64 0) rfl hZ))) fun e505 h507 h508 h509 => sN (xx ?_))))))))))))))
  clear h497 h498
  obtain rfl := si h
  exact eR (resT h507 (resT h508 (resT h509 res0))) rfl
 obtain ⟨r1206, hr1207, h⟩ := bind_some h
 refine kc (cl (v := .tup [.sl (some 2) (r516.map (cI .i64)), .int .i64 0]) rfl (cns rfl (cns rfl (cns rfl rfl))) rfl (impl_history_ok a1 a2 a3 _ hx6) nm) (kx (mvO rfl) (kx (exT rfl rfl) (kx (exT rfl rfl) (kx (mvO rfl) (kx (mvO rfl) (Rn (hA h3 (hA h4 (hA h5 (hN rfl (hV (.int .i64 0) rfl hZ))))) fun e517 h519 h520 h521 h522 h523 => sN (sq (sq (Rg (kx (mvO h523) (kx (bNeq rfl rfl) (Rn (hA h519 (hA h520 (hA h521 (hA h522 (hA h523 (hV (.bool false) rfl hZ)))))) fun e524 h526 h527 h528 h529 h530 h531 => sN (cF h531 rfl (xx (sN (sq (Rg (kx (faP h528 ⟨ble rfl, blt rfl⟩ rfl) (kx (ldP rfl rfl) (kx (mvO rfl) (Rn (hA h526 (hA h527 (hA h528 (hA h529 (hN rfl hZ))))) fun e532 h534 h535 h536 h537 h538 => sN (sq ?_))))))))))))))))))))))
 clear h3 h4 h5 h519 h520 h521 h522 h523 h526 h527 h528 h529 h530 h531
 refine Ev.cut (Q1 := impl_LongestHeld_c3_Q a1 a2 a3 r516 r1206) (by
     have h := hr1207
     refine sq (Rg (kx (mvO h534) (kx (lnS Try.underlying52 rfl) (kx (bGtr rfl rfl) (Rn (hA h534 (hA h535 (hA h536 (hA h537 (hA h538 (hN rfl hZ)))))) fun e539 h541 h542 h543 h544 h545 h546 => sN ?_)))))
     clear h534 h535 h536 h537 h538
     rcases ite_some h with ⟨hb547, h⟩ | ⟨hb547, h⟩
     ·obtain ⟨x548, hx549, h⟩ := bind_some h
      refine cT h546 hb547 (Rg (kx (mvO h541) (kx (mvO h541) (kx (lnS Try.underlying52 rfl) (kx (bSub rfl rfl) (kx (ixS rfl rfl hx549 Deal.fl) (kx (faP rfl ⟨ble rfl, blt rfl⟩ rfl) (kx (ldP rfl rfl) (kx (mvO rfl) (Rn (hA h541 (hA h542 (hA h543 (hA h544 (hN rfl hZ))))) fun e550 h552 h553 h554 h555 h556 => ?_))))))))))
      clear h541 h542 h543 h544 h546
      obtain rfl := si h
      exact kd (show impl_LongestHeld_c3_Q a1 a2 a3 r516 _ _ from ⟨rfl, h552, h553, h554, h555, h556⟩)
     refine cF h546 hb547 (xx ?_)
     obtain rfl := si h
     exact kd (show impl_LongestHeld_c3_Q a1 a2 a3 r516 _ _ from ⟨rfl, h541, h542, h543, h544, h545⟩)) ?_
 revert h hr1207
 revert r1206
 intro y559 hr1207 h
 intro x e557 M558 hq1205
 obtain ⟨rfl, h560, h561, h562, h563, h564⟩ := hq1205
 obtain ⟨x565, hx566, h⟩ := bind_some h
 refine sN (sq (Rg (kx (faP h562 ⟨ble rfl, blt rfl⟩ rfl) (kx (ldP rfl rfl) (kx (lnS Try.underlying24 rfl) (ku (mkO rfl rfl hx566 (c := (cI .i64)) zero2 (cI_fl _) (by decide)) fun M568 hM569 => ?_))))))
 have o570 : M568[M558.length]? = some (.live ⟨.grow, 2, 1, x565.map (cI .i64)⟩) := push_new hM569
 refine ku (alO zero24) fun M572 hM573 => ?_
 have o574 := push_old hM573 o570
 have ne575 := ne_new o570
 have o576 : M572[M568.length]? = some (.live ⟨.box, 24, 1, [[.nils]]⟩) := push_new hM573
 refine kw (stO rfl rfl o576 rfl rfl ⟨rfl, ble rfl⟩ (all1 (okL o574 (by simp)) all0) rfl) fun M577 hM578 => ?_
 have o579 := set_ne hM578 ne575 o574
 have o580 : M577[M568.length]? = some (.live ⟨.box, 24, 1, [[.lsl M558.length x565.length 0 x565.length]]⟩) := set_same hM578 o576
 obtain ⟨x589, hx590, h⟩ := bind_some h
 refine Rn (hV (.sl none (a2.map Deal.c)) h560 (hV (.int .i64 a3) h561 (hV (.pt none [.int .i64 a1.Day, .sl none (a1.Cash.map (cI .i64)), .sl none (a1.Tallies.map Tally.c)]) h562 (hV (.sl (some 2) (r516.map (cI .i64))) h563 (hV (.int .i64 y559) h564 (hV (.loc M568.length 1 0 0) rfl hZ)))))) fun e581 h583 h584 h585 h586 h587 h588 => sN (sq (Rg (kx (faP h585 ⟨ble rfl, blt rfl⟩ rfl) (kx (ldP rfl rfl) (kx (lnS Try.underlying24 rfl) (ku (mkO rfl rfl hx590 (c := cB) zero4 cB_fl (by decide)) fun M592 hM593 => ?_))))))
 clear h560 h561 h562 h563 h564
 have o594 := push_old hM593 o579
 have ne595 := ne_new o579
 have o596 := push_old hM593 o580
 have ne597 := ne_new o580
 have o598 : M592[M577.length]? = some (.live ⟨.grow, 4, 1, x589.map cB⟩) := push_new hM593
 refine ku (alO zero100) fun M600 hM601 => ?_
 have o602 := push_old hM601 o594
 have ne603 := ne_new o594
 have o604 := push_old hM601 o596
 have ne605 := ne_new o596
 have o606 := push_old hM601 o598
 have ne607 := ne_new o598
 have o608 : M600[M592.length]? = some (.live ⟨.box, 100, 1, [[.nils]]⟩) := push_new hM601
 refine kw (stO rfl rfl o608 rfl rfl ⟨rfl, ble rfl⟩ (all1 (okL o606 (by simp)) all0) rfl) fun M609 hM610 => ?_
 have o611 := set_ne hM610 ne603 o602
 have o612 := set_ne hM610 ne605 o604
 have o613 := set_ne hM610 ne607 o606
 have o614 : M609[M592.length]? = some (.live ⟨.box, 100, 1, [[.lsl M577.length x589.length 0 x589.length]]⟩) := set_same hM610 o608
 refine Rn (hA h583 (hA h584 (hA h585 (hA h586 (hA h587 (hA h588 (hV (.loc M592.length 1 0 0) rfl hZ))))))) fun e615 h617 h618 h619 h620 h621 h622 h623 => sN (sq (Rd (kf (faP h619 ⟨ble rfl, blt rfl⟩ rfl) (kf (ldP rfl rfl) (Ev.nfpushE (alO zero2) (Ev.nfpushE (alO zero2) (Ev.fend1 fun M626 hM627 => ?_)))))))
 clear h583 h584 h585 h586 h587 h588
 have hM627 := fendM hM627 [⟨.box, 2, 1, [[.int .i64 0]]⟩, ⟨.box, 2, 1, [[.int .i64 0]]⟩] rfl
 have o628 := push_old hM627 o611
 have o629 := push_old hM627 o612
 have o630 := push_old hM627 o613
 have o631 := push_old hM627 o614
 have ne632 : M558.length ≠ M609.length := by have := lt_of_get (M := M609) o611; omega
 have ne633 : M568.length ≠ M609.length := by have := lt_of_get (M := M609) o612; omega
 have ne634 : M577.length ≠ M609.length := by have := lt_of_get (M := M609) o613; omega
 have ne635 : M592.length ≠ M609.length := by have := lt_of_get (M := M609) o614; omega
 have o636 : M626[M609.length]? = some (.live ⟨.box, 2, 1, [[.int .i64 0]]⟩) := push_at hM627 0 rfl
 have ne637 : M558.length ≠ (M609.length + 1) := by have := lt_of_get (M := M609) o611; omega
 have ne638 : M568.length ≠ (M609.length + 1) := by have := lt_of_get (M := M609) o612; omega
 have ne639 : M577.length ≠ (M609.length + 1) := by have := lt_of_get (M := M609) o613; omega
 have ne640 : M592.length ≠ (M609.length + 1) := by have := lt_of_get (M := M609) o614; omega
 have ne641 : M609.length ≠ (M609.length + 1) := by omega
 have o642 : M626[(M609.length + 1)]? = some (.live ⟨.box, 2, 1, [[.int .i64 0]]⟩) := push_at hM627 1 rfl
 refine kw (stO rfl rfl o636 rfl rfl ⟨rfl, ble rfl⟩ rfl rfl) fun M643 hM644 => ?_
 have o645 := set_ne hM644 ne632 o628
 have o646 := set_ne hM644 ne633 o629
 have o647 := set_ne hM644 ne634 o630
 have o648 := set_ne hM644 ne635 o631
 have o649 : M643[M609.length]? = some (.live ⟨.box, 2, 1, [[.int .i64 (-1)]]⟩) := set_same hM644 o636
 have o650 := set_ne hM644 (Ne.symm ne641) o642
 refine kw (stO rfl rfl o650 rfl rfl ⟨rfl, ble rfl⟩ rfl rfl) fun M651 hM652 => ?_
 have o653 := set_ne hM652 ne637 o645
 have o654 := set_ne hM652 ne638 o646
 have o655 := set_ne hM652 ne639 o647
 have o656 := set_ne hM652 ne640 o648
 have o657 := set_ne hM652 ne641 o649
 have o658 : M651[(M609.length + 1)]? = some (.live ⟨.box, 2, 1, [[.int .i64 a1.Day]]⟩) := set_same hM652 o650
 obtain ⟨r1203, hr1204, h⟩ := bind_some h
 refine Rn (hA h617 (hA h618 (hA h619 (hA h620 (hA h621 (hA h622 (hA h623 (hV (.loc M609.length 1 0 0) rfl (hV (.loc (M609.length + 1) 1 0 0) rfl hZ))))))))) fun e659 h661 h662 h663 h664 h665 h666 h667 h668 h669 => sN (sq ?_)
 clear h617 h618 h619 h620 h621 h622 h623
 refine Ev.cut (Q1 := impl_LongestHeld_c4_Q a1 a2 r516 y559 x565 x589 M558.length M568.length M577.length M592.length M609.length (M609.length + 1) r1203) (by
     have h := hr1204
     refine sq (Rg (kx (mvO h662) (kx (faP h663 ⟨ble rfl, blt rfl⟩ rfl) (kx (ldP rfl rfl) (kx (lnS Try.underlying48 rfl) (kx (bLss rfl rfl) (Rn (hA h661 (hA h662 (hA h663 (hA h664 (hA h665 (hA h666 (hA h667 (hA h668 (hA h669 (hN rfl hZ)))))))))) fun e670 h672 h673 h674 h675 h676 h677 h678 h679 h680 h681 => sN ?_)))))))
     clear h661 h662 h663 h664 h665 h666 h667 h668 h669
     rcases ite_some h with ⟨hb682, h⟩ | ⟨hb682, h⟩
     ·obtain ⟨x683, hx684, h⟩ := bind_some h
      refine cT h681 hb682 (Rg (kx (faP h674 ⟨ble rfl, blt rfl⟩ rfl) (kx (ldP rfl rfl) (kx (mvO h673) (kx (ixS rfl rfl hx684 Tally.fl) (kx (faP rfl ⟨ble rfl, blt rfl⟩ rfl) (kx (ldP rfl rfl) (kw (stO h679 rfl o657 rfl rfl ⟨rfl, ble rfl⟩ rfl rfl) fun M685 hM686 => ?_))))))))
      have o687 := set_ne hM686 ne632 o653
      have o688 := set_ne hM686 ne633 o654
      have o689 := set_ne hM686 ne634 o655
      have o690 := set_ne hM686 ne635 o656
      have o691 : M685[M609.length]? = some (.live ⟨.box, 2, 1, [[.int .i64 x683.Holder]]⟩) := set_same hM686 o657
      have o692 := set_ne hM686 (Ne.symm ne641) o658
      refine Rn (hA h672 (hA h675 (hA h676 (hA h677 (hA h678 (hA h679 (hA h680 hZ))))))) fun e693 h695 h696 h697 h698 h699 h700 h701 => ?_
      clear h672 h673 h674 h675 h676 h677 h678 h679 h680 h681
      obtain rfl := si h
      exact kd (show impl_LongestHeld_c4_Q a1 a2 r516 y559 x565 x589 M558.length M568.length M577.length M592.length M609.length (M609.length + 1) _ _ from ⟨rfl, h695, h696, h697, h698, h699, h700, h701, o687, o688, o689, o690, o691, o692⟩)
     refine cF h681 hb682 (xx ?_)
     obtain rfl := si h
     exact kd (show impl_LongestHeld_c4_Q a1 a2 r516 y559 x565 x589 M558.length M568.length M577.length M592.length M609.length (M609.length + 1) _ _ from ⟨rfl, h672, h675, h676, h677, h678, h679, h680, o653, o654, o655, o656, o657, o658⟩)) ?_
 revert h hr1204
 revert r1203
 intro y704 hr1204 h
 intro x e702 M703 hq1202
 obtain ⟨rfl, h705, h706, h707, h708, h709, h710, h711, o712, o713, o714, o715, o716, o717⟩ := hq1202
 obtain ⟨⟨y982, y983, y984, y985⟩, hr978, h⟩ := bind_some h
 refine sN (sq (Rg (kx (mvO (congrArg (AV.fn 63) (cns h710 (cns h708 (cns h711 (cns h709 rfl)))))) (kx (mvO rfl) (Rn (hV (.sl none (a2.map Deal.c)) h705 (hV (.sl (some 2) (r516.map (cI .i64))) h706 (hV (.int .i64 y559) h707 (hV (.loc M568.length 1 0 0) h708 (hV (.loc M592.length 1 0 0) h709 (hV (.fn 63 [.loc M609.length 1 0 0, .loc M568.length 1 0 0, .loc (M609.length + 1) 1 0 0, .loc M592.length 1 0 0]) rfl hZ)))))) fun e718 h720 h721 h722 h723 h724 h725 => sN (sq (sq (Rg (kx (mvO h721) (kx (lnS Try.underlying24 rfl) (kx (mvO rfl) (Rn (hA h720 (hA h722 (hA h723 (hA h724 (hA h725 (hN rfl (hN rfl (hV (.int .i64 0) rfl hZ)))))))) fun e726 h728 h729 h730 h731 h732 h733 h734 h735 => sN (bl (Ev.loop (RS := impl_LongestHeld_b3_RS a2 r516 y559 x565 x589 (M609.length + 1) M558.length M568.length M577.length M592.length M609.length) (RR := impl_LongestHeld_b3_RR a2 r516 y559 x565 x589 (M609.length + 1) M558.length M568.length M577.length M592.length M609.length) (fun s r h e M hs => impl_LongestHeld_b3_ok a2 r516 y559 x565 x589 (M609.length + 1) M558.length M568.length M577.length M592.length M609.length ne575 ne595 ne603 ne632 ne637 ne597 ne605 ne633 ne638 ne607 ne634 ne639 ne635 ne640 ne641 s r h e M hs) hr978 ⟨h728, h729, h730, h731, h732, h733, h734, h735, o712, o713, o714, o715, o716, o717, rfl, rfl⟩ fun x e980 M981 hq979 => ?_))))))))))))))
 clear h705 h706 h707 h708 h709 h710 h711 h720 h721 h722 h723 h724 h725
 obtain ⟨rfl, h986, h987, h988, h989, o990, o991, o992, o993, o994, o995, hl996, hl997⟩ := hq979
 refine bE (sN (sq (Rg (kx (mvO h989) (kx (mvO h986) ?_)))))
 have o998 : M981[M568.length]? = some (.live ⟨.box, 24, 1, [[.lsl M558.length y982.length 0 y982.length]]⟩) := by simpa [hl996, hl997] using o991
 have o999 : M981[M592.length]? = some (.live ⟨.box, 100, 1, [[.lsl M577.length y983.length 0 y983.length]]⟩) := by simpa [hl996, hl997] using o993
 obtain ⟨⟨r1001, r1002, r1003, r1004⟩, hx1000, h⟩ := bind_some h
 refine Ev.nxw (Ev.callW rfl (cns rfl (cns rfl (cns rfl (cns rfl (cns rfl (cns rfl rfl)))))) (impl_LongestHeld_1_pppp_ok (-1) y559 y984 y982 y985 y983 M609.length M568.length M558.length (M609.length + 1) M592.length M577.length (Ne.symm ne633) (Ne.symm ne632) ne641 (Ne.symm ne635) (Ne.symm ne634) (Ne.symm ne575) ne638 ne605 ne597 ne637 ne603 ne595 (Ne.symm ne640) (Ne.symm ne639) (Ne.symm ne607) M981 o994 o998 o990 o995 o999 o992 _ hx1000)) fun v1007 M1005 hq1006 => ?_
 obtain ⟨hv1007, o1008, o1009, o1010, o1011, o1012, o1013, fr1014, hl1015, hl1016⟩ := hq1006
 have hv1007 : v1007 = .tup [] := hv1007
 subst hv1007
 have o1017 : M1005[M609.length]? = some (.live ⟨.box, 2, 1, [[.int .i64 r1001]]⟩) := o1008
 have o1018 : M1005[M568.length]? = some (.live ⟨.box, 24, 1, [[.lsl M558.length r1002.length 0 r1002.length]]⟩) := o1009
 have o1019 : M1005[M558.length]? = some (.live ⟨.grow, 2, 1, r1002.map (cI .i64)⟩) := o1010
 have o1020 : M1005[(M609.length + 1)]? = some (.live ⟨.box, 2, 1, [[.int .i64 r1003]]⟩) := o1011
 have o1021 : M1005[M592.length]? = some (.live ⟨.box, 100, 1, [[.lsl M577.length r1004.length 0 r1004.length]]⟩) := o1012
 have o1022 : M1005[M577.length]? = some (.live ⟨.grow, 4, 1, r1004.map cB⟩) := o1013
 have hl1015 : r1002.length = y982.length := hl1015
 have hl1016 : r1004.length = y983.length := hl1016
 obtain ⟨y1188, hr1184, h⟩ := bind_some h
 refine Rn (hV (.loc M568.length 1 0 0) h987 (hV (.loc M592.length 1 0 0) h988 hZ)) fun e1023 h1025 h1026 => sN (sq (Rg (kx (mvO rfl) (Rn (hA h1025 (hA h1026 (hV (.int .i64 (-1)) rfl hZ))) fun e1027 h1029 h1030 h1031 => sN (sq (sq (Rg (kx (ldO h1029 o1018 rfl rfl rfl) (kx (lnL Try.underlying24 rfl o1019 (by simp [hl996, hl997, hl1015, hl1016])) (kx (mvO rfl) (Rn (hA h1029 (hA h1030 (hA h1031 (hV (.lsl M558.length r1002.length 0 r1002.length) rfl (hN rfl (hV (.int .i64 0) rfl hZ)))))) fun e1032 h1034 h1035 h1036 h1037 h1038 h1039 => sN (bl (Ev.loop (RS := impl_LongestHeld_b4_RS r1002 r1004 M558.length M568.length M577.length M592.length) (RR := impl_LongestHeld_b4_RR r1002 r1004 M558.length M568.length M577.length M592.length) (fun s r h e M hs => impl_LongestHeld_b4_ok r1002 r1004 M558.length M568.length M577.length M592.length ne575 ne595 ne603 ne597 ne605 ne607 s r h e M hs) hr1184 ⟨h1034, h1035, h1036, h1037, h1038, h1039, o1019, o1018, o1022, o1021⟩ fun x e1186 M1187 hq1185 => ?_)))))))))))))
 clear h986 h987 h988 h989 h1025 h1026 h1029 h1030 h1031
 obtain ⟨rfl, h1189, h1190, o1191, o1192, o1193, o1194⟩ := hq1185
 obtain ⟨x1195, hx1196, h⟩ := bind_some h
 refine bE (sN (sq (Rd (kf (mvO h1190) (kf (ldO h1189 o1192 rfl rfl rfl) (kf (mvO h1190) (kf (ixO rfl o1191 rfl rfl (rd_get hx1196).1 (rd_lt hx1196).2) (kf (ldO rfl o1191 (by simp [hl996, hl997, hl1015, hl1016]) (rz hx1196) rfl) (kf (mvO rfl) (kf (mvO rfl) (kf (mvO rfl) (fZ (Rn (hN rfl (hN rfl (hV (.int .i64 0) rfl hZ))) fun e1197 h1199 h1200 h1201 => sN (xx ?_))))))))))))))
 clear h1189 h1190
 obtain rfl := si h
 exact eR (resT h1199 (resT h1200 (resT h1201 res0))) rfl
/-! ### loop.example/g01263/laws.toDealS (f26) -/
abbrev laws_toDealS_b1_S := Int × (List Deal)
abbrev laws_toDealS_b1_R := (List Deal)
def laws_toDealS_b1_RS (a1 : List Deal) (x4 : List Deal) (i1_1 : Nat) (s : laws_toDealS_b1_S) (e : Env) (M : Mem) : Prop := eget e 0 = .sl none (a1.map Deal.c) ∧ eget e 3 = .lsl i1_1 s.2.length 0 s.2.length ∧ eget e 4 = .int .i64 s.1 ∧ M[i1_1]? = some (.live ⟨.grow, 114, 6, s.2.map Deal.c⟩) ∧ s.2.length = x4.length
def laws_toDealS_b1_RR (a1 : List Deal) (x4 : List Deal) (i1_1 : Nat) (g : laws_toDealS_b1_R) (x : Ex) (e : Env) (M : Mem) : Prop := x = .ext 0 ∧ eget e 3 = .lsl i1_1 g.length 0 g.length ∧ M[i1_1]? = some (.live ⟨.grow, 114, 6, g.map Deal.c⟩) ∧ g.length = x4.length
noncomputable def laws_toDealS_b1 (a1 : List Deal) : laws_toDealS_b1_S → Option (laws_toDealS_b1_S ⊕ laws_toDealS_b1_R) := fun (s1_1, s1_2) =>
 if (decide (s1_1 < (a1.length : Int))) = true then
  (rd a1 s1_1).bind fun x45 =>
  (laws_toDeal x45).bind fun (r48, r49, r50, r51, r52, r53) =>
  (rd s1_2 s1_1).bind fun x54 =>
  some (.inl ((IntKind.i64.wrap (s1_1 + 1)), (s1_2.set s1_1.toNat (Deal.mk r48 r49 r50 r51 r52 r53))))
 else
  some (.inr s1_2)
theorem laws_toDealS_b1_ok (a1 : List Deal) (x4 : List Deal) (i1_1 : Nat) (s : laws_toDealS_b1_S) (r : laws_toDealS_b1_S ⊕ laws_toDealS_b1_R) (h : laws_toDealS_b1 a1 s = some r) (e : Env) (M : Mem) (hs : laws_toDealS_b1_RS a1 x4 i1_1 s e M) : Ev (fun k => (f26_l3 (CN k) k (prune [0, 3, 4] e) M).bind fun q => some q) (bQ (laws_toDealS_b1_RS a1 x4 i1_1) (laws_toDealS_b1_RR a1 x4 i1_1) r) := by
 obtain ⟨s1_1, s1_2⟩ := s
 unfold laws_toDealS_b1 at h
 obtain ⟨h30, h32, h34, o36, hl37⟩ := hs
 generalize he29 : prune [0, 3, 4] e = e28
 have h31 := envp he29.symm rfl h30
 have h33 := envp he29.symm rfl h32
 have h35 := envp he29.symm rfl h34
 refine sq (sq (Rg (kx (mvO h35) (kx (mvO h31) (kx (lnS Try.underlying43 rfl) (kx (bLss rfl rfl) (Rn (hV (.sl none (a1.map Deal.c)) h31 (hV (.lsl i1_1 s1_2.length 0 s1_2.length) h33 (hV (.int .i64 s1_1) h35 (hN rfl hZ)))) fun e38 h40 h41 h42 h43 => sN ?_)))))))
 clear h31 h33 h35
 rcases ite_some h with ⟨hb44, h⟩ | ⟨hb44, h⟩
 ·obtain ⟨x45, hx46, h⟩ := bind_some h
  obtain ⟨⟨r48, r49, r50, r51, r52, r53⟩, hx47, h⟩ := bind_some h
  obtain ⟨x54, hx55, h⟩ := bind_some h
  refine cT h43 hb44 (xx (sN (sq (bl (Rg (kx (mvO h41) (kx (mvO h42) (kx (mvO h40) (kx (mvO h42) (kx (ixS rfl rfl hx46 Deal.fl) (kx (ldPA rfl rfl rfl) (kc (cl (v := .agg [.int .i64 r48, .int .i8 r49, .int .i64 r50, .int .i64 r51, .int .i64 r52, .int .i64 r53]) rfl (cns rfl rfl) rfl (laws_toDeal_ok x45 _ hx47) nm) (kx (ixO rfl o36 rfl rfl (rd_get hx55).1 (rd_lt hx55).2) (kw (stR (u := x54) (u' := (Deal.mk r48 r49 r50 r51 r52 r53)) rfl rfl o36 rfl (rz2 hx55) ⟨rfl, ble rfl⟩ rfl rfl) fun M56 hM57 => ?_))))))))))))))
  rw [Nat.zero_add] at hM57
  have o58 : M56[i1_1]? = some (.live ⟨.grow, 114, 6, (s1_2.set s1_1.toNat (Deal.mk r48 r49 r50 r51 r52 r53)).map Deal.c⟩) := set_same hM57 o36
  have hx59 := rd_set (u' := (Deal.mk r48 r49 r50 r51 r52 r53)) hx55
  refine Rn (hA h40 (hA h41 (hA h42 hZ))) fun e60 h62 h63 h64 => bN (sN (Rg (kx (mvO h64) (kx (bAdd rfl rfl) (kx (mvO rfl) (Rn (hA h62 (hA h63 (hN rfl hZ))) fun e65 h67 h68 h69 => ?_))))))
  clear h40 h41 h42 h43 h62 h63
  obtain rfl := si h
  exact qN ⟨h67, (lslL (L' := (s1_2.set s1_1.toNat (Deal.mk r48 r49 r50 r51 r52 r53)).length) h68 (by simp [hl37])), h69, o58, (by first | rfl | simp [hl37])⟩
 refine cF h43 hb44 (xx (sE ?_))
 obtain rfl := si h
 exact qE ⟨rfl, h41, o36, (by first | rfl | simp [hl37])⟩
noncomputable def laws_toDealS (a1 : List Deal) : Option ((List Deal)) :=
 (mkS 48 (Deal.mk 0 0 0 0 0 0) (a1.length : Int)).bind fun x4 =>
 (Lw (laws_toDealS_b1 a1) (0, x4)).bind fun y75 =>
 some y75
def laws_toDealS_enc (r : (List Deal)) : AV := .sl (some 114) (r.map Deal.c)
theorem laws_toDealS_ok (a1 : List Deal) (r : (List Deal)) (h : laws_toDealS a1 = some r) : Ev (fun k => CN k 26 [.sl none (a1.map Deal.c)] []) (fun p => rRes p.2 p.1 = laws_toDealS_enc r) := by
 unfold laws_toDealS at h
 obtain ⟨x4, hx5, h⟩ := bind_some h
 refine Ev.enter (F := fun k => f26 (CN k) k) (fun k => callN_eq rfl Try.func26 rfl rfl rfl (by decide +kernel) (f26_eq _ _)) (sq (Rg (kx (mvO rfl) (Rn (hN rfl hZ) fun e1 h3 => sN (sq (Rg (kx (mvO h3) (kx (lnS Try.underlying43 rfl) (ku (mkO rfl rfl hx5 (c := Deal.c) zero114 Deal.fl (by decide)) fun M7 hM8 => ?_)))))))))
 have o9 : M7[([] : Mem).length]? = some (.live ⟨.grow, 114, 6, x4.map Deal.c⟩) := push_new hM8
 obtain ⟨y75, hr71, h⟩ := bind_some h
 refine kx (mvO rfl) (Rn (hA h3 (hV (.lsl ([] : Mem).length x4.length 0 x4.length) rfl hZ)) fun e10 h12 h13 => sN (sq (sq (Rg (kx (mvO rfl) (Rn (hA h12 (hA h13 (hV (.int .i64 0) rfl hZ))) fun e14 h16 h17 h18 => sN (bl (Ev.loop (RS := laws_toDealS_b1_RS a1 x4 (([] : Mem).length)) (RR := laws_toDealS_b1_RR a1 x4 (([] : Mem).length)) (fun s r h e M hs => laws_toDealS_b1_ok a1 x4 (([] : Mem).length) s r h e M hs) hr71 ⟨h16, h17, h18, o9, rfl⟩ fun x e73 M74 hq72 => ?_))))))))
 clear h3 h12 h13
 obtain ⟨rfl, h76, o77, hl78⟩ := hq72
 refine bE (sN (sq (Rg (kx (mvO h76) (kx (mvO rfl) (Rn (hV (.lsl ([] : Mem).length y75.length 0 y75.length) rfl hZ) fun e79 h81 => sN (xx ?_)))))))
 clear h76
 obtain rfl := si h
 exact eR (resT h81 res0) (rr_row o77 rfl Deal.fl)
/-! ### loop.example/g01263/laws.toBook (f25) -/
noncomputable def laws_toBook (a1 : Book) : Option (Int × (List Int) × (List Tally)) :=
 (laws_toInt64S a1.Cash).bind fun r30 =>
 (laws_toTallyS a1.Tallies).bind fun r41 =>
 some (a1.Day, r30, r41)
def laws_toBook_enc (r : Int × (List Int) × (List Tally)) : AV := .agg [.int .i64 r.1, .sl none (r.2.1.map (cI .i64)), .sl none (r.2.2.map Tally.c)]
theorem laws_toBook_ok (a1 : Book) (r : Int × (List Int) × (List Tally)) (h : laws_toBook a1 = some r) : Ev (fun k => CN k 25 [.agg [.int .i64 a1.Day, .sl none (a1.Cash.map (cI .i64)), .sl none (a1.Tallies.map Tally.c)]] []) (fun p => rRes p.2 p.1 = laws_toBook_enc r) := by
 unfold laws_toBook at h
 refine Ev.enter (F := fun k => f25 (CN k) k) (fun k => callN_eq rfl Try.func25 rfl rfl rfl (by decide +kernel) (f25_eq _ _)) (sq (Rg (kx (bxI rfl rfl ⟨rfl, rfl, by decide⟩) (ku (alO zero50) fun M2 hM3 => ?_))))
 have o4 : M2[([] : Mem).length]? = some (.live ⟨.box, 50, 3, [[.int .i64 0, .nils, .nils]]⟩) := push_new hM3
 refine Rn (hN rfl (hV (.loc ([] : Mem).length 1 0 0) rfl hZ)) fun e5 h7 h8 => sN (sq (Rg (ku (alO zero50) fun M10 hM11 => ?_)))
 have o12 := push_old hM11 o4
 have ne13 := ne_new o4
 have o14 : M10[M2.length]? = some (.live ⟨.box, 50, 3, [[.int .i64 0, .nils, .nils]]⟩) := push_new hM11
 refine Rn (hA h7 (hA h8 (hV (.loc M2.length 1 0 0) rfl hZ))) fun e15 h17 h18 h19 => sN (sq (Rg (kx (faP h17 ⟨ble rfl, blt rfl⟩ rfl) (kx (ldP rfl rfl) (kx (faO h19 o14 rfl) (kw (stO rfl rfl o14 rfl rfl ⟨rfl, ble rfl⟩ rfl rfl) fun M20 hM21 => ?_))))))
 clear h7 h8
 have o22 := set_ne hM21 ne13 o12
 have o23 : M20[M2.length]? = some (.live ⟨.box, 50, 3, [[.int .i64 a1.Day, .nils, .nils]]⟩) := set_same hM21 o14
 obtain ⟨r30, hx29, h⟩ := bind_some h
 refine Rn (hA h17 (hA h18 (hA h19 hZ))) fun e24 h26 h27 h28 => sN (sq (Rg (kx (faP h26 ⟨ble rfl, blt rfl⟩ rfl) (kx (ldP rfl rfl) (kc (cl (v := .sl (some 2) (r30.map (cI .i64))) rfl (cns rfl rfl) rfl (laws_toInt64S_ok a1.Cash _ hx29) nm) (kx (faO h28 o23 rfl) (kw (stO rfl rfl o23 rfl rfl ⟨rfl, ble rfl⟩ rfl rfl) fun M31 hM32 => ?_)))))))
 clear h17 h18 h19
 have o33 := set_ne hM32 ne13 o22
 have o34 : M31[M2.length]? = some (.live ⟨.box, 50, 3, [[.int .i64 a1.Day, .sl none (r30.map (cI .i64)), .nils]]⟩) := set_same hM32 o23
 obtain ⟨r41, hx40, h⟩ := bind_some h
 refine Rn (hA h26 (hA h27 (hA h28 hZ))) fun e35 h37 h38 h39 => sN (sq (Rg (kx (faP h37 ⟨ble rfl, blt rfl⟩ rfl) (kx (ldP rfl rfl) (kc (cl (v := .sl (some 110) (r41.map Tally.c)) rfl (cns rfl rfl) rfl (laws_toTallyS_ok a1.Tallies _ hx40) nm) (kx (faO h39 o34 rfl) (kw (stO rfl rfl o34 rfl rfl ⟨rfl, ble rfl⟩ rfl rfl) fun M42 hM43 => ?_)))))))
 clear h26 h27 h28
 have o44 := set_ne hM43 ne13 o33
 have o45 : M42[M2.length]? = some (.live ⟨.box, 50, 3, [[.int .i64 a1.Day, .sl none (r30.map (cI .i64)), .sl none (r41.map Tally.c)]]⟩) := set_same hM43 o34
 refine Rn (hA h38 (hA h39 hZ)) fun e46 h48 h49 => sN (sq (Rg (kx (ldOA h49 o45 rfl rfl (ble rfl) rfl) (kw (stO h48 rfl o44 rfl rfl ⟨rfl, ble rfl⟩ rfl rfl) fun M50 hM51 => ?_))))
 clear h37 h38 h39
 have o52 : M50[([] : Mem).length]? = some (.live ⟨.box, 50, 3, [[.int .i64 a1.Day, .sl none (r30.map (cI .i64)), .sl none (r41.map Tally.c)]]⟩) := set_same hM51 o44
 have o53 := set_ne hM51 (Ne.symm ne13) o45
 refine Rn (hA h48 hZ) fun e54 h56 => sN (xx ?_)
 clear h48 h49
 obtain rfl := si h
 exact eR (resC (ag := true) (sz := 3) ⟨by kernel_rfl, by kernel_rfl, by kernel_rfl⟩ (ldOA h56 o52 rfl rfl (ble rfl) rfl) res0) rfl
end Go.Proofs.Ytfoiojafilgolaa

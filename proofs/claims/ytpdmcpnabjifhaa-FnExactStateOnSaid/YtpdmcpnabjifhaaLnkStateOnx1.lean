/- Printed by a program of ours (ext.py). -/
import Derived.Test.YtpdmcpnabjifhaaLnkStateOnx0
set_option linter.unusedVariables false
set_option linter.unusedSimpArgs false
set_option maxRecDepth 100000
set_option maxHeartbeats 2000000
namespace Go.Proofs.Ytpdmcpnabjifhaa
open Go Go.Ab
/-! ### slices.IndexFunc[[]loop.example/g01263/impl.Deal,loop.example/g01263/impl.Deal] (f69) -/
abbrev slices_IndexFunc_Deal__impl_stateOn_1_b1_S := Int
abbrev slices_IndexFunc_Deal__impl_stateOn_1_b1_R := Int ⊕ Unit
def slices_IndexFunc_Deal__impl_stateOn_1_b1_RS (a1 : List Deal) (a2 : Int) (s : slices_IndexFunc_Deal__impl_stateOn_1_b1_S) (e : Env) (M : Mem) : Prop := eget e 0 = .sl none (a1.map Deal.c) ∧ eget e 1 = .fn 70 [.pt none [.int .i64 a2]] ∧ eget e 7 = .int .i64 (a1.length : Int) ∧ eget e 8 = .int .i64 s
def slices_IndexFunc_Deal__impl_stateOn_1_b1_RR (a1 : List Deal) (a2 : Int) (r : slices_IndexFunc_Deal__impl_stateOn_1_b1_R) (x : Ex) (e : Env) (M : Mem) : Prop :=
  match r with
  | (.inl g) => x = .ret ∧ eget e 4 = .int .i64 g
  | (.inr g) => x = .ext 0 ∧ True
noncomputable def slices_IndexFunc_Deal__impl_stateOn_1_b1 (a1 : List Deal) (a2 : Int) : slices_IndexFunc_Deal__impl_stateOn_1_b1_S → Option (slices_IndexFunc_Deal__impl_stateOn_1_b1_S ⊕ slices_IndexFunc_Deal__impl_stateOn_1_b1_R) := fun s1_1 =>
 if (decide (s1_1 < (a1.length : Int))) = true then
  (rd a1 s1_1).bind fun x46 =>
  (impl_stateOn_1 x46 a2).bind fun r49 =>
  if r49 = true then
   some (.inr (.inl s1_1))
  else
   some (.inl (IntKind.i64.wrap (s1_1 + 1)))
 else
  some (.inr (.inr ()))
theorem slices_IndexFunc_Deal__impl_stateOn_1_b1_ok (a1 : List Deal) (a2 : Int) (s : slices_IndexFunc_Deal__impl_stateOn_1_b1_S) (r : slices_IndexFunc_Deal__impl_stateOn_1_b1_S ⊕ slices_IndexFunc_Deal__impl_stateOn_1_b1_R) (h : slices_IndexFunc_Deal__impl_stateOn_1_b1 a1 a2 s = some r) (e : Env) (M : Mem) (hs : slices_IndexFunc_Deal__impl_stateOn_1_b1_RS a1 a2 s e M) : Ev (fun k => (f69_l2 (CN k) k (prune [0, 1, 7, 8] e) M).bind fun q => some q) (bQ (slices_IndexFunc_Deal__impl_stateOn_1_b1_RS a1 a2) (slices_IndexFunc_Deal__impl_stateOn_1_b1_RR a1 a2) r) := by
 revert h hs
 revert s
 intro s1_1 h hs
 unfold slices_IndexFunc_Deal__impl_stateOn_1_b1 at h
 obtain ⟨h23, h25, h27, h29⟩ := hs
 generalize he22 : prune [0, 1, 7, 8] e = e21
 have h24 := envp he22.symm rfl h23
 have h26 := envp he22.symm rfl h25
 have h28 := envp he22.symm rfl h27
 have h30 := envp he22.symm rfl h29
 refine sq (Rg (kx (bLss h30 h28) (Rn (hV (.sl none (a1.map Deal.c)) h24 (hV (.fn 70 [.pt none [.int .i64 a2]]) h26 (hV (.int .i64 (a1.length : Int)) h28 (hV (.int .i64 s1_1) h30 (hN rfl hZ))))) fun e31 h33 h34 h35 h36 h37 => sN (sq ?_))))
 clear h24 h26 h28 h30
 rcases ite_some h with ⟨hb38, h⟩ | ⟨hb38, h⟩
 ·obtain ⟨x46, hx47, h⟩ := bind_some h
  obtain ⟨r49, hx48, h⟩ := bind_some h
  refine cT h37 hb38 (xx (sN (sq (bl (sq (Rg (kx (mvO h36) (kx (mvO rfl) (Rn (hA h33 (hA h34 (hN rfl (hA h35 (hA h36 hZ))))) fun e39 h41 h42 h43 h44 h45 => sN (sq (Rg (kx (mvO h42) (kx (mvO h41) (kx (mvO h43) (kx (ixS rfl rfl hx47 Deal.fl) (kx (ldPA rfl rfl rfl) (kc (cl (v := .bool r49) rfl (cns rfl (cns rfl rfl)) rfl (impl_stateOn_1_ok x46 a2 _ hx48) nm) (Rn (hA h41 (hA h42 (hA h43 (hA h44 (hA h45 (hN rfl hZ)))))) fun e50 h52 h53 h54 h55 h56 h57 => sN ?_))))))))))))))))))
  clear h33 h34 h35 h36 h37 h41 h42 h43 h44 h45
  rcases ite_some h with ⟨hb58, h⟩ | ⟨hb58, h⟩
  ·refine cT h57 hb58 (sq (Rg (kx (mvO h54) (kx (mvO rfl) (Rn (hN rfl hZ) fun e59 h61 => sN (xx (bR (sR ?_))))))))
   clear h52 h53 h54 h55 h56 h57
   obtain rfl := si h
   exact qR ⟨rfl, h61⟩
  refine cF h57 hb58 (xx (bN (sN (Rg (kx (bAdd h56 rfl) (kx (mvO rfl) (Rn (hA h52 (hA h53 (hA h55 (hN rfl hZ)))) fun e62 h64 h65 h66 h67 => ?_)))))))
  clear h52 h53 h54 h55 h57
  obtain rfl := si h
  exact qN ⟨h64, h65, h66, h67⟩
 refine cF h37 hb38 (xx (sE ?_))
 obtain rfl := si h
 exact qE ⟨rfl, trivial⟩
noncomputable def slices_IndexFunc_Deal__impl_stateOn_1 (a1 : List Deal) (a2 : Int) : Option Int :=
 (Lw (slices_IndexFunc_Deal__impl_stateOn_1_b1 a1 a2) 0).bind fun r => match r with
 | (.inl y73) =>
  some y73
 | (.inr _) =>
  some (-1)
def slices_IndexFunc_Deal__impl_stateOn_1_enc (r : Int) : AV := .int .i64 r
theorem slices_IndexFunc_Deal__impl_stateOn_1_ok (a1 : List Deal) (a2 : Int) (r : Int) (h : slices_IndexFunc_Deal__impl_stateOn_1 a1 a2 = some r) : Ev (fun k => CN k 69 [.sl none (a1.map Deal.c), .fn 70 [.pt none [.int .i64 a2]]] []) (fun p => rRes p.2 p.1 = slices_IndexFunc_Deal__impl_stateOn_1_enc r) := by
 unfold slices_IndexFunc_Deal__impl_stateOn_1 at h
 obtain ⟨r68, hr69, h⟩ := bind_some h
 refine Ev.enter (F := fun k => f69 (CN k) k) (fun k => callN_eq rfl Try.func69 rfl rfl rfl (by decide +kernel) (f69_eq _ _)) (sq (Rg (kx (mvO rfl) (Rn (hN rfl (hV (.fn 70 [.pt none [.int .i64 a2]]) rfl hZ)) fun e1 h3 h4 => sN (sq (sq (Rg (kx (mvO h3) (kx (lnS Try.underlying35 rfl) (kx (mvO rfl) (Rn (hA h3 (hA h4 (hN rfl (hV (.int .i64 0) rfl hZ)))) fun e5 h7 h8 h9 h10 => sN (bl ?_))))))))))))
 clear h3 h4
 rcases r68 with y73 | _
 ·refine Ev.loop (RS := slices_IndexFunc_Deal__impl_stateOn_1_b1_RS a1 a2) (RR := slices_IndexFunc_Deal__impl_stateOn_1_b1_RR a1 a2) (fun s r h e M hs => slices_IndexFunc_Deal__impl_stateOn_1_b1_ok a1 a2 s r h e M hs) hr69 ⟨h7, h8, h9, h10⟩ fun x e71 M72 hq70 => ?_
  obtain ⟨rfl, h74⟩ := hq70
  refine bR (sR ?_)
  obtain rfl := si h
  exact eR (resT h74 res0) rfl
 refine Ev.loop (RS := slices_IndexFunc_Deal__impl_stateOn_1_b1_RS a1 a2) (RR := slices_IndexFunc_Deal__impl_stateOn_1_b1_RR a1 a2) (fun s r h e M hs => slices_IndexFunc_Deal__impl_stateOn_1_b1_ok a1 a2 s r h e M hs) hr69 ⟨h7, h8, h9, h10⟩ fun x e75 M76 hq70 => ?_
 obtain ⟨rfl, _⟩ := hq70
 refine bE (sN (sq (Rg (kx (mvO rfl) (Rn (hV (.int .i64 (-1)) rfl hZ) fun e77 h79 => sN (xx ?_))))))
 obtain rfl := si h
 exact eR (resT h79 res0) rfl
/-! ### loop.example/g01263/impl.books (f41) -/
abbrev impl_books_b1_S := Int × Int × (List Int) × (List Tally) × (List Book)
abbrev impl_books_b1_R := (Int × (List Book)) ⊕ (Int × (List Int) × (List Tally) × (List Book))
def impl_books_b1_RS (a2 : List Deal) (i1_1 : Nat) (i1_2 : Nat) (s : impl_books_b1_S) (e : Env) (M : Mem) : Prop := eget e 2 = .loc i1_1 1 0 0 ∧ eget e 6 = .lsl i1_2 s.2.2.2.2.length 0 s.2.2.2.2.length ∧ eget e 12 = .sl none (a2.map Deal.c) ∧ eget e 13 = .int .i64 (a2.length : Int) ∧ eget e 14 = .int .i64 s.1 ∧ (∃ qo1_B1_1 qo1_B1_2 : Option Nat, M[i1_1]? = some (.live ⟨.box, 33, 3, [[.int .i64 s.2.1, .sl qo1_B1_1 (s.2.2.1.map (cI .i64)), .sl qo1_B1_2 (s.2.2.2.1.map Tally.c)]]⟩)) ∧ M[i1_2]? = some (.live ⟨.grow, 33, 3, s.2.2.2.2.map Book.o⟩)
def impl_books_b1_RR (a2 : List Deal) (i1_1 : Nat) (i1_2 : Nat) (r : impl_books_b1_R) (x : Ex) (e : Env) (M : Mem) : Prop :=
  match r with
  | (.inl g) => x = .ret ∧ eget e 4 = .lsl i1_2 g.2.length 0 g.2.length ∧ eget e 5 = .int .i64 g.1 ∧ M[i1_2]? = some (.live ⟨.grow, 33, 3, g.2.map Book.o⟩)
  | (.inr g) => x = .ext 0 ∧ eget e 6 = .lsl i1_2 g.2.2.2.length 0 g.2.2.2.length ∧ (∃ qo1_B1_1 qo1_B1_2 : Option Nat, M[i1_1]? = some (.live ⟨.box, 33, 3, [[.int .i64 g.1, .sl qo1_B1_1 (g.2.1.map (cI .i64)), .sl qo1_B1_2 (g.2.2.1.map Tally.c)]]⟩)) ∧ M[i1_2]? = some (.live ⟨.grow, 33, 3, g.2.2.2.map Book.o⟩)
noncomputable def impl_books_b1 (a2 : List Deal) : impl_books_b1_S → Option (impl_books_b1_S ⊕ impl_books_b1_R) := fun (s1_1, s1_2, s1_3, s1_4, s1_5) =>
 if (decide (s1_1 < (a2.length : Int))) = true then
  (rd a2 s1_1).bind fun x64 =>
  (impl_do (Book.mk s1_2 s1_3 s1_4) x64).bind fun r => match r with
  | (.inl r88) =>
   if (r88 != 0) = true then
    some (.inr (.inl (r88, s1_5)))
   else
    none
  | (.inr (r141, r142, r143)) =>
   (app 56 s1_5 [(Book.mk r141 r142 r143)]).bind fun x199 =>
   some (.inl ((IntKind.i64.wrap (s1_1 + 1)), r141, r142, r143, x199))
 else
  some (.inr (.inr (s1_2, s1_3, s1_4, s1_5)))
theorem impl_books_b1_ok (a2 : List Deal) (i1_1 : Nat) (i1_2 : Nat) (ne13 : i1_1 ≠ i1_2) (s : impl_books_b1_S) (r : impl_books_b1_S ⊕ impl_books_b1_R) (h : impl_books_b1 a2 s = some r) (e : Env) (M : Mem) (hs : impl_books_b1_RS a2 i1_1 i1_2 s e M) : Ev (fun k => (f41_l3 (CN k) k (prune [2, 6, 12, 13, 14] e) M).bind fun q => some q) (bQ (impl_books_b1_RS a2 i1_1 i1_2) (impl_books_b1_RR a2 i1_1 i1_2) r) := by
 obtain ⟨s1_1, s1_2, s1_3, s1_4, s1_5⟩ := s
 unfold impl_books_b1 at h
 obtain ⟨h43, h45, h47, h49, h51, ⟨qo1_B1_1, qo1_B1_2, o53⟩, o54⟩ := hs
 generalize he42 : prune [2, 6, 12, 13, 14] e = e41
 have h44 := envp he42.symm rfl h43
 have h46 := envp he42.symm rfl h45
 have h48 := envp he42.symm rfl h47
 have h50 := envp he42.symm rfl h49
 have h52 := envp he42.symm rfl h51
 refine sq (Rg (kx (bLss h52 h50) (Rn (hV (.loc i1_1 1 0 0) h44 (hV (.lsl i1_2 s1_5.length 0 s1_5.length) h46 (hV (.sl none (a2.map Deal.c)) h48 (hV (.int .i64 (a2.length : Int)) h50 (hV (.int .i64 s1_1) h52 (hN rfl hZ)))))) fun e55 h57 h58 h59 h60 h61 h62 => sN (sq ?_))))
 clear h44 h46 h48 h50 h52
 rcases ite_some h with ⟨hb63, h⟩ | ⟨hb63, h⟩
 ·obtain ⟨x64, hx65, h⟩ := bind_some h
  refine cT h62 hb63 (xx (sN (sq (bl (sq (Rg (kx (ixS h59 h61 hx65 Deal.fl) (kx (ldPA rfl rfl rfl) (ku (alO zero65) fun M67 hM68 => ?_)))))))))
  have o69 := push_old hM68 o53
  have ne70 := ne_new o53
  have o71 := push_old hM68 o54
  have ne72 := ne_new o54
  have o73 : M67[M.length]? = some (.live ⟨.box, 65, 6, [[.int .i64 0, .int .i8 0, .int .i64 0, .int .i64 0, .int .i64 0, .int .i64 0]]⟩) := push_new hM68
  refine kw (stO rfl rfl o73 rfl rfl ⟨rfl, ble rfl⟩ rfl rfl) fun M74 hM75 => ?_
  have o76 := set_ne hM75 ne70 o69
  have o77 := set_ne hM75 ne72 o71
  have o78 : M74[M.length]? = some (.live ⟨.box, 65, 6, [[.int .i64 x64.Day, .int .i8 x64.Kind, .int .i64 x64.Tally, .int .i64 x64.From, .int .i64 x64.To, .int .i64 x64.Amount]]⟩) := set_same hM75 o73
  obtain ⟨q220, hx87, h⟩ := bind_some h
  refine Rn (hA h57 (hA h58 (hV (.loc M.length 1 0 0) rfl (hA h59 (hA h60 (hA h61 hZ)))))) fun e79 h81 h82 h83 h84 h85 h86 => sN (sq (Rg (kx (ldOA h81 o76 rfl rfl (ble rfl) rfl) (kx (ldOA h83 o78 rfl rfl (ble rfl) rfl) ?_))))
  clear h57 h58 h59 h60 h61 h62
  rcases q220 with r88 | ⟨r141, r142, r143⟩
  ·refine kc (cl (v := .tup [.agg [.int .i64 0, .nils, .nils], .int .i64 r88]) rfl (cns rfl (cns rfl rfl)) rfl (impl_do_ok (Book.mk s1_2 s1_3 s1_4) x64 _ hx87) nm) (kx (mvO rfl) (kx (exT rfl rfl) (kx (exT rfl rfl) (ku (alO zero33) fun M90 hM91 => ?_))))
   have o92 := push_old hM91 o76
   have ne93 := ne_new o76
   have o94 := push_old hM91 o77
   have ne95 := ne_new o77
   have o96 := push_old hM91 o78
   have ne97 := ne_new o78
   have o98 : M90[M74.length]? = some (.live ⟨.box, 33, 3, [[.int .i64 0, .nils, .nils]]⟩) := push_new hM91
   refine kw (stOK rfl rfl o98 rfl rfl ⟨rfl, ble rfl⟩ rfl rfl) fun M99 hM100 => ?_
   have o101 := set_ne hM100 ne93 o92
   have o102 := set_ne hM100 ne95 o94
   have o103 := set_ne hM100 ne97 o96
   have o104 : M99[M74.length]? = some (.live ⟨.box, 33, 3, [[.int .i64 0, .nils, .nils]]⟩) := set_same hM100 o98
   refine kx (mvO rfl) (Rn (hA h81 (hA h82 (hV (.loc M74.length 1 0 0) rfl (hN rfl (hA h84 (hA h85 (hA h86 hZ))))))) fun e105 h107 h108 h109 h110 h111 h112 h113 => sN (sq (sq (Rg (kx (mvO h110) (kx (bNeq rfl rfl) (Rn (hA h107 (hA h108 (hA h109 (hA h110 (hA h111 (hA h112 (hA h113 (hN rfl hZ)))))))) fun e114 h116 h117 h118 h119 h120 h121 h122 h123 => sN ?_)))))))
   clear h81 h82 h83 h84 h85 h86 h107 h108 h109 h110 h111 h112 h113
   rcases ite_some h with ⟨hb124, h⟩ | ⟨hb124, h⟩
   ·refine cT h123 hb124 (sq (Rg (kx (mvO h117) (kx (mvO h119) (kx (mvO rfl) (kx (mvO rfl) (Rn (hV (.lsl i1_2 s1_5.length 0 s1_5.length) rfl (hN rfl hZ)) fun e125 h127 h128 => sN (xx (sR (bR (sR ?_)))))))))))
    clear h116 h117 h118 h119 h120 h121 h122 h123
    obtain rfl := si h
    exact qR ⟨rfl, h127, h128, o102⟩
   refine cF h123 hb124 (xx (sN (sq (Rg (kx (ldOA h118 o104 rfl rfl (ble rfl) rfl) (kw (stOK h116 rfl o101 rfl rfl ⟨rfl, ble rfl⟩ rfl rfl) fun M129 hM130 => ?_))))))
   have o131 : M129[i1_1]? = some (.live ⟨.box, 33, 3, [[.int .i64 0, .nils, .nils]]⟩) := set_same hM130 o101
   have o132 := set_ne hM130 (Ne.symm ne13) o102
   have o133 := set_ne hM130 (Ne.symm ne93) o104
   refine Rn (hA h116 (hA h117 (hA h120 (hA h121 (hA h122 hZ))))) fun e134 h136 h137 h138 h139 h140 => sN (Rg (kx (mvO h137) (kx (ldOA h136 o131 rfl rfl (ble rfl) rfl) ?_)))
   clear h116 h117 h118 h119 h120 h121 h122 h123
   cases h
  refine kc (cl (v := .tup [.agg [.int .i64 r141, .sl (some 2) (r142.map (cI .i64)), .sl (some 75) (r143.map Tally.c)], .int .i64 0]) rfl (cns rfl (cns rfl rfl)) rfl (impl_do_ok (Book.mk s1_2 s1_3 s1_4) x64 _ hx87) nm) (kx (mvO rfl) (kx (exT rfl rfl) (kx (exT rfl rfl) (ku (alO zero33) fun M145 hM146 => ?_))))
  have o147 := push_old hM146 o76
  have ne148 := ne_new o76
  have o149 := push_old hM146 o77
  have ne150 := ne_new o77
  have o151 := push_old hM146 o78
  have ne152 := ne_new o78
  have o153 : M145[M74.length]? = some (.live ⟨.box, 33, 3, [[.int .i64 0, .nils, .nils]]⟩) := push_new hM146
  refine kw (stOK rfl rfl o153 rfl rfl ⟨rfl, ble rfl⟩ rfl rfl) fun M154 hM155 => ?_
  have o156 := set_ne hM155 ne148 o147
  have o157 := set_ne hM155 ne150 o149
  have o158 := set_ne hM155 ne152 o151
  have o159 : M154[M74.length]? = some (.live ⟨.box, 33, 3, [[.int .i64 r141, .sl (some 2) (r142.map (cI .i64)), .sl (some 75) (r143.map Tally.c)]]⟩) := set_same hM155 o153
  refine kx (mvO rfl) (Rn (hA h81 (hA h82 (hV (.loc M74.length 1 0 0) rfl (hV (.int .i64 0) rfl (hA h84 (hA h85 (hA h86 hZ))))))) fun e160 h162 h163 h164 h165 h166 h167 h168 => sN (sq (sq (Rg (kx (mvO h165) (kx (bNeq rfl rfl) (Rn (hA h162 (hA h163 (hA h164 (hA h165 (hA h166 (hA h167 (hA h168 (hV (.bool false) rfl hZ)))))))) fun e169 h171 h172 h173 h174 h175 h176 h177 h178 => sN (cF h178 rfl (xx (sN (sq (Rg (kx (ldOA h173 o159 rfl rfl (ble rfl) rfl) (kw (stOK h171 rfl o156 rfl rfl ⟨rfl, ble rfl⟩ rfl rfl) fun M179 hM180 => ?_))))))))))))))
  clear h81 h82 h83 h84 h85 h86 h162 h163 h164 h165 h166 h167 h168
  have o181 : M179[i1_1]? = some (.live ⟨.box, 33, 3, [[.int .i64 r141, .sl (some 2) (r142.map (cI .i64)), .sl (some 75) (r143.map Tally.c)]]⟩) := set_same hM180 o156
  have o182 := set_ne hM180 (Ne.symm ne13) o157
  have o183 := set_ne hM180 (Ne.symm ne148) o159
  refine Rn (hA h171 (hA h172 (hA h175 (hA h176 (hA h177 hZ))))) fun e184 h186 h187 h188 h189 h190 => sN (Rg (kx (mvO h187) (kx (ldOA h186 o181 rfl rfl (ble rfl) rfl) (ku (litO (kp := true) (xs := [(Book.mk r141 r142 r143)]) (c := Book.o) (cns rfl rfl) rfl (by decide)) fun M192 hM193 => ?_))))
  clear h171 h172 h173 h174 h175 h176 h177 h178
  have o194 := push_old hM193 o181
  have ne195 := ne_new o181
  have o196 := push_old hM193 o182
  have ne197 := ne_new o182
  have o198 : M192[M179.length]? = some (.live ⟨.grow, 33, 3, [(Book.mk r141 r142 r143)].map Book.o⟩) := push_new hM193
  obtain ⟨x199, hx200, h⟩ := bind_some h
  refine kw (apOc rfl o196 rfl (elL rfl o198 rfl) hx200 Book.oc (by decide)) fun M201 hM202 => ?_
  have o203 := set_ne hM202 ne13 o194
  have o204 : M201[i1_2]? = some (.live ⟨.grow, 33, 3, x199.map Book.o⟩) := set_same hM202 o196
  have o205 := set_ne hM202 (Ne.symm ne197) o198
  refine kx (mvO rfl) (Rn (hA h186 (hV (.lsl i1_2 x199.length 0 x199.length) rfl (hA h188 (hA h189 (hA h190 hZ))))) fun e206 h208 h209 h210 h211 h212 => bN (sN (Rg (kx (bAdd h212 rfl) (kx (mvO rfl) (Rn (hA h208 (hA h209 (hA h210 (hA h211 (hN rfl hZ))))) fun e213 h215 h216 h217 h218 h219 => ?_))))))
  clear h186 h188 h189 h190 h208 h209 h210 h211
  obtain rfl := si h
  exact qN ⟨h215, h216, h217, h218, h219, ⟨_, _, o203⟩, o204⟩
 refine cF h62 hb63 (xx (sE ?_))
 obtain rfl := si h
 exact qE ⟨rfl, h58, ⟨_, _, o53⟩, o54⟩
noncomputable def impl_books (a1 : Book) (a2 : List Deal) : Option ((List Book) × Int) :=
 (Lw (impl_books_b1 a2) (0, a1.Day, a1.Cash, a1.Tallies, ([] : List Book))).bind fun r => match r with
 | (.inl (y226, y227)) =>
  some (y227, y226)
 | (.inr (y233, y234, y235, y236)) =>
  some (y236, 0)
def impl_books_enc (r : (List Book) × Int) : AV := .tup [(nslV 33 Book.o r.1), .int .i64 r.2]
theorem impl_books_ok (a1 : Book) (a2 : List Deal) (r : (List Book) × Int) (h : impl_books a1 a2 = some r) : Ev (fun k => CN k 41 [.agg [.int .i64 a1.Day, .sl none (a1.Cash.map (cI .i64)), .sl none (a1.Tallies.map Tally.c)], .sl none (a2.map Deal.c)] []) (fun p => rRes p.2 p.1 = impl_books_enc r) := by
 unfold impl_books at h
 refine Ev.enter (F := fun k => f41 (CN k) k) (fun k => callN_eq rfl Try.func41 rfl rfl rfl (by decide +kernel) (f41_eq _ _)) (sq (Rg (ku (bxO rfl rfl ⟨rfl, rfl, by decide⟩) fun M2 hM3 => ?_)))
 have o4 : M2[([] : Mem).length]? = some (.live ⟨.box, 33, 3, [[.int .i64 a1.Day, .sl none (a1.Cash.map (cI .i64)), .sl none (a1.Tallies.map Tally.c)]]⟩) := push_new hM3
 refine kx (mvO rfl) (kx (mvO rfl) (Rn (hN rfl (hV (.loc ([] : Mem).length 1 0 0) rfl hZ)) fun e5 h7 h8 => sN (sq (Rg (ku (litO (kp := true) (xs := ([] : List Book)) (c := Book.o) rfl rfl (by decide)) fun M10 hM11 => ?_)))))
 have o12 := push_old hM11 o4
 have ne13 := ne_new o4
 have o14 : M10[M2.length]? = some (.live ⟨.grow, 33, 3, ([] : List Book).map Book.o⟩) := push_new hM11
 obtain ⟨r221, hr222, h⟩ := bind_some h
 refine kx (mvO rfl) (Rn (hA h7 (hA h8 (hV (.lsl M2.length ([] : List Book).length 0 ([] : List Book).length) rfl hZ))) fun e15 h17 h18 h19 => sN (sq (sq (Rg (kx (mvO h17) (kx (lnS Try.underlying35 rfl) (kx (mvO rfl) (Rn (hA h18 (hA h19 (hN rfl (hN rfl (hV (.int .i64 0) rfl hZ))))) fun e20 h22 h23 h24 h25 h26 => sN (bl ?_)))))))))
 clear h7 h8 h17 h18 h19
 rcases r221 with ⟨y226, y227⟩ | ⟨y233, y234, y235, y236⟩
 ·refine Ev.loop (RS := impl_books_b1_RS a2 (([] : Mem).length) M2.length) (RR := impl_books_b1_RR a2 (([] : Mem).length) M2.length) (fun s r h e M hs => impl_books_b1_ok a2 (([] : Mem).length) M2.length ne13 s r h e M hs) hr222 ⟨h22, h23, h24, h25, h26, ⟨_, _, o12⟩, o14⟩ fun x e224 M225 hq223 => ?_
  obtain ⟨rfl, h228, h229, o230⟩ := hq223
  refine bR (sR ?_)
  obtain rfl := si h
  exact eR (resT h228 (resT h229 res0)) (rr_tup (mp1 (rr_nsv o230 rfl Book.oc) (mp1 rfl mp0)))
 refine Ev.loop (RS := impl_books_b1_RS a2 (([] : Mem).length) M2.length) (RR := impl_books_b1_RR a2 (([] : Mem).length) M2.length) (fun s r h e M hs => impl_books_b1_ok a2 (([] : Mem).length) M2.length ne13 s r h e M hs) hr222 ⟨h22, h23, h24, h25, h26, ⟨_, _, o12⟩, o14⟩ fun x e231 M232 hq223 => ?_
 obtain ⟨rfl, h237, ⟨qo1_B1_1, qo1_B1_2, o238⟩, o239⟩ := hq223
 refine bE (sN (sq (Rg (kx (mvO h237) (kx (mvO rfl) (kx (mvO rfl) (Rn (hV (.lsl M2.length y236.length 0 y236.length) rfl (hV (.int .i64 0) rfl hZ)) fun e240 h242 h243 => sN (xx ?_))))))))
 clear h237
 obtain rfl := si h
 exact eR (resT h242 (resT h243 res0)) (rr_tup (mp1 (rr_nsv o239 rfl Book.oc) (mp1 rfl mp0)))
/-! ### loop.example/g01263/impl.behind (f46) -/
noncomputable def impl_behind (a1 : Book) (a2 : List Deal) : Option (Int ⊕ (Int × (List Int) × (List Tally))) :=
 (impl_books a1 a2).bind fun (r11, r12) =>
 if (r12 != 0) = true then
  some (.inl r12)
 else
  if ((r11.length : Int) == 0) = true then
   (impl_ownBook a1).bind fun (r42, r43, r44) =>
   some (.inr (r42, r43, r44))
  else
   (rd r11 (IntKind.i64.wrap ((r11.length : Int) - 1))).bind fun x52 =>
   some (.inr (x52.Day, x52.Cash, x52.Tallies))
def impl_behind_enc (r : Int ⊕ (Int × (List Int) × (List Tally))) : AV :=
  match r with
  | (.inl g) => .tup [.agg [.int .i64 0, .nils, .nils], .int .i64 g]
  | (.inr g) => .tup [.agg [.int .i64 g.1, .sl (some 2) (g.2.1.map (cI .i64)), .sl (some 75) (g.2.2.map Tally.c)], .int .i64 0]
theorem impl_behind_ok (a1 : Book) (a2 : List Deal) (r : Int ⊕ (Int × (List Int) × (List Tally))) (h : impl_behind a1 a2 = some r) : Ev (fun k => CN k 46 [.agg [.int .i64 a1.Day, .sl none (a1.Cash.map (cI .i64)), .sl none (a1.Tallies.map Tally.c)], .sl none (a2.map Deal.c)] []) (fun p => rRes p.2 p.1 = impl_behind_enc r) := by
 unfold impl_behind at h
 refine Ev.enter (F := fun k => f46 (CN k) k) (fun k => callN_eq rfl Try.func46 rfl rfl rfl (by decide +kernel) (f46_eq _ _)) (sq (Rg (kx (bxI rfl rfl ⟨rfl, rfl, by decide⟩) (ku (alO zero33) fun M2 hM3 => ?_))))
 have o4 : M2[([] : Mem).length]? = some (.live ⟨.box, 33, 3, [[.int .i64 0, .nils, .nils]]⟩) := push_new hM3
 obtain ⟨⟨r11, r12⟩, hx10, h⟩ := bind_some h
 refine kx (mvO rfl) (Rn (hN rfl (hN rfl (hV (.loc ([] : Mem).length 1 0 0) rfl hZ))) fun e5 h7 h8 h9 => sN (sq (Rg (kx (ldPA h8 rfl rfl) (kx (mvO h7) (kc (cl (v := .tup [(nslV 33 Book.o r11), .int .i64 r12]) rfl (cns rfl (cns rfl rfl)) rfl (impl_books_ok a1 a2 _ hx10) nm) (kx (mvO rfl) (kx (exT rfl rfl) (kx (exT rfl rfl) (kx (mvO rfl) (kx (mvO rfl) (Rn (hA h8 (hA h9 (hV ((nslV 33 Book.o r11)) rfl (hN rfl hZ)))) fun e13 h15 h16 h17 h18 => sN (sq (bl (sq (Rg (kx (mvO h18) (kx (bNeq rfl rfl) (kx (mvO rfl) (Rn (hA h15 (hA h16 (hA h17 (hA h18 (hN rfl hZ))))) fun e19 h21 h22 h23 h24 h25 => sN ?_))))))))))))))))))))
 clear h7 h8 h9 h15 h16 h17 h18
 rcases ite_some h with ⟨hb26, h⟩ | ⟨hb26, h⟩
 ·refine cT h25 hb26 (sq (Rg (kx (bldT zero33 rfl (fill0 rfl)) (kx (mvO h24) (kw (stOK h22 rfl o4 rfl rfl ⟨rfl, ble rfl⟩ rfl rfl) fun M27 hM28 => ?_)))))
  have o29 : M27[([] : Mem).length]? = some (.live ⟨.box, 33, 3, [[.int .i64 0, .nils, .nils]]⟩) := set_same hM28 o4
  refine kx (mvO rfl) (Rn (hA h22 (hN rfl hZ)) fun e30 h32 h33 => sN (xx (bR (sR ?_))))
  clear h21 h22 h23 h24 h25
  obtain rfl := si h
  exact eR (resC (ag := true) (sz := 3) ⟨by kernel_rfl, by kernel_rfl, by kernel_rfl⟩ (ldOA h32 o29 rfl rfl (ble rfl) rfl) (resT h33 res0)) rfl
 refine cF h25 hb26 (sq (Rg (kx (mvO h23) (kx (lnV Try.underlying59 rfl) (kx (bEql rfl rfl) (kx (mvO rfl) (Rn (hA h21 (hA h22 (hA h23 (hN rfl hZ)))) fun e34 h36 h37 h38 h39 => sN ?_)))))))
 clear h21 h22 h23 h24 h25
 rcases ite_some h with ⟨hb40, h⟩ | ⟨hb40, h⟩
 ·obtain ⟨⟨r42, r43, r44⟩, hx41, h⟩ := bind_some h
  refine cT h39 hb40 (sq (Rg (kx (ldPA h36 rfl rfl) (kc (cl (v := .agg [.int .i64 r42, .sl (some 2) (r43.map (cI .i64)), .sl (some 75) (r44.map Tally.c)]) rfl (cns rfl rfl) rfl (impl_ownBook_ok a1 _ hx41) nm) (kw (stOK h37 rfl o4 rfl rfl ⟨rfl, ble rfl⟩ rfl rfl) fun M45 hM46 => ?_)))))
  have o47 : M45[([] : Mem).length]? = some (.live ⟨.box, 33, 3, [[.int .i64 r42, .sl (some 2) (r43.map (cI .i64)), .sl (some 75) (r44.map Tally.c)]]⟩) := set_same hM46 o4
  refine kx (mvO rfl) (Rn (hA h37 (hV (.int .i64 0) rfl hZ)) fun e48 h50 h51 => sN (xx (bR (sR ?_))))
  clear h36 h37 h38 h39
  obtain rfl := si h
  exact eR (resC (ag := true) (sz := 3) ⟨by kernel_rfl, by kernel_rfl, by kernel_rfl⟩ (ldOA h50 o47 rfl rfl (ble rfl) rfl) (resT h51 res0)) rfl
 obtain ⟨x52, hx53, h⟩ := bind_some h
 refine cF h39 hb40 (xx (bN (sN (sq (Rg (kx (mvO h38) (kx (mvO h38) (kx (lnV Try.underlying59 rfl) (kx (bSub rfl rfl) (kx (ixV rfl rfl hx53 Book.oc) (kx (ldN (cs' := [.int .i64 x52.Day, .sl (some 2) (x52.Cash.map (cI .i64)), .sl (some 75) (x52.Tallies.map Tally.c)]) rfl rfl rfl) (kw (stOK h37 rfl o4 rfl rfl ⟨rfl, ble rfl⟩ rfl rfl) fun M54 hM55 => ?_))))))))))))
 have o56 : M54[([] : Mem).length]? = some (.live ⟨.box, 33, 3, [[.int .i64 x52.Day, .sl (some 2) (x52.Cash.map (cI .i64)), .sl (some 75) (x52.Tallies.map Tally.c)]]⟩) := set_same hM55 o4
 refine kx (mvO rfl) (Rn (hA h37 (hV (.int .i64 0) rfl hZ)) fun e57 h59 h60 => sN (xx ?_))
 clear h36 h37 h38 h39
 obtain rfl := si h
 exact eR (resC (ag := true) (sz := 3) ⟨by kernel_rfl, by kernel_rfl, by kernel_rfl⟩ (ldOA h59 o56 rfl rfl (ble rfl) rfl) (resT h60 res0)) rfl
/-! ### loop.example/g01263/impl.stateOn (f55) -/
noncomputable def impl_stateOn (a1 : Book) (a2 : List Deal) (a3 : Int) : Option ((Int × Int) ⊕ (Int × (List Int) × (List Tally))) :=
 if (decide (a3 < a1.Day)) = true then
  some (.inl (0, 4))
 else
  (slices_IndexFunc_Deal__impl_stateOn_1 a2 a3).bind fun r27 =>
  if (decide (r27 < 0)) = true then
   (slc a2 0 (a2.length : Int)).bind fun x51 =>
   (impl_behind a1 x51).bind fun r => match r with
   | (.inl r54) =>
    if (r54 != 0) = true then
     some (.inl (0, r54))
    else
     some (.inl (a3, 0))
   | (.inr (r103, r104, r105)) =>
    some (.inr (a3, r104, r105))
  else
   (slc a2 0 r27).bind fun x146 =>
   (impl_behind a1 x146).bind fun r => match r with
   | (.inl r149) =>
    if (r149 != 0) = true then
     some (.inl (0, r149))
    else
     some (.inl (a3, 0))
   | (.inr (r198, r199, r200)) =>
    some (.inr (a3, r199, r200))
def impl_stateOn_enc (r : (Int × Int) ⊕ (Int × (List Int) × (List Tally))) : AV :=
  match r with
  | (.inl g) => .tup [.agg [.int .i64 g.1, .nils, .nils], .int .i64 g.2]
  | (.inr g) => .tup [.agg [.int .i64 g.1, .sl (some 2) (g.2.1.map (cI .i64)), .sl (some 75) (g.2.2.map Tally.c)], .int .i64 0]
theorem impl_stateOn_ok (a1 : Book) (a2 : List Deal) (a3 : Int) (r : (Int × Int) ⊕ (Int × (List Int) × (List Tally))) (h : impl_stateOn a1 a2 a3 = some r) : Ev (fun k => CN k 55 [.agg [.int .i64 a1.Day, .sl none (a1.Cash.map (cI .i64)), .sl none (a1.Tallies.map Tally.c)], .sl none (a2.map Deal.c), .int .i64 a3] []) (fun p => rRes p.2 p.1 = impl_stateOn_enc r) := by
 unfold impl_stateOn at h
 refine Ev.enter (F := fun k => f55 (CN k) k) (fun k => callN_eq rfl Try.func55 rfl rfl rfl (by decide +kernel) (f55_eq _ _)) (sq (Rg (kx (bxI rfl rfl ⟨rfl, rfl, by decide⟩) (kx (bxI rfl rfl ⟨rfl, rfl, by decide⟩) (ku (alO zero33) fun M2 hM3 => ?_)))))
 have o4 : M2[([] : Mem).length]? = some (.live ⟨.box, 33, 3, [[.int .i64 0, .nils, .nils]]⟩) := push_new hM3
 refine kx (mvO rfl) (Rn (hN rfl (hN rfl (hN rfl (hV (.loc ([] : Mem).length 1 0 0) rfl hZ)))) fun e5 h7 h8 h9 h10 => sN (sq (sq (Rg (kx (ldP h9 rfl) (kx (faP h8 ⟨ble rfl, blt rfl⟩ rfl) (kx (ldP rfl rfl) (kx (bLss rfl rfl) (Rn (hA h7 (hA h8 (hA h9 (hA h10 (hN rfl hZ))))) fun e11 h13 h14 h15 h16 h17 => sN ?_)))))))))
 clear h10 h7 h8 h9
 rcases ite_some h with ⟨hb18, h⟩ | ⟨hb18, h⟩
 ·refine cT h17 hb18 (sq (Rg (kx (bldT zero33 rfl (fill0 rfl)) (kw (stOK h16 rfl o4 rfl rfl ⟨rfl, ble rfl⟩ rfl rfl) fun M19 hM20 => ?_))))
  have o21 : M19[([] : Mem).length]? = some (.live ⟨.box, 33, 3, [[.int .i64 0, .nils, .nils]]⟩) := set_same hM20 o4
  refine kx (mvO rfl) (Rn (hA h16 (hV (.int .i64 4) rfl hZ)) fun e22 h24 h25 => sN (xx (sR ?_)))
  clear h13 h14 h15 h16 h17
  obtain rfl := si h
  exact eR (resC (ag := true) (sz := 3) ⟨by kernel_rfl, by kernel_rfl, by kernel_rfl⟩ (ldOA h24 o21 rfl rfl (ble rfl) rfl) (resT h25 res0)) rfl
 obtain ⟨r27, hx26, h⟩ := bind_some h
 refine cF h17 hb18 (xx (sN (sq (Rg (kx (mvO h13) (kx (mvO (congrArg (AV.fn 70) (cns h15 rfl))) (kc (cl (v := .int .i64 r27) rfl (cns rfl (cns rfl rfl)) rfl (slices_IndexFunc_Deal__impl_stateOn_1_ok a2 a3 _ hx26) nm) (kx (mvO rfl) (Rn (hA h13 (hA h14 (hA h15 (hA h16 (hN rfl hZ))))) fun e28 h30 h31 h32 h33 h34 => sN (sq (sq (Rg (kx (mvO h34) (kx (bLss rfl rfl) (Rn (hA h30 (hA h31 (hA h32 (hA h33 (hA h34 (hN rfl hZ)))))) fun e35 h37 h38 h39 h40 h41 h42 => sN ?_)))))))))))))))
 clear h13 h14 h15 h16 h17 h30 h31 h32 h33 h34
 rcases ite_some h with ⟨hb43, h⟩ | ⟨hb43, h⟩
 ·obtain ⟨x51, hx52, h⟩ := bind_some h
  obtain ⟨q145, hx53, h⟩ := bind_some h
  refine cT h42 hb43 (Rg (kx (mvO h37) (kx (lnS Try.underlying35 rfl) (kx (mvO rfl) (Rn (hA h37 (hA h38 (hA h39 (hA h40 (hN rfl hZ))))) fun e44 h46 h47 h48 h49 h50 => sN (sq (Rd (kf (ldPA h47 rfl rfl) (kf (mvO h46) (kf (mvO h50) (kf (slS rfl rfl (bnd1 rfl) hx52 Deal.fl) ?_)))))))))))
  clear h37 h38 h39 h40 h42
  rcases q145 with r54 | ⟨r103, r104, r105⟩
  ·refine fc (cl (v := .tup [.agg [.int .i64 0, .nils, .nils], .int .i64 r54]) rfl (cns rfl (cns rfl rfl)) rfl (impl_behind_ok a1 x51 _ hx53) nm) (kf (mvO rfl) (kf (exT rfl rfl) (kf (exT rfl rfl) (Ev.nfpushE (alO zero33) (Ev.fend1 fun M56 hM57 => ?_)))))
   have hM57 := fendM hM57 [⟨.box, 33, 3, [[.int .i64 0, .nils, .nils]]⟩] rfl
   have o58 := push_old hM57 o4
   have ne59 : ([] : Mem).length ≠ M2.length := by have := lt_of_get (M := M2) o4; omega
   have o60 : M56[M2.length]? = some (.live ⟨.box, 33, 3, [[.int .i64 0, .nils, .nils]]⟩) := push_at hM57 0 rfl
   refine kw (stOK rfl rfl o60 rfl rfl ⟨rfl, ble rfl⟩ rfl rfl) fun M61 hM62 => ?_
   have o63 := set_ne hM62 ne59 o58
   have o64 : M61[M2.length]? = some (.live ⟨.box, 33, 3, [[.int .i64 0, .nils, .nils]]⟩) := set_same hM62 o60
   refine kx (mvO rfl) (Rn (hA h48 (hA h49 (hV (.loc M2.length 1 0 0) rfl (hN rfl hZ)))) fun e65 h67 h68 h69 h70 => sN (sq (sq (Rg (kx (mvO h70) (kx (bNeq rfl rfl) (Rn (hA h67 (hA h68 (hA h69 (hA h70 (hN rfl hZ))))) fun e71 h73 h74 h75 h76 h77 => sN ?_)))))))
   clear h46 h47 h48 h49 h50 h67 h68 h69 h70
   rcases ite_some h with ⟨hb78, h⟩ | ⟨hb78, h⟩
   ·refine cT h77 hb78 (sq (Rg (kx (bldT zero33 rfl (fill0 rfl)) (kx (mvO h76) (kw (stOK h74 rfl o63 rfl rfl ⟨rfl, ble rfl⟩ rfl rfl) fun M79 hM80 => ?_)))))
    have o81 : M79[([] : Mem).length]? = some (.live ⟨.box, 33, 3, [[.int .i64 0, .nils, .nils]]⟩) := set_same hM80 o63
    have o82 := set_ne hM80 (Ne.symm ne59) o64
    refine kx (mvO rfl) (Rn (hA h74 (hN rfl hZ)) fun e83 h85 h86 => sN (xx (sR ?_)))
    clear h73 h74 h75 h76 h77
    obtain rfl := si h
    exact eR (resC (ag := true) (sz := 3) ⟨by kernel_rfl, by kernel_rfl, by kernel_rfl⟩ (ldOA h85 o81 rfl rfl (ble rfl) rfl) (resT h86 res0)) rfl
   refine cF h77 hb78 (xx (sN (sq (Rg (kx (ldP h73 rfl) (kx (faO h75 o64 rfl) (kw (stO rfl rfl o64 rfl rfl ⟨rfl, ble rfl⟩ rfl rfl) fun M87 hM88 => ?_)))))))
   have o89 := set_ne hM88 ne59 o63
   have o90 : M87[M2.length]? = some (.live ⟨.box, 33, 3, [[.int .i64 a3, .nils, .nils]]⟩) := set_same hM88 o64
   refine Rn (hA h74 (hA h75 hZ)) fun e91 h93 h94 => sN (sq (Rg (kx (ldOA h94 o90 rfl rfl (ble rfl) rfl) (kw (stOK h93 rfl o89 rfl rfl ⟨rfl, ble rfl⟩ rfl rfl) fun M95 hM96 => ?_))))
   clear h73 h74 h75 h76 h77
   have o97 : M95[([] : Mem).length]? = some (.live ⟨.box, 33, 3, [[.int .i64 a3, .nils, .nils]]⟩) := set_same hM96 o89
   have o98 := set_ne hM96 (Ne.symm ne59) o90
   refine kx (mvO rfl) (Rn (hA h93 (hV (.int .i64 0) rfl hZ)) fun e99 h101 h102 => sN (xx ?_))
   clear h93 h94
   obtain rfl := si h
   exact eR (resC (ag := true) (sz := 3) ⟨by kernel_rfl, by kernel_rfl, by kernel_rfl⟩ (ldOA h101 o97 rfl rfl (ble rfl) rfl) (resT h102 res0)) rfl
  refine fc (cl (v := .tup [.agg [.int .i64 r103, .sl (some 2) (r104.map (cI .i64)), .sl (some 75) (r105.map Tally.c)], .int .i64 0]) rfl (cns rfl (cns rfl rfl)) rfl (impl_behind_ok a1 x51 _ hx53) nm) (kf (mvO rfl) (kf (exT rfl rfl) (kf (exT rfl rfl) (Ev.nfpushE (alO zero33) (Ev.fend1 fun M107 hM108 => ?_)))))
  have hM108 := fendM hM108 [⟨.box, 33, 3, [[.int .i64 0, .nils, .nils]]⟩] rfl
  have o109 := push_old hM108 o4
  have ne110 : ([] : Mem).length ≠ M2.length := by have := lt_of_get (M := M2) o4; omega
  have o111 : M107[M2.length]? = some (.live ⟨.box, 33, 3, [[.int .i64 0, .nils, .nils]]⟩) := push_at hM108 0 rfl
  refine kw (stOK rfl rfl o111 rfl rfl ⟨rfl, ble rfl⟩ rfl rfl) fun M112 hM113 => ?_
  have o114 := set_ne hM113 ne110 o109
  have o115 : M112[M2.length]? = some (.live ⟨.box, 33, 3, [[.int .i64 r103, .sl (some 2) (r104.map (cI .i64)), .sl (some 75) (r105.map Tally.c)]]⟩) := set_same hM113 o111
  refine kx (mvO rfl) (Rn (hA h48 (hA h49 (hV (.loc M2.length 1 0 0) rfl (hV (.int .i64 0) rfl hZ)))) fun e116 h118 h119 h120 h121 => sN (sq (sq (Rg (kx (mvO h121) (kx (bNeq rfl rfl) (Rn (hA h118 (hA h119 (hA h120 (hA h121 (hV (.bool false) rfl hZ))))) fun e122 h124 h125 h126 h127 h128 => sN (cF h128 rfl (xx (sN (sq (Rg (kx (ldP h124 rfl) (kx (faO h126 o115 rfl) (kw (stO rfl rfl o115 rfl rfl ⟨rfl, ble rfl⟩ rfl rfl) fun M129 hM130 => ?_)))))))))))))))
  clear h46 h47 h48 h49 h50 h118 h119 h120 h121
  have o131 := set_ne hM130 ne110 o114
  have o132 : M129[M2.length]? = some (.live ⟨.box, 33, 3, [[.int .i64 a3, .sl (some 2) (r104.map (cI .i64)), .sl (some 75) (r105.map Tally.c)]]⟩) := set_same hM130 o115
  refine Rn (hA h125 (hA h126 hZ)) fun e133 h135 h136 => sN (sq (Rg (kx (ldOA h136 o132 rfl rfl (ble rfl) rfl) (kw (stOK h135 rfl o131 rfl rfl ⟨rfl, ble rfl⟩ rfl rfl) fun M137 hM138 => ?_))))
  clear h124 h125 h126 h127 h128
  have o139 : M137[([] : Mem).length]? = some (.live ⟨.box, 33, 3, [[.int .i64 a3, .sl (some 2) (r104.map (cI .i64)), .sl (some 75) (r105.map Tally.c)]]⟩) := set_same hM138 o131
  have o140 := set_ne hM138 (Ne.symm ne110) o132
  refine kx (mvO rfl) (Rn (hA h135 (hV (.int .i64 0) rfl hZ)) fun e141 h143 h144 => sN (xx ?_))
  clear h135 h136
  obtain rfl := si h
  exact eR (resC (ag := true) (sz := 3) ⟨by kernel_rfl, by kernel_rfl, by kernel_rfl⟩ (ldOA h143 o139 rfl rfl (ble rfl) rfl) (resT h144 res0)) rfl
 obtain ⟨x146, hx147, h⟩ := bind_some h
 obtain ⟨q240, hx148, h⟩ := bind_some h
 refine cF h42 hb43 (xx (sN (sq (Rd (kf (ldPA h38 rfl rfl) (kf (mvO h37) (kf (mvO h41) (kf (slS rfl rfl (bnd1 rfl) hx147 Deal.fl) ?_))))))))
 rcases q240 with r149 | ⟨r198, r199, r200⟩
 ·refine fc (cl (v := .tup [.agg [.int .i64 0, .nils, .nils], .int .i64 r149]) rfl (cns rfl (cns rfl rfl)) rfl (impl_behind_ok a1 x146 _ hx148) nm) (kf (mvO rfl) (kf (exT rfl rfl) (kf (exT rfl rfl) (Ev.nfpushE (alO zero33) (Ev.fend1 fun M151 hM152 => ?_)))))
  have hM152 := fendM hM152 [⟨.box, 33, 3, [[.int .i64 0, .nils, .nils]]⟩] rfl
  have o153 := push_old hM152 o4
  have ne154 : ([] : Mem).length ≠ M2.length := by have := lt_of_get (M := M2) o4; omega
  have o155 : M151[M2.length]? = some (.live ⟨.box, 33, 3, [[.int .i64 0, .nils, .nils]]⟩) := push_at hM152 0 rfl
  refine kw (stOK rfl rfl o155 rfl rfl ⟨rfl, ble rfl⟩ rfl rfl) fun M156 hM157 => ?_
  have o158 := set_ne hM157 ne154 o153
  have o159 : M156[M2.length]? = some (.live ⟨.box, 33, 3, [[.int .i64 0, .nils, .nils]]⟩) := set_same hM157 o155
  refine kx (mvO rfl) (Rn (hA h39 (hA h40 (hV (.loc M2.length 1 0 0) rfl (hN rfl hZ)))) fun e160 h162 h163 h164 h165 => sN (sq (sq (Rg (kx (mvO h165) (kx (bNeq rfl rfl) (Rn (hA h162 (hA h163 (hA h164 (hA h165 (hN rfl hZ))))) fun e166 h168 h169 h170 h171 h172 => sN ?_)))))))
  clear h37 h38 h39 h40 h41 h42 h162 h163 h164 h165
  rcases ite_some h with ⟨hb173, h⟩ | ⟨hb173, h⟩
  ·refine cT h172 hb173 (sq (Rg (kx (bldT zero33 rfl (fill0 rfl)) (kx (mvO h171) (kw (stOK h169 rfl o158 rfl rfl ⟨rfl, ble rfl⟩ rfl rfl) fun M174 hM175 => ?_)))))
   have o176 : M174[([] : Mem).length]? = some (.live ⟨.box, 33, 3, [[.int .i64 0, .nils, .nils]]⟩) := set_same hM175 o158
   have o177 := set_ne hM175 (Ne.symm ne154) o159
   refine kx (mvO rfl) (Rn (hA h169 (hN rfl hZ)) fun e178 h180 h181 => sN (xx (sR ?_)))
   clear h168 h169 h170 h171 h172
   obtain rfl := si h
   exact eR (resC (ag := true) (sz := 3) ⟨by kernel_rfl, by kernel_rfl, by kernel_rfl⟩ (ldOA h180 o176 rfl rfl (ble rfl) rfl) (resT h181 res0)) rfl
  refine cF h172 hb173 (xx (sN (sq (Rg (kx (ldP h168 rfl) (kx (faO h170 o159 rfl) (kw (stO rfl rfl o159 rfl rfl ⟨rfl, ble rfl⟩ rfl rfl) fun M182 hM183 => ?_)))))))
  have o184 := set_ne hM183 ne154 o158
  have o185 : M182[M2.length]? = some (.live ⟨.box, 33, 3, [[.int .i64 a3, .nils, .nils]]⟩) := set_same hM183 o159
  refine Rn (hA h169 (hA h170 hZ)) fun e186 h188 h189 => sN (sq (Rg (kx (ldOA h189 o185 rfl rfl (ble rfl) rfl) (kw (stOK h188 rfl o184 rfl rfl ⟨rfl, ble rfl⟩ rfl rfl) fun M190 hM191 => ?_))))
  clear h168 h169 h170 h171 h172
  have o192 : M190[([] : Mem).length]? = some (.live ⟨.box, 33, 3, [[.int .i64 a3, .nils, .nils]]⟩) := set_same hM191 o184
  have o193 := set_ne hM191 (Ne.symm ne154) o185
  refine kx (mvO rfl) (Rn (hA h188 (hV (.int .i64 0) rfl hZ)) fun e194 h196 h197 => sN (xx ?_))
  clear h188 h189
  obtain rfl := si h
  exact eR (resC (ag := true) (sz := 3) ⟨by kernel_rfl, by kernel_rfl, by kernel_rfl⟩ (ldOA h196 o192 rfl rfl (ble rfl) rfl) (resT h197 res0)) rfl
 refine fc (cl (v := .tup [.agg [.int .i64 r198, .sl (some 2) (r199.map (cI .i64)), .sl (some 75) (r200.map Tally.c)], .int .i64 0]) rfl (cns rfl (cns rfl rfl)) rfl (impl_behind_ok a1 x146 _ hx148) nm) (kf (mvO rfl) (kf (exT rfl rfl) (kf (exT rfl rfl) (Ev.nfpushE (alO zero33) (Ev.fend1 fun M202 hM203 => ?_)))))
 have hM203 := fendM hM203 [⟨.box, 33, 3, [[.int .i64 0, .nils, .nils]]⟩] rfl
 have o204 := push_old hM203 o4
 have ne205 : ([] : Mem).length ≠ M2.length := by have := lt_of_get (M := M2) o4; omega
 have o206 : M202[M2.length]? = some (.live ⟨.box, 33, 3, [[.int .i64 0, .nils, .nils]]⟩) := push_at hM203 0 rfl
 refine kw (stOK rfl rfl o206 rfl rfl ⟨rfl, ble rfl⟩ rfl rfl) fun M207 hM208 => ?_
 have o209 := set_ne hM208 ne205 o204
 have o210 : M207[M2.length]? = some (.live ⟨.box, 33, 3, [[.int .i64 r198, .sl (some 2) (r199.map (cI .i64)), .sl (some 75) (r200.map Tally.c)]]⟩) := set_same hM208 o206
 refine kx (mvO rfl) (Rn (hA h39 (hA h40 (hV (.loc M2.length 1 0 0) rfl (hV (.int .i64 0) rfl hZ)))) fun e211 h213 h214 h215 h216 => sN (sq (sq (Rg (kx (mvO h216) (kx (bNeq rfl rfl) (Rn (hA h213 (hA h214 (hA h215 (hA h216 (hV (.bool false) rfl hZ))))) fun e217 h219 h220 h221 h222 h223 => sN (cF h223 rfl (xx (sN (sq (Rg (kx (ldP h219 rfl) (kx (faO h221 o210 rfl) (kw (stO rfl rfl o210 rfl rfl ⟨rfl, ble rfl⟩ rfl rfl) fun M224 hM225 => ?_)))))))))))))))
 clear h37 h38 h39 h40 h41 h42 h213 h214 h215 h216
 have o226 := set_ne hM225 ne205 o209
 have o227 : M224[M2.length]? = some (.live ⟨.box, 33, 3, [[.int .i64 a3, .sl (some 2) (r199.map (cI .i64)), .sl (some 75) (r200.map Tally.c)]]⟩) := set_same hM225 o210
 refine Rn (hA h220 (hA h221 hZ)) fun e228 h230 h231 => sN (sq (Rg (kx (ldOA h231 o227 rfl rfl (ble rfl) rfl) (kw (stOK h230 rfl o226 rfl rfl ⟨rfl, ble rfl⟩ rfl rfl) fun M232 hM233 => ?_))))
 clear h219 h220 h221 h222 h223
 have o234 : M232[([] : Mem).length]? = some (.live ⟨.box, 33, 3, [[.int .i64 a3, .sl (some 2) (r199.map (cI .i64)), .sl (some 75) (r200.map Tally.c)]]⟩) := set_same hM233 o226
 have o235 := set_ne hM233 (Ne.symm ne205) o227
 refine kx (mvO rfl) (Rn (hA h230 (hV (.int .i64 0) rfl hZ)) fun e236 h238 h239 => sN (xx ?_))
 clear h230 h231
 obtain rfl := si h
 exact eR (resC (ag := true) (sz := 3) ⟨by kernel_rfl, by kernel_rfl, by kernel_rfl⟩ (ldOA h238 o234 rfl rfl (ble rfl) rfl) (resT h239 res0)) rfl
/-! ### loop.example/g01263/spec.l07All (f37) -/
abbrev spec_l07All_b1_S := Int × Int × (List Int) × (List Tally) × (List Book)
abbrev spec_l07All_b1_R := (Int × Int) ⊕ (Int × (List Int) × (List Tally) × (List Book))
def spec_l07All_b1_RS (a2 : List Deal) (i1_1 : Nat) (i1_2 : Nat) (s : spec_l07All_b1_S) (e : Env) (M : Mem) : Prop := eget e 1 = .sl none (a2.map Deal.c) ∧ eget e 7 = .lsl i1_1 s.2.2.2.2.length 0 s.2.2.2.2.length ∧ eget e 8 = .loc i1_2 1 0 0 ∧ eget e 9 = .int .i64 s.1 ∧ M[i1_2]? = some (.live ⟨.box, 33, 3, [[.int .i64 s.2.1, .sl none (s.2.2.1.map (cI .i64)), .sl none (s.2.2.2.1.map Tally.c)]]⟩) ∧ M[i1_1]? = some (.live ⟨.grow, 33, 3, s.2.2.2.2.map Book.c⟩)
def spec_l07All_b1_RR (a2 : List Deal) (i1_1 : Nat) (i1_2 : Nat) (r : spec_l07All_b1_R) (x : Ex) (e : Env) (M : Mem) : Prop :=
  match r with
  | (.inl g) => x = .ret ∧ eget e 4 = .lit 33 (([] : List Book).map Book.c) ∧ eget e 5 = .int .i64 g.1 ∧ eget e 6 = .int .i64 g.2
  | (.inr g) => x = .ext 0 ∧ eget e 7 = .lsl i1_1 g.2.2.2.length 0 g.2.2.2.length ∧ M[i1_2]? = some (.live ⟨.box, 33, 3, [[.int .i64 g.1, .sl none (g.2.1.map (cI .i64)), .sl none (g.2.2.1.map Tally.c)]]⟩) ∧ M[i1_1]? = some (.live ⟨.grow, 33, 3, g.2.2.2.map Book.c⟩)
noncomputable def spec_l07All_b1 (a2 : List Deal) : spec_l07All_b1_S → Option (spec_l07All_b1_S ⊕ spec_l07All_b1_R) := fun (s1_1, s1_2, s1_3, s1_4, s1_5) =>
 if (decide (s1_1 < (a2.length : Int))) = true then
  (rd a2 s1_1).bind fun x71 =>
  (spec_l07Do (Book.mk s1_2 s1_3 s1_4) x71).bind fun r => match r with
  | (.inl r74) =>
   if (r74 != 0) = true then
    some (.inr (.inl (r74, s1_1)))
   else
    none
  | (.inr (r122, r123, r124)) =>
   (app 56 s1_5 [(Book.mk r122 r123 r124)]).bind fun x166 =>
   some (.inl ((IntKind.i64.wrap (s1_1 + 1)), r122, r123, r124, x166))
 else
  some (.inr (.inr (s1_2, s1_3, s1_4, s1_5)))
theorem spec_l07All_b1_ok (a2 : List Deal) (i1_1 : Nat) (i1_2 : Nat) (ne22 : i1_1 ≠ i1_2) (s : spec_l07All_b1_S) (r : spec_l07All_b1_S ⊕ spec_l07All_b1_R) (h : spec_l07All_b1 a2 s = some r) (e : Env) (M : Mem) (hs : spec_l07All_b1_RS a2 i1_1 i1_2 s e M) : Ev (fun k => (f37_l4 (CN k) k (prune [1, 7, 8, 9] e) M).bind fun q => some q) (bQ (spec_l07All_b1_RS a2 i1_1 i1_2) (spec_l07All_b1_RR a2 i1_1 i1_2) r) := by
 obtain ⟨s1_1, s1_2, s1_3, s1_4, s1_5⟩ := s
 unfold spec_l07All_b1 at h
 obtain ⟨h53, h55, h57, h59, o62, o61⟩ := hs
 generalize he52 : prune [1, 7, 8, 9] e = e51
 have h54 := envp he52.symm rfl h53
 have h56 := envp he52.symm rfl h55
 have h58 := envp he52.symm rfl h57
 have h60 := envp he52.symm rfl h59
 refine sq (sq (Rg (kx (mvO h60) (kx (mvO h54) (kx (lnS Try.underlying35 rfl) (kx (bLss rfl rfl) (Rn (hV (.sl none (a2.map Deal.c)) h54 (hV (.lsl i1_1 s1_5.length 0 s1_5.length) h56 (hV (.loc i1_2 1 0 0) h58 (hV (.int .i64 s1_1) h60 (hN rfl hZ))))) fun e63 h65 h66 h67 h68 h69 => sN ?_)))))))
 clear h54 h56 h58 h60
 rcases ite_some h with ⟨hb70, h⟩ | ⟨hb70, h⟩
 ·obtain ⟨x71, hx72, h⟩ := bind_some h
  obtain ⟨q184, hx73, h⟩ := bind_some h
  refine cT h69 hb70 (xx (sN (sq (bl (sq (Rg (kx (mvO h65) (kx (mvO h68) (kx (ixS rfl rfl hx72 Deal.fl) ?_)))))))))
  rcases q184 with r74 | ⟨r122, r123, r124⟩
  ·refine kc (cl (v := .tup [.agg [.int .i64 0, .nils, .nils], .int .i64 r74]) rfl (cns h67 (cns rfl rfl)) (ra1 (ra1_loc o62 rfl rfl rfl ⟨rfl, blt rfl⟩) (ra1 rfl ra0)) (spec_l07Do_ok (Book.mk s1_2 s1_3 s1_4) x71 _ hx73) (fun _ => (own_tup (oa1 (own2_agg (oa1 rfl (oa1 rfl (oa1 rfl oa0)))) (oa1 rfl oa0))))) (kx (mvO rfl) (kx (exT rfl rfl) (kx (exT rfl rfl) (ku (alO zero33) fun M76 hM77 => ?_))))
   have o78 := push_old hM77 o61
   have ne79 := ne_new o61
   have o80 := push_old hM77 o62
   have ne81 := ne_new o62
   have o82 : M76[M.length]? = some (.live ⟨.box, 33, 3, [[.int .i64 0, .nils, .nils]]⟩) := push_new hM77
   refine kw (stO rfl rfl o82 rfl rfl ⟨rfl, ble rfl⟩ rfl rfl) fun M83 hM84 => ?_
   have o85 := set_ne hM84 ne79 o78
   have o86 := set_ne hM84 ne81 o80
   have o87 : M83[M.length]? = some (.live ⟨.box, 33, 3, [[.int .i64 0, .nils, .nils]]⟩) := set_same hM84 o82
   refine kx (mvO rfl) (Rn (hA h65 (hA h66 (hA h67 (hA h68 (hV (.loc M.length 1 0 0) rfl (hN rfl hZ)))))) fun e88 h90 h91 h92 h93 h94 h95 => sN (sq (sq (Rg (kx (mvO h95) (kx (bNeq rfl rfl) (Rn (hA h90 (hA h91 (hA h92 (hA h93 (hA h94 (hA h95 (hN rfl hZ))))))) fun e96 h98 h99 h100 h101 h102 h103 h104 => sN ?_)))))))
   clear h65 h66 h67 h68 h69 h90 h91 h92 h93 h94 h95
   rcases ite_some h with ⟨hb105, h⟩ | ⟨hb105, h⟩
   ·refine cT h104 hb105 (sq (Rg (kx (litI rfl rfl ⟨rfl, by decide⟩) (kx (mvO h103) (kx (mvO h101) (kx (mvO rfl) (kx (mvO rfl) (kx (mvO rfl) (Rn (hN rfl (hN rfl (hN rfl hZ))) fun e106 h108 h109 h110 => sN (xx (sR (bR (sR ?_)))))))))))))
    clear h100 h101 h102 h103 h104 h98 h99
    obtain rfl := si h
    exact qR ⟨rfl, h108, h109, h110⟩
   refine cF h104 hb105 (xx (sN (sq (Rg (kx (ldOA h102 o87 rfl rfl (ble rfl) rfl) (kw (stO h100 rfl o86 rfl rfl ⟨rfl, ble rfl⟩ rfl rfl) fun M111 hM112 => ?_))))))
   have o113 := set_ne hM112 ne22 o85
   have o114 : M111[i1_2]? = some (.live ⟨.box, 33, 3, [[.int .i64 0, .nils, .nils]]⟩) := set_same hM112 o86
   have o115 := set_ne hM112 (Ne.symm ne81) o87
   refine Rn (hA h98 (hA h99 (hA h100 (hA h101 hZ)))) fun e116 h118 h119 h120 h121 => sN (Rg (kx (mvO h119) (kx (ldOA h120 o114 rfl rfl (ble rfl) rfl) ?_)))
   clear h100 h101 h102 h103 h104 h98 h99
   cases h
  refine kc (cl (v := .tup [.agg [.int .i64 r122, .sl (some 2) (r123.map (cI .i64)), .sl (some 75) (r124.map Tally.c)], .int .i64 0]) rfl (cns h67 (cns rfl rfl)) (ra1 (ra1_loc o62 rfl rfl rfl ⟨rfl, blt rfl⟩) (ra1 rfl ra0)) (spec_l07Do_ok (Book.mk s1_2 s1_3 s1_4) x71 _ hx73) (fun _ => (own_tup (oa1 (own2_agg (oa1 rfl (oa1 (own1_row' (c := (cI .i64)) (fun _ => rfl)) (oa1 (own1_row' (c := Tally.c) Tally.flF) oa0)))) (oa1 rfl oa0))))) (kx (mvO rfl) (kx (exT rfl rfl) (kx (exT rfl rfl) (ku (alO zero33) fun M126 hM127 => ?_))))
  have o128 := push_old hM127 o61
  have ne129 := ne_new o61
  have o130 := push_old hM127 o62
  have ne131 := ne_new o62
  have o132 : M126[M.length]? = some (.live ⟨.box, 33, 3, [[.int .i64 0, .nils, .nils]]⟩) := push_new hM127
  refine kw (stO rfl rfl o132 rfl rfl ⟨rfl, ble rfl⟩ rfl rfl) fun M133 hM134 => ?_
  have o135 := set_ne hM134 ne129 o128
  have o136 := set_ne hM134 ne131 o130
  have o137 : M133[M.length]? = some (.live ⟨.box, 33, 3, [[.int .i64 r122, .sl none (r123.map (cI .i64)), .sl none (r124.map Tally.c)]]⟩) := set_same hM134 o132
  refine kx (mvO rfl) (Rn (hA h65 (hA h66 (hA h67 (hA h68 (hV (.loc M.length 1 0 0) rfl (hV (.int .i64 0) rfl hZ)))))) fun e138 h140 h141 h142 h143 h144 h145 => sN (sq (sq (Rg (kx (mvO h145) (kx (bNeq rfl rfl) (Rn (hA h140 (hA h141 (hA h142 (hA h143 (hA h144 (hA h145 (hV (.bool false) rfl hZ))))))) fun e146 h148 h149 h150 h151 h152 h153 h154 => sN (cF h154 rfl (xx (sN (sq (Rg (kx (ldOA h152 o137 rfl rfl (ble rfl) rfl) (kw (stO h150 rfl o136 rfl rfl ⟨rfl, ble rfl⟩ rfl rfl) fun M155 hM156 => ?_))))))))))))))
  clear h65 h66 h67 h68 h69 h140 h141 h142 h143 h144 h145
  have o157 := set_ne hM156 ne22 o135
  have o158 : M155[i1_2]? = some (.live ⟨.box, 33, 3, [[.int .i64 r122, .sl none (r123.map (cI .i64)), .sl none (r124.map Tally.c)]]⟩) := set_same hM156 o136
  have o159 := set_ne hM156 (Ne.symm ne131) o137
  obtain ⟨x166, hx167, h⟩ := bind_some h
  refine Rn (hA h148 (hA h149 (hA h150 (hA h151 hZ)))) fun e160 h162 h163 h164 h165 => sN (Rg (kx (mvO h163) (kx (ldOA h164 o158 rfl rfl (ble rfl) rfl) (kx (litI (cns rfl rfl) rfl ⟨rfl, by decide⟩) (kw (apO rfl o157 rfl (elT (c := Book.c) (xs := [(Book.mk r122 r123 r124)]) rfl) hx167 Book.fl (by decide)) fun M168 hM169 => ?_)))))
  clear h148 h149 h150 h151 h152 h153 h154
  have o170 : M168[i1_1]? = some (.live ⟨.grow, 33, 3, x166.map Book.c⟩) := set_same hM169 o157
  have o171 := set_ne hM169 (Ne.symm ne22) o158
  refine kx (mvO rfl) (Rn (hA h162 (hV (.lsl i1_1 x166.length 0 x166.length) rfl (hA h164 (hA h165 hZ)))) fun e172 h174 h175 h176 h177 => bN (sN (Rg (kx (mvO h177) (kx (bAdd rfl rfl) (kx (mvO rfl) (Rn (hA h174 (hA h175 (hA h176 (hN rfl hZ)))) fun e178 h180 h181 h182 h183 => ?_)))))))
  clear h162 h164 h165 h174 h175 h176
  obtain rfl := si h
  exact qN ⟨h180, h181, h182, h183, o171, o170⟩
 refine cF h69 hb70 (xx (sE ?_))
 obtain rfl := si h
 exact qE ⟨rfl, h66, o62, o61⟩
noncomputable def spec_l07All (a1 : Book) (a2 : List Deal) : Option ((List Book) × Int × Int) :=
 (spec_l07Copy a1).bind fun (r15, r16, r17) =>
 (Lw (spec_l07All_b1 a2) (0, r15, r16, r17, ([] : List Book))).bind fun r => match r with
 | (.inl (y190, y191)) =>
  some (([] : List Book), y190, y191)
 | (.inr (y197, y198, y199, y200)) =>
  some (y200, 0, 0)
def spec_l07All_enc (r : (List Book) × Int × Int) : AV := .tup [.sl (some 33) (r.1.map Book.c), .int .i64 r.2.1, .int .i64 r.2.2]
theorem spec_l07All_ok (a1 : Book) (a2 : List Deal) (r : (List Book) × Int × Int) (h : spec_l07All a1 a2 = some r) : Ev (fun k => CN k 37 [.pt none [.int .i64 a1.Day, .sl none (a1.Cash.map (cI .i64)), .sl none (a1.Tallies.map Tally.c)], .sl none (a2.map Deal.c)] []) (fun p => rRes p.2 p.1 = spec_l07All_enc r) := by
 unfold spec_l07All at h
 refine Ev.enter (F := fun k => f37 (CN k) k) (fun k => callN_eq rfl Try.func37 rfl rfl rfl (by decide +kernel) (f37_eq _ _)) (sq (Rg (kx (mvO rfl) (kx (mvO rfl) (kx (mvO rfl) (Rn (hN rfl (hN rfl hZ)) fun e1 h3 h4 => sN (sq (Rg (ku (litO (xs := ([] : List Book)) (c := Book.c) rfl rfl (by decide)) fun M6 hM7 => ?_)))))))))
 have o8 : M6[([] : Mem).length]? = some (.live ⟨.grow, 33, 3, ([] : List Book).map Book.c⟩) := push_new hM7
 obtain ⟨⟨r15, r16, r17⟩, hx14, h⟩ := bind_some h
 refine kx (mvO rfl) (Rn (hA h3 (hA h4 (hV (.lsl ([] : Mem).length ([] : List Book).length 0 ([] : List Book).length) rfl hZ))) fun e9 h11 h12 h13 => sN (sq (Rg (kx (mvO h11) (kc (cl (v := .agg [.int .i64 r15, .sl (some 2) (r16.map (cI .i64)), .sl (some 75) (r17.map Tally.c)]) rfl (cns rfl rfl) rfl (spec_l07Copy_ok a1 _ hx14) nm) (ku (alO zero33) fun M19 hM20 => ?_))))))
 clear h3 h4
 have o21 := push_old hM20 o8
 have ne22 := ne_new o8
 have o23 : M19[M6.length]? = some (.live ⟨.box, 33, 3, [[.int .i64 0, .nils, .nils]]⟩) := push_new hM20
 refine kw (stO rfl rfl o23 rfl rfl ⟨rfl, ble rfl⟩ rfl rfl) fun M24 hM25 => ?_
 have o26 := set_ne hM25 ne22 o21
 have o27 : M24[M6.length]? = some (.live ⟨.box, 33, 3, [[.int .i64 r15, .sl none (r16.map (cI .i64)), .sl none (r17.map Tally.c)]]⟩) := set_same hM25 o23
 obtain ⟨r185, hr186, h⟩ := bind_some h
 refine Rn (hA h12 (hA h13 (hV (.loc M6.length 1 0 0) rfl hZ))) fun e28 h30 h31 h32 => sN (sq (sq (Rg (kx (mvO rfl) (Rn (hA h30 (hA h31 (hA h32 (hV (.int .i64 0) rfl hZ)))) fun e33 h35 h36 h37 h38 => sN (bl ?_))))))
 clear h11 h12 h13 h30 h31 h32
 rcases r185 with ⟨y190, y191⟩ | ⟨y197, y198, y199, y200⟩
 ·refine Ev.loop (RS := spec_l07All_b1_RS a2 (([] : Mem).length) M6.length) (RR := spec_l07All_b1_RR a2 (([] : Mem).length) M6.length) (fun s r h e M hs => spec_l07All_b1_ok a2 (([] : Mem).length) M6.length ne22 s r h e M hs) hr186 ⟨h35, h36, h37, h38, o27, o26⟩ fun x e188 M189 hq187 => ?_
  obtain ⟨rfl, h192, h193, h194⟩ := hq187
  refine bR (sR ?_)
  obtain rfl := si h
  exact eR (resT h192 (resT h193 (resT h194 res0))) rfl
 refine Ev.loop (RS := spec_l07All_b1_RS a2 (([] : Mem).length) M6.length) (RR := spec_l07All_b1_RR a2 (([] : Mem).length) M6.length) (fun s r h e M hs => spec_l07All_b1_ok a2 (([] : Mem).length) M6.length ne22 s r h e M hs) hr186 ⟨h35, h36, h37, h38, o27, o26⟩ fun x e195 M196 hq187 => ?_
 obtain ⟨rfl, h201, o202, o203⟩ := hq187
 refine bE (sN (sq (Rg (kx (mvO h201) (kx (mvO rfl) (kx (mvO rfl) (kx (mvO rfl) (Rn (hV (.lsl ([] : Mem).length y200.length 0 y200.length) rfl (hV (.int .i64 0) rfl (hV (.int .i64 0) rfl hZ))) fun e204 h206 h207 h208 => sN (xx ?_)))))))))
 clear h201
 obtain rfl := si h
 exact eR (resT h206 (resT h207 (resT h208 res0))) (rr_tup (mp1 (rr_row o203 rfl Book.fl) (mp1 rfl (mp1 rfl mp0))))
/-! ### loop.example/g01263/spec.l07State (f53) -/
abbrev spec_l07State_b1_S := Int
abbrev spec_l07State_b1_R := Int
def spec_l07State_b1_RS (a1 : Book) (a2 : List Deal) (a3 : Int) (i1_1 : Nat) (s : spec_l07State_b1_S) (e : Env) (M : Mem) : Prop := eget e 0 = .pt none [.int .i64 a1.Day, .sl none (a1.Cash.map (cI .i64)), .sl none (a1.Tallies.map Tally.c)] ∧ eget e 1 = .sl none (a2.map Deal.c) ∧ eget e 2 = .int .i64 a3 ∧ eget e 6 = .loc i1_1 1 0 0 ∧ eget e 8 = .int .i64 s ∧ M[i1_1]? = some (.live ⟨.box, 33, 3, [[.int .i64 0, .nils, .nils]]⟩)
def spec_l07State_b1_RR (a1 : Book) (a2 : List Deal) (a3 : Int) (i1_1 : Nat) (g : spec_l07State_b1_R) (x : Ex) (e : Env) (M : Mem) : Prop := x = .ext 0 ∧ eget e 0 = .pt none [.int .i64 a1.Day, .sl none (a1.Cash.map (cI .i64)), .sl none (a1.Tallies.map Tally.c)] ∧ eget e 1 = .sl none (a2.map Deal.c) ∧ eget e 2 = .int .i64 a3 ∧ eget e 6 = .loc i1_1 1 0 0 ∧ eget e 8 = .int .i64 g ∧ M[i1_1]? = some (.live ⟨.box, 33, 3, [[.int .i64 0, .nils, .nils]]⟩)
noncomputable def spec_l07State_b1 (a2 : List Deal) (a3 : Int) : spec_l07State_b1_S → Option (spec_l07State_b1_S ⊕ spec_l07State_b1_R) := fun s1_1 =>
 if (decide (s1_1 < (a2.length : Int))) = true then
  (rd a2 s1_1).bind fun x60 =>
  if (decide (x60.Day ≤ a3)) = true then
   some (.inl (IntKind.i64.wrap (s1_1 + 1)))
  else
   some (.inr s1_1)
 else
  some (.inr s1_1)
theorem spec_l07State_b1_ok (a1 : Book) (a2 : List Deal) (a3 : Int) (i1_1 : Nat) (s : spec_l07State_b1_S) (r : spec_l07State_b1_S ⊕ spec_l07State_b1_R) (h : spec_l07State_b1 a2 a3 s = some r) (e : Env) (M : Mem) (hs : spec_l07State_b1_RS a1 a2 a3 i1_1 s e M) : Ev (fun k => (f53_l4 (CN k) k (prune [0, 1, 2, 6, 8] e) M).bind fun q => some q) (bQ (spec_l07State_b1_RS a1 a2 a3 i1_1) (spec_l07State_b1_RR a1 a2 a3 i1_1) r) := by
 revert h hs
 revert s
 intro s1_1 h hs
 unfold spec_l07State_b1 at h
 obtain ⟨h48, h50, h52, h54, h56, o58⟩ := hs
 generalize he47 : prune [0, 1, 2, 6, 8] e = e46
 have h49 := envp he47.symm rfl h48
 have h51 := envp he47.symm rfl h50
 have h53 := envp he47.symm rfl h52
 have h55 := envp he47.symm rfl h54
 have h57 := envp he47.symm rfl h56
 refine sq (sq (Rg (kx (mvO h57) (kx (mvO h51) (kx (lnS Try.underlying35 rfl) (kx (bLss rfl rfl) (kx (mvO rfl) ?_)))))))
 rcases ite_some h with ⟨hb59, h⟩ | ⟨hb59, h⟩
 ·obtain ⟨x60, hx61, h⟩ := bind_some h
  refine kx (guT rfl hb59 (mvO h51)) (kx (guT rfl hb59 (mvO h57)) (kx (guT rfl hb59 (ixS rfl rfl hx61 Deal.fl)) (kx (guT rfl hb59 (faP rfl ⟨ble rfl, blt rfl⟩ rfl)) (kx (guT rfl hb59 (ldP rfl rfl)) (kx (guT rfl hb59 (mvO h53)) (kx (guT rfl hb59 (bLeq rfl rfl)) (kx (pkT rfl hb59 rfl) (Rn (hV (.pt none [.int .i64 a1.Day, .sl none (a1.Cash.map (cI .i64)), .sl none (a1.Tallies.map Tally.c)]) h49 (hV (.sl none (a2.map Deal.c)) h51 (hA h53 (hV (.loc i1_1 1 0 0) h55 (hV (.int .i64 s1_1) h57 (hN rfl hZ)))))) fun e62 h64 h65 h66 h67 h68 h69 => sN ?_))))))))
  clear h49 h51 h53 h55 h57
  rcases ite_some h with ⟨hb70, h⟩ | ⟨hb70, h⟩
  ·refine cT h69 hb70 (xx (sN (bl (Rg (kx (mvO h68) (kx (bAdd rfl rfl) (kx (mvO rfl) (Rn (hA h64 (hA h65 (hA h66 (hA h67 (hN rfl hZ))))) fun e71 h73 h74 h75 h76 h77 => bN ?_))))))))
   clear h64 h65 h66 h67 h69
   obtain rfl := si h
   exact qN ⟨h73, h74, h75, h76, h77, o58⟩
  refine cF h69 hb70 (xx (sE ?_))
  obtain rfl := si h
  exact qE ⟨rfl, h64, h65, h66, h67, h68, o58⟩
 refine kx (gsT rfl hb59) (kx (gsT rfl hb59) (kx (gsT rfl hb59) (kx (gsT rfl hb59) (kx (gsT rfl hb59) (kx (gsT rfl hb59) (kx (gsT rfl hb59) (kx (pkF rfl hb59 rfl) (Rn (hV (.pt none [.int .i64 a1.Day, .sl none (a1.Cash.map (cI .i64)), .sl none (a1.Tallies.map Tally.c)]) h49 (hV (.sl none (a2.map Deal.c)) h51 (hA h53 (hV (.loc i1_1 1 0 0) h55 (hV (.int .i64 s1_1) h57 (hV (.bool false) rfl hZ)))))) fun e78 h80 h81 h82 h83 h84 h85 => sN (cF h85 rfl (xx (sE ?_)))))))))))
 clear h49 h51 h53 h55 h57
 obtain rfl := si h
 exact qE ⟨rfl, h80, h81, h82, h83, h84, o58⟩
noncomputable def spec_l07State (a1 : Book) (a2 : List Deal) (a3 : Int) : Option (Int ⊕ (Int × (List Int) × (List Tally))) :=
 if (decide (a3 < a1.Day)) = true then
  some (.inl 4)
 else
  (Lw (spec_l07State_b1 a2 a3) 0).bind fun y91 =>
  (slc a2 0 y91).bind fun x98 =>
  (spec_l07All a1 x98).bind fun (r101, r102, r103) =>
  if (r102 != 0) = true then
   some (.inl r102)
  else
   (spec_l07Copy a1).bind fun (r130, r131, r132) =>
   if (decide (y91 > 0)) = true then
    (rd r101 (IntKind.i64.wrap (y91 - 1))).bind fun x159 =>
    (spec_l07Copy x159).bind fun (r162, r163, r164) =>
    some (.inr (a3, r163, r164))
   else
    some (.inr (a3, r131, r132))
def spec_l07State_enc (r : Int ⊕ (Int × (List Int) × (List Tally))) : AV :=
  match r with
  | (.inl g) => .tup [.agg [.int .i64 0, .nils, .nils], .int .i64 g]
  | (.inr g) => .tup [.agg [.int .i64 g.1, .sl none (g.2.1.map (cI .i64)), .sl none (g.2.2.map Tally.c)], .int .i64 0]
theorem spec_l07State_ok (a1 : Book) (a2 : List Deal) (a3 : Int) (r : Int ⊕ (Int × (List Int) × (List Tally))) (h : spec_l07State a1 a2 a3 = some r) : Ev (fun k => CN k 53 [.pt none [.int .i64 a1.Day, .sl none (a1.Cash.map (cI .i64)), .sl none (a1.Tallies.map Tally.c)], .sl none (a2.map Deal.c), .int .i64 a3] []) (fun p => rRes p.2 p.1 = spec_l07State_enc r) := by
 unfold spec_l07State at h
 refine Ev.enter (F := fun k => f53 (CN k) k) (fun k => callN_eq rfl Try.func53 rfl rfl rfl (by decide +kernel) (f53_eq _ _)) (sq (Rg (ku (alO zero33) fun M2 hM3 => ?_)))
 have o4 : M2[([] : Mem).length]? = some (.live ⟨.box, 33, 3, [[.int .i64 0, .nils, .nils]]⟩) := push_new hM3
 refine kx (mvO rfl) (Rn (hN rfl (hN rfl (hN rfl (hV (.loc ([] : Mem).length 1 0 0) rfl hZ)))) fun e5 h7 h8 h9 h10 => sN (sq (sq (Rg (kx (mvO h9) (kx (mvO h7) (kx (ncP rfl) (kx (faP rfl ⟨ble rfl, blt rfl⟩ rfl) (kx (ldP rfl rfl) (kx (bLss rfl rfl) (Rn (hA h7 (hA h8 (hA h9 (hA h10 (hN rfl hZ))))) fun e11 h13 h14 h15 h16 h17 => sN ?_)))))))))))
 clear h10 h7 h8 h9
 rcases ite_some h with ⟨hb18, h⟩ | ⟨hb18, h⟩
 ·refine cT h17 hb18 (sq (Rg (kx (bldT zero33 rfl (fill0 rfl)) (kw (stO h16 rfl o4 rfl rfl ⟨rfl, ble rfl⟩ rfl rfl) fun M19 hM20 => ?_))))
  have o21 : M19[([] : Mem).length]? = some (.live ⟨.box, 33, 3, [[.int .i64 0, .nils, .nils]]⟩) := set_same hM20 o4
  refine kx (mvO rfl) (Rn (hA h16 (hV (.int .i64 4) rfl hZ)) fun e22 h24 h25 => sN (xx (sR ?_)))
  clear h13 h14 h15 h16 h17
  obtain rfl := si h
  exact eR (resC (ag := true) (sz := 3) ⟨by kernel_rfl, by kernel_rfl, by kernel_rfl⟩ (ldOA h24 o21 rfl rfl (ble rfl) rfl) (resT h25 res0)) rfl
 obtain ⟨y91, hr87, h⟩ := bind_some h
 refine cF h17 hb18 (xx (sN (sq (Rg (kx (mvO rfl) (Rn (hA h13 (hA h14 (hA h15 (hA h16 (hV (.int .i64 0) rfl hZ))))) fun e26 h28 h29 h30 h31 h32 => sN (sq (bl (Ev.loop (RS := spec_l07State_b1_RS a1 a2 a3 (([] : Mem).length)) (RR := spec_l07State_b1_RR a1 a2 a3 (([] : Mem).length)) (fun s r h e M hs => spec_l07State_b1_ok a1 a2 a3 (([] : Mem).length) s r h e M hs) hr87 ⟨h28, h29, h30, h31, h32, o4⟩ fun x e89 M90 hq88 => ?_)))))))))
 clear h13 h14 h15 h16 h17
 obtain ⟨rfl, h92, h93, h94, h95, h96, o97⟩ := hq88
 obtain ⟨x98, hx99, h⟩ := bind_some h
 obtain ⟨⟨r101, r102, r103⟩, hx100, h⟩ := bind_some h
 refine bE (sN (sq (Rg (kx (mvO h92) (kx (mvO h93) (kx (mvO h96) (kx (slS rfl rfl (bnd1 rfl) hx99 Deal.fl) (kc (cl (v := .tup [.sl (some 33) (r101.map Book.c), .int .i64 r102, .int .i64 r103]) rfl (cns rfl (cns rfl rfl)) rfl (spec_l07All_ok a1 x98 _ hx100) nm) (kx (mvO rfl) (kx (exT rfl rfl) (kx (exT rfl rfl) (kx (exT rfl rfl) (kx (mvO rfl) (kx (mvO rfl) (kx (mvO rfl) (Rn (hV (.pt none [.int .i64 a1.Day, .sl none (a1.Cash.map (cI .i64)), .sl none (a1.Tallies.map Tally.c)]) h92 (hV (.int .i64 a3) h94 (hV (.loc ([] : Mem).length 1 0 0) h95 (hV (.int .i64 y91) h96 (hN rfl (hN rfl hZ)))))) fun e104 h106 h107 h108 h109 h110 h111 => sN (sq (sq (Rg (kx (mvO h111) (kx (bNeq rfl rfl) (Rn (hA h106 (hA h107 (hA h108 (hA h109 (hA h110 (hA h111 (hN rfl hZ))))))) fun e112 h114 h115 h116 h117 h118 h119 h120 => sN ?_))))))))))))))))))))))
 clear h92 h93 h94 h95 h96 h106 h107 h108 h109 h110 h111
 rcases ite_some h with ⟨hb121, h⟩ | ⟨hb121, h⟩
 ·refine cT h120 hb121 (sq (Rg (kx (bldT zero33 rfl (fill0 rfl)) (kx (mvO h119) (kw (stO h116 rfl o97 rfl rfl ⟨rfl, ble rfl⟩ rfl rfl) fun M122 hM123 => ?_)))))
  have o124 : M122[([] : Mem).length]? = some (.live ⟨.box, 33, 3, [[.int .i64 0, .nils, .nils]]⟩) := set_same hM123 o97
  refine kx (mvO rfl) (Rn (hA h116 (hN rfl hZ)) fun e125 h127 h128 => sN (xx (sR ?_)))
  clear h114 h115 h116 h117 h118 h119 h120
  obtain rfl := si h
  exact eR (resC (ag := true) (sz := 3) ⟨by kernel_rfl, by kernel_rfl, by kernel_rfl⟩ (ldOA h127 o124 rfl rfl (ble rfl) rfl) (resT h128 res0)) rfl
 obtain ⟨⟨r130, r131, r132⟩, hx129, h⟩ := bind_some h
 refine cF h120 hb121 (xx (sN (sq (Rg (kx (mvO h114) (kc (cl (v := .agg [.int .i64 r130, .sl (some 2) (r131.map (cI .i64)), .sl (some 75) (r132.map Tally.c)]) rfl (cns rfl rfl) rfl (spec_l07Copy_ok a1 _ hx129) nm) (ku (alO zero33) fun M134 hM135 => ?_)))))))
 have o136 := push_old hM135 o97
 have ne137 := ne_new o97
 have o138 : M134[M90.length]? = some (.live ⟨.box, 33, 3, [[.int .i64 0, .nils, .nils]]⟩) := push_new hM135
 refine kw (stO rfl rfl o138 rfl rfl ⟨rfl, ble rfl⟩ rfl rfl) fun M139 hM140 => ?_
 have o141 := set_ne hM140 ne137 o136
 have o142 : M139[M90.length]? = some (.live ⟨.box, 33, 3, [[.int .i64 r130, .sl none (r131.map (cI .i64)), .sl none (r132.map Tally.c)]]⟩) := set_same hM140 o138
 refine Rn (hA h115 (hA h116 (hA h117 (hA h118 (hV (.loc M90.length 1 0 0) rfl hZ))))) fun e143 h145 h146 h147 h148 h149 => sN (sq (sq (Rg (kx (mvO h147) (kx (bGtr rfl rfl) (Rn (hA h145 (hA h146 (hA h147 (hA h148 (hA h149 (hN rfl hZ)))))) fun e150 h152 h153 h154 h155 h156 h157 => sN ?_))))))
 clear h114 h115 h116 h117 h118 h119 h120 h145 h146 h147 h148 h149
 rcases ite_some h with ⟨hb158, h⟩ | ⟨hb158, h⟩
 ·obtain ⟨x159, hx160, h⟩ := bind_some h
  obtain ⟨⟨r162, r163, r164⟩, hx161, h⟩ := bind_some h
  refine cT h157 hb158 (Rg (kx (mvO h155) (kx (mvO h154) (kx (bSub rfl rfl) (kx (ixS rfl rfl hx160 Book.fl) (kc (cl (v := .agg [.int .i64 r162, .sl (some 2) (r163.map (cI .i64)), .sl (some 75) (r164.map Tally.c)]) rfl (cns rfl rfl) rfl (spec_l07Copy_ok x159 _ hx161) nm) (kw (stO h156 rfl o142 rfl rfl ⟨rfl, ble rfl⟩ rfl rfl) fun M165 hM166 => ?_)))))))
  have o167 := set_ne hM166 ne137 o141
  have o168 : M165[M90.length]? = some (.live ⟨.box, 33, 3, [[.int .i64 r162, .sl none (r163.map (cI .i64)), .sl none (r164.map Tally.c)]]⟩) := set_same hM166 o142
  refine Rn (hA h152 (hA h153 (hA h156 hZ))) fun e169 h171 h172 h173 => sN (sq (Rg (kx (mvO h171) (kx (faO h173 o168 rfl) (kw (stO rfl rfl o168 rfl rfl ⟨rfl, ble rfl⟩ rfl rfl) fun M174 hM175 => ?_)))))
  clear h152 h153 h154 h155 h156 h157
  have o176 := set_ne hM175 ne137 o167
  have o177 : M174[M90.length]? = some (.live ⟨.box, 33, 3, [[.int .i64 a3, .sl none (r163.map (cI .i64)), .sl none (r164.map Tally.c)]]⟩) := set_same hM175 o168
  refine Rn (hA h172 (hA h173 hZ)) fun e178 h180 h181 => sN (sq (Rg (kx (ldOA h181 o177 rfl rfl (ble rfl) rfl) (kw (stO h180 rfl o176 rfl rfl ⟨rfl, ble rfl⟩ rfl rfl) fun M182 hM183 => ?_))))
  clear h171 h172 h173
  have o184 : M182[([] : Mem).length]? = some (.live ⟨.box, 33, 3, [[.int .i64 a3, .sl none (r163.map (cI .i64)), .sl none (r164.map Tally.c)]]⟩) := set_same hM183 o176
  have o185 := set_ne hM183 (Ne.symm ne137) o177
  refine kx (mvO rfl) (Rn (hA h180 (hV (.int .i64 0) rfl hZ)) fun e186 h188 h189 => sN (xx ?_))
  clear h180 h181
  obtain rfl := si h
  exact eR (resC (ag := true) (sz := 3) ⟨by kernel_rfl, by kernel_rfl, by kernel_rfl⟩ (ldOA h188 o184 rfl rfl (ble rfl) rfl) (resT h189 res0)) rfl
 refine cF h157 hb158 (xx (sN (sq (Rg (kx (mvO h152) (kx (faO h156 o142 rfl) (kw (stO rfl rfl o142 rfl rfl ⟨rfl, ble rfl⟩ rfl rfl) fun M190 hM191 => ?_)))))))
 have o192 := set_ne hM191 ne137 o141
 have o193 : M190[M90.length]? = some (.live ⟨.box, 33, 3, [[.int .i64 a3, .sl none (r131.map (cI .i64)), .sl none (r132.map Tally.c)]]⟩) := set_same hM191 o142
 refine Rn (hA h153 (hA h156 hZ)) fun e194 h196 h197 => sN (sq (Rg (kx (ldOA h197 o193 rfl rfl (ble rfl) rfl) (kw (stO h196 rfl o192 rfl rfl ⟨rfl, ble rfl⟩ rfl rfl) fun M198 hM199 => ?_))))
 clear h152 h153 h154 h155 h156 h157
 have o200 : M198[([] : Mem).length]? = some (.live ⟨.box, 33, 3, [[.int .i64 a3, .sl none (r131.map (cI .i64)), .sl none (r132.map Tally.c)]]⟩) := set_same hM199 o192
 have o201 := set_ne hM199 (Ne.symm ne137) o193
 refine kx (mvO rfl) (Rn (hA h196 (hV (.int .i64 0) rfl hZ)) fun e202 h204 h205 => sN (xx ?_))
 clear h196 h197
 obtain rfl := si h
 exact eR (resC (ag := true) (sz := 3) ⟨by kernel_rfl, by kernel_rfl, by kernel_rfl⟩ (ldOA h204 o200 rfl rfl (ble rfl) rfl) (resT h205 res0)) rfl
/-! ### loop.example/g01263/laws.heldTallyS (f48) -/
abbrev laws_heldTallyS_b1_S := Int × Int
abbrev laws_heldTallyS_b1_R := Unit ⊕ Int
def laws_heldTallyS_b1_RS (a1 : List Tally) (s : laws_heldTallyS_b1_S) (e : Env) (M : Mem) : Prop := eget e 0 = .sl none (a1.map Tally.c) ∧ eget e 1 = .int .i64 s.1 ∧ eget e 5 = .int .i64 s.2
def laws_heldTallyS_b1_RR (a1 : List Tally) (r : laws_heldTallyS_b1_R) (x : Ex) (e : Env) (M : Mem) : Prop :=
  match r with
  | (.inl g) => x = .ret ∧ eget e 4 = .int .i64 (-1)
  | (.inr g) => x = .ext 0 ∧ eget e 1 = .int .i64 g
noncomputable def laws_heldTallyS_b1 (a1 : List Tally) : laws_heldTallyS_b1_S → Option (laws_heldTallyS_b1_S ⊕ laws_heldTallyS_b1_R) := fun (s1_1, s1_2) =>
 if (decide (s1_2 < (a1.length : Int))) = true then
  (rd a1 s1_2).bind fun x33 =>
  if (x33.Debtor != s1_1) = true then
   some (.inr (.inl ()))
  else
   (rd a1 s1_2).bind fun x50 =>
   if (x50.Holder != (IntKind.i64.wrap (s1_1 + 1))) = true then
    some (.inr (.inl ()))
   else
    (rd a1 s1_2).bind fun x67 =>
    if (x67.Cut != (IntKind.i64.wrap ((IntKind.i64.wrap (s1_1 + 1)) + 1))) = true then
     some (.inr (.inl ()))
    else
     (rd a1 s1_2).bind fun x84 =>
     if (x84.Amount != (IntKind.i64.wrap ((IntKind.i64.wrap ((IntKind.i64.wrap (s1_1 + 1)) + 1)) + 1))) = true then
      some (.inr (.inl ()))
     else
      (rd a1 s1_2).bind fun x101 =>
      if (x101.Left != (IntKind.i64.wrap ((IntKind.i64.wrap ((IntKind.i64.wrap ((IntKind.i64.wrap (s1_1 + 1)) + 1)) + 1)) + 1))) = true then
       some (.inr (.inl ()))
      else
       some (.inl ((IntKind.i64.wrap ((IntKind.i64.wrap ((IntKind.i64.wrap ((IntKind.i64.wrap ((IntKind.i64.wrap (s1_1 + 1)) + 1)) + 1)) + 1)) + 1)), (IntKind.i64.wrap (s1_2 + 1))))
 else
  some (.inr (.inr s1_1))
theorem laws_heldTallyS_b1_ok (a1 : List Tally) (s : laws_heldTallyS_b1_S) (r : laws_heldTallyS_b1_S ⊕ laws_heldTallyS_b1_R) (h : laws_heldTallyS_b1 a1 s = some r) (e : Env) (M : Mem) (hs : laws_heldTallyS_b1_RS a1 s e M) : Ev (fun k => (f48_l2 (CN k) k (prune [0, 1, 5] e) M).bind fun q => some q) (bQ (laws_heldTallyS_b1_RS a1) (laws_heldTallyS_b1_RR a1) r) := by
 obtain ⟨s1_1, s1_2⟩ := s
 unfold laws_heldTallyS_b1 at h
 obtain ⟨h20, h22, h24⟩ := hs
 generalize he19 : prune [0, 1, 5] e = e18
 have h21 := envp he19.symm rfl h20
 have h23 := envp he19.symm rfl h22
 have h25 := envp he19.symm rfl h24
 refine sq (sq (Rg (kx (mvO h25) (kx (mvO h21) (kx (lnS Try.underlying31 rfl) (kx (bLss rfl rfl) (Rn (hV (.sl none (a1.map Tally.c)) h21 (hV (.int .i64 s1_1) h23 (hV (.int .i64 s1_2) h25 (hN rfl hZ)))) fun e26 h28 h29 h30 h31 => sN ?_)))))))
 clear h21 h23 h25
 rcases ite_some h with ⟨hb32, h⟩ | ⟨hb32, h⟩
 ·obtain ⟨x33, hx34, h⟩ := bind_some h
  refine cT h31 hb32 (xx (sN (sq (bl (sq (sq (Rg (kx (mvO h28) (kx (mvO h30) (kx (ixS rfl rfl hx34 Tally.fl) (kx (faP rfl ⟨ble rfl, blt rfl⟩ rfl) (kx (ldP rfl rfl) (kx (mvO h29) (kx (bNeq rfl rfl) (Rn (hA h28 (hA h29 (hA h30 (hN rfl hZ)))) fun e35 h37 h38 h39 h40 => sN ?_)))))))))))))))
  clear h28 h29 h30 h31
  rcases ite_some h with ⟨hb41, h⟩ | ⟨hb41, h⟩
  ·refine cT h40 hb41 (sq (Rg (kx (mvO rfl) (Rn (hV (.int .i64 (-1)) rfl hZ) fun e42 h44 => sN (xx (sR (bR (sR ?_))))))))
   clear h37 h38 h39 h40
   obtain rfl := si h
   exact qR ⟨rfl, h44⟩
  obtain ⟨x50, hx51, h⟩ := bind_some h
  refine cF h40 hb41 (xx (sN (sq (Rg (kx (mvO h38) (kx (bAdd rfl rfl) (kx (mvO rfl) (Rn (hA h37 (hN rfl (hA h39 hZ))) fun e45 h47 h48 h49 => sN (sq (sq (Rg (kx (mvO h47) (kx (mvO h49) (kx (ixS rfl rfl hx51 Tally.fl) (kx (faP rfl ⟨ble rfl, blt rfl⟩ rfl) (kx (ldP rfl rfl) (kx (mvO h48) (kx (bNeq rfl rfl) (Rn (hA h47 (hA h48 (hA h49 (hN rfl hZ)))) fun e52 h54 h55 h56 h57 => sN ?_)))))))))))))))))))
  clear h37 h39 h40 h47 h48 h49
  rcases ite_some h with ⟨hb58, h⟩ | ⟨hb58, h⟩
  ·refine cT h57 hb58 (sq (Rg (kx (mvO rfl) (Rn (hV (.int .i64 (-1)) rfl hZ) fun e59 h61 => sN (xx (sR (bR (sR ?_))))))))
   clear h54 h55 h56 h57
   obtain rfl := si h
   exact qR ⟨rfl, h61⟩
  obtain ⟨x67, hx68, h⟩ := bind_some h
  refine cF h57 hb58 (xx (sN (sq (Rg (kx (mvO h55) (kx (bAdd rfl rfl) (kx (mvO rfl) (Rn (hA h54 (hN rfl (hA h56 hZ))) fun e62 h64 h65 h66 => sN (sq (sq (Rg (kx (mvO h64) (kx (mvO h66) (kx (ixS rfl rfl hx68 Tally.fl) (kx (faP rfl ⟨ble rfl, blt rfl⟩ rfl) (kx (ldP rfl rfl) (kx (mvO h65) (kx (bNeq rfl rfl) (Rn (hA h64 (hA h65 (hA h66 (hN rfl hZ)))) fun e69 h71 h72 h73 h74 => sN ?_)))))))))))))))))))
  clear h54 h56 h57 h64 h65 h66
  rcases ite_some h with ⟨hb75, h⟩ | ⟨hb75, h⟩
  ·refine cT h74 hb75 (sq (Rg (kx (mvO rfl) (Rn (hV (.int .i64 (-1)) rfl hZ) fun e76 h78 => sN (xx (sR (bR (sR ?_))))))))
   clear h71 h72 h73 h74
   obtain rfl := si h
   exact qR ⟨rfl, h78⟩
  obtain ⟨x84, hx85, h⟩ := bind_some h
  refine cF h74 hb75 (xx (sN (sq (Rg (kx (mvO h72) (kx (bAdd rfl rfl) (kx (mvO rfl) (Rn (hA h71 (hN rfl (hA h73 hZ))) fun e79 h81 h82 h83 => sN (sq (sq (Rg (kx (mvO h81) (kx (mvO h83) (kx (ixS rfl rfl hx85 Tally.fl) (kx (faP rfl ⟨ble rfl, blt rfl⟩ rfl) (kx (ldP rfl rfl) (kx (mvO h82) (kx (bNeq rfl rfl) (Rn (hA h81 (hA h82 (hA h83 (hN rfl hZ)))) fun e86 h88 h89 h90 h91 => sN ?_)))))))))))))))))))
  clear h71 h73 h74 h81 h82 h83
  rcases ite_some h with ⟨hb92, h⟩ | ⟨hb92, h⟩
  ·refine cT h91 hb92 (sq (Rg (kx (mvO rfl) (Rn (hV (.int .i64 (-1)) rfl hZ) fun e93 h95 => sN (xx (sR (bR (sR ?_))))))))
   clear h88 h89 h90 h91
   obtain rfl := si h
   exact qR ⟨rfl, h95⟩
  obtain ⟨x101, hx102, h⟩ := bind_some h
  refine cF h91 hb92 (xx (sN (sq (Rg (kx (mvO h89) (kx (bAdd rfl rfl) (kx (mvO rfl) (Rn (hA h88 (hN rfl (hA h90 hZ))) fun e96 h98 h99 h100 => sN (sq (sq (Rg (kx (mvO h98) (kx (mvO h100) (kx (ixS rfl rfl hx102 Tally.fl) (kx (faP rfl ⟨ble rfl, blt rfl⟩ rfl) (kx (ldP rfl rfl) (kx (mvO h99) (kx (bNeq rfl rfl) (Rn (hA h98 (hA h99 (hA h100 (hN rfl hZ)))) fun e103 h105 h106 h107 h108 => sN ?_)))))))))))))))))))
  clear h88 h90 h91 h100 h98 h99
  rcases ite_some h with ⟨hb109, h⟩ | ⟨hb109, h⟩
  ·refine cT h108 hb109 (sq (Rg (kx (mvO rfl) (Rn (hV (.int .i64 (-1)) rfl hZ) fun e110 h112 => sN (xx (sR (bR (sR ?_))))))))
   clear h105 h106 h107 h108
   obtain rfl := si h
   exact qR ⟨rfl, h112⟩
  refine cF h108 hb109 (xx (sN (Rg (kx (mvO h106) (kx (bAdd rfl rfl) (kx (mvO rfl) (Rn (hA h105 (hN rfl (hA h107 hZ))) fun e113 h115 h116 h117 => bN (sN (Rg (kx (mvO h117) (kx (bAdd rfl rfl) (kx (mvO rfl) (Rn (hA h115 (hA h116 (hN rfl hZ))) fun e118 h120 h121 h122 => ?_)))))))))))))
  clear h105 h107 h108 h115 h116
  obtain rfl := si h
  exact qN ⟨h120, h121, h122⟩
 refine cF h31 hb32 (xx (sE ?_))
 obtain rfl := si h
 exact qE ⟨rfl, h29⟩
noncomputable def laws_heldTallyS (a1 : List Tally) (a2 : Int) : Option Int :=
 (Lw (laws_heldTallyS_b1 a1) (a2, 0)).bind fun r => match r with
 | (.inl _) =>
  some (-1)
 | (.inr y131) =>
  some y131
def laws_heldTallyS_enc (r : Int) : AV := .int .i64 r
theorem laws_heldTallyS_ok (a1 : List Tally) (a2 : Int) (r : Int) (h : laws_heldTallyS a1 a2 = some r) : Ev (fun k => CN k 48 [.sl none (a1.map Tally.c), .int .i64 a2] []) (fun p => rRes p.2 p.1 = laws_heldTallyS_enc r) := by
 unfold laws_heldTallyS at h
 obtain ⟨r123, hr124, h⟩ := bind_some h
 refine Ev.enter (F := fun k => f48 (CN k) k) (fun k => callN_eq rfl Try.func48 rfl rfl rfl (by decide +kernel) (f48_eq _ _)) (sq (Rg (kx (mvO rfl) (Rn (hN rfl (hN rfl hZ)) fun e1 h3 h4 => sN (sq (sq (Rg (kx (mvO rfl) (Rn (hA h3 (hA h4 (hV (.int .i64 0) rfl hZ))) fun e5 h7 h8 h9 => sN (bl ?_))))))))))
 clear h3 h4
 rcases r123 with _ | y131
 ·refine Ev.loop (RS := laws_heldTallyS_b1_RS a1) (RR := laws_heldTallyS_b1_RR a1) (fun s r h e M hs => laws_heldTallyS_b1_ok a1 s r h e M hs) hr124 ⟨h7, h8, h9⟩ fun x e126 M127 hq125 => ?_
  obtain ⟨rfl, h128⟩ := hq125
  refine bR (sR ?_)
  obtain rfl := si h
  exact eR (resT h128 res0) rfl
 refine Ev.loop (RS := laws_heldTallyS_b1_RS a1) (RR := laws_heldTallyS_b1_RR a1) (fun s r h e M hs => laws_heldTallyS_b1_ok a1 s r h e M hs) hr124 ⟨h7, h8, h9⟩ fun x e129 M130 hq125 => ?_
 obtain ⟨rfl, h132⟩ := hq125
 refine bE (sN (sq (Rg (kx (mvO h132) (kx (mvO rfl) (Rn (hN rfl hZ) fun e133 h135 => sN (xx ?_)))))))
 clear h132
 obtain rfl := si h
 exact eR (resT h135 res0) rfl
/-! ### loop.example/g01263/laws.eqDeal (f43) -/
noncomputable def laws_eqDeal (a1 : Deal) (a2 : Deal) : Option Bool :=
 if (a1.Day != a2.Day) = true then
  some false
 else
  if (a1.Kind != a2.Kind) = true then
   some false
  else
   if (a1.Tally != a2.Tally) = true then
    some false
   else
    if (a1.From != a2.From) = true then
     some false
    else
     if (a1.To != a2.To) = true then
      some false
     else
      if (a1.Amount != a2.Amount) = true then
       some false
      else
       some true
def laws_eqDeal_enc (r : Bool) : AV := .bool r
theorem laws_eqDeal_ok (a1 : Deal) (a2 : Deal) (r : Bool) (h : laws_eqDeal a1 a2 = some r) : Ev (fun k => CN k 43 [.agg [.int .i64 a1.Day, .int .i8 a1.Kind, .int .i64 a1.Tally, .int .i64 a1.From, .int .i64 a1.To, .int .i64 a1.Amount], .agg [.int .i64 a2.Day, .int .i8 a2.Kind, .int .i64 a2.Tally, .int .i64 a2.From, .int .i64 a2.To, .int .i64 a2.Amount]] []) (fun p => rRes p.2 p.1 = laws_eqDeal_enc r) := by
 unfold laws_eqDeal at h
 refine Ev.enter (F := fun k => f43 (CN k) k) (fun k => callN_eq rfl Try.func43 rfl rfl rfl (by decide +kernel) (f43_eq _ _)) (sq (Rg (kx (bxI rfl rfl ⟨rfl, rfl, by decide⟩) (kx (bxI rfl rfl ⟨rfl, rfl, by decide⟩) (kx (mvO rfl) (Rn (hN rfl (hN rfl hZ)) fun e1 h3 h4 => sN (sq (sq (Rg (kx (faP h3 ⟨ble rfl, blt rfl⟩ rfl) (kx (ldP rfl rfl) (kx (faP h4 ⟨ble rfl, blt rfl⟩ rfl) (kx (ldP rfl rfl) (kx (bNeq rfl rfl) (Rn (hA h3 (hA h4 (hN rfl hZ))) fun e5 h7 h8 h9 => sN ?_)))))))))))))))
 clear h3 h4
 rcases ite_some h with ⟨hb10, h⟩ | ⟨hb10, h⟩
 ·refine cT h9 hb10 (sq (Rg (kx (mvO rfl) (Rn (hV (.bool false) rfl hZ) fun e11 h13 => sN (xx (sR ?_))))))
  clear h7 h8 h9
  obtain rfl := si h
  exact eR (resT h13 res0) rfl
 refine cF h9 hb10 (xx (sN (sq (sq (Rg (kx (faP h7 ⟨ble rfl, blt rfl⟩ rfl) (kx (ldP rfl rfl) (kx (faP h8 ⟨ble rfl, blt rfl⟩ rfl) (kx (ldP rfl rfl) (kx (bNeq rfl rfl) (Rn (hA h7 (hA h8 (hN rfl hZ))) fun e14 h16 h17 h18 => sN ?_)))))))))))
 clear h7 h8 h9
 rcases ite_some h with ⟨hb19, h⟩ | ⟨hb19, h⟩
 ·refine cT h18 hb19 (sq (Rg (kx (mvO rfl) (Rn (hV (.bool false) rfl hZ) fun e20 h22 => sN (xx (sR ?_))))))
  clear h16 h17 h18
  obtain rfl := si h
  exact eR (resT h22 res0) rfl
 refine cF h18 hb19 (xx (sN (sq (sq (Rg (kx (faP h16 ⟨ble rfl, blt rfl⟩ rfl) (kx (ldP rfl rfl) (kx (faP h17 ⟨ble rfl, blt rfl⟩ rfl) (kx (ldP rfl rfl) (kx (bNeq rfl rfl) (Rn (hA h16 (hA h17 (hN rfl hZ))) fun e23 h25 h26 h27 => sN ?_)))))))))))
 clear h16 h17 h18
 rcases ite_some h with ⟨hb28, h⟩ | ⟨hb28, h⟩
 ·refine cT h27 hb28 (sq (Rg (kx (mvO rfl) (Rn (hV (.bool false) rfl hZ) fun e29 h31 => sN (xx (sR ?_))))))
  clear h25 h26 h27
  obtain rfl := si h
  exact eR (resT h31 res0) rfl
 refine cF h27 hb28 (xx (sN (sq (sq (Rg (kx (faP h25 ⟨ble rfl, blt rfl⟩ rfl) (kx (ldP rfl rfl) (kx (faP h26 ⟨ble rfl, blt rfl⟩ rfl) (kx (ldP rfl rfl) (kx (bNeq rfl rfl) (Rn (hA h25 (hA h26 (hN rfl hZ))) fun e32 h34 h35 h36 => sN ?_)))))))))))
 clear h25 h26 h27
 rcases ite_some h with ⟨hb37, h⟩ | ⟨hb37, h⟩
 ·refine cT h36 hb37 (sq (Rg (kx (mvO rfl) (Rn (hV (.bool false) rfl hZ) fun e38 h40 => sN (xx (sR ?_))))))
  clear h34 h35 h36
  obtain rfl := si h
  exact eR (resT h40 res0) rfl
 refine cF h36 hb37 (xx (sN (sq (sq (Rg (kx (faP h34 ⟨ble rfl, blt rfl⟩ rfl) (kx (ldP rfl rfl) (kx (faP h35 ⟨ble rfl, blt rfl⟩ rfl) (kx (ldP rfl rfl) (kx (bNeq rfl rfl) (Rn (hA h34 (hA h35 (hN rfl hZ))) fun e41 h43 h44 h45 => sN ?_)))))))))))
 clear h34 h35 h36
 rcases ite_some h with ⟨hb46, h⟩ | ⟨hb46, h⟩
 ·refine cT h45 hb46 (sq (Rg (kx (mvO rfl) (Rn (hV (.bool false) rfl hZ) fun e47 h49 => sN (xx (sR ?_))))))
  clear h43 h44 h45
  obtain rfl := si h
  exact eR (resT h49 res0) rfl
 refine cF h45 hb46 (xx (sN (sq (sq (Rg (kx (faP h43 ⟨ble rfl, blt rfl⟩ rfl) (kx (ldP rfl rfl) (kx (faP h44 ⟨ble rfl, blt rfl⟩ rfl) (kx (ldP rfl rfl) (kx (bNeq rfl rfl) (Rn (hN rfl hZ) fun e50 h52 => sN ?_)))))))))))
 clear h43 h44 h45
 rcases ite_some h with ⟨hb53, h⟩ | ⟨hb53, h⟩
 ·refine cT h52 hb53 (sq (Rg (kx (mvO rfl) (Rn (hV (.bool false) rfl hZ) fun e54 h56 => sN (xx (sR ?_))))))
  clear h52
  obtain rfl := si h
  exact eR (resT h56 res0) rfl
 refine cF h52 hb53 (xx (sN (sq (Rg (kx (mvO rfl) (Rn (hV (.bool true) rfl hZ) fun e57 h59 => sN (xx ?_)))))))
 clear h52
 obtain rfl := si h
 exact eR (resT h59 res0) rfl
/-! ### loop.example/g01263/laws.eqTallyS (f42) -/
abbrev laws_eqTallyS_b1_S := Int
abbrev laws_eqTallyS_b1_R := Unit ⊕ Unit
def laws_eqTallyS_b1_RS (a1 : List Tally) (a2 : List Tally) (s : laws_eqTallyS_b1_S) (e : Env) (M : Mem) : Prop := eget e 0 = .sl none (a1.map Tally.c) ∧ eget e 1 = .sl none (a2.map Tally.c) ∧ eget e 5 = .int .i64 s
def laws_eqTallyS_b1_RR (a1 : List Tally) (a2 : List Tally) (r : laws_eqTallyS_b1_R) (x : Ex) (e : Env) (M : Mem) : Prop :=
  match r with
  | (.inl g) => x = .ret ∧ eget e 4 = .bool false
  | (.inr g) => x = .ext 0 ∧ True
noncomputable def laws_eqTallyS_b1 (a1 : List Tally) (a2 : List Tally) : laws_eqTallyS_b1_S → Option (laws_eqTallyS_b1_S ⊕ laws_eqTallyS_b1_R) := fun s1_1 =>
 if (decide (s1_1 < (a1.length : Int))) = true then
  (rd a1 s1_1).bind fun x42 =>
  (rd a2 s1_1).bind fun x44 =>
  (laws_eqTally x42 x44).bind fun r47 =>
  if r47 = true then
   some (.inl (IntKind.i64.wrap (s1_1 + 1)))
  else
   some (.inr (.inl ()))
 else
  some (.inr (.inr ()))
theorem laws_eqTallyS_b1_ok (a1 : List Tally) (a2 : List Tally) (s : laws_eqTallyS_b1_S) (r : laws_eqTallyS_b1_S ⊕ laws_eqTallyS_b1_R) (h : laws_eqTallyS_b1 a1 a2 s = some r) (e : Env) (M : Mem) (hs : laws_eqTallyS_b1_RS a1 a2 s e M) : Ev (fun k => (f42_l4 (CN k) k (prune [0, 1, 5] e) M).bind fun q => some q) (bQ (laws_eqTallyS_b1_RS a1 a2) (laws_eqTallyS_b1_RR a1 a2) r) := by
 revert h hs
 revert s
 intro s1_1 h hs
 unfold laws_eqTallyS_b1 at h
 obtain ⟨h29, h31, h33⟩ := hs
 generalize he28 : prune [0, 1, 5] e = e27
 have h30 := envp he28.symm rfl h29
 have h32 := envp he28.symm rfl h31
 have h34 := envp he28.symm rfl h33
 refine sq (sq (Rg (kx (mvO h34) (kx (mvO h30) (kx (lnS Try.underlying31 rfl) (kx (bLss rfl rfl) (Rn (hV (.sl none (a1.map Tally.c)) h30 (hV (.sl none (a2.map Tally.c)) h32 (hV (.int .i64 s1_1) h34 (hN rfl hZ)))) fun e35 h37 h38 h39 h40 => sN ?_)))))))
 clear h30 h32 h34
 rcases ite_some h with ⟨hb41, h⟩ | ⟨hb41, h⟩
 ·obtain ⟨x42, hx43, h⟩ := bind_some h
  obtain ⟨x44, hx45, h⟩ := bind_some h
  obtain ⟨r47, hx46, h⟩ := bind_some h
  refine cT h40 hb41 (xx (sN (sq (bl (sq (Rd (kf (mvO h37) (kf (mvO h39) (kf (ixS rfl rfl hx43 Tally.fl) (kf (ldPA rfl rfl rfl) (kf (mvO h38) (kf (mvO h39) (kf (ixS rfl rfl hx45 Tally.fl) (kf (ldPA rfl rfl rfl) (fc (cl (v := .bool r47) rfl (cns rfl (cns rfl rfl)) rfl (laws_eqTally_ok x42 x44 _ hx46) nm) (kf (uNot rfl) (fZ (Rn (hA h37 (hA h38 (hA h39 (hN rfl hZ)))) fun e48 h50 h51 h52 h53 => sN ?_))))))))))))))))))
  clear h37 h38 h39 h40
  rcases ite_some h with ⟨hb54, h⟩ | ⟨hb54, h⟩
  ·refine cF h53 (congrArg Bool.not hb54) (xx (bN (sN (Rg (kx (mvO h52) (kx (bAdd rfl rfl) (kx (mvO rfl) (Rn (hA h50 (hA h51 (hN rfl hZ))) fun e55 h57 h58 h59 => ?_))))))))
   clear h50 h51 h53
   obtain rfl := si h
   exact qN ⟨h57, h58, h59⟩
  refine cT h53 (congrArg Bool.not hb54) (sq (Rg (kx (mvO rfl) (Rn (hV (.bool false) rfl hZ) fun e60 h62 => sN (xx (bR (sR ?_)))))))
  clear h50 h51 h52 h53
  obtain rfl := si h
  exact qR ⟨rfl, h62⟩
 refine cF h40 hb41 (xx (sE ?_))
 obtain rfl := si h
 exact qE ⟨rfl, trivial⟩
noncomputable def laws_eqTallyS (a1 : List Tally) (a2 : List Tally) : Option Bool :=
 if ((a1.length : Int) != (a2.length : Int)) = true then
  some false
 else
  (Lw (laws_eqTallyS_b1 a1 a2) 0).bind fun r => match r with
  | (.inl _) =>
   some false
  | (.inr _) =>
   some true
def laws_eqTallyS_enc (r : Bool) : AV := .bool r
theorem laws_eqTallyS_ok (a1 : List Tally) (a2 : List Tally) (r : Bool) (h : laws_eqTallyS a1 a2 = some r) : Ev (fun k => CN k 42 [.sl none (a1.map Tally.c), .sl none (a2.map Tally.c)] []) (fun p => rRes p.2 p.1 = laws_eqTallyS_enc r) := by
 unfold laws_eqTallyS at h
 refine Ev.enter (F := fun k => f42 (CN k) k) (fun k => callN_eq rfl Try.func42 rfl rfl rfl (by decide +kernel) (f42_eq _ _)) (sq (Rg (kx (mvO rfl) (Rn (hN rfl (hN rfl hZ)) fun e1 h3 h4 => sN (sq (sq (Rg (kx (mvO h3) (kx (lnS Try.underlying31 rfl) (kx (mvO h4) (kx (lnS Try.underlying31 rfl) (kx (bNeq rfl rfl) (Rn (hA h3 (hA h4 (hN rfl hZ))) fun e5 h7 h8 h9 => sN ?_)))))))))))))
 clear h3 h4
 rcases ite_some h with ⟨hb10, h⟩ | ⟨hb10, h⟩
 ·refine cT h9 hb10 (sq (Rg (kx (mvO rfl) (Rn (hV (.bool false) rfl hZ) fun e11 h13 => sN (xx (sR ?_))))))
  clear h7 h8 h9
  obtain rfl := si h
  exact eR (resT h13 res0) rfl
 obtain ⟨r63, hr64, h⟩ := bind_some h
 refine cF h9 hb10 (xx (sN (sq (sq (Rg (kx (mvO rfl) (Rn (hA h7 (hA h8 (hV (.int .i64 0) rfl hZ))) fun e14 h16 h17 h18 => sN (bl ?_))))))))
 clear h7 h8 h9
 rcases r63 with _ | _
 ·refine Ev.loop (RS := laws_eqTallyS_b1_RS a1 a2) (RR := laws_eqTallyS_b1_RR a1 a2) (fun s r h e M hs => laws_eqTallyS_b1_ok a1 a2 s r h e M hs) hr64 ⟨h16, h17, h18⟩ fun x e66 M67 hq65 => ?_
  obtain ⟨rfl, h68⟩ := hq65
  refine bR (sR ?_)
  obtain rfl := si h
  exact eR (resT h68 res0) rfl
 refine Ev.loop (RS := laws_eqTallyS_b1_RS a1 a2) (RR := laws_eqTallyS_b1_RR a1 a2) (fun s r h e M hs => laws_eqTallyS_b1_ok a1 a2 s r h e M hs) hr64 ⟨h16, h17, h18⟩ fun x e69 M70 hq65 => ?_
 obtain ⟨rfl, _⟩ := hq65
 refine bE (sN (sq (Rg (kx (mvO rfl) (Rn (hV (.bool true) rfl hZ) fun e71 h73 => sN (xx ?_))))))
 obtain rfl := si h
 exact eR (resT h73 res0) rfl
/-! ### loop.example/g01263/impl.dealsCode (f40) -/
def impl_dealsCode_c1_Q (a2 : List Deal) (g : Bool) (q : Out) : Prop := q.1 = .nrm ∧ eget q.2.1 1 = .sl none (a2.map Deal.c) ∧ eget q.2.1 5 = .bool g
noncomputable def impl_dealsCode (a1 : Book) (a2 : List Deal) : Option Int :=
 ((impl_ValidBook a1).bind fun r6 =>
 if r6 = true then
  (impl_areDeals a2).bind fun r9 =>
  some (!r9)
 else
  some true).bind fun y20 =>
 if y20 = true then
  some 1
 else
  if (decide ((a2.length : Int) > 80)) = true then
   some 3
  else
   some 0
def impl_dealsCode_enc (r : Int) : AV := .int .i64 r
theorem impl_dealsCode_ok (a1 : Book) (a2 : List Deal) (r : Int) (h : impl_dealsCode a1 a2 = some r) : Ev (fun k => CN k 40 [.agg [.int .i64 a1.Day, .sl none (a1.Cash.map (cI .i64)), .sl none (a1.Tallies.map Tally.c)], .sl none (a2.map Deal.c)] []) (fun p => rRes p.2 p.1 = impl_dealsCode_enc r) := by
 unfold impl_dealsCode at h
 obtain ⟨r38, hr39, h⟩ := bind_some h
 refine Ev.enter (F := fun k => f40 (CN k) k) (fun k => callN_eq rfl Try.func40 rfl rfl rfl (by decide +kernel) (f40_eq _ _)) (sq (Rg (kx (bxI rfl rfl ⟨rfl, rfl, by decide⟩) (kx (mvO rfl) (Rn (hN rfl (hN rfl hZ)) fun e1 h3 h4 => sN (sq (bl (sq ?_))))))))
 refine Ev.cut (Q1 := impl_dealsCode_c1_Q a2 r38) (by
     have h := hr39
     obtain ⟨r6, hx5, h⟩ := bind_some h
     refine Rg (kx (ldPA h4 rfl rfl) (kc (cl (v := .bool r6) rfl (cns rfl rfl) rfl (impl_ValidBook_ok a1 _ hx5) nm) (kx (uNot rfl) (kx (mvO rfl) ?_))))
     rcases ite_some h with ⟨hb7, h⟩ | ⟨hb7, h⟩
     ·obtain ⟨r9, hx8, h⟩ := bind_some h
      refine kx (guF rfl (congrArg Bool.not hb7) (mvO h3)) (kc (Ev.guF rfl (congrArg Bool.not hb7) (cl (v := .bool r9) rfl (cns rfl rfl) rfl (impl_areDeals_ok a2 _ hx8) nm)) (kx (guF rfl (congrArg Bool.not hb7) (uNot rfl)) (kx (pkF rfl (congrArg Bool.not hb7) rfl) (kx (mvO rfl) (Rn (hA h3 (hN rfl hZ)) fun e10 h12 h13 => ?_)))))
      clear h3 h4
      obtain rfl := si h
      exact kd (show impl_dealsCode_c1_Q a2 _ _ from ⟨rfl, h12, h13⟩)
     refine kx (gsF rfl (congrArg Bool.not hb7)) (kc (Ev.gsF rfl (congrArg Bool.not hb7)) (kx (gsF rfl (congrArg Bool.not hb7)) (kx (pkT rfl (congrArg Bool.not hb7) rfl) (kx (mvO rfl) (Rn (hA h3 (hV (.bool true) rfl hZ)) fun e14 h16 h17 => ?_)))))
     clear h3 h4
     obtain rfl := si h
     exact kd (show impl_dealsCode_c1_Q a2 _ _ from ⟨rfl, h16, h17⟩)) ?_
 revert h hr39
 revert r38
 intro y20 hr39 h
 intro x e18 M19 hq37
 obtain ⟨rfl, h21, h22⟩ := hq37
 refine sN ?_
 rcases ite_some h with ⟨hb23, h⟩ | ⟨hb23, h⟩
 ·refine cT h22 hb23 (sq (Rg (kx (mvO rfl) (Rn (hV (.int .i64 1) rfl hZ) fun e24 h26 => sN (xx (bR (sR ?_)))))))
  clear h21 h22
  obtain rfl := si h
  exact eR (resT h26 res0) rfl
 refine cF h22 hb23 (sq (Rg (kx (mvO h21) (kx (lnS Try.underlying35 rfl) (kx (bGtr rfl rfl) (kx (mvO rfl) (Rn (hN rfl hZ) fun e27 h29 => sN ?_)))))))
 clear h21 h22
 rcases ite_some h with ⟨hb30, h⟩ | ⟨hb30, h⟩
 ·refine cT h29 hb30 (sq (Rg (kx (mvO rfl) (Rn (hV (.int .i64 3) rfl hZ) fun e31 h33 => sN (xx (bR (sR ?_)))))))
  clear h29
  obtain rfl := si h
  exact eR (resT h33 res0) rfl
 refine cF h29 hb30 (xx (bN (sN (sq (Rg (kx (mvO rfl) (Rn (hV (.int .i64 0) rfl hZ) fun e34 h36 => sN (xx ?_))))))))
 clear h29
 obtain rfl := si h
 exact eR (resT h36 res0) rfl
/-! ### loop.example/g01263/laws.toDeal (f39) -/
noncomputable def laws_toDeal (a1 : Deal) : Option (Int × Int × Int × Int × Int × Int) :=
 some (a1.Day, a1.Kind, a1.Tally, a1.From, a1.To, a1.Amount)
def laws_toDeal_enc (r : Int × Int × Int × Int × Int × Int) : AV := .agg [.int .i64 r.1, .int .i8 r.2.1, .int .i64 r.2.2.1, .int .i64 r.2.2.2.1, .int .i64 r.2.2.2.2.1, .int .i64 r.2.2.2.2.2]
theorem laws_toDeal_ok (a1 : Deal) (r : Int × Int × Int × Int × Int × Int) (h : laws_toDeal a1 = some r) : Ev (fun k => CN k 39 [.agg [.int .i64 a1.Day, .int .i8 a1.Kind, .int .i64 a1.Tally, .int .i64 a1.From, .int .i64 a1.To, .int .i64 a1.Amount]] []) (fun p => rRes p.2 p.1 = laws_toDeal_enc r) := by
 unfold laws_toDeal at h
 refine Ev.enter (F := fun k => f39 (CN k) k) (fun k => callN_eq rfl Try.func39 rfl rfl rfl (by decide +kernel) (f39_eq _ _)) (sq (Rg (kx (bxI rfl rfl ⟨rfl, rfl, by decide⟩) (ku (alO zero65) fun M2 hM3 => ?_))))
 have o4 : M2[([] : Mem).length]? = some (.live ⟨.box, 65, 6, [[.int .i64 0, .int .i8 0, .int .i64 0, .int .i64 0, .int .i64 0, .int .i64 0]]⟩) := push_new hM3
 refine Rn (hN rfl (hV (.loc ([] : Mem).length 1 0 0) rfl hZ)) fun e5 h7 h8 => sN (sq (Rg (ku (alO zero65) fun M10 hM11 => ?_)))
 have o12 := push_old hM11 o4
 have ne13 := ne_new o4
 have o14 : M10[M2.length]? = some (.live ⟨.box, 65, 6, [[.int .i64 0, .int .i8 0, .int .i64 0, .int .i64 0, .int .i64 0, .int .i64 0]]⟩) := push_new hM11
 refine Rn (hA h7 (hA h8 (hV (.loc M2.length 1 0 0) rfl hZ))) fun e15 h17 h18 h19 => sN (sq (Rg (kx (faP h17 ⟨ble rfl, blt rfl⟩ rfl) (kx (ldP rfl rfl) (kx (faO h19 o14 rfl) (kw (stO rfl rfl o14 rfl rfl ⟨rfl, ble rfl⟩ rfl rfl) fun M20 hM21 => ?_))))))
 clear h7 h8
 have o22 := set_ne hM21 ne13 o12
 have o23 : M20[M2.length]? = some (.live ⟨.box, 65, 6, [[.int .i64 a1.Day, .int .i8 0, .int .i64 0, .int .i64 0, .int .i64 0, .int .i64 0]]⟩) := set_same hM21 o14
 refine Rn (hA h17 (hA h18 (hA h19 hZ))) fun e24 h26 h27 h28 => sN (sq (Rg (kx (faP h26 ⟨ble rfl, blt rfl⟩ rfl) (kx (ldP rfl rfl) (kx (faO h28 o23 rfl) (kw (stO rfl rfl o23 rfl rfl ⟨rfl, ble rfl⟩ rfl rfl) fun M29 hM30 => ?_))))))
 clear h17 h18 h19
 have o31 := set_ne hM30 ne13 o22
 have o32 : M29[M2.length]? = some (.live ⟨.box, 65, 6, [[.int .i64 a1.Day, .int .i8 a1.Kind, .int .i64 0, .int .i64 0, .int .i64 0, .int .i64 0]]⟩) := set_same hM30 o23
 refine Rn (hA h26 (hA h27 (hA h28 hZ))) fun e33 h35 h36 h37 => sN (sq (Rg (kx (faP h35 ⟨ble rfl, blt rfl⟩ rfl) (kx (ldP rfl rfl) (kx (faO h37 o32 rfl) (kw (stO rfl rfl o32 rfl rfl ⟨rfl, ble rfl⟩ rfl rfl) fun M38 hM39 => ?_))))))
 clear h26 h27 h28
 have o40 := set_ne hM39 ne13 o31
 have o41 : M38[M2.length]? = some (.live ⟨.box, 65, 6, [[.int .i64 a1.Day, .int .i8 a1.Kind, .int .i64 a1.Tally, .int .i64 0, .int .i64 0, .int .i64 0]]⟩) := set_same hM39 o32
 refine Rn (hA h35 (hA h36 (hA h37 hZ))) fun e42 h44 h45 h46 => sN (sq (Rg (kx (faP h44 ⟨ble rfl, blt rfl⟩ rfl) (kx (ldP rfl rfl) (kx (faO h46 o41 rfl) (kw (stO rfl rfl o41 rfl rfl ⟨rfl, ble rfl⟩ rfl rfl) fun M47 hM48 => ?_))))))
 clear h35 h36 h37
 have o49 := set_ne hM48 ne13 o40
 have o50 : M47[M2.length]? = some (.live ⟨.box, 65, 6, [[.int .i64 a1.Day, .int .i8 a1.Kind, .int .i64 a1.Tally, .int .i64 a1.From, .int .i64 0, .int .i64 0]]⟩) := set_same hM48 o41
 refine Rn (hA h44 (hA h45 (hA h46 hZ))) fun e51 h53 h54 h55 => sN (sq (Rg (kx (faP h53 ⟨ble rfl, blt rfl⟩ rfl) (kx (ldP rfl rfl) (kx (faO h55 o50 rfl) (kw (stO rfl rfl o50 rfl rfl ⟨rfl, ble rfl⟩ rfl rfl) fun M56 hM57 => ?_))))))
 clear h44 h45 h46
 have o58 := set_ne hM57 ne13 o49
 have o59 : M56[M2.length]? = some (.live ⟨.box, 65, 6, [[.int .i64 a1.Day, .int .i8 a1.Kind, .int .i64 a1.Tally, .int .i64 a1.From, .int .i64 a1.To, .int .i64 0]]⟩) := set_same hM57 o50
 refine Rn (hA h53 (hA h54 (hA h55 hZ))) fun e60 h62 h63 h64 => sN (sq (Rg (kx (faP h62 ⟨ble rfl, blt rfl⟩ rfl) (kx (ldP rfl rfl) (kx (faO h64 o59 rfl) (kw (stO rfl rfl o59 rfl rfl ⟨rfl, ble rfl⟩ rfl rfl) fun M65 hM66 => ?_))))))
 clear h53 h54 h55
 have o67 := set_ne hM66 ne13 o58
 have o68 : M65[M2.length]? = some (.live ⟨.box, 65, 6, [[.int .i64 a1.Day, .int .i8 a1.Kind, .int .i64 a1.Tally, .int .i64 a1.From, .int .i64 a1.To, .int .i64 a1.Amount]]⟩) := set_same hM66 o59
 refine Rn (hA h63 (hA h64 hZ)) fun e69 h71 h72 => sN (sq (Rg (kx (ldOA h72 o68 rfl rfl (ble rfl) rfl) (kw (stO h71 rfl o67 rfl rfl ⟨rfl, ble rfl⟩ rfl rfl) fun M73 hM74 => ?_))))
 clear h62 h63 h64
 have o75 : M73[([] : Mem).length]? = some (.live ⟨.box, 65, 6, [[.int .i64 a1.Day, .int .i8 a1.Kind, .int .i64 a1.Tally, .int .i64 a1.From, .int .i64 a1.To, .int .i64 a1.Amount]]⟩) := set_same hM74 o67
 have o76 := set_ne hM74 (Ne.symm ne13) o68
 refine Rn (hA h71 hZ) fun e77 h79 => sN (xx ?_)
 clear h71 h72
 obtain rfl := si h
 exact eR (resC (ag := true) (sz := 6) ⟨by kernel_rfl, by kernel_rfl, by kernel_rfl⟩ (ldOA h79 o75 rfl rfl (ble rfl) rfl) res0) rfl
/-! ### loop.example/g01263/laws.toTallyS (f38) -/
abbrev laws_toTallyS_b1_S := Int × (List Tally)
abbrev laws_toTallyS_b1_R := (List Tally)
def laws_toTallyS_b1_RS (a1 : List Tally) (x4 : List Tally) (i1_1 : Nat) (s : laws_toTallyS_b1_S) (e : Env) (M : Mem) : Prop := eget e 0 = .sl none (a1.map Tally.c) ∧ eget e 3 = .lsl i1_1 s.2.length 0 s.2.length ∧ eget e 4 = .int .i64 s.1 ∧ M[i1_1]? = some (.live ⟨.grow, 75, 5, s.2.map Tally.c⟩) ∧ s.2.length = x4.length
def laws_toTallyS_b1_RR (a1 : List Tally) (x4 : List Tally) (i1_1 : Nat) (g : laws_toTallyS_b1_R) (x : Ex) (e : Env) (M : Mem) : Prop := x = .ext 0 ∧ eget e 3 = .lsl i1_1 g.length 0 g.length ∧ M[i1_1]? = some (.live ⟨.grow, 75, 5, g.map Tally.c⟩) ∧ g.length = x4.length
noncomputable def laws_toTallyS_b1 (a1 : List Tally) : laws_toTallyS_b1_S → Option (laws_toTallyS_b1_S ⊕ laws_toTallyS_b1_R) := fun (s1_1, s1_2) =>
 if (decide (s1_1 < (a1.length : Int))) = true then
  (rd a1 s1_1).bind fun x45 =>
  (laws_toTally x45).bind fun (r48, r49, r50, r51, r52) =>
  (rd s1_2 s1_1).bind fun x53 =>
  some (.inl ((IntKind.i64.wrap (s1_1 + 1)), (s1_2.set s1_1.toNat (Tally.mk r48 r49 r50 r51 r52))))
 else
  some (.inr s1_2)
theorem laws_toTallyS_b1_ok (a1 : List Tally) (x4 : List Tally) (i1_1 : Nat) (s : laws_toTallyS_b1_S) (r : laws_toTallyS_b1_S ⊕ laws_toTallyS_b1_R) (h : laws_toTallyS_b1 a1 s = some r) (e : Env) (M : Mem) (hs : laws_toTallyS_b1_RS a1 x4 i1_1 s e M) : Ev (fun k => (f38_l3 (CN k) k (prune [0, 3, 4] e) M).bind fun q => some q) (bQ (laws_toTallyS_b1_RS a1 x4 i1_1) (laws_toTallyS_b1_RR a1 x4 i1_1) r) := by
 obtain ⟨s1_1, s1_2⟩ := s
 unfold laws_toTallyS_b1 at h
 obtain ⟨h30, h32, h34, o36, hl37⟩ := hs
 generalize he29 : prune [0, 3, 4] e = e28
 have h31 := envp he29.symm rfl h30
 have h33 := envp he29.symm rfl h32
 have h35 := envp he29.symm rfl h34
 refine sq (sq (Rg (kx (mvO h35) (kx (mvO h31) (kx (lnS Try.underlying23 rfl) (kx (bLss rfl rfl) (Rn (hV (.sl none (a1.map Tally.c)) h31 (hV (.lsl i1_1 s1_2.length 0 s1_2.length) h33 (hV (.int .i64 s1_1) h35 (hN rfl hZ)))) fun e38 h40 h41 h42 h43 => sN ?_)))))))
 clear h31 h33 h35
 rcases ite_some h with ⟨hb44, h⟩ | ⟨hb44, h⟩
 ·obtain ⟨x45, hx46, h⟩ := bind_some h
  obtain ⟨⟨r48, r49, r50, r51, r52⟩, hx47, h⟩ := bind_some h
  obtain ⟨x53, hx54, h⟩ := bind_some h
  refine cT h43 hb44 (xx (sN (sq (bl (Rg (kx (mvO h41) (kx (mvO h42) (kx (mvO h40) (kx (mvO h42) (kx (ixS rfl rfl hx46 Tally.fl) (kx (ldPA rfl rfl rfl) (kc (cl (v := .agg [.int .i64 r48, .int .i64 r49, .int .i64 r50, .int .i64 r51, .int .i64 r52]) rfl (cns rfl rfl) rfl (laws_toTally_ok x45 _ hx47) nm) (kx (ixO rfl o36 rfl rfl (rd_get hx54).1 (rd_lt hx54).2) (kw (stR (u := x53) (u' := (Tally.mk r48 r49 r50 r51 r52)) rfl rfl o36 rfl (rz2 hx54) ⟨rfl, ble rfl⟩ rfl rfl) fun M55 hM56 => ?_))))))))))))))
  rw [Nat.zero_add] at hM56
  have o57 : M55[i1_1]? = some (.live ⟨.grow, 75, 5, (s1_2.set s1_1.toNat (Tally.mk r48 r49 r50 r51 r52)).map Tally.c⟩) := set_same hM56 o36
  have hx58 := rd_set (u' := (Tally.mk r48 r49 r50 r51 r52)) hx54
  refine Rn (hA h40 (hA h41 (hA h42 hZ))) fun e59 h61 h62 h63 => bN (sN (Rg (kx (mvO h63) (kx (bAdd rfl rfl) (kx (mvO rfl) (Rn (hA h61 (hA h62 (hN rfl hZ))) fun e64 h66 h67 h68 => ?_))))))
  clear h40 h41 h42 h43 h61 h62
  obtain rfl := si h
  exact qN ⟨h66, (lslL (L' := (s1_2.set s1_1.toNat (Tally.mk r48 r49 r50 r51 r52)).length) h67 (by simp [hl37])), h68, o57, (by first | rfl | simp [hl37])⟩
 refine cF h43 hb44 (xx (sE ?_))
 obtain rfl := si h
 exact qE ⟨rfl, h41, o36, (by first | rfl | simp [hl37])⟩
noncomputable def laws_toTallyS (a1 : List Tally) : Option ((List Tally)) :=
 (mkS 40 (Tally.mk 0 0 0 0 0) (a1.length : Int)).bind fun x4 =>
 (Lw (laws_toTallyS_b1 a1) (0, x4)).bind fun y74 =>
 some y74
def laws_toTallyS_enc (r : (List Tally)) : AV := .sl (some 75) (r.map Tally.c)
theorem laws_toTallyS_ok (a1 : List Tally) (r : (List Tally)) (h : laws_toTallyS a1 = some r) : Ev (fun k => CN k 38 [.sl none (a1.map Tally.c)] []) (fun p => rRes p.2 p.1 = laws_toTallyS_enc r) := by
 unfold laws_toTallyS at h
 obtain ⟨x4, hx5, h⟩ := bind_some h
 refine Ev.enter (F := fun k => f38 (CN k) k) (fun k => callN_eq rfl Try.func38 rfl rfl rfl (by decide +kernel) (f38_eq _ _)) (sq (Rg (kx (mvO rfl) (Rn (hN rfl hZ) fun e1 h3 => sN (sq (Rg (kx (mvO h3) (kx (lnS Try.underlying23 rfl) (ku (mkO rfl rfl hx5 (c := Tally.c) zero75 Tally.fl (by decide)) fun M7 hM8 => ?_)))))))))
 have o9 : M7[([] : Mem).length]? = some (.live ⟨.grow, 75, 5, x4.map Tally.c⟩) := push_new hM8
 obtain ⟨y74, hr70, h⟩ := bind_some h
 refine kx (mvO rfl) (Rn (hA h3 (hV (.lsl ([] : Mem).length x4.length 0 x4.length) rfl hZ)) fun e10 h12 h13 => sN (sq (sq (Rg (kx (mvO rfl) (Rn (hA h12 (hA h13 (hV (.int .i64 0) rfl hZ))) fun e14 h16 h17 h18 => sN (bl (Ev.loop (RS := laws_toTallyS_b1_RS a1 x4 (([] : Mem).length)) (RR := laws_toTallyS_b1_RR a1 x4 (([] : Mem).length)) (fun s r h e M hs => laws_toTallyS_b1_ok a1 x4 (([] : Mem).length) s r h e M hs) hr70 ⟨h16, h17, h18, o9, rfl⟩ fun x e72 M73 hq71 => ?_))))))))
 clear h3 h12 h13
 obtain ⟨rfl, h75, o76, hl77⟩ := hq71
 refine bE (sN (sq (Rg (kx (mvO h75) (kx (mvO rfl) (Rn (hV (.lsl ([] : Mem).length y74.length 0 y74.length) rfl hZ) fun e78 h80 => sN (xx ?_)))))))
 clear h75
 obtain rfl := si h
 exact eR (resT h80 res0) (rr_row o76 rfl Tally.fl)
/-! ### loop.example/g01263/spec.l07Asked (f36) -/
def spec_l07Asked_c1_Q (a2 : List Deal) (g : Bool) (q : Out) : Prop := q.1 = .nrm ∧ eget q.2.1 1 = .sl none (a2.map Deal.c) ∧ eget q.2.1 12 = .bool g
noncomputable def spec_l07Asked (a1 : Book) (a2 : List Deal) : Option Int :=
 ((spec_l07Ok a1).bind fun r6 =>
 if r6 = true then
  (spec_l07Deals a2).bind fun r9 =>
  some (!r9)
 else
  some true).bind fun y20 =>
 if y20 = true then
  some 1
 else
  if (decide ((a2.length : Int) > 80)) = true then
   some 3
  else
   some 0
def spec_l07Asked_enc (r : Int) : AV := .int .i64 r
theorem spec_l07Asked_ok (a1 : Book) (a2 : List Deal) (r : Int) (h : spec_l07Asked a1 a2 = some r) : Ev (fun k => CN k 36 [.pt none [.int .i64 a1.Day, .sl none (a1.Cash.map (cI .i64)), .sl none (a1.Tallies.map Tally.c)], .sl none (a2.map Deal.c)] []) (fun p => rRes p.2 p.1 = spec_l07Asked_enc r) := by
 unfold spec_l07Asked at h
 obtain ⟨r38, hr39, h⟩ := bind_some h
 refine Ev.enter (F := fun k => f36 (CN k) k) (fun k => callN_eq rfl Try.func36 rfl rfl rfl (by decide +kernel) (f36_eq _ _)) (sq (Rg (kx (mvO rfl) (Rn (hN rfl (hN rfl hZ)) fun e1 h3 h4 => sN (sq (sq ?_))))))
 refine Ev.cut (Q1 := spec_l07Asked_c1_Q a2 r38) (by
     have h := hr39
     obtain ⟨r6, hx5, h⟩ := bind_some h
     refine Rg (kx (mvO h3) (kc (cl (v := .bool r6) rfl (cns rfl rfl) rfl (spec_l07Ok_ok a1 _ hx5) nm) (kx (uNot rfl) (kx (mvO rfl) ?_))))
     rcases ite_some h with ⟨hb7, h⟩ | ⟨hb7, h⟩
     ·obtain ⟨r9, hx8, h⟩ := bind_some h
      refine kx (guF rfl (congrArg Bool.not hb7) (mvO h4)) (kc (Ev.guF rfl (congrArg Bool.not hb7) (cl (v := .bool r9) rfl (cns rfl rfl) rfl (spec_l07Deals_ok a2 _ hx8) nm)) (kx (guF rfl (congrArg Bool.not hb7) (uNot rfl)) (kx (pkF rfl (congrArg Bool.not hb7) rfl) (Rn (hA h4 (hN rfl hZ)) fun e10 h12 h13 => ?_))))
      clear h3 h4
      obtain rfl := si h
      exact kd (show spec_l07Asked_c1_Q a2 _ _ from ⟨rfl, h12, h13⟩)
     refine kx (gsF rfl (congrArg Bool.not hb7)) (kc (Ev.gsF rfl (congrArg Bool.not hb7)) (kx (gsF rfl (congrArg Bool.not hb7)) (kx (pkT rfl (congrArg Bool.not hb7) rfl) (Rn (hA h4 (hV (.bool true) rfl hZ)) fun e14 h16 h17 => ?_))))
     clear h3 h4
     obtain rfl := si h
     exact kd (show spec_l07Asked_c1_Q a2 _ _ from ⟨rfl, h16, h17⟩)) ?_
 revert h hr39
 revert r38
 intro y20 hr39 h
 intro x e18 M19 hq37
 obtain ⟨rfl, h21, h22⟩ := hq37
 refine sN ?_
 rcases ite_some h with ⟨hb23, h⟩ | ⟨hb23, h⟩
 ·refine cT h22 hb23 (sq (Rg (kx (mvO rfl) (Rn (hV (.int .i64 1) rfl hZ) fun e24 h26 => sN (xx (sR ?_))))))
  clear h21 h22
  obtain rfl := si h
  exact eR (resT h26 res0) rfl
 refine cF h22 hb23 (xx (sN (sq (sq (Rg (kx (mvO h21) (kx (lnS Try.underlying35 rfl) (kx (bGtr rfl rfl) (Rn (hN rfl hZ) fun e27 h29 => sN ?_)))))))))
 clear h21 h22
 rcases ite_some h with ⟨hb30, h⟩ | ⟨hb30, h⟩
 ·refine cT h29 hb30 (sq (Rg (kx (mvO rfl) (Rn (hV (.int .i64 3) rfl hZ) fun e31 h33 => sN (xx (sR ?_))))))
  clear h29
  obtain rfl := si h
  exact eR (resT h33 res0) rfl
 refine cF h29 hb30 (xx (sN (sq (Rg (kx (mvO rfl) (Rn (hV (.int .i64 0) rfl hZ) fun e34 h36 => sN (xx ?_)))))))
 clear h29
 obtain rfl := si h
 exact eR (resT h36 res0) rfl
/-! ### loop.example/g01263/laws.szTallyS (f35) -/
noncomputable def laws_szTallyS (a1 : List Tally) (a2 : Int) : Option Int :=
 if (decide ((IntKind.i64.wrap (a2 - (a1.length : Int))) < 0)) = true then
  some (-1)
 else
  some (IntKind.i64.wrap (a2 - (a1.length : Int)))
def laws_szTallyS_enc (r : Int) : AV := .int .i64 r
theorem laws_szTallyS_ok (a1 : List Tally) (a2 : Int) (r : Int) (h : laws_szTallyS a1 a2 = some r) : Ev (fun k => CN k 35 [.sl none (a1.map Tally.c), .int .i64 a2] []) (fun p => rRes p.2 p.1 = laws_szTallyS_enc r) := by
 unfold laws_szTallyS at h
 refine Ev.enter (F := fun k => f35 (CN k) k) (fun k => callN_eq rfl Try.func35 rfl rfl rfl (by decide +kernel) (f35_eq _ _)) (sq (Rg (kx (mvO rfl) (Rn (hN rfl (hN rfl hZ)) fun e1 h3 h4 => sN (sq (Rg (kx (mvO h4) (kx (mvO h3) (kx (lnS Try.underlying23 rfl) (kx (bSub rfl rfl) (kx (mvO rfl) (Rn (hN rfl hZ) fun e5 h7 => sN (sq (sq (Rg (kx (mvO h7) (kx (bLss rfl rfl) (Rn (hA h7 (hN rfl hZ)) fun e8 h10 h11 => sN ?_))))))))))))))))))
 clear h3 h7
 rcases ite_some h with ⟨hb12, h⟩ | ⟨hb12, h⟩
 ·refine cT h11 hb12 (sq (Rg (kx (mvO rfl) (Rn (hV (.int .i64 (-1)) rfl hZ) fun e13 h15 => sN (xx (sR ?_))))))
  clear h10 h11
  obtain rfl := si h
  exact eR (resT h15 res0) rfl
 refine cF h11 hb12 (xx (sN (sq (Rg (kx (mvO h10) (kx (mvO rfl) (Rn (hN rfl hZ) fun e16 h18 => sN (xx ?_))))))))
 clear h10 h11
 obtain rfl := si h
 exact eR (resT h18 res0) rfl
/-! ### loop.example/g01263/laws.szInt64S (f34) -/
noncomputable def laws_szInt64S (a1 : List Int) (a2 : Int) : Option Int :=
 if (decide ((IntKind.i64.wrap (a2 - (a1.length : Int))) < 0)) = true then
  some (-1)
 else
  some (IntKind.i64.wrap (a2 - (a1.length : Int)))
def laws_szInt64S_enc (r : Int) : AV := .int .i64 r
theorem laws_szInt64S_ok (a1 : List Int) (a2 : Int) (r : Int) (h : laws_szInt64S a1 a2 = some r) : Ev (fun k => CN k 34 [.sl none (a1.map (cI .i64)), .int .i64 a2] []) (fun p => rRes p.2 p.1 = laws_szInt64S_enc r) := by
 unfold laws_szInt64S at h
 refine Ev.enter (F := fun k => f34 (CN k) k) (fun k => callN_eq rfl Try.func34 rfl rfl rfl (by decide +kernel) (f34_eq _ _)) (sq (Rg (kx (mvO rfl) (Rn (hN rfl (hN rfl hZ)) fun e1 h3 h4 => sN (sq (Rg (kx (mvO h4) (kx (mvO h3) (kx (lnS Try.underlying22 rfl) (kx (bSub rfl rfl) (kx (mvO rfl) (Rn (hN rfl hZ) fun e5 h7 => sN (sq (sq (Rg (kx (mvO h7) (kx (bLss rfl rfl) (Rn (hA h7 (hN rfl hZ)) fun e8 h10 h11 => sN ?_))))))))))))))))))
 clear h3 h7
 rcases ite_some h with ⟨hb12, h⟩ | ⟨hb12, h⟩
 ·refine cT h11 hb12 (sq (Rg (kx (mvO rfl) (Rn (hV (.int .i64 (-1)) rfl hZ) fun e13 h15 => sN (xx (sR ?_))))))
  clear h10 h11
  obtain rfl := si h
  exact eR (resT h15 res0) rfl
 refine cF h11 hb12 (xx (sN (sq (Rg (kx (mvO h10) (kx (mvO rfl) (Rn (hN rfl hZ) fun e16 h18 => sN (xx ?_))))))))
 clear h10 h11
 obtain rfl := si h
 exact eR (resT h18 res0) rfl
/-! ### loop.example/g01263/laws.toInt64S (f32) -/
abbrev laws_toInt64S_b1_S := Int × (List Int)
abbrev laws_toInt64S_b1_R := (List Int)
def laws_toInt64S_b1_RS (a1 : List Int) (x4 : List Int) (i1_1 : Nat) (s : laws_toInt64S_b1_S) (e : Env) (M : Mem) : Prop := eget e 0 = .sl none (a1.map (cI .i64)) ∧ eget e 3 = .lsl i1_1 s.2.length 0 s.2.length ∧ eget e 4 = .int .i64 s.1 ∧ M[i1_1]? = some (.live ⟨.grow, 2, 1, s.2.map (cI .i64)⟩) ∧ s.2.length = x4.length
def laws_toInt64S_b1_RR (a1 : List Int) (x4 : List Int) (i1_1 : Nat) (g : laws_toInt64S_b1_R) (x : Ex) (e : Env) (M : Mem) : Prop := x = .ext 0 ∧ eget e 3 = .lsl i1_1 g.length 0 g.length ∧ M[i1_1]? = some (.live ⟨.grow, 2, 1, g.map (cI .i64)⟩) ∧ g.length = x4.length
noncomputable def laws_toInt64S_b1 (a1 : List Int) : laws_toInt64S_b1_S → Option (laws_toInt64S_b1_S ⊕ laws_toInt64S_b1_R) := fun (s1_1, s1_2) =>
 if (decide (s1_1 < (a1.length : Int))) = true then
  (rd a1 s1_1).bind fun x45 =>
  (rd s1_2 s1_1).bind fun x47 =>
  some (.inl ((IntKind.i64.wrap (s1_1 + 1)), (s1_2.set s1_1.toNat x45)))
 else
  some (.inr s1_2)
theorem laws_toInt64S_b1_ok (a1 : List Int) (x4 : List Int) (i1_1 : Nat) (s : laws_toInt64S_b1_S) (r : laws_toInt64S_b1_S ⊕ laws_toInt64S_b1_R) (h : laws_toInt64S_b1 a1 s = some r) (e : Env) (M : Mem) (hs : laws_toInt64S_b1_RS a1 x4 i1_1 s e M) : Ev (fun k => (f32_l3 (CN k) k (prune [0, 3, 4] e) M).bind fun q => some q) (bQ (laws_toInt64S_b1_RS a1 x4 i1_1) (laws_toInt64S_b1_RR a1 x4 i1_1) r) := by
 obtain ⟨s1_1, s1_2⟩ := s
 unfold laws_toInt64S_b1 at h
 obtain ⟨h30, h32, h34, o36, hl37⟩ := hs
 generalize he29 : prune [0, 3, 4] e = e28
 have h31 := envp he29.symm rfl h30
 have h33 := envp he29.symm rfl h32
 have h35 := envp he29.symm rfl h34
 refine sq (sq (Rg (kx (mvO h35) (kx (mvO h31) (kx (lnS Try.underlying22 rfl) (kx (bLss rfl rfl) (Rn (hV (.sl none (a1.map (cI .i64))) h31 (hV (.lsl i1_1 s1_2.length 0 s1_2.length) h33 (hV (.int .i64 s1_1) h35 (hN rfl hZ)))) fun e38 h40 h41 h42 h43 => sN ?_)))))))
 clear h31 h33 h35
 rcases ite_some h with ⟨hb44, h⟩ | ⟨hb44, h⟩
 ·obtain ⟨x45, hx46, h⟩ := bind_some h
  obtain ⟨x47, hx48, h⟩ := bind_some h
  refine cT h43 hb44 (xx (sN (sq (bl (Rg (kx (mvO h41) (kx (mvO h42) (kx (mvO h40) (kx (mvO h42) (kx (ixS rfl rfl hx46 (cI_fl _)) (kx (ldP rfl rfl) (kx (ixO rfl o36 rfl rfl (rd_get hx48).1 (rd_lt hx48).2) (kw (stR (u := x47) (u' := x45) rfl rfl o36 rfl (rz2 hx48) ⟨rfl, ble rfl⟩ rfl rfl) fun M49 hM50 => ?_)))))))))))))
  rw [Nat.zero_add] at hM50
  have o51 : M49[i1_1]? = some (.live ⟨.grow, 2, 1, (s1_2.set s1_1.toNat x45).map (cI .i64)⟩) := set_same hM50 o36
  have hx52 := rd_set (u' := x45) hx48
  refine Rn (hA h40 (hA h41 (hA h42 hZ))) fun e53 h55 h56 h57 => bN (sN (Rg (kx (mvO h57) (kx (bAdd rfl rfl) (kx (mvO rfl) (Rn (hA h55 (hA h56 (hN rfl hZ))) fun e58 h60 h61 h62 => ?_))))))
  clear h40 h41 h42 h43 h55 h56
  obtain rfl := si h
  exact qN ⟨h60, (lslL (L' := (s1_2.set s1_1.toNat x45).length) h61 (by simp [hl37])), h62, o51, (by first | rfl | simp [hl37])⟩
 refine cF h43 hb44 (xx (sE ?_))
 obtain rfl := si h
 exact qE ⟨rfl, h41, o36, (by first | rfl | simp [hl37])⟩
noncomputable def laws_toInt64S (a1 : List Int) : Option ((List Int)) :=
 (mkS 8 0 (a1.length : Int)).bind fun x4 =>
 (Lw (laws_toInt64S_b1 a1) (0, x4)).bind fun y68 =>
 some y68
def laws_toInt64S_enc (r : (List Int)) : AV := .sl (some 2) (r.map (cI .i64))
theorem laws_toInt64S_ok (a1 : List Int) (r : (List Int)) (h : laws_toInt64S a1 = some r) : Ev (fun k => CN k 32 [.sl none (a1.map (cI .i64))] []) (fun p => rRes p.2 p.1 = laws_toInt64S_enc r) := by
 unfold laws_toInt64S at h
 obtain ⟨x4, hx5, h⟩ := bind_some h
 refine Ev.enter (F := fun k => f32 (CN k) k) (fun k => callN_eq rfl Try.func32 rfl rfl rfl (by decide +kernel) (f32_eq _ _)) (sq (Rg (kx (mvO rfl) (Rn (hN rfl hZ) fun e1 h3 => sN (sq (Rg (kx (mvO h3) (kx (lnS Try.underlying22 rfl) (ku (mkO rfl rfl hx5 (c := (cI .i64)) zero2 (cI_fl _) (by decide)) fun M7 hM8 => ?_)))))))))
 have o9 : M7[([] : Mem).length]? = some (.live ⟨.grow, 2, 1, x4.map (cI .i64)⟩) := push_new hM8
 obtain ⟨y68, hr64, h⟩ := bind_some h
 refine kx (mvO rfl) (Rn (hA h3 (hV (.lsl ([] : Mem).length x4.length 0 x4.length) rfl hZ)) fun e10 h12 h13 => sN (sq (sq (Rg (kx (mvO rfl) (Rn (hA h12 (hA h13 (hV (.int .i64 0) rfl hZ))) fun e14 h16 h17 h18 => sN (bl (Ev.loop (RS := laws_toInt64S_b1_RS a1 x4 (([] : Mem).length)) (RR := laws_toInt64S_b1_RR a1 x4 (([] : Mem).length)) (fun s r h e M hs => laws_toInt64S_b1_ok a1 x4 (([] : Mem).length) s r h e M hs) hr64 ⟨h16, h17, h18, o9, rfl⟩ fun x e66 M67 hq65 => ?_))))))))
 clear h3 h12 h13
 obtain ⟨rfl, h69, o70, hl71⟩ := hq65
 refine bE (sN (sq (Rg (kx (mvO h69) (kx (mvO rfl) (Rn (hV (.lsl ([] : Mem).length y68.length 0 y68.length) rfl hZ) fun e72 h74 => sN (xx ?_)))))))
 clear h69
 obtain rfl := si h
 exact eR (resT h74 res0) (rr_row o70 rfl (cI_fl _))
/-! ### loop.example/g01263/impl.StateOn (f30) -/
noncomputable def impl_StateOn (a1 : Book) (a2 : List Deal) (a3 : Int) : Option ((Int × Int) ⊕ (Int × (List Int) × (List Tally))) :=
 (impl_dealsCode a1 a2).bind fun r12 =>
 if (r12 != 0) = true then
  some (.inl (0, r12))
 else
  (impl_isBookDay a3).bind fun r37 =>
  if r37 = true then
   (impl_stateOn a1 a2 a3).bind fun r => match r with
   | (.inl (r47, r48)) =>
    some (.inl (r47, r48))
   | (.inr (r56, r57, r58)) =>
    some (.inr (r56, r57, r58))
  else
   some (.inl (0, 2))
def impl_StateOn_enc (r : (Int × Int) ⊕ (Int × (List Int) × (List Tally))) : AV :=
  match r with
  | (.inl g) => .tup [.agg [.int .i64 g.1, .nils, .nils], .int .i64 g.2]
  | (.inr g) => .tup [.agg [.int .i64 g.1, .sl (some 2) (g.2.1.map (cI .i64)), .sl (some 75) (g.2.2.map Tally.c)], .int .i64 0]
theorem impl_StateOn_ok (a1 : Book) (a2 : List Deal) (a3 : Int) (r : (Int × Int) ⊕ (Int × (List Int) × (List Tally))) (h : impl_StateOn a1 a2 a3 = some r) : Ev (fun k => CN k 30 [.agg [.int .i64 a1.Day, .sl none (a1.Cash.map (cI .i64)), .sl none (a1.Tallies.map Tally.c)], .sl none (a2.map Deal.c), .int .i64 a3] []) (fun p => rRes p.2 p.1 = impl_StateOn_enc r) := by
 unfold impl_StateOn at h
 refine Ev.enter (F := fun k => f30 (CN k) k) (fun k => callN_eq rfl Try.func30 rfl rfl rfl (by decide +kernel) (f30_eq _ _)) (sq (Rg (kx (bxI rfl rfl ⟨rfl, rfl, by decide⟩) (ku (alO zero33) fun M2 hM3 => ?_))))
 have o4 : M2[([] : Mem).length]? = some (.live ⟨.box, 33, 3, [[.int .i64 0, .nils, .nils]]⟩) := push_new hM3
 obtain ⟨r12, hx11, h⟩ := bind_some h
 refine kx (mvO rfl) (Rn (hN rfl (hN rfl (hN rfl (hV (.loc ([] : Mem).length 1 0 0) rfl hZ)))) fun e5 h7 h8 h9 h10 => sN (sq (sq (Rg (kx (ldPA h9 rfl rfl) (kx (mvO h7) (kc (cl (v := .int .i64 r12) rfl (cns rfl (cns rfl rfl)) rfl (impl_dealsCode_ok a1 a2 _ hx11) nm) (kx (mvO rfl) (Rn (hA h7 (hA h8 (hA h9 (hA h10 (hN rfl hZ))))) fun e13 h15 h16 h17 h18 h19 => sN (sq (Rg (kx (mvO h19) (kx (bNeq rfl rfl) (Rn (hA h15 (hA h16 (hA h17 (hA h18 (hA h19 (hN rfl hZ)))))) fun e20 h22 h23 h24 h25 h26 h27 => sN ?_))))))))))))))
 clear h10 h7 h8 h9 h15 h16 h17 h18 h19
 rcases ite_some h with ⟨hb28, h⟩ | ⟨hb28, h⟩
 ·refine cT h27 hb28 (sq (Rg (kx (bldT zero33 rfl (fill0 rfl)) (kx (mvO h26) (kw (stOK h25 rfl o4 rfl rfl ⟨rfl, ble rfl⟩ rfl rfl) fun M29 hM30 => ?_)))))
  have o31 : M29[([] : Mem).length]? = some (.live ⟨.box, 33, 3, [[.int .i64 0, .nils, .nils]]⟩) := set_same hM30 o4
  refine kx (mvO rfl) (Rn (hA h25 (hN rfl hZ)) fun e32 h34 h35 => sN (xx (sR ?_)))
  clear h22 h23 h24 h25 h26 h27
  obtain rfl := si h
  exact eR (resC (ag := true) (sz := 3) ⟨by kernel_rfl, by kernel_rfl, by kernel_rfl⟩ (ldOA h34 o31 rfl rfl (ble rfl) rfl) (resT h35 res0)) rfl
 obtain ⟨r37, hx36, h⟩ := bind_some h
 refine cF h27 hb28 (xx (sN (sq (sq (Rg (kx (mvO h23) (kc (cl (v := .bool r37) rfl (cns rfl rfl) rfl (impl_isBookDay_ok a3 _ hx36) nm) (kx (uNot rfl) (Rn (hA h22 (hA h23 (hA h24 (hA h25 (hN rfl hZ))))) fun e38 h40 h41 h42 h43 h44 => sN ?_)))))))))
 clear h22 h23 h24 h25 h26 h27
 rcases ite_some h with ⟨hb45, h⟩ | ⟨hb45, h⟩
 ·obtain ⟨q66, hx46, h⟩ := bind_some h
  refine cF h44 (congrArg Bool.not hb45) (xx (sN (sq (Rg (kx (ldPA h42 rfl rfl) (kx (mvO h40) (kx (mvO h41) ?_)))))))
  rcases q66 with ⟨r47, r48⟩ | ⟨r56, r57, r58⟩
  ·refine kc (cl (v := .tup [.agg [.int .i64 r47, .nils, .nils], .int .i64 r48]) rfl (cns rfl (cns rfl (cns rfl rfl))) rfl (impl_stateOn_ok a1 a2 a3 _ hx46) nm) (kx (exT rfl rfl) (kx (exT rfl rfl) (kw (stOK h43 rfl o4 rfl rfl ⟨rfl, ble rfl⟩ rfl rfl) fun M49 hM50 => ?_)))
   have o51 : M49[([] : Mem).length]? = some (.live ⟨.box, 33, 3, [[.int .i64 r47, .nils, .nils]]⟩) := set_same hM50 o4
   refine kx (mvO rfl) (Rn (hA h43 (hN rfl hZ)) fun e52 h54 h55 => sN (xx ?_))
   clear h40 h41 h42 h43 h44
   obtain rfl := si h
   exact eR (resC (ag := true) (sz := 3) ⟨by kernel_rfl, by kernel_rfl, by kernel_rfl⟩ (ldOA h54 o51 rfl rfl (ble rfl) rfl) (resT h55 res0)) rfl
  refine kc (cl (v := .tup [.agg [.int .i64 r56, .sl (some 2) (r57.map (cI .i64)), .sl (some 75) (r58.map Tally.c)], .int .i64 0]) rfl (cns rfl (cns rfl (cns rfl rfl))) rfl (impl_stateOn_ok a1 a2 a3 _ hx46) nm) (kx (exT rfl rfl) (kx (exT rfl rfl) (kw (stOK h43 rfl o4 rfl rfl ⟨rfl, ble rfl⟩ rfl rfl) fun M59 hM60 => ?_)))
  have o61 : M59[([] : Mem).length]? = some (.live ⟨.box, 33, 3, [[.int .i64 r56, .sl (some 2) (r57.map (cI .i64)), .sl (some 75) (r58.map Tally.c)]]⟩) := set_same hM60 o4
  refine kx (mvO rfl) (Rn (hA h43 (hV (.int .i64 0) rfl hZ)) fun e62 h64 h65 => sN (xx ?_))
  clear h40 h41 h42 h43 h44
  obtain rfl := si h
  exact eR (resC (ag := true) (sz := 3) ⟨by kernel_rfl, by kernel_rfl, by kernel_rfl⟩ (ldOA h64 o61 rfl rfl (ble rfl) rfl) (resT h65 res0)) rfl
 refine cT h44 (congrArg Bool.not hb45) (sq (Rg (kx (bldT zero33 rfl (fill0 rfl)) (kw (stOK h43 rfl o4 rfl rfl ⟨rfl, ble rfl⟩ rfl rfl) fun M67 hM68 => ?_))))
 have o69 : M67[([] : Mem).length]? = some (.live ⟨.box, 33, 3, [[.int .i64 0, .nils, .nils]]⟩) := set_same hM68 o4
 refine kx (mvO rfl) (Rn (hA h43 (hV (.int .i64 2) rfl hZ)) fun e70 h72 h73 => sN (xx (sR ?_)))
 clear h40 h41 h42 h43 h44
 obtain rfl := si h
 exact eR (resC (ag := true) (sz := 3) ⟨by kernel_rfl, by kernel_rfl, by kernel_rfl⟩ (ldOA h72 o69 rfl rfl (ble rfl) rfl) (resT h73 res0)) rfl
/-! ### loop.example/g01263/spec.StateOn (f29) -/
noncomputable def spec_StateOn (a1 : Book) (a2 : List Deal) (a3 : Int) : Option (Int ⊕ (Int × (List Int) × (List Tally))) :=
 (spec_l07Asked a1 a2).bind fun r12 =>
 if (r12 != 0) = true then
  some (.inl r12)
 else
  (spec_l07Day a3).bind fun r37 =>
  if r37 = true then
   (spec_l07State a1 a2 a3).bind fun r => match r with
   | (.inl r47) =>
    some (.inl r47)
   | (.inr (r55, r56, r57)) =>
    some (.inr (r55, r56, r57))
  else
   some (.inl 2)
def spec_StateOn_enc (r : Int ⊕ (Int × (List Int) × (List Tally))) : AV :=
  match r with
  | (.inl g) => .tup [.agg [.int .i64 0, .nils, .nils], .int .i64 g]
  | (.inr g) => .tup [.agg [.int .i64 g.1, .sl none (g.2.1.map (cI .i64)), .sl none (g.2.2.map Tally.c)], .int .i64 0]
theorem spec_StateOn_ok (a1 : Book) (a2 : List Deal) (a3 : Int) (r : Int ⊕ (Int × (List Int) × (List Tally))) (h : spec_StateOn a1 a2 a3 = some r) : Ev (fun k => CN k 29 [.agg [.int .i64 a1.Day, .sl none (a1.Cash.map (cI .i64)), .sl none (a1.Tallies.map Tally.c)], .sl none (a2.map Deal.c), .int .i64 a3] []) (fun p => rRes p.2 p.1 = spec_StateOn_enc r) := by
 unfold spec_StateOn at h
 refine Ev.enter (F := fun k => f29 (CN k) k) (fun k => callN_eq rfl Try.func29 rfl rfl rfl (by decide +kernel) (f29_eq _ _)) (sq (Rg (kx (bxI rfl rfl ⟨rfl, rfl, by decide⟩) (ku (alO zero33) fun M2 hM3 => ?_))))
 have o4 : M2[([] : Mem).length]? = some (.live ⟨.box, 33, 3, [[.int .i64 0, .nils, .nils]]⟩) := push_new hM3
 obtain ⟨r12, hx11, h⟩ := bind_some h
 refine kx (mvO rfl) (Rn (hN rfl (hN rfl (hN rfl (hV (.loc ([] : Mem).length 1 0 0) rfl hZ)))) fun e5 h7 h8 h9 h10 => sN (sq (sq (Rg (kx (mvO h7) (kc (cl (v := .int .i64 r12) rfl (cns h9 (cns rfl rfl)) rfl (spec_l07Asked_ok a1 a2 _ hx11) nm) (kx (mvO rfl) (Rn (hA h7 (hA h8 (hA h9 (hA h10 (hN rfl hZ))))) fun e13 h15 h16 h17 h18 h19 => sN (sq (Rg (kx (mvO h19) (kx (bNeq rfl rfl) (Rn (hA h15 (hA h16 (hA h17 (hA h18 (hA h19 (hN rfl hZ)))))) fun e20 h22 h23 h24 h25 h26 h27 => sN ?_)))))))))))))
 clear h10 h7 h8 h9 h15 h16 h17 h18 h19
 rcases ite_some h with ⟨hb28, h⟩ | ⟨hb28, h⟩
 ·refine cT h27 hb28 (sq (Rg (kx (bldT zero33 rfl (fill0 rfl)) (kx (mvO h26) (kw (stO h25 rfl o4 rfl rfl ⟨rfl, ble rfl⟩ rfl rfl) fun M29 hM30 => ?_)))))
  have o31 : M29[([] : Mem).length]? = some (.live ⟨.box, 33, 3, [[.int .i64 0, .nils, .nils]]⟩) := set_same hM30 o4
  refine kx (mvO rfl) (Rn (hA h25 (hN rfl hZ)) fun e32 h34 h35 => sN (xx (sR ?_)))
  clear h22 h23 h24 h25 h26 h27
  obtain rfl := si h
  exact eR (resC (ag := true) (sz := 3) ⟨by kernel_rfl, by kernel_rfl, by kernel_rfl⟩ (ldOA h34 o31 rfl rfl (ble rfl) rfl) (resT h35 res0)) rfl
 obtain ⟨r37, hx36, h⟩ := bind_some h
 refine cF h27 hb28 (xx (sN (sq (sq (Rg (kx (mvO h23) (kc (cl (v := .bool r37) rfl (cns rfl rfl) rfl (spec_l07Day_ok a3 _ hx36) nm) (kx (uNot rfl) (Rn (hA h22 (hA h23 (hA h24 (hA h25 (hN rfl hZ))))) fun e38 h40 h41 h42 h43 h44 => sN ?_)))))))))
 clear h22 h23 h24 h25 h26 h27
 rcases ite_some h with ⟨hb45, h⟩ | ⟨hb45, h⟩
 ·obtain ⟨q65, hx46, h⟩ := bind_some h
  refine cF h44 (congrArg Bool.not hb45) (xx (sN (sq (Rg (kx (mvO h40) (kx (mvO h41) ?_))))))
  rcases q65 with r47 | ⟨r55, r56, r57⟩
  ·refine kc (cl (v := .tup [.agg [.int .i64 0, .nils, .nils], .int .i64 r47]) rfl (cns h42 (cns rfl (cns rfl rfl))) rfl (spec_l07State_ok a1 a2 a3 _ hx46) nm) (kx (exT rfl rfl) (kx (exT rfl rfl) (kw (stO h43 rfl o4 rfl rfl ⟨rfl, ble rfl⟩ rfl rfl) fun M48 hM49 => ?_)))
   have o50 : M48[([] : Mem).length]? = some (.live ⟨.box, 33, 3, [[.int .i64 0, .nils, .nils]]⟩) := set_same hM49 o4
   refine kx (mvO rfl) (Rn (hA h43 (hN rfl hZ)) fun e51 h53 h54 => sN (xx ?_))
   clear h40 h41 h42 h43 h44
   obtain rfl := si h
   exact eR (resC (ag := true) (sz := 3) ⟨by kernel_rfl, by kernel_rfl, by kernel_rfl⟩ (ldOA h53 o50 rfl rfl (ble rfl) rfl) (resT h54 res0)) rfl
  refine kc (cl (v := .tup [.agg [.int .i64 r55, .sl none (r56.map (cI .i64)), .sl none (r57.map Tally.c)], .int .i64 0]) rfl (cns h42 (cns rfl (cns rfl rfl))) rfl (spec_l07State_ok a1 a2 a3 _ hx46) nm) (kx (exT rfl rfl) (kx (exT rfl rfl) (kw (stO h43 rfl o4 rfl rfl ⟨rfl, ble rfl⟩ rfl rfl) fun M58 hM59 => ?_)))
  have o60 : M58[([] : Mem).length]? = some (.live ⟨.box, 33, 3, [[.int .i64 r55, .sl none (r56.map (cI .i64)), .sl none (r57.map Tally.c)]]⟩) := set_same hM59 o4
  refine kx (mvO rfl) (Rn (hA h43 (hV (.int .i64 0) rfl hZ)) fun e61 h63 h64 => sN (xx ?_))
  clear h40 h41 h42 h43 h44
  obtain rfl := si h
  exact eR (resC (ag := true) (sz := 3) ⟨by kernel_rfl, by kernel_rfl, by kernel_rfl⟩ (ldOA h63 o60 rfl rfl (ble rfl) rfl) (resT h64 res0)) rfl
 refine cT h44 (congrArg Bool.not hb45) (sq (Rg (kx (bldT zero33 rfl (fill0 rfl)) (kw (stO h43 rfl o4 rfl rfl ⟨rfl, ble rfl⟩ rfl rfl) fun M66 hM67 => ?_))))
 have o68 : M66[([] : Mem).length]? = some (.live ⟨.box, 33, 3, [[.int .i64 0, .nils, .nils]]⟩) := set_same hM67 o4
 refine kx (mvO rfl) (Rn (hA h43 (hV (.int .i64 2) rfl hZ)) fun e69 h71 h72 => sN (xx (sR ?_)))
 clear h40 h41 h42 h43 h44
 obtain rfl := si h
 exact eR (resC (ag := true) (sz := 3) ⟨by kernel_rfl, by kernel_rfl, by kernel_rfl⟩ (ldOA h71 o68 rfl rfl (ble rfl) rfl) (resT h72 res0)) rfl
/-! ### loop.example/g01263/laws.heldInt64S (f28) -/
abbrev laws_heldInt64S_b1_S := Int × Int
abbrev laws_heldInt64S_b1_R := Unit ⊕ Int
def laws_heldInt64S_b1_RS (a1 : List Int) (s : laws_heldInt64S_b1_S) (e : Env) (M : Mem) : Prop := eget e 0 = .sl none (a1.map (cI .i64)) ∧ eget e 1 = .int .i64 s.1 ∧ eget e 5 = .int .i64 s.2
def laws_heldInt64S_b1_RR (a1 : List Int) (r : laws_heldInt64S_b1_R) (x : Ex) (e : Env) (M : Mem) : Prop :=
  match r with
  | (.inl g) => x = .ret ∧ eget e 4 = .int .i64 (-1)
  | (.inr g) => x = .ext 0 ∧ eget e 1 = .int .i64 g
noncomputable def laws_heldInt64S_b1 (a1 : List Int) : laws_heldInt64S_b1_S → Option (laws_heldInt64S_b1_S ⊕ laws_heldInt64S_b1_R) := fun (s1_1, s1_2) =>
 if (decide (s1_2 < (a1.length : Int))) = true then
  (rd a1 s1_2).bind fun x33 =>
  if (x33 != s1_1) = true then
   some (.inr (.inl ()))
  else
   some (.inl ((IntKind.i64.wrap (s1_1 + 1)), (IntKind.i64.wrap (s1_2 + 1))))
 else
  some (.inr (.inr s1_1))
theorem laws_heldInt64S_b1_ok (a1 : List Int) (s : laws_heldInt64S_b1_S) (r : laws_heldInt64S_b1_S ⊕ laws_heldInt64S_b1_R) (h : laws_heldInt64S_b1 a1 s = some r) (e : Env) (M : Mem) (hs : laws_heldInt64S_b1_RS a1 s e M) : Ev (fun k => (f28_l2 (CN k) k (prune [0, 1, 5] e) M).bind fun q => some q) (bQ (laws_heldInt64S_b1_RS a1) (laws_heldInt64S_b1_RR a1) r) := by
 obtain ⟨s1_1, s1_2⟩ := s
 unfold laws_heldInt64S_b1 at h
 obtain ⟨h20, h22, h24⟩ := hs
 generalize he19 : prune [0, 1, 5] e = e18
 have h21 := envp he19.symm rfl h20
 have h23 := envp he19.symm rfl h22
 have h25 := envp he19.symm rfl h24
 refine sq (sq (Rg (kx (mvO h25) (kx (mvO h21) (kx (lnS Try.underlying22 rfl) (kx (bLss rfl rfl) (Rn (hV (.sl none (a1.map (cI .i64))) h21 (hV (.int .i64 s1_1) h23 (hV (.int .i64 s1_2) h25 (hN rfl hZ)))) fun e26 h28 h29 h30 h31 => sN ?_)))))))
 clear h21 h23 h25
 rcases ite_some h with ⟨hb32, h⟩ | ⟨hb32, h⟩
 ·obtain ⟨x33, hx34, h⟩ := bind_some h
  refine cT h31 hb32 (xx (sN (sq (bl (sq (sq (Rg (kx (mvO h28) (kx (mvO h30) (kx (ixS rfl rfl hx34 (cI_fl _)) (kx (ldP rfl rfl) (kx (mvO h29) (kx (bNeq rfl rfl) (Rn (hA h28 (hA h29 (hA h30 (hN rfl hZ)))) fun e35 h37 h38 h39 h40 => sN ?_))))))))))))))
  clear h28 h29 h30 h31
  rcases ite_some h with ⟨hb41, h⟩ | ⟨hb41, h⟩
  ·refine cT h40 hb41 (sq (Rg (kx (mvO rfl) (Rn (hV (.int .i64 (-1)) rfl hZ) fun e42 h44 => sN (xx (sR (bR (sR ?_))))))))
   clear h37 h38 h39 h40
   obtain rfl := si h
   exact qR ⟨rfl, h44⟩
  refine cF h40 hb41 (xx (sN (Rg (kx (mvO h38) (kx (bAdd rfl rfl) (kx (mvO rfl) (Rn (hA h37 (hN rfl (hA h39 hZ))) fun e45 h47 h48 h49 => bN (sN (Rg (kx (mvO h49) (kx (bAdd rfl rfl) (kx (mvO rfl) (Rn (hA h47 (hA h48 (hN rfl hZ))) fun e50 h52 h53 h54 => ?_)))))))))))))
  clear h37 h39 h40 h47 h48
  obtain rfl := si h
  exact qN ⟨h52, h53, h54⟩
 refine cF h31 hb32 (xx (sE ?_))
 obtain rfl := si h
 exact qE ⟨rfl, h29⟩
noncomputable def laws_heldInt64S (a1 : List Int) (a2 : Int) : Option Int :=
 (Lw (laws_heldInt64S_b1 a1) (a2, 0)).bind fun r => match r with
 | (.inl _) =>
  some (-1)
 | (.inr y63) =>
  some y63
def laws_heldInt64S_enc (r : Int) : AV := .int .i64 r
theorem laws_heldInt64S_ok (a1 : List Int) (a2 : Int) (r : Int) (h : laws_heldInt64S a1 a2 = some r) : Ev (fun k => CN k 28 [.sl none (a1.map (cI .i64)), .int .i64 a2] []) (fun p => rRes p.2 p.1 = laws_heldInt64S_enc r) := by
 unfold laws_heldInt64S at h
 obtain ⟨r55, hr56, h⟩ := bind_some h
 refine Ev.enter (F := fun k => f28 (CN k) k) (fun k => callN_eq rfl Try.func28 rfl rfl rfl (by decide +kernel) (f28_eq _ _)) (sq (Rg (kx (mvO rfl) (Rn (hN rfl (hN rfl hZ)) fun e1 h3 h4 => sN (sq (sq (Rg (kx (mvO rfl) (Rn (hA h3 (hA h4 (hV (.int .i64 0) rfl hZ))) fun e5 h7 h8 h9 => sN (bl ?_))))))))))
 clear h3 h4
 rcases r55 with _ | y63
 ·refine Ev.loop (RS := laws_heldInt64S_b1_RS a1) (RR := laws_heldInt64S_b1_RR a1) (fun s r h e M hs => laws_heldInt64S_b1_ok a1 s r h e M hs) hr56 ⟨h7, h8, h9⟩ fun x e58 M59 hq57 => ?_
  obtain ⟨rfl, h60⟩ := hq57
  refine bR (sR ?_)
  obtain rfl := si h
  exact eR (resT h60 res0) rfl
 refine Ev.loop (RS := laws_heldInt64S_b1_RS a1) (RR := laws_heldInt64S_b1_RR a1) (fun s r h e M hs => laws_heldInt64S_b1_ok a1 s r h e M hs) hr56 ⟨h7, h8, h9⟩ fun x e61 M62 hq57 => ?_
 obtain ⟨rfl, h64⟩ := hq57
 refine bE (sN (sq (Rg (kx (mvO h64) (kx (mvO rfl) (Rn (hN rfl hZ) fun e65 h67 => sN (xx ?_)))))))
 clear h64
 obtain rfl := si h
 exact eR (resT h67 res0) rfl
/-! ### loop.example/g01263/laws.eqInt64S (f26) -/
abbrev laws_eqInt64S_b1_S := Int
abbrev laws_eqInt64S_b1_R := Unit ⊕ Unit
def laws_eqInt64S_b1_RS (a1 : List Int) (a2 : List Int) (s : laws_eqInt64S_b1_S) (e : Env) (M : Mem) : Prop := eget e 0 = .sl none (a1.map (cI .i64)) ∧ eget e 1 = .sl none (a2.map (cI .i64)) ∧ eget e 5 = .int .i64 s
def laws_eqInt64S_b1_RR (a1 : List Int) (a2 : List Int) (r : laws_eqInt64S_b1_R) (x : Ex) (e : Env) (M : Mem) : Prop :=
  match r with
  | (.inl g) => x = .ret ∧ eget e 4 = .bool false
  | (.inr g) => x = .ext 0 ∧ True
noncomputable def laws_eqInt64S_b1 (a1 : List Int) (a2 : List Int) : laws_eqInt64S_b1_S → Option (laws_eqInt64S_b1_S ⊕ laws_eqInt64S_b1_R) := fun s1_1 =>
 if (decide (s1_1 < (a1.length : Int))) = true then
  (rd a1 s1_1).bind fun x42 =>
  (rd a2 s1_1).bind fun x44 =>
  if (x42 != x44) = true then
   some (.inr (.inl ()))
  else
   some (.inl (IntKind.i64.wrap (s1_1 + 1)))
 else
  some (.inr (.inr ()))
theorem laws_eqInt64S_b1_ok (a1 : List Int) (a2 : List Int) (s : laws_eqInt64S_b1_S) (r : laws_eqInt64S_b1_S ⊕ laws_eqInt64S_b1_R) (h : laws_eqInt64S_b1 a1 a2 s = some r) (e : Env) (M : Mem) (hs : laws_eqInt64S_b1_RS a1 a2 s e M) : Ev (fun k => (f26_l4 (CN k) k (prune [0, 1, 5] e) M).bind fun q => some q) (bQ (laws_eqInt64S_b1_RS a1 a2) (laws_eqInt64S_b1_RR a1 a2) r) := by
 revert h hs
 revert s
 intro s1_1 h hs
 unfold laws_eqInt64S_b1 at h
 obtain ⟨h29, h31, h33⟩ := hs
 generalize he28 : prune [0, 1, 5] e = e27
 have h30 := envp he28.symm rfl h29
 have h32 := envp he28.symm rfl h31
 have h34 := envp he28.symm rfl h33
 refine sq (sq (Rg (kx (mvO h34) (kx (mvO h30) (kx (lnS Try.underlying22 rfl) (kx (bLss rfl rfl) (Rn (hV (.sl none (a1.map (cI .i64))) h30 (hV (.sl none (a2.map (cI .i64))) h32 (hV (.int .i64 s1_1) h34 (hN rfl hZ)))) fun e35 h37 h38 h39 h40 => sN ?_)))))))
 clear h30 h32 h34
 rcases ite_some h with ⟨hb41, h⟩ | ⟨hb41, h⟩
 ·obtain ⟨x42, hx43, h⟩ := bind_some h
  obtain ⟨x44, hx45, h⟩ := bind_some h
  refine cT h40 hb41 (xx (sN (sq (bl (sq (Rd (kf (mvO h37) (kf (mvO h39) (kf (ixS rfl rfl hx43 (cI_fl _)) (kf (ldP rfl rfl) (kf (mvO h38) (kf (mvO h39) (kf (ixS rfl rfl hx45 (cI_fl _)) (kf (ldP rfl rfl) (kf (bNeq rfl rfl) (fZ (Rn (hA h37 (hA h38 (hA h39 (hN rfl hZ)))) fun e46 h48 h49 h50 h51 => sN ?_)))))))))))))))))
  clear h37 h38 h39 h40
  rcases ite_some h with ⟨hb52, h⟩ | ⟨hb52, h⟩
  ·refine cT h51 hb52 (sq (Rg (kx (mvO rfl) (Rn (hV (.bool false) rfl hZ) fun e53 h55 => sN (xx (bR (sR ?_)))))))
   clear h48 h49 h50 h51
   obtain rfl := si h
   exact qR ⟨rfl, h55⟩
  refine cF h51 hb52 (xx (bN (sN (Rg (kx (mvO h50) (kx (bAdd rfl rfl) (kx (mvO rfl) (Rn (hA h48 (hA h49 (hN rfl hZ))) fun e56 h58 h59 h60 => ?_))))))))
  clear h48 h49 h51
  obtain rfl := si h
  exact qN ⟨h58, h59, h60⟩
 refine cF h40 hb41 (xx (sE ?_))
 obtain rfl := si h
 exact qE ⟨rfl, trivial⟩
noncomputable def laws_eqInt64S (a1 : List Int) (a2 : List Int) : Option Bool :=
 if ((a1.length : Int) != (a2.length : Int)) = true then
  some false
 else
  (Lw (laws_eqInt64S_b1 a1 a2) 0).bind fun r => match r with
  | (.inl _) =>
   some false
  | (.inr _) =>
   some true
def laws_eqInt64S_enc (r : Bool) : AV := .bool r
theorem laws_eqInt64S_ok (a1 : List Int) (a2 : List Int) (r : Bool) (h : laws_eqInt64S a1 a2 = some r) : Ev (fun k => CN k 26 [.sl none (a1.map (cI .i64)), .sl none (a2.map (cI .i64))] []) (fun p => rRes p.2 p.1 = laws_eqInt64S_enc r) := by
 unfold laws_eqInt64S at h
 refine Ev.enter (F := fun k => f26 (CN k) k) (fun k => callN_eq rfl Try.func26 rfl rfl rfl (by decide +kernel) (f26_eq _ _)) (sq (Rg (kx (mvO rfl) (Rn (hN rfl (hN rfl hZ)) fun e1 h3 h4 => sN (sq (sq (Rg (kx (mvO h3) (kx (lnS Try.underlying22 rfl) (kx (mvO h4) (kx (lnS Try.underlying22 rfl) (kx (bNeq rfl rfl) (Rn (hA h3 (hA h4 (hN rfl hZ))) fun e5 h7 h8 h9 => sN ?_)))))))))))))
 clear h3 h4
 rcases ite_some h with ⟨hb10, h⟩ | ⟨hb10, h⟩
 ·refine cT h9 hb10 (sq (Rg (kx (mvO rfl) (Rn (hV (.bool false) rfl hZ) fun e11 h13 => sN (xx (sR ?_))))))
  clear h7 h8 h9
  obtain rfl := si h
  exact eR (resT h13 res0) rfl
 obtain ⟨r61, hr62, h⟩ := bind_some h
 refine cF h9 hb10 (xx (sN (sq (sq (Rg (kx (mvO rfl) (Rn (hA h7 (hA h8 (hV (.int .i64 0) rfl hZ))) fun e14 h16 h17 h18 => sN (bl ?_))))))))
 clear h7 h8 h9
 rcases r61 with _ | _
 ·refine Ev.loop (RS := laws_eqInt64S_b1_RS a1 a2) (RR := laws_eqInt64S_b1_RR a1 a2) (fun s r h e M hs => laws_eqInt64S_b1_ok a1 a2 s r h e M hs) hr62 ⟨h16, h17, h18⟩ fun x e64 M65 hq63 => ?_
  obtain ⟨rfl, h66⟩ := hq63
  refine bR (sR ?_)
  obtain rfl := si h
  exact eR (resT h66 res0) rfl
 refine Ev.loop (RS := laws_eqInt64S_b1_RS a1 a2) (RR := laws_eqInt64S_b1_RR a1 a2) (fun s r h e M hs => laws_eqInt64S_b1_ok a1 a2 s r h e M hs) hr62 ⟨h16, h17, h18⟩ fun x e67 M68 hq63 => ?_
 obtain ⟨rfl, _⟩ := hq63
 refine bE (sN (sq (Rg (kx (mvO rfl) (Rn (hV (.bool true) rfl hZ) fun e69 h71 => sN (xx ?_))))))
 obtain rfl := si h
 exact eR (resT h71 res0) rfl
/-! ### loop.example/g01263/laws.heldBook (f23) -/
noncomputable def laws_heldBook (a1 : Book) (a2 : Int) : Option Int :=
 (laws_heldInt64S a1.Cash a2).bind fun r6 =>
 if (decide (r6 < 0)) = true then
  some (-1)
 else
  (laws_heldTallyS a1.Tallies r6).bind fun r21 =>
  if (decide (r21 < 0)) = true then
   some (-1)
  else
   some r21
def laws_heldBook_enc (r : Int) : AV := .int .i64 r
theorem laws_heldBook_ok (a1 : Book) (a2 : Int) (r : Int) (h : laws_heldBook a1 a2 = some r) : Ev (fun k => CN k 23 [.agg [.int .i64 a1.Day, .sl none (a1.Cash.map (cI .i64)), .sl none (a1.Tallies.map Tally.c)], .int .i64 a2] []) (fun p => rRes p.2 p.1 = laws_heldBook_enc r) := by
 unfold laws_heldBook at h
 obtain ⟨r6, hx5, h⟩ := bind_some h
 refine Ev.enter (F := fun k => f23 (CN k) k) (fun k => callN_eq rfl Try.func23 rfl rfl rfl (by decide +kernel) (f23_eq _ _)) (sq (Rg (kx (bxI rfl rfl ⟨rfl, rfl, by decide⟩) (kx (mvO rfl) (Rn (hN rfl (hN rfl hZ)) fun e1 h3 h4 => sN (sq (Rg (kx (faP h4 ⟨ble rfl, blt rfl⟩ rfl) (kx (ldP rfl rfl) (kx (mvO h3) (kc (cl (v := .int .i64 r6) rfl (cns rfl (cns rfl rfl)) rfl (laws_heldInt64S_ok a1.Cash a2 _ hx5) nm) (kx (mvO rfl) (Rn (hN rfl (hA h4 hZ)) fun e7 h9 h10 => sN (sq (sq (Rg (kx (mvO h9) (kx (bLss rfl rfl) (Rn (hA h9 (hA h10 (hN rfl hZ))) fun e11 h13 h14 h15 => sN ?_)))))))))))))))))))
 clear h4 h10 h9
 rcases ite_some h with ⟨hb16, h⟩ | ⟨hb16, h⟩
 ·refine cT h15 hb16 (sq (Rg (kx (mvO rfl) (Rn (hV (.int .i64 (-1)) rfl hZ) fun e17 h19 => sN (xx (sR ?_))))))
  clear h13 h14 h15
  obtain rfl := si h
  exact eR (resT h19 res0) rfl
 obtain ⟨r21, hx20, h⟩ := bind_some h
 refine cF h15 hb16 (xx (sN (sq (Rg (kx (faP h14 ⟨ble rfl, blt rfl⟩ rfl) (kx (ldP rfl rfl) (kx (mvO h13) (kc (cl (v := .int .i64 r21) rfl (cns rfl (cns rfl rfl)) rfl (laws_heldTallyS_ok a1.Tallies r6 _ hx20) nm) (kx (mvO rfl) (Rn (hN rfl hZ) fun e22 h24 => sN (sq (sq (Rg (kx (mvO h24) (kx (bLss rfl rfl) (Rn (hA h24 (hN rfl hZ)) fun e25 h27 h28 => sN ?_))))))))))))))))
 clear h14 h15 h24
 rcases ite_some h with ⟨hb29, h⟩ | ⟨hb29, h⟩
 ·refine cT h28 hb29 (sq (Rg (kx (mvO rfl) (Rn (hV (.int .i64 (-1)) rfl hZ) fun e30 h32 => sN (xx (sR ?_))))))
  clear h27 h28
  obtain rfl := si h
  exact eR (resT h32 res0) rfl
 refine cF h28 hb29 (xx (sN (sq (Rg (kx (mvO h27) (kx (mvO rfl) (Rn (hN rfl hZ) fun e33 h35 => sN (xx ?_))))))))
 clear h27 h28
 obtain rfl := si h
 exact eR (resT h35 res0) rfl
/-! ### loop.example/g01263/laws.eqDealS (f16) -/
abbrev laws_eqDealS_b1_S := Int
abbrev laws_eqDealS_b1_R := Unit ⊕ Unit
def laws_eqDealS_b1_RS (a1 : List Deal) (a2 : List Deal) (s : laws_eqDealS_b1_S) (e : Env) (M : Mem) : Prop := eget e 0 = .sl none (a1.map Deal.c) ∧ eget e 1 = .sl none (a2.map Deal.c) ∧ eget e 5 = .int .i64 s
def laws_eqDealS_b1_RR (a1 : List Deal) (a2 : List Deal) (r : laws_eqDealS_b1_R) (x : Ex) (e : Env) (M : Mem) : Prop :=
  match r with
  | (.inl g) => x = .ret ∧ eget e 4 = .bool false
  | (.inr g) => x = .ext 0 ∧ True
noncomputable def laws_eqDealS_b1 (a1 : List Deal) (a2 : List Deal) : laws_eqDealS_b1_S → Option (laws_eqDealS_b1_S ⊕ laws_eqDealS_b1_R) := fun s1_1 =>
 if (decide (s1_1 < (a1.length : Int))) = true then
  (rd a1 s1_1).bind fun x42 =>
  (rd a2 s1_1).bind fun x44 =>
  (laws_eqDeal x42 x44).bind fun r47 =>
  if r47 = true then
   some (.inl (IntKind.i64.wrap (s1_1 + 1)))
  else
   some (.inr (.inl ()))
 else
  some (.inr (.inr ()))
theorem laws_eqDealS_b1_ok (a1 : List Deal) (a2 : List Deal) (s : laws_eqDealS_b1_S) (r : laws_eqDealS_b1_S ⊕ laws_eqDealS_b1_R) (h : laws_eqDealS_b1 a1 a2 s = some r) (e : Env) (M : Mem) (hs : laws_eqDealS_b1_RS a1 a2 s e M) : Ev (fun k => (f16_l4 (CN k) k (prune [0, 1, 5] e) M).bind fun q => some q) (bQ (laws_eqDealS_b1_RS a1 a2) (laws_eqDealS_b1_RR a1 a2) r) := by
 revert h hs
 revert s
 intro s1_1 h hs
 unfold laws_eqDealS_b1 at h
 obtain ⟨h29, h31, h33⟩ := hs
 generalize he28 : prune [0, 1, 5] e = e27
 have h30 := envp he28.symm rfl h29
 have h32 := envp he28.symm rfl h31
 have h34 := envp he28.symm rfl h33
 refine sq (sq (Rg (kx (mvO h34) (kx (mvO h30) (kx (lnS Try.underlying35 rfl) (kx (bLss rfl rfl) (Rn (hV (.sl none (a1.map Deal.c)) h30 (hV (.sl none (a2.map Deal.c)) h32 (hV (.int .i64 s1_1) h34 (hN rfl hZ)))) fun e35 h37 h38 h39 h40 => sN ?_)))))))
 clear h30 h32 h34
 rcases ite_some h with ⟨hb41, h⟩ | ⟨hb41, h⟩
 ·obtain ⟨x42, hx43, h⟩ := bind_some h
  obtain ⟨x44, hx45, h⟩ := bind_some h
  obtain ⟨r47, hx46, h⟩ := bind_some h
  refine cT h40 hb41 (xx (sN (sq (bl (sq (Rd (kf (mvO h37) (kf (mvO h39) (kf (ixS rfl rfl hx43 Deal.fl) (kf (ldPA rfl rfl rfl) (kf (mvO h38) (kf (mvO h39) (kf (ixS rfl rfl hx45 Deal.fl) (kf (ldPA rfl rfl rfl) (fc (cl (v := .bool r47) rfl (cns rfl (cns rfl rfl)) rfl (laws_eqDeal_ok x42 x44 _ hx46) nm) (kf (uNot rfl) (fZ (Rn (hA h37 (hA h38 (hA h39 (hN rfl hZ)))) fun e48 h50 h51 h52 h53 => sN ?_))))))))))))))))))
  clear h37 h38 h39 h40
  rcases ite_some h with ⟨hb54, h⟩ | ⟨hb54, h⟩
  ·refine cF h53 (congrArg Bool.not hb54) (xx (bN (sN (Rg (kx (mvO h52) (kx (bAdd rfl rfl) (kx (mvO rfl) (Rn (hA h50 (hA h51 (hN rfl hZ))) fun e55 h57 h58 h59 => ?_))))))))
   clear h50 h51 h53
   obtain rfl := si h
   exact qN ⟨h57, h58, h59⟩
  refine cT h53 (congrArg Bool.not hb54) (sq (Rg (kx (mvO rfl) (Rn (hV (.bool false) rfl hZ) fun e60 h62 => sN (xx (bR (sR ?_)))))))
  clear h50 h51 h52 h53
  obtain rfl := si h
  exact qR ⟨rfl, h62⟩
 refine cF h40 hb41 (xx (sE ?_))
 obtain rfl := si h
 exact qE ⟨rfl, trivial⟩
noncomputable def laws_eqDealS (a1 : List Deal) (a2 : List Deal) : Option Bool :=
 if ((a1.length : Int) != (a2.length : Int)) = true then
  some false
 else
  (Lw (laws_eqDealS_b1 a1 a2) 0).bind fun r => match r with
  | (.inl _) =>
   some false
  | (.inr _) =>
   some true
def laws_eqDealS_enc (r : Bool) : AV := .bool r
theorem laws_eqDealS_ok (a1 : List Deal) (a2 : List Deal) (r : Bool) (h : laws_eqDealS a1 a2 = some r) : Ev (fun k => CN k 16 [.sl none (a1.map Deal.c), .sl none (a2.map Deal.c)] []) (fun p => rRes p.2 p.1 = laws_eqDealS_enc r) := by
 unfold laws_eqDealS at h
 refine Ev.enter (F := fun k => f16 (CN k) k) (fun k => callN_eq rfl Try.func16 rfl rfl rfl (by decide +kernel) (f16_eq _ _)) (sq (Rg (kx (mvO rfl) (Rn (hN rfl (hN rfl hZ)) fun e1 h3 h4 => sN (sq (sq (Rg (kx (mvO h3) (kx (lnS Try.underlying35 rfl) (kx (mvO h4) (kx (lnS Try.underlying35 rfl) (kx (bNeq rfl rfl) (Rn (hA h3 (hA h4 (hN rfl hZ))) fun e5 h7 h8 h9 => sN ?_)))))))))))))
 clear h3 h4
 rcases ite_some h with ⟨hb10, h⟩ | ⟨hb10, h⟩
 ·refine cT h9 hb10 (sq (Rg (kx (mvO rfl) (Rn (hV (.bool false) rfl hZ) fun e11 h13 => sN (xx (sR ?_))))))
  clear h7 h8 h9
  obtain rfl := si h
  exact eR (resT h13 res0) rfl
 obtain ⟨r63, hr64, h⟩ := bind_some h
 refine cF h9 hb10 (xx (sN (sq (sq (Rg (kx (mvO rfl) (Rn (hA h7 (hA h8 (hV (.int .i64 0) rfl hZ))) fun e14 h16 h17 h18 => sN (bl ?_))))))))
 clear h7 h8 h9
 rcases r63 with _ | _
 ·refine Ev.loop (RS := laws_eqDealS_b1_RS a1 a2) (RR := laws_eqDealS_b1_RR a1 a2) (fun s r h e M hs => laws_eqDealS_b1_ok a1 a2 s r h e M hs) hr64 ⟨h16, h17, h18⟩ fun x e66 M67 hq65 => ?_
  obtain ⟨rfl, h68⟩ := hq65
  refine bR (sR ?_)
  obtain rfl := si h
  exact eR (resT h68 res0) rfl
 refine Ev.loop (RS := laws_eqDealS_b1_RS a1 a2) (RR := laws_eqDealS_b1_RR a1 a2) (fun s r h e M hs => laws_eqDealS_b1_ok a1 a2 s r h e M hs) hr64 ⟨h16, h17, h18⟩ fun x e69 M70 hq65 => ?_
 obtain ⟨rfl, _⟩ := hq65
 refine bE (sN (sq (Rg (kx (mvO rfl) (Rn (hV (.bool true) rfl hZ) fun e71 h73 => sN (xx ?_))))))
 obtain rfl := si h
 exact eR (resT h73 res0) rfl
/-! ### loop.example/g01263/laws.eqBook (f15) -/
noncomputable def laws_eqBook (a1 : Book) (a2 : Book) : Option Bool :=
 if (a1.Day != a2.Day) = true then
  some false
 else
  (laws_eqInt64S a1.Cash a2.Cash).bind fun r15 =>
  if r15 = true then
   (laws_eqTallyS a1.Tallies a2.Tallies).bind fun r23 =>
   if r23 = true then
    some true
   else
    some false
  else
   some false
def laws_eqBook_enc (r : Bool) : AV := .bool r
theorem laws_eqBook_ok (a1 : Book) (a2 : Book) (r : Bool) (h : laws_eqBook a1 a2 = some r) : Ev (fun k => CN k 15 [.agg [.int .i64 a1.Day, .sl none (a1.Cash.map (cI .i64)), .sl none (a1.Tallies.map Tally.c)], .agg [.int .i64 a2.Day, .sl none (a2.Cash.map (cI .i64)), .sl none (a2.Tallies.map Tally.c)]] []) (fun p => rRes p.2 p.1 = laws_eqBook_enc r) := by
 unfold laws_eqBook at h
 refine Ev.enter (F := fun k => f15 (CN k) k) (fun k => callN_eq rfl Try.func15 rfl rfl rfl (by decide +kernel) (f15_eq _ _)) (sq (Rg (kx (bxI rfl rfl ⟨rfl, rfl, by decide⟩) (kx (bxI rfl rfl ⟨rfl, rfl, by decide⟩) (kx (mvO rfl) (Rn (hN rfl (hN rfl hZ)) fun e1 h3 h4 => sN (sq (sq (Rg (kx (faP h3 ⟨ble rfl, blt rfl⟩ rfl) (kx (ldP rfl rfl) (kx (faP h4 ⟨ble rfl, blt rfl⟩ rfl) (kx (ldP rfl rfl) (kx (bNeq rfl rfl) (Rn (hA h3 (hA h4 (hN rfl hZ))) fun e5 h7 h8 h9 => sN ?_)))))))))))))))
 clear h3 h4
 rcases ite_some h with ⟨hb10, h⟩ | ⟨hb10, h⟩
 ·refine cT h9 hb10 (sq (Rg (kx (mvO rfl) (Rn (hV (.bool false) rfl hZ) fun e11 h13 => sN (xx (sR ?_))))))
  clear h7 h8 h9
  obtain rfl := si h
  exact eR (resT h13 res0) rfl
 obtain ⟨r15, hx14, h⟩ := bind_some h
 refine cF h9 hb10 (xx (sN (sq (sq (Rg (kx (faP h7 ⟨ble rfl, blt rfl⟩ rfl) (kx (ldP rfl rfl) (kx (faP h8 ⟨ble rfl, blt rfl⟩ rfl) (kx (ldP rfl rfl) (kc (cl (v := .bool r15) rfl (cns rfl (cns rfl rfl)) rfl (laws_eqInt64S_ok a1.Cash a2.Cash _ hx14) nm) (kx (uNot rfl) (Rn (hA h7 (hA h8 (hN rfl hZ))) fun e16 h18 h19 h20 => sN ?_))))))))))))
 clear h7 h8 h9
 rcases ite_some h with ⟨hb21, h⟩ | ⟨hb21, h⟩
 ·obtain ⟨r23, hx22, h⟩ := bind_some h
  refine cF h20 (congrArg Bool.not hb21) (xx (sN (sq (sq (Rg (kx (faP h18 ⟨ble rfl, blt rfl⟩ rfl) (kx (ldP rfl rfl) (kx (faP h19 ⟨ble rfl, blt rfl⟩ rfl) (kx (ldP rfl rfl) (kc (cl (v := .bool r23) rfl (cns rfl (cns rfl rfl)) rfl (laws_eqTallyS_ok a1.Tallies a2.Tallies _ hx22) nm) (kx (uNot rfl) (Rn (hN rfl hZ) fun e24 h26 => sN ?_))))))))))))
  clear h18 h19 h20
  rcases ite_some h with ⟨hb27, h⟩ | ⟨hb27, h⟩
  ·refine cF h26 (congrArg Bool.not hb27) (xx (sN (sq (Rg (kx (mvO rfl) (Rn (hV (.bool true) rfl hZ) fun e28 h30 => sN (xx ?_)))))))
   clear h26
   obtain rfl := si h
   exact eR (resT h30 res0) rfl
  refine cT h26 (congrArg Bool.not hb27) (sq (Rg (kx (mvO rfl) (Rn (hV (.bool false) rfl hZ) fun e31 h33 => sN (xx (sR ?_))))))
  clear h26
  obtain rfl := si h
  exact eR (resT h33 res0) rfl
 refine cT h20 (congrArg Bool.not hb21) (sq (Rg (kx (mvO rfl) (Rn (hV (.bool false) rfl hZ) fun e34 h36 => sN (xx (sR ?_))))))
 clear h18 h19 h20
 obtain rfl := si h
 exact eR (resT h36 res0) rfl
/-! ### loop.example/g01263/laws.toDealS (f13) -/
abbrev laws_toDealS_b1_S := Int × (List Deal)
abbrev laws_toDealS_b1_R := (List Deal)
def laws_toDealS_b1_RS (a1 : List Deal) (x4 : List Deal) (i1_1 : Nat) (s : laws_toDealS_b1_S) (e : Env) (M : Mem) : Prop := eget e 0 = .sl none (a1.map Deal.c) ∧ eget e 3 = .lsl i1_1 s.2.length 0 s.2.length ∧ eget e 4 = .int .i64 s.1 ∧ M[i1_1]? = some (.live ⟨.grow, 65, 6, s.2.map Deal.c⟩) ∧ s.2.length = x4.length
def laws_toDealS_b1_RR (a1 : List Deal) (x4 : List Deal) (i1_1 : Nat) (g : laws_toDealS_b1_R) (x : Ex) (e : Env) (M : Mem) : Prop := x = .ext 0 ∧ eget e 3 = .lsl i1_1 g.length 0 g.length ∧ M[i1_1]? = some (.live ⟨.grow, 65, 6, g.map Deal.c⟩) ∧ g.length = x4.length
noncomputable def laws_toDealS_b1 (a1 : List Deal) : laws_toDealS_b1_S → Option (laws_toDealS_b1_S ⊕ laws_toDealS_b1_R) := fun (s1_1, s1_2) =>
 if (decide (s1_1 < (a1.length : Int))) = true then
  (rd a1 s1_1).bind fun x45 =>
  (laws_toDeal x45).bind fun (r48, r49, r50, r51, r52, r53) =>
  (rd s1_2 s1_1).bind fun x54 =>
  some (.inl ((IntKind.i64.wrap (s1_1 + 1)), (s1_2.set s1_1.toNat (Deal.mk r48 r49 r50 r51 r52 r53))))
 else
  some (.inr s1_2)
theorem laws_toDealS_b1_ok (a1 : List Deal) (x4 : List Deal) (i1_1 : Nat) (s : laws_toDealS_b1_S) (r : laws_toDealS_b1_S ⊕ laws_toDealS_b1_R) (h : laws_toDealS_b1 a1 s = some r) (e : Env) (M : Mem) (hs : laws_toDealS_b1_RS a1 x4 i1_1 s e M) : Ev (fun k => (f13_l3 (CN k) k (prune [0, 3, 4] e) M).bind fun q => some q) (bQ (laws_toDealS_b1_RS a1 x4 i1_1) (laws_toDealS_b1_RR a1 x4 i1_1) r) := by
 obtain ⟨s1_1, s1_2⟩ := s
 unfold laws_toDealS_b1 at h
 obtain ⟨h30, h32, h34, o36, hl37⟩ := hs
 generalize he29 : prune [0, 3, 4] e = e28
 have h31 := envp he29.symm rfl h30
 have h33 := envp he29.symm rfl h32
 have h35 := envp he29.symm rfl h34
 refine sq (sq (Rg (kx (mvO h35) (kx (mvO h31) (kx (lnS Try.underlying26 rfl) (kx (bLss rfl rfl) (Rn (hV (.sl none (a1.map Deal.c)) h31 (hV (.lsl i1_1 s1_2.length 0 s1_2.length) h33 (hV (.int .i64 s1_1) h35 (hN rfl hZ)))) fun e38 h40 h41 h42 h43 => sN ?_)))))))
 clear h31 h33 h35
 rcases ite_some h with ⟨hb44, h⟩ | ⟨hb44, h⟩
 ·obtain ⟨x45, hx46, h⟩ := bind_some h
  obtain ⟨⟨r48, r49, r50, r51, r52, r53⟩, hx47, h⟩ := bind_some h
  obtain ⟨x54, hx55, h⟩ := bind_some h
  refine cT h43 hb44 (xx (sN (sq (bl (Rg (kx (mvO h41) (kx (mvO h42) (kx (mvO h40) (kx (mvO h42) (kx (ixS rfl rfl hx46 Deal.fl) (kx (ldPA rfl rfl rfl) (kc (cl (v := .agg [.int .i64 r48, .int .i8 r49, .int .i64 r50, .int .i64 r51, .int .i64 r52, .int .i64 r53]) rfl (cns rfl rfl) rfl (laws_toDeal_ok x45 _ hx47) nm) (kx (ixO rfl o36 rfl rfl (rd_get hx55).1 (rd_lt hx55).2) (kw (stR (u := x54) (u' := (Deal.mk r48 r49 r50 r51 r52 r53)) rfl rfl o36 rfl (rz2 hx55) ⟨rfl, ble rfl⟩ rfl rfl) fun M56 hM57 => ?_))))))))))))))
  rw [Nat.zero_add] at hM57
  have o58 : M56[i1_1]? = some (.live ⟨.grow, 65, 6, (s1_2.set s1_1.toNat (Deal.mk r48 r49 r50 r51 r52 r53)).map Deal.c⟩) := set_same hM57 o36
  have hx59 := rd_set (u' := (Deal.mk r48 r49 r50 r51 r52 r53)) hx55
  refine Rn (hA h40 (hA h41 (hA h42 hZ))) fun e60 h62 h63 h64 => bN (sN (Rg (kx (mvO h64) (kx (bAdd rfl rfl) (kx (mvO rfl) (Rn (hA h62 (hA h63 (hN rfl hZ))) fun e65 h67 h68 h69 => ?_))))))
  clear h40 h41 h42 h43 h62 h63
  obtain rfl := si h
  exact qN ⟨h67, (lslL (L' := (s1_2.set s1_1.toNat (Deal.mk r48 r49 r50 r51 r52 r53)).length) h68 (by simp [hl37])), h69, o58, (by first | rfl | simp [hl37])⟩
 refine cF h43 hb44 (xx (sE ?_))
 obtain rfl := si h
 exact qE ⟨rfl, h41, o36, (by first | rfl | simp [hl37])⟩
noncomputable def laws_toDealS (a1 : List Deal) : Option ((List Deal)) :=
 (mkS 48 (Deal.mk 0 0 0 0 0 0) (a1.length : Int)).bind fun x4 =>
 (Lw (laws_toDealS_b1 a1) (0, x4)).bind fun y75 =>
 some y75
def laws_toDealS_enc (r : (List Deal)) : AV := .sl (some 65) (r.map Deal.c)
theorem laws_toDealS_ok (a1 : List Deal) (r : (List Deal)) (h : laws_toDealS a1 = some r) : Ev (fun k => CN k 13 [.sl none (a1.map Deal.c)] []) (fun p => rRes p.2 p.1 = laws_toDealS_enc r) := by
 unfold laws_toDealS at h
 obtain ⟨x4, hx5, h⟩ := bind_some h
 refine Ev.enter (F := fun k => f13 (CN k) k) (fun k => callN_eq rfl Try.func13 rfl rfl rfl (by decide +kernel) (f13_eq _ _)) (sq (Rg (kx (mvO rfl) (Rn (hN rfl hZ) fun e1 h3 => sN (sq (Rg (kx (mvO h3) (kx (lnS Try.underlying26 rfl) (ku (mkO rfl rfl hx5 (c := Deal.c) zero65 Deal.fl (by decide)) fun M7 hM8 => ?_)))))))))
 have o9 : M7[([] : Mem).length]? = some (.live ⟨.grow, 65, 6, x4.map Deal.c⟩) := push_new hM8
 obtain ⟨y75, hr71, h⟩ := bind_some h
 refine kx (mvO rfl) (Rn (hA h3 (hV (.lsl ([] : Mem).length x4.length 0 x4.length) rfl hZ)) fun e10 h12 h13 => sN (sq (sq (Rg (kx (mvO rfl) (Rn (hA h12 (hA h13 (hV (.int .i64 0) rfl hZ))) fun e14 h16 h17 h18 => sN (bl (Ev.loop (RS := laws_toDealS_b1_RS a1 x4 (([] : Mem).length)) (RR := laws_toDealS_b1_RR a1 x4 (([] : Mem).length)) (fun s r h e M hs => laws_toDealS_b1_ok a1 x4 (([] : Mem).length) s r h e M hs) hr71 ⟨h16, h17, h18, o9, rfl⟩ fun x e73 M74 hq72 => ?_))))))))
 clear h3 h12 h13
 obtain ⟨rfl, h76, o77, hl78⟩ := hq72
 refine bE (sN (sq (Rg (kx (mvO h76) (kx (mvO rfl) (Rn (hV (.lsl ([] : Mem).length y75.length 0 y75.length) rfl hZ) fun e79 h81 => sN (xx ?_)))))))
 clear h76
 obtain rfl := si h
 exact eR (resT h81 res0) (rr_row o77 rfl Deal.fl)
/-! ### loop.example/g01263/laws.toBook (f12) -/
noncomputable def laws_toBook (a1 : Book) : Option (Int × (List Int) × (List Tally)) :=
 (laws_toInt64S a1.Cash).bind fun r30 =>
 (laws_toTallyS a1.Tallies).bind fun r41 =>
 some (a1.Day, r30, r41)
def laws_toBook_enc (r : Int × (List Int) × (List Tally)) : AV := .agg [.int .i64 r.1, .sl (some 2) (r.2.1.map (cI .i64)), .sl (some 75) (r.2.2.map Tally.c)]
theorem laws_toBook_ok (a1 : Book) (r : Int × (List Int) × (List Tally)) (h : laws_toBook a1 = some r) : Ev (fun k => CN k 12 [.agg [.int .i64 a1.Day, .sl none (a1.Cash.map (cI .i64)), .sl none (a1.Tallies.map Tally.c)]] []) (fun p => rRes p.2 p.1 = laws_toBook_enc r) := by
 unfold laws_toBook at h
 refine Ev.enter (F := fun k => f12 (CN k) k) (fun k => callN_eq rfl Try.func12 rfl rfl rfl (by decide +kernel) (f12_eq _ _)) (sq (Rg (kx (bxI rfl rfl ⟨rfl, rfl, by decide⟩) (ku (alO zero33) fun M2 hM3 => ?_))))
 have o4 : M2[([] : Mem).length]? = some (.live ⟨.box, 33, 3, [[.int .i64 0, .nils, .nils]]⟩) := push_new hM3
 refine Rn (hN rfl (hV (.loc ([] : Mem).length 1 0 0) rfl hZ)) fun e5 h7 h8 => sN (sq (Rg (ku (alO zero33) fun M10 hM11 => ?_)))
 have o12 := push_old hM11 o4
 have ne13 := ne_new o4
 have o14 : M10[M2.length]? = some (.live ⟨.box, 33, 3, [[.int .i64 0, .nils, .nils]]⟩) := push_new hM11
 refine Rn (hA h7 (hA h8 (hV (.loc M2.length 1 0 0) rfl hZ))) fun e15 h17 h18 h19 => sN (sq (Rg (kx (faP h17 ⟨ble rfl, blt rfl⟩ rfl) (kx (ldP rfl rfl) (kx (faO h19 o14 rfl) (kw (stO rfl rfl o14 rfl rfl ⟨rfl, ble rfl⟩ rfl rfl) fun M20 hM21 => ?_))))))
 clear h7 h8
 have o22 := set_ne hM21 ne13 o12
 have o23 : M20[M2.length]? = some (.live ⟨.box, 33, 3, [[.int .i64 a1.Day, .nils, .nils]]⟩) := set_same hM21 o14
 obtain ⟨r30, hx29, h⟩ := bind_some h
 refine Rn (hA h17 (hA h18 (hA h19 hZ))) fun e24 h26 h27 h28 => sN (sq (Rg (kx (faP h26 ⟨ble rfl, blt rfl⟩ rfl) (kx (ldP rfl rfl) (kc (cl (v := .sl (some 2) (r30.map (cI .i64))) rfl (cns rfl rfl) rfl (laws_toInt64S_ok a1.Cash _ hx29) nm) (kx (faO h28 o23 rfl) (kw (stOK rfl rfl o23 rfl rfl ⟨rfl, ble rfl⟩ rfl rfl) fun M31 hM32 => ?_)))))))
 clear h17 h18 h19
 have o33 := set_ne hM32 ne13 o22
 have o34 : M31[M2.length]? = some (.live ⟨.box, 33, 3, [[.int .i64 a1.Day, .sl (some 2) (r30.map (cI .i64)), .nils]]⟩) := set_same hM32 o23
 obtain ⟨r41, hx40, h⟩ := bind_some h
 refine Rn (hA h26 (hA h27 (hA h28 hZ))) fun e35 h37 h38 h39 => sN (sq (Rg (kx (faP h37 ⟨ble rfl, blt rfl⟩ rfl) (kx (ldP rfl rfl) (kc (cl (v := .sl (some 75) (r41.map Tally.c)) rfl (cns rfl rfl) rfl (laws_toTallyS_ok a1.Tallies _ hx40) nm) (kx (faO h39 o34 rfl) (kw (stOK rfl rfl o34 rfl rfl ⟨rfl, ble rfl⟩ rfl rfl) fun M42 hM43 => ?_)))))))
 clear h26 h27 h28
 have o44 := set_ne hM43 ne13 o33
 have o45 : M42[M2.length]? = some (.live ⟨.box, 33, 3, [[.int .i64 a1.Day, .sl (some 2) (r30.map (cI .i64)), .sl (some 75) (r41.map Tally.c)]]⟩) := set_same hM43 o34
 refine Rn (hA h38 (hA h39 hZ)) fun e46 h48 h49 => sN (sq (Rg (kx (ldOA h49 o45 rfl rfl (ble rfl) rfl) (kw (stOK h48 rfl o44 rfl rfl ⟨rfl, ble rfl⟩ rfl rfl) fun M50 hM51 => ?_))))
 clear h37 h38 h39
 have o52 : M50[([] : Mem).length]? = some (.live ⟨.box, 33, 3, [[.int .i64 a1.Day, .sl (some 2) (r30.map (cI .i64)), .sl (some 75) (r41.map Tally.c)]]⟩) := set_same hM51 o44
 have o53 := set_ne hM51 (Ne.symm ne13) o45
 refine Rn (hA h48 hZ) fun e54 h56 => sN (xx ?_)
 clear h48 h49
 obtain rfl := si h
 exact eR (resC (ag := true) (sz := 3) ⟨by kernel_rfl, by kernel_rfl, by kernel_rfl⟩ (ldOA h56 o52 rfl rfl (ble rfl) rfl) res0) rfl
/-! ### loop.example/g01263/laws.szDealS (f10) -/
noncomputable def laws_szDealS (a1 : List Deal) (a2 : Int) : Option Int :=
 if (decide ((IntKind.i64.wrap (a2 - (a1.length : Int))) < 0)) = true then
  some (-1)
 else
  some (IntKind.i64.wrap (a2 - (a1.length : Int)))
def laws_szDealS_enc (r : Int) : AV := .int .i64 r
theorem laws_szDealS_ok (a1 : List Deal) (a2 : Int) (r : Int) (h : laws_szDealS a1 a2 = some r) : Ev (fun k => CN k 10 [.sl none (a1.map Deal.c), .int .i64 a2] []) (fun p => rRes p.2 p.1 = laws_szDealS_enc r) := by
 unfold laws_szDealS at h
 refine Ev.enter (F := fun k => f10 (CN k) k) (fun k => callN_eq rfl Try.func10 rfl rfl rfl (by decide +kernel) (f10_eq _ _)) (sq (Rg (kx (mvO rfl) (Rn (hN rfl (hN rfl hZ)) fun e1 h3 h4 => sN (sq (Rg (kx (mvO h4) (kx (mvO h3) (kx (lnS Try.underlying26 rfl) (kx (bSub rfl rfl) (kx (mvO rfl) (Rn (hN rfl hZ) fun e5 h7 => sN (sq (sq (Rg (kx (mvO h7) (kx (bLss rfl rfl) (Rn (hA h7 (hN rfl hZ)) fun e8 h10 h11 => sN ?_))))))))))))))))))
 clear h3 h7
 rcases ite_some h with ⟨hb12, h⟩ | ⟨hb12, h⟩
 ·refine cT h11 hb12 (sq (Rg (kx (mvO rfl) (Rn (hV (.int .i64 (-1)) rfl hZ) fun e13 h15 => sN (xx (sR ?_))))))
  clear h10 h11
  obtain rfl := si h
  exact eR (resT h15 res0) rfl
 refine cF h11 hb12 (xx (sN (sq (Rg (kx (mvO h10) (kx (mvO rfl) (Rn (hN rfl hZ) fun e16 h18 => sN (xx ?_))))))))
 clear h10 h11
 obtain rfl := si h
 exact eR (resT h18 res0) rfl
/-! ### loop.example/g01263/laws.szBook (f9) -/
noncomputable def laws_szBook (a1 : Book) (a2 : Int) : Option Int :=
 (laws_szInt64S a1.Cash a2).bind fun r6 =>
 if (decide (r6 < 0)) = true then
  some (-1)
 else
  (laws_szTallyS a1.Tallies r6).bind fun r21 =>
  if (decide (r21 < 0)) = true then
   some (-1)
  else
   some r21
def laws_szBook_enc (r : Int) : AV := .int .i64 r
theorem laws_szBook_ok (a1 : Book) (a2 : Int) (r : Int) (h : laws_szBook a1 a2 = some r) : Ev (fun k => CN k 9 [.agg [.int .i64 a1.Day, .sl none (a1.Cash.map (cI .i64)), .sl none (a1.Tallies.map Tally.c)], .int .i64 a2] []) (fun p => rRes p.2 p.1 = laws_szBook_enc r) := by
 unfold laws_szBook at h
 obtain ⟨r6, hx5, h⟩ := bind_some h
 refine Ev.enter (F := fun k => f9 (CN k) k) (fun k => callN_eq rfl Try.func9 rfl rfl rfl (by decide +kernel) (f9_eq _ _)) (sq (Rg (kx (bxI rfl rfl ⟨rfl, rfl, by decide⟩) (kx (mvO rfl) (Rn (hN rfl (hN rfl hZ)) fun e1 h3 h4 => sN (sq (Rg (kx (faP h4 ⟨ble rfl, blt rfl⟩ rfl) (kx (ldP rfl rfl) (kx (mvO h3) (kc (cl (v := .int .i64 r6) rfl (cns rfl (cns rfl rfl)) rfl (laws_szInt64S_ok a1.Cash a2 _ hx5) nm) (kx (mvO rfl) (Rn (hN rfl (hA h4 hZ)) fun e7 h9 h10 => sN (sq (sq (Rg (kx (mvO h9) (kx (bLss rfl rfl) (Rn (hA h9 (hA h10 (hN rfl hZ))) fun e11 h13 h14 h15 => sN ?_)))))))))))))))))))
 clear h4 h10 h9
 rcases ite_some h with ⟨hb16, h⟩ | ⟨hb16, h⟩
 ·refine cT h15 hb16 (sq (Rg (kx (mvO rfl) (Rn (hV (.int .i64 (-1)) rfl hZ) fun e17 h19 => sN (xx (sR ?_))))))
  clear h13 h14 h15
  obtain rfl := si h
  exact eR (resT h19 res0) rfl
 obtain ⟨r21, hx20, h⟩ := bind_some h
 refine cF h15 hb16 (xx (sN (sq (Rg (kx (faP h14 ⟨ble rfl, blt rfl⟩ rfl) (kx (ldP rfl rfl) (kx (mvO h13) (kc (cl (v := .int .i64 r21) rfl (cns rfl (cns rfl rfl)) rfl (laws_szTallyS_ok a1.Tallies r6 _ hx20) nm) (kx (mvO rfl) (Rn (hN rfl hZ) fun e22 h24 => sN (sq (sq (Rg (kx (mvO h24) (kx (bLss rfl rfl) (Rn (hA h24 (hN rfl hZ)) fun e25 h27 h28 => sN ?_))))))))))))))))
 clear h14 h15 h24
 rcases ite_some h with ⟨hb29, h⟩ | ⟨hb29, h⟩
 ·refine cT h28 hb29 (sq (Rg (kx (mvO rfl) (Rn (hV (.int .i64 (-1)) rfl hZ) fun e30 h32 => sN (xx (sR ?_))))))
  clear h27 h28
  obtain rfl := si h
  exact eR (resT h32 res0) rfl
 refine cF h28 hb29 (xx (sN (sq (Rg (kx (mvO h27) (kx (mvO rfl) (Rn (hN rfl hZ) fun e33 h35 => sN (xx ?_))))))))
 clear h27 h28
 obtain rfl := si h
 exact eR (resT h35 res0) rfl
/-! ### loop.example/g01263/laws.markInt64S (f27) -/
abbrev laws_markInt64S_l_b1_S := Int × Int × (List Int)
abbrev laws_markInt64S_l_b1_R := Int × (List Int)
def laws_markInt64S_l_b1_RS (a1 : List Int) (j1 : Nat) (M0 : Mem) (s : laws_markInt64S_l_b1_S) (e : Env) (M : Mem) : Prop := eget e 0 = .lsl j1 s.2.2.length 0 s.2.2.length ∧ eget e 1 = .int .i64 s.1 ∧ eget e 5 = .int .i64 s.2.1 ∧ M[j1]? = some (.live ⟨.grow, 2, 1, s.2.2.map (cI .i64)⟩) ∧ Fr [j1] M0 M ∧ s.2.2.length = a1.length
def laws_markInt64S_l_b1_RR (a1 : List Int) (j1 : Nat) (M0 : Mem) (g : laws_markInt64S_l_b1_R) (x : Ex) (e : Env) (M : Mem) : Prop := x = .ext 0 ∧ eget e 1 = .int .i64 g.1 ∧ M[j1]? = some (.live ⟨.grow, 2, 1, g.2.map (cI .i64)⟩) ∧ Fr [j1] M0 M ∧ g.2.length = a1.length
noncomputable def laws_markInt64S_l_b1 : laws_markInt64S_l_b1_S → Option (laws_markInt64S_l_b1_S ⊕ laws_markInt64S_l_b1_R) := fun (s1_1, s1_2, s1_3) =>
 if (decide (s1_2 < (s1_3.length : Int))) = true then
  (rd s1_3 s1_2).bind fun x38 =>
  some (.inl ((IntKind.i64.wrap (s1_1 + 1)), (IntKind.i64.wrap (s1_2 + 1)), (s1_3.set s1_2.toNat s1_1)))
 else
  some (.inr (s1_1, s1_3))
theorem laws_markInt64S_l_b1_ok (a1 : List Int) (j1 : Nat) (M0 : Mem) (s : laws_markInt64S_l_b1_S) (r : laws_markInt64S_l_b1_S ⊕ laws_markInt64S_l_b1_R) (h : laws_markInt64S_l_b1 s = some r) (e : Env) (M : Mem) (hs : laws_markInt64S_l_b1_RS a1 j1 M0 s e M) : Ev (fun k => (f27_l2 (CN k) k (prune [0, 1, 5] e) M).bind fun q => some q) (bQ (laws_markInt64S_l_b1_RS a1 j1 M0) (laws_markInt64S_l_b1_RR a1 j1 M0) r) := by
 obtain ⟨s1_1, s1_2, s1_3⟩ := s
 unfold laws_markInt64S_l_b1 at h
 obtain ⟨h22, h24, h26, o28, fr29, hl30⟩ := hs
 generalize he21 : prune [0, 1, 5] e = e20
 have h23 := envp he21.symm rfl h22
 have h25 := envp he21.symm rfl h24
 have h27 := envp he21.symm rfl h26
 refine sq (sq (Rg (kx (mvO h27) (kx (mvO h23) (kx (lnL Try.underlying22 rfl o28 (by simp [hl30])) (kx (bLss rfl rfl) (Rn (hV (.lsl j1 s1_3.length 0 s1_3.length) h23 (hV (.int .i64 s1_1) h25 (hV (.int .i64 s1_2) h27 (hN rfl hZ)))) fun e31 h33 h34 h35 h36 => sN ?_)))))))
 clear h23 h25 h27
 rcases ite_some h with ⟨hb37, h⟩ | ⟨hb37, h⟩
 ·obtain ⟨x38, hx39, h⟩ := bind_some h
  refine cT h36 hb37 (xx (sN (sq (bl (sq (Rg (kx (mvO h33) (kx (mvO h35) (kx (mvO h34) (kx (ixO rfl o28 rfl rfl (rd_get hx39).1 (rd_lt hx39).2) (kw (stR (u := x38) (u' := s1_1) rfl rfl o28 rfl (rz2 hx39) ⟨rfl, ble rfl⟩ rfl rfl) fun M40 hM41 => ?_)))))))))))
  rw [Nat.zero_add] at hM41
  have o42 : M40[j1]? = some (.live ⟨.grow, 2, 1, (s1_3.set s1_2.toNat s1_1).map (cI .i64)⟩) := set_same hM41 o28
  have fr43 := Fr.setIn fr29 hM41 (by simp)
  have hx44 := rd_set (u' := s1_1) hx39
  refine Rn (hA h33 (hA h34 (hA h35 hZ))) fun e45 h47 h48 h49 => sN (Rg (kx (mvO h48) (kx (bAdd rfl rfl) (kx (mvO rfl) (Rn (hA h47 (hN rfl (hA h49 hZ))) fun e50 h52 h53 h54 => bN (sN (Rg (kx (mvO h54) (kx (bAdd rfl rfl) (kx (mvO rfl) (Rn (hA h52 (hA h53 (hN rfl hZ))) fun e55 h57 h58 h59 => ?_)))))))))))
  clear h33 h34 h35 h36 h47 h49 h52 h53
  obtain rfl := si h
  exact qN ⟨(lslL (L' := (s1_3.set s1_2.toNat s1_1).length) h57 (by simp [hl30])), h58, h59, o42, fr43, (by first | rfl | simp [hl30])⟩
 refine cF h36 hb37 (xx (sE ?_))
 obtain rfl := si h
 exact qE ⟨rfl, h34, o28, fr29, (by first | rfl | simp [hl30])⟩
noncomputable def laws_markInt64S_l (a1 : List Int) (a2 : Int) : Option (Int × (List Int)) :=
 (Lw (laws_markInt64S_l_b1) (a2, 0, a1)).bind fun (y65, y66) =>
 some (y65, y66)
def laws_markInt64S_l_Q (a1 : List Int) (a2 : Int) (j1 : Nat) (M0 : Mem) (r : Int × (List Int)) (p : AV × Mem) : Prop := p.1 = .int .i64 r.1 ∧ p.2[j1]? = some (.live ⟨.grow, 2, 1, r.2.map (cI .i64)⟩) ∧ Fr [j1] M0 p.2 ∧ r.2.length = a1.length
theorem laws_markInt64S_l_ok (a1 : List Int) (a2 : Int) (j1 : Nat) (M0 : Mem) (oP1 : M0[j1]? = some (.live ⟨.grow, 2, 1, a1.map (cI .i64)⟩)) (r : Int × (List Int)) (h : laws_markInt64S_l a1 a2 = some r) : Ev (fun k => CN k 27 [.lsl j1 a1.length 0 a1.length, .int .i64 a2] M0) (laws_markInt64S_l_Q a1 a2 j1 M0 r) := by
 unfold laws_markInt64S_l at h
 have fr0 : Fr [j1] M0 M0 := Fr.refl
 obtain ⟨⟨y65, y66⟩, hr61, h⟩ := bind_some h
 refine Ev.enter (F := fun k => f27 (CN k) k) (fun k => callN_eq rfl Try.func27 rfl rfl rfl (by decide +kernel) (f27_eq _ _)) (sq (Rg (kx (mvO rfl) (Rn (hV (.lsl j1 a1.length 0 a1.length) rfl (hN rfl hZ)) fun e1 h3 h4 => sN (sq (sq (Rg (kx (mvO rfl) (Rn (hA h3 (hA h4 (hV (.int .i64 0) rfl hZ))) fun e5 h7 h8 h9 => sN (bl (Ev.loop (RS := laws_markInt64S_l_b1_RS a1 j1 M0) (RR := laws_markInt64S_l_b1_RR a1 j1 M0) (fun s r h e M hs => laws_markInt64S_l_b1_ok a1 j1 M0 s r h e M hs) hr61 ⟨h7, h8, h9, oP1, fr0, rfl⟩ fun x e63 M64 hq62 => ?_)))))))))))
 clear h3 h4
 obtain ⟨rfl, h67, o68, fr69, hl70⟩ := hq62
 refine bE (sN (sq (Rg (kx (mvO h67) (kx (mvO rfl) (Rn (hN rfl hZ) fun e71 h73 => sN (xx ?_)))))))
 clear h67
 obtain rfl := si h
 exact eR (resT h73 res0) ⟨rfl, o68, fr69, (by first | rfl | simp [hl70])⟩
/-! ### loop.example/g01263/laws.markTallyS (f47) -/
abbrev laws_markTallyS_l_b1_S := Int × Int × (List Tally)
abbrev laws_markTallyS_l_b1_R := Int × (List Tally)
def laws_markTallyS_l_b1_RS (a1 : List Tally) (j1 : Nat) (M0 : Mem) (s : laws_markTallyS_l_b1_S) (e : Env) (M : Mem) : Prop := eget e 0 = .lsl j1 s.2.2.length 0 s.2.2.length ∧ eget e 1 = .int .i64 s.1 ∧ eget e 5 = .int .i64 s.2.1 ∧ M[j1]? = some (.live ⟨.grow, 75, 5, s.2.2.map Tally.c⟩) ∧ Fr [j1] M0 M ∧ s.2.2.length = a1.length
def laws_markTallyS_l_b1_RR (a1 : List Tally) (j1 : Nat) (M0 : Mem) (g : laws_markTallyS_l_b1_R) (x : Ex) (e : Env) (M : Mem) : Prop := x = .ext 0 ∧ eget e 1 = .int .i64 g.1 ∧ M[j1]? = some (.live ⟨.grow, 75, 5, g.2.map Tally.c⟩) ∧ Fr [j1] M0 M ∧ g.2.length = a1.length
noncomputable def laws_markTallyS_l_b1 : laws_markTallyS_l_b1_S → Option (laws_markTallyS_l_b1_S ⊕ laws_markTallyS_l_b1_R) := fun (s1_1, s1_2, s1_3) =>
 if (decide (s1_2 < (s1_3.length : Int))) = true then
  (rd s1_3 s1_2).bind fun x38 =>
  (rd (s1_3.set s1_2.toNat (Tally.mk s1_1 x38.Holder x38.Cut x38.Amount x38.Left)) s1_2).bind fun x55 =>
  (rd ((s1_3.set s1_2.toNat (Tally.mk s1_1 x38.Holder x38.Cut x38.Amount x38.Left)).set s1_2.toNat (Tally.mk x55.Debtor (IntKind.i64.wrap (s1_1 + 1)) x55.Cut x55.Amount x55.Left)) s1_2).bind fun x72 =>
  (rd (((s1_3.set s1_2.toNat (Tally.mk s1_1 x38.Holder x38.Cut x38.Amount x38.Left)).set s1_2.toNat (Tally.mk x55.Debtor (IntKind.i64.wrap (s1_1 + 1)) x55.Cut x55.Amount x55.Left)).set s1_2.toNat (Tally.mk x72.Debtor x72.Holder (IntKind.i64.wrap ((IntKind.i64.wrap (s1_1 + 1)) + 1)) x72.Amount x72.Left)) s1_2).bind fun x89 =>
  (rd ((((s1_3.set s1_2.toNat (Tally.mk s1_1 x38.Holder x38.Cut x38.Amount x38.Left)).set s1_2.toNat (Tally.mk x55.Debtor (IntKind.i64.wrap (s1_1 + 1)) x55.Cut x55.Amount x55.Left)).set s1_2.toNat (Tally.mk x72.Debtor x72.Holder (IntKind.i64.wrap ((IntKind.i64.wrap (s1_1 + 1)) + 1)) x72.Amount x72.Left)).set s1_2.toNat (Tally.mk x89.Debtor x89.Holder x89.Cut (IntKind.i64.wrap ((IntKind.i64.wrap ((IntKind.i64.wrap (s1_1 + 1)) + 1)) + 1)) x89.Left)) s1_2).bind fun x106 =>
  some (.inl ((IntKind.i64.wrap ((IntKind.i64.wrap ((IntKind.i64.wrap ((IntKind.i64.wrap ((IntKind.i64.wrap (s1_1 + 1)) + 1)) + 1)) + 1)) + 1)), (IntKind.i64.wrap (s1_2 + 1)), (((((s1_3.set s1_2.toNat (Tally.mk s1_1 x38.Holder x38.Cut x38.Amount x38.Left)).set s1_2.toNat (Tally.mk x55.Debtor (IntKind.i64.wrap (s1_1 + 1)) x55.Cut x55.Amount x55.Left)).set s1_2.toNat (Tally.mk x72.Debtor x72.Holder (IntKind.i64.wrap ((IntKind.i64.wrap (s1_1 + 1)) + 1)) x72.Amount x72.Left)).set s1_2.toNat (Tally.mk x89.Debtor x89.Holder x89.Cut (IntKind.i64.wrap ((IntKind.i64.wrap ((IntKind.i64.wrap (s1_1 + 1)) + 1)) + 1)) x89.Left)).set s1_2.toNat (Tally.mk x106.Debtor x106.Holder x106.Cut x106.Amount (IntKind.i64.wrap ((IntKind.i64.wrap ((IntKind.i64.wrap ((IntKind.i64.wrap (s1_1 + 1)) + 1)) + 1)) + 1))))))
 else
  some (.inr (s1_1, s1_3))
theorem laws_markTallyS_l_b1_ok (a1 : List Tally) (j1 : Nat) (M0 : Mem) (s : laws_markTallyS_l_b1_S) (r : laws_markTallyS_l_b1_S ⊕ laws_markTallyS_l_b1_R) (h : laws_markTallyS_l_b1 s = some r) (e : Env) (M : Mem) (hs : laws_markTallyS_l_b1_RS a1 j1 M0 s e M) : Ev (fun k => (f47_l2 (CN k) k (prune [0, 1, 5] e) M).bind fun q => some q) (bQ (laws_markTallyS_l_b1_RS a1 j1 M0) (laws_markTallyS_l_b1_RR a1 j1 M0) r) := by
 obtain ⟨s1_1, s1_2, s1_3⟩ := s
 unfold laws_markTallyS_l_b1 at h
 obtain ⟨h22, h24, h26, o28, fr29, hl30⟩ := hs
 generalize he21 : prune [0, 1, 5] e = e20
 have h23 := envp he21.symm rfl h22
 have h25 := envp he21.symm rfl h24
 have h27 := envp he21.symm rfl h26
 refine sq (sq (Rg (kx (mvO h27) (kx (mvO h23) (kx (lnL Try.underlying31 rfl o28 (by simp [hl30])) (kx (bLss rfl rfl) (Rn (hV (.lsl j1 s1_3.length 0 s1_3.length) h23 (hV (.int .i64 s1_1) h25 (hV (.int .i64 s1_2) h27 (hN rfl hZ)))) fun e31 h33 h34 h35 h36 => sN ?_)))))))
 clear h23 h25 h27
 rcases ite_some h with ⟨hb37, h⟩ | ⟨hb37, h⟩
 ·obtain ⟨x38, hx39, h⟩ := bind_some h
  refine cT h36 hb37 (xx (sN (sq (bl (sq (Rg (kx (mvO h33) (kx (mvO h35) (kx (mvO h34) (kx (ixO rfl o28 rfl rfl (rd_get hx39).1 (rd_lt hx39).2) (kx (faO rfl o28 (by simp [hl30])) (kw (stR (u := x38) (u' := (Tally.mk s1_1 x38.Holder x38.Cut x38.Amount x38.Left)) rfl rfl o28 rfl (rz2 hx39) ⟨rfl, ble rfl⟩ rfl rfl) fun M40 hM41 => ?_))))))))))))
  rw [Nat.zero_add] at hM41
  have o42 : M40[j1]? = some (.live ⟨.grow, 75, 5, (s1_3.set s1_2.toNat (Tally.mk s1_1 x38.Holder x38.Cut x38.Amount x38.Left)).map Tally.c⟩) := set_same hM41 o28
  have fr43 := Fr.setIn fr29 hM41 (by simp)
  have hx44 := rd_set (u' := (Tally.mk s1_1 x38.Holder x38.Cut x38.Amount x38.Left)) hx39
  obtain ⟨x55, hx56, h⟩ := bind_some h
  refine Rn (hA h33 (hA h34 (hA h35 hZ))) fun e45 h47 h48 h49 => sN (sq (Rg (kx (mvO h48) (kx (bAdd rfl rfl) (kx (mvO rfl) (Rn (hA h47 (hN rfl (hA h49 hZ))) fun e50 h52 h53 h54 => sN (sq (Rg (kx (mvO (lslL (L' := (s1_3.set s1_2.toNat (Tally.mk s1_1 x38.Holder x38.Cut x38.Amount x38.Left)).length) h52 (by simp [hl30]))) (kx (mvO h54) (kx (mvO h53) (kx (ixO rfl o42 rfl rfl (rd_get hx56).1 (rd_lt hx56).2) (kx (faO rfl o42 (by simp [hl30])) (kw (stR (u := x55) (u' := (Tally.mk x55.Debtor (IntKind.i64.wrap (s1_1 + 1)) x55.Cut x55.Amount x55.Left)) rfl rfl o42 rfl (rz2 hx56) ⟨rfl, ble rfl⟩ rfl rfl) fun M57 hM58 => ?_))))))))))))))
  clear h33 h34 h35 h36 h47 h49
  rw [Nat.zero_add] at hM58
  have o59 : M57[j1]? = some (.live ⟨.grow, 75, 5, ((s1_3.set s1_2.toNat (Tally.mk s1_1 x38.Holder x38.Cut x38.Amount x38.Left)).set s1_2.toNat (Tally.mk x55.Debtor (IntKind.i64.wrap (s1_1 + 1)) x55.Cut x55.Amount x55.Left)).map Tally.c⟩) := set_same hM58 o42
  have fr60 := Fr.setIn fr43 hM58 (by simp)
  have hx61 := rd_set (u' := (Tally.mk x55.Debtor (IntKind.i64.wrap (s1_1 + 1)) x55.Cut x55.Amount x55.Left)) hx56
  obtain ⟨x72, hx73, h⟩ := bind_some h
  refine Rn (hA h52 (hA h53 (hA h54 hZ))) fun e62 h64 h65 h66 => sN (sq (Rg (kx (mvO h65) (kx (bAdd rfl rfl) (kx (mvO rfl) (Rn (hA h64 (hN rfl (hA h66 hZ))) fun e67 h69 h70 h71 => sN (sq (Rg (kx (mvO (lslL (L' := ((s1_3.set s1_2.toNat (Tally.mk s1_1 x38.Holder x38.Cut x38.Amount x38.Left)).set s1_2.toNat (Tally.mk x55.Debtor (IntKind.i64.wrap (s1_1 + 1)) x55.Cut x55.Amount x55.Left)).length) h69 (by simp [hl30]))) (kx (mvO h71) (kx (mvO h70) (kx (ixO rfl o59 rfl rfl (rd_get hx73).1 (rd_lt hx73).2) (kx (faO rfl o59 (by simp [hl30])) (kw (stR (u := x72) (u' := (Tally.mk x72.Debtor x72.Holder (IntKind.i64.wrap ((IntKind.i64.wrap (s1_1 + 1)) + 1)) x72.Amount x72.Left)) rfl rfl o59 rfl (rz2 hx73) ⟨rfl, ble rfl⟩ rfl rfl) fun M74 hM75 => ?_))))))))))))))
  clear h52 h53 h54 h64 h66
  rw [Nat.zero_add] at hM75
  have o76 : M74[j1]? = some (.live ⟨.grow, 75, 5, (((s1_3.set s1_2.toNat (Tally.mk s1_1 x38.Holder x38.Cut x38.Amount x38.Left)).set s1_2.toNat (Tally.mk x55.Debtor (IntKind.i64.wrap (s1_1 + 1)) x55.Cut x55.Amount x55.Left)).set s1_2.toNat (Tally.mk x72.Debtor x72.Holder (IntKind.i64.wrap ((IntKind.i64.wrap (s1_1 + 1)) + 1)) x72.Amount x72.Left)).map Tally.c⟩) := set_same hM75 o59
  have fr77 := Fr.setIn fr60 hM75 (by simp)
  have hx78 := rd_set (u' := (Tally.mk x72.Debtor x72.Holder (IntKind.i64.wrap ((IntKind.i64.wrap (s1_1 + 1)) + 1)) x72.Amount x72.Left)) hx73
  obtain ⟨x89, hx90, h⟩ := bind_some h
  refine Rn (hA h69 (hA h70 (hA h71 hZ))) fun e79 h81 h82 h83 => sN (sq (Rg (kx (mvO h82) (kx (bAdd rfl rfl) (kx (mvO rfl) (Rn (hA h81 (hN rfl (hA h83 hZ))) fun e84 h86 h87 h88 => sN (sq (Rg (kx (mvO (lslL (L' := (((s1_3.set s1_2.toNat (Tally.mk s1_1 x38.Holder x38.Cut x38.Amount x38.Left)).set s1_2.toNat (Tally.mk x55.Debtor (IntKind.i64.wrap (s1_1 + 1)) x55.Cut x55.Amount x55.Left)).set s1_2.toNat (Tally.mk x72.Debtor x72.Holder (IntKind.i64.wrap ((IntKind.i64.wrap (s1_1 + 1)) + 1)) x72.Amount x72.Left)).length) h86 (by simp [hl30]))) (kx (mvO h88) (kx (mvO h87) (kx (ixO rfl o76 rfl rfl (rd_get hx90).1 (rd_lt hx90).2) (kx (faO rfl o76 (by simp [hl30])) (kw (stR (u := x89) (u' := (Tally.mk x89.Debtor x89.Holder x89.Cut (IntKind.i64.wrap ((IntKind.i64.wrap ((IntKind.i64.wrap (s1_1 + 1)) + 1)) + 1)) x89.Left)) rfl rfl o76 rfl (rz2 hx90) ⟨rfl, ble rfl⟩ rfl rfl) fun M91 hM92 => ?_))))))))))))))
  clear h69 h70 h71 h81 h83
  rw [Nat.zero_add] at hM92
  have o93 : M91[j1]? = some (.live ⟨.grow, 75, 5, ((((s1_3.set s1_2.toNat (Tally.mk s1_1 x38.Holder x38.Cut x38.Amount x38.Left)).set s1_2.toNat (Tally.mk x55.Debtor (IntKind.i64.wrap (s1_1 + 1)) x55.Cut x55.Amount x55.Left)).set s1_2.toNat (Tally.mk x72.Debtor x72.Holder (IntKind.i64.wrap ((IntKind.i64.wrap (s1_1 + 1)) + 1)) x72.Amount x72.Left)).set s1_2.toNat (Tally.mk x89.Debtor x89.Holder x89.Cut (IntKind.i64.wrap ((IntKind.i64.wrap ((IntKind.i64.wrap (s1_1 + 1)) + 1)) + 1)) x89.Left)).map Tally.c⟩) := set_same hM92 o76
  have fr94 := Fr.setIn fr77 hM92 (by simp)
  have hx95 := rd_set (u' := (Tally.mk x89.Debtor x89.Holder x89.Cut (IntKind.i64.wrap ((IntKind.i64.wrap ((IntKind.i64.wrap (s1_1 + 1)) + 1)) + 1)) x89.Left)) hx90
  obtain ⟨x106, hx107, h⟩ := bind_some h
  refine Rn (hA h86 (hA h87 (hA h88 hZ))) fun e96 h98 h99 h100 => sN (sq (Rg (kx (mvO h99) (kx (bAdd rfl rfl) (kx (mvO rfl) (Rn (hA h98 (hN rfl (hA h100 hZ))) fun e101 h103 h104 h105 => sN (sq (Rg (kx (mvO (lslL (L' := ((((s1_3.set s1_2.toNat (Tally.mk s1_1 x38.Holder x38.Cut x38.Amount x38.Left)).set s1_2.toNat (Tally.mk x55.Debtor (IntKind.i64.wrap (s1_1 + 1)) x55.Cut x55.Amount x55.Left)).set s1_2.toNat (Tally.mk x72.Debtor x72.Holder (IntKind.i64.wrap ((IntKind.i64.wrap (s1_1 + 1)) + 1)) x72.Amount x72.Left)).set s1_2.toNat (Tally.mk x89.Debtor x89.Holder x89.Cut (IntKind.i64.wrap ((IntKind.i64.wrap ((IntKind.i64.wrap (s1_1 + 1)) + 1)) + 1)) x89.Left)).length) h103 (by simp [hl30]))) (kx (mvO h105) (kx (mvO h104) (kx (ixO rfl o93 rfl rfl (rd_get hx107).1 (rd_lt hx107).2) (kx (faO rfl o93 (by simp [hl30])) (kw (stR (u := x106) (u' := (Tally.mk x106.Debtor x106.Holder x106.Cut x106.Amount (IntKind.i64.wrap ((IntKind.i64.wrap ((IntKind.i64.wrap ((IntKind.i64.wrap (s1_1 + 1)) + 1)) + 1)) + 1)))) rfl rfl o93 rfl (rz2 hx107) ⟨rfl, ble rfl⟩ rfl rfl) fun M108 hM109 => ?_))))))))))))))
  clear h86 h87 h88 h100 h98
  rw [Nat.zero_add] at hM109
  have o110 : M108[j1]? = some (.live ⟨.grow, 75, 5, (((((s1_3.set s1_2.toNat (Tally.mk s1_1 x38.Holder x38.Cut x38.Amount x38.Left)).set s1_2.toNat (Tally.mk x55.Debtor (IntKind.i64.wrap (s1_1 + 1)) x55.Cut x55.Amount x55.Left)).set s1_2.toNat (Tally.mk x72.Debtor x72.Holder (IntKind.i64.wrap ((IntKind.i64.wrap (s1_1 + 1)) + 1)) x72.Amount x72.Left)).set s1_2.toNat (Tally.mk x89.Debtor x89.Holder x89.Cut (IntKind.i64.wrap ((IntKind.i64.wrap ((IntKind.i64.wrap (s1_1 + 1)) + 1)) + 1)) x89.Left)).set s1_2.toNat (Tally.mk x106.Debtor x106.Holder x106.Cut x106.Amount (IntKind.i64.wrap ((IntKind.i64.wrap ((IntKind.i64.wrap ((IntKind.i64.wrap (s1_1 + 1)) + 1)) + 1)) + 1)))).map Tally.c⟩) := set_same hM109 o93
  have fr111 := Fr.setIn fr94 hM109 (by simp)
  have hx112 := rd_set (u' := (Tally.mk x106.Debtor x106.Holder x106.Cut x106.Amount (IntKind.i64.wrap ((IntKind.i64.wrap ((IntKind.i64.wrap ((IntKind.i64.wrap (s1_1 + 1)) + 1)) + 1)) + 1)))) hx107
  refine Rn (hA h103 (hA h104 (hA h105 hZ))) fun e113 h115 h116 h117 => sN (Rg (kx (mvO h116) (kx (bAdd rfl rfl) (kx (mvO rfl) (Rn (hA h115 (hN rfl (hA h117 hZ))) fun e118 h120 h121 h122 => bN (sN (Rg (kx (mvO h122) (kx (bAdd rfl rfl) (kx (mvO rfl) (Rn (hA h120 (hA h121 (hN rfl hZ))) fun e123 h125 h126 h127 => ?_)))))))))))
  clear h103 h104 h105 h115 h117 h120 h121
  obtain rfl := si h
  exact qN ⟨(lslL (L' := (((((s1_3.set s1_2.toNat (Tally.mk s1_1 x38.Holder x38.Cut x38.Amount x38.Left)).set s1_2.toNat (Tally.mk x55.Debtor (IntKind.i64.wrap (s1_1 + 1)) x55.Cut x55.Amount x55.Left)).set s1_2.toNat (Tally.mk x72.Debtor x72.Holder (IntKind.i64.wrap ((IntKind.i64.wrap (s1_1 + 1)) + 1)) x72.Amount x72.Left)).set s1_2.toNat (Tally.mk x89.Debtor x89.Holder x89.Cut (IntKind.i64.wrap ((IntKind.i64.wrap ((IntKind.i64.wrap (s1_1 + 1)) + 1)) + 1)) x89.Left)).set s1_2.toNat (Tally.mk x106.Debtor x106.Holder x106.Cut x106.Amount (IntKind.i64.wrap ((IntKind.i64.wrap ((IntKind.i64.wrap ((IntKind.i64.wrap (s1_1 + 1)) + 1)) + 1)) + 1)))).length) h125 (by simp [hl30])), h126, h127, o110, fr111, (by first | rfl | simp [hl30])⟩
 refine cF h36 hb37 (xx (sE ?_))
 obtain rfl := si h
 exact qE ⟨rfl, h34, o28, fr29, (by first | rfl | simp [hl30])⟩
noncomputable def laws_markTallyS_l (a1 : List Tally) (a2 : Int) : Option (Int × (List Tally)) :=
 (Lw (laws_markTallyS_l_b1) (a2, 0, a1)).bind fun (y133, y134) =>
 some (y133, y134)
def laws_markTallyS_l_Q (a1 : List Tally) (a2 : Int) (j1 : Nat) (M0 : Mem) (r : Int × (List Tally)) (p : AV × Mem) : Prop := p.1 = .int .i64 r.1 ∧ p.2[j1]? = some (.live ⟨.grow, 75, 5, r.2.map Tally.c⟩) ∧ Fr [j1] M0 p.2 ∧ r.2.length = a1.length
theorem laws_markTallyS_l_ok (a1 : List Tally) (a2 : Int) (j1 : Nat) (M0 : Mem) (oP1 : M0[j1]? = some (.live ⟨.grow, 75, 5, a1.map Tally.c⟩)) (r : Int × (List Tally)) (h : laws_markTallyS_l a1 a2 = some r) : Ev (fun k => CN k 47 [.lsl j1 a1.length 0 a1.length, .int .i64 a2] M0) (laws_markTallyS_l_Q a1 a2 j1 M0 r) := by
 unfold laws_markTallyS_l at h
 have fr0 : Fr [j1] M0 M0 := Fr.refl
 obtain ⟨⟨y133, y134⟩, hr129, h⟩ := bind_some h
 refine Ev.enter (F := fun k => f47 (CN k) k) (fun k => callN_eq rfl Try.func47 rfl rfl rfl (by decide +kernel) (f47_eq _ _)) (sq (Rg (kx (mvO rfl) (Rn (hV (.lsl j1 a1.length 0 a1.length) rfl (hN rfl hZ)) fun e1 h3 h4 => sN (sq (sq (Rg (kx (mvO rfl) (Rn (hA h3 (hA h4 (hV (.int .i64 0) rfl hZ))) fun e5 h7 h8 h9 => sN (bl (Ev.loop (RS := laws_markTallyS_l_b1_RS a1 j1 M0) (RR := laws_markTallyS_l_b1_RR a1 j1 M0) (fun s r h e M hs => laws_markTallyS_l_b1_ok a1 j1 M0 s r h e M hs) hr129 ⟨h7, h8, h9, oP1, fr0, rfl⟩ fun x e131 M132 hq130 => ?_)))))))))))
 clear h3 h4
 obtain ⟨rfl, h135, o136, fr137, hl138⟩ := hq130
 refine bE (sN (sq (Rg (kx (mvO h135) (kx (mvO rfl) (Rn (hN rfl hZ) fun e139 h141 => sN (xx ?_)))))))
 clear h135
 obtain rfl := si h
 exact eR (resT h141 res0) ⟨rfl, o136, fr137, (by first | rfl | simp [hl138])⟩
/-! ### loop.example/g01263/laws.markBook (f21) -/
noncomputable def laws_markBook_ll (a1 : Int) (a2 : List Int) (a3 : List Tally) (a4 : Int) : Option (Int × (List Int) × (List Tally)) :=
 (laws_markInt64S_l a2 a4).bind fun (r16, r17) =>
 (laws_markTallyS_l a3 r16).bind fun (r33, r34) =>
 some (r33, r17, r34)
def laws_markBook_ll_Q (a1 : Int) (a2 : List Int) (a3 : List Tally) (a4 : Int) (j1 : Nat) (j2 : Nat) (M0 : Mem) (r : Int × (List Int) × (List Tally)) (p : AV × Mem) : Prop := p.1 = .int .i64 r.1 ∧ p.2[j1]? = some (.live ⟨.grow, 2, 1, r.2.1.map (cI .i64)⟩) ∧ p.2[j2]? = some (.live ⟨.grow, 75, 5, r.2.2.map Tally.c⟩) ∧ Fr [j1, j2] M0 p.2 ∧ r.2.1.length = a2.length ∧ r.2.2.length = a3.length
theorem laws_markBook_ll_ok (a1 : Int) (a2 : List Int) (a3 : List Tally) (a4 : Int) (j1 : Nat) (j2 : Nat) (ne01 : j1 ≠ j2) (M0 : Mem) (oP1 : M0[j1]? = some (.live ⟨.grow, 2, 1, a2.map (cI .i64)⟩)) (oP2 : M0[j2]? = some (.live ⟨.grow, 75, 5, a3.map Tally.c⟩)) (r : Int × (List Int) × (List Tally)) (h : laws_markBook_ll a1 a2 a3 a4 = some r) : Ev (fun k => CN k 21 [.agg [.int .i64 a1, .lsl j1 a2.length 0 a2.length, .lsl j2 a3.length 0 a3.length], .int .i64 a4] M0) (laws_markBook_ll_Q a1 a2 a3 a4 j1 j2 M0 r) := by
 unfold laws_markBook_ll at h
 have fr0 : Fr [j1, j2] M0 M0 := Fr.refl
 refine Ev.enter (F := fun k => f21 (CN k) k) (fun k => callN_eq rfl Try.func21 rfl rfl rfl (by decide +kernel) (f21_eq _ _)) (sq (Rg (ku (bxO rfl rfl ⟨rfl, (all1 rfl (all1 (okL oP1 (by simp)) (all1 (okL oP2 (by simp)) all0))), by decide⟩) fun M2 hM3 => ?_)))
 have nf4 := Nf.mk fr0
 have fr5 := Fr.push fr0 hM3
 have o6 := push_old hM3 oP1
 have ne7 := ne_new oP1
 have o8 := push_old hM3 oP2
 have ne9 := ne_new oP2
 have o10 : M2[M0.length]? = some (.live ⟨.box, 33, 3, [[.int .i64 a1, .lsl j1 a2.length 0 a2.length, .lsl j2 a3.length 0 a3.length]]⟩) := push_new hM3
 obtain ⟨⟨r16, r17⟩, hx15, h⟩ := bind_some h
 refine kx (mvO rfl) (Rn (hN rfl (hV (.loc M0.length 1 0 0) rfl hZ)) fun e11 h13 h14 => sN (sq (Rg (kx (faO h14 o10 rfl) (kx (ldO rfl o10 rfl rfl rfl) (kx (mvO h13) (Ev.nxw (Ev.callW rfl (cns rfl (cns rfl rfl)) (laws_markInt64S_l_ok a2 a4 j1 M2 o6 _ hx15)) fun v20 M18 hq19 => ?_)))))))
 obtain ⟨hv20, o21, fr22, hl23⟩ := hq19
 have hv20 : v20 = .int .i64 r16 := hv20
 subst hv20
 have o24 : M18[j1]? = some (.live ⟨.grow, 2, 1, r17.map (cI .i64)⟩) := o21
 have hl23 : r17.length = a2.length := hl23
 have o25 : M18[j2]? = some (.live ⟨.grow, 75, 5, a3.map Tally.c⟩) := fr22 _ _ (niC (Ne.symm ne01) niN) o8
 have o26 : M18[M0.length]? = some (.live ⟨.box, 33, 3, [[.int .i64 a1, .lsl j1 a2.length 0 a2.length, .lsl j2 a3.length 0 a3.length]]⟩) := fr22 _ _ (niC (Ne.symm ne7) niN) o10
 have fr27 : Fr [j1, j2] M0 M18 := Fr.call fr5 fr22 (fwI (by simp) fwN)
 obtain ⟨⟨r33, r34⟩, hx32, h⟩ := bind_some h
 refine kx (mvO rfl) (Rn (hN rfl (hA h14 hZ)) fun e28 h30 h31 => sN (sq (Rg (kx (faO h31 o26 rfl) (kx (ldO rfl o26 rfl rfl rfl) (kx (mvO h30) (Ev.nxw (Ev.callW rfl (cns rfl (cns rfl rfl)) (laws_markTallyS_l_ok a3 r16 j2 M18 o25 _ hx32)) fun v37 M35 hq36 => ?_)))))))
 clear h14
 obtain ⟨hv37, o38, fr39, hl40⟩ := hq36
 have hv37 : v37 = .int .i64 r33 := hv37
 subst hv37
 have o41 : M35[j2]? = some (.live ⟨.grow, 75, 5, r34.map Tally.c⟩) := o38
 have hl40 : r34.length = a3.length := hl40
 have o42 : M35[j1]? = some (.live ⟨.grow, 2, 1, r17.map (cI .i64)⟩) := fr39 _ _ (niC ne01 niN) o24
 have o43 : M35[M0.length]? = some (.live ⟨.box, 33, 3, [[.int .i64 a1, .lsl j1 a2.length 0 a2.length, .lsl j2 a3.length 0 a3.length]]⟩) := fr39 _ _ (niC (Ne.symm ne9) niN) o26
 have fr44 : Fr [j1, j2] M0 M35 := Fr.call fr27 fr39 (fwI (by simp) fwN)
 refine kx (mvO rfl) (Rn (hN rfl hZ) fun e45 h47 => sN (sq (Rg (kx (mvO h47) (kx (mvO rfl) (Rn (hN rfl hZ) fun e48 h50 => sN (xx ?_)))))))
 clear h31 h47
 obtain rfl := si h
 exact eR (resT h50 res0) ⟨rfl, o42, o41, fr44, (by first | rfl | simp [hl23, hl40]), (by first | rfl | simp [hl23, hl40])⟩
/-! ### loop.example/g01263/laws.markDealS (f22) -/
abbrev laws_markDealS_l_b1_S := Int × Int × (List Deal)
abbrev laws_markDealS_l_b1_R := Int × (List Deal)
def laws_markDealS_l_b1_RS (a1 : List Deal) (j1 : Nat) (M0 : Mem) (s : laws_markDealS_l_b1_S) (e : Env) (M : Mem) : Prop := eget e 0 = .lsl j1 s.2.2.length 0 s.2.2.length ∧ eget e 1 = .int .i64 s.1 ∧ eget e 5 = .int .i64 s.2.1 ∧ M[j1]? = some (.live ⟨.grow, 65, 6, s.2.2.map Deal.c⟩) ∧ Fr [j1] M0 M ∧ s.2.2.length = a1.length
def laws_markDealS_l_b1_RR (a1 : List Deal) (j1 : Nat) (M0 : Mem) (g : laws_markDealS_l_b1_R) (x : Ex) (e : Env) (M : Mem) : Prop := x = .ext 0 ∧ eget e 1 = .int .i64 g.1 ∧ M[j1]? = some (.live ⟨.grow, 65, 6, g.2.map Deal.c⟩) ∧ Fr [j1] M0 M ∧ g.2.length = a1.length
noncomputable def laws_markDealS_l_b1 : laws_markDealS_l_b1_S → Option (laws_markDealS_l_b1_S ⊕ laws_markDealS_l_b1_R) := fun (s1_1, s1_2, s1_3) =>
 if (decide (s1_2 < (s1_3.length : Int))) = true then
  (rd s1_3 s1_2).bind fun x38 =>
  (rd (s1_3.set s1_2.toNat (Deal.mk s1_1 x38.Kind x38.Tally x38.From x38.To x38.Amount)) s1_2).bind fun x55 =>
  (rd ((s1_3.set s1_2.toNat (Deal.mk s1_1 x38.Kind x38.Tally x38.From x38.To x38.Amount)).set s1_2.toNat (Deal.mk x55.Day (IntKind.i8.wrap (IntKind.i64.wrap (s1_1 + 1))) x55.Tally x55.From x55.To x55.Amount)) s1_2).bind fun x72 =>
  (rd (((s1_3.set s1_2.toNat (Deal.mk s1_1 x38.Kind x38.Tally x38.From x38.To x38.Amount)).set s1_2.toNat (Deal.mk x55.Day (IntKind.i8.wrap (IntKind.i64.wrap (s1_1 + 1))) x55.Tally x55.From x55.To x55.Amount)).set s1_2.toNat (Deal.mk x72.Day x72.Kind (IntKind.i64.wrap ((IntKind.i64.wrap (s1_1 + 1)) + 1)) x72.From x72.To x72.Amount)) s1_2).bind fun x89 =>
  (rd ((((s1_3.set s1_2.toNat (Deal.mk s1_1 x38.Kind x38.Tally x38.From x38.To x38.Amount)).set s1_2.toNat (Deal.mk x55.Day (IntKind.i8.wrap (IntKind.i64.wrap (s1_1 + 1))) x55.Tally x55.From x55.To x55.Amount)).set s1_2.toNat (Deal.mk x72.Day x72.Kind (IntKind.i64.wrap ((IntKind.i64.wrap (s1_1 + 1)) + 1)) x72.From x72.To x72.Amount)).set s1_2.toNat (Deal.mk x89.Day x89.Kind x89.Tally (IntKind.i64.wrap ((IntKind.i64.wrap ((IntKind.i64.wrap (s1_1 + 1)) + 1)) + 1)) x89.To x89.Amount)) s1_2).bind fun x106 =>
  (rd (((((s1_3.set s1_2.toNat (Deal.mk s1_1 x38.Kind x38.Tally x38.From x38.To x38.Amount)).set s1_2.toNat (Deal.mk x55.Day (IntKind.i8.wrap (IntKind.i64.wrap (s1_1 + 1))) x55.Tally x55.From x55.To x55.Amount)).set s1_2.toNat (Deal.mk x72.Day x72.Kind (IntKind.i64.wrap ((IntKind.i64.wrap (s1_1 + 1)) + 1)) x72.From x72.To x72.Amount)).set s1_2.toNat (Deal.mk x89.Day x89.Kind x89.Tally (IntKind.i64.wrap ((IntKind.i64.wrap ((IntKind.i64.wrap (s1_1 + 1)) + 1)) + 1)) x89.To x89.Amount)).set s1_2.toNat (Deal.mk x106.Day x106.Kind x106.Tally x106.From (IntKind.i64.wrap ((IntKind.i64.wrap ((IntKind.i64.wrap ((IntKind.i64.wrap (s1_1 + 1)) + 1)) + 1)) + 1)) x106.Amount)) s1_2).bind fun x123 =>
  some (.inl ((IntKind.i64.wrap ((IntKind.i64.wrap ((IntKind.i64.wrap ((IntKind.i64.wrap ((IntKind.i64.wrap ((IntKind.i64.wrap (s1_1 + 1)) + 1)) + 1)) + 1)) + 1)) + 1)), (IntKind.i64.wrap (s1_2 + 1)), ((((((s1_3.set s1_2.toNat (Deal.mk s1_1 x38.Kind x38.Tally x38.From x38.To x38.Amount)).set s1_2.toNat (Deal.mk x55.Day (IntKind.i8.wrap (IntKind.i64.wrap (s1_1 + 1))) x55.Tally x55.From x55.To x55.Amount)).set s1_2.toNat (Deal.mk x72.Day x72.Kind (IntKind.i64.wrap ((IntKind.i64.wrap (s1_1 + 1)) + 1)) x72.From x72.To x72.Amount)).set s1_2.toNat (Deal.mk x89.Day x89.Kind x89.Tally (IntKind.i64.wrap ((IntKind.i64.wrap ((IntKind.i64.wrap (s1_1 + 1)) + 1)) + 1)) x89.To x89.Amount)).set s1_2.toNat (Deal.mk x106.Day x106.Kind x106.Tally x106.From (IntKind.i64.wrap ((IntKind.i64.wrap ((IntKind.i64.wrap ((IntKind.i64.wrap (s1_1 + 1)) + 1)) + 1)) + 1)) x106.Amount)).set s1_2.toNat (Deal.mk x123.Day x123.Kind x123.Tally x123.From x123.To (IntKind.i64.wrap ((IntKind.i64.wrap ((IntKind.i64.wrap ((IntKind.i64.wrap ((IntKind.i64.wrap (s1_1 + 1)) + 1)) + 1)) + 1)) + 1))))))
 else
  some (.inr (s1_1, s1_3))
theorem laws_markDealS_l_b1_ok (a1 : List Deal) (j1 : Nat) (M0 : Mem) (s : laws_markDealS_l_b1_S) (r : laws_markDealS_l_b1_S ⊕ laws_markDealS_l_b1_R) (h : laws_markDealS_l_b1 s = some r) (e : Env) (M : Mem) (hs : laws_markDealS_l_b1_RS a1 j1 M0 s e M) : Ev (fun k => (f22_l2 (CN k) k (prune [0, 1, 5] e) M).bind fun q => some q) (bQ (laws_markDealS_l_b1_RS a1 j1 M0) (laws_markDealS_l_b1_RR a1 j1 M0) r) := by
 obtain ⟨s1_1, s1_2, s1_3⟩ := s
 unfold laws_markDealS_l_b1 at h
 obtain ⟨h22, h24, h26, o28, fr29, hl30⟩ := hs
 generalize he21 : prune [0, 1, 5] e = e20
 have h23 := envp he21.symm rfl h22
 have h25 := envp he21.symm rfl h24
 have h27 := envp he21.symm rfl h26
 refine sq (sq (Rg (kx (mvO h27) (kx (mvO h23) (kx (lnL Try.underlying35 rfl o28 (by simp [hl30])) (kx (bLss rfl rfl) (Rn (hV (.lsl j1 s1_3.length 0 s1_3.length) h23 (hV (.int .i64 s1_1) h25 (hV (.int .i64 s1_2) h27 (hN rfl hZ)))) fun e31 h33 h34 h35 h36 => sN ?_)))))))
 clear h23 h25 h27
 rcases ite_some h with ⟨hb37, h⟩ | ⟨hb37, h⟩
 ·obtain ⟨x38, hx39, h⟩ := bind_some h
  refine cT h36 hb37 (xx (sN (sq (bl (sq (Rg (kx (mvO h33) (kx (mvO h35) (kx (mvO h34) (kx (ixO rfl o28 rfl rfl (rd_get hx39).1 (rd_lt hx39).2) (kx (faO rfl o28 (by simp [hl30])) (kw (stR (u := x38) (u' := (Deal.mk s1_1 x38.Kind x38.Tally x38.From x38.To x38.Amount)) rfl rfl o28 rfl (rz2 hx39) ⟨rfl, ble rfl⟩ rfl rfl) fun M40 hM41 => ?_))))))))))))
  rw [Nat.zero_add] at hM41
  have o42 : M40[j1]? = some (.live ⟨.grow, 65, 6, (s1_3.set s1_2.toNat (Deal.mk s1_1 x38.Kind x38.Tally x38.From x38.To x38.Amount)).map Deal.c⟩) := set_same hM41 o28
  have fr43 := Fr.setIn fr29 hM41 (by simp)
  have hx44 := rd_set (u' := (Deal.mk s1_1 x38.Kind x38.Tally x38.From x38.To x38.Amount)) hx39
  obtain ⟨x55, hx56, h⟩ := bind_some h
  refine Rn (hA h33 (hA h34 (hA h35 hZ))) fun e45 h47 h48 h49 => sN (sq (Rg (kx (mvO h48) (kx (bAdd rfl rfl) (kx (mvO rfl) (Rn (hA h47 (hN rfl (hA h49 hZ))) fun e50 h52 h53 h54 => sN (sq (Rg (kx (mvO (lslL (L' := (s1_3.set s1_2.toNat (Deal.mk s1_1 x38.Kind x38.Tally x38.From x38.To x38.Amount)).length) h52 (by simp [hl30]))) (kx (mvO h54) (kx (mvO h53) (kx (cvI rfl) (kx (ixO rfl o42 rfl rfl (rd_get hx56).1 (rd_lt hx56).2) (kx (faO rfl o42 (by simp [hl30])) (kw (stR (u := x55) (u' := (Deal.mk x55.Day (IntKind.i8.wrap (IntKind.i64.wrap (s1_1 + 1))) x55.Tally x55.From x55.To x55.Amount)) rfl rfl o42 rfl (rz2 hx56) ⟨rfl, ble rfl⟩ rfl rfl) fun M57 hM58 => ?_)))))))))))))))
  clear h33 h34 h35 h36 h47 h49
  rw [Nat.zero_add] at hM58
  have o59 : M57[j1]? = some (.live ⟨.grow, 65, 6, ((s1_3.set s1_2.toNat (Deal.mk s1_1 x38.Kind x38.Tally x38.From x38.To x38.Amount)).set s1_2.toNat (Deal.mk x55.Day (IntKind.i8.wrap (IntKind.i64.wrap (s1_1 + 1))) x55.Tally x55.From x55.To x55.Amount)).map Deal.c⟩) := set_same hM58 o42
  have fr60 := Fr.setIn fr43 hM58 (by simp)
  have hx61 := rd_set (u' := (Deal.mk x55.Day (IntKind.i8.wrap (IntKind.i64.wrap (s1_1 + 1))) x55.Tally x55.From x55.To x55.Amount)) hx56
  obtain ⟨x72, hx73, h⟩ := bind_some h
  refine Rn (hA h52 (hA h53 (hA h54 hZ))) fun e62 h64 h65 h66 => sN (sq (Rg (kx (mvO h65) (kx (bAdd rfl rfl) (kx (mvO rfl) (Rn (hA h64 (hN rfl (hA h66 hZ))) fun e67 h69 h70 h71 => sN (sq (Rg (kx (mvO (lslL (L' := ((s1_3.set s1_2.toNat (Deal.mk s1_1 x38.Kind x38.Tally x38.From x38.To x38.Amount)).set s1_2.toNat (Deal.mk x55.Day (IntKind.i8.wrap (IntKind.i64.wrap (s1_1 + 1))) x55.Tally x55.From x55.To x55.Amount)).length) h69 (by simp [hl30]))) (kx (mvO h71) (kx (mvO h70) (kx (ixO rfl o59 rfl rfl (rd_get hx73).1 (rd_lt hx73).2) (kx (faO rfl o59 (by simp [hl30])) (kw (stR (u := x72) (u' := (Deal.mk x72.Day x72.Kind (IntKind.i64.wrap ((IntKind.i64.wrap (s1_1 + 1)) + 1)) x72.From x72.To x72.Amount)) rfl rfl o59 rfl (rz2 hx73) ⟨rfl, ble rfl⟩ rfl rfl) fun M74 hM75 => ?_))))))))))))))
  clear h52 h53 h54 h64 h66
  rw [Nat.zero_add] at hM75
  have o76 : M74[j1]? = some (.live ⟨.grow, 65, 6, (((s1_3.set s1_2.toNat (Deal.mk s1_1 x38.Kind x38.Tally x38.From x38.To x38.Amount)).set s1_2.toNat (Deal.mk x55.Day (IntKind.i8.wrap (IntKind.i64.wrap (s1_1 + 1))) x55.Tally x55.From x55.To x55.Amount)).set s1_2.toNat (Deal.mk x72.Day x72.Kind (IntKind.i64.wrap ((IntKind.i64.wrap (s1_1 + 1)) + 1)) x72.From x72.To x72.Amount)).map Deal.c⟩) := set_same hM75 o59
  have fr77 := Fr.setIn fr60 hM75 (by simp)
  have hx78 := rd_set (u' := (Deal.mk x72.Day x72.Kind (IntKind.i64.wrap ((IntKind.i64.wrap (s1_1 + 1)) + 1)) x72.From x72.To x72.Amount)) hx73
  obtain ⟨x89, hx90, h⟩ := bind_some h
  refine Rn (hA h69 (hA h70 (hA h71 hZ))) fun e79 h81 h82 h83 => sN (sq (Rg (kx (mvO h82) (kx (bAdd rfl rfl) (kx (mvO rfl) (Rn (hA h81 (hN rfl (hA h83 hZ))) fun e84 h86 h87 h88 => sN (sq (Rg (kx (mvO (lslL (L' := (((s1_3.set s1_2.toNat (Deal.mk s1_1 x38.Kind x38.Tally x38.From x38.To x38.Amount)).set s1_2.toNat (Deal.mk x55.Day (IntKind.i8.wrap (IntKind.i64.wrap (s1_1 + 1))) x55.Tally x55.From x55.To x55.Amount)).set s1_2.toNat (Deal.mk x72.Day x72.Kind (IntKind.i64.wrap ((IntKind.i64.wrap (s1_1 + 1)) + 1)) x72.From x72.To x72.Amount)).length) h86 (by simp [hl30]))) (kx (mvO h88) (kx (mvO h87) (kx (ixO rfl o76 rfl rfl (rd_get hx90).1 (rd_lt hx90).2) (kx (faO rfl o76 (by simp [hl30])) (kw (stR (u := x89) (u' := (Deal.mk x89.Day x89.Kind x89.Tally (IntKind.i64.wrap ((IntKind.i64.wrap ((IntKind.i64.wrap (s1_1 + 1)) + 1)) + 1)) x89.To x89.Amount)) rfl rfl o76 rfl (rz2 hx90) ⟨rfl, ble rfl⟩ rfl rfl) fun M91 hM92 => ?_))))))))))))))
  clear h69 h70 h71 h81 h83
  rw [Nat.zero_add] at hM92
  have o93 : M91[j1]? = some (.live ⟨.grow, 65, 6, ((((s1_3.set s1_2.toNat (Deal.mk s1_1 x38.Kind x38.Tally x38.From x38.To x38.Amount)).set s1_2.toNat (Deal.mk x55.Day (IntKind.i8.wrap (IntKind.i64.wrap (s1_1 + 1))) x55.Tally x55.From x55.To x55.Amount)).set s1_2.toNat (Deal.mk x72.Day x72.Kind (IntKind.i64.wrap ((IntKind.i64.wrap (s1_1 + 1)) + 1)) x72.From x72.To x72.Amount)).set s1_2.toNat (Deal.mk x89.Day x89.Kind x89.Tally (IntKind.i64.wrap ((IntKind.i64.wrap ((IntKind.i64.wrap (s1_1 + 1)) + 1)) + 1)) x89.To x89.Amount)).map Deal.c⟩) := set_same hM92 o76
  have fr94 := Fr.setIn fr77 hM92 (by simp)
  have hx95 := rd_set (u' := (Deal.mk x89.Day x89.Kind x89.Tally (IntKind.i64.wrap ((IntKind.i64.wrap ((IntKind.i64.wrap (s1_1 + 1)) + 1)) + 1)) x89.To x89.Amount)) hx90
  obtain ⟨x106, hx107, h⟩ := bind_some h
  refine Rn (hA h86 (hA h87 (hA h88 hZ))) fun e96 h98 h99 h100 => sN (sq (Rg (kx (mvO h99) (kx (bAdd rfl rfl) (kx (mvO rfl) (Rn (hA h98 (hN rfl (hA h100 hZ))) fun e101 h103 h104 h105 => sN (sq (Rg (kx (mvO (lslL (L' := ((((s1_3.set s1_2.toNat (Deal.mk s1_1 x38.Kind x38.Tally x38.From x38.To x38.Amount)).set s1_2.toNat (Deal.mk x55.Day (IntKind.i8.wrap (IntKind.i64.wrap (s1_1 + 1))) x55.Tally x55.From x55.To x55.Amount)).set s1_2.toNat (Deal.mk x72.Day x72.Kind (IntKind.i64.wrap ((IntKind.i64.wrap (s1_1 + 1)) + 1)) x72.From x72.To x72.Amount)).set s1_2.toNat (Deal.mk x89.Day x89.Kind x89.Tally (IntKind.i64.wrap ((IntKind.i64.wrap ((IntKind.i64.wrap (s1_1 + 1)) + 1)) + 1)) x89.To x89.Amount)).length) h103 (by simp [hl30]))) (kx (mvO h105) (kx (mvO h104) (kx (ixO rfl o93 rfl rfl (rd_get hx107).1 (rd_lt hx107).2) (kx (faO rfl o93 (by simp [hl30])) (kw (stR (u := x106) (u' := (Deal.mk x106.Day x106.Kind x106.Tally x106.From (IntKind.i64.wrap ((IntKind.i64.wrap ((IntKind.i64.wrap ((IntKind.i64.wrap (s1_1 + 1)) + 1)) + 1)) + 1)) x106.Amount)) rfl rfl o93 rfl (rz2 hx107) ⟨rfl, ble rfl⟩ rfl rfl) fun M108 hM109 => ?_))))))))))))))
  clear h86 h87 h88 h100 h98
  rw [Nat.zero_add] at hM109
  have o110 : M108[j1]? = some (.live ⟨.grow, 65, 6, (((((s1_3.set s1_2.toNat (Deal.mk s1_1 x38.Kind x38.Tally x38.From x38.To x38.Amount)).set s1_2.toNat (Deal.mk x55.Day (IntKind.i8.wrap (IntKind.i64.wrap (s1_1 + 1))) x55.Tally x55.From x55.To x55.Amount)).set s1_2.toNat (Deal.mk x72.Day x72.Kind (IntKind.i64.wrap ((IntKind.i64.wrap (s1_1 + 1)) + 1)) x72.From x72.To x72.Amount)).set s1_2.toNat (Deal.mk x89.Day x89.Kind x89.Tally (IntKind.i64.wrap ((IntKind.i64.wrap ((IntKind.i64.wrap (s1_1 + 1)) + 1)) + 1)) x89.To x89.Amount)).set s1_2.toNat (Deal.mk x106.Day x106.Kind x106.Tally x106.From (IntKind.i64.wrap ((IntKind.i64.wrap ((IntKind.i64.wrap ((IntKind.i64.wrap (s1_1 + 1)) + 1)) + 1)) + 1)) x106.Amount)).map Deal.c⟩) := set_same hM109 o93
  have fr111 := Fr.setIn fr94 hM109 (by simp)
  have hx112 := rd_set (u' := (Deal.mk x106.Day x106.Kind x106.Tally x106.From (IntKind.i64.wrap ((IntKind.i64.wrap ((IntKind.i64.wrap ((IntKind.i64.wrap (s1_1 + 1)) + 1)) + 1)) + 1)) x106.Amount)) hx107
  obtain ⟨x123, hx124, h⟩ := bind_some h
  refine Rn (hA h103 (hA h104 (hA h105 hZ))) fun e113 h115 h116 h117 => sN (sq (Rg (kx (mvO h116) (kx (bAdd rfl rfl) (kx (mvO rfl) (Rn (hA h115 (hN rfl (hA h117 hZ))) fun e118 h120 h121 h122 => sN (sq (Rg (kx (mvO (lslL (L' := (((((s1_3.set s1_2.toNat (Deal.mk s1_1 x38.Kind x38.Tally x38.From x38.To x38.Amount)).set s1_2.toNat (Deal.mk x55.Day (IntKind.i8.wrap (IntKind.i64.wrap (s1_1 + 1))) x55.Tally x55.From x55.To x55.Amount)).set s1_2.toNat (Deal.mk x72.Day x72.Kind (IntKind.i64.wrap ((IntKind.i64.wrap (s1_1 + 1)) + 1)) x72.From x72.To x72.Amount)).set s1_2.toNat (Deal.mk x89.Day x89.Kind x89.Tally (IntKind.i64.wrap ((IntKind.i64.wrap ((IntKind.i64.wrap (s1_1 + 1)) + 1)) + 1)) x89.To x89.Amount)).set s1_2.toNat (Deal.mk x106.Day x106.Kind x106.Tally x106.From (IntKind.i64.wrap ((IntKind.i64.wrap ((IntKind.i64.wrap ((IntKind.i64.wrap (s1_1 + 1)) + 1)) + 1)) + 1)) x106.Amount)).length) h120 (by simp [hl30]))) (kx (mvO h122) (kx (mvO h121) (kx (ixO rfl o110 rfl rfl (rd_get hx124).1 (rd_lt hx124).2) (kx (faO rfl o110 (by simp [hl30])) (kw (stR (u := x123) (u' := (Deal.mk x123.Day x123.Kind x123.Tally x123.From x123.To (IntKind.i64.wrap ((IntKind.i64.wrap ((IntKind.i64.wrap ((IntKind.i64.wrap ((IntKind.i64.wrap (s1_1 + 1)) + 1)) + 1)) + 1)) + 1)))) rfl rfl o110 rfl (rz2 hx124) ⟨rfl, ble rfl⟩ rfl rfl) fun M125 hM126 => ?_))))))))))))))
  clear h103 h104 h105 h115 h117
  rw [Nat.zero_add] at hM126
  have o127 : M125[j1]? = some (.live ⟨.grow, 65, 6, ((((((s1_3.set s1_2.toNat (Deal.mk s1_1 x38.Kind x38.Tally x38.From x38.To x38.Amount)).set s1_2.toNat (Deal.mk x55.Day (IntKind.i8.wrap (IntKind.i64.wrap (s1_1 + 1))) x55.Tally x55.From x55.To x55.Amount)).set s1_2.toNat (Deal.mk x72.Day x72.Kind (IntKind.i64.wrap ((IntKind.i64.wrap (s1_1 + 1)) + 1)) x72.From x72.To x72.Amount)).set s1_2.toNat (Deal.mk x89.Day x89.Kind x89.Tally (IntKind.i64.wrap ((IntKind.i64.wrap ((IntKind.i64.wrap (s1_1 + 1)) + 1)) + 1)) x89.To x89.Amount)).set s1_2.toNat (Deal.mk x106.Day x106.Kind x106.Tally x106.From (IntKind.i64.wrap ((IntKind.i64.wrap ((IntKind.i64.wrap ((IntKind.i64.wrap (s1_1 + 1)) + 1)) + 1)) + 1)) x106.Amount)).set s1_2.toNat (Deal.mk x123.Day x123.Kind x123.Tally x123.From x123.To (IntKind.i64.wrap ((IntKind.i64.wrap ((IntKind.i64.wrap ((IntKind.i64.wrap ((IntKind.i64.wrap (s1_1 + 1)) + 1)) + 1)) + 1)) + 1)))).map Deal.c⟩) := set_same hM126 o110
  have fr128 := Fr.setIn fr111 hM126 (by simp)
  have hx129 := rd_set (u' := (Deal.mk x123.Day x123.Kind x123.Tally x123.From x123.To (IntKind.i64.wrap ((IntKind.i64.wrap ((IntKind.i64.wrap ((IntKind.i64.wrap ((IntKind.i64.wrap (s1_1 + 1)) + 1)) + 1)) + 1)) + 1)))) hx124
  refine Rn (hA h120 (hA h121 (hA h122 hZ))) fun e130 h132 h133 h134 => sN (Rg (kx (mvO h133) (kx (bAdd rfl rfl) (kx (mvO rfl) (Rn (hA h132 (hN rfl (hA h134 hZ))) fun e135 h137 h138 h139 => bN (sN (Rg (kx (mvO h139) (kx (bAdd rfl rfl) (kx (mvO rfl) (Rn (hA h137 (hA h138 (hN rfl hZ))) fun e140 h142 h143 h144 => ?_)))))))))))
  clear h120 h121 h122 h132 h134 h137 h138
  obtain rfl := si h
  exact qN ⟨(lslL (L' := ((((((s1_3.set s1_2.toNat (Deal.mk s1_1 x38.Kind x38.Tally x38.From x38.To x38.Amount)).set s1_2.toNat (Deal.mk x55.Day (IntKind.i8.wrap (IntKind.i64.wrap (s1_1 + 1))) x55.Tally x55.From x55.To x55.Amount)).set s1_2.toNat (Deal.mk x72.Day x72.Kind (IntKind.i64.wrap ((IntKind.i64.wrap (s1_1 + 1)) + 1)) x72.From x72.To x72.Amount)).set s1_2.toNat (Deal.mk x89.Day x89.Kind x89.Tally (IntKind.i64.wrap ((IntKind.i64.wrap ((IntKind.i64.wrap (s1_1 + 1)) + 1)) + 1)) x89.To x89.Amount)).set s1_2.toNat (Deal.mk x106.Day x106.Kind x106.Tally x106.From (IntKind.i64.wrap ((IntKind.i64.wrap ((IntKind.i64.wrap ((IntKind.i64.wrap (s1_1 + 1)) + 1)) + 1)) + 1)) x106.Amount)).set s1_2.toNat (Deal.mk x123.Day x123.Kind x123.Tally x123.From x123.To (IntKind.i64.wrap ((IntKind.i64.wrap ((IntKind.i64.wrap ((IntKind.i64.wrap ((IntKind.i64.wrap (s1_1 + 1)) + 1)) + 1)) + 1)) + 1)))).length) h142 (by simp [hl30])), h143, h144, o127, fr128, (by first | rfl | simp [hl30])⟩
 refine cF h36 hb37 (xx (sE ?_))
 obtain rfl := si h
 exact qE ⟨rfl, h34, o28, fr29, (by first | rfl | simp [hl30])⟩
noncomputable def laws_markDealS_l (a1 : List Deal) (a2 : Int) : Option (Int × (List Deal)) :=
 (Lw (laws_markDealS_l_b1) (a2, 0, a1)).bind fun (y150, y151) =>
 some (y150, y151)
def laws_markDealS_l_Q (a1 : List Deal) (a2 : Int) (j1 : Nat) (M0 : Mem) (r : Int × (List Deal)) (p : AV × Mem) : Prop := p.1 = .int .i64 r.1 ∧ p.2[j1]? = some (.live ⟨.grow, 65, 6, r.2.map Deal.c⟩) ∧ Fr [j1] M0 p.2 ∧ r.2.length = a1.length
theorem laws_markDealS_l_ok (a1 : List Deal) (a2 : Int) (j1 : Nat) (M0 : Mem) (oP1 : M0[j1]? = some (.live ⟨.grow, 65, 6, a1.map Deal.c⟩)) (r : Int × (List Deal)) (h : laws_markDealS_l a1 a2 = some r) : Ev (fun k => CN k 22 [.lsl j1 a1.length 0 a1.length, .int .i64 a2] M0) (laws_markDealS_l_Q a1 a2 j1 M0 r) := by
 unfold laws_markDealS_l at h
 have fr0 : Fr [j1] M0 M0 := Fr.refl
 obtain ⟨⟨y150, y151⟩, hr146, h⟩ := bind_some h
 refine Ev.enter (F := fun k => f22 (CN k) k) (fun k => callN_eq rfl Try.func22 rfl rfl rfl (by decide +kernel) (f22_eq _ _)) (sq (Rg (kx (mvO rfl) (Rn (hV (.lsl j1 a1.length 0 a1.length) rfl (hN rfl hZ)) fun e1 h3 h4 => sN (sq (sq (Rg (kx (mvO rfl) (Rn (hA h3 (hA h4 (hV (.int .i64 0) rfl hZ))) fun e5 h7 h8 h9 => sN (bl (Ev.loop (RS := laws_markDealS_l_b1_RS a1 j1 M0) (RR := laws_markDealS_l_b1_RR a1 j1 M0) (fun s r h e M hs => laws_markDealS_l_b1_ok a1 j1 M0 s r h e M hs) hr146 ⟨h7, h8, h9, oP1, fr0, rfl⟩ fun x e148 M149 hq147 => ?_)))))))))))
 clear h3 h4
 obtain ⟨rfl, h152, o153, fr154, hl155⟩ := hq147
 refine bE (sN (sq (Rg (kx (mvO h152) (kx (mvO rfl) (Rn (hN rfl hZ) fun e156 h158 => sN (xx ?_)))))))
 clear h152
 obtain rfl := si h
 exact eR (resT h158 res0) ⟨rfl, o153, fr154, (by first | rfl | simp [hl155])⟩
/-! ### loop.example/g01263/laws.markInt64S (f27) -/
abbrev laws_markInt64S_n_b1_S := Int × Int
abbrev laws_markInt64S_n_b1_R := Int
def laws_markInt64S_n_b1_RS (M0 : Mem) (s : laws_markInt64S_n_b1_S) (e : Env) (M : Mem) : Prop := eget e 0 = .nils ∧ eget e 1 = .int .i64 s.1 ∧ eget e 5 = .int .i64 s.2 ∧ Fr [] M0 M
def laws_markInt64S_n_b1_RR (M0 : Mem) (g : laws_markInt64S_n_b1_R) (x : Ex) (e : Env) (M : Mem) : Prop := x = .ext 0 ∧ eget e 1 = .int .i64 g ∧ Fr [] M0 M
noncomputable def laws_markInt64S_n_b1 : laws_markInt64S_n_b1_S → Option (laws_markInt64S_n_b1_S ⊕ laws_markInt64S_n_b1_R) := fun (s1_1, s1_2) =>
 if (decide (s1_2 < 0)) = true then
  none
 else
  some (.inr s1_1)
theorem laws_markInt64S_n_b1_ok (M0 : Mem) (s : laws_markInt64S_n_b1_S) (r : laws_markInt64S_n_b1_S ⊕ laws_markInt64S_n_b1_R) (h : laws_markInt64S_n_b1 s = some r) (e : Env) (M : Mem) (hs : laws_markInt64S_n_b1_RS M0 s e M) : Ev (fun k => (f27_l2 (CN k) k (prune [0, 1, 5] e) M).bind fun q => some q) (bQ (laws_markInt64S_n_b1_RS M0) (laws_markInt64S_n_b1_RR M0) r) := by
 obtain ⟨s1_1, s1_2⟩ := s
 unfold laws_markInt64S_n_b1 at h
 obtain ⟨h21, h23, h25, fr27⟩ := hs
 generalize he20 : prune [0, 1, 5] e = e19
 have h22 := envp he20.symm rfl h21
 have h24 := envp he20.symm rfl h23
 have h26 := envp he20.symm rfl h25
 refine sq (sq (Rg (kx (mvO h26) (kx (mvO h22) (kx (lnN Try.underlying22 rfl) (kx (bLss rfl rfl) (Rn (hV .nils h22 (hV (.int .i64 s1_1) h24 (hV (.int .i64 s1_2) h26 (hN rfl hZ)))) fun e28 h30 h31 h32 h33 => sN ?_)))))))
 clear h22 h24 h26
 rcases ite_some h with ⟨hb34, h⟩ | ⟨hb34, h⟩
 ·refine cT h33 hb34 (xx (sN (sq (bl (sq (Rg (kx (mvO h30) (kx (mvO h32) (kx (mvO h31) ?_)))))))))
  cases h
 refine cF h33 hb34 (xx (sE ?_))
 obtain rfl := si h
 exact qE ⟨rfl, h31, fr27⟩
noncomputable def laws_markInt64S_n (a1 : Int) : Option Int :=
 (Lw (laws_markInt64S_n_b1) (a1, 0)).bind fun y40 =>
 some y40
def laws_markInt64S_n_Q (a1 : Int) (M0 : Mem) (r : Int) (p : AV × Mem) : Prop := p.1 = .int .i64 r ∧ Fr [] M0 p.2
theorem laws_markInt64S_n_ok (a1 : Int) (M0 : Mem) (r : Int) (h : laws_markInt64S_n a1 = some r) : Ev (fun k => CN k 27 [.nils, .int .i64 a1] M0) (laws_markInt64S_n_Q a1 M0 r) := by
 unfold laws_markInt64S_n at h
 have fr0 : Fr [] M0 M0 := Fr.refl
 obtain ⟨y40, hr36, h⟩ := bind_some h
 refine Ev.enter (F := fun k => f27 (CN k) k) (fun k => callN_eq rfl Try.func27 rfl rfl rfl (by decide +kernel) (f27_eq _ _)) (sq (Rg (kx (mvO rfl) (Rn (hV .nils rfl (hN rfl hZ)) fun e1 h3 h4 => sN (sq (sq (Rg (kx (mvO rfl) (Rn (hA h3 (hA h4 (hV (.int .i64 0) rfl hZ))) fun e5 h7 h8 h9 => sN (bl (Ev.loop (RS := laws_markInt64S_n_b1_RS M0) (RR := laws_markInt64S_n_b1_RR M0) (fun s r h e M hs => laws_markInt64S_n_b1_ok M0 s r h e M hs) hr36 ⟨h7, h8, h9, fr0⟩ fun x e38 M39 hq37 => ?_)))))))))))
 clear h3 h4
 obtain ⟨rfl, h41, fr42⟩ := hq37
 refine bE (sN (sq (Rg (kx (mvO h41) (kx (mvO rfl) (Rn (hN rfl hZ) fun e43 h45 => sN (xx ?_)))))))
 clear h41
 obtain rfl := si h
 exact eR (resT h45 res0) ⟨rfl, fr42⟩
/-! ### loop.example/g01263/laws.markTallyS (f47) -/
abbrev laws_markTallyS_n_b1_S := Int × Int
abbrev laws_markTallyS_n_b1_R := Int
def laws_markTallyS_n_b1_RS (M0 : Mem) (s : laws_markTallyS_n_b1_S) (e : Env) (M : Mem) : Prop := eget e 0 = .nils ∧ eget e 1 = .int .i64 s.1 ∧ eget e 5 = .int .i64 s.2 ∧ Fr [] M0 M
def laws_markTallyS_n_b1_RR (M0 : Mem) (g : laws_markTallyS_n_b1_R) (x : Ex) (e : Env) (M : Mem) : Prop := x = .ext 0 ∧ eget e 1 = .int .i64 g ∧ Fr [] M0 M
noncomputable def laws_markTallyS_n_b1 : laws_markTallyS_n_b1_S → Option (laws_markTallyS_n_b1_S ⊕ laws_markTallyS_n_b1_R) := fun (s1_1, s1_2) =>
 if (decide (s1_2 < 0)) = true then
  none
 else
  some (.inr s1_1)
theorem laws_markTallyS_n_b1_ok (M0 : Mem) (s : laws_markTallyS_n_b1_S) (r : laws_markTallyS_n_b1_S ⊕ laws_markTallyS_n_b1_R) (h : laws_markTallyS_n_b1 s = some r) (e : Env) (M : Mem) (hs : laws_markTallyS_n_b1_RS M0 s e M) : Ev (fun k => (f47_l2 (CN k) k (prune [0, 1, 5] e) M).bind fun q => some q) (bQ (laws_markTallyS_n_b1_RS M0) (laws_markTallyS_n_b1_RR M0) r) := by
 obtain ⟨s1_1, s1_2⟩ := s
 unfold laws_markTallyS_n_b1 at h
 obtain ⟨h21, h23, h25, fr27⟩ := hs
 generalize he20 : prune [0, 1, 5] e = e19
 have h22 := envp he20.symm rfl h21
 have h24 := envp he20.symm rfl h23
 have h26 := envp he20.symm rfl h25
 refine sq (sq (Rg (kx (mvO h26) (kx (mvO h22) (kx (lnN Try.underlying31 rfl) (kx (bLss rfl rfl) (Rn (hV .nils h22 (hV (.int .i64 s1_1) h24 (hV (.int .i64 s1_2) h26 (hN rfl hZ)))) fun e28 h30 h31 h32 h33 => sN ?_)))))))
 clear h22 h24 h26
 rcases ite_some h with ⟨hb34, h⟩ | ⟨hb34, h⟩
 ·refine cT h33 hb34 (xx (sN (sq (bl (sq (Rg (kx (mvO h30) (kx (mvO h32) (kx (mvO h31) ?_)))))))))
  cases h
 refine cF h33 hb34 (xx (sE ?_))
 obtain rfl := si h
 exact qE ⟨rfl, h31, fr27⟩
noncomputable def laws_markTallyS_n (a1 : Int) : Option Int :=
 (Lw (laws_markTallyS_n_b1) (a1, 0)).bind fun y40 =>
 some y40
def laws_markTallyS_n_Q (a1 : Int) (M0 : Mem) (r : Int) (p : AV × Mem) : Prop := p.1 = .int .i64 r ∧ Fr [] M0 p.2
theorem laws_markTallyS_n_ok (a1 : Int) (M0 : Mem) (r : Int) (h : laws_markTallyS_n a1 = some r) : Ev (fun k => CN k 47 [.nils, .int .i64 a1] M0) (laws_markTallyS_n_Q a1 M0 r) := by
 unfold laws_markTallyS_n at h
 have fr0 : Fr [] M0 M0 := Fr.refl
 obtain ⟨y40, hr36, h⟩ := bind_some h
 refine Ev.enter (F := fun k => f47 (CN k) k) (fun k => callN_eq rfl Try.func47 rfl rfl rfl (by decide +kernel) (f47_eq _ _)) (sq (Rg (kx (mvO rfl) (Rn (hV .nils rfl (hN rfl hZ)) fun e1 h3 h4 => sN (sq (sq (Rg (kx (mvO rfl) (Rn (hA h3 (hA h4 (hV (.int .i64 0) rfl hZ))) fun e5 h7 h8 h9 => sN (bl (Ev.loop (RS := laws_markTallyS_n_b1_RS M0) (RR := laws_markTallyS_n_b1_RR M0) (fun s r h e M hs => laws_markTallyS_n_b1_ok M0 s r h e M hs) hr36 ⟨h7, h8, h9, fr0⟩ fun x e38 M39 hq37 => ?_)))))))))))
 clear h3 h4
 obtain ⟨rfl, h41, fr42⟩ := hq37
 refine bE (sN (sq (Rg (kx (mvO h41) (kx (mvO rfl) (Rn (hN rfl hZ) fun e43 h45 => sN (xx ?_)))))))
 clear h41
 obtain rfl := si h
 exact eR (resT h45 res0) ⟨rfl, fr42⟩
/-! ### loop.example/g01263/laws.markBook (f21) -/
noncomputable def laws_markBook_nn (a1 : Int) (a2 : Int) : Option Int :=
 (laws_markInt64S_n a2).bind fun r12 =>
 (laws_markTallyS_n r12).bind fun r24 =>
 some r24
def laws_markBook_nn_Q (a1 : Int) (a2 : Int) (M0 : Mem) (r : Int) (p : AV × Mem) : Prop := p.1 = .int .i64 r ∧ Fr [] M0 p.2
theorem laws_markBook_nn_ok (a1 : Int) (a2 : Int) (M0 : Mem) (r : Int) (h : laws_markBook_nn a1 a2 = some r) : Ev (fun k => CN k 21 [.agg [.int .i64 a1, .nils, .nils], .int .i64 a2] M0) (laws_markBook_nn_Q a1 a2 M0 r) := by
 unfold laws_markBook_nn at h
 have fr0 : Fr [] M0 M0 := Fr.refl
 refine Ev.enter (F := fun k => f21 (CN k) k) (fun k => callN_eq rfl Try.func21 rfl rfl rfl (by decide +kernel) (f21_eq _ _)) (sq (Rg (ku (bxO rfl rfl ⟨rfl, rfl, by decide⟩) fun M2 hM3 => ?_)))
 have nf4 := Nf.mk fr0
 have fr5 := Fr.push fr0 hM3
 have o6 : M2[M0.length]? = some (.live ⟨.box, 33, 3, [[.int .i64 a1, .nils, .nils]]⟩) := push_new hM3
 obtain ⟨r12, hx11, h⟩ := bind_some h
 refine kx (mvO rfl) (Rn (hN rfl (hV (.loc M0.length 1 0 0) rfl hZ)) fun e7 h9 h10 => sN (sq (Rg (kx (faO h10 o6 rfl) (kx (ldO rfl o6 rfl rfl rfl) (kx (mvO h9) (Ev.nxw (Ev.callW rfl (cns rfl (cns rfl rfl)) (laws_markInt64S_n_ok a2 M2 _ hx11)) fun v15 M13 hq14 => ?_)))))))
 obtain ⟨hv15, fr16⟩ := hq14
 have hv15 : v15 = .int .i64 r12 := hv15
 subst hv15
 have o17 : M13[M0.length]? = some (.live ⟨.box, 33, 3, [[.int .i64 a1, .nils, .nils]]⟩) := fr16 _ _ niN o6
 have fr18 : Fr [] M0 M13 := Fr.call fr5 fr16 fwN
 obtain ⟨r24, hx23, h⟩ := bind_some h
 refine kx (mvO rfl) (Rn (hN rfl (hA h10 hZ)) fun e19 h21 h22 => sN (sq (Rg (kx (faO h22 o17 rfl) (kx (ldO rfl o17 rfl rfl rfl) (kx (mvO h21) (Ev.nxw (Ev.callW rfl (cns rfl (cns rfl rfl)) (laws_markTallyS_n_ok r12 M13 _ hx23)) fun v27 M25 hq26 => ?_)))))))
 clear h10
 obtain ⟨hv27, fr28⟩ := hq26
 have hv27 : v27 = .int .i64 r24 := hv27
 subst hv27
 have o29 : M25[M0.length]? = some (.live ⟨.box, 33, 3, [[.int .i64 a1, .nils, .nils]]⟩) := fr28 _ _ niN o17
 have fr30 : Fr [] M0 M25 := Fr.call fr18 fr28 fwN
 refine kx (mvO rfl) (Rn (hN rfl hZ) fun e31 h33 => sN (sq (Rg (kx (mvO h33) (kx (mvO rfl) (Rn (hN rfl hZ) fun e34 h36 => sN (xx ?_)))))))
 clear h22 h33
 obtain rfl := si h
 exact eR (resT h36 res0) ⟨rfl, fr30⟩
end Go.Proofs.Ytpdmcpnabjifhaa

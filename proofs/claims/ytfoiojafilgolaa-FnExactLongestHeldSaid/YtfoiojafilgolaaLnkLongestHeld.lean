/- Printed by a program of ours (ext.py). -/
import Derived.Test.YtfoiojafilgolaaLnkLongestHeldx1
set_option linter.unusedVariables false
set_option linter.unusedSimpArgs false
set_option maxRecDepth 100000
set_option maxHeartbeats 2000000
namespace Go.Proofs.Ytfoiojafilgolaa
open Go Go.Ab
/-! ### loop.example/g01263/spec.LongestHeld (f24) -/
abbrev spec_LongestHeld_b1_S := Int × (List Int)
abbrev spec_LongestHeld_b1_R := (List Int)
def spec_LongestHeld_b1_RS (a3 : Int) (r7 : List Book) (x28 : List Int) (i1_1 : Nat) (s : spec_LongestHeld_b1_S) (e : Env) (M : Mem) : Prop := eget e 2 = .int .i64 a3 ∧ eget e 9 = .sl (some 50) (r7.map Book.c) ∧ eget e 11 = .lsl i1_1 s.2.length 0 s.2.length ∧ eget e 12 = .int .i64 s.1 ∧ M[i1_1]? = some (.live ⟨.grow, 2, 1, s.2.map (cI .i64)⟩) ∧ s.2.length = x28.length
def spec_LongestHeld_b1_RR (a3 : Int) (r7 : List Book) (x28 : List Int) (i1_1 : Nat) (g : spec_LongestHeld_b1_R) (x : Ex) (e : Env) (M : Mem) : Prop := x = .ext 0 ∧ eget e 2 = .int .i64 a3 ∧ eget e 9 = .sl (some 50) (r7.map Book.c) ∧ eget e 11 = .lsl i1_1 g.length 0 g.length ∧ M[i1_1]? = some (.live ⟨.grow, 2, 1, g.map (cI .i64)⟩) ∧ g.length = x28.length
noncomputable def spec_LongestHeld_b1 (a3 : Int) (r7 : List Book) : spec_LongestHeld_b1_S → Option (spec_LongestHeld_b1_S ⊕ spec_LongestHeld_b1_R) := fun (s1_1, s1_2) =>
 if (decide (s1_1 < (r7.length : Int))) = true then
  (rd r7 (IntKind.i64.wrap (s1_1 - 1))).bind fun x76 =>
  if (decide (a3 < (x76.Tallies.length : Int))) = true then
   (rd x76.Tallies a3).bind fun x94 =>
   (rd s1_2 x94.Holder).bind fun x96 =>
   (rd r7 s1_1).bind fun x98 =>
   (rd s1_2 x94.Holder).bind fun x100 =>
   some (.inl ((IntKind.i64.wrap (s1_1 + 1)), (s1_2.set x94.Holder.toNat (IntKind.i64.wrap (x96 + (IntKind.i64.wrap (x98.Day - x76.Day)))))))
  else
   some (.inl ((IntKind.i64.wrap (s1_1 + 1)), s1_2))
 else
  some (.inr s1_2)
theorem spec_LongestHeld_b1_ok (a3 : Int) (r7 : List Book) (x28 : List Int) (i1_1 : Nat) (s : spec_LongestHeld_b1_S) (r : spec_LongestHeld_b1_S ⊕ spec_LongestHeld_b1_R) (h : spec_LongestHeld_b1 a3 r7 s = some r) (e : Env) (M : Mem) (hs : spec_LongestHeld_b1_RS a3 r7 x28 i1_1 s e M) : Ev (fun k => (f24_l6 (CN k) k (prune [2, 9, 11, 12] e) M).bind fun q => some q) (bQ (spec_LongestHeld_b1_RS a3 r7 x28 i1_1) (spec_LongestHeld_b1_RR a3 r7 x28 i1_1) r) := by
 obtain ⟨s1_1, s1_2⟩ := s
 unfold spec_LongestHeld_b1 at h
 obtain ⟨h58, h60, h62, h64, o66, hl67⟩ := hs
 generalize he57 : prune [2, 9, 11, 12] e = e56
 have h59 := envp he57.symm rfl h58
 have h61 := envp he57.symm rfl h60
 have h63 := envp he57.symm rfl h62
 have h65 := envp he57.symm rfl h64
 refine sq (sq (Rg (kx (mvO h65) (kx (mvO h61) (kx (lnS Try.underlying105 rfl) (kx (bLss rfl rfl) (Rn (hV (.int .i64 a3) h59 (hV (.sl (some 50) (r7.map Book.c)) h61 (hV (.lsl i1_1 s1_2.length 0 s1_2.length) h63 (hV (.int .i64 s1_1) h65 (hN rfl hZ))))) fun e68 h70 h71 h72 h73 h74 => sN ?_)))))))
 clear h59 h61 h63 h65
 rcases ite_some h with ⟨hb75, h⟩ | ⟨hb75, h⟩
 ·obtain ⟨x76, hx77, h⟩ := bind_some h
  refine cT h74 hb75 (xx (sN (sq (bl (sq (Rg (kx (mvO h71) (kx (mvO h73) (kx (bSub rfl rfl) (kx (ixS rfl rfl hx77 Book.fl) (kx (mvO rfl) (Rn (hA h70 (hA h71 (hA h72 (hA h73 (hN rfl hZ))))) fun e78 h80 h81 h82 h83 h84 => sN (sq (Rg (kx (mvO h80) (kx (mvO h84) (kx (ncP rfl) (kx (faP rfl ⟨ble rfl, blt rfl⟩ rfl) (kx (ldP rfl rfl) (kx (lnS Try.underlying48 rfl) (kx (bLss rfl rfl) (Rn (hA h80 (hA h81 (hA h82 (hA h83 (hA h84 (hN rfl hZ)))))) fun e85 h87 h88 h89 h90 h91 h92 => sN ?_))))))))))))))))))))))
  clear h70 h71 h72 h73 h74 h80 h81 h82 h83 h84
  rcases ite_some h with ⟨hb93, h⟩ | ⟨hb93, h⟩
  ·obtain ⟨x94, hx95, h⟩ := bind_some h
   obtain ⟨x96, hx97, h⟩ := bind_some h
   obtain ⟨x98, hx99, h⟩ := bind_some h
   obtain ⟨x100, hx101, h⟩ := bind_some h
   refine cT h92 hb93 (Rd (kf (mvO h89) (kf (mvO h91) (kf (ncP rfl) (kf (faP rfl ⟨ble rfl, blt rfl⟩ rfl) (kf (ldP rfl rfl) (kf (mvO h87) (kf (ixS rfl rfl hx95 Tally.fl) (kf (faP rfl ⟨ble rfl, blt rfl⟩ rfl) (kf (ldP rfl rfl) (kf (ixO rfl o66 rfl rfl (rd_get hx97).1 (rd_lt hx97).2) (kf (ldO rfl o66 (by simp [hl67]) (rz hx97) rfl) (kf (mvO h88) (kf (mvO h90) (kf (ixS rfl rfl hx99 Book.fl) (kf (faP rfl ⟨ble rfl, blt rfl⟩ rfl) (kf (ldP rfl rfl) (kf (mvO h91) (kf (ncP rfl) (kf (faP rfl ⟨ble rfl, blt rfl⟩ rfl) (kf (ldP rfl rfl) (kf (bSub rfl rfl) (kf (bAdd rfl rfl) (kf (ixO rfl o66 rfl rfl (rd_get hx101).1 (rd_lt hx101).2) (fZ (kw (stR (u := x100) (u' := (IntKind.i64.wrap (x96 + (IntKind.i64.wrap (x98.Day - x76.Day))))) rfl rfl o66 rfl (rz2 hx101) ⟨rfl, ble rfl⟩ rfl rfl) fun M102 hM103 => ?_))))))))))))))))))))))))))
   rw [Nat.zero_add] at hM103
   have o104 : M102[i1_1]? = some (.live ⟨.grow, 2, 1, (s1_2.set x94.Holder.toNat (IntKind.i64.wrap (x96 + (IntKind.i64.wrap (x98.Day - x76.Day))))).map (cI .i64)⟩) := set_same hM103 o66
   have hx105 := rd_set (u' := (IntKind.i64.wrap (x96 + (IntKind.i64.wrap (x98.Day - x76.Day))))) hx101
   refine Rn (hA h87 (hA h88 (hA h89 (hA h90 hZ)))) fun e106 h108 h109 h110 h111 => bN (sN (Rg (kx (mvO h111) (kx (bAdd rfl rfl) (kx (mvO rfl) (Rn (hA h108 (hA h109 (hA h110 (hN rfl hZ)))) fun e112 h114 h115 h116 h117 => ?_))))))
   clear h87 h88 h89 h90 h91 h92 h108 h109 h110
   obtain rfl := si h
   exact qN ⟨h114, h115, (lslL (L' := (s1_2.set x94.Holder.toNat (IntKind.i64.wrap (x96 + (IntKind.i64.wrap (x98.Day - x76.Day))))).length) h116 (by simp [hl67])), h117, o104, (by first | rfl | simp [hl67])⟩
  refine cF h92 hb93 (xx (bN (sN (Rg (kx (mvO h90) (kx (bAdd rfl rfl) (kx (mvO rfl) (Rn (hA h87 (hA h88 (hA h89 (hN rfl hZ)))) fun e118 h120 h121 h122 h123 => ?_))))))))
  clear h87 h88 h89 h91 h92
  obtain rfl := si h
  exact qN ⟨h120, h121, h122, h123, o66, (by first | rfl | simp [hl67])⟩
 refine cF h74 hb75 (xx (sE ?_))
 obtain rfl := si h
 exact qE ⟨rfl, h70, h71, h72, o66, (by first | rfl | simp [hl67])⟩
abbrev spec_LongestHeld_b2_S := Int × Bool × Int
abbrev spec_LongestHeld_b2_R := Int × Bool
def spec_LongestHeld_b2_RS (a3 : Int) (r7 : List Book) (y129 : List Int) (x141 : Book) (i2_1 : Nat) (s : spec_LongestHeld_b2_S) (e : Env) (M : Mem) : Prop := eget e 2 = .int .i64 a3 ∧ eget e 9 = .sl (some 50) (r7.map Book.c) ∧ eget e 11 = .lsl i2_1 y129.length 0 y129.length ∧ eget e 14 = .int .i64 s.1 ∧ eget e 15 = .pt none [.int .i64 x141.Day, .sl none (x141.Cash.map (cI .i64)), .sl none (x141.Tallies.map Tally.c)] ∧ eget e 16 = .bool s.2.1 ∧ eget e 17 = .int .i64 s.2.2 ∧ M[i2_1]? = some (.live ⟨.grow, 2, 1, y129.map (cI .i64)⟩)
def spec_LongestHeld_b2_RR (a3 : Int) (r7 : List Book) (y129 : List Int) (x141 : Book) (i2_1 : Nat) (g : spec_LongestHeld_b2_R) (x : Ex) (e : Env) (M : Mem) : Prop := x = .ext 2 ∧ eget e 2 = .int .i64 a3 ∧ eget e 9 = .sl (some 50) (r7.map Book.c) ∧ eget e 11 = .lsl i2_1 y129.length 0 y129.length ∧ eget e 14 = .int .i64 g.1 ∧ eget e 15 = .pt none [.int .i64 x141.Day, .sl none (x141.Cash.map (cI .i64)), .sl none (x141.Tallies.map Tally.c)] ∧ eget e 16 = .bool g.2 ∧ M[i2_1]? = some (.live ⟨.grow, 2, 1, y129.map (cI .i64)⟩)
noncomputable def spec_LongestHeld_b2 (y129 : List Int) : spec_LongestHeld_b2_S → Option (spec_LongestHeld_b2_S ⊕ spec_LongestHeld_b2_R) := fun (s2_1, s2_2, s2_3) =>
 if (decide (s2_3 < (y129.length : Int))) = true then
  (rd y129 s2_3).bind fun x212 =>
  (rd y129 s2_1).bind fun x214 =>
  if (decide (x212 > x214)) = true then
   if s2_2 = true then
    some (.inl (s2_3, true, (IntKind.i64.wrap (s2_3 + 1))))
   else
    (rd y129 s2_3).bind fun x255 =>
    some (.inl (s2_3, (decide (x255 > 0)), (IntKind.i64.wrap (s2_3 + 1))))
  else
   if s2_2 = true then
    some (.inl (s2_1, true, (IntKind.i64.wrap (s2_3 + 1))))
   else
    (rd y129 s2_3).bind fun x294 =>
    some (.inl (s2_1, (decide (x294 > 0)), (IntKind.i64.wrap (s2_3 + 1))))
 else
  some (.inr (s2_1, s2_2))
theorem spec_LongestHeld_b2_ok (a3 : Int) (r7 : List Book) (y129 : List Int) (x141 : Book) (i2_1 : Nat) (s : spec_LongestHeld_b2_S) (r : spec_LongestHeld_b2_S ⊕ spec_LongestHeld_b2_R) (h : spec_LongestHeld_b2 y129 s = some r) (e : Env) (M : Mem) (hs : spec_LongestHeld_b2_RS a3 r7 y129 x141 i2_1 s e M) : Ev (fun k => (f24_l15 (CN k) k (prune [2, 9, 11, 14, 15, 16, 17] e) M).bind fun q => some q) (bQ (spec_LongestHeld_b2_RS a3 r7 y129 x141 i2_1) (spec_LongestHeld_b2_RR a3 r7 y129 x141 i2_1) r) := by
 obtain ⟨s2_1, s2_2, s2_3⟩ := s
 unfold spec_LongestHeld_b2 at h
 obtain ⟨h186, h188, h190, h192, h194, h196, h198, o200⟩ := hs
 generalize he185 : prune [2, 9, 11, 14, 15, 16, 17] e = e184
 have h187 := envp he185.symm rfl h186
 have h189 := envp he185.symm rfl h188
 have h191 := envp he185.symm rfl h190
 have h193 := envp he185.symm rfl h192
 have h195 := envp he185.symm rfl h194
 have h197 := envp he185.symm rfl h196
 have h199 := envp he185.symm rfl h198
 refine sq (sq (Rg (kx (mvO h199) (kx (mvO h191) (kx (lnL Try.underlying24 rfl o200 (by simp)) (kx (bLss rfl rfl) (Rn (hV (.int .i64 a3) h187 (hV (.sl (some 50) (r7.map Book.c)) h189 (hV (.lsl i2_1 y129.length 0 y129.length) h191 (hV (.int .i64 s2_1) h193 (hV (.pt none [.int .i64 x141.Day, .sl none (x141.Cash.map (cI .i64)), .sl none (x141.Tallies.map Tally.c)]) h195 (hV (.bool s2_2) h197 (hV (.int .i64 s2_3) h199 (hN rfl hZ)))))))) fun e201 h203 h204 h205 h206 h207 h208 h209 h210 => sN ?_)))))))
 clear h187 h189 h191 h193 h195 h197 h199
 rcases ite_some h with ⟨hb211, h⟩ | ⟨hb211, h⟩
 ·obtain ⟨x212, hx213, h⟩ := bind_some h
  obtain ⟨x214, hx215, h⟩ := bind_some h
  refine cT h210 hb211 (xx (sN (sq (bl (sq (sq (Rd (kf (mvO h205) (kf (mvO h209) (kf (ixO rfl o200 rfl rfl (rd_get hx213).1 (rd_lt hx213).2) (kf (ldO rfl o200 (by simp) (rz hx213) rfl) (kf (mvO h205) (kf (mvO h206) (kf (ixO rfl o200 rfl rfl (rd_get hx215).1 (rd_lt hx215).2) (kf (ldO rfl o200 (by simp) (rz hx215) rfl) (kf (bGtr rfl rfl) (fZ (Rn (hA h203 (hA h204 (hA h205 (hA h206 (hA h207 (hA h208 (hA h209 (hN rfl hZ)))))))) fun e216 h218 h219 h220 h221 h222 h223 h224 h225 => sN ?_))))))))))))))))))
  clear h203 h204 h205 h206 h207 h208 h209 h210
  rcases ite_some h with ⟨hb226, h⟩ | ⟨hb226, h⟩
  ·refine cT h225 hb226 (Rg (kx (mvO h224) (kx (mvO rfl) (Rn (hA h218 (hA h219 (hA h220 (hN rfl (hA h222 (hA h223 (hA h224 hZ))))))) fun e227 h229 h230 h231 h232 h233 h234 h235 => sN (Rg (kx (mvO h234) (kx (mvO rfl) ?_)))))))
   clear h218 h219 h220 h222 h223 h224 h225
   rcases ite_some h with ⟨hb236, h⟩ | ⟨hb236, h⟩
   ·refine kx (gsF rfl hb236) (kx (gsF rfl hb236) (kx (gsF rfl hb236) (kx (gsF rfl hb236) (kx (gsF rfl hb236) (kx (pkT rfl hb236 rfl) (kx (mvO rfl) (Rn (hA h229 (hA h230 (hA h231 (hA h232 (hA h233 (hV (.bool true) rfl (hA h235 hZ))))))) fun e237 h239 h240 h241 h242 h243 h244 h245 => bN (sN (Rg (kx (mvO h245) (kx (bAdd rfl rfl) (kx (mvO rfl) (Rn (hA h239 (hA h240 (hA h241 (hA h242 (hA h243 (hA h244 (hN rfl hZ))))))) fun e246 h248 h249 h250 h251 h252 h253 h254 => ?_)))))))))))))
    clear h229 h230 h231 h232 h233 h235 h239 h240 h241 h242 h243 h244
    obtain rfl := si h
    exact qN ⟨h248, h249, h250, h251, h252, h253, h254, o200⟩
   obtain ⟨x255, hx256, h⟩ := bind_some h
   refine kx (guF rfl hb236 (mvO h231)) (kx (guF rfl hb236 (mvO h235)) (kx (guF rfl hb236 (ixO rfl o200 rfl rfl (rd_get hx256).1 (rd_lt hx256).2)) (kx (guF rfl hb236 (ldO rfl o200 (by simp) (rz hx256) rfl)) (kx (guF rfl hb236 (bGtr rfl rfl)) (kx (pkF rfl hb236 rfl) (kx (mvO rfl) (Rn (hA h229 (hA h230 (hA h231 (hA h232 (hA h233 (hN rfl (hA h235 hZ))))))) fun e257 h259 h260 h261 h262 h263 h264 h265 => bN (sN (Rg (kx (mvO h265) (kx (bAdd rfl rfl) (kx (mvO rfl) (Rn (hA h259 (hA h260 (hA h261 (hA h262 (hA h263 (hA h264 (hN rfl hZ))))))) fun e266 h268 h269 h270 h271 h272 h273 h274 => ?_)))))))))))))
   clear h229 h230 h231 h232 h233 h235 h259 h260 h261 h262 h263 h264
   obtain rfl := si h
   exact qN ⟨h268, h269, h270, h271, h272, h273, h274, o200⟩
  refine cF h225 hb226 (xx (sN (Rg (kx (mvO h223) (kx (mvO rfl) ?_)))))
  rcases ite_some h with ⟨hb275, h⟩ | ⟨hb275, h⟩
  ·refine kx (gsF rfl hb275) (kx (gsF rfl hb275) (kx (gsF rfl hb275) (kx (gsF rfl hb275) (kx (gsF rfl hb275) (kx (pkT rfl hb275 rfl) (kx (mvO rfl) (Rn (hA h218 (hA h219 (hA h220 (hA h221 (hA h222 (hV (.bool true) rfl (hA h224 hZ))))))) fun e276 h278 h279 h280 h281 h282 h283 h284 => bN (sN (Rg (kx (mvO h284) (kx (bAdd rfl rfl) (kx (mvO rfl) (Rn (hA h278 (hA h279 (hA h280 (hA h281 (hA h282 (hA h283 (hN rfl hZ))))))) fun e285 h287 h288 h289 h290 h291 h292 h293 => ?_)))))))))))))
   clear h218 h219 h220 h221 h222 h224 h225 h278 h279 h280 h281 h282 h283
   obtain rfl := si h
   exact qN ⟨h287, h288, h289, h290, h291, h292, h293, o200⟩
  obtain ⟨x294, hx295, h⟩ := bind_some h
  refine kx (guF rfl hb275 (mvO h220)) (kx (guF rfl hb275 (mvO h224)) (kx (guF rfl hb275 (ixO rfl o200 rfl rfl (rd_get hx295).1 (rd_lt hx295).2)) (kx (guF rfl hb275 (ldO rfl o200 (by simp) (rz hx295) rfl)) (kx (guF rfl hb275 (bGtr rfl rfl)) (kx (pkF rfl hb275 rfl) (kx (mvO rfl) (Rn (hA h218 (hA h219 (hA h220 (hA h221 (hA h222 (hN rfl (hA h224 hZ))))))) fun e296 h298 h299 h300 h301 h302 h303 h304 => bN (sN (Rg (kx (mvO h304) (kx (bAdd rfl rfl) (kx (mvO rfl) (Rn (hA h298 (hA h299 (hA h300 (hA h301 (hA h302 (hA h303 (hN rfl hZ))))))) fun e305 h307 h308 h309 h310 h311 h312 h313 => ?_)))))))))))))
  clear h218 h219 h220 h221 h222 h224 h225 h298 h299 h300 h301 h302 h303
  obtain rfl := si h
  exact qN ⟨h307, h308, h309, h310, h311, h312, h313, o200⟩
 refine cF h210 hb211 (xx (sE ?_))
 obtain rfl := si h
 exact qE ⟨rfl, h203, h204, h205, h206, h207, h208, o200⟩
noncomputable def spec_LongestHeld (a1 : Book) (a2 : List Deal) (a3 : Int) : Option (Int × Int × Int) :=
 (spec_l07Known a1 a2 a3).bind fun (r7, r8) =>
 if (r8 != 0) = true then
  some (0, 0, r8)
 else
  (mkS 8 0 (a1.Cash.length : Int)).bind fun x28 =>
  (Lw (spec_LongestHeld_b1 a3 r7) (1, x28)).bind fun y129 =>
  (rd r7 (IntKind.i64.wrap ((r7.length : Int) - 1))).bind fun x141 =>
  (Lw (spec_LongestHeld_b2 y129) (0, false, 0)).bind fun (y319, y320) =>
  if y320 = true then
   (rd y129 y319).bind fun x337 =>
   some (y319, x337, 0)
  else
   (rd x141.Tallies a3).bind fun x344 =>
   (spec_l07Least r7 a3 x344.Holder).bind fun r347 =>
   (rd y129 r347).bind fun x352 =>
   some (r347, x352, 0)
def spec_LongestHeld_enc (r : Int × Int × Int) : AV := .tup [.int .i64 r.1, .int .i64 r.2.1, .int .i64 r.2.2]
theorem spec_LongestHeld_ok (a1 : Book) (a2 : List Deal) (a3 : Int) (r : Int × Int × Int) (h : spec_LongestHeld a1 a2 a3 = some r) : Ev (fun k => CN k 24 [.agg [.int .i64 a1.Day, .sl none (a1.Cash.map (cI .i64)), .sl none (a1.Tallies.map Tally.c)], .sl none (a2.map Deal.c), .int .i64 a3] []) (fun p => rRes p.2 p.1 = spec_LongestHeld_enc r) := by
 unfold spec_LongestHeld at h
 obtain ⟨⟨r7, r8⟩, hx6, h⟩ := bind_some h
 refine Ev.enter (F := fun k => f24 (CN k) k) (fun k => callN_eq rfl Try.func24 rfl rfl rfl (by decide +kernel) (f24_eq _ _)) (sq (Rg (kx (bxI rfl rfl ⟨rfl, rfl, by decide⟩) (kx (mvO rfl) (kx (mvO rfl) (kx (mvO rfl) (Rn (hN rfl (hN rfl (hN rfl hZ))) fun e1 h3 h4 h5 => sN (sq (Rg (kx (mvO h3) (kx (mvO h4) (kc (cl (v := .tup [.sl (some 50) (r7.map Book.c), .int .i64 r8]) rfl (cns h5 (cns rfl (cns rfl rfl))) rfl (spec_l07Known_ok a1 a2 a3 _ hx6) nm) (kx (mvO rfl) (kx (exT rfl rfl) (kx (exT rfl rfl) (kx (mvO rfl) (kx (mvO rfl) (Rn (hA h4 (hA h5 (hN rfl (hN rfl hZ)))) fun e9 h11 h12 h13 h14 => sN (sq (sq (Rg (kx (mvO h14) (kx (bNeq rfl rfl) (Rn (hA h11 (hA h12 (hA h13 (hA h14 (hN rfl hZ))))) fun e15 h17 h18 h19 h20 h21 => sN ?_))))))))))))))))))))))))
 clear h3 h4 h5 h11 h12 h13 h14
 rcases ite_some h with ⟨hb22, h⟩ | ⟨hb22, h⟩
 ·refine cT h21 hb22 (sq (Rg (kx (mvO h20) (kx (mvO rfl) (kx (mvO rfl) (kx (mvO rfl) (Rn (hV (.int .i64 0) rfl (hV (.int .i64 0) rfl (hN rfl hZ))) fun e23 h25 h26 h27 => sN (xx (sR ?_)))))))))
  clear h17 h18 h19 h20 h21
  obtain rfl := si h
  exact eR (resT h25 (resT h26 (resT h27 res0))) rfl
 obtain ⟨x28, hx29, h⟩ := bind_some h
 refine cF h21 hb22 (xx (sN (sq (Rg (kx (faP h18 ⟨ble rfl, blt rfl⟩ rfl) (kx (ldP rfl rfl) (kx (lnS Try.underlying24 rfl) (ku (mkO rfl rfl hx29 (c := (cI .i64)) zero2 (cI_fl _) (by decide)) fun M31 hM32 => ?_))))))))
 have o33 : M31[([] : Mem).length]? = some (.live ⟨.grow, 2, 1, x28.map (cI .i64)⟩) := push_new hM32
 obtain ⟨y129, hr125, h⟩ := bind_some h
 refine kx (mvO rfl) (Rn (hA h17 (hA h19 (hV (.lsl ([] : Mem).length x28.length 0 x28.length) rfl hZ))) fun e34 h36 h37 h38 => sN (sq (sq (Rg (kx (mvO rfl) (Rn (hA h36 (hA h37 (hA h38 (hV (.int .i64 1) rfl hZ)))) fun e39 h41 h42 h43 h44 => sN (bl (Ev.loop (RS := spec_LongestHeld_b1_RS a3 r7 x28 (([] : Mem).length)) (RR := spec_LongestHeld_b1_RR a3 r7 x28 (([] : Mem).length)) (fun s r h e M hs => spec_LongestHeld_b1_ok a3 r7 x28 (([] : Mem).length) s r h e M hs) hr125 ⟨h41, h42, h43, h44, o33, rfl⟩ fun x e127 M128 hq126 => ?_))))))))
 clear h17 h18 h19 h20 h21 h36 h37 h38
 obtain ⟨rfl, h130, h131, h132, o133, hl134⟩ := hq126
 obtain ⟨x141, hx142, h⟩ := bind_some h
 obtain ⟨⟨y319, y320⟩, hr315, h⟩ := bind_some h
 refine bE (sN (sq (Rg (kx (mvO rfl) (Rn (hA h130 (hV (.sl (some 50) (r7.map Book.c)) h131 (hV (.lsl ([] : Mem).length y129.length 0 y129.length) h132 (hV (.int .i64 0) rfl hZ)))) fun e135 h137 h138 h139 h140 => sN (sq (Rg (kx (mvO h138) (kx (mvO h138) (kx (lnS Try.underlying105 rfl) (kx (bSub rfl rfl) (kx (ixS rfl rfl hx142 Book.fl) (kx (mvO rfl) (Rn (hA h137 (hA h138 (hA h139 (hA h140 (hN rfl hZ))))) fun e143 h145 h146 h147 h148 h149 => sN (sq (Rg (kx (mvO rfl) (Rn (hA h145 (hA h146 (hA h147 (hA h148 (hA h149 (hV (.bool false) rfl hZ)))))) fun e150 h152 h153 h154 h155 h156 h157 => sN (sq (sq (Rg (kx (mvO rfl) (Rn (hA h152 (hA h153 (hA h154 (hA h155 (hA h156 (hA h157 (hV (.int .i64 0) rfl hZ))))))) fun e158 h160 h161 h162 h163 h164 h165 h166 => sN (bl (Ev.loop (RS := spec_LongestHeld_b2_RS a3 r7 y129 x141 (([] : Mem).length)) (RR := spec_LongestHeld_b2_RR a3 r7 y129 x141 (([] : Mem).length)) (fun s r h e M hs => spec_LongestHeld_b2_ok a3 r7 y129 x141 (([] : Mem).length) s r h e M hs) hr315 ⟨h160, h161, h162, h163, h164, h165, h166, o133⟩ fun x e317 M318 hq316 => ?_)))))))))))))))))))))))))
 clear h130 h131 h132 h137 h138 h139 h140 h145 h146 h147 h148 h149 h152 h153 h154 h155 h156 h157
 obtain ⟨rfl, h321, h322, h323, h324, h325, h326, o327⟩ := hq316
 refine bE (sN (sq (sq (Rg (kx (mvO h326) (kx (uNot rfl) (Rn (hV (.int .i64 a3) h321 (hV (.sl (some 50) (r7.map Book.c)) h322 (hV (.lsl ([] : Mem).length y129.length 0 y129.length) h323 (hV (.int .i64 y319) h324 (hV (.pt none [.int .i64 x141.Day, .sl none (x141.Cash.map (cI .i64)), .sl none (x141.Tallies.map Tally.c)]) h325 (hN rfl hZ)))))) fun e328 h330 h331 h332 h333 h334 h335 => sN ?_)))))))
 clear h321 h322 h323 h324 h325 h326
 rcases ite_some h with ⟨hb336, h⟩ | ⟨hb336, h⟩
 ·obtain ⟨x337, hx338, h⟩ := bind_some h
  refine cF h335 (congrArg Bool.not hb336) (xx (sN (sq (Rd (kf (mvO h333) (kf (mvO h332) (kf (mvO h333) (kf (ixO rfl o327 rfl rfl (rd_get hx338).1 (rd_lt hx338).2) (kf (ldO rfl o327 (by simp [hl134]) (rz hx338) rfl) (kf (mvO rfl) (kf (mvO rfl) (kf (mvO rfl) (fZ (Rn (hN rfl (hN rfl (hV (.int .i64 0) rfl hZ))) fun e339 h341 h342 h343 => sN (xx ?_)))))))))))))))
  clear h330 h331 h332 h333 h334 h335
  obtain rfl := si h
  exact eR (resT h341 (resT h342 (resT h343 res0))) rfl
 obtain ⟨x344, hx345, h⟩ := bind_some h
 obtain ⟨r347, hx346, h⟩ := bind_some h
 obtain ⟨x352, hx353, h⟩ := bind_some h
 refine cT h335 (congrArg Bool.not hb336) (Rg (kx (mvO h331) (kx (mvO h330) (kx (mvO h334) (kx (ncP rfl) (kx (faP rfl ⟨ble rfl, blt rfl⟩ rfl) (kx (ldP rfl rfl) (kx (mvO h330) (kx (ixS rfl rfl hx345 Tally.fl) (kx (faP rfl ⟨ble rfl, blt rfl⟩ rfl) (kx (ldP rfl rfl) (kc (cl (v := .int .i64 r347) rfl (cns rfl (cns rfl (cns rfl rfl))) rfl (spec_l07Least_ok r7 a3 x344.Holder _ hx346) nm) (kx (mvO rfl) (Rn (hA h332 (hN rfl hZ)) fun e348 h350 h351 => sN (sq (Rd (kf (mvO h351) (kf (mvO h350) (kf (mvO h351) (kf (ixO rfl o327 rfl rfl (rd_get hx353).1 (rd_lt hx353).2) (kf (ldO rfl o327 (by simp [hl134]) (rz hx353) rfl) (kf (mvO rfl) (kf (mvO rfl) (kf (mvO rfl) (fZ (Rn (hN rfl (hN rfl (hV (.int .i64 0) rfl hZ))) fun e354 h356 h357 h358 => sN (xx ?_)))))))))))))))))))))))))))
 clear h330 h331 h332 h334 h335 h350 h351
 obtain rfl := si h
 exact eR (resT h356 (resT h357 (resT h358 res0))) rfl
/-! ### loop.example/g01263/laws.szDealS (f23) -/
noncomputable def laws_szDealS (a1 : List Deal) (a2 : Int) : Option Int :=
 if (decide ((IntKind.i64.wrap (a2 - (a1.length : Int))) < 0)) = true then
  some (-1)
 else
  some (IntKind.i64.wrap (a2 - (a1.length : Int)))
def laws_szDealS_enc (r : Int) : AV := .int .i64 r
theorem laws_szDealS_ok (a1 : List Deal) (a2 : Int) (r : Int) (h : laws_szDealS a1 a2 = some r) : Ev (fun k => CN k 23 [.sl none (a1.map Deal.c), .int .i64 a2] []) (fun p => rRes p.2 p.1 = laws_szDealS_enc r) := by
 unfold laws_szDealS at h
 refine Ev.enter (F := fun k => f23 (CN k) k) (fun k => callN_eq rfl Try.func23 rfl rfl rfl (by decide +kernel) (f23_eq _ _)) (sq (Rg (kx (mvO rfl) (Rn (hN rfl (hN rfl hZ)) fun e1 h3 h4 => sN (sq (Rg (kx (mvO h4) (kx (mvO h3) (kx (lnS Try.underlying43 rfl) (kx (bSub rfl rfl) (kx (mvO rfl) (Rn (hN rfl hZ) fun e5 h7 => sN (sq (sq (Rg (kx (mvO h7) (kx (bLss rfl rfl) (Rn (hA h7 (hN rfl hZ)) fun e8 h10 h11 => sN ?_))))))))))))))))))
 clear h3 h7
 rcases ite_some h with ⟨hb12, h⟩ | ⟨hb12, h⟩
 ·refine cT h11 hb12 (sq (Rg (kx (mvO rfl) (Rn (hV (.int .i64 (-1)) rfl hZ) fun e13 h15 => sN (xx (sR ?_))))))
  clear h10 h11
  obtain rfl := si h
  exact eR (resT h15 res0) rfl
 refine cF h11 hb12 (xx (sN (sq (Rg (kx (mvO h10) (kx (mvO rfl) (Rn (hN rfl hZ) fun e16 h18 => sN (xx ?_))))))))
 clear h10 h11
 obtain rfl := si h
 exact eR (resT h18 res0) rfl
/-! ### loop.example/g01263/laws.szBook (f22) -/
noncomputable def laws_szBook (a1 : Book) (a2 : Int) : Option Int :=
 (laws_szInt64S a1.Cash a2).bind fun r6 =>
 if (decide (r6 < 0)) = true then
  some (-1)
 else
  (laws_szTallyS a1.Tallies r6).bind fun r21 =>
  if (decide (r21 < 0)) = true then
   some (-1)
  else
   some r21
def laws_szBook_enc (r : Int) : AV := .int .i64 r
theorem laws_szBook_ok (a1 : Book) (a2 : Int) (r : Int) (h : laws_szBook a1 a2 = some r) : Ev (fun k => CN k 22 [.agg [.int .i64 a1.Day, .sl none (a1.Cash.map (cI .i64)), .sl none (a1.Tallies.map Tally.c)], .int .i64 a2] []) (fun p => rRes p.2 p.1 = laws_szBook_enc r) := by
 unfold laws_szBook at h
 obtain ⟨r6, hx5, h⟩ := bind_some h
 refine Ev.enter (F := fun k => f22 (CN k) k) (fun k => callN_eq rfl Try.func22 rfl rfl rfl (by decide +kernel) (f22_eq _ _)) (sq (Rg (kx (bxI rfl rfl ⟨rfl, rfl, by decide⟩) (kx (mvO rfl) (Rn (hN rfl (hN rfl hZ)) fun e1 h3 h4 => sN (sq (Rg (kx (faP h4 ⟨ble rfl, blt rfl⟩ rfl) (kx (ldP rfl rfl) (kx (mvO h3) (kc (cl (v := .int .i64 r6) rfl (cns rfl (cns rfl rfl)) rfl (laws_szInt64S_ok a1.Cash a2 _ hx5) nm) (kx (mvO rfl) (Rn (hN rfl (hA h4 hZ)) fun e7 h9 h10 => sN (sq (sq (Rg (kx (mvO h9) (kx (bLss rfl rfl) (Rn (hA h9 (hA h10 (hN rfl hZ))) fun e11 h13 h14 h15 => sN ?_)))))))))))))))))))
 clear h4 h10 h9
 rcases ite_some h with ⟨hb16, h⟩ | ⟨hb16, h⟩
 ·refine cT h15 hb16 (sq (Rg (kx (mvO rfl) (Rn (hV (.int .i64 (-1)) rfl hZ) fun e17 h19 => sN (xx (sR ?_))))))
  clear h13 h14 h15
  obtain rfl := si h
  exact eR (resT h19 res0) rfl
 obtain ⟨r21, hx20, h⟩ := bind_some h
 refine cF h15 hb16 (xx (sN (sq (Rg (kx (faP h14 ⟨ble rfl, blt rfl⟩ rfl) (kx (ldP rfl rfl) (kx (mvO h13) (kc (cl (v := .int .i64 r21) rfl (cns rfl (cns rfl rfl)) rfl (laws_szTallyS_ok a1.Tallies r6 _ hx20) nm) (kx (mvO rfl) (Rn (hN rfl hZ) fun e22 h24 => sN (sq (sq (Rg (kx (mvO h24) (kx (bLss rfl rfl) (Rn (hA h24 (hN rfl hZ)) fun e25 h27 h28 => sN ?_))))))))))))))))
 clear h14 h15 h24
 rcases ite_some h with ⟨hb29, h⟩ | ⟨hb29, h⟩
 ·refine cT h28 hb29 (sq (Rg (kx (mvO rfl) (Rn (hV (.int .i64 (-1)) rfl hZ) fun e30 h32 => sN (xx (sR ?_))))))
  clear h27 h28
  obtain rfl := si h
  exact eR (resT h32 res0) rfl
 refine cF h28 hb29 (xx (sN (sq (Rg (kx (mvO h27) (kx (mvO rfl) (Rn (hN rfl hZ) fun e33 h35 => sN (xx ?_))))))))
 clear h27 h28
 obtain rfl := si h
 exact eR (resT h35 res0) rfl
/-! ### loop.example/g01263/laws.FnExactLongestHeld (f5) -/
def laws_FnExactLongestHeld_c1_Q (a1 : Book) (a2 : List Deal) (r68 : Int) (r69 : List Int) (r70 : List Tally) (r88 : List Deal) (i901_1 : Nat) (g : Bool) (q : Out) : Prop := q.1 = .nrm ∧ eget q.2.1 1 = .sl none (a2.map Deal.c) ∧ eget q.2.1 3 = .pt none [.int .i64 a1.Day, .sl none (a1.Cash.map (cI .i64)), .sl none (a1.Tallies.map Tally.c)] ∧ eget q.2.1 11 = .loc i901_1 1 0 0 ∧ eget q.2.1 12 = .sl (some 114) (r88.map Deal.c) ∧ eget q.2.1 60 = .bool g ∧ q.2.2[i901_1]? = some (.live ⟨.box, 50, 3, [[.int .i64 r68, .sl none (r69.map (cI .i64)), .sl none (r70.map Tally.c)]]⟩)
noncomputable def laws_FnExactLongestHeld (a1 : Book) (a2 : List Deal) (a3 : Int) : Option Bool :=
 (laws_szBook a1 1048576).bind fun r13 =>
 if (decide (r13 < 0)) = true then
  some true
 else
  (laws_szDealS a2 r13).bind fun r32 =>
  if (decide (r32 < 0)) = true then
   some true
  else
   (laws_toBook a1).bind fun (r50, r51, r52) =>
   (laws_toDealS a2).bind fun r54 =>
   (spec_LongestHeld (Book.mk r50 r51 r52) r54 a3).bind fun (r56, r57, r58) =>
   (laws_toBook a1).bind fun (r68, r69, r70) =>
   (laws_toDealS a2).bind fun r88 =>
   (impl_LongestHeld (Book.mk r68 r69 r70) r88 a3).bind fun (r100, r101, r102) =>
   (if (r100 != r56) = true then
    some true
   else
    if (r101 != r57) = true then
     some true
    else
     some (r102 != r58)).bind fun y140 =>
   if y140 = true then
    some false
   else
    (laws_toBook a1).bind fun (r152, r153, r154) =>
    (laws_eqBook (Book.mk r68 r69 r70) (Book.mk r152 r153 r154)).bind fun r156 =>
    if r156 = true then
     (laws_toDealS a2).bind fun r164 =>
     (laws_eqDealS r88 r164).bind fun r166 =>
     if r166 = true then
      some true
     else
      some false
    else
     some false
def laws_FnExactLongestHeld_enc (r : Bool) : AV := .bool r
theorem laws_FnExactLongestHeld_ok (a1 : Book) (a2 : List Deal) (a3 : Int) (r : Bool) (h : laws_FnExactLongestHeld a1 a2 a3 = some r) : Ev (fun k => CN k 5 [.agg [.int .i64 a1.Day, .sl none (a1.Cash.map (cI .i64)), .sl none (a1.Tallies.map Tally.c)], .sl none (a2.map Deal.c), .int .i64 a3] []) (fun p => rRes p.2 p.1 = laws_FnExactLongestHeld_enc r) := by
 unfold laws_FnExactLongestHeld at h
 obtain ⟨r13, hx12, h⟩ := bind_some h
 refine Ev.enter (F := fun k => f5 (CN k) k) (fun k => callN_eq rfl Try.func5 rfl rfl rfl (by decide +kernel) (f5_eq _ _)) (sq (Rg (kx (bxI rfl rfl ⟨rfl, rfl, by decide⟩) (kx (mvO rfl) (Rn (hN rfl (hN rfl (hN rfl hZ))) fun e1 h3 h4 h5 => sN (sq (Rg (kx (mvO rfl) (Rn (hA h3 (hA h4 (hA h5 (hV (.int .i64 1048576) rfl hZ)))) fun e6 h8 h9 h10 h11 => sN (sq (Rg (kx (ldPA h10 rfl rfl) (kx (mvO h11) (kc (cl (v := .int .i64 r13) rfl (cns rfl (cns rfl rfl)) rfl (laws_szBook_ok a1 1048576 _ hx12) nm) (kx (mvO rfl) (Rn (hA h8 (hA h9 (hA h10 (hN rfl hZ)))) fun e14 h16 h17 h18 h19 => sN (sq (sq (Rg (kx (mvO h19) (kx (bLss rfl rfl) (Rn (hA h16 (hA h17 (hA h18 (hA h19 (hN rfl hZ))))) fun e20 h22 h23 h24 h25 h26 => sN ?_))))))))))))))))))))))
 clear h3 h4 h5 h10 h8 h9 h16 h17 h18 h19
 rcases ite_some h with ⟨hb27, h⟩ | ⟨hb27, h⟩
 ·refine cT h26 hb27 (sq (Rg (kx (mvO rfl) (Rn (hV (.bool true) rfl hZ) fun e28 h30 => sN (xx (sR ?_))))))
  clear h22 h23 h24 h25 h26
  obtain rfl := si h
  exact eR (resT h30 res0) rfl
 obtain ⟨r32, hx31, h⟩ := bind_some h
 refine cF h26 hb27 (xx (sN (sq (Rg (kx (mvO h22) (kx (mvO h25) (kc (cl (v := .int .i64 r32) rfl (cns rfl (cns rfl rfl)) rfl (laws_szDealS_ok a2 r13 _ hx31) nm) (kx (mvO rfl) (Rn (hA h22 (hA h23 (hA h24 (hN rfl hZ)))) fun e33 h35 h36 h37 h38 => sN (sq (sq (Rg (kx (mvO h38) (kx (bLss rfl rfl) (Rn (hA h35 (hA h36 (hA h37 (hN rfl hZ)))) fun e39 h41 h42 h43 h44 => sN ?_)))))))))))))))
 clear h22 h23 h24 h26 h35 h36 h37 h38
 rcases ite_some h with ⟨hb45, h⟩ | ⟨hb45, h⟩
 ·refine cT h44 hb45 (sq (Rg (kx (mvO rfl) (Rn (hV (.bool true) rfl hZ) fun e46 h48 => sN (xx (sR ?_))))))
  clear h41 h42 h43 h44
  obtain rfl := si h
  exact eR (resT h48 res0) rfl
 obtain ⟨⟨r50, r51, r52⟩, hx49, h⟩ := bind_some h
 obtain ⟨r54, hx53, h⟩ := bind_some h
 obtain ⟨⟨r56, r57, r58⟩, hx55, h⟩ := bind_some h
 obtain ⟨⟨r68, r69, r70⟩, hx67, h⟩ := bind_some h
 refine cF h44 hb45 (xx (sN (sq (Rg (kx (ldPA h43 rfl rfl) (kc (cl (v := .agg [.int .i64 r50, .sl none (r51.map (cI .i64)), .sl none (r52.map Tally.c)]) rfl (cns rfl rfl) rfl (laws_toBook_ok a1 _ hx49) nm) (kx (mvO h41) (kc (cl (v := .sl (some 114) (r54.map Deal.c)) rfl (cns rfl rfl) rfl (laws_toDealS_ok a2 _ hx53) nm) (kx (mvO h42) (kc (cl (v := .tup [.int .i64 r56, .int .i64 r57, .int .i64 r58]) rfl (cns rfl (cns rfl (cns rfl rfl))) rfl (spec_LongestHeld_ok (Book.mk r50 r51 r52) r54 a3 _ hx55) nm) (kx (mvO rfl) (kx (exT rfl rfl) (kx (exT rfl rfl) (kx (exT rfl rfl) (kx (mvO rfl) (kx (mvO rfl) (kx (mvO rfl) (Rn (hA h41 (hA h42 (hA h43 (hN rfl (hN rfl (hN rfl hZ)))))) fun e59 h61 h62 h63 h64 h65 h66 => sN (sq (Rg (kx (ldPA h63 rfl rfl) (kc (cl (v := .agg [.int .i64 r68, .sl none (r69.map (cI .i64)), .sl none (r70.map Tally.c)]) rfl (cns rfl rfl) rfl (laws_toBook_ok a1 _ hx67) nm) (ku (alO zero50) fun M72 hM73 => ?_)))))))))))))))))))))))
 clear h41 h42 h43 h44
 have o74 : M72[([] : Mem).length]? = some (.live ⟨.box, 50, 3, [[.int .i64 0, .nils, .nils]]⟩) := push_new hM73
 refine kw (stO rfl rfl o74 rfl rfl ⟨rfl, ble rfl⟩ rfl rfl) fun M75 hM76 => ?_
 have o77 : M75[([] : Mem).length]? = some (.live ⟨.box, 50, 3, [[.int .i64 r68, .sl none (r69.map (cI .i64)), .sl none (r70.map Tally.c)]]⟩) := set_same hM76 o74
 obtain ⟨r88, hx87, h⟩ := bind_some h
 obtain ⟨⟨r100, r101, r102⟩, hx99, h⟩ := bind_some h
 obtain ⟨r181, hr182, h⟩ := bind_some h
 refine Rn (hA h61 (hA h62 (hA h63 (hA h64 (hA h65 (hA h66 (hV (.loc ([] : Mem).length 1 0 0) rfl hZ))))))) fun e78 h80 h81 h82 h83 h84 h85 h86 => sN (sq (Rg (kx (mvO h80) (kc (cl (v := .sl (some 114) (r88.map Deal.c)) rfl (cns rfl rfl) rfl (laws_toDealS_ok a2 _ hx87) nm) (kx (mvO rfl) (Rn (hA h80 (hA h81 (hA h82 (hA h83 (hA h84 (hA h85 (hA h86 (hN rfl hZ)))))))) fun e89 h91 h92 h93 h94 h95 h96 h97 h98 => sN (sq (Rg (kx (ldOA h97 o77 rfl rfl (ble rfl) rfl) (kx (mvO h98) (kx (mvO h92) (kc (cl (v := .tup [.int .i64 r100, .int .i64 r101, .int .i64 r102]) rfl (cns rfl (cns rfl (cns rfl rfl))) rfl (impl_LongestHeld_ok (Book.mk r68 r69 r70) r88 a3 _ hx99) nm) (kx (mvO rfl) (kx (exT rfl rfl) (kx (exT rfl rfl) (kx (exT rfl rfl) (kx (mvO rfl) (kx (mvO rfl) (kx (mvO rfl) (Rn (hA h91 (hA h93 (hA h94 (hA h95 (hA h96 (hA h97 (hA h98 (hN rfl (hN rfl (hN rfl hZ)))))))))) fun e103 h105 h106 h107 h108 h109 h110 h111 h112 h113 h114 => sN (sq (sq ?_))))))))))))))))))))))
 clear h61 h62 h63 h64 h65 h66 h80 h81 h82 h83 h84 h85 h86 h91 h92 h93 h94 h95 h96 h97 h98
 refine Ev.cut (Q1 := laws_FnExactLongestHeld_c1_Q a1 a2 r68 r69 r70 r88 (([] : Mem).length) r181) (by
     have h := hr182
     refine Rg (kx (mvO h112) (kx (mvO h107) (kx (bNeq rfl rfl) (kx (mvO rfl) ?_))))
     rcases ite_some h with ⟨hb115, h⟩ | ⟨hb115, h⟩
     ·refine kx (gsF rfl hb115) (kx (gsF rfl hb115) (kx (gsF rfl hb115) (kx (pkT rfl hb115 rfl) (kx (mvO rfl) (kx (gsF rfl rfl) (kx (gsF rfl rfl) (kx (gsF rfl rfl) (kx (pkT rfl rfl rfl) (Rn (hA h105 (hA h106 (hA h110 (hA h111 (hV (.bool true) rfl hZ))))) fun e116 h118 h119 h120 h121 h122 => ?_)))))))))
      clear h105 h106 h107 h108 h109 h110 h111 h112 h113 h114
      obtain rfl := si h
      exact kd (show laws_FnExactLongestHeld_c1_Q a1 a2 r68 r69 r70 r88 (([] : Mem).length) _ _ from ⟨rfl, h118, h119, h120, h121, h122, o77⟩)
     refine kx (guF rfl hb115 (mvO h113)) (kx (guF rfl hb115 (mvO h108)) (kx (guF rfl hb115 (bNeq rfl rfl)) (kx (pkF rfl hb115 rfl) (kx (mvO rfl) ?_))))
     rcases ite_some h with ⟨hb123, h⟩ | ⟨hb123, h⟩
     ·refine kx (gsF rfl hb123) (kx (gsF rfl hb123) (kx (gsF rfl hb123) (kx (pkT rfl hb123 rfl) (Rn (hA h105 (hA h106 (hA h110 (hA h111 (hV (.bool true) rfl hZ))))) fun e124 h126 h127 h128 h129 h130 => ?_))))
      clear h105 h106 h107 h108 h109 h110 h111 h112 h113 h114
      obtain rfl := si h
      exact kd (show laws_FnExactLongestHeld_c1_Q a1 a2 r68 r69 r70 r88 (([] : Mem).length) _ _ from ⟨rfl, h126, h127, h128, h129, h130, o77⟩)
     refine kx (guF rfl hb123 (mvO h114)) (kx (guF rfl hb123 (mvO h109)) (kx (guF rfl hb123 (bNeq rfl rfl)) (kx (pkF rfl hb123 rfl) (Rn (hA h105 (hA h106 (hA h110 (hA h111 (hN rfl hZ))))) fun e131 h133 h134 h135 h136 h137 => ?_))))
     clear h105 h106 h107 h108 h109 h110 h111 h112 h113 h114
     obtain rfl := si h
     exact kd (show laws_FnExactLongestHeld_c1_Q a1 a2 r68 r69 r70 r88 (([] : Mem).length) _ _ from ⟨rfl, h133, h134, h135, h136, h137, o77⟩)) ?_
 revert h hr182
 revert r181
 intro y140 hr182 h
 intro x e138 M139 hq180
 obtain ⟨rfl, h141, h142, h143, h144, h145, o146⟩ := hq180
 refine sN ?_
 rcases ite_some h with ⟨hb147, h⟩ | ⟨hb147, h⟩
 ·refine cT h145 hb147 (sq (Rg (kx (mvO rfl) (Rn (hV (.bool false) rfl hZ) fun e148 h150 => sN (xx (sR ?_))))))
  clear h141 h142 h143 h144 h145
  obtain rfl := si h
  exact eR (resT h150 res0) rfl
 obtain ⟨⟨r152, r153, r154⟩, hx151, h⟩ := bind_some h
 obtain ⟨r156, hx155, h⟩ := bind_some h
 refine cF h145 hb147 (xx (sN (sq (sq (Rd (kf (ldOA h143 o146 rfl rfl (ble rfl) rfl) (kf (ldPA h142 rfl rfl) (fc (cl (v := .agg [.int .i64 r152, .sl none (r153.map (cI .i64)), .sl none (r154.map Tally.c)]) rfl (cns rfl rfl) rfl (laws_toBook_ok a1 _ hx151) nm) (fc (cl (v := .bool r156) rfl (cns rfl (cns rfl rfl)) rfl (laws_eqBook_ok (Book.mk r68 r69 r70) (Book.mk r152 r153 r154) _ hx155) nm) (kf (uNot rfl) (fZ (Rn (hV (.sl none (a2.map Deal.c)) h141 (hV (.sl (some 114) (r88.map Deal.c)) h144 (hN rfl hZ))) fun e157 h159 h160 h161 => sN ?_))))))))))))
 clear h141 h142 h143 h144 h145
 rcases ite_some h with ⟨hb162, h⟩ | ⟨hb162, h⟩
 ·obtain ⟨r164, hx163, h⟩ := bind_some h
  obtain ⟨r166, hx165, h⟩ := bind_some h
  refine cF h161 (congrArg Bool.not hb162) (xx (sN (sq (sq (Rg (kx (mvO h160) (kx (mvO h159) (kc (cl (v := .sl (some 114) (r164.map Deal.c)) rfl (cns rfl rfl) rfl (laws_toDealS_ok a2 _ hx163) nm) (kc (cl (v := .bool r166) rfl (cns rfl (cns rfl rfl)) rfl (laws_eqDealS_ok r88 r164 _ hx165) nm) (kx (uNot rfl) (Rn (hN rfl hZ) fun e167 h169 => sN ?_)))))))))))
  clear h159 h160 h161
  rcases ite_some h with ⟨hb170, h⟩ | ⟨hb170, h⟩
  ·refine cF h169 (congrArg Bool.not hb170) (xx (sN (sq (Rg (kx (mvO rfl) (Rn (hV (.bool true) rfl hZ) fun e171 h173 => sN (xx ?_)))))))
   clear h169
   obtain rfl := si h
   exact eR (resT h173 res0) rfl
  refine cT h169 (congrArg Bool.not hb170) (sq (Rg (kx (mvO rfl) (Rn (hV (.bool false) rfl hZ) fun e174 h176 => sN (xx (sR ?_))))))
  clear h169
  obtain rfl := si h
  exact eR (resT h176 res0) rfl
 refine cT h161 (congrArg Bool.not hb162) (sq (Rg (kx (mvO rfl) (Rn (hV (.bool false) rfl hZ) fun e177 h179 => sN (xx (sR ?_))))))
 clear h159 h160 h161
 obtain rfl := si h
 exact eR (resT h179 res0) rfl
end Go.Proofs.Ytfoiojafilgolaa
